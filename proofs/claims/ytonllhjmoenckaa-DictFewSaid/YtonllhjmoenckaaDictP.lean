/- Walks: a dictionary's Put. -/
import Derived.Test.YtonllhjmoenckaaDictX
namespace Go.Proofs.Ytonllhjmoenckaa
open Go Go.RowKit
set_option linter.unusedVariables false
set_option linter.unusedSimpArgs false
variable {K : Nat → Obj → Prop}

/-- What is returned is told less well. -/
theorem Sp.wkR {P : Program} {f : FuncId} {vs : List V} {h : List Ho} {v v' : V} {h' : List Ho} (hs : Sp P K f vs h fun u hh => u = v ∧ hh = h') (hw : Wk [v] [v']) : Sp P K f vs h fun u hh => u = v' ∧ hh = h' :=
  fun F φ w args hK hi hd => (hs F φ w args hK hi hd).mono fun e w' ⟨u, φ', v0, h0, a, b, c, d, e1, e2⟩ => ⟨u, φ', v', h0, a, b, c, by subst e1; exact hw.one d, rfl, e2⟩

def Di.put (d : Di) (k : ByteArray) : (List UInt8 × Int) × Di :=
  if 64 < k.size then (([], 4), d) else if 0 ≤ d.at_ k then ((vput (d.at_ k + 1).toNat, 0), d) else ((vput 0 ++ vput k.size ++ k.toList, 0), d.comes k)
abbrev dpV (r : List UInt8 × Int) : V := .tup [.sl 1 (bs r.1), .sc (.int .i64 r.2)]
theorem size_toList (k : ByteArray) : k.toList.length = k.size := by rw [ByteArray.toList_eq]; simp

set_option maxRecDepth 100000 in
set_option maxHeartbeats 4000000 in
theorem dput_s (d : Di) (k : ByteArray) (hs : Sta d.c d.l) (h8 : d.ks.length ≤ 8) (he : d.e < 8) (ha : d.at_ k < 8) : Sp Try.prog K 35 [.ptr 0 0, .sc (.string k)] d.inn fun u hh => u = dpV (d.put k).1 ∧ hh = (d.put k).2.out := by
  by_cases h64 : 64 < k.size
  · have e : d.put k = (([], 4), d) := if_pos h64
    rw [e]
    refine Sp.wkR (v := .tup [.sc (.slice none 0 0), .sc (.int .i64 4)]) ?_ (.tup (.null (.same .nil)))
    refine Sp.of_bodyD Try.func35 rfl ?_
    intro Q hQ
    simp only [List.replicate, List.length_cons, List.length_nil, Try.ntmps35, Nat.reduceAdd, Nat.reduceSub, List.cons_append, List.nil_append, Di.inn] at hQ ⊢
    have hlen : ((64 : Int) < (k.size : Int)) = True := by simp; omega
    have hat : True := trivial
    have hw1 : True := trivial
    have hw2 : True := trivial
    have hw3 : True := trivial
    have hb1 : True := trivial
    have hb2 : True := trivial
    have hz : True := trivial
    have hy := yieldedV_eq
    repeat' (first
        | (refine WPV.seqK ?_; intro N hN)
        | refine WPV.block ?_
        | refine WPV.scope ?_
        | refine WPV.skip ?_
        | refine WPV.label ?_
        | refine WPV.exit ?_
        | refine WPV.ret ?_
        | (refine WPV.regionG (M := noM) ?_; intro N hN ops hy; (try simp only [List.append] at hy ⊢); (try simp only [List.map_cons, List.map_nil] at hy))
        | (refine WPV.drawK (M := noM) (by kernel_rfl) (by kernel_rfl) ?_; intro N hN; have hy := yieldedV_eq)
        | (refine WPV.condK ?_; intro A hA B hB)
        | ((with_reducible first | refine opsV.here ?_ | refine guardO.here ?_ | refine resO.here ?_ | refine drawV.here ?_ | refine guardD.here ?_ | refine stepO.here ?_ | refine brO.here ?_ | refine condV.here ?_); simp (config := {contextual := true, maxSteps := 1000000}) only [hy, hz, go_sem, reduceCtorEq, Nat.reduceAdd, Nat.reduceSub, Nat.reduceMul, Nat.reduceLT, Nat.reduceLeDiff, Int.reduceLT, Int.reduceLE, Int.reduceEq, Int.reduceNe, Int.reduceAdd, Int.reduceSub, Int.reduceMul, Int.reduceToNat, Int.reduceNeg, Int.reducePow, Nat.reducePow, Nat.reduceEqDiff, Nat.reduceBEq, Int.reduceBEq, Int.reduceBNe, Int.reduceNegSucc, hlen, hat, hw1, hw2, hw3, hb1, hb2])
        | (refine And.intro (by kernel_rfl : okOrd _ _ = true) ?_)
        | refine Both.mk ?_ ?_
        | ((with_reducible refine CallO.gd 43 ?_); refine CallO.frA [0, 1, 2] Try.call43 (dat_s d k) ?_)
        | ((with_reducible refine CallO.gd 81 ?_); refine CallO.frA [0, 1, 2] Try.call81 (dcomes_s d k hs h8 he) ?_)
        | ((with_reducible refine CallO.gd 80 ?_); first
          | refine CallO.toA Try.call80 (vput_s (m := d.at_ k + 1) (by omega) (by omega) _) ?_
          | refine CallO.toA Try.call80 (vput_s (m := (k.size : Int)) (by omega) (by omega) _) ?_
          | refine CallO.toA Try.call80 (vput_s (m := 0) (by omega) (by omega) _) ?_)
        | ((with_reducible refine CallO.gd 82 ?_); refine CallO.frA [] Try.call82 (vall2O_s (a := 0) (b := (k.size : Int)) ⟨by omega, by omega⟩ ⟨by omega, by omega⟩) ?_)
        | ((with_reducible refine CallP.gd 80 ?_); first
          | refine CallP.toA Try.call80 (vput_s (m := d.at_ k + 1) (by omega) (by omega) _) ?_
          | refine CallP.toA Try.call80 (vput_s (m := (k.size : Int)) (by omega) (by omega) _) ?_
          | refine CallP.toA Try.call80 (vput_s (m := 0) (by omega) (by omega) _) ?_)
        | (first | refine hN _ ?_ | (clear hN N; refine hN _ ?_) | (iterate 2 clear hN N); refine hN _ ?_ | (iterate 3 clear hN N); refine hN _ ?_ | (iterate 4 clear hN N); refine hN _ ?_ | (iterate 5 clear hN N); refine hN _ ?_); try clear hN N; try clear hy ops
        | (refine hA ?_; clear hA A hB B; try simp only [hz])
        | (refine hB ?_; clear hA A hB B; try simp only [hz])
        | ((first | refine guardO.mk (fun hz => ?_) (fun hz => ?_) | refine guardD.mk (fun hz => ?_) (fun hz => ?_) | refine Br.mk (fun hz => ?_) (fun hz => ?_)) <;> (have h := hz; try simp only [decide_eq_true_eq, decide_eq_false_iff_not, Int.not_lt, Int.not_le, beq_iff_eq, beq_eq_false_iff_ne, bne_iff_ne, bne_eq_false_iff_eq, ne_eq, Bool.not_eq_true', Bool.not_eq_false', Decidable.not_not] at h) <;> (try (exfalso; omega)) <;> (try simp only [Bool.not_eq_true', Bool.not_eq_false', beq_true, beq_false] at hz))
        | ((first | rw [if_pos (show _ ∧ _ from ⟨by omega, by omega⟩)] | rw [if_pos (show _ ∧ _ from by simp only [List.length_append, List.length_cons, List.length_nil]; exact ⟨by omega, by omega⟩)]); simp (config := {contextual := true, maxSteps := 1000000}) only [hy, hz, go_sem, reduceCtorEq, Nat.reduceAdd, Nat.reduceSub, Nat.reduceMul, Nat.reduceLT, Nat.reduceLeDiff, Int.reduceLT, Int.reduceLE, Int.reduceEq, Int.reduceNe, Int.reduceAdd, Int.reduceSub, Int.reduceMul, Int.reduceToNat, Int.reduceNeg, Int.reducePow, Nat.reducePow, Nat.reduceEqDiff, Nat.reduceBEq, Int.reduceBEq, Int.reduceBNe, Int.reduceNegSucc, hlen, hat, hw1, hw2, hw3, hb1, hb2])
        | (simp only [thenV, blockV, if_true, if_false, Nat.reduceEqDiff, reduceCtorEq, imp_self]))
    all_goals (first | exact retA hQ Try.results35 (Desc.re [some 0, none, none, some 1, some 2] rfl) | exact retN hQ Try.results35 (Desc.re [some 0, none, none, some 1, some 2] rfl))
  · by_cases h0 : 0 ≤ d.at_ k
    · have e : d.put k = ((vput (d.at_ k + 1).toNat, 0), d) := by unfold Di.put; rw [if_neg h64, if_pos h0]
      rw [e]
      refine Sp.of_bodyD Try.func35 rfl ?_
      intro Q hQ
      simp only [List.replicate, List.length_cons, List.length_nil, Try.ntmps35, Nat.reduceAdd, Nat.reduceSub, List.cons_append, List.nil_append, Di.inn] at hQ ⊢
      have hlen : ((64 : Int) < (k.size : Int)) = False := by simp; omega
      have hat : (0 ≤ d.at_ k) = True := by simp; exact h0
      have hw1 : True := trivial
      have hw2 : IntKind.u64.wrap (d.at_ k) = d.at_ k := wr_u64 (by omega) (by omega)
      have hw3 : IntKind.u64.wrap (d.at_ k + 1) = d.at_ k + 1 := wr_u64 (by omega) (by omega)
      have hb1 : True := trivial
      have hb2 : True := trivial
      have hz : True := trivial
      have hy := yieldedV_eq
      repeat' (first
          | (refine WPV.seqK ?_; intro N hN)
          | refine WPV.block ?_
          | refine WPV.scope ?_
          | refine WPV.skip ?_
          | refine WPV.label ?_
          | refine WPV.exit ?_
          | refine WPV.ret ?_
          | (refine WPV.regionG (M := noM) ?_; intro N hN ops hy; (try simp only [List.append] at hy ⊢); (try simp only [List.map_cons, List.map_nil] at hy))
          | (refine WPV.drawK (M := noM) (by kernel_rfl) (by kernel_rfl) ?_; intro N hN; have hy := yieldedV_eq)
          | (refine WPV.condK ?_; intro A hA B hB)
          | ((with_reducible first | refine opsV.here ?_ | refine guardO.here ?_ | refine resO.here ?_ | refine drawV.here ?_ | refine guardD.here ?_ | refine stepO.here ?_ | refine brO.here ?_ | refine condV.here ?_); simp (config := {contextual := true, maxSteps := 1000000}) only [hy, hz, go_sem, reduceCtorEq, Nat.reduceAdd, Nat.reduceSub, Nat.reduceMul, Nat.reduceLT, Nat.reduceLeDiff, Int.reduceLT, Int.reduceLE, Int.reduceEq, Int.reduceNe, Int.reduceAdd, Int.reduceSub, Int.reduceMul, Int.reduceToNat, Int.reduceNeg, Int.reducePow, Nat.reducePow, Nat.reduceEqDiff, Nat.reduceBEq, Int.reduceBEq, Int.reduceBNe, Int.reduceNegSucc, hlen, hat, hw1, hw2, hw3, hb1, hb2])
          | (refine And.intro (by kernel_rfl : okOrd _ _ = true) ?_)
          | refine Both.mk ?_ ?_
          | ((with_reducible refine CallO.gd 43 ?_); refine CallO.frA [0, 1, 2] Try.call43 (dat_s d k) ?_)
          | ((with_reducible refine CallO.gd 81 ?_); refine CallO.frA [0, 1, 2] Try.call81 (dcomes_s d k hs h8 he) ?_)
          | ((with_reducible refine CallO.gd 80 ?_); first
            | refine CallO.toA Try.call80 (vput_s (m := d.at_ k + 1) (by omega) (by omega) _) ?_
            | refine CallO.toA Try.call80 (vput_s (m := (k.size : Int)) (by omega) (by omega) _) ?_
            | refine CallO.toA Try.call80 (vput_s (m := 0) (by omega) (by omega) _) ?_)
          | ((with_reducible refine CallO.gd 82 ?_); refine CallO.frA [] Try.call82 (vall2O_s (a := 0) (b := (k.size : Int)) ⟨by omega, by omega⟩ ⟨by omega, by omega⟩) ?_)
          | ((with_reducible refine CallP.gd 80 ?_); first
            | refine CallP.toA Try.call80 (vput_s (m := d.at_ k + 1) (by omega) (by omega) _) ?_
            | refine CallP.toA Try.call80 (vput_s (m := (k.size : Int)) (by omega) (by omega) _) ?_
            | refine CallP.toA Try.call80 (vput_s (m := 0) (by omega) (by omega) _) ?_)
          | (first | refine hN _ ?_ | (clear hN N; refine hN _ ?_) | (iterate 2 clear hN N); refine hN _ ?_ | (iterate 3 clear hN N); refine hN _ ?_ | (iterate 4 clear hN N); refine hN _ ?_ | (iterate 5 clear hN N); refine hN _ ?_); try clear hN N; try clear hy ops
          | (refine hA ?_; clear hA A hB B; try simp only [hz])
          | (refine hB ?_; clear hA A hB B; try simp only [hz])
          | ((first | refine guardO.mk (fun hz => ?_) (fun hz => ?_) | refine guardD.mk (fun hz => ?_) (fun hz => ?_) | refine Br.mk (fun hz => ?_) (fun hz => ?_)) <;> (have h := hz; try simp only [decide_eq_true_eq, decide_eq_false_iff_not, Int.not_lt, Int.not_le, beq_iff_eq, beq_eq_false_iff_ne, bne_iff_ne, bne_eq_false_iff_eq, ne_eq, Bool.not_eq_true', Bool.not_eq_false', Decidable.not_not] at h) <;> (try (exfalso; omega)) <;> (try simp only [Bool.not_eq_true', Bool.not_eq_false', beq_true, beq_false] at hz))
          | ((first | rw [if_pos (show _ ∧ _ from ⟨by omega, by omega⟩)] | rw [if_pos (show _ ∧ _ from by simp only [List.length_append, List.length_cons, List.length_nil]; exact ⟨by omega, by omega⟩)]); simp (config := {contextual := true, maxSteps := 1000000}) only [hy, hz, go_sem, reduceCtorEq, Nat.reduceAdd, Nat.reduceSub, Nat.reduceMul, Nat.reduceLT, Nat.reduceLeDiff, Int.reduceLT, Int.reduceLE, Int.reduceEq, Int.reduceNe, Int.reduceAdd, Int.reduceSub, Int.reduceMul, Int.reduceToNat, Int.reduceNeg, Int.reducePow, Nat.reducePow, Nat.reduceEqDiff, Nat.reduceBEq, Int.reduceBEq, Int.reduceBNe, Int.reduceNegSucc, hlen, hat, hw1, hw2, hw3, hb1, hb2])
          | (simp only [thenV, blockV, if_true, if_false, Nat.reduceEqDiff, reduceCtorEq, imp_self]))
      all_goals (first | exact retA hQ Try.results35 (Desc.re [some 0, none, none, some 1, some 2] rfl) | exact retN hQ Try.results35 (Desc.re [some 0, none, none, some 1, some 2] rfl))
    · have e : d.put k = ((vput 0 ++ vput k.size ++ k.toList, 0), d.comes k) := by unfold Di.put; rw [if_neg h64, if_neg h0]
      rw [e]
      refine Sp.of_bodyD Try.func35 rfl ?_
      intro Q hQ
      simp only [List.replicate, List.length_cons, List.length_nil, Try.ntmps35, Nat.reduceAdd, Nat.reduceSub, List.cons_append, List.nil_append, Di.inn] at hQ ⊢
      have hlen : ((64 : Int) < (k.size : Int)) = False := by simp; omega
      have hat : (0 ≤ d.at_ k) = False := by simp; omega
      have hw1 : IntKind.u64.wrap (k.size : Int) = (k.size : Int) := wr_u64 (by omega) (by omega)
      have hw2 : True := trivial
      have hw3 : True := trivial
      have hl1 := vput_len (n := k.size) (by omega)
      have hl2 := vput_len (n := 0) (by omega)
      have hl3 := size_toList k
      have hb1 : True := trivial
      have hb2 : True := trivial
      have hz : True := trivial
      have hy := yieldedV_eq
      repeat' (first
          | (refine WPV.seqK ?_; intro N hN)
          | refine WPV.block ?_
          | refine WPV.scope ?_
          | refine WPV.skip ?_
          | refine WPV.label ?_
          | refine WPV.exit ?_
          | refine WPV.ret ?_
          | (refine WPV.regionG (M := noM) ?_; intro N hN ops hy; (try simp only [List.append] at hy ⊢); (try simp only [List.map_cons, List.map_nil] at hy))
          | (refine WPV.drawK (M := noM) (by kernel_rfl) (by kernel_rfl) ?_; intro N hN; have hy := yieldedV_eq)
          | (refine WPV.condK ?_; intro A hA B hB)
          | ((with_reducible first | refine opsV.here ?_ | refine guardO.here ?_ | refine resO.here ?_ | refine drawV.here ?_ | refine guardD.here ?_ | refine stepO.here ?_ | refine brO.here ?_ | refine condV.here ?_); simp (config := {contextual := true, maxSteps := 1000000}) only [hy, hz, go_sem, reduceCtorEq, Nat.reduceAdd, Nat.reduceSub, Nat.reduceMul, Nat.reduceLT, Nat.reduceLeDiff, Int.reduceLT, Int.reduceLE, Int.reduceEq, Int.reduceNe, Int.reduceAdd, Int.reduceSub, Int.reduceMul, Int.reduceToNat, Int.reduceNeg, Int.reducePow, Nat.reducePow, Nat.reduceEqDiff, Nat.reduceBEq, Int.reduceBEq, Int.reduceBNe, Int.reduceNegSucc, hlen, hat, hw1, hw2, hw3, hb1, hb2])
          | (refine And.intro (by kernel_rfl : okOrd _ _ = true) ?_)
          | refine Both.mk ?_ ?_
          | ((with_reducible refine CallO.gd 43 ?_); refine CallO.frA [0, 1, 2] Try.call43 (dat_s d k) ?_)
          | ((with_reducible refine CallO.gd 81 ?_); refine CallO.frA [0, 1, 2] Try.call81 (dcomes_s d k hs h8 he) ?_)
          | ((with_reducible refine CallO.gd 80 ?_); first
            | refine CallO.toA Try.call80 (vput_s (m := d.at_ k + 1) (by omega) (by omega) _) ?_
            | refine CallO.toA Try.call80 (vput_s (m := (k.size : Int)) (by omega) (by omega) _) ?_
            | refine CallO.toA Try.call80 (vput_s (m := 0) (by omega) (by omega) _) ?_)
          | ((with_reducible refine CallO.gd 82 ?_); refine CallO.frA [] Try.call82 (vall2O_s (a := 0) (b := (k.size : Int)) ⟨by omega, by omega⟩ ⟨by omega, by omega⟩) ?_)
          | ((with_reducible refine CallP.gd 80 ?_); first
            | refine CallP.toA Try.call80 (vput_s (m := d.at_ k + 1) (by omega) (by omega) _) ?_
            | refine CallP.toA Try.call80 (vput_s (m := (k.size : Int)) (by omega) (by omega) _) ?_
            | refine CallP.toA Try.call80 (vput_s (m := 0) (by omega) (by omega) _) ?_)
          | (first | refine hN _ ?_ | (clear hN N; refine hN _ ?_) | (iterate 2 clear hN N); refine hN _ ?_ | (iterate 3 clear hN N); refine hN _ ?_ | (iterate 4 clear hN N); refine hN _ ?_ | (iterate 5 clear hN N); refine hN _ ?_); try clear hN N; try clear hy ops
          | (refine hA ?_; clear hA A hB B; try simp only [hz])
          | (refine hB ?_; clear hA A hB B; try simp only [hz])
          | ((first | refine guardO.mk (fun hz => ?_) (fun hz => ?_) | refine guardD.mk (fun hz => ?_) (fun hz => ?_) | refine Br.mk (fun hz => ?_) (fun hz => ?_)) <;> (have h := hz; try simp only [decide_eq_true_eq, decide_eq_false_iff_not, Int.not_lt, Int.not_le, beq_iff_eq, beq_eq_false_iff_ne, bne_iff_ne, bne_eq_false_iff_eq, ne_eq, Bool.not_eq_true', Bool.not_eq_false', Decidable.not_not] at h) <;> (try (exfalso; omega)) <;> (try simp only [Bool.not_eq_true', Bool.not_eq_false', beq_true, beq_false] at hz))
          | ((first | rw [if_pos (show _ ∧ _ from ⟨by omega, by omega⟩)] | rw [if_pos (show _ ∧ _ from by simp only [List.length_append, List.length_cons, List.length_nil]; exact ⟨by omega, by omega⟩)]); simp (config := {contextual := true, maxSteps := 1000000}) only [hy, hz, go_sem, reduceCtorEq, Nat.reduceAdd, Nat.reduceSub, Nat.reduceMul, Nat.reduceLT, Nat.reduceLeDiff, Int.reduceLT, Int.reduceLE, Int.reduceEq, Int.reduceNe, Int.reduceAdd, Int.reduceSub, Int.reduceMul, Int.reduceToNat, Int.reduceNeg, Int.reducePow, Nat.reducePow, Nat.reduceEqDiff, Nat.reduceBEq, Int.reduceBEq, Int.reduceBNe, Int.reduceNegSucc, hlen, hat, hw1, hw2, hw3, hb1, hb2])
          | (simp only [thenV, blockV, if_true, if_false, Nat.reduceEqDiff, reduceCtorEq, imp_self]))
      all_goals (first | exact retA hQ Try.results35 (Desc.re [some 0, none, none, some 3, some 4] rfl) | exact retN hQ Try.results35 (Desc.re [some 0, none, none, some 3, some 4] rfl))
end Go.Proofs.Ytonllhjmoenckaa
