/- Walks: the program's frames. -/
import Derived.Test.YtonllhjmoenckaaDoorFrmF
namespace Go.Proofs.YtonllhjmoenckaaDoor
section
open Go Go.RowKit
set_option linter.unusedVariables false
set_option linter.unusedSimpArgs false
variable {K : Nat → Obj → Prop}

/-! Size -/
set_option maxRecDepth 100000 in
theorem fsize_s (p : List UInt8) (hl : p.length ≤ 1000000000) (h : List Ho) : Sp Tryd.prog K 21 [.sl 1 (bs p)] h fun u hh => u = .sc (.int .i64 (((vput p.length).length + p.length + 4 : Nat) : Int)) ∧ hh = h := by
  refine Sp.pure_ (R := fun u hh => u = .sc (.int .i64 (((vput p.length).length + p.length + 4 : Nat) : Int)) ∧ hh = []) ?_ (fun _ => rfl) (fun _ => rfl) (fun v h ⟨e, _⟩ => by rw [e]; exact Wk.refl) h
  have z0 : (0 : Int) ≤ (p.length : Int) := by omega
  have z1 : (p.length : Int) < 18446744073709551616 := by omega
  have hv := vput_len (n := p.length) (by omega)
  have q0 : IntKind.u64.wrap (p.length : Int) = (p.length : Int) := wr_u64 (by omega) (by omega)
  have q1 : IntKind.i64.wrap (((vput p.length).length : Int) + (p.length : Int)) = (((vput p.length).length + p.length : Nat) : Int) := by rw [wr_i64 (by omega) (by omega)]; rfl
  have q2 : IntKind.i64.wrap ((((vput p.length).length + p.length : Nat) : Int) + 4) = (((vput p.length).length + p.length + 4 : Nat) : Int) := by rw [wr_i64 (by omega) (by omega)]; rfl
  refine Sp.of_bodyD Tryd.func21 rfl ?_
  intro Q hQ
  simp only [List.replicate, List.length_cons, List.length_nil, Tryd.ntmps21, Nat.reduceAdd, Nat.reduceSub, List.cons_append, List.nil_append, go_sem]
  have hz : True := trivial
  have hy := yieldedV_eq
  repeat' (first
      | (refine WPV.seqK ?_; intro N hN)
      | refine WPV.block ?_
      | refine WPV.scope ?_
      | refine WPV.skip ?_
      | refine WPV.label ?_
      | refine WPV.exit ?_
      | refine WPV.ret ?_
      | (refine WPV.regionG (M := noM) ?_; intro N hN ops hy; (try simp only [List.append] at hy ⊢); (try simp only [List.map_cons, List.map_nil] at hy))
      | (refine WPV.drawK (M := noM) (by kernel_rfl) (by kernel_rfl) ?_; intro N hN; have hy := yieldedV_eq)
      | (refine WPV.condK ?_; intro A hA B hB)
      | ((with_reducible first | refine opsV.here ?_ | refine guardO.here ?_ | refine resO.here ?_ | refine drawV.here ?_ | refine guardD.here ?_ | refine stepO.here ?_ | refine brO.here ?_ | refine condV.here ?_); simp (config := {contextual := true, maxSteps := 1000000}) only [hy, hz, go_sem, reduceCtorEq, Nat.reduceAdd, Nat.reduceSub, Nat.reduceMul, Nat.reduceLT, Nat.reduceLeDiff, Int.reduceLT, Int.reduceLE, Int.reduceEq, Int.reduceNe, Int.reduceAdd, Int.reduceSub, Int.reduceMul, Int.reduceToNat, Int.reduceNeg, Int.reducePow, Nat.reducePow, Nat.reduceEqDiff, Nat.reduceBEq, Int.reduceBEq, Int.reduceBNe, Int.reduceNegSucc, q0, q1, q2])
      | (refine And.intro (by kernel_rfl : okOrd _ _ = true) ?_)
      | refine Both.mk ?_ ?_
      | ((with_reducible refine CallO.gd 44 ?_); refine CallO.toA Tryd.call44 (vsize_s z0 z1 _) ?_)
      | ((with_reducible refine CallP.gd 44 ?_); refine CallP.toA Tryd.call44 (vsize_s z0 z1 _) ?_)
      | (first | refine hN _ ?_ | (clear hN N; refine hN _ ?_) | (iterate 2 clear hN N); refine hN _ ?_ | (iterate 3 clear hN N); refine hN _ ?_ | (iterate 4 clear hN N); refine hN _ ?_ | (iterate 5 clear hN N); refine hN _ ?_); try clear hN N; try clear hy ops
      | (refine hA ?_; clear hA A hB B; try simp only [hz])
      | (refine hB ?_; clear hA A hB B; try simp only [hz])
      | ((first | refine guardO.mk (fun hz => ?_) (fun hz => ?_) | refine guardD.mk (fun hz => ?_) (fun hz => ?_) | refine Br.mk (fun hz => ?_) (fun hz => ?_)) <;> (have h := hz; try simp only [decide_eq_true_eq, decide_eq_false_iff_not, Int.not_lt, Int.not_le, beq_iff_eq, beq_eq_false_iff_ne, bne_iff_ne, bne_eq_false_iff_eq, ne_eq, Bool.not_eq_true', Bool.not_eq_false', Decidable.not_not] at h) <;> (try (exfalso; omega)) <;> (try simp only [Bool.not_eq_true', Bool.not_eq_false', beq_true, beq_false] at hz))
      | ((first | rw [if_pos (show _ ∧ _ from ⟨by omega, by omega⟩)] | rw [if_pos (show _ ∧ _ from by simp only [List.length_append, List.length_cons, List.length_nil]; exact ⟨by omega, by omega⟩)]); simp (config := {contextual := true, maxSteps := 1000000}) only [hy, hz, go_sem, reduceCtorEq, Nat.reduceAdd, Nat.reduceSub, Nat.reduceMul, Nat.reduceLT, Nat.reduceLeDiff, Int.reduceLT, Int.reduceLE, Int.reduceEq, Int.reduceNe, Int.reduceAdd, Int.reduceSub, Int.reduceMul, Int.reduceToNat, Int.reduceNeg, Int.reducePow, Nat.reducePow, Nat.reduceEqDiff, Nat.reduceBEq, Int.reduceBEq, Int.reduceBNe, Int.reduceNegSucc, q0, q1, q2])
      | (simp only [thenV, blockV, if_true, if_false, Nat.reduceEqDiff, reduceCtorEq, imp_self]))
  all_goals (first | exact retA hQ Tryd.results21 (Desc.re [] rfl) | exact retN hQ Tryd.results21 (Desc.re [] rfl))

/-! Wrap -/
abbrev byV (r : List UInt8 × Int) : V := .tup [.sl 1 (bs r.1), .sc (.int .i64 r.2)]
set_option maxRecDepth 100000 in
theorem wrap_s (hK : KT K) (p : List UInt8) (hl : p.length ≤ 100000000) (h : List Ho) : Sp Tryd.prog K 11 [.sl 1 (bs p)] h fun u hh => u = byV (wrapF p) ∧ hh = h := by
  refine Sp.pure_ (R := fun u hh => Wk [u] [byV (wrapF p)]) ?_ (fun _ => rfl) (fun _ => rfl) (fun v h e => e) h
  have z0 : (0 : Int) ≤ (p.length : Int) := by omega
  have z1 : (p.length : Int) < 18446744073709551616 := by omega
  have hv := vput_len (n := p.length) (by omega)
  have q0 : IntKind.u64.wrap (p.length : Int) = (p.length : Int) := wr_u64 (by omega) (by omega)
  have hs : (vput p.length ++ p).length ≤ 1000000000 := by simp; omega
  unfold wrapF
  by_cases h8 : 8192 < p.length
  · have q1 : ((8192 : Int) < (p.length : Int)) = True := eq_true (by omega)
    rw [if_pos h8]
    refine Sp.of_bodyD Tryd.func11 rfl ?_
    intro Q hQ
    simp only [List.replicate, List.length_cons, List.length_nil, Tryd.ntmps11, Nat.reduceAdd, Nat.reduceSub, List.cons_append, List.nil_append, go_sem]
    have hz : True := trivial
    have hy := yieldedV_eq
    repeat' (first
        | (refine WPV.seqK ?_; intro N hN)
        | refine WPV.block ?_
        | refine WPV.scope ?_
        | refine WPV.skip ?_
        | refine WPV.label ?_
        | refine WPV.exit ?_
        | refine WPV.ret ?_
        | (refine WPV.regionG (M := noM) ?_; intro N hN ops hy; (try simp only [List.append] at hy ⊢); (try simp only [List.map_cons, List.map_nil] at hy))
        | (refine WPV.drawK (M := noM) (by kernel_rfl) (by kernel_rfl) ?_; intro N hN; have hy := yieldedV_eq)
        | (refine WPV.condK ?_; intro A hA B hB)
        | ((with_reducible first | refine opsV.here ?_ | refine guardO.here ?_ | refine resO.here ?_ | refine drawV.here ?_ | refine guardD.here ?_ | refine stepO.here ?_ | refine brO.here ?_ | refine condV.here ?_); simp (config := {contextual := true, maxSteps := 1000000}) only [hy, hz, go_sem, reduceCtorEq, Nat.reduceAdd, Nat.reduceSub, Nat.reduceMul, Nat.reduceLT, Nat.reduceLeDiff, Int.reduceLT, Int.reduceLE, Int.reduceEq, Int.reduceNe, Int.reduceAdd, Int.reduceSub, Int.reduceMul, Int.reduceToNat, Int.reduceNeg, Int.reducePow, Nat.reducePow, Nat.reduceEqDiff, Nat.reduceBEq, Int.reduceBEq, Int.reduceBNe, Int.reduceNegSucc, q0, q1, bs_nil])
        | (refine And.intro (by kernel_rfl : okOrd _ _ = true) ?_)
        | refine Both.mk ?_ ?_
        | ((with_reducible refine CallO.gd 37 ?_); refine CallO.frA [] Tryd.call37 (vputO_s z0 z1) ?_)
        | ((with_reducible refine CallO.gd 36 ?_); refine CallO.toA Tryd.call36 (seal_s hK (vput p.length ++ p) hs _) ?_)
        | ((with_reducible refine CallP.gd 36 ?_); refine CallP.toA Tryd.call36 (seal_s hK (vput p.length ++ p) hs _) ?_)
        | (first | refine hN _ ?_ | (clear hN N; refine hN _ ?_) | (iterate 2 clear hN N); refine hN _ ?_ | (iterate 3 clear hN N); refine hN _ ?_ | (iterate 4 clear hN N); refine hN _ ?_ | (iterate 5 clear hN N); refine hN _ ?_); try clear hN N; try clear hy ops
        | (refine hA ?_; clear hA A hB B; try simp only [hz])
        | (refine hB ?_; clear hA A hB B; try simp only [hz])
        | ((first | refine guardO.mk (fun hz => ?_) (fun hz => ?_) | refine guardD.mk (fun hz => ?_) (fun hz => ?_) | refine Br.mk (fun hz => ?_) (fun hz => ?_)) <;> (have h := hz; try simp only [decide_eq_true_eq, decide_eq_false_iff_not, Int.not_lt, Int.not_le, beq_iff_eq, beq_eq_false_iff_ne, bne_iff_ne, bne_eq_false_iff_eq, ne_eq, Bool.not_eq_true', Bool.not_eq_false', Decidable.not_not] at h) <;> (try (exfalso; omega)) <;> (try simp only [Bool.not_eq_true', Bool.not_eq_false', beq_true, beq_false] at hz))
        | ((first | rw [if_pos (show _ ∧ _ from ⟨by omega, by omega⟩)] | rw [if_pos (show _ ∧ _ from by simp only [List.length_append, List.length_cons, List.length_nil]; exact ⟨by omega, by omega⟩)]); simp (config := {contextual := true, maxSteps := 1000000}) only [hy, hz, go_sem, reduceCtorEq, Nat.reduceAdd, Nat.reduceSub, Nat.reduceMul, Nat.reduceLT, Nat.reduceLeDiff, Int.reduceLT, Int.reduceLE, Int.reduceEq, Int.reduceNe, Int.reduceAdd, Int.reduceSub, Int.reduceMul, Int.reduceToNat, Int.reduceNeg, Int.reducePow, Nat.reducePow, Nat.reduceEqDiff, Nat.reduceBEq, Int.reduceBEq, Int.reduceBNe, Int.reduceNegSucc, q0, q1, bs_nil])
        | (simp only [thenV, blockV, if_true, if_false, Nat.reduceEqDiff, reduceCtorEq, imp_self]))
    all_goals (apply And.right; refine hQ _ _ _ Desc.refl ?_ (Wk.tupC (Wk.null Wk.refl) Wk.nil))
    · (first | (simp only [go_sem, reduceCtorEq, Nat.reduceAdd, Nat.reduceSub, Nat.reduceMul, Nat.reduceLT, Nat.reduceLeDiff, Int.reduceLT, Int.reduceLE, Int.reduceEq, Int.reduceNe, Int.reduceAdd, Int.reduceSub, Int.reduceMul, Int.reduceToNat, Int.reduceNeg, Int.reducePow, Nat.reducePow, Nat.reduceEqDiff, Nat.reduceBEq, Int.reduceBEq, Int.reduceBNe, Int.reduceNegSucc, Tryd.results11]; done) | (simp only [go_sem, reduceCtorEq, Nat.reduceAdd, Nat.reduceSub, Nat.reduceMul, Nat.reduceLT, Nat.reduceLeDiff, Int.reduceLT, Int.reduceLE, Int.reduceEq, Int.reduceNe, Int.reduceAdd, Int.reduceSub, Int.reduceMul, Int.reduceToNat, Int.reduceNeg, Int.reducePow, Nat.reducePow, Nat.reduceEqDiff, Nat.reduceBEq, Int.reduceBEq, Int.reduceBNe, Int.reduceNegSucc, Tryd.results11]; rfl) | rfl)
  · have q1 : ((8192 : Int) < (p.length : Int)) = False := eq_false (by omega)
    rw [if_neg h8]
    refine Sp.of_bodyD Tryd.func11 rfl ?_
    intro Q hQ
    simp only [List.replicate, List.length_cons, List.length_nil, Tryd.ntmps11, Nat.reduceAdd, Nat.reduceSub, List.cons_append, List.nil_append, go_sem]
    have hz : True := trivial
    have hy := yieldedV_eq
    repeat' (first
        | (refine WPV.seqK ?_; intro N hN)
        | refine WPV.block ?_
        | refine WPV.scope ?_
        | refine WPV.skip ?_
        | refine WPV.label ?_
        | refine WPV.exit ?_
        | refine WPV.ret ?_
        | (refine WPV.regionG (M := noM) ?_; intro N hN ops hy; (try simp only [List.append] at hy ⊢); (try simp only [List.map_cons, List.map_nil] at hy))
        | (refine WPV.drawK (M := noM) (by kernel_rfl) (by kernel_rfl) ?_; intro N hN; have hy := yieldedV_eq)
        | (refine WPV.condK ?_; intro A hA B hB)
        | ((with_reducible first | refine opsV.here ?_ | refine guardO.here ?_ | refine resO.here ?_ | refine drawV.here ?_ | refine guardD.here ?_ | refine stepO.here ?_ | refine brO.here ?_ | refine condV.here ?_); simp (config := {contextual := true, maxSteps := 1000000}) only [hy, hz, go_sem, reduceCtorEq, Nat.reduceAdd, Nat.reduceSub, Nat.reduceMul, Nat.reduceLT, Nat.reduceLeDiff, Int.reduceLT, Int.reduceLE, Int.reduceEq, Int.reduceNe, Int.reduceAdd, Int.reduceSub, Int.reduceMul, Int.reduceToNat, Int.reduceNeg, Int.reducePow, Nat.reducePow, Nat.reduceEqDiff, Nat.reduceBEq, Int.reduceBEq, Int.reduceBNe, Int.reduceNegSucc, q0, q1, bs_nil])
        | (refine And.intro (by kernel_rfl : okOrd _ _ = true) ?_)
        | refine Both.mk ?_ ?_
        | ((with_reducible refine CallO.gd 37 ?_); refine CallO.frA [] Tryd.call37 (vputO_s z0 z1) ?_)
        | ((with_reducible refine CallO.gd 36 ?_); refine CallO.toA Tryd.call36 (seal_s hK (vput p.length ++ p) hs _) ?_)
        | ((with_reducible refine CallP.gd 36 ?_); refine CallP.toA Tryd.call36 (seal_s hK (vput p.length ++ p) hs _) ?_)
        | (first | refine hN _ ?_ | (clear hN N; refine hN _ ?_) | (iterate 2 clear hN N); refine hN _ ?_ | (iterate 3 clear hN N); refine hN _ ?_ | (iterate 4 clear hN N); refine hN _ ?_ | (iterate 5 clear hN N); refine hN _ ?_); try clear hN N; try clear hy ops
        | (refine hA ?_; clear hA A hB B; try simp only [hz])
        | (refine hB ?_; clear hA A hB B; try simp only [hz])
        | ((first | refine guardO.mk (fun hz => ?_) (fun hz => ?_) | refine guardD.mk (fun hz => ?_) (fun hz => ?_) | refine Br.mk (fun hz => ?_) (fun hz => ?_)) <;> (have h := hz; try simp only [decide_eq_true_eq, decide_eq_false_iff_not, Int.not_lt, Int.not_le, beq_iff_eq, beq_eq_false_iff_ne, bne_iff_ne, bne_eq_false_iff_eq, ne_eq, Bool.not_eq_true', Bool.not_eq_false', Decidable.not_not] at h) <;> (try (exfalso; omega)) <;> (try simp only [Bool.not_eq_true', Bool.not_eq_false', beq_true, beq_false] at hz))
        | ((first | rw [if_pos (show _ ∧ _ from ⟨by omega, by omega⟩)] | rw [if_pos (show _ ∧ _ from by simp only [List.length_append, List.length_cons, List.length_nil]; exact ⟨by omega, by omega⟩)]); simp (config := {contextual := true, maxSteps := 1000000}) only [hy, hz, go_sem, reduceCtorEq, Nat.reduceAdd, Nat.reduceSub, Nat.reduceMul, Nat.reduceLT, Nat.reduceLeDiff, Int.reduceLT, Int.reduceLE, Int.reduceEq, Int.reduceNe, Int.reduceAdd, Int.reduceSub, Int.reduceMul, Int.reduceToNat, Int.reduceNeg, Int.reducePow, Nat.reducePow, Nat.reduceEqDiff, Nat.reduceBEq, Int.reduceBEq, Int.reduceBNe, Int.reduceNegSucc, q0, q1, bs_nil])
        | (simp only [thenV, blockV, if_true, if_false, Nat.reduceEqDiff, reduceCtorEq, imp_self]))
    all_goals (apply And.right; refine hQ _ _ _ Desc.refl ?_ (Wk.refl))
    · (first | (simp only [go_sem, reduceCtorEq, Nat.reduceAdd, Nat.reduceSub, Nat.reduceMul, Nat.reduceLT, Nat.reduceLeDiff, Int.reduceLT, Int.reduceLE, Int.reduceEq, Int.reduceNe, Int.reduceAdd, Int.reduceSub, Int.reduceMul, Int.reduceToNat, Int.reduceNeg, Int.reducePow, Nat.reducePow, Nat.reduceEqDiff, Nat.reduceBEq, Int.reduceBEq, Int.reduceBNe, Int.reduceNegSucc, Tryd.results11]; done) | (simp only [go_sem, reduceCtorEq, Nat.reduceAdd, Nat.reduceSub, Nat.reduceMul, Nat.reduceLT, Nat.reduceLeDiff, Int.reduceLT, Int.reduceLE, Int.reduceEq, Int.reduceNe, Int.reduceAdd, Int.reduceSub, Int.reduceMul, Int.reduceToNat, Int.reduceNeg, Int.reducePow, Nat.reducePow, Nat.reduceEqDiff, Nat.reduceBEq, Int.reduceBEq, Int.reduceBNe, Int.reduceNegSucc, Tryd.results11]; rfl) | rfl)

/-! Next -/
abbrev nxV (r : List UInt8 × Nat × Int) : V := .tup [.sl 1 (bs r.1), .sc (.int .i64 (r.2.1 : Int)), .sc (.int .i64 r.2.2)]
theorem nx0_wk (e : Int) : Wk [.tup [.sc (.slice none 0 0), .sc (.int .i64 0), .sc (.int .i64 e)]] [nxV ([], 0, e)] := Wk.tupC (Wk.null Wk.refl) Wk.nil
set_option maxRecDepth 100000 in
set_option maxHeartbeats 1000000 in
theorem next_s (hK : KT K) (b : List UInt8) (hl : b.length ≤ 1000000000) (h : List Ho) : Sp Tryd.prog K 13 [.sl 1 (bs b)] h fun u hh => u = nxV (nextF b) ∧ hh = h := by
  refine Sp.pure_ (R := fun u hh => Wk [u] [nxV (nextF b)]) ?_ (fun _ => rfl) (fun _ => rfl) (fun v h e => e) h
  obtain ⟨n, u, e, ht⟩ : ∃ n u e, tk b = (n, u, e) := ⟨_, _, _, rfl⟩
  have q1 : True := trivial
  have q2 : True := trivial
  have q3 : True := trivial
  have q4 : True := trivial
  have q5 : True := trivial
  have q6 : True := trivial
  have q7 : True := trivial
  have q8 : True := trivial
  have q9 : True := trivial
  have ho : Sp Tryd.prog K 40 [.sl 1 (bs [])] [] fun u hh => u = .tup [.sl 1 (bs (openF []).1), .sc (.int .i64 (openF []).2)] ∧ hh = [] := open_s hK [] (by simp) []
  have q : List UInt8 := []
  have hq : True := trivial
  unfold nextF
  rw [ht]
  dsimp only
  by_cases he : e ≠ 0
  · have q0 : (e != 0) = true := by simpa using he
    rw [if_pos he]
    refine Sp.of_bodyD Tryd.func13 rfl ?_
    intro Q hQ
    simp only [List.replicate, List.length_cons, List.length_nil, Tryd.ntmps13, Nat.reduceAdd, Nat.reduceSub, List.cons_append, List.nil_append, go_sem]
    have hz : True := trivial
    have hy := yieldedV_eq
    repeat' (first
        | (refine WPV.seqK ?_; intro N hN)
        | refine WPV.block ?_
        | refine WPV.scope ?_
        | refine WPV.skip ?_
        | refine WPV.label ?_
        | refine WPV.exit ?_
        | refine WPV.ret ?_
        | (refine WPV.regionG (M := noM) ?_; intro N hN ops hy; (try simp only [List.append] at hy ⊢); (try simp only [List.map_cons, List.map_nil] at hy))
        | (refine WPV.drawK (M := noM) (by kernel_rfl) (by kernel_rfl) ?_; intro N hN; have hy := yieldedV_eq)
        | (refine WPV.condK ?_; intro A hA B hB)
        | ((with_reducible first | refine opsV.here ?_ | refine guardO.here ?_ | refine resO.here ?_ | refine drawV.here ?_ | refine guardD.here ?_ | refine stepO.here ?_ | refine brO.here ?_ | refine condV.here ?_); simp (config := {contextual := true, maxSteps := 1000000}) only [hy, hz, go_sem, reduceCtorEq, Nat.reduceAdd, Nat.reduceSub, Nat.reduceMul, Nat.reduceLT, Nat.reduceLeDiff, Int.reduceLT, Int.reduceLE, Int.reduceEq, Int.reduceNe, Int.reduceAdd, Int.reduceSub, Int.reduceMul, Int.reduceToNat, Int.reduceNeg, Int.reducePow, Nat.reducePow, Nat.reduceEqDiff, Nat.reduceBEq, Int.reduceBEq, Int.reduceBNe, Int.reduceNegSucc, q0, q1, q2, q3, q4, q5, q6, q7, q8, q9])
        | (refine And.intro (by kernel_rfl : okOrd _ _ = true) ?_)
        | refine Both.mk ?_ ?_
        | ((with_reducible refine CallO.gd 39 ?_); refine CallO.toA Tryd.call39 (vtake_s ht hl _) ?_)
        | ((with_reducible refine CallO.gd 40 ?_); refine CallO.toA Tryd.call40 (ho) ?_)
        | ((with_reducible refine CallO.gd 41 ?_); refine CallO.toA Tryd.call41 (bclone_s (q.drop u) hq _) ?_)
        | ((with_reducible refine CallP.gd 39 ?_); refine CallP.toA Tryd.call39 (vtake_s ht hl _) ?_)
        | ((with_reducible refine CallP.gd 40 ?_); refine CallP.toA Tryd.call40 (ho) ?_)
        | ((with_reducible refine CallP.gd 41 ?_); refine CallP.toA Tryd.call41 (bclone_s (q.drop u) hq _) ?_)
        | (first | refine hN _ ?_ | (clear hN N; refine hN _ ?_) | (iterate 2 clear hN N); refine hN _ ?_ | (iterate 3 clear hN N); refine hN _ ?_ | (iterate 4 clear hN N); refine hN _ ?_ | (iterate 5 clear hN N); refine hN _ ?_); try clear hN N; try clear hy ops
        | (refine hA ?_; clear hA A hB B; try simp only [hz])
        | (refine hB ?_; clear hA A hB B; try simp only [hz])
        | ((first | refine guardO.mk (fun hz => ?_) (fun hz => ?_) | refine guardD.mk (fun hz => ?_) (fun hz => ?_) | refine Br.mk (fun hz => ?_) (fun hz => ?_)) <;> (have h := hz; try simp only [decide_eq_true_eq, decide_eq_false_iff_not, Int.not_lt, Int.not_le, beq_iff_eq, beq_eq_false_iff_ne, bne_iff_ne, bne_eq_false_iff_eq, ne_eq, Bool.not_eq_true', Bool.not_eq_false', Decidable.not_not] at h) <;> (try (exfalso; omega)) <;> (try simp only [Bool.not_eq_true', Bool.not_eq_false', beq_true, beq_false] at hz))
        | ((first | rw [if_pos (show _ ∧ _ from ⟨by omega, by omega⟩)] | rw [if_pos (show _ ∧ _ from by simp only [List.length_append, List.length_cons, List.length_nil]; exact ⟨by omega, by omega⟩)]); simp (config := {contextual := true, maxSteps := 1000000}) only [hy, hz, go_sem, reduceCtorEq, Nat.reduceAdd, Nat.reduceSub, Nat.reduceMul, Nat.reduceLT, Nat.reduceLeDiff, Int.reduceLT, Int.reduceLE, Int.reduceEq, Int.reduceNe, Int.reduceAdd, Int.reduceSub, Int.reduceMul, Int.reduceToNat, Int.reduceNeg, Int.reducePow, Nat.reducePow, Nat.reduceEqDiff, Nat.reduceBEq, Int.reduceBEq, Int.reduceBNe, Int.reduceNegSucc, q0, q1, q2, q3, q4, q5, q6, q7, q8, q9])
        | (simp only [thenV, blockV, if_true, if_false, Nat.reduceEqDiff, reduceCtorEq, imp_self]))
    all_goals (apply And.right; refine hQ _ _ _ Desc.refl ?_ (nx0_wk _))
    · (first | (simp only [go_sem, reduceCtorEq, Nat.reduceAdd, Nat.reduceSub, Nat.reduceMul, Nat.reduceLT, Nat.reduceLeDiff, Int.reduceLT, Int.reduceLE, Int.reduceEq, Int.reduceNe, Int.reduceAdd, Int.reduceSub, Int.reduceMul, Int.reduceToNat, Int.reduceNeg, Int.reducePow, Nat.reducePow, Nat.reduceEqDiff, Nat.reduceBEq, Int.reduceBEq, Int.reduceBNe, Int.reduceNegSucc, Tryd.results13]; done) | (simp only [go_sem, reduceCtorEq, Nat.reduceAdd, Nat.reduceSub, Nat.reduceMul, Nat.reduceLT, Nat.reduceLeDiff, Int.reduceLT, Int.reduceLE, Int.reduceEq, Int.reduceNe, Int.reduceAdd, Int.reduceSub, Int.reduceMul, Int.reduceToNat, Int.reduceNeg, Int.reducePow, Nat.reducePow, Nat.reduceEqDiff, Nat.reduceBEq, Int.reduceBEq, Int.reduceBNe, Int.reduceNegSucc, Tryd.results13]; rfl) | rfl)
  rw [if_neg he]
  have he0 : e = 0 := Decidable.not_not.1 he
  subst he0
  have hok := tk_ok (l := b) (by rw [ht])
  rw [ht] at hok
  dsimp only at hok
  have q0 : ((0 : Int) != 0) = false := rfl
  by_cases hn : 8192 < n.toNat
  · have q1 : ((8192 : Int) < (n.toNat : Int)) = True := eq_true (by omega)
    rw [if_pos hn]
    refine Sp.of_bodyD Tryd.func13 rfl ?_
    intro Q hQ
    simp only [List.replicate, List.length_cons, List.length_nil, Tryd.ntmps13, Nat.reduceAdd, Nat.reduceSub, List.cons_append, List.nil_append, go_sem]
    have hz : True := trivial
    have hy := yieldedV_eq
    repeat' (first
        | (refine WPV.seqK ?_; intro N hN)
        | refine WPV.block ?_
        | refine WPV.scope ?_
        | refine WPV.skip ?_
        | refine WPV.label ?_
        | refine WPV.exit ?_
        | refine WPV.ret ?_
        | (refine WPV.regionG (M := noM) ?_; intro N hN ops hy; (try simp only [List.append] at hy ⊢); (try simp only [List.map_cons, List.map_nil] at hy))
        | (refine WPV.drawK (M := noM) (by kernel_rfl) (by kernel_rfl) ?_; intro N hN; have hy := yieldedV_eq)
        | (refine WPV.condK ?_; intro A hA B hB)
        | ((with_reducible first | refine opsV.here ?_ | refine guardO.here ?_ | refine resO.here ?_ | refine drawV.here ?_ | refine guardD.here ?_ | refine stepO.here ?_ | refine brO.here ?_ | refine condV.here ?_); simp (config := {contextual := true, maxSteps := 1000000}) only [hy, hz, go_sem, reduceCtorEq, Nat.reduceAdd, Nat.reduceSub, Nat.reduceMul, Nat.reduceLT, Nat.reduceLeDiff, Int.reduceLT, Int.reduceLE, Int.reduceEq, Int.reduceNe, Int.reduceAdd, Int.reduceSub, Int.reduceMul, Int.reduceToNat, Int.reduceNeg, Int.reducePow, Nat.reducePow, Nat.reduceEqDiff, Nat.reduceBEq, Int.reduceBEq, Int.reduceBNe, Int.reduceNegSucc, q0, q1, q2, q3, q4, q5, q6, q7, q8, q9])
        | (refine And.intro (by kernel_rfl : okOrd _ _ = true) ?_)
        | refine Both.mk ?_ ?_
        | ((with_reducible refine CallO.gd 39 ?_); refine CallO.toA Tryd.call39 (vtake_s ht hl _) ?_)
        | ((with_reducible refine CallO.gd 40 ?_); refine CallO.toA Tryd.call40 (ho) ?_)
        | ((with_reducible refine CallO.gd 41 ?_); refine CallO.toA Tryd.call41 (bclone_s (q.drop u) hq _) ?_)
        | ((with_reducible refine CallP.gd 39 ?_); refine CallP.toA Tryd.call39 (vtake_s ht hl _) ?_)
        | ((with_reducible refine CallP.gd 40 ?_); refine CallP.toA Tryd.call40 (ho) ?_)
        | ((with_reducible refine CallP.gd 41 ?_); refine CallP.toA Tryd.call41 (bclone_s (q.drop u) hq _) ?_)
        | (first | refine hN _ ?_ | (clear hN N; refine hN _ ?_) | (iterate 2 clear hN N); refine hN _ ?_ | (iterate 3 clear hN N); refine hN _ ?_ | (iterate 4 clear hN N); refine hN _ ?_ | (iterate 5 clear hN N); refine hN _ ?_); try clear hN N; try clear hy ops
        | (refine hA ?_; clear hA A hB B; try simp only [hz])
        | (refine hB ?_; clear hA A hB B; try simp only [hz])
        | ((first | refine guardO.mk (fun hz => ?_) (fun hz => ?_) | refine guardD.mk (fun hz => ?_) (fun hz => ?_) | refine Br.mk (fun hz => ?_) (fun hz => ?_)) <;> (have h := hz; try simp only [decide_eq_true_eq, decide_eq_false_iff_not, Int.not_lt, Int.not_le, beq_iff_eq, beq_eq_false_iff_ne, bne_iff_ne, bne_eq_false_iff_eq, ne_eq, Bool.not_eq_true', Bool.not_eq_false', Decidable.not_not] at h) <;> (try (exfalso; omega)) <;> (try simp only [Bool.not_eq_true', Bool.not_eq_false', beq_true, beq_false] at hz))
        | ((first | rw [if_pos (show _ ∧ _ from ⟨by omega, by omega⟩)] | rw [if_pos (show _ ∧ _ from by simp only [List.length_append, List.length_cons, List.length_nil]; exact ⟨by omega, by omega⟩)]); simp (config := {contextual := true, maxSteps := 1000000}) only [hy, hz, go_sem, reduceCtorEq, Nat.reduceAdd, Nat.reduceSub, Nat.reduceMul, Nat.reduceLT, Nat.reduceLeDiff, Int.reduceLT, Int.reduceLE, Int.reduceEq, Int.reduceNe, Int.reduceAdd, Int.reduceSub, Int.reduceMul, Int.reduceToNat, Int.reduceNeg, Int.reducePow, Nat.reducePow, Nat.reduceEqDiff, Nat.reduceBEq, Int.reduceBEq, Int.reduceBNe, Int.reduceNegSucc, q0, q1, q2, q3, q4, q5, q6, q7, q8, q9])
        | (simp only [thenV, blockV, if_true, if_false, Nat.reduceEqDiff, reduceCtorEq, imp_self]))
    all_goals (apply And.right; refine hQ _ _ _ Desc.refl ?_ (nx0_wk _))
    · (first | (simp only [go_sem, reduceCtorEq, Nat.reduceAdd, Nat.reduceSub, Nat.reduceMul, Nat.reduceLT, Nat.reduceLeDiff, Int.reduceLT, Int.reduceLE, Int.reduceEq, Int.reduceNe, Int.reduceAdd, Int.reduceSub, Int.reduceMul, Int.reduceToNat, Int.reduceNeg, Int.reducePow, Nat.reducePow, Nat.reduceEqDiff, Nat.reduceBEq, Int.reduceBEq, Int.reduceBNe, Int.reduceNegSucc, Tryd.results13]; done) | (simp only [go_sem, reduceCtorEq, Nat.reduceAdd, Nat.reduceSub, Nat.reduceMul, Nat.reduceLT, Nat.reduceLeDiff, Int.reduceLT, Int.reduceLE, Int.reduceEq, Int.reduceNe, Int.reduceAdd, Int.reduceSub, Int.reduceMul, Int.reduceToNat, Int.reduceNeg, Int.reducePow, Nat.reducePow, Nat.reduceEqDiff, Nat.reduceBEq, Int.reduceBEq, Int.reduceBNe, Int.reduceNegSucc, Tryd.results13]; rfl) | rfl)
  rw [if_neg hn]
  have q1 : ((8192 : Int) < (n.toNat : Int)) = False := eq_false (by omega)
  have q2 : IntKind.i64.wrap (n.toNat : Int) = (n.toNat : Int) := wr_i64 (by omega) (by omega)
  have q3 : IntKind.i64.wrap ((u : Int) + (n.toNat : Int)) = ((u + n.toNat : Nat) : Int) := by rw [wr_i64 (by omega) (by omega)]; rfl
  have q4 : IntKind.i64.wrap (((u + n.toNat : Nat) : Int) + 4) = ((u + n.toNat + 4 : Nat) : Int) := by rw [wr_i64 (by omega) (by omega)]; rfl
  generalize hm : u + n.toNat + 4 = m at q4 ⊢
  by_cases hb : b.length < m
  · have q5 : ((b.length : Int) < (m : Int)) = True := eq_true (by omega)
    rw [if_pos hb]
    refine Sp.of_bodyD Tryd.func13 rfl ?_
    intro Q hQ
    simp only [List.replicate, List.length_cons, List.length_nil, Tryd.ntmps13, Nat.reduceAdd, Nat.reduceSub, List.cons_append, List.nil_append, go_sem]
    have hz : True := trivial
    have hy := yieldedV_eq
    repeat' (first
        | (refine WPV.seqK ?_; intro N hN)
        | refine WPV.block ?_
        | refine WPV.scope ?_
        | refine WPV.skip ?_
        | refine WPV.label ?_
        | refine WPV.exit ?_
        | refine WPV.ret ?_
        | (refine WPV.regionG (M := noM) ?_; intro N hN ops hy; (try simp only [List.append] at hy ⊢); (try simp only [List.map_cons, List.map_nil] at hy))
        | (refine WPV.drawK (M := noM) (by kernel_rfl) (by kernel_rfl) ?_; intro N hN; have hy := yieldedV_eq)
        | (refine WPV.condK ?_; intro A hA B hB)
        | ((with_reducible first | refine opsV.here ?_ | refine guardO.here ?_ | refine resO.here ?_ | refine drawV.here ?_ | refine guardD.here ?_ | refine stepO.here ?_ | refine brO.here ?_ | refine condV.here ?_); simp (config := {contextual := true, maxSteps := 1000000}) only [hy, hz, go_sem, reduceCtorEq, Nat.reduceAdd, Nat.reduceSub, Nat.reduceMul, Nat.reduceLT, Nat.reduceLeDiff, Int.reduceLT, Int.reduceLE, Int.reduceEq, Int.reduceNe, Int.reduceAdd, Int.reduceSub, Int.reduceMul, Int.reduceToNat, Int.reduceNeg, Int.reducePow, Nat.reducePow, Nat.reduceEqDiff, Nat.reduceBEq, Int.reduceBEq, Int.reduceBNe, Int.reduceNegSucc, q0, q1, q2, q3, q4, q5, q6, q7, q8, q9])
        | (refine And.intro (by kernel_rfl : okOrd _ _ = true) ?_)
        | refine Both.mk ?_ ?_
        | ((with_reducible refine CallO.gd 39 ?_); refine CallO.toA Tryd.call39 (vtake_s ht hl _) ?_)
        | ((with_reducible refine CallO.gd 40 ?_); refine CallO.toA Tryd.call40 (ho) ?_)
        | ((with_reducible refine CallO.gd 41 ?_); refine CallO.toA Tryd.call41 (bclone_s (q.drop u) hq _) ?_)
        | ((with_reducible refine CallP.gd 39 ?_); refine CallP.toA Tryd.call39 (vtake_s ht hl _) ?_)
        | ((with_reducible refine CallP.gd 40 ?_); refine CallP.toA Tryd.call40 (ho) ?_)
        | ((with_reducible refine CallP.gd 41 ?_); refine CallP.toA Tryd.call41 (bclone_s (q.drop u) hq _) ?_)
        | (first | refine hN _ ?_ | (clear hN N; refine hN _ ?_) | (iterate 2 clear hN N); refine hN _ ?_ | (iterate 3 clear hN N); refine hN _ ?_ | (iterate 4 clear hN N); refine hN _ ?_ | (iterate 5 clear hN N); refine hN _ ?_); try clear hN N; try clear hy ops
        | (refine hA ?_; clear hA A hB B; try simp only [hz])
        | (refine hB ?_; clear hA A hB B; try simp only [hz])
        | ((first | refine guardO.mk (fun hz => ?_) (fun hz => ?_) | refine guardD.mk (fun hz => ?_) (fun hz => ?_) | refine Br.mk (fun hz => ?_) (fun hz => ?_)) <;> (have h := hz; try simp only [decide_eq_true_eq, decide_eq_false_iff_not, Int.not_lt, Int.not_le, beq_iff_eq, beq_eq_false_iff_ne, bne_iff_ne, bne_eq_false_iff_eq, ne_eq, Bool.not_eq_true', Bool.not_eq_false', Decidable.not_not] at h) <;> (try (exfalso; omega)) <;> (try simp only [Bool.not_eq_true', Bool.not_eq_false', beq_true, beq_false] at hz))
        | ((first | rw [if_pos (show _ ∧ _ from ⟨by omega, by omega⟩)] | rw [if_pos (show _ ∧ _ from by simp only [List.length_append, List.length_cons, List.length_nil]; exact ⟨by omega, by omega⟩)]); simp (config := {contextual := true, maxSteps := 1000000}) only [hy, hz, go_sem, reduceCtorEq, Nat.reduceAdd, Nat.reduceSub, Nat.reduceMul, Nat.reduceLT, Nat.reduceLeDiff, Int.reduceLT, Int.reduceLE, Int.reduceEq, Int.reduceNe, Int.reduceAdd, Int.reduceSub, Int.reduceMul, Int.reduceToNat, Int.reduceNeg, Int.reducePow, Nat.reducePow, Nat.reduceEqDiff, Nat.reduceBEq, Int.reduceBEq, Int.reduceBNe, Int.reduceNegSucc, q0, q1, q2, q3, q4, q5, q6, q7, q8, q9])
        | (simp only [thenV, blockV, if_true, if_false, Nat.reduceEqDiff, reduceCtorEq, imp_self]))
    all_goals (apply And.right; refine hQ _ _ _ Desc.refl ?_ (nx0_wk _))
    · (first | (simp only [go_sem, reduceCtorEq, Nat.reduceAdd, Nat.reduceSub, Nat.reduceMul, Nat.reduceLT, Nat.reduceLeDiff, Int.reduceLT, Int.reduceLE, Int.reduceEq, Int.reduceNe, Int.reduceAdd, Int.reduceSub, Int.reduceMul, Int.reduceToNat, Int.reduceNeg, Int.reducePow, Nat.reducePow, Nat.reduceEqDiff, Nat.reduceBEq, Int.reduceBEq, Int.reduceBNe, Int.reduceNegSucc, Tryd.results13]; done) | (simp only [go_sem, reduceCtorEq, Nat.reduceAdd, Nat.reduceSub, Nat.reduceMul, Nat.reduceLT, Nat.reduceLeDiff, Int.reduceLT, Int.reduceLE, Int.reduceEq, Int.reduceNe, Int.reduceAdd, Int.reduceSub, Int.reduceMul, Int.reduceToNat, Int.reduceNeg, Int.reducePow, Nat.reducePow, Nat.reduceEqDiff, Nat.reduceBEq, Int.reduceBEq, Int.reduceBNe, Int.reduceNegSucc, Tryd.results13]; rfl) | rfl)
  rw [if_neg hb]
  have q5 : ((b.length : Int) < (m : Int)) = False := eq_false (by omega)
  have q6 : ((m : Int) ≤ (b.length : Int)) = True := eq_true (by omega)
  clear ho
  have ho := open_s hK (b.take m) (by simp; omega) []
  obtain ⟨q, f, hqf⟩ : ∃ q f, openF (b.take m) = (q, f) := ⟨_, _, rfl⟩
  rw [hqf] at ho ⊢
  dsimp only at ho ⊢
  by_cases hf : f ≠ 0
  · have q7 : (f != 0) = true := by simpa using hf
    rw [if_pos hf]
    refine Sp.of_bodyD Tryd.func13 rfl ?_
    intro Q hQ
    simp only [List.replicate, List.length_cons, List.length_nil, Tryd.ntmps13, Nat.reduceAdd, Nat.reduceSub, List.cons_append, List.nil_append, go_sem]
    have hz : True := trivial
    have hy := yieldedV_eq
    repeat' (first
        | (refine WPV.seqK ?_; intro N hN)
        | refine WPV.block ?_
        | refine WPV.scope ?_
        | refine WPV.skip ?_
        | refine WPV.label ?_
        | refine WPV.exit ?_
        | refine WPV.ret ?_
        | (refine WPV.regionG (M := noM) ?_; intro N hN ops hy; (try simp only [List.append] at hy ⊢); (try simp only [List.map_cons, List.map_nil] at hy))
        | (refine WPV.drawK (M := noM) (by kernel_rfl) (by kernel_rfl) ?_; intro N hN; have hy := yieldedV_eq)
        | (refine WPV.condK ?_; intro A hA B hB)
        | ((with_reducible first | refine opsV.here ?_ | refine guardO.here ?_ | refine resO.here ?_ | refine drawV.here ?_ | refine guardD.here ?_ | refine stepO.here ?_ | refine brO.here ?_ | refine condV.here ?_); simp (config := {contextual := true, maxSteps := 1000000}) only [hy, hz, go_sem, reduceCtorEq, Nat.reduceAdd, Nat.reduceSub, Nat.reduceMul, Nat.reduceLT, Nat.reduceLeDiff, Int.reduceLT, Int.reduceLE, Int.reduceEq, Int.reduceNe, Int.reduceAdd, Int.reduceSub, Int.reduceMul, Int.reduceToNat, Int.reduceNeg, Int.reducePow, Nat.reducePow, Nat.reduceEqDiff, Nat.reduceBEq, Int.reduceBEq, Int.reduceBNe, Int.reduceNegSucc, q0, q1, q2, q3, q4, q5, q6, q7, q8, q9])
        | (refine And.intro (by kernel_rfl : okOrd _ _ = true) ?_)
        | refine Both.mk ?_ ?_
        | ((with_reducible refine CallO.gd 39 ?_); refine CallO.toA Tryd.call39 (vtake_s ht hl _) ?_)
        | ((with_reducible refine CallO.gd 40 ?_); refine CallO.toA Tryd.call40 (ho) ?_)
        | ((with_reducible refine CallO.gd 41 ?_); refine CallO.toA Tryd.call41 (bclone_s (q.drop u) hq _) ?_)
        | ((with_reducible refine CallP.gd 39 ?_); refine CallP.toA Tryd.call39 (vtake_s ht hl _) ?_)
        | ((with_reducible refine CallP.gd 40 ?_); refine CallP.toA Tryd.call40 (ho) ?_)
        | ((with_reducible refine CallP.gd 41 ?_); refine CallP.toA Tryd.call41 (bclone_s (q.drop u) hq _) ?_)
        | (first | refine hN _ ?_ | (clear hN N; refine hN _ ?_) | (iterate 2 clear hN N); refine hN _ ?_ | (iterate 3 clear hN N); refine hN _ ?_ | (iterate 4 clear hN N); refine hN _ ?_ | (iterate 5 clear hN N); refine hN _ ?_); try clear hN N; try clear hy ops
        | (refine hA ?_; clear hA A hB B; try simp only [hz])
        | (refine hB ?_; clear hA A hB B; try simp only [hz])
        | ((first | refine guardO.mk (fun hz => ?_) (fun hz => ?_) | refine guardD.mk (fun hz => ?_) (fun hz => ?_) | refine Br.mk (fun hz => ?_) (fun hz => ?_)) <;> (have h := hz; try simp only [decide_eq_true_eq, decide_eq_false_iff_not, Int.not_lt, Int.not_le, beq_iff_eq, beq_eq_false_iff_ne, bne_iff_ne, bne_eq_false_iff_eq, ne_eq, Bool.not_eq_true', Bool.not_eq_false', Decidable.not_not] at h) <;> (try (exfalso; omega)) <;> (try simp only [Bool.not_eq_true', Bool.not_eq_false', beq_true, beq_false] at hz))
        | ((first | rw [if_pos (show _ ∧ _ from ⟨by omega, by omega⟩)] | rw [if_pos (show _ ∧ _ from by simp only [List.length_append, List.length_cons, List.length_nil]; exact ⟨by omega, by omega⟩)]); simp (config := {contextual := true, maxSteps := 1000000}) only [hy, hz, go_sem, reduceCtorEq, Nat.reduceAdd, Nat.reduceSub, Nat.reduceMul, Nat.reduceLT, Nat.reduceLeDiff, Int.reduceLT, Int.reduceLE, Int.reduceEq, Int.reduceNe, Int.reduceAdd, Int.reduceSub, Int.reduceMul, Int.reduceToNat, Int.reduceNeg, Int.reducePow, Nat.reducePow, Nat.reduceEqDiff, Nat.reduceBEq, Int.reduceBEq, Int.reduceBNe, Int.reduceNegSucc, q0, q1, q2, q3, q4, q5, q6, q7, q8, q9])
        | (simp only [thenV, blockV, if_true, if_false, Nat.reduceEqDiff, reduceCtorEq, imp_self]))
    all_goals (apply And.right; refine hQ _ _ _ Desc.refl ?_ (nx0_wk _))
    · (first | (simp only [go_sem, reduceCtorEq, Nat.reduceAdd, Nat.reduceSub, Nat.reduceMul, Nat.reduceLT, Nat.reduceLeDiff, Int.reduceLT, Int.reduceLE, Int.reduceEq, Int.reduceNe, Int.reduceAdd, Int.reduceSub, Int.reduceMul, Int.reduceToNat, Int.reduceNeg, Int.reducePow, Nat.reducePow, Nat.reduceEqDiff, Nat.reduceBEq, Int.reduceBEq, Int.reduceBNe, Int.reduceNegSucc, Tryd.results13]; done) | (simp only [go_sem, reduceCtorEq, Nat.reduceAdd, Nat.reduceSub, Nat.reduceMul, Nat.reduceLT, Nat.reduceLeDiff, Int.reduceLT, Int.reduceLE, Int.reduceEq, Int.reduceNe, Int.reduceAdd, Int.reduceSub, Int.reduceMul, Int.reduceToNat, Int.reduceNeg, Int.reducePow, Nat.reducePow, Nat.reduceEqDiff, Nat.reduceBEq, Int.reduceBEq, Int.reduceBNe, Int.reduceNegSucc, Tryd.results13]; rfl) | rfl)
  rw [if_neg hf]
  have hf0 : f = 0 := Decidable.not_not.1 hf
  subst hf0
  have q7 : ((0 : Int) != 0) = false := rfl
  have hoo := openF_ok (b := b.take m) (by rw [hqf])
  rw [hqf] at hoo
  dsimp only at hoo
  have hql : q.length = m - 4 := by rw [hoo.2.1, List.length_take, List.length_take]; omega
  have hq : (q.drop u).length ≤ 1000000000 := by simp; omega
  have q8 : ((u : Int) ≤ (q.length : Int)) = True := eq_true (by omega)
  refine Sp.of_bodyD Tryd.func13 rfl ?_
  intro Q hQ
  simp only [List.replicate, List.length_cons, List.length_nil, Tryd.ntmps13, Nat.reduceAdd, Nat.reduceSub, List.cons_append, List.nil_append, go_sem]
  have hz : True := trivial
  have hy := yieldedV_eq
  repeat' (first
      | (refine WPV.seqK ?_; intro N hN)
      | refine WPV.block ?_
      | refine WPV.scope ?_
      | refine WPV.skip ?_
      | refine WPV.label ?_
      | refine WPV.exit ?_
      | refine WPV.ret ?_
      | (refine WPV.regionG (M := noM) ?_; intro N hN ops hy; (try simp only [List.append] at hy ⊢); (try simp only [List.map_cons, List.map_nil] at hy))
      | (refine WPV.drawK (M := noM) (by kernel_rfl) (by kernel_rfl) ?_; intro N hN; have hy := yieldedV_eq)
      | (refine WPV.condK ?_; intro A hA B hB)
      | ((with_reducible first | refine opsV.here ?_ | refine guardO.here ?_ | refine resO.here ?_ | refine drawV.here ?_ | refine guardD.here ?_ | refine stepO.here ?_ | refine brO.here ?_ | refine condV.here ?_); simp (config := {contextual := true, maxSteps := 1000000}) only [hy, hz, go_sem, reduceCtorEq, Nat.reduceAdd, Nat.reduceSub, Nat.reduceMul, Nat.reduceLT, Nat.reduceLeDiff, Int.reduceLT, Int.reduceLE, Int.reduceEq, Int.reduceNe, Int.reduceAdd, Int.reduceSub, Int.reduceMul, Int.reduceToNat, Int.reduceNeg, Int.reducePow, Nat.reducePow, Nat.reduceEqDiff, Nat.reduceBEq, Int.reduceBEq, Int.reduceBNe, Int.reduceNegSucc, q0, q1, q2, q3, q4, q5, q6, q7, q8, q9])
      | (refine And.intro (by kernel_rfl : okOrd _ _ = true) ?_)
      | refine Both.mk ?_ ?_
      | ((with_reducible refine CallO.gd 39 ?_); refine CallO.toA Tryd.call39 (vtake_s ht hl _) ?_)
      | ((with_reducible refine CallO.gd 40 ?_); refine CallO.toA Tryd.call40 (ho) ?_)
      | ((with_reducible refine CallO.gd 41 ?_); refine CallO.toA Tryd.call41 (bclone_s (q.drop u) hq _) ?_)
      | ((with_reducible refine CallP.gd 39 ?_); refine CallP.toA Tryd.call39 (vtake_s ht hl _) ?_)
      | ((with_reducible refine CallP.gd 40 ?_); refine CallP.toA Tryd.call40 (ho) ?_)
      | ((with_reducible refine CallP.gd 41 ?_); refine CallP.toA Tryd.call41 (bclone_s (q.drop u) hq _) ?_)
      | (first | refine hN _ ?_ | (clear hN N; refine hN _ ?_) | (iterate 2 clear hN N); refine hN _ ?_ | (iterate 3 clear hN N); refine hN _ ?_ | (iterate 4 clear hN N); refine hN _ ?_ | (iterate 5 clear hN N); refine hN _ ?_); try clear hN N; try clear hy ops
      | (refine hA ?_; clear hA A hB B; try simp only [hz])
      | (refine hB ?_; clear hA A hB B; try simp only [hz])
      | ((first | refine guardO.mk (fun hz => ?_) (fun hz => ?_) | refine guardD.mk (fun hz => ?_) (fun hz => ?_) | refine Br.mk (fun hz => ?_) (fun hz => ?_)) <;> (have h := hz; try simp only [decide_eq_true_eq, decide_eq_false_iff_not, Int.not_lt, Int.not_le, beq_iff_eq, beq_eq_false_iff_ne, bne_iff_ne, bne_eq_false_iff_eq, ne_eq, Bool.not_eq_true', Bool.not_eq_false', Decidable.not_not] at h) <;> (try (exfalso; omega)) <;> (try simp only [Bool.not_eq_true', Bool.not_eq_false', beq_true, beq_false] at hz))
      | ((first | rw [if_pos (show _ ∧ _ from ⟨by omega, by omega⟩)] | rw [if_pos (show _ ∧ _ from by simp only [List.length_append, List.length_cons, List.length_nil]; exact ⟨by omega, by omega⟩)]); simp (config := {contextual := true, maxSteps := 1000000}) only [hy, hz, go_sem, reduceCtorEq, Nat.reduceAdd, Nat.reduceSub, Nat.reduceMul, Nat.reduceLT, Nat.reduceLeDiff, Int.reduceLT, Int.reduceLE, Int.reduceEq, Int.reduceNe, Int.reduceAdd, Int.reduceSub, Int.reduceMul, Int.reduceToNat, Int.reduceNeg, Int.reducePow, Nat.reducePow, Nat.reduceEqDiff, Nat.reduceBEq, Int.reduceBEq, Int.reduceBNe, Int.reduceNegSucc, q0, q1, q2, q3, q4, q5, q6, q7, q8, q9])
      | (simp only [thenV, blockV, if_true, if_false, Nat.reduceEqDiff, reduceCtorEq, imp_self]))
  all_goals (apply And.right; refine hQ _ _ _ Desc.refl ?_ Wk.refl)
  · (first | (simp only [go_sem, reduceCtorEq, Nat.reduceAdd, Nat.reduceSub, Nat.reduceMul, Nat.reduceLT, Nat.reduceLeDiff, Int.reduceLT, Int.reduceLE, Int.reduceEq, Int.reduceNe, Int.reduceAdd, Int.reduceSub, Int.reduceMul, Int.reduceToNat, Int.reduceNeg, Int.reducePow, Nat.reducePow, Nat.reduceEqDiff, Nat.reduceBEq, Int.reduceBEq, Int.reduceBNe, Int.reduceNegSucc, Tryd.results13]; done) | (simp only [go_sem, reduceCtorEq, Nat.reduceAdd, Nat.reduceSub, Nat.reduceMul, Nat.reduceLT, Nat.reduceLeDiff, Int.reduceLT, Int.reduceLE, Int.reduceEq, Int.reduceNe, Int.reduceAdd, Int.reduceSub, Int.reduceMul, Int.reduceToNat, Int.reduceNeg, Int.reducePow, Nat.reducePow, Nat.reduceEqDiff, Nat.reduceBEq, Int.reduceBEq, Int.reduceBNe, Int.reduceNegSucc, Tryd.results13]; rfl) | rfl)
end

section
open Go Go.RowKit
set_option linter.unusedVariables false
set_option linter.unusedSimpArgs false
variable {K : Nat → Obj → Prop}

theorem next_e (hK : KT K) {b p : List UInt8} {n : Nat} {e : Int} (hl : b.length ≤ 100000000) (h : nextF b = (p, n, e)) : Sp Tryd.prog K 13 [.sl 1 (bs b)] [] fun u hh => u = .tup [.sl 1 (bs p), .sc (.int .i64 (n : Int)), .sc (.int .i64 e)] ∧ hh = [] := by
  have := next_s hK b (by omega) []
  rwa [h] at this
/-! What Scan's own function does: the number of bytes used, the bytes, the records. -/
def sbx (b : List UInt8) (out : List (List UInt8)) (used : Nat) : List Ho := [.cells [.sc (.int .i64 (used : Int))], .cells [.sl 1 (bs b)], .cells [.own 1 (rs out) 3], .tail]
set_option maxRecDepth 100000 in
theorem scan1_end (b : List UInt8) (out : List (List UInt8)) (used : Nat) (h : used = b.length) : Sp Tryd.prog K 43 [.ptr 0 0, .ptr 1 0, .ptr 2 0] (sbx b out used) fun u hh => u = .tup [.sc (.bool false), .sc (.int .i64 0)] ∧ hh = sbx b out used := by
  have q0 : ((used : Int) == (b.length : Int)) = true := by rw [h]; simp
  unfold sbx
  refine Sp.of_bodyD Tryd.func43 rfl ?_
  intro Q hQ
  simp only [List.replicate, List.length_cons, List.length_nil, Tryd.ntmps43, Nat.reduceAdd, Nat.reduceSub, List.cons_append, List.nil_append, go_sem]
  have hz : True := trivial
  have hy := yieldedV_eq
  repeat' (first
      | (refine WPV.seqK ?_; intro N hN)
      | refine WPV.block ?_
      | refine WPV.scope ?_
      | refine WPV.skip ?_
      | refine WPV.label ?_
      | refine WPV.exit ?_
      | refine WPV.ret ?_
      | (refine WPV.regionG (M := noM) ?_; intro N hN ops hy; (try simp only [List.append] at hy ⊢); (try simp only [List.map_cons, List.map_nil] at hy))
      | (refine WPV.drawK (M := noM) (by kernel_rfl) (by kernel_rfl) ?_; intro N hN; have hy := yieldedV_eq)
      | (refine WPV.condK ?_; intro A hA B hB)
      | ((with_reducible first | refine opsV.here ?_ | refine guardO.here ?_ | refine resO.here ?_ | refine drawV.here ?_ | refine guardD.here ?_ | refine stepO.here ?_ | refine brO.here ?_ | refine condV.here ?_); simp (config := {contextual := true, maxSteps := 1000000}) only [hy, hz, go_sem, reduceCtorEq, Nat.reduceAdd, Nat.reduceSub, Nat.reduceMul, Nat.reduceLT, Nat.reduceLeDiff, Int.reduceLT, Int.reduceLE, Int.reduceEq, Int.reduceNe, Int.reduceAdd, Int.reduceSub, Int.reduceMul, Int.reduceToNat, Int.reduceNeg, Int.reducePow, Nat.reducePow, Nat.reduceEqDiff, Nat.reduceBEq, Int.reduceBEq, Int.reduceBNe, Int.reduceNegSucc, q0])
      | (refine And.intro (by kernel_rfl : okOrd _ _ = true) ?_)
      | refine Both.mk ?_ ?_
      | (first | refine hN _ ?_ | (clear hN N; refine hN _ ?_) | (iterate 2 clear hN N); refine hN _ ?_ | (iterate 3 clear hN N); refine hN _ ?_ | (iterate 4 clear hN N); refine hN _ ?_ | (iterate 5 clear hN N); refine hN _ ?_); try clear hN N; try clear hy ops
      | (refine hA ?_; clear hA A hB B; try simp only [hz])
      | (refine hB ?_; clear hA A hB B; try simp only [hz])
      | ((first | refine guardO.mk (fun hz => ?_) (fun hz => ?_) | refine guardD.mk (fun hz => ?_) (fun hz => ?_) | refine Br.mk (fun hz => ?_) (fun hz => ?_)) <;> (have h := hz; try simp only [decide_eq_true_eq, decide_eq_false_iff_not, Int.not_lt, Int.not_le, beq_iff_eq, beq_eq_false_iff_ne, bne_iff_ne, bne_eq_false_iff_eq, ne_eq, Bool.not_eq_true', Bool.not_eq_false', Decidable.not_not] at h) <;> (try (exfalso; omega)) <;> (try simp only [Bool.not_eq_true', Bool.not_eq_false', beq_true, beq_false] at hz))
      | ((first | rw [if_pos (show _ ∧ _ from ⟨by omega, by omega⟩)] | rw [if_pos (show _ ∧ _ from by simp only [List.length_append, List.length_cons, List.length_nil]; exact ⟨by omega, by omega⟩)]); simp (config := {contextual := true, maxSteps := 1000000}) only [hy, hz, go_sem, reduceCtorEq, Nat.reduceAdd, Nat.reduceSub, Nat.reduceMul, Nat.reduceLT, Nat.reduceLeDiff, Int.reduceLT, Int.reduceLE, Int.reduceEq, Int.reduceNe, Int.reduceAdd, Int.reduceSub, Int.reduceMul, Int.reduceToNat, Int.reduceNeg, Int.reducePow, Nat.reducePow, Nat.reduceEqDiff, Nat.reduceBEq, Int.reduceBEq, Int.reduceBNe, Int.reduceNegSucc, q0])
      | (simp only [thenV, blockV, if_true, if_false, Nat.reduceEqDiff, reduceCtorEq, imp_self]))
  all_goals (first | exact retA hQ Tryd.results43 (Desc.refl) | exact retN hQ Tryd.results43 (Desc.refl))
set_option maxRecDepth 100000 in
theorem scan1_err (hK : KT K) (b : List UInt8) (out : List (List UInt8)) (used : Nat) (p : List UInt8) (n : Nat) (e : Int) (hl : b.length ≤ 100000000) (h : used < b.length) (hx : nextF (b.drop used) = (p, n, e)) (he : e ≠ 0) : Sp Tryd.prog K 43 [.ptr 0 0, .ptr 1 0, .ptr 2 0] (sbx b out used) fun u hh => u = .tup [.sc (.bool false), .sc (.int .i64 e)] ∧ hh = sbx b out used := by
  have q0 : ((used : Int) == (b.length : Int)) = false := by rw [beq_eq_false_iff_ne]; omega
  have q1 : ((used : Int) ≤ (b.length : Int)) = True := eq_true (by omega)
  have q2 : (e != 0) = true := by simpa using he
  have hn0 := next_e hK (by simp; omega) hx
  have hn := hn0.lift (fun _ => rfl) (fun _ => rfl) (sbx b out used)
  unfold sbx at hn ⊢
  refine Sp.of_bodyD Tryd.func43 rfl ?_
  intro Q hQ
  simp only [List.replicate, List.length_cons, List.length_nil, Tryd.ntmps43, Nat.reduceAdd, Nat.reduceSub, List.cons_append, List.nil_append, go_sem]
  have hz : True := trivial
  have hy := yieldedV_eq
  repeat' (first
      | (refine WPV.seqK ?_; intro N hN)
      | refine WPV.block ?_
      | refine WPV.scope ?_
      | refine WPV.skip ?_
      | refine WPV.label ?_
      | refine WPV.exit ?_
      | refine WPV.ret ?_
      | (refine WPV.regionG (M := noM) ?_; intro N hN ops hy; (try simp only [List.append] at hy ⊢); (try simp only [List.map_cons, List.map_nil] at hy))
      | (refine WPV.drawK (M := noM) (by kernel_rfl) (by kernel_rfl) ?_; intro N hN; have hy := yieldedV_eq)
      | (refine WPV.condK ?_; intro A hA B hB)
      | ((with_reducible first | refine opsV.here ?_ | refine guardO.here ?_ | refine resO.here ?_ | refine drawV.here ?_ | refine guardD.here ?_ | refine stepO.here ?_ | refine brO.here ?_ | refine condV.here ?_); simp (config := {contextual := true, maxSteps := 1000000}) only [hy, hz, go_sem, reduceCtorEq, Nat.reduceAdd, Nat.reduceSub, Nat.reduceMul, Nat.reduceLT, Nat.reduceLeDiff, Int.reduceLT, Int.reduceLE, Int.reduceEq, Int.reduceNe, Int.reduceAdd, Int.reduceSub, Int.reduceMul, Int.reduceToNat, Int.reduceNeg, Int.reducePow, Nat.reducePow, Nat.reduceEqDiff, Nat.reduceBEq, Int.reduceBEq, Int.reduceBNe, Int.reduceNegSucc, q0, q1, q2])
      | (refine And.intro (by kernel_rfl : okOrd _ _ = true) ?_)
      | refine Both.mk ?_ ?_
      | ((with_reducible refine CallO.gd 13 ?_); refine CallO.toA Tryd.call13 (hn) ?_)
      | ((with_reducible refine CallP.gd 13 ?_); refine CallP.toA Tryd.call13 (hn) ?_)
      | (first | refine hN _ ?_ | (clear hN N; refine hN _ ?_) | (iterate 2 clear hN N); refine hN _ ?_ | (iterate 3 clear hN N); refine hN _ ?_ | (iterate 4 clear hN N); refine hN _ ?_ | (iterate 5 clear hN N); refine hN _ ?_); try clear hN N; try clear hy ops
      | (refine hA ?_; clear hA A hB B; try simp only [hz])
      | (refine hB ?_; clear hA A hB B; try simp only [hz])
      | ((first | refine guardO.mk (fun hz => ?_) (fun hz => ?_) | refine guardD.mk (fun hz => ?_) (fun hz => ?_) | refine Br.mk (fun hz => ?_) (fun hz => ?_)) <;> (have h := hz; try simp only [decide_eq_true_eq, decide_eq_false_iff_not, Int.not_lt, Int.not_le, beq_iff_eq, beq_eq_false_iff_ne, bne_iff_ne, bne_eq_false_iff_eq, ne_eq, Bool.not_eq_true', Bool.not_eq_false', Decidable.not_not] at h) <;> (try (exfalso; omega)) <;> (try simp only [Bool.not_eq_true', Bool.not_eq_false', beq_true, beq_false] at hz))
      | ((first | rw [if_pos (show _ ∧ _ from ⟨by omega, by omega⟩)] | rw [if_pos (show _ ∧ _ from by simp only [List.length_append, List.length_cons, List.length_nil]; exact ⟨by omega, by omega⟩)]); simp (config := {contextual := true, maxSteps := 1000000}) only [hy, hz, go_sem, reduceCtorEq, Nat.reduceAdd, Nat.reduceSub, Nat.reduceMul, Nat.reduceLT, Nat.reduceLeDiff, Int.reduceLT, Int.reduceLE, Int.reduceEq, Int.reduceNe, Int.reduceAdd, Int.reduceSub, Int.reduceMul, Int.reduceToNat, Int.reduceNeg, Int.reducePow, Nat.reducePow, Nat.reduceEqDiff, Nat.reduceBEq, Int.reduceBEq, Int.reduceBNe, Int.reduceNegSucc, q0, q1, q2])
      | (simp only [thenV, blockV, if_true, if_false, Nat.reduceEqDiff, reduceCtorEq, imp_self]))
  all_goals (first | exact retA hQ Tryd.results43 (Desc.refl) | exact retN hQ Tryd.results43 (Desc.refl))
set_option maxRecDepth 100000 in
theorem scan1_ok (hK : KT K) (b : List UInt8) (out : List (List UInt8)) (used : Nat) (p : List UInt8) (n : Nat) (hl : b.length ≤ 100000000) (h : used < b.length) (hx : nextF (b.drop used) = (p, n, 0)) (ho : out.length ≤ 100000000) : Sp Tryd.prog K 43 [.ptr 0 0, .ptr 1 0, .ptr 2 0] (sbx b out used) fun u hh => u = .tup [.sc (.bool true), .sc (.int .i64 0)] ∧ hh = [.cells [.sc (.int .i64 ((used + n : Nat) : Int))], .cells [.sl 1 (bs b)], .cells [.own 1 (rs (out ++ [p])) 4], .dead, .tail] := by
  have q0 : ((used : Int) == (b.length : Int)) = false := by rw [beq_eq_false_iff_ne]; omega
  have q1 : ((used : Int) ≤ (b.length : Int)) = True := eq_true (by omega)
  have q2 : ((0 : Int) != 0) = false := rfl
  have hnl := (nextF_len (b.drop used)).1
  rw [hx, List.length_drop] at hnl
  dsimp only at hnl
  have q3 : IntKind.i64.wrap ((used : Int) + (n : Int)) = ((used + n : Nat) : Int) := by rw [wr_i64 (by omega) (by omega)]; rfl
  have hn0 := next_e hK (by simp; omega) hx
  have hn := hn0.lift (fun _ => rfl) (fun _ => rfl) (sbx b out used)
  unfold sbx at hn ⊢
  refine Sp.of_bodyD Tryd.func43 rfl ?_
  intro Q hQ
  simp only [List.replicate, List.length_cons, List.length_nil, Tryd.ntmps43, Nat.reduceAdd, Nat.reduceSub, List.cons_append, List.nil_append, go_sem]
  have hz : True := trivial
  have hy := yieldedV_eq
  repeat' (first
      | (refine WPV.seqK ?_; intro N hN)
      | refine WPV.block ?_
      | refine WPV.scope ?_
      | refine WPV.skip ?_
      | refine WPV.label ?_
      | refine WPV.exit ?_
      | refine WPV.ret ?_
      | (refine WPV.regionG (M := noM) ?_; intro N hN ops hy; (try simp only [List.append] at hy ⊢); (try simp only [List.map_cons, List.map_nil] at hy))
      | (refine WPV.drawK (M := noM) (by kernel_rfl) (by kernel_rfl) ?_; intro N hN; have hy := yieldedV_eq)
      | (refine WPV.condK ?_; intro A hA B hB)
      | ((with_reducible first | refine opsV.here ?_ | refine guardO.here ?_ | refine resO.here ?_ | refine drawV.here ?_ | refine guardD.here ?_ | refine stepO.here ?_ | refine brO.here ?_ | refine condV.here ?_); simp (config := {contextual := true, maxSteps := 1000000}) only [hy, hz, go_sem, reduceCtorEq, Nat.reduceAdd, Nat.reduceSub, Nat.reduceMul, Nat.reduceLT, Nat.reduceLeDiff, Int.reduceLT, Int.reduceLE, Int.reduceEq, Int.reduceNe, Int.reduceAdd, Int.reduceSub, Int.reduceMul, Int.reduceToNat, Int.reduceNeg, Int.reducePow, Nat.reducePow, Nat.reduceEqDiff, Nat.reduceBEq, Int.reduceBEq, Int.reduceBNe, Int.reduceNegSucc, q0, q1, q2, q3])
      | (refine And.intro (by kernel_rfl : okOrd _ _ = true) ?_)
      | refine Both.mk ?_ ?_
      | ((with_reducible refine CallO.gd 13 ?_); refine CallO.toA Tryd.call13 (hn) ?_)
      | ((with_reducible refine CallP.gd 13 ?_); refine CallP.toA Tryd.call13 (hn) ?_)
      | (first | refine hN _ ?_ | (clear hN N; refine hN _ ?_) | (iterate 2 clear hN N); refine hN _ ?_ | (iterate 3 clear hN N); refine hN _ ?_ | (iterate 4 clear hN N); refine hN _ ?_ | (iterate 5 clear hN N); refine hN _ ?_); try clear hN N; try clear hy ops
      | (refine hA ?_; clear hA A hB B; try simp only [hz])
      | (refine hB ?_; clear hA A hB B; try simp only [hz])
      | ((first | refine guardO.mk (fun hz => ?_) (fun hz => ?_) | refine guardD.mk (fun hz => ?_) (fun hz => ?_) | refine Br.mk (fun hz => ?_) (fun hz => ?_)) <;> (have h := hz; try simp only [decide_eq_true_eq, decide_eq_false_iff_not, Int.not_lt, Int.not_le, beq_iff_eq, beq_eq_false_iff_ne, bne_iff_ne, bne_eq_false_iff_eq, ne_eq, Bool.not_eq_true', Bool.not_eq_false', Decidable.not_not] at h) <;> (try (exfalso; omega)) <;> (try simp only [Bool.not_eq_true', Bool.not_eq_false', beq_true, beq_false] at hz))
      | ((first | rw [if_pos (show _ ∧ _ from ⟨by omega, by omega⟩)] | rw [if_pos (show _ ∧ _ from by simp only [List.length_append, List.length_cons, List.length_nil]; exact ⟨by omega, by omega⟩)]); simp (config := {contextual := true, maxSteps := 1000000}) only [hy, hz, go_sem, reduceCtorEq, Nat.reduceAdd, Nat.reduceSub, Nat.reduceMul, Nat.reduceLT, Nat.reduceLeDiff, Int.reduceLT, Int.reduceLE, Int.reduceEq, Int.reduceNe, Int.reduceAdd, Int.reduceSub, Int.reduceMul, Int.reduceToNat, Int.reduceNeg, Int.reducePow, Nat.reducePow, Nat.reduceEqDiff, Nat.reduceBEq, Int.reduceBEq, Int.reduceBNe, Int.reduceNegSucc, q0, q1, q2, q3])
      | (simp only [thenV, blockV, if_true, if_false, Nat.reduceEqDiff, reduceCtorEq, imp_self]))
  all_goals (first | exact retA hQ Tryd.results43 (Desc.refl) | exact retN hQ Tryd.results43 (Desc.refl))
/-! Scan -/
abbrev scV (r : List (List UInt8) × Nat × Int) : V := .tup [.sl 1 (rs r.1), .sc (.int .i64 (r.2.1 : Int)), .sc (.int .i64 r.2.2)]
structure ScJ (b : List UInt8) (out : List (List UInt8)) (used : Nat) : Prop where
  le : used ≤ b.length
  ol : out.length ≤ used
  eq : ∃ k, b.length < used + k ∧ scanF b = scanN b k out used
set_option maxRecDepth 100000 in
set_option maxHeartbeats 1000000 in
theorem scan_s (hK : KT K) (b : List UInt8) (hl : b.length ≤ 100000000) (h : List Ho) : Sp Tryd.prog K 15 [.sl 1 (bs b)] h fun u hh => u = scV (scanF b) ∧ hh = h := by
  refine Sp.pure_ (R := fun u hh => u = scV (scanF b) ∧ hh = []) ?_ (fun _ => rfl) (fun _ => rfl) (fun v h ⟨e, _⟩ => by rw [e]; exact Wk.refl) h
  have q0 : True := trivial
  refine Sp.of_bodyD Tryd.func15 rfl ?_
  intro Q hQ
  simp only [List.replicate, List.length_cons, List.length_nil, Tryd.ntmps15, Nat.reduceAdd, Nat.reduceSub, List.cons_append, List.nil_append, go_sem]
  have hz : True := trivial
  have hy := yieldedV_eq
  repeat' (first
      | (refine WPV.seqK ?_; intro N hN)
      | refine WPV.block ?_
      | refine WPV.scope ?_
      | refine WPV.skip ?_
      | refine WPV.label ?_
      | refine WPV.exit ?_
      | refine WPV.ret ?_
      | (refine WPV.regionG (M := noM) ?_; intro N hN ops hy; (try simp only [List.append] at hy ⊢); (try simp only [List.map_cons, List.map_nil] at hy))
      | (refine WPV.drawK (M := noM) (by kernel_rfl) (by kernel_rfl) ?_; intro N hN; have hy := yieldedV_eq)
      | (refine WPV.condK ?_; intro A hA B hB)
      | ((with_reducible first | refine opsV.here ?_ | refine guardO.here ?_ | refine resO.here ?_ | refine drawV.here ?_ | refine guardD.here ?_ | refine stepO.here ?_ | refine brO.here ?_ | refine condV.here ?_); simp (config := {contextual := true, maxSteps := 1000000}) only [hy, hz, go_sem, reduceCtorEq, Nat.reduceAdd, Nat.reduceSub, Nat.reduceMul, Nat.reduceLT, Nat.reduceLeDiff, Int.reduceLT, Int.reduceLE, Int.reduceEq, Int.reduceNe, Int.reduceAdd, Int.reduceSub, Int.reduceMul, Int.reduceToNat, Int.reduceNeg, Int.reducePow, Nat.reducePow, Nat.reduceEqDiff, Nat.reduceBEq, Int.reduceBEq, Int.reduceBNe, Int.reduceNegSucc, q0])
      | (refine And.intro (by kernel_rfl : okOrd _ _ = true) ?_)
      | refine Both.mk ?_ ?_
      | (first | refine hN _ ?_ | (clear hN N; refine hN _ ?_) | (iterate 2 clear hN N); refine hN _ ?_ | (iterate 3 clear hN N); refine hN _ ?_ | (iterate 4 clear hN N); refine hN _ ?_ | (iterate 5 clear hN N); refine hN _ ?_); try clear hN N; try clear hy ops
      | (refine hA ?_; clear hA A hB B; try simp only [hz])
      | (refine hB ?_; clear hA A hB B; try simp only [hz])
      | ((first | refine guardO.mk (fun hz => ?_) (fun hz => ?_) | refine guardD.mk (fun hz => ?_) (fun hz => ?_) | refine Br.mk (fun hz => ?_) (fun hz => ?_)) <;> (have h := hz; try simp only [decide_eq_true_eq, decide_eq_false_iff_not, Int.not_lt, Int.not_le, beq_iff_eq, beq_eq_false_iff_ne, bne_iff_ne, bne_eq_false_iff_eq, ne_eq, Bool.not_eq_true', Bool.not_eq_false', Decidable.not_not] at h) <;> (try (exfalso; omega)) <;> (try simp only [Bool.not_eq_true', Bool.not_eq_false', beq_true, beq_false] at hz))
      | ((first | rw [if_pos (show _ ∧ _ from ⟨by omega, by omega⟩)] | rw [if_pos (show _ ∧ _ from by simp only [List.length_append, List.length_cons, List.length_nil]; exact ⟨by omega, by omega⟩)]); simp (config := {contextual := true, maxSteps := 1000000}) only [hy, hz, go_sem, reduceCtorEq, Nat.reduceAdd, Nat.reduceSub, Nat.reduceMul, Nat.reduceLT, Nat.reduceLeDiff, Int.reduceLT, Int.reduceLE, Int.reduceEq, Int.reduceNe, Int.reduceAdd, Int.reduceSub, Int.reduceMul, Int.reduceToNat, Int.reduceNeg, Int.reducePow, Nat.reducePow, Nat.reduceEqDiff, Nat.reduceBEq, Int.reduceBEq, Int.reduceBNe, Int.reduceNegSucc, q0])
      | (simp only [thenV, blockV, if_true, if_false, Nat.reduceEqDiff, reduceCtorEq, imp_self]))
  refine WPV.desc ((Desc.own0H 1 0 1 rfl rfl).trans (Desc.weakA (tm' := [.any, .any, .any, .any, .any, .ptr 1 0, .ptr 2 0, .fn 43 [.ptr 2 0, .ptr 0 0, .ptr 1 0], .any, .any, .any, .any, .any, .any, .any, .any, .any, .any, .any, .any, .any]) (h' := [.cells [.sl 1 (bs b)], .cells [.own 1 (rs []) 3], .cells [.sc (.int .i64 ((0 : Nat) : Int))], .tail]))) ?_
  refine WPV.loopA (α := List (List UInt8) × Nat) (fun s => b.length - s.2) (fun s => ⟨[.any, .any, .any, .any, .any, .ptr 1 0, .ptr 2 0, .fn 43 [.ptr 2 0, .ptr 0 0, .ptr 1 0], .any, .any, .any, .any, .any, .any, .any, .any, .any, .any, .any, .any, .any], [.cells [.sl 1 (bs b)], .cells [.own 1 (rs s.1) 3], .cells [.sc (.int .i64 (s.2 : Int))], .tail]⟩) (fun s => ScJ b s.1 s.2) (fun s hJ H => ?_) ([], 0) ⟨Nat.zero_le _, Nat.le_refl _, b.length + 1, by omega, rfl⟩
  obtain ⟨out, used⟩ := s
  obtain ⟨h1, h2, k, h3, h4⟩ := hJ
  dsimp only at h1 h2 h3 h4 H ⊢
  obtain ⟨k, rfl⟩ : ∃ j, k = j + 1 := ⟨k - 1, by omega⟩
  unfold scanN at h4
  by_cases hu : used = b.length
  · rw [if_pos hu] at h4
    rw [h4] at hQ
    have hs := scan1_end (K := K) b out used hu
    unfold sbx at hs
    clear H
    refine loopV ?_
    have hz : True := trivial
    have hy := yieldedV_eq
    repeat' (first
        | (refine WPV.seqK ?_; intro N hN)
        | refine WPV.block ?_
        | refine WPV.scope ?_
        | refine WPV.skip ?_
        | refine WPV.label ?_
        | refine WPV.exit ?_
        | refine WPV.ret ?_
        | (refine WPV.regionG (M := noM) ?_; intro N hN ops hy; (try simp only [List.append] at hy ⊢); (try simp only [List.map_cons, List.map_nil] at hy))
        | (refine WPV.drawK (M := noM) (by kernel_rfl) (by kernel_rfl) ?_; intro N hN; have hy := yieldedV_eq)
        | (refine WPV.condK ?_; intro A hA B hB)
        | ((with_reducible first | refine opsV.here ?_ | refine guardO.here ?_ | refine resO.here ?_ | refine drawV.here ?_ | refine guardD.here ?_ | refine stepO.here ?_ | refine brO.here ?_ | refine condV.here ?_); simp (config := {contextual := true, maxSteps := 1000000}) only [hy, hz, go_sem, reduceCtorEq, Nat.reduceAdd, Nat.reduceSub, Nat.reduceMul, Nat.reduceLT, Nat.reduceLeDiff, Int.reduceLT, Int.reduceLE, Int.reduceEq, Int.reduceNe, Int.reduceAdd, Int.reduceSub, Int.reduceMul, Int.reduceToNat, Int.reduceNeg, Int.reducePow, Nat.reducePow, Nat.reduceEqDiff, Nat.reduceBEq, Int.reduceBEq, Int.reduceBNe, Int.reduceNegSucc, q0])
        | (refine And.intro (by kernel_rfl : okOrd _ _ = true) ?_)
        | refine Both.mk ?_ ?_
        | ((with_reducible refine CallO.gd 43 ?_); refine CallO.frA [2, 0, 1, 3] Tryd.call43 (hs) ?_)
        | (first | refine hN _ ?_ | (clear hN N; refine hN _ ?_) | (iterate 2 clear hN N); refine hN _ ?_ | (iterate 3 clear hN N); refine hN _ ?_ | (iterate 4 clear hN N); refine hN _ ?_ | (iterate 5 clear hN N); refine hN _ ?_); try clear hN N; try clear hy ops
        | (refine hA ?_; clear hA A hB B; try simp only [hz])
        | (refine hB ?_; clear hA A hB B; try simp only [hz])
        | ((first | refine guardO.mk (fun hz => ?_) (fun hz => ?_) | refine guardD.mk (fun hz => ?_) (fun hz => ?_) | refine Br.mk (fun hz => ?_) (fun hz => ?_)) <;> (have h := hz; try simp only [decide_eq_true_eq, decide_eq_false_iff_not, Int.not_lt, Int.not_le, beq_iff_eq, beq_eq_false_iff_ne, bne_iff_ne, bne_eq_false_iff_eq, ne_eq, Bool.not_eq_true', Bool.not_eq_false', Decidable.not_not] at h) <;> (try (exfalso; omega)) <;> (try simp only [Bool.not_eq_true', Bool.not_eq_false', beq_true, beq_false] at hz))
        | ((first | rw [if_pos (show _ ∧ _ from ⟨by omega, by omega⟩)] | rw [if_pos (show _ ∧ _ from by simp only [List.length_append, List.length_cons, List.length_nil]; exact ⟨by omega, by omega⟩)]); simp (config := {contextual := true, maxSteps := 1000000}) only [hy, hz, go_sem, reduceCtorEq, Nat.reduceAdd, Nat.reduceSub, Nat.reduceMul, Nat.reduceLT, Nat.reduceLeDiff, Int.reduceLT, Int.reduceLE, Int.reduceEq, Int.reduceNe, Int.reduceAdd, Int.reduceSub, Int.reduceMul, Int.reduceToNat, Int.reduceNeg, Int.reducePow, Nat.reducePow, Nat.reduceEqDiff, Nat.reduceBEq, Int.reduceBEq, Int.reduceBNe, Int.reduceNegSucc, q0])
        | (simp only [thenV, blockV, if_true, if_false, Nat.reduceEqDiff, reduceCtorEq, imp_self]))
    all_goals (first | exact retA hQ Tryd.results15 (Desc.re [] rfl) | exact retN hQ Tryd.results15 (Desc.re [] rfl))
  rw [if_neg hu] at h4
  obtain ⟨p, n, e, hx⟩ : ∃ p n e, nextF (b.drop used) = (p, n, e) := ⟨_, _, _, rfl⟩
  have hnl := nextF_len (b.drop used)
  rw [hx] at h4 hnl
  dsimp only at h4 hnl
  rw [List.length_drop] at hnl
  by_cases he : e ≠ 0
  · rw [if_pos he] at h4
    rw [h4] at hQ
    have hs := scan1_err hK b out used p n e hl (by omega) hx he
    unfold sbx at hs
    clear H
    refine loopV ?_
    have hz : True := trivial
    have hy := yieldedV_eq
    repeat' (first
        | (refine WPV.seqK ?_; intro N hN)
        | refine WPV.block ?_
        | refine WPV.scope ?_
        | refine WPV.skip ?_
        | refine WPV.label ?_
        | refine WPV.exit ?_
        | refine WPV.ret ?_
        | (refine WPV.regionG (M := noM) ?_; intro N hN ops hy; (try simp only [List.append] at hy ⊢); (try simp only [List.map_cons, List.map_nil] at hy))
        | (refine WPV.drawK (M := noM) (by kernel_rfl) (by kernel_rfl) ?_; intro N hN; have hy := yieldedV_eq)
        | (refine WPV.condK ?_; intro A hA B hB)
        | ((with_reducible first | refine opsV.here ?_ | refine guardO.here ?_ | refine resO.here ?_ | refine drawV.here ?_ | refine guardD.here ?_ | refine stepO.here ?_ | refine brO.here ?_ | refine condV.here ?_); simp (config := {contextual := true, maxSteps := 1000000}) only [hy, hz, go_sem, reduceCtorEq, Nat.reduceAdd, Nat.reduceSub, Nat.reduceMul, Nat.reduceLT, Nat.reduceLeDiff, Int.reduceLT, Int.reduceLE, Int.reduceEq, Int.reduceNe, Int.reduceAdd, Int.reduceSub, Int.reduceMul, Int.reduceToNat, Int.reduceNeg, Int.reducePow, Nat.reducePow, Nat.reduceEqDiff, Nat.reduceBEq, Int.reduceBEq, Int.reduceBNe, Int.reduceNegSucc, q0])
        | (refine And.intro (by kernel_rfl : okOrd _ _ = true) ?_)
        | refine Both.mk ?_ ?_
        | ((with_reducible refine CallO.gd 43 ?_); refine CallO.frA [2, 0, 1, 3] Tryd.call43 (hs) ?_)
        | (first | refine hN _ ?_ | (clear hN N; refine hN _ ?_) | (iterate 2 clear hN N); refine hN _ ?_ | (iterate 3 clear hN N); refine hN _ ?_ | (iterate 4 clear hN N); refine hN _ ?_ | (iterate 5 clear hN N); refine hN _ ?_); try clear hN N; try clear hy ops
        | (refine hA ?_; clear hA A hB B; try simp only [hz])
        | (refine hB ?_; clear hA A hB B; try simp only [hz])
        | ((first | refine guardO.mk (fun hz => ?_) (fun hz => ?_) | refine guardD.mk (fun hz => ?_) (fun hz => ?_) | refine Br.mk (fun hz => ?_) (fun hz => ?_)) <;> (have h := hz; try simp only [decide_eq_true_eq, decide_eq_false_iff_not, Int.not_lt, Int.not_le, beq_iff_eq, beq_eq_false_iff_ne, bne_iff_ne, bne_eq_false_iff_eq, ne_eq, Bool.not_eq_true', Bool.not_eq_false', Decidable.not_not] at h) <;> (try (exfalso; omega)) <;> (try simp only [Bool.not_eq_true', Bool.not_eq_false', beq_true, beq_false] at hz))
        | ((first | rw [if_pos (show _ ∧ _ from ⟨by omega, by omega⟩)] | rw [if_pos (show _ ∧ _ from by simp only [List.length_append, List.length_cons, List.length_nil]; exact ⟨by omega, by omega⟩)]); simp (config := {contextual := true, maxSteps := 1000000}) only [hy, hz, go_sem, reduceCtorEq, Nat.reduceAdd, Nat.reduceSub, Nat.reduceMul, Nat.reduceLT, Nat.reduceLeDiff, Int.reduceLT, Int.reduceLE, Int.reduceEq, Int.reduceNe, Int.reduceAdd, Int.reduceSub, Int.reduceMul, Int.reduceToNat, Int.reduceNeg, Int.reducePow, Nat.reducePow, Nat.reduceEqDiff, Nat.reduceBEq, Int.reduceBEq, Int.reduceBNe, Int.reduceNegSucc, q0])
        | (simp only [thenV, blockV, if_true, if_false, Nat.reduceEqDiff, reduceCtorEq, imp_self]))
    all_goals (first | exact retA hQ Tryd.results15 (Desc.re [] rfl) | exact retN hQ Tryd.results15 (Desc.re [] rfl))
  rw [if_neg he] at h4
  have he0 : e = 0 := Decidable.not_not.1 he
  subst he0
  have hs := scan1_ok hK b out used p n hl (by omega) hx (by omega)
  unfold sbx at hs
  have hn5 := hnl.2 rfl
  have H' := H (out ++ [p], used + n) ⟨by dsimp only; omega, by simp; omega, k, by dsimp only; omega, h4⟩ (by dsimp only; omega)
  clear H
  dsimp only at H'
  refine loopV ?_
  have hz : True := trivial
  have hy := yieldedV_eq
  repeat' (first
      | (refine WPV.seqK ?_; intro N hN)
      | refine WPV.block ?_
      | refine WPV.scope ?_
      | refine WPV.skip ?_
      | refine WPV.label ?_
      | refine WPV.exit ?_
      | refine WPV.ret ?_
      | (refine WPV.regionG (M := noM) ?_; intro N hN ops hy; (try simp only [List.append] at hy ⊢); (try simp only [List.map_cons, List.map_nil] at hy))
      | (refine WPV.drawK (M := noM) (by kernel_rfl) (by kernel_rfl) ?_; intro N hN; have hy := yieldedV_eq)
      | (refine WPV.condK ?_; intro A hA B hB)
      | ((with_reducible first | refine opsV.here ?_ | refine guardO.here ?_ | refine resO.here ?_ | refine drawV.here ?_ | refine guardD.here ?_ | refine stepO.here ?_ | refine brO.here ?_ | refine condV.here ?_); simp (config := {contextual := true, maxSteps := 1000000}) only [hy, hz, go_sem, reduceCtorEq, Nat.reduceAdd, Nat.reduceSub, Nat.reduceMul, Nat.reduceLT, Nat.reduceLeDiff, Int.reduceLT, Int.reduceLE, Int.reduceEq, Int.reduceNe, Int.reduceAdd, Int.reduceSub, Int.reduceMul, Int.reduceToNat, Int.reduceNeg, Int.reducePow, Nat.reducePow, Nat.reduceEqDiff, Nat.reduceBEq, Int.reduceBEq, Int.reduceBNe, Int.reduceNegSucc, q0])
      | (refine And.intro (by kernel_rfl : okOrd _ _ = true) ?_)
      | refine Both.mk ?_ ?_
      | ((with_reducible refine CallO.gd 43 ?_); refine CallO.frA [2, 0, 1, 3] Tryd.call43 (hs) ?_)
      | (first | refine hN _ ?_ | (clear hN N; refine hN _ ?_) | (iterate 2 clear hN N); refine hN _ ?_ | (iterate 3 clear hN N); refine hN _ ?_ | (iterate 4 clear hN N); refine hN _ ?_ | (iterate 5 clear hN N); refine hN _ ?_); try clear hN N; try clear hy ops
      | (refine hA ?_; clear hA A hB B; try simp only [hz])
      | (refine hB ?_; clear hA A hB B; try simp only [hz])
      | ((first | refine guardO.mk (fun hz => ?_) (fun hz => ?_) | refine guardD.mk (fun hz => ?_) (fun hz => ?_) | refine Br.mk (fun hz => ?_) (fun hz => ?_)) <;> (have h := hz; try simp only [decide_eq_true_eq, decide_eq_false_iff_not, Int.not_lt, Int.not_le, beq_iff_eq, beq_eq_false_iff_ne, bne_iff_ne, bne_eq_false_iff_eq, ne_eq, Bool.not_eq_true', Bool.not_eq_false', Decidable.not_not] at h) <;> (try (exfalso; omega)) <;> (try simp only [Bool.not_eq_true', Bool.not_eq_false', beq_true, beq_false] at hz))
      | ((first | rw [if_pos (show _ ∧ _ from ⟨by omega, by omega⟩)] | rw [if_pos (show _ ∧ _ from by simp only [List.length_append, List.length_cons, List.length_nil]; exact ⟨by omega, by omega⟩)]); simp (config := {contextual := true, maxSteps := 1000000}) only [hy, hz, go_sem, reduceCtorEq, Nat.reduceAdd, Nat.reduceSub, Nat.reduceMul, Nat.reduceLT, Nat.reduceLeDiff, Int.reduceLT, Int.reduceLE, Int.reduceEq, Int.reduceNe, Int.reduceAdd, Int.reduceSub, Int.reduceMul, Int.reduceToNat, Int.reduceNeg, Int.reducePow, Nat.reducePow, Nat.reduceEqDiff, Nat.reduceBEq, Int.reduceBEq, Int.reduceBNe, Int.reduceNegSucc, q0])
      | (simp only [thenV, blockV, if_true, if_false, Nat.reduceEqDiff, reduceCtorEq, imp_self]))
  exact WPV.desc ((Desc.re [some 0, some 1, some 2, some 4] rfl).trans Desc.weakA) H'
/-! All -/
theorem wrap_e (hK : KT K) {p f : List UInt8} {e : Int} (hl : p.length ≤ 100000000) (h : wrapF p = (f, e)) : Sp Tryd.prog K 11 [.sl 1 (bs p)] [] fun u hh => u = .tup [.sl 1 (bs f), .sc (.int .i64 e)] ∧ hh = [] := by
  have := wrap_s hK p hl []
  rwa [h] at this
set_option maxRecDepth 100000 in
set_option maxHeartbeats 1000000 in
theorem all_s (hK : KT K) (l : List (List UInt8)) (hl : l.length ≤ 1000000) (hp : ∀ p ∈ l, p.length ≤ 100000000) (h : List Ho) : Sp Tryd.prog K 17 [.sl 1 (rs l)] h fun u hh => u = byV (allF l) ∧ hh = h := by
  refine Sp.pure_ (R := fun u hh => Wk [u] [byV (allF l)]) ?_ (fun _ => rfl) (fun _ => rfl) (fun v h e => e) h
  have q0 : True := trivial
  have q1 : True := trivial
  have q2 : True := trivial
  have q3 : True := trivial
  refine Sp.of_bodyD Tryd.func17 rfl ?_
  intro Q hQ
  simp only [List.replicate, List.length_cons, List.length_nil, Tryd.ntmps17, Nat.reduceAdd, Nat.reduceSub, List.cons_append, List.nil_append, go_sem]
  have hz : True := trivial
  have hy := yieldedV_eq
  repeat' (first
      | (refine WPV.seqK ?_; intro N hN)
      | refine WPV.block ?_
      | refine WPV.scope ?_
      | refine WPV.skip ?_
      | refine WPV.label ?_
      | refine WPV.exit ?_
      | refine WPV.ret ?_
      | (refine WPV.regionG (M := noM) ?_; intro N hN ops hy; (try simp only [List.append] at hy ⊢); (try simp only [List.map_cons, List.map_nil] at hy))
      | (refine WPV.drawK (M := noM) (by kernel_rfl) (by kernel_rfl) ?_; intro N hN; have hy := yieldedV_eq)
      | (refine WPV.condK ?_; intro A hA B hB)
      | ((with_reducible first | refine opsV.here ?_ | refine guardO.here ?_ | refine resO.here ?_ | refine drawV.here ?_ | refine guardD.here ?_ | refine stepO.here ?_ | refine brO.here ?_ | refine condV.here ?_); simp (config := {contextual := true, maxSteps := 1000000}) only [hy, hz, go_sem, reduceCtorEq, Nat.reduceAdd, Nat.reduceSub, Nat.reduceMul, Nat.reduceLT, Nat.reduceLeDiff, Int.reduceLT, Int.reduceLE, Int.reduceEq, Int.reduceNe, Int.reduceAdd, Int.reduceSub, Int.reduceMul, Int.reduceToNat, Int.reduceNeg, Int.reducePow, Nat.reducePow, Nat.reduceEqDiff, Nat.reduceBEq, Int.reduceBEq, Int.reduceBNe, Int.reduceNegSucc, q0, q1, q2, q3])
      | (refine And.intro (by kernel_rfl : okOrd _ _ = true) ?_)
      | refine Both.mk ?_ ?_
      | (first | refine hN _ ?_ | (clear hN N; refine hN _ ?_) | (iterate 2 clear hN N); refine hN _ ?_ | (iterate 3 clear hN N); refine hN _ ?_ | (iterate 4 clear hN N); refine hN _ ?_ | (iterate 5 clear hN N); refine hN _ ?_); try clear hN N; try clear hy ops
      | (refine hA ?_; clear hA A hB B; try simp only [hz])
      | (refine hB ?_; clear hA A hB B; try simp only [hz])
      | ((first | refine guardO.mk (fun hz => ?_) (fun hz => ?_) | refine guardD.mk (fun hz => ?_) (fun hz => ?_) | refine Br.mk (fun hz => ?_) (fun hz => ?_)) <;> (have h := hz; try simp only [decide_eq_true_eq, decide_eq_false_iff_not, Int.not_lt, Int.not_le, beq_iff_eq, beq_eq_false_iff_ne, bne_iff_ne, bne_eq_false_iff_eq, ne_eq, Bool.not_eq_true', Bool.not_eq_false', Decidable.not_not] at h) <;> (try (exfalso; omega)) <;> (try simp only [Bool.not_eq_true', Bool.not_eq_false', beq_true, beq_false] at hz))
      | ((first | rw [if_pos (show _ ∧ _ from ⟨by omega, by omega⟩)] | rw [if_pos (show _ ∧ _ from by simp only [List.length_append, List.length_cons, List.length_nil]; exact ⟨by omega, by omega⟩)]); simp (config := {contextual := true, maxSteps := 1000000}) only [hy, hz, go_sem, reduceCtorEq, Nat.reduceAdd, Nat.reduceSub, Nat.reduceMul, Nat.reduceLT, Nat.reduceLeDiff, Int.reduceLT, Int.reduceLE, Int.reduceEq, Int.reduceNe, Int.reduceAdd, Int.reduceSub, Int.reduceMul, Int.reduceToNat, Int.reduceNeg, Int.reducePow, Nat.reducePow, Nat.reduceEqDiff, Nat.reduceBEq, Int.reduceBEq, Int.reduceBNe, Int.reduceNegSucc, q0, q1, q2, q3])
      | (simp only [thenV, blockV, if_true, if_false, Nat.reduceEqDiff, reduceCtorEq, imp_self]))
  refine WPV.desc ((Desc.own0 (es := []) 4 1 rfl (.inr ⟨rfl, rfl⟩)).trans (Desc.weakA (tm' := [.any, .any, .any, .any, .own 1 (bs []) 0, .any, .any, .any, .any, .sl 1 (rs l), .sc (.int .i64 (l.length : Int)), .sc (.int .i64 ((0 : Nat) : Int)), .any, .any, .any, .any, .any, .any, .any, .any, .any, .any, .any, .any, .any, .any, .any, .any]) (h' := [.tail]))) ?_
  refine WPV.loopA (α := Nat × List UInt8) (fun s => l.length - s.1) (fun s => ⟨[.any, .any, .any, .any, .own 1 (bs s.2) 0, .any, .any, .any, .any, .sl 1 (rs l), .sc (.int .i64 (l.length : Int)), .sc (.int .i64 ((s.1 : Nat) : Int)), .any, .any, .any, .any, .any, .any, .any, .any, .any, .any, .any, .any, .any, .any, .any, .any], [.tail]⟩) (fun s => s.1 ≤ l.length ∧ s.2.length ≤ 9000 * s.1 ∧ allF l = allN (l.drop s.1) s.2) (fun s hJ H => ?_) (0, []) ⟨Nat.zero_le _, Nat.zero_le _, rfl⟩
  obtain ⟨k, b⟩ := s
  obtain ⟨hk0, hb, hJ⟩ := hJ
  dsimp only at hk0 hb hJ H ⊢
  by_cases h : k < l.length
  · have q0 : ((k : Int) < (l.length : Int)) = True := eq_true (by omega)
    have q1 : l[k]? = some l[k] := List.getElem?_eq_getElem h
    have hpl := hp l[k] (List.getElem_mem h)
    rw [List.drop_eq_getElem_cons h] at hJ
    generalize l[k] = p at q1 hpl hJ
    have q2 : IntKind.i64.wrap ((k : Int) + 1) = ((k + 1 : Nat) : Int) := by rw [wr_i64 (by omega) (by omega)]; rfl
    obtain ⟨f, e, hf⟩ : ∃ f e, wrapF p = (f, e) := ⟨_, _, rfl⟩
    have hfl := wrapF_len p
    have hw := (wrap_e hK hpl hf).lift (fun _ => rfl) (fun _ => rfl)
    unfold allN at hJ
    rw [hf] at hJ hfl
    dsimp only at hJ hfl
    by_cases he : e ≠ 0
    · have q3 : (e != 0) = true := by simpa using he
      rw [if_pos he] at hJ
      rw [hJ] at hQ
      clear H
      refine loopV ?_
      have hz : True := trivial
      have hy := yieldedV_eq
      repeat' (first
          | (refine WPV.seqK ?_; intro N hN)
          | refine WPV.block ?_
          | refine WPV.scope ?_
          | refine WPV.skip ?_
          | refine WPV.label ?_
          | refine WPV.exit ?_
          | refine WPV.ret ?_
          | (refine WPV.regionG (M := noM) ?_; intro N hN ops hy; (try simp only [List.append] at hy ⊢); (try simp only [List.map_cons, List.map_nil] at hy))
          | (refine WPV.drawK (M := noM) (by kernel_rfl) (by kernel_rfl) ?_; intro N hN; have hy := yieldedV_eq)
          | (refine WPV.condK ?_; intro A hA B hB)
          | ((with_reducible first | refine opsV.here ?_ | refine guardO.here ?_ | refine resO.here ?_ | refine drawV.here ?_ | refine guardD.here ?_ | refine stepO.here ?_ | refine brO.here ?_ | refine condV.here ?_); simp (config := {contextual := true, maxSteps := 1000000}) only [hy, hz, go_sem, reduceCtorEq, Nat.reduceAdd, Nat.reduceSub, Nat.reduceMul, Nat.reduceLT, Nat.reduceLeDiff, Int.reduceLT, Int.reduceLE, Int.reduceEq, Int.reduceNe, Int.reduceAdd, Int.reduceSub, Int.reduceMul, Int.reduceToNat, Int.reduceNeg, Int.reducePow, Nat.reducePow, Nat.reduceEqDiff, Nat.reduceBEq, Int.reduceBEq, Int.reduceBNe, Int.reduceNegSucc, q0, q1, q2, q3])
          | (refine And.intro (by kernel_rfl : okOrd _ _ = true) ?_)
          | refine Both.mk ?_ ?_
          | ((with_reducible refine CallO.gd 11 ?_); refine CallO.toA Tryd.call11 (hw _) ?_)
          | ((with_reducible refine CallP.gd 11 ?_); refine CallP.toA Tryd.call11 (hw _) ?_)
          | (first | refine hN _ ?_ | (clear hN N; refine hN _ ?_) | (iterate 2 clear hN N); refine hN _ ?_ | (iterate 3 clear hN N); refine hN _ ?_ | (iterate 4 clear hN N); refine hN _ ?_ | (iterate 5 clear hN N); refine hN _ ?_); try clear hN N; try clear hy ops
          | (refine hA ?_; clear hA A hB B; try simp only [hz])
          | (refine hB ?_; clear hA A hB B; try simp only [hz])
          | ((first | refine guardO.mk (fun hz => ?_) (fun hz => ?_) | refine guardD.mk (fun hz => ?_) (fun hz => ?_) | refine Br.mk (fun hz => ?_) (fun hz => ?_)) <;> (have h := hz; try simp only [decide_eq_true_eq, decide_eq_false_iff_not, Int.not_lt, Int.not_le, beq_iff_eq, beq_eq_false_iff_ne, bne_iff_ne, bne_eq_false_iff_eq, ne_eq, Bool.not_eq_true', Bool.not_eq_false', Decidable.not_not] at h) <;> (try (exfalso; omega)) <;> (try simp only [Bool.not_eq_true', Bool.not_eq_false', beq_true, beq_false] at hz))
          | ((first | rw [if_pos (show _ ∧ _ from ⟨by omega, by omega⟩)] | rw [if_pos (show _ ∧ _ from by simp only [List.length_append, List.length_cons, List.length_nil]; exact ⟨by omega, by omega⟩)]); simp (config := {contextual := true, maxSteps := 1000000}) only [hy, hz, go_sem, reduceCtorEq, Nat.reduceAdd, Nat.reduceSub, Nat.reduceMul, Nat.reduceLT, Nat.reduceLeDiff, Int.reduceLT, Int.reduceLE, Int.reduceEq, Int.reduceNe, Int.reduceAdd, Int.reduceSub, Int.reduceMul, Int.reduceToNat, Int.reduceNeg, Int.reducePow, Nat.reducePow, Nat.reduceEqDiff, Nat.reduceBEq, Int.reduceBEq, Int.reduceBNe, Int.reduceNegSucc, q0, q1, q2, q3])
          | (simp only [thenV, blockV, if_true, if_false, Nat.reduceEqDiff, reduceCtorEq, imp_self]))
      all_goals (apply And.right; refine hQ _ _ _ Desc.refl ?_ (Wk.tupC (Wk.null Wk.refl) Wk.nil))
      · (first | (simp only [go_sem, reduceCtorEq, Nat.reduceAdd, Nat.reduceSub, Nat.reduceMul, Nat.reduceLT, Nat.reduceLeDiff, Int.reduceLT, Int.reduceLE, Int.reduceEq, Int.reduceNe, Int.reduceAdd, Int.reduceSub, Int.reduceMul, Int.reduceToNat, Int.reduceNeg, Int.reducePow, Nat.reducePow, Nat.reduceEqDiff, Nat.reduceBEq, Int.reduceBEq, Int.reduceBNe, Int.reduceNegSucc, Tryd.results17]; done) | (simp only [go_sem, reduceCtorEq, Nat.reduceAdd, Nat.reduceSub, Nat.reduceMul, Nat.reduceLT, Nat.reduceLeDiff, Int.reduceLT, Int.reduceLE, Int.reduceEq, Int.reduceNe, Int.reduceAdd, Int.reduceSub, Int.reduceMul, Int.reduceToNat, Int.reduceNeg, Int.reducePow, Nat.reducePow, Nat.reduceEqDiff, Nat.reduceBEq, Int.reduceBEq, Int.reduceBNe, Int.reduceNegSucc, Tryd.results17]; rfl) | rfl)
    · have he0 : e = 0 := Decidable.not_not.1 he
      subst he0
      have q3 : ((0 : Int) != 0) = false := rfl
      rw [if_neg he] at hJ
      have H' := H (k + 1, b ++ f) ⟨by dsimp only; omega, by simp; omega, hJ⟩ (by dsimp only; omega)
      clear H
      dsimp only at H'
      refine loopV ?_
      have hz : True := trivial
      have hy := yieldedV_eq
      repeat' (first
          | (refine WPV.seqK ?_; intro N hN)
          | refine WPV.block ?_
          | refine WPV.scope ?_
          | refine WPV.skip ?_
          | refine WPV.label ?_
          | refine WPV.exit ?_
          | refine WPV.ret ?_
          | (refine WPV.regionG (M := noM) ?_; intro N hN ops hy; (try simp only [List.append] at hy ⊢); (try simp only [List.map_cons, List.map_nil] at hy))
          | (refine WPV.drawK (M := noM) (by kernel_rfl) (by kernel_rfl) ?_; intro N hN; have hy := yieldedV_eq)
          | (refine WPV.condK ?_; intro A hA B hB)
          | ((with_reducible first | refine opsV.here ?_ | refine guardO.here ?_ | refine resO.here ?_ | refine drawV.here ?_ | refine guardD.here ?_ | refine stepO.here ?_ | refine brO.here ?_ | refine condV.here ?_); simp (config := {contextual := true, maxSteps := 1000000}) only [hy, hz, go_sem, reduceCtorEq, Nat.reduceAdd, Nat.reduceSub, Nat.reduceMul, Nat.reduceLT, Nat.reduceLeDiff, Int.reduceLT, Int.reduceLE, Int.reduceEq, Int.reduceNe, Int.reduceAdd, Int.reduceSub, Int.reduceMul, Int.reduceToNat, Int.reduceNeg, Int.reducePow, Nat.reducePow, Nat.reduceEqDiff, Nat.reduceBEq, Int.reduceBEq, Int.reduceBNe, Int.reduceNegSucc, q0, q1, q2, q3])
          | (refine And.intro (by kernel_rfl : okOrd _ _ = true) ?_)
          | refine Both.mk ?_ ?_
          | ((with_reducible refine CallO.gd 11 ?_); refine CallO.toA Tryd.call11 (hw _) ?_)
          | ((with_reducible refine CallP.gd 11 ?_); refine CallP.toA Tryd.call11 (hw _) ?_)
          | (first | refine hN _ ?_ | (clear hN N; refine hN _ ?_) | (iterate 2 clear hN N); refine hN _ ?_ | (iterate 3 clear hN N); refine hN _ ?_ | (iterate 4 clear hN N); refine hN _ ?_ | (iterate 5 clear hN N); refine hN _ ?_); try clear hN N; try clear hy ops
          | (refine hA ?_; clear hA A hB B; try simp only [hz])
          | (refine hB ?_; clear hA A hB B; try simp only [hz])
          | ((first | refine guardO.mk (fun hz => ?_) (fun hz => ?_) | refine guardD.mk (fun hz => ?_) (fun hz => ?_) | refine Br.mk (fun hz => ?_) (fun hz => ?_)) <;> (have h := hz; try simp only [decide_eq_true_eq, decide_eq_false_iff_not, Int.not_lt, Int.not_le, beq_iff_eq, beq_eq_false_iff_ne, bne_iff_ne, bne_eq_false_iff_eq, ne_eq, Bool.not_eq_true', Bool.not_eq_false', Decidable.not_not] at h) <;> (try (exfalso; omega)) <;> (try simp only [Bool.not_eq_true', Bool.not_eq_false', beq_true, beq_false] at hz))
          | ((first | rw [if_pos (show _ ∧ _ from ⟨by omega, by omega⟩)] | rw [if_pos (show _ ∧ _ from by simp only [List.length_append, List.length_cons, List.length_nil]; exact ⟨by omega, by omega⟩)]); simp (config := {contextual := true, maxSteps := 1000000}) only [hy, hz, go_sem, reduceCtorEq, Nat.reduceAdd, Nat.reduceSub, Nat.reduceMul, Nat.reduceLT, Nat.reduceLeDiff, Int.reduceLT, Int.reduceLE, Int.reduceEq, Int.reduceNe, Int.reduceAdd, Int.reduceSub, Int.reduceMul, Int.reduceToNat, Int.reduceNeg, Int.reducePow, Nat.reducePow, Nat.reduceEqDiff, Nat.reduceBEq, Int.reduceBEq, Int.reduceBNe, Int.reduceNegSucc, q0, q1, q2, q3])
          | (simp only [thenV, blockV, if_true, if_false, Nat.reduceEqDiff, reduceCtorEq, imp_self]))
      exact WPV.desc ((Desc.re [some 1] rfl).trans Desc.weakA) H'
  obtain rfl : k = l.length := by omega
  clear H
  rw [List.drop_length] at hJ
  unfold allN at hJ
  rw [hJ] at hQ
  have q0 : ((l.length : Int) < (l.length : Int)) = False := by simp
  refine loopV ?_
  have hz : True := trivial
  have hy := yieldedV_eq
  repeat' (first
      | (refine WPV.seqK ?_; intro N hN)
      | refine WPV.block ?_
      | refine WPV.scope ?_
      | refine WPV.skip ?_
      | refine WPV.label ?_
      | refine WPV.exit ?_
      | refine WPV.ret ?_
      | (refine WPV.regionG (M := noM) ?_; intro N hN ops hy; (try simp only [List.append] at hy ⊢); (try simp only [List.map_cons, List.map_nil] at hy))
      | (refine WPV.drawK (M := noM) (by kernel_rfl) (by kernel_rfl) ?_; intro N hN; have hy := yieldedV_eq)
      | (refine WPV.condK ?_; intro A hA B hB)
      | ((with_reducible first | refine opsV.here ?_ | refine guardO.here ?_ | refine resO.here ?_ | refine drawV.here ?_ | refine guardD.here ?_ | refine stepO.here ?_ | refine brO.here ?_ | refine condV.here ?_); simp (config := {contextual := true, maxSteps := 1000000}) only [hy, hz, go_sem, reduceCtorEq, Nat.reduceAdd, Nat.reduceSub, Nat.reduceMul, Nat.reduceLT, Nat.reduceLeDiff, Int.reduceLT, Int.reduceLE, Int.reduceEq, Int.reduceNe, Int.reduceAdd, Int.reduceSub, Int.reduceMul, Int.reduceToNat, Int.reduceNeg, Int.reducePow, Nat.reducePow, Nat.reduceEqDiff, Nat.reduceBEq, Int.reduceBEq, Int.reduceBNe, Int.reduceNegSucc, q0, q1, q2, q3])
      | (refine And.intro (by kernel_rfl : okOrd _ _ = true) ?_)
      | refine Both.mk ?_ ?_
      | (first | refine hN _ ?_ | (clear hN N; refine hN _ ?_) | (iterate 2 clear hN N); refine hN _ ?_ | (iterate 3 clear hN N); refine hN _ ?_ | (iterate 4 clear hN N); refine hN _ ?_ | (iterate 5 clear hN N); refine hN _ ?_); try clear hN N; try clear hy ops
      | (refine hA ?_; clear hA A hB B; try simp only [hz])
      | (refine hB ?_; clear hA A hB B; try simp only [hz])
      | ((first | refine guardO.mk (fun hz => ?_) (fun hz => ?_) | refine guardD.mk (fun hz => ?_) (fun hz => ?_) | refine Br.mk (fun hz => ?_) (fun hz => ?_)) <;> (have h := hz; try simp only [decide_eq_true_eq, decide_eq_false_iff_not, Int.not_lt, Int.not_le, beq_iff_eq, beq_eq_false_iff_ne, bne_iff_ne, bne_eq_false_iff_eq, ne_eq, Bool.not_eq_true', Bool.not_eq_false', Decidable.not_not] at h) <;> (try (exfalso; omega)) <;> (try simp only [Bool.not_eq_true', Bool.not_eq_false', beq_true, beq_false] at hz))
      | ((first | rw [if_pos (show _ ∧ _ from ⟨by omega, by omega⟩)] | rw [if_pos (show _ ∧ _ from by simp only [List.length_append, List.length_cons, List.length_nil]; exact ⟨by omega, by omega⟩)]); simp (config := {contextual := true, maxSteps := 1000000}) only [hy, hz, go_sem, reduceCtorEq, Nat.reduceAdd, Nat.reduceSub, Nat.reduceMul, Nat.reduceLT, Nat.reduceLeDiff, Int.reduceLT, Int.reduceLE, Int.reduceEq, Int.reduceNe, Int.reduceAdd, Int.reduceSub, Int.reduceMul, Int.reduceToNat, Int.reduceNeg, Int.reducePow, Nat.reducePow, Nat.reduceEqDiff, Nat.reduceBEq, Int.reduceBEq, Int.reduceBNe, Int.reduceNegSucc, q0, q1, q2, q3])
      | (simp only [thenV, blockV, if_true, if_false, Nat.reduceEqDiff, reduceCtorEq, imp_self]))
  all_goals (apply And.right; refine hQ _ _ _ Desc.refl ?_ (Wk.tupC (Wk.own (k := 1) (t := 0) Wk.refl) Wk.nil))
  · (first | (simp only [go_sem, reduceCtorEq, Nat.reduceAdd, Nat.reduceSub, Nat.reduceMul, Nat.reduceLT, Nat.reduceLeDiff, Int.reduceLT, Int.reduceLE, Int.reduceEq, Int.reduceNe, Int.reduceAdd, Int.reduceSub, Int.reduceMul, Int.reduceToNat, Int.reduceNeg, Int.reducePow, Nat.reducePow, Nat.reduceEqDiff, Nat.reduceBEq, Int.reduceBEq, Int.reduceBNe, Int.reduceNegSucc, Tryd.results17]; done) | (simp only [go_sem, reduceCtorEq, Nat.reduceAdd, Nat.reduceSub, Nat.reduceMul, Nat.reduceLT, Nat.reduceLeDiff, Int.reduceLT, Int.reduceLE, Int.reduceEq, Int.reduceNe, Int.reduceAdd, Int.reduceSub, Int.reduceMul, Int.reduceToNat, Int.reduceNeg, Int.reducePow, Nat.reducePow, Nat.reduceEqDiff, Nat.reduceBEq, Int.reduceBEq, Int.reduceBNe, Int.reduceNegSucc, Tryd.results17]; rfl) | rfl)
end
end Go.Proofs.YtonllhjmoenckaaDoor
