/- Walks: FrameBack. -/
import Derived.Test.YtonllhjmoenckaaDoorFrmX
import Derived.Test.YtonllhjmoenckaaDoorFrmG
namespace Go.Proofs.YtonllhjmoenckaaDoor
open Go Go.RowKit
set_option linter.unusedVariables false
set_option linter.unusedSimpArgs false
variable {K : Nat → Obj → Prop}

theorem scanN_le (b : List UInt8) (k : Nat) : ∀ out used, (scanN b k out used).1.length ≤ out.length + k := by
  induction k with
  | zero => intro out used; simp [scanN]
  | succ k ih =>
    intro out used
    unfold scanN
    split
    · simp
    · split
      · simp
      · have := ih (out ++ [(nextF (b.drop used)).1]) (used + (nextF (b.drop used)).2.1)
        simp at this ⊢; omega
theorem scanF_le (b : List UInt8) : (scanF b).1.length ≤ b.length + 1 := by
  have := scanN_le b (b.length + 1) [] 0
  simpa [scanF] using this

theorem frow_le (m : List (List UInt8)) : (frow m).length ≤ 9000 * m.length := by
  induction m with
  | nil => simp [frow]
  | cons p m ih => have := wrapF_len p; rw [frow_cons, List.length_append, List.length_cons]; omega
theorem take_snoc {α : Type} {l : List α} {k : Nat} {x : α} (h : l[k]? = some x) : l.take (k + 1) = l.take k ++ [x] := by
  rw [List.take_add_one, h]; rfl
set_option maxRecDepth 100000 in
set_option maxHeartbeats 4000000 in
theorem fback_s (hK : KT K) (l : List (List UInt8)) (a : Nat) (ha : a < 65536) (q : List UInt8) (hl : l.length ≤ 9223372036854775807) : Sp Tryd.prog K 4 [.sl 1 (rs l), .sc (.int .u16 (a : Int)), .sl 1 (bs q)] [] fun u hh => u = .sc (.bool true) ∧ hh = [] := by
  have cl := flarge_s (K := K) l hl
  have q1 : True := trivial
  have q2 : True := trivial
  have q3 : True := trivial
  have q4 : True := trivial
  have q5 : True := trivial
  have q6 : True := trivial
  have q7 : True := trivial
  have q8 : True := trivial
  have c1 := cl
  have c2 := cl
  have c4 := cl
  have c5 := cl
  have hs3 : (0 : Nat) ≤ 1000000000 := by omega
  by_cases h2 : flarge l = true
  · rw [h2] at cl
    have q0 : True := trivial
    refine Sp.of_bodyD Tryd.func4 rfl ?_
    intro Q hQ
    simp only [List.replicate, List.length_cons, List.length_nil, Tryd.ntmps4, Nat.reduceAdd, Nat.reduceSub, List.cons_append, List.nil_append, go_sem]
    have hz : True := trivial
    have hy := yieldedV_eq
    repeat' (first
        | (refine WPV.seqK ?_; intro N hN)
        | refine WPV.block ?_
        | refine WPV.scope ?_
        | refine WPV.skip ?_
        | refine WPV.label ?_
        | refine WPV.exit ?_
        | refine WPV.ret ?_
        | (refine WPV.regionG (M := noM) ?_; intro N hN ops hy; (try simp only [List.append] at hy ⊢); (try simp only [List.map_cons, List.map_nil] at hy))
        | (refine WPV.drawK (M := noM) (by kernel_rfl) (by kernel_rfl) ?_; intro N hN; have hy := yieldedV_eq)
        | (refine WPV.condK ?_; intro A hA B hB)
        | ((with_reducible first | refine opsV.here ?_ | refine guardO.here ?_ | refine resO.here ?_ | refine drawV.here ?_ | refine guardD.here ?_ | refine stepO.here ?_ | refine brO.here ?_ | refine condV.here ?_); simp (config := {contextual := true, maxSteps := 1000000}) only [hy, hz, go_sem, reduceCtorEq, Nat.reduceAdd, Nat.reduceSub, Nat.reduceMul, Nat.reduceLT, Nat.reduceLeDiff, Int.reduceLT, Int.reduceLE, Int.reduceEq, Int.reduceNe, Int.reduceAdd, Int.reduceSub, Int.reduceMul, Int.reduceToNat, Int.reduceNeg, Int.reducePow, Nat.reducePow, Nat.reduceEqDiff, Nat.reduceBEq, Int.reduceBEq, Int.reduceBNe, Int.reduceNegSucc, q0, q1, q2, q3, q4, q5, q6, q7, q8])
        | (refine And.intro (by kernel_rfl : okOrd _ _ = true) ?_)
        | refine Both.mk ?_ ?_
        | ((with_reducible refine CallO.gd 9 ?_); refine CallO.frA [] Tryd.call9 (awake03_s hK) ?_)
        | ((with_reducible refine CallO.gd 10 ?_); refine CallO.frA [] Tryd.call10 (cl) ?_)
        | ((with_reducible refine CallO.gd 15 ?_); first
          | refine CallO.frA [] Tryd.call15 (c1) ?_
          | refine CallO.frA [] Tryd.call15 (c5) ?_)
        | ((with_reducible refine CallO.gd 17 ?_); first
          | refine CallO.frA [] Tryd.call17 (c2) ?_
          | refine CallO.frA [] Tryd.call17 (c4) ?_)
        | ((with_reducible refine CallO.gd 19 ?_); refine CallO.frA [] Tryd.call19 (vsame_t _ []) ?_)
        | ((with_reducible refine CallO.gd 20 ?_); refine CallO.frA [] Tryd.call20 (same03_t _ hs3 []) ?_)
        | (first | refine hN _ ?_ | (clear hN N; refine hN _ ?_) | (iterate 2 clear hN N); refine hN _ ?_ | (iterate 3 clear hN N); refine hN _ ?_ | (iterate 4 clear hN N); refine hN _ ?_ | (iterate 5 clear hN N); refine hN _ ?_); try clear hN N; try clear hy ops
        | (refine hA ?_; clear hA A hB B; try simp only [hz])
        | (refine hB ?_; clear hA A hB B; try simp only [hz])
        | ((first | refine guardO.mk (fun hz => ?_) (fun hz => ?_) | refine guardD.mk (fun hz => ?_) (fun hz => ?_) | refine Br.mk (fun hz => ?_) (fun hz => ?_)) <;> (have h := hz; try simp only [decide_eq_true_eq, decide_eq_false_iff_not, Int.not_lt, Int.not_le, beq_iff_eq, beq_eq_false_iff_ne, bne_iff_ne, bne_eq_false_iff_eq, ne_eq, Bool.not_eq_true', Bool.not_eq_false', Decidable.not_not] at h) <;> (try (exfalso; omega)) <;> (try simp only [Bool.not_eq_true', Bool.not_eq_false', beq_true, beq_false] at hz))
        | ((first | rw [if_pos (show _ ∧ _ from ⟨by omega, by omega⟩)] | rw [if_pos (show _ ∧ _ from by simp only [List.length_append, List.length_cons, List.length_nil]; exact ⟨by omega, by omega⟩)]); simp (config := {contextual := true, maxSteps := 1000000}) only [hy, hz, go_sem, reduceCtorEq, Nat.reduceAdd, Nat.reduceSub, Nat.reduceMul, Nat.reduceLT, Nat.reduceLeDiff, Int.reduceLT, Int.reduceLE, Int.reduceEq, Int.reduceNe, Int.reduceAdd, Int.reduceSub, Int.reduceMul, Int.reduceToNat, Int.reduceNeg, Int.reducePow, Nat.reducePow, Nat.reduceEqDiff, Nat.reduceBEq, Int.reduceBEq, Int.reduceBNe, Int.reduceNegSucc, q0, q1, q2, q3, q4, q5, q6, q7, q8])
        | (simp only [thenV, blockV, if_true, if_false, Nat.reduceEqDiff, reduceCtorEq, imp_self]))
    all_goals (first | exact retA hQ Tryd.results4 (Desc.re [] rfl) | exact retN hQ Tryd.results4 (Desc.re [] rfl))
  have h2 : flarge l = false := by simpa using h2
  rw [h2] at cl
  have hlg := flarge_no h2
  by_cases h3 : 9000 < q.length
  · have q0 : ((9000 : Int) < (q.length : Int)) = True := eq_true (by omega)
    refine Sp.of_bodyD Tryd.func4 rfl ?_
    intro Q hQ
    simp only [List.replicate, List.length_cons, List.length_nil, Tryd.ntmps4, Nat.reduceAdd, Nat.reduceSub, List.cons_append, List.nil_append, go_sem]
    have hz : True := trivial
    have hy := yieldedV_eq
    repeat' (first
        | (refine WPV.seqK ?_; intro N hN)
        | refine WPV.block ?_
        | refine WPV.scope ?_
        | refine WPV.skip ?_
        | refine WPV.label ?_
        | refine WPV.exit ?_
        | refine WPV.ret ?_
        | (refine WPV.regionG (M := noM) ?_; intro N hN ops hy; (try simp only [List.append] at hy ⊢); (try simp only [List.map_cons, List.map_nil] at hy))
        | (refine WPV.drawK (M := noM) (by kernel_rfl) (by kernel_rfl) ?_; intro N hN; have hy := yieldedV_eq)
        | (refine WPV.condK ?_; intro A hA B hB)
        | ((with_reducible first | refine opsV.here ?_ | refine guardO.here ?_ | refine resO.here ?_ | refine drawV.here ?_ | refine guardD.here ?_ | refine stepO.here ?_ | refine brO.here ?_ | refine condV.here ?_); simp (config := {contextual := true, maxSteps := 1000000}) only [hy, hz, go_sem, reduceCtorEq, Nat.reduceAdd, Nat.reduceSub, Nat.reduceMul, Nat.reduceLT, Nat.reduceLeDiff, Int.reduceLT, Int.reduceLE, Int.reduceEq, Int.reduceNe, Int.reduceAdd, Int.reduceSub, Int.reduceMul, Int.reduceToNat, Int.reduceNeg, Int.reducePow, Nat.reducePow, Nat.reduceEqDiff, Nat.reduceBEq, Int.reduceBEq, Int.reduceBNe, Int.reduceNegSucc, q0, q1, q2, q3, q4, q5, q6, q7, q8])
        | (refine And.intro (by kernel_rfl : okOrd _ _ = true) ?_)
        | refine Both.mk ?_ ?_
        | ((with_reducible refine CallO.gd 9 ?_); refine CallO.frA [] Tryd.call9 (awake03_s hK) ?_)
        | ((with_reducible refine CallO.gd 10 ?_); refine CallO.frA [] Tryd.call10 (cl) ?_)
        | ((with_reducible refine CallO.gd 15 ?_); first
          | refine CallO.frA [] Tryd.call15 (c1) ?_
          | refine CallO.frA [] Tryd.call15 (c5) ?_)
        | ((with_reducible refine CallO.gd 17 ?_); first
          | refine CallO.frA [] Tryd.call17 (c2) ?_
          | refine CallO.frA [] Tryd.call17 (c4) ?_)
        | ((with_reducible refine CallO.gd 19 ?_); refine CallO.frA [] Tryd.call19 (vsame_t _ []) ?_)
        | ((with_reducible refine CallO.gd 20 ?_); refine CallO.frA [] Tryd.call20 (same03_t _ hs3 []) ?_)
        | (first | refine hN _ ?_ | (clear hN N; refine hN _ ?_) | (iterate 2 clear hN N); refine hN _ ?_ | (iterate 3 clear hN N); refine hN _ ?_ | (iterate 4 clear hN N); refine hN _ ?_ | (iterate 5 clear hN N); refine hN _ ?_); try clear hN N; try clear hy ops
        | (refine hA ?_; clear hA A hB B; try simp only [hz])
        | (refine hB ?_; clear hA A hB B; try simp only [hz])
        | ((first | refine guardO.mk (fun hz => ?_) (fun hz => ?_) | refine guardD.mk (fun hz => ?_) (fun hz => ?_) | refine Br.mk (fun hz => ?_) (fun hz => ?_)) <;> (have h := hz; try simp only [decide_eq_true_eq, decide_eq_false_iff_not, Int.not_lt, Int.not_le, beq_iff_eq, beq_eq_false_iff_ne, bne_iff_ne, bne_eq_false_iff_eq, ne_eq, Bool.not_eq_true', Bool.not_eq_false', Decidable.not_not] at h) <;> (try (exfalso; omega)) <;> (try simp only [Bool.not_eq_true', Bool.not_eq_false', beq_true, beq_false] at hz))
        | ((first | rw [if_pos (show _ ∧ _ from ⟨by omega, by omega⟩)] | rw [if_pos (show _ ∧ _ from by simp only [List.length_append, List.length_cons, List.length_nil]; exact ⟨by omega, by omega⟩)]); simp (config := {contextual := true, maxSteps := 1000000}) only [hy, hz, go_sem, reduceCtorEq, Nat.reduceAdd, Nat.reduceSub, Nat.reduceMul, Nat.reduceLT, Nat.reduceLeDiff, Int.reduceLT, Int.reduceLE, Int.reduceEq, Int.reduceNe, Int.reduceAdd, Int.reduceSub, Int.reduceMul, Int.reduceToNat, Int.reduceNeg, Int.reducePow, Nat.reducePow, Nat.reduceEqDiff, Nat.reduceBEq, Int.reduceBEq, Int.reduceBNe, Int.reduceNegSucc, q0, q1, q2, q3, q4, q5, q6, q7, q8])
        | (simp only [thenV, blockV, if_true, if_false, Nat.reduceEqDiff, reduceCtorEq, imp_self]))
    all_goals (first | exact retA hQ Tryd.results4 (Desc.re [] rfl) | exact retN hQ Tryd.results4 (Desc.re [] rfl))
  have q0 : ((9000 : Int) < (q.length : Int)) = False := eq_false (by omega)
  clear c1 c2 c4 c5 hs3 q1 q2
  have c1 := scan_s hK q (by omega) []
  have hsl := scanF_le q
  obtain ⟨b1, b2, b3⟩ := scanF_back q
  obtain ⟨rr, uu, ee, hr⟩ : ∃ r u e, scanF q = (r, u, e) := ⟨_, _, _, rfl⟩
  rw [hr] at c1 hsl b1 b2 b3
  dsimp only at c1 hsl b1 b2 b3
  have c2 := all_s hK rr (by omega) (fun p hp => by have := b1 p hp; omega) []
  have hal : allF rr = (q.take uu, 0) := by unfold allF; rw [allN_fits rr [] b1, b3, List.nil_append]
  rw [hal] at c2
  have q1 : ((uu : Int) < 0) = False := eq_false (by omega)
  have q2 : ((q.length : Int) < (uu : Int)) = False := eq_false (by omega)
  have q3 : ((uu : Int) ≤ (q.length : Int)) = True := eq_true (by omega)
  have hp : ∀ p ∈ l, p.length ≤ 100000000 := fun p h => by have := hlg.2 p h; omega
  have c4 := all_s hK l (by omega) hp []
  simp only [byV, nxV, scV] at c1 c2 c4
  by_cases hf : Fits l
  · have hal2 : allF l = (frow l, 0) := by unfold allF; rw [allN_fits l [] hf, List.nil_append]
    rw [hal2] at c4
    dsimp only at c4
    have hfl : (frow l).length ≤ 100000000 := by have := frow_le l; omega
    have hs3 : l.length ≤ 1000000000 := by omega
    have c5 := scan_s hK (frow l) (by omega) []
    have hsc := scanF_frow l [] hf (.inl rfl)
    rw [List.append_nil] at hsc
    rw [hsc] at c5
    simp only [scV, if_true] at c5
    have q8 : (((frow l).length : Int) != ((frow l).length : Int)) = false := bne_self_eq_false _
    have q4 : IntKind.i64.wrap (a : Int) = (a : Int) := wr_i64 (by omega) (by omega)
    have q5 : IntKind.i64.wrap (((frow l).length : Int) + 1) = (((frow l).length + 1 : Nat) : Int) := by rw [wr_i64 (by omega) (by omega)]; rfl
    have q6 : Int.tmod (a : Int) (((frow l).length + 1 : Nat) : Int) = ((a % ((frow l).length + 1) : Nat) : Int) := rfl
    have q7 : ((((frow l).length + 1 : Nat) : Int) == 0) = false := by simp; omega
    refine Sp.of_bodyD Tryd.func4 rfl ?_
    intro Q hQ
    simp only [List.replicate, List.length_cons, List.length_nil, Tryd.ntmps4, Nat.reduceAdd, Nat.reduceSub, List.cons_append, List.nil_append, go_sem]
    have hz : True := trivial
    have hy := yieldedV_eq
    repeat' (first
        | (refine WPV.seqK ?_; intro N hN)
        | refine WPV.block ?_
        | refine WPV.scope ?_
        | refine WPV.skip ?_
        | refine WPV.label ?_
        | refine WPV.exit ?_
        | refine WPV.ret ?_
        | (refine WPV.regionG (M := noM) ?_; intro N hN ops hy; (try simp only [List.append] at hy ⊢); (try simp only [List.map_cons, List.map_nil] at hy))
        | (refine WPV.drawK (M := noM) (by kernel_rfl) (by kernel_rfl) ?_; intro N hN; have hy := yieldedV_eq)
        | (refine WPV.condK ?_; intro A hA B hB)
        | ((with_reducible first | refine opsV.here ?_ | refine guardO.here ?_ | refine resO.here ?_ | refine drawV.here ?_ | refine guardD.here ?_ | refine stepO.here ?_ | refine brO.here ?_ | refine condV.here ?_); simp (config := {contextual := true, maxSteps := 1000000}) only [hy, hz, go_sem, reduceCtorEq, Nat.reduceAdd, Nat.reduceSub, Nat.reduceMul, Nat.reduceLT, Nat.reduceLeDiff, Int.reduceLT, Int.reduceLE, Int.reduceEq, Int.reduceNe, Int.reduceAdd, Int.reduceSub, Int.reduceMul, Int.reduceToNat, Int.reduceNeg, Int.reducePow, Nat.reducePow, Nat.reduceEqDiff, Nat.reduceBEq, Int.reduceBEq, Int.reduceBNe, Int.reduceNegSucc, q0, q1, q2, q3, q4, q5, q6, q7, q8])
        | (refine And.intro (by kernel_rfl : okOrd _ _ = true) ?_)
        | refine Both.mk ?_ ?_
        | ((with_reducible refine CallO.gd 9 ?_); refine CallO.frA [] Tryd.call9 (awake03_s hK) ?_)
        | ((with_reducible refine CallO.gd 10 ?_); refine CallO.frA [] Tryd.call10 (cl) ?_)
        | ((with_reducible refine CallO.gd 15 ?_); first
          | refine CallO.frA [] Tryd.call15 (c1) ?_
          | refine CallO.frA [] Tryd.call15 (c5) ?_)
        | ((with_reducible refine CallO.gd 17 ?_); first
          | refine CallO.frA [] Tryd.call17 (c2) ?_
          | refine CallO.frA [] Tryd.call17 (c4) ?_)
        | ((with_reducible refine CallO.gd 19 ?_); refine CallO.frA [] Tryd.call19 (vsame_t _ []) ?_)
        | ((with_reducible refine CallO.gd 20 ?_); refine CallO.frA [] Tryd.call20 (same03_t _ hs3 []) ?_)
        | (first | refine hN _ ?_ | (clear hN N; refine hN _ ?_) | (iterate 2 clear hN N); refine hN _ ?_ | (iterate 3 clear hN N); refine hN _ ?_ | (iterate 4 clear hN N); refine hN _ ?_ | (iterate 5 clear hN N); refine hN _ ?_); try clear hN N; try clear hy ops
        | (refine hA ?_; clear hA A hB B; try simp only [hz])
        | (refine hB ?_; clear hA A hB B; try simp only [hz])
        | ((first | refine guardO.mk (fun hz => ?_) (fun hz => ?_) | refine guardD.mk (fun hz => ?_) (fun hz => ?_) | refine Br.mk (fun hz => ?_) (fun hz => ?_)) <;> (have h := hz; try simp only [decide_eq_true_eq, decide_eq_false_iff_not, Int.not_lt, Int.not_le, beq_iff_eq, beq_eq_false_iff_ne, bne_iff_ne, bne_eq_false_iff_eq, ne_eq, Bool.not_eq_true', Bool.not_eq_false', Decidable.not_not] at h) <;> (try (exfalso; omega)) <;> (try simp only [Bool.not_eq_true', Bool.not_eq_false', beq_true, beq_false] at hz))
        | ((first | rw [if_pos (show _ ∧ _ from ⟨by omega, by omega⟩)] | rw [if_pos (show _ ∧ _ from by simp only [List.length_append, List.length_cons, List.length_nil]; exact ⟨by omega, by omega⟩)]); simp (config := {contextual := true, maxSteps := 1000000}) only [hy, hz, go_sem, reduceCtorEq, Nat.reduceAdd, Nat.reduceSub, Nat.reduceMul, Nat.reduceLT, Nat.reduceLeDiff, Int.reduceLT, Int.reduceLE, Int.reduceEq, Int.reduceNe, Int.reduceAdd, Int.reduceSub, Int.reduceMul, Int.reduceToNat, Int.reduceNeg, Int.reducePow, Nat.reducePow, Nat.reduceEqDiff, Nat.reduceBEq, Int.reduceBEq, Int.reduceBNe, Int.reduceNegSucc, q0, q1, q2, q3, q4, q5, q6, q7, q8])
        | (simp only [thenV, blockV, if_true, if_false, Nat.reduceEqDiff, reduceCtorEq, imp_self]))
    rotate_left
    · cases hz
    clear c1 c2 c4 c5 q1 q2 q3 q4 q5 q6 q7 q8 cl b1 b2 b3 hr hal hal2 hsc
    have q1 : True := trivial
    have q2 : True := trivial
    have q3 : True := trivial
    have q4 : True := trivial
    have q5 : True := trivial
    have q6 : True := trivial
    have q7 : True := trivial
    have q8 : True := trivial
    have hcut : a % ((frow l).length + 1) ≤ (frow l).length := by have := Nat.mod_lt a (show 0 < (frow l).length + 1 by omega); omega
    generalize a % ((frow l).length + 1) = cut at hcut ⊢
    refine WPV.desc (Desc.weakA (tm' := [.sl 1 (rs l), .any, .any, .any, .any, .any, .sc (.bool false), .any, .any, .any, .any, .any, .sl 1 (bs (frow l)), .any, .any, .any, .any, .sc (.int .i64 (cut : Int)), .sc (.int .i64 0), .sc (.int .i64 0), .any, .any, .any, .any, .any, .any, .any, .any, .any, .any, .any, .any, .any, .any, .any, .any, .any, .any, .any, .any, .any, .any, .any, .any, .any, .any, .any, .any, .any, .any, .any, .any, .any, .any, .any, .any, .any, .any, .any, .any, .any, .any, .any, .any, .any, .any, .any, .any, .any, .any, .any, .any, .any, .any, .any, .any, .any, .any, .any, .any, .any, .any, .any, .any, .any, .any, .any, .any, .any, .any, .any, .any, .any, .any, .any, .any, .any, .any, .any, .any, .any, .any, .any, .any, .any, .any, .any, .any, .any, .any, .any, .any, .any, .any, .any, .any, .any, .any, .any, .any, .any, .any, .any, .any, .any, .any, .any, .any, .any, .any, .any, .any, .any, .any, .any, .any, .any, .any, .any, .any, .any, .any, .any, .any, .any, .any, .any, .any, .any, .any, .any, .any, .any]) (h' := [])) ?_
    refine WPV.loopA (α := Nat) (fun k => l.length - k) (fun k => ⟨[.sl 1 (rs l), .any, .any, .any, .any, .any, .sc (.bool false), .any, .any, .any, .any, .any, .sl 1 (bs (frow l)), .any, .any, .any, .any, .sc (.int .i64 (cut : Int)), .sc (.int .i64 ((k : Nat) : Int)), .sc (.int .i64 (((frow (l.take k)).length : Nat) : Int)), .any, .any, .any, .any, .any, .any, .any, .any, .any, .any, .any, .any, .any, .any, .any, .any, .any, .any, .any, .any, .any, .any, .any, .any, .any, .any, .any, .any, .any, .any, .any, .any, .any, .any, .any, .any, .any, .any, .any, .any, .any, .any, .any, .any, .any, .any, .any, .any, .any, .any, .any, .any, .any, .any, .any, .any, .any, .any, .any, .any, .any, .any, .any, .any, .any, .any, .any, .any, .any, .any, .any, .any, .any, .any, .any, .any, .any, .any, .any, .any, .any, .any, .any, .any, .any, .any, .any, .any, .any, .any, .any, .any, .any, .any, .any, .any, .any, .any, .any, .any, .any, .any, .any, .any, .any, .any, .any, .any, .any, .any, .any, .any, .any, .any, .any, .any, .any, .any, .any, .any, .any, .any, .any, .any, .any, .any, .any, .any, .any, .any, .any, .any, .any], []⟩) (fun k => k ≤ l.length ∧ (frow (l.take k)).length ≤ cut) (fun k ⟨hk0, hJ⟩ H => ?_) 0 ⟨Nat.zero_le _, by simp [frow]⟩
    have tail : (∀ p, l[k]? = some p → cut < (frow (l.take k)).length + (wrapF p).1.length) → ∃ (e : Int) (x : Bool), (Sp Tryd.prog K 15 [.sl 1 (bs ((frow l).take cut))] [] fun u hh => u = scV (l.take k, (frow (l.take k)).length, e) ∧ hh = []) ∧ (e == 0) = x ∧ ((((frow (l.take k)).length : Nat) : Int) == (cut : Int)) = x := fun h => by
      obtain ⟨e, he, hx⟩ := cut_told l hf k hk0 cut hJ h hcut
      have c := scan_s hK ((frow l).take cut) (by rw [List.length_take]; omega) []
      rw [he] at c
      refine ⟨e, _, c, rfl, ?_⟩
      rw [Bool.eq_iff_iff, beq_iff_eq, beq_iff_eq, hx]
      omega
    have hs3 : (l.take k).length ≤ 1000000000 := by rw [List.length_take]; omega
    by_cases h : k < l.length
    · have q0 : ((k : Int) < (l.length : Int)) = True := eq_true (by omega)
      have q1 : l[k]? = some l[k] := List.getElem?_eq_getElem h
      have hps := hf l[k] (List.getElem_mem h)
      have hts := take_snoc q1
      generalize l[k] = p at q1 hps hts
      have c1 := fsize_s (K := K) p (by omega) []
      have hw := (wrapF_ok (wrapF_fit hps)).2.2
      rw [← hw] at c1
      have hfs : (frow (l.take (k + 1))).length = (frow (l.take k)).length + (wrapF p).1.length := by rw [hts, frow_append, List.length_append]; simp [frow]
      have q2 : IntKind.i64.wrap ((((frow (l.take k)).length : Nat) : Int) + (((wrapF p).1.length : Nat) : Int)) = (((frow (l.take (k + 1))).length : Nat) : Int) := by
        have h1 := frow_le (l.take (k + 1))
        rw [List.length_take] at h1
        rw [hfs] at h1 ⊢
        rw [wr_i64 (by omega) (by omega)]; rfl
      by_cases hc : (frow (l.take (k + 1))).length ≤ cut
      · have q3 : ((((frow (l.take (k + 1))).length : Nat) : Int) ≤ (cut : Int)) = True := eq_true (by omega)
        have q4 : IntKind.i64.wrap ((k : Int) + 1) = ((k + 1 : Nat) : Int) := by rw [wr_i64 (by omega) (by omega)]; rfl
        have H' := H (k + 1) ⟨by omega, hc⟩ (by omega)
        clear H tail
        refine loopV ?_
        have hz : True := trivial
        have hy := yieldedV_eq
        repeat' (first
            | (refine WPV.seqK ?_; intro N hN)
            | refine WPV.block ?_
            | refine WPV.scope ?_
            | refine WPV.skip ?_
            | refine WPV.label ?_
            | refine WPV.exit ?_
            | refine WPV.ret ?_
            | (refine WPV.regionG (M := noM) ?_; intro N hN ops hy; (try simp only [List.append] at hy ⊢); (try simp only [List.map_cons, List.map_nil] at hy))
            | (refine WPV.drawK (M := noM) (by kernel_rfl) (by kernel_rfl) ?_; intro N hN; have hy := yieldedV_eq)
            | (refine WPV.condK ?_; intro A hA B hB)
            | ((with_reducible first | refine opsV.here ?_ | refine guardO.here ?_ | refine resO.here ?_ | refine drawV.here ?_ | refine guardD.here ?_ | refine stepO.here ?_ | refine brO.here ?_ | refine condV.here ?_); simp (config := {contextual := true, maxSteps := 1000000}) only [hy, hz, go_sem, reduceCtorEq, Nat.reduceAdd, Nat.reduceSub, Nat.reduceMul, Nat.reduceLT, Nat.reduceLeDiff, Int.reduceLT, Int.reduceLE, Int.reduceEq, Int.reduceNe, Int.reduceAdd, Int.reduceSub, Int.reduceMul, Int.reduceToNat, Int.reduceNeg, Int.reducePow, Nat.reducePow, Nat.reduceEqDiff, Nat.reduceBEq, Int.reduceBEq, Int.reduceBNe, Int.reduceNegSucc, q0, q1, q2, q3, q4])
            | (refine And.intro (by kernel_rfl : okOrd _ _ = true) ?_)
            | refine Both.mk ?_ ?_
            | ((with_reducible refine CallO.gd 21 ?_); refine CallO.frA [] Tryd.call21 (c1) ?_)
            | (first | refine hN _ ?_ | (clear hN N; refine hN _ ?_) | (iterate 2 clear hN N); refine hN _ ?_ | (iterate 3 clear hN N); refine hN _ ?_ | (iterate 4 clear hN N); refine hN _ ?_ | (iterate 5 clear hN N); refine hN _ ?_); try clear hN N; try clear hy ops
            | (refine hA ?_; clear hA A hB B; try simp only [hz])
            | (refine hB ?_; clear hA A hB B; try simp only [hz])
            | ((first | refine guardO.mk (fun hz => ?_) (fun hz => ?_) | refine guardD.mk (fun hz => ?_) (fun hz => ?_) | refine Br.mk (fun hz => ?_) (fun hz => ?_)) <;> (have h := hz; try simp only [decide_eq_true_eq, decide_eq_false_iff_not, Int.not_lt, Int.not_le, beq_iff_eq, beq_eq_false_iff_ne, bne_iff_ne, bne_eq_false_iff_eq, ne_eq, Bool.not_eq_true', Bool.not_eq_false', Decidable.not_not] at h) <;> (try (exfalso; omega)) <;> (try simp only [Bool.not_eq_true', Bool.not_eq_false', beq_true, beq_false] at hz))
            | ((first | rw [if_pos (show _ ∧ _ from ⟨by omega, by omega⟩)] | rw [if_pos (show _ ∧ _ from by simp only [List.length_append, List.length_cons, List.length_nil]; exact ⟨by omega, by omega⟩)]); simp (config := {contextual := true, maxSteps := 1000000}) only [hy, hz, go_sem, reduceCtorEq, Nat.reduceAdd, Nat.reduceSub, Nat.reduceMul, Nat.reduceLT, Nat.reduceLeDiff, Int.reduceLT, Int.reduceLE, Int.reduceEq, Int.reduceNe, Int.reduceAdd, Int.reduceSub, Int.reduceMul, Int.reduceToNat, Int.reduceNeg, Int.reducePow, Nat.reducePow, Nat.reduceEqDiff, Nat.reduceBEq, Int.reduceBEq, Int.reduceBNe, Int.reduceNegSucc, q0, q1, q2, q3, q4])
            | (simp only [thenV, blockV, if_true, if_false, Nat.reduceEqDiff, reduceCtorEq, imp_self]))
        exact WPV.desc ((Desc.re [] rfl).trans Desc.weakA) H'
      · have q3 : ((((frow (l.take (k + 1))).length : Nat) : Int) ≤ (cut : Int)) = False := eq_false (by omega)
        clear H
        obtain ⟨e, x, c2, q4, q5⟩ := tail fun p' hp' => by rw [hp'] at q1; cases q1; omega
        simp only [scV] at c2
        have q6 : (x == x) = true := beq_self_eq_true x
        have q7 : ((cut : Int) ≤ ((frow l).length : Int)) = True := eq_true (by omega)
        have q8 : ((k : Int) ≤ (l.length : Int)) = True := eq_true (by omega)
        have q9 : ((((frow (l.take k)).length : Nat) : Int) == (((frow (l.take k)).length : Nat) : Int)) = true := beq_self_eq_true _
        refine loopV ?_
        have hz : True := trivial
        have hy := yieldedV_eq
        repeat' (first
            | (refine WPV.seqK ?_; intro N hN)
            | refine WPV.block ?_
            | refine WPV.scope ?_
            | refine WPV.skip ?_
            | refine WPV.label ?_
            | refine WPV.exit ?_
            | refine WPV.ret ?_
            | (refine WPV.regionG (M := noM) ?_; intro N hN ops hy; (try simp only [List.append] at hy ⊢); (try simp only [List.map_cons, List.map_nil] at hy))
            | (refine WPV.drawK (M := noM) (by kernel_rfl) (by kernel_rfl) ?_; intro N hN; have hy := yieldedV_eq)
            | (refine WPV.condK ?_; intro A hA B hB)
            | ((with_reducible first | refine opsV.here ?_ | refine guardO.here ?_ | refine resO.here ?_ | refine drawV.here ?_ | refine guardD.here ?_ | refine stepO.here ?_ | refine brO.here ?_ | refine condV.here ?_); simp (config := {contextual := true, maxSteps := 1000000}) only [hy, hz, go_sem, reduceCtorEq, Nat.reduceAdd, Nat.reduceSub, Nat.reduceMul, Nat.reduceLT, Nat.reduceLeDiff, Int.reduceLT, Int.reduceLE, Int.reduceEq, Int.reduceNe, Int.reduceAdd, Int.reduceSub, Int.reduceMul, Int.reduceToNat, Int.reduceNeg, Int.reducePow, Nat.reducePow, Nat.reduceEqDiff, Nat.reduceBEq, Int.reduceBEq, Int.reduceBNe, Int.reduceNegSucc, q0, q1, q2, q3, q4, q5, q6, q7, q8, q9])
            | (refine And.intro (by kernel_rfl : okOrd _ _ = true) ?_)
            | refine Both.mk ?_ ?_
            | ((with_reducible refine CallO.gd 21 ?_); refine CallO.frA [] Tryd.call21 (c1) ?_)
            | ((with_reducible refine CallO.gd 15 ?_); refine CallO.frA [] Tryd.call15 (c2) ?_)
            | ((with_reducible refine CallO.gd 20 ?_); refine CallO.frA [] Tryd.call20 (same03_t _ hs3 []) ?_)
            | (first | refine hN _ ?_ | (clear hN N; refine hN _ ?_) | (iterate 2 clear hN N); refine hN _ ?_ | (iterate 3 clear hN N); refine hN _ ?_ | (iterate 4 clear hN N); refine hN _ ?_ | (iterate 5 clear hN N); refine hN _ ?_); try clear hN N; try clear hy ops
            | (refine hA ?_; clear hA A hB B; try simp only [hz])
            | (refine hB ?_; clear hA A hB B; try simp only [hz])
            | ((first | refine guardO.mk (fun hz => ?_) (fun hz => ?_) | refine guardD.mk (fun hz => ?_) (fun hz => ?_) | refine Br.mk (fun hz => ?_) (fun hz => ?_)) <;> (have h := hz; try simp only [decide_eq_true_eq, decide_eq_false_iff_not, Int.not_lt, Int.not_le, beq_iff_eq, beq_eq_false_iff_ne, bne_iff_ne, bne_eq_false_iff_eq, ne_eq, Bool.not_eq_true', Bool.not_eq_false', Decidable.not_not] at h) <;> (try (exfalso; omega)) <;> (try simp only [Bool.not_eq_true', Bool.not_eq_false', beq_true, beq_false] at hz))
            | ((first | rw [if_pos (show _ ∧ _ from ⟨by omega, by omega⟩)] | rw [if_pos (show _ ∧ _ from by simp only [List.length_append, List.length_cons, List.length_nil]; exact ⟨by omega, by omega⟩)]); simp (config := {contextual := true, maxSteps := 1000000}) only [hy, hz, go_sem, reduceCtorEq, Nat.reduceAdd, Nat.reduceSub, Nat.reduceMul, Nat.reduceLT, Nat.reduceLeDiff, Int.reduceLT, Int.reduceLE, Int.reduceEq, Int.reduceNe, Int.reduceAdd, Int.reduceSub, Int.reduceMul, Int.reduceToNat, Int.reduceNeg, Int.reducePow, Nat.reducePow, Nat.reduceEqDiff, Nat.reduceBEq, Int.reduceBEq, Int.reduceBNe, Int.reduceNegSucc, q0, q1, q2, q3, q4, q5, q6, q7, q8, q9])
            | (simp only [thenV, blockV, if_true, if_false, Nat.reduceEqDiff, reduceCtorEq, imp_self]))
        all_goals (first | exact retA hQ Tryd.results4 (Desc.re [] rfl) | exact retN hQ Tryd.results4 (Desc.re [] rfl))
    · have q0 : ((k : Int) < (l.length : Int)) = False := eq_false (by omega)
      clear H
      obtain ⟨e, x, c2, q4, q5⟩ := tail fun p' hp' => by have := (List.getElem?_eq_some_iff.1 hp').1; omega
      simp only [scV] at c2
      have q6 : (x == x) = true := beq_self_eq_true x
      have q7 : ((cut : Int) ≤ ((frow l).length : Int)) = True := eq_true (by omega)
      have q8 : ((k : Int) ≤ (l.length : Int)) = True := eq_true (by omega)
      have q9 : ((((frow (l.take k)).length : Nat) : Int) == (((frow (l.take k)).length : Nat) : Int)) = true := beq_self_eq_true _
      have c1 : True := trivial
      refine loopV ?_
      have hz : True := trivial
      have hy := yieldedV_eq
      repeat' (first
          | (refine WPV.seqK ?_; intro N hN)
          | refine WPV.block ?_
          | refine WPV.scope ?_
          | refine WPV.skip ?_
          | refine WPV.label ?_
          | refine WPV.exit ?_
          | refine WPV.ret ?_
          | (refine WPV.regionG (M := noM) ?_; intro N hN ops hy; (try simp only [List.append] at hy ⊢); (try simp only [List.map_cons, List.map_nil] at hy))
          | (refine WPV.drawK (M := noM) (by kernel_rfl) (by kernel_rfl) ?_; intro N hN; have hy := yieldedV_eq)
          | (refine WPV.condK ?_; intro A hA B hB)
          | ((with_reducible first | refine opsV.here ?_ | refine guardO.here ?_ | refine resO.here ?_ | refine drawV.here ?_ | refine guardD.here ?_ | refine stepO.here ?_ | refine brO.here ?_ | refine condV.here ?_); simp (config := {contextual := true, maxSteps := 1000000}) only [hy, hz, go_sem, reduceCtorEq, Nat.reduceAdd, Nat.reduceSub, Nat.reduceMul, Nat.reduceLT, Nat.reduceLeDiff, Int.reduceLT, Int.reduceLE, Int.reduceEq, Int.reduceNe, Int.reduceAdd, Int.reduceSub, Int.reduceMul, Int.reduceToNat, Int.reduceNeg, Int.reducePow, Nat.reducePow, Nat.reduceEqDiff, Nat.reduceBEq, Int.reduceBEq, Int.reduceBNe, Int.reduceNegSucc, q0, q1, q2, q3, q4, q5, q6, q7, q8, q9])
          | (refine And.intro (by kernel_rfl : okOrd _ _ = true) ?_)
          | refine Both.mk ?_ ?_
          | ((with_reducible refine CallO.gd 21 ?_); refine CallO.frA [] Tryd.call21 (c1) ?_)
          | ((with_reducible refine CallO.gd 15 ?_); refine CallO.frA [] Tryd.call15 (c2) ?_)
          | ((with_reducible refine CallO.gd 20 ?_); refine CallO.frA [] Tryd.call20 (same03_t _ hs3 []) ?_)
          | (first | refine hN _ ?_ | (clear hN N; refine hN _ ?_) | (iterate 2 clear hN N); refine hN _ ?_ | (iterate 3 clear hN N); refine hN _ ?_ | (iterate 4 clear hN N); refine hN _ ?_ | (iterate 5 clear hN N); refine hN _ ?_); try clear hN N; try clear hy ops
          | (refine hA ?_; clear hA A hB B; try simp only [hz])
          | (refine hB ?_; clear hA A hB B; try simp only [hz])
          | ((first | refine guardO.mk (fun hz => ?_) (fun hz => ?_) | refine guardD.mk (fun hz => ?_) (fun hz => ?_) | refine Br.mk (fun hz => ?_) (fun hz => ?_)) <;> (have h := hz; try simp only [decide_eq_true_eq, decide_eq_false_iff_not, Int.not_lt, Int.not_le, beq_iff_eq, beq_eq_false_iff_ne, bne_iff_ne, bne_eq_false_iff_eq, ne_eq, Bool.not_eq_true', Bool.not_eq_false', Decidable.not_not] at h) <;> (try (exfalso; omega)) <;> (try simp only [Bool.not_eq_true', Bool.not_eq_false', beq_true, beq_false] at hz))
          | ((first | rw [if_pos (show _ ∧ _ from ⟨by omega, by omega⟩)] | rw [if_pos (show _ ∧ _ from by simp only [List.length_append, List.length_cons, List.length_nil]; exact ⟨by omega, by omega⟩)]); simp (config := {contextual := true, maxSteps := 1000000}) only [hy, hz, go_sem, reduceCtorEq, Nat.reduceAdd, Nat.reduceSub, Nat.reduceMul, Nat.reduceLT, Nat.reduceLeDiff, Int.reduceLT, Int.reduceLE, Int.reduceEq, Int.reduceNe, Int.reduceAdd, Int.reduceSub, Int.reduceMul, Int.reduceToNat, Int.reduceNeg, Int.reducePow, Nat.reducePow, Nat.reduceEqDiff, Nat.reduceBEq, Int.reduceBEq, Int.reduceBNe, Int.reduceNegSucc, q0, q1, q2, q3, q4, q5, q6, q7, q8, q9])
          | (simp only [thenV, blockV, if_true, if_false, Nat.reduceEqDiff, reduceCtorEq, imp_self]))
      all_goals (first | exact retA hQ Tryd.results4 (Desc.re [] rfl) | exact retN hQ Tryd.results4 (Desc.re [] rfl))
  · have hal2 : allF l = ([], 4) := by unfold allF; exact allN_not l [] hf
    rw [hal2] at c4
    have c5 := c4
    have hs3 : (0 : Nat) ≤ 1000000000 := by omega
    have c4 : Sp Tryd.prog K 17 [.sl 1 (rs l)] [] fun u hh => u = .tup [.sl 1 [], .sc (.int .i64 4)] ∧ hh = [] := c4
    refine Sp.of_bodyD Tryd.func4 rfl ?_
    intro Q hQ
    simp only [List.replicate, List.length_cons, List.length_nil, Tryd.ntmps4, Nat.reduceAdd, Nat.reduceSub, List.cons_append, List.nil_append, go_sem]
    have hz : True := trivial
    have hy := yieldedV_eq
    repeat' (first
        | (refine WPV.seqK ?_; intro N hN)
        | refine WPV.block ?_
        | refine WPV.scope ?_
        | refine WPV.skip ?_
        | refine WPV.label ?_
        | refine WPV.exit ?_
        | refine WPV.ret ?_
        | (refine WPV.regionG (M := noM) ?_; intro N hN ops hy; (try simp only [List.append] at hy ⊢); (try simp only [List.map_cons, List.map_nil] at hy))
        | (refine WPV.drawK (M := noM) (by kernel_rfl) (by kernel_rfl) ?_; intro N hN; have hy := yieldedV_eq)
        | (refine WPV.condK ?_; intro A hA B hB)
        | ((with_reducible first | refine opsV.here ?_ | refine guardO.here ?_ | refine resO.here ?_ | refine drawV.here ?_ | refine guardD.here ?_ | refine stepO.here ?_ | refine brO.here ?_ | refine condV.here ?_); simp (config := {contextual := true, maxSteps := 1000000}) only [hy, hz, go_sem, reduceCtorEq, Nat.reduceAdd, Nat.reduceSub, Nat.reduceMul, Nat.reduceLT, Nat.reduceLeDiff, Int.reduceLT, Int.reduceLE, Int.reduceEq, Int.reduceNe, Int.reduceAdd, Int.reduceSub, Int.reduceMul, Int.reduceToNat, Int.reduceNeg, Int.reducePow, Nat.reducePow, Nat.reduceEqDiff, Nat.reduceBEq, Int.reduceBEq, Int.reduceBNe, Int.reduceNegSucc, q0, q1, q2, q3, q4, q5, q6, q7, q8])
        | (refine And.intro (by kernel_rfl : okOrd _ _ = true) ?_)
        | refine Both.mk ?_ ?_
        | ((with_reducible refine CallO.gd 9 ?_); refine CallO.frA [] Tryd.call9 (awake03_s hK) ?_)
        | ((with_reducible refine CallO.gd 10 ?_); refine CallO.frA [] Tryd.call10 (cl) ?_)
        | ((with_reducible refine CallO.gd 15 ?_); refine CallO.frA [] Tryd.call15 (c1) ?_)
        | ((with_reducible refine CallO.gd 17 ?_); first
          | refine CallO.frA [] Tryd.call17 (c2) ?_
          | refine CallO.frA [] Tryd.call17 (c4) ?_)
        | ((with_reducible refine CallO.gd 19 ?_); refine CallO.frA [] Tryd.call19 (vsame_t _ []) ?_)
        | (first | refine hN _ ?_ | (clear hN N; refine hN _ ?_) | (iterate 2 clear hN N); refine hN _ ?_ | (iterate 3 clear hN N); refine hN _ ?_ | (iterate 4 clear hN N); refine hN _ ?_ | (iterate 5 clear hN N); refine hN _ ?_); try clear hN N; try clear hy ops
        | (refine hA ?_; clear hA A hB B; try simp only [hz])
        | (refine hB ?_; clear hA A hB B; try simp only [hz])
        | ((first | refine guardO.mk (fun hz => ?_) (fun hz => ?_) | refine guardD.mk (fun hz => ?_) (fun hz => ?_) | refine Br.mk (fun hz => ?_) (fun hz => ?_)) <;> (have h := hz; try simp only [decide_eq_true_eq, decide_eq_false_iff_not, Int.not_lt, Int.not_le, beq_iff_eq, beq_eq_false_iff_ne, bne_iff_ne, bne_eq_false_iff_eq, ne_eq, Bool.not_eq_true', Bool.not_eq_false', Decidable.not_not] at h) <;> (try (exfalso; omega)) <;> (try simp only [Bool.not_eq_true', Bool.not_eq_false', beq_true, beq_false] at hz))
        | ((first | rw [if_pos (show _ ∧ _ from ⟨by omega, by omega⟩)] | rw [if_pos (show _ ∧ _ from by simp only [List.length_append, List.length_cons, List.length_nil]; exact ⟨by omega, by omega⟩)]); simp (config := {contextual := true, maxSteps := 1000000}) only [hy, hz, go_sem, reduceCtorEq, Nat.reduceAdd, Nat.reduceSub, Nat.reduceMul, Nat.reduceLT, Nat.reduceLeDiff, Int.reduceLT, Int.reduceLE, Int.reduceEq, Int.reduceNe, Int.reduceAdd, Int.reduceSub, Int.reduceMul, Int.reduceToNat, Int.reduceNeg, Int.reducePow, Nat.reducePow, Nat.reduceEqDiff, Nat.reduceBEq, Int.reduceBEq, Int.reduceBNe, Int.reduceNegSucc, q0, q1, q2, q3, q4, q5, q6, q7, q8])
        | (simp only [thenV, blockV, if_true, if_false, Nat.reduceEqDiff, reduceCtorEq, imp_self]))
    all_goals (first | exact retA hQ Tryd.results4 (Desc.re [] rfl) | exact retN hQ Tryd.results4 (Desc.re [] rfl))
end Go.Proofs.YtonllhjmoenckaaDoor
