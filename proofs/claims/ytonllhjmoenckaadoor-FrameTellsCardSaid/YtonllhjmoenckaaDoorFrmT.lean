/- Walks: FrameTells. -/
import Derived.Test.YtonllhjmoenckaaDoorFrmX
namespace Go.Proofs.YtonllhjmoenckaaDoor
open Go Go.RowKit
set_option linter.unusedVariables false
set_option linter.unusedSimpArgs false
variable {K : Nat → Obj → Prop}

theorem scanN_len (b : List UInt8) (k : Nat) : ∀ out used, (scanN b k out used).1.length ≤ out.length + k := by
  induction k with
  | zero => intro out used; simp [scanN]
  | succ k ih =>
    intro out used
    unfold scanN
    split
    · simp
    · split
      · simp
      · have := ih (out ++ [(nextF (b.drop used)).1]) (used + (nextF (b.drop used)).2.1)
        simp at this ⊢; omega
theorem scanF_len (b : List UInt8) : (scanF b).1.length ≤ b.length + 1 := by
  have := scanN_len b (b.length + 1) [] 0
  simpa [scanF] using this

set_option maxRecDepth 100000 in
set_option maxHeartbeats 4000000 in
theorem ftells_s (hK : KT K) (b : List UInt8) (l : List (List UInt8)) (q : List UInt8) (hl : l.length ≤ 9223372036854775807) : Sp Tryd.prog K 3 [.sl 1 (bs b), .sl 1 (rs l), .sl 1 (bs q)] [] fun u hh => u = .sc (.bool true) ∧ hh = [] := by
  have cl := flarge_s (K := K) l hl
  by_cases h1 : 9000 < b.length
  · have qb : ((9000 : Int) < (b.length : Int)) = True := eq_true (by omega)
    have qf : True := trivial
    have qq : True := trivial
    have r1 : True := trivial
    have r2 : True := trivial
    have r3 : True := trivial
    have r4 : True := trivial
    have r5 : True := trivial
    have r6 : True := trivial
    have q0 : True := trivial
    have q1 : True := trivial
    have q2 : True := trivial
    refine Sp.of_bodyD Tryd.func3 rfl ?_
    intro Q hQ
    simp only [List.replicate, List.length_cons, List.length_nil, Tryd.ntmps3, Nat.reduceAdd, Nat.reduceSub, List.cons_append, List.nil_append, go_sem]
    have hz : True := trivial
    have hy := yieldedV_eq
    repeat' (first
        | (refine WPV.seqK ?_; intro N hN)
        | refine WPV.block ?_
        | refine WPV.scope ?_
        | refine WPV.skip ?_
        | refine WPV.label ?_
        | refine WPV.exit ?_
        | refine WPV.ret ?_
        | (refine WPV.regionG (M := noM) ?_; intro N hN ops hy; (try simp only [List.append] at hy ⊢); (try simp only [List.map_cons, List.map_nil] at hy))
        | (refine WPV.drawK (M := noM) (by kernel_rfl) (by kernel_rfl) ?_; intro N hN; have hy := yieldedV_eq)
        | (refine WPV.condK ?_; intro A hA B hB)
        | ((with_reducible first | refine opsV.here ?_ | refine guardO.here ?_ | refine resO.here ?_ | refine drawV.here ?_ | refine guardD.here ?_ | refine stepO.here ?_ | refine brO.here ?_ | refine condV.here ?_); simp (config := {contextual := true, maxSteps := 1000000}) only [hy, hz, go_sem, reduceCtorEq, Nat.reduceAdd, Nat.reduceSub, Nat.reduceMul, Nat.reduceLT, Nat.reduceLeDiff, Int.reduceLT, Int.reduceLE, Int.reduceEq, Int.reduceNe, Int.reduceAdd, Int.reduceSub, Int.reduceMul, Int.reduceToNat, Int.reduceNeg, Int.reducePow, Nat.reducePow, Nat.reduceEqDiff, Nat.reduceBEq, Int.reduceBEq, Int.reduceBNe, Int.reduceNegSucc, qb, qf, qq, r1, r2, r3, r4, r5, r6, q0, q1, q2])
        | (refine And.intro (by kernel_rfl : okOrd _ _ = true) ?_)
        | refine Both.mk ?_ ?_
        | ((with_reducible refine CallO.gd 9 ?_); refine CallO.frA [] Tryd.call9 (awake03_s hK) ?_)
        | ((with_reducible refine CallO.gd 10 ?_); refine CallO.frA [] Tryd.call10 (cl) ?_)
        | ((with_reducible refine CallO.gd 11 ?_); refine CallO.frA [] Tryd.call11 (c1) ?_)
        | ((with_reducible refine CallO.gd 12 ?_); refine CallO.frA [] Tryd.call12 (c2) ?_)
        | ((with_reducible refine CallO.gd 13 ?_); refine CallO.frA [] Tryd.call13 (c3) ?_)
        | ((with_reducible refine CallO.gd 14 ?_); refine CallO.frA [] Tryd.call14 (c4) ?_)
        | ((with_reducible refine CallO.gd 15 ?_); refine CallO.frA [] Tryd.call15 (c5) ?_)
        | ((with_reducible refine CallO.gd 16 ?_); refine CallO.frA [] Tryd.call16 (c6) ?_)
        | ((with_reducible refine CallO.gd 17 ?_); refine CallO.frA [] Tryd.call17 (c7) ?_)
        | ((with_reducible refine CallO.gd 18 ?_); refine CallO.frA [] Tryd.call18 (c8) ?_)
        | ((with_reducible refine CallO.gd 21 ?_); refine CallO.frA [] Tryd.call21 (c9) ?_)
        | ((with_reducible refine CallO.gd 22 ?_); refine CallO.frA [] Tryd.call22 (vrput_s z0 z1 []) ?_)
        | ((with_reducible refine CallO.gd 19 ?_); refine CallO.frA [] Tryd.call19 (vsame_t _ []) ?_)
        | ((with_reducible refine CallO.gd 20 ?_); refine CallO.frA [] Tryd.call20 (same03_t _ hs3 []) ?_)
        | (first | refine hN _ ?_ | (clear hN N; refine hN _ ?_) | (iterate 2 clear hN N); refine hN _ ?_ | (iterate 3 clear hN N); refine hN _ ?_ | (iterate 4 clear hN N); refine hN _ ?_ | (iterate 5 clear hN N); refine hN _ ?_); try clear hN N; try clear hy ops
        | (refine hA ?_; clear hA A hB B; try simp only [hz])
        | (refine hB ?_; clear hA A hB B; try simp only [hz])
        | ((first | refine guardO.mk (fun hz => ?_) (fun hz => ?_) | refine guardD.mk (fun hz => ?_) (fun hz => ?_) | refine Br.mk (fun hz => ?_) (fun hz => ?_)) <;> (have h := hz; try simp only [decide_eq_true_eq, decide_eq_false_iff_not, Int.not_lt, Int.not_le, beq_iff_eq, beq_eq_false_iff_ne, bne_iff_ne, bne_eq_false_iff_eq, ne_eq, Bool.not_eq_true', Bool.not_eq_false', Decidable.not_not] at h) <;> (try (exfalso; omega)) <;> (try simp only [Bool.not_eq_true', Bool.not_eq_false', beq_true, beq_false] at hz))
        | ((first | rw [if_pos (show _ ∧ _ from ⟨by omega, by omega⟩)] | rw [if_pos (show _ ∧ _ from by simp only [List.length_append, List.length_cons, List.length_nil]; exact ⟨by omega, by omega⟩)]); simp (config := {contextual := true, maxSteps := 1000000}) only [hy, hz, go_sem, reduceCtorEq, Nat.reduceAdd, Nat.reduceSub, Nat.reduceMul, Nat.reduceLT, Nat.reduceLeDiff, Int.reduceLT, Int.reduceLE, Int.reduceEq, Int.reduceNe, Int.reduceAdd, Int.reduceSub, Int.reduceMul, Int.reduceToNat, Int.reduceNeg, Int.reducePow, Nat.reducePow, Nat.reduceEqDiff, Nat.reduceBEq, Int.reduceBEq, Int.reduceBNe, Int.reduceNegSucc, qb, qf, qq, r1, r2, r3, r4, r5, r6, q0, q1, q2])
        | (simp only [thenV, blockV, if_true, if_false, Nat.reduceEqDiff, reduceCtorEq, imp_self]))
    all_goals (first | exact retA hQ Tryd.results3 (Desc.re [] rfl) | exact retN hQ Tryd.results3 (Desc.re [] rfl))
  have qb : ((9000 : Int) < (b.length : Int)) = False := eq_false (by omega)
  by_cases h2 : flarge l = true
  · rw [h2] at cl
    have qf : True := trivial
    have qq : True := trivial
    have r1 : True := trivial
    have r2 : True := trivial
    have r3 : True := trivial
    have r4 : True := trivial
    have r5 : True := trivial
    have r6 : True := trivial
    have q0 : True := trivial
    have q1 : True := trivial
    have q2 : True := trivial
    refine Sp.of_bodyD Tryd.func3 rfl ?_
    intro Q hQ
    simp only [List.replicate, List.length_cons, List.length_nil, Tryd.ntmps3, Nat.reduceAdd, Nat.reduceSub, List.cons_append, List.nil_append, go_sem]
    have hz : True := trivial
    have hy := yieldedV_eq
    repeat' (first
        | (refine WPV.seqK ?_; intro N hN)
        | refine WPV.block ?_
        | refine WPV.scope ?_
        | refine WPV.skip ?_
        | refine WPV.label ?_
        | refine WPV.exit ?_
        | refine WPV.ret ?_
        | (refine WPV.regionG (M := noM) ?_; intro N hN ops hy; (try simp only [List.append] at hy ⊢); (try simp only [List.map_cons, List.map_nil] at hy))
        | (refine WPV.drawK (M := noM) (by kernel_rfl) (by kernel_rfl) ?_; intro N hN; have hy := yieldedV_eq)
        | (refine WPV.condK ?_; intro A hA B hB)
        | ((with_reducible first | refine opsV.here ?_ | refine guardO.here ?_ | refine resO.here ?_ | refine drawV.here ?_ | refine guardD.here ?_ | refine stepO.here ?_ | refine brO.here ?_ | refine condV.here ?_); simp (config := {contextual := true, maxSteps := 1000000}) only [hy, hz, go_sem, reduceCtorEq, Nat.reduceAdd, Nat.reduceSub, Nat.reduceMul, Nat.reduceLT, Nat.reduceLeDiff, Int.reduceLT, Int.reduceLE, Int.reduceEq, Int.reduceNe, Int.reduceAdd, Int.reduceSub, Int.reduceMul, Int.reduceToNat, Int.reduceNeg, Int.reducePow, Nat.reducePow, Nat.reduceEqDiff, Nat.reduceBEq, Int.reduceBEq, Int.reduceBNe, Int.reduceNegSucc, qb, qf, qq, r1, r2, r3, r4, r5, r6, q0, q1, q2])
        | (refine And.intro (by kernel_rfl : okOrd _ _ = true) ?_)
        | refine Both.mk ?_ ?_
        | ((with_reducible refine CallO.gd 9 ?_); refine CallO.frA [] Tryd.call9 (awake03_s hK) ?_)
        | ((with_reducible refine CallO.gd 10 ?_); refine CallO.frA [] Tryd.call10 (cl) ?_)
        | ((with_reducible refine CallO.gd 11 ?_); refine CallO.frA [] Tryd.call11 (c1) ?_)
        | ((with_reducible refine CallO.gd 12 ?_); refine CallO.frA [] Tryd.call12 (c2) ?_)
        | ((with_reducible refine CallO.gd 13 ?_); refine CallO.frA [] Tryd.call13 (c3) ?_)
        | ((with_reducible refine CallO.gd 14 ?_); refine CallO.frA [] Tryd.call14 (c4) ?_)
        | ((with_reducible refine CallO.gd 15 ?_); refine CallO.frA [] Tryd.call15 (c5) ?_)
        | ((with_reducible refine CallO.gd 16 ?_); refine CallO.frA [] Tryd.call16 (c6) ?_)
        | ((with_reducible refine CallO.gd 17 ?_); refine CallO.frA [] Tryd.call17 (c7) ?_)
        | ((with_reducible refine CallO.gd 18 ?_); refine CallO.frA [] Tryd.call18 (c8) ?_)
        | ((with_reducible refine CallO.gd 21 ?_); refine CallO.frA [] Tryd.call21 (c9) ?_)
        | ((with_reducible refine CallO.gd 22 ?_); refine CallO.frA [] Tryd.call22 (vrput_s z0 z1 []) ?_)
        | ((with_reducible refine CallO.gd 19 ?_); refine CallO.frA [] Tryd.call19 (vsame_t _ []) ?_)
        | ((with_reducible refine CallO.gd 20 ?_); refine CallO.frA [] Tryd.call20 (same03_t _ hs3 []) ?_)
        | (first | refine hN _ ?_ | (clear hN N; refine hN _ ?_) | (iterate 2 clear hN N); refine hN _ ?_ | (iterate 3 clear hN N); refine hN _ ?_ | (iterate 4 clear hN N); refine hN _ ?_ | (iterate 5 clear hN N); refine hN _ ?_); try clear hN N; try clear hy ops
        | (refine hA ?_; clear hA A hB B; try simp only [hz])
        | (refine hB ?_; clear hA A hB B; try simp only [hz])
        | ((first | refine guardO.mk (fun hz => ?_) (fun hz => ?_) | refine guardD.mk (fun hz => ?_) (fun hz => ?_) | refine Br.mk (fun hz => ?_) (fun hz => ?_)) <;> (have h := hz; try simp only [decide_eq_true_eq, decide_eq_false_iff_not, Int.not_lt, Int.not_le, beq_iff_eq, beq_eq_false_iff_ne, bne_iff_ne, bne_eq_false_iff_eq, ne_eq, Bool.not_eq_true', Bool.not_eq_false', Decidable.not_not] at h) <;> (try (exfalso; omega)) <;> (try simp only [Bool.not_eq_true', Bool.not_eq_false', beq_true, beq_false] at hz))
        | ((first | rw [if_pos (show _ ∧ _ from ⟨by omega, by omega⟩)] | rw [if_pos (show _ ∧ _ from by simp only [List.length_append, List.length_cons, List.length_nil]; exact ⟨by omega, by omega⟩)]); simp (config := {contextual := true, maxSteps := 1000000}) only [hy, hz, go_sem, reduceCtorEq, Nat.reduceAdd, Nat.reduceSub, Nat.reduceMul, Nat.reduceLT, Nat.reduceLeDiff, Int.reduceLT, Int.reduceLE, Int.reduceEq, Int.reduceNe, Int.reduceAdd, Int.reduceSub, Int.reduceMul, Int.reduceToNat, Int.reduceNeg, Int.reducePow, Nat.reducePow, Nat.reduceEqDiff, Nat.reduceBEq, Int.reduceBEq, Int.reduceBNe, Int.reduceNegSucc, qb, qf, qq, r1, r2, r3, r4, r5, r6, q0, q1, q2])
        | (simp only [thenV, blockV, if_true, if_false, Nat.reduceEqDiff, reduceCtorEq, imp_self]))
    all_goals (first | exact retA hQ Tryd.results3 (Desc.re [] rfl) | exact retN hQ Tryd.results3 (Desc.re [] rfl))
  have h2 : flarge l = false := by simpa using h2
  rw [h2] at cl
  have hlg := flarge_no h2
  by_cases h3 : 9000 < q.length
  · have qq : ((9000 : Int) < (q.length : Int)) = True := eq_true (by omega)
    have qf : True := trivial
    have r1 : True := trivial
    have r2 : True := trivial
    have r3 : True := trivial
    have r4 : True := trivial
    have r5 : True := trivial
    have r6 : True := trivial
    have q0 : True := trivial
    have q1 : True := trivial
    have q2 : True := trivial
    refine Sp.of_bodyD Tryd.func3 rfl ?_
    intro Q hQ
    simp only [List.replicate, List.length_cons, List.length_nil, Tryd.ntmps3, Nat.reduceAdd, Nat.reduceSub, List.cons_append, List.nil_append, go_sem]
    have hz : True := trivial
    have hy := yieldedV_eq
    repeat' (first
        | (refine WPV.seqK ?_; intro N hN)
        | refine WPV.block ?_
        | refine WPV.scope ?_
        | refine WPV.skip ?_
        | refine WPV.label ?_
        | refine WPV.exit ?_
        | refine WPV.ret ?_
        | (refine WPV.regionG (M := noM) ?_; intro N hN ops hy; (try simp only [List.append] at hy ⊢); (try simp only [List.map_cons, List.map_nil] at hy))
        | (refine WPV.drawK (M := noM) (by kernel_rfl) (by kernel_rfl) ?_; intro N hN; have hy := yieldedV_eq)
        | (refine WPV.condK ?_; intro A hA B hB)
        | ((with_reducible first | refine opsV.here ?_ | refine guardO.here ?_ | refine resO.here ?_ | refine drawV.here ?_ | refine guardD.here ?_ | refine stepO.here ?_ | refine brO.here ?_ | refine condV.here ?_); simp (config := {contextual := true, maxSteps := 1000000}) only [hy, hz, go_sem, reduceCtorEq, Nat.reduceAdd, Nat.reduceSub, Nat.reduceMul, Nat.reduceLT, Nat.reduceLeDiff, Int.reduceLT, Int.reduceLE, Int.reduceEq, Int.reduceNe, Int.reduceAdd, Int.reduceSub, Int.reduceMul, Int.reduceToNat, Int.reduceNeg, Int.reducePow, Nat.reducePow, Nat.reduceEqDiff, Nat.reduceBEq, Int.reduceBEq, Int.reduceBNe, Int.reduceNegSucc, qb, qf, qq, r1, r2, r3, r4, r5, r6, q0, q1, q2])
        | (refine And.intro (by kernel_rfl : okOrd _ _ = true) ?_)
        | refine Both.mk ?_ ?_
        | ((with_reducible refine CallO.gd 9 ?_); refine CallO.frA [] Tryd.call9 (awake03_s hK) ?_)
        | ((with_reducible refine CallO.gd 10 ?_); refine CallO.frA [] Tryd.call10 (cl) ?_)
        | ((with_reducible refine CallO.gd 11 ?_); refine CallO.frA [] Tryd.call11 (c1) ?_)
        | ((with_reducible refine CallO.gd 12 ?_); refine CallO.frA [] Tryd.call12 (c2) ?_)
        | ((with_reducible refine CallO.gd 13 ?_); refine CallO.frA [] Tryd.call13 (c3) ?_)
        | ((with_reducible refine CallO.gd 14 ?_); refine CallO.frA [] Tryd.call14 (c4) ?_)
        | ((with_reducible refine CallO.gd 15 ?_); refine CallO.frA [] Tryd.call15 (c5) ?_)
        | ((with_reducible refine CallO.gd 16 ?_); refine CallO.frA [] Tryd.call16 (c6) ?_)
        | ((with_reducible refine CallO.gd 17 ?_); refine CallO.frA [] Tryd.call17 (c7) ?_)
        | ((with_reducible refine CallO.gd 18 ?_); refine CallO.frA [] Tryd.call18 (c8) ?_)
        | ((with_reducible refine CallO.gd 21 ?_); refine CallO.frA [] Tryd.call21 (c9) ?_)
        | ((with_reducible refine CallO.gd 22 ?_); refine CallO.frA [] Tryd.call22 (vrput_s z0 z1 []) ?_)
        | ((with_reducible refine CallO.gd 19 ?_); refine CallO.frA [] Tryd.call19 (vsame_t _ []) ?_)
        | ((with_reducible refine CallO.gd 20 ?_); refine CallO.frA [] Tryd.call20 (same03_t _ hs3 []) ?_)
        | (first | refine hN _ ?_ | (clear hN N; refine hN _ ?_) | (iterate 2 clear hN N); refine hN _ ?_ | (iterate 3 clear hN N); refine hN _ ?_ | (iterate 4 clear hN N); refine hN _ ?_ | (iterate 5 clear hN N); refine hN _ ?_); try clear hN N; try clear hy ops
        | (refine hA ?_; clear hA A hB B; try simp only [hz])
        | (refine hB ?_; clear hA A hB B; try simp only [hz])
        | ((first | refine guardO.mk (fun hz => ?_) (fun hz => ?_) | refine guardD.mk (fun hz => ?_) (fun hz => ?_) | refine Br.mk (fun hz => ?_) (fun hz => ?_)) <;> (have h := hz; try simp only [decide_eq_true_eq, decide_eq_false_iff_not, Int.not_lt, Int.not_le, beq_iff_eq, beq_eq_false_iff_ne, bne_iff_ne, bne_eq_false_iff_eq, ne_eq, Bool.not_eq_true', Bool.not_eq_false', Decidable.not_not] at h) <;> (try (exfalso; omega)) <;> (try simp only [Bool.not_eq_true', Bool.not_eq_false', beq_true, beq_false] at hz))
        | ((first | rw [if_pos (show _ ∧ _ from ⟨by omega, by omega⟩)] | rw [if_pos (show _ ∧ _ from by simp only [List.length_append, List.length_cons, List.length_nil]; exact ⟨by omega, by omega⟩)]); simp (config := {contextual := true, maxSteps := 1000000}) only [hy, hz, go_sem, reduceCtorEq, Nat.reduceAdd, Nat.reduceSub, Nat.reduceMul, Nat.reduceLT, Nat.reduceLeDiff, Int.reduceLT, Int.reduceLE, Int.reduceEq, Int.reduceNe, Int.reduceAdd, Int.reduceSub, Int.reduceMul, Int.reduceToNat, Int.reduceNeg, Int.reducePow, Nat.reducePow, Nat.reduceEqDiff, Nat.reduceBEq, Int.reduceBEq, Int.reduceBNe, Int.reduceNegSucc, qb, qf, qq, r1, r2, r3, r4, r5, r6, q0, q1, q2])
        | (simp only [thenV, blockV, if_true, if_false, Nat.reduceEqDiff, reduceCtorEq, imp_self]))
    all_goals (first | exact retA hQ Tryd.results3 (Desc.re [] rfl) | exact retN hQ Tryd.results3 (Desc.re [] rfl))
  have qq : ((9000 : Int) < (q.length : Int)) = False := eq_false (by omega)
  have qf : True := trivial
  have hp : ∀ p ∈ l, p.length ≤ 100000000 := fun p h => by have := hlg.2 p h; omega
  have c1 := wrap_s hK b (by omega) []
  have c2 := rwrap_s (K := K) b (by omega) []
  have c3 := next_s hK q (by omega) []
  have c4 := rnext_s (K := K) q (by omega) []
  have c5 := scan_s hK q (by omega) []
  have c6 := rscan_s (K := K) q (by omega) []
  have c7 := all_s hK l (by omega) hp []
  have c8 := rall_s (K := K) l (by omega) hp []
  have c9 := fsize_s (K := K) b (by omega) []
  have hs3 : (scanF q).1.length ≤ 1000000000 := by have := scanF_len q; omega
  obtain ⟨f1, e1, hf1⟩ : ∃ f e, wrapF b = (f, e) := ⟨_, _, rfl⟩
  obtain ⟨f2, n2, e2, hf2⟩ : ∃ f n e, nextF q = (f, n, e) := ⟨_, _, _, rfl⟩
  obtain ⟨f3, n3, e3, hf3⟩ : ∃ f n e, scanF q = (f, n, e) := ⟨_, _, _, rfl⟩
  obtain ⟨f4, e4, hf4⟩ : ∃ f e, allF l = (f, e) := ⟨_, _, rfl⟩
  rw [hf1] at c1 c2
  rw [hf2] at c3 c4
  rw [hf3] at c5 c6 hs3
  rw [hf4] at c7 c8
  simp only [byV, nxV, scV] at c1 c2 c3 c4 c5 c6 c7 c8
  dsimp only at hs3
  have r1 : (e1 == e1) = true := beq_self_eq_true e1
  have r2 : (e2 == e2) = true := beq_self_eq_true e2
  have r3 : (e3 == e3) = true := beq_self_eq_true e3
  have r4 : (e4 == e4) = true := beq_self_eq_true e4
  have r5 : ((n2 : Int) == (n2 : Int)) = true := beq_self_eq_true _
  have r6 : ((n3 : Int) == (n3 : Int)) = true := beq_self_eq_true _
  have z0 : (0 : Int) ≤ (b.length : Int) := by omega
  have z1 : (b.length : Int) < 18446744073709551616 := by omega
  have hv := vput_len (n := b.length) (by omega)
  have q0 : IntKind.u64.wrap (b.length : Int) = (b.length : Int) := wr_u64 (by omega) (by omega)
  have q1 : IntKind.i64.wrap (((vput b.length).length : Int) + (b.length : Int)) = (((vput b.length).length + b.length : Nat) : Int) := by rw [wr_i64 (by omega) (by omega)]; rfl
  have q2 : IntKind.i64.wrap ((((vput b.length).length + b.length : Nat) : Int) + 4) = (((vput b.length).length + b.length + 4 : Nat) : Int) := by rw [wr_i64 (by omega) (by omega)]; rfl
  refine Sp.of_bodyD Tryd.func3 rfl ?_
  intro Q hQ
  simp only [List.replicate, List.length_cons, List.length_nil, Tryd.ntmps3, Nat.reduceAdd, Nat.reduceSub, List.cons_append, List.nil_append, go_sem]
  have hz : True := trivial
  have hy := yieldedV_eq
  repeat' (first
      | (refine WPV.seqK ?_; intro N hN)
      | refine WPV.block ?_
      | refine WPV.scope ?_
      | refine WPV.skip ?_
      | refine WPV.label ?_
      | refine WPV.exit ?_
      | refine WPV.ret ?_
      | (refine WPV.regionG (M := noM) ?_; intro N hN ops hy; (try simp only [List.append] at hy ⊢); (try simp only [List.map_cons, List.map_nil] at hy))
      | (refine WPV.drawK (M := noM) (by kernel_rfl) (by kernel_rfl) ?_; intro N hN; have hy := yieldedV_eq)
      | (refine WPV.condK ?_; intro A hA B hB)
      | ((with_reducible first | refine opsV.here ?_ | refine guardO.here ?_ | refine resO.here ?_ | refine drawV.here ?_ | refine guardD.here ?_ | refine stepO.here ?_ | refine brO.here ?_ | refine condV.here ?_); simp (config := {contextual := true, maxSteps := 1000000}) only [hy, hz, go_sem, reduceCtorEq, Nat.reduceAdd, Nat.reduceSub, Nat.reduceMul, Nat.reduceLT, Nat.reduceLeDiff, Int.reduceLT, Int.reduceLE, Int.reduceEq, Int.reduceNe, Int.reduceAdd, Int.reduceSub, Int.reduceMul, Int.reduceToNat, Int.reduceNeg, Int.reducePow, Nat.reducePow, Nat.reduceEqDiff, Nat.reduceBEq, Int.reduceBEq, Int.reduceBNe, Int.reduceNegSucc, qb, qf, qq, r1, r2, r3, r4, r5, r6, q0, q1, q2])
      | (refine And.intro (by kernel_rfl : okOrd _ _ = true) ?_)
      | refine Both.mk ?_ ?_
      | ((with_reducible refine CallO.gd 9 ?_); refine CallO.frA [] Tryd.call9 (awake03_s hK) ?_)
      | ((with_reducible refine CallO.gd 10 ?_); refine CallO.frA [] Tryd.call10 (cl) ?_)
      | ((with_reducible refine CallO.gd 11 ?_); refine CallO.frA [] Tryd.call11 (c1) ?_)
      | ((with_reducible refine CallO.gd 12 ?_); refine CallO.frA [] Tryd.call12 (c2) ?_)
      | ((with_reducible refine CallO.gd 13 ?_); refine CallO.frA [] Tryd.call13 (c3) ?_)
      | ((with_reducible refine CallO.gd 14 ?_); refine CallO.frA [] Tryd.call14 (c4) ?_)
      | ((with_reducible refine CallO.gd 15 ?_); refine CallO.frA [] Tryd.call15 (c5) ?_)
      | ((with_reducible refine CallO.gd 16 ?_); refine CallO.frA [] Tryd.call16 (c6) ?_)
      | ((with_reducible refine CallO.gd 17 ?_); refine CallO.frA [] Tryd.call17 (c7) ?_)
      | ((with_reducible refine CallO.gd 18 ?_); refine CallO.frA [] Tryd.call18 (c8) ?_)
      | ((with_reducible refine CallO.gd 21 ?_); refine CallO.frA [] Tryd.call21 (c9) ?_)
      | ((with_reducible refine CallO.gd 22 ?_); refine CallO.frA [] Tryd.call22 (vrput_s z0 z1 []) ?_)
      | ((with_reducible refine CallO.gd 19 ?_); refine CallO.frA [] Tryd.call19 (vsame_t _ []) ?_)
      | ((with_reducible refine CallO.gd 20 ?_); refine CallO.frA [] Tryd.call20 (same03_t _ hs3 []) ?_)
      | (first | refine hN _ ?_ | (clear hN N; refine hN _ ?_) | (iterate 2 clear hN N); refine hN _ ?_ | (iterate 3 clear hN N); refine hN _ ?_ | (iterate 4 clear hN N); refine hN _ ?_ | (iterate 5 clear hN N); refine hN _ ?_); try clear hN N; try clear hy ops
      | (refine hA ?_; clear hA A hB B; try simp only [hz])
      | (refine hB ?_; clear hA A hB B; try simp only [hz])
      | ((first | refine guardO.mk (fun hz => ?_) (fun hz => ?_) | refine guardD.mk (fun hz => ?_) (fun hz => ?_) | refine Br.mk (fun hz => ?_) (fun hz => ?_)) <;> (have h := hz; try simp only [decide_eq_true_eq, decide_eq_false_iff_not, Int.not_lt, Int.not_le, beq_iff_eq, beq_eq_false_iff_ne, bne_iff_ne, bne_eq_false_iff_eq, ne_eq, Bool.not_eq_true', Bool.not_eq_false', Decidable.not_not] at h) <;> (try (exfalso; omega)) <;> (try simp only [Bool.not_eq_true', Bool.not_eq_false', beq_true, beq_false] at hz))
      | ((first | rw [if_pos (show _ ∧ _ from ⟨by omega, by omega⟩)] | rw [if_pos (show _ ∧ _ from by simp only [List.length_append, List.length_cons, List.length_nil]; exact ⟨by omega, by omega⟩)]); simp (config := {contextual := true, maxSteps := 1000000}) only [hy, hz, go_sem, reduceCtorEq, Nat.reduceAdd, Nat.reduceSub, Nat.reduceMul, Nat.reduceLT, Nat.reduceLeDiff, Int.reduceLT, Int.reduceLE, Int.reduceEq, Int.reduceNe, Int.reduceAdd, Int.reduceSub, Int.reduceMul, Int.reduceToNat, Int.reduceNeg, Int.reducePow, Nat.reducePow, Nat.reduceEqDiff, Nat.reduceBEq, Int.reduceBEq, Int.reduceBNe, Int.reduceNegSucc, qb, qf, qq, r1, r2, r3, r4, r5, r6, q0, q1, q2])
      | (simp only [thenV, blockV, if_true, if_false, Nat.reduceEqDiff, reduceCtorEq, imp_self]))
  all_goals (first | exact retA hQ Tryd.results3 (Desc.re [] rfl) | exact retN hQ Tryd.results3 (Desc.re [] rfl))
end Go.Proofs.YtonllhjmoenckaaDoor
