/- Walks: the program's net: Turn, Take, All. -/
import Derived.Test.YtonllhjmoenckaaNetQ
namespace Go.Proofs.Ytonllhjmoenckaa
open Go Go.RowKit
set_option linter.unusedVariables false
set_option linter.unusedSimpArgs false
variable {K : Nat → Obj → Prop}

/-! Turn -/
def nturn (l : List Snt) (i at_ : Int) (m : UInt32) : Bool × List Snt := match nat_ l i with
  | some j => if (l.getD j ⟨0, [], false⟩).sp = true then (false, l) else (true, l.set j ⟨(l.getD j ⟨0, [], false⟩).to, turnF at_ m (l.getD j ⟨0, [], false⟩).b, !decide (turnF at_ m (l.getD j ⟨0, [], false⟩).b = (l.getD j ⟨0, [], false⟩).b)⟩)
  | none => (false, l)
theorem nce_put {l : List Snt} {j k : Nat} {s s' : Snt} {v : V} (hs : l[j]? = some s) (hk : k < 3) (hc : s'.c = s.c.set k v) : (nce l).take (j * 3 + k) ++ [v] ++ (nce l).drop (j * 3 + k + 1) = nce (l.set j s') := by
  unfold nce
  rw [Nat.mul_comm j 3, ncx_put hs hk hc]; simp
set_option maxRecDepth 100000 in
set_option maxHeartbeats 1000000 in
theorem nturn_s (l : List Snt) (i at_ : Int) (m : UInt32) (hk : NOk l) (hi2 : i < 9223372036854775808) (hat1 : -9223372036854775808 ≤ at_) (hat2 : at_ ≤ 9223372036854775807) : Sp Try.prog K 27 [.ptr 0 0, .sc (.int .i64 i), .sc (.int .i64 at_), .sc (.int .u32 (U m))] [.cells (nce l)] fun u hh => u = .sc (.bool (nturn l i at_ m).1) ∧ hh = [.cells (nce (nturn l i at_ m).2)] := by
  have hat := nat_s (K := K) l i hk.len hi2
  unfold natV at hat
  unfold nturn
  have q1 : True := trivial
  have q2 : True := trivial
  have q3 : True := trivial
  have q4 : True := trivial
  have q5 : True := trivial
  have q6 : True := trivial
  have q7 : True := trivial
  have hsp : True := trivial
  have s : Snt := ⟨0, [], false⟩
  have hb : True := trivial
  cases hj : nat_ l i with
  | none =>
    rw [hj] at hat
    dsimp only at hat ⊢
    clear hj
    refine Sp.of_bodyD Try.func27 rfl ?_
    intro Q hQ
    simp only [List.replicate, List.length_cons, List.length_nil, Try.ntmps27, Nat.reduceAdd, Nat.reduceSub, List.cons_append, List.nil_append, go_sem]
    have h0 : True := trivial
    have hy := yieldedV_eq
    repeat' (first
        | (refine WPV.seqK ?_; intro N hN)
        | refine WPV.block ?_
        | refine WPV.scope ?_
        | refine WPV.skip ?_
        | refine WPV.label ?_
        | refine WPV.exit ?_
        | refine WPV.ret ?_
        | (refine WPV.regionG (M := noM) ?_; intro N hN ops hy; (try simp only [List.append] at hy ⊢); (try simp only [List.map_cons, List.map_nil] at hy))
        | (refine WPV.drawK (M := noM) (by kernel_rfl) (by kernel_rfl) ?_; intro N hN; have hy := yieldedV_eq)
        | (refine WPV.condK ?_; intro A hA B hB)
        | ((with_reducible first | refine opsV.here ?_ | refine guardO.here ?_ | refine resO.here ?_ | refine drawV.here ?_ | refine guardD.here ?_ | refine stepO.here ?_ | refine brO.here ?_ | refine condV.here ?_); simp (config := {contextual := true, maxSteps := 1000000}) only [hy, h0, go_sem, reduceCtorEq, Nat.reduceAdd, Nat.reduceSub, Nat.reduceMul, Nat.reduceLT, Nat.reduceLeDiff, Int.reduceLT, Int.reduceLE, Int.reduceEq, Int.reduceNe, Int.reduceAdd, Int.reduceSub, Int.reduceMul, Int.reduceToNat, Int.reduceNeg, Int.reducePow, Nat.reducePow, Nat.reduceEqDiff, Nat.reduceBEq, Int.reduceBEq, Int.reduceBNe, Int.reduceNegSucc, q1, q2, q3, q4, q5, q6, q7, hsp])
        | (refine And.intro (by kernel_rfl : okOrd _ _ = true) ?_)
        | refine Both.mk ?_ ?_
        | ((with_reducible refine CallO.gd 75 ?_); refine CallO.frA [0] Try.call75 (hat) ?_)
        | ((with_reducible refine CallO.gd 77 ?_); refine CallO.toA Try.call77 (turn_s s.b at_ m hb hat1 hat2 _) ?_)
        | ((with_reducible refine CallO.gd 78 ?_); refine CallO.toA Try.call78 (beq_s (turnF at_ m s.b) s.b _) ?_)
        | ((with_reducible refine CallP.gd 77 ?_); refine CallP.toA Try.call77 (turn_s s.b at_ m hb hat1 hat2 _) ?_)
        | ((with_reducible refine CallP.gd 78 ?_); refine CallP.toA Try.call78 (beq_s (turnF at_ m s.b) s.b _) ?_)
        | (first | refine hN _ ?_ | (clear hN N; refine hN _ ?_) | (iterate 2 clear hN N); refine hN _ ?_ | (iterate 3 clear hN N); refine hN _ ?_ | (iterate 4 clear hN N); refine hN _ ?_ | (iterate 5 clear hN N); refine hN _ ?_); try clear hN N; try clear hy ops
        | (refine hA ?_; clear hA A hB B; try simp only [h0])
        | (refine hB ?_; clear hA A hB B; try simp only [h0])
        | ((first | refine guardO.mk (fun h0 => ?_) (fun h0 => ?_) | refine guardD.mk (fun h0 => ?_) (fun h0 => ?_) | refine Br.mk (fun h0 => ?_) (fun h0 => ?_)) <;> (have h := h0; try simp only [decide_eq_true_eq, decide_eq_false_iff_not, Int.not_lt, Int.not_le, beq_iff_eq, beq_eq_false_iff_ne, bne_iff_ne, bne_eq_false_iff_eq, ne_eq, Bool.not_eq_true', Bool.not_eq_false', Decidable.not_not] at h) <;> (try (exfalso; omega)) <;> (try simp only [Bool.not_eq_true', Bool.not_eq_false', beq_true, beq_false] at h0))
        | ((first | rw [if_pos (show _ ∧ _ from ⟨by omega, by omega⟩)] | rw [if_pos (show _ ∧ _ from by simp only [List.length_append, List.length_cons, List.length_nil]; exact ⟨by omega, by omega⟩)]); simp (config := {contextual := true, maxSteps := 1000000}) only [hy, h0, go_sem, reduceCtorEq, Nat.reduceAdd, Nat.reduceSub, Nat.reduceMul, Nat.reduceLT, Nat.reduceLeDiff, Int.reduceLT, Int.reduceLE, Int.reduceEq, Int.reduceNe, Int.reduceAdd, Int.reduceSub, Int.reduceMul, Int.reduceToNat, Int.reduceNeg, Int.reducePow, Nat.reducePow, Nat.reduceEqDiff, Nat.reduceBEq, Int.reduceBEq, Int.reduceBNe, Int.reduceNegSucc, q1, q2, q3, q4, q5, q6, q7, hsp])
        | (simp only [thenV, blockV, if_true, if_false, Nat.reduceEqDiff, reduceCtorEq, imp_self]))
    all_goals (first | exact retA hQ Try.results27 (Desc.refl) | exact retN hQ Try.results27 (Desc.refl))
  | some j =>
    rw [hj] at hat
    dsimp only at hat ⊢
    have hlt := nat_lt hj
    have hs := getD_some hlt ⟨0, [], false⟩
    clear hj
    generalize l.getD j ⟨0, [], false⟩ = s at hs ⊢
    have hb : s.b.length ≤ 1000000000 := hk.bd s (List.mem_of_getElem? hs)
    have q1 := nce_sp hs
    have q2 := nce_body hs
    have hln : (nce l).length = 193 := nce_ln l hk.len _
    by_cases hp : s.sp = true
    · have hsp : s.sp = true := hp
      rw [if_pos hp]
      refine Sp.of_bodyD Try.func27 rfl ?_
      intro Q hQ
      simp only [List.replicate, List.length_cons, List.length_nil, Try.ntmps27, Nat.reduceAdd, Nat.reduceSub, List.cons_append, List.nil_append, go_sem]
      have h0 : True := trivial
      have hy := yieldedV_eq
      repeat' (first
          | (refine WPV.seqK ?_; intro N hN)
          | refine WPV.block ?_
          | refine WPV.scope ?_
          | refine WPV.skip ?_
          | refine WPV.label ?_
          | refine WPV.exit ?_
          | refine WPV.ret ?_
          | (refine WPV.regionG (M := noM) ?_; intro N hN ops hy; (try simp only [List.append] at hy ⊢); (try simp only [List.map_cons, List.map_nil] at hy))
          | (refine WPV.drawK (M := noM) (by kernel_rfl) (by kernel_rfl) ?_; intro N hN; have hy := yieldedV_eq)
          | (refine WPV.condK ?_; intro A hA B hB)
          | ((with_reducible first | refine opsV.here ?_ | refine guardO.here ?_ | refine resO.here ?_ | refine drawV.here ?_ | refine guardD.here ?_ | refine stepO.here ?_ | refine brO.here ?_ | refine condV.here ?_); simp (config := {contextual := true, maxSteps := 1000000}) only [hy, h0, go_sem, reduceCtorEq, Nat.reduceAdd, Nat.reduceSub, Nat.reduceMul, Nat.reduceLT, Nat.reduceLeDiff, Int.reduceLT, Int.reduceLE, Int.reduceEq, Int.reduceNe, Int.reduceAdd, Int.reduceSub, Int.reduceMul, Int.reduceToNat, Int.reduceNeg, Int.reducePow, Nat.reducePow, Nat.reduceEqDiff, Nat.reduceBEq, Int.reduceBEq, Int.reduceBNe, Int.reduceNegSucc, q1, q2, q3, q4, q5, q6, q7, hsp])
          | (refine And.intro (by kernel_rfl : okOrd _ _ = true) ?_)
          | refine Both.mk ?_ ?_
          | ((with_reducible refine CallO.gd 75 ?_); refine CallO.frA [0] Try.call75 (hat) ?_)
          | ((with_reducible refine CallO.gd 77 ?_); refine CallO.toA Try.call77 (turn_s s.b at_ m hb hat1 hat2 _) ?_)
          | ((with_reducible refine CallO.gd 78 ?_); refine CallO.toA Try.call78 (beq_s (turnF at_ m s.b) s.b _) ?_)
          | ((with_reducible refine CallP.gd 77 ?_); refine CallP.toA Try.call77 (turn_s s.b at_ m hb hat1 hat2 _) ?_)
          | ((with_reducible refine CallP.gd 78 ?_); refine CallP.toA Try.call78 (beq_s (turnF at_ m s.b) s.b _) ?_)
          | (first | refine hN _ ?_ | (clear hN N; refine hN _ ?_) | (iterate 2 clear hN N); refine hN _ ?_ | (iterate 3 clear hN N); refine hN _ ?_ | (iterate 4 clear hN N); refine hN _ ?_ | (iterate 5 clear hN N); refine hN _ ?_); try clear hN N; try clear hy ops
          | (refine hA ?_; clear hA A hB B; try simp only [h0])
          | (refine hB ?_; clear hA A hB B; try simp only [h0])
          | ((first | refine guardO.mk (fun h0 => ?_) (fun h0 => ?_) | refine guardD.mk (fun h0 => ?_) (fun h0 => ?_) | refine Br.mk (fun h0 => ?_) (fun h0 => ?_)) <;> (have h := h0; try simp only [decide_eq_true_eq, decide_eq_false_iff_not, Int.not_lt, Int.not_le, beq_iff_eq, beq_eq_false_iff_ne, bne_iff_ne, bne_eq_false_iff_eq, ne_eq, Bool.not_eq_true', Bool.not_eq_false', Decidable.not_not] at h) <;> (try (exfalso; omega)) <;> (try simp only [Bool.not_eq_true', Bool.not_eq_false', beq_true, beq_false] at h0))
          | ((first | rw [if_pos (show _ ∧ _ from ⟨by omega, by omega⟩)] | rw [if_pos (show _ ∧ _ from by simp only [List.length_append, List.length_cons, List.length_nil]; exact ⟨by omega, by omega⟩)]); simp (config := {contextual := true, maxSteps := 1000000}) only [hy, h0, go_sem, reduceCtorEq, Nat.reduceAdd, Nat.reduceSub, Nat.reduceMul, Nat.reduceLT, Nat.reduceLeDiff, Int.reduceLT, Int.reduceLE, Int.reduceEq, Int.reduceNe, Int.reduceAdd, Int.reduceSub, Int.reduceMul, Int.reduceToNat, Int.reduceNeg, Int.reducePow, Nat.reducePow, Nat.reduceEqDiff, Nat.reduceBEq, Int.reduceBEq, Int.reduceBNe, Int.reduceNegSucc, q1, q2, q3, q4, q5, q6, q7, hsp])
          | (simp only [thenV, blockV, if_true, if_false, Nat.reduceEqDiff, reduceCtorEq, imp_self]))
      all_goals (first | exact retA hQ Try.results27 (Desc.refl) | exact retN hQ Try.results27 (Desc.refl))
    · have hsp : s.sp = false := by simpa using hp
      rw [if_neg hp]
      have q3 : (j * 3 + 2 + 1 ≤ (nce l).length) = True := eq_true (by have := hk.len; omega)
      have q4 := nce_put (s' := ⟨s.to, s.b, !decide (turnF at_ m s.b = s.b)⟩) (k := 2) (v := .sc (.bool !decide (turnF at_ m s.b = s.b))) hs (by decide) rfl
      have hs2 : (l.set j ⟨s.to, s.b, !decide (turnF at_ m s.b = s.b)⟩)[j]? = some ⟨s.to, s.b, !decide (turnF at_ m s.b = s.b)⟩ := List.getElem?_set_self hlt
      have q5 := nce_put (s' := ⟨s.to, turnF at_ m s.b, !decide (turnF at_ m s.b = s.b)⟩) (k := 1) (v := .sl 1 (bs (turnF at_ m s.b))) hs2 (by decide) rfl
      rw [List.set_set] at q5
      have q6 : (j * 3 + 1 + 1 ≤ (nce (l.set j ⟨s.to, s.b, !decide (turnF at_ m s.b = s.b)⟩)).length) = True := eq_true (by have h1 : (nce (l.set j ⟨s.to, s.b, !decide (turnF at_ m s.b = s.b)⟩)).length = 193 := nce_ln _ (by simpa using hk.len) _; have := hk.len; omega)
      refine Sp.of_bodyD Try.func27 rfl ?_
      intro Q hQ
      simp only [List.replicate, List.length_cons, List.length_nil, Try.ntmps27, Nat.reduceAdd, Nat.reduceSub, List.cons_append, List.nil_append, go_sem]
      have h0 : True := trivial
      have hy := yieldedV_eq
      repeat' (first
          | (refine WPV.seqK ?_; intro N hN)
          | refine WPV.block ?_
          | refine WPV.scope ?_
          | refine WPV.skip ?_
          | refine WPV.label ?_
          | refine WPV.exit ?_
          | refine WPV.ret ?_
          | (refine WPV.regionG (M := noM) ?_; intro N hN ops hy; (try simp only [List.append] at hy ⊢); (try simp only [List.map_cons, List.map_nil] at hy))
          | (refine WPV.drawK (M := noM) (by kernel_rfl) (by kernel_rfl) ?_; intro N hN; have hy := yieldedV_eq)
          | (refine WPV.condK ?_; intro A hA B hB)
          | ((with_reducible first | refine opsV.here ?_ | refine guardO.here ?_ | refine resO.here ?_ | refine drawV.here ?_ | refine guardD.here ?_ | refine stepO.here ?_ | refine brO.here ?_ | refine condV.here ?_); simp (config := {contextual := true, maxSteps := 1000000}) only [hy, h0, go_sem, reduceCtorEq, Nat.reduceAdd, Nat.reduceSub, Nat.reduceMul, Nat.reduceLT, Nat.reduceLeDiff, Int.reduceLT, Int.reduceLE, Int.reduceEq, Int.reduceNe, Int.reduceAdd, Int.reduceSub, Int.reduceMul, Int.reduceToNat, Int.reduceNeg, Int.reducePow, Nat.reducePow, Nat.reduceEqDiff, Nat.reduceBEq, Int.reduceBEq, Int.reduceBNe, Int.reduceNegSucc, q1, q2, q3, q4, q5, q6, q7, hsp])
          | (refine And.intro (by kernel_rfl : okOrd _ _ = true) ?_)
          | refine Both.mk ?_ ?_
          | ((with_reducible refine CallO.gd 75 ?_); refine CallO.frA [0] Try.call75 (hat) ?_)
          | ((with_reducible refine CallO.gd 77 ?_); refine CallO.toA Try.call77 (turn_s s.b at_ m hb hat1 hat2 _) ?_)
          | ((with_reducible refine CallO.gd 78 ?_); refine CallO.toA Try.call78 (beq_s (turnF at_ m s.b) s.b _) ?_)
          | ((with_reducible refine CallP.gd 77 ?_); refine CallP.toA Try.call77 (turn_s s.b at_ m hb hat1 hat2 _) ?_)
          | ((with_reducible refine CallP.gd 78 ?_); refine CallP.toA Try.call78 (beq_s (turnF at_ m s.b) s.b _) ?_)
          | (first | refine hN _ ?_ | (clear hN N; refine hN _ ?_) | (iterate 2 clear hN N); refine hN _ ?_ | (iterate 3 clear hN N); refine hN _ ?_ | (iterate 4 clear hN N); refine hN _ ?_ | (iterate 5 clear hN N); refine hN _ ?_); try clear hN N; try clear hy ops
          | (refine hA ?_; clear hA A hB B; try simp only [h0])
          | (refine hB ?_; clear hA A hB B; try simp only [h0])
          | ((first | refine guardO.mk (fun h0 => ?_) (fun h0 => ?_) | refine guardD.mk (fun h0 => ?_) (fun h0 => ?_) | refine Br.mk (fun h0 => ?_) (fun h0 => ?_)) <;> (have h := h0; try simp only [decide_eq_true_eq, decide_eq_false_iff_not, Int.not_lt, Int.not_le, beq_iff_eq, beq_eq_false_iff_ne, bne_iff_ne, bne_eq_false_iff_eq, ne_eq, Bool.not_eq_true', Bool.not_eq_false', Decidable.not_not] at h) <;> (try (exfalso; omega)) <;> (try simp only [Bool.not_eq_true', Bool.not_eq_false', beq_true, beq_false] at h0))
          | ((first | rw [if_pos (show _ ∧ _ from ⟨by omega, by omega⟩)] | rw [if_pos (show _ ∧ _ from by simp only [List.length_append, List.length_cons, List.length_nil]; exact ⟨by omega, by omega⟩)]); simp (config := {contextual := true, maxSteps := 1000000}) only [hy, h0, go_sem, reduceCtorEq, Nat.reduceAdd, Nat.reduceSub, Nat.reduceMul, Nat.reduceLT, Nat.reduceLeDiff, Int.reduceLT, Int.reduceLE, Int.reduceEq, Int.reduceNe, Int.reduceAdd, Int.reduceSub, Int.reduceMul, Int.reduceToNat, Int.reduceNeg, Int.reducePow, Nat.reducePow, Nat.reduceEqDiff, Nat.reduceBEq, Int.reduceBEq, Int.reduceBNe, Int.reduceNegSucc, q1, q2, q3, q4, q5, q6, q7, hsp])
          | (simp only [thenV, blockV, if_true, if_false, Nat.reduceEqDiff, reduceCtorEq, imp_self]))
      all_goals (first | exact retA hQ Try.results27 (Desc.refl) | exact retN hQ Try.results27 (Desc.refl))
end Go.Proofs.Ytonllhjmoenckaa
