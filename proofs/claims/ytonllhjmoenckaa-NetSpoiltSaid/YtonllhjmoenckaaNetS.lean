/- Walks: the program's net: Take. -/
import Derived.Test.YtonllhjmoenckaaNetR
import Derived.Test.YtonllhjmoenckaaVsY
namespace Go.Proofs.Ytonllhjmoenckaa
open Go Go.RowKit
set_option linter.unusedVariables false
set_option linter.unusedSimpArgs false
variable {K : Nat → Obj → Prop}

def ntake (l : List Snt) (i : Int) : (Ltr × Bool) × List Snt := match nat_ l i with
  | some j => (((l.getD j ⟨0, [], false⟩).l, true), l.eraseIdx j)
  | none => ((⟨0, []⟩, false), l)
def tkLV (r : Ltr × Bool) : V := .tup [.agg [.sc (.int .i64 r.1.to), .sl 1 (bs r.1.b)], .sc (.bool r.2)]
theorem ltrV_wk : Wk [.tup [.agg [.sc (.int .i64 0), .sc (.slice none 0 0)], .sc (.bool false)]] [tkLV (⟨0, []⟩, false)] :=
  Wk.tupC (Wk.agg (Wk.same (Wk.null Wk.nil)) Wk.refl) Wk.refl
set_option maxRecDepth 100000 in
set_option maxHeartbeats 1000000 in
theorem ntake_w (l : List Snt) (i : Int) (hk : NOk l) (hi2 : i < 9223372036854775808) : Sp Try.prog K 21 [.ptr 0 0, .sc (.int .i64 i)] [.cells (nce l)] fun u hh => ∃ o j1 x, u = o ∧ hh = .cells x :: j1 ∧ Wk [o] [tkLV (ntake l i).1] ∧ Wk x (nce (ntake l i).2) := by
  have hat := nat_s (K := K) l i hk.len hi2
  unfold natV at hat
  unfold ntake
  have q0 : True := trivial
  have q1 : True := trivial
  have q2 : True := trivial
  have q3 : True := trivial
  have q4 : True := trivial
  have q5 : True := trivial
  have q6 : True := trivial
  have q7 : True := trivial
  have q8 : True := trivial
  have q9 : True := trivial
  have r1 : True := trivial
  have r2 : True := trivial
  have r3 : True := trivial
  have r4 : True := trivial
  have r5 : True := trivial
  have r6 : True := trivial
  have r7 : True := trivial
  have r8 : True := trivial
  have r9 : True := trivial
  have s1 : True := trivial
  have s2 : True := trivial
  have s3 : True := trivial
  have s4 : True := trivial
  have s5 : True := trivial
  have s6 : True := trivial
  cases hj : nat_ l i with
  | none =>
    rw [hj] at hat
    dsimp only at hat ⊢
    clear hj
    refine Sp.of_bodyD Try.func21 rfl ?_
    intro Q hQ
    simp only [List.replicate, List.length_cons, List.length_nil, Try.ntmps21, Nat.reduceAdd, Nat.reduceSub, List.cons_append, List.nil_append, go_sem]
    have h0 : True := trivial
    have hy := yieldedV_eq
    repeat' (first
        | (refine WPV.seqK ?_; intro N hN)
        | refine WPV.block ?_
        | refine WPV.scope ?_
        | refine WPV.skip ?_
        | refine WPV.label ?_
        | refine WPV.exit ?_
        | refine WPV.ret ?_
        | (refine WPV.regionG (M := noM) ?_; intro N hN ops hy; (try simp only [List.append] at hy ⊢); (try simp only [List.map_cons, List.map_nil] at hy))
        | (refine WPV.drawK (M := noM) (by kernel_rfl) (by kernel_rfl) ?_; intro N hN; have hy := yieldedV_eq)
        | (refine WPV.condK ?_; intro A hA B hB)
        | ((with_reducible first | refine opsV.here ?_ | refine guardO.here ?_ | refine resO.here ?_ | refine drawV.here ?_ | refine guardD.here ?_ | refine stepO.here ?_ | refine brO.here ?_ | refine condV.here ?_); simp (config := {contextual := true, maxSteps := 1000000}) only [hy, h0, go_sem, reduceCtorEq, Nat.reduceAdd, Nat.reduceSub, Nat.reduceMul, Nat.reduceLT, Nat.reduceLeDiff, Int.reduceLT, Int.reduceLE, Int.reduceEq, Int.reduceNe, Int.reduceAdd, Int.reduceSub, Int.reduceMul, Int.reduceToNat, Int.reduceNeg, Int.reducePow, Nat.reducePow, Nat.reduceEqDiff, Nat.reduceBEq, Int.reduceBEq, Int.reduceBNe, Int.reduceNegSucc, q0, q1, q2, q3, q4, q5, q6, q7, q8, q9, r1, r2, r3, r4, r5, r6, r7, r8, r9, s1, s2, s3, s4, s5, s6])
        | (refine And.intro (by kernel_rfl : okOrd _ _ = true) ?_)
        | refine Both.mk ?_ ?_
        | ((with_reducible refine CallO.gd 75 ?_); refine CallO.frA [0] Try.call75 (hat) ?_)
        | (first | refine hN _ ?_ | (clear hN N; refine hN _ ?_) | (iterate 2 clear hN N); refine hN _ ?_ | (iterate 3 clear hN N); refine hN _ ?_ | (iterate 4 clear hN N); refine hN _ ?_ | (iterate 5 clear hN N); refine hN _ ?_); try clear hN N; try clear hy ops
        | (refine hA ?_; clear hA A hB B; try simp only [h0])
        | (refine hB ?_; clear hA A hB B; try simp only [h0])
        | ((first | refine guardO.mk (fun h0 => ?_) (fun h0 => ?_) | refine guardD.mk (fun h0 => ?_) (fun h0 => ?_) | refine Br.mk (fun h0 => ?_) (fun h0 => ?_)) <;> (have h := h0; try simp only [decide_eq_true_eq, decide_eq_false_iff_not, Int.not_lt, Int.not_le, beq_iff_eq, beq_eq_false_iff_ne, bne_iff_ne, bne_eq_false_iff_eq, ne_eq, Bool.not_eq_true', Bool.not_eq_false', Decidable.not_not] at h) <;> (try (exfalso; omega)) <;> (try simp only [Bool.not_eq_true', Bool.not_eq_false', beq_true, beq_false] at h0))
        | ((first | rw [if_pos (show _ ∧ _ from ⟨by omega, by omega⟩)] | rw [if_pos (show _ ∧ _ from by simp only [List.length_append, List.length_cons, List.length_nil]; exact ⟨by omega, by omega⟩)]); simp (config := {contextual := true, maxSteps := 1000000}) only [hy, h0, go_sem, reduceCtorEq, Nat.reduceAdd, Nat.reduceSub, Nat.reduceMul, Nat.reduceLT, Nat.reduceLeDiff, Int.reduceLT, Int.reduceLE, Int.reduceEq, Int.reduceNe, Int.reduceAdd, Int.reduceSub, Int.reduceMul, Int.reduceToNat, Int.reduceNeg, Int.reducePow, Nat.reducePow, Nat.reduceEqDiff, Nat.reduceBEq, Int.reduceBEq, Int.reduceBNe, Int.reduceNegSucc, q0, q1, q2, q3, q4, q5, q6, q7, q8, q9, r1, r2, r3, r4, r5, r6, r7, r8, r9, s1, s2, s3, s4, s5, s6])
        | (simp only [thenV, blockV, if_true, if_false, Nat.reduceEqDiff, reduceCtorEq, imp_self]))
    all_goals (apply And.right; refine hQ _ _ _ Desc.refl ?_ ⟨_, _, _, rfl, rfl, ltrV_wk, Wk.refl⟩)
    · (first | (simp only [go_sem, reduceCtorEq, Nat.reduceAdd, Nat.reduceSub, Nat.reduceMul, Nat.reduceLT, Nat.reduceLeDiff, Int.reduceLT, Int.reduceLE, Int.reduceEq, Int.reduceNe, Int.reduceAdd, Int.reduceSub, Int.reduceMul, Int.reduceToNat, Int.reduceNeg, Int.reducePow, Nat.reducePow, Nat.reduceEqDiff, Nat.reduceBEq, Int.reduceBEq, Int.reduceBNe, Int.reduceNegSucc, Try.results21]; done) | (simp only [go_sem, reduceCtorEq, Nat.reduceAdd, Nat.reduceSub, Nat.reduceMul, Nat.reduceLT, Nat.reduceLeDiff, Int.reduceLT, Int.reduceLE, Int.reduceEq, Int.reduceNe, Int.reduceAdd, Int.reduceSub, Int.reduceMul, Int.reduceToNat, Int.reduceNeg, Int.reducePow, Nat.reducePow, Nat.reduceEqDiff, Nat.reduceBEq, Int.reduceBEq, Int.reduceBNe, Int.reduceNegSucc, Try.results21]; rfl) | rfl)
  | some j =>
    rw [hj] at hat
    dsimp only at hat ⊢
    have hlt := nat_lt hj
    have hs := getD_some hlt ⟨0, [], false⟩
    have hmod : i.tmod (l.length : Int) = (j : Int) := by
      unfold nat_ at hj
      split at hj
      · cases hj
      · rename_i h1
        cases hj
        rw [Int.tmod_eq_emod_of_nonneg (by omega), Int.natCast_emod, Int.toNat_of_nonneg (by omega)]
    clear hj
    generalize l.getD j ⟨0, [], false⟩ = s at hs ⊢
    have h64 := hk.len
    have hln : (nce l).length = 193 := nce_ln l hk.len _
    have q0 := nce_letter hs
    have q1 : ((l.length : Int) = 0) = False := eq_false (by omega)
    have q2 := nce_many l h64
    have q3 : IntKind.i64.wrap ((j : Int) + 1) = ((j + 1 : Nat) : Int) := by rw [wr_i64 (by omega) (by omega)]; rfl
    have q4 : ((j : Int) ≤ 64) = True := eq_true (by omega)
    have q5 : (((j + 1 : Nat) : Int) ≤ (l.length : Int)) = True := eq_true (by omega)
    have q6 : ((l.length : Int) ≤ 64) = True := eq_true (by omega)
    have q7 : (j * 3 + 2 ≤ (nce l).length) = True := eq_true (by omega)
    have q8 := hmod
    have r1 : ((64 : Int) - (j : Int)).toNat = 64 - j := by omega
    have r2 : ((l.length : Int) - ((j + 1 : Nat) : Int)).toNat = l.length - (j + 1) := by omega
    have r3 : ((j + 1) * 3 + (l.length - (j + 1)) * 3 ≤ (nce l).length) = True := eq_true (by omega)
    have r4 : (j * 3 + (64 - j) * 3 ≤ (nce l).length) = True := eq_true (by omega)
    have r5 : min (64 - j) (l.length - (j + 1)) = l.length - (j + 1) := by omega
    have hxl : (nfl (l.drop (l.length - 1)) ++ anys (192 - 3 * l.length)).length = 192 - 3 * (l.eraseIdx j).length := by
      rw [List.length_append, nfl_len, anys_len, List.length_drop, List.length_eraseIdx, if_pos hlt]; omega
    have hel : (l.eraseIdx j).length = l.length - 1 := by rw [List.length_eraseIdx, if_pos hlt]
    have h64' : (l.eraseIdx j).length ≤ 64 := by omega
    have r6 : List.take (j * 3) (nce l) ++ List.take ((l.length - (j + 1)) * 3) (List.take ((l.length - (j + 1)) * 3) (List.drop ((j + 1) * 3) (nce l))) ++ List.drop (j * 3 + (l.length - (j + 1)) * 3) (nce l) = ncx (l.eraseIdx j) (nfl (l.drop (l.length - 1)) ++ anys (192 - 3 * l.length)) l.length := by
      have := ncx_copy (x := anys (192 - 3 * l.length)) (m := l.length) hlt
      rw [List.take_take, Nat.min_self, Nat.mul_comm j 3, Nat.mul_comm (j + 1) 3, Nat.mul_comm (l.length - (j + 1)) 3]
      exact this
    have r7 := ncx_many (m := (l.length : Int)) hxl h64'
    have r8 : IntKind.i64.wrap ((l.length : Int) - 1) = ((l.length - 1 : Nat) : Int) := by rw [wr_i64 (by omega) (by omega)]; omega
    have r9 := ncx_len (m := (l.length : Int)) hxl h64'
    have s1 := ncx_set (m := (l.length : Int)) hxl h64' ((l.length - 1 : Nat) : Int)
    have s2 := ncx_many (m := ((l.length - 1 : Nat) : Int)) hxl h64'
    have s3 : (((l.length - 1 : Nat) : Int) < 64) = True := eq_true (by omega)
    have s4 : ((l.length - 1) * 3 + 3 ≤ 193) = True := eq_true (by omega)
    have s5 := ncx_len (m := ((l.length - 1 : Nat) : Int)) hxl h64'
    have s6 := ncx_over (l := l.eraseIdx j) (x := anys (192 - 3 * l.length)) (m := ((l.length - 1 : Nat) : Int)) (y := nfl (l.drop (l.length - 1))) (z := [V.sc (.int .i64 0), V.nilsl, V.sc (.bool false)]) (by rw [nfl_len, List.length_drop]; simp; omega)
    rw [hel, Nat.mul_comm 3 (l.length - 1)] at s6
    simp only [List.length_cons, List.length_nil, Nat.zero_add, Nat.reduceAdd] at s6
    have hwk : Wk (ncx (l.eraseIdx j) ([V.sc (.int .i64 0), V.nilsl, V.sc (.bool false)] ++ anys (192 - 3 * l.length)) ((l.length - 1 : Nat) : Int)) (nce (l.eraseIdx j)) := by
      unfold nce ncx
      rw [hel, anys_3 (n := 192 - 3 * (l.length - 1)) (by omega), show 192 - 3 * (l.length - 1) - 3 = 192 - 3 * l.length by omega]
      exact Wk.appL (by simp) (Wk.appL rfl Wk.refl (Wk.appL (by simp) (Wk.any (Wk.any (Wk.any Wk.nil))) Wk.refl)) Wk.refl
    refine Sp.of_bodyD Try.func21 rfl ?_
    intro Q hQ
    simp only [List.replicate, List.length_cons, List.length_nil, Try.ntmps21, Nat.reduceAdd, Nat.reduceSub, List.cons_append, List.nil_append, go_sem]
    have h0 : True := trivial
    have hy := yieldedV_eq
    repeat' (first
        | (refine WPV.seqK ?_; intro N hN)
        | refine WPV.block ?_
        | refine WPV.scope ?_
        | refine WPV.skip ?_
        | refine WPV.label ?_
        | refine WPV.exit ?_
        | refine WPV.ret ?_
        | (refine WPV.regionG (M := noM) ?_; intro N hN ops hy; (try simp only [List.append] at hy ⊢); (try simp only [List.map_cons, List.map_nil] at hy))
        | (refine WPV.drawK (M := noM) (by kernel_rfl) (by kernel_rfl) ?_; intro N hN; have hy := yieldedV_eq)
        | (refine WPV.condK ?_; intro A hA B hB)
        | ((with_reducible first | refine opsV.here ?_ | refine guardO.here ?_ | refine resO.here ?_ | refine drawV.here ?_ | refine guardD.here ?_ | refine stepO.here ?_ | refine brO.here ?_ | refine condV.here ?_); simp (config := {contextual := true, maxSteps := 1000000}) only [hy, h0, go_sem, reduceCtorEq, Nat.reduceAdd, Nat.reduceSub, Nat.reduceMul, Nat.reduceLT, Nat.reduceLeDiff, Int.reduceLT, Int.reduceLE, Int.reduceEq, Int.reduceNe, Int.reduceAdd, Int.reduceSub, Int.reduceMul, Int.reduceToNat, Int.reduceNeg, Int.reducePow, Nat.reducePow, Nat.reduceEqDiff, Nat.reduceBEq, Int.reduceBEq, Int.reduceBNe, Int.reduceNegSucc, q0, q1, q2, q3, q4, q5, q6, q7, q8, q9, r1, r2, r3, r4, r5, r6, r7, r8, r9, s1, s2, s3, s4, s5, s6])
        | (refine And.intro (by kernel_rfl : okOrd _ _ = true) ?_)
        | refine Both.mk ?_ ?_
        | ((with_reducible refine CallO.gd 75 ?_); refine CallO.frA [0] Try.call75 (hat) ?_)
        | (first | refine hN _ ?_ | (clear hN N; refine hN _ ?_) | (iterate 2 clear hN N); refine hN _ ?_ | (iterate 3 clear hN N); refine hN _ ?_ | (iterate 4 clear hN N); refine hN _ ?_ | (iterate 5 clear hN N); refine hN _ ?_); try clear hN N; try clear hy ops
        | (refine hA ?_; clear hA A hB B; try simp only [h0])
        | (refine hB ?_; clear hA A hB B; try simp only [h0])
        | ((first | refine guardO.mk (fun h0 => ?_) (fun h0 => ?_) | refine guardD.mk (fun h0 => ?_) (fun h0 => ?_) | refine Br.mk (fun h0 => ?_) (fun h0 => ?_)) <;> (have h := h0; try simp only [decide_eq_true_eq, decide_eq_false_iff_not, Int.not_lt, Int.not_le, beq_iff_eq, beq_eq_false_iff_ne, bne_iff_ne, bne_eq_false_iff_eq, ne_eq, Bool.not_eq_true', Bool.not_eq_false', Decidable.not_not] at h) <;> (try (exfalso; omega)) <;> (try simp only [Bool.not_eq_true', Bool.not_eq_false', beq_true, beq_false] at h0))
        | ((first | rw [if_pos (show _ ∧ _ from ⟨by omega, by omega⟩)] | rw [if_pos (show _ ∧ _ from by simp only [List.length_append, List.length_cons, List.length_nil]; exact ⟨by omega, by omega⟩)]); simp (config := {contextual := true, maxSteps := 1000000}) only [hy, h0, go_sem, reduceCtorEq, Nat.reduceAdd, Nat.reduceSub, Nat.reduceMul, Nat.reduceLT, Nat.reduceLeDiff, Int.reduceLT, Int.reduceLE, Int.reduceEq, Int.reduceNe, Int.reduceAdd, Int.reduceSub, Int.reduceMul, Int.reduceToNat, Int.reduceNeg, Int.reducePow, Nat.reducePow, Nat.reduceEqDiff, Nat.reduceBEq, Int.reduceBEq, Int.reduceBNe, Int.reduceNegSucc, q0, q1, q2, q3, q4, q5, q6, q7, q8, q9, r1, r2, r3, r4, r5, r6, r7, r8, r9, s1, s2, s3, s4, s5, s6])
        | (simp only [thenV, blockV, if_true, if_false, Nat.reduceEqDiff, reduceCtorEq, imp_self]))
    all_goals (apply And.right; refine hQ _ _ _ Desc.refl ?_ ⟨_, _, _, rfl, rfl, Wk.refl, hwk⟩)
    · (first | (simp only [go_sem, reduceCtorEq, Nat.reduceAdd, Nat.reduceSub, Nat.reduceMul, Nat.reduceLT, Nat.reduceLeDiff, Int.reduceLT, Int.reduceLE, Int.reduceEq, Int.reduceNe, Int.reduceAdd, Int.reduceSub, Int.reduceMul, Int.reduceToNat, Int.reduceNeg, Int.reducePow, Nat.reducePow, Nat.reduceEqDiff, Nat.reduceBEq, Int.reduceBEq, Int.reduceBNe, Int.reduceNegSucc, Try.results21]; done) | (simp only [go_sem, reduceCtorEq, Nat.reduceAdd, Nat.reduceSub, Nat.reduceMul, Nat.reduceLT, Nat.reduceLeDiff, Int.reduceLT, Int.reduceLE, Int.reduceEq, Int.reduceNe, Int.reduceAdd, Int.reduceSub, Int.reduceMul, Int.reduceToNat, Int.reduceNeg, Int.reducePow, Nat.reducePow, Nat.reduceEqDiff, Nat.reduceBEq, Int.reduceBEq, Int.reduceBNe, Int.reduceNegSucc, Try.results21]; rfl) | rfl)
theorem ntake_s (l : List Snt) (i : Int) (hk : NOk l) (hi2 : i < 9223372036854775808) : Sp Try.prog K 21 [.ptr 0 0, .sc (.int .i64 i)] [.cells (nce l)] fun u hh => u = tkLV (ntake l i).1 ∧ hh = [.cells (nce (ntake l i).2)] :=
  (ntake_w l i hk hi2).descR fun v hh ⟨o, j1, x, e1, e2, hw1, hw2⟩ => by
    subst e1; subst e2
    refine ⟨_, _, ((Desc.weak hw1 (WkH.cons hw2 (WkH.refl j1))).trans (Desc.re [some 0] rfl)), rfl, ?_⟩
    simp only [reH, List.map_cons, List.map_nil, List.getElem?_cons_zero, Option.getD_some, mvO, nce_mv]
end Go.Proofs.Ytonllhjmoenckaa
