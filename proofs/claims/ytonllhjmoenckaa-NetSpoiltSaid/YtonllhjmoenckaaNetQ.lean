/- Walks: the program's net, goes on. -/
import Derived.Test.YtonllhjmoenckaaNetP
namespace Go.Proofs.Ytonllhjmoenckaa
open Go Go.RowKit
set_option linter.unusedVariables false
set_option linter.unusedSimpArgs false
variable {K : Nat → Obj → Prop}

/-! Send -/
set_option maxRecDepth 100000 in
theorem nsend_s (l : List Snt) (a : Int) (b : List UInt8) (hb : b.length ≤ 1000000000) (h : l.length ≤ 64) : Sp Try.prog K 19 [.ptr 0 0, .agg [.sc (.int .i64 a), .sl 1 (bs b)]] [.cells (nce l)] fun u hh => u = .sc (.bool (nput l ⟨a, b, false⟩).1) ∧ hh = [.cells (nce (nput l ⟨a, b, false⟩).2)] := by
  refine Sp.of_bodyD Try.func19 rfl ?_
  intro Q hQ
  simp only [List.replicate, List.length_cons, List.length_nil, Try.ntmps19, Nat.reduceAdd, Nat.reduceSub, List.cons_append, List.nil_append, go_sem]
  have h0 : True := trivial
  have hy := yieldedV_eq
  repeat' (first
      | (refine WPV.seqK ?_; intro N hN)
      | refine WPV.block ?_
      | refine WPV.scope ?_
      | refine WPV.skip ?_
      | refine WPV.label ?_
      | refine WPV.exit ?_
      | refine WPV.ret ?_
      | (refine WPV.regionG (M := noM) ?_; intro N hN ops hy; (try simp only [List.append] at hy ⊢); (try simp only [List.map_cons, List.map_nil] at hy))
      | (refine WPV.drawK (M := noM) (by kernel_rfl) (by kernel_rfl) ?_; intro N hN; have hy := yieldedV_eq)
      | (refine WPV.condK ?_; intro A hA B hB)
      | ((with_reducible first | refine opsV.here ?_ | refine guardO.here ?_ | refine resO.here ?_ | refine drawV.here ?_ | refine guardD.here ?_ | refine stepO.here ?_ | refine brO.here ?_ | refine condV.here ?_); simp (config := {contextual := true, maxSteps := 1000000}) only [hy, h0, go_sem, reduceCtorEq, Nat.reduceAdd, Nat.reduceSub, Nat.reduceMul, Nat.reduceLT, Nat.reduceLeDiff, Int.reduceLT, Int.reduceLE, Int.reduceEq, Int.reduceNe, Int.reduceAdd, Int.reduceSub, Int.reduceMul, Int.reduceToNat, Int.reduceNeg, Int.reducePow, Nat.reducePow, Nat.reduceEqDiff, Nat.reduceBEq, Int.reduceBEq, Int.reduceBNe, Int.reduceNegSucc])
      | (refine And.intro (by kernel_rfl : okOrd _ _ = true) ?_)
      | refine Both.mk ?_ ?_
      | ((with_reducible refine CallO.gd 74 ?_); refine CallO.frA [0] Try.call74 (nput_s l a b false hb h) ?_)
      | (first | refine hN _ ?_ | (clear hN N; refine hN _ ?_) | (iterate 2 clear hN N); refine hN _ ?_ | (iterate 3 clear hN N); refine hN _ ?_ | (iterate 4 clear hN N); refine hN _ ?_ | (iterate 5 clear hN N); refine hN _ ?_); try clear hN N; try clear hy ops
      | (refine hA ?_; clear hA A hB B; try simp only [h0])
      | (refine hB ?_; clear hA A hB B; try simp only [h0])
      | ((first | refine guardO.mk (fun h0 => ?_) (fun h0 => ?_) | refine guardD.mk (fun h0 => ?_) (fun h0 => ?_) | refine Br.mk (fun h0 => ?_) (fun h0 => ?_)) <;> (have h := h0; try simp only [decide_eq_true_eq, decide_eq_false_iff_not, Int.not_lt, Int.not_le, beq_iff_eq, beq_eq_false_iff_ne, bne_iff_ne, bne_eq_false_iff_eq, ne_eq, Bool.not_eq_true', Bool.not_eq_false', Decidable.not_not] at h) <;> (try (exfalso; omega)) <;> (try simp only [Bool.not_eq_true', Bool.not_eq_false', beq_true, beq_false] at h0))
      | ((first | rw [if_pos (show _ ∧ _ from ⟨by omega, by omega⟩)] | rw [if_pos (show _ ∧ _ from by simp only [List.length_append, List.length_cons, List.length_nil]; exact ⟨by omega, by omega⟩)]); simp (config := {contextual := true, maxSteps := 1000000}) only [hy, h0, go_sem, reduceCtorEq, Nat.reduceAdd, Nat.reduceSub, Nat.reduceMul, Nat.reduceLT, Nat.reduceLeDiff, Int.reduceLT, Int.reduceLE, Int.reduceEq, Int.reduceNe, Int.reduceAdd, Int.reduceSub, Int.reduceMul, Int.reduceToNat, Int.reduceNeg, Int.reducePow, Nat.reducePow, Nat.reduceEqDiff, Nat.reduceBEq, Int.reduceBEq, Int.reduceBNe, Int.reduceNegSucc])
      | (simp only [thenV, blockV, if_true, if_false, Nat.reduceEqDiff, reduceCtorEq, imp_self]))
  all_goals (first | exact retA hQ Try.results19 (Desc.re [some 0] rfl) | exact retN hQ Try.results19 (Desc.re [some 0] rfl))

/-! at -/
def nat_ (l : List Snt) (i : Int) : Option Nat := if i < 0 ∨ l.length = 0 then none else some (i.toNat % l.length)
def natV (l : List Snt) (i : Int) : V := match nat_ l i with
  | some j => .ptr 0 (j * 3)
  | none => .sc (.pointer none)
theorem nat_lt {l : List Snt} {i : Int} {j : Nat} (h : nat_ l i = some j) : j < l.length := by
  unfold nat_ at h
  split at h
  · cases h
  · cases h; exact Nat.mod_lt _ (by omega)
set_option maxRecDepth 100000 in
theorem nat_s (l : List Snt) (i : Int) (h : l.length ≤ 64) (hi2 : i < 9223372036854775808) : Sp Try.prog K 75 [.ptr 0 0, .sc (.int .i64 i)] [.cells (nce l)] fun u hh => u = natV l i ∧ hh = [.cells (nce l)] := by
  have hm := nce_many l h
  have q1 : True := trivial
  have q2 : True := trivial
  have q3 : True := trivial
  unfold natV nat_
  by_cases h1 : i < 0
  · have hi : (i < 0) = True := eq_true h1
    have h0 : True := trivial
    rw [if_pos (.inl h1)]
    refine Sp.of_bodyD Try.func75 rfl ?_
    intro Q hQ
    simp only [List.replicate, List.length_cons, List.length_nil, Try.ntmps75, Nat.reduceAdd, Nat.reduceSub, List.cons_append, List.nil_append, go_sem]
    have h0 : True := trivial
    have hy := yieldedV_eq
    repeat' (first
        | (refine WPV.seqK ?_; intro N hN)
        | refine WPV.block ?_
        | refine WPV.scope ?_
        | refine WPV.skip ?_
        | refine WPV.label ?_
        | refine WPV.exit ?_
        | refine WPV.ret ?_
        | (refine WPV.regionG (M := noM) ?_; intro N hN ops hy; (try simp only [List.append] at hy ⊢); (try simp only [List.map_cons, List.map_nil] at hy))
        | (refine WPV.drawK (M := noM) (by kernel_rfl) (by kernel_rfl) ?_; intro N hN; have hy := yieldedV_eq)
        | (refine WPV.condK ?_; intro A hA B hB)
        | ((with_reducible first | refine opsV.here ?_ | refine guardO.here ?_ | refine resO.here ?_ | refine drawV.here ?_ | refine guardD.here ?_ | refine stepO.here ?_ | refine brO.here ?_ | refine condV.here ?_); simp (config := {contextual := true, maxSteps := 1000000}) only [hy, h0, go_sem, reduceCtorEq, Nat.reduceAdd, Nat.reduceSub, Nat.reduceMul, Nat.reduceLT, Nat.reduceLeDiff, Int.reduceLT, Int.reduceLE, Int.reduceEq, Int.reduceNe, Int.reduceAdd, Int.reduceSub, Int.reduceMul, Int.reduceToNat, Int.reduceNeg, Int.reducePow, Nat.reducePow, Nat.reduceEqDiff, Nat.reduceBEq, Int.reduceBEq, Int.reduceBNe, Int.reduceNegSucc, hi, h0, hm, q1, q2, q3])
        | (refine And.intro (by kernel_rfl : okOrd _ _ = true) ?_)
        | refine Both.mk ?_ ?_
        | (first | refine hN _ ?_ | (clear hN N; refine hN _ ?_) | (iterate 2 clear hN N); refine hN _ ?_ | (iterate 3 clear hN N); refine hN _ ?_ | (iterate 4 clear hN N); refine hN _ ?_ | (iterate 5 clear hN N); refine hN _ ?_); try clear hN N; try clear hy ops
        | (refine hA ?_; clear hA A hB B; try simp only [h0])
        | (refine hB ?_; clear hA A hB B; try simp only [h0])
        | ((first | refine guardO.mk (fun h0 => ?_) (fun h0 => ?_) | refine guardD.mk (fun h0 => ?_) (fun h0 => ?_) | refine Br.mk (fun h0 => ?_) (fun h0 => ?_)) <;> (have h := h0; try simp only [decide_eq_true_eq, decide_eq_false_iff_not, Int.not_lt, Int.not_le, beq_iff_eq, beq_eq_false_iff_ne, bne_iff_ne, bne_eq_false_iff_eq, ne_eq, Bool.not_eq_true', Bool.not_eq_false', Decidable.not_not] at h) <;> (try (exfalso; omega)) <;> (try simp only [Bool.not_eq_true', Bool.not_eq_false', beq_true, beq_false] at h0))
        | ((first | rw [if_pos (show _ ∧ _ from ⟨by omega, by omega⟩)] | rw [if_pos (show _ ∧ _ from by simp only [List.length_append, List.length_cons, List.length_nil]; exact ⟨by omega, by omega⟩)]); simp (config := {contextual := true, maxSteps := 1000000}) only [hy, h0, go_sem, reduceCtorEq, Nat.reduceAdd, Nat.reduceSub, Nat.reduceMul, Nat.reduceLT, Nat.reduceLeDiff, Int.reduceLT, Int.reduceLE, Int.reduceEq, Int.reduceNe, Int.reduceAdd, Int.reduceSub, Int.reduceMul, Int.reduceToNat, Int.reduceNeg, Int.reducePow, Nat.reducePow, Nat.reduceEqDiff, Nat.reduceBEq, Int.reduceBEq, Int.reduceBNe, Int.reduceNegSucc, hi, h0, hm, q1, q2, q3])
        | (simp only [thenV, blockV, if_true, if_false, Nat.reduceEqDiff, reduceCtorEq, imp_self]))
    all_goals (first | exact retA hQ Try.results75 (Desc.refl) | exact retN hQ Try.results75 (Desc.refl))
  have hi : (i < 0) = False := eq_false h1
  by_cases h2 : l.length = 0
  · have h0 : ((l.length : Int) == 0) = true := by rw [h2]; rfl
    rw [if_pos (.inr h2)]
    refine Sp.of_bodyD Try.func75 rfl ?_
    intro Q hQ
    simp only [List.replicate, List.length_cons, List.length_nil, Try.ntmps75, Nat.reduceAdd, Nat.reduceSub, List.cons_append, List.nil_append, go_sem]
    have h0 : True := trivial
    have hy := yieldedV_eq
    repeat' (first
        | (refine WPV.seqK ?_; intro N hN)
        | refine WPV.block ?_
        | refine WPV.scope ?_
        | refine WPV.skip ?_
        | refine WPV.label ?_
        | refine WPV.exit ?_
        | refine WPV.ret ?_
        | (refine WPV.regionG (M := noM) ?_; intro N hN ops hy; (try simp only [List.append] at hy ⊢); (try simp only [List.map_cons, List.map_nil] at hy))
        | (refine WPV.drawK (M := noM) (by kernel_rfl) (by kernel_rfl) ?_; intro N hN; have hy := yieldedV_eq)
        | (refine WPV.condK ?_; intro A hA B hB)
        | ((with_reducible first | refine opsV.here ?_ | refine guardO.here ?_ | refine resO.here ?_ | refine drawV.here ?_ | refine guardD.here ?_ | refine stepO.here ?_ | refine brO.here ?_ | refine condV.here ?_); simp (config := {contextual := true, maxSteps := 1000000}) only [hy, h0, go_sem, reduceCtorEq, Nat.reduceAdd, Nat.reduceSub, Nat.reduceMul, Nat.reduceLT, Nat.reduceLeDiff, Int.reduceLT, Int.reduceLE, Int.reduceEq, Int.reduceNe, Int.reduceAdd, Int.reduceSub, Int.reduceMul, Int.reduceToNat, Int.reduceNeg, Int.reducePow, Nat.reducePow, Nat.reduceEqDiff, Nat.reduceBEq, Int.reduceBEq, Int.reduceBNe, Int.reduceNegSucc, hi, h0, hm, q1, q2, q3])
        | (refine And.intro (by kernel_rfl : okOrd _ _ = true) ?_)
        | refine Both.mk ?_ ?_
        | (first | refine hN _ ?_ | (clear hN N; refine hN _ ?_) | (iterate 2 clear hN N); refine hN _ ?_ | (iterate 3 clear hN N); refine hN _ ?_ | (iterate 4 clear hN N); refine hN _ ?_ | (iterate 5 clear hN N); refine hN _ ?_); try clear hN N; try clear hy ops
        | (refine hA ?_; clear hA A hB B; try simp only [h0])
        | (refine hB ?_; clear hA A hB B; try simp only [h0])
        | ((first | refine guardO.mk (fun h0 => ?_) (fun h0 => ?_) | refine guardD.mk (fun h0 => ?_) (fun h0 => ?_) | refine Br.mk (fun h0 => ?_) (fun h0 => ?_)) <;> (have h := h0; try simp only [decide_eq_true_eq, decide_eq_false_iff_not, Int.not_lt, Int.not_le, beq_iff_eq, beq_eq_false_iff_ne, bne_iff_ne, bne_eq_false_iff_eq, ne_eq, Bool.not_eq_true', Bool.not_eq_false', Decidable.not_not] at h) <;> (try (exfalso; omega)) <;> (try simp only [Bool.not_eq_true', Bool.not_eq_false', beq_true, beq_false] at h0))
        | ((first | rw [if_pos (show _ ∧ _ from ⟨by omega, by omega⟩)] | rw [if_pos (show _ ∧ _ from by simp only [List.length_append, List.length_cons, List.length_nil]; exact ⟨by omega, by omega⟩)]); simp (config := {contextual := true, maxSteps := 1000000}) only [hy, h0, go_sem, reduceCtorEq, Nat.reduceAdd, Nat.reduceSub, Nat.reduceMul, Nat.reduceLT, Nat.reduceLeDiff, Int.reduceLT, Int.reduceLE, Int.reduceEq, Int.reduceNe, Int.reduceAdd, Int.reduceSub, Int.reduceMul, Int.reduceToNat, Int.reduceNeg, Int.reducePow, Nat.reducePow, Nat.reduceEqDiff, Nat.reduceBEq, Int.reduceBEq, Int.reduceBNe, Int.reduceNegSucc, hi, h0, hm, q1, q2, q3])
        | (simp only [thenV, blockV, if_true, if_false, Nat.reduceEqDiff, reduceCtorEq, imp_self]))
    all_goals (first | exact retA hQ Try.results75 (Desc.refl) | exact retN hQ Try.results75 (Desc.refl))
  have h0 : ((l.length : Int) == 0) = false := by rw [beq_eq_false_iff_ne]; omega
  rw [if_neg (show ¬ (i < 0 ∨ l.length = 0) by omega)]
  have q1 : i.tmod (l.length : Int) = ((i.toNat % l.length : Nat) : Int) := by
    rw [Int.tmod_eq_emod_of_nonneg (by omega), Int.natCast_emod, Int.toNat_of_nonneg (by omega)]
  have q2 : (((i.toNat % l.length : Nat) : Int) < 64) = True := eq_true (by have := Nat.mod_lt i.toNat (show 0 < l.length by omega); generalize i.toNat % l.length = z at *; omega)
  have q3 : ((l.length : Int) = 0) = False := eq_false (by omega)
  refine Sp.of_bodyD Try.func75 rfl ?_
  intro Q hQ
  simp only [List.replicate, List.length_cons, List.length_nil, Try.ntmps75, Nat.reduceAdd, Nat.reduceSub, List.cons_append, List.nil_append, go_sem]
  have h0 : True := trivial
  have hy := yieldedV_eq
  repeat' (first
      | (refine WPV.seqK ?_; intro N hN)
      | refine WPV.block ?_
      | refine WPV.scope ?_
      | refine WPV.skip ?_
      | refine WPV.label ?_
      | refine WPV.exit ?_
      | refine WPV.ret ?_
      | (refine WPV.regionG (M := noM) ?_; intro N hN ops hy; (try simp only [List.append] at hy ⊢); (try simp only [List.map_cons, List.map_nil] at hy))
      | (refine WPV.drawK (M := noM) (by kernel_rfl) (by kernel_rfl) ?_; intro N hN; have hy := yieldedV_eq)
      | (refine WPV.condK ?_; intro A hA B hB)
      | ((with_reducible first | refine opsV.here ?_ | refine guardO.here ?_ | refine resO.here ?_ | refine drawV.here ?_ | refine guardD.here ?_ | refine stepO.here ?_ | refine brO.here ?_ | refine condV.here ?_); simp (config := {contextual := true, maxSteps := 1000000}) only [hy, h0, go_sem, reduceCtorEq, Nat.reduceAdd, Nat.reduceSub, Nat.reduceMul, Nat.reduceLT, Nat.reduceLeDiff, Int.reduceLT, Int.reduceLE, Int.reduceEq, Int.reduceNe, Int.reduceAdd, Int.reduceSub, Int.reduceMul, Int.reduceToNat, Int.reduceNeg, Int.reducePow, Nat.reducePow, Nat.reduceEqDiff, Nat.reduceBEq, Int.reduceBEq, Int.reduceBNe, Int.reduceNegSucc, hi, h0, hm, q1, q2, q3])
      | (refine And.intro (by kernel_rfl : okOrd _ _ = true) ?_)
      | refine Both.mk ?_ ?_
      | (first | refine hN _ ?_ | (clear hN N; refine hN _ ?_) | (iterate 2 clear hN N); refine hN _ ?_ | (iterate 3 clear hN N); refine hN _ ?_ | (iterate 4 clear hN N); refine hN _ ?_ | (iterate 5 clear hN N); refine hN _ ?_); try clear hN N; try clear hy ops
      | (refine hA ?_; clear hA A hB B; try simp only [h0])
      | (refine hB ?_; clear hA A hB B; try simp only [h0])
      | ((first | refine guardO.mk (fun h0 => ?_) (fun h0 => ?_) | refine guardD.mk (fun h0 => ?_) (fun h0 => ?_) | refine Br.mk (fun h0 => ?_) (fun h0 => ?_)) <;> (have h := h0; try simp only [decide_eq_true_eq, decide_eq_false_iff_not, Int.not_lt, Int.not_le, beq_iff_eq, beq_eq_false_iff_ne, bne_iff_ne, bne_eq_false_iff_eq, ne_eq, Bool.not_eq_true', Bool.not_eq_false', Decidable.not_not] at h) <;> (try (exfalso; omega)) <;> (try simp only [Bool.not_eq_true', Bool.not_eq_false', beq_true, beq_false] at h0))
      | ((first | rw [if_pos (show _ ∧ _ from ⟨by omega, by omega⟩)] | rw [if_pos (show _ ∧ _ from by simp only [List.length_append, List.length_cons, List.length_nil]; exact ⟨by omega, by omega⟩)]); simp (config := {contextual := true, maxSteps := 1000000}) only [hy, h0, go_sem, reduceCtorEq, Nat.reduceAdd, Nat.reduceSub, Nat.reduceMul, Nat.reduceLT, Nat.reduceLeDiff, Int.reduceLT, Int.reduceLE, Int.reduceEq, Int.reduceNe, Int.reduceAdd, Int.reduceSub, Int.reduceMul, Int.reduceToNat, Int.reduceNeg, Int.reducePow, Nat.reducePow, Nat.reduceEqDiff, Nat.reduceBEq, Int.reduceBEq, Int.reduceBNe, Int.reduceNegSucc, hi, h0, hm, q1, q2, q3])
      | (simp only [thenV, blockV, if_true, if_false, Nat.reduceEqDiff, reduceCtorEq, imp_self]))
  all_goals (first | exact retA hQ Try.results75 (Desc.refl) | exact retN hQ Try.results75 (Desc.refl))
/-! Double -/
def ndouble (l : List Snt) (i : Int) : Bool × List Snt := match nat_ l i with
  | some j => nput l (l.getD j ⟨0, [], false⟩)
  | none => (false, l)
theorem getD_some {α : Type} {l : List α} {j : Nat} (h : j < l.length) (d : α) : l[j]? = some (l.getD j d) := by
  rw [List.getD_eq_getElem?_getD, List.getElem?_eq_getElem h]; rfl
theorem nce_sent {l : List Snt} {j : Nat} {s : Snt} (hs : l[j]? = some s) : ((nce l).drop (j * 3)).take 3 = s.c := by
  unfold nce; rw [Nat.mul_comm j 3, ncx_part hs (Nat.le_refl _)]; rfl
theorem nce_letter {l : List Snt} {j : Nat} {s : Snt} (hs : l[j]? = some s) : ((nce l).drop (j * 3)).take 2 = [.sc (.int .i64 s.to), .sl 1 (bs s.b)] := by
  unfold nce; rw [Nat.mul_comm j 3, ncx_part hs (by decide)]; rfl
theorem nce_body {l : List Snt} {j : Nat} {s : Snt} (hs : l[j]? = some s) : (nce l)[j * 3 + 1]? = some (.sl 1 (bs s.b)) := by
  unfold nce; rw [Nat.mul_comm j 3, ncx_cell hs (by decide)]; rfl
theorem nce_sp {l : List Snt} {j : Nat} {s : Snt} (hs : l[j]? = some s) : (nce l)[j * 3 + 2]? = some (.sc (.bool s.sp)) := by
  unfold nce; rw [Nat.mul_comm j 3, ncx_cell hs (by decide)]; rfl
set_option maxRecDepth 100000 in
theorem ndouble_s (l : List Snt) (i : Int) (hk : NOk l) (hi2 : i < 9223372036854775808) : Sp Try.prog K 25 [.ptr 0 0, .sc (.int .i64 i)] [.cells (nce l)] fun u hh => u = .sc (.bool (ndouble l i).1) ∧ hh = [.cells (nce (ndouble l i).2)] := by
  have hat := nat_s (K := K) l i hk.len hi2
  unfold natV at hat
  unfold ndouble
  have q1 : True := trivial
  have q2 : True := trivial
  have q3 : True := trivial
  have s : Snt := ⟨0, [], false⟩
  have hb : True := trivial
  cases hj : nat_ l i with
  | none =>
    rw [hj] at hat
    dsimp only at hat ⊢
    clear hj
    refine Sp.of_bodyD Try.func25 rfl ?_
    intro Q hQ
    simp only [List.replicate, List.length_cons, List.length_nil, Try.ntmps25, Nat.reduceAdd, Nat.reduceSub, List.cons_append, List.nil_append, go_sem]
    have h0 : True := trivial
    have hy := yieldedV_eq
    repeat' (first
        | (refine WPV.seqK ?_; intro N hN)
        | refine WPV.block ?_
        | refine WPV.scope ?_
        | refine WPV.skip ?_
        | refine WPV.label ?_
        | refine WPV.exit ?_
        | refine WPV.ret ?_
        | (refine WPV.regionG (M := noM) ?_; intro N hN ops hy; (try simp only [List.append] at hy ⊢); (try simp only [List.map_cons, List.map_nil] at hy))
        | (refine WPV.drawK (M := noM) (by kernel_rfl) (by kernel_rfl) ?_; intro N hN; have hy := yieldedV_eq)
        | (refine WPV.condK ?_; intro A hA B hB)
        | ((with_reducible first | refine opsV.here ?_ | refine guardO.here ?_ | refine resO.here ?_ | refine drawV.here ?_ | refine guardD.here ?_ | refine stepO.here ?_ | refine brO.here ?_ | refine condV.here ?_); simp (config := {contextual := true, maxSteps := 1000000}) only [hy, h0, go_sem, reduceCtorEq, Nat.reduceAdd, Nat.reduceSub, Nat.reduceMul, Nat.reduceLT, Nat.reduceLeDiff, Int.reduceLT, Int.reduceLE, Int.reduceEq, Int.reduceNe, Int.reduceAdd, Int.reduceSub, Int.reduceMul, Int.reduceToNat, Int.reduceNeg, Int.reducePow, Nat.reducePow, Nat.reduceEqDiff, Nat.reduceBEq, Int.reduceBEq, Int.reduceBNe, Int.reduceNegSucc, q1, q2, q3, Snt.c])
        | (refine And.intro (by kernel_rfl : okOrd _ _ = true) ?_)
        | refine Both.mk ?_ ?_
        | ((with_reducible refine CallO.gd 75 ?_); refine CallO.frA [0] Try.call75 (hat) ?_)
        | ((with_reducible refine CallO.gd 74 ?_); refine CallO.frA [0] Try.call74 (nput_s l s.to s.b s.sp hb hk.len) ?_)
        | (first | refine hN _ ?_ | (clear hN N; refine hN _ ?_) | (iterate 2 clear hN N); refine hN _ ?_ | (iterate 3 clear hN N); refine hN _ ?_ | (iterate 4 clear hN N); refine hN _ ?_ | (iterate 5 clear hN N); refine hN _ ?_); try clear hN N; try clear hy ops
        | (refine hA ?_; clear hA A hB B; try simp only [h0])
        | (refine hB ?_; clear hA A hB B; try simp only [h0])
        | ((first | refine guardO.mk (fun h0 => ?_) (fun h0 => ?_) | refine guardD.mk (fun h0 => ?_) (fun h0 => ?_) | refine Br.mk (fun h0 => ?_) (fun h0 => ?_)) <;> (have h := h0; try simp only [decide_eq_true_eq, decide_eq_false_iff_not, Int.not_lt, Int.not_le, beq_iff_eq, beq_eq_false_iff_ne, bne_iff_ne, bne_eq_false_iff_eq, ne_eq, Bool.not_eq_true', Bool.not_eq_false', Decidable.not_not] at h) <;> (try (exfalso; omega)) <;> (try simp only [Bool.not_eq_true', Bool.not_eq_false', beq_true, beq_false] at h0))
        | ((first | rw [if_pos (show _ ∧ _ from ⟨by omega, by omega⟩)] | rw [if_pos (show _ ∧ _ from by simp only [List.length_append, List.length_cons, List.length_nil]; exact ⟨by omega, by omega⟩)]); simp (config := {contextual := true, maxSteps := 1000000}) only [hy, h0, go_sem, reduceCtorEq, Nat.reduceAdd, Nat.reduceSub, Nat.reduceMul, Nat.reduceLT, Nat.reduceLeDiff, Int.reduceLT, Int.reduceLE, Int.reduceEq, Int.reduceNe, Int.reduceAdd, Int.reduceSub, Int.reduceMul, Int.reduceToNat, Int.reduceNeg, Int.reducePow, Nat.reducePow, Nat.reduceEqDiff, Nat.reduceBEq, Int.reduceBEq, Int.reduceBNe, Int.reduceNegSucc, q1, q2, q3, Snt.c])
        | (simp only [thenV, blockV, if_true, if_false, Nat.reduceEqDiff, reduceCtorEq, imp_self]))
    all_goals (first | exact retA hQ Try.results25 (Desc.re [some 0] rfl) | exact retN hQ Try.results25 (Desc.re [some 0] rfl))
  | some j =>
    rw [hj] at hat
    dsimp only at hat ⊢
    have hlt := nat_lt hj
    have hs := getD_some hlt ⟨0, [], false⟩
    clear hj
    generalize l.getD j ⟨0, [], false⟩ = s at hs ⊢
    have hb : s.b.length ≤ 1000000000 := hk.bd s (List.mem_of_getElem? hs)
    have q1 := nce_sent hs
    have q2 : (j * 3 + 3 ≤ (nce l).length) = True := eq_true (by have h1 : (nce l).length = 193 := nce_ln l hk.len _; have := hk.len; omega)
    refine Sp.of_bodyD Try.func25 rfl ?_
    intro Q hQ
    simp only [List.replicate, List.length_cons, List.length_nil, Try.ntmps25, Nat.reduceAdd, Nat.reduceSub, List.cons_append, List.nil_append, go_sem]
    have h0 : True := trivial
    have hy := yieldedV_eq
    repeat' (first
        | (refine WPV.seqK ?_; intro N hN)
        | refine WPV.block ?_
        | refine WPV.scope ?_
        | refine WPV.skip ?_
        | refine WPV.label ?_
        | refine WPV.exit ?_
        | refine WPV.ret ?_
        | (refine WPV.regionG (M := noM) ?_; intro N hN ops hy; (try simp only [List.append] at hy ⊢); (try simp only [List.map_cons, List.map_nil] at hy))
        | (refine WPV.drawK (M := noM) (by kernel_rfl) (by kernel_rfl) ?_; intro N hN; have hy := yieldedV_eq)
        | (refine WPV.condK ?_; intro A hA B hB)
        | ((with_reducible first | refine opsV.here ?_ | refine guardO.here ?_ | refine resO.here ?_ | refine drawV.here ?_ | refine guardD.here ?_ | refine stepO.here ?_ | refine brO.here ?_ | refine condV.here ?_); simp (config := {contextual := true, maxSteps := 1000000}) only [hy, h0, go_sem, reduceCtorEq, Nat.reduceAdd, Nat.reduceSub, Nat.reduceMul, Nat.reduceLT, Nat.reduceLeDiff, Int.reduceLT, Int.reduceLE, Int.reduceEq, Int.reduceNe, Int.reduceAdd, Int.reduceSub, Int.reduceMul, Int.reduceToNat, Int.reduceNeg, Int.reducePow, Nat.reducePow, Nat.reduceEqDiff, Nat.reduceBEq, Int.reduceBEq, Int.reduceBNe, Int.reduceNegSucc, q1, q2, q3, Snt.c])
        | (refine And.intro (by kernel_rfl : okOrd _ _ = true) ?_)
        | refine Both.mk ?_ ?_
        | ((with_reducible refine CallO.gd 75 ?_); refine CallO.frA [0] Try.call75 (hat) ?_)
        | ((with_reducible refine CallO.gd 74 ?_); refine CallO.frA [0] Try.call74 (nput_s l s.to s.b s.sp hb hk.len) ?_)
        | (first | refine hN _ ?_ | (clear hN N; refine hN _ ?_) | (iterate 2 clear hN N); refine hN _ ?_ | (iterate 3 clear hN N); refine hN _ ?_ | (iterate 4 clear hN N); refine hN _ ?_ | (iterate 5 clear hN N); refine hN _ ?_); try clear hN N; try clear hy ops
        | (refine hA ?_; clear hA A hB B; try simp only [h0])
        | (refine hB ?_; clear hA A hB B; try simp only [h0])
        | ((first | refine guardO.mk (fun h0 => ?_) (fun h0 => ?_) | refine guardD.mk (fun h0 => ?_) (fun h0 => ?_) | refine Br.mk (fun h0 => ?_) (fun h0 => ?_)) <;> (have h := h0; try simp only [decide_eq_true_eq, decide_eq_false_iff_not, Int.not_lt, Int.not_le, beq_iff_eq, beq_eq_false_iff_ne, bne_iff_ne, bne_eq_false_iff_eq, ne_eq, Bool.not_eq_true', Bool.not_eq_false', Decidable.not_not] at h) <;> (try (exfalso; omega)) <;> (try simp only [Bool.not_eq_true', Bool.not_eq_false', beq_true, beq_false] at h0))
        | ((first | rw [if_pos (show _ ∧ _ from ⟨by omega, by omega⟩)] | rw [if_pos (show _ ∧ _ from by simp only [List.length_append, List.length_cons, List.length_nil]; exact ⟨by omega, by omega⟩)]); simp (config := {contextual := true, maxSteps := 1000000}) only [hy, h0, go_sem, reduceCtorEq, Nat.reduceAdd, Nat.reduceSub, Nat.reduceMul, Nat.reduceLT, Nat.reduceLeDiff, Int.reduceLT, Int.reduceLE, Int.reduceEq, Int.reduceNe, Int.reduceAdd, Int.reduceSub, Int.reduceMul, Int.reduceToNat, Int.reduceNeg, Int.reducePow, Nat.reducePow, Nat.reduceEqDiff, Nat.reduceBEq, Int.reduceBEq, Int.reduceBNe, Int.reduceNegSucc, q1, q2, q3, Snt.c])
        | (simp only [thenV, blockV, if_true, if_false, Nat.reduceEqDiff, reduceCtorEq, imp_self]))
    all_goals (first | exact retA hQ Try.results25 (Desc.re [some 0] rfl) | exact retN hQ Try.results25 (Desc.re [some 0] rfl))
end Go.Proofs.Ytonllhjmoenckaa
