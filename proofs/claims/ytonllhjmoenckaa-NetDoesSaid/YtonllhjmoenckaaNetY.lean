/- Walks: the document's net. -/
import Derived.Test.YtonllhjmoenckaaNetX
import Derived.Test.YtonllhjmoenckaaVsFl
namespace Go.Proofs.Ytonllhjmoenckaa
open Go Go.RowKit
set_option linter.unusedVariables false
set_option linter.unusedSimpArgs false
variable {K : Nat → Obj → Prop}

/-- The document's net: its letters, and which are spoilt. -/
structure Rnt where
  L : List Ltr
  S : List Bool
def Rnt.ob (r : Rnt) : Ho := .cells [.sl 2 (lts r.L), .sl 1 (bls r.S)]
attribute [go_sem] Rnt.ob
def rplace (n : Nat) (i : Int) : Int := if i < 0 ∨ n = 0 then -1 else ((i.toNat % n : Nat) : Int)
set_option maxRecDepth 100000 in
theorem rplace_s (r : Rnt) (i : Int) : Sp Try.prog K 76 [.ptr 0 0, .sc (.int .i64 i)] [r.ob] fun u hh => u = .sc (.int .i64 (rplace r.L.length i)) ∧ hh = [r.ob] := by
  have q1 : True := trivial
  have q3 : True := trivial
  unfold rplace
  by_cases h1 : i < 0
  · have hi : (i < 0) = True := eq_true h1
    have h0 : True := trivial
    rw [if_pos (.inl h1)]
    refine Sp.of_bodyD Try.func76 rfl ?_
    intro Q hQ
    simp only [List.replicate, List.length_cons, List.length_nil, Try.ntmps76, Nat.reduceAdd, Nat.reduceSub, List.cons_append, List.nil_append, go_sem]
    have h0 : True := trivial
    have hy := yieldedV_eq
    repeat' (first
        | (refine WPV.seqK ?_; intro N hN)
        | refine WPV.block ?_
        | refine WPV.scope ?_
        | refine WPV.skip ?_
        | refine WPV.label ?_
        | refine WPV.exit ?_
        | refine WPV.ret ?_
        | (refine WPV.regionG (M := noM) ?_; intro N hN ops hy; (try simp only [List.append] at hy ⊢); (try simp only [List.map_cons, List.map_nil] at hy))
        | (refine WPV.drawK (M := noM) (by kernel_rfl) (by kernel_rfl) ?_; intro N hN; have hy := yieldedV_eq)
        | (refine WPV.condK ?_; intro A hA B hB)
        | ((with_reducible first | refine opsV.here ?_ | refine guardO.here ?_ | refine resO.here ?_ | refine drawV.here ?_ | refine guardD.here ?_ | refine stepO.here ?_ | refine brO.here ?_ | refine condV.here ?_); simp (config := {contextual := true, maxSteps := 1000000}) only [hy, h0, go_sem, reduceCtorEq, Nat.reduceAdd, Nat.reduceSub, Nat.reduceMul, Nat.reduceLT, Nat.reduceLeDiff, Int.reduceLT, Int.reduceLE, Int.reduceEq, Int.reduceNe, Int.reduceAdd, Int.reduceSub, Int.reduceMul, Int.reduceToNat, Int.reduceNeg, Int.reducePow, Nat.reducePow, Nat.reduceEqDiff, Nat.reduceBEq, Int.reduceBEq, Int.reduceBNe, Int.reduceNegSucc, hi, h0, q1, q3])
        | (refine And.intro (by kernel_rfl : okOrd _ _ = true) ?_)
        | refine Both.mk ?_ ?_
        | (first | refine hN _ ?_ | (clear hN N; refine hN _ ?_) | (iterate 2 clear hN N); refine hN _ ?_ | (iterate 3 clear hN N); refine hN _ ?_ | (iterate 4 clear hN N); refine hN _ ?_ | (iterate 5 clear hN N); refine hN _ ?_); try clear hN N; try clear hy ops
        | (refine hA ?_; clear hA A hB B; try simp only [h0])
        | (refine hB ?_; clear hA A hB B; try simp only [h0])
        | ((first | refine guardO.mk (fun h0 => ?_) (fun h0 => ?_) | refine guardD.mk (fun h0 => ?_) (fun h0 => ?_) | refine Br.mk (fun h0 => ?_) (fun h0 => ?_)) <;> (have h := h0; try simp only [decide_eq_true_eq, decide_eq_false_iff_not, Int.not_lt, Int.not_le, beq_iff_eq, beq_eq_false_iff_ne, bne_iff_ne, bne_eq_false_iff_eq, ne_eq, Bool.not_eq_true', Bool.not_eq_false', Decidable.not_not] at h) <;> (try (exfalso; omega)) <;> (try simp only [Bool.not_eq_true', Bool.not_eq_false', beq_true, beq_false] at h0))
        | ((first | rw [if_pos (show _ ∧ _ from ⟨by omega, by omega⟩)] | rw [if_pos (show _ ∧ _ from by simp only [List.length_append, List.length_cons, List.length_nil]; exact ⟨by omega, by omega⟩)]); simp (config := {contextual := true, maxSteps := 1000000}) only [hy, h0, go_sem, reduceCtorEq, Nat.reduceAdd, Nat.reduceSub, Nat.reduceMul, Nat.reduceLT, Nat.reduceLeDiff, Int.reduceLT, Int.reduceLE, Int.reduceEq, Int.reduceNe, Int.reduceAdd, Int.reduceSub, Int.reduceMul, Int.reduceToNat, Int.reduceNeg, Int.reducePow, Nat.reducePow, Nat.reduceEqDiff, Nat.reduceBEq, Int.reduceBEq, Int.reduceBNe, Int.reduceNegSucc, hi, h0, q1, q3])
        | (simp only [thenV, blockV, if_true, if_false, Nat.reduceEqDiff, reduceCtorEq, imp_self]))
    all_goals (first | exact retA hQ Try.results76 (Desc.refl) | exact retN hQ Try.results76 (Desc.refl))
  have hi : (i < 0) = False := eq_false h1
  by_cases h2 : r.L.length = 0
  · have h0 : ((r.L.length : Int) == 0) = true := by rw [h2]; rfl
    rw [if_pos (.inr h2)]
    refine Sp.of_bodyD Try.func76 rfl ?_
    intro Q hQ
    simp only [List.replicate, List.length_cons, List.length_nil, Try.ntmps76, Nat.reduceAdd, Nat.reduceSub, List.cons_append, List.nil_append, go_sem]
    have h0 : True := trivial
    have hy := yieldedV_eq
    repeat' (first
        | (refine WPV.seqK ?_; intro N hN)
        | refine WPV.block ?_
        | refine WPV.scope ?_
        | refine WPV.skip ?_
        | refine WPV.label ?_
        | refine WPV.exit ?_
        | refine WPV.ret ?_
        | (refine WPV.regionG (M := noM) ?_; intro N hN ops hy; (try simp only [List.append] at hy ⊢); (try simp only [List.map_cons, List.map_nil] at hy))
        | (refine WPV.drawK (M := noM) (by kernel_rfl) (by kernel_rfl) ?_; intro N hN; have hy := yieldedV_eq)
        | (refine WPV.condK ?_; intro A hA B hB)
        | ((with_reducible first | refine opsV.here ?_ | refine guardO.here ?_ | refine resO.here ?_ | refine drawV.here ?_ | refine guardD.here ?_ | refine stepO.here ?_ | refine brO.here ?_ | refine condV.here ?_); simp (config := {contextual := true, maxSteps := 1000000}) only [hy, h0, go_sem, reduceCtorEq, Nat.reduceAdd, Nat.reduceSub, Nat.reduceMul, Nat.reduceLT, Nat.reduceLeDiff, Int.reduceLT, Int.reduceLE, Int.reduceEq, Int.reduceNe, Int.reduceAdd, Int.reduceSub, Int.reduceMul, Int.reduceToNat, Int.reduceNeg, Int.reducePow, Nat.reducePow, Nat.reduceEqDiff, Nat.reduceBEq, Int.reduceBEq, Int.reduceBNe, Int.reduceNegSucc, hi, h0, q1, q3])
        | (refine And.intro (by kernel_rfl : okOrd _ _ = true) ?_)
        | refine Both.mk ?_ ?_
        | (first | refine hN _ ?_ | (clear hN N; refine hN _ ?_) | (iterate 2 clear hN N); refine hN _ ?_ | (iterate 3 clear hN N); refine hN _ ?_ | (iterate 4 clear hN N); refine hN _ ?_ | (iterate 5 clear hN N); refine hN _ ?_); try clear hN N; try clear hy ops
        | (refine hA ?_; clear hA A hB B; try simp only [h0])
        | (refine hB ?_; clear hA A hB B; try simp only [h0])
        | ((first | refine guardO.mk (fun h0 => ?_) (fun h0 => ?_) | refine guardD.mk (fun h0 => ?_) (fun h0 => ?_) | refine Br.mk (fun h0 => ?_) (fun h0 => ?_)) <;> (have h := h0; try simp only [decide_eq_true_eq, decide_eq_false_iff_not, Int.not_lt, Int.not_le, beq_iff_eq, beq_eq_false_iff_ne, bne_iff_ne, bne_eq_false_iff_eq, ne_eq, Bool.not_eq_true', Bool.not_eq_false', Decidable.not_not] at h) <;> (try (exfalso; omega)) <;> (try simp only [Bool.not_eq_true', Bool.not_eq_false', beq_true, beq_false] at h0))
        | ((first | rw [if_pos (show _ ∧ _ from ⟨by omega, by omega⟩)] | rw [if_pos (show _ ∧ _ from by simp only [List.length_append, List.length_cons, List.length_nil]; exact ⟨by omega, by omega⟩)]); simp (config := {contextual := true, maxSteps := 1000000}) only [hy, h0, go_sem, reduceCtorEq, Nat.reduceAdd, Nat.reduceSub, Nat.reduceMul, Nat.reduceLT, Nat.reduceLeDiff, Int.reduceLT, Int.reduceLE, Int.reduceEq, Int.reduceNe, Int.reduceAdd, Int.reduceSub, Int.reduceMul, Int.reduceToNat, Int.reduceNeg, Int.reducePow, Nat.reducePow, Nat.reduceEqDiff, Nat.reduceBEq, Int.reduceBEq, Int.reduceBNe, Int.reduceNegSucc, hi, h0, q1, q3])
        | (simp only [thenV, blockV, if_true, if_false, Nat.reduceEqDiff, reduceCtorEq, imp_self]))
    all_goals (first | exact retA hQ Try.results76 (Desc.refl) | exact retN hQ Try.results76 (Desc.refl))
  have h0 : ((r.L.length : Int) == 0) = false := by rw [beq_eq_false_iff_ne]; omega
  rw [if_neg (show ¬ (i < 0 ∨ r.L.length = 0) by omega)]
  have q1 : i.tmod (r.L.length : Int) = ((i.toNat % r.L.length : Nat) : Int) := by
    rw [Int.tmod_eq_emod_of_nonneg (by omega), Int.natCast_emod, Int.toNat_of_nonneg (by omega)]
  have q3 : ((r.L.length : Int) = 0) = False := eq_false (by omega)
  refine Sp.of_bodyD Try.func76 rfl ?_
  intro Q hQ
  simp only [List.replicate, List.length_cons, List.length_nil, Try.ntmps76, Nat.reduceAdd, Nat.reduceSub, List.cons_append, List.nil_append, go_sem]
  have h0 : True := trivial
  have hy := yieldedV_eq
  repeat' (first
      | (refine WPV.seqK ?_; intro N hN)
      | refine WPV.block ?_
      | refine WPV.scope ?_
      | refine WPV.skip ?_
      | refine WPV.label ?_
      | refine WPV.exit ?_
      | refine WPV.ret ?_
      | (refine WPV.regionG (M := noM) ?_; intro N hN ops hy; (try simp only [List.append] at hy ⊢); (try simp only [List.map_cons, List.map_nil] at hy))
      | (refine WPV.drawK (M := noM) (by kernel_rfl) (by kernel_rfl) ?_; intro N hN; have hy := yieldedV_eq)
      | (refine WPV.condK ?_; intro A hA B hB)
      | ((with_reducible first | refine opsV.here ?_ | refine guardO.here ?_ | refine resO.here ?_ | refine drawV.here ?_ | refine guardD.here ?_ | refine stepO.here ?_ | refine brO.here ?_ | refine condV.here ?_); simp (config := {contextual := true, maxSteps := 1000000}) only [hy, h0, go_sem, reduceCtorEq, Nat.reduceAdd, Nat.reduceSub, Nat.reduceMul, Nat.reduceLT, Nat.reduceLeDiff, Int.reduceLT, Int.reduceLE, Int.reduceEq, Int.reduceNe, Int.reduceAdd, Int.reduceSub, Int.reduceMul, Int.reduceToNat, Int.reduceNeg, Int.reducePow, Nat.reducePow, Nat.reduceEqDiff, Nat.reduceBEq, Int.reduceBEq, Int.reduceBNe, Int.reduceNegSucc, hi, h0, q1, q3])
      | (refine And.intro (by kernel_rfl : okOrd _ _ = true) ?_)
      | refine Both.mk ?_ ?_
      | (first | refine hN _ ?_ | (clear hN N; refine hN _ ?_) | (iterate 2 clear hN N); refine hN _ ?_ | (iterate 3 clear hN N); refine hN _ ?_ | (iterate 4 clear hN N); refine hN _ ?_ | (iterate 5 clear hN N); refine hN _ ?_); try clear hN N; try clear hy ops
      | (refine hA ?_; clear hA A hB B; try simp only [h0])
      | (refine hB ?_; clear hA A hB B; try simp only [h0])
      | ((first | refine guardO.mk (fun h0 => ?_) (fun h0 => ?_) | refine guardD.mk (fun h0 => ?_) (fun h0 => ?_) | refine Br.mk (fun h0 => ?_) (fun h0 => ?_)) <;> (have h := h0; try simp only [decide_eq_true_eq, decide_eq_false_iff_not, Int.not_lt, Int.not_le, beq_iff_eq, beq_eq_false_iff_ne, bne_iff_ne, bne_eq_false_iff_eq, ne_eq, Bool.not_eq_true', Bool.not_eq_false', Decidable.not_not] at h) <;> (try (exfalso; omega)) <;> (try simp only [Bool.not_eq_true', Bool.not_eq_false', beq_true, beq_false] at h0))
      | ((first | rw [if_pos (show _ ∧ _ from ⟨by omega, by omega⟩)] | rw [if_pos (show _ ∧ _ from by simp only [List.length_append, List.length_cons, List.length_nil]; exact ⟨by omega, by omega⟩)]); simp (config := {contextual := true, maxSteps := 1000000}) only [hy, h0, go_sem, reduceCtorEq, Nat.reduceAdd, Nat.reduceSub, Nat.reduceMul, Nat.reduceLT, Nat.reduceLeDiff, Int.reduceLT, Int.reduceLE, Int.reduceEq, Int.reduceNe, Int.reduceAdd, Int.reduceSub, Int.reduceMul, Int.reduceToNat, Int.reduceNeg, Int.reducePow, Nat.reducePow, Nat.reduceEqDiff, Nat.reduceBEq, Int.reduceBEq, Int.reduceBNe, Int.reduceNegSucc, hi, h0, q1, q3])
      | (simp only [thenV, blockV, if_true, if_false, Nat.reduceEqDiff, reduceCtorEq, imp_self]))
  all_goals (first | exact retA hQ Try.results76 (Desc.refl) | exact retN hQ Try.results76 (Desc.refl))

/-! Send -/
theorem bls_uni (l : List Bool) : Uni 1 (bls l) := fun e he => by
  obtain ⟨b, _, rfl⟩ := List.mem_map.1 he; rfl
theorem lts_uni (l : List Ltr) : Uni 2 (lts l) := fun e he => by
  obtain ⟨b, _, rfl⟩ := List.mem_map.1 he; rfl
theorem bls_fl_len (l : List Bool) : (flatD (bls l)).length = l.length := by rw [flatD_len (bls_uni l), bls_len, Nat.mul_one]
theorem lts_fl_len (l : List Ltr) : (flatD (lts l)).length = l.length * 2 := by rw [flatD_len (lts_uni l), lts_len]
theorem bls_fl_take (l : List Bool) : (flatD (bls l)).take l.length = flatD (bls l) := by rw [← bls_fl_len l, List.take_length]
theorem lts_fl_take (l : List Ltr) : (flatD (lts l)).take (l.length * 2) = flatD (lts l) := by rw [← lts_fl_len l, List.take_length]
theorem bls_fl_snoc (l : List Bool) (b : Bool) : flatD (bls l) ++ [V.sc (.bool b)] = flatD (bls (l ++ [b])) := by simp [flatD, bls]
attribute [go_sem] bls_fl_len lts_fl_len bls_fl_take lts_fl_take bls_fl_snoc
def rput (r : Rnt) (x : Ltr) : Bool × Rnt := if x.to < 0 ∨ 3 < x.to ∨ 64 ≤ r.L.length then (false, r) else (true, ⟨r.L ++ [x], r.S ++ [false]⟩)
/-- The flags as an object of their own. -/
def Rnt.obh (L : List Ltr) (S : List Bool) (n : Nat) : List Ho := [.cells [.sl 2 (lts L), .hs true 1 1 0 n], .cells (flatD (bls S))]
attribute [go_sem] Rnt.obh
set_option maxRecDepth 100000 in
set_option maxHeartbeats 1000000 in
theorem rsend_h (r : Rnt) (a : Int) (b : List UInt8) (hs : r.S.length = r.L.length) (h1 : ¬ a < 0) (h2 : ¬ 3 < a) (h3 : ¬ 64 ≤ r.L.length) : Sp Try.prog K 20 [.ptr 0 0, .agg [.sc (.int .i64 a), .sl 1 (bs b)]] [r.ob] fun u hh => u = .sc (.bool true) ∧ hh = Rnt.obh (r.L ++ [⟨a, b⟩]) (r.S ++ [false]) (r.S.length + 1) := by
  have hto : (a < 0) = False := eq_false h1
  have hto2 : (3 < a) = False := eq_false h2
  have h64 : ((64 : Int) ≤ (r.L.length : Int)) = False := eq_false (by omega)
  refine Sp.of_bodyD Try.func20 rfl ?_
  intro Q hQ
  simp only [List.replicate, List.length_cons, List.length_nil, Try.ntmps20, Nat.reduceAdd, Nat.reduceSub, List.cons_append, List.nil_append, go_sem]
  have h0 : True := trivial
  have hy := yieldedV_eq
  repeat' (first
      | (refine WPV.seqK ?_; intro N hN)
      | refine WPV.block ?_
      | refine WPV.scope ?_
      | refine WPV.skip ?_
      | refine WPV.label ?_
      | refine WPV.exit ?_
      | refine WPV.ret ?_
      | (refine WPV.regionG (M := inM [29]) ?_; intro N hN ops hy; (try simp only [List.append] at hy ⊢); (try simp only [List.map_cons, List.map_nil] at hy))
      | (refine WPV.drawK (M := inM [29]) (by kernel_rfl) (by kernel_rfl) ?_; intro N hN; have hy := yieldedV_eq)
      | (refine WPV.condK ?_; intro A hA B hB)
      | ((with_reducible first | refine opsV.here ?_ | refine guardO.here ?_ | refine resO.here ?_ | refine drawV.here ?_ | refine guardD.here ?_ | refine stepO.here ?_ | refine brO.here ?_ | refine condV.here ?_); simp (config := {contextual := true, maxSteps := 1000000}) only [hy, h0, go_sem, reduceCtorEq, Nat.reduceAdd, Nat.reduceSub, Nat.reduceMul, Nat.reduceLT, Nat.reduceLeDiff, Int.reduceLT, Int.reduceLE, Int.reduceEq, Int.reduceNe, Int.reduceAdd, Int.reduceSub, Int.reduceMul, Int.reduceToNat, Int.reduceNeg, Int.reducePow, Nat.reducePow, Nat.reduceEqDiff, Nat.reduceBEq, Int.reduceBEq, Int.reduceBNe, Int.reduceNegSucc, hto, hto2, h64])
      | (refine And.intro (by kernel_rfl : okOrd _ _ = true) ?_)
      | refine Both.mk ?_ ?_
      | (first | refine hN _ ?_ | (clear hN N; refine hN _ ?_) | (iterate 2 clear hN N); refine hN _ ?_ | (iterate 3 clear hN N); refine hN _ ?_ | (iterate 4 clear hN N); refine hN _ ?_ | (iterate 5 clear hN N); refine hN _ ?_); try clear hN N; try clear hy ops
      | (refine hA ?_; clear hA A hB B; try simp only [h0])
      | (refine hB ?_; clear hA A hB B; try simp only [h0])
      | ((first | refine guardO.mk (fun h0 => ?_) (fun h0 => ?_) | refine guardD.mk (fun h0 => ?_) (fun h0 => ?_) | refine Br.mk (fun h0 => ?_) (fun h0 => ?_)) <;> (have h := h0; try simp only [decide_eq_true_eq, decide_eq_false_iff_not, Int.not_lt, Int.not_le, beq_iff_eq, beq_eq_false_iff_ne, bne_iff_ne, bne_eq_false_iff_eq, ne_eq, Bool.not_eq_true', Bool.not_eq_false', Decidable.not_not] at h) <;> (try (exfalso; omega)) <;> (try simp only [Bool.not_eq_true', Bool.not_eq_false', beq_true, beq_false] at h0))
      | ((first | rw [if_pos (show _ ∧ _ from ⟨by omega, by omega⟩)] | rw [if_pos (show _ ∧ _ from by simp only [List.length_append, List.length_cons, List.length_nil]; exact ⟨by omega, by omega⟩)]); simp (config := {contextual := true, maxSteps := 1000000}) only [hy, h0, go_sem, reduceCtorEq, Nat.reduceAdd, Nat.reduceSub, Nat.reduceMul, Nat.reduceLT, Nat.reduceLeDiff, Int.reduceLT, Int.reduceLE, Int.reduceEq, Int.reduceNe, Int.reduceAdd, Int.reduceSub, Int.reduceMul, Int.reduceToNat, Int.reduceNeg, Int.reducePow, Nat.reducePow, Nat.reduceEqDiff, Nat.reduceBEq, Int.reduceBEq, Int.reduceBNe, Int.reduceNegSucc, hto, hto2, h64])
      | (simp only [thenV, blockV, if_true, if_false, Nat.reduceEqDiff, reduceCtorEq, imp_self]))
  all_goals (first | exact retA hQ Try.results20 (Desc.re [some 0, some 7] rfl) | exact retN hQ Try.results20 (Desc.re [some 0, some 7] rfl))
set_option maxRecDepth 100000 in
set_option maxHeartbeats 1000000 in
theorem rsend_f (r : Rnt) (a : Int) (b : List UInt8) (h : a < 0 ∨ 3 < a ∨ 64 ≤ r.L.length) : Sp Try.prog K 20 [.ptr 0 0, .agg [.sc (.int .i64 a), .sl 1 (bs b)]] [r.ob] fun u hh => u = .sc (.bool false) ∧ hh = [r.ob] := by
  by_cases h1 : a < 0
  · have hto : (a < 0) = True := eq_true h1
    have hto2 : True := trivial
    have h64 : True := trivial
    refine Sp.of_bodyD Try.func20 rfl ?_
    intro Q hQ
    simp only [List.replicate, List.length_cons, List.length_nil, Try.ntmps20, Nat.reduceAdd, Nat.reduceSub, List.cons_append, List.nil_append, go_sem]
    have h0 : True := trivial
    have hy := yieldedV_eq
    repeat' (first
        | (refine WPV.seqK ?_; intro N hN)
        | refine WPV.block ?_
        | refine WPV.scope ?_
        | refine WPV.skip ?_
        | refine WPV.label ?_
        | refine WPV.exit ?_
        | refine WPV.ret ?_
        | (refine WPV.regionG (M := inM [29]) ?_; intro N hN ops hy; (try simp only [List.append] at hy ⊢); (try simp only [List.map_cons, List.map_nil] at hy))
        | (refine WPV.drawK (M := inM [29]) (by kernel_rfl) (by kernel_rfl) ?_; intro N hN; have hy := yieldedV_eq)
        | (refine WPV.condK ?_; intro A hA B hB)
        | ((with_reducible first | refine opsV.here ?_ | refine guardO.here ?_ | refine resO.here ?_ | refine drawV.here ?_ | refine guardD.here ?_ | refine stepO.here ?_ | refine brO.here ?_ | refine condV.here ?_); simp (config := {contextual := true, maxSteps := 1000000}) only [hy, h0, go_sem, reduceCtorEq, Nat.reduceAdd, Nat.reduceSub, Nat.reduceMul, Nat.reduceLT, Nat.reduceLeDiff, Int.reduceLT, Int.reduceLE, Int.reduceEq, Int.reduceNe, Int.reduceAdd, Int.reduceSub, Int.reduceMul, Int.reduceToNat, Int.reduceNeg, Int.reducePow, Nat.reducePow, Nat.reduceEqDiff, Nat.reduceBEq, Int.reduceBEq, Int.reduceBNe, Int.reduceNegSucc, hto, hto2, h64])
        | (refine And.intro (by kernel_rfl : okOrd _ _ = true) ?_)
        | refine Both.mk ?_ ?_
        | (first | refine hN _ ?_ | (clear hN N; refine hN _ ?_) | (iterate 2 clear hN N); refine hN _ ?_ | (iterate 3 clear hN N); refine hN _ ?_ | (iterate 4 clear hN N); refine hN _ ?_ | (iterate 5 clear hN N); refine hN _ ?_); try clear hN N; try clear hy ops
        | (refine hA ?_; clear hA A hB B; try simp only [h0])
        | (refine hB ?_; clear hA A hB B; try simp only [h0])
        | ((first | refine guardO.mk (fun h0 => ?_) (fun h0 => ?_) | refine guardD.mk (fun h0 => ?_) (fun h0 => ?_) | refine Br.mk (fun h0 => ?_) (fun h0 => ?_)) <;> (have h := h0; try simp only [decide_eq_true_eq, decide_eq_false_iff_not, Int.not_lt, Int.not_le, beq_iff_eq, beq_eq_false_iff_ne, bne_iff_ne, bne_eq_false_iff_eq, ne_eq, Bool.not_eq_true', Bool.not_eq_false', Decidable.not_not] at h) <;> (try (exfalso; omega)) <;> (try simp only [Bool.not_eq_true', Bool.not_eq_false', beq_true, beq_false] at h0))
        | ((first | rw [if_pos (show _ ∧ _ from ⟨by omega, by omega⟩)] | rw [if_pos (show _ ∧ _ from by simp only [List.length_append, List.length_cons, List.length_nil]; exact ⟨by omega, by omega⟩)]); simp (config := {contextual := true, maxSteps := 1000000}) only [hy, h0, go_sem, reduceCtorEq, Nat.reduceAdd, Nat.reduceSub, Nat.reduceMul, Nat.reduceLT, Nat.reduceLeDiff, Int.reduceLT, Int.reduceLE, Int.reduceEq, Int.reduceNe, Int.reduceAdd, Int.reduceSub, Int.reduceMul, Int.reduceToNat, Int.reduceNeg, Int.reducePow, Nat.reducePow, Nat.reduceEqDiff, Nat.reduceBEq, Int.reduceBEq, Int.reduceBNe, Int.reduceNegSucc, hto, hto2, h64])
        | (simp only [thenV, blockV, if_true, if_false, Nat.reduceEqDiff, reduceCtorEq, imp_self]))
    all_goals (first | exact retA hQ Try.results20 (Desc.re [some 0] rfl) | exact retN hQ Try.results20 (Desc.re [some 0] rfl))
  have hto : (a < 0) = False := eq_false h1
  by_cases h2 : 3 < a
  · have hto2 : (3 < a) = True := eq_true h2
    have h64 : True := trivial
    refine Sp.of_bodyD Try.func20 rfl ?_
    intro Q hQ
    simp only [List.replicate, List.length_cons, List.length_nil, Try.ntmps20, Nat.reduceAdd, Nat.reduceSub, List.cons_append, List.nil_append, go_sem]
    have h0 : True := trivial
    have hy := yieldedV_eq
    repeat' (first
        | (refine WPV.seqK ?_; intro N hN)
        | refine WPV.block ?_
        | refine WPV.scope ?_
        | refine WPV.skip ?_
        | refine WPV.label ?_
        | refine WPV.exit ?_
        | refine WPV.ret ?_
        | (refine WPV.regionG (M := inM [29]) ?_; intro N hN ops hy; (try simp only [List.append] at hy ⊢); (try simp only [List.map_cons, List.map_nil] at hy))
        | (refine WPV.drawK (M := inM [29]) (by kernel_rfl) (by kernel_rfl) ?_; intro N hN; have hy := yieldedV_eq)
        | (refine WPV.condK ?_; intro A hA B hB)
        | ((with_reducible first | refine opsV.here ?_ | refine guardO.here ?_ | refine resO.here ?_ | refine drawV.here ?_ | refine guardD.here ?_ | refine stepO.here ?_ | refine brO.here ?_ | refine condV.here ?_); simp (config := {contextual := true, maxSteps := 1000000}) only [hy, h0, go_sem, reduceCtorEq, Nat.reduceAdd, Nat.reduceSub, Nat.reduceMul, Nat.reduceLT, Nat.reduceLeDiff, Int.reduceLT, Int.reduceLE, Int.reduceEq, Int.reduceNe, Int.reduceAdd, Int.reduceSub, Int.reduceMul, Int.reduceToNat, Int.reduceNeg, Int.reducePow, Nat.reducePow, Nat.reduceEqDiff, Nat.reduceBEq, Int.reduceBEq, Int.reduceBNe, Int.reduceNegSucc, hto, hto2, h64])
        | (refine And.intro (by kernel_rfl : okOrd _ _ = true) ?_)
        | refine Both.mk ?_ ?_
        | (first | refine hN _ ?_ | (clear hN N; refine hN _ ?_) | (iterate 2 clear hN N); refine hN _ ?_ | (iterate 3 clear hN N); refine hN _ ?_ | (iterate 4 clear hN N); refine hN _ ?_ | (iterate 5 clear hN N); refine hN _ ?_); try clear hN N; try clear hy ops
        | (refine hA ?_; clear hA A hB B; try simp only [h0])
        | (refine hB ?_; clear hA A hB B; try simp only [h0])
        | ((first | refine guardO.mk (fun h0 => ?_) (fun h0 => ?_) | refine guardD.mk (fun h0 => ?_) (fun h0 => ?_) | refine Br.mk (fun h0 => ?_) (fun h0 => ?_)) <;> (have h := h0; try simp only [decide_eq_true_eq, decide_eq_false_iff_not, Int.not_lt, Int.not_le, beq_iff_eq, beq_eq_false_iff_ne, bne_iff_ne, bne_eq_false_iff_eq, ne_eq, Bool.not_eq_true', Bool.not_eq_false', Decidable.not_not] at h) <;> (try (exfalso; omega)) <;> (try simp only [Bool.not_eq_true', Bool.not_eq_false', beq_true, beq_false] at h0))
        | ((first | rw [if_pos (show _ ∧ _ from ⟨by omega, by omega⟩)] | rw [if_pos (show _ ∧ _ from by simp only [List.length_append, List.length_cons, List.length_nil]; exact ⟨by omega, by omega⟩)]); simp (config := {contextual := true, maxSteps := 1000000}) only [hy, h0, go_sem, reduceCtorEq, Nat.reduceAdd, Nat.reduceSub, Nat.reduceMul, Nat.reduceLT, Nat.reduceLeDiff, Int.reduceLT, Int.reduceLE, Int.reduceEq, Int.reduceNe, Int.reduceAdd, Int.reduceSub, Int.reduceMul, Int.reduceToNat, Int.reduceNeg, Int.reducePow, Nat.reducePow, Nat.reduceEqDiff, Nat.reduceBEq, Int.reduceBEq, Int.reduceBNe, Int.reduceNegSucc, hto, hto2, h64])
        | (simp only [thenV, blockV, if_true, if_false, Nat.reduceEqDiff, reduceCtorEq, imp_self]))
    all_goals (first | exact retA hQ Try.results20 (Desc.re [some 0] rfl) | exact retN hQ Try.results20 (Desc.re [some 0] rfl))
  have hto2 : (3 < a) = False := eq_false h2
  have h64 : ((64 : Int) ≤ (r.L.length : Int)) = True := eq_true (by omega)
  refine Sp.of_bodyD Try.func20 rfl ?_
  intro Q hQ
  simp only [List.replicate, List.length_cons, List.length_nil, Try.ntmps20, Nat.reduceAdd, Nat.reduceSub, List.cons_append, List.nil_append, go_sem]
  have h0 : True := trivial
  have hy := yieldedV_eq
  repeat' (first
      | (refine WPV.seqK ?_; intro N hN)
      | refine WPV.block ?_
      | refine WPV.scope ?_
      | refine WPV.skip ?_
      | refine WPV.label ?_
      | refine WPV.exit ?_
      | refine WPV.ret ?_
      | (refine WPV.regionG (M := inM [29]) ?_; intro N hN ops hy; (try simp only [List.append] at hy ⊢); (try simp only [List.map_cons, List.map_nil] at hy))
      | (refine WPV.drawK (M := inM [29]) (by kernel_rfl) (by kernel_rfl) ?_; intro N hN; have hy := yieldedV_eq)
      | (refine WPV.condK ?_; intro A hA B hB)
      | ((with_reducible first | refine opsV.here ?_ | refine guardO.here ?_ | refine resO.here ?_ | refine drawV.here ?_ | refine guardD.here ?_ | refine stepO.here ?_ | refine brO.here ?_ | refine condV.here ?_); simp (config := {contextual := true, maxSteps := 1000000}) only [hy, h0, go_sem, reduceCtorEq, Nat.reduceAdd, Nat.reduceSub, Nat.reduceMul, Nat.reduceLT, Nat.reduceLeDiff, Int.reduceLT, Int.reduceLE, Int.reduceEq, Int.reduceNe, Int.reduceAdd, Int.reduceSub, Int.reduceMul, Int.reduceToNat, Int.reduceNeg, Int.reducePow, Nat.reducePow, Nat.reduceEqDiff, Nat.reduceBEq, Int.reduceBEq, Int.reduceBNe, Int.reduceNegSucc, hto, hto2, h64])
      | (refine And.intro (by kernel_rfl : okOrd _ _ = true) ?_)
      | refine Both.mk ?_ ?_
      | (first | refine hN _ ?_ | (clear hN N; refine hN _ ?_) | (iterate 2 clear hN N); refine hN _ ?_ | (iterate 3 clear hN N); refine hN _ ?_ | (iterate 4 clear hN N); refine hN _ ?_ | (iterate 5 clear hN N); refine hN _ ?_); try clear hN N; try clear hy ops
      | (refine hA ?_; clear hA A hB B; try simp only [h0])
      | (refine hB ?_; clear hA A hB B; try simp only [h0])
      | ((first | refine guardO.mk (fun h0 => ?_) (fun h0 => ?_) | refine guardD.mk (fun h0 => ?_) (fun h0 => ?_) | refine Br.mk (fun h0 => ?_) (fun h0 => ?_)) <;> (have h := h0; try simp only [decide_eq_true_eq, decide_eq_false_iff_not, Int.not_lt, Int.not_le, beq_iff_eq, beq_eq_false_iff_ne, bne_iff_ne, bne_eq_false_iff_eq, ne_eq, Bool.not_eq_true', Bool.not_eq_false', Decidable.not_not] at h) <;> (try (exfalso; omega)) <;> (try simp only [Bool.not_eq_true', Bool.not_eq_false', beq_true, beq_false] at h0))
      | ((first | rw [if_pos (show _ ∧ _ from ⟨by omega, by omega⟩)] | rw [if_pos (show _ ∧ _ from by simp only [List.length_append, List.length_cons, List.length_nil]; exact ⟨by omega, by omega⟩)]); simp (config := {contextual := true, maxSteps := 1000000}) only [hy, h0, go_sem, reduceCtorEq, Nat.reduceAdd, Nat.reduceSub, Nat.reduceMul, Nat.reduceLT, Nat.reduceLeDiff, Int.reduceLT, Int.reduceLE, Int.reduceEq, Int.reduceNe, Int.reduceAdd, Int.reduceSub, Int.reduceMul, Int.reduceToNat, Int.reduceNeg, Int.reducePow, Nat.reducePow, Nat.reduceEqDiff, Nat.reduceBEq, Int.reduceBEq, Int.reduceBNe, Int.reduceNegSucc, hto, hto2, h64])
      | (simp only [thenV, blockV, if_true, if_false, Nat.reduceEqDiff, reduceCtorEq, imp_self]))
  all_goals (first | exact retA hQ Try.results20 (Desc.re [some 0] rfl) | exact retN hQ Try.results20 (Desc.re [some 0] rfl))
/-- An object with all of its cells in one slice is data. -/
theorem Desc.frz2 {n0 : Nat} {u : V} {L : List Ltr} {S : List Bool} {n : Nat} (hu : frV 1 (bls S).flatten u = u) (hn : S.length = n) (h0 : okRe n0 2 [some 0] = true) (hmv : mvV (posOf [some 0] 0) u = u) : Desc K n0 ⟨[u], Rnt.obh L S n⟩ ⟨[u], [(⟨L, S⟩ : Rnt).ob]⟩ := by
  have hf := Desc.freeze (K := K) (n0 := n0) (tm := [u]) (h := Rnt.obh L S n) 1 (cs := flatD (bls S)) rfl (flatD_toDs _)
  have e1 : frL 1 (bls S).flatten [u] = [u] := by simp only [frL, hu]
  have e2 : ((Rnt.obh L S n).map (frO 1 (bls S).flatten)).set 1 .dead = [.cells [.sl 2 (lts L), .sl 1 (bls S)], .dead] := by
    have e5 := frV_all (o := 1) (g := true) (bls_uni S) (n := n) ((bls_len S).trans hn)
    simp only [Rnt.obh, List.map_cons, List.map_nil, frO, frL, e5]
    rfl
  rw [e1, e2] at hf
  have hr := Desc.re (K := K) (n0 := n0) (tm := [u]) (h := [.cells [.sl 2 (lts L), .sl 1 (bls S)], .dead]) [some 0] h0
  have e3 : mvL (posOf [some 0] 0) [u] = [u] := by simp only [mvL, hmv]
  have e4 : reH [some 0] [.cells [.sl 2 (lts L), .sl 1 (bls S)], .dead] = [(⟨L, S⟩ : Rnt).ob] := rfl
  rw [e3, e4] at hr
  exact hf.trans hr
theorem rsend_s (r : Rnt) (a : Int) (b : List UInt8) (hs : r.S.length = r.L.length) : Sp Try.prog K 20 [.ptr 0 0, .agg [.sc (.int .i64 a), .sl 1 (bs b)]] [r.ob] fun u hh => u = .sc (.bool (rput r ⟨a, b⟩).1) ∧ hh = [(rput r ⟨a, b⟩).2.ob] := by
  unfold rput
  by_cases h : a < 0 ∨ 3 < a ∨ 64 ≤ r.L.length
  · rw [if_pos h]; exact rsend_f r a b h
  · rw [if_neg h]
    refine (rsend_h r a b hs (by omega) (by omega) (by omega)).descR fun v hh ⟨e1, e2⟩ => ?_
    subst e1; subst e2
    exact ⟨_, _, Desc.frz2 rfl (by simp) rfl rfl, rfl, rfl⟩

/-! Take -/
def rtake (r : Rnt) (i : Int) : (Ltr × Bool) × Rnt := if i < 0 ∨ r.L.length = 0 then ((⟨0, []⟩, false), r) else
  ((r.L.getD (i.toNat % r.L.length) ⟨0, []⟩, true), ⟨r.L.eraseIdx (i.toNat % r.L.length), r.S.eraseIdx (i.toNat % r.L.length)⟩)
theorem rplace_e {r : Rnt} {i p : Int} (h : rplace r.L.length i = p) : Sp Try.prog K 76 [.ptr 0 0, .sc (.int .i64 i)] [r.ob] fun u hh => u = .sc (.int .i64 p) ∧ hh = [r.ob] := by
  have := rplace_s (K := K) r i
  rwa [h] at this
set_option maxRecDepth 100000 in
set_option maxHeartbeats 1000000 in
theorem rtake_w (r : Rnt) (i : Int) (hl : r.L.length ≤ 64) (hs : r.S.length = r.L.length) : Sp Try.prog K 22 [.ptr 0 0, .sc (.int .i64 i)] [r.ob] fun u hh => ∃ o j1 x, u = o ∧ hh = .cells x :: j1 ∧ Wk [o] [tkLV (rtake r i).1] ∧ Wk x [.sl 2 (lts (rtake r i).2.L), .sl 1 (bls (rtake r i).2.S)] := by
  have q0 : True := trivial
  have q1 : True := trivial
  have q2 : True := trivial
  have q3 : True := trivial
  have q4 : True := trivial
  have q5 : True := trivial
  have q6 : True := trivial
  have q7 : True := trivial
  have q8 : True := trivial
  unfold rtake
  by_cases h : i < 0 ∨ r.L.length = 0
  · have hpl : rplace r.L.length i = -1 := by unfold rplace; rw [if_pos h]
    rw [if_pos h]
    refine Sp.of_bodyD Try.func22 rfl ?_
    intro Q hQ
    simp only [List.replicate, List.length_cons, List.length_nil, Try.ntmps22, Nat.reduceAdd, Nat.reduceSub, List.cons_append, List.nil_append, go_sem]
    have h0 : True := trivial
    have hy := yieldedV_eq
    repeat' (first
        | (refine WPV.seqK ?_; intro N hN)
        | refine WPV.block ?_
        | refine WPV.scope ?_
        | refine WPV.skip ?_
        | refine WPV.label ?_
        | refine WPV.exit ?_
        | refine WPV.ret ?_
        | (refine WPV.regionG (M := noM) ?_; intro N hN ops hy; (try simp only [List.append] at hy ⊢); (try simp only [List.map_cons, List.map_nil] at hy))
        | (refine WPV.drawK (M := noM) (by kernel_rfl) (by kernel_rfl) ?_; intro N hN; have hy := yieldedV_eq)
        | (refine WPV.condK ?_; intro A hA B hB)
        | ((with_reducible first | refine opsV.here ?_ | refine guardO.here ?_ | refine resO.here ?_ | refine drawV.here ?_ | refine guardD.here ?_ | refine stepO.here ?_ | refine brO.here ?_ | refine condV.here ?_); simp (config := {contextual := true, maxSteps := 1000000}) only [hy, h0, go_sem, reduceCtorEq, Nat.reduceAdd, Nat.reduceSub, Nat.reduceMul, Nat.reduceLT, Nat.reduceLeDiff, Int.reduceLT, Int.reduceLE, Int.reduceEq, Int.reduceNe, Int.reduceAdd, Int.reduceSub, Int.reduceMul, Int.reduceToNat, Int.reduceNeg, Int.reducePow, Nat.reducePow, Nat.reduceEqDiff, Nat.reduceBEq, Int.reduceBEq, Int.reduceBNe, Int.reduceNegSucc, q0, q1, q2, q3, q4, q5, q6, q7, q8])
        | (refine And.intro (by kernel_rfl : okOrd _ _ = true) ?_)
        | refine Both.mk ?_ ?_
        | ((with_reducible refine CallO.gd 76 ?_); refine CallO.frA [0] Try.call76 (rplace_e hpl) ?_)
        | (first | refine hN _ ?_ | (clear hN N; refine hN _ ?_) | (iterate 2 clear hN N); refine hN _ ?_ | (iterate 3 clear hN N); refine hN _ ?_ | (iterate 4 clear hN N); refine hN _ ?_ | (iterate 5 clear hN N); refine hN _ ?_); try clear hN N; try clear hy ops
        | (refine hA ?_; clear hA A hB B; try simp only [h0])
        | (refine hB ?_; clear hA A hB B; try simp only [h0])
        | ((first | refine guardO.mk (fun h0 => ?_) (fun h0 => ?_) | refine guardD.mk (fun h0 => ?_) (fun h0 => ?_) | refine Br.mk (fun h0 => ?_) (fun h0 => ?_)) <;> (have h := h0; try simp only [decide_eq_true_eq, decide_eq_false_iff_not, Int.not_lt, Int.not_le, beq_iff_eq, beq_eq_false_iff_ne, bne_iff_ne, bne_eq_false_iff_eq, ne_eq, Bool.not_eq_true', Bool.not_eq_false', Decidable.not_not] at h) <;> (try (exfalso; omega)) <;> (try simp only [Bool.not_eq_true', Bool.not_eq_false', beq_true, beq_false] at h0))
        | ((first | rw [if_pos (show _ ∧ _ from ⟨by omega, by omega⟩)] | rw [if_pos (show _ ∧ _ from by simp only [List.length_append, List.length_cons, List.length_nil]; exact ⟨by omega, by omega⟩)]); simp (config := {contextual := true, maxSteps := 1000000}) only [hy, h0, go_sem, reduceCtorEq, Nat.reduceAdd, Nat.reduceSub, Nat.reduceMul, Nat.reduceLT, Nat.reduceLeDiff, Int.reduceLT, Int.reduceLE, Int.reduceEq, Int.reduceNe, Int.reduceAdd, Int.reduceSub, Int.reduceMul, Int.reduceToNat, Int.reduceNeg, Int.reducePow, Nat.reducePow, Nat.reduceEqDiff, Nat.reduceBEq, Int.reduceBEq, Int.reduceBNe, Int.reduceNegSucc, q0, q1, q2, q3, q4, q5, q6, q7, q8])
        | (simp only [thenV, blockV, if_true, if_false, Nat.reduceEqDiff, reduceCtorEq, imp_self]))
    all_goals (apply And.right; refine hQ _ _ _ Desc.refl ?_ ⟨_, _, _, rfl, rfl, ltrV_wk, Wk.refl⟩)
    · (first | (simp only [go_sem, reduceCtorEq, Nat.reduceAdd, Nat.reduceSub, Nat.reduceMul, Nat.reduceLT, Nat.reduceLeDiff, Int.reduceLT, Int.reduceLE, Int.reduceEq, Int.reduceNe, Int.reduceAdd, Int.reduceSub, Int.reduceMul, Int.reduceToNat, Int.reduceNeg, Int.reducePow, Nat.reducePow, Nat.reduceEqDiff, Nat.reduceBEq, Int.reduceBEq, Int.reduceBNe, Int.reduceNegSucc, Try.results22]; done) | (simp only [go_sem, reduceCtorEq, Nat.reduceAdd, Nat.reduceSub, Nat.reduceMul, Nat.reduceLT, Nat.reduceLeDiff, Int.reduceLT, Int.reduceLE, Int.reduceEq, Int.reduceNe, Int.reduceAdd, Int.reduceSub, Int.reduceMul, Int.reduceToNat, Int.reduceNeg, Int.reducePow, Nat.reducePow, Nat.reduceEqDiff, Nat.reduceBEq, Int.reduceBEq, Int.reduceBNe, Int.reduceNegSucc, Try.results22]; rfl) | rfl)
  have hpl : rplace r.L.length i = ((i.toNat % r.L.length : Nat) : Int) := by unfold rplace; rw [if_neg h]
  have hlt : i.toNat % r.L.length < r.L.length := Nat.mod_lt _ (by omega)
  rw [if_neg h]
  generalize i.toNat % r.L.length = j at hpl hlt ⊢
  have hg := getD_some hlt ⟨0, []⟩
  generalize r.L.getD j ⟨0, []⟩ = x at hg ⊢
  have q0 : ((j : Int) < 0) = False := eq_false (by omega)
  have q1 := hg
  have q2 : IntKind.i64.wrap ((j : Int) + 1) = ((j + 1 : Nat) : Int) := by rw [wr_i64 (by omega) (by omega)]; rfl
  have q3 : ((j : Int) ≤ (r.L.length : Int)) = True := eq_true (by omega)
  have q4 : (((j + 1 : Nat) : Int) ≤ (r.L.length : Int)) = True := eq_true (by omega)
  have q5 : ((j : Int) ≤ (r.S.length : Int)) = True := eq_true (by omega)
  have q8 : (((j + 1 : Nat) : Int) ≤ (r.S.length : Int)) = True := eq_true (by omega)
  have q6 : r.L.take j ++ r.L.drop (j + 1) = r.L.eraseIdx j := (List.eraseIdx_eq_take_drop_succ ..).symm
  have q7 : r.S.take j ++ r.S.drop (j + 1) = r.S.eraseIdx j := (List.eraseIdx_eq_take_drop_succ ..).symm
  have t1 : (r.L.take j).length ≤ 64 := by simp; omega
  have t2 : (r.L.drop (j + 1)).length ≤ 64 := by simp; omega
  have t3 : (r.S.take j).length ≤ 64 := by simp; omega
  have t4 : (r.S.drop (j + 1)).length ≤ 64 := by simp; omega
  refine Sp.of_bodyD Try.func22 rfl ?_
  intro Q hQ
  simp only [List.replicate, List.length_cons, List.length_nil, Try.ntmps22, Nat.reduceAdd, Nat.reduceSub, List.cons_append, List.nil_append, go_sem]
  have h0 : True := trivial
  have hy := yieldedV_eq
  repeat' (first
      | (refine WPV.seqK ?_; intro N hN)
      | refine WPV.block ?_
      | refine WPV.scope ?_
      | refine WPV.skip ?_
      | refine WPV.label ?_
      | refine WPV.exit ?_
      | refine WPV.ret ?_
      | (refine WPV.regionG (M := noM) ?_; intro N hN ops hy; (try simp only [List.append] at hy ⊢); (try simp only [List.map_cons, List.map_nil] at hy))
      | (refine WPV.drawK (M := noM) (by kernel_rfl) (by kernel_rfl) ?_; intro N hN; have hy := yieldedV_eq)
      | (refine WPV.condK ?_; intro A hA B hB)
      | ((with_reducible first | refine opsV.here ?_ | refine guardO.here ?_ | refine resO.here ?_ | refine drawV.here ?_ | refine guardD.here ?_ | refine stepO.here ?_ | refine brO.here ?_ | refine condV.here ?_); simp (config := {contextual := true, maxSteps := 1000000}) only [hy, h0, go_sem, reduceCtorEq, Nat.reduceAdd, Nat.reduceSub, Nat.reduceMul, Nat.reduceLT, Nat.reduceLeDiff, Int.reduceLT, Int.reduceLE, Int.reduceEq, Int.reduceNe, Int.reduceAdd, Int.reduceSub, Int.reduceMul, Int.reduceToNat, Int.reduceNeg, Int.reducePow, Nat.reducePow, Nat.reduceEqDiff, Nat.reduceBEq, Int.reduceBEq, Int.reduceBNe, Int.reduceNegSucc, q0, q1, q2, q3, q4, q5, q6, q7, q8])
      | (refine And.intro (by kernel_rfl : okOrd _ _ = true) ?_)
      | refine Both.mk ?_ ?_
      | ((with_reducible refine CallO.gd 76 ?_); refine CallO.frA [0] Try.call76 (rplace_e hpl) ?_)
      | (first | refine hN _ ?_ | (clear hN N; refine hN _ ?_) | (iterate 2 clear hN N); refine hN _ ?_ | (iterate 3 clear hN N); refine hN _ ?_ | (iterate 4 clear hN N); refine hN _ ?_ | (iterate 5 clear hN N); refine hN _ ?_); try clear hN N; try clear hy ops
      | (refine hA ?_; clear hA A hB B; try simp only [h0])
      | (refine hB ?_; clear hA A hB B; try simp only [h0])
      | ((first | refine guardO.mk (fun h0 => ?_) (fun h0 => ?_) | refine guardD.mk (fun h0 => ?_) (fun h0 => ?_) | refine Br.mk (fun h0 => ?_) (fun h0 => ?_)) <;> (have h := h0; try simp only [decide_eq_true_eq, decide_eq_false_iff_not, Int.not_lt, Int.not_le, beq_iff_eq, beq_eq_false_iff_ne, bne_iff_ne, bne_eq_false_iff_eq, ne_eq, Bool.not_eq_true', Bool.not_eq_false', Decidable.not_not] at h) <;> (try (exfalso; omega)) <;> (try simp only [Bool.not_eq_true', Bool.not_eq_false', beq_true, beq_false] at h0))
      | ((first | rw [if_pos (show _ ∧ _ from ⟨by omega, by omega⟩)] | rw [if_pos (show _ ∧ _ from by simp only [List.length_append, List.length_cons, List.length_nil]; exact ⟨by omega, by omega⟩)]); simp (config := {contextual := true, maxSteps := 1000000}) only [hy, h0, go_sem, reduceCtorEq, Nat.reduceAdd, Nat.reduceSub, Nat.reduceMul, Nat.reduceLT, Nat.reduceLeDiff, Int.reduceLT, Int.reduceLE, Int.reduceEq, Int.reduceNe, Int.reduceAdd, Int.reduceSub, Int.reduceMul, Int.reduceToNat, Int.reduceNeg, Int.reducePow, Nat.reducePow, Nat.reduceEqDiff, Nat.reduceBEq, Int.reduceBEq, Int.reduceBNe, Int.reduceNegSucc, q0, q1, q2, q3, q4, q5, q6, q7, q8])
      | (simp only [thenV, blockV, if_true, if_false, Nat.reduceEqDiff, reduceCtorEq, imp_self]))
  all_goals (apply And.right; refine hQ _ _ _ Desc.refl ?_ ⟨_, _, _, rfl, rfl, Wk.refl, ?_⟩)
  · (first | (simp only [go_sem, reduceCtorEq, Nat.reduceAdd, Nat.reduceSub, Nat.reduceMul, Nat.reduceLT, Nat.reduceLeDiff, Int.reduceLT, Int.reduceLE, Int.reduceEq, Int.reduceNe, Int.reduceAdd, Int.reduceSub, Int.reduceMul, Int.reduceToNat, Int.reduceNeg, Int.reducePow, Nat.reducePow, Nat.reduceEqDiff, Nat.reduceBEq, Int.reduceBEq, Int.reduceBNe, Int.reduceNegSucc, Try.results22]; done) | (simp only [go_sem, reduceCtorEq, Nat.reduceAdd, Nat.reduceSub, Nat.reduceMul, Nat.reduceLT, Nat.reduceLeDiff, Int.reduceLT, Int.reduceLE, Int.reduceEq, Int.reduceNe, Int.reduceAdd, Int.reduceSub, Int.reduceMul, Int.reduceToNat, Int.reduceNeg, Int.reducePow, Nat.reducePow, Nat.reduceEqDiff, Nat.reduceBEq, Int.reduceBEq, Int.reduceBNe, Int.reduceNegSucc, Try.results22]; rfl) | rfl)
  · exact Wk.own (Wk.own Wk.nil)
theorem rtake_s (r : Rnt) (i : Int) (hl : r.L.length ≤ 64) (hs : r.S.length = r.L.length) : Sp Try.prog K 22 [.ptr 0 0, .sc (.int .i64 i)] [r.ob] fun u hh => u = tkLV (rtake r i).1 ∧ hh = [(rtake r i).2.ob] :=
  (rtake_w r i hl hs).descR fun v hh ⟨o, j1, x, e1, e2, hw1, hw2⟩ => by
    subst e1; subst e2
    exact ⟨_, _, ((Desc.weak hw1 (WkH.cons hw2 (WkH.refl j1))).trans (Desc.re [some 0] rfl)), rfl, rfl⟩

/-! Double -/
def rdouble (r : Rnt) (i : Int) : Bool × Rnt := if i < 0 ∨ r.L.length = 0 then (false, r) else
  if (rput r (r.L.getD (i.toNat % r.L.length) ⟨0, []⟩)).1 = true then (true, ⟨r.L ++ [r.L.getD (i.toNat % r.L.length) ⟨0, []⟩], r.S ++ [r.S.getD (i.toNat % r.L.length) false]⟩) else (false, r)
set_option maxRecDepth 100000 in
set_option maxHeartbeats 1000000 in
theorem rdouble_n (r : Rnt) (i : Int) (h : i < 0 ∨ r.L.length = 0) : Sp Try.prog K 26 [.ptr 0 0, .sc (.int .i64 i)] [r.ob] fun u hh => u = .sc (.bool false) ∧ hh = [r.ob] := by
  have q0 : True := trivial
  have q1 : True := trivial
  have q2 : True := trivial
  have q3 : True := trivial
  have q4 : True := trivial
  have q5 : True := trivial
  have q6 : True := trivial
  have q7 : True := trivial
  have hpl : rplace r.L.length i = -1 := by unfold rplace; rw [if_pos h]
  refine Sp.of_bodyD Try.func26 rfl ?_
  intro Q hQ
  simp only [List.replicate, List.length_cons, List.length_nil, Try.ntmps26, Nat.reduceAdd, Nat.reduceSub, List.cons_append, List.nil_append, go_sem]
  have h0 : True := trivial
  have hy := yieldedV_eq
  repeat' (first
      | (refine WPV.seqK ?_; intro N hN)
      | refine WPV.block ?_
      | refine WPV.scope ?_
      | refine WPV.skip ?_
      | refine WPV.label ?_
      | refine WPV.exit ?_
      | refine WPV.ret ?_
      | (refine WPV.regionG (M := noM) ?_; intro N hN ops hy; (try simp only [List.append] at hy ⊢); (try simp only [List.map_cons, List.map_nil] at hy))
      | (refine WPV.drawK (M := noM) (by kernel_rfl) (by kernel_rfl) ?_; intro N hN; have hy := yieldedV_eq)
      | (refine WPV.condK ?_; intro A hA B hB)
      | ((with_reducible first | refine opsV.here ?_ | refine guardO.here ?_ | refine resO.here ?_ | refine drawV.here ?_ | refine guardD.here ?_ | refine stepO.here ?_ | refine brO.here ?_ | refine condV.here ?_); simp (config := {contextual := true, maxSteps := 1000000}) only [hy, h0, go_sem, reduceCtorEq, Nat.reduceAdd, Nat.reduceSub, Nat.reduceMul, Nat.reduceLT, Nat.reduceLeDiff, Int.reduceLT, Int.reduceLE, Int.reduceEq, Int.reduceNe, Int.reduceAdd, Int.reduceSub, Int.reduceMul, Int.reduceToNat, Int.reduceNeg, Int.reducePow, Nat.reducePow, Nat.reduceEqDiff, Nat.reduceBEq, Int.reduceBEq, Int.reduceBNe, Int.reduceNegSucc, q0, q1, q2, q3, q4, q5, q6, q7])
      | (refine And.intro (by kernel_rfl : okOrd _ _ = true) ?_)
      | refine Both.mk ?_ ?_
      | ((with_reducible refine CallO.gd 76 ?_); refine CallO.frA [0] Try.call76 (rplace_e hpl) ?_)
      | (first | refine hN _ ?_ | (clear hN N; refine hN _ ?_) | (iterate 2 clear hN N); refine hN _ ?_ | (iterate 3 clear hN N); refine hN _ ?_ | (iterate 4 clear hN N); refine hN _ ?_ | (iterate 5 clear hN N); refine hN _ ?_); try clear hN N; try clear hy ops
      | (refine hA ?_; clear hA A hB B; try simp only [h0])
      | (refine hB ?_; clear hA A hB B; try simp only [h0])
      | ((first | refine guardO.mk (fun h0 => ?_) (fun h0 => ?_) | refine guardD.mk (fun h0 => ?_) (fun h0 => ?_) | refine Br.mk (fun h0 => ?_) (fun h0 => ?_)) <;> (have h := h0; try simp only [decide_eq_true_eq, decide_eq_false_iff_not, Int.not_lt, Int.not_le, beq_iff_eq, beq_eq_false_iff_ne, bne_iff_ne, bne_eq_false_iff_eq, ne_eq, Bool.not_eq_true', Bool.not_eq_false', Decidable.not_not] at h) <;> (try (exfalso; omega)) <;> (try simp only [Bool.not_eq_true', Bool.not_eq_false', beq_true, beq_false] at h0))
      | ((first | rw [if_pos (show _ ∧ _ from ⟨by omega, by omega⟩)] | rw [if_pos (show _ ∧ _ from by simp only [List.length_append, List.length_cons, List.length_nil]; exact ⟨by omega, by omega⟩)]); simp (config := {contextual := true, maxSteps := 1000000}) only [hy, h0, go_sem, reduceCtorEq, Nat.reduceAdd, Nat.reduceSub, Nat.reduceMul, Nat.reduceLT, Nat.reduceLeDiff, Int.reduceLT, Int.reduceLE, Int.reduceEq, Int.reduceNe, Int.reduceAdd, Int.reduceSub, Int.reduceMul, Int.reduceToNat, Int.reduceNeg, Int.reducePow, Nat.reducePow, Nat.reduceEqDiff, Nat.reduceBEq, Int.reduceBEq, Int.reduceBNe, Int.reduceNegSucc, q0, q1, q2, q3, q4, q5, q6, q7])
      | (simp only [thenV, blockV, if_true, if_false, Nat.reduceEqDiff, reduceCtorEq, imp_self]))
  all_goals (first | exact retA hQ Try.results26 (Desc.re [some 0] rfl) | exact retN hQ Try.results26 (Desc.re [some 0] rfl))
set_option maxRecDepth 100000 in
set_option maxHeartbeats 1000000 in
theorem rdouble_f (r : Rnt) (i : Int) (j : Nat) (x : Ltr) (hpl : rplace r.L.length i = (j : Int)) (hg : r.L[j]? = some x) (hf : x.to < 0 ∨ 3 < x.to ∨ 64 ≤ r.L.length) : Sp Try.prog K 26 [.ptr 0 0, .sc (.int .i64 i)] [r.ob] fun u hh => u = .sc (.bool false) ∧ hh = [r.ob] := by
  have q0 : ((j : Int) < 0) = False := eq_false (by omega)
  have q1 := hg
  refine Sp.of_bodyD Try.func26 rfl ?_
  intro Q hQ
  simp only [List.replicate, List.length_cons, List.length_nil, Try.ntmps26, Nat.reduceAdd, Nat.reduceSub, List.cons_append, List.nil_append, go_sem]
  have h0 : True := trivial
  have hy := yieldedV_eq
  repeat' (first
      | (refine WPV.seqK ?_; intro N hN)
      | refine WPV.block ?_
      | refine WPV.scope ?_
      | refine WPV.skip ?_
      | refine WPV.label ?_
      | refine WPV.exit ?_
      | refine WPV.ret ?_
      | (refine WPV.regionG (M := noM) ?_; intro N hN ops hy; (try simp only [List.append] at hy ⊢); (try simp only [List.map_cons, List.map_nil] at hy))
      | (refine WPV.drawK (M := noM) (by kernel_rfl) (by kernel_rfl) ?_; intro N hN; have hy := yieldedV_eq)
      | (refine WPV.condK ?_; intro A hA B hB)
      | ((with_reducible first | refine opsV.here ?_ | refine guardO.here ?_ | refine resO.here ?_ | refine drawV.here ?_ | refine guardD.here ?_ | refine stepO.here ?_ | refine brO.here ?_ | refine condV.here ?_); simp (config := {contextual := true, maxSteps := 1000000}) only [hy, h0, go_sem, reduceCtorEq, Nat.reduceAdd, Nat.reduceSub, Nat.reduceMul, Nat.reduceLT, Nat.reduceLeDiff, Int.reduceLT, Int.reduceLE, Int.reduceEq, Int.reduceNe, Int.reduceAdd, Int.reduceSub, Int.reduceMul, Int.reduceToNat, Int.reduceNeg, Int.reducePow, Nat.reducePow, Nat.reduceEqDiff, Nat.reduceBEq, Int.reduceBEq, Int.reduceBNe, Int.reduceNegSucc, q0, q1])
      | (refine And.intro (by kernel_rfl : okOrd _ _ = true) ?_)
      | refine Both.mk ?_ ?_
      | ((with_reducible refine CallO.gd 76 ?_); refine CallO.frA [0] Try.call76 (rplace_e hpl) ?_)
      | ((with_reducible refine CallO.gd 20 ?_); refine CallO.frA [0] Try.call20 (rsend_f r x.to x.b hf) ?_)
      | (first | refine hN _ ?_ | (clear hN N; refine hN _ ?_) | (iterate 2 clear hN N); refine hN _ ?_ | (iterate 3 clear hN N); refine hN _ ?_ | (iterate 4 clear hN N); refine hN _ ?_ | (iterate 5 clear hN N); refine hN _ ?_); try clear hN N; try clear hy ops
      | (refine hA ?_; clear hA A hB B; try simp only [h0])
      | (refine hB ?_; clear hA A hB B; try simp only [h0])
      | ((first | refine guardO.mk (fun h0 => ?_) (fun h0 => ?_) | refine guardD.mk (fun h0 => ?_) (fun h0 => ?_) | refine Br.mk (fun h0 => ?_) (fun h0 => ?_)) <;> (have h := h0; try simp only [decide_eq_true_eq, decide_eq_false_iff_not, Int.not_lt, Int.not_le, beq_iff_eq, beq_eq_false_iff_ne, bne_iff_ne, bne_eq_false_iff_eq, ne_eq, Bool.not_eq_true', Bool.not_eq_false', Decidable.not_not] at h) <;> (try (exfalso; omega)) <;> (try simp only [Bool.not_eq_true', Bool.not_eq_false', beq_true, beq_false] at h0))
      | ((first | rw [if_pos (show _ ∧ _ from ⟨by omega, by omega⟩)] | rw [if_pos (show _ ∧ _ from by simp only [List.length_append, List.length_cons, List.length_nil]; exact ⟨by omega, by omega⟩)]); simp (config := {contextual := true, maxSteps := 1000000}) only [hy, h0, go_sem, reduceCtorEq, Nat.reduceAdd, Nat.reduceSub, Nat.reduceMul, Nat.reduceLT, Nat.reduceLeDiff, Int.reduceLT, Int.reduceLE, Int.reduceEq, Int.reduceNe, Int.reduceAdd, Int.reduceSub, Int.reduceMul, Int.reduceToNat, Int.reduceNeg, Int.reducePow, Nat.reducePow, Nat.reduceEqDiff, Nat.reduceBEq, Int.reduceBEq, Int.reduceBNe, Int.reduceNegSucc, q0, q1])
      | (simp only [thenV, blockV, if_true, if_false, Nat.reduceEqDiff, reduceCtorEq, imp_self]))
  all_goals (first | exact retA hQ Try.results26 (Desc.re [some 0] rfl) | exact retN hQ Try.results26 (Desc.re [some 0] rfl))
set_option maxRecDepth 100000 in
set_option maxHeartbeats 1000000 in
theorem rdouble_h (r : Rnt) (i : Int) (j : Nat) (x : Ltr) (b : Bool) (hs : r.S.length = r.L.length) (hpl : rplace r.L.length i = (j : Int)) (hg : r.L[j]? = some x) (hb : r.S[j]? = some b) (h1 : ¬ x.to < 0) (h2 : ¬ 3 < x.to) (h3 : ¬ 64 ≤ r.L.length) : Sp Try.prog K 26 [.ptr 0 0, .sc (.int .i64 i)] [r.ob] fun u hh => u = .sc (.bool true) ∧ hh = Rnt.obh (r.L ++ [x]) (r.S ++ [b]) (r.S.length + 1) := by
  have hj := get_lt hg
  have q0 : ((j : Int) < 0) = False := eq_false (by omega)
  have q1 := hg
  have q2 : IntKind.i64.wrap (((r.S.length + 1 : Nat) : Int) - 1) = ((r.S.length : Nat) : Int) := by rw [wr_i64 (by omega) (by omega)]; omega
  have q3 : ((j : Int) < ((r.S.length + 1 : Nat) : Int)) = True := eq_true (by omega)
  have q4 : (flatD (bls (r.S ++ [false])))[j]? = some (.sc (.bool b)) := by
    have h := flatD_cell (i := j) (j := 0) (bls_uni (r.S ++ [false])) (e := [.sc (.bool b)]) (by rw [bls_get, List.getElem?_append_left (by omega), hb]; rfl) (by decide)
    simpa using h
  have q5 : ((r.S.length : Int) < ((r.S.length + 1 : Nat) : Int)) = True := eq_true (by omega)
  have q6 : (r.S.length + 1 ≤ (r.S ++ [false]).length) = True := eq_true (by simp)
  have q7 : List.take r.S.length (flatD (bls (r.S ++ [false]))) ++ [V.sc (.bool b)] ++ List.drop (r.S.length + 1) (flatD (bls (r.S ++ [false]))) = flatD (bls (r.S ++ [b])) := by
    rw [← bls_fl_snoc, ← bls_fl_snoc, List.take_left' (bls_fl_len _), List.drop_eq_nil_of_le (by simp [bls_fl_len]), List.append_nil]
  refine Sp.of_bodyD Try.func26 rfl ?_
  intro Q hQ
  simp only [List.replicate, List.length_cons, List.length_nil, Try.ntmps26, Nat.reduceAdd, Nat.reduceSub, List.cons_append, List.nil_append, go_sem]
  have h0 : True := trivial
  have hy := yieldedV_eq
  repeat' (first
      | (refine WPV.seqK ?_; intro N hN)
      | refine WPV.block ?_
      | refine WPV.scope ?_
      | refine WPV.skip ?_
      | refine WPV.label ?_
      | refine WPV.exit ?_
      | refine WPV.ret ?_
      | (refine WPV.regionG (M := noM) ?_; intro N hN ops hy; (try simp only [List.append] at hy ⊢); (try simp only [List.map_cons, List.map_nil] at hy))
      | (refine WPV.drawK (M := noM) (by kernel_rfl) (by kernel_rfl) ?_; intro N hN; have hy := yieldedV_eq)
      | (refine WPV.condK ?_; intro A hA B hB)
      | ((with_reducible first | refine opsV.here ?_ | refine guardO.here ?_ | refine resO.here ?_ | refine drawV.here ?_ | refine guardD.here ?_ | refine stepO.here ?_ | refine brO.here ?_ | refine condV.here ?_); simp (config := {contextual := true, maxSteps := 1000000}) only [hy, h0, go_sem, reduceCtorEq, Nat.reduceAdd, Nat.reduceSub, Nat.reduceMul, Nat.reduceLT, Nat.reduceLeDiff, Int.reduceLT, Int.reduceLE, Int.reduceEq, Int.reduceNe, Int.reduceAdd, Int.reduceSub, Int.reduceMul, Int.reduceToNat, Int.reduceNeg, Int.reducePow, Nat.reducePow, Nat.reduceEqDiff, Nat.reduceBEq, Int.reduceBEq, Int.reduceBNe, Int.reduceNegSucc, q0, q1, q2, q3, q4, q5, q6, q7])
      | (refine And.intro (by kernel_rfl : okOrd _ _ = true) ?_)
      | refine Both.mk ?_ ?_
      | ((with_reducible refine CallO.gd 76 ?_); refine CallO.frA [0] Try.call76 (rplace_e hpl) ?_)
      | ((with_reducible refine CallO.gd 20 ?_); refine CallO.frA [0] Try.call20 (rsend_h r x.to x.b hs h1 h2 h3) ?_)
      | (first | refine hN _ ?_ | (clear hN N; refine hN _ ?_) | (iterate 2 clear hN N); refine hN _ ?_ | (iterate 3 clear hN N); refine hN _ ?_ | (iterate 4 clear hN N); refine hN _ ?_ | (iterate 5 clear hN N); refine hN _ ?_); try clear hN N; try clear hy ops
      | (refine hA ?_; clear hA A hB B; try simp only [h0])
      | (refine hB ?_; clear hA A hB B; try simp only [h0])
      | ((first | refine guardO.mk (fun h0 => ?_) (fun h0 => ?_) | refine guardD.mk (fun h0 => ?_) (fun h0 => ?_) | refine Br.mk (fun h0 => ?_) (fun h0 => ?_)) <;> (have h := h0; try simp only [decide_eq_true_eq, decide_eq_false_iff_not, Int.not_lt, Int.not_le, beq_iff_eq, beq_eq_false_iff_ne, bne_iff_ne, bne_eq_false_iff_eq, ne_eq, Bool.not_eq_true', Bool.not_eq_false', Decidable.not_not] at h) <;> (try (exfalso; omega)) <;> (try simp only [Bool.not_eq_true', Bool.not_eq_false', beq_true, beq_false] at h0))
      | ((first | rw [if_pos (show _ ∧ _ from ⟨by omega, by omega⟩)] | rw [if_pos (show _ ∧ _ from by simp only [List.length_append, List.length_cons, List.length_nil]; exact ⟨by omega, by omega⟩)]); simp (config := {contextual := true, maxSteps := 1000000}) only [hy, h0, go_sem, reduceCtorEq, Nat.reduceAdd, Nat.reduceSub, Nat.reduceMul, Nat.reduceLT, Nat.reduceLeDiff, Int.reduceLT, Int.reduceLE, Int.reduceEq, Int.reduceNe, Int.reduceAdd, Int.reduceSub, Int.reduceMul, Int.reduceToNat, Int.reduceNeg, Int.reducePow, Nat.reducePow, Nat.reduceEqDiff, Nat.reduceBEq, Int.reduceBEq, Int.reduceBNe, Int.reduceNegSucc, q0, q1, q2, q3, q4, q5, q6, q7])
      | (simp only [thenV, blockV, if_true, if_false, Nat.reduceEqDiff, reduceCtorEq, imp_self]))
  all_goals (first | exact retA hQ Try.results26 (Desc.re [some 0, some 1] rfl) | exact retN hQ Try.results26 (Desc.re [some 0, some 1] rfl))
theorem rdouble_s (r : Rnt) (i : Int) (hs : r.S.length = r.L.length) : Sp Try.prog K 26 [.ptr 0 0, .sc (.int .i64 i)] [r.ob] fun u hh => u = .sc (.bool (rdouble r i).1) ∧ hh = [(rdouble r i).2.ob] := by
  unfold rdouble
  by_cases h : i < 0 ∨ r.L.length = 0
  · rw [if_pos h]; exact rdouble_n r i h
  · rw [if_neg h]
    have hpl : rplace r.L.length i = ((i.toNat % r.L.length : Nat) : Int) := by unfold rplace; rw [if_neg h]
    have hlt : i.toNat % r.L.length < r.L.length := Nat.mod_lt _ (by omega)
    generalize i.toNat % r.L.length = j at hpl hlt ⊢
    have hg := getD_some hlt ⟨0, []⟩
    have hb := getD_some (l := r.S) (j := j) (by omega) false
    generalize r.L.getD j ⟨0, []⟩ = x at hg ⊢
    generalize r.S.getD j false = b at hb ⊢
    unfold rput
    by_cases hf : x.to < 0 ∨ 3 < x.to ∨ 64 ≤ r.L.length
    · rw [if_pos hf]; exact rdouble_f r i j x hpl hg hf
    · rw [if_neg hf]
      refine (rdouble_h r i j x b hs hpl hg hb (by omega) (by omega) (by omega)).descR fun v hh ⟨e1, e2⟩ => ?_
      subst e1; subst e2
      exact ⟨_, _, Desc.frz2 rfl (by simp) rfl rfl, rfl, rfl⟩

/-! Turn -/
def rturn (r : Rnt) (i a : Int) (m : UInt32) : Bool × Rnt := if i < 0 ∨ r.L.length = 0 then (false, r) else
  if r.S.getD (i.toNat % r.L.length) false = true then (false, r) else
    (true, ⟨r.L.set (i.toNat % r.L.length) ⟨(r.L.getD (i.toNat % r.L.length) ⟨0, []⟩).to, turnF a m (r.L.getD (i.toNat % r.L.length) ⟨0, []⟩).b⟩, r.S.set (i.toNat % r.L.length) (!decide (turnF a m (r.L.getD (i.toNat % r.L.length) ⟨0, []⟩).b = (r.L.getD (i.toNat % r.L.length) ⟨0, []⟩).b))⟩)
set_option maxRecDepth 100000 in
theorem rturn_n (r : Rnt) (i a : Int) (m : UInt32) (h : i < 0 ∨ r.L.length = 0) : Sp Try.prog K 28 [.ptr 0 0, .sc (.int .i64 i), .sc (.int .i64 a), .sc (.int .u32 (U m))] [r.ob] fun u hh => u = .sc (.bool false) ∧ hh = [r.ob] := by
  have q0 : True := trivial
  have q1 : True := trivial
  have q2 : True := trivial
  have hpl : rplace r.L.length i = -1 := by unfold rplace; rw [if_pos h]
  refine Sp.of_bodyD Try.func28 rfl ?_
  intro Q hQ
  simp only [List.replicate, List.length_cons, List.length_nil, Try.ntmps28, Nat.reduceAdd, Nat.reduceSub, List.cons_append, List.nil_append, go_sem]
  have h0 : True := trivial
  have hy := yieldedV_eq
  repeat' (first
      | (refine WPV.seqK ?_; intro N hN)
      | refine WPV.block ?_
      | refine WPV.scope ?_
      | refine WPV.skip ?_
      | refine WPV.label ?_
      | refine WPV.exit ?_
      | refine WPV.ret ?_
      | (refine WPV.regionG (M := noM) ?_; intro N hN ops hy; (try simp only [List.append] at hy ⊢); (try simp only [List.map_cons, List.map_nil] at hy))
      | (refine WPV.drawK (M := noM) (by kernel_rfl) (by kernel_rfl) ?_; intro N hN; have hy := yieldedV_eq)
      | (refine WPV.condK ?_; intro A hA B hB)
      | ((with_reducible first | refine opsV.here ?_ | refine guardO.here ?_ | refine resO.here ?_ | refine drawV.here ?_ | refine guardD.here ?_ | refine stepO.here ?_ | refine brO.here ?_ | refine condV.here ?_); simp (config := {contextual := true, maxSteps := 1000000}) only [hy, h0, go_sem, reduceCtorEq, Nat.reduceAdd, Nat.reduceSub, Nat.reduceMul, Nat.reduceLT, Nat.reduceLeDiff, Int.reduceLT, Int.reduceLE, Int.reduceEq, Int.reduceNe, Int.reduceAdd, Int.reduceSub, Int.reduceMul, Int.reduceToNat, Int.reduceNeg, Int.reducePow, Nat.reducePow, Nat.reduceEqDiff, Nat.reduceBEq, Int.reduceBEq, Int.reduceBNe, Int.reduceNegSucc, q0, q1, q2])
      | (refine And.intro (by kernel_rfl : okOrd _ _ = true) ?_)
      | refine Both.mk ?_ ?_
      | ((with_reducible refine CallO.gd 76 ?_); refine CallO.frA [0] Try.call76 (rplace_e hpl) ?_)
      | (first | refine hN _ ?_ | (clear hN N; refine hN _ ?_) | (iterate 2 clear hN N); refine hN _ ?_ | (iterate 3 clear hN N); refine hN _ ?_ | (iterate 4 clear hN N); refine hN _ ?_ | (iterate 5 clear hN N); refine hN _ ?_); try clear hN N; try clear hy ops
      | (refine hA ?_; clear hA A hB B; try simp only [h0])
      | (refine hB ?_; clear hA A hB B; try simp only [h0])
      | ((first | refine guardO.mk (fun h0 => ?_) (fun h0 => ?_) | refine guardD.mk (fun h0 => ?_) (fun h0 => ?_) | refine Br.mk (fun h0 => ?_) (fun h0 => ?_)) <;> (have h := h0; try simp only [decide_eq_true_eq, decide_eq_false_iff_not, Int.not_lt, Int.not_le, beq_iff_eq, beq_eq_false_iff_ne, bne_iff_ne, bne_eq_false_iff_eq, ne_eq, Bool.not_eq_true', Bool.not_eq_false', Decidable.not_not] at h) <;> (try (exfalso; omega)) <;> (try simp only [Bool.not_eq_true', Bool.not_eq_false', beq_true, beq_false] at h0))
      | ((first | rw [if_pos (show _ ∧ _ from ⟨by omega, by omega⟩)] | rw [if_pos (show _ ∧ _ from by simp only [List.length_append, List.length_cons, List.length_nil]; exact ⟨by omega, by omega⟩)]); simp (config := {contextual := true, maxSteps := 1000000}) only [hy, h0, go_sem, reduceCtorEq, Nat.reduceAdd, Nat.reduceSub, Nat.reduceMul, Nat.reduceLT, Nat.reduceLeDiff, Int.reduceLT, Int.reduceLE, Int.reduceEq, Int.reduceNe, Int.reduceAdd, Int.reduceSub, Int.reduceMul, Int.reduceToNat, Int.reduceNeg, Int.reducePow, Nat.reducePow, Nat.reduceEqDiff, Nat.reduceBEq, Int.reduceBEq, Int.reduceBNe, Int.reduceNegSucc, q0, q1, q2])
      | (simp only [thenV, blockV, if_true, if_false, Nat.reduceEqDiff, reduceCtorEq, imp_self]))
  all_goals (first | exact retA hQ Try.results28 (Desc.re [some 0] rfl) | exact retN hQ Try.results28 (Desc.re [some 0] rfl))
set_option maxRecDepth 100000 in
theorem rturn_f (r : Rnt) (i a : Int) (m : UInt32) (j : Nat) (hpl : rplace r.L.length i = (j : Int)) (hb : r.S[j]? = some true) : Sp Try.prog K 28 [.ptr 0 0, .sc (.int .i64 i), .sc (.int .i64 a), .sc (.int .u32 (U m))] [r.ob] fun u hh => u = .sc (.bool false) ∧ hh = [r.ob] := by
  have q0 : ((j : Int) < 0) = False := eq_false (by omega)
  have q1 := hb
  have q2 : True := trivial
  refine Sp.of_bodyD Try.func28 rfl ?_
  intro Q hQ
  simp only [List.replicate, List.length_cons, List.length_nil, Try.ntmps28, Nat.reduceAdd, Nat.reduceSub, List.cons_append, List.nil_append, go_sem]
  have h0 : True := trivial
  have hy := yieldedV_eq
  repeat' (first
      | (refine WPV.seqK ?_; intro N hN)
      | refine WPV.block ?_
      | refine WPV.scope ?_
      | refine WPV.skip ?_
      | refine WPV.label ?_
      | refine WPV.exit ?_
      | refine WPV.ret ?_
      | (refine WPV.regionG (M := noM) ?_; intro N hN ops hy; (try simp only [List.append] at hy ⊢); (try simp only [List.map_cons, List.map_nil] at hy))
      | (refine WPV.drawK (M := noM) (by kernel_rfl) (by kernel_rfl) ?_; intro N hN; have hy := yieldedV_eq)
      | (refine WPV.condK ?_; intro A hA B hB)
      | ((with_reducible first | refine opsV.here ?_ | refine guardO.here ?_ | refine resO.here ?_ | refine drawV.here ?_ | refine guardD.here ?_ | refine stepO.here ?_ | refine brO.here ?_ | refine condV.here ?_); simp (config := {contextual := true, maxSteps := 1000000}) only [hy, h0, go_sem, reduceCtorEq, Nat.reduceAdd, Nat.reduceSub, Nat.reduceMul, Nat.reduceLT, Nat.reduceLeDiff, Int.reduceLT, Int.reduceLE, Int.reduceEq, Int.reduceNe, Int.reduceAdd, Int.reduceSub, Int.reduceMul, Int.reduceToNat, Int.reduceNeg, Int.reducePow, Nat.reducePow, Nat.reduceEqDiff, Nat.reduceBEq, Int.reduceBEq, Int.reduceBNe, Int.reduceNegSucc, q0, q1, q2])
      | (refine And.intro (by kernel_rfl : okOrd _ _ = true) ?_)
      | refine Both.mk ?_ ?_
      | ((with_reducible refine CallO.gd 76 ?_); refine CallO.frA [0] Try.call76 (rplace_e hpl) ?_)
      | (first | refine hN _ ?_ | (clear hN N; refine hN _ ?_) | (iterate 2 clear hN N); refine hN _ ?_ | (iterate 3 clear hN N); refine hN _ ?_ | (iterate 4 clear hN N); refine hN _ ?_ | (iterate 5 clear hN N); refine hN _ ?_); try clear hN N; try clear hy ops
      | (refine hA ?_; clear hA A hB B; try simp only [h0])
      | (refine hB ?_; clear hA A hB B; try simp only [h0])
      | ((first | refine guardO.mk (fun h0 => ?_) (fun h0 => ?_) | refine guardD.mk (fun h0 => ?_) (fun h0 => ?_) | refine Br.mk (fun h0 => ?_) (fun h0 => ?_)) <;> (have h := h0; try simp only [decide_eq_true_eq, decide_eq_false_iff_not, Int.not_lt, Int.not_le, beq_iff_eq, beq_eq_false_iff_ne, bne_iff_ne, bne_eq_false_iff_eq, ne_eq, Bool.not_eq_true', Bool.not_eq_false', Decidable.not_not] at h) <;> (try (exfalso; omega)) <;> (try simp only [Bool.not_eq_true', Bool.not_eq_false', beq_true, beq_false] at h0))
      | ((first | rw [if_pos (show _ ∧ _ from ⟨by omega, by omega⟩)] | rw [if_pos (show _ ∧ _ from by simp only [List.length_append, List.length_cons, List.length_nil]; exact ⟨by omega, by omega⟩)]); simp (config := {contextual := true, maxSteps := 1000000}) only [hy, h0, go_sem, reduceCtorEq, Nat.reduceAdd, Nat.reduceSub, Nat.reduceMul, Nat.reduceLT, Nat.reduceLeDiff, Int.reduceLT, Int.reduceLE, Int.reduceEq, Int.reduceNe, Int.reduceAdd, Int.reduceSub, Int.reduceMul, Int.reduceToNat, Int.reduceNeg, Int.reducePow, Nat.reducePow, Nat.reduceEqDiff, Nat.reduceBEq, Int.reduceBEq, Int.reduceBNe, Int.reduceNegSucc, q0, q1, q2])
      | (simp only [thenV, blockV, if_true, if_false, Nat.reduceEqDiff, reduceCtorEq, imp_self]))
  all_goals (first | exact retA hQ Try.results28 (Desc.re [some 0] rfl) | exact retN hQ Try.results28 (Desc.re [some 0] rfl))
def Rnt.obh2 (L : List Ltr) (S : List Bool) (n m : Nat) : List Ho := [.cells [.hs true 2 1 0 n, .hs true 1 2 0 m], .cells (flatD (lts L)), .cells (flatD (bls S))]
attribute [go_sem] Rnt.obh2
set_option maxRecDepth 100000 in
set_option maxHeartbeats 1000000 in
theorem rturn_h (r : Rnt) (i a : Int) (m : UInt32) (j : Nat) (x : Ltr) (hl : r.L.length ≤ 64) (hs : r.S.length = r.L.length) (hpl : rplace r.L.length i = (j : Int)) (hg : r.L[j]? = some x) (hb : r.S[j]? = some false) (hxb : x.b.length ≤ 1000000000) (ha1 : -9223372036854775808 ≤ a) (ha2 : a ≤ 9223372036854775807) : Sp Try.prog K 28 [.ptr 0 0, .sc (.int .i64 i), .sc (.int .i64 a), .sc (.int .u32 (U m))] [r.ob] fun u hh => u = .sc (.bool true) ∧ hh = Rnt.obh2 (r.L.set j ⟨x.to, turnF a m x.b⟩) (r.S.set j (!decide (turnF a m x.b = x.b))) r.L.length r.S.length := by
  have hj := get_lt hg
  have q0 : ((j : Int) < 0) = False := eq_false (by omega)
  have q1 := hb
  have q2 := hg
  have q3 : ((j : Int) < (r.L.length : Int)) = True := eq_true (by omega)
  have q4 : (flatD (lts r.L))[j * 2 + 1]? = some (.sl 1 (bs x.b)) := by
    have h := flatD_cell (i := j) (j := 1) (lts_uni r.L) (e := x.d) (by rw [lts_get, hg]; rfl) (by decide)
    simpa [Ltr.d] using h
  have q5 : ((j : Int) < (r.S.length : Int)) = True := eq_true (by omega)
  have q6 : (j + 1 ≤ r.S.length) = True := eq_true (by omega)
  have q7 : (flatD (lts r.L))[j * 2]? = some (.sc (.int .i64 x.to)) := by
    have h := flatD_cell (i := j) (j := 0) (lts_uni r.L) (e := x.d) (by rw [lts_get, hg]; rfl) (by decide)
    simpa [Ltr.d] using h
  have q8 : (j * 2 + 2 ≤ r.L.length * 2) = True := eq_true (by omega)
  have q9 : List.take (j * 2) (flatD (lts r.L)) ++ [V.sc (.int .i64 x.to), V.sl 1 (bs (turnF a m x.b))] ++ List.drop (j * 2 + 2) (flatD (lts r.L)) = flatD (lts (r.L.set j ⟨x.to, turnF a m x.b⟩)) := by
    have h := flatD_put (i := j) (j := 0) (xs := [.sc (.int .i64 x.to), .sl 1 (bs (turnF a m x.b))]) (lts_uni r.L) (e := x.d) (by rw [lts_get, hg]; rfl) (by simp)
    simpa [Ltr.d, lts, List.map_set] using h
  have q10 : List.take j (flatD (bls r.S)) ++ [V.sc (.bool (!decide (turnF a m x.b = x.b)))] ++ List.drop (j + 1) (flatD (bls r.S)) = flatD (bls (r.S.set j (!decide (turnF a m x.b = x.b)))) := by
    have h := flatD_put (i := j) (j := 0) (xs := [.sc (.bool (!decide (turnF a m x.b = x.b)))]) (bls_uni r.S) (by rw [bls_get, hb]; rfl) (by simp)
    simpa [bls, List.map_set] using h
  refine Sp.of_bodyD Try.func28 rfl ?_
  intro Q hQ
  simp only [List.replicate, List.length_cons, List.length_nil, Try.ntmps28, Nat.reduceAdd, Nat.reduceSub, List.cons_append, List.nil_append, go_sem]
  have h0 : True := trivial
  have hy := yieldedV_eq
  repeat' (first
      | (refine WPV.seqK ?_; intro N hN)
      | refine WPV.block ?_
      | refine WPV.scope ?_
      | refine WPV.skip ?_
      | refine WPV.label ?_
      | refine WPV.exit ?_
      | refine WPV.ret ?_
      | (refine WPV.regionG (M := inM [29, 28]) ?_; intro N hN ops hy; (try simp only [List.append] at hy ⊢); (try simp only [List.map_cons, List.map_nil] at hy))
      | (refine WPV.drawK (M := inM [29, 28]) (by kernel_rfl) (by kernel_rfl) ?_; intro N hN; have hy := yieldedV_eq)
      | (refine WPV.condK ?_; intro A hA B hB)
      | ((with_reducible first | refine opsV.here ?_ | refine guardO.here ?_ | refine resO.here ?_ | refine drawV.here ?_ | refine guardD.here ?_ | refine stepO.here ?_ | refine brO.here ?_ | refine condV.here ?_); simp (config := {contextual := true, maxSteps := 1000000}) only [hy, h0, go_sem, reduceCtorEq, Nat.reduceAdd, Nat.reduceSub, Nat.reduceMul, Nat.reduceLT, Nat.reduceLeDiff, Int.reduceLT, Int.reduceLE, Int.reduceEq, Int.reduceNe, Int.reduceAdd, Int.reduceSub, Int.reduceMul, Int.reduceToNat, Int.reduceNeg, Int.reducePow, Nat.reducePow, Nat.reduceEqDiff, Nat.reduceBEq, Int.reduceBEq, Int.reduceBNe, Int.reduceNegSucc, q0, q1, q2, q3, q4, q5, q6, q7, q8, q9, q10])
      | (refine And.intro (by kernel_rfl : okOrd _ _ = true) ?_)
      | refine Both.mk ?_ ?_
      | ((with_reducible refine CallO.gd 76 ?_); refine CallO.frA [0] Try.call76 (rplace_e hpl) ?_)
      | ((with_reducible refine CallO.gd 31 ?_); refine CallO.toA Try.call31 (rturn_s x.b a m hxb ha1 ha2 _) ?_)
      | ((with_reducible refine CallO.gd 37 ?_); refine CallO.toA Try.call37 (vsame_s (turnF a m x.b) x.b _) ?_)
      | ((with_reducible refine CallP.gd 31 ?_); refine CallP.toA Try.call31 (rturn_s x.b a m hxb ha1 ha2 _) ?_)
      | ((with_reducible refine CallP.gd 37 ?_); refine CallP.toA Try.call37 (vsame_s (turnF a m x.b) x.b _) ?_)
      | (first | refine hN _ ?_ | (clear hN N; refine hN _ ?_) | (iterate 2 clear hN N); refine hN _ ?_ | (iterate 3 clear hN N); refine hN _ ?_ | (iterate 4 clear hN N); refine hN _ ?_ | (iterate 5 clear hN N); refine hN _ ?_); try clear hN N; try clear hy ops
      | (refine hA ?_; clear hA A hB B; try simp only [h0])
      | (refine hB ?_; clear hA A hB B; try simp only [h0])
      | ((first | refine guardO.mk (fun h0 => ?_) (fun h0 => ?_) | refine guardD.mk (fun h0 => ?_) (fun h0 => ?_) | refine Br.mk (fun h0 => ?_) (fun h0 => ?_)) <;> (have h := h0; try simp only [decide_eq_true_eq, decide_eq_false_iff_not, Int.not_lt, Int.not_le, beq_iff_eq, beq_eq_false_iff_ne, bne_iff_ne, bne_eq_false_iff_eq, ne_eq, Bool.not_eq_true', Bool.not_eq_false', Decidable.not_not] at h) <;> (try (exfalso; omega)) <;> (try simp only [Bool.not_eq_true', Bool.not_eq_false', beq_true, beq_false] at h0))
      | ((first | rw [if_pos (show _ ∧ _ from ⟨by omega, by omega⟩)] | rw [if_pos (show _ ∧ _ from by simp only [List.length_append, List.length_cons, List.length_nil]; exact ⟨by omega, by omega⟩)]); simp (config := {contextual := true, maxSteps := 1000000}) only [hy, h0, go_sem, reduceCtorEq, Nat.reduceAdd, Nat.reduceSub, Nat.reduceMul, Nat.reduceLT, Nat.reduceLeDiff, Int.reduceLT, Int.reduceLE, Int.reduceEq, Int.reduceNe, Int.reduceAdd, Int.reduceSub, Int.reduceMul, Int.reduceToNat, Int.reduceNeg, Int.reducePow, Nat.reducePow, Nat.reduceEqDiff, Nat.reduceBEq, Int.reduceBEq, Int.reduceBNe, Int.reduceNegSucc, q0, q1, q2, q3, q4, q5, q6, q7, q8, q9, q10])
      | (simp only [thenV, blockV, if_true, if_false, Nat.reduceEqDiff, reduceCtorEq, imp_self]))
  all_goals (first | exact retA hQ Try.results28 (Desc.re [some 0, some 2, some 4] rfl) | exact retN hQ Try.results28 (Desc.re [some 0, some 2, some 4] rfl))
theorem Desc.frz3 {n0 : Nat} {b : Bool} {L : List Ltr} {S : List Bool} {n m : Nat} (hn : L.length = n) (hm : S.length = m) (h0 : okRe n0 3 [some 0] = true) : Desc K n0 ⟨[.sc (.bool b)], Rnt.obh2 L S n m⟩ ⟨[.sc (.bool b)], [(⟨L, S⟩ : Rnt).ob]⟩ := by
  have hf := Desc.freeze (K := K) (n0 := n0) (tm := [.sc (.bool b)]) (h := Rnt.obh2 L S n m) 1 (cs := flatD (lts L)) rfl (flatD_toDs _)
  have e5 := frV_all (o := 1) (g := true) (lts_uni L) (n := n) ((lts_len L).trans hn)
  have e6 := frV_all (o := 2) (g := true) (bls_uni S) (n := m) ((bls_len S).trans hm)
  have e2 : ((Rnt.obh2 L S n m).map (frO 1 (lts L).flatten)).set 1 .dead = [.cells [.sl 2 (lts L), .hs true 1 2 0 m], .dead, .cells (flatD (bls S))] := by
    simp only [Rnt.obh2, List.map_cons, List.map_nil, frO, frL, e5, flatD_fr]
    rfl
  have e1 : frL 1 (lts L).flatten [V.sc (.bool b)] = [.sc (.bool b)] := rfl
  rw [e1, e2] at hf
  have hf2 := Desc.freeze (K := K) (n0 := n0) (tm := [.sc (.bool b)]) (h := [.cells [.sl 2 (lts L), .hs true 1 2 0 m], .dead, .cells (flatD (bls S))]) 2 (cs := flatD (bls S)) rfl (flatD_toDs _)
  have e3 : (([.cells [.sl 2 (lts L), .hs true 1 2 0 m], .dead, .cells (flatD (bls S))] : List Ho).map (frO 2 (bls S).flatten)).set 2 .dead = [.cells [.sl 2 (lts L), .sl 1 (bls S)], .dead, .dead] := by
    simp only [List.map_cons, List.map_nil, frO, frL, e6, flatD_fr]
    rfl
  have e4 : frL 2 (bls S).flatten [V.sc (.bool b)] = [.sc (.bool b)] := rfl
  rw [e3, e4] at hf2
  have hr := Desc.re (K := K) (n0 := n0) (tm := [.sc (.bool b)]) (h := [.cells [.sl 2 (lts L), .sl 1 (bls S)], .dead, .dead]) [some 0] h0
  exact (hf.trans hf2).trans hr
theorem rturn_s21 (r : Rnt) (i a : Int) (m : UInt32) (hl : r.L.length ≤ 64) (hs : r.S.length = r.L.length) (hxb : ∀ x ∈ r.L, x.b.length ≤ 1000000000) (ha1 : -9223372036854775808 ≤ a) (ha2 : a ≤ 9223372036854775807) : Sp Try.prog K 28 [.ptr 0 0, .sc (.int .i64 i), .sc (.int .i64 a), .sc (.int .u32 (U m))] [r.ob] fun u hh => u = .sc (.bool (rturn r i a m).1) ∧ hh = [(rturn r i a m).2.ob] := by
  unfold rturn
  by_cases h : i < 0 ∨ r.L.length = 0
  · rw [if_pos h]; exact rturn_n r i a m h
  · rw [if_neg h]
    have hpl : rplace r.L.length i = ((i.toNat % r.L.length : Nat) : Int) := by unfold rplace; rw [if_neg h]
    have hlt : i.toNat % r.L.length < r.L.length := Nat.mod_lt _ (by omega)
    generalize i.toNat % r.L.length = j at hpl hlt ⊢
    have hg := getD_some hlt ⟨0, []⟩
    have hb := getD_some (l := r.S) (j := j) (by omega) false
    generalize r.L.getD j ⟨0, []⟩ = x at hg ⊢
    generalize r.S.getD j false = b at hb ⊢
    cases b
    · rw [if_neg (by simp)]
      refine (rturn_h r i a m j x hl hs hpl hg hb (hxb x (List.mem_of_getElem? hg)) ha1 ha2).descR fun v hh ⟨e1, e2⟩ => ?_
      subst e1; subst e2
      exact ⟨_, _, Desc.frz3 (by simp) (by simp) rfl, rfl, rfl⟩
    · rw [if_pos rfl]; exact rturn_f r i a m j hpl hb
end Go.Proofs.Ytonllhjmoenckaa
