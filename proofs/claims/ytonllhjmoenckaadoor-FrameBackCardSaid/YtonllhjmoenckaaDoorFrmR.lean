/- Walks: the document's frames; records held against records. -/
import Derived.Test.YtonllhjmoenckaaDoorFrmP
namespace Go.Proofs.YtonllhjmoenckaaDoor
open Go Go.RowKit
set_option linter.unusedVariables false
set_option linter.unusedSimpArgs false
variable {K : Nat → Obj → Prop}

/-! Wrap -/
set_option maxRecDepth 100000 in
theorem rwrap_s (p : List UInt8) (hl : p.length ≤ 100000000) (h : List Ho) : Sp Tryd.prog K 12 [.sl 1 (bs p)] h fun u hh => u = byV (wrapF p) ∧ hh = h := by
  refine Sp.pure_ (R := fun u hh => Wk [u] [byV (wrapF p)]) ?_ (fun _ => rfl) (fun _ => rfl) (fun v h e => e) h
  have z0 : (0 : Int) ≤ (p.length : Int) := by omega
  have z1 : (p.length : Int) < 18446744073709551616 := by omega
  have hv := vput_len (n := p.length) (by omega)
  have q0 : IntKind.u64.wrap (p.length : Int) = (p.length : Int) := wr_u64 (by omega) (by omega)
  have hs : (vput p.length ++ p).length ≤ 1000000000 := by simp; omega
  unfold wrapF
  by_cases h8 : 8192 < p.length
  · have q1 : ((8192 : Int) < (p.length : Int)) = True := eq_true (by omega)
    rw [if_pos h8]
    refine Sp.of_bodyD Tryd.func12 rfl ?_
    intro Q hQ
    simp only [List.replicate, List.length_cons, List.length_nil, Tryd.ntmps12, Nat.reduceAdd, Nat.reduceSub, List.cons_append, List.nil_append, go_sem]
    have hz : True := trivial
    have hy := yieldedV_eq
    repeat' (first
        | (refine WPV.seqK ?_; intro N hN)
        | refine WPV.block ?_
        | refine WPV.scope ?_
        | refine WPV.skip ?_
        | refine WPV.label ?_
        | refine WPV.exit ?_
        | refine WPV.ret ?_
        | (refine WPV.regionG (M := noM) ?_; intro N hN ops hy; (try simp only [List.append] at hy ⊢); (try simp only [List.map_cons, List.map_nil] at hy))
        | (refine WPV.drawK (M := noM) (by kernel_rfl) (by kernel_rfl) ?_; intro N hN; have hy := yieldedV_eq)
        | (refine WPV.condK ?_; intro A hA B hB)
        | ((with_reducible first | refine opsV.here ?_ | refine guardO.here ?_ | refine resO.here ?_ | refine drawV.here ?_ | refine guardD.here ?_ | refine stepO.here ?_ | refine brO.here ?_ | refine condV.here ?_); simp (config := {contextual := true, maxSteps := 1000000}) only [hy, hz, go_sem, reduceCtorEq, Nat.reduceAdd, Nat.reduceSub, Nat.reduceMul, Nat.reduceLT, Nat.reduceLeDiff, Int.reduceLT, Int.reduceLE, Int.reduceEq, Int.reduceNe, Int.reduceAdd, Int.reduceSub, Int.reduceMul, Int.reduceToNat, Int.reduceNeg, Int.reducePow, Nat.reducePow, Nat.reduceEqDiff, Nat.reduceBEq, Int.reduceBEq, Int.reduceBNe, Int.reduceNegSucc, q0, q1, bs_nil])
        | (refine And.intro (by kernel_rfl : okOrd _ _ = true) ?_)
        | refine Both.mk ?_ ?_
        | ((with_reducible refine CallO.gd 22 ?_); refine CallO.frA [] Tryd.call22 (vrputO_s z0 z1) ?_)
        | ((with_reducible refine CallO.gd 38 ?_); refine CallO.toA Tryd.call38 (rseal_s (vput p.length ++ p) hs _) ?_)
        | ((with_reducible refine CallP.gd 38 ?_); refine CallP.toA Tryd.call38 (rseal_s (vput p.length ++ p) hs _) ?_)
        | (first | refine hN _ ?_ | (clear hN N; refine hN _ ?_) | (iterate 2 clear hN N); refine hN _ ?_ | (iterate 3 clear hN N); refine hN _ ?_ | (iterate 4 clear hN N); refine hN _ ?_ | (iterate 5 clear hN N); refine hN _ ?_); try clear hN N; try clear hy ops
        | (refine hA ?_; clear hA A hB B; try simp only [hz])
        | (refine hB ?_; clear hA A hB B; try simp only [hz])
        | ((first | refine guardO.mk (fun hz => ?_) (fun hz => ?_) | refine guardD.mk (fun hz => ?_) (fun hz => ?_) | refine Br.mk (fun hz => ?_) (fun hz => ?_)) <;> (have h := hz; try simp only [decide_eq_true_eq, decide_eq_false_iff_not, Int.not_lt, Int.not_le, beq_iff_eq, beq_eq_false_iff_ne, bne_iff_ne, bne_eq_false_iff_eq, ne_eq, Bool.not_eq_true', Bool.not_eq_false', Decidable.not_not] at h) <;> (try (exfalso; omega)) <;> (try simp only [Bool.not_eq_true', Bool.not_eq_false', beq_true, beq_false] at hz))
        | ((first | rw [if_pos (show _ ∧ _ from ⟨by omega, by omega⟩)] | rw [if_pos (show _ ∧ _ from by simp only [List.length_append, List.length_cons, List.length_nil]; exact ⟨by omega, by omega⟩)]); simp (config := {contextual := true, maxSteps := 1000000}) only [hy, hz, go_sem, reduceCtorEq, Nat.reduceAdd, Nat.reduceSub, Nat.reduceMul, Nat.reduceLT, Nat.reduceLeDiff, Int.reduceLT, Int.reduceLE, Int.reduceEq, Int.reduceNe, Int.reduceAdd, Int.reduceSub, Int.reduceMul, Int.reduceToNat, Int.reduceNeg, Int.reducePow, Nat.reducePow, Nat.reduceEqDiff, Nat.reduceBEq, Int.reduceBEq, Int.reduceBNe, Int.reduceNegSucc, q0, q1, bs_nil])
        | (simp only [thenV, blockV, if_true, if_false, Nat.reduceEqDiff, reduceCtorEq, imp_self]))
    all_goals (apply And.right; refine hQ _ _ _ Desc.refl ?_ (Wk.tupC (Wk.null Wk.refl) Wk.nil))
    · (first | (simp only [go_sem, reduceCtorEq, Nat.reduceAdd, Nat.reduceSub, Nat.reduceMul, Nat.reduceLT, Nat.reduceLeDiff, Int.reduceLT, Int.reduceLE, Int.reduceEq, Int.reduceNe, Int.reduceAdd, Int.reduceSub, Int.reduceMul, Int.reduceToNat, Int.reduceNeg, Int.reducePow, Nat.reducePow, Nat.reduceEqDiff, Nat.reduceBEq, Int.reduceBEq, Int.reduceBNe, Int.reduceNegSucc, Tryd.results12]; done) | (simp only [go_sem, reduceCtorEq, Nat.reduceAdd, Nat.reduceSub, Nat.reduceMul, Nat.reduceLT, Nat.reduceLeDiff, Int.reduceLT, Int.reduceLE, Int.reduceEq, Int.reduceNe, Int.reduceAdd, Int.reduceSub, Int.reduceMul, Int.reduceToNat, Int.reduceNeg, Int.reducePow, Nat.reducePow, Nat.reduceEqDiff, Nat.reduceBEq, Int.reduceBEq, Int.reduceBNe, Int.reduceNegSucc, Tryd.results12]; rfl) | rfl)
  · have q1 : ((8192 : Int) < (p.length : Int)) = False := eq_false (by omega)
    rw [if_neg h8]
    refine Sp.of_bodyD Tryd.func12 rfl ?_
    intro Q hQ
    simp only [List.replicate, List.length_cons, List.length_nil, Tryd.ntmps12, Nat.reduceAdd, Nat.reduceSub, List.cons_append, List.nil_append, go_sem]
    have hz : True := trivial
    have hy := yieldedV_eq
    repeat' (first
        | (refine WPV.seqK ?_; intro N hN)
        | refine WPV.block ?_
        | refine WPV.scope ?_
        | refine WPV.skip ?_
        | refine WPV.label ?_
        | refine WPV.exit ?_
        | refine WPV.ret ?_
        | (refine WPV.regionG (M := noM) ?_; intro N hN ops hy; (try simp only [List.append] at hy ⊢); (try simp only [List.map_cons, List.map_nil] at hy))
        | (refine WPV.drawK (M := noM) (by kernel_rfl) (by kernel_rfl) ?_; intro N hN; have hy := yieldedV_eq)
        | (refine WPV.condK ?_; intro A hA B hB)
        | ((with_reducible first | refine opsV.here ?_ | refine guardO.here ?_ | refine resO.here ?_ | refine drawV.here ?_ | refine guardD.here ?_ | refine stepO.here ?_ | refine brO.here ?_ | refine condV.here ?_); simp (config := {contextual := true, maxSteps := 1000000}) only [hy, hz, go_sem, reduceCtorEq, Nat.reduceAdd, Nat.reduceSub, Nat.reduceMul, Nat.reduceLT, Nat.reduceLeDiff, Int.reduceLT, Int.reduceLE, Int.reduceEq, Int.reduceNe, Int.reduceAdd, Int.reduceSub, Int.reduceMul, Int.reduceToNat, Int.reduceNeg, Int.reducePow, Nat.reducePow, Nat.reduceEqDiff, Nat.reduceBEq, Int.reduceBEq, Int.reduceBNe, Int.reduceNegSucc, q0, q1, bs_nil])
        | (refine And.intro (by kernel_rfl : okOrd _ _ = true) ?_)
        | refine Both.mk ?_ ?_
        | ((with_reducible refine CallO.gd 22 ?_); refine CallO.frA [] Tryd.call22 (vrputO_s z0 z1) ?_)
        | ((with_reducible refine CallO.gd 38 ?_); refine CallO.toA Tryd.call38 (rseal_s (vput p.length ++ p) hs _) ?_)
        | ((with_reducible refine CallP.gd 38 ?_); refine CallP.toA Tryd.call38 (rseal_s (vput p.length ++ p) hs _) ?_)
        | (first | refine hN _ ?_ | (clear hN N; refine hN _ ?_) | (iterate 2 clear hN N); refine hN _ ?_ | (iterate 3 clear hN N); refine hN _ ?_ | (iterate 4 clear hN N); refine hN _ ?_ | (iterate 5 clear hN N); refine hN _ ?_); try clear hN N; try clear hy ops
        | (refine hA ?_; clear hA A hB B; try simp only [hz])
        | (refine hB ?_; clear hA A hB B; try simp only [hz])
        | ((first | refine guardO.mk (fun hz => ?_) (fun hz => ?_) | refine guardD.mk (fun hz => ?_) (fun hz => ?_) | refine Br.mk (fun hz => ?_) (fun hz => ?_)) <;> (have h := hz; try simp only [decide_eq_true_eq, decide_eq_false_iff_not, Int.not_lt, Int.not_le, beq_iff_eq, beq_eq_false_iff_ne, bne_iff_ne, bne_eq_false_iff_eq, ne_eq, Bool.not_eq_true', Bool.not_eq_false', Decidable.not_not] at h) <;> (try (exfalso; omega)) <;> (try simp only [Bool.not_eq_true', Bool.not_eq_false', beq_true, beq_false] at hz))
        | ((first | rw [if_pos (show _ ∧ _ from ⟨by omega, by omega⟩)] | rw [if_pos (show _ ∧ _ from by simp only [List.length_append, List.length_cons, List.length_nil]; exact ⟨by omega, by omega⟩)]); simp (config := {contextual := true, maxSteps := 1000000}) only [hy, hz, go_sem, reduceCtorEq, Nat.reduceAdd, Nat.reduceSub, Nat.reduceMul, Nat.reduceLT, Nat.reduceLeDiff, Int.reduceLT, Int.reduceLE, Int.reduceEq, Int.reduceNe, Int.reduceAdd, Int.reduceSub, Int.reduceMul, Int.reduceToNat, Int.reduceNeg, Int.reducePow, Nat.reducePow, Nat.reduceEqDiff, Nat.reduceBEq, Int.reduceBEq, Int.reduceBNe, Int.reduceNegSucc, q0, q1, bs_nil])
        | (simp only [thenV, blockV, if_true, if_false, Nat.reduceEqDiff, reduceCtorEq, imp_self]))
    all_goals (apply And.right; refine hQ _ _ _ Desc.refl ?_ (Wk.refl))
    · (first | (simp only [go_sem, reduceCtorEq, Nat.reduceAdd, Nat.reduceSub, Nat.reduceMul, Nat.reduceLT, Nat.reduceLeDiff, Int.reduceLT, Int.reduceLE, Int.reduceEq, Int.reduceNe, Int.reduceAdd, Int.reduceSub, Int.reduceMul, Int.reduceToNat, Int.reduceNeg, Int.reducePow, Nat.reducePow, Nat.reduceEqDiff, Nat.reduceBEq, Int.reduceBEq, Int.reduceBNe, Int.reduceNegSucc, Tryd.results12]; done) | (simp only [go_sem, reduceCtorEq, Nat.reduceAdd, Nat.reduceSub, Nat.reduceMul, Nat.reduceLT, Nat.reduceLeDiff, Int.reduceLT, Int.reduceLE, Int.reduceEq, Int.reduceNe, Int.reduceAdd, Int.reduceSub, Int.reduceMul, Int.reduceToNat, Int.reduceNeg, Int.reducePow, Nat.reducePow, Nat.reduceEqDiff, Nat.reduceBEq, Int.reduceBEq, Int.reduceBNe, Int.reduceNegSucc, Tryd.results12]; rfl) | rfl)
theorem rwrap_e {p f : List UInt8} {e : Int} (hl : p.length ≤ 100000000) (h : wrapF p = (f, e)) : Sp Tryd.prog K 12 [.sl 1 (bs p)] [] fun u hh => u = .tup [.sl 1 (bs f), .sc (.int .i64 e)] ∧ hh = [] := by
  have := rwrap_s (K := K) p hl []
  rwa [h] at this

/-! Next -/
def rnextF (b : List UInt8) : List UInt8 × Nat × Int :=
  if (tk b).2.2 ≠ 0 then ([], 0, (tk b).2.2) else if 8192 < (tk b).1.toNat then ([], 0, 4)
  else if b.length < (tk b).2.1 + (tk b).1.toNat + 4 then ([], 0, 2)
  else if (wrapF ((b.take ((tk b).2.1 + (tk b).1.toNat)).drop (tk b).2.1)).1 = b.take ((tk b).2.1 + (tk b).1.toNat + 4) then ((b.take ((tk b).2.1 + (tk b).1.toNat)).drop (tk b).2.1, (tk b).2.1 + (tk b).1.toNat + 4, 0) else ([], 0, 5)
theorem rnextF_eq (b : List UInt8) : rnextF b = nextF b := by
  unfold rnextF nextF
  split
  · rfl
  rename_i h1
  have ht := tk_ok (Decidable.not_not.1 h1)
  split
  · rfl
  rename_i h2
  split
  · rfl
  rename_i h3
  generalize (tk b).2.1 = u at *
  generalize (tk b).1.toNat = n at *
  obtain ⟨t1, t2, t3⟩ := ht
  have hrl : ((b.take (u + n)).drop u).length = n := by simp; omega
  have hsp : vput n ++ (b.take (u + n)).drop u = b.take (u + n) := by
    rw [t3]
    have := List.take_append_drop u (b.take (u + n))
    rw [List.take_take, Nat.min_eq_left (by omega)] at this
    exact this
  have hw : wrapF ((b.take (u + n)).drop u) = (sealF (b.take (u + n)), 0) := by
    unfold wrapF
    rw [hrl, if_neg (by omega), hsp]
  have hbl : (b.take (u + n + 4)).length = u + n + 4 := by simp; omega
  have htk : (b.take (u + n + 4)).take (u + n + 4 - 4) = b.take (u + n) := by rw [List.take_take]; congr 1; omega
  have ho : openF (b.take (u + n + 4)) = if sealF (b.take (u + n)) = b.take (u + n + 4) then (b.take (u + n), 0) else ([], 5) := by
    unfold openF
    rw [hbl, if_neg (by omega), htk]
  rw [hw, ho]
  dsimp only
  split
  · simp
  · simp
set_option maxRecDepth 100000 in
set_option maxHeartbeats 1000000 in
theorem rnext_s (b : List UInt8) (hl8 : b.length ≤ 100000000) (h : List Ho) : Sp Tryd.prog K 14 [.sl 1 (bs b)] h fun u hh => u = nxV (nextF b) ∧ hh = h := by
  refine Sp.pure_ (R := fun u hh => Wk [u] [nxV (nextF b)]) ?_ (fun _ => rfl) (fun _ => rfl) (fun v h e => e) h
  rw [← rnextF_eq]
  have hl : b.length ≤ 1000000000 := by omega
  obtain ⟨n, u, e, ht⟩ : ∃ n u e, tk b = (n, u, e) := ⟨_, _, _, rfl⟩
  have q1 : True := trivial
  have q2 : True := trivial
  have q3 : True := trivial
  have q4 : True := trivial
  have q5 : True := trivial
  have q6 : True := trivial
  have q7 : True := trivial
  have q8 : True := trivial
  have q9 : True := trivial
  have ho : Sp Tryd.prog K 12 [.sl 1 (bs [])] [] fun u hh => u = byV (wrapF []) ∧ hh = [] := rwrap_s [] (by simp) []
  have m : Nat := 0
  have f : List UInt8 := []
  have hr : True := trivial
  unfold rnextF
  rw [ht]
  dsimp only
  by_cases he : e ≠ 0
  · have q0 : (e != 0) = true := by simpa using he
    rw [if_pos he]
    refine Sp.of_bodyD Tryd.func14 rfl ?_
    intro Q hQ
    simp only [List.replicate, List.length_cons, List.length_nil, Tryd.ntmps14, Nat.reduceAdd, Nat.reduceSub, List.cons_append, List.nil_append, go_sem]
    have hz : True := trivial
    have hy := yieldedV_eq
    repeat' (first
        | (refine WPV.seqK ?_; intro N hN)
        | refine WPV.block ?_
        | refine WPV.scope ?_
        | refine WPV.skip ?_
        | refine WPV.label ?_
        | refine WPV.exit ?_
        | refine WPV.ret ?_
        | (refine WPV.regionG (M := noM) ?_; intro N hN ops hy; (try simp only [List.append] at hy ⊢); (try simp only [List.map_cons, List.map_nil] at hy))
        | (refine WPV.drawK (M := noM) (by kernel_rfl) (by kernel_rfl) ?_; intro N hN; have hy := yieldedV_eq)
        | (refine WPV.condK ?_; intro A hA B hB)
        | ((with_reducible first | refine opsV.here ?_ | refine guardO.here ?_ | refine resO.here ?_ | refine drawV.here ?_ | refine guardD.here ?_ | refine stepO.here ?_ | refine brO.here ?_ | refine condV.here ?_); simp (config := {contextual := true, maxSteps := 1000000}) only [hy, hz, go_sem, reduceCtorEq, Nat.reduceAdd, Nat.reduceSub, Nat.reduceMul, Nat.reduceLT, Nat.reduceLeDiff, Int.reduceLT, Int.reduceLE, Int.reduceEq, Int.reduceNe, Int.reduceAdd, Int.reduceSub, Int.reduceMul, Int.reduceToNat, Int.reduceNeg, Int.reducePow, Nat.reducePow, Nat.reduceEqDiff, Nat.reduceBEq, Int.reduceBEq, Int.reduceBNe, Int.reduceNegSucc, q0, q1, q2, q3, q4, q5, q6, q7, q8, q9, hr])
        | (refine And.intro (by kernel_rfl : okOrd _ _ = true) ?_)
        | refine Both.mk ?_ ?_
        | ((with_reducible refine CallO.gd 42 ?_); refine CallO.toA Tryd.call42 (vrtake_s ht hl _) ?_)
        | ((with_reducible refine CallO.gd 12 ?_); refine CallO.toA Tryd.call12 (ho) ?_)
        | ((with_reducible refine CallO.gd 19 ?_); refine CallO.toA Tryd.call19 (vsame_s f (b.take m) _) ?_)
        | ((with_reducible refine CallP.gd 42 ?_); refine CallP.toA Tryd.call42 (vrtake_s ht hl _) ?_)
        | ((with_reducible refine CallP.gd 12 ?_); refine CallP.toA Tryd.call12 (ho) ?_)
        | ((with_reducible refine CallP.gd 19 ?_); refine CallP.toA Tryd.call19 (vsame_s f (b.take m) _) ?_)
        | (first | refine hN _ ?_ | (clear hN N; refine hN _ ?_) | (iterate 2 clear hN N); refine hN _ ?_ | (iterate 3 clear hN N); refine hN _ ?_ | (iterate 4 clear hN N); refine hN _ ?_ | (iterate 5 clear hN N); refine hN _ ?_); try clear hN N; try clear hy ops
        | (refine hA ?_; clear hA A hB B; try simp only [hz])
        | (refine hB ?_; clear hA A hB B; try simp only [hz])
        | ((first | refine guardO.mk (fun hz => ?_) (fun hz => ?_) | refine guardD.mk (fun hz => ?_) (fun hz => ?_) | refine Br.mk (fun hz => ?_) (fun hz => ?_)) <;> (have h := hz; try simp only [decide_eq_true_eq, decide_eq_false_iff_not, Int.not_lt, Int.not_le, beq_iff_eq, beq_eq_false_iff_ne, bne_iff_ne, bne_eq_false_iff_eq, ne_eq, Bool.not_eq_true', Bool.not_eq_false', Decidable.not_not] at h) <;> (try (exfalso; omega)) <;> (try simp only [Bool.not_eq_true', Bool.not_eq_false', beq_true, beq_false] at hz))
        | ((first | rw [if_pos (show _ ∧ _ from ⟨by omega, by omega⟩)] | rw [if_pos (show _ ∧ _ from by simp only [List.length_append, List.length_cons, List.length_nil]; exact ⟨by omega, by omega⟩)]); simp (config := {contextual := true, maxSteps := 1000000}) only [hy, hz, go_sem, reduceCtorEq, Nat.reduceAdd, Nat.reduceSub, Nat.reduceMul, Nat.reduceLT, Nat.reduceLeDiff, Int.reduceLT, Int.reduceLE, Int.reduceEq, Int.reduceNe, Int.reduceAdd, Int.reduceSub, Int.reduceMul, Int.reduceToNat, Int.reduceNeg, Int.reducePow, Nat.reducePow, Nat.reduceEqDiff, Nat.reduceBEq, Int.reduceBEq, Int.reduceBNe, Int.reduceNegSucc, q0, q1, q2, q3, q4, q5, q6, q7, q8, q9, hr])
        | (simp only [thenV, blockV, if_true, if_false, Nat.reduceEqDiff, reduceCtorEq, imp_self]))
    all_goals (apply And.right; refine hQ _ _ _ Desc.refl ?_ (nx0_wk _))
    · (first | (simp only [go_sem, reduceCtorEq, Nat.reduceAdd, Nat.reduceSub, Nat.reduceMul, Nat.reduceLT, Nat.reduceLeDiff, Int.reduceLT, Int.reduceLE, Int.reduceEq, Int.reduceNe, Int.reduceAdd, Int.reduceSub, Int.reduceMul, Int.reduceToNat, Int.reduceNeg, Int.reducePow, Nat.reducePow, Nat.reduceEqDiff, Nat.reduceBEq, Int.reduceBEq, Int.reduceBNe, Int.reduceNegSucc, Tryd.results14]; done) | (simp only [go_sem, reduceCtorEq, Nat.reduceAdd, Nat.reduceSub, Nat.reduceMul, Nat.reduceLT, Nat.reduceLeDiff, Int.reduceLT, Int.reduceLE, Int.reduceEq, Int.reduceNe, Int.reduceAdd, Int.reduceSub, Int.reduceMul, Int.reduceToNat, Int.reduceNeg, Int.reducePow, Nat.reducePow, Nat.reduceEqDiff, Nat.reduceBEq, Int.reduceBEq, Int.reduceBNe, Int.reduceNegSucc, Tryd.results14]; rfl) | rfl)
  rw [if_neg he]
  have he0 : e = 0 := Decidable.not_not.1 he
  subst he0
  have hok := tk_ok (l := b) (by rw [ht])
  rw [ht] at hok
  dsimp only at hok
  have q0 : ((0 : Int) != 0) = false := rfl
  by_cases hn : 8192 < n.toNat
  · have q1 : ((8192 : Int) < (n.toNat : Int)) = True := eq_true (by omega)
    rw [if_pos hn]
    refine Sp.of_bodyD Tryd.func14 rfl ?_
    intro Q hQ
    simp only [List.replicate, List.length_cons, List.length_nil, Tryd.ntmps14, Nat.reduceAdd, Nat.reduceSub, List.cons_append, List.nil_append, go_sem]
    have hz : True := trivial
    have hy := yieldedV_eq
    repeat' (first
        | (refine WPV.seqK ?_; intro N hN)
        | refine WPV.block ?_
        | refine WPV.scope ?_
        | refine WPV.skip ?_
        | refine WPV.label ?_
        | refine WPV.exit ?_
        | refine WPV.ret ?_
        | (refine WPV.regionG (M := noM) ?_; intro N hN ops hy; (try simp only [List.append] at hy ⊢); (try simp only [List.map_cons, List.map_nil] at hy))
        | (refine WPV.drawK (M := noM) (by kernel_rfl) (by kernel_rfl) ?_; intro N hN; have hy := yieldedV_eq)
        | (refine WPV.condK ?_; intro A hA B hB)
        | ((with_reducible first | refine opsV.here ?_ | refine guardO.here ?_ | refine resO.here ?_ | refine drawV.here ?_ | refine guardD.here ?_ | refine stepO.here ?_ | refine brO.here ?_ | refine condV.here ?_); simp (config := {contextual := true, maxSteps := 1000000}) only [hy, hz, go_sem, reduceCtorEq, Nat.reduceAdd, Nat.reduceSub, Nat.reduceMul, Nat.reduceLT, Nat.reduceLeDiff, Int.reduceLT, Int.reduceLE, Int.reduceEq, Int.reduceNe, Int.reduceAdd, Int.reduceSub, Int.reduceMul, Int.reduceToNat, Int.reduceNeg, Int.reducePow, Nat.reducePow, Nat.reduceEqDiff, Nat.reduceBEq, Int.reduceBEq, Int.reduceBNe, Int.reduceNegSucc, q0, q1, q2, q3, q4, q5, q6, q7, q8, q9, hr])
        | (refine And.intro (by kernel_rfl : okOrd _ _ = true) ?_)
        | refine Both.mk ?_ ?_
        | ((with_reducible refine CallO.gd 42 ?_); refine CallO.toA Tryd.call42 (vrtake_s ht hl _) ?_)
        | ((with_reducible refine CallO.gd 12 ?_); refine CallO.toA Tryd.call12 (ho) ?_)
        | ((with_reducible refine CallO.gd 19 ?_); refine CallO.toA Tryd.call19 (vsame_s f (b.take m) _) ?_)
        | ((with_reducible refine CallP.gd 42 ?_); refine CallP.toA Tryd.call42 (vrtake_s ht hl _) ?_)
        | ((with_reducible refine CallP.gd 12 ?_); refine CallP.toA Tryd.call12 (ho) ?_)
        | ((with_reducible refine CallP.gd 19 ?_); refine CallP.toA Tryd.call19 (vsame_s f (b.take m) _) ?_)
        | (first | refine hN _ ?_ | (clear hN N; refine hN _ ?_) | (iterate 2 clear hN N); refine hN _ ?_ | (iterate 3 clear hN N); refine hN _ ?_ | (iterate 4 clear hN N); refine hN _ ?_ | (iterate 5 clear hN N); refine hN _ ?_); try clear hN N; try clear hy ops
        | (refine hA ?_; clear hA A hB B; try simp only [hz])
        | (refine hB ?_; clear hA A hB B; try simp only [hz])
        | ((first | refine guardO.mk (fun hz => ?_) (fun hz => ?_) | refine guardD.mk (fun hz => ?_) (fun hz => ?_) | refine Br.mk (fun hz => ?_) (fun hz => ?_)) <;> (have h := hz; try simp only [decide_eq_true_eq, decide_eq_false_iff_not, Int.not_lt, Int.not_le, beq_iff_eq, beq_eq_false_iff_ne, bne_iff_ne, bne_eq_false_iff_eq, ne_eq, Bool.not_eq_true', Bool.not_eq_false', Decidable.not_not] at h) <;> (try (exfalso; omega)) <;> (try simp only [Bool.not_eq_true', Bool.not_eq_false', beq_true, beq_false] at hz))
        | ((first | rw [if_pos (show _ ∧ _ from ⟨by omega, by omega⟩)] | rw [if_pos (show _ ∧ _ from by simp only [List.length_append, List.length_cons, List.length_nil]; exact ⟨by omega, by omega⟩)]); simp (config := {contextual := true, maxSteps := 1000000}) only [hy, hz, go_sem, reduceCtorEq, Nat.reduceAdd, Nat.reduceSub, Nat.reduceMul, Nat.reduceLT, Nat.reduceLeDiff, Int.reduceLT, Int.reduceLE, Int.reduceEq, Int.reduceNe, Int.reduceAdd, Int.reduceSub, Int.reduceMul, Int.reduceToNat, Int.reduceNeg, Int.reducePow, Nat.reducePow, Nat.reduceEqDiff, Nat.reduceBEq, Int.reduceBEq, Int.reduceBNe, Int.reduceNegSucc, q0, q1, q2, q3, q4, q5, q6, q7, q8, q9, hr])
        | (simp only [thenV, blockV, if_true, if_false, Nat.reduceEqDiff, reduceCtorEq, imp_self]))
    all_goals (apply And.right; refine hQ _ _ _ Desc.refl ?_ (nx0_wk _))
    · (first | (simp only [go_sem, reduceCtorEq, Nat.reduceAdd, Nat.reduceSub, Nat.reduceMul, Nat.reduceLT, Nat.reduceLeDiff, Int.reduceLT, Int.reduceLE, Int.reduceEq, Int.reduceNe, Int.reduceAdd, Int.reduceSub, Int.reduceMul, Int.reduceToNat, Int.reduceNeg, Int.reducePow, Nat.reducePow, Nat.reduceEqDiff, Nat.reduceBEq, Int.reduceBEq, Int.reduceBNe, Int.reduceNegSucc, Tryd.results14]; done) | (simp only [go_sem, reduceCtorEq, Nat.reduceAdd, Nat.reduceSub, Nat.reduceMul, Nat.reduceLT, Nat.reduceLeDiff, Int.reduceLT, Int.reduceLE, Int.reduceEq, Int.reduceNe, Int.reduceAdd, Int.reduceSub, Int.reduceMul, Int.reduceToNat, Int.reduceNeg, Int.reducePow, Nat.reducePow, Nat.reduceEqDiff, Nat.reduceBEq, Int.reduceBEq, Int.reduceBNe, Int.reduceNegSucc, Tryd.results14]; rfl) | rfl)
  rw [if_neg hn]
  have q1 : ((8192 : Int) < (n.toNat : Int)) = False := eq_false (by omega)
  have q2 : IntKind.i64.wrap (n.toNat : Int) = (n.toNat : Int) := wr_i64 (by omega) (by omega)
  have q3 : IntKind.i64.wrap ((u : Int) + (n.toNat : Int)) = ((u + n.toNat : Nat) : Int) := by rw [wr_i64 (by omega) (by omega)]; rfl
  have q4 : IntKind.i64.wrap (((u + n.toNat : Nat) : Int) + 4) = ((u + n.toNat + 4 : Nat) : Int) := by rw [wr_i64 (by omega) (by omega)]; rfl
  clear m
  generalize hm : u + n.toNat + 4 = m at q4 ⊢
  by_cases hb : b.length < m
  · have q5 : ((b.length : Int) < (m : Int)) = True := eq_true (by omega)
    rw [if_pos hb]
    refine Sp.of_bodyD Tryd.func14 rfl ?_
    intro Q hQ
    simp only [List.replicate, List.length_cons, List.length_nil, Tryd.ntmps14, Nat.reduceAdd, Nat.reduceSub, List.cons_append, List.nil_append, go_sem]
    have hz : True := trivial
    have hy := yieldedV_eq
    repeat' (first
        | (refine WPV.seqK ?_; intro N hN)
        | refine WPV.block ?_
        | refine WPV.scope ?_
        | refine WPV.skip ?_
        | refine WPV.label ?_
        | refine WPV.exit ?_
        | refine WPV.ret ?_
        | (refine WPV.regionG (M := noM) ?_; intro N hN ops hy; (try simp only [List.append] at hy ⊢); (try simp only [List.map_cons, List.map_nil] at hy))
        | (refine WPV.drawK (M := noM) (by kernel_rfl) (by kernel_rfl) ?_; intro N hN; have hy := yieldedV_eq)
        | (refine WPV.condK ?_; intro A hA B hB)
        | ((with_reducible first | refine opsV.here ?_ | refine guardO.here ?_ | refine resO.here ?_ | refine drawV.here ?_ | refine guardD.here ?_ | refine stepO.here ?_ | refine brO.here ?_ | refine condV.here ?_); simp (config := {contextual := true, maxSteps := 1000000}) only [hy, hz, go_sem, reduceCtorEq, Nat.reduceAdd, Nat.reduceSub, Nat.reduceMul, Nat.reduceLT, Nat.reduceLeDiff, Int.reduceLT, Int.reduceLE, Int.reduceEq, Int.reduceNe, Int.reduceAdd, Int.reduceSub, Int.reduceMul, Int.reduceToNat, Int.reduceNeg, Int.reducePow, Nat.reducePow, Nat.reduceEqDiff, Nat.reduceBEq, Int.reduceBEq, Int.reduceBNe, Int.reduceNegSucc, q0, q1, q2, q3, q4, q5, q6, q7, q8, q9, hr])
        | (refine And.intro (by kernel_rfl : okOrd _ _ = true) ?_)
        | refine Both.mk ?_ ?_
        | ((with_reducible refine CallO.gd 42 ?_); refine CallO.toA Tryd.call42 (vrtake_s ht hl _) ?_)
        | ((with_reducible refine CallO.gd 12 ?_); refine CallO.toA Tryd.call12 (ho) ?_)
        | ((with_reducible refine CallO.gd 19 ?_); refine CallO.toA Tryd.call19 (vsame_s f (b.take m) _) ?_)
        | ((with_reducible refine CallP.gd 42 ?_); refine CallP.toA Tryd.call42 (vrtake_s ht hl _) ?_)
        | ((with_reducible refine CallP.gd 12 ?_); refine CallP.toA Tryd.call12 (ho) ?_)
        | ((with_reducible refine CallP.gd 19 ?_); refine CallP.toA Tryd.call19 (vsame_s f (b.take m) _) ?_)
        | (first | refine hN _ ?_ | (clear hN N; refine hN _ ?_) | (iterate 2 clear hN N); refine hN _ ?_ | (iterate 3 clear hN N); refine hN _ ?_ | (iterate 4 clear hN N); refine hN _ ?_ | (iterate 5 clear hN N); refine hN _ ?_); try clear hN N; try clear hy ops
        | (refine hA ?_; clear hA A hB B; try simp only [hz])
        | (refine hB ?_; clear hA A hB B; try simp only [hz])
        | ((first | refine guardO.mk (fun hz => ?_) (fun hz => ?_) | refine guardD.mk (fun hz => ?_) (fun hz => ?_) | refine Br.mk (fun hz => ?_) (fun hz => ?_)) <;> (have h := hz; try simp only [decide_eq_true_eq, decide_eq_false_iff_not, Int.not_lt, Int.not_le, beq_iff_eq, beq_eq_false_iff_ne, bne_iff_ne, bne_eq_false_iff_eq, ne_eq, Bool.not_eq_true', Bool.not_eq_false', Decidable.not_not] at h) <;> (try (exfalso; omega)) <;> (try simp only [Bool.not_eq_true', Bool.not_eq_false', beq_true, beq_false] at hz))
        | ((first | rw [if_pos (show _ ∧ _ from ⟨by omega, by omega⟩)] | rw [if_pos (show _ ∧ _ from by simp only [List.length_append, List.length_cons, List.length_nil]; exact ⟨by omega, by omega⟩)]); simp (config := {contextual := true, maxSteps := 1000000}) only [hy, hz, go_sem, reduceCtorEq, Nat.reduceAdd, Nat.reduceSub, Nat.reduceMul, Nat.reduceLT, Nat.reduceLeDiff, Int.reduceLT, Int.reduceLE, Int.reduceEq, Int.reduceNe, Int.reduceAdd, Int.reduceSub, Int.reduceMul, Int.reduceToNat, Int.reduceNeg, Int.reducePow, Nat.reducePow, Nat.reduceEqDiff, Nat.reduceBEq, Int.reduceBEq, Int.reduceBNe, Int.reduceNegSucc, q0, q1, q2, q3, q4, q5, q6, q7, q8, q9, hr])
        | (simp only [thenV, blockV, if_true, if_false, Nat.reduceEqDiff, reduceCtorEq, imp_self]))
    all_goals (apply And.right; refine hQ _ _ _ Desc.refl ?_ (nx0_wk _))
    · (first | (simp only [go_sem, reduceCtorEq, Nat.reduceAdd, Nat.reduceSub, Nat.reduceMul, Nat.reduceLT, Nat.reduceLeDiff, Int.reduceLT, Int.reduceLE, Int.reduceEq, Int.reduceNe, Int.reduceAdd, Int.reduceSub, Int.reduceMul, Int.reduceToNat, Int.reduceNeg, Int.reducePow, Nat.reducePow, Nat.reduceEqDiff, Nat.reduceBEq, Int.reduceBEq, Int.reduceBNe, Int.reduceNegSucc, Tryd.results14]; done) | (simp only [go_sem, reduceCtorEq, Nat.reduceAdd, Nat.reduceSub, Nat.reduceMul, Nat.reduceLT, Nat.reduceLeDiff, Int.reduceLT, Int.reduceLE, Int.reduceEq, Int.reduceNe, Int.reduceAdd, Int.reduceSub, Int.reduceMul, Int.reduceToNat, Int.reduceNeg, Int.reducePow, Nat.reducePow, Nat.reduceEqDiff, Nat.reduceBEq, Int.reduceBEq, Int.reduceBNe, Int.reduceNegSucc, Tryd.results14]; rfl) | rfl)
  rw [if_neg hb]
  have q5 : ((b.length : Int) < (m : Int)) = False := eq_false (by omega)
  have q6 : ((m : Int) ≤ (b.length : Int)) = True := eq_true (by omega)
  have q7 : ((u : Int) ≤ ((u + n.toNat : Nat) : Int)) = True := eq_true (by omega)
  have q8 : (((u + n.toNat : Nat) : Int) ≤ (b.length : Int)) = True := eq_true (by omega)
  have hrl : ((b.take (u + n.toNat)).drop u).length = n.toNat := by simp; omega
  generalize hr : (b.take (u + n.toNat)).drop u = r at hrl ⊢
  have hwr : wrapF r = ((wrapF r).1, 0) := by unfold wrapF; rw [if_neg (by omega)]
  clear f
  generalize hf : (wrapF r).1 = f at hwr ⊢
  clear ho
  have ho := rwrap_e (K := K) (by omega) hwr
  have hbl : r.length ≤ 70368744177664 := by omega
  by_cases hs : f = b.take m
  · have q9 : decide (f = b.take m) = true := by simpa using hs
    rw [if_pos hs]
    refine Sp.of_bodyD Tryd.func14 rfl ?_
    intro Q hQ
    simp only [List.replicate, List.length_cons, List.length_nil, Tryd.ntmps14, Nat.reduceAdd, Nat.reduceSub, List.cons_append, List.nil_append, go_sem]
    have hz : True := trivial
    have hy := yieldedV_eq
    repeat' (first
        | (refine WPV.seqK ?_; intro N hN)
        | refine WPV.block ?_
        | refine WPV.scope ?_
        | refine WPV.skip ?_
        | refine WPV.label ?_
        | refine WPV.exit ?_
        | refine WPV.ret ?_
        | (refine WPV.regionG (M := noM) ?_; intro N hN ops hy; (try simp only [List.append] at hy ⊢); (try simp only [List.map_cons, List.map_nil] at hy))
        | (refine WPV.drawK (M := noM) (by kernel_rfl) (by kernel_rfl) ?_; intro N hN; have hy := yieldedV_eq)
        | (refine WPV.condK ?_; intro A hA B hB)
        | ((with_reducible first | refine opsV.here ?_ | refine guardO.here ?_ | refine resO.here ?_ | refine drawV.here ?_ | refine guardD.here ?_ | refine stepO.here ?_ | refine brO.here ?_ | refine condV.here ?_); simp (config := {contextual := true, maxSteps := 1000000}) only [hy, hz, go_sem, reduceCtorEq, Nat.reduceAdd, Nat.reduceSub, Nat.reduceMul, Nat.reduceLT, Nat.reduceLeDiff, Int.reduceLT, Int.reduceLE, Int.reduceEq, Int.reduceNe, Int.reduceAdd, Int.reduceSub, Int.reduceMul, Int.reduceToNat, Int.reduceNeg, Int.reducePow, Nat.reducePow, Nat.reduceEqDiff, Nat.reduceBEq, Int.reduceBEq, Int.reduceBNe, Int.reduceNegSucc, q0, q1, q2, q3, q4, q5, q6, q7, q8, q9, hr])
        | (refine And.intro (by kernel_rfl : okOrd _ _ = true) ?_)
        | refine Both.mk ?_ ?_
        | ((with_reducible refine CallO.gd 42 ?_); refine CallO.toA Tryd.call42 (vrtake_s ht hl _) ?_)
        | ((with_reducible refine CallO.gd 12 ?_); refine CallO.toA Tryd.call12 (ho) ?_)
        | ((with_reducible refine CallO.gd 19 ?_); refine CallO.toA Tryd.call19 (vsame_s f (b.take m) _) ?_)
        | ((with_reducible refine CallP.gd 42 ?_); refine CallP.toA Tryd.call42 (vrtake_s ht hl _) ?_)
        | ((with_reducible refine CallP.gd 12 ?_); refine CallP.toA Tryd.call12 (ho) ?_)
        | ((with_reducible refine CallP.gd 19 ?_); refine CallP.toA Tryd.call19 (vsame_s f (b.take m) _) ?_)
        | (first | refine hN _ ?_ | (clear hN N; refine hN _ ?_) | (iterate 2 clear hN N); refine hN _ ?_ | (iterate 3 clear hN N); refine hN _ ?_ | (iterate 4 clear hN N); refine hN _ ?_ | (iterate 5 clear hN N); refine hN _ ?_); try clear hN N; try clear hy ops
        | (refine hA ?_; clear hA A hB B; try simp only [hz])
        | (refine hB ?_; clear hA A hB B; try simp only [hz])
        | ((first | refine guardO.mk (fun hz => ?_) (fun hz => ?_) | refine guardD.mk (fun hz => ?_) (fun hz => ?_) | refine Br.mk (fun hz => ?_) (fun hz => ?_)) <;> (have h := hz; try simp only [decide_eq_true_eq, decide_eq_false_iff_not, Int.not_lt, Int.not_le, beq_iff_eq, beq_eq_false_iff_ne, bne_iff_ne, bne_eq_false_iff_eq, ne_eq, Bool.not_eq_true', Bool.not_eq_false', Decidable.not_not] at h) <;> (try (exfalso; omega)) <;> (try simp only [Bool.not_eq_true', Bool.not_eq_false', beq_true, beq_false] at hz))
        | ((first | rw [if_pos (show _ ∧ _ from ⟨by omega, by omega⟩)] | rw [if_pos (show _ ∧ _ from by simp only [List.length_append, List.length_cons, List.length_nil]; exact ⟨by omega, by omega⟩)]); simp (config := {contextual := true, maxSteps := 1000000}) only [hy, hz, go_sem, reduceCtorEq, Nat.reduceAdd, Nat.reduceSub, Nat.reduceMul, Nat.reduceLT, Nat.reduceLeDiff, Int.reduceLT, Int.reduceLE, Int.reduceEq, Int.reduceNe, Int.reduceAdd, Int.reduceSub, Int.reduceMul, Int.reduceToNat, Int.reduceNeg, Int.reducePow, Nat.reducePow, Nat.reduceEqDiff, Nat.reduceBEq, Int.reduceBEq, Int.reduceBNe, Int.reduceNegSucc, q0, q1, q2, q3, q4, q5, q6, q7, q8, q9, hr])
        | (simp only [thenV, blockV, if_true, if_false, Nat.reduceEqDiff, reduceCtorEq, imp_self]))
    all_goals (apply And.right; refine hQ _ _ _ Desc.refl ?_ (Wk.tupC (Wk.own (k := 1) (t := 0) Wk.refl) Wk.nil))
    · (first | (simp only [go_sem, reduceCtorEq, Nat.reduceAdd, Nat.reduceSub, Nat.reduceMul, Nat.reduceLT, Nat.reduceLeDiff, Int.reduceLT, Int.reduceLE, Int.reduceEq, Int.reduceNe, Int.reduceAdd, Int.reduceSub, Int.reduceMul, Int.reduceToNat, Int.reduceNeg, Int.reducePow, Nat.reducePow, Nat.reduceEqDiff, Nat.reduceBEq, Int.reduceBEq, Int.reduceBNe, Int.reduceNegSucc, Tryd.results14]; done) | (simp only [go_sem, reduceCtorEq, Nat.reduceAdd, Nat.reduceSub, Nat.reduceMul, Nat.reduceLT, Nat.reduceLeDiff, Int.reduceLT, Int.reduceLE, Int.reduceEq, Int.reduceNe, Int.reduceAdd, Int.reduceSub, Int.reduceMul, Int.reduceToNat, Int.reduceNeg, Int.reducePow, Nat.reducePow, Nat.reduceEqDiff, Nat.reduceBEq, Int.reduceBEq, Int.reduceBNe, Int.reduceNegSucc, Tryd.results14]; rfl) | rfl)
  · have q9 : decide (f = b.take m) = false := by simpa using hs
    rw [if_neg hs]
    refine Sp.of_bodyD Tryd.func14 rfl ?_
    intro Q hQ
    simp only [List.replicate, List.length_cons, List.length_nil, Tryd.ntmps14, Nat.reduceAdd, Nat.reduceSub, List.cons_append, List.nil_append, go_sem]
    have hz : True := trivial
    have hy := yieldedV_eq
    repeat' (first
        | (refine WPV.seqK ?_; intro N hN)
        | refine WPV.block ?_
        | refine WPV.scope ?_
        | refine WPV.skip ?_
        | refine WPV.label ?_
        | refine WPV.exit ?_
        | refine WPV.ret ?_
        | (refine WPV.regionG (M := noM) ?_; intro N hN ops hy; (try simp only [List.append] at hy ⊢); (try simp only [List.map_cons, List.map_nil] at hy))
        | (refine WPV.drawK (M := noM) (by kernel_rfl) (by kernel_rfl) ?_; intro N hN; have hy := yieldedV_eq)
        | (refine WPV.condK ?_; intro A hA B hB)
        | ((with_reducible first | refine opsV.here ?_ | refine guardO.here ?_ | refine resO.here ?_ | refine drawV.here ?_ | refine guardD.here ?_ | refine stepO.here ?_ | refine brO.here ?_ | refine condV.here ?_); simp (config := {contextual := true, maxSteps := 1000000}) only [hy, hz, go_sem, reduceCtorEq, Nat.reduceAdd, Nat.reduceSub, Nat.reduceMul, Nat.reduceLT, Nat.reduceLeDiff, Int.reduceLT, Int.reduceLE, Int.reduceEq, Int.reduceNe, Int.reduceAdd, Int.reduceSub, Int.reduceMul, Int.reduceToNat, Int.reduceNeg, Int.reducePow, Nat.reducePow, Nat.reduceEqDiff, Nat.reduceBEq, Int.reduceBEq, Int.reduceBNe, Int.reduceNegSucc, q0, q1, q2, q3, q4, q5, q6, q7, q8, q9, hr])
        | (refine And.intro (by kernel_rfl : okOrd _ _ = true) ?_)
        | refine Both.mk ?_ ?_
        | ((with_reducible refine CallO.gd 42 ?_); refine CallO.toA Tryd.call42 (vrtake_s ht hl _) ?_)
        | ((with_reducible refine CallO.gd 12 ?_); refine CallO.toA Tryd.call12 (ho) ?_)
        | ((with_reducible refine CallO.gd 19 ?_); refine CallO.toA Tryd.call19 (vsame_s f (b.take m) _) ?_)
        | ((with_reducible refine CallP.gd 42 ?_); refine CallP.toA Tryd.call42 (vrtake_s ht hl _) ?_)
        | ((with_reducible refine CallP.gd 12 ?_); refine CallP.toA Tryd.call12 (ho) ?_)
        | ((with_reducible refine CallP.gd 19 ?_); refine CallP.toA Tryd.call19 (vsame_s f (b.take m) _) ?_)
        | (first | refine hN _ ?_ | (clear hN N; refine hN _ ?_) | (iterate 2 clear hN N); refine hN _ ?_ | (iterate 3 clear hN N); refine hN _ ?_ | (iterate 4 clear hN N); refine hN _ ?_ | (iterate 5 clear hN N); refine hN _ ?_); try clear hN N; try clear hy ops
        | (refine hA ?_; clear hA A hB B; try simp only [hz])
        | (refine hB ?_; clear hA A hB B; try simp only [hz])
        | ((first | refine guardO.mk (fun hz => ?_) (fun hz => ?_) | refine guardD.mk (fun hz => ?_) (fun hz => ?_) | refine Br.mk (fun hz => ?_) (fun hz => ?_)) <;> (have h := hz; try simp only [decide_eq_true_eq, decide_eq_false_iff_not, Int.not_lt, Int.not_le, beq_iff_eq, beq_eq_false_iff_ne, bne_iff_ne, bne_eq_false_iff_eq, ne_eq, Bool.not_eq_true', Bool.not_eq_false', Decidable.not_not] at h) <;> (try (exfalso; omega)) <;> (try simp only [Bool.not_eq_true', Bool.not_eq_false', beq_true, beq_false] at hz))
        | ((first | rw [if_pos (show _ ∧ _ from ⟨by omega, by omega⟩)] | rw [if_pos (show _ ∧ _ from by simp only [List.length_append, List.length_cons, List.length_nil]; exact ⟨by omega, by omega⟩)]); simp (config := {contextual := true, maxSteps := 1000000}) only [hy, hz, go_sem, reduceCtorEq, Nat.reduceAdd, Nat.reduceSub, Nat.reduceMul, Nat.reduceLT, Nat.reduceLeDiff, Int.reduceLT, Int.reduceLE, Int.reduceEq, Int.reduceNe, Int.reduceAdd, Int.reduceSub, Int.reduceMul, Int.reduceToNat, Int.reduceNeg, Int.reducePow, Nat.reducePow, Nat.reduceEqDiff, Nat.reduceBEq, Int.reduceBEq, Int.reduceBNe, Int.reduceNegSucc, q0, q1, q2, q3, q4, q5, q6, q7, q8, q9, hr])
        | (simp only [thenV, blockV, if_true, if_false, Nat.reduceEqDiff, reduceCtorEq, imp_self]))
    all_goals (apply And.right; refine hQ _ _ _ Desc.refl ?_ (nx0_wk _))
    · (first | (simp only [go_sem, reduceCtorEq, Nat.reduceAdd, Nat.reduceSub, Nat.reduceMul, Nat.reduceLT, Nat.reduceLeDiff, Int.reduceLT, Int.reduceLE, Int.reduceEq, Int.reduceNe, Int.reduceAdd, Int.reduceSub, Int.reduceMul, Int.reduceToNat, Int.reduceNeg, Int.reducePow, Nat.reducePow, Nat.reduceEqDiff, Nat.reduceBEq, Int.reduceBEq, Int.reduceBNe, Int.reduceNegSucc, Tryd.results14]; done) | (simp only [go_sem, reduceCtorEq, Nat.reduceAdd, Nat.reduceSub, Nat.reduceMul, Nat.reduceLT, Nat.reduceLeDiff, Int.reduceLT, Int.reduceLE, Int.reduceEq, Int.reduceNe, Int.reduceAdd, Int.reduceSub, Int.reduceMul, Int.reduceToNat, Int.reduceNeg, Int.reducePow, Nat.reducePow, Nat.reduceEqDiff, Nat.reduceBEq, Int.reduceBEq, Int.reduceBNe, Int.reduceNegSucc, Tryd.results14]; rfl) | rfl)

/-! Scan -/
theorem rnext_e {b p : List UInt8} {n : Nat} {e : Int} (hl : b.length ≤ 100000000) (h : nextF b = (p, n, e)) : Sp Tryd.prog K 14 [.sl 1 (bs b)] [] fun u hh => u = .tup [.sl 1 (bs p), .sc (.int .i64 (n : Int)), .sc (.int .i64 e)] ∧ hh = [] := by
  have := rnext_s (K := K) b hl []
  rwa [h] at this
set_option maxRecDepth 100000 in
set_option maxHeartbeats 1000000 in
theorem rscan_s (b : List UInt8) (hl : b.length ≤ 100000000) (h : List Ho) : Sp Tryd.prog K 16 [.sl 1 (bs b)] h fun u hh => u = scV (scanF b) ∧ hh = h := by
  refine Sp.pure_ (R := fun u hh => u = scV (scanF b) ∧ hh = []) ?_ (fun _ => rfl) (fun _ => rfl) (fun v h ⟨e, _⟩ => by rw [e]; exact Wk.refl) h
  have q0 : True := trivial
  have q1 : True := trivial
  have q2 : True := trivial
  have q3 : True := trivial
  refine Sp.of_bodyD Tryd.func16 rfl ?_
  intro Q hQ
  simp only [List.replicate, List.length_cons, List.length_nil, Tryd.ntmps16, Nat.reduceAdd, Nat.reduceSub, List.cons_append, List.nil_append, go_sem]
  have hz : True := trivial
  have hy := yieldedV_eq
  repeat' (first
      | (refine WPV.seqK ?_; intro N hN)
      | refine WPV.block ?_
      | refine WPV.scope ?_
      | refine WPV.skip ?_
      | refine WPV.label ?_
      | refine WPV.exit ?_
      | refine WPV.ret ?_
      | (refine WPV.regionG (M := noM) ?_; intro N hN ops hy; (try simp only [List.append] at hy ⊢); (try simp only [List.map_cons, List.map_nil] at hy))
      | (refine WPV.drawK (M := noM) (by kernel_rfl) (by kernel_rfl) ?_; intro N hN; have hy := yieldedV_eq)
      | (refine WPV.condK ?_; intro A hA B hB)
      | ((with_reducible first | refine opsV.here ?_ | refine guardO.here ?_ | refine resO.here ?_ | refine drawV.here ?_ | refine guardD.here ?_ | refine stepO.here ?_ | refine brO.here ?_ | refine condV.here ?_); simp (config := {contextual := true, maxSteps := 1000000}) only [hy, hz, go_sem, reduceCtorEq, Nat.reduceAdd, Nat.reduceSub, Nat.reduceMul, Nat.reduceLT, Nat.reduceLeDiff, Int.reduceLT, Int.reduceLE, Int.reduceEq, Int.reduceNe, Int.reduceAdd, Int.reduceSub, Int.reduceMul, Int.reduceToNat, Int.reduceNeg, Int.reducePow, Nat.reducePow, Nat.reduceEqDiff, Nat.reduceBEq, Int.reduceBEq, Int.reduceBNe, Int.reduceNegSucc, q0, q1, q2, q3])
      | (refine And.intro (by kernel_rfl : okOrd _ _ = true) ?_)
      | refine Both.mk ?_ ?_
      | (first | refine hN _ ?_ | (clear hN N; refine hN _ ?_) | (iterate 2 clear hN N); refine hN _ ?_ | (iterate 3 clear hN N); refine hN _ ?_ | (iterate 4 clear hN N); refine hN _ ?_ | (iterate 5 clear hN N); refine hN _ ?_); try clear hN N; try clear hy ops
      | (refine hA ?_; clear hA A hB B; try simp only [hz])
      | (refine hB ?_; clear hA A hB B; try simp only [hz])
      | ((first | refine guardO.mk (fun hz => ?_) (fun hz => ?_) | refine guardD.mk (fun hz => ?_) (fun hz => ?_) | refine Br.mk (fun hz => ?_) (fun hz => ?_)) <;> (have h := hz; try simp only [decide_eq_true_eq, decide_eq_false_iff_not, Int.not_lt, Int.not_le, beq_iff_eq, beq_eq_false_iff_ne, bne_iff_ne, bne_eq_false_iff_eq, ne_eq, Bool.not_eq_true', Bool.not_eq_false', Decidable.not_not] at h) <;> (try (exfalso; omega)) <;> (try simp only [Bool.not_eq_true', Bool.not_eq_false', beq_true, beq_false] at hz))
      | ((first | rw [if_pos (show _ ∧ _ from ⟨by omega, by omega⟩)] | rw [if_pos (show _ ∧ _ from by simp only [List.length_append, List.length_cons, List.length_nil]; exact ⟨by omega, by omega⟩)]); simp (config := {contextual := true, maxSteps := 1000000}) only [hy, hz, go_sem, reduceCtorEq, Nat.reduceAdd, Nat.reduceSub, Nat.reduceMul, Nat.reduceLT, Nat.reduceLeDiff, Int.reduceLT, Int.reduceLE, Int.reduceEq, Int.reduceNe, Int.reduceAdd, Int.reduceSub, Int.reduceMul, Int.reduceToNat, Int.reduceNeg, Int.reducePow, Nat.reducePow, Nat.reduceEqDiff, Nat.reduceBEq, Int.reduceBEq, Int.reduceBNe, Int.reduceNegSucc, q0, q1, q2, q3])
      | (simp only [thenV, blockV, if_true, if_false, Nat.reduceEqDiff, reduceCtorEq, imp_self]))
  refine WPV.desc ((Desc.own0 (es := []) 5 1 rfl (.inl rfl)).trans (Desc.weakA (tm' := [.sl 1 (bs b), .any, .any, .any, .any, .own 1 (rs []) 0, .sc (.int .i64 ((0 : Nat) : Int)), .any, .any, .any, .any, .any, .any, .any, .any, .any, .any, .any, .any, .any, .any, .any, .any, .any, .any, .any, .any, .any, .any, .any, .any, .any, .any, .any, .any, .any, .any]) (h' := [.tail]))) ?_
  refine WPV.loopA (α := List (List UInt8) × Nat) (fun s => b.length - s.2) (fun s => ⟨[.sl 1 (bs b), .any, .any, .any, .any, .own 1 (rs s.1) 0, .sc (.int .i64 (s.2 : Int)), .any, .any, .any, .any, .any, .any, .any, .any, .any, .any, .any, .any, .any, .any, .any, .any, .any, .any, .any, .any, .any, .any, .any, .any, .any, .any, .any, .any, .any, .any], [.tail]⟩) (fun s => ScJ b s.1 s.2) (fun s hJ H => ?_) ([], 0) ⟨Nat.zero_le _, Nat.le_refl _, b.length + 1, by omega, rfl⟩
  obtain ⟨out, used⟩ := s
  obtain ⟨h1, h2, k, h3, h4⟩ := hJ
  dsimp only at h1 h2 h3 h4 H ⊢
  obtain ⟨k, rfl⟩ : ∃ j, k = j + 1 := ⟨k - 1, by omega⟩
  unfold scanN at h4
  by_cases hu : used = b.length
  · rw [if_pos hu] at h4
    rw [h4] at hQ
    have q0 : ((used : Int) < (b.length : Int)) = False := eq_false (by omega)
    clear H
    refine loopV ?_
    have hz : True := trivial
    have hy := yieldedV_eq
    repeat' (first
        | (refine WPV.seqK ?_; intro N hN)
        | refine WPV.block ?_
        | refine WPV.scope ?_
        | refine WPV.skip ?_
        | refine WPV.label ?_
        | refine WPV.exit ?_
        | refine WPV.ret ?_
        | (refine WPV.regionG (M := noM) ?_; intro N hN ops hy; (try simp only [List.append] at hy ⊢); (try simp only [List.map_cons, List.map_nil] at hy))
        | (refine WPV.drawK (M := noM) (by kernel_rfl) (by kernel_rfl) ?_; intro N hN; have hy := yieldedV_eq)
        | (refine WPV.condK ?_; intro A hA B hB)
        | ((with_reducible first | refine opsV.here ?_ | refine guardO.here ?_ | refine resO.here ?_ | refine drawV.here ?_ | refine guardD.here ?_ | refine stepO.here ?_ | refine brO.here ?_ | refine condV.here ?_); simp (config := {contextual := true, maxSteps := 1000000}) only [hy, hz, go_sem, reduceCtorEq, Nat.reduceAdd, Nat.reduceSub, Nat.reduceMul, Nat.reduceLT, Nat.reduceLeDiff, Int.reduceLT, Int.reduceLE, Int.reduceEq, Int.reduceNe, Int.reduceAdd, Int.reduceSub, Int.reduceMul, Int.reduceToNat, Int.reduceNeg, Int.reducePow, Nat.reducePow, Nat.reduceEqDiff, Nat.reduceBEq, Int.reduceBEq, Int.reduceBNe, Int.reduceNegSucc, q0, q1, q2, q3])
        | (refine And.intro (by kernel_rfl : okOrd _ _ = true) ?_)
        | refine Both.mk ?_ ?_
        | (first | refine hN _ ?_ | (clear hN N; refine hN _ ?_) | (iterate 2 clear hN N); refine hN _ ?_ | (iterate 3 clear hN N); refine hN _ ?_ | (iterate 4 clear hN N); refine hN _ ?_ | (iterate 5 clear hN N); refine hN _ ?_); try clear hN N; try clear hy ops
        | (refine hA ?_; clear hA A hB B; try simp only [hz])
        | (refine hB ?_; clear hA A hB B; try simp only [hz])
        | ((first | refine guardO.mk (fun hz => ?_) (fun hz => ?_) | refine guardD.mk (fun hz => ?_) (fun hz => ?_) | refine Br.mk (fun hz => ?_) (fun hz => ?_)) <;> (have h := hz; try simp only [decide_eq_true_eq, decide_eq_false_iff_not, Int.not_lt, Int.not_le, beq_iff_eq, beq_eq_false_iff_ne, bne_iff_ne, bne_eq_false_iff_eq, ne_eq, Bool.not_eq_true', Bool.not_eq_false', Decidable.not_not] at h) <;> (try (exfalso; omega)) <;> (try simp only [Bool.not_eq_true', Bool.not_eq_false', beq_true, beq_false] at hz))
        | ((first | rw [if_pos (show _ ∧ _ from ⟨by omega, by omega⟩)] | rw [if_pos (show _ ∧ _ from by simp only [List.length_append, List.length_cons, List.length_nil]; exact ⟨by omega, by omega⟩)]); simp (config := {contextual := true, maxSteps := 1000000}) only [hy, hz, go_sem, reduceCtorEq, Nat.reduceAdd, Nat.reduceSub, Nat.reduceMul, Nat.reduceLT, Nat.reduceLeDiff, Int.reduceLT, Int.reduceLE, Int.reduceEq, Int.reduceNe, Int.reduceAdd, Int.reduceSub, Int.reduceMul, Int.reduceToNat, Int.reduceNeg, Int.reducePow, Nat.reducePow, Nat.reduceEqDiff, Nat.reduceBEq, Int.reduceBEq, Int.reduceBNe, Int.reduceNegSucc, q0, q1, q2, q3])
        | (simp only [thenV, blockV, if_true, if_false, Nat.reduceEqDiff, reduceCtorEq, imp_self]))
    all_goals (first | exact retA hQ Tryd.results16 (Desc.re [] rfl) | exact retN hQ Tryd.results16 (Desc.re [] rfl))
  rw [if_neg hu] at h4
  have q0 : ((used : Int) < (b.length : Int)) = True := eq_true (by omega)
  have q1 : ((used : Int) ≤ (b.length : Int)) = True := eq_true (by omega)
  obtain ⟨p, n, e, hx⟩ : ∃ p n e, nextF (b.drop used) = (p, n, e) := ⟨_, _, _, rfl⟩
  have hnl := nextF_len (b.drop used)
  rw [hx] at h4 hnl
  dsimp only at h4 hnl
  rw [List.length_drop] at hnl
  have hn := (rnext_e (K := K) (by simp; omega) hx).lift (fun _ => rfl) (fun _ => rfl)
  by_cases he : e ≠ 0
  · rw [if_pos he] at h4
    rw [h4] at hQ
    have q2 : (e != 0) = true := by simpa using he
    clear H
    refine loopV ?_
    have hz : True := trivial
    have hy := yieldedV_eq
    repeat' (first
        | (refine WPV.seqK ?_; intro N hN)
        | refine WPV.block ?_
        | refine WPV.scope ?_
        | refine WPV.skip ?_
        | refine WPV.label ?_
        | refine WPV.exit ?_
        | refine WPV.ret ?_
        | (refine WPV.regionG (M := noM) ?_; intro N hN ops hy; (try simp only [List.append] at hy ⊢); (try simp only [List.map_cons, List.map_nil] at hy))
        | (refine WPV.drawK (M := noM) (by kernel_rfl) (by kernel_rfl) ?_; intro N hN; have hy := yieldedV_eq)
        | (refine WPV.condK ?_; intro A hA B hB)
        | ((with_reducible first | refine opsV.here ?_ | refine guardO.here ?_ | refine resO.here ?_ | refine drawV.here ?_ | refine guardD.here ?_ | refine stepO.here ?_ | refine brO.here ?_ | refine condV.here ?_); simp (config := {contextual := true, maxSteps := 1000000}) only [hy, hz, go_sem, reduceCtorEq, Nat.reduceAdd, Nat.reduceSub, Nat.reduceMul, Nat.reduceLT, Nat.reduceLeDiff, Int.reduceLT, Int.reduceLE, Int.reduceEq, Int.reduceNe, Int.reduceAdd, Int.reduceSub, Int.reduceMul, Int.reduceToNat, Int.reduceNeg, Int.reducePow, Nat.reducePow, Nat.reduceEqDiff, Nat.reduceBEq, Int.reduceBEq, Int.reduceBNe, Int.reduceNegSucc, q0, q1, q2, q3])
        | (refine And.intro (by kernel_rfl : okOrd _ _ = true) ?_)
        | refine Both.mk ?_ ?_
        | ((with_reducible refine CallO.gd 14 ?_); refine CallO.toA Tryd.call14 (hn _) ?_)
        | ((with_reducible refine CallP.gd 14 ?_); refine CallP.toA Tryd.call14 (hn _) ?_)
        | (first | refine hN _ ?_ | (clear hN N; refine hN _ ?_) | (iterate 2 clear hN N); refine hN _ ?_ | (iterate 3 clear hN N); refine hN _ ?_ | (iterate 4 clear hN N); refine hN _ ?_ | (iterate 5 clear hN N); refine hN _ ?_); try clear hN N; try clear hy ops
        | (refine hA ?_; clear hA A hB B; try simp only [hz])
        | (refine hB ?_; clear hA A hB B; try simp only [hz])
        | ((first | refine guardO.mk (fun hz => ?_) (fun hz => ?_) | refine guardD.mk (fun hz => ?_) (fun hz => ?_) | refine Br.mk (fun hz => ?_) (fun hz => ?_)) <;> (have h := hz; try simp only [decide_eq_true_eq, decide_eq_false_iff_not, Int.not_lt, Int.not_le, beq_iff_eq, beq_eq_false_iff_ne, bne_iff_ne, bne_eq_false_iff_eq, ne_eq, Bool.not_eq_true', Bool.not_eq_false', Decidable.not_not] at h) <;> (try (exfalso; omega)) <;> (try simp only [Bool.not_eq_true', Bool.not_eq_false', beq_true, beq_false] at hz))
        | ((first | rw [if_pos (show _ ∧ _ from ⟨by omega, by omega⟩)] | rw [if_pos (show _ ∧ _ from by simp only [List.length_append, List.length_cons, List.length_nil]; exact ⟨by omega, by omega⟩)]); simp (config := {contextual := true, maxSteps := 1000000}) only [hy, hz, go_sem, reduceCtorEq, Nat.reduceAdd, Nat.reduceSub, Nat.reduceMul, Nat.reduceLT, Nat.reduceLeDiff, Int.reduceLT, Int.reduceLE, Int.reduceEq, Int.reduceNe, Int.reduceAdd, Int.reduceSub, Int.reduceMul, Int.reduceToNat, Int.reduceNeg, Int.reducePow, Nat.reducePow, Nat.reduceEqDiff, Nat.reduceBEq, Int.reduceBEq, Int.reduceBNe, Int.reduceNegSucc, q0, q1, q2, q3])
        | (simp only [thenV, blockV, if_true, if_false, Nat.reduceEqDiff, reduceCtorEq, imp_self]))
    all_goals (first | exact retA hQ Tryd.results16 (Desc.re [] rfl) | exact retN hQ Tryd.results16 (Desc.re [] rfl))
  rw [if_neg he] at h4
  have he0 : e = 0 := Decidable.not_not.1 he
  subst he0
  have q2 : ((0 : Int) != 0) = false := rfl
  have q3 : IntKind.i64.wrap ((used : Int) + (n : Int)) = ((used + n : Nat) : Int) := by rw [wr_i64 (by omega) (by omega)]; rfl
  have hn5 := hnl.2 rfl
  have H' := H (out ++ [p], used + n) ⟨by dsimp only; omega, by simp; omega, k, by dsimp only; omega, h4⟩ (by dsimp only; omega)
  clear H
  dsimp only at H'
  refine loopV ?_
  have hz : True := trivial
  have hy := yieldedV_eq
  repeat' (first
      | (refine WPV.seqK ?_; intro N hN)
      | refine WPV.block ?_
      | refine WPV.scope ?_
      | refine WPV.skip ?_
      | refine WPV.label ?_
      | refine WPV.exit ?_
      | refine WPV.ret ?_
      | (refine WPV.regionG (M := noM) ?_; intro N hN ops hy; (try simp only [List.append] at hy ⊢); (try simp only [List.map_cons, List.map_nil] at hy))
      | (refine WPV.drawK (M := noM) (by kernel_rfl) (by kernel_rfl) ?_; intro N hN; have hy := yieldedV_eq)
      | (refine WPV.condK ?_; intro A hA B hB)
      | ((with_reducible first | refine opsV.here ?_ | refine guardO.here ?_ | refine resO.here ?_ | refine drawV.here ?_ | refine guardD.here ?_ | refine stepO.here ?_ | refine brO.here ?_ | refine condV.here ?_); simp (config := {contextual := true, maxSteps := 1000000}) only [hy, hz, go_sem, reduceCtorEq, Nat.reduceAdd, Nat.reduceSub, Nat.reduceMul, Nat.reduceLT, Nat.reduceLeDiff, Int.reduceLT, Int.reduceLE, Int.reduceEq, Int.reduceNe, Int.reduceAdd, Int.reduceSub, Int.reduceMul, Int.reduceToNat, Int.reduceNeg, Int.reducePow, Nat.reducePow, Nat.reduceEqDiff, Nat.reduceBEq, Int.reduceBEq, Int.reduceBNe, Int.reduceNegSucc, q0, q1, q2, q3])
      | (refine And.intro (by kernel_rfl : okOrd _ _ = true) ?_)
      | refine Both.mk ?_ ?_
      | ((with_reducible refine CallO.gd 14 ?_); refine CallO.toA Tryd.call14 (hn _) ?_)
      | ((with_reducible refine CallP.gd 14 ?_); refine CallP.toA Tryd.call14 (hn _) ?_)
      | (first | refine hN _ ?_ | (clear hN N; refine hN _ ?_) | (iterate 2 clear hN N); refine hN _ ?_ | (iterate 3 clear hN N); refine hN _ ?_ | (iterate 4 clear hN N); refine hN _ ?_ | (iterate 5 clear hN N); refine hN _ ?_); try clear hN N; try clear hy ops
      | (refine hA ?_; clear hA A hB B; try simp only [hz])
      | (refine hB ?_; clear hA A hB B; try simp only [hz])
      | ((first | refine guardO.mk (fun hz => ?_) (fun hz => ?_) | refine guardD.mk (fun hz => ?_) (fun hz => ?_) | refine Br.mk (fun hz => ?_) (fun hz => ?_)) <;> (have h := hz; try simp only [decide_eq_true_eq, decide_eq_false_iff_not, Int.not_lt, Int.not_le, beq_iff_eq, beq_eq_false_iff_ne, bne_iff_ne, bne_eq_false_iff_eq, ne_eq, Bool.not_eq_true', Bool.not_eq_false', Decidable.not_not] at h) <;> (try (exfalso; omega)) <;> (try simp only [Bool.not_eq_true', Bool.not_eq_false', beq_true, beq_false] at hz))
      | ((first | rw [if_pos (show _ ∧ _ from ⟨by omega, by omega⟩)] | rw [if_pos (show _ ∧ _ from by simp only [List.length_append, List.length_cons, List.length_nil]; exact ⟨by omega, by omega⟩)]); simp (config := {contextual := true, maxSteps := 1000000}) only [hy, hz, go_sem, reduceCtorEq, Nat.reduceAdd, Nat.reduceSub, Nat.reduceMul, Nat.reduceLT, Nat.reduceLeDiff, Int.reduceLT, Int.reduceLE, Int.reduceEq, Int.reduceNe, Int.reduceAdd, Int.reduceSub, Int.reduceMul, Int.reduceToNat, Int.reduceNeg, Int.reducePow, Nat.reducePow, Nat.reduceEqDiff, Nat.reduceBEq, Int.reduceBEq, Int.reduceBNe, Int.reduceNegSucc, q0, q1, q2, q3])
      | (simp only [thenV, blockV, if_true, if_false, Nat.reduceEqDiff, reduceCtorEq, imp_self]))
  exact WPV.desc ((Desc.re [some 1] rfl).trans Desc.weakA) H'

/-! All -/
set_option maxRecDepth 100000 in
set_option maxHeartbeats 1000000 in
theorem rall_s (l : List (List UInt8)) (hl : l.length ≤ 1000000) (hp : ∀ p ∈ l, p.length ≤ 100000000) (h : List Ho) : Sp Tryd.prog K 18 [.sl 1 (rs l)] h fun u hh => u = byV (allF l) ∧ hh = h := by
  refine Sp.pure_ (R := fun u hh => Wk [u] [byV (allF l)]) ?_ (fun _ => rfl) (fun _ => rfl) (fun v h e => e) h
  have q0 : True := trivial
  have q1 : True := trivial
  have q2 : True := trivial
  have q3 : True := trivial
  refine Sp.of_bodyD Tryd.func18 rfl ?_
  intro Q hQ
  simp only [List.replicate, List.length_cons, List.length_nil, Tryd.ntmps18, Nat.reduceAdd, Nat.reduceSub, List.cons_append, List.nil_append, go_sem]
  have hz : True := trivial
  have hy := yieldedV_eq
  repeat' (first
      | (refine WPV.seqK ?_; intro N hN)
      | refine WPV.block ?_
      | refine WPV.scope ?_
      | refine WPV.skip ?_
      | refine WPV.label ?_
      | refine WPV.exit ?_
      | refine WPV.ret ?_
      | (refine WPV.regionG (M := noM) ?_; intro N hN ops hy; (try simp only [List.append] at hy ⊢); (try simp only [List.map_cons, List.map_nil] at hy))
      | (refine WPV.drawK (M := noM) (by kernel_rfl) (by kernel_rfl) ?_; intro N hN; have hy := yieldedV_eq)
      | (refine WPV.condK ?_; intro A hA B hB)
      | ((with_reducible first | refine opsV.here ?_ | refine guardO.here ?_ | refine resO.here ?_ | refine drawV.here ?_ | refine guardD.here ?_ | refine stepO.here ?_ | refine brO.here ?_ | refine condV.here ?_); simp (config := {contextual := true, maxSteps := 1000000}) only [hy, hz, go_sem, reduceCtorEq, Nat.reduceAdd, Nat.reduceSub, Nat.reduceMul, Nat.reduceLT, Nat.reduceLeDiff, Int.reduceLT, Int.reduceLE, Int.reduceEq, Int.reduceNe, Int.reduceAdd, Int.reduceSub, Int.reduceMul, Int.reduceToNat, Int.reduceNeg, Int.reducePow, Nat.reducePow, Nat.reduceEqDiff, Nat.reduceBEq, Int.reduceBEq, Int.reduceBNe, Int.reduceNegSucc, q0, q1, q2, q3])
      | (refine And.intro (by kernel_rfl : okOrd _ _ = true) ?_)
      | refine Both.mk ?_ ?_
      | (first | refine hN _ ?_ | (clear hN N; refine hN _ ?_) | (iterate 2 clear hN N); refine hN _ ?_ | (iterate 3 clear hN N); refine hN _ ?_ | (iterate 4 clear hN N); refine hN _ ?_ | (iterate 5 clear hN N); refine hN _ ?_); try clear hN N; try clear hy ops
      | (refine hA ?_; clear hA A hB B; try simp only [hz])
      | (refine hB ?_; clear hA A hB B; try simp only [hz])
      | ((first | refine guardO.mk (fun hz => ?_) (fun hz => ?_) | refine guardD.mk (fun hz => ?_) (fun hz => ?_) | refine Br.mk (fun hz => ?_) (fun hz => ?_)) <;> (have h := hz; try simp only [decide_eq_true_eq, decide_eq_false_iff_not, Int.not_lt, Int.not_le, beq_iff_eq, beq_eq_false_iff_ne, bne_iff_ne, bne_eq_false_iff_eq, ne_eq, Bool.not_eq_true', Bool.not_eq_false', Decidable.not_not] at h) <;> (try (exfalso; omega)) <;> (try simp only [Bool.not_eq_true', Bool.not_eq_false', beq_true, beq_false] at hz))
      | ((first | rw [if_pos (show _ ∧ _ from ⟨by omega, by omega⟩)] | rw [if_pos (show _ ∧ _ from by simp only [List.length_append, List.length_cons, List.length_nil]; exact ⟨by omega, by omega⟩)]); simp (config := {contextual := true, maxSteps := 1000000}) only [hy, hz, go_sem, reduceCtorEq, Nat.reduceAdd, Nat.reduceSub, Nat.reduceMul, Nat.reduceLT, Nat.reduceLeDiff, Int.reduceLT, Int.reduceLE, Int.reduceEq, Int.reduceNe, Int.reduceAdd, Int.reduceSub, Int.reduceMul, Int.reduceToNat, Int.reduceNeg, Int.reducePow, Nat.reducePow, Nat.reduceEqDiff, Nat.reduceBEq, Int.reduceBEq, Int.reduceBNe, Int.reduceNegSucc, q0, q1, q2, q3])
      | (simp only [thenV, blockV, if_true, if_false, Nat.reduceEqDiff, reduceCtorEq, imp_self]))
  refine WPV.desc ((Desc.own0 (es := []) 4 1 rfl (.inl rfl)).trans (Desc.weakA (tm' := [.sl 1 (rs l), .any, .any, .any, .own 1 (bs []) 0, .sc (.int .i64 ((0 : Nat) : Int)), .any, .any, .any, .any, .any, .any, .any, .any, .any, .any, .any, .any, .any, .any, .any, .any, .any, .any, .any, .any, .any, .any, .any, .any]) (h' := [.tail]))) ?_
  refine WPV.loopA (α := Nat × List UInt8) (fun s => l.length - s.1) (fun s => ⟨[.sl 1 (rs l), .any, .any, .any, .own 1 (bs s.2) 0, .sc (.int .i64 ((s.1 : Nat) : Int)), .any, .any, .any, .any, .any, .any, .any, .any, .any, .any, .any, .any, .any, .any, .any, .any, .any, .any, .any, .any, .any, .any, .any, .any], [.tail]⟩) (fun s => s.1 ≤ l.length ∧ s.2.length ≤ 9000 * s.1 ∧ allF l = allN (l.drop s.1) s.2) (fun s hJ H => ?_) (0, []) ⟨Nat.zero_le _, Nat.zero_le _, rfl⟩
  obtain ⟨k, b⟩ := s
  obtain ⟨hk0, hb, hJ⟩ := hJ
  dsimp only at hk0 hb hJ H ⊢
  by_cases h : k < l.length
  · have q0 : ((k : Int) < (l.length : Int)) = True := eq_true (by omega)
    have q1 : l[k]? = some l[k] := List.getElem?_eq_getElem h
    have hpl := hp l[k] (List.getElem_mem h)
    rw [List.drop_eq_getElem_cons h] at hJ
    generalize l[k] = p at q1 hpl hJ
    have q2 : IntKind.i64.wrap ((k : Int) + 1) = ((k + 1 : Nat) : Int) := by rw [wr_i64 (by omega) (by omega)]; rfl
    obtain ⟨f, e, hf⟩ : ∃ f e, wrapF p = (f, e) := ⟨_, _, rfl⟩
    have hfl := wrapF_len p
    have hw := (rwrap_e (K := K) hpl hf).lift (fun _ => rfl) (fun _ => rfl)
    unfold allN at hJ
    rw [hf] at hJ hfl
    dsimp only at hJ hfl
    by_cases he : e ≠ 0
    · have q3 : (e != 0) = true := by simpa using he
      rw [if_pos he] at hJ
      rw [hJ] at hQ
      clear H
      refine loopV ?_
      have hz : True := trivial
      have hy := yieldedV_eq
      repeat' (first
          | (refine WPV.seqK ?_; intro N hN)
          | refine WPV.block ?_
          | refine WPV.scope ?_
          | refine WPV.skip ?_
          | refine WPV.label ?_
          | refine WPV.exit ?_
          | refine WPV.ret ?_
          | (refine WPV.regionG (M := noM) ?_; intro N hN ops hy; (try simp only [List.append] at hy ⊢); (try simp only [List.map_cons, List.map_nil] at hy))
          | (refine WPV.drawK (M := noM) (by kernel_rfl) (by kernel_rfl) ?_; intro N hN; have hy := yieldedV_eq)
          | (refine WPV.condK ?_; intro A hA B hB)
          | ((with_reducible first | refine opsV.here ?_ | refine guardO.here ?_ | refine resO.here ?_ | refine drawV.here ?_ | refine guardD.here ?_ | refine stepO.here ?_ | refine brO.here ?_ | refine condV.here ?_); simp (config := {contextual := true, maxSteps := 1000000}) only [hy, hz, go_sem, reduceCtorEq, Nat.reduceAdd, Nat.reduceSub, Nat.reduceMul, Nat.reduceLT, Nat.reduceLeDiff, Int.reduceLT, Int.reduceLE, Int.reduceEq, Int.reduceNe, Int.reduceAdd, Int.reduceSub, Int.reduceMul, Int.reduceToNat, Int.reduceNeg, Int.reducePow, Nat.reducePow, Nat.reduceEqDiff, Nat.reduceBEq, Int.reduceBEq, Int.reduceBNe, Int.reduceNegSucc, q0, q1, q2, q3])
          | (refine And.intro (by kernel_rfl : okOrd _ _ = true) ?_)
          | refine Both.mk ?_ ?_
          | ((with_reducible refine CallO.gd 12 ?_); refine CallO.toA Tryd.call12 (hw _) ?_)
          | ((with_reducible refine CallP.gd 12 ?_); refine CallP.toA Tryd.call12 (hw _) ?_)
          | (first | refine hN _ ?_ | (clear hN N; refine hN _ ?_) | (iterate 2 clear hN N); refine hN _ ?_ | (iterate 3 clear hN N); refine hN _ ?_ | (iterate 4 clear hN N); refine hN _ ?_ | (iterate 5 clear hN N); refine hN _ ?_); try clear hN N; try clear hy ops
          | (refine hA ?_; clear hA A hB B; try simp only [hz])
          | (refine hB ?_; clear hA A hB B; try simp only [hz])
          | ((first | refine guardO.mk (fun hz => ?_) (fun hz => ?_) | refine guardD.mk (fun hz => ?_) (fun hz => ?_) | refine Br.mk (fun hz => ?_) (fun hz => ?_)) <;> (have h := hz; try simp only [decide_eq_true_eq, decide_eq_false_iff_not, Int.not_lt, Int.not_le, beq_iff_eq, beq_eq_false_iff_ne, bne_iff_ne, bne_eq_false_iff_eq, ne_eq, Bool.not_eq_true', Bool.not_eq_false', Decidable.not_not] at h) <;> (try (exfalso; omega)) <;> (try simp only [Bool.not_eq_true', Bool.not_eq_false', beq_true, beq_false] at hz))
          | ((first | rw [if_pos (show _ ∧ _ from ⟨by omega, by omega⟩)] | rw [if_pos (show _ ∧ _ from by simp only [List.length_append, List.length_cons, List.length_nil]; exact ⟨by omega, by omega⟩)]); simp (config := {contextual := true, maxSteps := 1000000}) only [hy, hz, go_sem, reduceCtorEq, Nat.reduceAdd, Nat.reduceSub, Nat.reduceMul, Nat.reduceLT, Nat.reduceLeDiff, Int.reduceLT, Int.reduceLE, Int.reduceEq, Int.reduceNe, Int.reduceAdd, Int.reduceSub, Int.reduceMul, Int.reduceToNat, Int.reduceNeg, Int.reducePow, Nat.reducePow, Nat.reduceEqDiff, Nat.reduceBEq, Int.reduceBEq, Int.reduceBNe, Int.reduceNegSucc, q0, q1, q2, q3])
          | (simp only [thenV, blockV, if_true, if_false, Nat.reduceEqDiff, reduceCtorEq, imp_self]))
      all_goals (apply And.right; refine hQ _ _ _ Desc.refl ?_ (Wk.tupC (Wk.null Wk.refl) Wk.nil))
      · (first | (simp only [go_sem, reduceCtorEq, Nat.reduceAdd, Nat.reduceSub, Nat.reduceMul, Nat.reduceLT, Nat.reduceLeDiff, Int.reduceLT, Int.reduceLE, Int.reduceEq, Int.reduceNe, Int.reduceAdd, Int.reduceSub, Int.reduceMul, Int.reduceToNat, Int.reduceNeg, Int.reducePow, Nat.reducePow, Nat.reduceEqDiff, Nat.reduceBEq, Int.reduceBEq, Int.reduceBNe, Int.reduceNegSucc, Tryd.results18]; done) | (simp only [go_sem, reduceCtorEq, Nat.reduceAdd, Nat.reduceSub, Nat.reduceMul, Nat.reduceLT, Nat.reduceLeDiff, Int.reduceLT, Int.reduceLE, Int.reduceEq, Int.reduceNe, Int.reduceAdd, Int.reduceSub, Int.reduceMul, Int.reduceToNat, Int.reduceNeg, Int.reducePow, Nat.reducePow, Nat.reduceEqDiff, Nat.reduceBEq, Int.reduceBEq, Int.reduceBNe, Int.reduceNegSucc, Tryd.results18]; rfl) | rfl)
    · have he0 : e = 0 := Decidable.not_not.1 he
      subst he0
      have q3 : ((0 : Int) != 0) = false := rfl
      rw [if_neg he] at hJ
      have H' := H (k + 1, b ++ f) ⟨by dsimp only; omega, by simp; omega, hJ⟩ (by dsimp only; omega)
      clear H
      dsimp only at H'
      refine loopV ?_
      have hz : True := trivial
      have hy := yieldedV_eq
      repeat' (first
          | (refine WPV.seqK ?_; intro N hN)
          | refine WPV.block ?_
          | refine WPV.scope ?_
          | refine WPV.skip ?_
          | refine WPV.label ?_
          | refine WPV.exit ?_
          | refine WPV.ret ?_
          | (refine WPV.regionG (M := noM) ?_; intro N hN ops hy; (try simp only [List.append] at hy ⊢); (try simp only [List.map_cons, List.map_nil] at hy))
          | (refine WPV.drawK (M := noM) (by kernel_rfl) (by kernel_rfl) ?_; intro N hN; have hy := yieldedV_eq)
          | (refine WPV.condK ?_; intro A hA B hB)
          | ((with_reducible first | refine opsV.here ?_ | refine guardO.here ?_ | refine resO.here ?_ | refine drawV.here ?_ | refine guardD.here ?_ | refine stepO.here ?_ | refine brO.here ?_ | refine condV.here ?_); simp (config := {contextual := true, maxSteps := 1000000}) only [hy, hz, go_sem, reduceCtorEq, Nat.reduceAdd, Nat.reduceSub, Nat.reduceMul, Nat.reduceLT, Nat.reduceLeDiff, Int.reduceLT, Int.reduceLE, Int.reduceEq, Int.reduceNe, Int.reduceAdd, Int.reduceSub, Int.reduceMul, Int.reduceToNat, Int.reduceNeg, Int.reducePow, Nat.reducePow, Nat.reduceEqDiff, Nat.reduceBEq, Int.reduceBEq, Int.reduceBNe, Int.reduceNegSucc, q0, q1, q2, q3])
          | (refine And.intro (by kernel_rfl : okOrd _ _ = true) ?_)
          | refine Both.mk ?_ ?_
          | ((with_reducible refine CallO.gd 12 ?_); refine CallO.toA Tryd.call12 (hw _) ?_)
          | ((with_reducible refine CallP.gd 12 ?_); refine CallP.toA Tryd.call12 (hw _) ?_)
          | (first | refine hN _ ?_ | (clear hN N; refine hN _ ?_) | (iterate 2 clear hN N); refine hN _ ?_ | (iterate 3 clear hN N); refine hN _ ?_ | (iterate 4 clear hN N); refine hN _ ?_ | (iterate 5 clear hN N); refine hN _ ?_); try clear hN N; try clear hy ops
          | (refine hA ?_; clear hA A hB B; try simp only [hz])
          | (refine hB ?_; clear hA A hB B; try simp only [hz])
          | ((first | refine guardO.mk (fun hz => ?_) (fun hz => ?_) | refine guardD.mk (fun hz => ?_) (fun hz => ?_) | refine Br.mk (fun hz => ?_) (fun hz => ?_)) <;> (have h := hz; try simp only [decide_eq_true_eq, decide_eq_false_iff_not, Int.not_lt, Int.not_le, beq_iff_eq, beq_eq_false_iff_ne, bne_iff_ne, bne_eq_false_iff_eq, ne_eq, Bool.not_eq_true', Bool.not_eq_false', Decidable.not_not] at h) <;> (try (exfalso; omega)) <;> (try simp only [Bool.not_eq_true', Bool.not_eq_false', beq_true, beq_false] at hz))
          | ((first | rw [if_pos (show _ ∧ _ from ⟨by omega, by omega⟩)] | rw [if_pos (show _ ∧ _ from by simp only [List.length_append, List.length_cons, List.length_nil]; exact ⟨by omega, by omega⟩)]); simp (config := {contextual := true, maxSteps := 1000000}) only [hy, hz, go_sem, reduceCtorEq, Nat.reduceAdd, Nat.reduceSub, Nat.reduceMul, Nat.reduceLT, Nat.reduceLeDiff, Int.reduceLT, Int.reduceLE, Int.reduceEq, Int.reduceNe, Int.reduceAdd, Int.reduceSub, Int.reduceMul, Int.reduceToNat, Int.reduceNeg, Int.reducePow, Nat.reducePow, Nat.reduceEqDiff, Nat.reduceBEq, Int.reduceBEq, Int.reduceBNe, Int.reduceNegSucc, q0, q1, q2, q3])
          | (simp only [thenV, blockV, if_true, if_false, Nat.reduceEqDiff, reduceCtorEq, imp_self]))
      exact WPV.desc ((Desc.re [some 1] rfl).trans Desc.weakA) H'
  obtain rfl : k = l.length := by omega
  clear H
  rw [List.drop_length] at hJ
  unfold allN at hJ
  rw [hJ] at hQ
  have q0 : ((l.length : Int) < (l.length : Int)) = False := by simp
  refine loopV ?_
  have hz : True := trivial
  have hy := yieldedV_eq
  repeat' (first
      | (refine WPV.seqK ?_; intro N hN)
      | refine WPV.block ?_
      | refine WPV.scope ?_
      | refine WPV.skip ?_
      | refine WPV.label ?_
      | refine WPV.exit ?_
      | refine WPV.ret ?_
      | (refine WPV.regionG (M := noM) ?_; intro N hN ops hy; (try simp only [List.append] at hy ⊢); (try simp only [List.map_cons, List.map_nil] at hy))
      | (refine WPV.drawK (M := noM) (by kernel_rfl) (by kernel_rfl) ?_; intro N hN; have hy := yieldedV_eq)
      | (refine WPV.condK ?_; intro A hA B hB)
      | ((with_reducible first | refine opsV.here ?_ | refine guardO.here ?_ | refine resO.here ?_ | refine drawV.here ?_ | refine guardD.here ?_ | refine stepO.here ?_ | refine brO.here ?_ | refine condV.here ?_); simp (config := {contextual := true, maxSteps := 1000000}) only [hy, hz, go_sem, reduceCtorEq, Nat.reduceAdd, Nat.reduceSub, Nat.reduceMul, Nat.reduceLT, Nat.reduceLeDiff, Int.reduceLT, Int.reduceLE, Int.reduceEq, Int.reduceNe, Int.reduceAdd, Int.reduceSub, Int.reduceMul, Int.reduceToNat, Int.reduceNeg, Int.reducePow, Nat.reducePow, Nat.reduceEqDiff, Nat.reduceBEq, Int.reduceBEq, Int.reduceBNe, Int.reduceNegSucc, q0, q1, q2, q3])
      | (refine And.intro (by kernel_rfl : okOrd _ _ = true) ?_)
      | refine Both.mk ?_ ?_
      | (first | refine hN _ ?_ | (clear hN N; refine hN _ ?_) | (iterate 2 clear hN N); refine hN _ ?_ | (iterate 3 clear hN N); refine hN _ ?_ | (iterate 4 clear hN N); refine hN _ ?_ | (iterate 5 clear hN N); refine hN _ ?_); try clear hN N; try clear hy ops
      | (refine hA ?_; clear hA A hB B; try simp only [hz])
      | (refine hB ?_; clear hA A hB B; try simp only [hz])
      | ((first | refine guardO.mk (fun hz => ?_) (fun hz => ?_) | refine guardD.mk (fun hz => ?_) (fun hz => ?_) | refine Br.mk (fun hz => ?_) (fun hz => ?_)) <;> (have h := hz; try simp only [decide_eq_true_eq, decide_eq_false_iff_not, Int.not_lt, Int.not_le, beq_iff_eq, beq_eq_false_iff_ne, bne_iff_ne, bne_eq_false_iff_eq, ne_eq, Bool.not_eq_true', Bool.not_eq_false', Decidable.not_not] at h) <;> (try (exfalso; omega)) <;> (try simp only [Bool.not_eq_true', Bool.not_eq_false', beq_true, beq_false] at hz))
      | ((first | rw [if_pos (show _ ∧ _ from ⟨by omega, by omega⟩)] | rw [if_pos (show _ ∧ _ from by simp only [List.length_append, List.length_cons, List.length_nil]; exact ⟨by omega, by omega⟩)]); simp (config := {contextual := true, maxSteps := 1000000}) only [hy, hz, go_sem, reduceCtorEq, Nat.reduceAdd, Nat.reduceSub, Nat.reduceMul, Nat.reduceLT, Nat.reduceLeDiff, Int.reduceLT, Int.reduceLE, Int.reduceEq, Int.reduceNe, Int.reduceAdd, Int.reduceSub, Int.reduceMul, Int.reduceToNat, Int.reduceNeg, Int.reducePow, Nat.reducePow, Nat.reduceEqDiff, Nat.reduceBEq, Int.reduceBEq, Int.reduceBNe, Int.reduceNegSucc, q0, q1, q2, q3])
      | (simp only [thenV, blockV, if_true, if_false, Nat.reduceEqDiff, reduceCtorEq, imp_self]))
  all_goals (apply And.right; refine hQ _ _ _ Desc.refl ?_ (Wk.tupC (Wk.own (k := 1) (t := 0) Wk.refl) Wk.nil))
  · (first | (simp only [go_sem, reduceCtorEq, Nat.reduceAdd, Nat.reduceSub, Nat.reduceMul, Nat.reduceLT, Nat.reduceLeDiff, Int.reduceLT, Int.reduceLE, Int.reduceEq, Int.reduceNe, Int.reduceAdd, Int.reduceSub, Int.reduceMul, Int.reduceToNat, Int.reduceNeg, Int.reducePow, Nat.reducePow, Nat.reduceEqDiff, Nat.reduceBEq, Int.reduceBEq, Int.reduceBNe, Int.reduceNegSucc, Tryd.results18]; done) | (simp only [go_sem, reduceCtorEq, Nat.reduceAdd, Nat.reduceSub, Nat.reduceMul, Nat.reduceLT, Nat.reduceLeDiff, Int.reduceLT, Int.reduceLE, Int.reduceEq, Int.reduceNe, Int.reduceAdd, Int.reduceSub, Int.reduceMul, Int.reduceToNat, Int.reduceNeg, Int.reducePow, Nat.reducePow, Nat.reduceEqDiff, Nat.reduceBEq, Int.reduceBEq, Int.reduceBNe, Int.reduceNegSucc, Tryd.results18]; rfl) | rfl)

/-! Same -/
set_option maxRecDepth 100000 in
set_option maxHeartbeats 1000000 in
theorem same03_s (a b : List (List UInt8)) (hl : a.length ≤ 1000000000) (hl2 : b.length ≤ 1000000000) (h : List Ho) : Sp Tryd.prog K 20 [.sl 1 (rs a), .sl 1 (rs b)] h fun u hh => u = .sc (.bool (decide (a = b))) ∧ hh = h := by
  refine Sp.pure_ (R := fun u hh => u = .sc (.bool (decide (a = b))) ∧ hh = []) ?_ (fun _ => rfl) (fun _ => rfl) (fun v h ⟨e, _⟩ => by rw [e]; exact Wk.refl) h
  have q1 : True := trivial
  have q2 : True := trivial
  have q3 : True := trivial
  have q4 : True := trivial
  have q5 : True := trivial
  by_cases hn : a.length = b.length
  · have q0 : ((a.length : Int) != (b.length : Int)) = false := by rw [bne_eq_false_iff_eq]; omega
    refine Sp.of_bodyD Tryd.func20 rfl ?_
    intro Q hQ
    simp only [List.replicate, List.length_cons, List.length_nil, Tryd.ntmps20, Nat.reduceAdd, Nat.reduceSub, List.cons_append, List.nil_append, go_sem]
    have hz : True := trivial
    have hy := yieldedV_eq
    repeat' (first
        | (refine WPV.seqK ?_; intro N hN)
        | refine WPV.block ?_
        | refine WPV.scope ?_
        | refine WPV.skip ?_
        | refine WPV.label ?_
        | refine WPV.exit ?_
        | refine WPV.ret ?_
        | (refine WPV.regionG (M := noM) ?_; intro N hN ops hy; (try simp only [List.append] at hy ⊢); (try simp only [List.map_cons, List.map_nil] at hy))
        | (refine WPV.drawK (M := noM) (by kernel_rfl) (by kernel_rfl) ?_; intro N hN; have hy := yieldedV_eq)
        | (refine WPV.condK ?_; intro A hA B hB)
        | ((with_reducible first | refine opsV.here ?_ | refine guardO.here ?_ | refine resO.here ?_ | refine drawV.here ?_ | refine guardD.here ?_ | refine stepO.here ?_ | refine brO.here ?_ | refine condV.here ?_); simp (config := {contextual := true, maxSteps := 1000000}) only [hy, hz, go_sem, reduceCtorEq, Nat.reduceAdd, Nat.reduceSub, Nat.reduceMul, Nat.reduceLT, Nat.reduceLeDiff, Int.reduceLT, Int.reduceLE, Int.reduceEq, Int.reduceNe, Int.reduceAdd, Int.reduceSub, Int.reduceMul, Int.reduceToNat, Int.reduceNeg, Int.reducePow, Nat.reducePow, Nat.reduceEqDiff, Nat.reduceBEq, Int.reduceBEq, Int.reduceBNe, Int.reduceNegSucc, q0, q1, q2, q3, q4, q5])
        | (refine And.intro (by kernel_rfl : okOrd _ _ = true) ?_)
        | refine Both.mk ?_ ?_
        | (first | refine hN _ ?_ | (clear hN N; refine hN _ ?_) | (iterate 2 clear hN N); refine hN _ ?_ | (iterate 3 clear hN N); refine hN _ ?_ | (iterate 4 clear hN N); refine hN _ ?_ | (iterate 5 clear hN N); refine hN _ ?_); try clear hN N; try clear hy ops
        | (refine hA ?_; clear hA A hB B; try simp only [hz])
        | (refine hB ?_; clear hA A hB B; try simp only [hz])
        | ((first | refine guardO.mk (fun hz => ?_) (fun hz => ?_) | refine guardD.mk (fun hz => ?_) (fun hz => ?_) | refine Br.mk (fun hz => ?_) (fun hz => ?_)) <;> (have h := hz; try simp only [decide_eq_true_eq, decide_eq_false_iff_not, Int.not_lt, Int.not_le, beq_iff_eq, beq_eq_false_iff_ne, bne_iff_ne, bne_eq_false_iff_eq, ne_eq, Bool.not_eq_true', Bool.not_eq_false', Decidable.not_not] at h) <;> (try (exfalso; omega)) <;> (try simp only [Bool.not_eq_true', Bool.not_eq_false', beq_true, beq_false] at hz))
        | ((first | rw [if_pos (show _ ∧ _ from ⟨by omega, by omega⟩)] | rw [if_pos (show _ ∧ _ from by simp only [List.length_append, List.length_cons, List.length_nil]; exact ⟨by omega, by omega⟩)]); simp (config := {contextual := true, maxSteps := 1000000}) only [hy, hz, go_sem, reduceCtorEq, Nat.reduceAdd, Nat.reduceSub, Nat.reduceMul, Nat.reduceLT, Nat.reduceLeDiff, Int.reduceLT, Int.reduceLE, Int.reduceEq, Int.reduceNe, Int.reduceAdd, Int.reduceSub, Int.reduceMul, Int.reduceToNat, Int.reduceNeg, Int.reducePow, Nat.reducePow, Nat.reduceEqDiff, Nat.reduceBEq, Int.reduceBEq, Int.reduceBNe, Int.reduceNegSucc, q0, q1, q2, q3, q4, q5])
        | (simp only [thenV, blockV, if_true, if_false, Nat.reduceEqDiff, reduceCtorEq, imp_self]))
    refine WPV.desc (Desc.weakA (tm' := [.sl 1 (rs a), .sl 1 (rs b), .any, .any, .sc (.bool false), .sc (.int .i64 ((0 : Nat) : Int)), .any, .any, .any, .any, .any, .any, .any, .any, .any, .any, .any, .any, .any, .any, .any, .any, .any, .any, .any, .any, .any]) (h' := [])) ?_
    refine WPV.loopA (α := Nat) (fun k => a.length - k) (fun k => ⟨[.sl 1 (rs a), .sl 1 (rs b), .any, .any, .sc (.bool false), .sc (.int .i64 ((k : Nat) : Int)), .any, .any, .any, .any, .any, .any, .any, .any, .any, .any, .any, .any, .any, .any, .any, .any, .any, .any, .any, .any, .any], []⟩) (fun k => k ≤ a.length ∧ a.take k = b.take k) (fun k hJ H => ?_) 0 ⟨Nat.zero_le _, rfl⟩
    obtain ⟨hk0, hJ⟩ := hJ
    try dsimp only at hk0 H ⊢
    clear q1 q2 q3 q4 q5
    by_cases h : k < a.length
    · have q1 : ((k : Int) < (a.length : Int)) = True := eq_true (by omega)
      have hs : a[k]? = some a[k] := List.getElem?_eq_getElem h
      have hr : b[k]? = some b[k] := List.getElem?_eq_getElem (by omega)
      generalize a[k] = s at hs
      generalize b[k] = r at hr
      have q2 : IntKind.i64.wrap ((k : Int) + 1) = ((k + 1 : Nat) : Int) := by rw [wr_i64 (by omega) (by omega)]; rfl
      have q3 := hs
      have q4 := hr
      by_cases e : s = r
      · have q5 : decide (s = r) = true := by simpa using e
        have H' := H (k + 1) ⟨by omega, by rw [List.take_add_one, List.take_add_one, hs, hr, hJ, e]⟩ (by omega)
        clear H
        refine loopV ?_
        have hz : True := trivial
        have hy := yieldedV_eq
        repeat' (first
            | (refine WPV.seqK ?_; intro N hN)
            | refine WPV.block ?_
            | refine WPV.scope ?_
            | refine WPV.skip ?_
            | refine WPV.label ?_
            | refine WPV.exit ?_
            | refine WPV.ret ?_
            | (refine WPV.regionG (M := noM) ?_; intro N hN ops hy; (try simp only [List.append] at hy ⊢); (try simp only [List.map_cons, List.map_nil] at hy))
            | (refine WPV.drawK (M := noM) (by kernel_rfl) (by kernel_rfl) ?_; intro N hN; have hy := yieldedV_eq)
            | (refine WPV.condK ?_; intro A hA B hB)
            | ((with_reducible first | refine opsV.here ?_ | refine guardO.here ?_ | refine resO.here ?_ | refine drawV.here ?_ | refine guardD.here ?_ | refine stepO.here ?_ | refine brO.here ?_ | refine condV.here ?_); simp (config := {contextual := true, maxSteps := 1000000}) only [hy, hz, go_sem, reduceCtorEq, Nat.reduceAdd, Nat.reduceSub, Nat.reduceMul, Nat.reduceLT, Nat.reduceLeDiff, Int.reduceLT, Int.reduceLE, Int.reduceEq, Int.reduceNe, Int.reduceAdd, Int.reduceSub, Int.reduceMul, Int.reduceToNat, Int.reduceNeg, Int.reducePow, Nat.reducePow, Nat.reduceEqDiff, Nat.reduceBEq, Int.reduceBEq, Int.reduceBNe, Int.reduceNegSucc, q0, q1, q2, q3, q4, q5])
            | (refine And.intro (by kernel_rfl : okOrd _ _ = true) ?_)
            | refine Both.mk ?_ ?_
            | ((with_reducible refine CallO.gd 19 ?_); refine CallO.toA Tryd.call19 (vsame_s s r []) ?_)
            | ((with_reducible refine CallP.gd 19 ?_); refine CallP.toA Tryd.call19 (vsame_s s r []) ?_)
            | (first | refine hN _ ?_ | (clear hN N; refine hN _ ?_) | (iterate 2 clear hN N); refine hN _ ?_ | (iterate 3 clear hN N); refine hN _ ?_ | (iterate 4 clear hN N); refine hN _ ?_ | (iterate 5 clear hN N); refine hN _ ?_); try clear hN N; try clear hy ops
            | (refine hA ?_; clear hA A hB B; try simp only [hz])
            | (refine hB ?_; clear hA A hB B; try simp only [hz])
            | ((first | refine guardO.mk (fun hz => ?_) (fun hz => ?_) | refine guardD.mk (fun hz => ?_) (fun hz => ?_) | refine Br.mk (fun hz => ?_) (fun hz => ?_)) <;> (have h := hz; try simp only [decide_eq_true_eq, decide_eq_false_iff_not, Int.not_lt, Int.not_le, beq_iff_eq, beq_eq_false_iff_ne, bne_iff_ne, bne_eq_false_iff_eq, ne_eq, Bool.not_eq_true', Bool.not_eq_false', Decidable.not_not] at h) <;> (try (exfalso; omega)) <;> (try simp only [Bool.not_eq_true', Bool.not_eq_false', beq_true, beq_false] at hz))
            | ((first | rw [if_pos (show _ ∧ _ from ⟨by omega, by omega⟩)] | rw [if_pos (show _ ∧ _ from by simp only [List.length_append, List.length_cons, List.length_nil]; exact ⟨by omega, by omega⟩)]); simp (config := {contextual := true, maxSteps := 1000000}) only [hy, hz, go_sem, reduceCtorEq, Nat.reduceAdd, Nat.reduceSub, Nat.reduceMul, Nat.reduceLT, Nat.reduceLeDiff, Int.reduceLT, Int.reduceLE, Int.reduceEq, Int.reduceNe, Int.reduceAdd, Int.reduceSub, Int.reduceMul, Int.reduceToNat, Int.reduceNeg, Int.reducePow, Nat.reducePow, Nat.reduceEqDiff, Nat.reduceBEq, Int.reduceBEq, Int.reduceBNe, Int.reduceNegSucc, q0, q1, q2, q3, q4, q5])
            | (simp only [thenV, blockV, if_true, if_false, Nat.reduceEqDiff, reduceCtorEq, imp_self]))
        exact WPV.desc ((Desc.re [] rfl).trans Desc.weakA) H'
      · have q5 : decide (s = r) = false := by simpa using e
        have hne : decide (a = b) = false := by
          rw [decide_eq_false_iff_not]; rintro rfl; rw [hs] at hr; exact e (Option.some.inj hr)
        rw [hne] at hQ
        clear H
        refine loopV ?_
        have hz : True := trivial
        have hy := yieldedV_eq
        repeat' (first
            | (refine WPV.seqK ?_; intro N hN)
            | refine WPV.block ?_
            | refine WPV.scope ?_
            | refine WPV.skip ?_
            | refine WPV.label ?_
            | refine WPV.exit ?_
            | refine WPV.ret ?_
            | (refine WPV.regionG (M := noM) ?_; intro N hN ops hy; (try simp only [List.append] at hy ⊢); (try simp only [List.map_cons, List.map_nil] at hy))
            | (refine WPV.drawK (M := noM) (by kernel_rfl) (by kernel_rfl) ?_; intro N hN; have hy := yieldedV_eq)
            | (refine WPV.condK ?_; intro A hA B hB)
            | ((with_reducible first | refine opsV.here ?_ | refine guardO.here ?_ | refine resO.here ?_ | refine drawV.here ?_ | refine guardD.here ?_ | refine stepO.here ?_ | refine brO.here ?_ | refine condV.here ?_); simp (config := {contextual := true, maxSteps := 1000000}) only [hy, hz, go_sem, reduceCtorEq, Nat.reduceAdd, Nat.reduceSub, Nat.reduceMul, Nat.reduceLT, Nat.reduceLeDiff, Int.reduceLT, Int.reduceLE, Int.reduceEq, Int.reduceNe, Int.reduceAdd, Int.reduceSub, Int.reduceMul, Int.reduceToNat, Int.reduceNeg, Int.reducePow, Nat.reducePow, Nat.reduceEqDiff, Nat.reduceBEq, Int.reduceBEq, Int.reduceBNe, Int.reduceNegSucc, q0, q1, q2, q3, q4, q5])
            | (refine And.intro (by kernel_rfl : okOrd _ _ = true) ?_)
            | refine Both.mk ?_ ?_
            | ((with_reducible refine CallO.gd 19 ?_); refine CallO.toA Tryd.call19 (vsame_s s r []) ?_)
            | ((with_reducible refine CallP.gd 19 ?_); refine CallP.toA Tryd.call19 (vsame_s s r []) ?_)
            | (first | refine hN _ ?_ | (clear hN N; refine hN _ ?_) | (iterate 2 clear hN N); refine hN _ ?_ | (iterate 3 clear hN N); refine hN _ ?_ | (iterate 4 clear hN N); refine hN _ ?_ | (iterate 5 clear hN N); refine hN _ ?_); try clear hN N; try clear hy ops
            | (refine hA ?_; clear hA A hB B; try simp only [hz])
            | (refine hB ?_; clear hA A hB B; try simp only [hz])
            | ((first | refine guardO.mk (fun hz => ?_) (fun hz => ?_) | refine guardD.mk (fun hz => ?_) (fun hz => ?_) | refine Br.mk (fun hz => ?_) (fun hz => ?_)) <;> (have h := hz; try simp only [decide_eq_true_eq, decide_eq_false_iff_not, Int.not_lt, Int.not_le, beq_iff_eq, beq_eq_false_iff_ne, bne_iff_ne, bne_eq_false_iff_eq, ne_eq, Bool.not_eq_true', Bool.not_eq_false', Decidable.not_not] at h) <;> (try (exfalso; omega)) <;> (try simp only [Bool.not_eq_true', Bool.not_eq_false', beq_true, beq_false] at hz))
            | ((first | rw [if_pos (show _ ∧ _ from ⟨by omega, by omega⟩)] | rw [if_pos (show _ ∧ _ from by simp only [List.length_append, List.length_cons, List.length_nil]; exact ⟨by omega, by omega⟩)]); simp (config := {contextual := true, maxSteps := 1000000}) only [hy, hz, go_sem, reduceCtorEq, Nat.reduceAdd, Nat.reduceSub, Nat.reduceMul, Nat.reduceLT, Nat.reduceLeDiff, Int.reduceLT, Int.reduceLE, Int.reduceEq, Int.reduceNe, Int.reduceAdd, Int.reduceSub, Int.reduceMul, Int.reduceToNat, Int.reduceNeg, Int.reducePow, Nat.reducePow, Nat.reduceEqDiff, Nat.reduceBEq, Int.reduceBEq, Int.reduceBNe, Int.reduceNegSucc, q0, q1, q2, q3, q4, q5])
            | (simp only [thenV, blockV, if_true, if_false, Nat.reduceEqDiff, reduceCtorEq, imp_self]))
        all_goals (first | exact retA hQ Tryd.results20 (Desc.re [] rfl) | exact retN hQ Tryd.results20 (Desc.re [] rfl))
    · obtain rfl : k = a.length := by omega
      clear H
      have he : decide (a = b) = true := by
        rw [decide_eq_true_eq]; rw [List.take_length, hn, List.take_length] at hJ; exact hJ
      rw [he] at hQ
      have q1 : ((a.length : Int) < (a.length : Int)) = False := by simp
      have q2 : True := trivial
      have q3 : True := trivial
      have q4 : True := trivial
      have q5 : True := trivial
      refine loopV ?_
      have hz : True := trivial
      have hy := yieldedV_eq
      repeat' (first
          | (refine WPV.seqK ?_; intro N hN)
          | refine WPV.block ?_
          | refine WPV.scope ?_
          | refine WPV.skip ?_
          | refine WPV.label ?_
          | refine WPV.exit ?_
          | refine WPV.ret ?_
          | (refine WPV.regionG (M := noM) ?_; intro N hN ops hy; (try simp only [List.append] at hy ⊢); (try simp only [List.map_cons, List.map_nil] at hy))
          | (refine WPV.drawK (M := noM) (by kernel_rfl) (by kernel_rfl) ?_; intro N hN; have hy := yieldedV_eq)
          | (refine WPV.condK ?_; intro A hA B hB)
          | ((with_reducible first | refine opsV.here ?_ | refine guardO.here ?_ | refine resO.here ?_ | refine drawV.here ?_ | refine guardD.here ?_ | refine stepO.here ?_ | refine brO.here ?_ | refine condV.here ?_); simp (config := {contextual := true, maxSteps := 1000000}) only [hy, hz, go_sem, reduceCtorEq, Nat.reduceAdd, Nat.reduceSub, Nat.reduceMul, Nat.reduceLT, Nat.reduceLeDiff, Int.reduceLT, Int.reduceLE, Int.reduceEq, Int.reduceNe, Int.reduceAdd, Int.reduceSub, Int.reduceMul, Int.reduceToNat, Int.reduceNeg, Int.reducePow, Nat.reducePow, Nat.reduceEqDiff, Nat.reduceBEq, Int.reduceBEq, Int.reduceBNe, Int.reduceNegSucc, q0, q1, q2, q3, q4, q5])
          | (refine And.intro (by kernel_rfl : okOrd _ _ = true) ?_)
          | refine Both.mk ?_ ?_
          | (first | refine hN _ ?_ | (clear hN N; refine hN _ ?_) | (iterate 2 clear hN N); refine hN _ ?_ | (iterate 3 clear hN N); refine hN _ ?_ | (iterate 4 clear hN N); refine hN _ ?_ | (iterate 5 clear hN N); refine hN _ ?_); try clear hN N; try clear hy ops
          | (refine hA ?_; clear hA A hB B; try simp only [hz])
          | (refine hB ?_; clear hA A hB B; try simp only [hz])
          | ((first | refine guardO.mk (fun hz => ?_) (fun hz => ?_) | refine guardD.mk (fun hz => ?_) (fun hz => ?_) | refine Br.mk (fun hz => ?_) (fun hz => ?_)) <;> (have h := hz; try simp only [decide_eq_true_eq, decide_eq_false_iff_not, Int.not_lt, Int.not_le, beq_iff_eq, beq_eq_false_iff_ne, bne_iff_ne, bne_eq_false_iff_eq, ne_eq, Bool.not_eq_true', Bool.not_eq_false', Decidable.not_not] at h) <;> (try (exfalso; omega)) <;> (try simp only [Bool.not_eq_true', Bool.not_eq_false', beq_true, beq_false] at hz))
          | ((first | rw [if_pos (show _ ∧ _ from ⟨by omega, by omega⟩)] | rw [if_pos (show _ ∧ _ from by simp only [List.length_append, List.length_cons, List.length_nil]; exact ⟨by omega, by omega⟩)]); simp (config := {contextual := true, maxSteps := 1000000}) only [hy, hz, go_sem, reduceCtorEq, Nat.reduceAdd, Nat.reduceSub, Nat.reduceMul, Nat.reduceLT, Nat.reduceLeDiff, Int.reduceLT, Int.reduceLE, Int.reduceEq, Int.reduceNe, Int.reduceAdd, Int.reduceSub, Int.reduceMul, Int.reduceToNat, Int.reduceNeg, Int.reducePow, Nat.reducePow, Nat.reduceEqDiff, Nat.reduceBEq, Int.reduceBEq, Int.reduceBNe, Int.reduceNegSucc, q0, q1, q2, q3, q4, q5])
          | (simp only [thenV, blockV, if_true, if_false, Nat.reduceEqDiff, reduceCtorEq, imp_self]))
      all_goals (first | exact retA hQ Tryd.results20 (Desc.re [] rfl) | exact retN hQ Tryd.results20 (Desc.re [] rfl))
  · have q0 : ((a.length : Int) != (b.length : Int)) = true := by rw [bne_iff_ne]; omega
    have hne : decide (a = b) = false := by rw [decide_eq_false_iff_not]; rintro rfl; exact hn rfl
    rw [hne]
    refine Sp.of_bodyD Tryd.func20 rfl ?_
    intro Q hQ
    simp only [List.replicate, List.length_cons, List.length_nil, Tryd.ntmps20, Nat.reduceAdd, Nat.reduceSub, List.cons_append, List.nil_append, go_sem]
    have hz : True := trivial
    have hy := yieldedV_eq
    repeat' (first
        | (refine WPV.seqK ?_; intro N hN)
        | refine WPV.block ?_
        | refine WPV.scope ?_
        | refine WPV.skip ?_
        | refine WPV.label ?_
        | refine WPV.exit ?_
        | refine WPV.ret ?_
        | (refine WPV.regionG (M := noM) ?_; intro N hN ops hy; (try simp only [List.append] at hy ⊢); (try simp only [List.map_cons, List.map_nil] at hy))
        | (refine WPV.drawK (M := noM) (by kernel_rfl) (by kernel_rfl) ?_; intro N hN; have hy := yieldedV_eq)
        | (refine WPV.condK ?_; intro A hA B hB)
        | ((with_reducible first | refine opsV.here ?_ | refine guardO.here ?_ | refine resO.here ?_ | refine drawV.here ?_ | refine guardD.here ?_ | refine stepO.here ?_ | refine brO.here ?_ | refine condV.here ?_); simp (config := {contextual := true, maxSteps := 1000000}) only [hy, hz, go_sem, reduceCtorEq, Nat.reduceAdd, Nat.reduceSub, Nat.reduceMul, Nat.reduceLT, Nat.reduceLeDiff, Int.reduceLT, Int.reduceLE, Int.reduceEq, Int.reduceNe, Int.reduceAdd, Int.reduceSub, Int.reduceMul, Int.reduceToNat, Int.reduceNeg, Int.reducePow, Nat.reducePow, Nat.reduceEqDiff, Nat.reduceBEq, Int.reduceBEq, Int.reduceBNe, Int.reduceNegSucc, q0, q1, q2, q3, q4, q5])
        | (refine And.intro (by kernel_rfl : okOrd _ _ = true) ?_)
        | refine Both.mk ?_ ?_
        | (first | refine hN _ ?_ | (clear hN N; refine hN _ ?_) | (iterate 2 clear hN N); refine hN _ ?_ | (iterate 3 clear hN N); refine hN _ ?_ | (iterate 4 clear hN N); refine hN _ ?_ | (iterate 5 clear hN N); refine hN _ ?_); try clear hN N; try clear hy ops
        | (refine hA ?_; clear hA A hB B; try simp only [hz])
        | (refine hB ?_; clear hA A hB B; try simp only [hz])
        | ((first | refine guardO.mk (fun hz => ?_) (fun hz => ?_) | refine guardD.mk (fun hz => ?_) (fun hz => ?_) | refine Br.mk (fun hz => ?_) (fun hz => ?_)) <;> (have h := hz; try simp only [decide_eq_true_eq, decide_eq_false_iff_not, Int.not_lt, Int.not_le, beq_iff_eq, beq_eq_false_iff_ne, bne_iff_ne, bne_eq_false_iff_eq, ne_eq, Bool.not_eq_true', Bool.not_eq_false', Decidable.not_not] at h) <;> (try (exfalso; omega)) <;> (try simp only [Bool.not_eq_true', Bool.not_eq_false', beq_true, beq_false] at hz))
        | ((first | rw [if_pos (show _ ∧ _ from ⟨by omega, by omega⟩)] | rw [if_pos (show _ ∧ _ from by simp only [List.length_append, List.length_cons, List.length_nil]; exact ⟨by omega, by omega⟩)]); simp (config := {contextual := true, maxSteps := 1000000}) only [hy, hz, go_sem, reduceCtorEq, Nat.reduceAdd, Nat.reduceSub, Nat.reduceMul, Nat.reduceLT, Nat.reduceLeDiff, Int.reduceLT, Int.reduceLE, Int.reduceEq, Int.reduceNe, Int.reduceAdd, Int.reduceSub, Int.reduceMul, Int.reduceToNat, Int.reduceNeg, Int.reducePow, Nat.reducePow, Nat.reduceEqDiff, Nat.reduceBEq, Int.reduceBEq, Int.reduceBNe, Int.reduceNegSucc, q0, q1, q2, q3, q4, q5])
        | (simp only [thenV, blockV, if_true, if_false, Nat.reduceEqDiff, reduceCtorEq, imp_self]))
    all_goals (first | exact retA hQ Tryd.results20 (Desc.re [] rfl) | exact retN hQ Tryd.results20 (Desc.re [] rfl))
end Go.Proofs.YtonllhjmoenckaaDoor
