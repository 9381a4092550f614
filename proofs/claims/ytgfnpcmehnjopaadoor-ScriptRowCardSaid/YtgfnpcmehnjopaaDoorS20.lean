/- Parts of the proofs, joined: ScrRc. -/
import Derived.Test.YtgfnpcmehnjopaaDoorS19
namespace Go.Proofs.YtgfnpcmehnjopaaDoor
open Go Go.RowKit
set_option linter.unusedVariables false
set_option linter.unusedSimpArgs false
variable {K : Nat → Obj → Prop}
set_option maxRecDepth 100000 in
set_option maxHeartbeats 4000000 in
theorem dread_o (b : List UInt8) (hl : b.length ≤ 1000000) {d : Nat} {s0 : Rst} (h0 : numR (b, 0) 8 3 = (d, s0)) (he : s0.2 = 0) (hd0 : d ≠ 0) (hd7 : d ≠ 7) (hd6 : d ≠ 6) : dreadP K b := by
  unfold dreadP
  obtain ⟨u0, D0, c0⟩ := dnum_s (K := K) (DR0 b) h0 hl (by omega) (by decide)
  have d8 := (numR_ok h0).1
  obtain ⟨o, s1, h1⟩ : ∃ o s, numIf (d < 3 ∨ d = 7 ∨ d = 8) s0 4611686018427387903 = (o, s) := ⟨_, _, rfl⟩
  obtain ⟨n, s2, h2⟩ : ∃ o s, numIf (3 ≤ d ∧ d ≤ 6 ∨ d = 8) s1 4611686018427387903 = (o, s) := ⟨_, _, rfl⟩
  obtain ⟨a, s3, h3⟩ : ∃ o s, numIf (d = 6) s2 4611686018427387903 = (o, s) := ⟨_, _, rfl⟩
  obtain ⟨m, s4, h4⟩ : ∃ o s, numIf (d = 6) s3 4294967295 = (o, s) := ⟨_, _, rfl⟩
  have m8 := (numIf_ok h4).1
  rw [readI_of h0 he h1 h2 h3 h4 (clockIf_f hd0 _) (numIf_f hd0 _ _) rfl (numIf_f hd7 _ _) rfl]
  obtain ⟨u1, D1, c1, k1⟩ : ∃ u1, DR b u1 s1 ∧ ((d < 3 ∨ d = 7 ∨ d = 8) → Sp Tryd.prog K 91 [.ptr 0 0, .sc (.int .u64 4611686018427387903), .sc (.int .i64 1)] [rdD b u0 s0.2] fun v hh => v = .sc (.int .i64 (o : Int)) ∧ hh = [rdD b u1 s1.2]) ∧ (¬ (d < 3 ∨ d = 7 ∨ d = 8) → o = 0 ∧ u1 = u0 ∧ s1.2 = s0.2) := by
    by_cases p : d < 3 ∨ d = 7 ∨ d = 8
    · rw [numIf_t p] at h1
      obtain ⟨u1, D1, c⟩ := dnum_s (K := K) D0 h1 hl (by omega) (by decide)
      exact ⟨u1, D1, fun _ => c, fun h => absurd p h⟩
    · rw [numIf_f p] at h1
      simp only [Prod.mk.injEq] at h1
      obtain ⟨rfl, rfl⟩ := h1
      exact ⟨u0, D0, fun h => absurd h p, fun _ => ⟨rfl, rfl, rfl⟩⟩
  obtain ⟨u2, D2, c2, k2⟩ : ∃ u2, DR b u2 s2 ∧ ((3 ≤ d ∧ d ≤ 6 ∨ d = 8) → Sp Tryd.prog K 91 [.ptr 0 0, .sc (.int .u64 4611686018427387903), .sc (.int .i64 1)] [rdD b u1 s1.2] fun v hh => v = .sc (.int .i64 (n : Int)) ∧ hh = [rdD b u2 s2.2]) ∧ (¬ (3 ≤ d ∧ d ≤ 6 ∨ d = 8) → n = 0 ∧ u2 = u1 ∧ s2.2 = s1.2) := by
    by_cases p : 3 ≤ d ∧ d ≤ 6 ∨ d = 8
    · rw [numIf_t p] at h2
      obtain ⟨u2, D2, c⟩ := dnum_s (K := K) D1 h2 hl (by omega) (by decide)
      exact ⟨u2, D2, fun _ => c, fun h => absurd p h⟩
    · rw [numIf_f p] at h2
      simp only [Prod.mk.injEq] at h2
      obtain ⟨rfl, rfl⟩ := h2
      exact ⟨u1, D1, fun h => absurd h p, fun _ => ⟨rfl, rfl, rfl⟩⟩
  have cw := fun h => whoN (K := K) ⟨d, 0, 0, 0, 0, ⟨0, 0, 0⟩, [], []⟩ (by dsimp only; omega) h
  have cn := fun h => numberN (K := K) ⟨d, o, 0, 0, 0, ⟨0, 0, 0⟩, [], []⟩ (by dsimp only; omega) h
  rw [numIf_f hd6] at h3
  simp only [Prod.mk.injEq] at h3
  obtain ⟨rfl, rfl⟩ := h3
  rw [numIf_f hd6] at h4
  simp only [Prod.mk.injEq] at h4
  obtain ⟨rfl, rfl⟩ := h4
  have csc := rscheck_s (K := K) ⟨d, o, n, (0 : Nat), (0 : Nat), ⟨0, 0, 0⟩, [], []⟩ (by dsimp only; omega) (by simp) (by simp)
  have csc := fun h => Sp.wk (Sp.lift csc (fun _ => rfl) (fun _ => rfl) h) (Wk.agg (.same (.same (.same (.same (.same (.same (.same (.same (.null (k := 3) (.null (k := 1) .nil)))))))))) Wk.refl)
  obtain ⟨E2, D2u⟩ := D2
  unfold endI
  rw [E2, List.length_drop]
  generalize checkI ⟨d, o, n, (0 : Nat), (0 : Nat), ⟨0, 0, 0⟩, [], []⟩ = ck at *
  clear h0 h1 h2 D0 D1 E2
  obtain ⟨b0, e0⟩ := s0
  obtain ⟨b1, e1⟩ := s1
  obtain ⟨b2, e2⟩ := s2
  dsimp only at *
  simp only [Int.cast_ofNat_Int] at *
  subst he
  refine Sp.of_bodyE Tryd.func49 rfl ?_
  intro Q hQ
  simp only [List.replicate, List.length_cons, List.length_nil, Tryd.ntmps49, Nat.reduceAdd, Nat.reduceSub, List.cons_append, List.nil_append, go_sem]
  have hz : True := trivial
  have hy := yieldedV_eq
  have hL := True.intro
  repeat' (first | ((with_reducible refine WPV.seqJB 6 ⟨[.sl 1 (bs b), .any, .ptr 0 0, .sc (.int .i64 0), .ptr 1 0, .ptr 2 0, .any, .any, .any, .any, .any, .any, .any, .any, .any, .any, .any, .any, .any, .any, .any, .any, .any, .any, .any, .any, .any, .any, .any, .any, .any, .any, .any, .any, .any, .any, .any, .any, .any, .any, .any, .any, .any, .any, .any, .any, .any, .any, .any, .any, .any, .any, .any, .any, .any, .any, .any, .any, .any, .any, .any, .any, .any, .any, .any, .any, .any, .any, .any, .any, .any, .any, .any, .any, .any, .any, .any, .any, .any, .any, .any, .any, .any, .any, .any, .any, .any, .any, .any, .any, .any, .any, .any, .any, .any, .any, .any, .any, .any, .any, .any, .any, .any, .any, .any, .any, .any, .any, .any, .any, .any, .any, .any, .any, .any, .any, .any, .any, .any, .any, .any, .any, .any, .any, .any, .any, .any, .any, .any, .any, .any, .any, .any, .any, .any, .any, .any, .any, .any, .any, .any, .any, .any, .any, .any, .any, .any, .any, .any, .any, .any, .any, .any, .any, .any, .any, .any, .any], [.cells (itD It.zero nilD nilD), rdD b u1 e1, .cells (itD ⟨d, o, 0, 0, 0, ⟨0, 0, 0⟩, [], []⟩ nilD nilD)]⟩ ?_ ?_); intro N hN) | ((with_reducible refine WPV.seqJB 8 ⟨[.sl 1 (bs b), .any, .ptr 0 0, .sc (.int .i64 0), .ptr 1 0, .ptr 2 0, .any, .any, .any, .any, .any, .any, .any, .any, .any, .any, .any, .any, .any, .any, .any, .any, .any, .any, .any, .any, .any, .any, .any, .any, .any, .any, .any, .any, .any, .any, .any, .any, .any, .any, .any, .any, .any, .any, .any, .any, .any, .any, .any, .any, .any, .any, .any, .any, .any, .any, .any, .any, .any, .any, .any, .any, .any, .any, .any, .any, .any, .any, .any, .any, .any, .any, .any, .any, .any, .any, .any, .any, .any, .any, .any, .any, .any, .any, .any, .any, .any, .any, .any, .any, .any, .any, .any, .any, .any, .any, .any, .any, .any, .any, .any, .any, .any, .any, .any, .any, .any, .any, .any, .any, .any, .any, .any, .any, .any, .any, .any, .any, .any, .any, .any, .any, .any, .any, .any, .any, .any, .any, .any, .any, .any, .any, .any, .any, .any, .any, .any, .any, .any, .any, .any, .any, .any, .any, .any, .any, .any, .any, .any, .any, .any, .any, .any, .any, .any, .any, .any, .any], [.cells (itD It.zero nilD nilD), rdD b u2 e2, .cells (itD ⟨d, o, n, 0, 0, ⟨0, 0, 0⟩, [], []⟩ nilD nilD)]⟩ ?_ ?_); intro N hN) | exact jnZ | (refine WPV.seqK ?_; intro N hN) | refine gA ?_ | (refine gR (M := noM) ?_; intro N hN ops hy) | (refine gD (M := noM) ?_; intro N hN; have hy := yieldedV_eq) | (refine WPV.condK ?_; intro A hA B hB) | (refine here ?_; refine sS ?_) | refine Both.mk ?_ ?_ | ((with_reducible refine CallO.gd 91 ?_); first | refine CallO.frB [1] Tryd.call91 (c0) ?_ | refine CallO.frB [1] Tryd.call91 (c1 (by omega)) ?_ | refine CallO.frB [1] Tryd.call91 (c2 (by omega)) ?_) | ((with_reducible refine CallO.gd 57 ?_); refine CallO.toB Tryd.call57 (cw _) ?_) | ((with_reducible refine CallO.gd 58 ?_); refine CallO.toB Tryd.call58 (cn _) ?_) | ((with_reducible refine CallO.gd 18 ?_); refine CallO.toB Tryd.call18 (csc _) ?_) | ((with_reducible refine CallP.gd 57 ?_); refine CallP.toB Tryd.call57 (cw _) ?_) | ((with_reducible refine CallP.gd 58 ?_); refine CallP.toB Tryd.call58 (cn _) ?_) | ((with_reducible refine CallP.gd 18 ?_); refine CallP.toB Tryd.call18 (csc _) ?_) | (refine hN _ ?_; try clear hN N; try clear hy ops) | (refine hA ?_; clear hA A hB B; try simp only [hz]) | (refine hB ?_; clear hA A hB B; try simp only [hz]) | (refine gG ?_ ?_ <;> (intro hz; have h := nm hz; try (exfalso; omega)) <;> (have hz := nz hz; try subst hz)) | (rw [if_pos (show _ ∧ _ from ⟨by omega, by omega⟩)]; refine sS ?_) | refine gT ?_ | (clear hN N))
  all_goals (first | exact retZ hQ Tryd.results49 (Desc.re [] rfl) | exact retZN hQ Tryd.results49 (Desc.re [] rfl))
end Go.Proofs.YtgfnpcmehnjopaaDoor
