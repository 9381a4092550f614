/- Parts of the proofs, joined: ScrRd. -/
import Derived.Test.YtgfnpcmehnjopaaDoorS19
namespace Go.Proofs.YtgfnpcmehnjopaaDoor
open Go Go.RowKit
set_option linter.unusedVariables false
set_option linter.unusedSimpArgs false
variable {K : Nat → Obj → Prop}
set_option maxRecDepth 100000 in
set_option maxHeartbeats 4000000 in
theorem dread_0 (b : List UInt8) (hl : b.length ≤ 1000000) {s0 : Rst} (h0 : numR (b, 0) 8 3 = (0, s0)) (he : s0.2 = 0) : dreadP K b := by
  unfold dreadP
  obtain ⟨u0, D0, c0⟩ := dnum_s (K := K) (DR0 b) h0 hl (by omega) (by decide)
  obtain ⟨o, s1, h1⟩ : ∃ o s, numR s0 4611686018427387903 1 = (o, s) := ⟨_, _, rfl⟩
  obtain ⟨⟨cx, cy, cz⟩, s5, h5⟩ : ∃ c s, clockR s1 = (c, s) := ⟨_, _, rfl⟩
  obtain ⟨q, s6, h6⟩ : ∃ o s, numR s5 16 1 = (o, s) := ⟨_, _, rfl⟩
  obtain ⟨w, s7, h7⟩ : ∃ w s, writesR q s6 = (w, s) := ⟨_, _, rfl⟩
  rw [readI_of (o := o) (s1 := s1) (n := 0) (s2 := s1) (a := 0) (s3 := s1) (m := 0) (s4 := s1) (c := ⟨cx, cy, cz⟩) (s5 := s5) (q := q) (s6 := s6) (w := w) (s7 := s7) (j := 0) (s8 := s7) (k := []) (s9 := s7) h0 he (by rw [numIf_t (by omega)]; exact h1) (numIf_f (by omega) _ _) (numIf_f (by omega) _ _) (numIf_f (by omega) _ _) (by unfold clockIf; rw [if_pos rfl]; exact h5) (by rw [numIf_t rfl]; exact h6) h7 (numIf_f (by omega) _ _) rfl]
  obtain ⟨u1, D1, c1⟩ := dnum_s (K := K) D0 h1 hl (by omega) (by decide)
  obtain ⟨c, mm, er, hc⟩ : ∃ c m er, ctakeF ⟨0, 0, 0⟩ (b.drop u1) = (c, m, er) := ⟨_, _, _, rfl⟩
  have ct := fun h => rctake_s (K := K) ⟨0, 0, 0⟩ (b.drop u1) (by rw [List.length_drop]; omega) h
  rw [hc] at ct
  have hmm := sctake_le ⟨0, 0, 0⟩ (b.drop u1)
  rw [hc, List.length_drop] at hmm
  dsimp only at hmm
  obtain ⟨u5, D5, kA, kB⟩ : ∃ u5, DR b u5 s5 ∧ (s1.2 = 0 → (cx = c.x ∧ cy = c.y ∧ cz = c.z) ∧ u5 = u1 + mm ∧ s5.2 = er) ∧ (s1.2 ≠ 0 → (cx = 0 ∧ cy = 0 ∧ cz = 0) ∧ u5 = u1 ∧ s5.2 = s1.2) := by
    obtain ⟨E1, U1⟩ := D1
    unfold clockR at h5
    by_cases p : s1.2 = 0
    · rw [if_neg (by simpa using p), E1, hc] at h5
      simp only [Prod.mk.injEq] at h5
      obtain ⟨rfl, rfl⟩ := h5
      exact ⟨u1 + mm, ⟨by dsimp only; rw [List.drop_drop], by omega⟩, fun _ => ⟨⟨rfl, rfl, rfl⟩, rfl, rfl⟩, fun h => absurd p h⟩
    · rw [if_pos p] at h5
      simp only [Prod.mk.injEq, Clk.mk.injEq] at h5
      obtain ⟨⟨rfl, rfl, rfl⟩, rfl⟩ := h5
      exact ⟨u1, ⟨E1, U1⟩, fun h => absurd h p, fun _ => ⟨⟨rfl, rfl, rfl⟩, rfl, rfl⟩⟩
  obtain ⟨u6, D6, c6⟩ := dnum_s (K := K) D5 h6 hl (by omega) (by decide)
  have q16 := (numR_ok h6).1
  have cw := fun h => whoN (K := K) ⟨(0 : Nat), 0, 0, 0, 0, ⟨0, 0, 0⟩, [], []⟩ (by dsimp only; omega) h
  have cn := fun h => numberN (K := K) ⟨(0 : Nat), o, 0, 0, 0, ⟨0, 0, 0⟩, [], []⟩ (by dsimp only; omega) h
  obtain ⟨c1x, c1y, c1z⟩ := c
  have U1 := D1.2
  clear h0 h1 h5 h6 hc D0 D1 D5
  obtain ⟨b0, e0⟩ := s0
  obtain ⟨b1, e1⟩ := s1
  obtain ⟨b5, e5⟩ := s5
  obtain ⟨b6, e6⟩ := s6
  dsimp only [clkV, ckV] at *
  simp only [Int.cast_ofNat_Int] at *
  subst he
  refine Sp.of_bodyE Tryd.func49 rfl ?_
  intro Q hQ
  simp only [List.replicate, List.length_cons, List.length_nil, Tryd.ntmps49, Nat.reduceAdd, Nat.reduceSub, List.cons_append, List.nil_append, go_sem]
  have hz : True := trivial
  have hy := yieldedV_eq
  have hL := True.intro
  repeat' (first | ((with_reducible refine WPV.seqJB 14 ⟨[.sl 1 (bs b), .any, .ptr 0 0, .sc (.int .i64 0), .ptr 1 0, .ptr 2 0, .any, .any, .any, .any, .any, .any, .any, .any, .any, .any, .any, .any, .any, .any, .any, .any, .any, .any, .any, .any, .any, .any, .any, .any, .any, .any, .any, .any, .any, .any, .any, .any, .any, .any, .any, .any, .any, .any, .any, .any, .any, .any, .any, .any, .any, .any, .any, .any, .any, .any, .any, .any, .any, .any, .any, .any, .any, .any, .any, .any, .any, .any, .any, .any, .any, .any, .any, .any, .any, .any, .any, .any, .any, .any, .any, .any, .any, .any, .any, .any, .any, .any, .any, .any, .any, .any, .any, .any, .any, .any, .any, .any, .any, .any, .any, .any, .any, .any, .any, .any, .any, .any, .any, .any, .any, .any, .any, .any, .any, .any, .any, .any, .any, .any, .any, .any, .any, .any, .any, .any, .any, .any, .any, .any, .any, .any, .any, .any, .any, .any, .any, .any, .any, .any, .any, .any, .any, .any, .any, .any, .any, .any, .any, .any, .any, .any, .any, .any, .any, .any, .any, .any], [.cells (itD It.zero nilD nilD), rdD b u5 e5, .cells (itD ⟨0, o, 0, 0, 0, ⟨cx, cy, cz⟩, [], []⟩ nilD nilD)]⟩  ?_ ?_); intro N hN) | exact (Desc.re [some 0, some 1, some 2] rfl).trans jnR | (refine WPV.seqK ?_; intro N hN) | refine gA ?_ | (refine gR (M := noM) ?_; intro N hN ops hy) | (refine gD (M := noM) ?_; intro N hN; have hy := yieldedV_eq) | (refine WPV.condK ?_; intro A hA B hB) | (refine here ?_; refine sS ?_) | refine Both.mk ?_ ?_ | ((with_reducible refine CallO.gd 91 ?_); first | refine CallO.frB [1] Tryd.call91 (c0) ?_ | refine CallO.frB [1] Tryd.call91 (c1) ?_ | refine CallO.frB [1] Tryd.call91 (c6) ?_) | ((with_reducible refine CallO.gd 57 ?_); refine CallO.toB Tryd.call57 (cw _) ?_) | ((with_reducible refine CallO.gd 58 ?_); refine CallO.toB Tryd.call58 (cn _) ?_) | ((with_reducible refine CallO.gd 92 ?_); refine CallO.toB Tryd.call92 (ct _) ?_) | ((with_reducible refine CallP.gd 57 ?_); refine CallP.toB Tryd.call57 (cw _) ?_) | ((with_reducible refine CallP.gd 58 ?_); refine CallP.toB Tryd.call58 (cn _) ?_) | ((with_reducible refine CallP.gd 92 ?_); refine CallP.toB Tryd.call92 (ct _) ?_) | (refine hN _ ?_; try clear hN N; try clear hy ops) | (refine hA ?_; clear hA A hB B; try simp only [hz]) | (refine hB ?_; clear hA A hB B; try simp only [hz]) | (refine gG ?_ ?_ <;> (intro hz; have h := nm hz; try (exfalso; omega)) <;> (have hz := nz hz; try subst hz)) | (rw [if_pos (show _ ∧ _ from ⟨by omega, by omega⟩)]; refine sS ?_) | refine gT ?_ | (clear hN N))
  clear c0 c1 c6 cw cn ct kA kB
  refine WPV.loopW (α := Nat × List Wr × Rst × Nat) (fun y => q - y.1) (fun y => ⟨[.sl 1 (bs b), .any, .ptr 0 0, .sc (.int .i64 0), .ptr 1 0, .ptr 2 0, .any, .any, .any, .sc (.int .i64 (q : Int)), .sc (.int .i64 ((y.1 : Nat) : Int)), .any, .any, .any, .any, .any, .any, .any, .any, .any, .any, .any, .any, .any, .any, .any, .any, .any, .any, .any, .any, .any, .any, .any, .any, .any, .any, .any, .any, .any, .any, .any, .any, .any, .any, .any, .any, .any, .any, .any, .any, .any, .any, .any, .any, .any, .any, .any, .any, .any, .any, .any, .any, .any, .any, .any, .any, .any, .any, .any, .any, .any, .any, .any, .any, .any, .any, .any, .any, .any, .any, .any, .any, .any, .any, .any, .any, .any, .any, .any, .any, .any, .any, .any, .any, .any, .any, .any, .any, .any, .any, .any, .any, .any, .any, .any, .any, .any, .any, .any, .any, .any, .any, .any, .any, .any, .any, .any, .any, .any, .any, .any, .any, .any, .any, .any, .any, .any, .any, .any, .any, .any, .any, .any, .any, .any, .any, .any, .any, .any, .any, .any, .any, .any, .any, .any, .any, .any, .any, .any, .any, .any, .any, .any, .any, .any, .any, .any], [.cells (itD It.zero nilD nilD), rdD b y.2.2.2 y.2.2.1.2, .cells (itD ⟨0, o, 0, 0, 0, ⟨cx, cy, cz⟩, [], []⟩ (.own 3 (wrl y.2.1) 3) nilD), .tail]⟩) (fun y => WJ q (b6, e6) y.1 y.2.1 y.2.2.1 ∧ DR b y.2.2.2 y.2.2.1) (0, [], (b6, e6), u6) ((Desc.own0H 2 8 3 rfl rfl).trans Desc.weakA) ⟨⟨Nat.zero_le _, rfl, by rw [D6.1, List.length_drop]; omega, by simp⟩, D6⟩ (fun y hJ H => ?_)
  obtain ⟨i, ws, ⟨br, er2⟩, ur⟩ := y
  obtain ⟨hJ, DJ⟩ := hJ
  dsimp only at hJ DJ H ⊢
  by_cases h : i < q
  · obtain ⟨k, s2, g1⟩ : ∃ k s1, numR (br, er2) 64 1 = (k, s1) := ⟨_, _, rfl⟩
    obtain ⟨t, s3, g2⟩ : ∃ t y, textR s2 k = (t, y) := ⟨_, _, rfl⟩
    obtain ⟨n, s4, g3⟩ : ∃ n q, numR s3 257 1 = (n, q) := ⟨_, _, rfl⟩
    have k8 := (numR_ok g1).1
    have n8 := (numR_ok g3).1
    obtain ⟨v2, D2, c2⟩ := dnum_s (K := K) DJ g1 hl (by omega) (by decide)
    obtain ⟨v3, D3, c3⟩ := dtxt_s (K := K) D2 g2 hl (by omega) _ rfl
    obtain ⟨v4, D4, c4⟩ := dnum_s (K := K) D3 g3 hl (by omega) (by decide)
    have hlen := hJ.len
    by_cases hn : n = 0
    · have hw : writeR (br, er2) = (⟨t, ⟨#[]⟩, true⟩, s4) := by
        unfold writeR
        rw [g1]; dsimp only; rw [g2]; dsimp only; rw [g3]; dsimp only; rw [if_pos hn]
      have H' := H (i + 1, ws ++ [⟨t, ⟨#[]⟩, true⟩], s4, v4) ⟨hJ.nxt h hw, D4⟩ (by dsimp only; omega)
      clear H hJ DJ hw g1 g2 g3 D2 D3 D4
      subst hn
      obtain ⟨b2, e2⟩ := s2
      obtain ⟨b3, e3⟩ := s3
      obtain ⟨b4, e4⟩ := s4
      dsimp only at H' c2 c3 c4
      simp only [Int.cast_ofNat_Int] at c2 c4
      refine loopV ?_
      have hz : True := trivial
      have hy := yieldedV_eq
      have hL := True.intro
      repeat' (first | (refine WPV.seqK ?_; intro N hN) | refine gA ?_ | (refine gR (M := noM) ?_; intro N hN ops hy) | (refine gD (M := noM) ?_; intro N hN; have hy := yieldedV_eq) | (refine WPV.condK ?_; intro A hA B hB) | (refine here ?_; refine sS ?_) | refine Both.mk ?_ ?_ | ((with_reducible refine CallO.gd 91 ?_); first | refine CallO.frB [1] Tryd.call91 (c2) ?_ | refine CallO.frB [1] Tryd.call91 (c4) ?_) | ((with_reducible refine CallO.gd 93 ?_); refine CallO.frB [1] Tryd.call93 (c3) ?_) | (refine hN _ ?_; try clear hN N; try clear hy ops) | (refine hA ?_; clear hA A hB B; try simp only [hz]) | (refine hB ?_; clear hA A hB B; try simp only [hz]) | (refine gG ?_ ?_ <;> (intro hz; have h := nm hz; try (exfalso; omega)) <;> (have hz := nz hz; try subst hz)) | (rw [if_pos (show _ ∧ _ from ⟨by omega, by omega⟩)]; refine sS ?_) | refine gT ?_ | (clear hN N))
      have hL := And.intro @wrl_ap (@wrl_on)
      all_goals (exact rndZ (Desc.re [some 0, some 1, some 2, some 4] rfl) (H'))
    · obtain ⟨v, s5, g4⟩ : ∃ v s5, textR s4 (n - 1) = (v, s5) := ⟨_, _, rfl⟩
      obtain ⟨v5, D5, c5⟩ := dtxt_s (K := K) D4 g4 hl (by omega) ((n : Int) - 1) (by omega)
      have hw : writeR (br, er2) = (⟨t, v, false⟩, s5) := by
        unfold writeR
        rw [g1]; dsimp only; rw [g2]; dsimp only; rw [g3]; dsimp only; rw [if_neg hn, g4]
      have H' := H (i + 1, ws ++ [⟨t, v, false⟩], s5, v5) ⟨hJ.nxt h hw, D5⟩ (by dsimp only; omega)
      clear H hJ DJ hw g1 g2 g3 g4 D2 D3 D4 D5
      obtain ⟨b2, e2⟩ := s2
      obtain ⟨b3, e3⟩ := s3
      obtain ⟨b4, e4⟩ := s4
      obtain ⟨b5', e5'⟩ := s5
      dsimp only at H' c2 c3 c4 c5
      simp only [Int.cast_ofNat_Int] at c2 c4
      refine loopV ?_
      have hz : True := trivial
      have hy := yieldedV_eq
      have hL := True.intro
      repeat' (first | (refine WPV.seqK ?_; intro N hN) | refine gA ?_ | (refine gR (M := noM) ?_; intro N hN ops hy) | (refine gD (M := noM) ?_; intro N hN; have hy := yieldedV_eq) | (refine WPV.condK ?_; intro A hA B hB) | (refine here ?_; refine sS ?_) | refine Both.mk ?_ ?_ | ((with_reducible refine CallO.gd 91 ?_); first | refine CallO.frB [1] Tryd.call91 (c2) ?_ | refine CallO.frB [1] Tryd.call91 (c4) ?_) | ((with_reducible refine CallO.gd 93 ?_); first | refine CallO.frB [1] Tryd.call93 (c3) ?_ | refine CallO.frB [1] Tryd.call93 (c5) ?_) | ((with_reducible refine CallP.gd 93 ?_); refine CallP.frB [1] 0 Tryd.call93 (c5) ?_) | (refine hN _ ?_; try clear hN N; try clear hy ops) | (refine hA ?_; clear hA A hB B; try simp only [hz]) | (refine hB ?_; clear hA A hB B; try simp only [hz]) | (refine gG ?_ ?_ <;> (intro hz; have h := nm hz; try (exfalso; omega)) <;> (have hz := nz hz; try subst hz)) | (rw [if_pos (show _ ∧ _ from ⟨by omega, by omega⟩)]; refine sS ?_) | refine gT ?_ | (clear hN N))
      have hL := And.intro @wrl_ap (@wrl_on)
      all_goals (exact rndZ (Desc.re [some 0, some 1, some 2, some 4] rfl) (H'))
  have hw := hJ.fin h
  rw [h7] at hw
  simp only [Prod.mk.injEq] at hw
  obtain ⟨rfl, rfl⟩ := hw
  have hwlen := hJ.len
  have hwle := hJ.le
  clear H hJ h7 D6
  obtain ⟨EJ, UJ⟩ := DJ
  dsimp only at EJ
  subst EJ
  have csc := rscheck_s (K := K) ⟨(0 : Nat), o, (0 : Nat), (0 : Nat), (0 : Nat), ⟨cx, cy, cz⟩, w, []⟩ (by dsimp only; omega) (by dsimp only; omega) (by simp)
  have csc := fun h => Sp.wk (Sp.lift csc (fun _ => rfl) (fun _ => rfl) h) (Wk.agg (.same (.same (.same (.same (.same (.same (.same (.same (.same (.null (k := 1) .nil)))))))))) Wk.refl)
  unfold endI at hQ
  generalize checkI ⟨(0 : Nat), o, (0 : Nat), (0 : Nat), (0 : Nat), ⟨cx, cy, cz⟩, w, []⟩ = ck at *
  dsimp only at csc hQ
  rw [List.length_drop] at hQ
  refine WPV.desc ((Desc.weakA (tm' := [.sl 1 (bs b), .any, .ptr 0 0, .sc (.int .i64 0), .ptr 1 0, .ptr 2 0, .any, .any, .any, .sc (.int .i64 (q : Int)), .sc (.int .i64 (i : Int)), .any, .any, .any, .any, .any, .any, .any, .any, .any, .any, .any, .any, .any, .any, .any, .any, .any, .any, .any, .any, .any, .any, .any, .any, .any, .any, .any, .any, .any, .any, .any, .any, .any, .any, .any, .any, .any, .any, .any, .any, .any, .any, .any, .any, .any, .any, .any, .any, .any, .any, .any, .any, .any, .any, .any, .any, .any, .any, .any, .any, .any, .any, .any, .any, .any, .any, .any, .any, .any, .any, .any, .any, .any, .any, .any, .any, .any, .any, .any, .any, .any, .any, .any, .any, .any, .any, .any, .any, .any, .any, .any, .any, .any, .any, .any, .any, .any, .any, .any, .any, .any, .any, .any, .any, .any, .any, .any, .any, .any, .any, .any, .any, .any, .any, .any, .any, .any, .any, .any, .any, .any, .any, .any, .any, .any, .any, .any, .any, .any, .any, .any, .any, .any, .any, .any, .any, .any, .any, .any, .any, .any, .any, .any, .any, .any, .any, .any]) (h' := [.cells (itD It.zero nilD nilD), rdD b ur er2, .cells (itD ⟨0, o, 0, 0, 0, ⟨cx, cy, cz⟩, [], []⟩ (.sl 3 (wrl w)) nilD), .tail])).trans (Desc.re [some 0, some 1, some 2] rfl)) ?_
  refine loopV ?_
  have hz : True := trivial
  have hy := yieldedV_eq
  have hL := True.intro
  repeat' (first | (refine WPV.seqK ?_; intro N hN) | refine gA ?_ | (refine gR (M := noM) ?_; intro N hN ops hy) | (refine gD (M := noM) ?_; intro N hN; have hy := yieldedV_eq) | (refine WPV.condK ?_; intro A hA B hB) | (refine here ?_; refine sS ?_) | refine Both.mk ?_ ?_ | ((with_reducible refine CallO.gd 18 ?_); refine CallO.toB Tryd.call18 (csc _) ?_) | ((with_reducible refine CallP.gd 18 ?_); refine CallP.toB Tryd.call18 (csc _) ?_) | (refine hN _ ?_; try clear hN N; try clear hy ops) | (refine hA ?_; clear hA A hB B; try simp only [hz]) | (refine hB ?_; clear hA A hB B; try simp only [hz]) | (refine gG ?_ ?_ <;> (intro hz; have h := nm hz; try (exfalso; omega)) <;> (have hz := nz hz; try subst hz)) | (rw [if_pos (show _ ∧ _ from ⟨by omega, by omega⟩)]; refine sS ?_) | refine gT ?_ | (clear hN N))
  all_goals (first | exact retZ hQ Tryd.results49 (Desc.re [] rfl) | exact retZN hQ Tryd.results49 (Desc.re [] rfl))
end Go.Proofs.YtgfnpcmehnjopaaDoor
