/- Parts of the proofs, joined: ScrM. -/
import Derived.Test.YtgfnpcmehnjopaaDoorB13
namespace Go.Proofs.YtgfnpcmehnjopaaDoor
open Go Go.RowKit
set_option linter.unusedVariables false
set_option linter.unusedSimpArgs false
variable {K : Nat → Obj → Prop}
set_option maxRecDepth 100000 in
set_option maxHeartbeats 4000000 in
theorem sread_s (hT : TT K) (b : List UInt8) (hl : b.length ≤ 1000000) : Sp Tryd.prog K 47 [.sl 1 (bs b)] [] fun u hh => u = .tup [itV (readI b).1, .sc (.int .i64 (readI b).2)] ∧ hh = [] := by
  obtain ⟨d, s0, h0⟩ : ∃ o s, numR (b, 0) 8 3 = (o, s) := ⟨_, _, rfl⟩
  obtain ⟨o, s1, h1⟩ : ∃ o s, numIf ((d : Int) < 3 ∨ (d : Int) = 7 ∨ (d : Int) = 8) s0 4611686018427387903 = (o, s) := ⟨_, _, rfl⟩
  obtain ⟨n, s2, h2⟩ : ∃ o s, numIf (3 ≤ (d : Int) ∧ (d : Int) ≤ 6 ∨ (d : Int) = 8) s1 4611686018427387903 = (o, s) := ⟨_, _, rfl⟩
  obtain ⟨a, s3, h3⟩ : ∃ o s, numIf ((d : Int) = 6) s2 4611686018427387903 = (o, s) := ⟨_, _, rfl⟩
  obtain ⟨m, s4, h4⟩ : ∃ o s, numIf ((d : Int) = 6) s3 4294967295 = (o, s) := ⟨_, _, rfl⟩
  obtain ⟨⟨cx, cy, cz⟩, s5, h5⟩ : ∃ o s, clockIf (d = 0) s4 = (o, s) := ⟨_, _, rfl⟩
  obtain ⟨q, s6, h6⟩ : ∃ o s, numIf ((d : Int) = 0) s5 16 = (o, s) := ⟨_, _, rfl⟩
  obtain ⟨w, s7, h7⟩ : ∃ o s, writesR q s6 = (o, s) := ⟨_, _, rfl⟩
  obtain ⟨j, s8, h8⟩ : ∃ o s, numIf ((d : Int) = 7) s7 4 = (o, s) := ⟨_, _, rfl⟩
  obtain ⟨k, s9, h9⟩ : ∃ o s, keptR j s8 = (o, s) := ⟨_, _, rfl⟩
  rw [readI_all h0 (by rw [← h1]; exact numIf_congr (by omega) _ _) (by rw [← h2]; exact numIf_congr (by omega) _ _) (by rw [← h3]; exact numIf_congr (by omega) _ _) (by rw [← h4]; exact numIf_congr (by omega) _ _) h5 (by rw [← h6]; exact numIf_congr (by omega) _ _) h7 (by rw [← h8]; exact numIf_congr (by omega) _ _) h9]
  obtain ⟨d8, l0⟩ := numR_ok h0
  obtain ⟨o8, l1⟩ := numIf_ok h1
  obtain ⟨n8, l2⟩ := numIf_ok h2
  obtain ⟨a8, l3⟩ := numIf_ok h3
  obtain ⟨m8, l4⟩ := numIf_ok h4
  have l5 := clockIf_ok h5
  obtain ⟨q8, l6⟩ := numIf_ok h6
  obtain ⟨j8, l8⟩ := numIf_ok h8
  dsimp only at l0
  have hd : 0 ≤ (d : Int) ∧ (d : Int) ≤ 8 := by omega
  have c0 := snum_s (K := K) h0 (by dsimp only; omega) (by omega) (by decide)
  have c1 := snumn_s hT tells_3 ⟨d, 0, 0, 0, 0, ⟨0, 0, 0⟩, [], []⟩ hd h1 (by omega) (by omega)
  have c2 := snumn_s hT tells_4 ⟨d, o, 0, 0, 0, ⟨0, 0, 0⟩, [], []⟩ hd h2 (by omega) (by omega)
  have c3 := snumn_s hT tells_8 ⟨d, o, n, 0, 0, ⟨0, 0, 0⟩, [], []⟩ hd h3 (by omega) (by omega)
  have c4 := snumn_s hT tells_16 ⟨d, o, n, a, 0, ⟨0, 0, 0⟩, [], []⟩ hd h4 (by omega) (by omega)
  have ch := fun h => hasN hT tells_32 ⟨d, o, n, a, m, ⟨0, 0, 0⟩, [], []⟩ hd h
  have c6 := snumn_s hT tells_64 ⟨d, o, n, a, m, ⟨cx, cy, cz⟩, [], []⟩ hd h6 (by omega) (by omega)
  obtain ⟨b0, e0⟩ := s0
  obtain ⟨b1, e1⟩ := s1
  obtain ⟨b2, e2⟩ := s2
  obtain ⟨b3, e3⟩ := s3
  obtain ⟨b4, e4⟩ := s4
  obtain ⟨b5, e5⟩ := s5
  obtain ⟨b6, e6⟩ := s6
  dsimp only at l0 l1 l2 l3 l4 l5 l6 c0 c1 c2 c3 c4 c6 ch
  simp only [Int.cast_ofNat_Int] at c0 c1 c2 c3 c4 c6
  have hsk : ¬ (e4 = 0 ∧ (d : Int) = 0) → (cx = 0 ∧ cy = 0 ∧ cz = 0 ∧ e5 = e4) ∧ b5 = b4 := fun hn => by
    unfold clockIf at h5
    split at h5
    · unfold clockR at h5
      rw [if_pos (by dsimp only; omega)] at h5
      simp only [Prod.mk.injEq, Clk.mk.injEq] at h5
      obtain ⟨⟨rfl, rfl, rfl⟩, rfl, rfl⟩ := h5
      exact ⟨⟨rfl, rfl, rfl, rfl⟩, rfl⟩
    · simp only [Prod.mk.injEq, Clk.mk.injEq] at h5
      obtain ⟨⟨rfl, rfl, rfl⟩, rfl, rfl⟩ := h5
      exact ⟨⟨rfl, rfl, rfl, rfl⟩, rfl⟩
  have hc0 : ¬ (e4 = 0 ∧ (d : Int) = 0) → (cx = 0 ∧ cy = 0 ∧ cz = 0 ∧ e5 = e4) := fun h => (hsk h).1
  have hb5 : ¬ (e4 = 0 ∧ (d : Int) = 0) → b5 = b4 := fun h => (hsk h).2
  have cc : (d : Int) = 0 → Sp Tryd.prog K 88 [.ptr 0 0] [rdP (b4, e4)] fun u hh => u = clkV ⟨cx, cy, cz⟩ ∧ hh = [rdP (b5, e5)] := fun hd0 => by
    unfold clockIf at h5
    rw [if_pos (by omega)] at h5
    exact sclk_s h5 (by dsimp only; omega)
  have cc := fun hd0 => cc hd0
  clear h0 h1 h2 h3 h4 h5 h6 hsk
  refine Sp.of_bodyE Tryd.func47 rfl ?_
  intro Q hQ
  simp only [List.replicate, List.length_cons, List.length_nil, Tryd.ntmps47, Nat.reduceAdd, Nat.reduceSub, List.cons_append, List.nil_append, go_sem]
  have hz : True := trivial
  have hy := yieldedV_eq
  have hL := @hb5
  repeat' (first | ((with_reducible refine WPV.seqJB 8 ⟨[.any, .any, .ptr 0 0, .sc (.int .i64 0), .ptr 2 0, .ptr 3 0, .fn 87 [.ptr 2 0, .ptr 3 0], .any, .any, .any, .any, .any, .any, .any, .any, .any, .any, .any, .any, .any, .any, .any, .any, .any, .any, .any, .any, .any, .any, .any, .any, .any, .any, .any, .any, .any, .any, .any, .any, .any, .any, .any, .any, .any, .any, .any, .any, .any, .any, .any, .any, .any, .any, .any, .any, .any, .any, .any, .any, .any, .any, .any, .any, .any, .any, .any, .any, .any, .any, .any, .any, .any, .any, .any, .any, .any, .any, .any, .any, .any, .any, .any, .any, .any, .any, .any, .any, .any, .any, .any, .any, .any, .any, .any], [.cells (itE It.zero nilV nilV), rdP (b5, e5), .cells [.ptr 1 0], .cells (itE ⟨d, o, n, a, m, ⟨cx, cy, cz⟩, [], []⟩ nilV nilV)]⟩ ?_ ?_); intro N hN) | exact jnZ | (refine WPV.seqK ?_; intro N hN) | refine gA ?_ | (refine gR (M := noM) ?_; intro N hN ops hy) | (refine gD (M := noM) ?_; intro N hN; have hy := yieldedV_eq) | (refine WPV.condK ?_; intro A hA B hB) | (refine here ?_; refine sS ?_) | refine Both.mk ?_ ?_ | ((with_reducible refine CallO.gd 86 ?_); refine CallO.frB [1] Tryd.call86 (c0) ?_) | ((with_reducible refine CallO.gd 87 ?_); first | refine CallO.frB [2, 1, 3] Tryd.call87 (c1) ?_ | refine CallO.frB [2, 1, 3] Tryd.call87 (c2) ?_ | refine CallO.frB [2, 1, 3] Tryd.call87 (c3) ?_ | refine CallO.frB [2, 1, 3] Tryd.call87 (c4) ?_ | refine CallO.frB [2, 1, 3] Tryd.call87 (c6) ?_) | ((with_reducible refine CallO.gd 52 ?_); refine CallO.toB Tryd.call52 (ch _) ?_) | ((with_reducible refine CallO.gd 88 ?_); refine CallO.frB [1] Tryd.call88 (cc (by omega)) ?_) | ((with_reducible refine CallP.gd 52 ?_); refine CallP.toB Tryd.call52 (ch _) ?_) | (refine hN _ ?_; try clear hN N; try clear hy ops) | (refine hA ?_; clear hA A hB B; try simp only [hz]) | (refine hB ?_; clear hA A hB B; try simp only [hz]) | (refine gG ?_ ?_ <;> (intro hz; have h := nm hz; try (exfalso; omega)) <;> (have hz := nz hz; try subst hz)) | (rw [if_pos (show _ ∧ _ from ⟨by omega, by omega⟩)]; refine sS ?_) | refine gT ?_ | (clear hN N))
  clear c0 c1 c2 c3 c4 c6 ch cc hb5 hc0
  refine WPV.loopW (α := Nat × List Wr × Rst) (fun y => q - y.1) (fun y => ⟨[.any, .any, .ptr 0 0, .sc (.int .i64 0), .ptr 2 0, .ptr 3 0, .fn 87 [.ptr 2 0, .ptr 3 0], .any, .any, .any, .any, .any, .any, .any, .any, .any, .any, .any, .any, .any, .any, .any, .any, .any, .any, .any, .any, .any, .any, .any, .any, .any, .any, .any, .any, .any, .any, .any, .any, .any, .sc (.int .i64 (q : Int)), .sc (.int .i64 ((y.1 : Nat) : Int)), .any, .any, .any, .any, .any, .any, .any, .any, .any, .any, .any, .any, .any, .any, .any, .any, .any, .any, .any, .any, .any, .any, .any, .any, .any, .any, .any, .any, .any, .any, .any, .any, .any, .any, .any, .any, .any, .any, .any, .any, .any, .any, .any, .any, .any, .any, .any, .any, .any, .any, .any, .any], [.cells (itE It.zero nilV nilV), rdP y.2.2, .cells [.ptr 1 0], .cells (itE ⟨d, o, n, a, m, ⟨cx, cy, cz⟩, [], []⟩ (.own 3 (wrl y.2.1) 4) nilV), .tail]⟩) (fun y => WJ q (b6, e6) y.1 y.2.1 y.2.2) (0, [], (b6, e6)) ((Desc.own0H 3 8 3 rfl rfl).trans Desc.weakA) ⟨Nat.zero_le _, rfl, by dsimp only; omega, by simp⟩ (fun y hJ H => ?_)
  obtain ⟨i, ws, br, er⟩ := y
  dsimp only at hJ H ⊢
  by_cases h : i < q
  · obtain ⟨y, s', hw⟩ : ∃ y s', writeR (br, er) = (y, s') := ⟨_, _, rfl⟩
    have cw := swr_s (K := K) hw (by have := hJ.bl; dsimp only at this ⊢; omega)
    have hlen := hJ.len
    have H' := H (i + 1, ws ++ [y], s') (hJ.nxt h hw) (by dsimp only; omega)
    clear H hJ hw
    obtain ⟨b', e'⟩ := s'
    dsimp only at H'
    refine loopV ?_
    have hz : True := trivial
    have hy := yieldedV_eq
    have hL := True.intro
    repeat' (first | (refine WPV.seqK ?_; intro N hN) | refine gA ?_ | (refine gR (M := noM) ?_; intro N hN ops hy) | (refine gD (M := noM) ?_; intro N hN; have hy := yieldedV_eq) | (refine WPV.condK ?_; intro A hA B hB) | (refine here ?_; refine sS ?_) | refine Both.mk ?_ ?_ | ((with_reducible refine CallO.gd 89 ?_); refine CallO.frB [1] Tryd.call89 (cw) ?_) | ((with_reducible refine CallP.gd 89 ?_); refine CallP.frB [1] 0 Tryd.call89 (cw) ?_) | (refine hN _ ?_; try clear hN N; try clear hy ops) | (refine hA ?_; clear hA A hB B; try simp only [hz]) | (refine hB ?_; clear hA A hB B; try simp only [hz]) | (refine gG ?_ ?_ <;> (intro hz; have h := nm hz; try (exfalso; omega)) <;> (have hz := nz hz; try subst hz)) | (rw [if_pos (show _ ∧ _ from ⟨by omega, by omega⟩)]; refine sS ?_) | refine gT ?_ | (clear hN N))
    all_goals (exact rndZ (Desc.re [some 0, some 1, some 2, some 3, some 5] rfl) (H'))
  have hw := hJ.fin h
  have hbl := hJ.bl
  rw [h7] at hw
  simp only [Prod.mk.injEq] at hw
  obtain ⟨rfl, rfl⟩ := hw
  have hwl : i = q := by have := hJ.le; omega
  have hwlen := hJ.len
  subst hwl
  clear H hJ h7
  dsimp only at hbl
  have c8 := snumw_s hT ⟨d, o, n, a, m, ⟨cx, cy, cz⟩, w, []⟩ hd h8 (by dsimp only; omega)
  have hj7 : 0 < j → (d : Int) = 7 := fun hj => by
    unfold numIf at h8
    split at h8
    · assumption
    · simp only [Prod.mk.injEq] at h8
      omega
  clear h8
  obtain ⟨b8, e8⟩ := s8
  dsimp only at l8 c8
  refine WPV.desc ((Desc.weakA (tm' := [.any, .any, .ptr 0 0, .sc (.int .i64 0), .ptr 2 0, .ptr 3 0, .fn 87 [.ptr 2 0, .ptr 3 0], .any, .any, .any, .any, .any, .any, .any, .any, .any, .any, .any, .any, .any, .any, .any, .any, .any, .any, .any, .any, .any, .any, .any, .any, .any, .any, .any, .any, .any, .any, .any, .any, .any, .sc (.int .i64 (i : Int)), .sc (.int .i64 (i : Int)), .any, .any, .any, .any, .any, .any, .any, .any, .any, .any, .any, .any, .any, .any, .any, .any, .any, .any, .any, .any, .any, .any, .any, .any, .any, .any, .any, .any, .any, .any, .any, .any, .any, .any, .any, .any, .any, .any, .any, .any, .any, .any, .any, .any, .any, .any, .any, .any, .any, .any, .any, .any]) (h' := [.cells (itE It.zero nilV nilV), rdP (br, er), .cells [.ptr 1 0], .cells (itE ⟨d, o, n, a, m, ⟨cx, cy, cz⟩, [], []⟩ (.sl 3 (wrl w)) nilV), .tail])).trans (Desc.re [some 0, some 1, some 2, some 3] rfl)) ?_
  refine loopV ?_
  have hz : True := trivial
  have hy := yieldedV_eq
  have hL := True.intro
  repeat' (first | (refine WPV.seqK ?_; intro N hN) | refine gA ?_ | (refine gR (M := noM) ?_; intro N hN ops hy) | (refine gD (M := noM) ?_; intro N hN; have hy := yieldedV_eq) | (refine WPV.condK ?_; intro A hA B hB) | (refine here ?_; refine sS ?_) | refine Both.mk ?_ ?_ | ((with_reducible refine CallO.gd 87 ?_); refine CallO.frB [2, 1, 3] Tryd.call87 (c8) ?_) | (refine hN _ ?_; try clear hN N; try clear hy ops) | (refine hA ?_; clear hA A hB B; try simp only [hz]) | (refine hB ?_; clear hA A hB B; try simp only [hz]) | (refine gG ?_ ?_ <;> (intro hz; have h := nm hz; try (exfalso; omega)) <;> (have hz := nz hz; try subst hz)) | (rw [if_pos (show _ ∧ _ from ⟨by omega, by omega⟩)]; refine sS ?_) | refine gT ?_ | (clear hN N))
  clear c8
  refine WPV.loopW (α := Nat × List Int × Rst) (fun y => j - y.1) (fun y => ⟨[.any, .any, .ptr 0 0, .sc (.int .i64 0), .ptr 2 0, .ptr 3 0, .fn 87 [.ptr 2 0, .ptr 3 0], .any, .any, .any, .any, .any, .any, .any, .any, .any, .any, .any, .any, .any, .any, .any, .any, .any, .any, .any, .any, .any, .any, .any, .any, .any, .any, .any, .any, .any, .any, .any, .any, .any, .any, .any, .any, .any, .any, .any, .any, .any, .any, .any, .any, .any, .sc (.int .i64 (j : Int)), .sc (.int .i64 ((y.1 : Nat) : Int)), .any, .any, .any, .any, .any, .any, .any, .any, .any, .any, .any, .any, .any, .any, .any, .any, .any, .any, .any, .any, .any, .any, .any, .any, .any, .any, .any, .any, .any, .any, .any, .any, .any, .any, .any, .any, .any, .any, .any, .any], [.cells (itE It.zero nilV nilV), rdP y.2.2, .cells [.ptr 1 0], .cells (itE ⟨d, o, n, a, m, ⟨cx, cy, cz⟩, [], []⟩ (.sl 3 (wrl w)) (.own 1 (il y.2.1) 4)), .tail]⟩) (fun y => KJ j (b8, e8) y.1 y.2.1 y.2.2) (0, [], (b8, e8)) ((Desc.own0H 3 9 1 rfl rfl).trans Desc.weakA) ⟨Nat.zero_le _, rfl, by dsimp only; omega, by simp⟩ (fun y hJ H => ?_)
  obtain ⟨i2, ks, br2, er2⟩ := y
  dsimp only at hJ H ⊢
  by_cases h : i2 < j
  · obtain ⟨y, s', hw⟩ : ∃ y s', numR (br2, er2) 4611686018427387903 1 = (y, s') := ⟨_, _, rfl⟩
    have cn := snumk_s hT ⟨d, o, n, a, m, ⟨cx, cy, cz⟩, w, ks⟩ (hj7 (by omega)) hw (by have := hJ.bl; dsimp only at this ⊢; omega)
    have hlen := hJ.len
    have H' := H (i2 + 1, ks ++ [(y : Int)], s') (hJ.nxt h hw) (by dsimp only; omega)
    clear H hJ hw
    obtain ⟨b', e'⟩ := s'
    dsimp only at H' cn
    refine loopV ?_
    have hz : True := trivial
    have hy := yieldedV_eq
    have hL := True.intro
    repeat' (first | (refine WPV.seqK ?_; intro N hN) | refine gA ?_ | (refine gR (M := noM) ?_; intro N hN ops hy) | (refine gD (M := noM) ?_; intro N hN; have hy := yieldedV_eq) | (refine WPV.condK ?_; intro A hA B hB) | (refine here ?_; refine sS ?_) | refine Both.mk ?_ ?_ | ((with_reducible refine CallP.gd 87 ?_); refine CallP.frC [2, 3, 4] [2, 1, 3, 4] 0 Tryd.call87 (cn) ?_) | (refine hN _ ?_; try clear hN N; try clear hy ops) | (refine hA ?_; clear hA A hB B; try simp only [hz]) | (refine hB ?_; clear hA A hB B; try simp only [hz]) | (refine gG ?_ ?_ <;> (intro hz; have h := nm hz; try (exfalso; omega)) <;> (have hz := nz hz; try subst hz)) | (rw [if_pos (show _ ∧ _ from ⟨by omega, by omega⟩)]; refine sS ?_) | refine gT ?_ | (clear hN N))
    all_goals (exact rndZ (Desc.re [some 0, some 1, some 2, some 3, some 5] rfl) (H'))
  have hw := hJ.fin h
  have hbl2 := hJ.bl
  rw [h9] at hw
  simp only [Prod.mk.injEq] at hw
  obtain ⟨rfl, rfl⟩ := hw
  have hkl := hJ.len
  have hjl := hJ.le
  clear H hJ h9
  dsimp only at hbl2
  have csc := scheck_s hT ⟨d, o, n, a, m, ⟨cx, cy, cz⟩, w, k⟩ (by dsimp only; omega) (by dsimp only; omega)
  have csc := fun h => Sp.lift csc (fun _ => rfl) (fun _ => rfl) h
  unfold endI at hQ
  generalize checkI ⟨d, o, n, a, m, ⟨cx, cy, cz⟩, w, k⟩ = ck at *
  dsimp only at csc hQ
  refine WPV.desc ((Desc.weakA (tm' := [.any, .any, .ptr 0 0, .sc (.int .i64 0), .ptr 2 0, .ptr 3 0, .fn 87 [.ptr 2 0, .ptr 3 0], .any, .any, .any, .any, .any, .any, .any, .any, .any, .any, .any, .any, .any, .any, .any, .any, .any, .any, .any, .any, .any, .any, .any, .any, .any, .any, .any, .any, .any, .any, .any, .any, .any, .any, .any, .any, .any, .any, .any, .any, .any, .any, .any, .any, .any, .sc (.int .i64 (j : Int)), .sc (.int .i64 (i2 : Int)), .any, .any, .any, .any, .any, .any, .any, .any, .any, .any, .any, .any, .any, .any, .any, .any, .any, .any, .any, .any, .any, .any, .any, .any, .any, .any, .any, .any, .any, .any, .any, .any, .any, .any, .any, .any, .any, .any, .any, .any]) (h' := [.cells (itE It.zero nilV nilV), rdP (br2, er2), .cells [.ptr 1 0], .cells (itE ⟨d, o, n, a, m, ⟨cx, cy, cz⟩, [], []⟩ (.sl 3 (wrl w)) (.sl 1 (il k))), .tail])).trans (Desc.re [some 0, some 1, some 2, some 3] rfl)) ?_
  refine loopV ?_
  have hz : True := trivial
  have hy := yieldedV_eq
  have hL := True.intro
  repeat' (first | (refine WPV.seqK ?_; intro N hN) | refine gA ?_ | (refine gR (M := noM) ?_; intro N hN ops hy) | (refine gD (M := noM) ?_; intro N hN; have hy := yieldedV_eq) | (refine WPV.condK ?_; intro A hA B hB) | (refine here ?_; refine sS ?_) | refine Both.mk ?_ ?_ | ((with_reducible refine CallO.gd 17 ?_); refine CallO.toB Tryd.call17 (csc _) ?_) | ((with_reducible refine CallP.gd 17 ?_); refine CallP.toB Tryd.call17 (csc _) ?_) | (refine hN _ ?_; try clear hN N; try clear hy ops) | (refine hA ?_; clear hA A hB B; try simp only [hz]) | (refine hB ?_; clear hA A hB B; try simp only [hz]) | (refine gG ?_ ?_ <;> (intro hz; have h := nm hz; try (exfalso; omega)) <;> (have hz := nz hz; try subst hz)) | (rw [if_pos (show _ ∧ _ from ⟨by omega, by omega⟩)]; refine sS ?_) | refine gT ?_ | (clear hN N))
  all_goals (first | exact retZ hQ Tryd.results47 (Desc.re [] rfl) | exact retZN hQ Tryd.results47 (Desc.re [] rfl))
end Go.Proofs.YtgfnpcmehnjopaaDoor
