/- Parts of the proofs, joined: ScrD. -/
import Derived.Test.YtgfnpcmehnjopaaDoorB11
namespace Go.Proofs.YtgfnpcmehnjopaaDoor
open Go Go.RowKit
set_option linter.unusedVariables false
set_option linter.unusedSimpArgs false
variable {K : Nat → Obj → Prop}
set_option maxRecDepth 100000 in
set_option maxHeartbeats 4000000 in
theorem scheck_s (hT : TT K) (x : It) (hl : x.w.length ≤ 9223372036854775807) (hk : x.k.length ≤ 9223372036854775807) : Sp Tryd.prog K 17 [itV x] [] fun u hh => u = .sc (.int .i64 (checkI x)) ∧ hh = [] := by
  by_cases h1 : x.d < 0 ∨ 8 < x.d
  · have e : checkI x = 3 := by unfold checkI; rw [if_pos h1]
    rw [e]
    obtain ⟨d, o, n, a, m, ⟨cx, cy, cz⟩, w, k⟩ := x
    dsimp only at h1 ⊢
    have cw := True.intro
    have cr := True.intro
    have ct := True.intro
    have co := True.intro
    have c4 := True.intro
    have c8 := True.intro
    have c16 := True.intro
    have c32 := True.intro
    have c128 := True.intro
    have q := True.intro
    refine Sp.of_bodyE Tryd.func17 rfl ?_
    intro Q hQ
    simp only [List.replicate, List.length_cons, List.length_nil, Tryd.ntmps17, Nat.reduceAdd, Nat.reduceSub, List.cons_append, List.nil_append, go_sem]
    have hz : True := trivial
    have hy := yieldedV_eq
    have hL := @q
    repeat' (first | (refine WPV.seqK ?_; intro N hN) | refine gA ?_ | (refine gR (M := noM) ?_; intro N hN ops hy) | (refine gD (M := noM) ?_; intro N hN; have hy := yieldedV_eq) | (refine WPV.condK ?_; intro A hA B hB) | (refine here ?_; refine sS ?_) | refine Both.mk ?_ ?_ | ((with_reducible refine CallO.gd 50 ?_); refine CallO.frB [] Tryd.call50 (cw) ?_) | ((with_reducible refine CallO.gd 53 ?_); refine CallO.toB Tryd.call53 (cr _) ?_) | ((with_reducible refine CallO.gd 54 ?_); refine CallO.frB [] Tryd.call54 (ct) ?_) | ((with_reducible refine CallO.gd 55 ?_); refine CallO.frB [] Tryd.call55 (co) ?_) | ((with_reducible refine CallO.gd 52 ?_); first | refine CallO.toB Tryd.call52 (c4 _) ?_ | refine CallO.toB Tryd.call52 (c8 _) ?_ | refine CallO.toB Tryd.call52 (c16 _) ?_ | refine CallO.toB Tryd.call52 (c32 _) ?_ | refine CallO.toB Tryd.call52 (c128 _) ?_) | ((with_reducible refine CallO.gd 51 ?_); first | refine CallO.toB Tryd.call51 (within_s n 1048576 _ _) ?_ | refine CallO.toB Tryd.call51 (within_s a 1048576 _ _) ?_) | ((with_reducible refine CallP.gd 53 ?_); refine CallP.toB Tryd.call53 (cr _) ?_) | ((with_reducible refine CallP.gd 52 ?_); first | refine CallP.toB Tryd.call52 (c4 _) ?_ | refine CallP.toB Tryd.call52 (c8 _) ?_ | refine CallP.toB Tryd.call52 (c16 _) ?_ | refine CallP.toB Tryd.call52 (c32 _) ?_ | refine CallP.toB Tryd.call52 (c128 _) ?_) | ((with_reducible refine CallP.gd 51 ?_); first | refine CallP.toB Tryd.call51 (within_s n 1048576 _ _) ?_ | refine CallP.toB Tryd.call51 (within_s a 1048576 _ _) ?_) | (refine hN _ ?_; try clear hN N; try clear hy ops) | (refine hA ?_; clear hA A hB B; try simp only [hz]) | (refine hB ?_; clear hA A hB B; try simp only [hz]) | (refine gG ?_ ?_ <;> (intro hz; have h := nm hz; try (exfalso; omega)) <;> (have hz := nz hz; try subst hz)) | (rw [if_pos (show _ ∧ _ from ⟨by omega, by omega⟩)]; refine sS ?_) | refine gT ?_ | (clear hN N))
    all_goals (first | exact retZ hQ Tryd.results17 (Desc.re [] rfl) | exact retZN hQ Tryd.results17 (Desc.re [] rfl))
  have hd : 0 ≤ x.d ∧ x.d ≤ 8 := by omega
  have c4 := fun h => hasP hT tells_4 x hd h
  have c8 := fun h => hasP hT tells_8 x hd h
  have c16 := fun h => hasP hT tells_16 x hd h
  have c32 := fun h => hasP hT tells_32 x hd h
  have c128 := fun h => hasP hT tells_128 x hd h
  have cw := who_s hT x hd
  have ct := wrote_s hT x hd hl
  have cr := fun h => cright_s (K := K) x.c h
  have co := odd1_any (K := K) x.k hk
  unfold checkI
  obtain ⟨d, o, n, a, m, ⟨cx, cy, cz⟩, w, k⟩ := x
  dsimp only [clkV] at cr cw ct co c4 c8 c16 c32 c128 h1 hl hk hd ⊢
  generalize rightF ⟨cx, cy, cz⟩ = r at *
  generalize k.any odd1 = b at *
  generalize wroteE w = e at *
  by_cases hc : cx = 0 ∧ cy = 0 ∧ cz = 0
  · obtain ⟨rfl, rfl, rfl⟩ := hc
    have q := True.intro
    have e1 : ∀ p : Prop, ((¬ ((0 : Int) = 0 ∧ (0 : Int) = 0 ∧ (0 : Int) = 0)) ∧ p) = False := fun p => by simp
    simp only [e1, if_false]
    cases r with
    | true =>
      cases b with
      | true =>
        refine Sp.of_bodyE Tryd.func17 rfl ?_
        intro Q hQ
        simp only [List.replicate, List.length_cons, List.length_nil, Tryd.ntmps17, Nat.reduceAdd, Nat.reduceSub, List.cons_append, List.nil_append, go_sem]
        have hz : True := trivial
        have hy := yieldedV_eq
        have hL := @q
        repeat' (first | (refine WPV.seqK ?_; intro N hN) | refine gA ?_ | (refine gR (M := noM) ?_; intro N hN ops hy) | (refine gD (M := noM) ?_; intro N hN; have hy := yieldedV_eq) | (refine WPV.condK ?_; intro A hA B hB) | (refine here ?_; refine sS ?_) | refine Both.mk ?_ ?_ | ((with_reducible refine CallO.gd 50 ?_); refine CallO.frB [] Tryd.call50 (cw) ?_) | ((with_reducible refine CallO.gd 53 ?_); refine CallO.toB Tryd.call53 (cr _) ?_) | ((with_reducible refine CallO.gd 54 ?_); refine CallO.frB [] Tryd.call54 (ct) ?_) | ((with_reducible refine CallO.gd 55 ?_); refine CallO.frB [] Tryd.call55 (co) ?_) | ((with_reducible refine CallO.gd 52 ?_); first | refine CallO.toB Tryd.call52 (c4 _) ?_ | refine CallO.toB Tryd.call52 (c8 _) ?_ | refine CallO.toB Tryd.call52 (c16 _) ?_ | refine CallO.toB Tryd.call52 (c32 _) ?_ | refine CallO.toB Tryd.call52 (c128 _) ?_) | ((with_reducible refine CallO.gd 51 ?_); first | refine CallO.toB Tryd.call51 (within_s n 1048576 _ _) ?_ | refine CallO.toB Tryd.call51 (within_s a 1048576 _ _) ?_) | ((with_reducible refine CallP.gd 53 ?_); refine CallP.toB Tryd.call53 (cr _) ?_) | ((with_reducible refine CallP.gd 52 ?_); first | refine CallP.toB Tryd.call52 (c4 _) ?_ | refine CallP.toB Tryd.call52 (c8 _) ?_ | refine CallP.toB Tryd.call52 (c16 _) ?_ | refine CallP.toB Tryd.call52 (c32 _) ?_ | refine CallP.toB Tryd.call52 (c128 _) ?_) | ((with_reducible refine CallP.gd 51 ?_); first | refine CallP.toB Tryd.call51 (within_s n 1048576 _ _) ?_ | refine CallP.toB Tryd.call51 (within_s a 1048576 _ _) ?_) | (refine hN _ ?_; try clear hN N; try clear hy ops) | (refine hA ?_; clear hA A hB B; try simp only [hz]) | (refine hB ?_; clear hA A hB B; try simp only [hz]) | (refine gG ?_ ?_ <;> (intro hz; have h := nm hz; try (exfalso; omega)) <;> (have hz := nz hz; try subst hz)) | (rw [if_pos (show _ ∧ _ from ⟨by omega, by omega⟩)]; refine sS ?_) | refine gT ?_ | (clear hN N))
        all_goals (first | exact retZ hQ Tryd.results17 (Desc.re [] rfl) | exact retZN hQ Tryd.results17 (Desc.re [] rfl))
      | false =>
        refine Sp.of_bodyE Tryd.func17 rfl ?_
        intro Q hQ
        simp only [List.replicate, List.length_cons, List.length_nil, Tryd.ntmps17, Nat.reduceAdd, Nat.reduceSub, List.cons_append, List.nil_append, go_sem]
        have hz : True := trivial
        have hy := yieldedV_eq
        have hL := @q
        repeat' (first | (refine WPV.seqK ?_; intro N hN) | refine gA ?_ | (refine gR (M := noM) ?_; intro N hN ops hy) | (refine gD (M := noM) ?_; intro N hN; have hy := yieldedV_eq) | (refine WPV.condK ?_; intro A hA B hB) | (refine here ?_; refine sS ?_) | refine Both.mk ?_ ?_ | ((with_reducible refine CallO.gd 50 ?_); refine CallO.frB [] Tryd.call50 (cw) ?_) | ((with_reducible refine CallO.gd 53 ?_); refine CallO.toB Tryd.call53 (cr _) ?_) | ((with_reducible refine CallO.gd 54 ?_); refine CallO.frB [] Tryd.call54 (ct) ?_) | ((with_reducible refine CallO.gd 55 ?_); refine CallO.frB [] Tryd.call55 (co) ?_) | ((with_reducible refine CallO.gd 52 ?_); first | refine CallO.toB Tryd.call52 (c4 _) ?_ | refine CallO.toB Tryd.call52 (c8 _) ?_ | refine CallO.toB Tryd.call52 (c16 _) ?_ | refine CallO.toB Tryd.call52 (c32 _) ?_ | refine CallO.toB Tryd.call52 (c128 _) ?_) | ((with_reducible refine CallO.gd 51 ?_); first | refine CallO.toB Tryd.call51 (within_s n 1048576 _ _) ?_ | refine CallO.toB Tryd.call51 (within_s a 1048576 _ _) ?_) | ((with_reducible refine CallP.gd 53 ?_); refine CallP.toB Tryd.call53 (cr _) ?_) | ((with_reducible refine CallP.gd 52 ?_); first | refine CallP.toB Tryd.call52 (c4 _) ?_ | refine CallP.toB Tryd.call52 (c8 _) ?_ | refine CallP.toB Tryd.call52 (c16 _) ?_ | refine CallP.toB Tryd.call52 (c32 _) ?_ | refine CallP.toB Tryd.call52 (c128 _) ?_) | ((with_reducible refine CallP.gd 51 ?_); first | refine CallP.toB Tryd.call51 (within_s n 1048576 _ _) ?_ | refine CallP.toB Tryd.call51 (within_s a 1048576 _ _) ?_) | (refine hN _ ?_; try clear hN N; try clear hy ops) | (refine hA ?_; clear hA A hB B; try simp only [hz]) | (refine hB ?_; clear hA A hB B; try simp only [hz]) | (refine gG ?_ ?_ <;> (intro hz; have h := nm hz; try (exfalso; omega)) <;> (have hz := nz hz; try subst hz)) | (rw [if_pos (show _ ∧ _ from ⟨by omega, by omega⟩)]; refine sS ?_) | refine gT ?_ | (clear hN N))
        all_goals (first | exact retZ hQ Tryd.results17 (Desc.re [] rfl) | exact retZN hQ Tryd.results17 (Desc.re [] rfl))
    | false =>
      refine Sp.of_bodyE Tryd.func17 rfl ?_
      intro Q hQ
      simp only [List.replicate, List.length_cons, List.length_nil, Tryd.ntmps17, Nat.reduceAdd, Nat.reduceSub, List.cons_append, List.nil_append, go_sem]
      have hz : True := trivial
      have hy := yieldedV_eq
      have hL := @q
      repeat' (first | (refine WPV.seqK ?_; intro N hN) | refine gA ?_ | (refine gR (M := noM) ?_; intro N hN ops hy) | (refine gD (M := noM) ?_; intro N hN; have hy := yieldedV_eq) | (refine WPV.condK ?_; intro A hA B hB) | (refine here ?_; refine sS ?_) | refine Both.mk ?_ ?_ | ((with_reducible refine CallO.gd 50 ?_); refine CallO.frB [] Tryd.call50 (cw) ?_) | ((with_reducible refine CallO.gd 53 ?_); refine CallO.toB Tryd.call53 (cr _) ?_) | ((with_reducible refine CallO.gd 54 ?_); refine CallO.frB [] Tryd.call54 (ct) ?_) | ((with_reducible refine CallO.gd 55 ?_); refine CallO.frB [] Tryd.call55 (co) ?_) | ((with_reducible refine CallO.gd 52 ?_); first | refine CallO.toB Tryd.call52 (c4 _) ?_ | refine CallO.toB Tryd.call52 (c8 _) ?_ | refine CallO.toB Tryd.call52 (c16 _) ?_ | refine CallO.toB Tryd.call52 (c32 _) ?_ | refine CallO.toB Tryd.call52 (c128 _) ?_) | ((with_reducible refine CallO.gd 51 ?_); first | refine CallO.toB Tryd.call51 (within_s n 1048576 _ _) ?_ | refine CallO.toB Tryd.call51 (within_s a 1048576 _ _) ?_) | ((with_reducible refine CallP.gd 53 ?_); refine CallP.toB Tryd.call53 (cr _) ?_) | ((with_reducible refine CallP.gd 52 ?_); first | refine CallP.toB Tryd.call52 (c4 _) ?_ | refine CallP.toB Tryd.call52 (c8 _) ?_ | refine CallP.toB Tryd.call52 (c16 _) ?_ | refine CallP.toB Tryd.call52 (c32 _) ?_ | refine CallP.toB Tryd.call52 (c128 _) ?_) | ((with_reducible refine CallP.gd 51 ?_); first | refine CallP.toB Tryd.call51 (within_s n 1048576 _ _) ?_ | refine CallP.toB Tryd.call51 (within_s a 1048576 _ _) ?_) | (refine hN _ ?_; try clear hN N; try clear hy ops) | (refine hA ?_; clear hA A hB B; try simp only [hz]) | (refine hB ?_; clear hA A hB B; try simp only [hz]) | (refine gG ?_ ?_ <;> (intro hz; have h := nm hz; try (exfalso; omega)) <;> (have hz := nz hz; try subst hz)) | (rw [if_pos (show _ ∧ _ from ⟨by omega, by omega⟩)]; refine sS ?_) | refine gT ?_ | (clear hN N))
      all_goals (first | exact retZ hQ Tryd.results17 (Desc.re [] rfl) | exact retZN hQ Tryd.results17 (Desc.re [] rfl))
  · have q : (cx == 0 && (cy == 0 && cz == 0)) = false := by
      cases h : (cx == 0 && (cy == 0 && cz == 0))
      · rfl
      · exact absurd (by simpa using h) hc
    have e1 : ∀ p : Prop, ((¬ (cx = 0 ∧ cy = 0 ∧ cz = 0)) ∧ p) = p := fun p => propext ⟨fun h => h.2, fun h => ⟨hc, h⟩⟩
    simp only [e1]
    clear hc e1
    cases r with
    | true =>
      cases b with
      | true =>
        refine Sp.of_bodyE Tryd.func17 rfl ?_
        intro Q hQ
        simp only [List.replicate, List.length_cons, List.length_nil, Tryd.ntmps17, Nat.reduceAdd, Nat.reduceSub, List.cons_append, List.nil_append, go_sem]
        have hz : True := trivial
        have hy := yieldedV_eq
        have hL := @q
        repeat' (first | (refine WPV.seqK ?_; intro N hN) | refine gA ?_ | (refine gR (M := noM) ?_; intro N hN ops hy) | (refine gD (M := noM) ?_; intro N hN; have hy := yieldedV_eq) | (refine WPV.condK ?_; intro A hA B hB) | (refine here ?_; refine sS ?_) | refine Both.mk ?_ ?_ | ((with_reducible refine CallO.gd 50 ?_); refine CallO.frB [] Tryd.call50 (cw) ?_) | ((with_reducible refine CallO.gd 53 ?_); refine CallO.toB Tryd.call53 (cr _) ?_) | ((with_reducible refine CallO.gd 54 ?_); refine CallO.frB [] Tryd.call54 (ct) ?_) | ((with_reducible refine CallO.gd 55 ?_); refine CallO.frB [] Tryd.call55 (co) ?_) | ((with_reducible refine CallO.gd 52 ?_); first | refine CallO.toB Tryd.call52 (c4 _) ?_ | refine CallO.toB Tryd.call52 (c8 _) ?_ | refine CallO.toB Tryd.call52 (c16 _) ?_ | refine CallO.toB Tryd.call52 (c32 _) ?_ | refine CallO.toB Tryd.call52 (c128 _) ?_) | ((with_reducible refine CallO.gd 51 ?_); first | refine CallO.toB Tryd.call51 (within_s n 1048576 _ _) ?_ | refine CallO.toB Tryd.call51 (within_s a 1048576 _ _) ?_) | ((with_reducible refine CallP.gd 53 ?_); refine CallP.toB Tryd.call53 (cr _) ?_) | ((with_reducible refine CallP.gd 52 ?_); first | refine CallP.toB Tryd.call52 (c4 _) ?_ | refine CallP.toB Tryd.call52 (c8 _) ?_ | refine CallP.toB Tryd.call52 (c16 _) ?_ | refine CallP.toB Tryd.call52 (c32 _) ?_ | refine CallP.toB Tryd.call52 (c128 _) ?_) | ((with_reducible refine CallP.gd 51 ?_); first | refine CallP.toB Tryd.call51 (within_s n 1048576 _ _) ?_ | refine CallP.toB Tryd.call51 (within_s a 1048576 _ _) ?_) | (refine hN _ ?_; try clear hN N; try clear hy ops) | (refine hA ?_; clear hA A hB B; try simp only [hz]) | (refine hB ?_; clear hA A hB B; try simp only [hz]) | (refine gG ?_ ?_ <;> (intro hz; have h := nm hz; try (exfalso; omega)) <;> (have hz := nz hz; try subst hz)) | (rw [if_pos (show _ ∧ _ from ⟨by omega, by omega⟩)]; refine sS ?_) | refine gT ?_ | (clear hN N))
        all_goals (first | exact retZ hQ Tryd.results17 (Desc.re [] rfl) | exact retZN hQ Tryd.results17 (Desc.re [] rfl))
      | false =>
        refine Sp.of_bodyE Tryd.func17 rfl ?_
        intro Q hQ
        simp only [List.replicate, List.length_cons, List.length_nil, Tryd.ntmps17, Nat.reduceAdd, Nat.reduceSub, List.cons_append, List.nil_append, go_sem]
        have hz : True := trivial
        have hy := yieldedV_eq
        have hL := @q
        repeat' (first | (refine WPV.seqK ?_; intro N hN) | refine gA ?_ | (refine gR (M := noM) ?_; intro N hN ops hy) | (refine gD (M := noM) ?_; intro N hN; have hy := yieldedV_eq) | (refine WPV.condK ?_; intro A hA B hB) | (refine here ?_; refine sS ?_) | refine Both.mk ?_ ?_ | ((with_reducible refine CallO.gd 50 ?_); refine CallO.frB [] Tryd.call50 (cw) ?_) | ((with_reducible refine CallO.gd 53 ?_); refine CallO.toB Tryd.call53 (cr _) ?_) | ((with_reducible refine CallO.gd 54 ?_); refine CallO.frB [] Tryd.call54 (ct) ?_) | ((with_reducible refine CallO.gd 55 ?_); refine CallO.frB [] Tryd.call55 (co) ?_) | ((with_reducible refine CallO.gd 52 ?_); first | refine CallO.toB Tryd.call52 (c4 _) ?_ | refine CallO.toB Tryd.call52 (c8 _) ?_ | refine CallO.toB Tryd.call52 (c16 _) ?_ | refine CallO.toB Tryd.call52 (c32 _) ?_ | refine CallO.toB Tryd.call52 (c128 _) ?_) | ((with_reducible refine CallO.gd 51 ?_); first | refine CallO.toB Tryd.call51 (within_s n 1048576 _ _) ?_ | refine CallO.toB Tryd.call51 (within_s a 1048576 _ _) ?_) | ((with_reducible refine CallP.gd 53 ?_); refine CallP.toB Tryd.call53 (cr _) ?_) | ((with_reducible refine CallP.gd 52 ?_); first | refine CallP.toB Tryd.call52 (c4 _) ?_ | refine CallP.toB Tryd.call52 (c8 _) ?_ | refine CallP.toB Tryd.call52 (c16 _) ?_ | refine CallP.toB Tryd.call52 (c32 _) ?_ | refine CallP.toB Tryd.call52 (c128 _) ?_) | ((with_reducible refine CallP.gd 51 ?_); first | refine CallP.toB Tryd.call51 (within_s n 1048576 _ _) ?_ | refine CallP.toB Tryd.call51 (within_s a 1048576 _ _) ?_) | (refine hN _ ?_; try clear hN N; try clear hy ops) | (refine hA ?_; clear hA A hB B; try simp only [hz]) | (refine hB ?_; clear hA A hB B; try simp only [hz]) | (refine gG ?_ ?_ <;> (intro hz; have h := nm hz; try (exfalso; omega)) <;> (have hz := nz hz; try subst hz)) | (rw [if_pos (show _ ∧ _ from ⟨by omega, by omega⟩)]; refine sS ?_) | refine gT ?_ | (clear hN N))
        all_goals (first | exact retZ hQ Tryd.results17 (Desc.re [] rfl) | exact retZN hQ Tryd.results17 (Desc.re [] rfl))
    | false =>
      refine Sp.of_bodyE Tryd.func17 rfl ?_
      intro Q hQ
      simp only [List.replicate, List.length_cons, List.length_nil, Tryd.ntmps17, Nat.reduceAdd, Nat.reduceSub, List.cons_append, List.nil_append, go_sem]
      have hz : True := trivial
      have hy := yieldedV_eq
      have hL := @q
      repeat' (first | (refine WPV.seqK ?_; intro N hN) | refine gA ?_ | (refine gR (M := noM) ?_; intro N hN ops hy) | (refine gD (M := noM) ?_; intro N hN; have hy := yieldedV_eq) | (refine WPV.condK ?_; intro A hA B hB) | (refine here ?_; refine sS ?_) | refine Both.mk ?_ ?_ | ((with_reducible refine CallO.gd 50 ?_); refine CallO.frB [] Tryd.call50 (cw) ?_) | ((with_reducible refine CallO.gd 53 ?_); refine CallO.toB Tryd.call53 (cr _) ?_) | ((with_reducible refine CallO.gd 54 ?_); refine CallO.frB [] Tryd.call54 (ct) ?_) | ((with_reducible refine CallO.gd 55 ?_); refine CallO.frB [] Tryd.call55 (co) ?_) | ((with_reducible refine CallO.gd 52 ?_); first | refine CallO.toB Tryd.call52 (c4 _) ?_ | refine CallO.toB Tryd.call52 (c8 _) ?_ | refine CallO.toB Tryd.call52 (c16 _) ?_ | refine CallO.toB Tryd.call52 (c32 _) ?_ | refine CallO.toB Tryd.call52 (c128 _) ?_) | ((with_reducible refine CallO.gd 51 ?_); first | refine CallO.toB Tryd.call51 (within_s n 1048576 _ _) ?_ | refine CallO.toB Tryd.call51 (within_s a 1048576 _ _) ?_) | ((with_reducible refine CallP.gd 53 ?_); refine CallP.toB Tryd.call53 (cr _) ?_) | ((with_reducible refine CallP.gd 52 ?_); first | refine CallP.toB Tryd.call52 (c4 _) ?_ | refine CallP.toB Tryd.call52 (c8 _) ?_ | refine CallP.toB Tryd.call52 (c16 _) ?_ | refine CallP.toB Tryd.call52 (c32 _) ?_ | refine CallP.toB Tryd.call52 (c128 _) ?_) | ((with_reducible refine CallP.gd 51 ?_); first | refine CallP.toB Tryd.call51 (within_s n 1048576 _ _) ?_ | refine CallP.toB Tryd.call51 (within_s a 1048576 _ _) ?_) | (refine hN _ ?_; try clear hN N; try clear hy ops) | (refine hA ?_; clear hA A hB B; try simp only [hz]) | (refine hB ?_; clear hA A hB B; try simp only [hz]) | (refine gG ?_ ?_ <;> (intro hz; have h := nm hz; try (exfalso; omega)) <;> (have hz := nz hz; try subst hz)) | (rw [if_pos (show _ ∧ _ from ⟨by omega, by omega⟩)]; refine sS ?_) | refine gT ?_ | (clear hN N))
      all_goals (first | exact retZ hQ Tryd.results17 (Desc.re [] rfl) | exact retZN hQ Tryd.results17 (Desc.re [] rfl))
end Go.Proofs.YtgfnpcmehnjopaaDoor
