/- Parts of the proofs, joined: ScrE. -/
import Derived.Test.YtgfnpcmehnjopaaDoorS16
import Derived.Test.YtgfnpcmehnjopaaDoorS17
namespace Go.Proofs.YtgfnpcmehnjopaaDoor
open Go Go.RowKit
set_option linter.unusedVariables false
set_option linter.unusedSimpArgs false
variable {K : Nat → Obj → Prop}
theorem rcheck_eq {d o n a m cx cy cz : Int} {w : List Wr} {k : List Int} {ri e iw ia ib i5 i7 i9 i11 : Int} (h1 : ¬ (d < 0 ∨ 8 < d)) (hri : rightF ⟨cx, cy, cz⟩ = decide (ri = 0)) (he : wroteE w = e)
    (hw : iw = 0 ↔ ¬ (d < 2 ∧ 0 ≤ o ∧ o < 3 ∨ (d = 2 ∨ d = 7 ∨ d = 8) ∧ 0 ≤ o ∧ o ≤ 3 ∨ o = 0)) (ha : ia = 0 ↔ ¬ (n = 0 ∨ (3 ≤ d ∧ d ≤ 6 ∨ d = 8) ∧ 0 < n ∧ n ≤ 1048576)) (hb : ib = 0 ↔ ia = 0 ∨ ¬ (a = 0 ∨ d = 6 ∧ 0 < a ∧ a ≤ 1048576))
    (h5 : i5 = 0 ↔ ib = 0 ∨ m ≠ 0 ∧ d ≠ 6) (h7 : i7 = 0 ↔ ri ≠ 0 ∨ e ≠ 0) (h9 : i9 = 0 ↔ d ≠ 0 ∧ (0 < cx ∨ 0 < cy ∨ 0 < cz ∨ 0 < w.length)) (h11 : i11 = 0 ↔ 4 < k.length ∨ 0 < k.length ∧ d ≠ 7) :
    checkI ⟨d, o, n, a, m, ⟨cx, cy, cz⟩, w, k⟩ = if iw = 0 then 9 else if i5 = 0 then 1 else if i7 = 0 then 1 else if i9 = 0 then 1 else if i11 = 0 then 1 else if k.any odd1 = true then 1 else 0 := by
  have hr : ri ≠ 0 ∨ (0 ≤ cx ∧ 0 ≤ cy ∧ 0 ≤ cz) := by
    by_cases h : ri = 0
    · have := right_bounds (c := ⟨cx, cy, cz⟩) (by rw [hri]; simp [h])
      dsimp only at this
      omega
    · exact .inl h
  unfold checkI
  rw [if_neg h1]
  dsimp only
  rw [hri, he]
  clear hri he h1
  by_cases c1 : iw = 0
  · rw [if_pos c1, if_pos (hw.1 c1)]
  rw [if_neg c1, if_neg (fun h => c1 (hw.2 h))]
  clear hw c1
  by_cases c2 : i5 = 0
  · rw [if_pos c2]
    have := h5.1 c2
    by_cases q1 : ¬ (n = 0 ∨ (3 ≤ d ∧ d ≤ 6 ∨ d = 8) ∧ 0 < n ∧ n ≤ 1048576)
    · rw [if_pos q1]
    rw [if_neg q1]
    by_cases q2 : ¬ (a = 0 ∨ d = 6 ∧ 0 < a ∧ a ≤ 1048576)
    · rw [if_pos q2]
    rw [if_neg q2]
    rw [if_pos]
    rcases this with h | h
    · rcases hb.1 h with h | h
      · exact absurd (ha.1 h) q1
      · exact absurd h q2
    · exact h
  have hib : ib ≠ 0 := fun h => c2 (h5.2 (.inl h))
  have hia : ia ≠ 0 := fun h => hib (hb.2 (.inl h))
  rw [if_neg c2, if_neg (fun h => hia (ha.2 h)), if_neg (fun h => hib (hb.2 (.inr h))), if_neg (fun h => c2 (h5.2 (.inr h)))]
  clear ha hb h5 hib hia c2
  by_cases c7 : ri ≠ 0
  · rw [if_pos (h7.2 (.inl c7)), if_pos (by simpa using c7)]
  have c7' : ri = 0 := by omega
  rw [if_neg (show ¬ decide (ri = 0) = false by simp [c7'])]
  by_cases c8 : e ≠ 0
  · rw [if_pos (h7.2 (.inr c8)), if_pos c8]
    split <;> rfl
  rw [if_neg (show ¬ i7 = 0 by omega), if_neg c8]
  clear h7 c8
  by_cases c9 : i9 = 0
  · rw [if_pos c9]
    by_cases q : ¬ (cx = 0 ∧ cy = 0 ∧ cz = 0) ∧ d ≠ 0
    · rw [if_pos q]
    rw [if_neg q, if_pos (by omega)]
  rw [if_neg c9, if_neg (by omega), if_neg (by omega)]
  clear h9 c9
  by_cases c11 : i11 = 0
  · rw [if_pos c11]
    by_cases q : 4 < k.length
    · rw [if_pos q]
    rw [if_neg q, if_pos (by omega)]
  rw [if_neg c11, if_neg (by omega), if_neg (by omega)]
set_option maxRecDepth 100000 in
set_option maxHeartbeats 4000000 in
theorem rscheck_s (x : It) (hm : 0 ≤ x.m) (hl : x.w.length ≤ 9223372036854775807) (hk : x.k.length ≤ 9223372036854775807) : Sp Tryd.prog K 18 [itV x] [] fun u hh => u = .sc (.int .i64 (checkI x)) ∧ hh = [] := by
  by_cases h1 : x.d < 0 ∨ 8 < x.d
  · have e : checkI x = 3 := by unfold checkI; rw [if_pos h1]
    rw [e]
    obtain ⟨d, o, n, a, m, ⟨cx, cy, cz⟩, w, k⟩ := x
    dsimp only at h1 ⊢
    have cw := True.intro
    have cn := True.intro
    have cr := True.intro
    have ct := True.intro
    obtain ⟨iw, ia, ib, i5, i7, i9, i11, _⟩ : ∃ a b c d e f g : Int, True := ⟨0, 0, 0, 0, 0, 0, 0, trivial⟩
    refine Sp.of_bodyE Tryd.func18 rfl ?_
    intro Q hQ
    simp only [List.replicate, List.length_cons, List.length_nil, Tryd.ntmps18, Nat.reduceAdd, Nat.reduceSub, List.cons_append, List.nil_append, go_sem]
    have hz : True := trivial
    have hy := yieldedV_eq
    have hL := True.intro
    repeat' (first | ((with_reducible refine WPV.seqJ 7 ⟨[.any, .ptr 0 0, .sc (.int .i64 0), .any, .any, .any, .any, .any, .any, .any, .any, .any, .any, .any, .any, .any, .any, .any, .any, .any, .any, .any, .any, .any, .any, .any, .any, .any, .any, .any, .any, .any, .any, .any, .any, .any, .any, .any, .any, .any, .any, .any, .any, .any, .any, .any, .any, .any, .any, .any, .any, .any, .any, .any, .any, .any, .any, .any, .any, .any, .any, .any, .any, .any, .any, .any, .any, .any, .any, .any, .any, .any, .any, .any, .any, .any, .any, .any, .any, .any, .any, .any, .any, .any, .any, .any, .any, .any, .any, .any, .any, .any, .any, .any, .any, .any, .any, .any, .sc (.bool (decide (i7 = 0))), .any, .any, .any, .any, .any, .any, .any, .any, .any, .any, .any, .any, .any, .any, .any, .any, .any, .any, .any, .any, .any, .any, .any, .any, .any, .any, .any, .any, .any, .any, .any, .any, .any, .any, .any, .any, .any, .any, .any, .any, .any, .any, .any, .any, .any, .any, .any, .any, .any, .any, .any, .any, .any, .any, .any, .any, .any, .any, .any, .any, .any, .any, .any], [.cells (itL ⟨d, o, n, a, m, ⟨cx, cy, cz⟩, w, k⟩)]⟩ ?_ ?_); intro N hN) | ((with_reducible refine WPV.seqJ 11 ⟨[.any, .ptr 0 0, .sc (.int .i64 0), .any, .any, .any, .any, .any, .any, .any, .any, .any, .any, .any, .any, .any, .any, .any, .any, .any, .any, .any, .any, .any, .any, .any, .any, .any, .any, .any, .any, .any, .any, .any, .any, .any, .any, .any, .any, .any, .any, .any, .any, .any, .any, .any, .any, .any, .any, .any, .any, .any, .any, .any, .any, .any, .any, .any, .any, .any, .any, .any, .any, .any, .any, .any, .any, .any, .any, .any, .any, .any, .any, .any, .any, .any, .any, .any, .any, .any, .any, .any, .any, .any, .any, .any, .any, .any, .any, .any, .any, .any, .any, .any, .any, .any, .any, .any, .any, .any, .any, .any, .any, .any, .any, .any, .any, .any, .any, .any, .any, .any, .any, .any, .any, .any, .any, .any, .any, .any, .any, .any, .any, .any, .any, .any, .any, .any, .any, .any, .any, .any, .any, .any, .any, .any, .any, .any, .any, .any, .sc (.bool (decide (i11 = 0))), .any, .any, .any, .any, .any, .any, .any, .any, .any, .any, .any, .any, .any, .any, .any, .any, .any, .any, .any, .any, .any], [.cells (itL ⟨d, o, n, a, m, ⟨cx, cy, cz⟩, w, k⟩)]⟩ ?_ ?_); intro N hN) | (with_reducible refine WPV.seqJ 3 ⟨[.any, .ptr 0 0, .sc (.int .i64 0), .any, .any, .any, .any, .any, .any, .any, .any, .any, .any, .any, .any, .any, .any, .any, .any, .any, .any, .any, .any, .any, .any, .any, .any, .any, .any, .any, .any, .any, .any, .any, .any, .any, .any, .any, .any, .sc (.bool (decide (iw = 0))), .any, .any, .any, .any, .any, .any, .any, .any, .any, .any, .any, .any, .any, .any, .any, .any, .any, .any, .any, .any, .any, .any, .any, .any, .any, .any, .any, .any, .any, .any, .any, .any, .any, .any, .any, .any, .any, .any, .any, .any, .any, .any, .any, .any, .any, .any, .any, .any, .any, .any, .any, .any, .any, .any, .any, .any, .any, .any, .any, .any, .any, .any, .any, .any, .any, .any, .any, .any, .any, .any, .any, .any, .any, .any, .any, .any, .any, .any, .any, .any, .any, .any, .any, .any, .any, .any, .any, .any, .any, .any, .any, .any, .any, .any, .any, .any, .any, .any, .any, .any, .any, .any, .any, .any, .any, .any, .any, .any, .any, .any, .any, .any, .any, .any, .any, .any, .any, .any, .any, .any, .any, .any], [.cells (itL ⟨d, o, n, a, m, ⟨cx, cy, cz⟩, w, k⟩)]⟩ (fun N hN => WPV.desc jnZ (rc3_s hd cw hj1 _ rfl N hN)) ?_) | (with_reducible refine WPV.seqJ 5 ⟨[.any, .ptr 0 0, .sc (.int .i64 0), .any, .any, .any, .any, .any, .any, .any, .any, .any, .any, .any, .any, .any, .any, .any, .any, .any, .any, .any, .any, .any, .any, .any, .any, .any, .any, .any, .any, .any, .any, .any, .any, .any, .any, .any, .any, .any, .any, .any, .any, .any, .any, .any, .any, .any, .any, .any, .any, .any, .any, .any, .any, .any, .any, .any, .any, .any, .any, .any, .any, .any, .any, .any, .any, .any, .any, .any, .any, .any, .any, .any, .any, .any, .any, .any, .any, .any, .any, .any, .any, .any, .any, .any, .any, .sc (.bool (decide (i5 = 0))), .any, .any, .any, .any, .any, .any, .any, .any, .any, .any, .any, .any, .any, .any, .any, .any, .any, .any, .any, .any, .any, .any, .any, .any, .any, .any, .any, .any, .any, .any, .any, .any, .any, .any, .any, .any, .any, .any, .any, .any, .any, .any, .any, .any, .any, .any, .any, .any, .any, .any, .any, .any, .any, .any, .any, .any, .any, .any, .any, .any, .any, .any, .any, .any, .any, .any, .any, .any, .any, .any, .any, .any, .any, .any], [.cells (itL ⟨d, o, n, a, m, ⟨cx, cy, cz⟩, w, k⟩)]⟩ (fun N hN => WPV.desc jnZ (rc5_s hd hm cn hj2 hj3 hj4 _ rfl N hN)) ?_) | (with_reducible refine WPV.seqJ 9 ⟨[.any, .ptr 0 0, .sc (.int .i64 0), .any, .any, .any, .any, .any, .any, .any, .any, .any, .any, .any, .any, .any, .any, .any, .any, .any, .any, .any, .any, .any, .any, .any, .any, .any, .any, .any, .any, .any, .any, .any, .any, .any, .any, .any, .any, .any, .any, .any, .any, .any, .any, .any, .any, .any, .any, .any, .any, .any, .any, .any, .any, .any, .any, .any, .any, .any, .any, .any, .any, .any, .any, .any, .any, .any, .any, .any, .any, .any, .any, .any, .any, .any, .any, .any, .any, .any, .any, .any, .any, .any, .any, .any, .any, .any, .any, .any, .any, .any, .any, .any, .any, .any, .any, .any, .any, .any, .any, .any, .any, .any, .any, .any, .any, .any, .any, .any, .any, .any, .any, .any, .any, .any, .any, .any, .any, .any, .any, .any, .any, .any, .any, .sc (.bool (decide (i9 = 0))), .any, .any, .any, .any, .any, .any, .any, .any, .any, .any, .any, .any, .any, .any, .any, .any, .any, .any, .any, .any, .any, .any, .any, .any, .any, .any, .any, .any, .any, .any, .any, .any, .any, .any, .any, .any], [.cells (itL ⟨d, o, n, a, m, ⟨cx, cy, cz⟩, w, k⟩)]⟩ (fun N hN => WPV.desc jnZ (rc9_s hd hj6 hl _ rfl N hN)) ?_) | exact jnZ | (refine WPV.seqK ?_; intro N hN) | refine gA ?_ | (refine gR (M := noM) ?_; intro N hN ops hy) | (refine gD (M := noM) ?_; intro N hN; have hy := yieldedV_eq) | (refine WPV.condK ?_; intro A hA B hB) | (refine here ?_; refine sS ?_) | refine Both.mk ?_ ?_ | ((with_reducible refine CallO.gd 59 ?_); refine CallO.toB Tryd.call59 (cr _) ?_) | ((with_reducible refine CallO.gd 34 ?_); refine CallO.frB [] Tryd.call34 (ct) ?_) | ((with_reducible refine CallP.gd 59 ?_); refine CallP.toB Tryd.call59 (cr _) ?_) | (refine hN _ ?_; try clear hN N; try clear hy ops) | (refine hA ?_; clear hA A hB B; try simp only [hz]) | (refine hB ?_; clear hA A hB B; try simp only [hz]) | (refine gG ?_ ?_ <;> (intro hz; have h := nm hz; try (exfalso; omega)) <;> (have hz := nz hz; try subst hz)) | (rw [if_pos (show _ ∧ _ from ⟨by omega, by omega⟩)]; refine sS ?_) | refine gT ?_ | (clear hN N))
    all_goals (first | exact retZ hQ Tryd.results18 (Desc.re [] rfl) | exact retZN hQ Tryd.results18 (Desc.re [] rfl))
  have hd : 0 ≤ x.d ∧ x.d ≤ 8 := by omega
  have cw := fun h => rwho_s (K := K) x hd h
  have cn := fun h => rnumber_s (K := K) x hd h
  have ct := rtcheck_s (K := K) ⟨0, 1, ⟨0, 0, 0⟩, x.w⟩ hl
  have cr := fun h => rcright_s (K := K) x.c h
  rw [show checkF ⟨0, 1, ⟨0, 0, 0⟩, x.w⟩ = wroteE x.w from rfl] at ct
  obtain ⟨ri, hri⟩ : ∃ ri : Int, rightF x.c = decide (ri = 0) := by
    cases rightF x.c
    · exact ⟨1, rfl⟩
    · exact ⟨0, rfl⟩
  obtain ⟨e, he⟩ : ∃ e, wroteE x.w = e := ⟨_, rfl⟩
  obtain ⟨d, o, n, a, m, ⟨cx, cy, cz⟩, w, k⟩ := x
  dsimp only [clkV] at cr cw cn ct hri he h1 hl hk hd hm ⊢
  obtain ⟨iw, hj1⟩ := mkI (¬ (d < 2 ∧ 0 ≤ o ∧ o < 3 ∨ (d = 2 ∨ d = 7 ∨ d = 8) ∧ 0 ≤ o ∧ o ≤ 3 ∨ o = 0))
  obtain ⟨ia, hj2⟩ := mkI (¬ (n = 0 ∨ (3 ≤ d ∧ d ≤ 6 ∨ d = 8) ∧ 0 < n ∧ n ≤ 1048576))
  obtain ⟨ib, hj3⟩ := mkI (ia = 0 ∨ ¬ (a = 0 ∨ d = 6 ∧ 0 < a ∧ a ≤ 1048576))
  obtain ⟨i5, hj4⟩ := mkI (ib = 0 ∨ m ≠ 0 ∧ d ≠ 6)
  obtain ⟨i7, hj5⟩ := mkI (ri ≠ 0 ∨ e ≠ 0)
  obtain ⟨i9, hj6⟩ := mkI (d ≠ 0 ∧ (0 < cx ∨ 0 < cy ∨ 0 < cz ∨ 0 < w.length))
  obtain ⟨i11, hj7⟩ := mkI (4 < k.length ∨ 0 < k.length ∧ d ≠ 7)
  rw [rcheck_eq h1 hri he hj1.out hj2.out hj3.out hj4.out hj5.out hj6.out hj7.out]
  rw [hri] at cr
  rw [he] at ct
  clear hri he h1
  refine Sp.of_bodyE Tryd.func18 rfl ?_
  intro Q hQ
  simp only [List.replicate, List.length_cons, List.length_nil, Tryd.ntmps18, Nat.reduceAdd, Nat.reduceSub, List.cons_append, List.nil_append, go_sem]
  have hz : True := trivial
  have hy := yieldedV_eq
  have hL := True.intro
  repeat' (first | ((with_reducible refine WPV.seqJ 7 ⟨[.any, .ptr 0 0, .sc (.int .i64 0), .any, .any, .any, .any, .any, .any, .any, .any, .any, .any, .any, .any, .any, .any, .any, .any, .any, .any, .any, .any, .any, .any, .any, .any, .any, .any, .any, .any, .any, .any, .any, .any, .any, .any, .any, .any, .any, .any, .any, .any, .any, .any, .any, .any, .any, .any, .any, .any, .any, .any, .any, .any, .any, .any, .any, .any, .any, .any, .any, .any, .any, .any, .any, .any, .any, .any, .any, .any, .any, .any, .any, .any, .any, .any, .any, .any, .any, .any, .any, .any, .any, .any, .any, .any, .any, .any, .any, .any, .any, .any, .any, .any, .any, .any, .any, .sc (.bool (decide (i7 = 0))), .any, .any, .any, .any, .any, .any, .any, .any, .any, .any, .any, .any, .any, .any, .any, .any, .any, .any, .any, .any, .any, .any, .any, .any, .any, .any, .any, .any, .any, .any, .any, .any, .any, .any, .any, .any, .any, .any, .any, .any, .any, .any, .any, .any, .any, .any, .any, .any, .any, .any, .any, .any, .any, .any, .any, .any, .any, .any, .any, .any, .any, .any, .any], [.cells (itL ⟨d, o, n, a, m, ⟨cx, cy, cz⟩, w, k⟩)]⟩ ?_ ?_); intro N hN) | ((with_reducible refine WPV.seqJ 11 ⟨[.any, .ptr 0 0, .sc (.int .i64 0), .any, .any, .any, .any, .any, .any, .any, .any, .any, .any, .any, .any, .any, .any, .any, .any, .any, .any, .any, .any, .any, .any, .any, .any, .any, .any, .any, .any, .any, .any, .any, .any, .any, .any, .any, .any, .any, .any, .any, .any, .any, .any, .any, .any, .any, .any, .any, .any, .any, .any, .any, .any, .any, .any, .any, .any, .any, .any, .any, .any, .any, .any, .any, .any, .any, .any, .any, .any, .any, .any, .any, .any, .any, .any, .any, .any, .any, .any, .any, .any, .any, .any, .any, .any, .any, .any, .any, .any, .any, .any, .any, .any, .any, .any, .any, .any, .any, .any, .any, .any, .any, .any, .any, .any, .any, .any, .any, .any, .any, .any, .any, .any, .any, .any, .any, .any, .any, .any, .any, .any, .any, .any, .any, .any, .any, .any, .any, .any, .any, .any, .any, .any, .any, .any, .any, .any, .any, .sc (.bool (decide (i11 = 0))), .any, .any, .any, .any, .any, .any, .any, .any, .any, .any, .any, .any, .any, .any, .any, .any, .any, .any, .any, .any, .any], [.cells (itL ⟨d, o, n, a, m, ⟨cx, cy, cz⟩, w, k⟩)]⟩ ?_ ?_); intro N hN) | (with_reducible refine WPV.seqJ 3 ⟨[.any, .ptr 0 0, .sc (.int .i64 0), .any, .any, .any, .any, .any, .any, .any, .any, .any, .any, .any, .any, .any, .any, .any, .any, .any, .any, .any, .any, .any, .any, .any, .any, .any, .any, .any, .any, .any, .any, .any, .any, .any, .any, .any, .any, .sc (.bool (decide (iw = 0))), .any, .any, .any, .any, .any, .any, .any, .any, .any, .any, .any, .any, .any, .any, .any, .any, .any, .any, .any, .any, .any, .any, .any, .any, .any, .any, .any, .any, .any, .any, .any, .any, .any, .any, .any, .any, .any, .any, .any, .any, .any, .any, .any, .any, .any, .any, .any, .any, .any, .any, .any, .any, .any, .any, .any, .any, .any, .any, .any, .any, .any, .any, .any, .any, .any, .any, .any, .any, .any, .any, .any, .any, .any, .any, .any, .any, .any, .any, .any, .any, .any, .any, .any, .any, .any, .any, .any, .any, .any, .any, .any, .any, .any, .any, .any, .any, .any, .any, .any, .any, .any, .any, .any, .any, .any, .any, .any, .any, .any, .any, .any, .any, .any, .any, .any, .any, .any, .any, .any, .any, .any, .any], [.cells (itL ⟨d, o, n, a, m, ⟨cx, cy, cz⟩, w, k⟩)]⟩ (fun N hN => WPV.desc jnZ (rc3_s hd cw hj1 _ rfl N hN)) ?_) | (with_reducible refine WPV.seqJ 5 ⟨[.any, .ptr 0 0, .sc (.int .i64 0), .any, .any, .any, .any, .any, .any, .any, .any, .any, .any, .any, .any, .any, .any, .any, .any, .any, .any, .any, .any, .any, .any, .any, .any, .any, .any, .any, .any, .any, .any, .any, .any, .any, .any, .any, .any, .any, .any, .any, .any, .any, .any, .any, .any, .any, .any, .any, .any, .any, .any, .any, .any, .any, .any, .any, .any, .any, .any, .any, .any, .any, .any, .any, .any, .any, .any, .any, .any, .any, .any, .any, .any, .any, .any, .any, .any, .any, .any, .any, .any, .any, .any, .any, .any, .sc (.bool (decide (i5 = 0))), .any, .any, .any, .any, .any, .any, .any, .any, .any, .any, .any, .any, .any, .any, .any, .any, .any, .any, .any, .any, .any, .any, .any, .any, .any, .any, .any, .any, .any, .any, .any, .any, .any, .any, .any, .any, .any, .any, .any, .any, .any, .any, .any, .any, .any, .any, .any, .any, .any, .any, .any, .any, .any, .any, .any, .any, .any, .any, .any, .any, .any, .any, .any, .any, .any, .any, .any, .any, .any, .any, .any, .any, .any, .any], [.cells (itL ⟨d, o, n, a, m, ⟨cx, cy, cz⟩, w, k⟩)]⟩ (fun N hN => WPV.desc jnZ (rc5_s hd hm cn hj2 hj3 hj4 _ rfl N hN)) ?_) | (with_reducible refine WPV.seqJ 9 ⟨[.any, .ptr 0 0, .sc (.int .i64 0), .any, .any, .any, .any, .any, .any, .any, .any, .any, .any, .any, .any, .any, .any, .any, .any, .any, .any, .any, .any, .any, .any, .any, .any, .any, .any, .any, .any, .any, .any, .any, .any, .any, .any, .any, .any, .any, .any, .any, .any, .any, .any, .any, .any, .any, .any, .any, .any, .any, .any, .any, .any, .any, .any, .any, .any, .any, .any, .any, .any, .any, .any, .any, .any, .any, .any, .any, .any, .any, .any, .any, .any, .any, .any, .any, .any, .any, .any, .any, .any, .any, .any, .any, .any, .any, .any, .any, .any, .any, .any, .any, .any, .any, .any, .any, .any, .any, .any, .any, .any, .any, .any, .any, .any, .any, .any, .any, .any, .any, .any, .any, .any, .any, .any, .any, .any, .any, .any, .any, .any, .any, .any, .sc (.bool (decide (i9 = 0))), .any, .any, .any, .any, .any, .any, .any, .any, .any, .any, .any, .any, .any, .any, .any, .any, .any, .any, .any, .any, .any, .any, .any, .any, .any, .any, .any, .any, .any, .any, .any, .any, .any, .any, .any, .any], [.cells (itL ⟨d, o, n, a, m, ⟨cx, cy, cz⟩, w, k⟩)]⟩ (fun N hN => WPV.desc jnZ (rc9_s hd hj6 hl _ rfl N hN)) ?_) | exact jnZ | (refine WPV.seqK ?_; intro N hN) | refine gA ?_ | (refine gR (M := noM) ?_; intro N hN ops hy) | (refine gD (M := noM) ?_; intro N hN; have hy := yieldedV_eq) | (refine WPV.condK ?_; intro A hA B hB) | (refine here ?_; refine sS ?_) | refine Both.mk ?_ ?_ | ((with_reducible refine CallO.gd 59 ?_); refine CallO.toB Tryd.call59 (cr _) ?_) | ((with_reducible refine CallO.gd 34 ?_); refine CallO.frB [] Tryd.call34 (ct) ?_) | ((with_reducible refine CallP.gd 59 ?_); refine CallP.toB Tryd.call59 (cr _) ?_) | (refine hN _ ?_; try clear hN N; try clear hy ops) | (refine hA ?_; clear hA A hB B; try simp only [hz]) | (refine hB ?_; clear hA A hB B; try simp only [hz]) | (refine gG ?_ ?_ <;> (intro hz; have h := nm hz; try (exfalso; omega)) <;> (have hz := nz hz; try subst hz)) | (rw [if_pos (show _ ∧ _ from ⟨by omega, by omega⟩)]; refine sS ?_) | refine gT ?_ | (clear hN N))
  all_goals (try (first | exact retZ hQ Tryd.results18 (Desc.re [] rfl) | exact retZN hQ Tryd.results18 (Desc.re [] rfl)))
  rw [if_neg (by omega), if_neg (by omega), if_neg (by omega), if_neg (by omega), if_neg (by omega)] at hQ
  clear hj1 hj2 hj3 hj4 hj5 hj6 hj7 cw cn ct cr
  refine WPV.loopW (α := Nat) (fun i => k.length - i) (fun i => ⟨[.any, .ptr 0 0, .sc (.int .i64 0), .sc (.int .i64 ((i : Nat) : Int)), .any, .any, .any, .any, .any, .any, .any, .any, .any, .any, .any, .any, .any, .any, .any, .any, .any, .any, .any, .any, .any, .any, .any, .any, .any, .any, .any, .any, .any, .any, .any, .any, .any, .any, .any, .any, .any, .any, .any, .any, .any, .any, .any, .any, .any, .any, .any, .any, .any, .any, .any, .any, .any, .any, .any, .any, .any, .any, .any, .any, .any, .any, .any, .any, .any, .any, .any, .any, .any, .any, .any, .any, .any, .any, .any, .any, .any, .any, .any, .any, .any, .any, .any, .any, .any, .any, .any, .any, .any, .any, .any, .any, .any, .any, .any, .any, .any, .any, .any, .any, .any, .any, .any, .any, .any, .any, .any, .any, .any, .any, .any, .any, .any, .any, .any, .any, .any, .any, .any, .any, .any, .any, .any, .any, .any, .any, .any, .any, .any, .any, .any, .any, .any, .any, .any, .any, .any, .any, .any, .any, .any, .any, .any, .any, .any, .any, .any, .any, .any, .any, .any, .any, .any, .any, .any, .any, .any, .any], [.cells (itL ⟨d, o, n, a, m, ⟨cx, cy, cz⟩, w, k⟩)]⟩) (fun i => i ≤ k.length ∧ k.any odd1 = (k.drop i).any odd1) 0 Desc.weakA ⟨Nat.zero_le _, rfl⟩ (fun i hJ H => ?_)
  obtain ⟨hk0, hJ⟩ := hJ
  by_cases h : i < k.length
  · obtain ⟨y, hg⟩ : ∃ y, k[i] = y := ⟨_, rfl⟩
    have hget : k[i]? = some y := by rw [← hg]; exact List.getElem?_eq_getElem h
    rw [List.drop_eq_getElem_cons h, hg, List.any_cons] at hJ
    by_cases hb : y < 0 ∨ 1048576 < y
    · have e : k.any odd1 = true := by rw [hJ]; simp [odd1, hb]
      rw [if_pos e] at hQ
      clear H hg hJ
      refine loopV ?_
      have hz : True := trivial
      have hy := yieldedV_eq
      have hL := @hget
      repeat' (first | (refine WPV.seqK ?_; intro N hN) | refine gA ?_ | (refine gR (M := noM) ?_; intro N hN ops hy) | (refine gD (M := noM) ?_; intro N hN; have hy := yieldedV_eq) | (refine WPV.condK ?_; intro A hA B hB) | (refine here ?_; refine sS ?_) | refine Both.mk ?_ ?_ | (refine hN _ ?_; try clear hN N; try clear hy ops) | (refine hA ?_; clear hA A hB B; try simp only [hz]) | (refine hB ?_; clear hA A hB B; try simp only [hz]) | (refine gG ?_ ?_ <;> (intro hz; have h := nm hz; try (exfalso; omega)) <;> (have hz := nz hz; try subst hz)) | (rw [if_pos (show _ ∧ _ from ⟨by omega, by omega⟩)]; refine sS ?_) | refine gT ?_ | (clear hN N))
      all_goals (first | exact retZ hQ Tryd.results18 (Desc.re [] rfl) | exact retZN hQ Tryd.results18 (Desc.re [] rfl))
    · have H' := H (i + 1) ⟨h, by rw [hJ]; simp [odd1, hb]⟩ (by omega)
      clear H hg hJ
      refine loopV ?_
      have hz : True := trivial
      have hy := yieldedV_eq
      have hL := @hget
      repeat' (first | (refine WPV.seqK ?_; intro N hN) | refine gA ?_ | (refine gR (M := noM) ?_; intro N hN ops hy) | (refine gD (M := noM) ?_; intro N hN; have hy := yieldedV_eq) | (refine WPV.condK ?_; intro A hA B hB) | (refine here ?_; refine sS ?_) | refine Both.mk ?_ ?_ | (refine hN _ ?_; try clear hN N; try clear hy ops) | (refine hA ?_; clear hA A hB B; try simp only [hz]) | (refine hB ?_; clear hA A hB B; try simp only [hz]) | (refine gG ?_ ?_ <;> (intro hz; have h := nm hz; try (exfalso; omega)) <;> (have hz := nz hz; try subst hz)) | (rw [if_pos (show _ ∧ _ from ⟨by omega, by omega⟩)]; refine sS ?_) | refine gT ?_ | (clear hN N))
      all_goals (exact rndZ (Desc.re [some 0] rfl) (H'))
  · obtain rfl : i = k.length := by omega
    have e : ¬ k.any odd1 = true := by rw [hJ]; simp
    rw [if_neg e] at hQ
    clear H hJ e
    refine loopV ?_
    have hz : True := trivial
    have hy := yieldedV_eq
    have hL := True.intro
    repeat' (first | (refine WPV.seqK ?_; intro N hN) | refine gA ?_ | (refine gR (M := noM) ?_; intro N hN ops hy) | (refine gD (M := noM) ?_; intro N hN; have hy := yieldedV_eq) | (refine WPV.condK ?_; intro A hA B hB) | (refine here ?_; refine sS ?_) | refine Both.mk ?_ ?_ | (refine hN _ ?_; try clear hN N; try clear hy ops) | (refine hA ?_; clear hA A hB B; try simp only [hz]) | (refine hB ?_; clear hA A hB B; try simp only [hz]) | (refine gG ?_ ?_ <;> (intro hz; have h := nm hz; try (exfalso; omega)) <;> (have hz := nz hz; try subst hz)) | (rw [if_pos (show _ ∧ _ from ⟨by omega, by omega⟩)]; refine sS ?_) | refine gT ?_ | (clear hN N))
    all_goals (first | exact retZ hQ Tryd.results18 (Desc.re [] rfl) | exact retZN hQ Tryd.results18 (Desc.re [] rfl))
end Go.Proofs.YtgfnpcmehnjopaaDoor
