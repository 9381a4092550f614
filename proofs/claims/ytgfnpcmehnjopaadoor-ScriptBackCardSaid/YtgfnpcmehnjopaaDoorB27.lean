/- Parts of the proofs, joined: ScrZ. -/
import Derived.Test.YtgfnpcmehnjopaaDoorB26
namespace Go.Proofs.YtgfnpcmehnjopaaDoor
open Go Go.RowKit
set_option linter.unusedVariables false
set_option linter.unusedSimpArgs false
variable {K : Nat → Obj → Prop}
theorem its_ap2 (l m : List It) : its (l ++ m) = its l ++ its m := by simp [its]
theorem its_on2 (x : It) : its [x] = [x.D] := rfl
set_option maxRecDepth 100000 in
set_option maxHeartbeats 4000000 in
theorem rone_s (a b : It) (h1 : a.w.length ≤ 9223372036854775807 ∧ a.k.length ≤ 9223372036854775807) (h2 : b.w.length ≤ 9223372036854775807 ∧ b.k.length ≤ 9223372036854775807) : Sp Tryd.prog K 20 [itV a, itV b] [] fun u hh => u = .sc (.bool (sameF a b)) ∧ hh = [] := by
  unfold sameF
  obtain ⟨d, o, n, x, m, ⟨cx, cy, cz⟩, w, k⟩ := a
  obtain ⟨d', o', n', x', m', ⟨cx', cy', cz'⟩, w', k'⟩ := b
  dsimp only at *
  obtain ⟨i1, hj1⟩ := mkI (¬ (d = d' ∧ o = o' ∧ n = n' ∧ x = x' ∧ m = m' ∧ (cx = cx' ∧ cy = cy' ∧ cz = cz') ∧ w.length = w'.length ∧ k.length = k'.length))
  by_cases hc : cx = cx' ∧ cy = cy' ∧ cz = cz'
  rotate_left
  · have q : (cx == cx' && (cy == cy' && cz == cz')) = false := by
      cases h : (cx == cx' && (cy == cy' && cz == cz'))
      · rfl
      · exact absurd (by simpa using h) hc
    rw [decide_eq_false (fun h => hc h.2.2.2.2.2.1)]
    have hi1 : i1 = 0 := hj1.out.2 (fun h => hc h.2.2.2.2.2.1)
    subst hi1
    clear hj1
    have i1 := 0
    obtain ⟨i1, hj1⟩ : ∃ i1 : Int, Hd (i1 = 0) := ⟨0, ⟨rfl⟩⟩
    have hi1 := hj1.out
    refine Sp.of_bodyE Tryd.func20 rfl ?_
    intro Q hQ
    simp only [List.replicate, List.length_cons, List.length_nil, Tryd.ntmps20, Nat.reduceAdd, Nat.reduceSub, List.cons_append, List.nil_append, go_sem]
    have hz : True := trivial
    have hy := yieldedV_eq
    have hL := @q
    repeat' (first | ((with_reducible refine WPV.seqJ 1 ⟨[.any, .any, .ptr 0 0, .ptr 1 0, .sc (.bool false), .any, .any, .any, .any, .any, .any, .any, .any, .any, .any, .any, .any, .any, .any, .any, .any, .any, .any, .any, .any, .any, .any, .any, .any, .any, .any, .any, .any, .any, .any, .any, .any, .any, .any, .any, .any, .any, .any, .any, .any, .any, .any, .any, .any, .any, .any, .any, .any, .any, .any, .any, .any, .any, .any, .any, .any, .any, .any, .any, .sc (.bool (decide (i1 = 0))), .any, .any, .any, .any, .any, .any, .any, .any, .any, .any, .any, .any, .any, .any, .any, .any, .any, .any, .any, .any, .any, .any, .any, .any, .any, .any, .any, .any, .any, .any, .any, .any, .any, .any, .any, .any], [.cells (itL ⟨d, o, n, x, m, ⟨cx, cy, cz⟩, w, k⟩), .cells (itL ⟨d', o', n', x', m', ⟨cx', cy', cz'⟩, w', k'⟩)]⟩ ?_ ?_); intro N hN) | exact jnZ | (refine WPV.seqK ?_; intro N hN) | refine gA ?_ | (refine gR (M := noM) ?_; intro N hN ops hy) | (refine gD (M := noM) ?_; intro N hN; have hy := yieldedV_eq) | (refine WPV.condK ?_; intro A hA B hB) | (refine here ?_; refine sS ?_) | refine Both.mk ?_ ?_ | (refine hN _ ?_; try clear hN N; try clear hy ops) | (refine hA ?_; clear hA A hB B; try simp only [hz]) | (refine hB ?_; clear hA A hB B; try simp only [hz]) | (refine gG ?_ ?_ <;> (intro hz; have h := nm hz; try (exfalso; omega)) <;> (have hz := nz hz; try subst hz)) | (rw [if_pos (show _ ∧ _ from ⟨by omega, by omega⟩)]; refine sS ?_) | refine gT ?_ | (clear hN N))
    all_goals (first | exact retZ hQ Tryd.results20 (Desc.re [] rfl) | exact retZN hQ Tryd.results20 (Desc.re [] rfl))
  have q : (cx == cx' && (cy == cy' && cz == cz')) = true := by
    obtain ⟨rfl, rfl, rfl⟩ := hc
    simp
  by_cases hi : i1 = 0
  · have e : decide (d = d' ∧ o = o' ∧ n = n' ∧ x = x' ∧ m = m' ∧ (cx = cx' ∧ cy = cy' ∧ cz = cz') ∧ weqL w w' = true ∧ keqL k k' = true) = false := by
      refine decide_eq_false fun h => hj1.out.1 hi ⟨h.1, h.2.1, h.2.2.1, h.2.2.2.1, h.2.2.2.2.1, h.2.2.2.2.2.1, ?_, ?_⟩
      · by_cases hl : w.length = w'.length
        · exact hl
        · rw [weqL_ne hl] at h; simp at h
      · by_cases hl : k.length = k'.length
        · exact hl
        · rw [keqL_ne hl] at h; simp at h
    rw [e]
    refine Sp.of_bodyE Tryd.func20 rfl ?_
    intro Q hQ
    simp only [List.replicate, List.length_cons, List.length_nil, Tryd.ntmps20, Nat.reduceAdd, Nat.reduceSub, List.cons_append, List.nil_append, go_sem]
    have hz : True := trivial
    have hy := yieldedV_eq
    have hL := @q
    repeat' (first | ((with_reducible refine WPV.seqJ 1 ⟨[.any, .any, .ptr 0 0, .ptr 1 0, .sc (.bool false), .any, .any, .any, .any, .any, .any, .any, .any, .any, .any, .any, .any, .any, .any, .any, .any, .any, .any, .any, .any, .any, .any, .any, .any, .any, .any, .any, .any, .any, .any, .any, .any, .any, .any, .any, .any, .any, .any, .any, .any, .any, .any, .any, .any, .any, .any, .any, .any, .any, .any, .any, .any, .any, .any, .any, .any, .any, .any, .any, .sc (.bool (decide (i1 = 0))), .any, .any, .any, .any, .any, .any, .any, .any, .any, .any, .any, .any, .any, .any, .any, .any, .any, .any, .any, .any, .any, .any, .any, .any, .any, .any, .any, .any, .any, .any, .any, .any, .any, .any, .any, .any], [.cells (itL ⟨d, o, n, x, m, ⟨cx, cy, cz⟩, w, k⟩), .cells (itL ⟨d', o', n', x', m', ⟨cx', cy', cz'⟩, w', k'⟩)]⟩ ?_ ?_); intro N hN) | exact jnZ | (refine WPV.seqK ?_; intro N hN) | refine gA ?_ | (refine gR (M := noM) ?_; intro N hN ops hy) | (refine gD (M := noM) ?_; intro N hN; have hy := yieldedV_eq) | (refine WPV.condK ?_; intro A hA B hB) | (refine here ?_; refine sS ?_) | refine Both.mk ?_ ?_ | (refine hN _ ?_; try clear hN N; try clear hy ops) | (refine hA ?_; clear hA A hB B; try simp only [hz]) | (refine hB ?_; clear hA A hB B; try simp only [hz]) | (refine gG ?_ ?_ <;> (intro hz; have h := nm hz; try (exfalso; omega)) <;> (have hz := nz hz; try subst hz)) | (rw [if_pos (show _ ∧ _ from ⟨by omega, by omega⟩)]; refine sS ?_) | refine gT ?_ | (clear hN N))
    all_goals (first | exact retZ hQ Tryd.results20 (Desc.re [] rfl) | exact retZN hQ Tryd.results20 (Desc.re [] rfl))
  have hp : d = d' ∧ o = o' ∧ n = n' ∧ x = x' ∧ m = m' ∧ (cx = cx' ∧ cy = cy' ∧ cz = cz') ∧ w.length = w'.length ∧ k.length = k'.length := by
    by_cases h : d = d' ∧ o = o' ∧ n = n' ∧ x = x' ∧ m = m' ∧ (cx = cx' ∧ cy = cy' ∧ cz = cz') ∧ w.length = w'.length ∧ k.length = k'.length
    · exact h
    · exact absurd (hj1.out.2 h) hi
  have e : decide (d = d' ∧ o = o' ∧ n = n' ∧ x = x' ∧ m = m' ∧ (cx = cx' ∧ cy = cy' ∧ cz = cz') ∧ weqL w w' = true ∧ keqL k k' = true) = (weqL w w' && keqL k k') := by
    obtain ⟨p1, p2, p3, p4, p5, p6, p7, p8⟩ := hp
    rw [show (weqL w w' && keqL k k') = decide (weqL w w' = true ∧ keqL k k' = true) by cases weqL w w' <;> cases keqL k k' <;> rfl]
    exact decide_eq_decide.2 ⟨fun h => h.2.2.2.2.2.2, fun h => ⟨p1, p2, p3, p4, p5, p6, h⟩⟩
  rw [e]
  clear e
  refine Sp.of_bodyE Tryd.func20 rfl ?_
  intro Q hQ
  simp only [List.replicate, List.length_cons, List.length_nil, Tryd.ntmps20, Nat.reduceAdd, Nat.reduceSub, List.cons_append, List.nil_append, go_sem]
  have hz : True := trivial
  have hy := yieldedV_eq
  have hL := @q
  repeat' (first | ((with_reducible refine WPV.seqJ 1 ⟨[.any, .any, .ptr 0 0, .ptr 1 0, .sc (.bool false), .any, .any, .any, .any, .any, .any, .any, .any, .any, .any, .any, .any, .any, .any, .any, .any, .any, .any, .any, .any, .any, .any, .any, .any, .any, .any, .any, .any, .any, .any, .any, .any, .any, .any, .any, .any, .any, .any, .any, .any, .any, .any, .any, .any, .any, .any, .any, .any, .any, .any, .any, .any, .any, .any, .any, .any, .any, .any, .any, .sc (.bool (decide (i1 = 0))), .any, .any, .any, .any, .any, .any, .any, .any, .any, .any, .any, .any, .any, .any, .any, .any, .any, .any, .any, .any, .any, .any, .any, .any, .any, .any, .any, .any, .any, .any, .any, .any, .any, .any, .any, .any], [.cells (itL ⟨d, o, n, x, m, ⟨cx, cy, cz⟩, w, k⟩), .cells (itL ⟨d', o', n', x', m', ⟨cx', cy', cz'⟩, w', k'⟩)]⟩ ?_ ?_); intro N hN) | exact jnZ | (refine WPV.seqK ?_; intro N hN) | refine gA ?_ | (refine gR (M := noM) ?_; intro N hN ops hy) | (refine gD (M := noM) ?_; intro N hN; have hy := yieldedV_eq) | (refine WPV.condK ?_; intro A hA B hB) | (refine here ?_; refine sS ?_) | refine Both.mk ?_ ?_ | (refine hN _ ?_; try clear hN N; try clear hy ops) | (refine hA ?_; clear hA A hB B; try simp only [hz]) | (refine hB ?_; clear hA A hB B; try simp only [hz]) | (refine gG ?_ ?_ <;> (intro hz; have h := nm hz; try (exfalso; omega)) <;> (have hz := nz hz; try subst hz)) | (rw [if_pos (show _ ∧ _ from ⟨by omega, by omega⟩)]; refine sS ?_) | refine gT ?_ | (clear hN N))
  all_goals (try (first | exact retZ hQ Tryd.results20 (Desc.re [] rfl) | exact retZN hQ Tryd.results20 (Desc.re [] rfl)))
  clear hj1 q
  obtain ⟨rfl, rfl, rfl, rfl, rfl, ⟨rfl, rfl, rfl⟩, hw, hk⟩ := hp
  clear hi hc
  refine WPV.loopW (α := Nat) (fun i => w.length - i) (fun i => ⟨[.any, .any, .ptr 0 0, .ptr 1 0, .any, .sc (.int .i64 ((i : Nat) : Int)), .any, .any, .any, .any, .any, .any, .any, .any, .any, .any, .any, .any, .any, .any, .any, .any, .any, .any, .any, .any, .any, .any, .any, .any, .any, .any, .any, .any, .any, .any, .any, .any, .any, .any, .any, .any, .any, .any, .any, .any, .any, .any, .any, .any, .any, .any, .any, .any, .any, .any, .any, .any, .any, .any, .any, .any, .any, .any, .any, .any, .any, .any, .any, .any, .any, .any, .any, .any, .any, .any, .any, .any, .any, .any, .any, .any, .any, .any, .any, .any, .any, .any, .any, .any, .any, .any, .any, .any, .any, .any, .any, .any, .any, .any, .any], [.cells (itL ⟨d, o, n, x, m, ⟨cx, cy, cz⟩, w, k⟩), .cells (itL ⟨d, o, n, x, m, ⟨cx, cy, cz⟩, w', k'⟩)]⟩) (fun i => i ≤ w.length ∧ weqL w w' = weqL (w.drop i) (w'.drop i)) 0 Desc.weakA ⟨Nat.zero_le _, rfl⟩ (fun i hJ H => ?_)
  obtain ⟨j1, j2⟩ := hJ
  by_cases h : i < w.length
  · have h' : i < w'.length := by omega
    obtain ⟨y, hx⟩ : ∃ y, w[i] = y := ⟨_, rfl⟩
    obtain ⟨z, hz2⟩ : ∃ z, w'[i] = z := ⟨_, rfl⟩
    have hga : w[i]? = some y := by rw [← hx]; exact List.getElem?_eq_getElem h
    have hgb : w'[i]? = some z := by rw [← hz2]; exact List.getElem?_eq_getElem h'
    rw [List.drop_eq_getElem_cons h, List.drop_eq_getElem_cons h', hx, hz2, weqL_cons] at j2
    cases q0 : eqB y z with
    | true =>
      rw [q0, Bool.true_and] at j2
      have H' := H (i + 1) ⟨h, j2⟩ (by omega)
      clear H hx hz2 j2
      obtain ⟨yk, yv, yg⟩ := y
      obtain ⟨zk, zv, zg⟩ := z
      have q : (yk.toList == zk.toList && (yv.toList == zv.toList && yg == zg)) = true := q0
      refine loopV ?_
      have hz : True := trivial
      have hy := yieldedV_eq
      have hL := And.intro @hga (And.intro @hgb (@q))
      repeat' (first | (refine WPV.seqK ?_; intro N hN) | refine gA ?_ | (refine gR (M := noM) ?_; intro N hN ops hy) | (refine gD (M := noM) ?_; intro N hN; have hy := yieldedV_eq) | (refine WPV.condK ?_; intro A hA B hB) | (refine here ?_; refine sS ?_) | refine Both.mk ?_ ?_ | (refine hN _ ?_; try clear hN N; try clear hy ops) | (refine hA ?_; clear hA A hB B; try simp only [hz]) | (refine hB ?_; clear hA A hB B; try simp only [hz]) | (refine gG ?_ ?_ <;> (intro hz; have h := nm hz; try (exfalso; omega)) <;> (have hz := nz hz; try subst hz)) | (rw [if_pos (show _ ∧ _ from ⟨by omega, by omega⟩)]; refine sS ?_) | refine gT ?_ | (clear hN N))
      all_goals (exact rndZ (Desc.re [some 0, some 1] rfl) (H'))
    | false =>
      rw [q0, Bool.false_and] at j2
      rw [j2, Bool.false_and] at hQ
      clear H hx hz2 j2
      obtain ⟨yk, yv, yg⟩ := y
      obtain ⟨zk, zv, zg⟩ := z
      have q : (yk.toList == zk.toList && (yv.toList == zv.toList && yg == zg)) = false := q0
      refine loopV ?_
      have hz : True := trivial
      have hy := yieldedV_eq
      have hL := And.intro @hga (And.intro @hgb (@q))
      repeat' (first | (refine WPV.seqK ?_; intro N hN) | refine gA ?_ | (refine gR (M := noM) ?_; intro N hN ops hy) | (refine gD (M := noM) ?_; intro N hN; have hy := yieldedV_eq) | (refine WPV.condK ?_; intro A hA B hB) | (refine here ?_; refine sS ?_) | refine Both.mk ?_ ?_ | (refine hN _ ?_; try clear hN N; try clear hy ops) | (refine hA ?_; clear hA A hB B; try simp only [hz]) | (refine hB ?_; clear hA A hB B; try simp only [hz]) | (refine gG ?_ ?_ <;> (intro hz; have h := nm hz; try (exfalso; omega)) <;> (have hz := nz hz; try subst hz)) | (rw [if_pos (show _ ∧ _ from ⟨by omega, by omega⟩)]; refine sS ?_) | refine gT ?_ | (clear hN N))
      all_goals (first | exact retZ hQ Tryd.results20 (Desc.re [] rfl) | exact retZN hQ Tryd.results20 (Desc.re [] rfl))
  obtain rfl : i = w.length := by omega
  have e1 : weqL w w' = true := by rw [j2, hw, List.drop_length, ← hw, List.drop_length]; rfl
  rw [e1, Bool.true_and] at hQ
  clear H j2 e1
  refine loopV ?_
  have hz : True := trivial
  have hy := yieldedV_eq
  have hL := True.intro
  repeat' (first | (refine WPV.seqK ?_; intro N hN) | refine gA ?_ | (refine gR (M := noM) ?_; intro N hN ops hy) | (refine gD (M := noM) ?_; intro N hN; have hy := yieldedV_eq) | (refine WPV.condK ?_; intro A hA B hB) | (refine here ?_; refine sS ?_) | refine Both.mk ?_ ?_ | (refine hN _ ?_; try clear hN N; try clear hy ops) | (refine hA ?_; clear hA A hB B; try simp only [hz]) | (refine hB ?_; clear hA A hB B; try simp only [hz]) | (refine gG ?_ ?_ <;> (intro hz; have h := nm hz; try (exfalso; omega)) <;> (have hz := nz hz; try subst hz)) | (rw [if_pos (show _ ∧ _ from ⟨by omega, by omega⟩)]; refine sS ?_) | refine gT ?_ | (clear hN N))
  refine WPV.loopW (α := Nat) (fun i => k.length - i) (fun i => ⟨[.any, .any, .ptr 0 0, .ptr 1 0, .any, .any, .sc (.int .i64 ((i : Nat) : Int)), .any, .any, .any, .any, .any, .any, .any, .any, .any, .any, .any, .any, .any, .any, .any, .any, .any, .any, .any, .any, .any, .any, .any, .any, .any, .any, .any, .any, .any, .any, .any, .any, .any, .any, .any, .any, .any, .any, .any, .any, .any, .any, .any, .any, .any, .any, .any, .any, .any, .any, .any, .any, .any, .any, .any, .any, .any, .any, .any, .any, .any, .any, .any, .any, .any, .any, .any, .any, .any, .any, .any, .any, .any, .any, .any, .any, .any, .any, .any, .any, .any, .any, .any, .any, .any, .any, .any, .any, .any, .any, .any, .any, .any, .any], [.cells (itL ⟨d, o, n, x, m, ⟨cx, cy, cz⟩, w, k⟩), .cells (itL ⟨d, o, n, x, m, ⟨cx, cy, cz⟩, w', k'⟩)]⟩) (fun i => i ≤ k.length ∧ keqL k k' = keqL (k.drop i) (k'.drop i)) 0 Desc.weakA ⟨Nat.zero_le _, rfl⟩ (fun i hJ H => ?_)
  obtain ⟨j1, j2⟩ := hJ
  by_cases h : i < k.length
  · have h' : i < k'.length := by omega
    obtain ⟨y, hx⟩ : ∃ y, k[i] = y := ⟨_, rfl⟩
    obtain ⟨z, hz2⟩ : ∃ z, k'[i] = z := ⟨_, rfl⟩
    have hga : k[i]? = some y := by rw [← hx]; exact List.getElem?_eq_getElem h
    have hgb : k'[i]? = some z := by rw [← hz2]; exact List.getElem?_eq_getElem h'
    rw [List.drop_eq_getElem_cons h, List.drop_eq_getElem_cons h', hx, hz2, keqL_cons] at j2
    by_cases hyz : y = z
    · rw [show eqN y z = true by simp [eqN, hyz], Bool.true_and] at j2
      have H' := H (i + 1) ⟨h, j2⟩ (by omega)
      clear H hx hz2 j2
      refine loopV ?_
      have hz : True := trivial
      have hy := yieldedV_eq
      have hL := And.intro @hga (@hgb)
      repeat' (first | (refine WPV.seqK ?_; intro N hN) | refine gA ?_ | (refine gR (M := noM) ?_; intro N hN ops hy) | (refine gD (M := noM) ?_; intro N hN; have hy := yieldedV_eq) | (refine WPV.condK ?_; intro A hA B hB) | (refine here ?_; refine sS ?_) | refine Both.mk ?_ ?_ | (refine hN _ ?_; try clear hN N; try clear hy ops) | (refine hA ?_; clear hA A hB B; try simp only [hz]) | (refine hB ?_; clear hA A hB B; try simp only [hz]) | (refine gG ?_ ?_ <;> (intro hz; have h := nm hz; try (exfalso; omega)) <;> (have hz := nz hz; try subst hz)) | (rw [if_pos (show _ ∧ _ from ⟨by omega, by omega⟩)]; refine sS ?_) | refine gT ?_ | (clear hN N))
      all_goals (exact rndZ (Desc.re [some 0, some 1] rfl) (H'))
    · rw [show eqN y z = false by simp [eqN, hyz], Bool.false_and] at j2
      rw [j2] at hQ
      clear H hx hz2 j2
      refine loopV ?_
      have hz : True := trivial
      have hy := yieldedV_eq
      have hL := And.intro @hga (@hgb)
      repeat' (first | (refine WPV.seqK ?_; intro N hN) | refine gA ?_ | (refine gR (M := noM) ?_; intro N hN ops hy) | (refine gD (M := noM) ?_; intro N hN; have hy := yieldedV_eq) | (refine WPV.condK ?_; intro A hA B hB) | (refine here ?_; refine sS ?_) | refine Both.mk ?_ ?_ | (refine hN _ ?_; try clear hN N; try clear hy ops) | (refine hA ?_; clear hA A hB B; try simp only [hz]) | (refine hB ?_; clear hA A hB B; try simp only [hz]) | (refine gG ?_ ?_ <;> (intro hz; have h := nm hz; try (exfalso; omega)) <;> (have hz := nz hz; try subst hz)) | (rw [if_pos (show _ ∧ _ from ⟨by omega, by omega⟩)]; refine sS ?_) | refine gT ?_ | (clear hN N))
      all_goals (first | exact retZ hQ Tryd.results20 (Desc.re [] rfl) | exact retZN hQ Tryd.results20 (Desc.re [] rfl))
  obtain rfl : i = k.length := by omega
  have e1 : keqL k k' = true := by rw [j2, hk, List.drop_length, ← hk, List.drop_length]; rfl
  rw [e1] at hQ
  clear H j2 e1
  refine loopV ?_
  have hz : True := trivial
  have hy := yieldedV_eq
  have hL := True.intro
  repeat' (first | (refine WPV.seqK ?_; intro N hN) | refine gA ?_ | (refine gR (M := noM) ?_; intro N hN ops hy) | (refine gD (M := noM) ?_; intro N hN; have hy := yieldedV_eq) | (refine WPV.condK ?_; intro A hA B hB) | (refine here ?_; refine sS ?_) | refine Both.mk ?_ ?_ | (refine hN _ ?_; try clear hN N; try clear hy ops) | (refine hA ?_; clear hA A hB B; try simp only [hz]) | (refine hB ?_; clear hA A hB B; try simp only [hz]) | (refine gG ?_ ?_ <;> (intro hz; have h := nm hz; try (exfalso; omega)) <;> (have hz := nz hz; try subst hz)) | (rw [if_pos (show _ ∧ _ from ⟨by omega, by omega⟩)]; refine sS ?_) | refine gT ?_ | (clear hN N))
  all_goals (first | exact retZ hQ Tryd.results20 (Desc.re [] rfl) | exact retZN hQ Tryd.results20 (Desc.re [] rfl))
def LenI (l : List It) : Prop := ∀ x ∈ l, x.w.length ≤ 9223372036854775807 ∧ x.k.length ≤ 9223372036854775807
set_option maxRecDepth 100000 in
set_option maxHeartbeats 1000000 in
theorem rsame22_s (l : List It) (hl : l.length ≤ 9223372036854775807) (hx : LenI l) : Sp Tryd.prog K 22 [.sl 10 (its l), .sl 10 (its l)] [] fun u hh => u = .sc (.bool true) ∧ hh = [] := by
  have hget := True.intro
  have co := True.intro
  refine Sp.of_bodyE Tryd.func22 rfl ?_
  intro Q hQ
  simp only [List.replicate, List.length_cons, List.length_nil, Tryd.ntmps22, Nat.reduceAdd, Nat.reduceSub, List.cons_append, List.nil_append, go_sem]
  have hz : True := trivial
  have hy := yieldedV_eq
  have hL := @hget
  repeat' (first | (refine WPV.seqK ?_; intro N hN) | refine gA ?_ | (refine gR (M := noM) ?_; intro N hN ops hy) | (refine gD (M := noM) ?_; intro N hN; have hy := yieldedV_eq) | (refine WPV.condK ?_; intro A hA B hB) | (refine here ?_; refine sS ?_) | refine Both.mk ?_ ?_ | ((with_reducible refine CallO.gd 20 ?_); refine CallO.toB Tryd.call20 (co _) ?_) | ((with_reducible refine CallP.gd 20 ?_); refine CallP.toB Tryd.call20 (co _) ?_) | (refine hN _ ?_; try clear hN N; try clear hy ops) | (refine hA ?_; clear hA A hB B; try simp only [hz]) | (refine hB ?_; clear hA A hB B; try simp only [hz]) | (refine gG ?_ ?_ <;> (intro hz; have h := nm hz; try (exfalso; omega)) <;> (have hz := nz hz; try subst hz)) | (rw [if_pos (show _ ∧ _ from ⟨by omega, by omega⟩)]; refine sS ?_) | refine gT ?_ | (clear hN N))
  clear hget co
  refine WPV.loopW (α := Nat) (fun i => l.length - i) (fun i => ⟨[.sl 10 (its l), .sl 10 (its l), .any, .any, .any, .sc (.int .i64 ((i : Nat) : Int)), .any, .any, .any, .any, .any, .any, .any, .any, .any, .any, .any, .any, .any, .any, .any, .any, .any, .any, .any, .any, .any], []⟩) (fun i => i ≤ l.length) 0 Desc.weakA (Nat.zero_le _) (fun i hJ H => ?_)
  by_cases h : i < l.length
  · obtain ⟨y, hg⟩ : ∃ y, l[i] = y := ⟨_, rfl⟩
    have hget : l[i]? = some y := by rw [← hg]; exact List.getElem?_eq_getElem h
    have hy2 := hx y (hg ▸ List.getElem_mem h)
    have co := rone_s (K := K) y y hy2 hy2
    rw [sameF_refl] at co
    have co := fun h => Sp.lift co (fun _ => rfl) (fun _ => rfl) h
    have H' := H (i + 1) h (by omega)
    clear H hg hy2
    obtain ⟨d, o, n, a, m, ⟨cx, cy, cz⟩, w, k⟩ := y
    refine loopV ?_
    have hz : True := trivial
    have hy := yieldedV_eq
    have hL := @hget
    repeat' (first | (refine WPV.seqK ?_; intro N hN) | refine gA ?_ | (refine gR (M := noM) ?_; intro N hN ops hy) | (refine gD (M := noM) ?_; intro N hN; have hy := yieldedV_eq) | (refine WPV.condK ?_; intro A hA B hB) | (refine here ?_; refine sS ?_) | refine Both.mk ?_ ?_ | ((with_reducible refine CallO.gd 20 ?_); refine CallO.toB Tryd.call20 (co _) ?_) | ((with_reducible refine CallP.gd 20 ?_); refine CallP.toB Tryd.call20 (co _) ?_) | (refine hN _ ?_; try clear hN N; try clear hy ops) | (refine hA ?_; clear hA A hB B; try simp only [hz]) | (refine hB ?_; clear hA A hB B; try simp only [hz]) | (refine gG ?_ ?_ <;> (intro hz; have h := nm hz; try (exfalso; omega)) <;> (have hz := nz hz; try subst hz)) | (rw [if_pos (show _ ∧ _ from ⟨by omega, by omega⟩)]; refine sS ?_) | refine gT ?_ | (clear hN N))
    all_goals (exact rndZ (Desc.re [] rfl) (H'))
  have hget := True.intro
  have co := True.intro
  clear H
  refine loopV ?_
  have hz : True := trivial
  have hy := yieldedV_eq
  have hL := @hget
  repeat' (first | (refine WPV.seqK ?_; intro N hN) | refine gA ?_ | (refine gR (M := noM) ?_; intro N hN ops hy) | (refine gD (M := noM) ?_; intro N hN; have hy := yieldedV_eq) | (refine WPV.condK ?_; intro A hA B hB) | (refine here ?_; refine sS ?_) | refine Both.mk ?_ ?_ | ((with_reducible refine CallO.gd 20 ?_); refine CallO.toB Tryd.call20 (co _) ?_) | ((with_reducible refine CallP.gd 20 ?_); refine CallP.toB Tryd.call20 (co _) ?_) | (refine hN _ ?_; try clear hN N; try clear hy ops) | (refine hA ?_; clear hA A hB B; try simp only [hz]) | (refine hB ?_; clear hA A hB B; try simp only [hz]) | (refine gG ?_ ?_ <;> (intro hz; have h := nm hz; try (exfalso; omega)) <;> (have hz := nz hz; try subst hz)) | (rw [if_pos (show _ ∧ _ from ⟨by omega, by omega⟩)]; refine sS ?_) | refine gT ?_ | (clear hN N))
  all_goals (first | exact retZ hQ Tryd.results22 (Desc.re [] rfl) | exact retZN hQ Tryd.results22 (Desc.re [] rfl))
set_option maxRecDepth 100000 in
set_option maxHeartbeats 1000000 in
theorem own22_s (l : List It) (hl : l.length ≤ 1000000) (h : List Ho) : Sp Tryd.prog K 14 [.sl 10 (its l)] h fun u hh => u = .sl 10 (its l) ∧ hh = h := by
  refine Sp.lift (vs := [.sl 10 (its l)]) ?_ (fun _ => rfl) (fun _ => rfl) h
  have hget := True.intro
  refine Sp.of_bodyE Tryd.func14 rfl ?_
  intro Q hQ
  simp only [List.replicate, List.length_cons, List.length_nil, Tryd.ntmps14, Nat.reduceAdd, Nat.reduceSub, List.cons_append, List.nil_append, go_sem]
  have hz : True := trivial
  have hy := yieldedV_eq
  have hL := @hget
  repeat' (first | (refine WPV.seqK ?_; intro N hN) | refine gA ?_ | (refine gR (M := noM) ?_; intro N hN ops hy) | (refine gD (M := noM) ?_; intro N hN; have hy := yieldedV_eq) | (refine WPV.condK ?_; intro A hA B hB) | (refine here ?_; refine sS ?_) | refine Both.mk ?_ ?_ | (refine hN _ ?_; try clear hN N; try clear hy ops) | (refine hA ?_; clear hA A hB B; try simp only [hz]) | (refine hB ?_; clear hA A hB B; try simp only [hz]) | (refine gG ?_ ?_ <;> (intro hz; have h := nm hz; try (exfalso; omega)) <;> (have hz := nz hz; try subst hz)) | (rw [if_pos (show _ ∧ _ from ⟨by omega, by omega⟩)]; refine sS ?_) | refine gT ?_ | (clear hN N))
  clear hget
  refine WPV.loopW (α := Nat) (fun i => l.length - i) (fun i => ⟨[.any, .any, .any, .own 10 (its (l.take i)) 0, .any, .any, .any, .sl 10 (its l), .sc (.int .i64 (l.length : Int)), .sc (.int .i64 ((i : Nat) : Int)), .any, .any, .any, .any, .any, .any, .any, .any, .any], [.tail]⟩) (fun i => i ≤ l.length) 0 ((Desc.own0 (es := []) 3 10 rfl (.inl rfl)).trans Desc.weakA) (Nat.zero_le _) (fun i hJ H => ?_)
  by_cases h : i < l.length
  · obtain ⟨y, hg⟩ : ∃ y, l[i] = y := ⟨_, rfl⟩
    have hget : l[i]? = some y := by rw [← hg]; exact List.getElem?_eq_getElem h
    have H' := H (i + 1) h (by omega)
    have hlen : (l.take i).length = i := by rw [List.length_take]; omega
    rw [show l.take (i + 1) = l.take i ++ [y] by rw [List.take_add_one, hget]; rfl] at H'
    generalize l.take i = acc at *
    clear H hg
    obtain ⟨d, o, n, a, m, ⟨cx, cy, cz⟩, w, k⟩ := y
    refine loopV ?_
    have hz : True := trivial
    have hy := yieldedV_eq
    have hL := @hget
    repeat' (first | (refine WPV.seqK ?_; intro N hN) | refine gA ?_ | (refine gR (M := noM) ?_; intro N hN ops hy) | (refine gD (M := noM) ?_; intro N hN; have hy := yieldedV_eq) | (refine WPV.condK ?_; intro A hA B hB) | (refine here ?_; refine sS ?_) | refine Both.mk ?_ ?_ | (refine hN _ ?_; try clear hN N; try clear hy ops) | (refine hA ?_; clear hA A hB B; try simp only [hz]) | (refine hB ?_; clear hA A hB B; try simp only [hz]) | (refine gG ?_ ?_ <;> (intro hz; have h := nm hz; try (exfalso; omega)) <;> (have hz := nz hz; try subst hz)) | (rw [if_pos (show _ ∧ _ from ⟨by omega, by omega⟩)]; refine sS ?_) | refine gT ?_ | (clear hN N))
    have hL := And.intro @its_ap2 (@its_on2)
    all_goals (exact rndZ (Desc.re [some 2] rfl) (H'))
  obtain rfl : i = l.length := by omega
  have hget := True.intro
  clear H
  rw [List.take_length]
  refine loopV ?_
  have hz : True := trivial
  have hy := yieldedV_eq
  have hL := @hget
  repeat' (first | (refine WPV.seqK ?_; intro N hN) | refine gA ?_ | (refine gR (M := noM) ?_; intro N hN ops hy) | (refine gD (M := noM) ?_; intro N hN; have hy := yieldedV_eq) | (refine WPV.condK ?_; intro A hA B hB) | (refine here ?_; refine sS ?_) | refine Both.mk ?_ ?_ | (refine hN _ ?_; try clear hN N; try clear hy ops) | (refine hA ?_; clear hA A hB B; try simp only [hz]) | (refine hB ?_; clear hA A hB B; try simp only [hz]) | (refine gG ?_ ?_ <;> (intro hz; have h := nm hz; try (exfalso; omega)) <;> (have hz := nz hz; try subst hz)) | (rw [if_pos (show _ ∧ _ from ⟨by omega, by omega⟩)]; refine sS ?_) | refine gT ?_ | (clear hN N))
  all_goals (first | exact retZ hQ Tryd.results14 (Desc.re [] rfl) | exact retZN hQ Tryd.results14 (Desc.re [] rfl))
def It.big (x : It) : Bool := Tx.big ⟨0, 0, ⟨0, 0, 0⟩, x.w⟩ || decide (30 < x.k.length)
def largeI (l : List It) : Bool := decide (320 < l.length) || l.any It.big
set_option maxRecDepth 100000 in
set_option maxHeartbeats 1000000 in
theorem large22_s (l : List It) (hl : l.length ≤ 9223372036854775807) : Sp Tryd.prog K 11 [.sl 10 (its l)] [] fun u hh => u = .sc (.bool (largeI l)) ∧ hh = [] := by
  have hget := True.intro
  have cb := True.intro
  by_cases h3 : 320 < l.length
  · have e : largeI l = true := by simp [largeI, h3]
    rw [e]
    refine Sp.of_bodyE Tryd.func11 rfl ?_
    intro Q hQ
    simp only [List.replicate, List.length_cons, List.length_nil, Tryd.ntmps11, Nat.reduceAdd, Nat.reduceSub, List.cons_append, List.nil_append, go_sem]
    have hz : True := trivial
    have hy := yieldedV_eq
    have hL := @hget
    repeat' (first | (refine WPV.seqK ?_; intro N hN) | refine gA ?_ | (refine gR (M := noM) ?_; intro N hN ops hy) | (refine gD (M := noM) ?_; intro N hN; have hy := yieldedV_eq) | (refine WPV.condK ?_; intro A hA B hB) | (refine here ?_; refine sS ?_) | refine Both.mk ?_ ?_ | ((with_reducible refine CallO.gd 30 ?_); refine CallO.toB Tryd.call30 (cb _) ?_) | ((with_reducible refine CallP.gd 30 ?_); refine CallP.toB Tryd.call30 (cb _) ?_) | (refine hN _ ?_; try clear hN N; try clear hy ops) | (refine hA ?_; clear hA A hB B; try simp only [hz]) | (refine hB ?_; clear hA A hB B; try simp only [hz]) | (refine gG ?_ ?_ <;> (intro hz; have h := nm hz; try (exfalso; omega)) <;> (have hz := nz hz; try subst hz)) | (rw [if_pos (show _ ∧ _ from ⟨by omega, by omega⟩)]; refine sS ?_) | refine gT ?_ | (clear hN N))
    all_goals (first | exact retZ hQ Tryd.results11 (Desc.re [] rfl) | exact retZN hQ Tryd.results11 (Desc.re [] rfl))
  have e : largeI l = l.any It.big := by simp [largeI, h3]
  rw [e]
  clear e
  refine Sp.of_bodyE Tryd.func11 rfl ?_
  intro Q hQ
  simp only [List.replicate, List.length_cons, List.length_nil, Tryd.ntmps11, Nat.reduceAdd, Nat.reduceSub, List.cons_append, List.nil_append, go_sem]
  have hz : True := trivial
  have hy := yieldedV_eq
  have hL := @hget
  repeat' (first | (refine WPV.seqK ?_; intro N hN) | refine gA ?_ | (refine gR (M := noM) ?_; intro N hN ops hy) | (refine gD (M := noM) ?_; intro N hN; have hy := yieldedV_eq) | (refine WPV.condK ?_; intro A hA B hB) | (refine here ?_; refine sS ?_) | refine Both.mk ?_ ?_ | ((with_reducible refine CallO.gd 30 ?_); refine CallO.toB Tryd.call30 (cb _) ?_) | ((with_reducible refine CallP.gd 30 ?_); refine CallP.toB Tryd.call30 (cb _) ?_) | (refine hN _ ?_; try clear hN N; try clear hy ops) | (refine hA ?_; clear hA A hB B; try simp only [hz]) | (refine hB ?_; clear hA A hB B; try simp only [hz]) | (refine gG ?_ ?_ <;> (intro hz; have h := nm hz; try (exfalso; omega)) <;> (have hz := nz hz; try subst hz)) | (rw [if_pos (show _ ∧ _ from ⟨by omega, by omega⟩)]; refine sS ?_) | refine gT ?_ | (clear hN N))
  clear hget cb
  refine WPV.loopW (α := Nat) (fun i => l.length - i) (fun i => ⟨[.any, .any, .sc (.bool false), .any, .any, .any, .any, .any, .sl 10 (its l), .sc (.int .i64 (l.length : Int)), .sc (.int .i64 ((i : Nat) : Int)), .any, .any, .any, .any, .any, .any, .any, .any, .any, .any, .any, .any, .any, .any], []⟩) (fun i => i ≤ l.length ∧ l.any It.big = (l.drop i).any It.big) 0 Desc.weakA ⟨Nat.zero_le _, rfl⟩ (fun i hJ H => ?_)
  obtain ⟨hJ0, hJ⟩ := hJ
  by_cases h : i < l.length
  · obtain ⟨y, hg⟩ : ∃ y, l[i] = y := ⟨_, rfl⟩
    have hget : l[i]? = some y := by rw [← hg]; exact List.getElem?_eq_getElem h
    have cb := fun h => Sp.lift (tbig_s (K := K) ⟨0, 0, ⟨0, 0, 0⟩, y.w⟩) (fun _ => rfl) (fun _ => rfl) h
    rw [List.drop_eq_getElem_cons h, hg, List.any_cons] at hJ
    cases hb : Tx.big ⟨0, 0, ⟨0, 0, 0⟩, y.w⟩ with
    | true =>
      have e : l.any It.big = true := by rw [hJ]; simp [It.big, hb]
      rw [e] at hQ
      rw [hb] at cb
      clear H hg hJ e
      obtain ⟨d, o, n, a, m, ⟨cx, cy, cz⟩, w, k⟩ := y
      refine loopV ?_
      have hz : True := trivial
      have hy := yieldedV_eq
      have hL := @hget
      repeat' (first | (refine WPV.seqK ?_; intro N hN) | refine gA ?_ | (refine gR (M := noM) ?_; intro N hN ops hy) | (refine gD (M := noM) ?_; intro N hN; have hy := yieldedV_eq) | (refine WPV.condK ?_; intro A hA B hB) | (refine here ?_; refine sS ?_) | refine Both.mk ?_ ?_ | ((with_reducible refine CallO.gd 30 ?_); refine CallO.toB Tryd.call30 (cb _) ?_) | ((with_reducible refine CallP.gd 30 ?_); refine CallP.toB Tryd.call30 (cb _) ?_) | (refine hN _ ?_; try clear hN N; try clear hy ops) | (refine hA ?_; clear hA A hB B; try simp only [hz]) | (refine hB ?_; clear hA A hB B; try simp only [hz]) | (refine gG ?_ ?_ <;> (intro hz; have h := nm hz; try (exfalso; omega)) <;> (have hz := nz hz; try subst hz)) | (rw [if_pos (show _ ∧ _ from ⟨by omega, by omega⟩)]; refine sS ?_) | refine gT ?_ | (clear hN N))
      all_goals (first | exact retZ hQ Tryd.results11 (Desc.re [] rfl) | exact retZN hQ Tryd.results11 (Desc.re [] rfl))
    | false =>
      rw [hb] at cb
      by_cases hk : 30 < y.k.length
      · have e : l.any It.big = true := by rw [hJ]; simp [It.big, hk]
        rw [e] at hQ
        clear H hg hJ e
        obtain ⟨d, o, n, a, m, ⟨cx, cy, cz⟩, w, k⟩ := y
        dsimp only at hk cb
        refine loopV ?_
        have hz : True := trivial
        have hy := yieldedV_eq
        have hL := @hget
        repeat' (first | (refine WPV.seqK ?_; intro N hN) | refine gA ?_ | (refine gR (M := noM) ?_; intro N hN ops hy) | (refine gD (M := noM) ?_; intro N hN; have hy := yieldedV_eq) | (refine WPV.condK ?_; intro A hA B hB) | (refine here ?_; refine sS ?_) | refine Both.mk ?_ ?_ | ((with_reducible refine CallO.gd 30 ?_); refine CallO.toB Tryd.call30 (cb _) ?_) | ((with_reducible refine CallP.gd 30 ?_); refine CallP.toB Tryd.call30 (cb _) ?_) | (refine hN _ ?_; try clear hN N; try clear hy ops) | (refine hA ?_; clear hA A hB B; try simp only [hz]) | (refine hB ?_; clear hA A hB B; try simp only [hz]) | (refine gG ?_ ?_ <;> (intro hz; have h := nm hz; try (exfalso; omega)) <;> (have hz := nz hz; try subst hz)) | (rw [if_pos (show _ ∧ _ from ⟨by omega, by omega⟩)]; refine sS ?_) | refine gT ?_ | (clear hN N))
        all_goals (first | exact retZ hQ Tryd.results11 (Desc.re [] rfl) | exact retZN hQ Tryd.results11 (Desc.re [] rfl))
      · have H' := H (i + 1) ⟨h, by rw [hJ]; simp [It.big, hb, hk]⟩ (by omega)
        clear H hg hJ
        obtain ⟨d, o, n, a, m, ⟨cx, cy, cz⟩, w, k⟩ := y
        dsimp only at hk cb
        refine loopV ?_
        have hz : True := trivial
        have hy := yieldedV_eq
        have hL := @hget
        repeat' (first | (refine WPV.seqK ?_; intro N hN) | refine gA ?_ | (refine gR (M := noM) ?_; intro N hN ops hy) | (refine gD (M := noM) ?_; intro N hN; have hy := yieldedV_eq) | (refine WPV.condK ?_; intro A hA B hB) | (refine here ?_; refine sS ?_) | refine Both.mk ?_ ?_ | ((with_reducible refine CallO.gd 30 ?_); refine CallO.toB Tryd.call30 (cb _) ?_) | ((with_reducible refine CallP.gd 30 ?_); refine CallP.toB Tryd.call30 (cb _) ?_) | (refine hN _ ?_; try clear hN N; try clear hy ops) | (refine hA ?_; clear hA A hB B; try simp only [hz]) | (refine hB ?_; clear hA A hB B; try simp only [hz]) | (refine gG ?_ ?_ <;> (intro hz; have h := nm hz; try (exfalso; omega)) <;> (have hz := nz hz; try subst hz)) | (rw [if_pos (show _ ∧ _ from ⟨by omega, by omega⟩)]; refine sS ?_) | refine gT ?_ | (clear hN N))
        all_goals (exact rndZ (Desc.re [] rfl) (H'))
  obtain rfl : i = l.length := by omega
  have e : l.any It.big = false := by rw [hJ]; simp
  rw [e] at hQ
  have hget := True.intro
  have cb := True.intro
  clear H hJ e
  refine loopV ?_
  have hz : True := trivial
  have hy := yieldedV_eq
  have hL := @hget
  repeat' (first | (refine WPV.seqK ?_; intro N hN) | refine gA ?_ | (refine gR (M := noM) ?_; intro N hN ops hy) | (refine gD (M := noM) ?_; intro N hN; have hy := yieldedV_eq) | (refine WPV.condK ?_; intro A hA B hB) | (refine here ?_; refine sS ?_) | refine Both.mk ?_ ?_ | ((with_reducible refine CallO.gd 30 ?_); refine CallO.toB Tryd.call30 (cb _) ?_) | ((with_reducible refine CallP.gd 30 ?_); refine CallP.toB Tryd.call30 (cb _) ?_) | (refine hN _ ?_; try clear hN N; try clear hy ops) | (refine hA ?_; clear hA A hB B; try simp only [hz]) | (refine hB ?_; clear hA A hB B; try simp only [hz]) | (refine gG ?_ ?_ <;> (intro hz; have h := nm hz; try (exfalso; omega)) <;> (have hz := nz hz; try subst hz)) | (rw [if_pos (show _ ∧ _ from ⟨by omega, by omega⟩)]; refine sS ?_) | refine gT ?_ | (clear hN N))
  all_goals (first | exact retZ hQ Tryd.results11 (Desc.re [] rfl) | exact retZN hQ Tryd.results11 (Desc.re [] rfl))
end Go.Proofs.YtgfnpcmehnjopaaDoor
