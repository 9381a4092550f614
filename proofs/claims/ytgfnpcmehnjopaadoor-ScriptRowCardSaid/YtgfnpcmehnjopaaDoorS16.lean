/- Parts of the proofs, joined: TxnD, ScrW, ScrEa. -/
import Derived.Test.YtgfnpcmehnjopaaDoorS10
import Derived.Test.YtgfnpcmehnjopaaDoorS11
import Derived.Test.YtgfnpcmehnjopaaDoorS13
section
namespace Go.Proofs.YtgfnpcmehnjopaaDoor
open Go Go.RowKit
set_option linter.unusedVariables false
set_option linter.unusedSimpArgs false
variable {K : Nat → Obj → Prop}
theorem long_iff (a : Wr) : a.long = true ↔ 64 < a.k.size ∨ 256 < a.v.size := by simp [Wr.long]
set_option maxRecDepth 100000 in
set_option maxHeartbeats 4000000 in
theorem rtcheck_s (t : Tx) (hl : t.w.length ≤ 9223372036854775807) : Sp Tryd.prog K 34 [txV t] [] fun u hh => u = .sc (.int .i64 (checkF t)) ∧ hh = [] := by
  obtain ⟨o, s, c, w⟩ := t
  have c1 := rcright_s (K := K) c []
  have hx0 := at_get2 c o (.sc (.int .i64 o)) (.sc (.int .i64 s)) [.sl 3 (wrl w)]
  obtain ⟨x, y, z⟩ := c
  dsimp only [clkV] at c1 hx0
  by_cases h1 : o < 0 ∨ 2 < o
  · have e : checkF ⟨o, s, ⟨x, y, z⟩, w⟩ = 9 := by unfold checkF; rw [if_pos h1]
    rw [e]
    have hx := True.intro
    refine Sp.of_bodyE Tryd.func34 rfl ?_
    intro Q hQ
    simp only [List.replicate, List.length_cons, List.length_nil, Tryd.ntmps34, Nat.reduceAdd, Nat.reduceSub, List.cons_append, List.nil_append, go_sem]
    have hz : True := trivial
    have hy := yieldedV_eq
    have hL := @hx
    repeat' (first | (refine WPV.seqK ?_; intro N hN) | refine gA ?_ | (refine gR (M := noM) ?_; intro N hN ops hy) | (refine gD (M := noM) ?_; intro N hN; have hy := yieldedV_eq) | (refine WPV.condK ?_; intro A hA B hB) | (refine here ?_; refine sS ?_) | refine Both.mk ?_ ?_ | ((with_reducible refine CallO.gd 59 ?_); refine CallO.frB [] Tryd.call59 (c1) ?_) | (refine hN _ ?_; try clear hN N; try clear hy ops) | (refine hA ?_; clear hA A hB B; try simp only [hz]) | (refine hB ?_; clear hA A hB B; try simp only [hz]) | (refine gG ?_ ?_ <;> (intro hz; have h := nm hz; try (exfalso; omega)) <;> (have hz := nz hz; try subst hz)) | (rw [if_pos (show _ ∧ _ from ⟨by omega, by omega⟩)]; refine sS ?_) | refine gT ?_ | (clear hN N))
    all_goals (first | exact retZ hQ Tryd.results34 (Desc.re [] rfl) | exact retZN hQ Tryd.results34 (Desc.re [] rfl))
  have hx := hx0 (by omega)
  by_cases h2 : s < 1 ∨ 4611686018427387903 < s ∨ rightF ⟨x, y, z⟩ = false
  · have e : checkF ⟨o, s, ⟨x, y, z⟩, w⟩ = 1 := by unfold checkF; rw [if_neg h1, if_pos h2]
    rw [e]
    cases hr : rightF ⟨x, y, z⟩ with
    | true =>
      rw [hr] at c1 h2
      have h2 : s < 1 ∨ 4611686018427387903 < s := by simpa using h2
      refine Sp.of_bodyE Tryd.func34 rfl ?_
      intro Q hQ
      simp only [List.replicate, List.length_cons, List.length_nil, Tryd.ntmps34, Nat.reduceAdd, Nat.reduceSub, List.cons_append, List.nil_append, go_sem]
      have hz : True := trivial
      have hy := yieldedV_eq
      have hL := @hx
      repeat' (first | (refine WPV.seqK ?_; intro N hN) | refine gA ?_ | (refine gR (M := noM) ?_; intro N hN ops hy) | (refine gD (M := noM) ?_; intro N hN; have hy := yieldedV_eq) | (refine WPV.condK ?_; intro A hA B hB) | (refine here ?_; refine sS ?_) | refine Both.mk ?_ ?_ | ((with_reducible refine CallO.gd 59 ?_); refine CallO.frB [] Tryd.call59 (c1) ?_) | (refine hN _ ?_; try clear hN N; try clear hy ops) | (refine hA ?_; clear hA A hB B; try simp only [hz]) | (refine hB ?_; clear hA A hB B; try simp only [hz]) | (refine gG ?_ ?_ <;> (intro hz; have h := nm hz; try (exfalso; omega)) <;> (have hz := nz hz; try subst hz)) | (rw [if_pos (show _ ∧ _ from ⟨by omega, by omega⟩)]; refine sS ?_) | refine gT ?_ | (clear hN N))
      all_goals (first | exact retZ hQ Tryd.results34 (Desc.re [] rfl) | exact retZN hQ Tryd.results34 (Desc.re [] rfl))
    | false =>
      rw [hr] at c1
      clear h2
      refine Sp.of_bodyE Tryd.func34 rfl ?_
      intro Q hQ
      simp only [List.replicate, List.length_cons, List.length_nil, Tryd.ntmps34, Nat.reduceAdd, Nat.reduceSub, List.cons_append, List.nil_append, go_sem]
      have hz : True := trivial
      have hy := yieldedV_eq
      have hL := @hx
      repeat' (first | (refine WPV.seqK ?_; intro N hN) | refine gA ?_ | (refine gR (M := noM) ?_; intro N hN ops hy) | (refine gD (M := noM) ?_; intro N hN; have hy := yieldedV_eq) | (refine WPV.condK ?_; intro A hA B hB) | (refine here ?_; refine sS ?_) | refine Both.mk ?_ ?_ | ((with_reducible refine CallO.gd 59 ?_); refine CallO.frB [] Tryd.call59 (c1) ?_) | (refine hN _ ?_; try clear hN N; try clear hy ops) | (refine hA ?_; clear hA A hB B; try simp only [hz]) | (refine hB ?_; clear hA A hB B; try simp only [hz]) | (refine gG ?_ ?_ <;> (intro hz; have h := nm hz; try (exfalso; omega)) <;> (have hz := nz hz; try subst hz)) | (rw [if_pos (show _ ∧ _ from ⟨by omega, by omega⟩)]; refine sS ?_) | refine gT ?_ | (clear hN N))
      all_goals (first | exact retZ hQ Tryd.results34 (Desc.re [] rfl) | exact retZN hQ Tryd.results34 (Desc.re [] rfl))
  have hr : rightF ⟨x, y, z⟩ = true := by
    cases h : rightF ⟨x, y, z⟩
    · exact absurd (.inr (.inr h)) h2
    · rfl
  have h2 : ¬ (s < 1 ∨ 4611686018427387903 < s) := fun h => h2 (by rcases h with h | h <;> simp [h])
  obtain ⟨d, hd⟩ : ∃ d, Clk.at_ ⟨x, y, z⟩ o = d := ⟨_, rfl⟩
  rw [check_tail h1 h2 hr hd]
  rw [hr] at c1
  rw [hd] at hx
  have hdb := at_bd hr hd
  clear hx0
  refine Sp.of_bodyE Tryd.func34 rfl ?_
  intro Q hQ
  simp only [List.replicate, List.length_cons, List.length_nil, Tryd.ntmps34, Nat.reduceAdd, Nat.reduceSub, List.cons_append, List.nil_append, go_sem]
  have hz : True := trivial
  have hy := yieldedV_eq
  have hL := @hx
  repeat' (first | (refine WPV.seqK ?_; intro N hN) | refine gA ?_ | (refine gR (M := noM) ?_; intro N hN ops hy) | (refine gD (M := noM) ?_; intro N hN; have hy := yieldedV_eq) | (refine WPV.condK ?_; intro A hA B hB) | (refine here ?_; refine sS ?_) | refine Both.mk ?_ ?_ | ((with_reducible refine CallO.gd 59 ?_); refine CallO.frB [] Tryd.call59 (c1) ?_) | (refine hN _ ?_; try clear hN N; try clear hy ops) | (refine hA ?_; clear hA A hB B; try simp only [hz]) | (refine hB ?_; clear hA A hB B; try simp only [hz]) | (refine gG ?_ ?_ <;> (intro hz; have h := nm hz; try (exfalso; omega)) <;> (have hz := nz hz; try subst hz)) | (rw [if_pos (show _ ∧ _ from ⟨by omega, by omega⟩)]; refine sS ?_) | refine gT ?_ | (clear hN N))
  all_goals (try (first | exact retZ hQ Tryd.results34 (Desc.re [] rfl) | exact retZN hQ Tryd.results34 (Desc.re [] rfl)))
  have e1 : ¬ d ≠ s - 1 := by omega
  have e2 : ¬ 16 < w.length := by omega
  rw [if_neg e1, if_neg e2] at hQ
  clear hx c1
  refine WPV.loopW (α := Nat) (fun k => w.length - k) (fun k => ⟨[.any, .ptr 0 0, .any, .sc (.int .i64 ((k : Nat) : Int)), .any, .any, .any, .any, .any, .any, .any, .any, .any, .any, .any, .any, .any, .any, .any, .any, .any, .any, .any, .any, .any, .any, .any, .any, .any, .any, .any, .any, .any, .any, .any, .any, .any, .any, .any, .any, .any, .any, .any, .any, .any, .any, .any, .any, .any, .any, .any, .any, .any, .any, .any, .any, .any, .any, .any, .any, .any, .any, .any, .any, .any, .any, .any, .any, .any, .any, .any, .any, .any, .any, .any, .any, .any, .any, .any, .any, .any, .any, .any, .any, .any, .any, .any], [.cells [.sc (.int .i64 o), .sc (.int .i64 s), .sc (.int .i64 x), .sc (.int .i64 y), .sc (.int .i64 z), .sl 3 (wrl w)]]⟩) (fun k => k ≤ w.length ∧ w.any Wr.long = (w.drop k).any Wr.long) 0 Desc.weakA ⟨Nat.zero_le _, rfl⟩ (fun k hJ H => ?_)
  obtain ⟨hk0, hJ⟩ := hJ
  by_cases h : k < w.length
  · obtain ⟨a, hg⟩ : ∃ a, w[k] = a := ⟨_, rfl⟩
    have hget : w[k]? = some a := by rw [← hg]; exact List.getElem?_eq_getElem h
    rw [List.drop_eq_getElem_cons h, List.any_cons, hg] at hJ
    have li := long_iff a
    by_cases hb : a.long = true
    · have e : w.any Wr.long = true := by rw [hJ, hb]; rfl
      rw [if_pos e] at hQ
      have hb2 := li.1 hb
      clear H hg hJ li
      refine loopV ?_
      have hz : True := trivial
      have hy := yieldedV_eq
      have hL := @hget
      repeat' (first | (refine WPV.seqK ?_; intro N hN) | refine gA ?_ | (refine gR (M := noM) ?_; intro N hN ops hy) | (refine gD (M := noM) ?_; intro N hN; have hy := yieldedV_eq) | (refine WPV.condK ?_; intro A hA B hB) | (refine here ?_; refine sS ?_) | refine Both.mk ?_ ?_ | (refine hN _ ?_; try clear hN N; try clear hy ops) | (refine hA ?_; clear hA A hB B; try simp only [hz]) | (refine hB ?_; clear hA A hB B; try simp only [hz]) | (refine gG ?_ ?_ <;> (intro hz; have h := nm hz; try (exfalso; omega)) <;> (have hz := nz hz; try subst hz)) | (rw [if_pos (show _ ∧ _ from ⟨by omega, by omega⟩)]; refine sS ?_) | refine gT ?_ | (clear hN N))
      all_goals (first | exact retZ hQ Tryd.results34 (Desc.re [] rfl) | exact retZN hQ Tryd.results34 (Desc.re [] rfl))
    · have H' := H (k + 1) ⟨h, by rw [hJ]; simp [hb]⟩ (by omega)
      have hb2 : ¬ (64 < a.k.size ∨ 256 < a.v.size) := fun h => hb (li.2 h)
      clear H hg hJ li
      refine loopV ?_
      have hz : True := trivial
      have hy := yieldedV_eq
      have hL := @hget
      repeat' (first | (refine WPV.seqK ?_; intro N hN) | refine gA ?_ | (refine gR (M := noM) ?_; intro N hN ops hy) | (refine gD (M := noM) ?_; intro N hN; have hy := yieldedV_eq) | (refine WPV.condK ?_; intro A hA B hB) | (refine here ?_; refine sS ?_) | refine Both.mk ?_ ?_ | (refine hN _ ?_; try clear hN N; try clear hy ops) | (refine hA ?_; clear hA A hB B; try simp only [hz]) | (refine hB ?_; clear hA A hB B; try simp only [hz]) | (refine gG ?_ ?_ <;> (intro hz; have h := nm hz; try (exfalso; omega)) <;> (have hz := nz hz; try subst hz)) | (rw [if_pos (show _ ∧ _ from ⟨by omega, by omega⟩)]; refine sS ?_) | refine gT ?_ | (clear hN N))
      all_goals (exact rndZ (Desc.re [some 0] rfl) (H'))
  obtain rfl : k = w.length := by omega
  have e : ¬ w.any Wr.long = true := by rw [hJ]; simp
  rw [if_neg e] at hQ
  clear H hJ e
  refine loopV ?_
  have hz : True := trivial
  have hy := yieldedV_eq
  have hL := True.intro
  repeat' (first | (refine WPV.seqK ?_; intro N hN) | refine gA ?_ | (refine gR (M := noM) ?_; intro N hN ops hy) | (refine gD (M := noM) ?_; intro N hN; have hy := yieldedV_eq) | (refine WPV.condK ?_; intro A hA B hB) | (refine here ?_; refine sS ?_) | refine Both.mk ?_ ?_ | (refine hN _ ?_; try clear hN N; try clear hy ops) | (refine hA ?_; clear hA A hB B; try simp only [hz]) | (refine hB ?_; clear hA A hB B; try simp only [hz]) | (refine gG ?_ ?_ <;> (intro hz; have h := nm hz; try (exfalso; omega)) <;> (have hz := nz hz; try subst hz)) | (rw [if_pos (show _ ∧ _ from ⟨by omega, by omega⟩)]; refine sS ?_) | refine gT ?_ | (clear hN N))
  refine WPV.loopW (α := Nat) (fun k => w.length - k) (fun k => ⟨[.any, .ptr 0 0, .any, .any, .sc (.int .i64 ((k : Nat) : Int)), .any, .any, .any, .any, .any, .any, .any, .any, .any, .any, .any, .any, .any, .any, .any, .any, .any, .any, .any, .any, .any, .any, .any, .any, .any, .any, .any, .any, .any, .any, .any, .any, .any, .any, .any, .any, .any, .any, .any, .any, .any, .any, .any, .any, .any, .any, .any, .any, .any, .any, .any, .any, .any, .any, .any, .any, .any, .any, .any, .any, .any, .any, .any, .any, .any, .any, .any, .any, .any, .any, .any, .any, .any, .any, .any, .any, .any, .any, .any, .any, .any, .any], [.cells [.sc (.int .i64 o), .sc (.int .i64 s), .sc (.int .i64 x), .sc (.int .i64 y), .sc (.int .i64 z), .sl 3 (wrl w)]]⟩) (fun k => k ≤ w.length ∧ w.any Wr.odd = (w.drop k).any Wr.odd) 0 Desc.weakA ⟨Nat.zero_le _, rfl⟩ (fun k hJ H => ?_)
  obtain ⟨hk0, hJ⟩ := hJ
  by_cases h : k < w.length
  · obtain ⟨a, hg⟩ : ∃ a, w[k] = a := ⟨_, rfl⟩
    have hget : w[k]? = some a := by rw [← hg]; exact List.getElem?_eq_getElem h
    rw [List.drop_eq_getElem_cons h, List.any_cons, hg] at hJ
    obtain ⟨ak, av, ag⟩ := a
    have od := odd_e av
    by_cases hb : Wr.odd ⟨ak, av, ag⟩ = true
    · have e : w.any Wr.odd = true := by rw [hJ, hb]; rfl
      rw [if_pos e] at hQ
      obtain ⟨rfl, hv⟩ : ag = true ∧ decide (av ≠ ByteArray.empty) = true := by simpa [Wr.odd] using hb
      rw [hv] at od
      clear H hg hJ hb e
      refine loopV ?_
      have hz : True := trivial
      have hy := yieldedV_eq
      have hL := And.intro @hget (@od)
      repeat' (first | (refine WPV.seqK ?_; intro N hN) | refine gA ?_ | (refine gR (M := noM) ?_; intro N hN ops hy) | (refine gD (M := noM) ?_; intro N hN; have hy := yieldedV_eq) | (refine WPV.condK ?_; intro A hA B hB) | (refine here ?_; refine sS ?_) | refine Both.mk ?_ ?_ | (refine hN _ ?_; try clear hN N; try clear hy ops) | (refine hA ?_; clear hA A hB B; try simp only [hz]) | (refine hB ?_; clear hA A hB B; try simp only [hz]) | (refine gG ?_ ?_ <;> (intro hz; have h := nm hz; try (exfalso; omega)) <;> (have hz := nz hz; try subst hz)) | (rw [if_pos (show _ ∧ _ from ⟨by omega, by omega⟩)]; refine sS ?_) | refine gT ?_ | (clear hN N))
      all_goals (first | exact retZ hQ Tryd.results34 (Desc.re [] rfl) | exact retZN hQ Tryd.results34 (Desc.re [] rfl))
    · have H' := H (k + 1) ⟨h, by rw [hJ]; simp [hb]⟩ (by omega)
      clear H hg hJ
      cases ag with
      | false =>
        refine loopV ?_
        have hz : True := trivial
        have hy := yieldedV_eq
        have hL := @hget
        repeat' (first | (refine WPV.seqK ?_; intro N hN) | refine gA ?_ | (refine gR (M := noM) ?_; intro N hN ops hy) | (refine gD (M := noM) ?_; intro N hN; have hy := yieldedV_eq) | (refine WPV.condK ?_; intro A hA B hB) | (refine here ?_; refine sS ?_) | refine Both.mk ?_ ?_ | (refine hN _ ?_; try clear hN N; try clear hy ops) | (refine hA ?_; clear hA A hB B; try simp only [hz]) | (refine hB ?_; clear hA A hB B; try simp only [hz]) | (refine gG ?_ ?_ <;> (intro hz; have h := nm hz; try (exfalso; omega)) <;> (have hz := nz hz; try subst hz)) | (rw [if_pos (show _ ∧ _ from ⟨by omega, by omega⟩)]; refine sS ?_) | refine gT ?_ | (clear hN N))
        all_goals (exact rndZ (Desc.re [some 0] rfl) (H'))
      | true =>
        have hv : decide (av ≠ ByteArray.empty) = false := by simpa [Wr.odd] using hb
        rw [hv] at od
        refine loopV ?_
        have hz : True := trivial
        have hy := yieldedV_eq
        have hL := And.intro @hget (@od)
        repeat' (first | (refine WPV.seqK ?_; intro N hN) | refine gA ?_ | (refine gR (M := noM) ?_; intro N hN ops hy) | (refine gD (M := noM) ?_; intro N hN; have hy := yieldedV_eq) | (refine WPV.condK ?_; intro A hA B hB) | (refine here ?_; refine sS ?_) | refine Both.mk ?_ ?_ | (refine hN _ ?_; try clear hN N; try clear hy ops) | (refine hA ?_; clear hA A hB B; try simp only [hz]) | (refine hB ?_; clear hA A hB B; try simp only [hz]) | (refine gG ?_ ?_ <;> (intro hz; have h := nm hz; try (exfalso; omega)) <;> (have hz := nz hz; try subst hz)) | (rw [if_pos (show _ ∧ _ from ⟨by omega, by omega⟩)]; refine sS ?_) | refine gT ?_ | (clear hN N))
        all_goals (exact rndZ (Desc.re [some 0] rfl) (H'))
  obtain rfl : k = w.length := by omega
  have e : ¬ w.any Wr.odd = true := by rw [hJ]; simp
  rw [if_neg e] at hQ
  clear H hJ e
  refine loopV ?_
  have hz : True := trivial
  have hy := yieldedV_eq
  have hL := True.intro
  repeat' (first | (refine WPV.seqK ?_; intro N hN) | refine gA ?_ | (refine gR (M := noM) ?_; intro N hN ops hy) | (refine gD (M := noM) ?_; intro N hN; have hy := yieldedV_eq) | (refine WPV.condK ?_; intro A hA B hB) | (refine here ?_; refine sS ?_) | refine Both.mk ?_ ?_ | (refine hN _ ?_; try clear hN N; try clear hy ops) | (refine hA ?_; clear hA A hB B; try simp only [hz]) | (refine hB ?_; clear hA A hB B; try simp only [hz]) | (refine gG ?_ ?_ <;> (intro hz; have h := nm hz; try (exfalso; omega)) <;> (have hz := nz hz; try subst hz)) | (rw [if_pos (show _ ∧ _ from ⟨by omega, by omega⟩)]; refine sS ?_) | refine gT ?_ | (clear hN N))
  all_goals (first | exact retZ hQ Tryd.results34 (Desc.re [] rfl) | exact retZN hQ Tryd.results34 (Desc.re [] rfl))
end Go.Proofs.YtgfnpcmehnjopaaDoor
end
section
namespace Go.Proofs.YtgfnpcmehnjopaaDoor
open Go Go.RowKit
set_option linter.unusedVariables false
set_option linter.unusedSimpArgs false
variable {K : Nat → Obj → Prop}
def memI (d : Int) (l : List Int) : Bool := l.any fun n => decide (d = n)
set_option maxRecDepth 100000 in
set_option maxHeartbeats 1000000 in
theorem one_s (x : It) (l : List Int) (hl : l.length ≤ 1000) : Sp Tryd.prog K 95 [itV x, .sl 1 (il l)] [] fun u hh => u = .sc (.bool (memI x.d l)) ∧ hh = [] := by
  have hget : True := trivial
  obtain ⟨d, o, n, a, m, ⟨cx, cy, cz⟩, w, k⟩ := x
  dsimp only
  refine Sp.of_bodyE Tryd.func95 rfl ?_
  intro Q hQ
  simp only [List.replicate, List.length_cons, List.length_nil, Tryd.ntmps95, Nat.reduceAdd, Nat.reduceSub, List.cons_append, List.nil_append, go_sem]
  have hz : True := trivial
  have hy := yieldedV_eq
  have hL := @hget
  repeat' (first | (refine WPV.seqK ?_; intro N hN) | refine gA ?_ | (refine gR (M := noM) ?_; intro N hN ops hy) | (refine gD (M := noM) ?_; intro N hN; have hy := yieldedV_eq) | (refine WPV.condK ?_; intro A hA B hB) | (refine here ?_; refine sS ?_) | refine Both.mk ?_ ?_ | (refine hN _ ?_; try clear hN N; try clear hy ops) | (refine hA ?_; clear hA A hB B; try simp only [hz]) | (refine hB ?_; clear hA A hB B; try simp only [hz]) | (refine gG ?_ ?_ <;> (intro hz; have h := nm hz; try (exfalso; omega)) <;> (have hz := nz hz; try subst hz)) | (rw [if_pos (show _ ∧ _ from ⟨by omega, by omega⟩)]; refine sS ?_) | refine gT ?_ | (clear hN N))
  refine WPV.loopW (α := Nat) (fun i => l.length - i) (fun i => ⟨[.any, .sl 1 (il l), .ptr 0 0, .any, .any, .sc (.int .i64 ((i : Nat) : Int)), .any, .any, .any, .any, .any, .any, .any, .any, .any, .any, .any, .any, .any], [.cells [.sc (.int .i64 d), .sc (.int .i64 o), .sc (.int .i64 n), .sc (.int .i64 a), .sc (.int .u32 m), .sc (.int .i64 cx), .sc (.int .i64 cy), .sc (.int .i64 cz), .sl 3 (wrl w), .sl 1 (il k)]]⟩) (fun i => i ≤ l.length ∧ memI d l = memI d (l.drop i)) 0 Desc.weakA ⟨Nat.zero_le _, rfl⟩ (fun i hJ H => ?_)
  obtain ⟨hk0, hJ⟩ := hJ
  clear hget
  by_cases h : i < l.length
  · obtain ⟨y, hg⟩ : ∃ y, l[i] = y := ⟨_, rfl⟩
    have hget : l[i]? = some y := by rw [← hg]; exact List.getElem?_eq_getElem h
    rw [List.drop_eq_getElem_cons h, hg] at hJ
    by_cases hb : d = y
    · have e : memI d l = true := by rw [hJ]; simp [memI, hb]
      rw [e] at hQ
      clear H hg hJ
      refine loopV ?_
      have hz : True := trivial
      have hy := yieldedV_eq
      have hL := @hget
      repeat' (first | (refine WPV.seqK ?_; intro N hN) | refine gA ?_ | (refine gR (M := noM) ?_; intro N hN ops hy) | (refine gD (M := noM) ?_; intro N hN; have hy := yieldedV_eq) | (refine WPV.condK ?_; intro A hA B hB) | (refine here ?_; refine sS ?_) | refine Both.mk ?_ ?_ | (refine hN _ ?_; try clear hN N; try clear hy ops) | (refine hA ?_; clear hA A hB B; try simp only [hz]) | (refine hB ?_; clear hA A hB B; try simp only [hz]) | (refine gG ?_ ?_ <;> (intro hz; have h := nm hz; try (exfalso; omega)) <;> (have hz := nz hz; try subst hz)) | (rw [if_pos (show _ ∧ _ from ⟨by omega, by omega⟩)]; refine sS ?_) | refine gT ?_ | (clear hN N))
      all_goals (first | exact retZ hQ Tryd.results95 (Desc.re [] rfl) | exact retZN hQ Tryd.results95 (Desc.re [] rfl))
    · have H' := H (i + 1) ⟨h, by rw [hJ]; simp [memI, hb]⟩ (by omega)
      clear H hg hJ
      refine loopV ?_
      have hz : True := trivial
      have hy := yieldedV_eq
      have hL := @hget
      repeat' (first | (refine WPV.seqK ?_; intro N hN) | refine gA ?_ | (refine gR (M := noM) ?_; intro N hN ops hy) | (refine gD (M := noM) ?_; intro N hN; have hy := yieldedV_eq) | (refine WPV.condK ?_; intro A hA B hB) | (refine here ?_; refine sS ?_) | refine Both.mk ?_ ?_ | (refine hN _ ?_; try clear hN N; try clear hy ops) | (refine hA ?_; clear hA A hB B; try simp only [hz]) | (refine hB ?_; clear hA A hB B; try simp only [hz]) | (refine gG ?_ ?_ <;> (intro hz; have h := nm hz; try (exfalso; omega)) <;> (have hz := nz hz; try subst hz)) | (rw [if_pos (show _ ∧ _ from ⟨by omega, by omega⟩)]; refine sS ?_) | refine gT ?_ | (clear hN N))
      all_goals (exact rndZ (Desc.re [some 0] rfl) (H'))
  · obtain rfl : i = l.length := by omega
    have e : memI d l = false := by rw [hJ]; simp [memI]
    rw [e] at hQ
    have hget : True := trivial
    clear H hJ e
    refine loopV ?_
    have hz : True := trivial
    have hy := yieldedV_eq
    have hL := @hget
    repeat' (first | (refine WPV.seqK ?_; intro N hN) | refine gA ?_ | (refine gR (M := noM) ?_; intro N hN ops hy) | (refine gD (M := noM) ?_; intro N hN; have hy := yieldedV_eq) | (refine WPV.condK ?_; intro A hA B hB) | (refine here ?_; refine sS ?_) | refine Both.mk ?_ ?_ | (refine hN _ ?_; try clear hN N; try clear hy ops) | (refine hA ?_; clear hA A hB B; try simp only [hz]) | (refine hB ?_; clear hA A hB B; try simp only [hz]) | (refine gG ?_ ?_ <;> (intro hz; have h := nm hz; try (exfalso; omega)) <;> (have hz := nz hz; try subst hz)) | (rw [if_pos (show _ ∧ _ from ⟨by omega, by omega⟩)]; refine sS ?_) | refine gT ?_ | (clear hN N))
    all_goals (first | exact retZ hQ Tryd.results95 (Desc.re [] rfl) | exact retZN hQ Tryd.results95 (Desc.re [] rfl))
theorem mem_who (d : Int) (h : 0 ≤ d ∧ d ≤ 8) : memI d [0, 1, 2, 7, 8] = decide (d < 3 ∨ d = 7 ∨ d = 8) := by
  obtain rfl | rfl | rfl | rfl | rfl | rfl | rfl | rfl | rfl : d = 0 ∨ d = 1 ∨ d = 2 ∨ d = 3 ∨ d = 4 ∨ d = 5 ∨ d = 6 ∨ d = 7 ∨ d = 8 := by omega
  all_goals decide
theorem mem_num (d : Int) (h : 0 ≤ d ∧ d ≤ 8) : memI d [3, 4, 5, 6, 8] = decide (3 ≤ d ∧ d ≤ 6 ∨ d = 8) := by
  obtain rfl | rfl | rfl | rfl | rfl | rfl | rfl | rfl | rfl : d = 0 ∨ d = 1 ∨ d = 2 ∨ d = 3 ∨ d = 4 ∨ d = 5 ∨ d = 6 ∨ d = 7 ∨ d = 8 := by omega
  all_goals decide
set_option maxRecDepth 100000 in
theorem rwho_s (x : It) (hd : 0 ≤ x.d ∧ x.d ≤ 8) (h : List Ho) : Sp Tryd.prog K 57 [itV x] h fun u hh => u = .sc (.bool (decide (x.d < 3 ∨ x.d = 7 ∨ x.d = 8))) ∧ hh = h := by
  refine Sp.lift (vs := [itV x]) ?_ (fun _ => rfl) (fun _ => rfl) h
  have c1 : Sp Tryd.prog K 95 [itV x, .sl 1 [[.sc (.int .i64 0)], [.sc (.int .i64 1)], [.sc (.int .i64 2)], [.sc (.int .i64 7)], [.sc (.int .i64 8)]]] [] fun u hh => u = .sc (.bool (memI x.d [0, 1, 2, 7, 8])) ∧ hh = [] := one_s x [0, 1, 2, 7, 8] (by decide)
  rw [mem_who _ hd] at c1
  obtain ⟨d, o, n, a, m, ⟨cx, cy, cz⟩, w, k⟩ := x
  dsimp only at c1 ⊢
  refine Sp.of_bodyE Tryd.func57 rfl ?_
  intro Q hQ
  simp only [List.replicate, List.length_cons, List.length_nil, Tryd.ntmps57, Nat.reduceAdd, Nat.reduceSub, List.cons_append, List.nil_append, go_sem]
  have hz : True := trivial
  have hy := yieldedV_eq
  have hL := True.intro
  repeat' (first | (refine WPV.seqK ?_; intro N hN) | refine gA ?_ | (refine gR (M := noM) ?_; intro N hN ops hy) | (refine gD (M := noM) ?_; intro N hN; have hy := yieldedV_eq) | (refine WPV.condK ?_; intro A hA B hB) | (refine here ?_; refine sS ?_) | refine Both.mk ?_ ?_ | ((with_reducible refine CallO.gd 95 ?_); refine CallO.frB [] Tryd.call95 (c1) ?_) | (refine hN _ ?_; try clear hN N; try clear hy ops) | (refine hA ?_; clear hA A hB B; try simp only [hz]) | (refine hB ?_; clear hA A hB B; try simp only [hz]) | (refine gG ?_ ?_ <;> (intro hz; have h := nm hz; try (exfalso; omega)) <;> (have hz := nz hz; try subst hz)) | (rw [if_pos (show _ ∧ _ from ⟨by omega, by omega⟩)]; refine sS ?_) | refine gT ?_ | (clear hN N))
  all_goals (first | exact retZ hQ Tryd.results57 (Desc.re [] rfl) | exact retZN hQ Tryd.results57 (Desc.re [] rfl))
set_option maxRecDepth 100000 in
theorem rnumber_s (x : It) (hd : 0 ≤ x.d ∧ x.d ≤ 8) (h : List Ho) : Sp Tryd.prog K 58 [itV x] h fun u hh => u = .sc (.bool (decide (3 ≤ x.d ∧ x.d ≤ 6 ∨ x.d = 8))) ∧ hh = h := by
  refine Sp.lift (vs := [itV x]) ?_ (fun _ => rfl) (fun _ => rfl) h
  have c1 : Sp Tryd.prog K 95 [itV x, .sl 1 [[.sc (.int .i64 3)], [.sc (.int .i64 4)], [.sc (.int .i64 5)], [.sc (.int .i64 6)], [.sc (.int .i64 8)]]] [] fun u hh => u = .sc (.bool (memI x.d [3, 4, 5, 6, 8])) ∧ hh = [] := one_s x [3, 4, 5, 6, 8] (by decide)
  rw [mem_num _ hd] at c1
  obtain ⟨d, o, n, a, m, ⟨cx, cy, cz⟩, w, k⟩ := x
  dsimp only at c1 ⊢
  refine Sp.of_bodyE Tryd.func58 rfl ?_
  intro Q hQ
  simp only [List.replicate, List.length_cons, List.length_nil, Tryd.ntmps58, Nat.reduceAdd, Nat.reduceSub, List.cons_append, List.nil_append, go_sem]
  have hz : True := trivial
  have hy := yieldedV_eq
  have hL := True.intro
  repeat' (first | (refine WPV.seqK ?_; intro N hN) | refine gA ?_ | (refine gR (M := noM) ?_; intro N hN ops hy) | (refine gD (M := noM) ?_; intro N hN; have hy := yieldedV_eq) | (refine WPV.condK ?_; intro A hA B hB) | (refine here ?_; refine sS ?_) | refine Both.mk ?_ ?_ | ((with_reducible refine CallO.gd 95 ?_); refine CallO.frB [] Tryd.call95 (c1) ?_) | (refine hN _ ?_; try clear hN N; try clear hy ops) | (refine hA ?_; clear hA A hB B; try simp only [hz]) | (refine hB ?_; clear hA A hB B; try simp only [hz]) | (refine gG ?_ ?_ <;> (intro hz; have h := nm hz; try (exfalso; omega)) <;> (have hz := nz hz; try subst hz)) | (rw [if_pos (show _ ∧ _ from ⟨by omega, by omega⟩)]; refine sS ?_) | refine gT ?_ | (clear hN N))
  all_goals (first | exact retZ hQ Tryd.results58 (Desc.re [] rfl) | exact retZN hQ Tryd.results58 (Desc.re [] rfl))
end Go.Proofs.YtgfnpcmehnjopaaDoor
end
section
namespace Go.Proofs.YtgfnpcmehnjopaaDoor
open Go Go.RowKit
set_option linter.unusedVariables false
set_option linter.unusedSimpArgs false
variable {K : Nat → Obj → Prop}
set_option maxRecDepth 100000 in
set_option maxHeartbeats 4000000 in
theorem rc3_s {d o n a m cx cy cz : Int} {w : List Wr} {k : List Int} {iw : Int} (hd : 0 ≤ d ∧ d ≤ 8) (cw : ∀ h, Sp Tryd.prog K 57 [itV ⟨d, o, n, a, m, ⟨cx, cy, cz⟩, w, k⟩] h fun u hh => u = .sc (.bool (decide (d < 3 ∨ d = 7 ∨ d = 8))) ∧ hh = h) (hj1 : Hd (iw = 0 ↔ ¬ (d < 2 ∧ 0 ≤ o ∧ o < 3 ∨ (d = 2 ∨ d = 7 ∨ d = 8) ∧ 0 ≤ o ∧ o ≤ 3 ∨ o = 0))) (c : Code) (hc : ((Tryd.f18).body.bind (regC 3)) = some c) {Q : Exit → Sv → Prop} (N : Sv → Prop) (hN : ∀ st, Desc K 0 st ⟨[.any, .ptr 0 0, .sc (.int .i64 0), .any, .any, .any, .any, .any, .any, .any, .any, .any, .any, .any, .any, .any, .any, .any, .any, .any, .any, .any, .any, .any, .any, .any, .any, .any, .any, .any, .any, .any, .any, .any, .any, .any, .any, .any, .any, .sc (.bool (decide (iw = 0))), .any, .any, .any, .any, .any, .any, .any, .any, .any, .any, .any, .any, .any, .any, .any, .any, .any, .any, .any, .any, .any, .any, .any, .any, .any, .any, .any, .any, .any, .any, .any, .any, .any, .any, .any, .any, .any, .any, .any, .any, .any, .any, .any, .any, .any, .any, .any, .any, .any, .any, .any, .any, .any, .any, .any, .any, .any, .any, .any, .any, .any, .any, .any, .any, .any, .any, .any, .any, .any, .any, .any, .any, .any, .any, .any, .any, .any, .any, .any, .any, .any, .any, .any, .any, .any, .any, .any, .any, .any, .any, .any, .any, .any, .any, .any, .any, .any, .any, .any, .any, .any, .any, .any, .any, .any, .any, .any, .any, .any, .any, .any, .any, .any, .any, .any, .any, .any, .any, .any, .any, .any, .any], [.cells (itL ⟨d, o, n, a, m, ⟨cx, cy, cz⟩, w, k⟩)]⟩ → N st) : WPV Tryd.prog K 0 c (thenV N Q) ⟨[.any, .ptr 0 0, .sc (.int .i64 0), .any, .any, .any, .any, .any, .any, .any, .any, .any, .any, .any, .any, .any, .any, .any, .any, .any, .any, .any, .any, .any, .any, .any, .any, .any, .any, .any, .any, .any, .any, .any, .any, .any, .any, .any, .any, .any, .any, .any, .any, .any, .any, .any, .any, .any, .any, .any, .any, .any, .any, .any, .any, .any, .any, .any, .any, .any, .any, .any, .any, .any, .any, .any, .any, .any, .any, .any, .any, .any, .any, .any, .any, .any, .any, .any, .any, .any, .any, .any, .any, .any, .any, .any, .any, .any, .any, .any, .any, .any, .any, .any, .any, .any, .any, .any, .any, .any, .any, .any, .any, .any, .any, .any, .any, .any, .any, .any, .any, .any, .any, .any, .any, .any, .any, .any, .any, .any, .any, .any, .any, .any, .any, .any, .any, .any, .any, .any, .any, .any, .any, .any, .any, .any, .any, .any, .any, .any, .any, .any, .any, .any, .any, .any, .any, .any, .any, .any, .any, .any, .any, .any, .any, .any, .any, .any, .any, .any, .any, .any], [.cells (itL ⟨d, o, n, a, m, ⟨cx, cy, cz⟩, w, k⟩)]⟩ := by
  simp only [Tryd.f18, Option.bind_some, regC, Nat.reduceEqDiff, if_false, if_true, reduceCtorEq] at hc
  cases hc
  have hz : True := trivial
  have hy := yieldedV_eq
  have hL := True.intro
  repeat' (first | ((with_reducible refine WPV.seqJ 99 ⟨[], []⟩ ?_ ?_); intro N hN) | exact jnZ | (refine WPV.seqK ?_; intro N hN) | refine gA ?_ | (refine gR (M := noM) ?_; intro N hN ops hy) | (refine gD (M := noM) ?_; intro N hN; have hy := yieldedV_eq) | (refine WPV.condK ?_; intro A hA B hB) | (refine here ?_; refine sS ?_) | refine Both.mk ?_ ?_ | ((with_reducible refine CallO.gd 57 ?_); refine CallO.toB Tryd.call57 (cw _) ?_) | ((with_reducible refine CallP.gd 57 ?_); refine CallP.toB Tryd.call57 (cw _) ?_) | (refine hN _ ?_; try clear hN N; try clear hy ops) | (refine hA ?_; clear hA A hB B; try simp only [hz]) | (refine hB ?_; clear hA A hB B; try simp only [hz]) | (refine gG ?_ ?_ <;> (intro hz; have h := nm hz; try (exfalso; omega)) <;> (have hz := nz hz; try subst hz)) | (rw [if_pos (show _ ∧ _ from ⟨by omega, by omega⟩)]; refine sS ?_) | refine gT ?_ | (clear hN N))
end Go.Proofs.YtgfnpcmehnjopaaDoor
end
