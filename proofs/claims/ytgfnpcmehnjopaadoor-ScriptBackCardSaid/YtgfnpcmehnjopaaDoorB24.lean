/- Parts of the proofs, joined: ScrP. -/
import Derived.Test.YtgfnpcmehnjopaaDoorB12
import Derived.Test.YtgfnpcmehnjopaaDoorB15
import Derived.Test.YtgfnpcmehnjopaaDoorB22
import Derived.Test.YtgfnpcmehnjopaaDoorB23
namespace Go.Proofs.YtgfnpcmehnjopaaDoor
open Go Go.RowKit
set_option linter.unusedVariables false
set_option linter.unusedSimpArgs false
variable {K : Nat → Obj → Prop}
set_option maxRecDepth 100000 in
set_option maxHeartbeats 2000000 in
theorem sputs_s (hT : TT K) (hK : KT K) (l : List It) (hlen : l.length ≤ 9223372036854775807) (hm : ∀ x ∈ l, ItM x) (hl : ∀ x ∈ l, x.w.length ≤ 9223372036854775807 ∧ x.k.length ≤ 9223372036854775807) : Sp Tryd.prog K 12 [.sl 10 (its l)] [] fun u hh => u = byV (putI l) ∧ hh = [] := by
  have hget := True.intro
  by_cases h3 : 300 < l.length
  · have e : putI l = ([], 4) := by unfold putI; rw [if_pos h3]
    rw [e]
    refine Sp.of_bodyE Tryd.func12 rfl ?_
    intro Q hQ
    simp only [List.replicate, List.length_cons, List.length_nil, Tryd.ntmps12, Nat.reduceAdd, Nat.reduceSub, List.cons_append, List.nil_append, go_sem]
    have hz : True := trivial
    have hy := yieldedV_eq
    have hL := @hget
    repeat' (first | (refine WPV.seqK ?_; intro N hN) | refine gA ?_ | (refine gR (M := noM) ?_; intro N hN ops hy) | (refine gD (M := noM) ?_; intro N hN; have hy := yieldedV_eq) | (refine WPV.condK ?_; intro A hA B hB) | (refine here ?_; refine sS ?_) | refine Both.mk ?_ ?_ | (refine hN _ ?_; try clear hN N; try clear hy ops) | (refine hA ?_; clear hA A hB B; try simp only [hz]) | (refine hB ?_; clear hA A hB B; try simp only [hz]) | (refine gG ?_ ?_ <;> (intro hz; have h := nm hz; try (exfalso; omega)) <;> (have hz := nz hz; try subst hz)) | (rw [if_pos (show _ ∧ _ from ⟨by omega, by omega⟩)]; refine sS ?_) | refine gT ?_ | (clear hN N))
    (try unfold byV at hQ)
    all_goals (first | exact retZ hQ Tryd.results12 (Desc.re [] rfl) | exact retZN hQ Tryd.results12 (Desc.re [] rfl))
  have e0 : putI l = if (rowsI l).2 ≠ 0 then ([], (rowsI l).2) else allF (rowsI l).1 := by unfold putI; rw [if_neg h3]
  refine Sp.of_bodyE Tryd.func12 rfl ?_
  intro Q hQ
  simp only [List.replicate, List.length_cons, List.length_nil, Tryd.ntmps12, Nat.reduceAdd, Nat.reduceSub, List.cons_append, List.nil_append, go_sem]
  have hz : True := trivial
  have hy := yieldedV_eq
  have hL := @hget
  repeat' (first | (refine WPV.seqK ?_; intro N hN) | refine gA ?_ | (refine gR (M := noM) ?_; intro N hN ops hy) | (refine gD (M := noM) ?_; intro N hN; have hy := yieldedV_eq) | (refine WPV.condK ?_; intro A hA B hB) | (refine here ?_; refine sS ?_) | refine Both.mk ?_ ?_ | (refine hN _ ?_; try clear hN N; try clear hy ops) | (refine hA ?_; clear hA A hB B; try simp only [hz]) | (refine hB ?_; clear hA A hB B; try simp only [hz]) | (refine gG ?_ ?_ <;> (intro hz; have h := nm hz; try (exfalso; omega)) <;> (have hz := nz hz; try subst hz)) | (rw [if_pos (show _ ∧ _ from ⟨by omega, by omega⟩)]; refine sS ?_) | refine gT ?_ | (clear hN N))
  clear hget
  refine WPV.loopW (α := Nat × List (List UInt8)) (fun q => l.length - q.1) (fun q => ⟨[.any, .any, .any, .any, .own 1 (rs q.2) 0, .any, .any, .any, .any, .any, .any, .sl 10 (its l), .sc (.int .i64 (l.length : Int)), .sc (.int .i64 ((q.1 : Nat) : Int)), .any, .any, .any, .any, .any, .any, .any, .any, .any, .any, .any, .any, .any, .any, .any, .any, .any, .any], [.tail]⟩) (fun q => q.1 ≤ l.length ∧ q.2.length = q.1 ∧ (∀ p ∈ q.2, p.length ≤ 100000) ∧ rowsI l = joinR q.2 (rowsI (l.drop q.1))) (0, []) ((Desc.own0 (es := []) 4 1 rfl (.inr ⟨rfl, rfl⟩)).trans Desc.weakA) ⟨Nat.zero_le _, rfl, by simp, (joinR_nil _).symm⟩ (fun q hJ H => ?_)
  obtain ⟨i, acc⟩ := q
  dsimp only at hJ H ⊢
  obtain ⟨j1, j2, j3, j4⟩ := hJ
  by_cases h : i < l.length
  · obtain ⟨y, hg⟩ : ∃ y, l[i] = y := ⟨_, rfl⟩
    have hget : l[i]? = some y := by rw [← hg]; exact List.getElem?_eq_getElem h
    obtain ⟨yw, yk⟩ := hl y (hg ▸ List.getElem_mem h)
    have cc := scheck_s hT y yw yk
    rw [List.drop_eq_getElem_cons h, hg, joinR_cons] at j4
    by_cases hc : checkI y = 0
    · rw [if_neg (by simp [hc])] at j4
      have cb := sbytes_s hT y hc (hm y (hg ▸ List.getElem_mem h))
      have H' := H (i + 1, acc ++ [bytesI y]) ⟨h, by simp [j2], fun p hp => by
        rcases List.mem_append.1 hp with hp | hp
        · exact j3 p hp
        · rw [List.mem_singleton.1 hp]; exact Nat.le_trans (bytesI_len hc (hm y (hg ▸ List.getElem_mem h))) (by decide), j4⟩ (by dsimp only; omega)
      rw [hc] at cc
      have cc := fun h => Sp.lift cc (fun _ => rfl) (fun _ => rfl) h
      have cb := fun h => Sp.lift cb (fun _ => rfl) (fun _ => rfl) h
      clear H hg j4 hc
      dsimp only at H'
      generalize bytesI y = by_ at *
      obtain ⟨d, o, n, a, m, ⟨cx, cy, cz⟩, w, k⟩ := y
      refine loopV ?_
      have hz : True := trivial
      have hy := yieldedV_eq
      have hL := @hget
      repeat' (first | (refine WPV.seqK ?_; intro N hN) | refine gA ?_ | (refine gR (M := noM) ?_; intro N hN ops hy) | (refine gD (M := noM) ?_; intro N hN; have hy := yieldedV_eq) | (refine WPV.condK ?_; intro A hA B hB) | (refine here ?_; refine sS ?_) | refine Both.mk ?_ ?_ | ((with_reducible refine CallO.gd 17 ?_); refine CallO.toB Tryd.call17 (cc _) ?_) | ((with_reducible refine CallO.gd 43 ?_); refine CallO.toB Tryd.call43 (cb _) ?_) | ((with_reducible refine CallP.gd 17 ?_); refine CallP.toB Tryd.call17 (cc _) ?_) | ((with_reducible refine CallP.gd 43 ?_); refine CallP.toB Tryd.call43 (cb _) ?_) | (refine hN _ ?_; try clear hN N; try clear hy ops) | (refine hA ?_; clear hA A hB B; try simp only [hz]) | (refine hB ?_; clear hA A hB B; try simp only [hz]) | (refine gG ?_ ?_ <;> (intro hz; have h := nm hz; try (exfalso; omega)) <;> (have hz := nz hz; try subst hz)) | (rw [if_pos (show _ ∧ _ from ⟨by omega, by omega⟩)]; refine sS ?_) | refine gT ?_ | (clear hN N))
      all_goals (exact rndZ (Desc.re [some 2] rfl) (H'))
    · rw [if_pos hc] at j4
      rw [e0, j4, if_pos hc] at hQ
      generalize checkI y = ck at *
      have cc := fun h => Sp.lift cc (fun _ => rfl) (fun _ => rfl) h
      clear H hg j4 e0
      obtain ⟨d, o, n, a, m, ⟨cx, cy, cz⟩, w, k⟩ := y
      refine loopV ?_
      have hz : True := trivial
      have hy := yieldedV_eq
      have hL := @hget
      repeat' (first | (refine WPV.seqK ?_; intro N hN) | refine gA ?_ | (refine gR (M := noM) ?_; intro N hN ops hy) | (refine gD (M := noM) ?_; intro N hN; have hy := yieldedV_eq) | (refine WPV.condK ?_; intro A hA B hB) | (refine here ?_; refine sS ?_) | refine Both.mk ?_ ?_ | ((with_reducible refine CallO.gd 17 ?_); refine CallO.toB Tryd.call17 (cc _) ?_) | ((with_reducible refine CallP.gd 17 ?_); refine CallP.toB Tryd.call17 (cc _) ?_) | (refine hN _ ?_; try clear hN N; try clear hy ops) | (refine hA ?_; clear hA A hB B; try simp only [hz]) | (refine hB ?_; clear hA A hB B; try simp only [hz]) | (refine gG ?_ ?_ <;> (intro hz; have h := nm hz; try (exfalso; omega)) <;> (have hz := nz hz; try subst hz)) | (rw [if_pos (show _ ∧ _ from ⟨by omega, by omega⟩)]; refine sS ?_) | refine gT ?_ | (clear hN N))
      (try unfold byV at hQ)
      all_goals (first | exact retZ hQ Tryd.results12 (Desc.re [] rfl) | exact retZN hQ Tryd.results12 (Desc.re [] rfl))
  obtain rfl : i = l.length := by omega
  rw [List.drop_length] at j4
  have e1 : rowsI l = (acc, 0) := by rw [j4]; simp [joinR, rowsI]
  rw [e0, e1, if_neg (by simp)] at hQ
  have ca := fun h => all_s hK acc (by omega) (fun p hp => Nat.le_trans (j3 p hp) (by decide)) h
  dsimp only [byV] at ca hQ
  clear H j4 e0 e1
  generalize allF acc = r at *
  obtain ⟨r1, r2⟩ := r
  dsimp only at ca hQ
  refine loopV ?_
  have hz : True := trivial
  have hy := yieldedV_eq
  have hL := True.intro
  repeat' (first | (refine WPV.seqK ?_; intro N hN) | refine gA ?_ | (refine gR (M := noM) ?_; intro N hN ops hy) | (refine gD (M := noM) ?_; intro N hN; have hy := yieldedV_eq) | (refine WPV.condK ?_; intro A hA B hB) | (refine here ?_; refine sS ?_) | refine Both.mk ?_ ?_ | ((with_reducible refine CallO.gd 44 ?_); refine CallO.toB Tryd.call44 (ca _) ?_) | ((with_reducible refine CallP.gd 44 ?_); refine CallP.toB Tryd.call44 (ca _) ?_) | (refine hN _ ?_; try clear hN N; try clear hy ops) | (refine hA ?_; clear hA A hB B; try simp only [hz]) | (refine hB ?_; clear hA A hB B; try simp only [hz]) | (refine gG ?_ ?_ <;> (intro hz; have h := nm hz; try (exfalso; omega)) <;> (have hz := nz hz; try subst hz)) | (rw [if_pos (show _ ∧ _ from ⟨by omega, by omega⟩)]; refine sS ?_) | refine gT ?_ | (clear hN N))
  all_goals (first | exact retZ hQ Tryd.results12 (Desc.re [] rfl) | exact retZN hQ Tryd.results12 (Desc.re [] rfl))
end Go.Proofs.YtgfnpcmehnjopaaDoor
