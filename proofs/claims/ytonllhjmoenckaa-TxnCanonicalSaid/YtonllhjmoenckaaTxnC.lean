/- Walks: may a transaction be? The coder's answer and the document's one. -/
import Derived.Test.YtonllhjmoenckaaTxnP
import Derived.Test.YtonllhjmoenckaaVsU
import Derived.Test.YtonllhjmoenckaaClkR
namespace Go.Proofs.Ytonllhjmoenckaa
open Go Go.RowKit
set_option linter.unusedVariables false
set_option linter.unusedSimpArgs false
variable {K : Nat → Obj → Prop}
/-- A transaction. -/
structure Tx where
  o : Int
  s : Int
  c : Clk
  w : List Wr
abbrev txV (t : Tx) : V := .agg [.sc (.int .i64 t.o), .sc (.int .i64 t.s), .sc (.int .i64 t.c.x), .sc (.int .i64 t.c.y), .sc (.int .i64 t.c.z), .sl 3 (wrl t.w)]
def Clk.at_ (c : Clk) (o : Int) : Int := if o = 0 then c.x else if o = 1 then c.y else c.z
def checkF (t : Tx) : Int :=
  if t.o < 0 ∨ 2 < t.o then 9 else if t.s < 1 ∨ 4611686018427387903 < t.s ∨ rightF t.c = false then 1 else if t.c.at_ t.o ≠ t.s - 1 then 11
  else if 16 < t.w.length ∨ t.w.any Wr.long = true then 4 else if t.w.any Wr.odd = true then 3 else 0
theorem at_get2 (c : Clk) (o : Int) (a b : V) (l : List V) (h : 0 ≤ o ∧ o ≤ 2) : (a :: b :: V.sc (.int .i64 c.x) :: V.sc (.int .i64 c.y) :: V.sc (.int .i64 c.z) :: l)[2 + o.toNat]? = some (V.sc (.int .i64 (c.at_ o))) := by
  obtain rfl | rfl | rfl : o = 0 ∨ o = 1 ∨ o = 2 := by omega
  all_goals rfl
theorem check_tail {o s : Int} {c : Clk} {w : List Wr} (h1 : ¬ (o < 0 ∨ 2 < o)) (h2 : ¬ (s < 1 ∨ 4611686018427387903 < s)) (hr : rightF c = true) {d : Int} (hd : c.at_ o = d) :
    checkF ⟨o, s, c, w⟩ = if d ≠ s - 1 then 11 else if 16 < w.length then 4 else if w.any Wr.long = true then 4 else if w.any Wr.odd = true then 3 else 0 := by
  unfold checkF
  rw [if_neg h1, if_neg (by rw [hr]; simp; omega)]
  dsimp only
  rw [hd]
  by_cases h3 : d ≠ s - 1
  · rw [if_pos h3, if_pos h3]
  · rw [if_neg h3, if_neg h3]
    by_cases h4 : 16 < w.length
    · rw [if_pos (.inl h4), if_pos h4]
    · rw [if_neg h4]
      by_cases h5 : w.any Wr.long = true
      · rw [if_pos (.inr h5), if_pos h5]
      · rw [if_neg h5, if_neg (by simp [h5]; omega)]
theorem at_bd {c : Clk} {o d : Int} (hr : rightF c = true) (hd : c.at_ o = d) : 0 ≤ d ∧ d ≤ 4611686018427387903 := by
  obtain ⟨⟨a, b⟩, ⟨e, f⟩, g, h⟩ := right_bounds hr
  subst hd
  unfold Clk.at_
  split
  · omega
  · split <;> omega
set_option maxRecDepth 100000 in
set_option maxHeartbeats 4000000 in
theorem tcheck_s (t : Tx) (hl : t.w.length ≤ 9223372036854775807) : Sp Try.prog K 50 [txV t] [] fun u hh => u = .sc (.int .i64 (checkF t)) ∧ hh = [] := by
  obtain ⟨o, s, c, w⟩ := t
  have c1 := cright_s (K := K) c []
  have c2 := long_any (K := K) w hl
  have c3 := odd_any (K := K) w hl
  have hx0 := at_get2 c o (.sc (.int .i64 o)) (.sc (.int .i64 s)) [.sl 3 (wrl w)]
  obtain ⟨x, y, z⟩ := c
  dsimp only [clkV] at c1 hx0
  by_cases h1 : o < 0 ∨ 2 < o
  · have e : checkF ⟨o, s, ⟨x, y, z⟩, w⟩ = 9 := by unfold checkF; rw [if_pos h1]
    rw [e]
    have hx := True.intro
    refine Sp.of_bodyE Try.func50 rfl ?_
    intro Q hQ
    simp only [List.replicate, List.length_cons, List.length_nil, Try.ntmps50, Nat.reduceAdd, Nat.reduceSub, List.cons_append, List.nil_append, go_sem]
    have hz : True := trivial
    have hy := yieldedV_eq
    have hL := @hx
    repeat' (first | (refine WPV.seqK ?_; intro N hN) | refine WPV.block ?_ | refine WPV.scope ?_ | refine WPV.skip ?_ | refine WPV.label ?_ | refine WPV.exit ?_ | refine WPV.ret ?_ | (refine WPV.regionG (M := noM) ?_; intro N hN ops hy; (try simp only [List.append] at hy ⊢); (try simp only [List.map_cons, List.map_nil] at hy)) | (refine WPV.drawK (M := noM) (by kernel_rfl) (by kernel_rfl) ?_; intro N hN; have hy := yieldedV_eq) | (refine WPV.condK ?_; intro A hA B hB) | (refine here ?_; refine sS ?_) | (refine And.intro (by kernel_rfl : okOrd _ _ = true) ?_) | refine Both.mk ?_ ?_ | ((with_reducible refine CallO.gd 92 ?_); refine CallO.frB [] Try.call92 (c1) ?_) | ((with_reducible refine CallO.gd 93 ?_); first | refine CallO.frB [] Try.call93 (c2) ?_ | refine CallO.frB [] Try.call93 (c3) ?_) | (refine hN _ ?_; try clear hN N; try clear hy ops) | (refine hA ?_; clear hA A hB B; try simp only [hz]) | (refine hB ?_; clear hA A hB B; try simp only [hz]) | ((first | refine guardO.mk ?_ ?_ | refine guardD.mk ?_ ?_ | refine Br.mk ?_ ?_) <;> (intro hz; have h := nm hz; try (exfalso; omega)) <;> (have hz := nz hz; try subst hz)) | (rw [if_pos (show _ ∧ _ from ⟨by omega, by omega⟩)]; refine sS ?_) | (simp only [thenV, blockV, if_true, if_false, Nat.reduceEqDiff, reduceCtorEq, imp_self]) | (clear hN N))
    all_goals (first | exact retZ hQ Try.results50 (Desc.re [] rfl) | exact retZN hQ Try.results50 (Desc.re [] rfl))
  have hx := hx0 (by omega)
  by_cases h2 : s < 1 ∨ 4611686018427387903 < s ∨ rightF ⟨x, y, z⟩ = false
  · have e : checkF ⟨o, s, ⟨x, y, z⟩, w⟩ = 1 := by unfold checkF; rw [if_neg h1, if_pos h2]
    rw [e]
    cases hr : rightF ⟨x, y, z⟩ with
    | true =>
      rw [hr] at c1 h2
      have h2 : s < 1 ∨ 4611686018427387903 < s := by simpa using h2
      refine Sp.of_bodyE Try.func50 rfl ?_
      intro Q hQ
      simp only [List.replicate, List.length_cons, List.length_nil, Try.ntmps50, Nat.reduceAdd, Nat.reduceSub, List.cons_append, List.nil_append, go_sem]
      have hz : True := trivial
      have hy := yieldedV_eq
      have hL := @hx
      repeat' (first | (refine WPV.seqK ?_; intro N hN) | refine WPV.block ?_ | refine WPV.scope ?_ | refine WPV.skip ?_ | refine WPV.label ?_ | refine WPV.exit ?_ | refine WPV.ret ?_ | (refine WPV.regionG (M := noM) ?_; intro N hN ops hy; (try simp only [List.append] at hy ⊢); (try simp only [List.map_cons, List.map_nil] at hy)) | (refine WPV.drawK (M := noM) (by kernel_rfl) (by kernel_rfl) ?_; intro N hN; have hy := yieldedV_eq) | (refine WPV.condK ?_; intro A hA B hB) | (refine here ?_; refine sS ?_) | (refine And.intro (by kernel_rfl : okOrd _ _ = true) ?_) | refine Both.mk ?_ ?_ | ((with_reducible refine CallO.gd 92 ?_); refine CallO.frB [] Try.call92 (c1) ?_) | ((with_reducible refine CallO.gd 93 ?_); first | refine CallO.frB [] Try.call93 (c2) ?_ | refine CallO.frB [] Try.call93 (c3) ?_) | (refine hN _ ?_; try clear hN N; try clear hy ops) | (refine hA ?_; clear hA A hB B; try simp only [hz]) | (refine hB ?_; clear hA A hB B; try simp only [hz]) | ((first | refine guardO.mk ?_ ?_ | refine guardD.mk ?_ ?_ | refine Br.mk ?_ ?_) <;> (intro hz; have h := nm hz; try (exfalso; omega)) <;> (have hz := nz hz; try subst hz)) | (rw [if_pos (show _ ∧ _ from ⟨by omega, by omega⟩)]; refine sS ?_) | (simp only [thenV, blockV, if_true, if_false, Nat.reduceEqDiff, reduceCtorEq, imp_self]) | (clear hN N))
      all_goals (first | exact retZ hQ Try.results50 (Desc.re [] rfl) | exact retZN hQ Try.results50 (Desc.re [] rfl))
    | false =>
      rw [hr] at c1
      clear h2
      refine Sp.of_bodyE Try.func50 rfl ?_
      intro Q hQ
      simp only [List.replicate, List.length_cons, List.length_nil, Try.ntmps50, Nat.reduceAdd, Nat.reduceSub, List.cons_append, List.nil_append, go_sem]
      have hz : True := trivial
      have hy := yieldedV_eq
      have hL := @hx
      repeat' (first | (refine WPV.seqK ?_; intro N hN) | refine WPV.block ?_ | refine WPV.scope ?_ | refine WPV.skip ?_ | refine WPV.label ?_ | refine WPV.exit ?_ | refine WPV.ret ?_ | (refine WPV.regionG (M := noM) ?_; intro N hN ops hy; (try simp only [List.append] at hy ⊢); (try simp only [List.map_cons, List.map_nil] at hy)) | (refine WPV.drawK (M := noM) (by kernel_rfl) (by kernel_rfl) ?_; intro N hN; have hy := yieldedV_eq) | (refine WPV.condK ?_; intro A hA B hB) | (refine here ?_; refine sS ?_) | (refine And.intro (by kernel_rfl : okOrd _ _ = true) ?_) | refine Both.mk ?_ ?_ | ((with_reducible refine CallO.gd 92 ?_); refine CallO.frB [] Try.call92 (c1) ?_) | ((with_reducible refine CallO.gd 93 ?_); first | refine CallO.frB [] Try.call93 (c2) ?_ | refine CallO.frB [] Try.call93 (c3) ?_) | (refine hN _ ?_; try clear hN N; try clear hy ops) | (refine hA ?_; clear hA A hB B; try simp only [hz]) | (refine hB ?_; clear hA A hB B; try simp only [hz]) | ((first | refine guardO.mk ?_ ?_ | refine guardD.mk ?_ ?_ | refine Br.mk ?_ ?_) <;> (intro hz; have h := nm hz; try (exfalso; omega)) <;> (have hz := nz hz; try subst hz)) | (rw [if_pos (show _ ∧ _ from ⟨by omega, by omega⟩)]; refine sS ?_) | (simp only [thenV, blockV, if_true, if_false, Nat.reduceEqDiff, reduceCtorEq, imp_self]) | (clear hN N))
      all_goals (first | exact retZ hQ Try.results50 (Desc.re [] rfl) | exact retZN hQ Try.results50 (Desc.re [] rfl))
  have hr : rightF ⟨x, y, z⟩ = true := by
    cases h : rightF ⟨x, y, z⟩
    · exact absurd (.inr (.inr h)) h2
    · rfl
  have h2 : ¬ (s < 1 ∨ 4611686018427387903 < s) := fun h => h2 (by rcases h with h | h <;> simp [h])
  obtain ⟨d, hd⟩ : ∃ d, Clk.at_ ⟨x, y, z⟩ o = d := ⟨_, rfl⟩
  rw [check_tail h1 h2 hr hd]
  rw [hr] at c1
  rw [hd] at hx
  have hdb := at_bd hr hd
  generalize w.any Wr.long = a at *
  generalize w.any Wr.odd = b at *
  clear hx0
  refine Sp.of_bodyE Try.func50 rfl ?_
  intro Q hQ
  simp only [List.replicate, List.length_cons, List.length_nil, Try.ntmps50, Nat.reduceAdd, Nat.reduceSub, List.cons_append, List.nil_append, go_sem]
  have hz : True := trivial
  have hy := yieldedV_eq
  have hL := @hx
  repeat' (first | (refine WPV.seqK ?_; intro N hN) | refine WPV.block ?_ | refine WPV.scope ?_ | refine WPV.skip ?_ | refine WPV.label ?_ | refine WPV.exit ?_ | refine WPV.ret ?_ | (refine WPV.regionG (M := noM) ?_; intro N hN ops hy; (try simp only [List.append] at hy ⊢); (try simp only [List.map_cons, List.map_nil] at hy)) | (refine WPV.drawK (M := noM) (by kernel_rfl) (by kernel_rfl) ?_; intro N hN; have hy := yieldedV_eq) | (refine WPV.condK ?_; intro A hA B hB) | (refine here ?_; refine sS ?_) | (refine And.intro (by kernel_rfl : okOrd _ _ = true) ?_) | refine Both.mk ?_ ?_ | ((with_reducible refine CallO.gd 92 ?_); refine CallO.frB [] Try.call92 (c1) ?_) | ((with_reducible refine CallO.gd 93 ?_); first | refine CallO.frB [] Try.call93 (c2) ?_ | refine CallO.frB [] Try.call93 (c3) ?_) | (refine hN _ ?_; try clear hN N; try clear hy ops) | (refine hA ?_; clear hA A hB B; try simp only [hz]) | (refine hB ?_; clear hA A hB B; try simp only [hz]) | ((first | refine guardO.mk ?_ ?_ | refine guardD.mk ?_ ?_ | refine Br.mk ?_ ?_) <;> (intro hz; have h := nm hz; try (exfalso; omega)) <;> (have hz := nz hz; try subst hz)) | (rw [if_pos (show _ ∧ _ from ⟨by omega, by omega⟩)]; refine sS ?_) | (simp only [thenV, blockV, if_true, if_false, Nat.reduceEqDiff, reduceCtorEq, imp_self]) | (clear hN N))
  all_goals (first | exact retZ hQ Try.results50 (Desc.re [] rfl) | exact retZN hQ Try.results50 (Desc.re [] rfl))
end Go.Proofs.Ytonllhjmoenckaa
