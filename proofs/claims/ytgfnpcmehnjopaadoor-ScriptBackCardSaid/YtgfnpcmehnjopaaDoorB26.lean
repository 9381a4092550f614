/- Parts of the proofs, joined: ScrQ, WeqS, ScrS, TxnL. -/
import Derived.Test.YtgfnpcmehnjopaaDoorB9
import Derived.Test.YtgfnpcmehnjopaaDoorB10
import Derived.Test.YtgfnpcmehnjopaaDoorB13
import Derived.Test.YtgfnpcmehnjopaaDoorB18
import Derived.Test.YtgfnpcmehnjopaaDoorB22
import Derived.Test.YtgfnpcmehnjopaaDoorB25
section
namespace Go.Proofs.YtgfnpcmehnjopaaDoor
open Go Go.RowKit
set_option linter.unusedVariables false
set_option linter.unusedSimpArgs false
variable {K : Nat → Obj → Prop}
end Go.Proofs.YtgfnpcmehnjopaaDoor
end
section
namespace Go.Proofs.YtgfnpcmehnjopaaDoor
open Go Go.RowKit
set_option linter.unusedVariables false
set_option linter.unusedSimpArgs false
variable {K : Nat → Obj → Prop}
def eqB (a b : Wr) : Bool := (a.k.toList == b.k.toList && (a.v.toList == b.v.toList && a.g == b.g))
theorem eqB_refl (a : Wr) : eqB a a = true := by simp [eqB]
def weqL : List Wr → List Wr → Bool
  | [], [] => true
  | a :: l, b :: m => eqB a b && weqL l m
  | _, _ => false
theorem weqL_cons (a b : Wr) (l m : List Wr) : weqL (a :: l) (b :: m) = (eqB a b && weqL l m) := rfl
theorem weqL_ne : ∀ {l m : List Wr}, l.length ≠ m.length → weqL l m = false
  | [], [], h => absurd rfl h
  | a :: l, b :: m, h => by
    rw [weqL_cons, weqL_ne (l := l) (m := m) (by simpa using h), Bool.and_false]
  | [], _ :: _, _ => rfl
  | _ :: _, [], _ => rfl
theorem weqL_refl (he : ∀ a, eqB a a = true) : ∀ l, weqL l l = true
  | [] => rfl
  | a :: l => by rw [weqL_cons, he, weqL_refl he l]; rfl
set_option maxRecDepth 100000 in
set_option maxHeartbeats 1000000 in
theorem weqg_s (a b : List Wr) (ha : a.length ≤ 9223372036854775807) (hb : b.length ≤ 9223372036854775807) : Sp Tryd.prog K 60 [.sl 3 (wrl a), .sl 3 (wrl b)] [] fun u hh => u = .sc (.bool (weqL a b)) ∧ hh = [] := by
  have hga := True.intro
  have hgb := True.intro
  have q := True.intro
  by_cases hn : a.length = b.length
  · skip
    refine Sp.of_bodyE Tryd.func60 rfl ?_
    intro Q hQ
    simp only [List.replicate, List.length_cons, List.length_nil, Tryd.ntmps60, Nat.reduceAdd, Nat.reduceSub, List.cons_append, List.nil_append, go_sem]
    have hz : True := trivial
    have hy := yieldedV_eq
    have hL := And.intro @hga (And.intro @hgb (@q))
    repeat' (first | (refine WPV.seqK ?_; intro N hN) | refine gA ?_ | (refine gR (M := noM) ?_; intro N hN ops hy) | (refine gD (M := noM) ?_; intro N hN; have hy := yieldedV_eq) | (refine WPV.condK ?_; intro A hA B hB) | (refine here ?_; refine sS ?_) | refine Both.mk ?_ ?_ | (refine hN _ ?_; try clear hN N; try clear hy ops) | (refine hA ?_; clear hA A hB B; try simp only [hz]) | (refine hB ?_; clear hA A hB B; try simp only [hz]) | (refine gG ?_ ?_ <;> (intro hz; have h := nm hz; try (exfalso; omega)) <;> (have hz := nz hz; try subst hz)) | (rw [if_pos (show _ ∧ _ from ⟨by omega, by omega⟩)]; refine sS ?_) | refine gT ?_ | (clear hN N))
    clear hga hgb q
    refine WPV.loopW (α := Nat) (fun i => a.length - i) (fun i => ⟨[.sl 3 (wrl a), .sl 3 (wrl b), .any, .any, .any, .any, .any, .any, .any, .any, .any, .any, .sc (.int .i64 (a.length : Int)), .sc (.int .i64 ((i : Nat) : Int)), .any, .any, .any, .any, .any, .any, .any, .any, .any, .any, .any, .any], []⟩) (fun i => i ≤ a.length ∧ weqL a b = weqL (a.drop i) (b.drop i)) 0 Desc.weakA ⟨Nat.zero_le _, rfl⟩ (fun i hJ H => ?_)
    obtain ⟨j1, j2⟩ := hJ
    by_cases h : i < a.length
    · have h' : i < b.length := by omega
      obtain ⟨x, hx⟩ : ∃ x, a[i] = x := ⟨_, rfl⟩
      obtain ⟨y, hy2⟩ : ∃ y, b[i] = y := ⟨_, rfl⟩
      have hga : a[i]? = some x := by rw [← hx]; exact List.getElem?_eq_getElem h
      have hgb : b[i]? = some y := by rw [← hy2]; exact List.getElem?_eq_getElem h'
      rw [List.drop_eq_getElem_cons h, List.drop_eq_getElem_cons h', hx, hy2, weqL_cons] at j2
      cases q0 : eqB x y with
      | true =>
        rw [q0, Bool.true_and] at j2
        have H' := H (i + 1) ⟨h, j2⟩ (by omega)
        clear H hx hy2 j2
        obtain ⟨xk, xv, xg⟩ := x
        obtain ⟨yk, yv, yg⟩ := y
        have q : (xk.toList == yk.toList && (xv.toList == yv.toList && xg == yg)) = true := q0
        refine loopV ?_
        have hz : True := trivial
        have hy := yieldedV_eq
        have hL := And.intro @hga (And.intro @hgb (@q))
        repeat' (first | (refine WPV.seqK ?_; intro N hN) | refine gA ?_ | (refine gR (M := noM) ?_; intro N hN ops hy) | (refine gD (M := noM) ?_; intro N hN; have hy := yieldedV_eq) | (refine WPV.condK ?_; intro A hA B hB) | (refine here ?_; refine sS ?_) | refine Both.mk ?_ ?_ | (refine hN _ ?_; try clear hN N; try clear hy ops) | (refine hA ?_; clear hA A hB B; try simp only [hz]) | (refine hB ?_; clear hA A hB B; try simp only [hz]) | (refine gG ?_ ?_ <;> (intro hz; have h := nm hz; try (exfalso; omega)) <;> (have hz := nz hz; try subst hz)) | (rw [if_pos (show _ ∧ _ from ⟨by omega, by omega⟩)]; refine sS ?_) | refine gT ?_ | (clear hN N))
        all_goals (exact rndZ (Desc.re [] rfl) (H'))
      | false =>
        rw [q0, Bool.false_and] at j2
        rw [j2] at hQ
        clear H hx hy2 j2
        obtain ⟨xk, xv, xg⟩ := x
        obtain ⟨yk, yv, yg⟩ := y
        have q : (xk.toList == yk.toList && (xv.toList == yv.toList && xg == yg)) = false := q0
        refine loopV ?_
        have hz : True := trivial
        have hy := yieldedV_eq
        have hL := And.intro @hga (And.intro @hgb (@q))
        repeat' (first | (refine WPV.seqK ?_; intro N hN) | refine gA ?_ | (refine gR (M := noM) ?_; intro N hN ops hy) | (refine gD (M := noM) ?_; intro N hN; have hy := yieldedV_eq) | (refine WPV.condK ?_; intro A hA B hB) | (refine here ?_; refine sS ?_) | refine Both.mk ?_ ?_ | (refine hN _ ?_; try clear hN N; try clear hy ops) | (refine hA ?_; clear hA A hB B; try simp only [hz]) | (refine hB ?_; clear hA A hB B; try simp only [hz]) | (refine gG ?_ ?_ <;> (intro hz; have h := nm hz; try (exfalso; omega)) <;> (have hz := nz hz; try subst hz)) | (rw [if_pos (show _ ∧ _ from ⟨by omega, by omega⟩)]; refine sS ?_) | refine gT ?_ | (clear hN N))
        all_goals (first | exact retZ hQ Tryd.results60 (Desc.re [] rfl) | exact retZN hQ Tryd.results60 (Desc.re [] rfl))
    obtain rfl : i = a.length := by omega
    have e : weqL a b = true := by rw [j2, hn, List.drop_length, ← hn, List.drop_length]; rfl
    rw [e] at hQ
    clear H j2 e
    have hga := True.intro
    have hgb := True.intro
    have q := True.intro
    refine loopV ?_
    have hz : True := trivial
    have hy := yieldedV_eq
    have hL := And.intro @hga (And.intro @hgb (@q))
    repeat' (first | (refine WPV.seqK ?_; intro N hN) | refine gA ?_ | (refine gR (M := noM) ?_; intro N hN ops hy) | (refine gD (M := noM) ?_; intro N hN; have hy := yieldedV_eq) | (refine WPV.condK ?_; intro A hA B hB) | (refine here ?_; refine sS ?_) | refine Both.mk ?_ ?_ | (refine hN _ ?_; try clear hN N; try clear hy ops) | (refine hA ?_; clear hA A hB B; try simp only [hz]) | (refine hB ?_; clear hA A hB B; try simp only [hz]) | (refine gG ?_ ?_ <;> (intro hz; have h := nm hz; try (exfalso; omega)) <;> (have hz := nz hz; try subst hz)) | (rw [if_pos (show _ ∧ _ from ⟨by omega, by omega⟩)]; refine sS ?_) | refine gT ?_ | (clear hN N))
    all_goals (first | exact retZ hQ Tryd.results60 (Desc.re [] rfl) | exact retZN hQ Tryd.results60 (Desc.re [] rfl))
  · have e : weqL a b = false := weqL_ne hn
    rw [e]
    refine Sp.of_bodyE Tryd.func60 rfl ?_
    intro Q hQ
    simp only [List.replicate, List.length_cons, List.length_nil, Tryd.ntmps60, Nat.reduceAdd, Nat.reduceSub, List.cons_append, List.nil_append, go_sem]
    have hz : True := trivial
    have hy := yieldedV_eq
    have hL := And.intro @hga (And.intro @hgb (@q))
    repeat' (first | (refine WPV.seqK ?_; intro N hN) | refine gA ?_ | (refine gR (M := noM) ?_; intro N hN ops hy) | (refine gD (M := noM) ?_; intro N hN; have hy := yieldedV_eq) | (refine WPV.condK ?_; intro A hA B hB) | (refine here ?_; refine sS ?_) | refine Both.mk ?_ ?_ | (refine hN _ ?_; try clear hN N; try clear hy ops) | (refine hA ?_; clear hA A hB B; try simp only [hz]) | (refine hB ?_; clear hA A hB B; try simp only [hz]) | (refine gG ?_ ?_ <;> (intro hz; have h := nm hz; try (exfalso; omega)) <;> (have hz := nz hz; try subst hz)) | (rw [if_pos (show _ ∧ _ from ⟨by omega, by omega⟩)]; refine sS ?_) | refine gT ?_ | (clear hN N))
    all_goals (first | exact retZ hQ Tryd.results60 (Desc.re [] rfl) | exact retZN hQ Tryd.results60 (Desc.re [] rfl))
theorem bool_i (b : Bool) : ∃ i : Int, b = decide (i = 0) := by
  cases b
  · exact ⟨1, rfl⟩
  · exact ⟨0, rfl⟩
def tsameF (a b : Tx) : Bool := decide (a.o = b.o ∧ a.s = b.s ∧ (a.c.x = b.c.x ∧ a.c.y = b.c.y ∧ a.c.z = b.c.z) ∧ weqL a.w b.w = true)
end Go.Proofs.YtgfnpcmehnjopaaDoor
end
section
namespace Go.Proofs.YtgfnpcmehnjopaaDoor
open Go Go.RowKit
set_option linter.unusedVariables false
set_option linter.unusedSimpArgs false
variable {K : Nat → Obj → Prop}
def eqN (a b : Int) : Bool := a == b
theorem eqN_refl (a : Int) : eqN a a = true := by simp [eqN]
def keqL : List Int → List Int → Bool
  | [], [] => true
  | a :: l, b :: m => eqN a b && keqL l m
  | _, _ => false
theorem keqL_cons (a b : Int) (l m : List Int) : keqL (a :: l) (b :: m) = (eqN a b && keqL l m) := rfl
theorem keqL_ne : ∀ {l m : List Int}, l.length ≠ m.length → keqL l m = false
  | [], [], h => absurd rfl h
  | a :: l, b :: m, h => by
    rw [keqL_cons, keqL_ne (l := l) (m := m) (by simpa using h), Bool.and_false]
  | [], _ :: _, _ => rfl
  | _ :: _, [], _ => rfl
theorem keqL_refl (he : ∀ a, eqN a a = true) : ∀ l, keqL l l = true
  | [] => rfl
  | a :: l => by rw [keqL_cons, he, keqL_refl he l]; rfl
set_option maxRecDepth 100000 in
set_option maxHeartbeats 1000000 in
theorem keqg_s (a b : List Int) (ha : a.length ≤ 9223372036854775807) (hb : b.length ≤ 9223372036854775807) : Sp Tryd.prog K 61 [.sl 1 (il a), .sl 1 (il b)] [] fun u hh => u = .sc (.bool (keqL a b)) ∧ hh = [] := by
  have hga := True.intro
  have hgb := True.intro
  have q := True.intro
  by_cases hn : a.length = b.length
  · skip
    refine Sp.of_bodyE Tryd.func61 rfl ?_
    intro Q hQ
    simp only [List.replicate, List.length_cons, List.length_nil, Tryd.ntmps61, Nat.reduceAdd, Nat.reduceSub, List.cons_append, List.nil_append, go_sem]
    have hz : True := trivial
    have hy := yieldedV_eq
    have hL := And.intro @hga (And.intro @hgb (@q))
    repeat' (first | (refine WPV.seqK ?_; intro N hN) | refine gA ?_ | (refine gR (M := noM) ?_; intro N hN ops hy) | (refine gD (M := noM) ?_; intro N hN; have hy := yieldedV_eq) | (refine WPV.condK ?_; intro A hA B hB) | (refine here ?_; refine sS ?_) | refine Both.mk ?_ ?_ | (refine hN _ ?_; try clear hN N; try clear hy ops) | (refine hA ?_; clear hA A hB B; try simp only [hz]) | (refine hB ?_; clear hA A hB B; try simp only [hz]) | (refine gG ?_ ?_ <;> (intro hz; have h := nm hz; try (exfalso; omega)) <;> (have hz := nz hz; try subst hz)) | (rw [if_pos (show _ ∧ _ from ⟨by omega, by omega⟩)]; refine sS ?_) | refine gT ?_ | (clear hN N))
    clear hga hgb q
    refine WPV.loopW (α := Nat) (fun i => a.length - i) (fun i => ⟨[.sl 1 (il a), .sl 1 (il b), .any, .any, .any, .any, .any, .any, .any, .any, .any, .any, .sc (.int .i64 (a.length : Int)), .sc (.int .i64 ((i : Nat) : Int)), .any, .any, .any, .any, .any, .any, .any, .any, .any, .any, .any, .any], []⟩) (fun i => i ≤ a.length ∧ keqL a b = keqL (a.drop i) (b.drop i)) 0 Desc.weakA ⟨Nat.zero_le _, rfl⟩ (fun i hJ H => ?_)
    obtain ⟨j1, j2⟩ := hJ
    by_cases h : i < a.length
    · have h' : i < b.length := by omega
      obtain ⟨x, hx⟩ : ∃ x, a[i] = x := ⟨_, rfl⟩
      obtain ⟨y, hy2⟩ : ∃ y, b[i] = y := ⟨_, rfl⟩
      have hga : a[i]? = some x := by rw [← hx]; exact List.getElem?_eq_getElem h
      have hgb : b[i]? = some y := by rw [← hy2]; exact List.getElem?_eq_getElem h'
      rw [List.drop_eq_getElem_cons h, List.drop_eq_getElem_cons h', hx, hy2, keqL_cons] at j2
      cases q0 : eqN x y with
      | true =>
        rw [q0, Bool.true_and] at j2
        have H' := H (i + 1) ⟨h, j2⟩ (by omega)
        clear H hx hy2 j2
        have hxy : x = y := by simpa [eqN] using q0
        have q := True.intro
        refine loopV ?_
        have hz : True := trivial
        have hy := yieldedV_eq
        have hL := And.intro @hga (And.intro @hgb (@q))
        repeat' (first | (refine WPV.seqK ?_; intro N hN) | refine gA ?_ | (refine gR (M := noM) ?_; intro N hN ops hy) | (refine gD (M := noM) ?_; intro N hN; have hy := yieldedV_eq) | (refine WPV.condK ?_; intro A hA B hB) | (refine here ?_; refine sS ?_) | refine Both.mk ?_ ?_ | (refine hN _ ?_; try clear hN N; try clear hy ops) | (refine hA ?_; clear hA A hB B; try simp only [hz]) | (refine hB ?_; clear hA A hB B; try simp only [hz]) | (refine gG ?_ ?_ <;> (intro hz; have h := nm hz; try (exfalso; omega)) <;> (have hz := nz hz; try subst hz)) | (rw [if_pos (show _ ∧ _ from ⟨by omega, by omega⟩)]; refine sS ?_) | refine gT ?_ | (clear hN N))
        all_goals (exact rndZ (Desc.re [] rfl) (H'))
      | false =>
        rw [q0, Bool.false_and] at j2
        rw [j2] at hQ
        clear H hx hy2 j2
        have hxy : x ≠ y := by simpa [eqN] using q0
        have q := True.intro
        refine loopV ?_
        have hz : True := trivial
        have hy := yieldedV_eq
        have hL := And.intro @hga (And.intro @hgb (@q))
        repeat' (first | (refine WPV.seqK ?_; intro N hN) | refine gA ?_ | (refine gR (M := noM) ?_; intro N hN ops hy) | (refine gD (M := noM) ?_; intro N hN; have hy := yieldedV_eq) | (refine WPV.condK ?_; intro A hA B hB) | (refine here ?_; refine sS ?_) | refine Both.mk ?_ ?_ | (refine hN _ ?_; try clear hN N; try clear hy ops) | (refine hA ?_; clear hA A hB B; try simp only [hz]) | (refine hB ?_; clear hA A hB B; try simp only [hz]) | (refine gG ?_ ?_ <;> (intro hz; have h := nm hz; try (exfalso; omega)) <;> (have hz := nz hz; try subst hz)) | (rw [if_pos (show _ ∧ _ from ⟨by omega, by omega⟩)]; refine sS ?_) | refine gT ?_ | (clear hN N))
        all_goals (first | exact retZ hQ Tryd.results61 (Desc.re [] rfl) | exact retZN hQ Tryd.results61 (Desc.re [] rfl))
    obtain rfl : i = a.length := by omega
    have e : keqL a b = true := by rw [j2, hn, List.drop_length, ← hn, List.drop_length]; rfl
    rw [e] at hQ
    clear H j2 e
    have hga := True.intro
    have hgb := True.intro
    have q := True.intro
    refine loopV ?_
    have hz : True := trivial
    have hy := yieldedV_eq
    have hL := And.intro @hga (And.intro @hgb (@q))
    repeat' (first | (refine WPV.seqK ?_; intro N hN) | refine gA ?_ | (refine gR (M := noM) ?_; intro N hN ops hy) | (refine gD (M := noM) ?_; intro N hN; have hy := yieldedV_eq) | (refine WPV.condK ?_; intro A hA B hB) | (refine here ?_; refine sS ?_) | refine Both.mk ?_ ?_ | (refine hN _ ?_; try clear hN N; try clear hy ops) | (refine hA ?_; clear hA A hB B; try simp only [hz]) | (refine hB ?_; clear hA A hB B; try simp only [hz]) | (refine gG ?_ ?_ <;> (intro hz; have h := nm hz; try (exfalso; omega)) <;> (have hz := nz hz; try subst hz)) | (rw [if_pos (show _ ∧ _ from ⟨by omega, by omega⟩)]; refine sS ?_) | refine gT ?_ | (clear hN N))
    all_goals (first | exact retZ hQ Tryd.results61 (Desc.re [] rfl) | exact retZN hQ Tryd.results61 (Desc.re [] rfl))
  · have e : keqL a b = false := keqL_ne hn
    rw [e]
    refine Sp.of_bodyE Tryd.func61 rfl ?_
    intro Q hQ
    simp only [List.replicate, List.length_cons, List.length_nil, Tryd.ntmps61, Nat.reduceAdd, Nat.reduceSub, List.cons_append, List.nil_append, go_sem]
    have hz : True := trivial
    have hy := yieldedV_eq
    have hL := And.intro @hga (And.intro @hgb (@q))
    repeat' (first | (refine WPV.seqK ?_; intro N hN) | refine gA ?_ | (refine gR (M := noM) ?_; intro N hN ops hy) | (refine gD (M := noM) ?_; intro N hN; have hy := yieldedV_eq) | (refine WPV.condK ?_; intro A hA B hB) | (refine here ?_; refine sS ?_) | refine Both.mk ?_ ?_ | (refine hN _ ?_; try clear hN N; try clear hy ops) | (refine hA ?_; clear hA A hB B; try simp only [hz]) | (refine hB ?_; clear hA A hB B; try simp only [hz]) | (refine gG ?_ ?_ <;> (intro hz; have h := nm hz; try (exfalso; omega)) <;> (have hz := nz hz; try subst hz)) | (rw [if_pos (show _ ∧ _ from ⟨by omega, by omega⟩)]; refine sS ?_) | refine gT ?_ | (clear hN N))
    all_goals (first | exact retZ hQ Tryd.results61 (Desc.re [] rfl) | exact retZN hQ Tryd.results61 (Desc.re [] rfl))
def sameF (a b : It) : Bool := decide (a.d = b.d ∧ a.o = b.o ∧ a.n = b.n ∧ a.a = b.a ∧ a.m = b.m ∧ (a.c.x = b.c.x ∧ a.c.y = b.c.y ∧ a.c.z = b.c.z) ∧ weqL a.w b.w = true ∧ keqL a.k b.k = true)
theorem sameF_refl (a : It) : sameF a a = true := by
  unfold sameF
  exact decide_eq_true ⟨rfl, rfl, rfl, rfl, rfl, ⟨rfl, rfl, rfl⟩, weqL_refl eqB_refl _, keqL_refl eqN_refl _⟩
set_option maxRecDepth 100000 in
set_option maxHeartbeats 4000000 in
theorem ssame_s (a b : It) (h1 : a.w.length ≤ 9223372036854775807 ∧ a.k.length ≤ 9223372036854775807) (h2 : b.w.length ≤ 9223372036854775807 ∧ b.k.length ≤ 9223372036854775807) : Sp Tryd.prog K 19 [itV a, itV b] [] fun u hh => u = .sc (.bool (sameF a b)) ∧ hh = [] := by
  have cw := fun h => Sp.lift (weqg_s (K := K) a.w b.w h1.1 h2.1) (fun _ => rfl) (fun _ => rfl) h
  have ck := fun h => Sp.lift (keqg_s (K := K) a.k b.k h1.2 h2.2) (fun _ => rfl) (fun _ => rfl) h
  unfold sameF
  obtain ⟨iw, ew⟩ := bool_i (weqL a.w b.w)
  obtain ⟨ik, ek⟩ := bool_i (keqL a.k b.k)
  rw [ew] at cw ⊢
  rw [ek] at ck ⊢
  simp only [decide_eq_true_eq]
  clear ew ek h1 h2
  obtain ⟨d, o, n, x, m, ⟨cx, cy, cz⟩, w, k⟩ := a
  obtain ⟨d', o', n', x', m', ⟨cx', cy', cz'⟩, w', k'⟩ := b
  dsimp only at *
  by_cases hc : cx = cx' ∧ cy = cy' ∧ cz = cz'
  · obtain ⟨rfl, rfl, rfl⟩ := hc
    have q : (cx == cx && (cy == cy && cz == cz)) = true := by simp
    refine Sp.of_bodyE Tryd.func19 rfl ?_
    intro Q hQ
    simp only [List.replicate, List.length_cons, List.length_nil, Tryd.ntmps19, Nat.reduceAdd, Nat.reduceSub, List.cons_append, List.nil_append, go_sem]
    have hz : True := trivial
    have hy := yieldedV_eq
    have hL := @q
    repeat' (first | (refine WPV.seqK ?_; intro N hN) | refine gA ?_ | (refine gR (M := noM) ?_; intro N hN ops hy) | (refine gD (M := noM) ?_; intro N hN; have hy := yieldedV_eq) | (refine WPV.condK ?_; intro A hA B hB) | (refine here ?_; refine sS ?_) | refine Both.mk ?_ ?_ | ((with_reducible refine CallO.gd 60 ?_); refine CallO.toB Tryd.call60 (cw _) ?_) | ((with_reducible refine CallO.gd 61 ?_); refine CallO.toB Tryd.call61 (ck _) ?_) | ((with_reducible refine CallP.gd 60 ?_); refine CallP.toB Tryd.call60 (cw _) ?_) | ((with_reducible refine CallP.gd 61 ?_); refine CallP.toB Tryd.call61 (ck _) ?_) | (refine hN _ ?_; try clear hN N; try clear hy ops) | (refine hA ?_; clear hA A hB B; try simp only [hz]) | (refine hB ?_; clear hA A hB B; try simp only [hz]) | (refine gG ?_ ?_ <;> (intro hz; have h := nm hz; try (exfalso; omega)) <;> (have hz := nz hz; try subst hz)) | (rw [if_pos (show _ ∧ _ from ⟨by omega, by omega⟩)]; refine sS ?_) | refine gT ?_ | (clear hN N))
    all_goals (first | exact retZ hQ Tryd.results19 (Desc.re [] rfl) | exact retZN hQ Tryd.results19 (Desc.re [] rfl))
  · have q : (cx == cx' && (cy == cy' && cz == cz')) = false := by
      cases h : (cx == cx' && (cy == cy' && cz == cz'))
      · rfl
      · exact absurd (by simpa using h) hc
    refine Sp.of_bodyE Tryd.func19 rfl ?_
    intro Q hQ
    simp only [List.replicate, List.length_cons, List.length_nil, Tryd.ntmps19, Nat.reduceAdd, Nat.reduceSub, List.cons_append, List.nil_append, go_sem]
    have hz : True := trivial
    have hy := yieldedV_eq
    have hL := @q
    repeat' (first | (refine WPV.seqK ?_; intro N hN) | refine gA ?_ | (refine gR (M := noM) ?_; intro N hN ops hy) | (refine gD (M := noM) ?_; intro N hN; have hy := yieldedV_eq) | (refine WPV.condK ?_; intro A hA B hB) | (refine here ?_; refine sS ?_) | refine Both.mk ?_ ?_ | ((with_reducible refine CallO.gd 60 ?_); refine CallO.toB Tryd.call60 (cw _) ?_) | ((with_reducible refine CallO.gd 61 ?_); refine CallO.toB Tryd.call61 (ck _) ?_) | ((with_reducible refine CallP.gd 60 ?_); refine CallP.toB Tryd.call60 (cw _) ?_) | ((with_reducible refine CallP.gd 61 ?_); refine CallP.toB Tryd.call61 (ck _) ?_) | (refine hN _ ?_; try clear hN N; try clear hy ops) | (refine hA ?_; clear hA A hB B; try simp only [hz]) | (refine hB ?_; clear hA A hB B; try simp only [hz]) | (refine gG ?_ ?_ <;> (intro hz; have h := nm hz; try (exfalso; omega)) <;> (have hz := nz hz; try subst hz)) | (rw [if_pos (show _ ∧ _ from ⟨by omega, by omega⟩)]; refine sS ?_) | refine gT ?_ | (clear hN N))
    all_goals (first | exact retZ hQ Tryd.results19 (Desc.re [] rfl) | exact retZN hQ Tryd.results19 (Desc.re [] rfl))
end Go.Proofs.YtgfnpcmehnjopaaDoor
end
section
namespace Go.Proofs.YtgfnpcmehnjopaaDoor
section
open Go Go.RowKit
set_option linter.unusedVariables false
set_option linter.unusedSimpArgs false
variable {K : Nat → Obj → Prop}
def Wr.big (a : Wr) : Bool := decide (9000 < a.k.size) || decide (9000 < a.v.size)
def Tx.big (t : Tx) : Bool := decide (40 < t.w.length) || t.w.any Wr.big
set_option maxRecDepth 100000 in
set_option maxHeartbeats 4000000 in
theorem tbig_s (t : Tx) : Sp Tryd.prog K 30 [txV t] [] fun u hh => u = .sc (.bool t.big) ∧ hh = [] := by
  obtain ⟨o, s, ⟨x, y, z⟩, w⟩ := t
  have hlt : True := trivial
  have hget : True := trivial
  have hk : True := trivial
  have hv : True := trivial
  have hw : True := trivial
  by_cases h60 : 40 < w.length
  · have e : Tx.big ⟨o, s, ⟨x, y, z⟩, w⟩ = true := by simp [Tx.big, h60]
    rw [e]
    have hlen : ((40 : Int) < (w.length : Int)) = True := eq_true (by omega)
    refine Sp.of_bodyD Tryd.func30 rfl ?_
    intro Q hQ
    simp only [List.replicate, List.length_cons, List.length_nil, Tryd.ntmps30, Nat.reduceAdd, Nat.reduceSub, List.cons_append, List.nil_append, go_sem]
    have hz : True := trivial
    have hy := yieldedV_eq
    have hL := And.intro @hlen (And.intro @hlt (And.intro @hget (And.intro @hk (And.intro @hv (@hw)))))
    repeat' (first | (refine WPV.seqK ?_; intro N hN) | refine gA ?_ | (refine gR (M := noM) ?_; intro N hN ops hy) | (refine gD (M := noM) ?_; intro N hN; have hy := yieldedV_eq) | (refine WPV.condK ?_; intro A hA B hB) | (refine here ?_; refine sM ?_) | refine Both.mk ?_ ?_ | (refine hN _ ?_; try clear hN N; try clear hy ops) | (refine hA ?_; clear hA A hB B; try simp only [hz]) | (refine hB ?_; clear hA A hB B; try simp only [hz]) | (refine gG ?_ ?_ <;> (intro hz; have h := nm hz; try (exfalso; omega)) <;> (have hz := nz hz)) | ((first | rw [if_pos (show _ ∧ _ from ⟨by omega, by omega⟩)] | rw [if_pos (show _ ∧ _ from by simp only [List.length_append, List.length_cons, List.length_nil]; exact ⟨by omega, by omega⟩)]); refine sM ?_) | refine gT ?_ | (clear hN N))
    all_goals (first | exact retA hQ Tryd.results30 (Desc.re [] rfl) | exact retN hQ Tryd.results30 (Desc.re [] rfl))
  · have hlen : ((40 : Int) < (w.length : Int)) = False := eq_false (by omega)
    have e : Tx.big ⟨o, s, ⟨x, y, z⟩, w⟩ = w.any Wr.big := by simp [Tx.big, h60]
    rw [e]
    refine Sp.of_bodyD Tryd.func30 rfl ?_
    intro Q hQ
    simp only [List.replicate, List.length_cons, List.length_nil, Tryd.ntmps30, Nat.reduceAdd, Nat.reduceSub, List.cons_append, List.nil_append, go_sem]
    have hz : True := trivial
    have hy := yieldedV_eq
    have hL := And.intro @hlen (And.intro @hlt (And.intro @hget (And.intro @hk (And.intro @hv (@hw)))))
    repeat' (first | (refine WPV.seqK ?_; intro N hN) | refine gA ?_ | (refine gR (M := noM) ?_; intro N hN ops hy) | (refine gD (M := noM) ?_; intro N hN; have hy := yieldedV_eq) | (refine WPV.condK ?_; intro A hA B hB) | (refine here ?_; refine sM ?_) | refine Both.mk ?_ ?_ | (refine hN _ ?_; try clear hN N; try clear hy ops) | (refine hA ?_; clear hA A hB B; try simp only [hz]) | (refine hB ?_; clear hA A hB B; try simp only [hz]) | (refine gG ?_ ?_ <;> (intro hz; have h := nm hz; try (exfalso; omega)) <;> (have hz := nz hz)) | ((first | rw [if_pos (show _ ∧ _ from ⟨by omega, by omega⟩)] | rw [if_pos (show _ ∧ _ from by simp only [List.length_append, List.length_cons, List.length_nil]; exact ⟨by omega, by omega⟩)]); refine sM ?_) | refine gT ?_ | (clear hN N))
    refine WPV.desc (Desc.weakA (tm' := [.any, .ptr 0 0, .sc (.bool false), .any, .any, .any, .any, .any, .any, .any, .sl 3 (wrl w), .sc (.int .i64 (w.length : Int)), .sc (.int .i64 0), .any, .any, .any, .any, .any, .any, .any, .any, .any, .any, .any, .any, .any, .any]) (h' := [.cells [.sc (.int .i64 o), .sc (.int .i64 s), .sc (.int .i64 x), .sc (.int .i64 y), .sc (.int .i64 z), .sl 3 (wrl w)]])) ?_
    refine WPV.loopA (α := Nat) (fun k => w.length - k) (fun k => ⟨[.any, .ptr 0 0, .sc (.bool false), .any, .any, .any, .any, .any, .any, .any, .sl 3 (wrl w), .sc (.int .i64 (w.length : Int)), .sc (.int .i64 ((k : Nat) : Int)), .any, .any, .any, .any, .any, .any, .any, .any, .any, .any, .any, .any, .any, .any], [.cells [.sc (.int .i64 o), .sc (.int .i64 s), .sc (.int .i64 x), .sc (.int .i64 y), .sc (.int .i64 z), .sl 3 (wrl w)]]⟩) (fun k => k ≤ w.length ∧ w.any Wr.big = (w.drop k).any Wr.big) (fun k ⟨hk0, hJ⟩ H => ?_) 0 ⟨Nat.zero_le _, rfl⟩
    clear hlt hget hk hv hw
    by_cases h : k < w.length
    · have hlt : ((k : Int) < (w.length : Int)) = True := eq_true (by omega)
      have hget : w[k]? = some w[k] := List.getElem?_eq_getElem h
      have hw : IntKind.i64.wrap ((k : Int) + 1) = ((k + 1 : Nat) : Int) := by rw [wr_i64 (by omega) (by omega)]; rfl
      rw [List.drop_eq_getElem_cons h, List.any_cons] at hJ
      generalize w[k] = a at hget hJ
      by_cases hx : 9000 < a.k.size
      · have e : w.any Wr.big = true := by rw [hJ]; simp [Wr.big, hx]
        rw [e] at hQ
        have hk : ((9000 : Int) < (a.k.size : Int)) = True := eq_true (by omega)
        have hv : True := trivial
        clear H
        refine loopV ?_
        have hz : True := trivial
        have hy := yieldedV_eq
        have hL := And.intro @hlen (And.intro @hlt (And.intro @hget (And.intro @hk (And.intro @hv (@hw)))))
        repeat' (first | (refine WPV.seqK ?_; intro N hN) | refine gA ?_ | (refine gR (M := noM) ?_; intro N hN ops hy) | (refine gD (M := noM) ?_; intro N hN; have hy := yieldedV_eq) | (refine WPV.condK ?_; intro A hA B hB) | (refine here ?_; refine sM ?_) | refine Both.mk ?_ ?_ | (refine hN _ ?_; try clear hN N; try clear hy ops) | (refine hA ?_; clear hA A hB B; try simp only [hz]) | (refine hB ?_; clear hA A hB B; try simp only [hz]) | (refine gG ?_ ?_ <;> (intro hz; have h := nm hz; try (exfalso; omega)) <;> (have hz := nz hz)) | ((first | rw [if_pos (show _ ∧ _ from ⟨by omega, by omega⟩)] | rw [if_pos (show _ ∧ _ from by simp only [List.length_append, List.length_cons, List.length_nil]; exact ⟨by omega, by omega⟩)]); refine sM ?_) | refine gT ?_ | (clear hN N))
        all_goals (first | exact retA hQ Tryd.results30 (Desc.re [] rfl) | exact retN hQ Tryd.results30 (Desc.re [] rfl))
      have hk : ((9000 : Int) < (a.k.size : Int)) = False := eq_false (by omega)
      by_cases hy2 : 9000 < a.v.size
      · have e : w.any Wr.big = true := by rw [hJ]; simp [Wr.big, hy2]
        rw [e] at hQ
        have hv : ((9000 : Int) < (a.v.size : Int)) = True := eq_true (by omega)
        clear H
        refine loopV ?_
        have hz : True := trivial
        have hy := yieldedV_eq
        have hL := And.intro @hlen (And.intro @hlt (And.intro @hget (And.intro @hk (And.intro @hv (@hw)))))
        repeat' (first | (refine WPV.seqK ?_; intro N hN) | refine gA ?_ | (refine gR (M := noM) ?_; intro N hN ops hy) | (refine gD (M := noM) ?_; intro N hN; have hy := yieldedV_eq) | (refine WPV.condK ?_; intro A hA B hB) | (refine here ?_; refine sM ?_) | refine Both.mk ?_ ?_ | (refine hN _ ?_; try clear hN N; try clear hy ops) | (refine hA ?_; clear hA A hB B; try simp only [hz]) | (refine hB ?_; clear hA A hB B; try simp only [hz]) | (refine gG ?_ ?_ <;> (intro hz; have h := nm hz; try (exfalso; omega)) <;> (have hz := nz hz)) | ((first | rw [if_pos (show _ ∧ _ from ⟨by omega, by omega⟩)] | rw [if_pos (show _ ∧ _ from by simp only [List.length_append, List.length_cons, List.length_nil]; exact ⟨by omega, by omega⟩)]); refine sM ?_) | refine gT ?_ | (clear hN N))
        all_goals (first | exact retA hQ Tryd.results30 (Desc.re [] rfl) | exact retN hQ Tryd.results30 (Desc.re [] rfl))
      have e : w.any Wr.big = (w.drop (k + 1)).any Wr.big := by rw [hJ]; simp [Wr.big, hx, hy2]
      have hv : ((9000 : Int) < (a.v.size : Int)) = False := eq_false (by omega)
      have H' := H (k + 1) ⟨by omega, e⟩ (by omega)
      clear H
      refine loopV ?_
      have hz : True := trivial
      have hy := yieldedV_eq
      have hL := And.intro @hlen (And.intro @hlt (And.intro @hget (And.intro @hk (And.intro @hv (@hw)))))
      repeat' (first | (refine WPV.seqK ?_; intro N hN) | refine gA ?_ | (refine gR (M := noM) ?_; intro N hN ops hy) | (refine gD (M := noM) ?_; intro N hN; have hy := yieldedV_eq) | (refine WPV.condK ?_; intro A hA B hB) | (refine here ?_; refine sM ?_) | refine Both.mk ?_ ?_ | (refine hN _ ?_; try clear hN N; try clear hy ops) | (refine hA ?_; clear hA A hB B; try simp only [hz]) | (refine hB ?_; clear hA A hB B; try simp only [hz]) | (refine gG ?_ ?_ <;> (intro hz; have h := nm hz; try (exfalso; omega)) <;> (have hz := nz hz)) | ((first | rw [if_pos (show _ ∧ _ from ⟨by omega, by omega⟩)] | rw [if_pos (show _ ∧ _ from by simp only [List.length_append, List.length_cons, List.length_nil]; exact ⟨by omega, by omega⟩)]); refine sM ?_) | refine gT ?_ | (clear hN N))
      exact WPV.desc ((Desc.re [some 0] rfl).trans Desc.weakA) H'
    · obtain rfl : k = w.length := by omega
      have e : w.any Wr.big = false := by rw [hJ]; simp
      rw [e] at hQ
      have hlt : ((w.length : Int) < (w.length : Int)) = False := by simp
      have hget : True := trivial
      have hk : True := trivial
      have hv : True := trivial
      have hw : True := trivial
      refine loopV ?_
      have hz : True := trivial
      have hy := yieldedV_eq
      have hL := And.intro @hlen (And.intro @hlt (And.intro @hget (And.intro @hk (And.intro @hv (@hw)))))
      repeat' (first | (refine WPV.seqK ?_; intro N hN) | refine gA ?_ | (refine gR (M := noM) ?_; intro N hN ops hy) | (refine gD (M := noM) ?_; intro N hN; have hy := yieldedV_eq) | (refine WPV.condK ?_; intro A hA B hB) | (refine here ?_; refine sM ?_) | refine Both.mk ?_ ?_ | (refine hN _ ?_; try clear hN N; try clear hy ops) | (refine hA ?_; clear hA A hB B; try simp only [hz]) | (refine hB ?_; clear hA A hB B; try simp only [hz]) | (refine gG ?_ ?_ <;> (intro hz; have h := nm hz; try (exfalso; omega)) <;> (have hz := nz hz)) | ((first | rw [if_pos (show _ ∧ _ from ⟨by omega, by omega⟩)] | rw [if_pos (show _ ∧ _ from by simp only [List.length_append, List.length_cons, List.length_nil]; exact ⟨by omega, by omega⟩)]); refine sM ?_) | refine gT ?_ | (clear hN N))
      all_goals (first | exact retA hQ Tryd.results30 (Desc.re [] rfl) | exact retN hQ Tryd.results30 (Desc.re [] rfl))
end
end Go.Proofs.YtgfnpcmehnjopaaDoor
end
