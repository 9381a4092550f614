/- Parts of the proofs, joined: TxnV, TxnL, TxsL, SegT, TxnD, SegG, SegA, FrmA. -/
import Derived.Test.YtgfnpcmehnjopaaDoorG2
import Derived.Test.YtgfnpcmehnjopaaDoorG7
import Derived.Test.YtgfnpcmehnjopaaDoorG8
import Derived.Test.YtgfnpcmehnjopaaDoorG9
import Derived.Test.YtgfnpcmehnjopaaDoorG10
import Derived.Test.YtgfnpcmehnjopaaDoorG13
import Derived.Test.YtgfnpcmehnjopaaDoorG14
section
namespace Go.Proofs.YtgfnpcmehnjopaaDoor
open Go Go.RowKit
set_option linter.unusedVariables false
set_option linter.unusedSimpArgs false
variable {K : Nat → Obj → Prop}
set_option maxRecDepth 100000 in
set_option maxHeartbeats 1000000 in
theorem rsame_t (t : Tx) (hl : t.w.length ≤ 1000000) : Sp Tryd.prog K 71 [txV t, txV t] [] fun u hh => u = .sc (.bool true) ∧ hh = [] := by
  obtain ⟨o, s, ⟨x, y, z⟩, w⟩ := t
  dsimp only at hl
  have hget : True := trivial
  refine Sp.of_bodyE Tryd.func71 rfl ?_
  intro Q hQ
  simp only [List.replicate, List.length_cons, List.length_nil, Tryd.ntmps71, Nat.reduceAdd, Nat.reduceSub, List.cons_append, List.nil_append, go_sem]
  have hz : True := trivial
  have hy := yieldedV_eq
  have hL := @hget
  repeat' (first | (refine WPV.seqK ?_; intro N hN) | refine gA ?_ | (refine gR (M := noM) ?_; intro N hN ops hy) | (refine gD (M := noM) ?_; intro N hN; have hy := yieldedV_eq) | (refine WPV.condK ?_; intro A hA B hB) | (refine here ?_; refine sS ?_) | refine Both.mk ?_ ?_ | (refine hN _ ?_; try clear hN N; try clear hy ops) | (refine hA ?_; clear hA A hB B; try simp only [hz]) | (refine hB ?_; clear hA A hB B; try simp only [hz]) | (refine gG ?_ ?_ <;> (intro hz; have h := nm hz; try (exfalso; omega)) <;> (have hz := nz hz; try subst hz)) | (rw [if_pos (show _ ∧ _ from ⟨by omega, by omega⟩)]; refine sS ?_) | refine gT ?_ | (clear hN N))
  refine WPV.loopW (α := Nat) (fun k => w.length - k) (fun k => ⟨[.any, .any, .ptr 0 0, .ptr 1 0, .any, .sc (.int .i64 ((k : Nat) : Int)), .any, .any, .any, .any, .any, .any, .any, .any, .any, .any, .any, .any, .any, .any, .any, .any, .any, .any, .any, .any, .any, .any, .any, .any, .any, .any, .any, .any, .any, .any, .any, .any, .any, .any, .any, .any, .any, .any, .any, .any, .any, .any, .any, .any, .any, .any], [.cells [.sc (.int .i64 o), .sc (.int .i64 s), .sc (.int .i64 x), .sc (.int .i64 y), .sc (.int .i64 z), .sl 3 (wrl w)], .cells [.sc (.int .i64 o), .sc (.int .i64 s), .sc (.int .i64 x), .sc (.int .i64 y), .sc (.int .i64 z), .sl 3 (wrl w)]]⟩) (fun k => k ≤ w.length) 0 Desc.weakA (Nat.zero_le _) (fun k hJ H => ?_)
  clear hget
  by_cases h : k < w.length
  · obtain ⟨a, hg⟩ : ∃ a, w[k] = a := ⟨_, rfl⟩
    have hget : w[k]? = some a := by rw [← hg]; exact List.getElem?_eq_getElem h
    have H' := H (k + 1) h (by omega)
    clear H hg
    refine loopV ?_
    have hz : True := trivial
    have hy := yieldedV_eq
    have hL := @hget
    repeat' (first | (refine WPV.seqK ?_; intro N hN) | refine gA ?_ | (refine gR (M := noM) ?_; intro N hN ops hy) | (refine gD (M := noM) ?_; intro N hN; have hy := yieldedV_eq) | (refine WPV.condK ?_; intro A hA B hB) | (refine here ?_; refine sS ?_) | refine Both.mk ?_ ?_ | (refine hN _ ?_; try clear hN N; try clear hy ops) | (refine hA ?_; clear hA A hB B; try simp only [hz]) | (refine hB ?_; clear hA A hB B; try simp only [hz]) | (refine gG ?_ ?_ <;> (intro hz; have h := nm hz; try (exfalso; omega)) <;> (have hz := nz hz; try subst hz)) | (rw [if_pos (show _ ∧ _ from ⟨by omega, by omega⟩)]; refine sS ?_) | refine gT ?_ | (clear hN N))
    all_goals (exact rndZ (Desc.re [some 0, some 1] rfl) (H'))
  · have hget : True := trivial
    clear H
    refine loopV ?_
    have hz : True := trivial
    have hy := yieldedV_eq
    have hL := @hget
    repeat' (first | (refine WPV.seqK ?_; intro N hN) | refine gA ?_ | (refine gR (M := noM) ?_; intro N hN ops hy) | (refine gD (M := noM) ?_; intro N hN; have hy := yieldedV_eq) | (refine WPV.condK ?_; intro A hA B hB) | (refine here ?_; refine sS ?_) | refine Both.mk ?_ ?_ | (refine hN _ ?_; try clear hN N; try clear hy ops) | (refine hA ?_; clear hA A hB B; try simp only [hz]) | (refine hB ?_; clear hA A hB B; try simp only [hz]) | (refine gG ?_ ?_ <;> (intro hz; have h := nm hz; try (exfalso; omega)) <;> (have hz := nz hz; try subst hz)) | (rw [if_pos (show _ ∧ _ from ⟨by omega, by omega⟩)]; refine sS ?_) | refine gT ?_ | (clear hN N))
    all_goals (first | exact retZ hQ Tryd.results71 (Desc.re [] rfl) | exact retZN hQ Tryd.results71 (Desc.re [] rfl))
end Go.Proofs.YtgfnpcmehnjopaaDoor
end
section
namespace Go.Proofs.YtgfnpcmehnjopaaDoor
section
open Go Go.RowKit
set_option linter.unusedVariables false
set_option linter.unusedSimpArgs false
variable {K : Nat → Obj → Prop}
def Wr.big (a : Wr) : Bool := decide (9000 < a.k.size) || decide (9000 < a.v.size)
def Tx.big (t : Tx) : Bool := decide (40 < t.w.length) || t.w.any Wr.big
set_option maxRecDepth 100000 in
set_option maxHeartbeats 4000000 in
theorem tbig_s (t : Tx) : Sp Tryd.prog K 30 [txV t] [] fun u hh => u = .sc (.bool t.big) ∧ hh = [] := by
  obtain ⟨o, s, ⟨x, y, z⟩, w⟩ := t
  have hlt : True := trivial
  have hget : True := trivial
  have hk : True := trivial
  have hv : True := trivial
  have hw : True := trivial
  by_cases h60 : 40 < w.length
  · have e : Tx.big ⟨o, s, ⟨x, y, z⟩, w⟩ = true := by simp [Tx.big, h60]
    rw [e]
    have hlen : ((40 : Int) < (w.length : Int)) = True := eq_true (by omega)
    refine Sp.of_bodyD Tryd.func30 rfl ?_
    intro Q hQ
    simp only [List.replicate, List.length_cons, List.length_nil, Tryd.ntmps30, Nat.reduceAdd, Nat.reduceSub, List.cons_append, List.nil_append, go_sem]
    have hz : True := trivial
    have hy := yieldedV_eq
    have hL := And.intro @hlen (And.intro @hlt (And.intro @hget (And.intro @hk (And.intro @hv (@hw)))))
    repeat' (first | (refine WPV.seqK ?_; intro N hN) | refine gA ?_ | (refine gR (M := noM) ?_; intro N hN ops hy) | (refine gD (M := noM) ?_; intro N hN; have hy := yieldedV_eq) | (refine WPV.condK ?_; intro A hA B hB) | (refine here ?_; refine sM ?_) | refine Both.mk ?_ ?_ | (refine hN _ ?_; try clear hN N; try clear hy ops) | (refine hA ?_; clear hA A hB B; try simp only [hz]) | (refine hB ?_; clear hA A hB B; try simp only [hz]) | (refine gG ?_ ?_ <;> (intro hz; have h := nm hz; try (exfalso; omega)) <;> (have hz := nz hz)) | ((first | rw [if_pos (show _ ∧ _ from ⟨by omega, by omega⟩)] | rw [if_pos (show _ ∧ _ from by simp only [List.length_append, List.length_cons, List.length_nil]; exact ⟨by omega, by omega⟩)]); refine sM ?_) | refine gT ?_ | (clear hN N))
    all_goals (first | exact retA hQ Tryd.results30 (Desc.re [] rfl) | exact retN hQ Tryd.results30 (Desc.re [] rfl))
  · have hlen : ((40 : Int) < (w.length : Int)) = False := eq_false (by omega)
    have e : Tx.big ⟨o, s, ⟨x, y, z⟩, w⟩ = w.any Wr.big := by simp [Tx.big, h60]
    rw [e]
    refine Sp.of_bodyD Tryd.func30 rfl ?_
    intro Q hQ
    simp only [List.replicate, List.length_cons, List.length_nil, Tryd.ntmps30, Nat.reduceAdd, Nat.reduceSub, List.cons_append, List.nil_append, go_sem]
    have hz : True := trivial
    have hy := yieldedV_eq
    have hL := And.intro @hlen (And.intro @hlt (And.intro @hget (And.intro @hk (And.intro @hv (@hw)))))
    repeat' (first | (refine WPV.seqK ?_; intro N hN) | refine gA ?_ | (refine gR (M := noM) ?_; intro N hN ops hy) | (refine gD (M := noM) ?_; intro N hN; have hy := yieldedV_eq) | (refine WPV.condK ?_; intro A hA B hB) | (refine here ?_; refine sM ?_) | refine Both.mk ?_ ?_ | (refine hN _ ?_; try clear hN N; try clear hy ops) | (refine hA ?_; clear hA A hB B; try simp only [hz]) | (refine hB ?_; clear hA A hB B; try simp only [hz]) | (refine gG ?_ ?_ <;> (intro hz; have h := nm hz; try (exfalso; omega)) <;> (have hz := nz hz)) | ((first | rw [if_pos (show _ ∧ _ from ⟨by omega, by omega⟩)] | rw [if_pos (show _ ∧ _ from by simp only [List.length_append, List.length_cons, List.length_nil]; exact ⟨by omega, by omega⟩)]); refine sM ?_) | refine gT ?_ | (clear hN N))
    refine WPV.desc (Desc.weakA (tm' := [.any, .ptr 0 0, .sc (.bool false), .any, .any, .any, .any, .any, .any, .any, .sl 3 (wrl w), .sc (.int .i64 (w.length : Int)), .sc (.int .i64 0), .any, .any, .any, .any, .any, .any, .any, .any, .any, .any, .any, .any, .any, .any]) (h' := [.cells [.sc (.int .i64 o), .sc (.int .i64 s), .sc (.int .i64 x), .sc (.int .i64 y), .sc (.int .i64 z), .sl 3 (wrl w)]])) ?_
    refine WPV.loopA (α := Nat) (fun k => w.length - k) (fun k => ⟨[.any, .ptr 0 0, .sc (.bool false), .any, .any, .any, .any, .any, .any, .any, .sl 3 (wrl w), .sc (.int .i64 (w.length : Int)), .sc (.int .i64 ((k : Nat) : Int)), .any, .any, .any, .any, .any, .any, .any, .any, .any, .any, .any, .any, .any, .any], [.cells [.sc (.int .i64 o), .sc (.int .i64 s), .sc (.int .i64 x), .sc (.int .i64 y), .sc (.int .i64 z), .sl 3 (wrl w)]]⟩) (fun k => k ≤ w.length ∧ w.any Wr.big = (w.drop k).any Wr.big) (fun k ⟨hk0, hJ⟩ H => ?_) 0 ⟨Nat.zero_le _, rfl⟩
    clear hlt hget hk hv hw
    by_cases h : k < w.length
    · have hlt : ((k : Int) < (w.length : Int)) = True := eq_true (by omega)
      have hget : w[k]? = some w[k] := List.getElem?_eq_getElem h
      have hw : IntKind.i64.wrap ((k : Int) + 1) = ((k + 1 : Nat) : Int) := by rw [wr_i64 (by omega) (by omega)]; rfl
      rw [List.drop_eq_getElem_cons h, List.any_cons] at hJ
      generalize w[k] = a at hget hJ
      by_cases hx : 9000 < a.k.size
      · have e : w.any Wr.big = true := by rw [hJ]; simp [Wr.big, hx]
        rw [e] at hQ
        have hk : ((9000 : Int) < (a.k.size : Int)) = True := eq_true (by omega)
        have hv : True := trivial
        clear H
        refine loopV ?_
        have hz : True := trivial
        have hy := yieldedV_eq
        have hL := And.intro @hlen (And.intro @hlt (And.intro @hget (And.intro @hk (And.intro @hv (@hw)))))
        repeat' (first | (refine WPV.seqK ?_; intro N hN) | refine gA ?_ | (refine gR (M := noM) ?_; intro N hN ops hy) | (refine gD (M := noM) ?_; intro N hN; have hy := yieldedV_eq) | (refine WPV.condK ?_; intro A hA B hB) | (refine here ?_; refine sM ?_) | refine Both.mk ?_ ?_ | (refine hN _ ?_; try clear hN N; try clear hy ops) | (refine hA ?_; clear hA A hB B; try simp only [hz]) | (refine hB ?_; clear hA A hB B; try simp only [hz]) | (refine gG ?_ ?_ <;> (intro hz; have h := nm hz; try (exfalso; omega)) <;> (have hz := nz hz)) | ((first | rw [if_pos (show _ ∧ _ from ⟨by omega, by omega⟩)] | rw [if_pos (show _ ∧ _ from by simp only [List.length_append, List.length_cons, List.length_nil]; exact ⟨by omega, by omega⟩)]); refine sM ?_) | refine gT ?_ | (clear hN N))
        all_goals (first | exact retA hQ Tryd.results30 (Desc.re [] rfl) | exact retN hQ Tryd.results30 (Desc.re [] rfl))
      have hk : ((9000 : Int) < (a.k.size : Int)) = False := eq_false (by omega)
      by_cases hy2 : 9000 < a.v.size
      · have e : w.any Wr.big = true := by rw [hJ]; simp [Wr.big, hy2]
        rw [e] at hQ
        have hv : ((9000 : Int) < (a.v.size : Int)) = True := eq_true (by omega)
        clear H
        refine loopV ?_
        have hz : True := trivial
        have hy := yieldedV_eq
        have hL := And.intro @hlen (And.intro @hlt (And.intro @hget (And.intro @hk (And.intro @hv (@hw)))))
        repeat' (first | (refine WPV.seqK ?_; intro N hN) | refine gA ?_ | (refine gR (M := noM) ?_; intro N hN ops hy) | (refine gD (M := noM) ?_; intro N hN; have hy := yieldedV_eq) | (refine WPV.condK ?_; intro A hA B hB) | (refine here ?_; refine sM ?_) | refine Both.mk ?_ ?_ | (refine hN _ ?_; try clear hN N; try clear hy ops) | (refine hA ?_; clear hA A hB B; try simp only [hz]) | (refine hB ?_; clear hA A hB B; try simp only [hz]) | (refine gG ?_ ?_ <;> (intro hz; have h := nm hz; try (exfalso; omega)) <;> (have hz := nz hz)) | ((first | rw [if_pos (show _ ∧ _ from ⟨by omega, by omega⟩)] | rw [if_pos (show _ ∧ _ from by simp only [List.length_append, List.length_cons, List.length_nil]; exact ⟨by omega, by omega⟩)]); refine sM ?_) | refine gT ?_ | (clear hN N))
        all_goals (first | exact retA hQ Tryd.results30 (Desc.re [] rfl) | exact retN hQ Tryd.results30 (Desc.re [] rfl))
      have e : w.any Wr.big = (w.drop (k + 1)).any Wr.big := by rw [hJ]; simp [Wr.big, hx, hy2]
      have hv : ((9000 : Int) < (a.v.size : Int)) = False := eq_false (by omega)
      have H' := H (k + 1) ⟨by omega, e⟩ (by omega)
      clear H
      refine loopV ?_
      have hz : True := trivial
      have hy := yieldedV_eq
      have hL := And.intro @hlen (And.intro @hlt (And.intro @hget (And.intro @hk (And.intro @hv (@hw)))))
      repeat' (first | (refine WPV.seqK ?_; intro N hN) | refine gA ?_ | (refine gR (M := noM) ?_; intro N hN ops hy) | (refine gD (M := noM) ?_; intro N hN; have hy := yieldedV_eq) | (refine WPV.condK ?_; intro A hA B hB) | (refine here ?_; refine sM ?_) | refine Both.mk ?_ ?_ | (refine hN _ ?_; try clear hN N; try clear hy ops) | (refine hA ?_; clear hA A hB B; try simp only [hz]) | (refine hB ?_; clear hA A hB B; try simp only [hz]) | (refine gG ?_ ?_ <;> (intro hz; have h := nm hz; try (exfalso; omega)) <;> (have hz := nz hz)) | ((first | rw [if_pos (show _ ∧ _ from ⟨by omega, by omega⟩)] | rw [if_pos (show _ ∧ _ from by simp only [List.length_append, List.length_cons, List.length_nil]; exact ⟨by omega, by omega⟩)]); refine sM ?_) | refine gT ?_ | (clear hN N))
      exact WPV.desc ((Desc.re [some 0] rfl).trans Desc.weakA) H'
    · obtain rfl : k = w.length := by omega
      have e : w.any Wr.big = false := by rw [hJ]; simp
      rw [e] at hQ
      have hlt : ((w.length : Int) < (w.length : Int)) = False := by simp
      have hget : True := trivial
      have hk : True := trivial
      have hv : True := trivial
      have hw : True := trivial
      refine loopV ?_
      have hz : True := trivial
      have hy := yieldedV_eq
      have hL := And.intro @hlen (And.intro @hlt (And.intro @hget (And.intro @hk (And.intro @hv (@hw)))))
      repeat' (first | (refine WPV.seqK ?_; intro N hN) | refine gA ?_ | (refine gR (M := noM) ?_; intro N hN ops hy) | (refine gD (M := noM) ?_; intro N hN; have hy := yieldedV_eq) | (refine WPV.condK ?_; intro A hA B hB) | (refine here ?_; refine sM ?_) | refine Both.mk ?_ ?_ | (refine hN _ ?_; try clear hN N; try clear hy ops) | (refine hA ?_; clear hA A hB B; try simp only [hz]) | (refine hB ?_; clear hA A hB B; try simp only [hz]) | (refine gG ?_ ?_ <;> (intro hz; have h := nm hz; try (exfalso; omega)) <;> (have hz := nz hz)) | ((first | rw [if_pos (show _ ∧ _ from ⟨by omega, by omega⟩)] | rw [if_pos (show _ ∧ _ from by simp only [List.length_append, List.length_cons, List.length_nil]; exact ⟨by omega, by omega⟩)]); refine sM ?_) | refine gT ?_ | (clear hN N))
      all_goals (first | exact retA hQ Tryd.results30 (Desc.re [] rfl) | exact retN hQ Tryd.results30 (Desc.re [] rfl))
end
end Go.Proofs.YtgfnpcmehnjopaaDoor
end
section
namespace Go.Proofs.YtgfnpcmehnjopaaDoor
open Go Go.RowKit
set_option linter.unusedVariables false
set_option linter.unusedSimpArgs false
variable {K : Nat → Obj → Prop}
def largeT (l : List Tx) : Bool := decide (30 < l.length) || l.any Tx.big
theorem largeT_ok {l : List Tx} (h : largeT l = false) : l.length ≤ 30 ∧ ∀ t ∈ l, t.w.length ≤ 40 := by
  unfold largeT at h
  simp only [Bool.or_eq_false_iff, decide_eq_false_iff_not] at h
  refine ⟨by omega, fun t ht => ?_⟩
  have := List.any_eq_false.1 h.2 t ht
  unfold Tx.big at this
  simp at this
  omega
set_option maxRecDepth 100000 in
set_option maxHeartbeats 1000000 in
theorem large7_s (l : List Tx) (hl : l.length ≤ 9223372036854775807) : Sp Tryd.prog K 25 [.sl 6 (txs l)] [] fun u hh => u = .sc (.bool (largeT l)) ∧ hh = [] := by
  have hget := True.intro
  have cb := True.intro
  by_cases h3 : 30 < l.length
  · have e : largeT l = true := by unfold largeT; simp [h3]
    rw [e]
    refine Sp.of_bodyE Tryd.func25 rfl ?_
    intro Q hQ
    simp only [List.replicate, List.length_cons, List.length_nil, Tryd.ntmps25, Nat.reduceAdd, Nat.reduceSub, List.cons_append, List.nil_append, go_sem]
    have hz : True := trivial
    have hy := yieldedV_eq
    have hL := True.intro
    repeat' (first | (refine WPV.seqK ?_; intro N hN) | (refine And.intro (hO _ (by kernel_rfl)) ?_; clear hO) | refine gA ?_ | (refine gR (M := noM) ?_; intro N hN ops hy) | (refine gDG (M := noM) ?_; intro N hN ops hy hO) | (refine WPV.condK ?_; intro A hA B hB) | (refine here ?_; refine sS ?_) | refine Both.mk ?_ ?_ | (refine hN _ ?_; try clear hN N; try clear hy ops) | (refine hA ?_; clear hA A hB B; try simp only [hz]) | (refine hB ?_; clear hA A hB B; try simp only [hz]) | (refine gG ?_ ?_ <;> (intro hz; have h := nm hz; try (exfalso; omega)) <;> (have hz := nz hz; try subst hz)) | (rw [if_pos (show _ ∧ _ from ⟨by omega, by omega⟩)]; refine sS ?_) | refine gT ?_ | (clear hN N))
    all_goals (first | exact retZ hQ Tryd.results25 (Desc.re [] rfl) | exact retZN hQ Tryd.results25 (Desc.re [] rfl))
  have e : largeT l = l.any Tx.big := by unfold largeT; simp [h3]
  rw [e]
  refine Sp.of_bodyE Tryd.func25 rfl ?_
  intro Q hQ
  simp only [List.replicate, List.length_cons, List.length_nil, Tryd.ntmps25, Nat.reduceAdd, Nat.reduceSub, List.cons_append, List.nil_append, go_sem]
  have hz : True := trivial
  have hy := yieldedV_eq
  have hL := True.intro
  repeat' (first | (refine WPV.seqK ?_; intro N hN) | (refine And.intro (hO _ (by kernel_rfl)) ?_; clear hO) | refine gA ?_ | (refine gR (M := noM) ?_; intro N hN ops hy) | (refine gDG (M := noM) ?_; intro N hN ops hy hO) | (refine WPV.condK ?_; intro A hA B hB) | (refine here ?_; refine sS ?_) | refine Both.mk ?_ ?_ | (refine hN _ ?_; try clear hN N; try clear hy ops) | (refine hA ?_; clear hA A hB B; try simp only [hz]) | (refine hB ?_; clear hA A hB B; try simp only [hz]) | (refine gG ?_ ?_ <;> (intro hz; have h := nm hz; try (exfalso; omega)) <;> (have hz := nz hz; try subst hz)) | (rw [if_pos (show _ ∧ _ from ⟨by omega, by omega⟩)]; refine sS ?_) | refine gT ?_ | (clear hN N))
  clear hget cb
  refine WPV.loopW (α := Nat) (fun k => l.length - k) (fun k => ⟨[.any, .any, .any, .any, .any, .any, .any, .any, .sl 6 (txs l), .sc (.int .i64 (l.length : Int)), .sc (.int .i64 ((k : Nat) : Int)), .any, .any, .any, .any, .any, .any], []⟩) (fun k => k ≤ l.length ∧ l.any Tx.big = (l.drop k).any Tx.big) 0 Desc.weakA ⟨Nat.zero_le _, rfl⟩ (fun k hJ H => ?_)
  obtain ⟨j1, j2⟩ := hJ
  by_cases h : k < l.length
  · obtain ⟨t, hg0⟩ : ∃ t, l[k] = t := ⟨_, rfl⟩
    have hget : l[k]? = some t := by rw [← hg0]; exact List.getElem?_eq_getElem h
    have cb := tbig_s (K := K) t
    rw [List.drop_eq_getElem_cons h, hg0, List.any_cons] at j2
    obtain ⟨o, s, ⟨x, y, z⟩, w⟩ := t
    dsimp only [txV] at cb
    cases hb : Tx.big ⟨o, s, ⟨x, y, z⟩, w⟩ with
    | true =>
      rw [hb, Bool.true_or] at j2
      rw [hb] at cb
      rw [j2] at hQ
      clear H hg0 j2 hb
      refine loopV ?_
      have hz : True := trivial
      have hy := yieldedV_eq
      have hL := @hget
      repeat' (first | (refine WPV.seqK ?_; intro N hN) | (refine And.intro (hO _ (by kernel_rfl)) ?_; clear hO) | refine gA ?_ | (refine gR (M := noM) ?_; intro N hN ops hy) | (refine gDG (M := noM) ?_; intro N hN ops hy hO) | (refine WPV.condK ?_; intro A hA B hB) | (refine here ?_; refine sS ?_) | refine Both.mk ?_ ?_ | ((with_reducible refine CallO.gd 30 ?_); refine CallO.frB [] Tryd.call30 (cb) ?_) | (refine hN _ ?_; try clear hN N; try clear hy ops) | (refine hA ?_; clear hA A hB B; try simp only [hz]) | (refine hB ?_; clear hA A hB B; try simp only [hz]) | (refine gG ?_ ?_ <;> (intro hz; have h := nm hz; try (exfalso; omega)) <;> (have hz := nz hz; try subst hz)) | (rw [if_pos (show _ ∧ _ from ⟨by omega, by omega⟩)]; refine sS ?_) | refine gT ?_ | (clear hN N))
      all_goals (first | exact retZ hQ Tryd.results25 (Desc.re [] rfl) | exact retZN hQ Tryd.results25 (Desc.re [] rfl))
    | false =>
      rw [hb, Bool.false_or] at j2
      rw [hb] at cb
      have H' := H (k + 1) ⟨h, j2⟩ (by omega)
      clear H hg0 j2 hb
      refine loopV ?_
      have hz : True := trivial
      have hy := yieldedV_eq
      have hL := @hget
      repeat' (first | (refine WPV.seqK ?_; intro N hN) | (refine And.intro (hO _ (by kernel_rfl)) ?_; clear hO) | refine gA ?_ | (refine gR (M := noM) ?_; intro N hN ops hy) | (refine gDG (M := noM) ?_; intro N hN ops hy hO) | (refine WPV.condK ?_; intro A hA B hB) | (refine here ?_; refine sS ?_) | refine Both.mk ?_ ?_ | ((with_reducible refine CallO.gd 30 ?_); refine CallO.frB [] Tryd.call30 (cb) ?_) | (refine hN _ ?_; try clear hN N; try clear hy ops) | (refine hA ?_; clear hA A hB B; try simp only [hz]) | (refine hB ?_; clear hA A hB B; try simp only [hz]) | (refine gG ?_ ?_ <;> (intro hz; have h := nm hz; try (exfalso; omega)) <;> (have hz := nz hz; try subst hz)) | (rw [if_pos (show _ ∧ _ from ⟨by omega, by omega⟩)]; refine sS ?_) | refine gT ?_ | (clear hN N))
      all_goals (exact rndZ (Desc.re [] rfl) (H'))
  · obtain rfl : k = l.length := by omega
    rw [List.drop_length] at j2
    have e : l.any Tx.big = false := j2
    rw [e] at hQ
    clear H j2 e
    refine loopV ?_
    have hz : True := trivial
    have hy := yieldedV_eq
    have hL := True.intro
    repeat' (first | (refine WPV.seqK ?_; intro N hN) | (refine And.intro (hO _ (by kernel_rfl)) ?_; clear hO) | refine gA ?_ | (refine gR (M := noM) ?_; intro N hN ops hy) | (refine gDG (M := noM) ?_; intro N hN ops hy hO) | (refine WPV.condK ?_; intro A hA B hB) | (refine here ?_; refine sS ?_) | refine Both.mk ?_ ?_ | (refine hN _ ?_; try clear hN N; try clear hy ops) | (refine hA ?_; clear hA A hB B; try simp only [hz]) | (refine hB ?_; clear hA A hB B; try simp only [hz]) | (refine gG ?_ ?_ <;> (intro hz; have h := nm hz; try (exfalso; omega)) <;> (have hz := nz hz; try subst hz)) | (rw [if_pos (show _ ∧ _ from ⟨by omega, by omega⟩)]; refine sS ?_) | refine gT ?_ | (clear hN N))
    all_goals (first | exact retZ hQ Tryd.results25 (Desc.re [] rfl) | exact retZN hQ Tryd.results25 (Desc.re [] rfl))
set_option maxRecDepth 100000 in
set_option maxHeartbeats 1000000 in
theorem rtxns_t (l : List Tx) (hl : l.length ≤ 1000000) (hw : ∀ t ∈ l, t.w.length ≤ 1000000) : Sp Tryd.prog K 29 [.sl 6 (txs l), .sl 6 (txs l)] [] fun u hh => u = .sc (.bool true) ∧ hh = [] := by
  refine Sp.of_bodyE Tryd.func29 rfl ?_
  intro Q hQ
  simp only [List.replicate, List.length_cons, List.length_nil, Tryd.ntmps29, Nat.reduceAdd, Nat.reduceSub, List.cons_append, List.nil_append, go_sem]
  have hz : True := trivial
  have hy := yieldedV_eq
  have hL := True.intro
  repeat' (first | (refine WPV.seqK ?_; intro N hN) | (refine And.intro (hO _ (by kernel_rfl)) ?_; clear hO) | refine gA ?_ | (refine gR (M := noM) ?_; intro N hN ops hy) | (refine gDG (M := noM) ?_; intro N hN ops hy hO) | (refine WPV.condK ?_; intro A hA B hB) | (refine here ?_; refine sS ?_) | refine Both.mk ?_ ?_ | (refine hN _ ?_; try clear hN N; try clear hy ops) | (refine hA ?_; clear hA A hB B; try simp only [hz]) | (refine hB ?_; clear hA A hB B; try simp only [hz]) | (refine gG ?_ ?_ <;> (intro hz; have h := nm hz; try (exfalso; omega)) <;> (have hz := nz hz; try subst hz)) | (rw [if_pos (show _ ∧ _ from ⟨by omega, by omega⟩)]; refine sS ?_) | refine gT ?_ | (clear hN N))
  refine WPV.loopW (α := Nat) (fun k => l.length - k) (fun k => ⟨[.sl 6 (txs l), .sl 6 (txs l), .any, .any, .any, .sc (.int .i64 ((k : Nat) : Int)), .any, .any, .any, .any, .any, .any, .any, .any, .any, .any, .any, .any, .any, .any, .any, .any, .any, .any, .any, .any, .any], []⟩) (fun k => k ≤ l.length) 0 Desc.weakA (Nat.zero_le _) (fun k hJ H => ?_)
  by_cases h : k < l.length
  · obtain ⟨t, hg0⟩ : ∃ t, l[k] = t := ⟨_, rfl⟩
    have hget : l[k]? = some t := by rw [← hg0]; exact List.getElem?_eq_getElem h
    have cs := rsame_t (K := K) t (hw t (hg0 ▸ List.getElem_mem h))
    have H' := H (k + 1) h (by omega)
    clear H hg0
    obtain ⟨o, s, ⟨x, y, z⟩, w⟩ := t
    dsimp only [txV] at cs
    refine loopV ?_
    have hz : True := trivial
    have hy := yieldedV_eq
    have hL := @hget
    repeat' (first | (refine WPV.seqK ?_; intro N hN) | (refine And.intro (hO _ (by kernel_rfl)) ?_; clear hO) | refine gA ?_ | (refine gR (M := noM) ?_; intro N hN ops hy) | (refine gDG (M := noM) ?_; intro N hN ops hy hO) | (refine WPV.condK ?_; intro A hA B hB) | (refine here ?_; refine sS ?_) | refine Both.mk ?_ ?_ | ((with_reducible refine CallO.gd 71 ?_); refine CallO.frB [] Tryd.call71 (cs) ?_) | ((with_reducible refine CallP.gd 71 ?_); refine CallP.frB [] 0 Tryd.call71 (cs) ?_) | (refine hN _ ?_; try clear hN N; try clear hy ops) | (refine hA ?_; clear hA A hB B; try simp only [hz]) | (refine hB ?_; clear hA A hB B; try simp only [hz]) | (refine gG ?_ ?_ <;> (intro hz; have h := nm hz; try (exfalso; omega)) <;> (have hz := nz hz; try subst hz)) | (rw [if_pos (show _ ∧ _ from ⟨by omega, by omega⟩)]; refine sS ?_) | refine gT ?_ | (clear hN N))
    all_goals (exact rndZ (Desc.re [] rfl) (H'))
  · clear H
    refine loopV ?_
    have hz : True := trivial
    have hy := yieldedV_eq
    have hL := True.intro
    repeat' (first | (refine WPV.seqK ?_; intro N hN) | (refine And.intro (hO _ (by kernel_rfl)) ?_; clear hO) | refine gA ?_ | (refine gR (M := noM) ?_; intro N hN ops hy) | (refine gDG (M := noM) ?_; intro N hN ops hy hO) | (refine WPV.condK ?_; intro A hA B hB) | (refine here ?_; refine sS ?_) | refine Both.mk ?_ ?_ | (refine hN _ ?_; try clear hN N; try clear hy ops) | (refine hA ?_; clear hA A hB B; try simp only [hz]) | (refine hB ?_; clear hA A hB B; try simp only [hz]) | (refine gG ?_ ?_ <;> (intro hz; have h := nm hz; try (exfalso; omega)) <;> (have hz := nz hz; try subst hz)) | (rw [if_pos (show _ ∧ _ from ⟨by omega, by omega⟩)]; refine sS ?_) | refine gT ?_ | (clear hN N))
    all_goals (first | exact retZ hQ Tryd.results29 (Desc.re [] rfl) | exact retZN hQ Tryd.results29 (Desc.re [] rfl))
end Go.Proofs.YtgfnpcmehnjopaaDoor
end
section
namespace Go.Proofs.YtgfnpcmehnjopaaDoor
open Go Go.RowKit
set_option linter.unusedVariables false
set_option linter.unusedSimpArgs false
variable {K : Nat → Obj → Prop}
set_option maxRecDepth 100000 in
set_option maxHeartbeats 1000000 in
theorem snewO_ok (hK : KT K) (h : Shd) (hc : segChk h = 0) {f : List UInt8} (hw : wrapF (headB h) = (f, 0)) : Sp Tryd.prog K 26 [shdV h] [] fun u hh => u = .tup [.ptr 0 0, .own 1 (bs f) 5, .sc (.int .i64 0)] ∧ hh = (Wtr.new h).inn ++ [.tail] := by
  have cc := fun hp => segchk_s (K := K) h hp
  rw [hc] at cc
  obtain ⟨h1, h2, h3⟩ := segChk_ok hc
  have hl := headB_len hc
  have cw := wrapO_s hK (headB h) (by omega)
  rw [hw] at cw
  obtain ⟨o, p, q⟩ := h
  dsimp only [headB] at h1 h2 h3 cw
  have ca := fun hp => vall3_s (K := K) (a := o) (b := p) (c := q) (by omega) (by omega) (by omega) hp
  generalize vput o.toNat ++ vput p.toNat ++ vput q.toNat = hb at *
  refine Sp.of_bodyE Tryd.func26 rfl ?_
  intro Q hQ
  simp only [List.replicate, List.length_cons, List.length_nil, Tryd.ntmps26, Nat.reduceAdd, Nat.reduceSub, List.cons_append, List.nil_append, go_sem]
  have hz : True := trivial
  have hy := yieldedV_eq
  have hL := True.intro
  repeat' (first | (refine WPV.seqK ?_; intro N hN) | (refine And.intro (hO _ (by kernel_rfl)) ?_; clear hO) | refine gA ?_ | (refine gR (M := noM) ?_; intro N hN ops hy) | (refine gDG (M := noM) ?_; intro N hN ops hy hO) | (refine WPV.condK ?_; intro A hA B hB) | (refine here ?_; refine sS ?_) | refine Both.mk ?_ ?_ | ((with_reducible refine CallO.gd 63 ?_); refine CallO.toB Tryd.call63 (cc _) ?_) | ((with_reducible refine CallO.gd 64 ?_); refine CallO.toB Tryd.call64 (ca _) ?_) | ((with_reducible refine CallO.gd 23 ?_); refine CallO.frB [] Tryd.call23 (cw) ?_) | ((with_reducible refine CallO.gd 65 ?_); refine CallO.frB [] Tryd.call65 (cnew_s) ?_) | ((with_reducible refine CallP.gd 63 ?_); refine CallP.toB Tryd.call63 (cc _) ?_) | ((with_reducible refine CallP.gd 64 ?_); refine CallP.toB Tryd.call64 (ca _) ?_) | ((with_reducible refine CallP.gd 65 ?_); refine CallP.frB [] 4 Tryd.call65 (cnew_s) ?_) | (refine hN _ ?_; try clear hN N; try clear hy ops) | (refine hA ?_; clear hA A hB B; try simp only [hz]) | (refine hB ?_; clear hA A hB B; try simp only [hz]) | (refine gG ?_ ?_ <;> (intro hz; have h := nm hz; try (exfalso; omega)) <;> (have hz := nz hz; try subst hz)) | (rw [if_pos (show _ ∧ _ from ⟨by omega, by omega⟩)]; refine sS ?_) | refine gT ?_ | (clear hN N))
  all_goals (try unfold Wtr.new Cod.new at hQ)
  all_goals (first | exact retZ hQ Tryd.results26 (Desc.re [some 6, some 2, some 3, some 4, some 5, some 1] rfl) | exact retZN hQ Tryd.results26 (Desc.re [some 6, some 2, some 3, some 4, some 5, some 1] rfl))
def endsF (h : Nat) (fs : List (List UInt8)) : List Int := (List.range (fs.length + 1)).map fun m => ((h + (fs.take m).flatten.length : Nat) : Int)
def nl (l : List Int) : List (List D) := l.map fun n => [.sc (.int .i64 n)]
theorem nl_len (l : List Int) : (nl l).length = l.length := by simp [nl]
theorem nl_get (l : List Int) (i : Nat) : (nl l)[i]? = (l[i]?).map fun n => [.sc (.int .i64 n)] := by simp [nl]
theorem nl_snoc (l : List Int) (n : Int) : nl l ++ [[.sc (.int .i64 n)]] = nl (l ++ [n]) := by simp [nl]
theorem txs_take (l : List Tx) (n : Nat) : (txs l).take n = txs (l.take n) := by simp [txs]
theorem txs_snoc (l : List Tx) (t : Tx) : txs l ++ [[.sc (.int .i64 t.o), .sc (.int .i64 t.s), .sc (.int .i64 t.c.x), .sc (.int .i64 t.c.y), .sc (.int .i64 t.c.z), .sl 3 (wrl t.w)]] = txs (l ++ [t]) := by simp [txs, Tx.d]
attribute [go_sem] nl_len nl_get nl_snoc txs_take
theorem ends_len (h : Nat) (fs : List (List UInt8)) : (endsF h fs).length = fs.length + 1 := by simp [endsF]
theorem ends_get (h : Nat) (fs : List (List UInt8)) {m : Nat} (hm : m ≤ fs.length) : (endsF h fs)[m]? = some ((h + (fs.take m).flatten.length : Nat) : Int) := by
  unfold endsF
  rw [List.getElem?_map, List.getElem?_range (by omega)]; rfl
theorem ends_snoc (h : Nat) (fs : List (List UInt8)) (f : List UInt8) : endsF h (fs ++ [f]) = endsF h fs ++ [((h + fs.flatten.length + f.length : Nat) : Int)] := by
  unfold endsF
  rw [List.length_append, List.length_singleton, List.range_succ, List.map_append]
  congr 1
  · refine List.map_congr_left fun m hm => ?_
    have := List.mem_range.1 hm
    rw [List.take_append_of_le_length (by omega)]
  · simp only [List.map_cons, List.map_nil, List.cons.injEq, and_true]
    rw [List.take_of_length_le (by rw [List.length_append]; exact Nat.le_refl _), List.flatten_append, List.length_append, List.flatten_singleton, Nat.add_assoc]
structure BJ (h : Shd) (l : List Tx) (hd : List UInt8) (k : Nat) (w : Wtr) (ts : List Tx) (fs : List (List UInt8)) : Prop where
  hk : k ≤ l.length
  laid : Laid h ts fs w
  len : ts.length ≤ k
set_option maxRecDepth 100000 in
set_option maxHeartbeats 8000000 in
theorem segback_s (hK : KT K) (aw : Sp Tryd.prog K 24 [] [] fun u hh => u = .sc (.bool true) ∧ hh = []) (h : Shd) (l : List Tx) (cut : Nat) (hcut : cut < 65536) (hl : l.length ≤ 9223372036854775807) : Sp Tryd.prog K 6 [shdV h, .sl 6 (txs l), .sc (.int .u16 (cut : Int))] [] fun u hh => u = .sc (.bool true) ∧ hh = [] := by
  have cl := large7_s (K := K) l hl
  by_cases hg : largeT l = true
  · rw [hg] at cl
    have cn := True.intro
    obtain ⟨o, p, f⟩ := h
    refine Sp.of_bodyE Tryd.func6 rfl ?_
    intro Q hQ
    simp only [List.replicate, List.length_cons, List.length_nil, Tryd.ntmps6, Nat.reduceAdd, Nat.reduceSub, List.cons_append, List.nil_append, go_sem]
    have hz : True := trivial
    have hy := yieldedV_eq
    have hL := True.intro
    repeat' (first | (refine WPV.seqK ?_; intro N hN) | (refine And.intro (hO _ (by kernel_rfl)) ?_; clear hO) | refine gA ?_ | (refine gR (M := noM) ?_; intro N hN ops hy) | (refine gDG (M := noM) ?_; intro N hN ops hy hO) | (refine WPV.condK ?_; intro A hA B hB) | (refine here ?_; refine sS ?_) | refine Both.mk ?_ ?_ | ((with_reducible refine CallO.gd 24 ?_); refine CallO.frB [] Tryd.call24 (aw) ?_) | ((with_reducible refine CallO.gd 25 ?_); refine CallO.frB [] Tryd.call25 (cl) ?_) | ((with_reducible refine CallO.gd 26 ?_); refine CallO.frB [] Tryd.call26 (cn) ?_) | (refine hN _ ?_; try clear hN N; try clear hy ops) | (refine hA ?_; clear hA A hB B; try simp only [hz]) | (refine hB ?_; clear hA A hB B; try simp only [hz]) | (refine gG ?_ ?_ <;> (intro hz; have h := nm hz; try (exfalso; omega)) <;> (have hz := nz hz; try subst hz)) | (rw [if_pos (show _ ∧ _ from ⟨by omega, by omega⟩)]; refine sS ?_) | refine gT ?_ | (clear hN N))
    all_goals (first | exact retZ hQ Tryd.results6 (Desc.re [] rfl) | exact retZN hQ Tryd.results6 (Desc.re [] rfl))
  have hg : largeT l = false := by simpa using hg
  rw [hg] at cl
  obtain ⟨l30, l40⟩ := largeT_ok hg
  by_cases hc : segChk h ≠ 0
  · have cn := snew_no (K := K) h hc []
    generalize segChk h = e at *
    obtain ⟨o, p, f⟩ := h
    have heq : (e == 0) = false := by simpa using hc
    refine Sp.of_bodyE Tryd.func6 rfl ?_
    intro Q hQ
    simp only [List.replicate, List.length_cons, List.length_nil, Tryd.ntmps6, Nat.reduceAdd, Nat.reduceSub, List.cons_append, List.nil_append, go_sem]
    have hz : True := trivial
    have hy := yieldedV_eq
    have hL := True.intro
    repeat' (first | (refine WPV.seqK ?_; intro N hN) | (refine And.intro (hO _ (by kernel_rfl)) ?_; clear hO) | refine gA ?_ | (refine gR (M := noM) ?_; intro N hN ops hy) | (refine gDG (M := noM) ?_; intro N hN ops hy hO) | (refine WPV.condK ?_; intro A hA B hB) | (refine here ?_; refine sS ?_) | refine Both.mk ?_ ?_ | ((with_reducible refine CallO.gd 24 ?_); refine CallO.frB [] Tryd.call24 (aw) ?_) | ((with_reducible refine CallO.gd 25 ?_); refine CallO.frB [] Tryd.call25 (cl) ?_) | ((with_reducible refine CallO.gd 26 ?_); refine CallO.frB [] Tryd.call26 (cn) ?_) | (refine hN _ ?_; try clear hN N; try clear hy ops) | (refine hA ?_; clear hA A hB B; try simp only [hz]) | (refine hB ?_; clear hA A hB B; try simp only [hz]) | (refine gG ?_ ?_ <;> (intro hz; have h := nm hz; try (exfalso; omega)) <;> (have hz := nz hz; try subst hz)) | (rw [if_pos (show _ ∧ _ from ⟨by omega, by omega⟩)]; refine sS ?_) | refine gT ?_ | (clear hN N))
    have hL := @heq
    all_goals (first | exact retZ hQ Tryd.results6 (Desc.re [] rfl) | exact retZN hQ Tryd.results6 (Desc.re [] rfl))
  have hc := Decidable.not_not.1 hc
  have hb := headB_len hc
  have hwr := wrapF_small (p := headB h) (by omega)
  obtain ⟨hd, hdd⟩ : ∃ hd, sealF (vput (headB h).length ++ headB h) = hd := ⟨_, rfl⟩
  rw [hdd] at hwr
  have hdl := (wrapF_len (headB h))
  rw [hwr] at hdl
  dsimp only at hdl
  have cn := snewO_ok hK h hc hwr
  have L0 : Laid h [] [] (Wtr.new h) := .nil
  have L1 : ∀ {m part : Nat} {ts : List Tx} {fs : List (List UInt8)} {w : Wtr} (H : Laid h ts fs w) (hm : m ≤ fs.length) (h1 : hd.length + (fs.take m).flatten.length ≤ part) (h2 : ∀ f, fs[m]? = some f → part < hd.length + (fs.take m).flatten.length + f.length) (h3 : part ≤ hd.length + fs.flatten.length),
    ∃ e, segRead ((hd ++ fs.flatten).take part) = (h, ts.take m, hd.length + (fs.take m).flatten.length, e) ∧ (e = 0 ↔ hd.length + (fs.take m).flatten.length = part) ∧ (e = 0 ∨ e = 2) := fun H hm h1 h2 h3 => H.cut hc hwr hm h1 h2 h3
  have L2 : ∀ {part : Nat} (fs : List (List UInt8)), part < hd.length → segRead ((hd ++ fs.flatten).take part) = (.z, [], 0, 2) := fun fs hp => by
    rw [List.take_append_of_le_length (by omega)]
    unfold segRead
    rw [nextF_short hwr hp]
    rfl
  have e0 : Wtr.new h = ⟨h.o, h.f, Cod.new⟩ := rfl
  rw [e0] at cn L0
  obtain ⟨o, p, f⟩ := h
  dsimp only [List.append] at cn L0
  clear hdd hwr hb hc e0
  refine Sp.of_bodyE Tryd.func6 rfl ?_
  intro Q hQ
  simp only [List.replicate, List.length_cons, List.length_nil, Tryd.ntmps6, Nat.reduceAdd, Nat.reduceSub, List.cons_append, List.nil_append, go_sem]
  have hz : True := trivial
  have hy := yieldedV_eq
  have hL := True.intro
  repeat' (first | (refine WPV.seqK ?_; intro N hN) | (refine And.intro (hO _ (by kernel_rfl)) ?_; clear hO) | refine gA ?_ | (refine gR (M := noM) ?_; intro N hN ops hy) | (refine gDG (M := noM) ?_; intro N hN ops hy hO) | (refine WPV.condK ?_; intro A hA B hB) | (refine here ?_; refine sS ?_) | refine Both.mk ?_ ?_ | ((with_reducible refine CallO.gd 24 ?_); refine CallO.frB [] Tryd.call24 (aw) ?_) | ((with_reducible refine CallO.gd 25 ?_); refine CallO.frB [] Tryd.call25 (cl) ?_) | ((with_reducible refine CallO.gd 26 ?_); refine CallO.frB [] Tryd.call26 (cn) ?_) | (refine hN _ ?_; try clear hN N; try clear hy ops) | (refine hA ?_; clear hA A hB B; try simp only [hz]) | (refine hB ?_; clear hA A hB B; try simp only [hz]) | (refine gG ?_ ?_ <;> (intro hz; have h := nm hz; try (exfalso; omega)) <;> (have hz := nz hz; try subst hz)) | (rw [if_pos (show _ ∧ _ from ⟨by omega, by omega⟩)]; refine sS ?_) | refine gT ?_ | (clear hN N))
  clear cn cl aw
  refine WPV.loopW (α := Nat × Wtr × List Tx × List (List UInt8)) (fun q => l.length - q.1) (fun q => ⟨[.any, .any, .sc (.int .u16 (cut : Int)), .ptr 0 0, .any, .any, .any, .ptr 1 0, .own 1 (bs (hd ++ q.2.2.2.flatten)) 6, .any, .own 6 (txs q.2.2.1) 7, .own 1 (nl (endsF hd.length q.2.2.2)) 8, .any, .any, .any, .any, .any, .any, .any, .any, .any, .any, .any, .any, .any, .any, .any, .any, .any, .any, .any, .any, .any, .any, .any, .any, .any, .any, .any, .any, .any, .any, .any, .any, .any, .any, .any, .sl 6 (txs l), .sc (.int .i64 (l.length : Int)), .sc (.int .i64 ((q.1 : Nat) : Int)), .any, .any, .any, .any, .any, .any, .any, .any, .any, .any, .any, .any, .any, .any, .any, .any, .any, .any, .any, .any, .any, .any, .any, .any, .any, .any, .any, .any, .any, .any, .any, .any, .any, .any, .any, .any, .any, .any, .any, .any, .any, .any, .any, .any, .any, .any, .any, .any, .any, .any, .any, .any, .any, .any, .any, .any, .any, .any, .any, .any, .any, .any, .any, .any, .any, .any, .any, .any, .any, .any, .any, .any, .any, .any, .any, .any, .any, .any, .any, .any, .any, .any, .any, .any, .any, .any, .any, .any, .any, .any, .any, .any, .any, .any, .any, .any, .any, .any, .any, .any, .any, .any, .any, .any, .any, .any, .any], [.cells [.sc (.int .i64 o), .sc (.int .i64 p), .sc (.int .i64 f)], .cells [.sc (.int .i64 q.2.1.o), .sc (.int .i64 q.2.1.n), .ptr 2 0], .cells [.ptr 3 0, .sc (.int .i64 q.2.1.c.c.x), .sc (.int .i64 q.2.1.c.c.y), .sc (.int .i64 q.2.1.c.c.z)], .cells [.hs true 1 4 0 q.2.1.c.d.ks.length, .mp 5, .sc (.int .i64 (q.2.1.c.d.e : Int))], .cells (kc q.2.1.c.d.ks), .map (pm q.2.1.c.d.c q.2.1.c.d.l), .tail, .tail, .tail]⟩) (fun q => BJ ⟨o, p, f⟩ l hd q.1 q.2.1 q.2.2.1 q.2.2.2) (0, ⟨o, f, Cod.new⟩, [], []) (((Desc.own0 (es := []) 10 6 rfl (.inl rfl)).trans (Desc.own0 (es := [[.sc (.int .i64 (hd.length : Int))]]) 11 1 rfl (.inl rfl))).trans Desc.weakA) ⟨Nat.zero_le _, L0, Nat.le_refl _⟩ (fun q hJ H => ?_)
  obtain ⟨k, w, ts, fs⟩ := q
  obtain ⟨j1, jL, j3⟩ := hJ
  dsimp only at j1 jL j3 H ⊢
  have inv := jL.inv
  obtain ⟨i1, i2, ok, hr, i5, i6, i7⟩ := inv
  by_cases h : k < l.length
  · obtain ⟨t, hg0⟩ : ∃ t, l[k] = t := ⟨_, rfl⟩
    have hget : l[k]? = some t := by rw [← hg0]; exact List.getElem?_eq_getElem h
    have hwt := l40 t (hg0 ▸ List.getElem_mem h)
    have hel := ends_len hd.length fs
    rcases Wtr.put_two ok hr t with ⟨e, he, p1⟩ | ⟨hc, hto, hts, pp, fr, x', p1, p2, p3, p4, p5, p6, p7, p8⟩
    · have cp := sput_e hK p1 ok hr (by omega)
      have H' := H (k + 1, w, ts, fs) ⟨h, jL, by dsimp only; omega⟩ (by dsimp only; omega)
      clear H hg0 L1 L2 jL
      dsimp only at H'
      obtain ⟨wo, wn, ⟨⟨x, y, z⟩, d⟩⟩ := w
      obtain ⟨to, tsq, ⟨c1, c2, c3⟩, tw⟩ := t
      dsimp only [txV] at cp
      refine loopV ?_
      have hz : True := trivial
      have hy := yieldedV_eq
      have hL := @hget
      repeat' (first | (refine WPV.seqK ?_; intro N hN) | (refine And.intro (hO _ (by kernel_rfl)) ?_; clear hO) | refine gA ?_ | (refine gR (M := noM) ?_; intro N hN ops hy) | (refine gDG (M := noM) ?_; intro N hN ops hy hO) | (refine WPV.condK ?_; intro A hA B hB) | (refine here ?_; refine sS ?_) | refine Both.mk ?_ ?_ | ((with_reducible refine CallO.gd 27 ?_); refine CallO.frB [1, 2, 3, 4, 5] Tryd.call27 (cp) ?_) | (refine hN _ ?_; try clear hN N; try clear hy ops) | (refine hA ?_; clear hA A hB B; try simp only [hz]) | (refine hB ?_; clear hA A hB B; try simp only [hz]) | (refine gG ?_ ?_ <;> (intro hz; have h := nm hz; try (exfalso; omega)) <;> (have hz := nz hz; try subst hz)) | (rw [if_pos (show _ ∧ _ from ⟨by omega, by omega⟩)]; refine sS ?_) | refine gT ?_ | (clear hN N))
      all_goals (exact rndZ (Desc.re [some 0, some 1, some 2, some 3, some 10, some 11, some 6, some 7, some 8] rfl) (H'))
    · have cp := sput_e hK p3 ok hr (by omega)
      have H' := H (k + 1, _, ts ++ [t], fs ++ [fr]) ⟨h, .snoc jL p3, by dsimp only; rw [List.length_append]; dsimp only [List.length]; omega⟩ (by dsimp only; omega)
      dsimp only at H'
      rw [ends_snoc, List.flatten_append, List.flatten_singleton, ← List.append_assoc, ← txs_snoc] at H'
      have hbl : (hd ++ fs.flatten).length ≤ 300000 := by rw [List.length_append]; omega
      have hle : ((hd.length + fs.flatten.length + fr.length : Nat) : Int) = (((hd ++ fs.flatten).length + fr.length : Nat) : Int) := by simp only [List.length_append]
      rw [hle] at H'
      clear H hg0 L1 L2 jL hle p1 p2 p3 p8
      generalize hd ++ fs.flatten = B at *
      generalize endsF hd.length fs = E at *
      obtain ⟨wo, wn, ⟨⟨x, y, z⟩, d⟩⟩ := w
      obtain ⟨⟨x2, y2, z2⟩, d2⟩ := x'
      obtain ⟨to, tsq, ⟨c1, c2, c3⟩, tw⟩ := t
      dsimp only [txV] at cp H'
      refine loopV ?_
      have hz : True := trivial
      have hy := yieldedV_eq
      have hL := @hget
      repeat' (first | (refine WPV.seqK ?_; intro N hN) | (refine And.intro (hO _ (by kernel_rfl)) ?_; clear hO) | refine gA ?_ | (refine gR (M := noM) ?_; intro N hN ops hy) | (refine gDG (M := noM) ?_; intro N hN ops hy hO) | (refine WPV.condK ?_; intro A hA B hB) | (refine here ?_; refine sS ?_) | refine Both.mk ?_ ?_ | ((with_reducible refine CallO.gd 27 ?_); refine CallO.frB [1, 2, 3, 4, 5] Tryd.call27 (cp) ?_) | (refine hN _ ?_; try clear hN N; try clear hy ops) | (refine hA ?_; clear hA A hB B; try simp only [hz]) | (refine hB ?_; clear hA A hB B; try simp only [hz]) | (refine gG ?_ ?_ <;> (intro hz; have h := nm hz; try (exfalso; omega)) <;> (have hz := nz hz; try subst hz)) | (rw [if_pos (show _ ∧ _ from ⟨by omega, by omega⟩)]; refine sS ?_) | refine gT ?_ | (clear hN N))
      all_goals (exact rndZ (Desc.re [some 0, some 1, some 2, some 3, some 10, some 11, some 12, some 13, some 14] rfl) (H'))
  obtain rfl : k = l.length := by omega
  clear H
  have hfl := jL.inv.fl
  have hBl : (hd ++ fs.flatten).length = hd.length + fs.flatten.length := List.length_append
  have hget := fun m hm => ends_get hd.length fs (m := m) hm
  have hel := ends_len hd.length fs
  have L1 := fun {m part : Nat} => L1 (m := m) (part := part) jL
  have L2 := fun {part : Nat} => L2 (part := part) fs
  generalize hd ++ fs.flatten = B at *
  have hmod : Int.tmod (cut : Int) ((B.length : Int) + 1) = ((cut % (B.length + 1) : Nat) : Int) := by
    show Int.tmod (cut : Int) ((B.length + 1 : Nat) : Int) = _; rfl
  have hple : cut % (B.length + 1) ≤ B.length := Nat.le_of_lt_succ (Nat.mod_lt _ (Nat.succ_pos _))
  generalize cut % (B.length + 1) = part at *
  generalize endsF hd.length fs = E at *
  refine loopV ?_
  have hz : True := trivial
  have hy := yieldedV_eq
  have hL := @hmod
  repeat' (first | (refine WPV.seqK ?_; intro N hN) | (refine And.intro (hO _ (by kernel_rfl)) ?_; clear hO) | refine gA ?_ | (refine gR (M := noM) ?_; intro N hN ops hy) | (refine gDG (M := noM) ?_; intro N hN ops hy hO) | (refine WPV.condK ?_; intro A hA B hB) | (refine here ?_; refine sS ?_) | refine Both.mk ?_ ?_ | (refine hN _ ?_; try clear hN N; try clear hy ops) | (refine hA ?_; clear hA A hB B; try simp only [hz]) | (refine hB ?_; clear hA A hB B; try simp only [hz]) | (refine gG ?_ ?_ <;> (intro hz; have h := nm hz; try (exfalso; omega)) <;> (have hz := nz hz; try subst hz)) | (rw [if_pos (show _ ∧ _ from ⟨by omega, by omega⟩)]; refine sS ?_) | refine gT ?_ | (clear hN N))
  refine WPV.loopW (α := Nat) (fun m => fs.length + 1 - m) (fun m => ⟨[.any, .any, .any, .ptr 0 0, .any, .any, .any, .any, .sl 1 (bs B), .any, .sl 6 (txs ts), .sl 1 (nl E), .any, .any, .any, .any, .sc (.int .i64 (part : Int)), .sc (.int .i64 ((m : Int) - 1)), .any, .any, .any, .any, .any, .any, .any, .any, .any, .any, .any, .any, .any, .any, .any, .any, .any, .any, .any, .any, .any, .any, .any, .any, .any, .any, .any, .any, .any, .any, .any, .any, .any, .any, .any, .any, .any, .any, .any, .any, .any, .any, .any, .any, .any, .any, .any, .any, .any, .any, .any, .any, .any, .any, .any, .any, .any, .any, .any, .any, .any, .any, .any, .any, .any, .any, .any, .any, .any, .any, .any, .any, .any, .any, .any, .any, .any, .any, .any, .any, .any, .any, .any, .any, .any, .any, .any, .any, .any, .any, .any, .any, .any, .any, .any, .any, .any, .any, .any, .any, .any, .any, .any, .any, .any, .any, .any, .any, .any, .any, .any, .any, .any, .any, .any, .any, .any, .any, .any, .any, .any, .any, .any, .any, .any, .any, .any, .any, .any, .any, .any, .any, .any, .any, .any, .any, .any, .any, .any], [.cells [.sc (.int .i64 o), .sc (.int .i64 p), .sc (.int .i64 f)]]⟩) (fun m => m ≤ fs.length + 1 ∧ (1 ≤ m → hd.length + (fs.take (m - 1)).flatten.length ≤ part)) 0 ((Desc.re [some 0] rfl).trans Desc.weakA) ⟨Nat.zero_le _, fun h => by omega⟩ (fun m hJ H => ?_)
  obtain ⟨m1, m2⟩ := hJ
  clear hmod
  by_cases hm : m ≤ fs.length ∧ hd.length + (fs.take m).flatten.length ≤ part
  · have hg1 := hget m hm.1
    have H' := H (m + 1) ⟨by omega, fun _ => hm.2⟩ (by omega)
    clear H hget L1 L2
    have hk2 : ((m : Int) - 1 + 1).toNat = m := by omega
    refine loopV ?_
    have hz : True := trivial
    have hy := yieldedV_eq
    have hL := And.intro @hg1 (@hk2)
    repeat' (first | (refine WPV.seqK ?_; intro N hN) | (refine And.intro (hO _ (by kernel_rfl)) ?_; clear hO) | refine gA ?_ | (refine gR (M := noM) ?_; intro N hN ops hy) | (refine gDG (M := noM) ?_; intro N hN ops hy hO) | (refine WPV.condK ?_; intro A hA B hB) | (refine here ?_; refine sS ?_) | refine Both.mk ?_ ?_ | (refine hN _ ?_; try clear hN N; try clear hy ops) | (refine hA ?_; clear hA A hB B; try simp only [hz]) | (refine hB ?_; clear hA A hB B; try simp only [hz]) | (refine gG ?_ ?_ <;> (intro hz; have h := nm hz; try (exfalso; omega)) <;> (have hz := nz hz; try subst hz)) | (rw [if_pos (show _ ∧ _ from ⟨by omega, by omega⟩)]; refine sS ?_) | refine gT ?_ | (clear hN N))
    all_goals (exact rndZ (Desc.re [some 0] rfl) (H'))
  clear H
  by_cases hm0 : m = 0
  · subst hm0
    have h0 := hget 0 (Nat.zero_le _)
    simp only [List.take_zero, List.flatten_nil, List.length_nil, Nat.add_zero] at h0
    have hlt : part < hd.length := by
      apply Decidable.byContradiction; intro hc
      exact hm ⟨Nat.zero_le _, by simp only [List.take_zero, List.flatten_nil, List.length_nil, Nat.add_zero]; omega⟩
    have cr := Sp.lift (sread_s hK (B.take part) (by rw [List.length_take]; omega)) (fun _ => rfl) (fun _ => rfl) [.cells [.sc (.int .i64 o), .sc (.int .i64 p), .sc (.int .i64 f)]]
    rw [L2 hlt] at cr
    dsimp only [Shd.z] at cr
    clear hget L1 L2
    have hk2 : (((0 : Nat) : Int) - 1 + 1).toNat = 0 := by decide
    refine loopV ?_
    have hz : True := trivial
    have hy := yieldedV_eq
    have hL := And.intro @h0 (@hk2)
    repeat' (first | (refine WPV.seqK ?_; intro N hN) | (refine And.intro (hO _ (by kernel_rfl)) ?_; clear hO) | refine gA ?_ | (refine gR (M := noM) ?_; intro N hN ops hy) | (refine gDG (M := noM) ?_; intro N hN ops hy hO) | (refine WPV.condK ?_; intro A hA B hB) | (refine here ?_; refine sS ?_) | refine Both.mk ?_ ?_ | ((with_reducible refine CallO.gd 28 ?_); refine CallO.toB Tryd.call28 (cr) ?_) | ((with_reducible refine CallP.gd 28 ?_); refine CallP.toB Tryd.call28 (cr) ?_) | (refine hN _ ?_; try clear hN N; try clear hy ops) | (refine hA ?_; clear hA A hB B; try simp only [hz]) | (refine hB ?_; clear hA A hB B; try simp only [hz]) | (refine gG ?_ ?_ <;> (intro hz; have h := nm hz; try (exfalso; omega)) <;> (have hz := nz hz; try subst hz)) | (rw [if_pos (show _ ∧ _ from ⟨by omega, by omega⟩)]; refine sS ?_) | refine gT ?_ | (clear hN N))
    all_goals (first | exact retZ hQ Tryd.results6 (Desc.re [] rfl) | exact retZN hQ Tryd.results6 (Desc.re [] rfl))
  obtain ⟨m, rfl⟩ : ∃ m', m = m' + 1 := ⟨m - 1, by omega⟩
  have m2 := m2 (by omega)
  rw [Nat.add_sub_cancel] at m2
  have hmk : m ≤ fs.length := by omega
  have hlast : ∀ fr, fs[m]? = some fr → part < hd.length + (fs.take m).flatten.length + fr.length := fun fr hfr => by
    obtain ⟨hlt, e⟩ := List.getElem?_eq_some_iff.1 hfr
    apply Decidable.byContradiction; intro hc
    refine hm ⟨by omega, ?_⟩
    rw [List.take_succ_eq_append_getElem hlt, List.flatten_append, List.length_append, List.flatten_singleton, e]; omega
  obtain ⟨e, r1, r2, r3⟩ := L1 hmk m2 hlast (by omega)
  have cr := Sp.lift (sread_s hK (B.take part) (by rw [List.length_take]; omega)) (fun _ => rfl) (fun _ => rfl) [.cells [.sc (.int .i64 o), .sc (.int .i64 p), .sc (.int .i64 f)]]
  rw [r1] at cr
  have ct := Sp.lift (rtxns_t (K := K) (ts.take m) (by rw [List.length_take]; omega) (fun t ht => Nat.le_trans (i6 t (List.mem_of_mem_take ht)) (by decide))) (fun _ => rfl) (fun _ => rfl) [.cells [.sc (.int .i64 o), .sc (.int .i64 p), .sc (.int .i64 f)], .cells [.sc (.int .i64 o), .sc (.int .i64 p), .sc (.int .i64 f)]]
  have hgm := hget m hmk
  have hgm1 : ((m + 1 : Nat) : Int) < (E.length : Int) → E[m + 1]? = some ((hd.length + (fs.take (m + 1)).flatten.length : Nat) : Int) := fun h => hget (m + 1) (by omega)
  clear hget L1 L2 r1
  have hm : ¬ (m + 1 ≤ fs.length ∧ hd.length + (fs.take (m + 1)).flatten.length ≤ part) := hm
  generalize (fs.take (m + 1)).flatten.length = z1 at *
  generalize (fs.take m).flatten.length = z0 at *
  have hk3 : (((m + 1 : Nat) : Int) - 1 + 1).toNat = m + 1 := by omega
  have hk4 : (((m + 1 : Nat) : Int) - 1).toNat = m := by omega
  clear m2 hlast hBl
  rcases r3 with rfl | rfl
  · have heq1 : (((hd.length + z0 : Nat) : Int) == (part : Int)) = true := by rw [r2.1 rfl]; simp
    clear r2
    refine loopV ?_
    have hz : True := trivial
    have hy := yieldedV_eq
    have hL := And.intro @hgm (And.intro @hgm1 (And.intro @hk3 (And.intro @hk4 (@heq1))))
    repeat' (first | (refine WPV.seqK ?_; intro N hN) | (refine And.intro (hO _ (by kernel_rfl)) ?_; clear hO) | refine gA ?_ | (refine gR (M := noM) ?_; intro N hN ops hy) | (refine gDG (M := noM) ?_; intro N hN ops hy hO) | (refine WPV.condK ?_; intro A hA B hB) | (refine here ?_; refine sS ?_) | refine Both.mk ?_ ?_ | ((with_reducible refine CallO.gd 28 ?_); refine CallO.toB Tryd.call28 (cr) ?_) | ((with_reducible refine CallO.gd 29 ?_); refine CallO.toB Tryd.call29 (ct) ?_) | ((with_reducible refine CallP.gd 28 ?_); refine CallP.toB Tryd.call28 (cr) ?_) | ((with_reducible refine CallP.gd 29 ?_); refine CallP.toB Tryd.call29 (ct) ?_) | (refine hN _ ?_; try clear hN N; try clear hy ops) | (refine hA ?_; clear hA A hB B; try simp only [hz]) | (refine hB ?_; clear hA A hB B; try simp only [hz]) | (refine gG ?_ ?_ <;> (intro hz; have h := nm hz; try (exfalso; omega)) <;> (have hz := nz hz; try subst hz)) | (rw [if_pos (show _ ∧ _ from ⟨by omega, by omega⟩)]; refine sS ?_) | refine gT ?_ | (clear hN N))
    have hL := @heq1
    all_goals (first | exact retZ hQ Tryd.results6 (Desc.re [] rfl) | exact retZN hQ Tryd.results6 (Desc.re [] rfl))
  · have heq1 : (((hd.length + z0 : Nat) : Int) == (part : Int)) = false := by
      rw [beq_eq_false_iff_ne]; intro h
      have := r2.2 (by omega)
      exact absurd this (by decide)
    clear r2
    refine loopV ?_
    have hz : True := trivial
    have hy := yieldedV_eq
    have hL := And.intro @hgm (And.intro @hgm1 (And.intro @hk3 (And.intro @hk4 (@heq1))))
    repeat' (first | (refine WPV.seqK ?_; intro N hN) | (refine And.intro (hO _ (by kernel_rfl)) ?_; clear hO) | refine gA ?_ | (refine gR (M := noM) ?_; intro N hN ops hy) | (refine gDG (M := noM) ?_; intro N hN ops hy hO) | (refine WPV.condK ?_; intro A hA B hB) | (refine here ?_; refine sS ?_) | refine Both.mk ?_ ?_ | ((with_reducible refine CallO.gd 28 ?_); refine CallO.toB Tryd.call28 (cr) ?_) | ((with_reducible refine CallO.gd 29 ?_); refine CallO.toB Tryd.call29 (ct) ?_) | ((with_reducible refine CallP.gd 28 ?_); refine CallP.toB Tryd.call28 (cr) ?_) | ((with_reducible refine CallP.gd 29 ?_); refine CallP.toB Tryd.call29 (ct) ?_) | (refine hN _ ?_; try clear hN N; try clear hy ops) | (refine hA ?_; clear hA A hB B; try simp only [hz]) | (refine hB ?_; clear hA A hB B; try simp only [hz]) | (refine gG ?_ ?_ <;> (intro hz; have h := nm hz; try (exfalso; omega)) <;> (have hz := nz hz; try subst hz)) | (rw [if_pos (show _ ∧ _ from ⟨by omega, by omega⟩)]; refine sS ?_) | refine gT ?_ | (clear hN N))
    have hL := @heq1
    all_goals (first | exact retZ hQ Tryd.results6 (Desc.re [] rfl) | exact retZN hQ Tryd.results6 (Desc.re [] rfl))
end Go.Proofs.YtgfnpcmehnjopaaDoor
end
section
namespace Go.Proofs.YtgfnpcmehnjopaaDoor
open Go Go.RowKit
set_option linter.unusedVariables false
set_option linter.unusedSimpArgs false
variable {K : Nat → Obj → Prop}
theorem long_iff (a : Wr) : a.long = true ↔ 64 < a.k.size ∨ 256 < a.v.size := by simp [Wr.long]
set_option maxRecDepth 100000 in
set_option maxHeartbeats 4000000 in
theorem rtcheck_s (t : Tx) (hl : t.w.length ≤ 9223372036854775807) : Sp Tryd.prog K 34 [txV t] [] fun u hh => u = .sc (.int .i64 (checkF t)) ∧ hh = [] := by
  obtain ⟨o, s, c, w⟩ := t
  have c1 := rcright_s (K := K) c []
  have hx0 := at_get2 c o (.sc (.int .i64 o)) (.sc (.int .i64 s)) [.sl 3 (wrl w)]
  obtain ⟨x, y, z⟩ := c
  dsimp only [clkV] at c1 hx0
  by_cases h1 : o < 0 ∨ 2 < o
  · have e : checkF ⟨o, s, ⟨x, y, z⟩, w⟩ = 9 := by unfold checkF; rw [if_pos h1]
    rw [e]
    have hx := True.intro
    refine Sp.of_bodyE Tryd.func34 rfl ?_
    intro Q hQ
    simp only [List.replicate, List.length_cons, List.length_nil, Tryd.ntmps34, Nat.reduceAdd, Nat.reduceSub, List.cons_append, List.nil_append, go_sem]
    have hz : True := trivial
    have hy := yieldedV_eq
    have hL := @hx
    repeat' (first | (refine WPV.seqK ?_; intro N hN) | refine gA ?_ | (refine gR (M := noM) ?_; intro N hN ops hy) | (refine gD (M := noM) ?_; intro N hN; have hy := yieldedV_eq) | (refine WPV.condK ?_; intro A hA B hB) | (refine here ?_; refine sS ?_) | refine Both.mk ?_ ?_ | ((with_reducible refine CallO.gd 59 ?_); refine CallO.frB [] Tryd.call59 (c1) ?_) | (refine hN _ ?_; try clear hN N; try clear hy ops) | (refine hA ?_; clear hA A hB B; try simp only [hz]) | (refine hB ?_; clear hA A hB B; try simp only [hz]) | (refine gG ?_ ?_ <;> (intro hz; have h := nm hz; try (exfalso; omega)) <;> (have hz := nz hz; try subst hz)) | (rw [if_pos (show _ ∧ _ from ⟨by omega, by omega⟩)]; refine sS ?_) | refine gT ?_ | (clear hN N))
    all_goals (first | exact retZ hQ Tryd.results34 (Desc.re [] rfl) | exact retZN hQ Tryd.results34 (Desc.re [] rfl))
  have hx := hx0 (by omega)
  by_cases h2 : s < 1 ∨ 4611686018427387903 < s ∨ rightF ⟨x, y, z⟩ = false
  · have e : checkF ⟨o, s, ⟨x, y, z⟩, w⟩ = 1 := by unfold checkF; rw [if_neg h1, if_pos h2]
    rw [e]
    cases hr : rightF ⟨x, y, z⟩ with
    | true =>
      rw [hr] at c1 h2
      have h2 : s < 1 ∨ 4611686018427387903 < s := by simpa using h2
      refine Sp.of_bodyE Tryd.func34 rfl ?_
      intro Q hQ
      simp only [List.replicate, List.length_cons, List.length_nil, Tryd.ntmps34, Nat.reduceAdd, Nat.reduceSub, List.cons_append, List.nil_append, go_sem]
      have hz : True := trivial
      have hy := yieldedV_eq
      have hL := @hx
      repeat' (first | (refine WPV.seqK ?_; intro N hN) | refine gA ?_ | (refine gR (M := noM) ?_; intro N hN ops hy) | (refine gD (M := noM) ?_; intro N hN; have hy := yieldedV_eq) | (refine WPV.condK ?_; intro A hA B hB) | (refine here ?_; refine sS ?_) | refine Both.mk ?_ ?_ | ((with_reducible refine CallO.gd 59 ?_); refine CallO.frB [] Tryd.call59 (c1) ?_) | (refine hN _ ?_; try clear hN N; try clear hy ops) | (refine hA ?_; clear hA A hB B; try simp only [hz]) | (refine hB ?_; clear hA A hB B; try simp only [hz]) | (refine gG ?_ ?_ <;> (intro hz; have h := nm hz; try (exfalso; omega)) <;> (have hz := nz hz; try subst hz)) | (rw [if_pos (show _ ∧ _ from ⟨by omega, by omega⟩)]; refine sS ?_) | refine gT ?_ | (clear hN N))
      all_goals (first | exact retZ hQ Tryd.results34 (Desc.re [] rfl) | exact retZN hQ Tryd.results34 (Desc.re [] rfl))
    | false =>
      rw [hr] at c1
      clear h2
      refine Sp.of_bodyE Tryd.func34 rfl ?_
      intro Q hQ
      simp only [List.replicate, List.length_cons, List.length_nil, Tryd.ntmps34, Nat.reduceAdd, Nat.reduceSub, List.cons_append, List.nil_append, go_sem]
      have hz : True := trivial
      have hy := yieldedV_eq
      have hL := @hx
      repeat' (first | (refine WPV.seqK ?_; intro N hN) | refine gA ?_ | (refine gR (M := noM) ?_; intro N hN ops hy) | (refine gD (M := noM) ?_; intro N hN; have hy := yieldedV_eq) | (refine WPV.condK ?_; intro A hA B hB) | (refine here ?_; refine sS ?_) | refine Both.mk ?_ ?_ | ((with_reducible refine CallO.gd 59 ?_); refine CallO.frB [] Tryd.call59 (c1) ?_) | (refine hN _ ?_; try clear hN N; try clear hy ops) | (refine hA ?_; clear hA A hB B; try simp only [hz]) | (refine hB ?_; clear hA A hB B; try simp only [hz]) | (refine gG ?_ ?_ <;> (intro hz; have h := nm hz; try (exfalso; omega)) <;> (have hz := nz hz; try subst hz)) | (rw [if_pos (show _ ∧ _ from ⟨by omega, by omega⟩)]; refine sS ?_) | refine gT ?_ | (clear hN N))
      all_goals (first | exact retZ hQ Tryd.results34 (Desc.re [] rfl) | exact retZN hQ Tryd.results34 (Desc.re [] rfl))
  have hr : rightF ⟨x, y, z⟩ = true := by
    cases h : rightF ⟨x, y, z⟩
    · exact absurd (.inr (.inr h)) h2
    · rfl
  have h2 : ¬ (s < 1 ∨ 4611686018427387903 < s) := fun h => h2 (by rcases h with h | h <;> simp [h])
  obtain ⟨d, hd⟩ : ∃ d, Clk.at_ ⟨x, y, z⟩ o = d := ⟨_, rfl⟩
  rw [check_tail h1 h2 hr hd]
  rw [hr] at c1
  rw [hd] at hx
  have hdb := at_bd hr hd
  clear hx0
  refine Sp.of_bodyE Tryd.func34 rfl ?_
  intro Q hQ
  simp only [List.replicate, List.length_cons, List.length_nil, Tryd.ntmps34, Nat.reduceAdd, Nat.reduceSub, List.cons_append, List.nil_append, go_sem]
  have hz : True := trivial
  have hy := yieldedV_eq
  have hL := @hx
  repeat' (first | (refine WPV.seqK ?_; intro N hN) | refine gA ?_ | (refine gR (M := noM) ?_; intro N hN ops hy) | (refine gD (M := noM) ?_; intro N hN; have hy := yieldedV_eq) | (refine WPV.condK ?_; intro A hA B hB) | (refine here ?_; refine sS ?_) | refine Both.mk ?_ ?_ | ((with_reducible refine CallO.gd 59 ?_); refine CallO.frB [] Tryd.call59 (c1) ?_) | (refine hN _ ?_; try clear hN N; try clear hy ops) | (refine hA ?_; clear hA A hB B; try simp only [hz]) | (refine hB ?_; clear hA A hB B; try simp only [hz]) | (refine gG ?_ ?_ <;> (intro hz; have h := nm hz; try (exfalso; omega)) <;> (have hz := nz hz; try subst hz)) | (rw [if_pos (show _ ∧ _ from ⟨by omega, by omega⟩)]; refine sS ?_) | refine gT ?_ | (clear hN N))
  all_goals (try (first | exact retZ hQ Tryd.results34 (Desc.re [] rfl) | exact retZN hQ Tryd.results34 (Desc.re [] rfl)))
  have e1 : ¬ d ≠ s - 1 := by omega
  have e2 : ¬ 16 < w.length := by omega
  rw [if_neg e1, if_neg e2] at hQ
  clear hx c1
  refine WPV.loopW (α := Nat) (fun k => w.length - k) (fun k => ⟨[.any, .ptr 0 0, .any, .sc (.int .i64 ((k : Nat) : Int)), .any, .any, .any, .any, .any, .any, .any, .any, .any, .any, .any, .any, .any, .any, .any, .any, .any, .any, .any, .any, .any, .any, .any, .any, .any, .any, .any, .any, .any, .any, .any, .any, .any, .any, .any, .any, .any, .any, .any, .any, .any, .any, .any, .any, .any, .any, .any, .any, .any, .any, .any, .any, .any, .any, .any, .any, .any, .any, .any, .any, .any, .any, .any, .any, .any, .any, .any, .any, .any, .any, .any, .any, .any, .any, .any, .any, .any, .any, .any, .any, .any, .any, .any], [.cells [.sc (.int .i64 o), .sc (.int .i64 s), .sc (.int .i64 x), .sc (.int .i64 y), .sc (.int .i64 z), .sl 3 (wrl w)]]⟩) (fun k => k ≤ w.length ∧ w.any Wr.long = (w.drop k).any Wr.long) 0 Desc.weakA ⟨Nat.zero_le _, rfl⟩ (fun k hJ H => ?_)
  obtain ⟨hk0, hJ⟩ := hJ
  by_cases h : k < w.length
  · obtain ⟨a, hg⟩ : ∃ a, w[k] = a := ⟨_, rfl⟩
    have hget : w[k]? = some a := by rw [← hg]; exact List.getElem?_eq_getElem h
    rw [List.drop_eq_getElem_cons h, List.any_cons, hg] at hJ
    have li := long_iff a
    by_cases hb : a.long = true
    · have e : w.any Wr.long = true := by rw [hJ, hb]; rfl
      rw [if_pos e] at hQ
      have hb2 := li.1 hb
      clear H hg hJ li
      refine loopV ?_
      have hz : True := trivial
      have hy := yieldedV_eq
      have hL := @hget
      repeat' (first | (refine WPV.seqK ?_; intro N hN) | refine gA ?_ | (refine gR (M := noM) ?_; intro N hN ops hy) | (refine gD (M := noM) ?_; intro N hN; have hy := yieldedV_eq) | (refine WPV.condK ?_; intro A hA B hB) | (refine here ?_; refine sS ?_) | refine Both.mk ?_ ?_ | (refine hN _ ?_; try clear hN N; try clear hy ops) | (refine hA ?_; clear hA A hB B; try simp only [hz]) | (refine hB ?_; clear hA A hB B; try simp only [hz]) | (refine gG ?_ ?_ <;> (intro hz; have h := nm hz; try (exfalso; omega)) <;> (have hz := nz hz; try subst hz)) | (rw [if_pos (show _ ∧ _ from ⟨by omega, by omega⟩)]; refine sS ?_) | refine gT ?_ | (clear hN N))
      all_goals (first | exact retZ hQ Tryd.results34 (Desc.re [] rfl) | exact retZN hQ Tryd.results34 (Desc.re [] rfl))
    · have H' := H (k + 1) ⟨h, by rw [hJ]; simp [hb]⟩ (by omega)
      have hb2 : ¬ (64 < a.k.size ∨ 256 < a.v.size) := fun h => hb (li.2 h)
      clear H hg hJ li
      refine loopV ?_
      have hz : True := trivial
      have hy := yieldedV_eq
      have hL := @hget
      repeat' (first | (refine WPV.seqK ?_; intro N hN) | refine gA ?_ | (refine gR (M := noM) ?_; intro N hN ops hy) | (refine gD (M := noM) ?_; intro N hN; have hy := yieldedV_eq) | (refine WPV.condK ?_; intro A hA B hB) | (refine here ?_; refine sS ?_) | refine Both.mk ?_ ?_ | (refine hN _ ?_; try clear hN N; try clear hy ops) | (refine hA ?_; clear hA A hB B; try simp only [hz]) | (refine hB ?_; clear hA A hB B; try simp only [hz]) | (refine gG ?_ ?_ <;> (intro hz; have h := nm hz; try (exfalso; omega)) <;> (have hz := nz hz; try subst hz)) | (rw [if_pos (show _ ∧ _ from ⟨by omega, by omega⟩)]; refine sS ?_) | refine gT ?_ | (clear hN N))
      all_goals (exact rndZ (Desc.re [some 0] rfl) (H'))
  obtain rfl : k = w.length := by omega
  have e : ¬ w.any Wr.long = true := by rw [hJ]; simp
  rw [if_neg e] at hQ
  clear H hJ e
  refine loopV ?_
  have hz : True := trivial
  have hy := yieldedV_eq
  have hL := True.intro
  repeat' (first | (refine WPV.seqK ?_; intro N hN) | refine gA ?_ | (refine gR (M := noM) ?_; intro N hN ops hy) | (refine gD (M := noM) ?_; intro N hN; have hy := yieldedV_eq) | (refine WPV.condK ?_; intro A hA B hB) | (refine here ?_; refine sS ?_) | refine Both.mk ?_ ?_ | (refine hN _ ?_; try clear hN N; try clear hy ops) | (refine hA ?_; clear hA A hB B; try simp only [hz]) | (refine hB ?_; clear hA A hB B; try simp only [hz]) | (refine gG ?_ ?_ <;> (intro hz; have h := nm hz; try (exfalso; omega)) <;> (have hz := nz hz; try subst hz)) | (rw [if_pos (show _ ∧ _ from ⟨by omega, by omega⟩)]; refine sS ?_) | refine gT ?_ | (clear hN N))
  refine WPV.loopW (α := Nat) (fun k => w.length - k) (fun k => ⟨[.any, .ptr 0 0, .any, .any, .sc (.int .i64 ((k : Nat) : Int)), .any, .any, .any, .any, .any, .any, .any, .any, .any, .any, .any, .any, .any, .any, .any, .any, .any, .any, .any, .any, .any, .any, .any, .any, .any, .any, .any, .any, .any, .any, .any, .any, .any, .any, .any, .any, .any, .any, .any, .any, .any, .any, .any, .any, .any, .any, .any, .any, .any, .any, .any, .any, .any, .any, .any, .any, .any, .any, .any, .any, .any, .any, .any, .any, .any, .any, .any, .any, .any, .any, .any, .any, .any, .any, .any, .any, .any, .any, .any, .any, .any, .any], [.cells [.sc (.int .i64 o), .sc (.int .i64 s), .sc (.int .i64 x), .sc (.int .i64 y), .sc (.int .i64 z), .sl 3 (wrl w)]]⟩) (fun k => k ≤ w.length ∧ w.any Wr.odd = (w.drop k).any Wr.odd) 0 Desc.weakA ⟨Nat.zero_le _, rfl⟩ (fun k hJ H => ?_)
  obtain ⟨hk0, hJ⟩ := hJ
  by_cases h : k < w.length
  · obtain ⟨a, hg⟩ : ∃ a, w[k] = a := ⟨_, rfl⟩
    have hget : w[k]? = some a := by rw [← hg]; exact List.getElem?_eq_getElem h
    rw [List.drop_eq_getElem_cons h, List.any_cons, hg] at hJ
    obtain ⟨ak, av, ag⟩ := a
    have od := odd_e av
    by_cases hb : Wr.odd ⟨ak, av, ag⟩ = true
    · have e : w.any Wr.odd = true := by rw [hJ, hb]; rfl
      rw [if_pos e] at hQ
      obtain ⟨rfl, hv⟩ : ag = true ∧ decide (av ≠ ByteArray.empty) = true := by simpa [Wr.odd] using hb
      rw [hv] at od
      clear H hg hJ hb e
      refine loopV ?_
      have hz : True := trivial
      have hy := yieldedV_eq
      have hL := And.intro @hget (@od)
      repeat' (first | (refine WPV.seqK ?_; intro N hN) | refine gA ?_ | (refine gR (M := noM) ?_; intro N hN ops hy) | (refine gD (M := noM) ?_; intro N hN; have hy := yieldedV_eq) | (refine WPV.condK ?_; intro A hA B hB) | (refine here ?_; refine sS ?_) | refine Both.mk ?_ ?_ | (refine hN _ ?_; try clear hN N; try clear hy ops) | (refine hA ?_; clear hA A hB B; try simp only [hz]) | (refine hB ?_; clear hA A hB B; try simp only [hz]) | (refine gG ?_ ?_ <;> (intro hz; have h := nm hz; try (exfalso; omega)) <;> (have hz := nz hz; try subst hz)) | (rw [if_pos (show _ ∧ _ from ⟨by omega, by omega⟩)]; refine sS ?_) | refine gT ?_ | (clear hN N))
      all_goals (first | exact retZ hQ Tryd.results34 (Desc.re [] rfl) | exact retZN hQ Tryd.results34 (Desc.re [] rfl))
    · have H' := H (k + 1) ⟨h, by rw [hJ]; simp [hb]⟩ (by omega)
      clear H hg hJ
      cases ag with
      | false =>
        refine loopV ?_
        have hz : True := trivial
        have hy := yieldedV_eq
        have hL := @hget
        repeat' (first | (refine WPV.seqK ?_; intro N hN) | refine gA ?_ | (refine gR (M := noM) ?_; intro N hN ops hy) | (refine gD (M := noM) ?_; intro N hN; have hy := yieldedV_eq) | (refine WPV.condK ?_; intro A hA B hB) | (refine here ?_; refine sS ?_) | refine Both.mk ?_ ?_ | (refine hN _ ?_; try clear hN N; try clear hy ops) | (refine hA ?_; clear hA A hB B; try simp only [hz]) | (refine hB ?_; clear hA A hB B; try simp only [hz]) | (refine gG ?_ ?_ <;> (intro hz; have h := nm hz; try (exfalso; omega)) <;> (have hz := nz hz; try subst hz)) | (rw [if_pos (show _ ∧ _ from ⟨by omega, by omega⟩)]; refine sS ?_) | refine gT ?_ | (clear hN N))
        all_goals (exact rndZ (Desc.re [some 0] rfl) (H'))
      | true =>
        have hv : decide (av ≠ ByteArray.empty) = false := by simpa [Wr.odd] using hb
        rw [hv] at od
        refine loopV ?_
        have hz : True := trivial
        have hy := yieldedV_eq
        have hL := And.intro @hget (@od)
        repeat' (first | (refine WPV.seqK ?_; intro N hN) | refine gA ?_ | (refine gR (M := noM) ?_; intro N hN ops hy) | (refine gD (M := noM) ?_; intro N hN; have hy := yieldedV_eq) | (refine WPV.condK ?_; intro A hA B hB) | (refine here ?_; refine sS ?_) | refine Both.mk ?_ ?_ | (refine hN _ ?_; try clear hN N; try clear hy ops) | (refine hA ?_; clear hA A hB B; try simp only [hz]) | (refine hB ?_; clear hA A hB B; try simp only [hz]) | (refine gG ?_ ?_ <;> (intro hz; have h := nm hz; try (exfalso; omega)) <;> (have hz := nz hz; try subst hz)) | (rw [if_pos (show _ ∧ _ from ⟨by omega, by omega⟩)]; refine sS ?_) | refine gT ?_ | (clear hN N))
        all_goals (exact rndZ (Desc.re [some 0] rfl) (H'))
  obtain rfl : k = w.length := by omega
  have e : ¬ w.any Wr.odd = true := by rw [hJ]; simp
  rw [if_neg e] at hQ
  clear H hJ e
  refine loopV ?_
  have hz : True := trivial
  have hy := yieldedV_eq
  have hL := True.intro
  repeat' (first | (refine WPV.seqK ?_; intro N hN) | refine gA ?_ | (refine gR (M := noM) ?_; intro N hN ops hy) | (refine gD (M := noM) ?_; intro N hN; have hy := yieldedV_eq) | (refine WPV.condK ?_; intro A hA B hB) | (refine here ?_; refine sS ?_) | refine Both.mk ?_ ?_ | (refine hN _ ?_; try clear hN N; try clear hy ops) | (refine hA ?_; clear hA A hB B; try simp only [hz]) | (refine hB ?_; clear hA A hB B; try simp only [hz]) | (refine gG ?_ ?_ <;> (intro hz; have h := nm hz; try (exfalso; omega)) <;> (have hz := nz hz; try subst hz)) | (rw [if_pos (show _ ∧ _ from ⟨by omega, by omega⟩)]; refine sS ?_) | refine gT ?_ | (clear hN N))
  all_goals (first | exact retZ hQ Tryd.results34 (Desc.re [] rfl) | exact retZN hQ Tryd.results34 (Desc.re [] rfl))
end Go.Proofs.YtgfnpcmehnjopaaDoor
end
section
namespace Go.Proofs.YtgfnpcmehnjopaaDoor
open Go Go.RowKit
set_option linter.unusedVariables false
set_option linter.unusedSimpArgs false
variable {K : Nat → Obj → Prop}
theorem vsame_g (l : List UInt8) (h : List Ho) : Sp Tryd.prog K 21 [.sl 1 (bs l), .sl 1 (bs l)] h fun u hh => u = .sc (.bool true) ∧ hh = h := by
  simpa using vsame_s (K := K) l l h
set_option maxRecDepth 100000 in
set_option maxHeartbeats 8000000 in
theorem seggoes_s (hK : KT K) (aw : Sp Tryd.prog K 24 [] [] fun u hh => u = .sc (.bool true) ∧ hh = []) (h : Shd) (l : List Tx) (t : Tx) (hl : l.length ≤ 9223372036854775807) : Sp Tryd.prog K 7 [shdV h, .sl 6 (txs l), txV t] [] fun u hh => u = .sc (.bool true) ∧ hh = [] := by
  have cl := large7_s (K := K) l hl
  have cb := tbig_s (K := K) t
  by_cases hg : largeT l = true ∨ t.big = true
  · have cn := True.intro
    obtain ⟨o, p, f⟩ := h
    have hg2 : (largeT l || t.big) = true := by rcases hg with h | h <;> simp [h]
    rcases hg with hg | hg
    · rw [hg] at cl
      obtain ⟨to, ts, ⟨c1, c2, c3⟩, tw⟩ := t
      dsimp only [txV] at cb
      refine Sp.of_bodyE Tryd.func7 rfl ?_
      intro Q hQ
      simp only [List.replicate, List.length_cons, List.length_nil, Tryd.ntmps7, Nat.reduceAdd, Nat.reduceSub, List.cons_append, List.nil_append, go_sem]
      have hz : True := trivial
      have hy := yieldedV_eq
      have hL := True.intro
      repeat' (first | (refine WPV.seqK ?_; intro N hN) | (refine And.intro (hO _ (by kernel_rfl)) ?_; clear hO) | refine gA ?_ | (refine gR (M := noM) ?_; intro N hN ops hy) | (refine gDG (M := noM) ?_; intro N hN ops hy hO) | (refine WPV.condK ?_; intro A hA B hB) | (refine here ?_; refine sS ?_) | refine Both.mk ?_ ?_ | ((with_reducible refine CallO.gd 24 ?_); refine CallO.frB [] Tryd.call24 (aw) ?_) | ((with_reducible refine CallO.gd 25 ?_); refine CallO.frB [] Tryd.call25 (cl) ?_) | ((with_reducible refine CallO.gd 30 ?_); refine CallO.frB [] Tryd.call30 (cb) ?_) | ((with_reducible refine CallO.gd 26 ?_); refine CallO.frB [] Tryd.call26 (cn) ?_) | (refine hN _ ?_; try clear hN N; try clear hy ops) | (refine hA ?_; clear hA A hB B; try simp only [hz]) | (refine hB ?_; clear hA A hB B; try simp only [hz]) | (refine gG ?_ ?_ <;> (intro hz; have h := nm hz; try (exfalso; omega)) <;> (have hz := nz hz; try subst hz)) | (rw [if_pos (show _ ∧ _ from ⟨by omega, by omega⟩)]; refine sS ?_) | refine gT ?_ | (clear hN N))
      all_goals (first | exact retZ hQ Tryd.results7 (Desc.re [] rfl) | exact retZN hQ Tryd.results7 (Desc.re [] rfl))
    · rw [hg] at cb
      generalize largeT l = b at *
      obtain ⟨to, ts, ⟨c1, c2, c3⟩, tw⟩ := t
      dsimp only [txV] at cb
      refine Sp.of_bodyE Tryd.func7 rfl ?_
      intro Q hQ
      simp only [List.replicate, List.length_cons, List.length_nil, Tryd.ntmps7, Nat.reduceAdd, Nat.reduceSub, List.cons_append, List.nil_append, go_sem]
      have hz : True := trivial
      have hy := yieldedV_eq
      have hL := True.intro
      repeat' (first | (refine WPV.seqK ?_; intro N hN) | (refine And.intro (hO _ (by kernel_rfl)) ?_; clear hO) | refine gA ?_ | (refine gR (M := noM) ?_; intro N hN ops hy) | (refine gDG (M := noM) ?_; intro N hN ops hy hO) | (refine WPV.condK ?_; intro A hA B hB) | (refine here ?_; refine sS ?_) | refine Both.mk ?_ ?_ | ((with_reducible refine CallO.gd 24 ?_); refine CallO.frB [] Tryd.call24 (aw) ?_) | ((with_reducible refine CallO.gd 25 ?_); refine CallO.frB [] Tryd.call25 (cl) ?_) | ((with_reducible refine CallO.gd 30 ?_); refine CallO.frB [] Tryd.call30 (cb) ?_) | ((with_reducible refine CallO.gd 26 ?_); refine CallO.frB [] Tryd.call26 (cn) ?_) | (refine hN _ ?_; try clear hN N; try clear hy ops) | (refine hA ?_; clear hA A hB B; try simp only [hz]) | (refine hB ?_; clear hA A hB B; try simp only [hz]) | (refine gG ?_ ?_ <;> (intro hz; have h := nm hz; try (exfalso; omega)) <;> (have hz := nz hz; try subst hz)) | (rw [if_pos (show _ ∧ _ from ⟨by omega, by omega⟩)]; refine sS ?_) | refine gT ?_ | (clear hN N))
      all_goals (first | exact retZ hQ Tryd.results7 (Desc.re [] rfl) | exact retZN hQ Tryd.results7 (Desc.re [] rfl))
  have hg1 : largeT l = false := by cases h : largeT l <;> simp_all
  have hg2 : t.big = false := by cases h : t.big <;> simp_all
  rw [hg1] at cl
  rw [hg2] at cb
  obtain ⟨l30, l40⟩ := largeT_ok hg1
  have htw : t.w.length ≤ 40 := by unfold Tx.big at hg2; simp at hg2; omega
  clear hg hg1 hg2
  by_cases hc : segChk h ≠ 0
  · have cn := snew_no (K := K) h hc []
    generalize segChk h = e at *
    have heq : (e == 0) = false := by simpa using hc
    obtain ⟨o, p, f⟩ := h
    obtain ⟨to, ts, ⟨c1, c2, c3⟩, tw⟩ := t
    dsimp only [txV] at cb
    refine Sp.of_bodyE Tryd.func7 rfl ?_
    intro Q hQ
    simp only [List.replicate, List.length_cons, List.length_nil, Tryd.ntmps7, Nat.reduceAdd, Nat.reduceSub, List.cons_append, List.nil_append, go_sem]
    have hz : True := trivial
    have hy := yieldedV_eq
    have hL := True.intro
    repeat' (first | (refine WPV.seqK ?_; intro N hN) | (refine And.intro (hO _ (by kernel_rfl)) ?_; clear hO) | refine gA ?_ | (refine gR (M := noM) ?_; intro N hN ops hy) | (refine gDG (M := noM) ?_; intro N hN ops hy hO) | (refine WPV.condK ?_; intro A hA B hB) | (refine here ?_; refine sS ?_) | refine Both.mk ?_ ?_ | ((with_reducible refine CallO.gd 24 ?_); refine CallO.frB [] Tryd.call24 (aw) ?_) | ((with_reducible refine CallO.gd 25 ?_); refine CallO.frB [] Tryd.call25 (cl) ?_) | ((with_reducible refine CallO.gd 30 ?_); refine CallO.frB [] Tryd.call30 (cb) ?_) | ((with_reducible refine CallO.gd 26 ?_); refine CallO.frB [] Tryd.call26 (cn) ?_) | (refine hN _ ?_; try clear hN N; try clear hy ops) | (refine hA ?_; clear hA A hB B; try simp only [hz]) | (refine hB ?_; clear hA A hB B; try simp only [hz]) | (refine gG ?_ ?_ <;> (intro hz; have h := nm hz; try (exfalso; omega)) <;> (have hz := nz hz; try subst hz)) | (rw [if_pos (show _ ∧ _ from ⟨by omega, by omega⟩)]; refine sS ?_) | refine gT ?_ | (clear hN N))
    have hL := @heq
    all_goals (first | exact retZ hQ Tryd.results7 (Desc.re [] rfl) | exact retZN hQ Tryd.results7 (Desc.re [] rfl))
  have hc := Decidable.not_not.1 hc
  have hb := headB_len hc
  have hwr := wrapF_small (p := headB h) (by omega)
  obtain ⟨hd, hdd⟩ : ∃ hd, sealF (vput (headB h).length ++ headB h) = hd := ⟨_, rfl⟩
  rw [hdd] at hwr
  have hdl := (wrapF_len (headB h))
  rw [hwr] at hdl
  dsimp only at hdl
  have cn := snewO_ok hK h hc hwr
  have L0 : Laid h [] [] (Wtr.new h) := .nil
  have L1 : ∀ {ts : List Tx} {fs : List (List UInt8)} {w : Wtr} (H : Laid h ts fs w), segRead (hd ++ fs.flatten) = (h, ts, (hd ++ fs.flatten).length, 0) := fun {ts fs w} H => by
    obtain ⟨e, h1, h2, h3⟩ := H.cut hc hwr (m := fs.length) (part := hd.length + fs.flatten.length) (Nat.le_refl _) (by rw [List.take_length]; exact Nat.le_refl _) (fun f hf => by simp at hf) (Nat.le_refl _)
    rw [List.take_length] at h1 h2
    rw [← List.length_append, List.take_length, h2.2 rfl, H.inv.len, List.take_length] at h1
    exact h1
  have L2 : ∀ {ts : List Tx} {fs : List (List UInt8)} {w : Wtr} (H : Laid h ts fs w), goesGo (Wtr.new h) ts = some w := fun H => H.goes
  have cgo := fun (ts : List Tx) h1 h2 => sgoes_s hK h hc ts h1 h2
  have e0 : Wtr.new h = ⟨h.o, h.f, Cod.new⟩ := rfl
  rw [e0] at cn L0 L2 cgo
  obtain ⟨o, p, f⟩ := h
  dsimp only [List.append] at cn L0
  clear hdd hwr hb hc e0
  have ck := rtcheck_s (K := K) t (by omega)
  obtain ⟨to, tsq, ⟨c1, c2, c3⟩, tw⟩ := t
  dsimp only [txV] at cb ck
  dsimp only at htw
  refine Sp.of_bodyE Tryd.func7 rfl ?_
  intro Q hQ
  simp only [List.replicate, List.length_cons, List.length_nil, Tryd.ntmps7, Nat.reduceAdd, Nat.reduceSub, List.cons_append, List.nil_append, go_sem]
  have hz : True := trivial
  have hy := yieldedV_eq
  have hL := True.intro
  repeat' (first | (refine WPV.seqK ?_; intro N hN) | (refine And.intro (hO _ (by kernel_rfl)) ?_; clear hO) | refine gA ?_ | (refine gR (M := noM) ?_; intro N hN ops hy) | (refine gDG (M := noM) ?_; intro N hN ops hy hO) | (refine WPV.condK ?_; intro A hA B hB) | (refine here ?_; refine sS ?_) | refine Both.mk ?_ ?_ | ((with_reducible refine CallO.gd 24 ?_); refine CallO.frB [] Tryd.call24 (aw) ?_) | ((with_reducible refine CallO.gd 25 ?_); refine CallO.frB [] Tryd.call25 (cl) ?_) | ((with_reducible refine CallO.gd 30 ?_); refine CallO.frB [] Tryd.call30 (cb) ?_) | ((with_reducible refine CallO.gd 26 ?_); refine CallO.frB [] Tryd.call26 (cn) ?_) | (refine hN _ ?_; try clear hN N; try clear hy ops) | (refine hA ?_; clear hA A hB B; try simp only [hz]) | (refine hB ?_; clear hA A hB B; try simp only [hz]) | (refine gG ?_ ?_ <;> (intro hz; have h := nm hz; try (exfalso; omega)) <;> (have hz := nz hz; try subst hz)) | (rw [if_pos (show _ ∧ _ from ⟨by omega, by omega⟩)]; refine sS ?_) | refine gT ?_ | (clear hN N))
  clear cn cl aw cb
  refine WPV.loopW (α := Nat × Wtr × List Tx × List (List UInt8)) (fun q => l.length - q.1) (fun q => ⟨[.any, .any, .any, .ptr 0 0, .any, .ptr 1 0, .any, .ptr 2 0, .own 1 (bs (hd ++ q.2.2.2.flatten)) 7, .any, .any, .any, .any, .any, .any, .any, .any, .any, .any, .any, .any, .any, .any, .any, .any, .any, .any, .any, .any, .any, .any, .any, .any, .any, .any, .any, .any, .any, .any, .any, .any, .any, .any, .any, .any, .any, .any, .any, .any, .any, .any, .any, .sl 6 (txs l), .sc (.int .i64 (l.length : Int)), .sc (.int .i64 ((q.1 : Nat) : Int)), .any, .any, .any, .any, .any, .any, .any, .any, .any, .any, .any, .any, .any, .any, .any, .any, .any, .any, .any, .any, .any, .any, .any, .any, .any, .any, .any, .any, .any, .any, .any, .any, .any, .any, .any, .any, .any, .any, .any, .any, .any, .any, .any, .any, .any, .any, .any, .any, .any, .any, .any, .any, .any, .any, .any, .any, .any, .any, .any, .any, .any, .any, .any, .any, .any, .any, .any, .any, .any, .any, .any, .any, .any, .any, .any, .any, .any, .any, .any, .any, .any, .any, .any, .any, .any, .any, .any, .any, .any, .any, .any, .any, .any, .any, .any, .any, .any, .any, .any, .any, .any, .any, .any, .any, .any, .any, .any, .any], [.cells [.sc (.int .i64 o), .sc (.int .i64 p), .sc (.int .i64 f)], .cells [.sc (.int .i64 to), .sc (.int .i64 tsq), .sc (.int .i64 c1), .sc (.int .i64 c2), .sc (.int .i64 c3), .sl 3 (wrl tw)], .cells [.sc (.int .i64 q.2.1.o), .sc (.int .i64 q.2.1.n), .ptr 3 0], .cells [.ptr 4 0, .sc (.int .i64 q.2.1.c.c.x), .sc (.int .i64 q.2.1.c.c.y), .sc (.int .i64 q.2.1.c.c.z)], .cells [.hs true 1 5 0 q.2.1.c.d.ks.length, .mp 6, .sc (.int .i64 (q.2.1.c.d.e : Int))], .cells (kc q.2.1.c.d.ks), .map (pm q.2.1.c.d.c q.2.1.c.d.l), .tail]⟩) (fun q => BJ ⟨o, p, f⟩ l hd q.1 q.2.1 q.2.2.1 q.2.2.2) (0, ⟨o, f, Cod.new⟩, [], []) Desc.weakA ⟨Nat.zero_le _, L0, Nat.le_refl _⟩ (fun q hJ H => ?_)
  obtain ⟨k, w, ts, fs⟩ := q
  obtain ⟨j1, jL, j3⟩ := hJ
  dsimp only at j1 jL j3 H ⊢
  have inv := jL.inv
  obtain ⟨i1, i2, ok, hr, i5, i6, i7⟩ := inv
  by_cases h : k < l.length
  · obtain ⟨t, hg0⟩ : ∃ t, l[k] = t := ⟨_, rfl⟩
    have hget : l[k]? = some t := by rw [← hg0]; exact List.getElem?_eq_getElem h
    have hwt := l40 t (hg0 ▸ List.getElem_mem h)
    have hbl : (hd ++ fs.flatten).length ≤ 300000 := by rw [List.length_append]; omega
    rcases Wtr.put_two ok hr t with ⟨e, he, p1⟩ | ⟨hc, hto, hts, pp, fr, x', p1, p2, p3, p4, p5, p6, p7, p8⟩
    · have cp := sput_e hK p1 ok hr (by omega)
      have H' := H (k + 1, w, ts, fs) ⟨h, jL, by dsimp only; omega⟩ (by dsimp only; omega)
      clear H hg0 L1 L2 jL ck cgo
      dsimp only at H'
      generalize hd ++ fs.flatten = B at *
      obtain ⟨wo, wn, ⟨⟨x, y, z⟩, d⟩⟩ := w
      obtain ⟨uo, us, ⟨u1, u2, u3⟩, uw⟩ := t
      dsimp only [txV] at cp
      refine loopV ?_
      have hz : True := trivial
      have hy := yieldedV_eq
      have hL := @hget
      repeat' (first | (refine WPV.seqK ?_; intro N hN) | (refine And.intro (hO _ (by kernel_rfl)) ?_; clear hO) | refine gA ?_ | (refine gR (M := noM) ?_; intro N hN ops hy) | (refine gDG (M := noM) ?_; intro N hN ops hy hO) | (refine WPV.condK ?_; intro A hA B hB) | (refine here ?_; refine sS ?_) | refine Both.mk ?_ ?_ | ((with_reducible refine CallO.gd 27 ?_); refine CallO.frB [2, 3, 4, 5, 6] Tryd.call27 (cp) ?_) | (refine hN _ ?_; try clear hN N; try clear hy ops) | (refine hA ?_; clear hA A hB B; try simp only [hz]) | (refine hB ?_; clear hA A hB B; try simp only [hz]) | (refine gG ?_ ?_ <;> (intro hz; have h := nm hz; try (exfalso; omega)) <;> (have hz := nz hz; try subst hz)) | (rw [if_pos (show _ ∧ _ from ⟨by omega, by omega⟩)]; refine sS ?_) | refine gT ?_ | (clear hN N))
      have hL := True.intro
      all_goals (exact rndZ (Desc.re [some 0, some 1, some 2, some 3, some 4, some 9, some 10, some 11] rfl) (H'))
    · have cp := sput_e hK p3 ok hr (by omega)
      have H' := H (k + 1, _, ts ++ [t], fs ++ [fr]) ⟨h, .snoc jL p3, by dsimp only; rw [List.length_append]; dsimp only [List.length]; omega⟩ (by dsimp only; omega)
      dsimp only at H'
      rw [List.flatten_append, List.flatten_singleton, ← List.append_assoc] at H'
      clear H hg0 L1 L2 jL p1 p2 p3 p8 ck cgo
      generalize hd ++ fs.flatten = B at *
      obtain ⟨wo, wn, ⟨⟨x, y, z⟩, d⟩⟩ := w
      obtain ⟨⟨x2, y2, z2⟩, d2⟩ := x'
      obtain ⟨uo, us, ⟨u1, u2, u3⟩, uw⟩ := t
      dsimp only [txV] at cp H'
      refine loopV ?_
      have hz : True := trivial
      have hy := yieldedV_eq
      have hL := @hget
      repeat' (first | (refine WPV.seqK ?_; intro N hN) | (refine And.intro (hO _ (by kernel_rfl)) ?_; clear hO) | refine gA ?_ | (refine gR (M := noM) ?_; intro N hN ops hy) | (refine gDG (M := noM) ?_; intro N hN ops hy hO) | (refine WPV.condK ?_; intro A hA B hB) | (refine here ?_; refine sS ?_) | refine Both.mk ?_ ?_ | ((with_reducible refine CallO.gd 27 ?_); refine CallO.frB [2, 3, 4, 5, 6] Tryd.call27 (cp) ?_) | (refine hN _ ?_; try clear hN N; try clear hy ops) | (refine hA ?_; clear hA A hB B; try simp only [hz]) | (refine hB ?_; clear hA A hB B; try simp only [hz]) | (refine gG ?_ ?_ <;> (intro hz; have h := nm hz; try (exfalso; omega)) <;> (have hz := nz hz; try subst hz)) | (rw [if_pos (show _ ∧ _ from ⟨by omega, by omega⟩)]; refine sS ?_) | refine gT ?_ | (clear hN N))
      all_goals (exact rndZ (Desc.re [some 0, some 1, some 2, some 3, some 4, some 9, some 10, some 11] rfl) (H'))
  obtain rfl : k = l.length := by omega
  clear H
  have cr := Sp.lift (sread_s hK (hd ++ fs.flatten) (by rw [List.length_append]; omega)) (fun _ => rfl) (fun _ => rfl)
  rw [L1 jL] at cr
  have cg := cgo ts (by omega) (fun t ht => Nat.le_trans (i6 t ht) (by decide))
  rw [L2 jL] at cg
  clear cgo L1 L2 jL L0
  dsimp only [goesV, goesH, rdV] at cg cr
  have hbl : (hd ++ fs.flatten).length ≤ 300000 := by rw [List.length_append]; omega
  generalize hd ++ fs.flatten = B at *
  have cc := scopy_s (K := K) w ok.len
  have cx := snext_s (K := K) w
  dsimp only at i1
  rcases Wtr.put_two ok hr ⟨to, tsq, ⟨c1, c2, c3⟩, tw⟩ with ⟨e, he, p1⟩ | ⟨hc, hto, hts, pp, fr, x', p1, p2, p3, p4, p5, p6, p7, p8⟩
  · have hcond : checkF ⟨to, tsq, ⟨c1, c2, c3⟩, tw⟩ = 0 → to = o → tsq = w.n → False := by
      intro h1 h2 h3
      unfold Wtr.put at p1
      rw [if_neg (by rw [h1]; simp), if_neg (by dsimp only; rw [i1]; simp [h2, h3])] at p1
      have h8 := tput_len8 (x := w.c) ok h1
      rw [wrapF_small (by omega)] at p1
      simp only [Prod.mk.injEq] at p1
      exact he p1.1.2.symm
    have cp := sput_e hK p1 ok hr (by dsimp only; omega)
    generalize checkF ⟨to, tsq, ⟨c1, c2, c3⟩, tw⟩ = q at *
    have heq : (e == 0) = false := by simpa using he
    have hns : q = 0 → to = o → (w.n == tsq) = false := fun h1 h2 => by
      rw [beq_eq_false_iff_ne]; exact fun h3 => hcond h1 h2 h3.symm
    clear p1 hcond
    obtain ⟨wo, wn, ⟨⟨x, y, z⟩, d⟩⟩ := w
    dsimp only at i1
    subst i1
    dsimp only [txV] at cp hns
    refine loopV ?_
    have hz : True := trivial
    have hy := yieldedV_eq
    have hL := And.intro @heq (@hns)
    repeat' (first | (refine WPV.seqK ?_; intro N hN) | (refine And.intro (hO _ (by kernel_rfl)) ?_; clear hO) | refine gA ?_ | (refine gR (M := noM) ?_; intro N hN ops hy) | (refine gDG (M := noM) ?_; intro N hN ops hy hO) | (refine WPV.condK ?_; intro A hA B hB) | (refine here ?_; refine sS ?_) | refine Both.mk ?_ ?_ | ((with_reducible refine CallO.gd 28 ?_); refine CallO.toB Tryd.call28 (cr _) ?_) | ((with_reducible refine CallO.gd 31 ?_); refine CallO.frB [] Tryd.call31 (cg) ?_) | ((with_reducible refine CallO.gd 32 ?_); refine CallO.frB [2, 3, 4, 5, 6] Tryd.call32 (cc) ?_) | ((with_reducible refine CallO.gd 27 ?_); first | refine CallO.frB [2, 3, 4, 5, 6] Tryd.call27 (cp) ?_ | refine CallO.frB [9, 10, 11, 12, 13] Tryd.call27 (cp) ?_ | refine CallO.frB [14, 15, 16, 17, 18] Tryd.call27 (cp) ?_) | ((with_reducible refine CallO.gd 33 ?_); first | refine CallO.frB [2, 3, 4, 5, 6] Tryd.call33 (cx) ?_ | refine CallO.frB [2, 3, 4, 19, 20] Tryd.call33 (cx) ?_ | refine CallO.frB [9, 10, 11, 21, 22] Tryd.call33 (cx) ?_ | refine CallO.frB [14, 15, 16, 23, 24] Tryd.call33 (cx) ?_) | ((with_reducible refine CallO.gd 34 ?_); refine CallO.frB [] Tryd.call34 (ck) ?_) | ((with_reducible refine CallO.gd 21 ?_); refine CallO.toB Tryd.call21 (vsame_g [] _) ?_) | ((with_reducible refine CallP.gd 28 ?_); refine CallP.toB Tryd.call28 (cr _) ?_) | ((with_reducible refine CallP.gd 21 ?_); refine CallP.toB Tryd.call21 (vsame_g [] _) ?_) | (refine hN _ ?_; try clear hN N; try clear hy ops) | (refine hA ?_; clear hA A hB B; try simp only [hz]) | (refine hB ?_; clear hA A hB B; try simp only [hz]) | (refine gG ?_ ?_ <;> (intro hz; have h := nm hz; try (exfalso; omega)) <;> (have hz := nz hz; try subst hz)) | (rw [if_pos (show _ ∧ _ from ⟨by omega, by omega⟩)]; refine sS ?_) | refine gT ?_ | (clear hN N))
    have hL := And.intro @heq (@hns)
    all_goals (first | exact retZ hQ Tryd.results7 (Desc.re [] rfl) | exact retZN hQ Tryd.results7 (Desc.re [] rfl))
  · have cp := sput_e hK p3 ok hr (by dsimp only; omega)
    have cy := snext_s (K := K) ⟨w.o, w.n + 1, x'⟩
    rw [hc] at ck
    clear p1 p2 p3 p8
    obtain ⟨wo, wn, ⟨⟨x, y, z⟩, d⟩⟩ := w
    obtain ⟨⟨x2, y2, z2⟩, d2⟩ := x'
    dsimp only at i1 hto hts
    subst i1
    subst hto
    subst hts
    dsimp only [txV] at cp
    refine loopV ?_
    have hz : True := trivial
    have hy := yieldedV_eq
    have hL := True.intro
    repeat' (first | (refine WPV.seqK ?_; intro N hN) | (refine And.intro (hO _ (by kernel_rfl)) ?_; clear hO) | refine gA ?_ | (refine gR (M := noM) ?_; intro N hN ops hy) | (refine gDG (M := noM) ?_; intro N hN ops hy hO) | (refine WPV.condK ?_; intro A hA B hB) | (refine here ?_; refine sS ?_) | refine Both.mk ?_ ?_ | ((with_reducible refine CallO.gd 28 ?_); refine CallO.toB Tryd.call28 (cr _) ?_) | ((with_reducible refine CallO.gd 31 ?_); refine CallO.frB [] Tryd.call31 (cg) ?_) | ((with_reducible refine CallO.gd 32 ?_); refine CallO.frB [2, 3, 4, 5, 6] Tryd.call32 (cc) ?_) | ((with_reducible refine CallO.gd 27 ?_); first | refine CallO.frB [2, 3, 4, 5, 6] Tryd.call27 (cp) ?_ | refine CallO.frB [9, 10, 11, 12, 13] Tryd.call27 (cp) ?_ | refine CallO.frB [14, 15, 16, 17, 18] Tryd.call27 (cp) ?_) | ((with_reducible refine CallO.gd 33 ?_); first | refine CallO.frB [2, 3, 4, 5, 6] Tryd.call33 (cx) ?_ | refine CallO.frB [2, 3, 4, 19, 20] Tryd.call33 (cy) ?_ | refine CallO.frB [9, 10, 11, 21, 22] Tryd.call33 (cy) ?_ | refine CallO.frB [14, 15, 16, 23, 24] Tryd.call33 (cy) ?_) | ((with_reducible refine CallO.gd 34 ?_); refine CallO.frB [] Tryd.call34 (ck) ?_) | ((with_reducible refine CallO.gd 21 ?_); refine CallO.toB Tryd.call21 (vsame_g fr _) ?_) | ((with_reducible refine CallP.gd 28 ?_); refine CallP.toB Tryd.call28 (cr _) ?_) | ((with_reducible refine CallP.gd 21 ?_); refine CallP.toB Tryd.call21 (vsame_g fr _) ?_) | (refine hN _ ?_; try clear hN N; try clear hy ops) | (refine hA ?_; clear hA A hB B; try simp only [hz]) | (refine hB ?_; clear hA A hB B; try simp only [hz]) | (refine gG ?_ ?_ <;> (intro hz; have h := nm hz; try (exfalso; omega)) <;> (have hz := nz hz; try subst hz)) | (rw [if_pos (show _ ∧ _ from ⟨by omega, by omega⟩)]; refine sS ?_) | refine gT ?_ | (clear hN N))
    all_goals (first | exact retZ hQ Tryd.results7 (Desc.re [] rfl) | exact retZN hQ Tryd.results7 (Desc.re [] rfl))
end Go.Proofs.YtgfnpcmehnjopaaDoor
end
section
namespace Go.Proofs.YtgfnpcmehnjopaaDoor
open Go Go.RowKit
set_option linter.unusedVariables false
set_option linter.unusedSimpArgs false
variable {K : Nat → Obj → Prop}
def aT : Tx := ⟨1, 1, ⟨0, 0, 0⟩, [⟨⟨#[97]⟩, ⟨#[120]⟩, false⟩]⟩
def aH : Shd := ⟨1, 0, 1⟩
def aW : Wtr := ⟨1, 1, Cod.new⟩
structure SAw (hd P : List UInt8) (w1 : Wtr) : Prop where
  wh : wrapF (headB aH) = (hd, 0)
  p2 : aW.put ⟨1, 2, ⟨0, 1, 0⟩, []⟩ = (([], 6), aW)
  p1 : aW.put aT = ((P, 0), w1)
  p3 : w1.put ⟨1, 3, ⟨0, 0, 0⟩, []⟩ = (([], 11), w1)
  lh : hd.length = 8
  th : hd.take 4 = [3, 1, 0, 1]
  lP : P.length = 16
  hP : P[0]? = some 11
  rd : segRead (hd ++ P ++ [UInt8.ofNat 7]) = (aH, [aT], 24, 2)
  rn : segRead [] = (.z, [], 0, 2)
  g1 : goesGo aW [aT] = some w1
  g2 : goesGo aW [aT, aT] = none
  ok : w1.c.d.Ok
  r : rightF w1.c.c = true
  wn : w1.n = 2
theorem saw : ∃ hd P w1, SAw hd P w1 := by
  have eh : headB aH = [1, 0, 1] := by decide +kernel
  have ht : (tputF dpF Cod.new aT).1 = ([1, 1, 0, 0, 0, 1, 0, 1, 97, 2, 120], 0) := by decide +kernel
  have v3 : vput 3 = [3] := by decide +kernel
  have v11 : vput 11 = [11] := by decide +kernel
  have wh := wrapF_small (p := headB aH) (by rw [eh]; decide)
  rw [eh] at wh
  have w1 : wrapF (tputF dpF Cod.new aT).1.1 = (sealF [11, 1, 1, 0, 0, 0, 1, 0, 1, 97, 2, 120], 0) := by
    rw [ht]; have := wrapF_small (p := [1, 1, 0, 0, 0, 1, 0, 1, 97, 2, 120]) (by decide)
    rw [this]; simp [v11]
  have c1 : checkF aT = 0 := by decide +kernel
  have p1 : aW.put aT = ((sealF [11, 1, 1, 0, 0, 0, 1, 0, 1, 97, 2, 120], 0), ⟨1, 2, (tputF dpF Cod.new aT).2⟩) := by
    unfold Wtr.put
    rw [if_neg (by rw [c1]; simp), if_neg (by decide)]
    show (wrapF (tputF dpF Cod.new aT).1.1, _) = _
    rw [w1]; rfl
  have hok := tput_ok (x := Cod.new) .nw aT
  have hr := tput_r (x := Cod.new) r_new aT
  have hc : segChk aH = 0 := by decide
  have L : Laid aH [aT] [sealF [11, 1, 1, 0, 0, 0, 1, 0, 1, 97, 2, 120]] ⟨1, 2, (tputF dpF Cod.new aT).2⟩ := .snoc .nil p1
  have hd8 : (sealF (vput 3 ++ [1, 0, 1])).length = 8 := by rw [sealF_len, v3]; rfl
  have hP16 : (sealF [11, 1, 1, 0, 0, 0, 1, 0, 1, 97, 2, 120]).length = 16 := by rw [sealF_len]; rfl
  refine ⟨sealF (vput 3 ++ [1, 0, 1]), sealF [11, 1, 1, 0, 0, 0, 1, 0, 1, 97, 2, 120], ⟨1, 2, (tputF dpF Cod.new aT).2⟩, ?_⟩
  generalize (tputF dpF Cod.new aT).2 = x1 at *
  have rdL := L.read (sealF (vput 3 ++ [1, 0, 1])) [UInt8.ofNat 7] 25
  refine ⟨by rw [eh]; exact wh, ?_, p1, ?_, hd8, ?_, hP16, ?_, ?_, ?_, ?_, ?_, hok, hr, rfl⟩
  · unfold Wtr.put
    rw [if_neg (show ¬ checkF ⟨1, 2, ⟨0, 1, 0⟩, []⟩ ≠ 0 by decide +kernel), if_pos (by decide)]
  · unfold Wtr.put
    have : checkF ⟨1, 3, ⟨0, 0, 0⟩, []⟩ = 11 := by decide +kernel
    rw [if_pos (by rw [this]; decide), this]
  · rw [v3]; rfl
  · rfl
  · generalize hA : sealF (vput 3 ++ [1, 0, 1]) = A at *
    generalize hB : sealF [11, 1, 1, 0, 0, 0, 1, 0, 1, 97, 2, 120] = B at *
    simp only [List.flatten_cons, List.flatten_nil, List.append_nil] at rdL
    have hn := nextF_frame (p := headB aH) (f := A) (by rw [eh]; exact wh) (B ++ [UInt8.ofNat 7])
    have hl : (A ++ (B ++ [UInt8.ofNat 7])).length + 1 = 25 + [aT].length := by simp only [List.length_append, hd8, hP16]; rfl
    have hdr : (A ++ (B ++ [UInt8.ofNat 7])).drop (A.length + B.length) = [UInt8.ofNat 7] := by
      rw [← List.append_assoc, ← List.length_append, List.drop_left]
    have h7 : nextF [UInt8.ofNat 7] = ([], 0, 2) := by decide +kernel
    rw [segGo_err (k := 24) (p := []) (n := 0) (e := 2) (by simp only [List.length_append, List.length_cons, List.length_nil]; omega) (by rw [hdr]; exact h7) (by decide)] at rdL
    unfold segRead
    rw [List.append_assoc, hn]
    dsimp only
    rw [if_neg (by simp), head_back hc]
    dsimp only
    rw [if_neg (by simp), hl, rdL, hd8, hP16]
  · have h0 : nextF [] = ([], 0, 2) := by decide +kernel
    unfold segRead
    rw [h0]; rfl
  · exact L.goes
  · show (if (aW.put aT).1.2 ≠ 0 then none else goesGo (aW.put aT).2 [aT]) = none
    rw [p1]
    show goesGo ⟨1, 2, x1⟩ [aT] = none
    show (if (Wtr.put ⟨1, 2, x1⟩ aT).1.2 ≠ 0 then none else _) = none
    have : Wtr.put ⟨1, 2, x1⟩ aT = (([], 6), ⟨1, 2, x1⟩) := by
      unfold Wtr.put
      rw [if_neg (by rw [c1]; simp), if_pos (show aT.o ≠ 1 ∨ aT.s ≠ 2 by decide)]
    rw [this]; rfl
set_option maxRecDepth 100000 in
set_option maxHeartbeats 40000000 in
theorem awake09_s (hK : KT K) : Sp Tryd.prog K 24 [] [] fun u hh => u = .sc (.bool true) ∧ hh = [] := by
  obtain ⟨hd, P, w1, wh, p2, p1, p3, lh, th, lP, hP, rd, rn, g1, g2, ok, hr, wn⟩ := saw
  have cn := snew_ok hK aH (by decide) wh
  have cn3 := snew_no (K := K) ⟨3, 0, 1⟩ (by decide) []
  have cp2 := sput_e hK p2 .nw r_new (by decide)
  have cp1 := sput_e hK p1 .nw r_new (by decide)
  have cp3 := sput_e hK p3 ok hr (by decide)
  have cc := scopy_s (K := K) w1 ok.len
  have cr := Sp.lift (sread_s hK (hd ++ P ++ [UInt8.ofNat 7]) (by simp only [List.length_append, lh, lP]; decide)) (fun _ => rfl) (fun _ => rfl)
  rw [rd] at cr
  have cr0 := Sp.lift (sread_s hK [] (by decide)) (fun _ => rfl) (fun _ => rfl)
  rw [rn] at cr0
  have cg1 := sgoes_s hK aH (by decide) [aT] (by decide) (by decide)
  have cg2 := sgoes_s hK aH (by decide) [aT, aT] (by decide) (by decide)
  rw [show Wtr.new aH = aW from rfl, g1] at cg1
  rw [show Wtr.new aH = aW from rfl, g2] at cg2
  have cs := fun h => vsame_s (K := K) (hd.take 4) [3, 1, 0, 1] h
  rw [show decide (hd.take 4 = [3, 1, 0, 1]) = true from decide_eq_true th] at cs
  have ct := fun h => Sp.lift (rtxns_t (K := K) [aT] (by decide) (by decide)) (fun _ => rfl) (fun _ => rfl) h
  have ck := fun h => segchk_s (K := K) ⟨0, 0, 0⟩ h
  rw [show segChk ⟨0, 0, 0⟩ = 1 by decide] at ck
  rw [show segChk ⟨3, 0, 1⟩ = 9 by decide] at cn3
  have cx := snext_s (K := K) w1
  have q1 : (hd ++ P).length = 24 := by rw [List.length_append, lh, lP]
  have hP2 : (bs P)[0]? = some [D.sc (.int .u8 11)] := by rw [bs_get, hP]; rfl
  rw [wn] at cx
  obtain ⟨wo, w2, ⟨⟨x, y, z⟩, d⟩⟩ := w1
  dsimp only at wn
  subst wn
  dsimp only [rdV, aH, aT, aW, goesV, goesH, txV, Shd.z, txs, Tx.d, wrl, Wr.d, List.map] at *
  clear wh p2 p1 p3 rd rn g1 g2 th
  refine Sp.of_bodyE Tryd.func24 rfl ?_
  intro Q hQ
  simp only [List.replicate, List.length_cons, List.length_nil, Tryd.ntmps24, Nat.reduceAdd, Nat.reduceSub, List.cons_append, List.nil_append, go_sem]
  have hz : True := trivial
  have hy := yieldedV_eq
  have hL := And.intro @lh (And.intro @lP (And.intro @hP2 (@q1)))
  repeat' (first | (refine WPV.seqK ?_; intro N hN) | (refine And.intro (hO _ (by kernel_rfl)) ?_; clear hO) | refine gA ?_ | (refine gR (M := noM) ?_; intro N hN ops hy) | (refine gDG (M := noM) ?_; intro N hN ops hy hO) | (refine WPV.condK ?_; intro A hA B hB) | (refine here ?_; refine sS ?_) | refine Both.mk ?_ ?_ | ((with_reducible refine CallO.gd 26 ?_); first | refine CallO.frB [] Tryd.call26 (cn) ?_ | refine CallO.frB [] Tryd.call26 (cn3) ?_) | ((with_reducible refine CallO.gd 27 ?_); first | refine CallO.frB [2, 3, 4, 5, 6] Tryd.call27 (cp2) ?_ | refine CallO.frB [2, 3, 4, 7, 8] Tryd.call27 (cp1) ?_ | refine CallO.frB [2, 3, 4, 9, 10] Tryd.call27 (cp3) ?_) | ((with_reducible refine CallO.gd 32 ?_); refine CallO.frB [2, 3, 4, 11, 12] Tryd.call32 (cc) ?_) | ((with_reducible refine CallO.gd 28 ?_); first | refine CallO.toB Tryd.call28 (cr _) ?_ | refine CallO.toB Tryd.call28 (cr0 _) ?_) | ((with_reducible refine CallO.gd 31 ?_); first | refine CallO.frB [] Tryd.call31 (cg1) ?_ | refine CallO.frB [] Tryd.call31 (cg2) ?_) | ((with_reducible refine CallO.gd 21 ?_); refine CallO.toB Tryd.call21 (cs _) ?_) | ((with_reducible refine CallO.gd 29 ?_); refine CallO.toB Tryd.call29 (ct _) ?_) | ((with_reducible refine CallO.gd 63 ?_); refine CallO.toB Tryd.call63 (ck _) ?_) | ((with_reducible refine CallO.gd 33 ?_); first | refine CallO.frB [2, 3, 4, 11, 12] Tryd.call33 (cx) ?_ | refine CallO.frB [13, 14, 15, 16, 17] Tryd.call33 (cx) ?_ | refine CallO.frB [23, 24, 25, 26, 27] Tryd.call33 (cx) ?_) | ((with_reducible refine CallP.gd 28 ?_); first | refine CallP.toB Tryd.call28 (cr _) ?_ | refine CallP.toB Tryd.call28 (cr0 _) ?_) | ((with_reducible refine CallP.gd 21 ?_); refine CallP.toB Tryd.call21 (cs _) ?_) | ((with_reducible refine CallP.gd 29 ?_); refine CallP.toB Tryd.call29 (ct _) ?_) | ((with_reducible refine CallP.gd 63 ?_); refine CallP.toB Tryd.call63 (ck _) ?_) | (refine hN _ ?_; try clear hN N; try clear hy ops) | (refine hA ?_; clear hA A hB B; try simp only [hz]) | (refine hB ?_; clear hA A hB B; try simp only [hz]) | (refine gG ?_ ?_ <;> (intro hz; have h := nm hz; try (exfalso; omega)) <;> (have hz := nz hz; try subst hz)) | (rw [if_pos (show _ ∧ _ from ⟨by omega, by omega⟩)]; refine sS ?_) | refine gT ?_ | (clear hN N))
  all_goals (first | exact retZ hQ Tryd.results24 (Desc.re [] rfl) | exact retZN hQ Tryd.results24 (Desc.re [] rfl))
end Go.Proofs.YtgfnpcmehnjopaaDoor
end
section
namespace Go.Proofs.YtgfnpcmehnjopaaDoor
open Go Go.RowKit
set_option linter.unusedVariables false
set_option linter.unusedSimpArgs false
def KW (W : World) : Nat → Obj → Prop := fun b x => b = 1 ∧ W.heap[b]? = some x
abbrev FT (W : World) : Fr := ⟨fun _ _ => False, KW W⟩
theorem DenD.kn {F F' : Fr} {φ : List Pl} {w : World} {r : Value} {x : D} (hs : F'.shut = F.shut) (h : DenD F φ w r x) : DenD F' φ w r x := by
  induction h with
  | sc h => exact .sc h
  | nil => exact .nil
  | sl c hn hcap hk hc hd ih => exact .sl c hn hcap hk (fun i j hi hj => by have := hc i j hi hj; unfold cellP prot at this ⊢; rw [hs]; exact this) ih
theorem Den.kn {W w : World} {φ : List Pl} {r : Value} {x : D} (h : Den F0 φ w r (.d x)) : Den (FT W) φ w r (.d x) := by
  cases h with
  | d h => exact .d (DenD.kn (F := F0) rfl h)
theorem kt_tab {W : World} (ht : Tab W) : KT (KW W) := by
  have h0 := ht 0 (by decide)
  unfold World.cell? at h0
  dsimp only at h0
  split at h0
  · rename_i arr T fr hb
    refine ⟨arr, T, fr, ⟨rfl, hb⟩, fun i hi => ?_⟩
    have := ht i hi
    unfold World.cell? at this
    dsimp only at this
    rw [hb] at this
    simpa using this
  · cases h0
theorem Inv.kw (W : World) : Inv (FT W) [] W [] :=
  ⟨rfl, fun i p o h => by simp at h, fun i j p q b h => by simp at h, fun b o h => h.elim, fun i p b o h => by simp at h, fun b x h => ⟨h.2, fun i p h => by simp at h⟩⟩
theorem Sp.runT {P : Program} {f : FuncId} {vs : List V} {R : V → List Ho → Prop} {w : World} {args : Array Value} (hs : Sp P (KW w) f vs [] R) (hd : DenL (FT w) [] w args.toList vs) :
    Calls P f args w fun e w' => ∃ u v h', e = .returned u ∧ Below w.heap.size w w' ∧ (∃ F φ, Den F φ w' u v) ∧ R v h' := by
  refine (hs _ _ w args rfl (Inv.kw w) hd).mono ?_
  rintro e w' ⟨u, φ', v, h', rfl, he, hi, hd, hr⟩
  exact ⟨u, v, h', rfl, he.below, ⟨_, _, hd⟩, hr⟩
end Go.Proofs.YtgfnpcmehnjopaaDoor
end
