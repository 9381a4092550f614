/- Parts of the proofs, joined: MalP, MalS, MlrP, MalR, MlrC, MlrU, MlrT. -/
import Derived.Test.YtgfnpcmehnjopaaGreatDoorT15
section
namespace Go.Proofs.YtgfnpcmehnjopaaGreatDoor
open Go Go.RowKit
set_option linter.unusedVariables false
set_option linter.unusedSimpArgs false
variable {K : Nat → Obj → Prop}
abbrev msgC (m : Msg) : List V := [.sc (.int .i64 m.k), .sc (.int .i64 m.o), .sc (.int .i64 m.f), .sc (.int .i64 m.t), .sl 6 (txs m.l)]
abbrev kindsV : V := .agg [.sc .nilFunc, .sc .nilFunc, .sc .nilFunc, .fn 38 [], .fn 39 [], .fn 41 [], .fn 43 [], .fn 44 [], .fn 46 [], .fn 48 [], .fn 49 [], .fn 50 []]
set_option maxRecDepth 100000 in
set_option maxHeartbeats 1000000 in
theorem kinds_s (h : List Ho) : Sp Tryz.prog K 20 [] h fun u hh => u = kindsV ∧ hh = h := by
  refine Sp.lift (vs := []) ?_ (fun _ => rfl) (fun _ => rfl) h
  refine Sp.of_bodyE Tryz.func20 rfl ?_
  intro Q hQ
  simp only [List.replicate, List.length_cons, List.length_nil, Tryz.ntmps20, Nat.reduceAdd, Nat.reduceSub, List.cons_append, List.nil_append, go_sem]
  have hz : True := trivial
  have hy := yieldedV_eq
  have hL := True.intro
  repeat' (first | (refine WPV.seqK ?_; intro N hN) | (refine And.intro (hO _ (by kernel_rfl)) ?_; clear hO) | refine gA ?_ | (refine gR (M := noM) ?_; intro N hN ops hy) | (refine gDG (M := noM) ?_; intro N hN ops hy hO) | (refine WPV.condK ?_; intro A hA B hB) | (refine here ?_; refine sS ?_) | refine Both.mk ?_ ?_ | (refine hN _ ?_; try clear hN N; try clear hy ops) | (refine hA ?_; clear hA A hB B; try simp only [hz]) | (refine hB ?_; clear hA A hB B; try simp only [hz]) | (refine gG ?_ ?_ <;> (intro hz; have h := nm hz; try (exfalso; omega)) <;> (have hz := nz hz; try subst hz)) | (rw [if_pos (show _ ∧ _ from ⟨by omega, by omega⟩)]; refine sS ?_) | refine gT ?_ | (clear hN N))
  all_goals (first | exact retZ hQ Tryz.results20 (Desc.re [] rfl) | exact retZN hQ Tryz.results20 (Desc.re [] rfl))
set_option maxRecDepth 100000 in
theorem mwithin_s (n least : Int) (h : List Ho) : Sp Tryz.prog K 67 [.sc (.int .i64 n), .sc (.int .i64 least)] h fun u hh => u = .sc (.bool (decide (least ≤ n ∧ n ≤ 4611686018427387903))) ∧ hh = h := by
  refine Sp.lift (vs := [.sc (.int .i64 n), .sc (.int .i64 least)]) ?_ (fun _ => rfl) (fun _ => rfl) h
  refine Sp.of_bodyE Tryz.func67 rfl ?_
  intro Q hQ
  simp only [List.replicate, List.length_cons, List.length_nil, Tryz.ntmps67, Nat.reduceAdd, Nat.reduceSub, List.cons_append, List.nil_append, go_sem]
  have hz : True := trivial
  have hy := yieldedV_eq
  have hL := True.intro
  repeat' (first | (refine WPV.seqK ?_; intro N hN) | (refine And.intro (hO _ (by kernel_rfl)) ?_; clear hO) | refine gA ?_ | (refine gR (M := noM) ?_; intro N hN ops hy) | (refine gDG (M := noM) ?_; intro N hN ops hy hO) | (refine WPV.condK ?_; intro A hA B hB) | (refine here ?_; refine sS ?_) | refine Both.mk ?_ ?_ | (refine hN _ ?_; try clear hN N; try clear hy ops) | (refine hA ?_; clear hA A hB B; try simp only [hz]) | (refine hB ?_; clear hA A hB B; try simp only [hz]) | (refine gG ?_ ?_ <;> (intro hz; have h := nm hz; try (exfalso; omega)) <;> (have hz := nz hz; try subst hz)) | (rw [if_pos (show _ ∧ _ from ⟨by omega, by omega⟩)]; refine sS ?_) | refine gT ?_ | (clear hN N))
  all_goals (first | exact retZ hQ Tryz.results67 (Desc.re [] rfl) | exact retZN hQ Tryz.results67 (Desc.re [] rfl))
set_option maxRecDepth 100000 in
set_option maxHeartbeats 1000000 in
theorem mack_s (m : Msg) (hl : m.l.length ≤ 9223372036854775807) : Sp Tryz.prog K 43 [msgV m] [] fun u hh => u = .sc (.int .i64 (mack m)) ∧ hh = [] := by
  obtain ⟨k, o, f, t, l⟩ := m
  unfold mack
  dsimp only at hl ⊢
  refine Sp.of_bodyE Tryz.func43 rfl ?_
  intro Q hQ
  simp only [List.replicate, List.length_cons, List.length_nil, Tryz.ntmps43, Nat.reduceAdd, Nat.reduceSub, List.cons_append, List.nil_append, go_sem]
  have hz : True := trivial
  have hy := yieldedV_eq
  have hL := True.intro
  repeat' (first | (refine WPV.seqK ?_; intro N hN) | (refine And.intro (hO _ (by kernel_rfl)) ?_; clear hO) | refine gA ?_ | (refine gR (M := noM) ?_; intro N hN ops hy) | (refine gDG (M := noM) ?_; intro N hN ops hy hO) | (refine WPV.condK ?_; intro A hA B hB) | (refine here ?_; refine sS ?_) | refine Both.mk ?_ ?_ | ((with_reducible refine CallO.gd 67 ?_); refine CallO.toB Tryz.call67 (mwithin_s _ _ _) ?_) | ((with_reducible refine CallP.gd 67 ?_); refine CallP.toB Tryz.call67 (mwithin_s _ _ _) ?_) | (refine hN _ ?_; try clear hN N; try clear hy ops) | (refine hA ?_; clear hA A hB B; try simp only [hz]) | (refine hB ?_; clear hA A hB B; try simp only [hz]) | (refine gG ?_ ?_ <;> (intro hz; have h := nm hz; try (exfalso; omega)) <;> (have hz := nz hz; try subst hz)) | (rw [if_pos (show _ ∧ _ from ⟨by omega, by omega⟩)]; refine sS ?_) | refine gT ?_ | (clear hN N))
  all_goals (first | exact retZ hQ Tryz.results43 (Desc.re [] rfl) | exact retZN hQ Tryz.results43 (Desc.re [] rfl))
set_option maxRecDepth 100000 in
set_option maxHeartbeats 1000000 in
theorem mask_s (m : Msg) (hl : m.l.length ≤ 9223372036854775807) : Sp Tryz.prog K 48 [msgV m] [] fun u hh => u = .sc (.int .i64 (mask m)) ∧ hh = [] := by
  obtain ⟨k, o, f, t, l⟩ := m
  unfold mask
  dsimp only at hl ⊢
  refine Sp.of_bodyE Tryz.func48 rfl ?_
  intro Q hQ
  simp only [List.replicate, List.length_cons, List.length_nil, Tryz.ntmps48, Nat.reduceAdd, Nat.reduceSub, List.cons_append, List.nil_append, go_sem]
  have hz : True := trivial
  have hy := yieldedV_eq
  have hL := True.intro
  repeat' (first | (refine WPV.seqK ?_; intro N hN) | (refine And.intro (hO _ (by kernel_rfl)) ?_; clear hO) | refine gA ?_ | (refine gR (M := noM) ?_; intro N hN ops hy) | (refine gDG (M := noM) ?_; intro N hN ops hy hO) | (refine WPV.condK ?_; intro A hA B hB) | (refine here ?_; refine sS ?_) | refine Both.mk ?_ ?_ | ((with_reducible refine CallO.gd 67 ?_); refine CallO.toB Tryz.call67 (mwithin_s _ _ _) ?_) | ((with_reducible refine CallP.gd 67 ?_); refine CallP.toB Tryz.call67 (mwithin_s _ _ _) ?_) | (refine hN _ ?_; try clear hN N; try clear hy ops) | (refine hA ?_; clear hA A hB B; try simp only [hz]) | (refine hB ?_; clear hA A hB B; try simp only [hz]) | (refine gG ?_ ?_ <;> (intro hz; have h := nm hz; try (exfalso; omega)) <;> (have hz := nz hz; try subst hz)) | (rw [if_pos (show _ ∧ _ from ⟨by omega, by omega⟩)]; refine sS ?_) | refine gT ?_ | (clear hN N))
  all_goals (first | exact retZ hQ Tryz.results48 (Desc.re [] rfl) | exact retZN hQ Tryz.results48 (Desc.re [] rfl))
def tidx (o : Int) : List Tx → Nat → Int
  | [], _ => -1
  | a :: l, k => if a.o ≠ o then (k : Int) else tidx o l (k + 1)
theorem tidx_any (o : Int) : ∀ (l : List Tx) (k : Nat), decide (0 ≤ tidx o l k) = otherO o l
  | [], k => by simp [tidx, otherO]
  | a :: l, k => by
    unfold tidx
    have e : otherO o (a :: l) = (decide (a.o ≠ o) || otherO o l) := rfl
    rw [e]
    by_cases h : a.o ≠ o
    · rw [if_pos h]; simp [h]
    · rw [if_neg h, tidx_any o l (k + 1)]; simp [Decidable.not_not.1 h]
set_option maxRecDepth 100000 in
theorem data1_s (t : Tx) (m : Msg) : Sp Tryz.prog K 62 [txV t, .ptr 0 0] [.cells (msgC m)] fun u hh => u = .sc (.bool (decide (t.o ≠ m.o))) ∧ hh = [.cells (msgC m)] := by
  obtain ⟨o, s, ⟨x, y, z⟩, w⟩ := t
  refine Sp.of_bodyE Tryz.func62 rfl ?_
  intro Q hQ
  simp only [List.replicate, List.length_cons, List.length_nil, Tryz.ntmps62, Nat.reduceAdd, Nat.reduceSub, List.cons_append, List.nil_append, go_sem]
  have hz : True := trivial
  have hy := yieldedV_eq
  have hL := True.intro
  repeat' (first | (refine WPV.seqK ?_; intro N hN) | (refine And.intro (hO _ (by kernel_rfl)) ?_; clear hO) | refine gA ?_ | (refine gR (M := noM) ?_; intro N hN ops hy) | (refine gDG (M := noM) ?_; intro N hN ops hy hO) | (refine WPV.condK ?_; intro A hA B hB) | (refine here ?_; refine sS ?_) | refine Both.mk ?_ ?_ | (refine hN _ ?_; try clear hN N; try clear hy ops) | (refine hA ?_; clear hA A hB B; try simp only [hz]) | (refine hB ?_; clear hA A hB B; try simp only [hz]) | (refine gG ?_ ?_ <;> (intro hz; have h := nm hz; try (exfalso; omega)) <;> (have hz := nz hz; try subst hz)) | (rw [if_pos (show _ ∧ _ from ⟨by omega, by omega⟩)]; refine sS ?_) | refine gT ?_ | (clear hN N))
  all_goals (first | exact retZ hQ Tryz.results62 (Desc.re [some 0] rfl) | exact retZN hQ Tryz.results62 (Desc.re [some 0] rfl))
set_option maxRecDepth 100000 in
set_option maxHeartbeats 2000000 in
theorem dataI_s (m : Msg) (l : List Tx) (hl : l.length ≤ 9223372036854775807) : Sp Tryz.prog K 76 [.sl 6 (txs l), .fn 62 [.ptr 0 0]] [.cells (msgC m)] fun u hh => u = .sc (.int .i64 (tidx m.o l 0)) ∧ hh = [.cells (msgC m)] := by
  have hget := True.intro
  have cd := True.intro
  refine Sp.of_bodyE Tryz.func76 rfl ?_
  intro Q hQ
  simp only [List.replicate, List.length_cons, List.length_nil, Tryz.ntmps76, Nat.reduceAdd, Nat.reduceSub, List.cons_append, List.nil_append, go_sem]
  have hz : True := trivial
  have hy := yieldedV_eq
  have hL := @hget
  repeat' (first | (refine WPV.seqK ?_; intro N hN) | (refine And.intro (hO _ (by kernel_rfl)) ?_; clear hO) | refine gA ?_ | (refine gR (M := noM) ?_; intro N hN ops hy) | (refine gDG (M := noM) ?_; intro N hN ops hy hO) | (refine WPV.condK ?_; intro A hA B hB) | (refine here ?_; refine sS ?_) | refine Both.mk ?_ ?_ | ((with_reducible refine CallO.gd 62 ?_); refine CallO.frB [0] Tryz.call62 (cd) ?_) | (refine hN _ ?_; try clear hN N; try clear hy ops) | (refine hA ?_; clear hA A hB B; try simp only [hz]) | (refine hB ?_; clear hA A hB B; try simp only [hz]) | (refine gG ?_ ?_ <;> (intro hz; have h := nm hz; try (exfalso; omega)) <;> (have hz := nz hz; try subst hz)) | (rw [if_pos (show _ ∧ _ from ⟨by omega, by omega⟩)]; refine sS ?_) | refine gT ?_ | (clear hN N))
  clear hget cd
  refine WPV.loopW (α := Nat) (fun k => l.length - k) (fun k => ⟨[.sl 6 (txs l), .fn 62 [.ptr 0 0], .any, .any, .any, .any, .any, .sc (.int .i64 (l.length : Int)), .sc (.int .i64 ((k : Nat) : Int)), .any, .any, .any, .any, .any, .any, .any, .any, .any, .any], [.cells (msgC m)]⟩) (fun k => k ≤ l.length ∧ tidx m.o l 0 = tidx m.o (l.drop k) k) 0 Desc.weakA ⟨Nat.zero_le _, rfl⟩ (fun k hJ H => ?_)
  obtain ⟨j1, j2⟩ := hJ
  by_cases h : k < l.length
  · obtain ⟨a, hg0⟩ : ∃ a, l[k] = a := ⟨_, rfl⟩
    have hget : l[k]? = some a := by rw [← hg0]; exact List.getElem?_eq_getElem h
    have cd := data1_s (K := K) a m
    rw [List.drop_eq_getElem_cons h, hg0, tidx] at j2
    obtain ⟨ao, as_, ⟨x, y, z⟩, w⟩ := a
    dsimp only [txV] at cd j2
    by_cases hb : ao ≠ m.o
    · rw [if_pos hb] at j2
      rw [j2] at hQ
      rw [decide_eq_true hb] at cd
      clear H hg0 j2
      refine loopV ?_
      have hz : True := trivial
      have hy := yieldedV_eq
      have hL := @hget
      repeat' (first | (refine WPV.seqK ?_; intro N hN) | (refine And.intro (hO _ (by kernel_rfl)) ?_; clear hO) | refine gA ?_ | (refine gR (M := noM) ?_; intro N hN ops hy) | (refine gDG (M := noM) ?_; intro N hN ops hy hO) | (refine WPV.condK ?_; intro A hA B hB) | (refine here ?_; refine sS ?_) | refine Both.mk ?_ ?_ | ((with_reducible refine CallO.gd 62 ?_); refine CallO.frB [0] Tryz.call62 (cd) ?_) | (refine hN _ ?_; try clear hN N; try clear hy ops) | (refine hA ?_; clear hA A hB B; try simp only [hz]) | (refine hB ?_; clear hA A hB B; try simp only [hz]) | (refine gG ?_ ?_ <;> (intro hz; have h := nm hz; try (exfalso; omega)) <;> (have hz := nz hz; try subst hz)) | (rw [if_pos (show _ ∧ _ from ⟨by omega, by omega⟩)]; refine sS ?_) | refine gT ?_ | (clear hN N))
      all_goals (first | exact retZ hQ Tryz.results76 (Desc.re [some 0] rfl) | exact retZN hQ Tryz.results76 (Desc.re [some 0] rfl))
    · rw [if_neg hb] at j2
      rw [decide_eq_false hb] at cd
      have H' := H (k + 1) ⟨h, j2⟩ (by omega)
      clear H hg0 j2
      refine loopV ?_
      have hz : True := trivial
      have hy := yieldedV_eq
      have hL := @hget
      repeat' (first | (refine WPV.seqK ?_; intro N hN) | (refine And.intro (hO _ (by kernel_rfl)) ?_; clear hO) | refine gA ?_ | (refine gR (M := noM) ?_; intro N hN ops hy) | (refine gDG (M := noM) ?_; intro N hN ops hy hO) | (refine WPV.condK ?_; intro A hA B hB) | (refine here ?_; refine sS ?_) | refine Both.mk ?_ ?_ | ((with_reducible refine CallO.gd 62 ?_); refine CallO.frB [0] Tryz.call62 (cd) ?_) | (refine hN _ ?_; try clear hN N; try clear hy ops) | (refine hA ?_; clear hA A hB B; try simp only [hz]) | (refine hB ?_; clear hA A hB B; try simp only [hz]) | (refine gG ?_ ?_ <;> (intro hz; have h := nm hz; try (exfalso; omega)) <;> (have hz := nz hz; try subst hz)) | (rw [if_pos (show _ ∧ _ from ⟨by omega, by omega⟩)]; refine sS ?_) | refine gT ?_ | (clear hN N))
      all_goals (exact rndZ (Desc.re [some 0] rfl) (H'))
  · obtain rfl : k = l.length := by omega
    rw [List.drop_length] at j2
    have e : tidx m.o l 0 = -1 := j2
    rw [e] at hQ
    clear H j2 e
    refine loopV ?_
    have hz : True := trivial
    have hy := yieldedV_eq
    have hL := True.intro
    repeat' (first | (refine WPV.seqK ?_; intro N hN) | (refine And.intro (hO _ (by kernel_rfl)) ?_; clear hO) | refine gA ?_ | (refine gR (M := noM) ?_; intro N hN ops hy) | (refine gDG (M := noM) ?_; intro N hN ops hy hO) | (refine WPV.condK ?_; intro A hA B hB) | (refine here ?_; refine sS ?_) | refine Both.mk ?_ ?_ | (refine hN _ ?_; try clear hN N; try clear hy ops) | (refine hA ?_; clear hA A hB B; try simp only [hz]) | (refine hB ?_; clear hA A hB B; try simp only [hz]) | (refine gG ?_ ?_ <;> (intro hz; have h := nm hz; try (exfalso; omega)) <;> (have hz := nz hz; try subst hz)) | (rw [if_pos (show _ ∧ _ from ⟨by omega, by omega⟩)]; refine sS ?_) | refine gT ?_ | (clear hN N))
    all_goals (first | exact retZ hQ Tryz.results76 (Desc.re [some 0] rfl) | exact retZN hQ Tryz.results76 (Desc.re [some 0] rfl))
set_option maxRecDepth 100000 in
theorem dataC_s (m : Msg) (l : List Tx) (hl : l.length ≤ 9223372036854775807) : Sp Tryz.prog K 61 [.sl 6 (txs l), .fn 62 [.ptr 0 0]] [.cells (msgC m)] fun u hh => u = .sc (.bool (otherO m.o l)) ∧ hh = [.cells (msgC m)] := by
  have hq : decide (0 ≤ tidx m.o l 0) = otherO m.o l := tidx_any _ l 0
  refine Sp.of_bodyE Tryz.func61 rfl ?_
  intro Q hQ
  simp only [List.replicate, List.length_cons, List.length_nil, Tryz.ntmps61, Nat.reduceAdd, Nat.reduceSub, List.cons_append, List.nil_append, go_sem]
  have hz : True := trivial
  have hy := yieldedV_eq
  have hL := @hq
  repeat' (first | (refine WPV.seqK ?_; intro N hN) | (refine And.intro (hO _ (by kernel_rfl)) ?_; clear hO) | refine gA ?_ | (refine gR (M := noM) ?_; intro N hN ops hy) | (refine gDG (M := noM) ?_; intro N hN ops hy hO) | (refine WPV.condK ?_; intro A hA B hB) | (refine here ?_; refine sS ?_) | refine Both.mk ?_ ?_ | ((with_reducible refine CallO.gd 76 ?_); refine CallO.frB [0] Tryz.call76 (dataI_s m l hl) ?_) | (refine hN _ ?_; try clear hN N; try clear hy ops) | (refine hA ?_; clear hA A hB B; try simp only [hz]) | (refine hB ?_; clear hA A hB B; try simp only [hz]) | (refine gG ?_ ?_ <;> (intro hz; have h := nm hz; try (exfalso; omega)) <;> (have hz := nz hz; try subst hz)) | (rw [if_pos (show _ ∧ _ from ⟨by omega, by omega⟩)]; refine sS ?_) | refine gT ?_ | (clear hN N))
  all_goals (first | exact retZ hQ Tryz.results61 (Desc.re [some 0] rfl) | exact retZN hQ Tryz.results61 (Desc.re [some 0] rfl))
set_option maxRecDepth 100000 in
set_option maxHeartbeats 4000000 in
theorem mdata_s (m : Msg) (hl : m.l.length ≤ 9223372036854775807) (hw : ∀ t ∈ m.l, t.w.length ≤ 9223372036854775807) : Sp Tryz.prog K 38 [msgV m] [] fun u hh => u = .sc (.int .i64 (mdata m)) ∧ hh = [] := by
  by_cases h0 : m.f ≠ 0 ∨ m.t ≠ 0
  · rw [show mdata m = 3 from if_pos h0]
    obtain ⟨k, o, f, t, l⟩ := m
    dsimp only at h0
    refine Sp.of_bodyE Tryz.func38 rfl ?_
    intro Q hQ
    simp only [List.replicate, List.length_cons, List.length_nil, Tryz.ntmps38, Nat.reduceAdd, Nat.reduceSub, List.cons_append, List.nil_append, go_sem]
    have hz : True := trivial
    have hy := yieldedV_eq
    have hL := True.intro
    repeat' (first | (refine WPV.seqK ?_; intro N hN) | (refine And.intro (hO _ (by kernel_rfl)) ?_; clear hO) | refine gA ?_ | (refine gR (M := noM) ?_; intro N hN ops hy) | (refine gDG (M := noM) ?_; intro N hN ops hy hO) | (refine WPV.condK ?_; intro A hA B hB) | (refine here ?_; refine sS ?_) | refine Both.mk ?_ ?_ | (refine hN _ ?_; try clear hN N; try clear hy ops) | (refine hA ?_; clear hA A hB B; try simp only [hz]) | (refine hB ?_; clear hA A hB B; try simp only [hz]) | (refine gG ?_ ?_ <;> (intro hz; have h := nm hz; try (exfalso; omega)) <;> (have hz := nz hz; try subst hz)) | (rw [if_pos (show _ ∧ _ from ⟨by omega, by omega⟩)]; refine sS ?_) | refine gT ?_ | (clear hN N))
    all_goals (first | exact retZ hQ Tryz.results38 (Desc.re [] rfl) | exact retZN hQ Tryz.results38 (Desc.re [] rfl))
  by_cases h4 : 4 < m.l.length
  · rw [show mdata m = 4 by unfold mdata; rw [if_neg h0, if_pos h4]]
    obtain ⟨k, o, f, t, l⟩ := m
    dsimp only at h0 h4 hl
    refine Sp.of_bodyE Tryz.func38 rfl ?_
    intro Q hQ
    simp only [List.replicate, List.length_cons, List.length_nil, Tryz.ntmps38, Nat.reduceAdd, Nat.reduceSub, List.cons_append, List.nil_append, go_sem]
    have hz : True := trivial
    have hy := yieldedV_eq
    have hL := True.intro
    repeat' (first | (refine WPV.seqK ?_; intro N hN) | (refine And.intro (hO _ (by kernel_rfl)) ?_; clear hO) | refine gA ?_ | (refine gR (M := noM) ?_; intro N hN ops hy) | (refine gDG (M := noM) ?_; intro N hN ops hy hO) | (refine WPV.condK ?_; intro A hA B hB) | (refine here ?_; refine sS ?_) | refine Both.mk ?_ ?_ | (refine hN _ ?_; try clear hN N; try clear hy ops) | (refine hA ?_; clear hA A hB B; try simp only [hz]) | (refine hB ?_; clear hA A hB B; try simp only [hz]) | (refine gG ?_ ?_ <;> (intro hz; have h := nm hz; try (exfalso; omega)) <;> (have hz := nz hz; try subst hz)) | (rw [if_pos (show _ ∧ _ from ⟨by omega, by omega⟩)]; refine sS ?_) | refine gT ?_ | (clear hN N))
    all_goals (first | exact retZ hQ Tryz.results38 (Desc.re [] rfl) | exact retZN hQ Tryz.results38 (Desc.re [] rfl))
  have e0 : mdata m = if firstE m.l ≠ 0 then firstE m.l else if m.l.length = 0 ∨ otherO m.o m.l = true then 1 else if rowF m.l = false then 6 else 0 := by unfold mdata; rw [if_neg h0, if_neg h4]
  have hall := fun h => firstE_all (l := m.l) h
  have cC := dataC_s (K := K) m m.l hl
  have cR := fun h => row_s (K := K) m.l (by omega) h
  rw [e0]
  obtain ⟨mk, o, f, t, l⟩ := m
  dsimp only at h0 h4 hl hw hall cC cR ⊢
  clear e0
  refine Sp.of_bodyE Tryz.func38 rfl ?_
  intro Q hQ
  simp only [List.replicate, List.length_cons, List.length_nil, Tryz.ntmps38, Nat.reduceAdd, Nat.reduceSub, List.cons_append, List.nil_append, go_sem]
  have hz : True := trivial
  have hy := yieldedV_eq
  have hL := True.intro
  repeat' (first | (refine WPV.seqK ?_; intro N hN) | (refine And.intro (hO _ (by kernel_rfl)) ?_; clear hO) | refine gA ?_ | (refine gR (M := noM) ?_; intro N hN ops hy) | (refine gDG (M := noM) ?_; intro N hN ops hy hO) | (refine WPV.condK ?_; intro A hA B hB) | (refine here ?_; refine sS ?_) | refine Both.mk ?_ ?_ | (refine hN _ ?_; try clear hN N; try clear hy ops) | (refine hA ?_; clear hA A hB B; try simp only [hz]) | (refine hB ?_; clear hA A hB B; try simp only [hz]) | (refine gG ?_ ?_ <;> (intro hz; have h := nm hz; try (exfalso; omega)) <;> (have hz := nz hz; try subst hz)) | (rw [if_pos (show _ ∧ _ from ⟨by omega, by omega⟩)]; refine sS ?_) | refine gT ?_ | (clear hN N))
  refine WPV.loopW (α := Nat) (fun k => l.length - k) (fun k => ⟨[.any, .ptr 0 0, .any, .any, .any, .any, .any, .any, .any, .any, .any, .any, .any, .any, .any, .any, .any, .any, .any, .any, .any, .sl 6 (txs l), .sc (.int .i64 (l.length : Int)), .sc (.int .i64 ((k : Nat) : Int)), .any, .any, .any, .any, .any, .any, .any, .any, .any, .any, .any, .any, .any, .any, .any, .any, .any, .any, .any, .any, .any, .any, .any, .any, .any], [.cells [.sc (.int .i64 mk), .sc (.int .i64 o), .sc (.int .i64 f), .sc (.int .i64 t), .sl 6 (txs l)]]⟩) (fun k => k ≤ l.length ∧ firstE l = firstE (l.drop k)) 0 Desc.weakA ⟨Nat.zero_le _, rfl⟩ (fun k hJ H => ?_)
  obtain ⟨j1, j2⟩ := hJ
  by_cases h : k < l.length
  · obtain ⟨a, hg0⟩ : ∃ a, l[k] = a := ⟨_, rfl⟩
    have hget : l[k]? = some a := by rw [← hg0]; exact List.getElem?_eq_getElem h
    have ck := tcheck_s (K := K) a (hw a (hg0 ▸ List.getElem_mem h))
    have e1 : firstE (a :: l.drop (k + 1)) = if checkF a ≠ 0 then checkF a else firstE (l.drop (k + 1)) := rfl
    rw [List.drop_eq_getElem_cons h, hg0, e1] at j2
    clear e1 cC cR hall
    generalize checkF a = q at *
    obtain ⟨ao, as_, ⟨x, y, z⟩, w⟩ := a
    dsimp only [txV] at ck
    by_cases hb : q ≠ 0
    · rw [if_pos hb] at j2
      rw [j2, if_pos hb] at hQ
      clear H hg0 j2
      refine loopV ?_
      have hz : True := trivial
      have hy := yieldedV_eq
      have hL := @hget
      repeat' (first | (refine WPV.seqK ?_; intro N hN) | (refine And.intro (hO _ (by kernel_rfl)) ?_; clear hO) | refine gA ?_ | (refine gR (M := noM) ?_; intro N hN ops hy) | (refine gDG (M := noM) ?_; intro N hN ops hy hO) | (refine WPV.condK ?_; intro A hA B hB) | (refine here ?_; refine sS ?_) | refine Both.mk ?_ ?_ | ((with_reducible refine CallO.gd 60 ?_); refine CallO.frB [] Tryz.call60 (ck) ?_) | (refine hN _ ?_; try clear hN N; try clear hy ops) | (refine hA ?_; clear hA A hB B; try simp only [hz]) | (refine hB ?_; clear hA A hB B; try simp only [hz]) | (refine gG ?_ ?_ <;> (intro hz; have h := nm hz; try (exfalso; omega)) <;> (have hz := nz hz; try subst hz)) | (rw [if_pos (show _ ∧ _ from ⟨by omega, by omega⟩)]; refine sS ?_) | refine gT ?_ | (clear hN N))
      all_goals (first | exact retZ hQ Tryz.results38 (Desc.re [] rfl) | exact retZN hQ Tryz.results38 (Desc.re [] rfl))
    · rw [if_neg hb] at j2
      have hb := Decidable.not_not.1 hb
      subst hb
      have H' := H (k + 1) ⟨h, j2⟩ (by omega)
      clear H hg0 j2
      refine loopV ?_
      have hz : True := trivial
      have hy := yieldedV_eq
      have hL := @hget
      repeat' (first | (refine WPV.seqK ?_; intro N hN) | (refine And.intro (hO _ (by kernel_rfl)) ?_; clear hO) | refine gA ?_ | (refine gR (M := noM) ?_; intro N hN ops hy) | (refine gDG (M := noM) ?_; intro N hN ops hy hO) | (refine WPV.condK ?_; intro A hA B hB) | (refine here ?_; refine sS ?_) | refine Both.mk ?_ ?_ | ((with_reducible refine CallO.gd 60 ?_); refine CallO.frB [] Tryz.call60 (ck) ?_) | (refine hN _ ?_; try clear hN N; try clear hy ops) | (refine hA ?_; clear hA A hB B; try simp only [hz]) | (refine hB ?_; clear hA A hB B; try simp only [hz]) | (refine gG ?_ ?_ <;> (intro hz; have h := nm hz; try (exfalso; omega)) <;> (have hz := nz hz; try subst hz)) | (rw [if_pos (show _ ∧ _ from ⟨by omega, by omega⟩)]; refine sS ?_) | refine gT ?_ | (clear hN N))
      all_goals (exact rndZ (Desc.re [some 0] rfl) (H'))
  · obtain rfl : k = l.length := by omega
    rw [List.drop_length] at j2
    have e : firstE l = 0 := j2
    have hall := hall e
    have cR := cR fun t ht => by have := (check_ok (hall t ht)).2.1; omega
    obtain ⟨i1, e1⟩ := bool_i (otherO o l)
    obtain ⟨i2, e2⟩ := bool_i (rowF l)
    rw [if_neg (by rw [e]; simp)] at hQ
    clear H j2 e hall
    dsimp only [msgC] at cC
    rw [e1] at cC hQ
    rw [e2] at cR hQ
    simp only [decide_eq_true_eq, decide_eq_false_iff_not] at hQ
    clear e1 e2
    refine loopV ?_
    have hz : True := trivial
    have hy := yieldedV_eq
    have hL := True.intro
    repeat' (first | (refine WPV.seqK ?_; intro N hN) | (refine And.intro (hO _ (by kernel_rfl)) ?_; clear hO) | refine gA ?_ | (refine gR (M := noM) ?_; intro N hN ops hy) | (refine gDG (M := noM) ?_; intro N hN ops hy hO) | (refine WPV.condK ?_; intro A hA B hB) | (refine here ?_; refine sS ?_) | refine Both.mk ?_ ?_ | ((with_reducible refine CallO.gd 61 ?_); refine CallO.frB [0] Tryz.call61 (cC) ?_) | ((with_reducible refine CallO.gd 63 ?_); refine CallO.frB [] Tryz.call63 (cR) ?_) | (refine hN _ ?_; try clear hN N; try clear hy ops) | (refine hA ?_; clear hA A hB B; try simp only [hz]) | (refine hB ?_; clear hA A hB B; try simp only [hz]) | (refine gG ?_ ?_ <;> (intro hz; have h := nm hz; try (exfalso; omega)) <;> (have hz := nz hz; try subst hz)) | (rw [if_pos (show _ ∧ _ from ⟨by omega, by omega⟩)]; refine sS ?_) | refine gT ?_ | (clear hN N))
    all_goals (first | exact retZ hQ Tryz.results38 (Desc.re [] rfl) | exact retZN hQ Tryz.results38 (Desc.re [] rfl))
set_option maxRecDepth 100000 in
set_option maxHeartbeats 4000000 in
theorem mchk_s (m : Msg) (hl : m.l.length ≤ 9223372036854775807) (hw : ∀ t ∈ m.l, t.w.length ≤ 9223372036854775807) : Sp Tryz.prog K 12 [msgV m] [] fun u hh => u = .sc (.int .i64 (mchk m)) ∧ hh = [] := by
  have cd := mdata_s (K := K) m hl hw
  have ca := mack_s (K := K) m hl
  have ck := mask_s (K := K) m hl
  unfold mchk
  generalize mdata m = ed at *
  generalize mack m = ea at *
  generalize mask m = ek at *
  obtain ⟨k, o, f, t, l⟩ := m
  dsimp only at cd ca ck ⊢
  by_cases h1 : k = 1
  · subst h1
    refine Sp.of_bodyE Tryz.func12 rfl ?_
    intro Q hQ
    simp only [List.replicate, List.length_cons, List.length_nil, Tryz.ntmps12, Nat.reduceAdd, Nat.reduceSub, List.cons_append, List.nil_append, go_sem]
    have hz : True := trivial
    have hy := yieldedV_eq
    have hL := True.intro
    repeat' (first | (refine WPV.seqK ?_; intro N hN) | (refine And.intro (hO _ (by kernel_rfl)) ?_; clear hO) | refine gA ?_ | (refine gR (M := noM) ?_; intro N hN ops hy) | (refine gDG (M := noM) ?_; intro N hN ops hy hO) | (refine WPV.condK ?_; intro A hA B hB) | (refine here ?_; refine sS ?_) | refine Both.mk ?_ ?_ | ((with_reducible refine CallO.gd 20 ?_); refine CallO.toB Tryz.call20 (kinds_s _) ?_) | ((with_reducible refine CallO.gd 38 ?_); refine CallO.frB [] Tryz.call38 (cd) ?_) | ((with_reducible refine CallO.gd 43 ?_); refine CallO.frB [] Tryz.call43 (ca) ?_) | ((with_reducible refine CallO.gd 48 ?_); refine CallO.frB [] Tryz.call48 (ck) ?_) | ((with_reducible refine CallP.gd 20 ?_); refine CallP.toB Tryz.call20 (kinds_s _) ?_) | ((with_reducible refine CallP.gd 38 ?_); refine CallP.frB [] 0 Tryz.call38 (cd) ?_) | ((with_reducible refine CallP.gd 43 ?_); refine CallP.frB [] 0 Tryz.call43 (ca) ?_) | ((with_reducible refine CallP.gd 48 ?_); refine CallP.frB [] 0 Tryz.call48 (ck) ?_) | (refine hN _ ?_; try clear hN N; try clear hy ops) | (refine hA ?_; clear hA A hB B; try simp only [hz]) | (refine hB ?_; clear hA A hB B; try simp only [hz]) | (refine gG ?_ ?_ <;> (intro hz; have h := nm hz; try (exfalso; omega)) <;> (have hz := nz hz; try subst hz)) | (rw [if_pos (show _ ∧ _ from ⟨by omega, by omega⟩)]; refine sS ?_) | refine gT ?_ | (clear hN N))
    all_goals (first | exact retZ hQ Tryz.results12 (Desc.re [] rfl) | exact retZN hQ Tryz.results12 (Desc.re [] rfl))
  by_cases h2 : k = 2
  · subst h2
    refine Sp.of_bodyE Tryz.func12 rfl ?_
    intro Q hQ
    simp only [List.replicate, List.length_cons, List.length_nil, Tryz.ntmps12, Nat.reduceAdd, Nat.reduceSub, List.cons_append, List.nil_append, go_sem]
    have hz : True := trivial
    have hy := yieldedV_eq
    have hL := True.intro
    repeat' (first | (refine WPV.seqK ?_; intro N hN) | (refine And.intro (hO _ (by kernel_rfl)) ?_; clear hO) | refine gA ?_ | (refine gR (M := noM) ?_; intro N hN ops hy) | (refine gDG (M := noM) ?_; intro N hN ops hy hO) | (refine WPV.condK ?_; intro A hA B hB) | (refine here ?_; refine sS ?_) | refine Both.mk ?_ ?_ | ((with_reducible refine CallO.gd 20 ?_); refine CallO.toB Tryz.call20 (kinds_s _) ?_) | ((with_reducible refine CallO.gd 38 ?_); refine CallO.frB [] Tryz.call38 (cd) ?_) | ((with_reducible refine CallO.gd 43 ?_); refine CallO.frB [] Tryz.call43 (ca) ?_) | ((with_reducible refine CallO.gd 48 ?_); refine CallO.frB [] Tryz.call48 (ck) ?_) | ((with_reducible refine CallP.gd 20 ?_); refine CallP.toB Tryz.call20 (kinds_s _) ?_) | ((with_reducible refine CallP.gd 38 ?_); refine CallP.frB [] 0 Tryz.call38 (cd) ?_) | ((with_reducible refine CallP.gd 43 ?_); refine CallP.frB [] 0 Tryz.call43 (ca) ?_) | ((with_reducible refine CallP.gd 48 ?_); refine CallP.frB [] 0 Tryz.call48 (ck) ?_) | (refine hN _ ?_; try clear hN N; try clear hy ops) | (refine hA ?_; clear hA A hB B; try simp only [hz]) | (refine hB ?_; clear hA A hB B; try simp only [hz]) | (refine gG ?_ ?_ <;> (intro hz; have h := nm hz; try (exfalso; omega)) <;> (have hz := nz hz; try subst hz)) | (rw [if_pos (show _ ∧ _ from ⟨by omega, by omega⟩)]; refine sS ?_) | refine gT ?_ | (clear hN N))
    all_goals (first | exact retZ hQ Tryz.results12 (Desc.re [] rfl) | exact retZN hQ Tryz.results12 (Desc.re [] rfl))
  by_cases h3 : k = 3
  · subst h3
    refine Sp.of_bodyE Tryz.func12 rfl ?_
    intro Q hQ
    simp only [List.replicate, List.length_cons, List.length_nil, Tryz.ntmps12, Nat.reduceAdd, Nat.reduceSub, List.cons_append, List.nil_append, go_sem]
    have hz : True := trivial
    have hy := yieldedV_eq
    have hL := True.intro
    repeat' (first | (refine WPV.seqK ?_; intro N hN) | (refine And.intro (hO _ (by kernel_rfl)) ?_; clear hO) | refine gA ?_ | (refine gR (M := noM) ?_; intro N hN ops hy) | (refine gDG (M := noM) ?_; intro N hN ops hy hO) | (refine WPV.condK ?_; intro A hA B hB) | (refine here ?_; refine sS ?_) | refine Both.mk ?_ ?_ | ((with_reducible refine CallO.gd 20 ?_); refine CallO.toB Tryz.call20 (kinds_s _) ?_) | ((with_reducible refine CallO.gd 38 ?_); refine CallO.frB [] Tryz.call38 (cd) ?_) | ((with_reducible refine CallO.gd 43 ?_); refine CallO.frB [] Tryz.call43 (ca) ?_) | ((with_reducible refine CallO.gd 48 ?_); refine CallO.frB [] Tryz.call48 (ck) ?_) | ((with_reducible refine CallP.gd 20 ?_); refine CallP.toB Tryz.call20 (kinds_s _) ?_) | ((with_reducible refine CallP.gd 38 ?_); refine CallP.frB [] 0 Tryz.call38 (cd) ?_) | ((with_reducible refine CallP.gd 43 ?_); refine CallP.frB [] 0 Tryz.call43 (ca) ?_) | ((with_reducible refine CallP.gd 48 ?_); refine CallP.frB [] 0 Tryz.call48 (ck) ?_) | (refine hN _ ?_; try clear hN N; try clear hy ops) | (refine hA ?_; clear hA A hB B; try simp only [hz]) | (refine hB ?_; clear hA A hB B; try simp only [hz]) | (refine gG ?_ ?_ <;> (intro hz; have h := nm hz; try (exfalso; omega)) <;> (have hz := nz hz; try subst hz)) | (rw [if_pos (show _ ∧ _ from ⟨by omega, by omega⟩)]; refine sS ?_) | refine gT ?_ | (clear hN N))
    all_goals (first | exact retZ hQ Tryz.results12 (Desc.re [] rfl) | exact retZN hQ Tryz.results12 (Desc.re [] rfl))
  refine Sp.of_bodyE Tryz.func12 rfl ?_
  intro Q hQ
  simp only [List.replicate, List.length_cons, List.length_nil, Tryz.ntmps12, Nat.reduceAdd, Nat.reduceSub, List.cons_append, List.nil_append, go_sem]
  have hz : True := trivial
  have hy := yieldedV_eq
  have hL := True.intro
  repeat' (first | (refine WPV.seqK ?_; intro N hN) | (refine And.intro (hO _ (by kernel_rfl)) ?_; clear hO) | refine gA ?_ | (refine gR (M := noM) ?_; intro N hN ops hy) | (refine gDG (M := noM) ?_; intro N hN ops hy hO) | (refine WPV.condK ?_; intro A hA B hB) | (refine here ?_; refine sS ?_) | refine Both.mk ?_ ?_ | ((with_reducible refine CallO.gd 20 ?_); refine CallO.toB Tryz.call20 (kinds_s _) ?_) | ((with_reducible refine CallO.gd 38 ?_); refine CallO.frB [] Tryz.call38 (cd) ?_) | ((with_reducible refine CallO.gd 43 ?_); refine CallO.frB [] Tryz.call43 (ca) ?_) | ((with_reducible refine CallO.gd 48 ?_); refine CallO.frB [] Tryz.call48 (ck) ?_) | ((with_reducible refine CallP.gd 20 ?_); refine CallP.toB Tryz.call20 (kinds_s _) ?_) | ((with_reducible refine CallP.gd 38 ?_); refine CallP.frB [] 0 Tryz.call38 (cd) ?_) | ((with_reducible refine CallP.gd 43 ?_); refine CallP.frB [] 0 Tryz.call43 (ca) ?_) | ((with_reducible refine CallP.gd 48 ?_); refine CallP.frB [] 0 Tryz.call48 (ck) ?_) | (refine hN _ ?_; try clear hN N; try clear hy ops) | (refine hA ?_; clear hA A hB B; try simp only [hz]) | (refine hB ?_; clear hA A hB B; try simp only [hz]) | (refine gG ?_ ?_ <;> (intro hz; have h := nm hz; try (exfalso; omega)) <;> (have hz := nz hz; try subst hz)) | (rw [if_pos (show _ ∧ _ from ⟨by omega, by omega⟩)]; refine sS ?_) | refine gT ?_ | (clear hN N))
  all_goals (first | exact retZ hQ Tryz.results12 (Desc.re [] rfl) | exact retZN hQ Tryz.results12 (Desc.re [] rfl))
end Go.Proofs.YtgfnpcmehnjopaaGreatDoor
end
section
namespace Go.Proofs.YtgfnpcmehnjopaaGreatDoor
open Go Go.RowKit
set_option linter.unusedVariables false
set_option linter.unusedSimpArgs false
variable {K : Nat → Obj → Prop}
def teqL : List Tx → List Tx → Bool
  | [], [] => true
  | a :: l, b :: m => tsameF a b && teqL l m
  | _, _ => false
theorem teqL_cons (a b : Tx) (l m : List Tx) : teqL (a :: l) (b :: m) = (tsameF a b && teqL l m) := rfl
theorem teqL_ne : ∀ {l m : List Tx}, l.length ≠ m.length → teqL l m = false
  | [], [], h => absurd rfl h
  | a :: l, b :: m, h => by
    rw [teqL_cons, teqL_ne (l := l) (m := m) (by simpa using h), Bool.and_false]
  | [], _ :: _, _ => rfl
  | _ :: _, [], _ => rfl
theorem teqL_refl : ∀ l, teqL l l = true
  | [] => rfl
  | a :: l => by rw [teqL_cons, tsameF_refl, teqL_refl l]; rfl
set_option maxRecDepth 100000 in
set_option maxHeartbeats 2000000 in
theorem teqf_s (a b : List Tx) (ha : a.length ≤ 9223372036854775807) (hb : b.length ≤ 9223372036854775807) (wa : ∀ t ∈ a, t.w.length ≤ 9223372036854775807) (wb : ∀ t ∈ b, t.w.length ≤ 9223372036854775807) : Sp Tryz.prog K 35 [.sl 6 (txs a), .sl 6 (txs b), .fn 36 []] [] fun u hh => u = .sc (.bool (teqL a b)) ∧ hh = [] := by
  have hga := True.intro
  have hgb := True.intro
  have cs := True.intro
  by_cases hn : a.length = b.length
  · skip
    refine Sp.of_bodyE Tryz.func35 rfl ?_
    intro Q hQ
    simp only [List.replicate, List.length_cons, List.length_nil, Tryz.ntmps35, Nat.reduceAdd, Nat.reduceSub, List.cons_append, List.nil_append, go_sem]
    have hz : True := trivial
    have hy := yieldedV_eq
    have hL := And.intro @hga (@hgb)
    repeat' (first | (refine WPV.seqK ?_; intro N hN) | (refine And.intro (hO _ (by kernel_rfl)) ?_; clear hO) | refine gA ?_ | (refine gR (M := noM) ?_; intro N hN ops hy) | (refine gDG (M := noM) ?_; intro N hN ops hy hO) | (refine WPV.condK ?_; intro A hA B hB) | (refine here ?_; refine sS ?_) | refine Both.mk ?_ ?_ | ((with_reducible refine CallO.gd 36 ?_); refine CallO.frB [] Tryz.call36 (cs) ?_) | (refine hN _ ?_; try clear hN N; try clear hy ops) | (refine hA ?_; clear hA A hB B; try simp only [hz]) | (refine hB ?_; clear hA A hB B; try simp only [hz]) | (refine gG ?_ ?_ <;> (intro hz; have h := nm hz; try (exfalso; omega)) <;> (have hz := nz hz; try subst hz)) | (rw [if_pos (show _ ∧ _ from ⟨by omega, by omega⟩)]; refine sS ?_) | refine gT ?_ | (clear hN N))
    clear hga hgb cs
    refine WPV.loopW (α := Nat) (fun i => a.length - i) (fun i => ⟨[.any, .sl 6 (txs b), .fn 36 [], .any, .any, .any, .any, .any, .any, .any, .any, .any, .any, .any, .any, .sl 6 (txs a), .sc (.int .i64 (a.length : Int)), .sc (.int .i64 ((i : Nat) : Int)), .any, .any, .any, .any, .any, .any, .any, .any, .any, .any, .any, .any, .any, .any], []⟩) (fun i => i ≤ a.length ∧ teqL a b = teqL (a.drop i) (b.drop i)) 0 Desc.weakA ⟨Nat.zero_le _, rfl⟩ (fun i hJ H => ?_)
    obtain ⟨j1, j2⟩ := hJ
    by_cases h : i < a.length
    · have h' : i < b.length := by omega
      obtain ⟨x, hx⟩ : ∃ x, a[i] = x := ⟨_, rfl⟩
      obtain ⟨y, hy2⟩ : ∃ y, b[i] = y := ⟨_, rfl⟩
      have hga : a[i]? = some x := by rw [← hx]; exact List.getElem?_eq_getElem h
      have hgb : b[i]? = some y := by rw [← hy2]; exact List.getElem?_eq_getElem h'
      have cs := tsameg_s (K := K) x y (wa x (hx ▸ List.getElem_mem h)) (wb y (hy2 ▸ List.getElem_mem h'))
      rw [List.drop_eq_getElem_cons h, List.drop_eq_getElem_cons h', hx, hy2, teqL_cons] at j2
      cases q0 : tsameF x y with
      | true =>
        rw [q0] at cs
        rw [q0, Bool.true_and] at j2
        have H' := H (i + 1) ⟨h, j2⟩ (by omega)
        clear H hx hy2 j2 q0
        obtain ⟨xo, xs, ⟨x1, x2, x3⟩, xw⟩ := x
        obtain ⟨yo, ys, ⟨y1, y2, y3⟩, yw⟩ := y
        dsimp only [txV] at cs
        refine loopV ?_
        have hz : True := trivial
        have hy := yieldedV_eq
        have hL := And.intro @hga (@hgb)
        repeat' (first | (refine WPV.seqK ?_; intro N hN) | (refine And.intro (hO _ (by kernel_rfl)) ?_; clear hO) | refine gA ?_ | (refine gR (M := noM) ?_; intro N hN ops hy) | (refine gDG (M := noM) ?_; intro N hN ops hy hO) | (refine WPV.condK ?_; intro A hA B hB) | (refine here ?_; refine sS ?_) | refine Both.mk ?_ ?_ | ((with_reducible refine CallO.gd 36 ?_); refine CallO.frB [] Tryz.call36 (cs) ?_) | (refine hN _ ?_; try clear hN N; try clear hy ops) | (refine hA ?_; clear hA A hB B; try simp only [hz]) | (refine hB ?_; clear hA A hB B; try simp only [hz]) | (refine gG ?_ ?_ <;> (intro hz; have h := nm hz; try (exfalso; omega)) <;> (have hz := nz hz; try subst hz)) | (rw [if_pos (show _ ∧ _ from ⟨by omega, by omega⟩)]; refine sS ?_) | refine gT ?_ | (clear hN N))
        all_goals (exact rndZ (Desc.re [] rfl) (H'))
      | false =>
        rw [q0] at cs
        rw [q0, Bool.false_and] at j2
        rw [j2] at hQ
        clear H hx hy2 j2 q0
        obtain ⟨xo, xs, ⟨x1, x2, x3⟩, xw⟩ := x
        obtain ⟨yo, ys, ⟨y1, y2, y3⟩, yw⟩ := y
        dsimp only [txV] at cs
        refine loopV ?_
        have hz : True := trivial
        have hy := yieldedV_eq
        have hL := And.intro @hga (@hgb)
        repeat' (first | (refine WPV.seqK ?_; intro N hN) | (refine And.intro (hO _ (by kernel_rfl)) ?_; clear hO) | refine gA ?_ | (refine gR (M := noM) ?_; intro N hN ops hy) | (refine gDG (M := noM) ?_; intro N hN ops hy hO) | (refine WPV.condK ?_; intro A hA B hB) | (refine here ?_; refine sS ?_) | refine Both.mk ?_ ?_ | ((with_reducible refine CallO.gd 36 ?_); refine CallO.frB [] Tryz.call36 (cs) ?_) | (refine hN _ ?_; try clear hN N; try clear hy ops) | (refine hA ?_; clear hA A hB B; try simp only [hz]) | (refine hB ?_; clear hA A hB B; try simp only [hz]) | (refine gG ?_ ?_ <;> (intro hz; have h := nm hz; try (exfalso; omega)) <;> (have hz := nz hz; try subst hz)) | (rw [if_pos (show _ ∧ _ from ⟨by omega, by omega⟩)]; refine sS ?_) | refine gT ?_ | (clear hN N))
        all_goals (first | exact retZ hQ Tryz.results35 (Desc.re [] rfl) | exact retZN hQ Tryz.results35 (Desc.re [] rfl))
    obtain rfl : i = a.length := by omega
    have e : teqL a b = true := by rw [j2, hn, List.drop_length, ← hn, List.drop_length]; rfl
    rw [e] at hQ
    clear H j2 e
    have hga := True.intro
    have hgb := True.intro
    have cs := True.intro
    refine loopV ?_
    have hz : True := trivial
    have hy := yieldedV_eq
    have hL := And.intro @hga (@hgb)
    repeat' (first | (refine WPV.seqK ?_; intro N hN) | (refine And.intro (hO _ (by kernel_rfl)) ?_; clear hO) | refine gA ?_ | (refine gR (M := noM) ?_; intro N hN ops hy) | (refine gDG (M := noM) ?_; intro N hN ops hy hO) | (refine WPV.condK ?_; intro A hA B hB) | (refine here ?_; refine sS ?_) | refine Both.mk ?_ ?_ | ((with_reducible refine CallO.gd 36 ?_); refine CallO.frB [] Tryz.call36 (cs) ?_) | (refine hN _ ?_; try clear hN N; try clear hy ops) | (refine hA ?_; clear hA A hB B; try simp only [hz]) | (refine hB ?_; clear hA A hB B; try simp only [hz]) | (refine gG ?_ ?_ <;> (intro hz; have h := nm hz; try (exfalso; omega)) <;> (have hz := nz hz; try subst hz)) | (rw [if_pos (show _ ∧ _ from ⟨by omega, by omega⟩)]; refine sS ?_) | refine gT ?_ | (clear hN N))
    all_goals (first | exact retZ hQ Tryz.results35 (Desc.re [] rfl) | exact retZN hQ Tryz.results35 (Desc.re [] rfl))
  · have e : teqL a b = false := teqL_ne hn
    rw [e]
    refine Sp.of_bodyE Tryz.func35 rfl ?_
    intro Q hQ
    simp only [List.replicate, List.length_cons, List.length_nil, Tryz.ntmps35, Nat.reduceAdd, Nat.reduceSub, List.cons_append, List.nil_append, go_sem]
    have hz : True := trivial
    have hy := yieldedV_eq
    have hL := And.intro @hga (@hgb)
    repeat' (first | (refine WPV.seqK ?_; intro N hN) | (refine And.intro (hO _ (by kernel_rfl)) ?_; clear hO) | refine gA ?_ | (refine gR (M := noM) ?_; intro N hN ops hy) | (refine gDG (M := noM) ?_; intro N hN ops hy hO) | (refine WPV.condK ?_; intro A hA B hB) | (refine here ?_; refine sS ?_) | refine Both.mk ?_ ?_ | ((with_reducible refine CallO.gd 36 ?_); refine CallO.frB [] Tryz.call36 (cs) ?_) | (refine hN _ ?_; try clear hN N; try clear hy ops) | (refine hA ?_; clear hA A hB B; try simp only [hz]) | (refine hB ?_; clear hA A hB B; try simp only [hz]) | (refine gG ?_ ?_ <;> (intro hz; have h := nm hz; try (exfalso; omega)) <;> (have hz := nz hz; try subst hz)) | (rw [if_pos (show _ ∧ _ from ⟨by omega, by omega⟩)]; refine sS ?_) | refine gT ?_ | (clear hN N))
    all_goals (first | exact retZ hQ Tryz.results35 (Desc.re [] rfl) | exact retZN hQ Tryz.results35 (Desc.re [] rfl))
def msameF (a b : Msg) : Bool := decide (a.k = b.k ∧ a.o = b.o ∧ a.f = b.f ∧ a.t = b.t ∧ teqL a.l b.l = true)
set_option maxRecDepth 100000 in
set_option maxHeartbeats 2000000 in
theorem msame_s (a b : Msg) (ha : a.l.length ≤ 9223372036854775807) (hb : b.l.length ≤ 9223372036854775807) (wa : ∀ t ∈ a.l, t.w.length ≤ 9223372036854775807) (wb : ∀ t ∈ b.l, t.w.length ≤ 9223372036854775807) : Sp Tryz.prog K 16 [msgV a, msgV b] [] fun u hh => u = .sc (.bool (msameF a b)) ∧ hh = [] := by
  have cq := fun h => Sp.lift (teqf_s (K := K) a.l b.l ha hb wa wb) (fun _ => rfl) (fun _ => rfl) h
  unfold msameF
  obtain ⟨iw, ew⟩ := bool_i (teqL a.l b.l)
  rw [ew] at cq ⊢
  simp only [decide_eq_true_eq]
  clear ew ha hb wa wb
  obtain ⟨k, o, f, t, l⟩ := a
  obtain ⟨k', o', f', t', l'⟩ := b
  dsimp only at *
  refine Sp.of_bodyE Tryz.func16 rfl ?_
  intro Q hQ
  simp only [List.replicate, List.length_cons, List.length_nil, Tryz.ntmps16, Nat.reduceAdd, Nat.reduceSub, List.cons_append, List.nil_append, go_sem]
  have hz : True := trivial
  have hy := yieldedV_eq
  have hL := True.intro
  repeat' (first | (refine WPV.seqK ?_; intro N hN) | (refine And.intro (hO _ (by kernel_rfl)) ?_; clear hO) | refine gA ?_ | (refine gR (M := noM) ?_; intro N hN ops hy) | (refine gDG (M := noM) ?_; intro N hN ops hy hO) | (refine WPV.condK ?_; intro A hA B hB) | (refine here ?_; refine sS ?_) | refine Both.mk ?_ ?_ | ((with_reducible refine CallO.gd 35 ?_); refine CallO.toB Tryz.call35 (cq _) ?_) | ((with_reducible refine CallP.gd 35 ?_); refine CallP.toB Tryz.call35 (cq _) ?_) | (refine hN _ ?_; try clear hN N; try clear hy ops) | (refine hA ?_; clear hA A hB B; try simp only [hz]) | (refine hB ?_; clear hA A hB B; try simp only [hz]) | (refine gG ?_ ?_ <;> (intro hz; have h := nm hz; try (exfalso; omega)) <;> (have hz := nz hz; try subst hz)) | (rw [if_pos (show _ ∧ _ from ⟨by omega, by omega⟩)]; refine sS ?_) | refine gT ?_ | (clear hN N))
  all_goals (first | exact retZ hQ Tryz.results16 (Desc.re [] rfl) | exact retZN hQ Tryz.results16 (Desc.re [] rfl))
end Go.Proofs.YtgfnpcmehnjopaaGreatDoor
end
section
namespace Go.Proofs.YtgfnpcmehnjopaaGreatDoor
open Go Go.RowKit
set_option linter.unusedVariables false
set_option linter.unusedSimpArgs false
variable {K : Nat → Obj → Prop}
set_option maxRecDepth 100000 in
set_option maxHeartbeats 2000000 in
theorem rrow_s (l : List Tx) (hl : l.length ≤ 1000000) (hw : ∀ t ∈ l, -9223372036854775808 ≤ t.s ∧ t.s ≤ 4611686018427387903) : Sp Tryz.prog K 33 [.sl 6 (txs l)] [] fun u hh => u = .sc (.bool (rowF l)) ∧ hh = [] := by
  refine Sp.of_bodyE Tryz.func33 rfl ?_
  intro Q hQ
  simp only [List.replicate, List.length_cons, List.length_nil, Tryz.ntmps33, Nat.reduceAdd, Nat.reduceSub, List.cons_append, List.nil_append, go_sem]
  have hz : True := trivial
  have hy := yieldedV_eq
  have hL := True.intro
  repeat' (first | (refine WPV.seqK ?_; intro N hN) | (refine And.intro (hO _ (by kernel_rfl)) ?_; clear hO) | refine gA ?_ | (refine gR (M := noM) ?_; intro N hN ops hy) | (refine gDG (M := noM) ?_; intro N hN ops hy hO) | (refine WPV.condK ?_; intro A hA B hB) | (refine here ?_; refine sS ?_) | refine Both.mk ?_ ?_ | (refine hN _ ?_; try clear hN N; try clear hy ops) | (refine hA ?_; clear hA A hB B; try simp only [hz]) | (refine hB ?_; clear hA A hB B; try simp only [hz]) | (refine gG ?_ ?_ <;> (intro hz; have h := nm hz; try (exfalso; omega)) <;> (have hz := nz hz; try subst hz)) | (rw [if_pos (show _ ∧ _ from ⟨by omega, by omega⟩)]; refine sS ?_) | refine gT ?_ | (clear hN N))
  refine WPV.loopW (α := Nat) (fun k => l.length - k) (fun k => ⟨[.sl 6 (txs l), .any, .any, .sc (.int .i64 ((k : Nat) : Int)), .any, .any, .any, .any, .any, .any, .any, .any, .any, .any, .any, .any, .any, .any, .any, .any, .any, .any, .any, .any, .any, .any, .any, .any, .any, .any, .any, .any, .any, .any, .any, .any, .any, .any, .any, .any, .any, .any, .any, .any, .any, .any, .any, .any, .any], []⟩) (fun k => 1 ≤ k ∧ rowF l = rowF (l.drop (k - 1)) ∧ ∀ a c, l[0]? = some a → l[k - 1]? = some c → c.o = a.o) 1 Desc.weakA ⟨Nat.le_refl _, rfl, fun a c h1 h2 => by rw [h1] at h2; cases h2; rfl⟩ (fun k hJ H => ?_)
  obtain ⟨hk1, hJ, hO⟩ := hJ
  by_cases h : k < l.length
  · obtain ⟨z, hgz⟩ : ∃ t, l[0] = t := ⟨_, rfl⟩
    have hget0 : l[0]? = some z := by rw [← hgz]; exact List.getElem?_eq_getElem (by omega)
    obtain ⟨a, hg0⟩ : ∃ t, l[k - 1] = t := ⟨_, rfl⟩
    have hget : l[k - 1]? = some a := by rw [← hg0]; exact List.getElem?_eq_getElem (by omega)
    obtain ⟨b, hg1⟩ : ∃ t, l[k] = t := ⟨_, rfl⟩
    have hget1 : l[k]? = some b := by rw [← hg1]; exact List.getElem?_eq_getElem h
    have hao := hO z a hget0 hget
    have ha := hw a (hg0 ▸ List.getElem_mem (by omega))
    have hb := hw b (hg1 ▸ List.getElem_mem h)
    have hd : l.drop (k - 1) = a :: b :: l.drop (k + 1) := by
      rw [List.drop_eq_getElem_cons (by omega), hg0, show k - 1 + 1 = k by omega, List.drop_eq_getElem_cons h, hg1]
    have hd2 : l.drop k = b :: l.drop (k + 1) := by rw [List.drop_eq_getElem_cons h, hg1]
    rw [hd] at hJ
    have hk2 : ((k : Int) - 1).toNat = k - 1 := by omega
    have hJ2 : rowF l = (rowOk a b && rowF (b :: l.drop (k + 1))) := hJ
    by_cases hr : b.o = a.o ∧ a.s < b.s ∧ b.s - 1 = a.s
    · have e : rowOk a b = true := if_pos hr
      rw [e, Bool.true_and, ← hd2] at hJ2
      have H' := H (k + 1) ⟨by omega, by rw [hJ2, Nat.add_sub_cancel], fun a' c h1 h2 => by rw [Nat.add_sub_cancel, hget1] at h2; rw [hget0] at h1; cases h1; cases h2; omega⟩ (by omega)
      clear H hJ hJ2 hg0 hg1 hgz hd hd2 e hO
      refine loopV ?_
      have hz : True := trivial
      have hy := yieldedV_eq
      have hL := And.intro @hget (And.intro @hget0 (And.intro @hget1 (@hk2)))
      repeat' (first | (refine WPV.seqK ?_; intro N hN) | (refine And.intro (hO _ (by kernel_rfl)) ?_; clear hO) | refine gA ?_ | (refine gR (M := noM) ?_; intro N hN ops hy) | (refine gDG (M := noM) ?_; intro N hN ops hy hO) | (refine WPV.condK ?_; intro A hA B hB) | (refine here ?_; refine sS ?_) | refine Both.mk ?_ ?_ | (refine hN _ ?_; try clear hN N; try clear hy ops) | (refine hA ?_; clear hA A hB B; try simp only [hz]) | (refine hB ?_; clear hA A hB B; try simp only [hz]) | (refine gG ?_ ?_ <;> (intro hz; have h := nm hz; try (exfalso; omega)) <;> (have hz := nz hz; try subst hz)) | (rw [if_pos (show _ ∧ _ from ⟨by omega, by omega⟩)]; refine sS ?_) | refine gT ?_ | (clear hN N))
      all_goals (exact rndZ (Desc.re [] rfl) (H'))
    · have e : rowOk a b = false := if_neg hr
      rw [e, Bool.false_and] at hJ2
      rw [hJ2] at hQ
      clear H hJ hJ2 hg0 hg1 hgz hd hd2 e hO
      refine loopV ?_
      have hz : True := trivial
      have hy := yieldedV_eq
      have hL := And.intro @hget (And.intro @hget0 (And.intro @hget1 (@hk2)))
      repeat' (first | (refine WPV.seqK ?_; intro N hN) | (refine And.intro (hO _ (by kernel_rfl)) ?_; clear hO) | refine gA ?_ | (refine gR (M := noM) ?_; intro N hN ops hy) | (refine gDG (M := noM) ?_; intro N hN ops hy hO) | (refine WPV.condK ?_; intro A hA B hB) | (refine here ?_; refine sS ?_) | refine Both.mk ?_ ?_ | (refine hN _ ?_; try clear hN N; try clear hy ops) | (refine hA ?_; clear hA A hB B; try simp only [hz]) | (refine hB ?_; clear hA A hB B; try simp only [hz]) | (refine gG ?_ ?_ <;> (intro hz; have h := nm hz; try (exfalso; omega)) <;> (have hz := nz hz; try subst hz)) | (rw [if_pos (show _ ∧ _ from ⟨by omega, by omega⟩)]; refine sS ?_) | refine gT ?_ | (clear hN N))
      all_goals (first | exact retZ hQ Tryz.results33 (Desc.re [] rfl) | exact retZN hQ Tryz.results33 (Desc.re [] rfl))
  · have e : rowF l = true := by
      rw [hJ]
      have : (l.drop (k - 1)).length ≤ 1 := by rw [List.length_drop]; omega
      match l.drop (k - 1), this with
      | [], _ => rfl
      | [a], _ => rfl
    rw [e] at hQ
    clear H hJ e hO
    refine loopV ?_
    have hz : True := trivial
    have hy := yieldedV_eq
    have hL := True.intro
    repeat' (first | (refine WPV.seqK ?_; intro N hN) | (refine And.intro (hO _ (by kernel_rfl)) ?_; clear hO) | refine gA ?_ | (refine gR (M := noM) ?_; intro N hN ops hy) | (refine gDG (M := noM) ?_; intro N hN ops hy hO) | (refine WPV.condK ?_; intro A hA B hB) | (refine here ?_; refine sS ?_) | refine Both.mk ?_ ?_ | (refine hN _ ?_; try clear hN N; try clear hy ops) | (refine hA ?_; clear hA A hB B; try simp only [hz]) | (refine hB ?_; clear hA A hB B; try simp only [hz]) | (refine gG ?_ ?_ <;> (intro hz; have h := nm hz; try (exfalso; omega)) <;> (have hz := nz hz; try subst hz)) | (rw [if_pos (show _ ∧ _ from ⟨by omega, by omega⟩)]; refine sS ?_) | refine gT ?_ | (clear hN N))
    all_goals (first | exact retZ hQ Tryz.results33 (Desc.re [] rfl) | exact retZN hQ Tryz.results33 (Desc.re [] rfl))
theorem tsameF_no {o s cx cy cz o' s' cx' cy' cz' : Int} {w w' : List Wr} (h : ¬ (o = o' ∧ s = s' ∧ (cx = cx' ∧ cy = cy' ∧ cz = cz') ∧ w.length = w'.length)) : tsameF ⟨o, s, ⟨cx, cy, cz⟩, w⟩ ⟨o', s', ⟨cx', cy', cz'⟩, w'⟩ = false := by
  unfold tsameF
  rw [decide_eq_false_iff_not]
  intro g
  refine h ⟨g.1, g.2.1, g.2.2.1, ?_⟩
  by_cases hn : w.length = w'.length
  · exact hn
  · have := g.2.2.2
    dsimp only at this
    rw [weqL_ne hn] at this
    exact absurd this (by decide)
set_option maxRecDepth 100000 in
set_option maxHeartbeats 2000000 in
theorem rsameg_s (a b : Tx) (h1 : a.w.length ≤ 1000000) (h2 : b.w.length ≤ 9223372036854775807) : Sp Tryz.prog K 58 [txV a, txV b] [] fun u hh => u = .sc (.bool (tsameF a b)) ∧ hh = [] := by
  obtain ⟨o, s, ⟨x, y, z⟩, a⟩ := a
  obtain ⟨o', s', ⟨x', y', z'⟩, b⟩ := b
  dsimp only at h1 h2
  have hga := True.intro
  have hgb := True.intro
  by_cases hc : ¬ (x = x' ∧ y = y' ∧ z = z')
  · have q : (x == x' && (y == y' && z == z')) = false := by
      cases h : (x == x' && (y == y' && z == z'))
      · rfl
      · exact absurd (by simpa using h) hc
    rw [tsameF_no fun h => hc h.2.2.1]
    refine Sp.of_bodyE Tryz.func58 rfl ?_
    intro Q hQ
    simp only [List.replicate, List.length_cons, List.length_nil, Tryz.ntmps58, Nat.reduceAdd, Nat.reduceSub, List.cons_append, List.nil_append, go_sem]
    have hz : True := trivial
    have hy := yieldedV_eq
    have hL := And.intro @hga (And.intro @hgb (@q))
    repeat' (first | (refine WPV.seqK ?_; intro N hN) | (refine And.intro (hO _ (by kernel_rfl)) ?_; clear hO) | refine gA ?_ | (refine gR (M := noM) ?_; intro N hN ops hy) | (refine gDG (M := noM) ?_; intro N hN ops hy hO) | (refine WPV.condK ?_; intro A hA B hB) | (refine here ?_; refine sS ?_) | refine Both.mk ?_ ?_ | (refine hN _ ?_; try clear hN N; try clear hy ops) | (refine hA ?_; clear hA A hB B; try simp only [hz]) | (refine hB ?_; clear hA A hB B; try simp only [hz]) | (refine gG ?_ ?_ <;> (intro hz; have h := nm hz; try (exfalso; omega)) <;> (have hz := nz hz; try subst hz)) | (rw [if_pos (show _ ∧ _ from ⟨by omega, by omega⟩)]; refine sS ?_) | refine gT ?_ | (clear hN N))
    all_goals (first | exact retZ hQ Tryz.results58 (Desc.re [] rfl) | exact retZN hQ Tryz.results58 (Desc.re [] rfl))
  obtain ⟨rfl, rfl, rfl⟩ := Decidable.not_not.1 hc
  have q : (x == x && (y == y && z == z)) = true := by simp
  by_cases hne : ¬ (o = o' ∧ s = s' ∧ a.length = b.length)
  · rw [tsameF_no fun h => hne ⟨h.1, h.2.1, h.2.2.2⟩]
    refine Sp.of_bodyE Tryz.func58 rfl ?_
    intro Q hQ
    simp only [List.replicate, List.length_cons, List.length_nil, Tryz.ntmps58, Nat.reduceAdd, Nat.reduceSub, List.cons_append, List.nil_append, go_sem]
    have hz : True := trivial
    have hy := yieldedV_eq
    have hL := And.intro @hga (And.intro @hgb (@q))
    repeat' (first | (refine WPV.seqK ?_; intro N hN) | (refine And.intro (hO _ (by kernel_rfl)) ?_; clear hO) | refine gA ?_ | (refine gR (M := noM) ?_; intro N hN ops hy) | (refine gDG (M := noM) ?_; intro N hN ops hy hO) | (refine WPV.condK ?_; intro A hA B hB) | (refine here ?_; refine sS ?_) | refine Both.mk ?_ ?_ | (refine hN _ ?_; try clear hN N; try clear hy ops) | (refine hA ?_; clear hA A hB B; try simp only [hz]) | (refine hB ?_; clear hA A hB B; try simp only [hz]) | (refine gG ?_ ?_ <;> (intro hz; have h := nm hz; try (exfalso; omega)) <;> (have hz := nz hz; try subst hz)) | (rw [if_pos (show _ ∧ _ from ⟨by omega, by omega⟩)]; refine sS ?_) | refine gT ?_ | (clear hN N))
    all_goals (first | exact retZ hQ Tryz.results58 (Desc.re [] rfl) | exact retZN hQ Tryz.results58 (Desc.re [] rfl))
  obtain ⟨rfl, rfl, hn⟩ := Decidable.not_not.1 hne
  clear hne
  have e0 : tsameF ⟨o, s, ⟨x, y, z⟩, a⟩ ⟨o, s, ⟨x, y, z⟩, b⟩ = weqL a b := by
    unfold tsameF
    cases weqL a b <;> simp
  rw [e0]
  clear e0 hc
  refine Sp.of_bodyE Tryz.func58 rfl ?_
  intro Q hQ
  simp only [List.replicate, List.length_cons, List.length_nil, Tryz.ntmps58, Nat.reduceAdd, Nat.reduceSub, List.cons_append, List.nil_append, go_sem]
  have hz : True := trivial
  have hy := yieldedV_eq
  have hL := And.intro @hga (And.intro @hgb (@q))
  repeat' (first | (refine WPV.seqK ?_; intro N hN) | (refine And.intro (hO _ (by kernel_rfl)) ?_; clear hO) | refine gA ?_ | (refine gR (M := noM) ?_; intro N hN ops hy) | (refine gDG (M := noM) ?_; intro N hN ops hy hO) | (refine WPV.condK ?_; intro A hA B hB) | (refine here ?_; refine sS ?_) | refine Both.mk ?_ ?_ | (refine hN _ ?_; try clear hN N; try clear hy ops) | (refine hA ?_; clear hA A hB B; try simp only [hz]) | (refine hB ?_; clear hA A hB B; try simp only [hz]) | (refine gG ?_ ?_ <;> (intro hz; have h := nm hz; try (exfalso; omega)) <;> (have hz := nz hz; try subst hz)) | (rw [if_pos (show _ ∧ _ from ⟨by omega, by omega⟩)]; refine sS ?_) | refine gT ?_ | (clear hN N))
  clear hga hgb q
  refine WPV.loopW (α := Nat) (fun i => a.length - i) (fun i => ⟨[.any, .any, .ptr 0 0, .ptr 1 0, .any, .sc (.int .i64 ((i : Nat) : Int)), .any, .any, .any, .any, .any, .any, .any, .any, .any, .any, .any, .any, .any, .any, .any, .any, .any, .any, .any, .any, .any, .any, .any, .any, .any, .any, .any, .any, .any, .any, .any, .any, .any, .any, .any, .any, .any, .any, .any, .any, .any, .any, .any, .any, .any, .any], [.cells [.sc (.int .i64 o), .sc (.int .i64 s), .sc (.int .i64 x), .sc (.int .i64 y), .sc (.int .i64 z), .sl 3 (wrl a)], .cells [.sc (.int .i64 o), .sc (.int .i64 s), .sc (.int .i64 x), .sc (.int .i64 y), .sc (.int .i64 z), .sl 3 (wrl b)]]⟩) (fun i => i ≤ a.length ∧ weqL a b = weqL (a.drop i) (b.drop i)) 0 Desc.weakA ⟨Nat.zero_le _, rfl⟩ (fun i hJ H => ?_)
  obtain ⟨j1, j2⟩ := hJ
  by_cases h : i < a.length
  · have h' : i < b.length := by omega
    obtain ⟨v, hx⟩ : ∃ x, a[i] = x := ⟨_, rfl⟩
    obtain ⟨u, hy2⟩ : ∃ y, b[i] = y := ⟨_, rfl⟩
    have hga : a[i]? = some v := by rw [← hx]; exact List.getElem?_eq_getElem h
    have hgb : b[i]? = some u := by rw [← hy2]; exact List.getElem?_eq_getElem h'
    rw [List.drop_eq_getElem_cons h, List.drop_eq_getElem_cons h', hx, hy2, weqL_cons] at j2
    cases q0 : eqB v u with
    | true =>
      rw [q0, Bool.true_and] at j2
      have H' := H (i + 1) ⟨h, j2⟩ (by omega)
      clear H hx hy2 j2
      obtain ⟨xk, xv, xg⟩ := v
      obtain ⟨yk, yv, yg⟩ := u
      have q : (xk.toList == yk.toList && (xv.toList == yv.toList && xg == yg)) = true := q0
      refine loopV ?_
      have hz : True := trivial
      have hy := yieldedV_eq
      have hL := And.intro @hga (And.intro @hgb (@q))
      repeat' (first | (refine WPV.seqK ?_; intro N hN) | (refine And.intro (hO _ (by kernel_rfl)) ?_; clear hO) | refine gA ?_ | (refine gR (M := noM) ?_; intro N hN ops hy) | (refine gDG (M := noM) ?_; intro N hN ops hy hO) | (refine WPV.condK ?_; intro A hA B hB) | (refine here ?_; refine sS ?_) | refine Both.mk ?_ ?_ | (refine hN _ ?_; try clear hN N; try clear hy ops) | (refine hA ?_; clear hA A hB B; try simp only [hz]) | (refine hB ?_; clear hA A hB B; try simp only [hz]) | (refine gG ?_ ?_ <;> (intro hz; have h := nm hz; try (exfalso; omega)) <;> (have hz := nz hz; try subst hz)) | (rw [if_pos (show _ ∧ _ from ⟨by omega, by omega⟩)]; refine sS ?_) | refine gT ?_ | (clear hN N))
      all_goals (exact rndZ (Desc.re [some 0, some 1] rfl) (H'))
    | false =>
      rw [q0, Bool.false_and] at j2
      rw [j2] at hQ
      clear H hx hy2 j2
      obtain ⟨xk, xv, xg⟩ := v
      obtain ⟨yk, yv, yg⟩ := u
      have q : (xk.toList == yk.toList && (xv.toList == yv.toList && xg == yg)) = false := q0
      refine loopV ?_
      have hz : True := trivial
      have hy := yieldedV_eq
      have hL := And.intro @hga (And.intro @hgb (@q))
      repeat' (first | (refine WPV.seqK ?_; intro N hN) | (refine And.intro (hO _ (by kernel_rfl)) ?_; clear hO) | refine gA ?_ | (refine gR (M := noM) ?_; intro N hN ops hy) | (refine gDG (M := noM) ?_; intro N hN ops hy hO) | (refine WPV.condK ?_; intro A hA B hB) | (refine here ?_; refine sS ?_) | refine Both.mk ?_ ?_ | (refine hN _ ?_; try clear hN N; try clear hy ops) | (refine hA ?_; clear hA A hB B; try simp only [hz]) | (refine hB ?_; clear hA A hB B; try simp only [hz]) | (refine gG ?_ ?_ <;> (intro hz; have h := nm hz; try (exfalso; omega)) <;> (have hz := nz hz; try subst hz)) | (rw [if_pos (show _ ∧ _ from ⟨by omega, by omega⟩)]; refine sS ?_) | refine gT ?_ | (clear hN N))
      all_goals (first | exact retZ hQ Tryz.results58 (Desc.re [] rfl) | exact retZN hQ Tryz.results58 (Desc.re [] rfl))
  obtain rfl : i = a.length := by omega
  have e : weqL a b = true := by rw [j2, hn, List.drop_length, ← hn, List.drop_length]; rfl
  rw [e] at hQ
  clear H j2 e
  have hga := True.intro
  have hgb := True.intro
  have q := True.intro
  refine loopV ?_
  have hz : True := trivial
  have hy := yieldedV_eq
  have hL := And.intro @hga (And.intro @hgb (@q))
  repeat' (first | (refine WPV.seqK ?_; intro N hN) | (refine And.intro (hO _ (by kernel_rfl)) ?_; clear hO) | refine gA ?_ | (refine gR (M := noM) ?_; intro N hN ops hy) | (refine gDG (M := noM) ?_; intro N hN ops hy hO) | (refine WPV.condK ?_; intro A hA B hB) | (refine here ?_; refine sS ?_) | refine Both.mk ?_ ?_ | (refine hN _ ?_; try clear hN N; try clear hy ops) | (refine hA ?_; clear hA A hB B; try simp only [hz]) | (refine hB ?_; clear hA A hB B; try simp only [hz]) | (refine gG ?_ ?_ <;> (intro hz; have h := nm hz; try (exfalso; omega)) <;> (have hz := nz hz; try subst hz)) | (rw [if_pos (show _ ∧ _ from ⟨by omega, by omega⟩)]; refine sS ?_) | refine gT ?_ | (clear hN N))
  all_goals (first | exact retZ hQ Tryz.results58 (Desc.re [] rfl) | exact retZN hQ Tryz.results58 (Desc.re [] rfl))
set_option maxRecDepth 100000 in
set_option maxHeartbeats 2000000 in
theorem rteq_s (a b : List Tx) (ha : a.length ≤ 1000000) (hb : b.length ≤ 9223372036854775807) (wa : ∀ t ∈ a, t.w.length ≤ 1000000) (wb : ∀ t ∈ b, t.w.length ≤ 9223372036854775807) : Sp Tryz.prog K 34 [.sl 6 (txs a), .sl 6 (txs b)] [] fun u hh => u = .sc (.bool (teqL a b)) ∧ hh = [] := by
  have hga := True.intro
  have hgb := True.intro
  have cs := True.intro
  by_cases hn : a.length = b.length
  · skip
    refine Sp.of_bodyE Tryz.func34 rfl ?_
    intro Q hQ
    simp only [List.replicate, List.length_cons, List.length_nil, Tryz.ntmps34, Nat.reduceAdd, Nat.reduceSub, List.cons_append, List.nil_append, go_sem]
    have hz : True := trivial
    have hy := yieldedV_eq
    have hL := And.intro @hga (@hgb)
    repeat' (first | (refine WPV.seqK ?_; intro N hN) | (refine And.intro (hO _ (by kernel_rfl)) ?_; clear hO) | refine gA ?_ | (refine gR (M := noM) ?_; intro N hN ops hy) | (refine gDG (M := noM) ?_; intro N hN ops hy hO) | (refine WPV.condK ?_; intro A hA B hB) | (refine here ?_; refine sS ?_) | refine Both.mk ?_ ?_ | ((with_reducible refine CallO.gd 58 ?_); refine CallO.frB [] Tryz.call58 (cs) ?_) | ((with_reducible refine CallP.gd 58 ?_); refine CallP.frB [] 0 Tryz.call58 (cs) ?_) | (refine hN _ ?_; try clear hN N; try clear hy ops) | (refine hA ?_; clear hA A hB B; try simp only [hz]) | (refine hB ?_; clear hA A hB B; try simp only [hz]) | (refine gG ?_ ?_ <;> (intro hz; have h := nm hz; try (exfalso; omega)) <;> (have hz := nz hz; try subst hz)) | (rw [if_pos (show _ ∧ _ from ⟨by omega, by omega⟩)]; refine sS ?_) | refine gT ?_ | (clear hN N))
    clear hga hgb cs
    refine WPV.loopW (α := Nat) (fun i => a.length - i) (fun i => ⟨[.sl 6 (txs a), .sl 6 (txs b), .any, .any, .any, .sc (.int .i64 ((i : Nat) : Int)), .any, .any, .any, .any, .any, .any, .any, .any, .any, .any, .any, .any, .any, .any, .any, .any, .any, .any, .any, .any, .any], []⟩) (fun i => i ≤ a.length ∧ teqL a b = teqL (a.drop i) (b.drop i)) 0 Desc.weakA ⟨Nat.zero_le _, rfl⟩ (fun i hJ H => ?_)
    obtain ⟨j1, j2⟩ := hJ
    by_cases h : i < a.length
    · have h' : i < b.length := by omega
      obtain ⟨x, hx⟩ : ∃ x, a[i] = x := ⟨_, rfl⟩
      obtain ⟨y, hy2⟩ : ∃ y, b[i] = y := ⟨_, rfl⟩
      have hga : a[i]? = some x := by rw [← hx]; exact List.getElem?_eq_getElem h
      have hgb : b[i]? = some y := by rw [← hy2]; exact List.getElem?_eq_getElem h'
      have cs := rsameg_s (K := K) x y (wa x (hx ▸ List.getElem_mem h)) (wb y (hy2 ▸ List.getElem_mem h'))
      rw [List.drop_eq_getElem_cons h, List.drop_eq_getElem_cons h', hx, hy2, teqL_cons] at j2
      cases q0 : tsameF x y with
      | true =>
        rw [q0] at cs
        rw [q0, Bool.true_and] at j2
        have H' := H (i + 1) ⟨h, j2⟩ (by omega)
        clear H hx hy2 j2 q0
        obtain ⟨xo, xs, ⟨x1, x2, x3⟩, xw⟩ := x
        obtain ⟨yo, ys, ⟨y1, y2, y3⟩, yw⟩ := y
        dsimp only [txV] at cs
        refine loopV ?_
        have hz : True := trivial
        have hy := yieldedV_eq
        have hL := And.intro @hga (@hgb)
        repeat' (first | (refine WPV.seqK ?_; intro N hN) | (refine And.intro (hO _ (by kernel_rfl)) ?_; clear hO) | refine gA ?_ | (refine gR (M := noM) ?_; intro N hN ops hy) | (refine gDG (M := noM) ?_; intro N hN ops hy hO) | (refine WPV.condK ?_; intro A hA B hB) | (refine here ?_; refine sS ?_) | refine Both.mk ?_ ?_ | ((with_reducible refine CallO.gd 58 ?_); refine CallO.frB [] Tryz.call58 (cs) ?_) | ((with_reducible refine CallP.gd 58 ?_); refine CallP.frB [] 0 Tryz.call58 (cs) ?_) | (refine hN _ ?_; try clear hN N; try clear hy ops) | (refine hA ?_; clear hA A hB B; try simp only [hz]) | (refine hB ?_; clear hA A hB B; try simp only [hz]) | (refine gG ?_ ?_ <;> (intro hz; have h := nm hz; try (exfalso; omega)) <;> (have hz := nz hz; try subst hz)) | (rw [if_pos (show _ ∧ _ from ⟨by omega, by omega⟩)]; refine sS ?_) | refine gT ?_ | (clear hN N))
        all_goals (exact rndZ (Desc.re [] rfl) (H'))
      | false =>
        rw [q0] at cs
        rw [q0, Bool.false_and] at j2
        rw [j2] at hQ
        clear H hx hy2 j2 q0
        obtain ⟨xo, xs, ⟨x1, x2, x3⟩, xw⟩ := x
        obtain ⟨yo, ys, ⟨y1, y2, y3⟩, yw⟩ := y
        dsimp only [txV] at cs
        refine loopV ?_
        have hz : True := trivial
        have hy := yieldedV_eq
        have hL := And.intro @hga (@hgb)
        repeat' (first | (refine WPV.seqK ?_; intro N hN) | (refine And.intro (hO _ (by kernel_rfl)) ?_; clear hO) | refine gA ?_ | (refine gR (M := noM) ?_; intro N hN ops hy) | (refine gDG (M := noM) ?_; intro N hN ops hy hO) | (refine WPV.condK ?_; intro A hA B hB) | (refine here ?_; refine sS ?_) | refine Both.mk ?_ ?_ | ((with_reducible refine CallO.gd 58 ?_); refine CallO.frB [] Tryz.call58 (cs) ?_) | ((with_reducible refine CallP.gd 58 ?_); refine CallP.frB [] 0 Tryz.call58 (cs) ?_) | (refine hN _ ?_; try clear hN N; try clear hy ops) | (refine hA ?_; clear hA A hB B; try simp only [hz]) | (refine hB ?_; clear hA A hB B; try simp only [hz]) | (refine gG ?_ ?_ <;> (intro hz; have h := nm hz; try (exfalso; omega)) <;> (have hz := nz hz; try subst hz)) | (rw [if_pos (show _ ∧ _ from ⟨by omega, by omega⟩)]; refine sS ?_) | refine gT ?_ | (clear hN N))
        all_goals (first | exact retZ hQ Tryz.results34 (Desc.re [] rfl) | exact retZN hQ Tryz.results34 (Desc.re [] rfl))
    obtain rfl : i = a.length := by omega
    have e : teqL a b = true := by rw [j2, hn, List.drop_length, ← hn, List.drop_length]; rfl
    rw [e] at hQ
    clear H j2 e
    have hga := True.intro
    have hgb := True.intro
    have cs := True.intro
    refine loopV ?_
    have hz : True := trivial
    have hy := yieldedV_eq
    have hL := And.intro @hga (@hgb)
    repeat' (first | (refine WPV.seqK ?_; intro N hN) | (refine And.intro (hO _ (by kernel_rfl)) ?_; clear hO) | refine gA ?_ | (refine gR (M := noM) ?_; intro N hN ops hy) | (refine gDG (M := noM) ?_; intro N hN ops hy hO) | (refine WPV.condK ?_; intro A hA B hB) | (refine here ?_; refine sS ?_) | refine Both.mk ?_ ?_ | ((with_reducible refine CallO.gd 58 ?_); refine CallO.frB [] Tryz.call58 (cs) ?_) | ((with_reducible refine CallP.gd 58 ?_); refine CallP.frB [] 0 Tryz.call58 (cs) ?_) | (refine hN _ ?_; try clear hN N; try clear hy ops) | (refine hA ?_; clear hA A hB B; try simp only [hz]) | (refine hB ?_; clear hA A hB B; try simp only [hz]) | (refine gG ?_ ?_ <;> (intro hz; have h := nm hz; try (exfalso; omega)) <;> (have hz := nz hz; try subst hz)) | (rw [if_pos (show _ ∧ _ from ⟨by omega, by omega⟩)]; refine sS ?_) | refine gT ?_ | (clear hN N))
    all_goals (first | exact retZ hQ Tryz.results34 (Desc.re [] rfl) | exact retZN hQ Tryz.results34 (Desc.re [] rfl))
  · have e : teqL a b = false := teqL_ne hn
    rw [e]
    refine Sp.of_bodyE Tryz.func34 rfl ?_
    intro Q hQ
    simp only [List.replicate, List.length_cons, List.length_nil, Tryz.ntmps34, Nat.reduceAdd, Nat.reduceSub, List.cons_append, List.nil_append, go_sem]
    have hz : True := trivial
    have hy := yieldedV_eq
    have hL := And.intro @hga (@hgb)
    repeat' (first | (refine WPV.seqK ?_; intro N hN) | (refine And.intro (hO _ (by kernel_rfl)) ?_; clear hO) | refine gA ?_ | (refine gR (M := noM) ?_; intro N hN ops hy) | (refine gDG (M := noM) ?_; intro N hN ops hy hO) | (refine WPV.condK ?_; intro A hA B hB) | (refine here ?_; refine sS ?_) | refine Both.mk ?_ ?_ | ((with_reducible refine CallO.gd 58 ?_); refine CallO.frB [] Tryz.call58 (cs) ?_) | ((with_reducible refine CallP.gd 58 ?_); refine CallP.frB [] 0 Tryz.call58 (cs) ?_) | (refine hN _ ?_; try clear hN N; try clear hy ops) | (refine hA ?_; clear hA A hB B; try simp only [hz]) | (refine hB ?_; clear hA A hB B; try simp only [hz]) | (refine gG ?_ ?_ <;> (intro hz; have h := nm hz; try (exfalso; omega)) <;> (have hz := nz hz; try subst hz)) | (rw [if_pos (show _ ∧ _ from ⟨by omega, by omega⟩)]; refine sS ?_) | refine gT ?_ | (clear hN N))
    all_goals (first | exact retZ hQ Tryz.results34 (Desc.re [] rfl) | exact retZN hQ Tryz.results34 (Desc.re [] rfl))
end Go.Proofs.YtgfnpcmehnjopaaGreatDoor
end
section
namespace Go.Proofs.YtgfnpcmehnjopaaGreatDoor
open Go Go.RowKit
set_option linter.unusedVariables false
set_option linter.unusedSimpArgs false
variable {K : Nat → Obj → Prop}
set_option maxRecDepth 100000 in
set_option maxHeartbeats 1000000 in
theorem kput1_s (m : Msg) (hw : ∀ t ∈ m.l, t.w.length ≤ 1000000) : Sp Tryz.prog K 39 [msgV m] [] fun u hh => u = .sl 1 (bs (packF m.l).1) ∧ hh = [] := by
  have cp := pack_s (K := K) m.l hw
  obtain ⟨k, o, f, t, l⟩ := m
  dsimp only [byV] at cp ⊢
  refine Sp.of_bodyE Tryz.func39 rfl ?_
  intro Q hQ
  simp only [List.replicate, List.length_cons, List.length_nil, Tryz.ntmps39, Nat.reduceAdd, Nat.reduceSub, List.cons_append, List.nil_append, go_sem]
  have hz : True := trivial
  have hy := yieldedV_eq
  have hL := True.intro
  repeat' (first | (refine WPV.seqK ?_; intro N hN) | (refine And.intro (hO _ (by kernel_rfl)) ?_; clear hO) | refine gA ?_ | (refine gR (M := noM) ?_; intro N hN ops hy) | (refine gDG (M := noM) ?_; intro N hN ops hy hO) | (refine WPV.condK ?_; intro A hA B hB) | (refine here ?_; refine sS ?_) | refine Both.mk ?_ ?_ | ((with_reducible refine CallO.gd 40 ?_); refine CallO.frB [] Tryz.call40 (cp) ?_) | (refine hN _ ?_; try clear hN N; try clear hy ops) | (refine hA ?_; clear hA A hB B; try simp only [hz]) | (refine hB ?_; clear hA A hB B; try simp only [hz]) | (refine gG ?_ ?_ <;> (intro hz; have h := nm hz; try (exfalso; omega)) <;> (have hz := nz hz; try subst hz)) | (rw [if_pos (show _ ∧ _ from ⟨by omega, by omega⟩)]; refine sS ?_) | refine gT ?_ | (clear hN N))
  all_goals (first | exact retZ hQ Tryz.results39 (Desc.re [] rfl) | exact retZN hQ Tryz.results39 (Desc.re [] rfl))
set_option maxRecDepth 100000 in
set_option maxHeartbeats 1000000 in
theorem kput2_s (k o f t : Int) (l : List Tx) (h : 0 ≤ t ∧ t ≤ 4611686018427387903) : Sp Tryz.prog K 44 [msgV ⟨k, o, f, t, l⟩] [] fun u hh => u = .sl 1 (bs (vput t.toNat)) ∧ hh = [] := by
  refine Sp.of_bodyE Tryz.func44 rfl ?_
  intro Q hQ
  simp only [List.replicate, List.length_cons, List.length_nil, Tryz.ntmps44, Nat.reduceAdd, Nat.reduceSub, List.cons_append, List.nil_append, go_sem]
  have hz : True := trivial
  have hy := yieldedV_eq
  have hL := True.intro
  repeat' (first | (refine WPV.seqK ?_; intro N hN) | (refine And.intro (hO _ (by kernel_rfl)) ?_; clear hO) | refine gA ?_ | (refine gR (M := noM) ?_; intro N hN ops hy) | (refine gDG (M := noM) ?_; intro N hN ops hy hO) | (refine WPV.condK ?_; intro A hA B hB) | (refine here ?_; refine sS ?_) | refine Both.mk ?_ ?_ | ((with_reducible refine CallO.gd 45 ?_); refine CallO.toB Tryz.call45 (vput_s (m := t) (by omega) (by omega) _) ?_) | ((with_reducible refine CallP.gd 45 ?_); refine CallP.toB Tryz.call45 (vput_s (m := t) (by omega) (by omega) _) ?_) | (refine hN _ ?_; try clear hN N; try clear hy ops) | (refine hA ?_; clear hA A hB B; try simp only [hz]) | (refine hB ?_; clear hA A hB B; try simp only [hz]) | (refine gG ?_ ?_ <;> (intro hz; have h := nm hz; try (exfalso; omega)) <;> (have hz := nz hz; try subst hz)) | (rw [if_pos (show _ ∧ _ from ⟨by omega, by omega⟩)]; refine sS ?_) | refine gT ?_ | (clear hN N))
  all_goals (first | exact retZ hQ Tryz.results44 (Desc.re [] rfl) | exact retZN hQ Tryz.results44 (Desc.re [] rfl))
set_option maxRecDepth 100000 in
set_option maxHeartbeats 1000000 in
theorem kput3_s (k o f t : Int) (l : List Tx) (h : 0 ≤ f ∧ f ≤ 4611686018427387903) (h2 : 0 ≤ t ∧ t ≤ 4611686018427387903) : Sp Tryz.prog K 49 [msgV ⟨k, o, f, t, l⟩] [] fun u hh => u = .sl 1 (bs (vput f.toNat ++ vput t.toNat)) ∧ hh = [] := by
  refine Sp.of_bodyE Tryz.func49 rfl ?_
  intro Q hQ
  simp only [List.replicate, List.length_cons, List.length_nil, Tryz.ntmps49, Nat.reduceAdd, Nat.reduceSub, List.cons_append, List.nil_append, go_sem]
  have hz : True := trivial
  have hy := yieldedV_eq
  have hL := True.intro
  repeat' (first | (refine WPV.seqK ?_; intro N hN) | (refine And.intro (hO _ (by kernel_rfl)) ?_; clear hO) | refine gA ?_ | (refine gR (M := noM) ?_; intro N hN ops hy) | (refine gDG (M := noM) ?_; intro N hN ops hy hO) | (refine WPV.condK ?_; intro A hA B hB) | (refine here ?_; refine sS ?_) | refine Both.mk ?_ ?_ | ((with_reducible refine CallO.gd 19 ?_); refine CallO.toB Tryz.call19 (vall2_s (a := f) (b := t) ⟨by omega, by omega⟩ ⟨by omega, by omega⟩ _) ?_) | ((with_reducible refine CallP.gd 19 ?_); refine CallP.toB Tryz.call19 (vall2_s (a := f) (b := t) ⟨by omega, by omega⟩ ⟨by omega, by omega⟩ _) ?_) | (refine hN _ ?_; try clear hN N; try clear hy ops) | (refine hA ?_; clear hA A hB B; try simp only [hz]) | (refine hB ?_; clear hA A hB B; try simp only [hz]) | (refine gG ?_ ?_ <;> (intro hz; have h := nm hz; try (exfalso; omega)) <;> (have hz := nz hz; try subst hz)) | (rw [if_pos (show _ ∧ _ from ⟨by omega, by omega⟩)]; refine sS ?_) | refine gT ?_ | (clear hN N))
  all_goals (first | exact retZ hQ Tryz.results49 (Desc.re [] rfl) | exact retZN hQ Tryz.results49 (Desc.re [] rfl))
theorem mbody_len {m : Msg} (h : mchk m = 0) : (mbody m).length ≤ 100000 := by
  obtain ⟨hk, ho, hb⟩ := mchk_ok h
  obtain ⟨k, o, f, t, l⟩ := m
  dsimp only at hk ho hb
  rcases hb with ⟨rfl, hd⟩ | ⟨rfl, hd⟩ | ⟨rfl, hd⟩
  · obtain ⟨a1, a2, a3, a4⟩ := mdata_ok hd
    dsimp only at a3 a4
    rw [mbody1]
    have go : ∀ (l : List Tx) (x : Cod Di), x.d.Ok → rightF x.c = true → (packGo x l).1.length ≤ 20000 * l.length := by
      intro l
      induction l with
      | nil => intro x _ _; simp [packGo]
      | cons t l ih =>
        intro x ok hr
        rcases tput_two ok hr t with ⟨hc, p1⟩ | ⟨hc, b, x', p1, ok', hr', hbl, p2⟩
        · rw [packGo_err p1 hc]; simp
        · rw [packGo_ok p1]
          have := ih x' ok' hr'
          split
          · simp
          · rw [List.length_append, List.length_cons]; omega
    have h1 := go l Cod.new .nw r_new
    have h2 := vput_len (n := l.length) (by omega)
    unfold packF
    split
    · simp
    split
    · simp
    · rw [List.length_append]; omega
  · rw [mbody2]
    have := (mack_ok hd)
    have h2 := vput_len (n := t.toNat) (by dsimp only at this; omega)
    omega
  · rw [mbody3]
    have := (mask_ok hd)
    dsimp only at this
    have h2 := vput_len (n := t.toNat) (by omega)
    have h3 := vput_len (n := f.toNat) (by omega)
    rw [List.length_append]; omega
set_option maxRecDepth 100000 in
set_option maxHeartbeats 4000000 in
theorem mput_s (hK : KT K) (m : Msg) (hl : m.l.length ≤ 9223372036854775807) (hw : ∀ t ∈ m.l, t.w.length ≤ 1000000) : Sp Tryz.prog K 6 [msgV m] [] fun u hh => u = byV (mput m) ∧ hh = [] := by
  have ck := mchk_s (K := K) m hl (fun t ht => Nat.le_trans (hw t ht) (by decide))
  by_cases hc : mchk m ≠ 0
  · rw [show mput m = ([], mchk m) from if_pos hc]
    have cv := True.intro
    have cb := True.intro
    have cs := True.intro
    generalize mchk m = e at *
    obtain ⟨k, o, f, t, l⟩ := m
    refine Sp.of_bodyE Tryz.func6 rfl ?_
    intro Q hQ
    simp only [List.replicate, List.length_cons, List.length_nil, Tryz.ntmps6, Nat.reduceAdd, Nat.reduceSub, List.cons_append, List.nil_append, go_sem]
    have hz : True := trivial
    have hy := yieldedV_eq
    have hL := True.intro
    repeat' (first | (refine WPV.seqK ?_; intro N hN) | (refine And.intro (hO _ (by kernel_rfl)) ?_; clear hO) | refine gA ?_ | (refine gR (M := noM) ?_; intro N hN ops hy) | (refine gDG (M := noM) ?_; intro N hN ops hy hO) | (refine WPV.condK ?_; intro A hA B hB) | (refine here ?_; refine sS ?_) | refine Both.mk ?_ ?_ | ((with_reducible refine CallO.gd 12 ?_); refine CallO.frB [] Tryz.call12 (ck) ?_) | ((with_reducible refine CallO.gd 19 ?_); refine CallO.frB [] Tryz.call19 (cv) ?_) | ((with_reducible refine CallO.gd 20 ?_); refine CallO.toB Tryz.call20 (kinds_s _) ?_) | ((with_reducible refine CallO.gd 39 ?_); refine CallO.frB [] Tryz.call39 (cb) ?_) | ((with_reducible refine CallO.gd 44 ?_); refine CallO.frB [] Tryz.call44 (cb) ?_) | ((with_reducible refine CallO.gd 49 ?_); refine CallO.frB [] Tryz.call49 (cb) ?_) | ((with_reducible refine CallO.gd 10 ?_); refine CallO.toB Tryz.call10 (cs _) ?_) | ((with_reducible refine CallP.gd 20 ?_); refine CallP.toB Tryz.call20 (kinds_s _) ?_) | ((with_reducible refine CallP.gd 39 ?_); refine CallP.frB [] 0 Tryz.call39 (cb) ?_) | ((with_reducible refine CallP.gd 44 ?_); refine CallP.frB [] 0 Tryz.call44 (cb) ?_) | ((with_reducible refine CallP.gd 49 ?_); refine CallP.frB [] 0 Tryz.call49 (cb) ?_) | ((with_reducible refine CallP.gd 10 ?_); refine CallP.toB Tryz.call10 (cs _) ?_) | (refine hN _ ?_; try clear hN N; try clear hy ops) | (refine hA ?_; clear hA A hB B; try simp only [hz]) | (refine hB ?_; clear hA A hB B; try simp only [hz]) | (refine gG ?_ ?_ <;> (intro hz; have h := nm hz; try (exfalso; omega)) <;> (have hz := nz hz; try subst hz)) | (rw [if_pos (show _ ∧ _ from ⟨by omega, by omega⟩)]; refine sS ?_) | refine gT ?_ | (clear hN N))
    all_goals (first | exact retZ hQ Tryz.results6 (Desc.re [] rfl) | exact retZN hQ Tryz.results6 (Desc.re [] rfl))
  have hc := Decidable.not_not.1 hc
  have hml := mbody_len hc
  obtain ⟨hk, ho, hb⟩ := mchk_ok hc
  have e0 : mput m = (sealF (vput m.k.toNat ++ vput m.o.toNat ++ mbody m), 0) := by unfold mput; rw [if_neg (by rw [hc]; simp)]
  rw [e0]
  rw [hc] at ck
  have hv1 := vput_len (n := m.k.toNat) (by omega)
  have hv2 := vput_len (n := m.o.toNat) (by omega)
  have cv := vall2O_s (K := K) (a := m.k) (b := m.o) (by omega) (by omega)
  have cs := fun h => seal_s hK (vput m.k.toNat ++ vput m.o.toNat ++ mbody m) (by simp only [List.length_append]; omega) h
  have hvl : (vput m.k.toNat ++ vput m.o.toNat).length ≤ 20 := by rw [List.length_append]; omega
  clear e0
  generalize sealF (vput m.k.toNat ++ vput m.o.toNat ++ mbody m) = q at *
  generalize vput m.k.toNat ++ vput m.o.toNat = hd at *
  rcases hb with ⟨h1, hd1⟩ | ⟨h1, hd1⟩ | ⟨h1, hd1⟩
  · have cb := kput1_s (K := K) m hw
    rw [show (packF m.l).1 = mbody m by unfold mbody; rw [if_pos h1]] at cb
    generalize mbody m = bd at *
    obtain ⟨k, o, f, t, l⟩ := m
    dsimp only at h1
    subst h1
    dsimp only at *
    refine Sp.of_bodyE Tryz.func6 rfl ?_
    intro Q hQ
    simp only [List.replicate, List.length_cons, List.length_nil, Tryz.ntmps6, Nat.reduceAdd, Nat.reduceSub, List.cons_append, List.nil_append, go_sem]
    have hz : True := trivial
    have hy := yieldedV_eq
    have hL := True.intro
    repeat' (first | (refine WPV.seqK ?_; intro N hN) | (refine And.intro (hO _ (by kernel_rfl)) ?_; clear hO) | refine gA ?_ | (refine gR (M := noM) ?_; intro N hN ops hy) | (refine gDG (M := noM) ?_; intro N hN ops hy hO) | (refine WPV.condK ?_; intro A hA B hB) | (refine here ?_; refine sS ?_) | refine Both.mk ?_ ?_ | ((with_reducible refine CallO.gd 12 ?_); refine CallO.frB [] Tryz.call12 (ck) ?_) | ((with_reducible refine CallO.gd 19 ?_); refine CallO.frB [] Tryz.call19 (cv) ?_) | ((with_reducible refine CallO.gd 20 ?_); refine CallO.toB Tryz.call20 (kinds_s _) ?_) | ((with_reducible refine CallO.gd 39 ?_); refine CallO.frB [] Tryz.call39 (cb) ?_) | ((with_reducible refine CallO.gd 44 ?_); refine CallO.frB [] Tryz.call44 (cb) ?_) | ((with_reducible refine CallO.gd 49 ?_); refine CallO.frB [] Tryz.call49 (cb) ?_) | ((with_reducible refine CallO.gd 10 ?_); refine CallO.toB Tryz.call10 (cs _) ?_) | ((with_reducible refine CallP.gd 20 ?_); refine CallP.toB Tryz.call20 (kinds_s _) ?_) | ((with_reducible refine CallP.gd 39 ?_); refine CallP.frB [] 0 Tryz.call39 (cb) ?_) | ((with_reducible refine CallP.gd 44 ?_); refine CallP.frB [] 0 Tryz.call44 (cb) ?_) | ((with_reducible refine CallP.gd 49 ?_); refine CallP.frB [] 0 Tryz.call49 (cb) ?_) | ((with_reducible refine CallP.gd 10 ?_); refine CallP.toB Tryz.call10 (cs _) ?_) | (refine hN _ ?_; try clear hN N; try clear hy ops) | (refine hA ?_; clear hA A hB B; try simp only [hz]) | (refine hB ?_; clear hA A hB B; try simp only [hz]) | (refine gG ?_ ?_ <;> (intro hz; have h := nm hz; try (exfalso; omega)) <;> (have hz := nz hz; try subst hz)) | (rw [if_pos (show _ ∧ _ from ⟨by omega, by omega⟩)]; refine sS ?_) | refine gT ?_ | (clear hN N))
    all_goals (first | exact retZ hQ Tryz.results6 (Desc.re [] rfl) | exact retZN hQ Tryz.results6 (Desc.re [] rfl))
  · obtain ⟨a1, a2, a3, a4⟩ := mack_ok hd1
    obtain ⟨k, o, f, t, l⟩ := m
    dsimp only at h1 a1 a2 a3 a4
    subst h1
    have cb := kput2_s (K := K) 2 o f t l ⟨a3, a4⟩
    rw [← mbody2 o f t l] at cb
    generalize mbody ⟨2, o, f, t, l⟩ = bd at *
    dsimp only at *
    refine Sp.of_bodyE Tryz.func6 rfl ?_
    intro Q hQ
    simp only [List.replicate, List.length_cons, List.length_nil, Tryz.ntmps6, Nat.reduceAdd, Nat.reduceSub, List.cons_append, List.nil_append, go_sem]
    have hz : True := trivial
    have hy := yieldedV_eq
    have hL := True.intro
    repeat' (first | (refine WPV.seqK ?_; intro N hN) | (refine And.intro (hO _ (by kernel_rfl)) ?_; clear hO) | refine gA ?_ | (refine gR (M := noM) ?_; intro N hN ops hy) | (refine gDG (M := noM) ?_; intro N hN ops hy hO) | (refine WPV.condK ?_; intro A hA B hB) | (refine here ?_; refine sS ?_) | refine Both.mk ?_ ?_ | ((with_reducible refine CallO.gd 12 ?_); refine CallO.frB [] Tryz.call12 (ck) ?_) | ((with_reducible refine CallO.gd 19 ?_); refine CallO.frB [] Tryz.call19 (cv) ?_) | ((with_reducible refine CallO.gd 20 ?_); refine CallO.toB Tryz.call20 (kinds_s _) ?_) | ((with_reducible refine CallO.gd 39 ?_); refine CallO.frB [] Tryz.call39 (cb) ?_) | ((with_reducible refine CallO.gd 44 ?_); refine CallO.frB [] Tryz.call44 (cb) ?_) | ((with_reducible refine CallO.gd 49 ?_); refine CallO.frB [] Tryz.call49 (cb) ?_) | ((with_reducible refine CallO.gd 10 ?_); refine CallO.toB Tryz.call10 (cs _) ?_) | ((with_reducible refine CallP.gd 20 ?_); refine CallP.toB Tryz.call20 (kinds_s _) ?_) | ((with_reducible refine CallP.gd 39 ?_); refine CallP.frB [] 0 Tryz.call39 (cb) ?_) | ((with_reducible refine CallP.gd 44 ?_); refine CallP.frB [] 0 Tryz.call44 (cb) ?_) | ((with_reducible refine CallP.gd 49 ?_); refine CallP.frB [] 0 Tryz.call49 (cb) ?_) | ((with_reducible refine CallP.gd 10 ?_); refine CallP.toB Tryz.call10 (cs _) ?_) | (refine hN _ ?_; try clear hN N; try clear hy ops) | (refine hA ?_; clear hA A hB B; try simp only [hz]) | (refine hB ?_; clear hA A hB B; try simp only [hz]) | (refine gG ?_ ?_ <;> (intro hz; have h := nm hz; try (exfalso; omega)) <;> (have hz := nz hz; try subst hz)) | (rw [if_pos (show _ ∧ _ from ⟨by omega, by omega⟩)]; refine sS ?_) | refine gT ?_ | (clear hN N))
    all_goals (first | exact retZ hQ Tryz.results6 (Desc.re [] rfl) | exact retZN hQ Tryz.results6 (Desc.re [] rfl))
  · obtain ⟨a1, a2, a3, a4⟩ := mask_ok hd1
    obtain ⟨k, o, f, t, l⟩ := m
    dsimp only at h1 a1 a2 a3 a4
    subst h1
    have cb := kput3_s (K := K) 3 o f t l ⟨by omega, by omega⟩ ⟨by omega, by omega⟩
    rw [← mbody3 o f t l] at cb
    generalize mbody ⟨3, o, f, t, l⟩ = bd at *
    dsimp only at *
    refine Sp.of_bodyE Tryz.func6 rfl ?_
    intro Q hQ
    simp only [List.replicate, List.length_cons, List.length_nil, Tryz.ntmps6, Nat.reduceAdd, Nat.reduceSub, List.cons_append, List.nil_append, go_sem]
    have hz : True := trivial
    have hy := yieldedV_eq
    have hL := True.intro
    repeat' (first | (refine WPV.seqK ?_; intro N hN) | (refine And.intro (hO _ (by kernel_rfl)) ?_; clear hO) | refine gA ?_ | (refine gR (M := noM) ?_; intro N hN ops hy) | (refine gDG (M := noM) ?_; intro N hN ops hy hO) | (refine WPV.condK ?_; intro A hA B hB) | (refine here ?_; refine sS ?_) | refine Both.mk ?_ ?_ | ((with_reducible refine CallO.gd 12 ?_); refine CallO.frB [] Tryz.call12 (ck) ?_) | ((with_reducible refine CallO.gd 19 ?_); refine CallO.frB [] Tryz.call19 (cv) ?_) | ((with_reducible refine CallO.gd 20 ?_); refine CallO.toB Tryz.call20 (kinds_s _) ?_) | ((with_reducible refine CallO.gd 39 ?_); refine CallO.frB [] Tryz.call39 (cb) ?_) | ((with_reducible refine CallO.gd 44 ?_); refine CallO.frB [] Tryz.call44 (cb) ?_) | ((with_reducible refine CallO.gd 49 ?_); refine CallO.frB [] Tryz.call49 (cb) ?_) | ((with_reducible refine CallO.gd 10 ?_); refine CallO.toB Tryz.call10 (cs _) ?_) | ((with_reducible refine CallP.gd 20 ?_); refine CallP.toB Tryz.call20 (kinds_s _) ?_) | ((with_reducible refine CallP.gd 39 ?_); refine CallP.frB [] 0 Tryz.call39 (cb) ?_) | ((with_reducible refine CallP.gd 44 ?_); refine CallP.frB [] 0 Tryz.call44 (cb) ?_) | ((with_reducible refine CallP.gd 49 ?_); refine CallP.frB [] 0 Tryz.call49 (cb) ?_) | ((with_reducible refine CallP.gd 10 ?_); refine CallP.toB Tryz.call10 (cs _) ?_) | (refine hN _ ?_; try clear hN N; try clear hy ops) | (refine hA ?_; clear hA A hB B; try simp only [hz]) | (refine hB ?_; clear hA A hB B; try simp only [hz]) | (refine gG ?_ ?_ <;> (intro hz; have h := nm hz; try (exfalso; omega)) <;> (have hz := nz hz; try subst hz)) | (rw [if_pos (show _ ∧ _ from ⟨by omega, by omega⟩)]; refine sS ?_) | refine gT ?_ | (clear hN N))
    all_goals (first | exact retZ hQ Tryz.results6 (Desc.re [] rfl) | exact retZN hQ Tryz.results6 (Desc.re [] rfl))
set_option maxRecDepth 100000 in
set_option maxHeartbeats 2000000 in
theorem nums1_s (b : List UInt8) (hl : b.length ≤ 1000000000) {n : Nat} {r : List UInt8} {e : Int} (h1 : num1 b = (n, r, e)) (k o f t : Int) (l : List Tx) : Sp Tryz.prog K 47 [.sl 1 (bs b), .hs true 1 1 0 1] [.cells (msgC ⟨k, o, f, t, l⟩), .cells [.ptr 0 3]] fun u hh => u = .sc (.int .i64 (if e ≠ 0 then e else if r ≠ [] then 3 else 0)) ∧ hh = [.cells (msgC ⟨k, o, f, if e ≠ 0 then t else n, l⟩), .cells [.ptr 0 3]] := by
  obtain ⟨p, m, er, ht⟩ : ∃ p m er, tk b = (p, m, er) := ⟨_, _, _, rfl⟩
  have ct := fun h => vtake_s (K := K) ht hl h
  have hm := tk_le b
  have e0 : num1 b = if er ≠ 0 then (0, b, er) else if 4611686018427387903 < p.toNat then (0, b, 1) else (p.toNat, b.drop m, 0) := by unfold num1; rw [ht]
  rw [ht] at hm
  dsimp only at hm
  rw [e0] at h1
  clear e0 ht
  by_cases he : er ≠ 0
  · rw [if_pos he] at h1
    simp only [Prod.mk.injEq] at h1
    obtain ⟨rfl, rfl, rfl⟩ := h1
    rw [if_pos he, if_pos he]
    refine Sp.of_bodyE Tryz.func47 rfl ?_
    intro Q hQ
    simp only [List.replicate, List.length_cons, List.length_nil, Tryz.ntmps47, Nat.reduceAdd, Nat.reduceSub, List.cons_append, List.nil_append, go_sem]
    have hz : True := trivial
    have hy := yieldedV_eq
    have hL := True.intro
    repeat' (first | (refine WPV.seqK ?_; intro N hN) | (refine And.intro (hO _ (by kernel_rfl)) ?_; clear hO) | refine gA ?_ | (refine gR (M := noM) ?_; intro N hN ops hy) | (refine gDG (M := noM) ?_; intro N hN ops hy hO) | (refine WPV.condK ?_; intro A hA B hB) | (refine here ?_; refine sS ?_) | refine Both.mk ?_ ?_ | ((with_reducible refine CallO.gd 24 ?_); refine CallO.toB Tryz.call24 (ct _) ?_) | ((with_reducible refine CallP.gd 24 ?_); refine CallP.toB Tryz.call24 (ct _) ?_) | (refine hN _ ?_; try clear hN N; try clear hy ops) | (refine hA ?_; clear hA A hB B; try simp only [hz]) | (refine hB ?_; clear hA A hB B; try simp only [hz]) | (refine gG ?_ ?_ <;> (intro hz; have h := nm hz; try (exfalso; omega)) <;> (have hz := nz hz; try subst hz)) | (rw [if_pos (show _ ∧ _ from ⟨by omega, by omega⟩)]; refine sS ?_) | refine gT ?_ | (clear hN N))
    refine loopV ?_
    have hz : True := trivial
    have hy := yieldedV_eq
    have hL := True.intro
    repeat' (first | (refine WPV.seqK ?_; intro N hN) | (refine And.intro (hO _ (by kernel_rfl)) ?_; clear hO) | refine gA ?_ | (refine gR (M := noM) ?_; intro N hN ops hy) | (refine gDG (M := noM) ?_; intro N hN ops hy hO) | (refine WPV.condK ?_; intro A hA B hB) | (refine here ?_; refine sS ?_) | refine Both.mk ?_ ?_ | ((with_reducible refine CallO.gd 24 ?_); refine CallO.toB Tryz.call24 (ct _) ?_) | ((with_reducible refine CallP.gd 24 ?_); refine CallP.toB Tryz.call24 (ct _) ?_) | (refine hN _ ?_; try clear hN N; try clear hy ops) | (refine hA ?_; clear hA A hB B; try simp only [hz]) | (refine hB ?_; clear hA A hB B; try simp only [hz]) | (refine gG ?_ ?_ <;> (intro hz; have h := nm hz; try (exfalso; omega)) <;> (have hz := nz hz; try subst hz)) | (rw [if_pos (show _ ∧ _ from ⟨by omega, by omega⟩)]; refine sS ?_) | refine gT ?_ | (clear hN N))
    all_goals (first | exact retZ hQ Tryz.results47 (Desc.re [some 0, some 1] rfl) | exact retZN hQ Tryz.results47 (Desc.re [some 0, some 1] rfl))
  rw [if_neg he] at h1
  have he := Decidable.not_not.1 he
  subst he
  by_cases hp : 4611686018427387903 < p.toNat
  · rw [if_pos hp] at h1
    simp only [Prod.mk.injEq] at h1
    obtain ⟨rfl, rfl, rfl⟩ := h1
    rw [if_pos (by decide), if_pos (by decide)]
    refine Sp.of_bodyE Tryz.func47 rfl ?_
    intro Q hQ
    simp only [List.replicate, List.length_cons, List.length_nil, Tryz.ntmps47, Nat.reduceAdd, Nat.reduceSub, List.cons_append, List.nil_append, go_sem]
    have hz : True := trivial
    have hy := yieldedV_eq
    have hL := True.intro
    repeat' (first | (refine WPV.seqK ?_; intro N hN) | (refine And.intro (hO _ (by kernel_rfl)) ?_; clear hO) | refine gA ?_ | (refine gR (M := noM) ?_; intro N hN ops hy) | (refine gDG (M := noM) ?_; intro N hN ops hy hO) | (refine WPV.condK ?_; intro A hA B hB) | (refine here ?_; refine sS ?_) | refine Both.mk ?_ ?_ | ((with_reducible refine CallO.gd 24 ?_); refine CallO.toB Tryz.call24 (ct _) ?_) | ((with_reducible refine CallP.gd 24 ?_); refine CallP.toB Tryz.call24 (ct _) ?_) | (refine hN _ ?_; try clear hN N; try clear hy ops) | (refine hA ?_; clear hA A hB B; try simp only [hz]) | (refine hB ?_; clear hA A hB B; try simp only [hz]) | (refine gG ?_ ?_ <;> (intro hz; have h := nm hz; try (exfalso; omega)) <;> (have hz := nz hz; try subst hz)) | (rw [if_pos (show _ ∧ _ from ⟨by omega, by omega⟩)]; refine sS ?_) | refine gT ?_ | (clear hN N))
    refine loopV ?_
    have hz : True := trivial
    have hy := yieldedV_eq
    have hL := True.intro
    repeat' (first | (refine WPV.seqK ?_; intro N hN) | (refine And.intro (hO _ (by kernel_rfl)) ?_; clear hO) | refine gA ?_ | (refine gR (M := noM) ?_; intro N hN ops hy) | (refine gDG (M := noM) ?_; intro N hN ops hy hO) | (refine WPV.condK ?_; intro A hA B hB) | (refine here ?_; refine sS ?_) | refine Both.mk ?_ ?_ | ((with_reducible refine CallO.gd 24 ?_); refine CallO.toB Tryz.call24 (ct _) ?_) | ((with_reducible refine CallP.gd 24 ?_); refine CallP.toB Tryz.call24 (ct _) ?_) | (refine hN _ ?_; try clear hN N; try clear hy ops) | (refine hA ?_; clear hA A hB B; try simp only [hz]) | (refine hB ?_; clear hA A hB B; try simp only [hz]) | (refine gG ?_ ?_ <;> (intro hz; have h := nm hz; try (exfalso; omega)) <;> (have hz := nz hz; try subst hz)) | (rw [if_pos (show _ ∧ _ from ⟨by omega, by omega⟩)]; refine sS ?_) | refine gT ?_ | (clear hN N))
    all_goals (first | exact retZ hQ Tryz.results47 (Desc.re [some 0, some 1] rfl) | exact retZN hQ Tryz.results47 (Desc.re [some 0, some 1] rfl))
  rw [if_neg hp] at h1
  simp only [Prod.mk.injEq] at h1
  obtain ⟨rfl, rfl, rfl⟩ := h1
  simp only [ne_eq, not_true_eq_false, if_false]
  have hlen : (b.drop m).length = b.length - m := List.length_drop
  have hr : (if ¬ b.drop m = [] then (3 : Int) else 0) = if m < b.length then 3 else 0 := by
    by_cases h : ¬ b.drop m = []
    · have := List.length_pos_iff.2 h
      rw [if_pos h, if_pos (by omega)]
    · rw [if_neg h, if_neg (by rw [Decidable.not_not.1 h] at hlen; simp at hlen; omega)]
  rw [hr]
  refine Sp.of_bodyE Tryz.func47 rfl ?_
  intro Q hQ
  simp only [List.replicate, List.length_cons, List.length_nil, Tryz.ntmps47, Nat.reduceAdd, Nat.reduceSub, List.cons_append, List.nil_append, go_sem]
  have hz : True := trivial
  have hy := yieldedV_eq
  have hL := True.intro
  repeat' (first | (refine WPV.seqK ?_; intro N hN) | (refine And.intro (hO _ (by kernel_rfl)) ?_; clear hO) | refine gA ?_ | (refine gR (M := noM) ?_; intro N hN ops hy) | (refine gDG (M := noM) ?_; intro N hN ops hy hO) | (refine WPV.condK ?_; intro A hA B hB) | (refine here ?_; refine sS ?_) | refine Both.mk ?_ ?_ | ((with_reducible refine CallO.gd 24 ?_); refine CallO.toB Tryz.call24 (ct _) ?_) | ((with_reducible refine CallP.gd 24 ?_); refine CallP.toB Tryz.call24 (ct _) ?_) | (refine hN _ ?_; try clear hN N; try clear hy ops) | (refine hA ?_; clear hA A hB B; try simp only [hz]) | (refine hB ?_; clear hA A hB B; try simp only [hz]) | (refine gG ?_ ?_ <;> (intro hz; have h := nm hz; try (exfalso; omega)) <;> (have hz := nz hz; try subst hz)) | (rw [if_pos (show _ ∧ _ from ⟨by omega, by omega⟩)]; refine sS ?_) | refine gT ?_ | (clear hN N))
  refine loopV ?_
  have hz : True := trivial
  have hy := yieldedV_eq
  have hL := True.intro
  repeat' (first | (refine WPV.seqK ?_; intro N hN) | (refine And.intro (hO _ (by kernel_rfl)) ?_; clear hO) | refine gA ?_ | (refine gR (M := noM) ?_; intro N hN ops hy) | (refine gDG (M := noM) ?_; intro N hN ops hy hO) | (refine WPV.condK ?_; intro A hA B hB) | (refine here ?_; refine sS ?_) | refine Both.mk ?_ ?_ | ((with_reducible refine CallO.gd 24 ?_); refine CallO.toB Tryz.call24 (ct _) ?_) | ((with_reducible refine CallP.gd 24 ?_); refine CallP.toB Tryz.call24 (ct _) ?_) | (refine hN _ ?_; try clear hN N; try clear hy ops) | (refine hA ?_; clear hA A hB B; try simp only [hz]) | (refine hB ?_; clear hA A hB B; try simp only [hz]) | (refine gG ?_ ?_ <;> (intro hz; have h := nm hz; try (exfalso; omega)) <;> (have hz := nz hz; try subst hz)) | (rw [if_pos (show _ ∧ _ from ⟨by omega, by omega⟩)]; refine sS ?_) | refine gT ?_ | (clear hN N))
  refine loopV ?_
  have hz : True := trivial
  have hy := yieldedV_eq
  have hL := True.intro
  repeat' (first | (refine WPV.seqK ?_; intro N hN) | (refine And.intro (hO _ (by kernel_rfl)) ?_; clear hO) | refine gA ?_ | (refine gR (M := noM) ?_; intro N hN ops hy) | (refine gDG (M := noM) ?_; intro N hN ops hy hO) | (refine WPV.condK ?_; intro A hA B hB) | (refine here ?_; refine sS ?_) | refine Both.mk ?_ ?_ | ((with_reducible refine CallO.gd 24 ?_); refine CallO.toB Tryz.call24 (ct _) ?_) | ((with_reducible refine CallP.gd 24 ?_); refine CallP.toB Tryz.call24 (ct _) ?_) | (refine hN _ ?_; try clear hN N; try clear hy ops) | (refine hA ?_; clear hA A hB B; try simp only [hz]) | (refine hB ?_; clear hA A hB B; try simp only [hz]) | (refine gG ?_ ?_ <;> (intro hz; have h := nm hz; try (exfalso; omega)) <;> (have hz := nz hz; try subst hz)) | (rw [if_pos (show _ ∧ _ from ⟨by omega, by omega⟩)]; refine sS ?_) | refine gT ?_ | (clear hN N))
  all_goals (first | exact retZ hQ Tryz.results47 (Desc.re [some 0, some 1] rfl) | exact retZN hQ Tryz.results47 (Desc.re [some 0, some 1] rfl))
end Go.Proofs.YtgfnpcmehnjopaaGreatDoor
end
section
namespace Go.Proofs.YtgfnpcmehnjopaaGreatDoor
open Go Go.RowKit
set_option linter.unusedVariables false
set_option linter.unusedSimpArgs false
variable {K : Nat → Obj → Prop}
set_option maxRecDepth 100000 in
set_option maxHeartbeats 1000000 in
theorem rnumber_s (b : List UInt8) (hl : b.length ≤ 1000000000) : ∃ (v : Int) (k : Nat), Sp Tryz.prog K 28 [.sl 1 (bs b)] [] (fun u hh => u = .tup [.sc (.int .i64 v), .sc (.int .i64 k), .sc (.int .i64 (num1 b).2.2)] ∧ hh = []) ∧
    ((num1 b).2.2 = 0 → v = (num1 b).1 ∧ k ≤ b.length ∧ (num1 b).2.1 = b.drop k) := by
  obtain ⟨p, m, er, ht⟩ : ∃ p m er, tk b = (p, m, er) := ⟨_, _, _, rfl⟩
  have ct := fun h => vrtake_s (K := K) ht hl h
  have hm := tk_le b
  have e0 : num1 b = if er ≠ 0 then (0, b, er) else if 4611686018427387903 < p.toNat then (0, b, 1) else (p.toNat, b.drop m, 0) := by unfold num1; rw [ht]
  rw [ht] at hm
  dsimp only at hm
  have hp := UInt64.toNat_lt p
  rw [e0]
  clear e0 ht
  by_cases he : er ≠ 0
  · rw [if_pos he]
    refine ⟨IntKind.i64.wrap p.toNat, m, ?_, fun h => absurd h he⟩
    refine Sp.of_bodyE Tryz.func28 rfl ?_
    intro Q hQ
    simp only [List.replicate, List.length_cons, List.length_nil, Tryz.ntmps28, Nat.reduceAdd, Nat.reduceSub, List.cons_append, List.nil_append, go_sem]
    have hz : True := trivial
    have hy := yieldedV_eq
    have hL := True.intro
    repeat' (first | (refine WPV.seqK ?_; intro N hN) | (refine And.intro (hO _ (by kernel_rfl)) ?_; clear hO) | refine gA ?_ | (refine gR (M := noM) ?_; intro N hN ops hy) | (refine gDG (M := noM) ?_; intro N hN ops hy hO) | (refine WPV.condK ?_; intro A hA B hB) | (refine here ?_; refine sS ?_) | refine Both.mk ?_ ?_ | ((with_reducible refine CallO.gd 26 ?_); refine CallO.toB Tryz.call26 (ct _) ?_) | ((with_reducible refine CallP.gd 26 ?_); refine CallP.toB Tryz.call26 (ct _) ?_) | (refine hN _ ?_; try clear hN N; try clear hy ops) | (refine hA ?_; clear hA A hB B; try simp only [hz]) | (refine hB ?_; clear hA A hB B; try simp only [hz]) | (refine gG ?_ ?_ <;> (intro hz; have h := nm hz; try (exfalso; omega)) <;> (have hz := nz hz; try subst hz)) | (rw [if_pos (show _ ∧ _ from ⟨by omega, by omega⟩)]; refine sS ?_) | refine gT ?_ | (clear hN N))
    all_goals (first | exact retZ hQ Tryz.results28 (Desc.re [] rfl) | exact retZN hQ Tryz.results28 (Desc.re [] rfl))
  rw [if_neg he]
  have he := Decidable.not_not.1 he
  subst he
  by_cases hp2 : 4611686018427387903 < p.toNat
  · rw [if_pos hp2]
    refine ⟨IntKind.i64.wrap p.toNat, m, ?_, fun h => absurd h (show ¬ (1 : Int) = 0 by decide)⟩
    refine Sp.of_bodyE Tryz.func28 rfl ?_
    intro Q hQ
    simp only [List.replicate, List.length_cons, List.length_nil, Tryz.ntmps28, Nat.reduceAdd, Nat.reduceSub, List.cons_append, List.nil_append, go_sem]
    have hz : True := trivial
    have hy := yieldedV_eq
    have hL := True.intro
    repeat' (first | (refine WPV.seqK ?_; intro N hN) | (refine And.intro (hO _ (by kernel_rfl)) ?_; clear hO) | refine gA ?_ | (refine gR (M := noM) ?_; intro N hN ops hy) | (refine gDG (M := noM) ?_; intro N hN ops hy hO) | (refine WPV.condK ?_; intro A hA B hB) | (refine here ?_; refine sS ?_) | refine Both.mk ?_ ?_ | ((with_reducible refine CallO.gd 26 ?_); refine CallO.toB Tryz.call26 (ct _) ?_) | ((with_reducible refine CallP.gd 26 ?_); refine CallP.toB Tryz.call26 (ct _) ?_) | (refine hN _ ?_; try clear hN N; try clear hy ops) | (refine hA ?_; clear hA A hB B; try simp only [hz]) | (refine hB ?_; clear hA A hB B; try simp only [hz]) | (refine gG ?_ ?_ <;> (intro hz; have h := nm hz; try (exfalso; omega)) <;> (have hz := nz hz; try subst hz)) | (rw [if_pos (show _ ∧ _ from ⟨by omega, by omega⟩)]; refine sS ?_) | refine gT ?_ | (clear hN N))
    all_goals (first | exact retZ hQ Tryz.results28 (Desc.re [] rfl) | exact retZN hQ Tryz.results28 (Desc.re [] rfl))
  rw [if_neg hp2]
  refine ⟨p.toNat, m, ?_, fun h => ⟨rfl, hm, rfl⟩⟩
  dsimp only
  refine Sp.of_bodyE Tryz.func28 rfl ?_
  intro Q hQ
  simp only [List.replicate, List.length_cons, List.length_nil, Tryz.ntmps28, Nat.reduceAdd, Nat.reduceSub, List.cons_append, List.nil_append, go_sem]
  have hz : True := trivial
  have hy := yieldedV_eq
  have hL := True.intro
  repeat' (first | (refine WPV.seqK ?_; intro N hN) | (refine And.intro (hO _ (by kernel_rfl)) ?_; clear hO) | refine gA ?_ | (refine gR (M := noM) ?_; intro N hN ops hy) | (refine gDG (M := noM) ?_; intro N hN ops hy hO) | (refine WPV.condK ?_; intro A hA B hB) | (refine here ?_; refine sS ?_) | refine Both.mk ?_ ?_ | ((with_reducible refine CallO.gd 26 ?_); refine CallO.toB Tryz.call26 (ct _) ?_) | ((with_reducible refine CallP.gd 26 ?_); refine CallP.toB Tryz.call26 (ct _) ?_) | (refine hN _ ?_; try clear hN N; try clear hy ops) | (refine hA ?_; clear hA A hB B; try simp only [hz]) | (refine hB ?_; clear hA A hB B; try simp only [hz]) | (refine gG ?_ ?_ <;> (intro hz; have h := nm hz; try (exfalso; omega)) <;> (have hz := nz hz; try subst hz)) | (rw [if_pos (show _ ∧ _ from ⟨by omega, by omega⟩)]; refine sS ?_) | refine gT ?_ | (clear hN N))
  all_goals (first | exact retZ hQ Tryz.results28 (Desc.re [] rfl) | exact retZN hQ Tryz.results28 (Desc.re [] rfl))
theorem mchk1 (o f t : Int) (l : List Tx) : mchk ⟨1, o, f, t, l⟩ = if o < 0 ∨ 2 < o then 9 else mdata ⟨1, o, f, t, l⟩ := by
  unfold mchk
  dsimp only
  rw [if_neg (show ¬ ((1 : Int) < 1 ∨ (3 : Int) < 1) by decide)]
  rw [if_pos (show (1 : Int) = 1 from rfl)]
theorem mchk2 (o f t : Int) (l : List Tx) : mchk ⟨2, o, f, t, l⟩ = if o < 0 ∨ 2 < o then 9 else if f ≠ 0 ∨ 0 < l.length then 3 else if t < 0 ∨ 4611686018427387903 < t then 1 else 0 := by
  unfold mchk mack
  dsimp only
  rw [if_neg (show ¬ ((2 : Int) < 1 ∨ (3 : Int) < 2) by decide), if_neg (show ¬ (2 : Int) = 1 by decide)]
  rw [if_pos (show (2 : Int) = 2 from rfl)]
theorem mchk3 (o f t : Int) (l : List Tx) : mchk ⟨3, o, f, t, l⟩ = if o < 0 ∨ 2 < o then 9 else if 0 < l.length then 3 else if f < 1 ∨ 4611686018427387903 < f ∨ t < f ∨ 4611686018427387903 < t then 1 else 0 := by
  unfold mchk mask
  dsimp only
  rw [if_neg (show ¬ ((3 : Int) < 1 ∨ (3 : Int) < 3) by decide), if_neg (show ¬ (3 : Int) = 1 by decide)]
  rw [if_neg (show ¬ (3 : Int) = 2 by decide)]
theorem none_bq (b : Bool) : ((none : Option Bool) == some b) = false := rfl
set_option maxRecDepth 100000 in
set_option maxHeartbeats 8000000 in
theorem rmchk_o (m : Msg) (hl : m.l.length ≤ 1000000) (h : ¬ (m.k = 1 ∧ 0 ≤ m.o ∧ m.o ≤ 2)) : Sp Tryz.prog K 13 [msgV m] [] fun u hh => u = .sc (.int .i64 (mchk m)) ∧ hh = [] := by
  have hnb := none_bq
  obtain ⟨k, o, f, t, l⟩ := m
  dsimp only at hl h
  by_cases hk : k < 1 ∨ 3 < k
  · rw [show mchk ⟨k, o, f, t, l⟩ = 3 from if_pos hk]
    refine Sp.of_bodyE Tryz.func13 rfl ?_
    intro Q hQ
    simp only [List.replicate, List.length_cons, List.length_nil, Tryz.ntmps13, Nat.reduceAdd, Nat.reduceSub, List.cons_append, List.nil_append, go_sem]
    have hz : True := trivial
    have hy := yieldedV_eq
    have hL := @hnb
    repeat' (first | (refine WPV.seqK ?_; intro N hN) | (refine And.intro (hO _ (by kernel_rfl)) ?_; clear hO) | refine gA ?_ | (refine gR (M := noM) ?_; intro N hN ops hy) | (refine gDG (M := noM) ?_; intro N hN ops hy hO) | (refine WPV.condK ?_; intro A hA B hB) | (refine here ?_; refine sS ?_) | refine Both.mk ?_ ?_ | (refine hN _ ?_; try clear hN N; try clear hy ops) | (refine hA ?_; clear hA A hB B; try simp only [hz]) | (refine hB ?_; clear hA A hB B; try simp only [hz]) | (refine gG ?_ ?_ <;> (intro hz; have h := nm hz; try (exfalso; omega)) <;> (have hz := nz hz; try subst hz)) | (rw [if_pos (show _ ∧ _ from ⟨by omega, by omega⟩)]; refine sS ?_) | refine gT ?_ | (clear hN N))
    all_goals (first | exact retZ hQ Tryz.results13 (Desc.re [] rfl) | exact retZN hQ Tryz.results13 (Desc.re [] rfl))
  by_cases ho : o < 0 ∨ 2 < o
  · rw [show mchk ⟨k, o, f, t, l⟩ = 9 by unfold mchk; rw [if_neg hk]; exact if_pos ho]
    refine Sp.of_bodyE Tryz.func13 rfl ?_
    intro Q hQ
    simp only [List.replicate, List.length_cons, List.length_nil, Tryz.ntmps13, Nat.reduceAdd, Nat.reduceSub, List.cons_append, List.nil_append, go_sem]
    have hz : True := trivial
    have hy := yieldedV_eq
    have hL := @hnb
    repeat' (first | (refine WPV.seqK ?_; intro N hN) | (refine And.intro (hO _ (by kernel_rfl)) ?_; clear hO) | refine gA ?_ | (refine gR (M := noM) ?_; intro N hN ops hy) | (refine gDG (M := noM) ?_; intro N hN ops hy hO) | (refine WPV.condK ?_; intro A hA B hB) | (refine here ?_; refine sS ?_) | refine Both.mk ?_ ?_ | (refine hN _ ?_; try clear hN N; try clear hy ops) | (refine hA ?_; clear hA A hB B; try simp only [hz]) | (refine hB ?_; clear hA A hB B; try simp only [hz]) | (refine gG ?_ ?_ <;> (intro hz; have h := nm hz; try (exfalso; omega)) <;> (have hz := nz hz; try subst hz)) | (rw [if_pos (show _ ∧ _ from ⟨by omega, by omega⟩)]; refine sS ?_) | refine gT ?_ | (clear hN N))
    all_goals (first | exact retZ hQ Tryz.results13 (Desc.re [] rfl) | exact retZN hQ Tryz.results13 (Desc.re [] rfl))
  rcases (show k = 2 ∨ k = 3 by omega) with rfl | rfl
  · rw [mchk2, if_neg ho]
    refine Sp.of_bodyE Tryz.func13 rfl ?_
    intro Q hQ
    simp only [List.replicate, List.length_cons, List.length_nil, Tryz.ntmps13, Nat.reduceAdd, Nat.reduceSub, List.cons_append, List.nil_append, go_sem]
    have hz : True := trivial
    have hy := yieldedV_eq
    have hL := @hnb
    repeat' (first | (refine WPV.seqK ?_; intro N hN) | (refine And.intro (hO _ (by kernel_rfl)) ?_; clear hO) | refine gA ?_ | (refine gR (M := noM) ?_; intro N hN ops hy) | (refine gDG (M := noM) ?_; intro N hN ops hy hO) | (refine WPV.condK ?_; intro A hA B hB) | (refine here ?_; refine sS ?_) | refine Both.mk ?_ ?_ | (refine hN _ ?_; try clear hN N; try clear hy ops) | (refine hA ?_; clear hA A hB B; try simp only [hz]) | (refine hB ?_; clear hA A hB B; try simp only [hz]) | (refine gG ?_ ?_ <;> (intro hz; have h := nm hz; try (exfalso; omega)) <;> (have hz := nz hz; try subst hz)) | (rw [if_pos (show _ ∧ _ from ⟨by omega, by omega⟩)]; refine sS ?_) | refine gT ?_ | (clear hN N))
    all_goals (first | exact retZ hQ Tryz.results13 (Desc.re [] rfl) | exact retZN hQ Tryz.results13 (Desc.re [] rfl))
  · rw [mchk3, if_neg ho]
    refine Sp.of_bodyE Tryz.func13 rfl ?_
    intro Q hQ
    simp only [List.replicate, List.length_cons, List.length_nil, Tryz.ntmps13, Nat.reduceAdd, Nat.reduceSub, List.cons_append, List.nil_append, go_sem]
    have hz : True := trivial
    have hy := yieldedV_eq
    have hL := @hnb
    repeat' (first | (refine WPV.seqK ?_; intro N hN) | (refine And.intro (hO _ (by kernel_rfl)) ?_; clear hO) | refine gA ?_ | (refine gR (M := noM) ?_; intro N hN ops hy) | (refine gDG (M := noM) ?_; intro N hN ops hy hO) | (refine WPV.condK ?_; intro A hA B hB) | (refine here ?_; refine sS ?_) | refine Both.mk ?_ ?_ | (refine hN _ ?_; try clear hN N; try clear hy ops) | (refine hA ?_; clear hA A hB B; try simp only [hz]) | (refine hB ?_; clear hA A hB B; try simp only [hz]) | (refine gG ?_ ?_ <;> (intro hz; have h := nm hz; try (exfalso; omega)) <;> (have hz := nz hz; try subst hz)) | (rw [if_pos (show _ ∧ _ from ⟨by omega, by omega⟩)]; refine sS ?_) | refine gT ?_ | (clear hN N))
    all_goals (first | exact retZ hQ Tryz.results13 (Desc.re [] rfl) | exact retZN hQ Tryz.results13 (Desc.re [] rfl))
set_option maxRecDepth 100000 in
set_option maxHeartbeats 8000000 in
theorem rmchk_d (m : Msg) (hl : m.l.length ≤ 1000000) (hw : ∀ t ∈ m.l, t.w.length ≤ 1000000) (h : m.k = 1 ∧ 0 ≤ m.o ∧ m.o ≤ 2) : Sp Tryz.prog K 13 [msgV m] [] fun u hh => u = .sc (.int .i64 (mdata m)) ∧ hh = [] := by
  have ck := True.intro
  have hget := True.intro
  have hnb := none_bq
  by_cases h0 : m.f ≠ 0 ∨ m.t ≠ 0
  · rw [show mdata m = 3 from if_pos h0]
    have cR := True.intro
    obtain ⟨k, o, f, t, l⟩ := m
    dsimp only at h0 h
    obtain ⟨rfl, o0, o2⟩ := h
    refine Sp.of_bodyE Tryz.func13 rfl ?_
    intro Q hQ
    simp only [List.replicate, List.length_cons, List.length_nil, Tryz.ntmps13, Nat.reduceAdd, Nat.reduceSub, List.cons_append, List.nil_append, go_sem]
    have hz : True := trivial
    have hy := yieldedV_eq
    have hL := And.intro @hnb (@hget)
    repeat' (first | (refine WPV.seqK ?_; intro N hN) | (refine And.intro (hO _ (by kernel_rfl)) ?_; clear hO) | refine gA ?_ | (refine gR (M := noM) ?_; intro N hN ops hy) | (refine gDG (M := noM) ?_; intro N hN ops hy hO) | (refine WPV.condK ?_; intro A hA B hB) | (refine here ?_; refine sS ?_) | refine Both.mk ?_ ?_ | ((with_reducible refine CallO.gd 32 ?_); refine CallO.frB [] Tryz.call32 (ck) ?_) | ((with_reducible refine CallO.gd 33 ?_); refine CallO.frB [] Tryz.call33 (cR) ?_) | ((with_reducible refine CallP.gd 32 ?_); refine CallP.frB [] 0 Tryz.call32 (ck) ?_) | ((with_reducible refine CallP.gd 33 ?_); refine CallP.frB [] 0 Tryz.call33 (cR) ?_) | (refine hN _ ?_; try clear hN N; try clear hy ops) | (refine hA ?_; clear hA A hB B; try simp only [hz]) | (refine hB ?_; clear hA A hB B; try simp only [hz]) | (refine gG ?_ ?_ <;> (intro hz; have h := nm hz; try (exfalso; omega)) <;> (have hz := nz hz; try subst hz)) | (rw [if_pos (show _ ∧ _ from ⟨by omega, by omega⟩)]; refine sS ?_) | refine gT ?_ | (clear hN N))
    all_goals (first | exact retZ hQ Tryz.results13 (Desc.re [] rfl) | exact retZN hQ Tryz.results13 (Desc.re [] rfl))
  by_cases h4 : 4 < m.l.length
  · rw [show mdata m = 4 by unfold mdata; rw [if_neg h0, if_pos h4]]
    have cR := True.intro
    obtain ⟨k, o, f, t, l⟩ := m
    dsimp only at h0 h4 hl h
    obtain ⟨rfl, o0, o2⟩ := h
    refine Sp.of_bodyE Tryz.func13 rfl ?_
    intro Q hQ
    simp only [List.replicate, List.length_cons, List.length_nil, Tryz.ntmps13, Nat.reduceAdd, Nat.reduceSub, List.cons_append, List.nil_append, go_sem]
    have hz : True := trivial
    have hy := yieldedV_eq
    have hL := And.intro @hnb (@hget)
    repeat' (first | (refine WPV.seqK ?_; intro N hN) | (refine And.intro (hO _ (by kernel_rfl)) ?_; clear hO) | refine gA ?_ | (refine gR (M := noM) ?_; intro N hN ops hy) | (refine gDG (M := noM) ?_; intro N hN ops hy hO) | (refine WPV.condK ?_; intro A hA B hB) | (refine here ?_; refine sS ?_) | refine Both.mk ?_ ?_ | ((with_reducible refine CallO.gd 32 ?_); refine CallO.frB [] Tryz.call32 (ck) ?_) | ((with_reducible refine CallO.gd 33 ?_); refine CallO.frB [] Tryz.call33 (cR) ?_) | ((with_reducible refine CallP.gd 32 ?_); refine CallP.frB [] 0 Tryz.call32 (ck) ?_) | ((with_reducible refine CallP.gd 33 ?_); refine CallP.frB [] 0 Tryz.call33 (cR) ?_) | (refine hN _ ?_; try clear hN N; try clear hy ops) | (refine hA ?_; clear hA A hB B; try simp only [hz]) | (refine hB ?_; clear hA A hB B; try simp only [hz]) | (refine gG ?_ ?_ <;> (intro hz; have h := nm hz; try (exfalso; omega)) <;> (have hz := nz hz; try subst hz)) | (rw [if_pos (show _ ∧ _ from ⟨by omega, by omega⟩)]; refine sS ?_) | refine gT ?_ | (clear hN N))
    all_goals (first | exact retZ hQ Tryz.results13 (Desc.re [] rfl) | exact retZN hQ Tryz.results13 (Desc.re [] rfl))
  have e0 : mdata m = if firstE m.l ≠ 0 then firstE m.l else if m.l.length = 0 ∨ otherO m.o m.l = true then 1 else if rowF m.l = false then 6 else 0 := by unfold mdata; rw [if_neg h0, if_neg h4]
  have hall := fun h => firstE_all (l := m.l) h
  have hR := fun h => rrow_s (K := K) m.l (by omega) h
  rw [e0]
  obtain ⟨mk, o, f, t, l⟩ := m
  dsimp only at h0 h4 hl hw hall hR h ⊢
  obtain ⟨rfl, o0, o2⟩ := h
  have f0 : f = 0 := by omega
  have t0 : t = 0 := by omega
  subst f0
  subst t0
  have cR := True.intro
  clear e0 h0
  refine Sp.of_bodyE Tryz.func13 rfl ?_
  intro Q hQ
  simp only [List.replicate, List.length_cons, List.length_nil, Tryz.ntmps13, Nat.reduceAdd, Nat.reduceSub, List.cons_append, List.nil_append, go_sem]
  have hz : True := trivial
  have hy := yieldedV_eq
  have hL := And.intro @hnb (@hget)
  repeat' (first | (refine WPV.seqK ?_; intro N hN) | (refine And.intro (hO _ (by kernel_rfl)) ?_; clear hO) | refine gA ?_ | (refine gR (M := noM) ?_; intro N hN ops hy) | (refine gDG (M := noM) ?_; intro N hN ops hy hO) | (refine WPV.condK ?_; intro A hA B hB) | (refine here ?_; refine sS ?_) | refine Both.mk ?_ ?_ | ((with_reducible refine CallO.gd 32 ?_); refine CallO.frB [] Tryz.call32 (ck) ?_) | ((with_reducible refine CallO.gd 33 ?_); refine CallO.frB [] Tryz.call33 (cR) ?_) | ((with_reducible refine CallP.gd 32 ?_); refine CallP.frB [] 0 Tryz.call32 (ck) ?_) | ((with_reducible refine CallP.gd 33 ?_); refine CallP.frB [] 0 Tryz.call33 (cR) ?_) | (refine hN _ ?_; try clear hN N; try clear hy ops) | (refine hA ?_; clear hA A hB B; try simp only [hz]) | (refine hB ?_; clear hA A hB B; try simp only [hz]) | (refine gG ?_ ?_ <;> (intro hz; have h := nm hz; try (exfalso; omega)) <;> (have hz := nz hz; try subst hz)) | (rw [if_pos (show _ ∧ _ from ⟨by omega, by omega⟩)]; refine sS ?_) | refine gT ?_ | (clear hN N))
  refine WPV.loopW (α := Nat) (fun k => l.length - k) (fun k => ⟨[.any, .ptr 0 0, .any, .sc (.int .i64 ((k : Nat) : Int)), .any, .any, .any, .any, .any, .any, .any, .any, .any, .any, .any, .any, .any, .any, .any, .any, .any, .any, .any, .any, .any, .any, .any, .any, .any, .any, .any, .any, .any, .any, .any, .any, .any, .any, .any, .any, .any, .any, .any, .any, .any, .any, .any, .any, .any, .any, .any, .any, .any, .any, .any, .any, .any, .any, .any, .any, .any, .any, .any, .any, .any, .any, .any, .any, .any, .any, .any, .any, .any, .any, .any, .any, .any, .any, .any, .any, .any, .any, .any, .any, .any, .any, .any, .any, .any, .any, .any, .any, .any, .any, .any, .any, .any, .any, .any, .any, .any, .any, .any, .any, .any, .any, .any, .any, .any, .any, .any, .any, .any, .any, .any, .any, .any, .any, .any, .any, .any, .any, .any, .any, .any, .any, .any, .any, .any, .any, .any, .any, .any, .any, .any, .any], [.cells [.sc (.int .i64 1), .sc (.int .i64 o), .sc (.int .i64 0), .sc (.int .i64 0), .sl 6 (txs l)]]⟩) (fun k => k ≤ l.length ∧ firstE l = firstE (l.drop k)) 0 Desc.weakA ⟨Nat.zero_le _, rfl⟩ (fun k hJ H => ?_)
  obtain ⟨j1, j2⟩ := hJ
  by_cases h : k < l.length
  · clear hget
    obtain ⟨a, hg0⟩ : ∃ a, l[k] = a := ⟨_, rfl⟩
    have hget : l[k]? = some a := by rw [← hg0]; exact List.getElem?_eq_getElem h
    have ck := rtcheck_s (K := K) a (by have := hw a (hg0 ▸ List.getElem_mem h); omega)
    have e1 : firstE (a :: l.drop (k + 1)) = if checkF a ≠ 0 then checkF a else firstE (l.drop (k + 1)) := rfl
    rw [List.drop_eq_getElem_cons h, hg0, e1] at j2
    clear e1 hR hall
    generalize checkF a = q at *
    obtain ⟨ao, as_, ⟨x, y, z⟩, w⟩ := a
    dsimp only [txV] at ck
    by_cases hb : q ≠ 0
    · rw [if_pos hb] at j2
      rw [j2, if_pos hb] at hQ
      clear H hg0 j2
      refine loopV ?_
      have hz : True := trivial
      have hy := yieldedV_eq
      have hL := And.intro @hnb (@hget)
      repeat' (first | (refine WPV.seqK ?_; intro N hN) | (refine And.intro (hO _ (by kernel_rfl)) ?_; clear hO) | refine gA ?_ | (refine gR (M := noM) ?_; intro N hN ops hy) | (refine gDG (M := noM) ?_; intro N hN ops hy hO) | (refine WPV.condK ?_; intro A hA B hB) | (refine here ?_; refine sS ?_) | refine Both.mk ?_ ?_ | ((with_reducible refine CallO.gd 32 ?_); refine CallO.frB [] Tryz.call32 (ck) ?_) | ((with_reducible refine CallO.gd 33 ?_); refine CallO.frB [] Tryz.call33 (cR) ?_) | ((with_reducible refine CallP.gd 32 ?_); refine CallP.frB [] 0 Tryz.call32 (ck) ?_) | ((with_reducible refine CallP.gd 33 ?_); refine CallP.frB [] 0 Tryz.call33 (cR) ?_) | (refine hN _ ?_; try clear hN N; try clear hy ops) | (refine hA ?_; clear hA A hB B; try simp only [hz]) | (refine hB ?_; clear hA A hB B; try simp only [hz]) | (refine gG ?_ ?_ <;> (intro hz; have h := nm hz; try (exfalso; omega)) <;> (have hz := nz hz; try subst hz)) | (rw [if_pos (show _ ∧ _ from ⟨by omega, by omega⟩)]; refine sS ?_) | refine gT ?_ | (clear hN N))
      all_goals (first | exact retZ hQ Tryz.results13 (Desc.re [] rfl) | exact retZN hQ Tryz.results13 (Desc.re [] rfl))
    · rw [if_neg hb] at j2
      have hb := Decidable.not_not.1 hb
      subst hb
      have H' := H (k + 1) ⟨h, j2⟩ (by omega)
      clear H hg0 j2
      refine loopV ?_
      have hz : True := trivial
      have hy := yieldedV_eq
      have hL := And.intro @hnb (@hget)
      repeat' (first | (refine WPV.seqK ?_; intro N hN) | (refine And.intro (hO _ (by kernel_rfl)) ?_; clear hO) | refine gA ?_ | (refine gR (M := noM) ?_; intro N hN ops hy) | (refine gDG (M := noM) ?_; intro N hN ops hy hO) | (refine WPV.condK ?_; intro A hA B hB) | (refine here ?_; refine sS ?_) | refine Both.mk ?_ ?_ | ((with_reducible refine CallO.gd 32 ?_); refine CallO.frB [] Tryz.call32 (ck) ?_) | ((with_reducible refine CallO.gd 33 ?_); refine CallO.frB [] Tryz.call33 (cR) ?_) | ((with_reducible refine CallP.gd 32 ?_); refine CallP.frB [] 0 Tryz.call32 (ck) ?_) | ((with_reducible refine CallP.gd 33 ?_); refine CallP.frB [] 0 Tryz.call33 (cR) ?_) | (refine hN _ ?_; try clear hN N; try clear hy ops) | (refine hA ?_; clear hA A hB B; try simp only [hz]) | (refine hB ?_; clear hA A hB B; try simp only [hz]) | (refine gG ?_ ?_ <;> (intro hz; have h := nm hz; try (exfalso; omega)) <;> (have hz := nz hz; try subst hz)) | (rw [if_pos (show _ ∧ _ from ⟨by omega, by omega⟩)]; refine sS ?_) | refine gT ?_ | (clear hN N))
      all_goals (exact rndZ (Desc.re [some 0] rfl) (H'))
  obtain rfl : k = l.length := by omega
  rw [List.drop_length] at j2
  have e : firstE l = 0 := j2
  have hall := hall e
  have hR := hR fun t ht => by have := (check_ok (hall t ht)).2.1; omega
  rw [if_neg (by rw [e]; simp)] at hQ
  clear H j2 e hall
  refine loopV ?_
  have hz : True := trivial
  have hy := yieldedV_eq
  have hL := And.intro @hnb (@hget)
  repeat' (first | (refine WPV.seqK ?_; intro N hN) | (refine And.intro (hO _ (by kernel_rfl)) ?_; clear hO) | refine gA ?_ | (refine gR (M := noM) ?_; intro N hN ops hy) | (refine gDG (M := noM) ?_; intro N hN ops hy hO) | (refine WPV.condK ?_; intro A hA B hB) | (refine here ?_; refine sS ?_) | refine Both.mk ?_ ?_ | ((with_reducible refine CallO.gd 32 ?_); refine CallO.frB [] Tryz.call32 (ck) ?_) | ((with_reducible refine CallO.gd 33 ?_); refine CallO.frB [] Tryz.call33 (cR) ?_) | ((with_reducible refine CallP.gd 32 ?_); refine CallP.frB [] 0 Tryz.call32 (ck) ?_) | ((with_reducible refine CallP.gd 33 ?_); refine CallP.frB [] 0 Tryz.call33 (cR) ?_) | (refine hN _ ?_; try clear hN N; try clear hy ops) | (refine hA ?_; clear hA A hB B; try simp only [hz]) | (refine hB ?_; clear hA A hB B; try simp only [hz]) | (refine gG ?_ ?_ <;> (intro hz; have h := nm hz; try (exfalso; omega)) <;> (have hz := nz hz; try subst hz)) | (rw [if_pos (show _ ∧ _ from ⟨by omega, by omega⟩)]; refine sS ?_) | refine gT ?_ | (clear hN N))
  refine WPV.loopW (α := Nat) (fun k => l.length - k) (fun k => ⟨[.any, .ptr 0 0, .any, .any, .sc (.int .i64 ((k : Nat) : Int)), .any, .any, .any, .any, .any, .any, .any, .any, .any, .any, .any, .any, .any, .any, .any, .any, .any, .any, .any, .any, .any, .any, .any, .any, .any, .any, .any, .any, .any, .any, .any, .any, .any, .any, .any, .any, .any, .any, .any, .any, .any, .any, .any, .any, .any, .any, .any, .any, .any, .any, .any, .any, .any, .any, .any, .any, .any, .any, .any, .any, .any, .any, .any, .any, .any, .any, .any, .any, .any, .any, .any, .any, .any, .any, .any, .any, .any, .any, .any, .any, .any, .any, .any, .any, .any, .any, .any, .any, .any, .any, .any, .any, .any, .any, .any, .any, .any, .any, .any, .any, .any, .any, .any, .any, .any, .any, .any, .any, .any, .any, .any, .any, .any, .any, .any, .any, .any, .any, .any, .any, .any, .any, .any, .any, .any, .any, .any, .any, .any, .any, .any], [.cells [.sc (.int .i64 1), .sc (.int .i64 o), .sc (.int .i64 0), .sc (.int .i64 0), .sl 6 (txs l)]]⟩) (fun k => k ≤ l.length ∧ otherO o l = otherO o (l.drop k)) 0 Desc.weakA ⟨Nat.zero_le _, rfl⟩ (fun k hJ H => ?_)
  obtain ⟨j1, j2⟩ := hJ
  by_cases h : k < l.length
  · clear hget
    obtain ⟨a, hg0⟩ : ∃ a, l[k] = a := ⟨_, rfl⟩
    have hget : l[k]? = some a := by rw [← hg0]; exact List.getElem?_eq_getElem h
    have e1 : otherO o (a :: l.drop (k + 1)) = (decide (a.o ≠ o) || otherO o (l.drop (k + 1))) := rfl
    rw [List.drop_eq_getElem_cons h, hg0, e1] at j2
    clear e1 hR
    obtain ⟨ao, as_, ⟨x, y, z⟩, w⟩ := a
    dsimp only at j2
    by_cases hb : ao ≠ o
    · rw [decide_eq_true hb, Bool.true_or] at j2
      rw [if_pos (.inr j2)] at hQ
      clear H hg0 j2
      refine loopV ?_
      have hz : True := trivial
      have hy := yieldedV_eq
      have hL := And.intro @hnb (@hget)
      repeat' (first | (refine WPV.seqK ?_; intro N hN) | (refine And.intro (hO _ (by kernel_rfl)) ?_; clear hO) | refine gA ?_ | (refine gR (M := noM) ?_; intro N hN ops hy) | (refine gDG (M := noM) ?_; intro N hN ops hy hO) | (refine WPV.condK ?_; intro A hA B hB) | (refine here ?_; refine sS ?_) | refine Both.mk ?_ ?_ | ((with_reducible refine CallO.gd 32 ?_); refine CallO.frB [] Tryz.call32 (ck) ?_) | ((with_reducible refine CallO.gd 33 ?_); refine CallO.frB [] Tryz.call33 (cR) ?_) | ((with_reducible refine CallP.gd 32 ?_); refine CallP.frB [] 0 Tryz.call32 (ck) ?_) | ((with_reducible refine CallP.gd 33 ?_); refine CallP.frB [] 0 Tryz.call33 (cR) ?_) | (refine hN _ ?_; try clear hN N; try clear hy ops) | (refine hA ?_; clear hA A hB B; try simp only [hz]) | (refine hB ?_; clear hA A hB B; try simp only [hz]) | (refine gG ?_ ?_ <;> (intro hz; have h := nm hz; try (exfalso; omega)) <;> (have hz := nz hz; try subst hz)) | (rw [if_pos (show _ ∧ _ from ⟨by omega, by omega⟩)]; refine sS ?_) | refine gT ?_ | (clear hN N))
      all_goals (first | exact retZ hQ Tryz.results13 (Desc.re [] rfl) | exact retZN hQ Tryz.results13 (Desc.re [] rfl))
    · rw [decide_eq_false hb, Bool.false_or] at j2
      have H' := H (k + 1) ⟨h, j2⟩ (by omega)
      clear H hg0 j2
      refine loopV ?_
      have hz : True := trivial
      have hy := yieldedV_eq
      have hL := And.intro @hnb (@hget)
      repeat' (first | (refine WPV.seqK ?_; intro N hN) | (refine And.intro (hO _ (by kernel_rfl)) ?_; clear hO) | refine gA ?_ | (refine gR (M := noM) ?_; intro N hN ops hy) | (refine gDG (M := noM) ?_; intro N hN ops hy hO) | (refine WPV.condK ?_; intro A hA B hB) | (refine here ?_; refine sS ?_) | refine Both.mk ?_ ?_ | ((with_reducible refine CallO.gd 32 ?_); refine CallO.frB [] Tryz.call32 (ck) ?_) | ((with_reducible refine CallO.gd 33 ?_); refine CallO.frB [] Tryz.call33 (cR) ?_) | ((with_reducible refine CallP.gd 32 ?_); refine CallP.frB [] 0 Tryz.call32 (ck) ?_) | ((with_reducible refine CallP.gd 33 ?_); refine CallP.frB [] 0 Tryz.call33 (cR) ?_) | (refine hN _ ?_; try clear hN N; try clear hy ops) | (refine hA ?_; clear hA A hB B; try simp only [hz]) | (refine hB ?_; clear hA A hB B; try simp only [hz]) | (refine gG ?_ ?_ <;> (intro hz; have h := nm hz; try (exfalso; omega)) <;> (have hz := nz hz; try subst hz)) | (rw [if_pos (show _ ∧ _ from ⟨by omega, by omega⟩)]; refine sS ?_) | refine gT ?_ | (clear hN N))
      all_goals (exact rndZ (Desc.re [some 0] rfl) (H'))
  obtain rfl : k = l.length := by omega
  rw [List.drop_length] at j2
  have e : otherO o l = false := j2
  rw [e] at hQ
  clear H j2 e
  have cR := hR
  by_cases hz : l.length = 0
  · rw [if_pos (.inl hz)] at hQ
    clear cR hR
    have cR := True.intro
    refine loopV ?_
    have hz : True := trivial
    have hy := yieldedV_eq
    have hL := And.intro @hnb (@hget)
    repeat' (first | (refine WPV.seqK ?_; intro N hN) | (refine And.intro (hO _ (by kernel_rfl)) ?_; clear hO) | refine gA ?_ | (refine gR (M := noM) ?_; intro N hN ops hy) | (refine gDG (M := noM) ?_; intro N hN ops hy hO) | (refine WPV.condK ?_; intro A hA B hB) | (refine here ?_; refine sS ?_) | refine Both.mk ?_ ?_ | ((with_reducible refine CallO.gd 32 ?_); refine CallO.frB [] Tryz.call32 (ck) ?_) | ((with_reducible refine CallO.gd 33 ?_); refine CallO.frB [] Tryz.call33 (cR) ?_) | ((with_reducible refine CallP.gd 32 ?_); refine CallP.frB [] 0 Tryz.call32 (ck) ?_) | ((with_reducible refine CallP.gd 33 ?_); refine CallP.frB [] 0 Tryz.call33 (cR) ?_) | (refine hN _ ?_; try clear hN N; try clear hy ops) | (refine hA ?_; clear hA A hB B; try simp only [hz]) | (refine hB ?_; clear hA A hB B; try simp only [hz]) | (refine gG ?_ ?_ <;> (intro hz; have h := nm hz; try (exfalso; omega)) <;> (have hz := nz hz; try subst hz)) | (rw [if_pos (show _ ∧ _ from ⟨by omega, by omega⟩)]; refine sS ?_) | refine gT ?_ | (clear hN N))
    all_goals (first | exact retZ hQ Tryz.results13 (Desc.re [] rfl) | exact retZN hQ Tryz.results13 (Desc.re [] rfl))
  rw [if_neg (by simp only [Bool.false_eq_true, or_false]; exact hz)] at hQ
  clear hR
  cases er : rowF l with
  | true =>
    rw [er] at hQ cR
    simp only [Bool.true_eq_false, if_false] at hQ
    refine loopV ?_
    have hz : True := trivial
    have hy := yieldedV_eq
    have hL := And.intro @hnb (@hget)
    repeat' (first | (refine WPV.seqK ?_; intro N hN) | (refine And.intro (hO _ (by kernel_rfl)) ?_; clear hO) | refine gA ?_ | (refine gR (M := noM) ?_; intro N hN ops hy) | (refine gDG (M := noM) ?_; intro N hN ops hy hO) | (refine WPV.condK ?_; intro A hA B hB) | (refine here ?_; refine sS ?_) | refine Both.mk ?_ ?_ | ((with_reducible refine CallO.gd 32 ?_); refine CallO.frB [] Tryz.call32 (ck) ?_) | ((with_reducible refine CallO.gd 33 ?_); refine CallO.frB [] Tryz.call33 (cR) ?_) | ((with_reducible refine CallP.gd 32 ?_); refine CallP.frB [] 0 Tryz.call32 (ck) ?_) | ((with_reducible refine CallP.gd 33 ?_); refine CallP.frB [] 0 Tryz.call33 (cR) ?_) | (refine hN _ ?_; try clear hN N; try clear hy ops) | (refine hA ?_; clear hA A hB B; try simp only [hz]) | (refine hB ?_; clear hA A hB B; try simp only [hz]) | (refine gG ?_ ?_ <;> (intro hz; have h := nm hz; try (exfalso; omega)) <;> (have hz := nz hz; try subst hz)) | (rw [if_pos (show _ ∧ _ from ⟨by omega, by omega⟩)]; refine sS ?_) | refine gT ?_ | (clear hN N))
    all_goals (first | exact retZ hQ Tryz.results13 (Desc.re [] rfl) | exact retZN hQ Tryz.results13 (Desc.re [] rfl))
  | false =>
    rw [er] at hQ cR
    simp only [if_true] at hQ
    refine loopV ?_
    have hz : True := trivial
    have hy := yieldedV_eq
    have hL := And.intro @hnb (@hget)
    repeat' (first | (refine WPV.seqK ?_; intro N hN) | (refine And.intro (hO _ (by kernel_rfl)) ?_; clear hO) | refine gA ?_ | (refine gR (M := noM) ?_; intro N hN ops hy) | (refine gDG (M := noM) ?_; intro N hN ops hy hO) | (refine WPV.condK ?_; intro A hA B hB) | (refine here ?_; refine sS ?_) | refine Both.mk ?_ ?_ | ((with_reducible refine CallO.gd 32 ?_); refine CallO.frB [] Tryz.call32 (ck) ?_) | ((with_reducible refine CallO.gd 33 ?_); refine CallO.frB [] Tryz.call33 (cR) ?_) | ((with_reducible refine CallP.gd 32 ?_); refine CallP.frB [] 0 Tryz.call32 (ck) ?_) | ((with_reducible refine CallP.gd 33 ?_); refine CallP.frB [] 0 Tryz.call33 (cR) ?_) | (refine hN _ ?_; try clear hN N; try clear hy ops) | (refine hA ?_; clear hA A hB B; try simp only [hz]) | (refine hB ?_; clear hA A hB B; try simp only [hz]) | (refine gG ?_ ?_ <;> (intro hz; have h := nm hz; try (exfalso; omega)) <;> (have hz := nz hz; try subst hz)) | (rw [if_pos (show _ ∧ _ from ⟨by omega, by omega⟩)]; refine sS ?_) | refine gT ?_ | (clear hN N))
    all_goals (first | exact retZ hQ Tryz.results13 (Desc.re [] rfl) | exact retZN hQ Tryz.results13 (Desc.re [] rfl))
theorem rmchk_s (m : Msg) (hl : m.l.length ≤ 1000000) (hw : ∀ t ∈ m.l, t.w.length ≤ 1000000) : Sp Tryz.prog K 13 [msgV m] [] fun u hh => u = .sc (.int .i64 (mchk m)) ∧ hh = [] := by
  by_cases h : m.k = 1 ∧ 0 ≤ m.o ∧ m.o ≤ 2
  · have e : mchk m = mdata m := by
      obtain ⟨k, o, f, t, l⟩ := m
      dsimp only at h
      obtain ⟨rfl, h1, h2⟩ := h
      rw [mchk1, if_neg (by omega)]
    rw [e]
    exact rmchk_d m hl hw h
  · exact rmchk_o m hl h
set_option maxRecDepth 100000 in
set_option maxHeartbeats 2000000 in
theorem rmsame_s (a b : Msg) (ha : a.l.length ≤ 1000000) (hb : b.l.length ≤ 9223372036854775807) (wa : ∀ t ∈ a.l, t.w.length ≤ 1000000) (wb : ∀ t ∈ b.l, t.w.length ≤ 9223372036854775807) : Sp Tryz.prog K 15 [msgV a, msgV b] [] fun u hh => u = .sc (.bool (msameF a b)) ∧ hh = [] := by
  have cq := fun h => Sp.lift (rteq_s (K := K) a.l b.l ha hb wa wb) (fun _ => rfl) (fun _ => rfl) h
  unfold msameF
  obtain ⟨iw, ew⟩ := bool_i (teqL a.l b.l)
  rw [ew] at cq ⊢
  simp only [decide_eq_true_eq]
  clear ew ha hb wa wb
  obtain ⟨k, o, f, t, l⟩ := a
  obtain ⟨k', o', f', t', l'⟩ := b
  dsimp only at *
  refine Sp.of_bodyE Tryz.func15 rfl ?_
  intro Q hQ
  simp only [List.replicate, List.length_cons, List.length_nil, Tryz.ntmps15, Nat.reduceAdd, Nat.reduceSub, List.cons_append, List.nil_append, go_sem]
  have hz : True := trivial
  have hy := yieldedV_eq
  have hL := True.intro
  repeat' (first | (refine WPV.seqK ?_; intro N hN) | (refine And.intro (hO _ (by kernel_rfl)) ?_; clear hO) | refine gA ?_ | (refine gR (M := noM) ?_; intro N hN ops hy) | (refine gDG (M := noM) ?_; intro N hN ops hy hO) | (refine WPV.condK ?_; intro A hA B hB) | (refine here ?_; refine sS ?_) | refine Both.mk ?_ ?_ | ((with_reducible refine CallO.gd 34 ?_); refine CallO.toB Tryz.call34 (cq _) ?_) | ((with_reducible refine CallP.gd 34 ?_); refine CallP.toB Tryz.call34 (cq _) ?_) | (refine hN _ ?_; try clear hN N; try clear hy ops) | (refine hA ?_; clear hA A hB B; try simp only [hz]) | (refine hB ?_; clear hA A hB B; try simp only [hz]) | (refine gG ?_ ?_ <;> (intro hz; have h := nm hz; try (exfalso; omega)) <;> (have hz := nz hz; try subst hz)) | (rw [if_pos (show _ ∧ _ from ⟨by omega, by omega⟩)]; refine sS ?_) | refine gT ?_ | (clear hN N))
  all_goals (first | exact retZ hQ Tryz.results15 (Desc.re [] rfl) | exact retZN hQ Tryz.results15 (Desc.re [] rfl))
end Go.Proofs.YtgfnpcmehnjopaaGreatDoor
end
section
namespace Go.Proofs.YtgfnpcmehnjopaaGreatDoor
open Go Go.RowKit
set_option linter.unusedVariables false
set_option linter.unusedSimpArgs false
variable {K : Nat → Obj → Prop}
structure RPJ (l : List Tx) (k : Nat) (acc : List UInt8) (x : Cod Di) (r : Rdi) (m : Nat) : Prop where
  hk : k ≤ l.length
  rel : CRel x ⟨x.c, r⟩ m
  hm : m ≤ 16 * k
  len : acc.length ≤ 10 + 20000 * k
  eq : packF l = if (packGo x (l.drop k)).2 ≠ 0 then ([], (packGo x (l.drop k)).2) else (acc ++ (packGo x (l.drop k)).1, 0)
set_option maxRecDepth 100000 in
set_option maxHeartbeats 2000000 in
theorem rpack_s (l : List Tx) (hw : ∀ t ∈ l, t.w.length ≤ 1000000) : Sp Tryz.prog K 22 [.sl 6 (txs l)] [] fun u hh => u = byV (packF l) ∧ hh = [] := by
  have cp := True.intro
  have hget := True.intro
  by_cases h4 : 4 < l.length
  · rw [show packF l = ([], 4) from if_pos h4]
    have cv := True.intro
    refine Sp.of_bodyE Tryz.func22 rfl ?_
    intro Q hQ
    simp only [List.replicate, List.length_cons, List.length_nil, Tryz.ntmps22, Nat.reduceAdd, Nat.reduceSub, List.cons_append, List.nil_append, go_sem]
    have hz : True := trivial
    have hy := yieldedV_eq
    have hL := @hget
    repeat' (first | (refine WPV.seqK ?_; intro N hN) | (refine And.intro (hO _ (by kernel_rfl)) ?_; clear hO) | refine gA ?_ | (refine gR (M := noM) ?_; intro N hN ops hy) | (refine gDG (M := noM) ?_; intro N hN ops hy hO) | (refine WPV.condK ?_; intro A hA B hB) | (refine here ?_; refine sS ?_) | refine Both.mk ?_ ?_ | ((with_reducible refine CallO.gd 21 ?_); refine CallO.frB [] Tryz.call21 (cv) ?_) | ((with_reducible refine CallO.gd 51 ?_); refine CallO.frB [0] Tryz.call51 (cp) ?_) | (refine hN _ ?_; try clear hN N; try clear hy ops) | (refine hA ?_; clear hA A hB B; try simp only [hz]) | (refine hB ?_; clear hA A hB B; try simp only [hz]) | (refine gG ?_ ?_ <;> (intro hz; have h := nm hz; try (exfalso; omega)) <;> (have hz := nz hz; try subst hz)) | (rw [if_pos (show _ ∧ _ from ⟨by omega, by omega⟩)]; refine sS ?_) | refine gT ?_ | (clear hN N))
    all_goals (try unfold byV at hQ)
    all_goals (first | exact retZ hQ Tryz.results22 (Desc.re [] rfl) | exact retZN hQ Tryz.results22 (Desc.re [] rfl))
  · have lv := vput_len (n := l.length) (by omega)
    have cv := vrputO_s (K := K) (m := (l.length : Int)) (by omega) (by omega)
    rw [Int.toNat_natCast] at cv
    refine Sp.of_bodyE Tryz.func22 rfl ?_
    intro Q hQ
    simp only [List.replicate, List.length_cons, List.length_nil, Tryz.ntmps22, Nat.reduceAdd, Nat.reduceSub, List.cons_append, List.nil_append, go_sem]
    have hz : True := trivial
    have hy := yieldedV_eq
    have hL := @hget
    repeat' (first | (refine WPV.seqK ?_; intro N hN) | (refine And.intro (hO _ (by kernel_rfl)) ?_; clear hO) | refine gA ?_ | (refine gR (M := noM) ?_; intro N hN ops hy) | (refine gDG (M := noM) ?_; intro N hN ops hy hO) | (refine WPV.condK ?_; intro A hA B hB) | (refine here ?_; refine sS ?_) | refine Both.mk ?_ ?_ | ((with_reducible refine CallO.gd 21 ?_); refine CallO.frB [] Tryz.call21 (cv) ?_) | ((with_reducible refine CallO.gd 51 ?_); refine CallO.frB [0] Tryz.call51 (cp) ?_) | (refine hN _ ?_; try clear hN N; try clear hy ops) | (refine hA ?_; clear hA A hB B; try simp only [hz]) | (refine hB ?_; clear hA A hB B; try simp only [hz]) | (refine gG ?_ ?_ <;> (intro hz; have h := nm hz; try (exfalso; omega)) <;> (have hz := nz hz; try subst hz)) | (rw [if_pos (show _ ∧ _ from ⟨by omega, by omega⟩)]; refine sS ?_) | refine gT ?_ | (clear hN N))
    clear cv cp hget
    refine WPV.loopW (α := Nat × List UInt8 × Cod Di × Rdi × Nat) (fun s => l.length - s.1) (fun s => ⟨[.sl 6 (txs l), .any, .any, .any, .ptr 0 0, .own 1 (bs s.2.1) 1, .sc (.int .i64 ((s.1 : Nat) : Int)), .any, .any, .any, .any, .any, .any, .any, .any, .any, .any, .any, .any, .any, .any, .any, .any, .any, .any, .any, .any, .any, .any, .any, .any, .any, .any, .any, .any, .any, .any, .any, .any, .any], [s.2.2.2.1.ob3 s.2.2.1.c, .tail]⟩) (fun s => RPJ l s.1 s.2.1 s.2.2.1 s.2.2.2.1 s.2.2.2.2) (0, vput l.length, Cod.new, ⟨[], [], 0⟩, 0) Desc.weakA ⟨Nat.zero_le _, CRel.nw, Nat.le_refl _, by dsimp only; omega, by unfold packF; rw [if_neg h4]; rfl⟩ (fun s hJ H => ?_)
    obtain ⟨k, acc, x, r, m⟩ := s
    obtain ⟨j1, rel, hm, j4, j5⟩ := hJ
    dsimp only at j1 rel hm j4 j5 H ⊢
    have cv := True.intro
    by_cases h : k < l.length
    · obtain ⟨t, hg0⟩ : ∃ t, l[k] = t := ⟨_, rfl⟩
      have hget : l[k]? = some t := by rw [← hg0]; exact List.getElem?_eq_getElem h
      have hwt := hw t (hg0 ▸ List.getElem_mem h)
      rw [List.drop_eq_getElem_cons h, hg0] at j5
      obtain ⟨b, e, x', r', m', p1, rel', hm', cp⟩ := rput_e (K := K) rel (by omega) t (by omega)
      dsimp only at cp
      rcases tput_two rel.d.ok rel.r t with ⟨hc, q1⟩ | ⟨hc, b2, x2, q1, ok', hr', hbl, q2⟩
      · rw [p1] at q1
        simp only [Prod.mk.injEq] at q1
        obtain ⟨⟨rfl, rfl⟩, rfl⟩ := q1
        rw [packGo_err p1 hc] at j5
        rw [j5] at hQ
        generalize checkF t = q at *
        simp only [if_pos hc] at hQ
        clear H hg0 p1 rel rel'
        obtain ⟨o, s, ⟨c1, c2, c3⟩, w⟩ := t
        dsimp only [txV] at cp
        refine loopV ?_
        have hz : True := trivial
        have hy := yieldedV_eq
        have hL := @hget
        repeat' (first | (refine WPV.seqK ?_; intro N hN) | (refine And.intro (hO _ (by kernel_rfl)) ?_; clear hO) | refine gA ?_ | (refine gR (M := noM) ?_; intro N hN ops hy) | (refine gDG (M := noM) ?_; intro N hN ops hy hO) | (refine WPV.condK ?_; intro A hA B hB) | (refine here ?_; refine sS ?_) | refine Both.mk ?_ ?_ | ((with_reducible refine CallO.gd 21 ?_); refine CallO.frB [] Tryz.call21 (cv) ?_) | ((with_reducible refine CallO.gd 51 ?_); refine CallO.frB [0] Tryz.call51 (cp) ?_) | (refine hN _ ?_; try clear hN N; try clear hy ops) | (refine hA ?_; clear hA A hB B; try simp only [hz]) | (refine hB ?_; clear hA A hB B; try simp only [hz]) | (refine gG ?_ ?_ <;> (intro hz; have h := nm hz; try (exfalso; omega)) <;> (have hz := nz hz; try subst hz)) | (rw [if_pos (show _ ∧ _ from ⟨by omega, by omega⟩)]; refine sS ?_) | refine gT ?_ | (clear hN N))
        all_goals (try unfold byV at hQ)
        all_goals (first | exact retZ hQ Tryz.results22 (Desc.re [] rfl) | exact retZN hQ Tryz.results22 (Desc.re [] rfl))
      · rw [p1] at q1
        simp only [Prod.mk.injEq] at q1
        obtain ⟨⟨rfl, rfl⟩, rfl⟩ := q1
        rw [packGo_ok p1] at j5
        have H' := H (k + 1, acc ++ b, x', r', m') ⟨h, rel', by dsimp only; omega, by dsimp only; rw [List.length_append]; omega, by rw [j5]; dsimp only; split <;> simp_all⟩ (by dsimp only; omega)
        clear H hg0 j5 p1 rel rel' q2
        dsimp only at H'
        obtain ⟨o, s, ⟨c1, c2, c3⟩, w⟩ := t
        dsimp only [txV] at cp
        refine loopV ?_
        have hz : True := trivial
        have hy := yieldedV_eq
        have hL := @hget
        repeat' (first | (refine WPV.seqK ?_; intro N hN) | (refine And.intro (hO _ (by kernel_rfl)) ?_; clear hO) | refine gA ?_ | (refine gR (M := noM) ?_; intro N hN ops hy) | (refine gDG (M := noM) ?_; intro N hN ops hy hO) | (refine WPV.condK ?_; intro A hA B hB) | (refine here ?_; refine sS ?_) | refine Both.mk ?_ ?_ | ((with_reducible refine CallO.gd 21 ?_); refine CallO.frB [] Tryz.call21 (cv) ?_) | ((with_reducible refine CallO.gd 51 ?_); refine CallO.frB [0] Tryz.call51 (cp) ?_) | (refine hN _ ?_; try clear hN N; try clear hy ops) | (refine hA ?_; clear hA A hB B; try simp only [hz]) | (refine hB ?_; clear hA A hB B; try simp only [hz]) | (refine gG ?_ ?_ <;> (intro hz; have h := nm hz; try (exfalso; omega)) <;> (have hz := nz hz; try subst hz)) | (rw [if_pos (show _ ∧ _ from ⟨by omega, by omega⟩)]; refine sS ?_) | refine gT ?_ | (clear hN N))
        all_goals (exact rndZ (Desc.re [some 0, some 2] rfl) (H'))
    · obtain rfl : k = l.length := by omega
      rw [List.drop_length] at j5
      have e : packF l = (acc, 0) := by rw [j5]; simp [packGo]
      rw [e] at hQ
      clear H j5 e
      refine loopV ?_
      have hz : True := trivial
      have hy := yieldedV_eq
      have hL := True.intro
      repeat' (first | (refine WPV.seqK ?_; intro N hN) | (refine And.intro (hO _ (by kernel_rfl)) ?_; clear hO) | refine gA ?_ | (refine gR (M := noM) ?_; intro N hN ops hy) | (refine gDG (M := noM) ?_; intro N hN ops hy hO) | (refine WPV.condK ?_; intro A hA B hB) | (refine here ?_; refine sS ?_) | refine Both.mk ?_ ?_ | (refine hN _ ?_; try clear hN N; try clear hy ops) | (refine hA ?_; clear hA A hB B; try simp only [hz]) | (refine hB ?_; clear hA A hB B; try simp only [hz]) | (refine gG ?_ ?_ <;> (intro hz; have h := nm hz; try (exfalso; omega)) <;> (have hz := nz hz; try subst hz)) | (rw [if_pos (show _ ∧ _ from ⟨by omega, by omega⟩)]; refine sS ?_) | refine gT ?_ | (clear hN N))
      all_goals (try unfold byV at hQ)
      all_goals (first | exact retZ hQ Tryz.results22 (Desc.re [] rfl) | exact retZN hQ Tryz.results22 (Desc.re [] rfl))
structure RUJ (b : List UInt8) (n k used : Nat) (x : Cod Di) (r : Rdi) (m : Nat) (acc : List Tx) : Prop where
  hk : k ≤ n
  hu : used ≤ b.length
  rel : CRel x ⟨x.c, r⟩ m
  hm : m ≤ 16 * k
  len : acc.length = k
  eq : unpackF b = unGo b (n - k) used x acc
set_option maxRecDepth 100000 in
set_option maxHeartbeats 2000000 in
theorem runpack_s (b : List UInt8) (hl : b.length ≤ 1000000) : Sp Tryz.prog K 27 [.sl 1 (bs b)] [] fun u hh => u = upV (unpackF b) ∧ hh = [] := by
  obtain ⟨p, u, e, h1⟩ : ∃ p u e, tk b = (p, u, e) := ⟨_, _, _, rfl⟩
  have l1 := tk_le b
  have hu : unpackF b = if e ≠ 0 then ([], e) else if 4 < p.toNat then ([], 4) else unGo b p.toNat u Cod.new [] := by unfold unpackF; rw [h1]
  rw [h1] at l1
  dsimp only at l1
  have hp := UInt64.toNat_lt p
  by_cases hb : e ≠ 0 ∨ 4 < p.toNat
  · rw [hu]
    clear hu
    refine Sp.of_bodyE Tryz.func27 rfl ?_
    intro Q hQ
    simp only [List.replicate, List.length_cons, List.length_nil, Tryz.ntmps27, Nat.reduceAdd, Nat.reduceSub, List.cons_append, List.nil_append, go_sem]
    have hz : True := trivial
    have hy := yieldedV_eq
    have hL := True.intro
    repeat' (first | (refine WPV.seqK ?_; intro N hN) | (refine And.intro (hO _ (by kernel_rfl)) ?_; clear hO) | refine gA ?_ | (refine gR (M := noM) ?_; intro N hN ops hy) | (refine gDG (M := noM) ?_; intro N hN ops hy hO) | (refine WPV.condK ?_; intro A hA B hB) | (refine here ?_; refine sS ?_) | refine Both.mk ?_ ?_ | ((with_reducible refine CallO.gd 26 ?_); refine CallO.toB Tryz.call26 (vrtake_s h1 (by omega) _) ?_) | ((with_reducible refine CallP.gd 26 ?_); refine CallP.toB Tryz.call26 (vrtake_s h1 (by omega) _) ?_) | (refine hN _ ?_; try clear hN N; try clear hy ops) | (refine hA ?_; clear hA A hB B; try simp only [hz]) | (refine hB ?_; clear hA A hB B; try simp only [hz]) | (refine gG ?_ ?_ <;> (intro hz; have h := nm hz; try (exfalso; omega)) <;> (have hz := nz hz; try subst hz)) | (rw [if_pos (show _ ∧ _ from ⟨by omega, by omega⟩)]; refine sS ?_) | refine gT ?_ | (clear hN N))
    all_goals (try (first | exact retZ hQ Tryz.results27 (Desc.re [] rfl) | exact retZN hQ Tryz.results27 (Desc.re [] rfl)))
  have hu2 : unpackF b = unGo b p.toNat u Cod.new [] := by rw [hu, if_neg (by omega), if_neg (by omega)]
  clear hu
  refine Sp.of_bodyE Tryz.func27 rfl ?_
  intro Q hQ
  simp only [List.replicate, List.length_cons, List.length_nil, Tryz.ntmps27, Nat.reduceAdd, Nat.reduceSub, List.cons_append, List.nil_append, go_sem]
  have hz : True := trivial
  have hy := yieldedV_eq
  have hL := True.intro
  repeat' (first | (refine WPV.seqK ?_; intro N hN) | (refine And.intro (hO _ (by kernel_rfl)) ?_; clear hO) | refine gA ?_ | (refine gR (M := noM) ?_; intro N hN ops hy) | (refine gDG (M := noM) ?_; intro N hN ops hy hO) | (refine WPV.condK ?_; intro A hA B hB) | (refine here ?_; refine sS ?_) | refine Both.mk ?_ ?_ | ((with_reducible refine CallO.gd 26 ?_); refine CallO.toB Tryz.call26 (vrtake_s h1 (by omega) _) ?_) | ((with_reducible refine CallP.gd 26 ?_); refine CallP.toB Tryz.call26 (vrtake_s h1 (by omega) _) ?_) | (refine hN _ ?_; try clear hN N; try clear hy ops) | (refine hA ?_; clear hA A hB B; try simp only [hz]) | (refine hB ?_; clear hA A hB B; try simp only [hz]) | (refine gG ?_ ?_ <;> (intro hz; have h := nm hz; try (exfalso; omega)) <;> (have hz := nz hz; try subst hz)) | (rw [if_pos (show _ ∧ _ from ⟨by omega, by omega⟩)]; refine sS ?_) | refine gT ?_ | (clear hN N))
  refine WPV.loopW (α := Nat × Nat × (Cod Di × Rdi × Nat) × List Tx) (fun s => p.toNat - s.1) (fun s => ⟨[.sl 1 (bs b), .any, .any, .any, .sc (.int .u64 (p.toNat : Int)), .sc (.int .i64 (s.2.1 : Int)), .any, .ptr 0 0, .own 6 (txs s.2.2.2) 1, .sc (.int .i64 ((s.1 : Nat) : Int)), .any, .any, .any, .any, .any, .any, .any, .any, .any, .any, .any, .any, .any, .any, .any, .any, .any, .any, .any, .any, .any, .any, .any, .any, .any, .any, .any, .any, .any, .any, .any, .any, .any, .any, .any, .any, .any, .any, .any, .any, .any, .any, .any, .any, .any, .any, .any], [s.2.2.1.2.1.ob3 s.2.2.1.1.c, .tail]⟩) (fun s => RUJ b p.toNat s.1 s.2.1 s.2.2.1.1 s.2.2.1.2.1 s.2.2.1.2.2 s.2.2.2) (0, u, (Cod.new, ⟨[], [], 0⟩, 0), []) ((Desc.own0 (es := []) 8 6 rfl (.inl rfl)).trans Desc.weakA) ⟨Nat.zero_le _, l1, CRel.nw, Nat.le_refl _, rfl, hu2⟩ (fun s hJ H => ?_)
  obtain ⟨k, used, ⟨x, r, m⟩, acc⟩ := s
  obtain ⟨j1, j2, rel, hm, j5, j6⟩ := hJ
  dsimp only at j1 j2 rel hm j5 j6 H ⊢
  by_cases h : k < p.toNat
  · rw [show p.toNat - k = (p.toNat - (k + 1)) + 1 by omega] at j6
    obtain ⟨t, n, e2, x', r', m', p1, hw, rel', hm', cp⟩ := rtake_e (K := K) rel (by omega) (b.drop used) (by rw [List.length_drop]; omega)
    dsimp only at cp
    have hdl : (b.drop used).length = b.length - used := List.length_drop
    rcases ttake_two rel.d.ok rel.r (b.drop used) with ⟨e', he, q1⟩ | ⟨t', n', x2, q1, p2, n1, n2, hc, ok', hr', hw'⟩
    · rw [p1] at q1
      simp only [Prod.mk.injEq] at q1
      obtain ⟨⟨rfl, rfl, rfl⟩, rfl⟩ := q1
      rw [unGo_err p1 he] at j6
      rw [j6] at hQ
      clear H p1 rel rel'
      try dsimp only [ttV, txV, Tx.zero] at cp
      refine loopV ?_
      have hz : True := trivial
      have hy := yieldedV_eq
      have hL := True.intro
      repeat' (first | (refine WPV.seqK ?_; intro N hN) | (refine And.intro (hO _ (by kernel_rfl)) ?_; clear hO) | refine gA ?_ | (refine gR (M := noM) ?_; intro N hN ops hy) | (refine gDG (M := noM) ?_; intro N hN ops hy hO) | (refine WPV.condK ?_; intro A hA B hB) | (refine here ?_; refine sS ?_) | refine Both.mk ?_ ?_ | ((with_reducible refine CallO.gd 54 ?_); refine CallO.frB [0] Tryz.call54 (cp) ?_) | (refine hN _ ?_; try clear hN N; try clear hy ops) | (refine hA ?_; clear hA A hB B; try simp only [hz]) | (refine hB ?_; clear hA A hB B; try simp only [hz]) | (refine gG ?_ ?_ <;> (intro hz; have h := nm hz; try (exfalso; omega)) <;> (have hz := nz hz; try subst hz)) | (rw [if_pos (show _ ∧ _ from ⟨by omega, by omega⟩)]; refine sS ?_) | refine gT ?_ | (clear hN N))
      all_goals (first | exact retZ hQ Tryz.results27 (Desc.re [] rfl) | exact retZN hQ Tryz.results27 (Desc.re [] rfl))
    · rw [p1] at q1
      simp only [Prod.mk.injEq] at q1
      obtain ⟨⟨rfl, rfl, rfl⟩, rfl⟩ := q1
      rw [unGo_ok p1] at j6
      rw [List.length_drop] at n2
      have H' := H (k + 1, used + n, (x', r', m'), acc ++ [t]) ⟨h, by dsimp only; omega, rel', by dsimp only; omega, by simp [j5], j6⟩ (by dsimp only; omega)
      clear H j6 p1 p2 rel rel'
      dsimp only at H'
      obtain ⟨o, s, ⟨c1, c2, c3⟩, w⟩ := t
      try dsimp only [ttV, txV] at cp
      refine loopV ?_
      have hz : True := trivial
      have hy := yieldedV_eq
      have hL := True.intro
      repeat' (first | (refine WPV.seqK ?_; intro N hN) | (refine And.intro (hO _ (by kernel_rfl)) ?_; clear hO) | refine gA ?_ | (refine gR (M := noM) ?_; intro N hN ops hy) | (refine gDG (M := noM) ?_; intro N hN ops hy hO) | (refine WPV.condK ?_; intro A hA B hB) | (refine here ?_; refine sS ?_) | refine Both.mk ?_ ?_ | ((with_reducible refine CallO.gd 54 ?_); refine CallO.frB [0] Tryz.call54 (cp) ?_) | (refine hN _ ?_; try clear hN N; try clear hy ops) | (refine hA ?_; clear hA A hB B; try simp only [hz]) | (refine hB ?_; clear hA A hB B; try simp only [hz]) | (refine gG ?_ ?_ <;> (intro hz; have h := nm hz; try (exfalso; omega)) <;> (have hz := nz hz; try subst hz)) | (rw [if_pos (show _ ∧ _ from ⟨by omega, by omega⟩)]; refine sS ?_) | refine gT ?_ | (clear hN N))
      have hL := And.intro @txs_app (@txs_one)
      all_goals (exact rndZ (Desc.re [some 0, some 3] rfl) (H'))
  · obtain hkn : k = p.toNat := by omega
    rw [hkn, Nat.sub_self] at j6
    have e2 : unpackF b = if used ≠ b.length then ([], 3) else (acc, 0) := j6
    rw [e2] at hQ
    clear H j6 e2
    refine loopV ?_
    have hz : True := trivial
    have hy := yieldedV_eq
    have hL := True.intro
    repeat' (first | (refine WPV.seqK ?_; intro N hN) | (refine And.intro (hO _ (by kernel_rfl)) ?_; clear hO) | refine gA ?_ | (refine gR (M := noM) ?_; intro N hN ops hy) | (refine gDG (M := noM) ?_; intro N hN ops hy hO) | (refine WPV.condK ?_; intro A hA B hB) | (refine here ?_; refine sS ?_) | refine Both.mk ?_ ?_ | (refine hN _ ?_; try clear hN N; try clear hy ops) | (refine hA ?_; clear hA A hB B; try simp only [hz]) | (refine hB ?_; clear hA A hB B; try simp only [hz]) | (refine gG ?_ ?_ <;> (intro hz; have h := nm hz; try (exfalso; omega)) <;> (have hz := nz hz; try subst hz)) | (rw [if_pos (show _ ∧ _ from ⟨by omega, by omega⟩)]; refine sS ?_) | refine gT ?_ | (clear hN N))
    all_goals (first | exact retZ hQ Tryz.results27 (Desc.re [] rfl) | exact retZN hQ Tryz.results27 (Desc.re [] rfl))
end Go.Proofs.YtgfnpcmehnjopaaGreatDoor
end
section
namespace Go.Proofs.YtgfnpcmehnjopaaGreatDoor
open Go Go.RowKit
set_option linter.unusedVariables false
set_option linter.unusedSimpArgs false
variable {K : Nat → Obj → Prop}
set_option maxRecDepth 100000 in
set_option maxHeartbeats 4000000 in
theorem rmput_s (m : Msg) (hl : m.l.length ≤ 1000000) (hw : ∀ t ∈ m.l, t.w.length ≤ 1000000) : Sp Tryz.prog K 7 [msgV m] [] fun u hh => u = byV (mput m) ∧ hh = [] := by
  have ck := rmchk_s (K := K) m hl hw
  have c1 := True.intro
  have c2 := True.intro
  have c3 := True.intro
  have c4 := True.intro
  have cb := True.intro
  by_cases hc : mchk m ≠ 0
  · rw [show mput m = ([], mchk m) from if_pos hc]
    have cs := True.intro
    generalize mchk m = e at *
    obtain ⟨k, o, f, t, l⟩ := m
    refine Sp.of_bodyE Tryz.func7 rfl ?_
    intro Q hQ
    simp only [List.replicate, List.length_cons, List.length_nil, Tryz.ntmps7, Nat.reduceAdd, Nat.reduceSub, List.cons_append, List.nil_append, go_sem]
    have hz : True := trivial
    have hy := yieldedV_eq
    have hL := True.intro
    repeat' (first | (refine WPV.seqK ?_; intro N hN) | (refine And.intro (hO _ (by kernel_rfl)) ?_; clear hO) | refine gA ?_ | (refine gR (M := noM) ?_; intro N hN ops hy) | (refine gDG (M := noM) ?_; intro N hN ops hy hO) | (refine WPV.condK ?_; intro A hA B hB) | (refine here ?_; refine sS ?_) | refine Both.mk ?_ ?_ | ((with_reducible refine CallO.gd 13 ?_); refine CallO.frB [] Tryz.call13 (ck) ?_) | ((with_reducible refine CallO.gd 21 ?_); first | refine CallO.frB [] Tryz.call21 (c1) ?_ | refine CallO.frB [] Tryz.call21 (c2) ?_ | refine CallO.frB [] Tryz.call21 (c3) ?_ | refine CallO.frB [] Tryz.call21 (c4) ?_) | ((with_reducible refine CallO.gd 22 ?_); refine CallO.frB [] Tryz.call22 (cb) ?_) | ((with_reducible refine CallO.gd 11 ?_); refine CallO.toB Tryz.call11 (cs _) ?_) | ((with_reducible refine CallP.gd 13 ?_); refine CallP.frB [] 0 Tryz.call13 (ck) ?_) | ((with_reducible refine CallP.gd 21 ?_); first | refine CallP.frB [] 1 Tryz.call21 (c1) ?_ | refine CallP.frB [] 0 Tryz.call21 (c2) ?_ | refine CallP.frB [] 0 Tryz.call21 (c3) ?_ | refine CallP.frB [] 0 Tryz.call21 (c4) ?_) | ((with_reducible refine CallP.gd 22 ?_); refine CallP.frB [] 0 Tryz.call22 (cb) ?_) | ((with_reducible refine CallP.gd 11 ?_); refine CallP.toB Tryz.call11 (cs _) ?_) | (refine hN _ ?_; try clear hN N; try clear hy ops) | (refine hA ?_; clear hA A hB B; try simp only [hz]) | (refine hB ?_; clear hA A hB B; try simp only [hz]) | (refine gG ?_ ?_ <;> (intro hz; have h := nm hz; try (exfalso; omega)) <;> (have hz := nz hz; try subst hz)) | (rw [if_pos (show _ ∧ _ from ⟨by omega, by omega⟩)]; refine sS ?_) | refine gT ?_ | (clear hN N))
    all_goals (first | exact retZ hQ Tryz.results7 (Desc.re [] rfl) | exact retZN hQ Tryz.results7 (Desc.re [] rfl))
  have hc := Decidable.not_not.1 hc
  have hml := mbody_len hc
  obtain ⟨hk, ho, hb⟩ := mchk_ok hc
  have e0 : mput m = (sealF (vput m.k.toNat ++ vput m.o.toNat ++ mbody m), 0) := by unfold mput; rw [if_neg (by rw [hc]; simp)]
  rw [e0]
  rw [hc] at ck
  have hv1 := vput_len (n := m.k.toNat) (by omega)
  have hv2 := vput_len (n := m.o.toNat) (by omega)
  have cs := fun h => rseal_s (K := K) (vput m.k.toNat ++ vput m.o.toNat ++ mbody m) (by simp only [List.length_append]; omega) h
  clear e0
  generalize sealF (vput m.k.toNat ++ vput m.o.toNat ++ mbody m) = q at *
  clear c1 c2
  rcases hb with ⟨h1, hd1⟩ | ⟨h1, hd1⟩ | ⟨h1, hd1⟩
  · have cb := rpack_s (K := K) m.l hw
    rw [show mbody m = (packF m.l).1 by unfold mbody; rw [if_pos h1]] at cs hml
    obtain ⟨p, pe, hp⟩ : ∃ p e, packF m.l = (p, e) := ⟨_, _, rfl⟩
    rw [hp] at cb cs hml
    obtain ⟨k, o, f, t, l⟩ := m
    dsimp only at h1
    subst h1
    dsimp only [byV] at *
    have c1 := vrputO_s (K := K) (m := 1) (by omega) (by omega)
    have c2 := vrput_s (K := K) (m := o) (by omega) (by omega) []
    generalize vput (1 : Int).toNat = w1 at *
    generalize vput o.toNat = w2 at *
    clear hp hc hd1 hk hw
    refine Sp.of_bodyE Tryz.func7 rfl ?_
    intro Q hQ
    simp only [List.replicate, List.length_cons, List.length_nil, Tryz.ntmps7, Nat.reduceAdd, Nat.reduceSub, List.cons_append, List.nil_append, go_sem]
    have hz : True := trivial
    have hy := yieldedV_eq
    have hL := True.intro
    repeat' (first | (refine WPV.seqK ?_; intro N hN) | (refine And.intro (hO _ (by kernel_rfl)) ?_; clear hO) | refine gA ?_ | (refine gR (M := noM) ?_; intro N hN ops hy) | (refine gDG (M := noM) ?_; intro N hN ops hy hO) | (refine WPV.condK ?_; intro A hA B hB) | (refine here ?_; refine sS ?_) | refine Both.mk ?_ ?_ | ((with_reducible refine CallO.gd 13 ?_); refine CallO.frB [] Tryz.call13 (ck) ?_) | ((with_reducible refine CallO.gd 21 ?_); first | refine CallO.frB [] Tryz.call21 (c1) ?_ | refine CallO.frB [] Tryz.call21 (c2) ?_ | refine CallO.frB [] Tryz.call21 (c3) ?_ | refine CallO.frB [] Tryz.call21 (c4) ?_) | ((with_reducible refine CallO.gd 22 ?_); refine CallO.frB [] Tryz.call22 (cb) ?_) | ((with_reducible refine CallO.gd 11 ?_); refine CallO.toB Tryz.call11 (cs _) ?_) | ((with_reducible refine CallP.gd 13 ?_); refine CallP.frB [] 0 Tryz.call13 (ck) ?_) | ((with_reducible refine CallP.gd 21 ?_); first | refine CallP.frB [] 1 Tryz.call21 (c1) ?_ | refine CallP.frB [] 0 Tryz.call21 (c2) ?_ | refine CallP.frB [] 0 Tryz.call21 (c3) ?_ | refine CallP.frB [] 0 Tryz.call21 (c4) ?_) | ((with_reducible refine CallP.gd 22 ?_); refine CallP.frB [] 0 Tryz.call22 (cb) ?_) | ((with_reducible refine CallP.gd 11 ?_); refine CallP.toB Tryz.call11 (cs _) ?_) | (refine hN _ ?_; try clear hN N; try clear hy ops) | (refine hA ?_; clear hA A hB B; try simp only [hz]) | (refine hB ?_; clear hA A hB B; try simp only [hz]) | (refine gG ?_ ?_ <;> (intro hz; have h := nm hz; try (exfalso; omega)) <;> (have hz := nz hz; try subst hz)) | (rw [if_pos (show _ ∧ _ from ⟨by omega, by omega⟩)]; refine sS ?_) | refine gT ?_ | (clear hN N))
    all_goals (first | exact retZ hQ Tryz.results7 (Desc.re [] rfl) | exact retZN hQ Tryz.results7 (Desc.re [] rfl))
  · obtain ⟨a1, a2, a3, a4⟩ := mack_ok hd1
    obtain ⟨k, o, f, t, l⟩ := m
    dsimp only at h1 a1 a2 a3 a4
    subst h1
    subst a1
    subst a2
    rw [mbody2] at cs hml
    dsimp only [byV] at *
    have c1 := vrputO_s (K := K) (m := 2) (by omega) (by omega)
    have c2 := vrput_s (K := K) (m := o) (by omega) (by omega) []
    have c3 := vrput_s (K := K) (m := t) (by omega) (by omega) []
    generalize vput (2 : Int).toNat = w1 at *
    generalize vput o.toNat = w2 at *
    generalize vput t.toNat = w3 at *
    clear hc hd1 hk hw
    refine Sp.of_bodyE Tryz.func7 rfl ?_
    intro Q hQ
    simp only [List.replicate, List.length_cons, List.length_nil, Tryz.ntmps7, Nat.reduceAdd, Nat.reduceSub, List.cons_append, List.nil_append, go_sem]
    have hz : True := trivial
    have hy := yieldedV_eq
    have hL := True.intro
    repeat' (first | (refine WPV.seqK ?_; intro N hN) | (refine And.intro (hO _ (by kernel_rfl)) ?_; clear hO) | refine gA ?_ | (refine gR (M := noM) ?_; intro N hN ops hy) | (refine gDG (M := noM) ?_; intro N hN ops hy hO) | (refine WPV.condK ?_; intro A hA B hB) | (refine here ?_; refine sS ?_) | refine Both.mk ?_ ?_ | ((with_reducible refine CallO.gd 13 ?_); refine CallO.frB [] Tryz.call13 (ck) ?_) | ((with_reducible refine CallO.gd 21 ?_); first | refine CallO.frB [] Tryz.call21 (c1) ?_ | refine CallO.frB [] Tryz.call21 (c2) ?_ | refine CallO.frB [] Tryz.call21 (c3) ?_ | refine CallO.frB [] Tryz.call21 (c4) ?_) | ((with_reducible refine CallO.gd 22 ?_); refine CallO.frB [] Tryz.call22 (cb) ?_) | ((with_reducible refine CallO.gd 11 ?_); refine CallO.toB Tryz.call11 (cs _) ?_) | ((with_reducible refine CallP.gd 13 ?_); refine CallP.frB [] 0 Tryz.call13 (ck) ?_) | ((with_reducible refine CallP.gd 21 ?_); first | refine CallP.frB [] 1 Tryz.call21 (c1) ?_ | refine CallP.frB [] 0 Tryz.call21 (c2) ?_ | refine CallP.frB [] 0 Tryz.call21 (c3) ?_ | refine CallP.frB [] 0 Tryz.call21 (c4) ?_) | ((with_reducible refine CallP.gd 22 ?_); refine CallP.frB [] 0 Tryz.call22 (cb) ?_) | ((with_reducible refine CallP.gd 11 ?_); refine CallP.toB Tryz.call11 (cs _) ?_) | (refine hN _ ?_; try clear hN N; try clear hy ops) | (refine hA ?_; clear hA A hB B; try simp only [hz]) | (refine hB ?_; clear hA A hB B; try simp only [hz]) | (refine gG ?_ ?_ <;> (intro hz; have h := nm hz; try (exfalso; omega)) <;> (have hz := nz hz; try subst hz)) | (rw [if_pos (show _ ∧ _ from ⟨by omega, by omega⟩)]; refine sS ?_) | refine gT ?_ | (clear hN N))
    all_goals (first | exact retZ hQ Tryz.results7 (Desc.re [] rfl) | exact retZN hQ Tryz.results7 (Desc.re [] rfl))
  · obtain ⟨a1, a2, a3, a4⟩ := mask_ok hd1
    obtain ⟨k, o, f, t, l⟩ := m
    dsimp only at h1 a1 a2 a3 a4
    subst h1
    subst a1
    rw [mbody3, ← List.append_assoc] at cs
    rw [mbody3, List.length_append] at hml
    dsimp only [byV] at *
    have c1 := vrputO_s (K := K) (m := 3) (by omega) (by omega)
    have c2 := vrput_s (K := K) (m := o) (by omega) (by omega) []
    have c3 := vrput_s (K := K) (m := f) (by omega) (by omega) []
    have c4 := vrput_s (K := K) (m := t) (by omega) (by omega) []
    generalize vput (3 : Int).toNat = w1 at *
    generalize vput o.toNat = w2 at *
    generalize vput f.toNat = w3 at *
    generalize vput t.toNat = w4 at *
    clear hc hd1 hk hw
    refine Sp.of_bodyE Tryz.func7 rfl ?_
    intro Q hQ
    simp only [List.replicate, List.length_cons, List.length_nil, Tryz.ntmps7, Nat.reduceAdd, Nat.reduceSub, List.cons_append, List.nil_append, go_sem]
    have hz : True := trivial
    have hy := yieldedV_eq
    have hL := True.intro
    repeat' (first | (refine WPV.seqK ?_; intro N hN) | (refine And.intro (hO _ (by kernel_rfl)) ?_; clear hO) | refine gA ?_ | (refine gR (M := noM) ?_; intro N hN ops hy) | (refine gDG (M := noM) ?_; intro N hN ops hy hO) | (refine WPV.condK ?_; intro A hA B hB) | (refine here ?_; refine sS ?_) | refine Both.mk ?_ ?_ | ((with_reducible refine CallO.gd 13 ?_); refine CallO.frB [] Tryz.call13 (ck) ?_) | ((with_reducible refine CallO.gd 21 ?_); first | refine CallO.frB [] Tryz.call21 (c1) ?_ | refine CallO.frB [] Tryz.call21 (c2) ?_ | refine CallO.frB [] Tryz.call21 (c3) ?_ | refine CallO.frB [] Tryz.call21 (c4) ?_) | ((with_reducible refine CallO.gd 22 ?_); refine CallO.frB [] Tryz.call22 (cb) ?_) | ((with_reducible refine CallO.gd 11 ?_); refine CallO.toB Tryz.call11 (cs _) ?_) | ((with_reducible refine CallP.gd 13 ?_); refine CallP.frB [] 0 Tryz.call13 (ck) ?_) | ((with_reducible refine CallP.gd 21 ?_); first | refine CallP.frB [] 1 Tryz.call21 (c1) ?_ | refine CallP.frB [] 0 Tryz.call21 (c2) ?_ | refine CallP.frB [] 0 Tryz.call21 (c3) ?_ | refine CallP.frB [] 0 Tryz.call21 (c4) ?_) | ((with_reducible refine CallP.gd 22 ?_); refine CallP.frB [] 0 Tryz.call22 (cb) ?_) | ((with_reducible refine CallP.gd 11 ?_); refine CallP.toB Tryz.call11 (cs _) ?_) | (refine hN _ ?_; try clear hN N; try clear hy ops) | (refine hA ?_; clear hA A hB B; try simp only [hz]) | (refine hB ?_; clear hA A hB B; try simp only [hz]) | (refine gG ?_ ?_ <;> (intro hz; have h := nm hz; try (exfalso; omega)) <;> (have hz := nz hz; try subst hz)) | (rw [if_pos (show _ ∧ _ from ⟨by omega, by omega⟩)]; refine sS ?_) | refine gT ?_ | (clear hN N))
    all_goals (first | exact retZ hQ Tryz.results7 (Desc.re [] rfl) | exact retZN hQ Tryz.results7 (Desc.re [] rfl))
end Go.Proofs.YtgfnpcmehnjopaaGreatDoor
end
