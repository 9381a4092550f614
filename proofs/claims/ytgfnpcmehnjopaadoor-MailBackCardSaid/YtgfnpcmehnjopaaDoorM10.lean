/- Parts of the proofs, joined: ClkR4, TxnP, TxnC. -/
import Derived.Test.YtgfnpcmehnjopaaDoorM9
section
namespace Go.Proofs.YtgfnpcmehnjopaaDoor
open Go Go.RowKit
set_option linter.unusedVariables false
set_option linter.unusedSimpArgs false
variable {K : Nat → Obj → Prop}
end Go.Proofs.YtgfnpcmehnjopaaDoor
end
section
namespace Go.Proofs.YtgfnpcmehnjopaaDoor
section
open Go Go.RowKit
set_option linter.unusedVariables false
set_option linter.unusedSimpArgs false
variable {K : Nat → Obj → Prop}
structure Wr where
  k : ByteArray
  v : ByteArray
  g : Bool
def Wr.d (a : Wr) : List D := [.sc (.string a.k), .sc (.string a.v), .sc (.bool a.g)]
def wrl (l : List Wr) : List (List D) := l.map Wr.d
theorem wrl_len (l : List Wr) : (wrl l).length = l.length := by simp [wrl]
theorem wrl_get (l : List Wr) (i : Nat) : (wrl l)[i]? = (l[i]?).map Wr.d := by simp [wrl]
attribute [go_sem] wrl_len wrl_get Wr.d
abbrev wrV (a : Wr) : V := .agg [.sc (.string a.k), .sc (.string a.v), .sc (.bool a.g)]
def Wr.long (a : Wr) : Bool := decide (64 < a.k.size) || decide (256 < a.v.size)
def Wr.odd (a : Wr) : Bool := a.g && decide (a.v ≠ ByteArray.empty)
set_option maxRecDepth 100000 in
theorem tlong_s (a : Wr) (h : List Ho) : Sp Tryd.prog K 99 [wrV a] h fun u hh => u = .sc (.bool a.long) ∧ hh = h := by
  refine Sp.pure_ (R := fun u hh => Wk [u] [.sc (.bool a.long)]) ?_ (fun _ => rfl) (fun _ => rfl) (fun v h e => e) h
  obtain ⟨k, v, g⟩ := a
  unfold Wr.long
  by_cases h1 : 64 < k.size
  · have q0 : ((64 : Int) < (k.size : Int)) = True := eq_true (by omega)
    have q1 : True := trivial
    rw [decide_eq_true h1, Bool.true_or]
    refine Sp.of_bodyD Tryd.func99 rfl ?_
    intro Q hQ
    simp only [List.replicate, List.length_cons, List.length_nil, Tryd.ntmps99, Nat.reduceAdd, Nat.reduceSub, List.cons_append, List.nil_append, go_sem]
    have hz : True := trivial
    have hy := yieldedV_eq
    have hL := And.intro @q0 (@q1)
    repeat' (first | (refine WPV.seqK ?_; intro N hN) | refine gA ?_ | (refine gR (M := noM) ?_; intro N hN ops hy) | (refine gD (M := noM) ?_; intro N hN; have hy := yieldedV_eq) | (refine WPV.condK ?_; intro A hA B hB) | (refine here ?_; refine sM ?_) | refine Both.mk ?_ ?_ | (refine hN _ ?_; try clear hN N; try clear hy ops) | (refine hA ?_; clear hA A hB B; try simp only [hz]) | (refine hB ?_; clear hA A hB B; try simp only [hz]) | (refine gG ?_ ?_ <;> (intro hz; have h := nm hz; try (exfalso; omega)) <;> (have hz := nz hz)) | ((first | rw [if_pos (show _ ∧ _ from ⟨by omega, by omega⟩)] | rw [if_pos (show _ ∧ _ from by simp only [List.length_append, List.length_cons, List.length_nil]; exact ⟨by omega, by omega⟩)]); refine sM ?_) | refine gT ?_ | (clear hN N))
    all_goals (apply And.right; refine hQ _ _ _ Desc.refl ?_ Wk.refl)
    · (first | (simp only [go_sem, reduceCtorEq, Nat.reduceAdd, Nat.reduceSub, Nat.reduceMul, Nat.reduceLT, Nat.reduceLeDiff, Int.reduceLT, Int.reduceLE, Int.reduceEq, Int.reduceNe, Int.reduceAdd, Int.reduceSub, Int.reduceMul, Int.reduceToNat, Int.reduceNeg, Int.reducePow, Nat.reducePow, Nat.reduceEqDiff, Nat.reduceBEq, Int.reduceBEq, Int.reduceBNe, Int.reduceNegSucc, Tryd.results99]; done) | (simp only [go_sem, reduceCtorEq, Nat.reduceAdd, Nat.reduceSub, Nat.reduceMul, Nat.reduceLT, Nat.reduceLeDiff, Int.reduceLT, Int.reduceLE, Int.reduceEq, Int.reduceNe, Int.reduceAdd, Int.reduceSub, Int.reduceMul, Int.reduceToNat, Int.reduceNeg, Int.reducePow, Nat.reducePow, Nat.reduceEqDiff, Nat.reduceBEq, Int.reduceBEq, Int.reduceBNe, Int.reduceNegSucc, Tryd.results99]; rfl) | rfl)
  · have q0 : ((64 : Int) < (k.size : Int)) = False := eq_false (by omega)
    have q1 : ((256 : Int) < (v.size : Int)) = (256 < v.size) := propext (by omega)
    rw [decide_eq_false h1, Bool.false_or]
    refine Sp.of_bodyD Tryd.func99 rfl ?_
    intro Q hQ
    simp only [List.replicate, List.length_cons, List.length_nil, Tryd.ntmps99, Nat.reduceAdd, Nat.reduceSub, List.cons_append, List.nil_append, go_sem]
    have hz : True := trivial
    have hy := yieldedV_eq
    have hL := And.intro @q0 (@q1)
    repeat' (first | (refine WPV.seqK ?_; intro N hN) | refine gA ?_ | (refine gR (M := noM) ?_; intro N hN ops hy) | (refine gD (M := noM) ?_; intro N hN; have hy := yieldedV_eq) | (refine WPV.condK ?_; intro A hA B hB) | (refine here ?_; refine sM ?_) | refine Both.mk ?_ ?_ | (refine hN _ ?_; try clear hN N; try clear hy ops) | (refine hA ?_; clear hA A hB B; try simp only [hz]) | (refine hB ?_; clear hA A hB B; try simp only [hz]) | (refine gG ?_ ?_ <;> (intro hz; have h := nm hz; try (exfalso; omega)) <;> (have hz := nz hz)) | ((first | rw [if_pos (show _ ∧ _ from ⟨by omega, by omega⟩)] | rw [if_pos (show _ ∧ _ from by simp only [List.length_append, List.length_cons, List.length_nil]; exact ⟨by omega, by omega⟩)]); refine sM ?_) | refine gT ?_ | (clear hN N))
    all_goals (apply And.right; refine hQ _ _ _ Desc.refl ?_ Wk.refl)
    · (first | (simp only [go_sem, reduceCtorEq, Nat.reduceAdd, Nat.reduceSub, Nat.reduceMul, Nat.reduceLT, Nat.reduceLeDiff, Int.reduceLT, Int.reduceLE, Int.reduceEq, Int.reduceNe, Int.reduceAdd, Int.reduceSub, Int.reduceMul, Int.reduceToNat, Int.reduceNeg, Int.reducePow, Nat.reducePow, Nat.reduceEqDiff, Nat.reduceBEq, Int.reduceBEq, Int.reduceBNe, Int.reduceNegSucc, Tryd.results99]; done) | (simp only [go_sem, reduceCtorEq, Nat.reduceAdd, Nat.reduceSub, Nat.reduceMul, Nat.reduceLT, Nat.reduceLeDiff, Int.reduceLT, Int.reduceLE, Int.reduceEq, Int.reduceNe, Int.reduceAdd, Int.reduceSub, Int.reduceMul, Int.reduceToNat, Int.reduceNeg, Int.reducePow, Nat.reducePow, Nat.reduceEqDiff, Nat.reduceBEq, Int.reduceBEq, Int.reduceBNe, Int.reduceNegSucc, Tryd.results99]; rfl) | rfl)
theorem odd_e (v : ByteArray) : (!(v.toList == ({ data := #[] } : ByteArray).toList)) = decide (v ≠ ByteArray.empty) := by
  rw [ByteArray.toList_eq, ByteArray.toList_eq]
  by_cases h : v = ByteArray.empty
  · subst h; rfl
  · have : v.data.toList ≠ [] := fun e => h (by cases v; simp at e; subst e; rfl)
    simp [h]
    intro e
    exact this (by rw [e])
set_option maxRecDepth 100000 in
theorem todd_s (a : Wr) (h : List Ho) : Sp Tryd.prog K 100 [wrV a] h fun u hh => u = .sc (.bool a.odd) ∧ hh = h := by
  refine Sp.pure_ (R := fun u hh => Wk [u] [.sc (.bool a.odd)]) ?_ (fun _ => rfl) (fun _ => rfl) (fun v h e => e) h
  obtain ⟨k, v, g⟩ := a
  unfold Wr.odd
  cases g with
  | false =>
    have q0 : True := trivial
    refine Sp.of_bodyD Tryd.func100 rfl ?_
    intro Q hQ
    simp only [List.replicate, List.length_cons, List.length_nil, Tryd.ntmps100, Nat.reduceAdd, Nat.reduceSub, List.cons_append, List.nil_append, go_sem]
    have hz : True := trivial
    have hy := yieldedV_eq
    have hL := @q0
    repeat' (first | (refine WPV.seqK ?_; intro N hN) | refine gA ?_ | (refine gR (M := noM) ?_; intro N hN ops hy) | (refine gD (M := noM) ?_; intro N hN; have hy := yieldedV_eq) | (refine WPV.condK ?_; intro A hA B hB) | (refine here ?_; refine sM ?_) | refine Both.mk ?_ ?_ | (refine hN _ ?_; try clear hN N; try clear hy ops) | (refine hA ?_; clear hA A hB B; try simp only [hz]) | (refine hB ?_; clear hA A hB B; try simp only [hz]) | (refine gG ?_ ?_ <;> (intro hz; have h := nm hz; try (exfalso; omega)) <;> (have hz := nz hz)) | ((first | rw [if_pos (show _ ∧ _ from ⟨by omega, by omega⟩)] | rw [if_pos (show _ ∧ _ from by simp only [List.length_append, List.length_cons, List.length_nil]; exact ⟨by omega, by omega⟩)]); refine sM ?_) | refine gT ?_ | (clear hN N))
    all_goals (apply And.right; refine hQ _ _ _ Desc.refl ?_ Wk.refl)
    · (first | (simp only [go_sem, reduceCtorEq, Nat.reduceAdd, Nat.reduceSub, Nat.reduceMul, Nat.reduceLT, Nat.reduceLeDiff, Int.reduceLT, Int.reduceLE, Int.reduceEq, Int.reduceNe, Int.reduceAdd, Int.reduceSub, Int.reduceMul, Int.reduceToNat, Int.reduceNeg, Int.reducePow, Nat.reducePow, Nat.reduceEqDiff, Nat.reduceBEq, Int.reduceBEq, Int.reduceBNe, Int.reduceNegSucc, Tryd.results100]; done) | (simp only [go_sem, reduceCtorEq, Nat.reduceAdd, Nat.reduceSub, Nat.reduceMul, Nat.reduceLT, Nat.reduceLeDiff, Int.reduceLT, Int.reduceLE, Int.reduceEq, Int.reduceNe, Int.reduceAdd, Int.reduceSub, Int.reduceMul, Int.reduceToNat, Int.reduceNeg, Int.reducePow, Nat.reducePow, Nat.reduceEqDiff, Nat.reduceBEq, Int.reduceBEq, Int.reduceBNe, Int.reduceNegSucc, Tryd.results100]; rfl) | rfl)
  | true =>
    have q0 : True := trivial
    refine Sp.of_bodyD Tryd.func100 rfl ?_
    intro Q hQ
    simp only [List.replicate, List.length_cons, List.length_nil, Tryd.ntmps100, Nat.reduceAdd, Nat.reduceSub, List.cons_append, List.nil_append, go_sem]
    have hz : True := trivial
    have hy := yieldedV_eq
    have hL := @q0
    repeat' (first | (refine WPV.seqK ?_; intro N hN) | refine gA ?_ | (refine gR (M := noM) ?_; intro N hN ops hy) | (refine gD (M := noM) ?_; intro N hN; have hy := yieldedV_eq) | (refine WPV.condK ?_; intro A hA B hB) | (refine here ?_; refine sM ?_) | refine Both.mk ?_ ?_ | (refine hN _ ?_; try clear hN N; try clear hy ops) | (refine hA ?_; clear hA A hB B; try simp only [hz]) | (refine hB ?_; clear hA A hB B; try simp only [hz]) | (refine gG ?_ ?_ <;> (intro hz; have h := nm hz; try (exfalso; omega)) <;> (have hz := nz hz)) | ((first | rw [if_pos (show _ ∧ _ from ⟨by omega, by omega⟩)] | rw [if_pos (show _ ∧ _ from by simp only [List.length_append, List.length_cons, List.length_nil]; exact ⟨by omega, by omega⟩)]); refine sM ?_) | refine gT ?_ | (clear hN N))
    apply And.right
    refine hQ _ _ ?_ Desc.refl ?_ ?_
    rotate_left
    · (first | (simp only [go_sem, reduceCtorEq, Nat.reduceAdd, Nat.reduceSub, Nat.reduceMul, Nat.reduceLT, Nat.reduceLeDiff, Int.reduceLT, Int.reduceLE, Int.reduceEq, Int.reduceNe, Int.reduceAdd, Int.reduceSub, Int.reduceMul, Int.reduceToNat, Int.reduceNeg, Int.reducePow, Nat.reducePow, Nat.reduceEqDiff, Nat.reduceBEq, Int.reduceBEq, Int.reduceBNe, Int.reduceNegSucc, Tryd.results100]; done) | (simp only [go_sem, reduceCtorEq, Nat.reduceAdd, Nat.reduceSub, Nat.reduceMul, Nat.reduceLT, Nat.reduceLeDiff, Int.reduceLT, Int.reduceLE, Int.reduceEq, Int.reduceNe, Int.reduceAdd, Int.reduceSub, Int.reduceMul, Int.reduceToNat, Int.reduceNeg, Int.reducePow, Nat.reducePow, Nat.reduceEqDiff, Nat.reduceBEq, Int.reduceBEq, Int.reduceBNe, Int.reduceNegSucc, Tryd.results100]; rfl) | rfl)
    · rw [odd_e]; exact Wk.refl
end
section
open Go Go.RowKit
set_option linter.unusedVariables false
set_option linter.unusedSimpArgs false
variable {K : Nat → Obj → Prop}
def fidx (p : Wr → Bool) : List Wr → Nat → Int
  | [], _ => -1
  | a :: l, k => if p a = true then (k : Int) else fidx p l (k + 1)
theorem fidx_any (p : Wr → Bool) : ∀ (l : List Wr) (k : Nat), decide (0 ≤ fidx p l k) = l.any p
  | [], k => by simp [fidx]
  | a :: l, k => by
    unfold fidx
    rw [List.any_cons]
    cases h : p a with
    | true => simp
    | false => simpa using fidx_any p l (k + 1)
set_option maxRecDepth 100000 in
set_option maxHeartbeats 2000000 in
theorem long_ix (l : List Wr) (hl : l.length ≤ 9223372036854775807) : Sp Tryd.prog K 132 [.sl 3 (wrl l), .fn 99 []] [] fun u hh => u = .sc (.int .i64 (fidx Wr.long l 0)) ∧ hh = [] := by
  have hlt : True := trivial
  have hget : True := trivial
  have hb : True := trivial
  have hw : True := trivial
  refine Sp.of_bodyD Tryd.func132 rfl ?_
  intro Q hQ
  simp only [List.replicate, List.length_cons, List.length_nil, Tryd.ntmps132, Nat.reduceAdd, Nat.reduceSub, List.cons_append, List.nil_append, go_sem]
  have hz : True := trivial
  have hy := yieldedV_eq
  have hL := And.intro @hlt (And.intro @hget (And.intro @hb (@hw)))
  repeat' (first | (refine WPV.seqK ?_; intro N hN) | refine gA ?_ | (refine gR (M := noM) ?_; intro N hN ops hy) | (refine gD (M := noM) ?_; intro N hN; have hy := yieldedV_eq) | (refine WPV.condK ?_; intro A hA B hB) | (refine here ?_; refine sM ?_) | refine Both.mk ?_ ?_ | ((with_reducible refine CallO.gd 99 ?_); refine CallO.toA Tryd.call99 (tlong_s _ _) ?_) | ((with_reducible refine CallP.gd 99 ?_); refine CallP.toA Tryd.call99 (tlong_s _ _) ?_) | (refine hN _ ?_; try clear hN N; try clear hy ops) | (refine hA ?_; clear hA A hB B; try simp only [hz]) | (refine hB ?_; clear hA A hB B; try simp only [hz]) | (refine gG ?_ ?_ <;> (intro hz; have h := nm hz; try (exfalso; omega)) <;> (have hz := nz hz)) | ((first | rw [if_pos (show _ ∧ _ from ⟨by omega, by omega⟩)] | rw [if_pos (show _ ∧ _ from by simp only [List.length_append, List.length_cons, List.length_nil]; exact ⟨by omega, by omega⟩)]); refine sM ?_) | refine gT ?_ | (clear hN N))
  refine WPV.desc (Desc.weakA (tm' := [.sl 3 (wrl l), .fn 99 [], .any, .any, .any, .any, .any, .sc (.int .i64 (l.length : Int)), .sc (.int .i64 0), .any, .any, .any, .any, .any, .any, .any, .any, .any, .any]) (h' := [])) ?_
  refine WPV.loopA (α := Nat) (fun k => l.length - k) (fun k => ⟨[.sl 3 (wrl l), .fn 99 [], .any, .any, .any, .any, .any, .sc (.int .i64 (l.length : Int)), .sc (.int .i64 ((k : Nat) : Int)), .any, .any, .any, .any, .any, .any, .any, .any, .any, .any], []⟩) (fun k => k ≤ l.length ∧ fidx Wr.long l 0 = fidx Wr.long (l.drop k) k) (fun k ⟨hk0, hJ⟩ H => ?_) 0 ⟨Nat.zero_le _, rfl⟩
  clear hlt hget hb hw
  by_cases h : k < l.length
  · have hlt : ((k : Int) < (l.length : Int)) = True := eq_true (by omega)
    have hget : l[k]? = some l[k] := List.getElem?_eq_getElem h
    have hw : IntKind.i64.wrap ((k : Int) + 1) = ((k + 1 : Nat) : Int) := by rw [wr_i64 (by omega) (by omega)]; rfl
    rw [List.drop_eq_getElem_cons h, fidx] at hJ
    generalize l[k] = a at hget hJ
    by_cases hb : a.long = true
    · rw [if_pos hb] at hJ
      rw [hJ] at hQ
      refine loopV ?_
      have hz : True := trivial
      have hy := yieldedV_eq
      have hL := And.intro @hlt (And.intro @hget (And.intro @hb (@hw)))
      repeat' (first | (refine WPV.seqK ?_; intro N hN) | refine gA ?_ | (refine gR (M := noM) ?_; intro N hN ops hy) | (refine gD (M := noM) ?_; intro N hN; have hy := yieldedV_eq) | (refine WPV.condK ?_; intro A hA B hB) | (refine here ?_; refine sM ?_) | refine Both.mk ?_ ?_ | ((with_reducible refine CallO.gd 99 ?_); refine CallO.toA Tryd.call99 (tlong_s _ _) ?_) | ((with_reducible refine CallP.gd 99 ?_); refine CallP.toA Tryd.call99 (tlong_s _ _) ?_) | (refine hN _ ?_; try clear hN N; try clear hy ops) | (refine hA ?_; clear hA A hB B; try simp only [hz]) | (refine hB ?_; clear hA A hB B; try simp only [hz]) | (refine gG ?_ ?_ <;> (intro hz; have h := nm hz; try (exfalso; omega)) <;> (have hz := nz hz)) | ((first | rw [if_pos (show _ ∧ _ from ⟨by omega, by omega⟩)] | rw [if_pos (show _ ∧ _ from by simp only [List.length_append, List.length_cons, List.length_nil]; exact ⟨by omega, by omega⟩)]); refine sM ?_) | refine gT ?_ | (clear hN N))
      all_goals (first | exact retA hQ Tryd.results132 (Desc.re [] rfl) | exact retN hQ Tryd.results132 (Desc.re [] rfl))
    · rw [if_neg hb] at hJ
      have hb : a.long = false := by simpa using hb
      have H' := H (k + 1) ⟨by omega, hJ⟩ (by omega)
      clear H
      refine loopV ?_
      have hz : True := trivial
      have hy := yieldedV_eq
      have hL := And.intro @hlt (And.intro @hget (And.intro @hb (@hw)))
      repeat' (first | (refine WPV.seqK ?_; intro N hN) | refine gA ?_ | (refine gR (M := noM) ?_; intro N hN ops hy) | (refine gD (M := noM) ?_; intro N hN; have hy := yieldedV_eq) | (refine WPV.condK ?_; intro A hA B hB) | (refine here ?_; refine sM ?_) | refine Both.mk ?_ ?_ | ((with_reducible refine CallO.gd 99 ?_); refine CallO.toA Tryd.call99 (tlong_s _ _) ?_) | ((with_reducible refine CallP.gd 99 ?_); refine CallP.toA Tryd.call99 (tlong_s _ _) ?_) | (refine hN _ ?_; try clear hN N; try clear hy ops) | (refine hA ?_; clear hA A hB B; try simp only [hz]) | (refine hB ?_; clear hA A hB B; try simp only [hz]) | (refine gG ?_ ?_ <;> (intro hz; have h := nm hz; try (exfalso; omega)) <;> (have hz := nz hz)) | ((first | rw [if_pos (show _ ∧ _ from ⟨by omega, by omega⟩)] | rw [if_pos (show _ ∧ _ from by simp only [List.length_append, List.length_cons, List.length_nil]; exact ⟨by omega, by omega⟩)]); refine sM ?_) | refine gT ?_ | (clear hN N))
      exact WPV.desc ((Desc.re [] rfl).trans Desc.weakA) H'
  · obtain rfl : k = l.length := by omega
    rw [List.drop_length, fidx] at hJ
    rw [hJ] at hQ
    have hlt : ((l.length : Int) < (l.length : Int)) = False := by simp
    have hget : True := trivial
    have hb : True := trivial
    have hw : True := trivial
    refine loopV ?_
    have hz : True := trivial
    have hy := yieldedV_eq
    have hL := And.intro @hlt (And.intro @hget (And.intro @hb (@hw)))
    repeat' (first | (refine WPV.seqK ?_; intro N hN) | refine gA ?_ | (refine gR (M := noM) ?_; intro N hN ops hy) | (refine gD (M := noM) ?_; intro N hN; have hy := yieldedV_eq) | (refine WPV.condK ?_; intro A hA B hB) | (refine here ?_; refine sM ?_) | refine Both.mk ?_ ?_ | ((with_reducible refine CallO.gd 99 ?_); refine CallO.toA Tryd.call99 (tlong_s _ _) ?_) | ((with_reducible refine CallP.gd 99 ?_); refine CallP.toA Tryd.call99 (tlong_s _ _) ?_) | (refine hN _ ?_; try clear hN N; try clear hy ops) | (refine hA ?_; clear hA A hB B; try simp only [hz]) | (refine hB ?_; clear hA A hB B; try simp only [hz]) | (refine gG ?_ ?_ <;> (intro hz; have h := nm hz; try (exfalso; omega)) <;> (have hz := nz hz)) | ((first | rw [if_pos (show _ ∧ _ from ⟨by omega, by omega⟩)] | rw [if_pos (show _ ∧ _ from by simp only [List.length_append, List.length_cons, List.length_nil]; exact ⟨by omega, by omega⟩)]); refine sM ?_) | refine gT ?_ | (clear hN N))
    all_goals (first | exact retA hQ Tryd.results132 (Desc.re [] rfl) | exact retN hQ Tryd.results132 (Desc.re [] rfl))
theorem fidx_long (l : List Wr) : decide (0 ≤ fidx Wr.long l 0) = l.any Wr.long := fidx_any _ l 0
set_option maxRecDepth 100000 in
theorem long_any (l : List Wr) (hl : l.length ≤ 9223372036854775807) : Sp Tryd.prog K 98 [.sl 3 (wrl l), .fn 99 []] [] fun u hh => u = .sc (.bool (l.any Wr.long)) ∧ hh = [] := by
  have hq : decide (0 ≤ fidx Wr.long l 0) = l.any Wr.long := fidx_long l
  refine Sp.of_bodyD Tryd.func98 rfl ?_
  intro Q hQ
  simp only [List.replicate, List.length_cons, List.length_nil, Tryd.ntmps98, Nat.reduceAdd, Nat.reduceSub, List.cons_append, List.nil_append, go_sem]
  have hz : True := trivial
  have hy := yieldedV_eq
  have hL := @hq
  repeat' (first | (refine WPV.seqK ?_; intro N hN) | refine gA ?_ | (refine gR (M := noM) ?_; intro N hN ops hy) | (refine gD (M := noM) ?_; intro N hN; have hy := yieldedV_eq) | (refine WPV.condK ?_; intro A hA B hB) | (refine here ?_; refine sM ?_) | refine Both.mk ?_ ?_ | ((with_reducible refine CallO.gd 132 ?_); refine CallO.frA [] Tryd.call132 (long_ix l hl) ?_) | (refine hN _ ?_; try clear hN N; try clear hy ops) | (refine hA ?_; clear hA A hB B; try simp only [hz]) | (refine hB ?_; clear hA A hB B; try simp only [hz]) | (refine gG ?_ ?_ <;> (intro hz; have h := nm hz; try (exfalso; omega)) <;> (have hz := nz hz)) | ((first | rw [if_pos (show _ ∧ _ from ⟨by omega, by omega⟩)] | rw [if_pos (show _ ∧ _ from by simp only [List.length_append, List.length_cons, List.length_nil]; exact ⟨by omega, by omega⟩)]); refine sM ?_) | refine gT ?_ | (clear hN N))
  all_goals (first | exact retA hQ Tryd.results98 (Desc.re [] rfl) | exact retN hQ Tryd.results98 (Desc.re [] rfl))
set_option maxRecDepth 100000 in
set_option maxHeartbeats 2000000 in
theorem odd_ix (l : List Wr) (hl : l.length ≤ 9223372036854775807) : Sp Tryd.prog K 132 [.sl 3 (wrl l), .fn 100 []] [] fun u hh => u = .sc (.int .i64 (fidx Wr.odd l 0)) ∧ hh = [] := by
  have hlt : True := trivial
  have hget : True := trivial
  have hb : True := trivial
  have hw : True := trivial
  refine Sp.of_bodyD Tryd.func132 rfl ?_
  intro Q hQ
  simp only [List.replicate, List.length_cons, List.length_nil, Tryd.ntmps132, Nat.reduceAdd, Nat.reduceSub, List.cons_append, List.nil_append, go_sem]
  have hz : True := trivial
  have hy := yieldedV_eq
  have hL := And.intro @hlt (And.intro @hget (And.intro @hb (@hw)))
  repeat' (first | (refine WPV.seqK ?_; intro N hN) | refine gA ?_ | (refine gR (M := noM) ?_; intro N hN ops hy) | (refine gD (M := noM) ?_; intro N hN; have hy := yieldedV_eq) | (refine WPV.condK ?_; intro A hA B hB) | (refine here ?_; refine sM ?_) | refine Both.mk ?_ ?_ | ((with_reducible refine CallO.gd 100 ?_); refine CallO.toA Tryd.call100 (todd_s _ _) ?_) | ((with_reducible refine CallP.gd 100 ?_); refine CallP.toA Tryd.call100 (todd_s _ _) ?_) | (refine hN _ ?_; try clear hN N; try clear hy ops) | (refine hA ?_; clear hA A hB B; try simp only [hz]) | (refine hB ?_; clear hA A hB B; try simp only [hz]) | (refine gG ?_ ?_ <;> (intro hz; have h := nm hz; try (exfalso; omega)) <;> (have hz := nz hz)) | ((first | rw [if_pos (show _ ∧ _ from ⟨by omega, by omega⟩)] | rw [if_pos (show _ ∧ _ from by simp only [List.length_append, List.length_cons, List.length_nil]; exact ⟨by omega, by omega⟩)]); refine sM ?_) | refine gT ?_ | (clear hN N))
  refine WPV.desc (Desc.weakA (tm' := [.sl 3 (wrl l), .fn 100 [], .any, .any, .any, .any, .any, .sc (.int .i64 (l.length : Int)), .sc (.int .i64 0), .any, .any, .any, .any, .any, .any, .any, .any, .any, .any]) (h' := [])) ?_
  refine WPV.loopA (α := Nat) (fun k => l.length - k) (fun k => ⟨[.sl 3 (wrl l), .fn 100 [], .any, .any, .any, .any, .any, .sc (.int .i64 (l.length : Int)), .sc (.int .i64 ((k : Nat) : Int)), .any, .any, .any, .any, .any, .any, .any, .any, .any, .any], []⟩) (fun k => k ≤ l.length ∧ fidx Wr.odd l 0 = fidx Wr.odd (l.drop k) k) (fun k ⟨hk0, hJ⟩ H => ?_) 0 ⟨Nat.zero_le _, rfl⟩
  clear hlt hget hb hw
  by_cases h : k < l.length
  · have hlt : ((k : Int) < (l.length : Int)) = True := eq_true (by omega)
    have hget : l[k]? = some l[k] := List.getElem?_eq_getElem h
    have hw : IntKind.i64.wrap ((k : Int) + 1) = ((k + 1 : Nat) : Int) := by rw [wr_i64 (by omega) (by omega)]; rfl
    rw [List.drop_eq_getElem_cons h, fidx] at hJ
    generalize l[k] = a at hget hJ
    by_cases hb : a.odd = true
    · rw [if_pos hb] at hJ
      rw [hJ] at hQ
      refine loopV ?_
      have hz : True := trivial
      have hy := yieldedV_eq
      have hL := And.intro @hlt (And.intro @hget (And.intro @hb (@hw)))
      repeat' (first | (refine WPV.seqK ?_; intro N hN) | refine gA ?_ | (refine gR (M := noM) ?_; intro N hN ops hy) | (refine gD (M := noM) ?_; intro N hN; have hy := yieldedV_eq) | (refine WPV.condK ?_; intro A hA B hB) | (refine here ?_; refine sM ?_) | refine Both.mk ?_ ?_ | ((with_reducible refine CallO.gd 100 ?_); refine CallO.toA Tryd.call100 (todd_s _ _) ?_) | ((with_reducible refine CallP.gd 100 ?_); refine CallP.toA Tryd.call100 (todd_s _ _) ?_) | (refine hN _ ?_; try clear hN N; try clear hy ops) | (refine hA ?_; clear hA A hB B; try simp only [hz]) | (refine hB ?_; clear hA A hB B; try simp only [hz]) | (refine gG ?_ ?_ <;> (intro hz; have h := nm hz; try (exfalso; omega)) <;> (have hz := nz hz)) | ((first | rw [if_pos (show _ ∧ _ from ⟨by omega, by omega⟩)] | rw [if_pos (show _ ∧ _ from by simp only [List.length_append, List.length_cons, List.length_nil]; exact ⟨by omega, by omega⟩)]); refine sM ?_) | refine gT ?_ | (clear hN N))
      all_goals (first | exact retA hQ Tryd.results132 (Desc.re [] rfl) | exact retN hQ Tryd.results132 (Desc.re [] rfl))
    · rw [if_neg hb] at hJ
      have hb : a.odd = false := by simpa using hb
      have H' := H (k + 1) ⟨by omega, hJ⟩ (by omega)
      clear H
      refine loopV ?_
      have hz : True := trivial
      have hy := yieldedV_eq
      have hL := And.intro @hlt (And.intro @hget (And.intro @hb (@hw)))
      repeat' (first | (refine WPV.seqK ?_; intro N hN) | refine gA ?_ | (refine gR (M := noM) ?_; intro N hN ops hy) | (refine gD (M := noM) ?_; intro N hN; have hy := yieldedV_eq) | (refine WPV.condK ?_; intro A hA B hB) | (refine here ?_; refine sM ?_) | refine Both.mk ?_ ?_ | ((with_reducible refine CallO.gd 100 ?_); refine CallO.toA Tryd.call100 (todd_s _ _) ?_) | ((with_reducible refine CallP.gd 100 ?_); refine CallP.toA Tryd.call100 (todd_s _ _) ?_) | (refine hN _ ?_; try clear hN N; try clear hy ops) | (refine hA ?_; clear hA A hB B; try simp only [hz]) | (refine hB ?_; clear hA A hB B; try simp only [hz]) | (refine gG ?_ ?_ <;> (intro hz; have h := nm hz; try (exfalso; omega)) <;> (have hz := nz hz)) | ((first | rw [if_pos (show _ ∧ _ from ⟨by omega, by omega⟩)] | rw [if_pos (show _ ∧ _ from by simp only [List.length_append, List.length_cons, List.length_nil]; exact ⟨by omega, by omega⟩)]); refine sM ?_) | refine gT ?_ | (clear hN N))
      exact WPV.desc ((Desc.re [] rfl).trans Desc.weakA) H'
  · obtain rfl : k = l.length := by omega
    rw [List.drop_length, fidx] at hJ
    rw [hJ] at hQ
    have hlt : ((l.length : Int) < (l.length : Int)) = False := by simp
    have hget : True := trivial
    have hb : True := trivial
    have hw : True := trivial
    refine loopV ?_
    have hz : True := trivial
    have hy := yieldedV_eq
    have hL := And.intro @hlt (And.intro @hget (And.intro @hb (@hw)))
    repeat' (first | (refine WPV.seqK ?_; intro N hN) | refine gA ?_ | (refine gR (M := noM) ?_; intro N hN ops hy) | (refine gD (M := noM) ?_; intro N hN; have hy := yieldedV_eq) | (refine WPV.condK ?_; intro A hA B hB) | (refine here ?_; refine sM ?_) | refine Both.mk ?_ ?_ | ((with_reducible refine CallO.gd 100 ?_); refine CallO.toA Tryd.call100 (todd_s _ _) ?_) | ((with_reducible refine CallP.gd 100 ?_); refine CallP.toA Tryd.call100 (todd_s _ _) ?_) | (refine hN _ ?_; try clear hN N; try clear hy ops) | (refine hA ?_; clear hA A hB B; try simp only [hz]) | (refine hB ?_; clear hA A hB B; try simp only [hz]) | (refine gG ?_ ?_ <;> (intro hz; have h := nm hz; try (exfalso; omega)) <;> (have hz := nz hz)) | ((first | rw [if_pos (show _ ∧ _ from ⟨by omega, by omega⟩)] | rw [if_pos (show _ ∧ _ from by simp only [List.length_append, List.length_cons, List.length_nil]; exact ⟨by omega, by omega⟩)]); refine sM ?_) | refine gT ?_ | (clear hN N))
    all_goals (first | exact retA hQ Tryd.results132 (Desc.re [] rfl) | exact retN hQ Tryd.results132 (Desc.re [] rfl))
theorem fidx_odd (l : List Wr) : decide (0 ≤ fidx Wr.odd l 0) = l.any Wr.odd := fidx_any _ l 0
set_option maxRecDepth 100000 in
theorem odd_any (l : List Wr) (hl : l.length ≤ 9223372036854775807) : Sp Tryd.prog K 98 [.sl 3 (wrl l), .fn 100 []] [] fun u hh => u = .sc (.bool (l.any Wr.odd)) ∧ hh = [] := by
  have hq : decide (0 ≤ fidx Wr.odd l 0) = l.any Wr.odd := fidx_odd l
  refine Sp.of_bodyD Tryd.func98 rfl ?_
  intro Q hQ
  simp only [List.replicate, List.length_cons, List.length_nil, Tryd.ntmps98, Nat.reduceAdd, Nat.reduceSub, List.cons_append, List.nil_append, go_sem]
  have hz : True := trivial
  have hy := yieldedV_eq
  have hL := @hq
  repeat' (first | (refine WPV.seqK ?_; intro N hN) | refine gA ?_ | (refine gR (M := noM) ?_; intro N hN ops hy) | (refine gD (M := noM) ?_; intro N hN; have hy := yieldedV_eq) | (refine WPV.condK ?_; intro A hA B hB) | (refine here ?_; refine sM ?_) | refine Both.mk ?_ ?_ | ((with_reducible refine CallO.gd 132 ?_); refine CallO.frA [] Tryd.call132 (odd_ix l hl) ?_) | (refine hN _ ?_; try clear hN N; try clear hy ops) | (refine hA ?_; clear hA A hB B; try simp only [hz]) | (refine hB ?_; clear hA A hB B; try simp only [hz]) | (refine gG ?_ ?_ <;> (intro hz; have h := nm hz; try (exfalso; omega)) <;> (have hz := nz hz)) | ((first | rw [if_pos (show _ ∧ _ from ⟨by omega, by omega⟩)] | rw [if_pos (show _ ∧ _ from by simp only [List.length_append, List.length_cons, List.length_nil]; exact ⟨by omega, by omega⟩)]); refine sM ?_) | refine gT ?_ | (clear hN N))
  all_goals (first | exact retA hQ Tryd.results98 (Desc.re [] rfl) | exact retN hQ Tryd.results98 (Desc.re [] rfl))
end
end Go.Proofs.YtgfnpcmehnjopaaDoor
end
section
namespace Go.Proofs.YtgfnpcmehnjopaaDoor
open Go Go.RowKit
set_option linter.unusedVariables false
set_option linter.unusedSimpArgs false
variable {K : Nat → Obj → Prop}
structure Tx where
  o : Int
  s : Int
  c : Clk
  w : List Wr
abbrev txV (t : Tx) : V := .agg [.sc (.int .i64 t.o), .sc (.int .i64 t.s), .sc (.int .i64 t.c.x), .sc (.int .i64 t.c.y), .sc (.int .i64 t.c.z), .sl 3 (wrl t.w)]
def Clk.at_ (c : Clk) (o : Int) : Int := if o = 0 then c.x else if o = 1 then c.y else c.z
def checkF (t : Tx) : Int :=
  if t.o < 0 ∨ 2 < t.o then 9 else if t.s < 1 ∨ 4611686018427387903 < t.s ∨ rightF t.c = false then 1 else if t.c.at_ t.o ≠ t.s - 1 then 11
  else if 16 < t.w.length ∨ t.w.any Wr.long = true then 4 else if t.w.any Wr.odd = true then 3 else 0
theorem at_get2 (c : Clk) (o : Int) (a b : V) (l : List V) (h : 0 ≤ o ∧ o ≤ 2) : (a :: b :: V.sc (.int .i64 c.x) :: V.sc (.int .i64 c.y) :: V.sc (.int .i64 c.z) :: l)[2 + o.toNat]? = some (V.sc (.int .i64 (c.at_ o))) := by
  obtain rfl | rfl | rfl : o = 0 ∨ o = 1 ∨ o = 2 := by omega
  all_goals rfl
theorem check_tail {o s : Int} {c : Clk} {w : List Wr} (h1 : ¬ (o < 0 ∨ 2 < o)) (h2 : ¬ (s < 1 ∨ 4611686018427387903 < s)) (hr : rightF c = true) {d : Int} (hd : c.at_ o = d) :
    checkF ⟨o, s, c, w⟩ = if d ≠ s - 1 then 11 else if 16 < w.length then 4 else if w.any Wr.long = true then 4 else if w.any Wr.odd = true then 3 else 0 := by
  unfold checkF
  rw [if_neg h1, if_neg (by rw [hr]; simp; omega)]
  dsimp only
  rw [hd]
  by_cases h3 : d ≠ s - 1
  · rw [if_pos h3, if_pos h3]
  · rw [if_neg h3, if_neg h3]
    by_cases h4 : 16 < w.length
    · rw [if_pos (.inl h4), if_pos h4]
    · rw [if_neg h4]
      by_cases h5 : w.any Wr.long = true
      · rw [if_pos (.inr h5), if_pos h5]
      · rw [if_neg h5, if_neg (by simp [h5]; omega)]
theorem at_bd {c : Clk} {o d : Int} (hr : rightF c = true) (hd : c.at_ o = d) : 0 ≤ d ∧ d ≤ 4611686018427387903 := by
  obtain ⟨⟨a, b⟩, ⟨e, f⟩, g, h⟩ := right_bounds hr
  subst hd
  unfold Clk.at_
  split
  · omega
  · split <;> omega
set_option maxRecDepth 100000 in
set_option maxHeartbeats 4000000 in
theorem tcheck_s (t : Tx) (hl : t.w.length ≤ 9223372036854775807) : Sp Tryd.prog K 66 [txV t] [] fun u hh => u = .sc (.int .i64 (checkF t)) ∧ hh = [] := by
  obtain ⟨o, s, c, w⟩ := t
  have c1 := cright_s (K := K) c []
  have c2 := long_any (K := K) w hl
  have c3 := odd_any (K := K) w hl
  have hx0 := at_get2 c o (.sc (.int .i64 o)) (.sc (.int .i64 s)) [.sl 3 (wrl w)]
  obtain ⟨x, y, z⟩ := c
  dsimp only [clkV] at c1 hx0
  by_cases h1 : o < 0 ∨ 2 < o
  · have e : checkF ⟨o, s, ⟨x, y, z⟩, w⟩ = 9 := by unfold checkF; rw [if_pos h1]
    rw [e]
    have hx := True.intro
    refine Sp.of_bodyE Tryd.func66 rfl ?_
    intro Q hQ
    simp only [List.replicate, List.length_cons, List.length_nil, Tryd.ntmps66, Nat.reduceAdd, Nat.reduceSub, List.cons_append, List.nil_append, go_sem]
    have hz : True := trivial
    have hy := yieldedV_eq
    have hL := @hx
    repeat' (first | (refine WPV.seqK ?_; intro N hN) | refine gA ?_ | (refine gR (M := noM) ?_; intro N hN ops hy) | (refine gD (M := noM) ?_; intro N hN; have hy := yieldedV_eq) | (refine WPV.condK ?_; intro A hA B hB) | (refine here ?_; refine sS ?_) | refine Both.mk ?_ ?_ | ((with_reducible refine CallO.gd 53 ?_); refine CallO.frB [] Tryd.call53 (c1) ?_) | ((with_reducible refine CallO.gd 98 ?_); first | refine CallO.frB [] Tryd.call98 (c2) ?_ | refine CallO.frB [] Tryd.call98 (c3) ?_) | (refine hN _ ?_; try clear hN N; try clear hy ops) | (refine hA ?_; clear hA A hB B; try simp only [hz]) | (refine hB ?_; clear hA A hB B; try simp only [hz]) | (refine gG ?_ ?_ <;> (intro hz; have h := nm hz; try (exfalso; omega)) <;> (have hz := nz hz; try subst hz)) | (rw [if_pos (show _ ∧ _ from ⟨by omega, by omega⟩)]; refine sS ?_) | refine gT ?_ | (clear hN N))
    all_goals (first | exact retZ hQ Tryd.results66 (Desc.re [] rfl) | exact retZN hQ Tryd.results66 (Desc.re [] rfl))
  have hx := hx0 (by omega)
  by_cases h2 : s < 1 ∨ 4611686018427387903 < s ∨ rightF ⟨x, y, z⟩ = false
  · have e : checkF ⟨o, s, ⟨x, y, z⟩, w⟩ = 1 := by unfold checkF; rw [if_neg h1, if_pos h2]
    rw [e]
    cases hr : rightF ⟨x, y, z⟩ with
    | true =>
      rw [hr] at c1 h2
      have h2 : s < 1 ∨ 4611686018427387903 < s := by simpa using h2
      refine Sp.of_bodyE Tryd.func66 rfl ?_
      intro Q hQ
      simp only [List.replicate, List.length_cons, List.length_nil, Tryd.ntmps66, Nat.reduceAdd, Nat.reduceSub, List.cons_append, List.nil_append, go_sem]
      have hz : True := trivial
      have hy := yieldedV_eq
      have hL := @hx
      repeat' (first | (refine WPV.seqK ?_; intro N hN) | refine gA ?_ | (refine gR (M := noM) ?_; intro N hN ops hy) | (refine gD (M := noM) ?_; intro N hN; have hy := yieldedV_eq) | (refine WPV.condK ?_; intro A hA B hB) | (refine here ?_; refine sS ?_) | refine Both.mk ?_ ?_ | ((with_reducible refine CallO.gd 53 ?_); refine CallO.frB [] Tryd.call53 (c1) ?_) | ((with_reducible refine CallO.gd 98 ?_); first | refine CallO.frB [] Tryd.call98 (c2) ?_ | refine CallO.frB [] Tryd.call98 (c3) ?_) | (refine hN _ ?_; try clear hN N; try clear hy ops) | (refine hA ?_; clear hA A hB B; try simp only [hz]) | (refine hB ?_; clear hA A hB B; try simp only [hz]) | (refine gG ?_ ?_ <;> (intro hz; have h := nm hz; try (exfalso; omega)) <;> (have hz := nz hz; try subst hz)) | (rw [if_pos (show _ ∧ _ from ⟨by omega, by omega⟩)]; refine sS ?_) | refine gT ?_ | (clear hN N))
      all_goals (first | exact retZ hQ Tryd.results66 (Desc.re [] rfl) | exact retZN hQ Tryd.results66 (Desc.re [] rfl))
    | false =>
      rw [hr] at c1
      clear h2
      refine Sp.of_bodyE Tryd.func66 rfl ?_
      intro Q hQ
      simp only [List.replicate, List.length_cons, List.length_nil, Tryd.ntmps66, Nat.reduceAdd, Nat.reduceSub, List.cons_append, List.nil_append, go_sem]
      have hz : True := trivial
      have hy := yieldedV_eq
      have hL := @hx
      repeat' (first | (refine WPV.seqK ?_; intro N hN) | refine gA ?_ | (refine gR (M := noM) ?_; intro N hN ops hy) | (refine gD (M := noM) ?_; intro N hN; have hy := yieldedV_eq) | (refine WPV.condK ?_; intro A hA B hB) | (refine here ?_; refine sS ?_) | refine Both.mk ?_ ?_ | ((with_reducible refine CallO.gd 53 ?_); refine CallO.frB [] Tryd.call53 (c1) ?_) | ((with_reducible refine CallO.gd 98 ?_); first | refine CallO.frB [] Tryd.call98 (c2) ?_ | refine CallO.frB [] Tryd.call98 (c3) ?_) | (refine hN _ ?_; try clear hN N; try clear hy ops) | (refine hA ?_; clear hA A hB B; try simp only [hz]) | (refine hB ?_; clear hA A hB B; try simp only [hz]) | (refine gG ?_ ?_ <;> (intro hz; have h := nm hz; try (exfalso; omega)) <;> (have hz := nz hz; try subst hz)) | (rw [if_pos (show _ ∧ _ from ⟨by omega, by omega⟩)]; refine sS ?_) | refine gT ?_ | (clear hN N))
      all_goals (first | exact retZ hQ Tryd.results66 (Desc.re [] rfl) | exact retZN hQ Tryd.results66 (Desc.re [] rfl))
  have hr : rightF ⟨x, y, z⟩ = true := by
    cases h : rightF ⟨x, y, z⟩
    · exact absurd (.inr (.inr h)) h2
    · rfl
  have h2 : ¬ (s < 1 ∨ 4611686018427387903 < s) := fun h => h2 (by rcases h with h | h <;> simp [h])
  obtain ⟨d, hd⟩ : ∃ d, Clk.at_ ⟨x, y, z⟩ o = d := ⟨_, rfl⟩
  rw [check_tail h1 h2 hr hd]
  rw [hr] at c1
  rw [hd] at hx
  have hdb := at_bd hr hd
  generalize w.any Wr.long = a at *
  generalize w.any Wr.odd = b at *
  clear hx0
  refine Sp.of_bodyE Tryd.func66 rfl ?_
  intro Q hQ
  simp only [List.replicate, List.length_cons, List.length_nil, Tryd.ntmps66, Nat.reduceAdd, Nat.reduceSub, List.cons_append, List.nil_append, go_sem]
  have hz : True := trivial
  have hy := yieldedV_eq
  have hL := @hx
  repeat' (first | (refine WPV.seqK ?_; intro N hN) | refine gA ?_ | (refine gR (M := noM) ?_; intro N hN ops hy) | (refine gD (M := noM) ?_; intro N hN; have hy := yieldedV_eq) | (refine WPV.condK ?_; intro A hA B hB) | (refine here ?_; refine sS ?_) | refine Both.mk ?_ ?_ | ((with_reducible refine CallO.gd 53 ?_); refine CallO.frB [] Tryd.call53 (c1) ?_) | ((with_reducible refine CallO.gd 98 ?_); first | refine CallO.frB [] Tryd.call98 (c2) ?_ | refine CallO.frB [] Tryd.call98 (c3) ?_) | (refine hN _ ?_; try clear hN N; try clear hy ops) | (refine hA ?_; clear hA A hB B; try simp only [hz]) | (refine hB ?_; clear hA A hB B; try simp only [hz]) | (refine gG ?_ ?_ <;> (intro hz; have h := nm hz; try (exfalso; omega)) <;> (have hz := nz hz; try subst hz)) | (rw [if_pos (show _ ∧ _ from ⟨by omega, by omega⟩)]; refine sS ?_) | refine gT ?_ | (clear hN N))
  all_goals (first | exact retZ hQ Tryd.results66 (Desc.re [] rfl) | exact retZN hQ Tryd.results66 (Desc.re [] rfl))
end Go.Proofs.YtgfnpcmehnjopaaDoor
end
