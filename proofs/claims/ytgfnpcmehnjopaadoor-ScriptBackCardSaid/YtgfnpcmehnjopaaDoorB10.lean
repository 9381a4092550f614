/- Parts of the proofs, joined: ClkR4, TxnP, TxnC, VsX, CrcV, FrmF, ScrF. -/
import Derived.Test.YtgfnpcmehnjopaaDoorB2
import Derived.Test.YtgfnpcmehnjopaaDoorB9
section
namespace Go.Proofs.YtgfnpcmehnjopaaDoor
open Go Go.RowKit
set_option linter.unusedVariables false
set_option linter.unusedSimpArgs false
variable {K : Nat → Obj → Prop}
end Go.Proofs.YtgfnpcmehnjopaaDoor
end
section
namespace Go.Proofs.YtgfnpcmehnjopaaDoor
section
open Go Go.RowKit
set_option linter.unusedVariables false
set_option linter.unusedSimpArgs false
variable {K : Nat → Obj → Prop}
structure Wr where
  k : ByteArray
  v : ByteArray
  g : Bool
def Wr.d (a : Wr) : List D := [.sc (.string a.k), .sc (.string a.v), .sc (.bool a.g)]
def wrl (l : List Wr) : List (List D) := l.map Wr.d
theorem wrl_len (l : List Wr) : (wrl l).length = l.length := by simp [wrl]
theorem wrl_get (l : List Wr) (i : Nat) : (wrl l)[i]? = (l[i]?).map Wr.d := by simp [wrl]
attribute [go_sem] wrl_len wrl_get Wr.d
abbrev wrV (a : Wr) : V := .agg [.sc (.string a.k), .sc (.string a.v), .sc (.bool a.g)]
def Wr.long (a : Wr) : Bool := decide (64 < a.k.size) || decide (256 < a.v.size)
def Wr.odd (a : Wr) : Bool := a.g && decide (a.v ≠ ByteArray.empty)
set_option maxRecDepth 100000 in
theorem tlong_s (a : Wr) (h : List Ho) : Sp Tryd.prog K 99 [wrV a] h fun u hh => u = .sc (.bool a.long) ∧ hh = h := by
  refine Sp.pure_ (R := fun u hh => Wk [u] [.sc (.bool a.long)]) ?_ (fun _ => rfl) (fun _ => rfl) (fun v h e => e) h
  obtain ⟨k, v, g⟩ := a
  unfold Wr.long
  by_cases h1 : 64 < k.size
  · have q0 : ((64 : Int) < (k.size : Int)) = True := eq_true (by omega)
    have q1 : True := trivial
    rw [decide_eq_true h1, Bool.true_or]
    refine Sp.of_bodyD Tryd.func99 rfl ?_
    intro Q hQ
    simp only [List.replicate, List.length_cons, List.length_nil, Tryd.ntmps99, Nat.reduceAdd, Nat.reduceSub, List.cons_append, List.nil_append, go_sem]
    have hz : True := trivial
    have hy := yieldedV_eq
    have hL := And.intro @q0 (@q1)
    repeat' (first | (refine WPV.seqK ?_; intro N hN) | refine gA ?_ | (refine gR (M := noM) ?_; intro N hN ops hy) | (refine gD (M := noM) ?_; intro N hN; have hy := yieldedV_eq) | (refine WPV.condK ?_; intro A hA B hB) | (refine here ?_; refine sM ?_) | refine Both.mk ?_ ?_ | (refine hN _ ?_; try clear hN N; try clear hy ops) | (refine hA ?_; clear hA A hB B; try simp only [hz]) | (refine hB ?_; clear hA A hB B; try simp only [hz]) | (refine gG ?_ ?_ <;> (intro hz; have h := nm hz; try (exfalso; omega)) <;> (have hz := nz hz)) | ((first | rw [if_pos (show _ ∧ _ from ⟨by omega, by omega⟩)] | rw [if_pos (show _ ∧ _ from by simp only [List.length_append, List.length_cons, List.length_nil]; exact ⟨by omega, by omega⟩)]); refine sM ?_) | refine gT ?_ | (clear hN N))
    all_goals (apply And.right; refine hQ _ _ _ Desc.refl ?_ Wk.refl)
    · (first | (simp only [go_sem, reduceCtorEq, Nat.reduceAdd, Nat.reduceSub, Nat.reduceMul, Nat.reduceLT, Nat.reduceLeDiff, Int.reduceLT, Int.reduceLE, Int.reduceEq, Int.reduceNe, Int.reduceAdd, Int.reduceSub, Int.reduceMul, Int.reduceToNat, Int.reduceNeg, Int.reducePow, Nat.reducePow, Nat.reduceEqDiff, Nat.reduceBEq, Int.reduceBEq, Int.reduceBNe, Int.reduceNegSucc, Tryd.results99]; done) | (simp only [go_sem, reduceCtorEq, Nat.reduceAdd, Nat.reduceSub, Nat.reduceMul, Nat.reduceLT, Nat.reduceLeDiff, Int.reduceLT, Int.reduceLE, Int.reduceEq, Int.reduceNe, Int.reduceAdd, Int.reduceSub, Int.reduceMul, Int.reduceToNat, Int.reduceNeg, Int.reducePow, Nat.reducePow, Nat.reduceEqDiff, Nat.reduceBEq, Int.reduceBEq, Int.reduceBNe, Int.reduceNegSucc, Tryd.results99]; rfl) | rfl)
  · have q0 : ((64 : Int) < (k.size : Int)) = False := eq_false (by omega)
    have q1 : ((256 : Int) < (v.size : Int)) = (256 < v.size) := propext (by omega)
    rw [decide_eq_false h1, Bool.false_or]
    refine Sp.of_bodyD Tryd.func99 rfl ?_
    intro Q hQ
    simp only [List.replicate, List.length_cons, List.length_nil, Tryd.ntmps99, Nat.reduceAdd, Nat.reduceSub, List.cons_append, List.nil_append, go_sem]
    have hz : True := trivial
    have hy := yieldedV_eq
    have hL := And.intro @q0 (@q1)
    repeat' (first | (refine WPV.seqK ?_; intro N hN) | refine gA ?_ | (refine gR (M := noM) ?_; intro N hN ops hy) | (refine gD (M := noM) ?_; intro N hN; have hy := yieldedV_eq) | (refine WPV.condK ?_; intro A hA B hB) | (refine here ?_; refine sM ?_) | refine Both.mk ?_ ?_ | (refine hN _ ?_; try clear hN N; try clear hy ops) | (refine hA ?_; clear hA A hB B; try simp only [hz]) | (refine hB ?_; clear hA A hB B; try simp only [hz]) | (refine gG ?_ ?_ <;> (intro hz; have h := nm hz; try (exfalso; omega)) <;> (have hz := nz hz)) | ((first | rw [if_pos (show _ ∧ _ from ⟨by omega, by omega⟩)] | rw [if_pos (show _ ∧ _ from by simp only [List.length_append, List.length_cons, List.length_nil]; exact ⟨by omega, by omega⟩)]); refine sM ?_) | refine gT ?_ | (clear hN N))
    all_goals (apply And.right; refine hQ _ _ _ Desc.refl ?_ Wk.refl)
    · (first | (simp only [go_sem, reduceCtorEq, Nat.reduceAdd, Nat.reduceSub, Nat.reduceMul, Nat.reduceLT, Nat.reduceLeDiff, Int.reduceLT, Int.reduceLE, Int.reduceEq, Int.reduceNe, Int.reduceAdd, Int.reduceSub, Int.reduceMul, Int.reduceToNat, Int.reduceNeg, Int.reducePow, Nat.reducePow, Nat.reduceEqDiff, Nat.reduceBEq, Int.reduceBEq, Int.reduceBNe, Int.reduceNegSucc, Tryd.results99]; done) | (simp only [go_sem, reduceCtorEq, Nat.reduceAdd, Nat.reduceSub, Nat.reduceMul, Nat.reduceLT, Nat.reduceLeDiff, Int.reduceLT, Int.reduceLE, Int.reduceEq, Int.reduceNe, Int.reduceAdd, Int.reduceSub, Int.reduceMul, Int.reduceToNat, Int.reduceNeg, Int.reducePow, Nat.reducePow, Nat.reduceEqDiff, Nat.reduceBEq, Int.reduceBEq, Int.reduceBNe, Int.reduceNegSucc, Tryd.results99]; rfl) | rfl)
theorem odd_e (v : ByteArray) : (!(v.toList == ({ data := #[] } : ByteArray).toList)) = decide (v ≠ ByteArray.empty) := by
  rw [ByteArray.toList_eq, ByteArray.toList_eq]
  by_cases h : v = ByteArray.empty
  · subst h; rfl
  · have : v.data.toList ≠ [] := fun e => h (by cases v; simp at e; subst e; rfl)
    simp [h]
    intro e
    exact this (by rw [e])
set_option maxRecDepth 100000 in
theorem todd_s (a : Wr) (h : List Ho) : Sp Tryd.prog K 100 [wrV a] h fun u hh => u = .sc (.bool a.odd) ∧ hh = h := by
  refine Sp.pure_ (R := fun u hh => Wk [u] [.sc (.bool a.odd)]) ?_ (fun _ => rfl) (fun _ => rfl) (fun v h e => e) h
  obtain ⟨k, v, g⟩ := a
  unfold Wr.odd
  cases g with
  | false =>
    have q0 : True := trivial
    refine Sp.of_bodyD Tryd.func100 rfl ?_
    intro Q hQ
    simp only [List.replicate, List.length_cons, List.length_nil, Tryd.ntmps100, Nat.reduceAdd, Nat.reduceSub, List.cons_append, List.nil_append, go_sem]
    have hz : True := trivial
    have hy := yieldedV_eq
    have hL := @q0
    repeat' (first | (refine WPV.seqK ?_; intro N hN) | refine gA ?_ | (refine gR (M := noM) ?_; intro N hN ops hy) | (refine gD (M := noM) ?_; intro N hN; have hy := yieldedV_eq) | (refine WPV.condK ?_; intro A hA B hB) | (refine here ?_; refine sM ?_) | refine Both.mk ?_ ?_ | (refine hN _ ?_; try clear hN N; try clear hy ops) | (refine hA ?_; clear hA A hB B; try simp only [hz]) | (refine hB ?_; clear hA A hB B; try simp only [hz]) | (refine gG ?_ ?_ <;> (intro hz; have h := nm hz; try (exfalso; omega)) <;> (have hz := nz hz)) | ((first | rw [if_pos (show _ ∧ _ from ⟨by omega, by omega⟩)] | rw [if_pos (show _ ∧ _ from by simp only [List.length_append, List.length_cons, List.length_nil]; exact ⟨by omega, by omega⟩)]); refine sM ?_) | refine gT ?_ | (clear hN N))
    all_goals (apply And.right; refine hQ _ _ _ Desc.refl ?_ Wk.refl)
    · (first | (simp only [go_sem, reduceCtorEq, Nat.reduceAdd, Nat.reduceSub, Nat.reduceMul, Nat.reduceLT, Nat.reduceLeDiff, Int.reduceLT, Int.reduceLE, Int.reduceEq, Int.reduceNe, Int.reduceAdd, Int.reduceSub, Int.reduceMul, Int.reduceToNat, Int.reduceNeg, Int.reducePow, Nat.reducePow, Nat.reduceEqDiff, Nat.reduceBEq, Int.reduceBEq, Int.reduceBNe, Int.reduceNegSucc, Tryd.results100]; done) | (simp only [go_sem, reduceCtorEq, Nat.reduceAdd, Nat.reduceSub, Nat.reduceMul, Nat.reduceLT, Nat.reduceLeDiff, Int.reduceLT, Int.reduceLE, Int.reduceEq, Int.reduceNe, Int.reduceAdd, Int.reduceSub, Int.reduceMul, Int.reduceToNat, Int.reduceNeg, Int.reducePow, Nat.reducePow, Nat.reduceEqDiff, Nat.reduceBEq, Int.reduceBEq, Int.reduceBNe, Int.reduceNegSucc, Tryd.results100]; rfl) | rfl)
  | true =>
    have q0 : True := trivial
    refine Sp.of_bodyD Tryd.func100 rfl ?_
    intro Q hQ
    simp only [List.replicate, List.length_cons, List.length_nil, Tryd.ntmps100, Nat.reduceAdd, Nat.reduceSub, List.cons_append, List.nil_append, go_sem]
    have hz : True := trivial
    have hy := yieldedV_eq
    have hL := @q0
    repeat' (first | (refine WPV.seqK ?_; intro N hN) | refine gA ?_ | (refine gR (M := noM) ?_; intro N hN ops hy) | (refine gD (M := noM) ?_; intro N hN; have hy := yieldedV_eq) | (refine WPV.condK ?_; intro A hA B hB) | (refine here ?_; refine sM ?_) | refine Both.mk ?_ ?_ | (refine hN _ ?_; try clear hN N; try clear hy ops) | (refine hA ?_; clear hA A hB B; try simp only [hz]) | (refine hB ?_; clear hA A hB B; try simp only [hz]) | (refine gG ?_ ?_ <;> (intro hz; have h := nm hz; try (exfalso; omega)) <;> (have hz := nz hz)) | ((first | rw [if_pos (show _ ∧ _ from ⟨by omega, by omega⟩)] | rw [if_pos (show _ ∧ _ from by simp only [List.length_append, List.length_cons, List.length_nil]; exact ⟨by omega, by omega⟩)]); refine sM ?_) | refine gT ?_ | (clear hN N))
    apply And.right
    refine hQ _ _ ?_ Desc.refl ?_ ?_
    rotate_left
    · (first | (simp only [go_sem, reduceCtorEq, Nat.reduceAdd, Nat.reduceSub, Nat.reduceMul, Nat.reduceLT, Nat.reduceLeDiff, Int.reduceLT, Int.reduceLE, Int.reduceEq, Int.reduceNe, Int.reduceAdd, Int.reduceSub, Int.reduceMul, Int.reduceToNat, Int.reduceNeg, Int.reducePow, Nat.reducePow, Nat.reduceEqDiff, Nat.reduceBEq, Int.reduceBEq, Int.reduceBNe, Int.reduceNegSucc, Tryd.results100]; done) | (simp only [go_sem, reduceCtorEq, Nat.reduceAdd, Nat.reduceSub, Nat.reduceMul, Nat.reduceLT, Nat.reduceLeDiff, Int.reduceLT, Int.reduceLE, Int.reduceEq, Int.reduceNe, Int.reduceAdd, Int.reduceSub, Int.reduceMul, Int.reduceToNat, Int.reduceNeg, Int.reducePow, Nat.reducePow, Nat.reduceEqDiff, Nat.reduceBEq, Int.reduceBEq, Int.reduceBNe, Int.reduceNegSucc, Tryd.results100]; rfl) | rfl)
    · rw [odd_e]; exact Wk.refl
end
section
open Go Go.RowKit
set_option linter.unusedVariables false
set_option linter.unusedSimpArgs false
variable {K : Nat → Obj → Prop}
def fidx (p : Wr → Bool) : List Wr → Nat → Int
  | [], _ => -1
  | a :: l, k => if p a = true then (k : Int) else fidx p l (k + 1)
theorem fidx_any (p : Wr → Bool) : ∀ (l : List Wr) (k : Nat), decide (0 ≤ fidx p l k) = l.any p
  | [], k => by simp [fidx]
  | a :: l, k => by
    unfold fidx
    rw [List.any_cons]
    cases h : p a with
    | true => simp
    | false => simpa using fidx_any p l (k + 1)
set_option maxRecDepth 100000 in
set_option maxHeartbeats 2000000 in
theorem long_ix (l : List Wr) (hl : l.length ≤ 9223372036854775807) : Sp Tryd.prog K 132 [.sl 3 (wrl l), .fn 99 []] [] fun u hh => u = .sc (.int .i64 (fidx Wr.long l 0)) ∧ hh = [] := by
  have hlt : True := trivial
  have hget : True := trivial
  have hb : True := trivial
  have hw : True := trivial
  refine Sp.of_bodyD Tryd.func132 rfl ?_
  intro Q hQ
  simp only [List.replicate, List.length_cons, List.length_nil, Tryd.ntmps132, Nat.reduceAdd, Nat.reduceSub, List.cons_append, List.nil_append, go_sem]
  have hz : True := trivial
  have hy := yieldedV_eq
  have hL := And.intro @hlt (And.intro @hget (And.intro @hb (@hw)))
  repeat' (first | (refine WPV.seqK ?_; intro N hN) | refine gA ?_ | (refine gR (M := noM) ?_; intro N hN ops hy) | (refine gD (M := noM) ?_; intro N hN; have hy := yieldedV_eq) | (refine WPV.condK ?_; intro A hA B hB) | (refine here ?_; refine sM ?_) | refine Both.mk ?_ ?_ | ((with_reducible refine CallO.gd 99 ?_); refine CallO.toA Tryd.call99 (tlong_s _ _) ?_) | ((with_reducible refine CallP.gd 99 ?_); refine CallP.toA Tryd.call99 (tlong_s _ _) ?_) | (refine hN _ ?_; try clear hN N; try clear hy ops) | (refine hA ?_; clear hA A hB B; try simp only [hz]) | (refine hB ?_; clear hA A hB B; try simp only [hz]) | (refine gG ?_ ?_ <;> (intro hz; have h := nm hz; try (exfalso; omega)) <;> (have hz := nz hz)) | ((first | rw [if_pos (show _ ∧ _ from ⟨by omega, by omega⟩)] | rw [if_pos (show _ ∧ _ from by simp only [List.length_append, List.length_cons, List.length_nil]; exact ⟨by omega, by omega⟩)]); refine sM ?_) | refine gT ?_ | (clear hN N))
  refine WPV.desc (Desc.weakA (tm' := [.sl 3 (wrl l), .fn 99 [], .any, .any, .any, .any, .any, .sc (.int .i64 (l.length : Int)), .sc (.int .i64 0), .any, .any, .any, .any, .any, .any, .any, .any, .any, .any]) (h' := [])) ?_
  refine WPV.loopA (α := Nat) (fun k => l.length - k) (fun k => ⟨[.sl 3 (wrl l), .fn 99 [], .any, .any, .any, .any, .any, .sc (.int .i64 (l.length : Int)), .sc (.int .i64 ((k : Nat) : Int)), .any, .any, .any, .any, .any, .any, .any, .any, .any, .any], []⟩) (fun k => k ≤ l.length ∧ fidx Wr.long l 0 = fidx Wr.long (l.drop k) k) (fun k ⟨hk0, hJ⟩ H => ?_) 0 ⟨Nat.zero_le _, rfl⟩
  clear hlt hget hb hw
  by_cases h : k < l.length
  · have hlt : ((k : Int) < (l.length : Int)) = True := eq_true (by omega)
    have hget : l[k]? = some l[k] := List.getElem?_eq_getElem h
    have hw : IntKind.i64.wrap ((k : Int) + 1) = ((k + 1 : Nat) : Int) := by rw [wr_i64 (by omega) (by omega)]; rfl
    rw [List.drop_eq_getElem_cons h, fidx] at hJ
    generalize l[k] = a at hget hJ
    by_cases hb : a.long = true
    · rw [if_pos hb] at hJ
      rw [hJ] at hQ
      refine loopV ?_
      have hz : True := trivial
      have hy := yieldedV_eq
      have hL := And.intro @hlt (And.intro @hget (And.intro @hb (@hw)))
      repeat' (first | (refine WPV.seqK ?_; intro N hN) | refine gA ?_ | (refine gR (M := noM) ?_; intro N hN ops hy) | (refine gD (M := noM) ?_; intro N hN; have hy := yieldedV_eq) | (refine WPV.condK ?_; intro A hA B hB) | (refine here ?_; refine sM ?_) | refine Both.mk ?_ ?_ | ((with_reducible refine CallO.gd 99 ?_); refine CallO.toA Tryd.call99 (tlong_s _ _) ?_) | ((with_reducible refine CallP.gd 99 ?_); refine CallP.toA Tryd.call99 (tlong_s _ _) ?_) | (refine hN _ ?_; try clear hN N; try clear hy ops) | (refine hA ?_; clear hA A hB B; try simp only [hz]) | (refine hB ?_; clear hA A hB B; try simp only [hz]) | (refine gG ?_ ?_ <;> (intro hz; have h := nm hz; try (exfalso; omega)) <;> (have hz := nz hz)) | ((first | rw [if_pos (show _ ∧ _ from ⟨by omega, by omega⟩)] | rw [if_pos (show _ ∧ _ from by simp only [List.length_append, List.length_cons, List.length_nil]; exact ⟨by omega, by omega⟩)]); refine sM ?_) | refine gT ?_ | (clear hN N))
      all_goals (first | exact retA hQ Tryd.results132 (Desc.re [] rfl) | exact retN hQ Tryd.results132 (Desc.re [] rfl))
    · rw [if_neg hb] at hJ
      have hb : a.long = false := by simpa using hb
      have H' := H (k + 1) ⟨by omega, hJ⟩ (by omega)
      clear H
      refine loopV ?_
      have hz : True := trivial
      have hy := yieldedV_eq
      have hL := And.intro @hlt (And.intro @hget (And.intro @hb (@hw)))
      repeat' (first | (refine WPV.seqK ?_; intro N hN) | refine gA ?_ | (refine gR (M := noM) ?_; intro N hN ops hy) | (refine gD (M := noM) ?_; intro N hN; have hy := yieldedV_eq) | (refine WPV.condK ?_; intro A hA B hB) | (refine here ?_; refine sM ?_) | refine Both.mk ?_ ?_ | ((with_reducible refine CallO.gd 99 ?_); refine CallO.toA Tryd.call99 (tlong_s _ _) ?_) | ((with_reducible refine CallP.gd 99 ?_); refine CallP.toA Tryd.call99 (tlong_s _ _) ?_) | (refine hN _ ?_; try clear hN N; try clear hy ops) | (refine hA ?_; clear hA A hB B; try simp only [hz]) | (refine hB ?_; clear hA A hB B; try simp only [hz]) | (refine gG ?_ ?_ <;> (intro hz; have h := nm hz; try (exfalso; omega)) <;> (have hz := nz hz)) | ((first | rw [if_pos (show _ ∧ _ from ⟨by omega, by omega⟩)] | rw [if_pos (show _ ∧ _ from by simp only [List.length_append, List.length_cons, List.length_nil]; exact ⟨by omega, by omega⟩)]); refine sM ?_) | refine gT ?_ | (clear hN N))
      exact WPV.desc ((Desc.re [] rfl).trans Desc.weakA) H'
  · obtain rfl : k = l.length := by omega
    rw [List.drop_length, fidx] at hJ
    rw [hJ] at hQ
    have hlt : ((l.length : Int) < (l.length : Int)) = False := by simp
    have hget : True := trivial
    have hb : True := trivial
    have hw : True := trivial
    refine loopV ?_
    have hz : True := trivial
    have hy := yieldedV_eq
    have hL := And.intro @hlt (And.intro @hget (And.intro @hb (@hw)))
    repeat' (first | (refine WPV.seqK ?_; intro N hN) | refine gA ?_ | (refine gR (M := noM) ?_; intro N hN ops hy) | (refine gD (M := noM) ?_; intro N hN; have hy := yieldedV_eq) | (refine WPV.condK ?_; intro A hA B hB) | (refine here ?_; refine sM ?_) | refine Both.mk ?_ ?_ | ((with_reducible refine CallO.gd 99 ?_); refine CallO.toA Tryd.call99 (tlong_s _ _) ?_) | ((with_reducible refine CallP.gd 99 ?_); refine CallP.toA Tryd.call99 (tlong_s _ _) ?_) | (refine hN _ ?_; try clear hN N; try clear hy ops) | (refine hA ?_; clear hA A hB B; try simp only [hz]) | (refine hB ?_; clear hA A hB B; try simp only [hz]) | (refine gG ?_ ?_ <;> (intro hz; have h := nm hz; try (exfalso; omega)) <;> (have hz := nz hz)) | ((first | rw [if_pos (show _ ∧ _ from ⟨by omega, by omega⟩)] | rw [if_pos (show _ ∧ _ from by simp only [List.length_append, List.length_cons, List.length_nil]; exact ⟨by omega, by omega⟩)]); refine sM ?_) | refine gT ?_ | (clear hN N))
    all_goals (first | exact retA hQ Tryd.results132 (Desc.re [] rfl) | exact retN hQ Tryd.results132 (Desc.re [] rfl))
theorem fidx_long (l : List Wr) : decide (0 ≤ fidx Wr.long l 0) = l.any Wr.long := fidx_any _ l 0
set_option maxRecDepth 100000 in
theorem long_any (l : List Wr) (hl : l.length ≤ 9223372036854775807) : Sp Tryd.prog K 98 [.sl 3 (wrl l), .fn 99 []] [] fun u hh => u = .sc (.bool (l.any Wr.long)) ∧ hh = [] := by
  have hq : decide (0 ≤ fidx Wr.long l 0) = l.any Wr.long := fidx_long l
  refine Sp.of_bodyD Tryd.func98 rfl ?_
  intro Q hQ
  simp only [List.replicate, List.length_cons, List.length_nil, Tryd.ntmps98, Nat.reduceAdd, Nat.reduceSub, List.cons_append, List.nil_append, go_sem]
  have hz : True := trivial
  have hy := yieldedV_eq
  have hL := @hq
  repeat' (first | (refine WPV.seqK ?_; intro N hN) | refine gA ?_ | (refine gR (M := noM) ?_; intro N hN ops hy) | (refine gD (M := noM) ?_; intro N hN; have hy := yieldedV_eq) | (refine WPV.condK ?_; intro A hA B hB) | (refine here ?_; refine sM ?_) | refine Both.mk ?_ ?_ | ((with_reducible refine CallO.gd 132 ?_); refine CallO.frA [] Tryd.call132 (long_ix l hl) ?_) | (refine hN _ ?_; try clear hN N; try clear hy ops) | (refine hA ?_; clear hA A hB B; try simp only [hz]) | (refine hB ?_; clear hA A hB B; try simp only [hz]) | (refine gG ?_ ?_ <;> (intro hz; have h := nm hz; try (exfalso; omega)) <;> (have hz := nz hz)) | ((first | rw [if_pos (show _ ∧ _ from ⟨by omega, by omega⟩)] | rw [if_pos (show _ ∧ _ from by simp only [List.length_append, List.length_cons, List.length_nil]; exact ⟨by omega, by omega⟩)]); refine sM ?_) | refine gT ?_ | (clear hN N))
  all_goals (first | exact retA hQ Tryd.results98 (Desc.re [] rfl) | exact retN hQ Tryd.results98 (Desc.re [] rfl))
set_option maxRecDepth 100000 in
set_option maxHeartbeats 2000000 in
theorem odd_ix (l : List Wr) (hl : l.length ≤ 9223372036854775807) : Sp Tryd.prog K 132 [.sl 3 (wrl l), .fn 100 []] [] fun u hh => u = .sc (.int .i64 (fidx Wr.odd l 0)) ∧ hh = [] := by
  have hlt : True := trivial
  have hget : True := trivial
  have hb : True := trivial
  have hw : True := trivial
  refine Sp.of_bodyD Tryd.func132 rfl ?_
  intro Q hQ
  simp only [List.replicate, List.length_cons, List.length_nil, Tryd.ntmps132, Nat.reduceAdd, Nat.reduceSub, List.cons_append, List.nil_append, go_sem]
  have hz : True := trivial
  have hy := yieldedV_eq
  have hL := And.intro @hlt (And.intro @hget (And.intro @hb (@hw)))
  repeat' (first | (refine WPV.seqK ?_; intro N hN) | refine gA ?_ | (refine gR (M := noM) ?_; intro N hN ops hy) | (refine gD (M := noM) ?_; intro N hN; have hy := yieldedV_eq) | (refine WPV.condK ?_; intro A hA B hB) | (refine here ?_; refine sM ?_) | refine Both.mk ?_ ?_ | ((with_reducible refine CallO.gd 100 ?_); refine CallO.toA Tryd.call100 (todd_s _ _) ?_) | ((with_reducible refine CallP.gd 100 ?_); refine CallP.toA Tryd.call100 (todd_s _ _) ?_) | (refine hN _ ?_; try clear hN N; try clear hy ops) | (refine hA ?_; clear hA A hB B; try simp only [hz]) | (refine hB ?_; clear hA A hB B; try simp only [hz]) | (refine gG ?_ ?_ <;> (intro hz; have h := nm hz; try (exfalso; omega)) <;> (have hz := nz hz)) | ((first | rw [if_pos (show _ ∧ _ from ⟨by omega, by omega⟩)] | rw [if_pos (show _ ∧ _ from by simp only [List.length_append, List.length_cons, List.length_nil]; exact ⟨by omega, by omega⟩)]); refine sM ?_) | refine gT ?_ | (clear hN N))
  refine WPV.desc (Desc.weakA (tm' := [.sl 3 (wrl l), .fn 100 [], .any, .any, .any, .any, .any, .sc (.int .i64 (l.length : Int)), .sc (.int .i64 0), .any, .any, .any, .any, .any, .any, .any, .any, .any, .any]) (h' := [])) ?_
  refine WPV.loopA (α := Nat) (fun k => l.length - k) (fun k => ⟨[.sl 3 (wrl l), .fn 100 [], .any, .any, .any, .any, .any, .sc (.int .i64 (l.length : Int)), .sc (.int .i64 ((k : Nat) : Int)), .any, .any, .any, .any, .any, .any, .any, .any, .any, .any], []⟩) (fun k => k ≤ l.length ∧ fidx Wr.odd l 0 = fidx Wr.odd (l.drop k) k) (fun k ⟨hk0, hJ⟩ H => ?_) 0 ⟨Nat.zero_le _, rfl⟩
  clear hlt hget hb hw
  by_cases h : k < l.length
  · have hlt : ((k : Int) < (l.length : Int)) = True := eq_true (by omega)
    have hget : l[k]? = some l[k] := List.getElem?_eq_getElem h
    have hw : IntKind.i64.wrap ((k : Int) + 1) = ((k + 1 : Nat) : Int) := by rw [wr_i64 (by omega) (by omega)]; rfl
    rw [List.drop_eq_getElem_cons h, fidx] at hJ
    generalize l[k] = a at hget hJ
    by_cases hb : a.odd = true
    · rw [if_pos hb] at hJ
      rw [hJ] at hQ
      refine loopV ?_
      have hz : True := trivial
      have hy := yieldedV_eq
      have hL := And.intro @hlt (And.intro @hget (And.intro @hb (@hw)))
      repeat' (first | (refine WPV.seqK ?_; intro N hN) | refine gA ?_ | (refine gR (M := noM) ?_; intro N hN ops hy) | (refine gD (M := noM) ?_; intro N hN; have hy := yieldedV_eq) | (refine WPV.condK ?_; intro A hA B hB) | (refine here ?_; refine sM ?_) | refine Both.mk ?_ ?_ | ((with_reducible refine CallO.gd 100 ?_); refine CallO.toA Tryd.call100 (todd_s _ _) ?_) | ((with_reducible refine CallP.gd 100 ?_); refine CallP.toA Tryd.call100 (todd_s _ _) ?_) | (refine hN _ ?_; try clear hN N; try clear hy ops) | (refine hA ?_; clear hA A hB B; try simp only [hz]) | (refine hB ?_; clear hA A hB B; try simp only [hz]) | (refine gG ?_ ?_ <;> (intro hz; have h := nm hz; try (exfalso; omega)) <;> (have hz := nz hz)) | ((first | rw [if_pos (show _ ∧ _ from ⟨by omega, by omega⟩)] | rw [if_pos (show _ ∧ _ from by simp only [List.length_append, List.length_cons, List.length_nil]; exact ⟨by omega, by omega⟩)]); refine sM ?_) | refine gT ?_ | (clear hN N))
      all_goals (first | exact retA hQ Tryd.results132 (Desc.re [] rfl) | exact retN hQ Tryd.results132 (Desc.re [] rfl))
    · rw [if_neg hb] at hJ
      have hb : a.odd = false := by simpa using hb
      have H' := H (k + 1) ⟨by omega, hJ⟩ (by omega)
      clear H
      refine loopV ?_
      have hz : True := trivial
      have hy := yieldedV_eq
      have hL := And.intro @hlt (And.intro @hget (And.intro @hb (@hw)))
      repeat' (first | (refine WPV.seqK ?_; intro N hN) | refine gA ?_ | (refine gR (M := noM) ?_; intro N hN ops hy) | (refine gD (M := noM) ?_; intro N hN; have hy := yieldedV_eq) | (refine WPV.condK ?_; intro A hA B hB) | (refine here ?_; refine sM ?_) | refine Both.mk ?_ ?_ | ((with_reducible refine CallO.gd 100 ?_); refine CallO.toA Tryd.call100 (todd_s _ _) ?_) | ((with_reducible refine CallP.gd 100 ?_); refine CallP.toA Tryd.call100 (todd_s _ _) ?_) | (refine hN _ ?_; try clear hN N; try clear hy ops) | (refine hA ?_; clear hA A hB B; try simp only [hz]) | (refine hB ?_; clear hA A hB B; try simp only [hz]) | (refine gG ?_ ?_ <;> (intro hz; have h := nm hz; try (exfalso; omega)) <;> (have hz := nz hz)) | ((first | rw [if_pos (show _ ∧ _ from ⟨by omega, by omega⟩)] | rw [if_pos (show _ ∧ _ from by simp only [List.length_append, List.length_cons, List.length_nil]; exact ⟨by omega, by omega⟩)]); refine sM ?_) | refine gT ?_ | (clear hN N))
      exact WPV.desc ((Desc.re [] rfl).trans Desc.weakA) H'
  · obtain rfl : k = l.length := by omega
    rw [List.drop_length, fidx] at hJ
    rw [hJ] at hQ
    have hlt : ((l.length : Int) < (l.length : Int)) = False := by simp
    have hget : True := trivial
    have hb : True := trivial
    have hw : True := trivial
    refine loopV ?_
    have hz : True := trivial
    have hy := yieldedV_eq
    have hL := And.intro @hlt (And.intro @hget (And.intro @hb (@hw)))
    repeat' (first | (refine WPV.seqK ?_; intro N hN) | refine gA ?_ | (refine gR (M := noM) ?_; intro N hN ops hy) | (refine gD (M := noM) ?_; intro N hN; have hy := yieldedV_eq) | (refine WPV.condK ?_; intro A hA B hB) | (refine here ?_; refine sM ?_) | refine Both.mk ?_ ?_ | ((with_reducible refine CallO.gd 100 ?_); refine CallO.toA Tryd.call100 (todd_s _ _) ?_) | ((with_reducible refine CallP.gd 100 ?_); refine CallP.toA Tryd.call100 (todd_s _ _) ?_) | (refine hN _ ?_; try clear hN N; try clear hy ops) | (refine hA ?_; clear hA A hB B; try simp only [hz]) | (refine hB ?_; clear hA A hB B; try simp only [hz]) | (refine gG ?_ ?_ <;> (intro hz; have h := nm hz; try (exfalso; omega)) <;> (have hz := nz hz)) | ((first | rw [if_pos (show _ ∧ _ from ⟨by omega, by omega⟩)] | rw [if_pos (show _ ∧ _ from by simp only [List.length_append, List.length_cons, List.length_nil]; exact ⟨by omega, by omega⟩)]); refine sM ?_) | refine gT ?_ | (clear hN N))
    all_goals (first | exact retA hQ Tryd.results132 (Desc.re [] rfl) | exact retN hQ Tryd.results132 (Desc.re [] rfl))
theorem fidx_odd (l : List Wr) : decide (0 ≤ fidx Wr.odd l 0) = l.any Wr.odd := fidx_any _ l 0
set_option maxRecDepth 100000 in
theorem odd_any (l : List Wr) (hl : l.length ≤ 9223372036854775807) : Sp Tryd.prog K 98 [.sl 3 (wrl l), .fn 100 []] [] fun u hh => u = .sc (.bool (l.any Wr.odd)) ∧ hh = [] := by
  have hq : decide (0 ≤ fidx Wr.odd l 0) = l.any Wr.odd := fidx_odd l
  refine Sp.of_bodyD Tryd.func98 rfl ?_
  intro Q hQ
  simp only [List.replicate, List.length_cons, List.length_nil, Tryd.ntmps98, Nat.reduceAdd, Nat.reduceSub, List.cons_append, List.nil_append, go_sem]
  have hz : True := trivial
  have hy := yieldedV_eq
  have hL := @hq
  repeat' (first | (refine WPV.seqK ?_; intro N hN) | refine gA ?_ | (refine gR (M := noM) ?_; intro N hN ops hy) | (refine gD (M := noM) ?_; intro N hN; have hy := yieldedV_eq) | (refine WPV.condK ?_; intro A hA B hB) | (refine here ?_; refine sM ?_) | refine Both.mk ?_ ?_ | ((with_reducible refine CallO.gd 132 ?_); refine CallO.frA [] Tryd.call132 (odd_ix l hl) ?_) | (refine hN _ ?_; try clear hN N; try clear hy ops) | (refine hA ?_; clear hA A hB B; try simp only [hz]) | (refine hB ?_; clear hA A hB B; try simp only [hz]) | (refine gG ?_ ?_ <;> (intro hz; have h := nm hz; try (exfalso; omega)) <;> (have hz := nz hz)) | ((first | rw [if_pos (show _ ∧ _ from ⟨by omega, by omega⟩)] | rw [if_pos (show _ ∧ _ from by simp only [List.length_append, List.length_cons, List.length_nil]; exact ⟨by omega, by omega⟩)]); refine sM ?_) | refine gT ?_ | (clear hN N))
  all_goals (first | exact retA hQ Tryd.results98 (Desc.re [] rfl) | exact retN hQ Tryd.results98 (Desc.re [] rfl))
end
end Go.Proofs.YtgfnpcmehnjopaaDoor
end
section
namespace Go.Proofs.YtgfnpcmehnjopaaDoor
open Go Go.RowKit
set_option linter.unusedVariables false
set_option linter.unusedSimpArgs false
variable {K : Nat → Obj → Prop}
structure Tx where
  o : Int
  s : Int
  c : Clk
  w : List Wr
abbrev txV (t : Tx) : V := .agg [.sc (.int .i64 t.o), .sc (.int .i64 t.s), .sc (.int .i64 t.c.x), .sc (.int .i64 t.c.y), .sc (.int .i64 t.c.z), .sl 3 (wrl t.w)]
def Clk.at_ (c : Clk) (o : Int) : Int := if o = 0 then c.x else if o = 1 then c.y else c.z
def checkF (t : Tx) : Int :=
  if t.o < 0 ∨ 2 < t.o then 9 else if t.s < 1 ∨ 4611686018427387903 < t.s ∨ rightF t.c = false then 1 else if t.c.at_ t.o ≠ t.s - 1 then 11
  else if 16 < t.w.length ∨ t.w.any Wr.long = true then 4 else if t.w.any Wr.odd = true then 3 else 0
theorem at_get2 (c : Clk) (o : Int) (a b : V) (l : List V) (h : 0 ≤ o ∧ o ≤ 2) : (a :: b :: V.sc (.int .i64 c.x) :: V.sc (.int .i64 c.y) :: V.sc (.int .i64 c.z) :: l)[2 + o.toNat]? = some (V.sc (.int .i64 (c.at_ o))) := by
  obtain rfl | rfl | rfl : o = 0 ∨ o = 1 ∨ o = 2 := by omega
  all_goals rfl
theorem check_tail {o s : Int} {c : Clk} {w : List Wr} (h1 : ¬ (o < 0 ∨ 2 < o)) (h2 : ¬ (s < 1 ∨ 4611686018427387903 < s)) (hr : rightF c = true) {d : Int} (hd : c.at_ o = d) :
    checkF ⟨o, s, c, w⟩ = if d ≠ s - 1 then 11 else if 16 < w.length then 4 else if w.any Wr.long = true then 4 else if w.any Wr.odd = true then 3 else 0 := by
  unfold checkF
  rw [if_neg h1, if_neg (by rw [hr]; simp; omega)]
  dsimp only
  rw [hd]
  by_cases h3 : d ≠ s - 1
  · rw [if_pos h3, if_pos h3]
  · rw [if_neg h3, if_neg h3]
    by_cases h4 : 16 < w.length
    · rw [if_pos (.inl h4), if_pos h4]
    · rw [if_neg h4]
      by_cases h5 : w.any Wr.long = true
      · rw [if_pos (.inr h5), if_pos h5]
      · rw [if_neg h5, if_neg (by simp [h5]; omega)]
theorem at_bd {c : Clk} {o d : Int} (hr : rightF c = true) (hd : c.at_ o = d) : 0 ≤ d ∧ d ≤ 4611686018427387903 := by
  obtain ⟨⟨a, b⟩, ⟨e, f⟩, g, h⟩ := right_bounds hr
  subst hd
  unfold Clk.at_
  split
  · omega
  · split <;> omega
set_option maxRecDepth 100000 in
set_option maxHeartbeats 4000000 in
theorem tcheck_s (t : Tx) (hl : t.w.length ≤ 9223372036854775807) : Sp Tryd.prog K 66 [txV t] [] fun u hh => u = .sc (.int .i64 (checkF t)) ∧ hh = [] := by
  obtain ⟨o, s, c, w⟩ := t
  have c1 := cright_s (K := K) c []
  have c2 := long_any (K := K) w hl
  have c3 := odd_any (K := K) w hl
  have hx0 := at_get2 c o (.sc (.int .i64 o)) (.sc (.int .i64 s)) [.sl 3 (wrl w)]
  obtain ⟨x, y, z⟩ := c
  dsimp only [clkV] at c1 hx0
  by_cases h1 : o < 0 ∨ 2 < o
  · have e : checkF ⟨o, s, ⟨x, y, z⟩, w⟩ = 9 := by unfold checkF; rw [if_pos h1]
    rw [e]
    have hx := True.intro
    refine Sp.of_bodyE Tryd.func66 rfl ?_
    intro Q hQ
    simp only [List.replicate, List.length_cons, List.length_nil, Tryd.ntmps66, Nat.reduceAdd, Nat.reduceSub, List.cons_append, List.nil_append, go_sem]
    have hz : True := trivial
    have hy := yieldedV_eq
    have hL := @hx
    repeat' (first | (refine WPV.seqK ?_; intro N hN) | refine gA ?_ | (refine gR (M := noM) ?_; intro N hN ops hy) | (refine gD (M := noM) ?_; intro N hN; have hy := yieldedV_eq) | (refine WPV.condK ?_; intro A hA B hB) | (refine here ?_; refine sS ?_) | refine Both.mk ?_ ?_ | ((with_reducible refine CallO.gd 53 ?_); refine CallO.frB [] Tryd.call53 (c1) ?_) | ((with_reducible refine CallO.gd 98 ?_); first | refine CallO.frB [] Tryd.call98 (c2) ?_ | refine CallO.frB [] Tryd.call98 (c3) ?_) | (refine hN _ ?_; try clear hN N; try clear hy ops) | (refine hA ?_; clear hA A hB B; try simp only [hz]) | (refine hB ?_; clear hA A hB B; try simp only [hz]) | (refine gG ?_ ?_ <;> (intro hz; have h := nm hz; try (exfalso; omega)) <;> (have hz := nz hz; try subst hz)) | (rw [if_pos (show _ ∧ _ from ⟨by omega, by omega⟩)]; refine sS ?_) | refine gT ?_ | (clear hN N))
    all_goals (first | exact retZ hQ Tryd.results66 (Desc.re [] rfl) | exact retZN hQ Tryd.results66 (Desc.re [] rfl))
  have hx := hx0 (by omega)
  by_cases h2 : s < 1 ∨ 4611686018427387903 < s ∨ rightF ⟨x, y, z⟩ = false
  · have e : checkF ⟨o, s, ⟨x, y, z⟩, w⟩ = 1 := by unfold checkF; rw [if_neg h1, if_pos h2]
    rw [e]
    cases hr : rightF ⟨x, y, z⟩ with
    | true =>
      rw [hr] at c1 h2
      have h2 : s < 1 ∨ 4611686018427387903 < s := by simpa using h2
      refine Sp.of_bodyE Tryd.func66 rfl ?_
      intro Q hQ
      simp only [List.replicate, List.length_cons, List.length_nil, Tryd.ntmps66, Nat.reduceAdd, Nat.reduceSub, List.cons_append, List.nil_append, go_sem]
      have hz : True := trivial
      have hy := yieldedV_eq
      have hL := @hx
      repeat' (first | (refine WPV.seqK ?_; intro N hN) | refine gA ?_ | (refine gR (M := noM) ?_; intro N hN ops hy) | (refine gD (M := noM) ?_; intro N hN; have hy := yieldedV_eq) | (refine WPV.condK ?_; intro A hA B hB) | (refine here ?_; refine sS ?_) | refine Both.mk ?_ ?_ | ((with_reducible refine CallO.gd 53 ?_); refine CallO.frB [] Tryd.call53 (c1) ?_) | ((with_reducible refine CallO.gd 98 ?_); first | refine CallO.frB [] Tryd.call98 (c2) ?_ | refine CallO.frB [] Tryd.call98 (c3) ?_) | (refine hN _ ?_; try clear hN N; try clear hy ops) | (refine hA ?_; clear hA A hB B; try simp only [hz]) | (refine hB ?_; clear hA A hB B; try simp only [hz]) | (refine gG ?_ ?_ <;> (intro hz; have h := nm hz; try (exfalso; omega)) <;> (have hz := nz hz; try subst hz)) | (rw [if_pos (show _ ∧ _ from ⟨by omega, by omega⟩)]; refine sS ?_) | refine gT ?_ | (clear hN N))
      all_goals (first | exact retZ hQ Tryd.results66 (Desc.re [] rfl) | exact retZN hQ Tryd.results66 (Desc.re [] rfl))
    | false =>
      rw [hr] at c1
      clear h2
      refine Sp.of_bodyE Tryd.func66 rfl ?_
      intro Q hQ
      simp only [List.replicate, List.length_cons, List.length_nil, Tryd.ntmps66, Nat.reduceAdd, Nat.reduceSub, List.cons_append, List.nil_append, go_sem]
      have hz : True := trivial
      have hy := yieldedV_eq
      have hL := @hx
      repeat' (first | (refine WPV.seqK ?_; intro N hN) | refine gA ?_ | (refine gR (M := noM) ?_; intro N hN ops hy) | (refine gD (M := noM) ?_; intro N hN; have hy := yieldedV_eq) | (refine WPV.condK ?_; intro A hA B hB) | (refine here ?_; refine sS ?_) | refine Both.mk ?_ ?_ | ((with_reducible refine CallO.gd 53 ?_); refine CallO.frB [] Tryd.call53 (c1) ?_) | ((with_reducible refine CallO.gd 98 ?_); first | refine CallO.frB [] Tryd.call98 (c2) ?_ | refine CallO.frB [] Tryd.call98 (c3) ?_) | (refine hN _ ?_; try clear hN N; try clear hy ops) | (refine hA ?_; clear hA A hB B; try simp only [hz]) | (refine hB ?_; clear hA A hB B; try simp only [hz]) | (refine gG ?_ ?_ <;> (intro hz; have h := nm hz; try (exfalso; omega)) <;> (have hz := nz hz; try subst hz)) | (rw [if_pos (show _ ∧ _ from ⟨by omega, by omega⟩)]; refine sS ?_) | refine gT ?_ | (clear hN N))
      all_goals (first | exact retZ hQ Tryd.results66 (Desc.re [] rfl) | exact retZN hQ Tryd.results66 (Desc.re [] rfl))
  have hr : rightF ⟨x, y, z⟩ = true := by
    cases h : rightF ⟨x, y, z⟩
    · exact absurd (.inr (.inr h)) h2
    · rfl
  have h2 : ¬ (s < 1 ∨ 4611686018427387903 < s) := fun h => h2 (by rcases h with h | h <;> simp [h])
  obtain ⟨d, hd⟩ : ∃ d, Clk.at_ ⟨x, y, z⟩ o = d := ⟨_, rfl⟩
  rw [check_tail h1 h2 hr hd]
  rw [hr] at c1
  rw [hd] at hx
  have hdb := at_bd hr hd
  generalize w.any Wr.long = a at *
  generalize w.any Wr.odd = b at *
  clear hx0
  refine Sp.of_bodyE Tryd.func66 rfl ?_
  intro Q hQ
  simp only [List.replicate, List.length_cons, List.length_nil, Tryd.ntmps66, Nat.reduceAdd, Nat.reduceSub, List.cons_append, List.nil_append, go_sem]
  have hz : True := trivial
  have hy := yieldedV_eq
  have hL := @hx
  repeat' (first | (refine WPV.seqK ?_; intro N hN) | refine gA ?_ | (refine gR (M := noM) ?_; intro N hN ops hy) | (refine gD (M := noM) ?_; intro N hN; have hy := yieldedV_eq) | (refine WPV.condK ?_; intro A hA B hB) | (refine here ?_; refine sS ?_) | refine Both.mk ?_ ?_ | ((with_reducible refine CallO.gd 53 ?_); refine CallO.frB [] Tryd.call53 (c1) ?_) | ((with_reducible refine CallO.gd 98 ?_); first | refine CallO.frB [] Tryd.call98 (c2) ?_ | refine CallO.frB [] Tryd.call98 (c3) ?_) | (refine hN _ ?_; try clear hN N; try clear hy ops) | (refine hA ?_; clear hA A hB B; try simp only [hz]) | (refine hB ?_; clear hA A hB B; try simp only [hz]) | (refine gG ?_ ?_ <;> (intro hz; have h := nm hz; try (exfalso; omega)) <;> (have hz := nz hz; try subst hz)) | (rw [if_pos (show _ ∧ _ from ⟨by omega, by omega⟩)]; refine sS ?_) | refine gT ?_ | (clear hN N))
  all_goals (first | exact retZ hQ Tryd.results66 (Desc.re [] rfl) | exact retZN hQ Tryd.results66 (Desc.re [] rfl))
end Go.Proofs.YtgfnpcmehnjopaaDoor
end
section
namespace Go.Proofs.YtgfnpcmehnjopaaDoor
open Go Go.RowKit
set_option linter.unusedVariables false
set_option linter.unusedSimpArgs false
variable {F : Fr} {P : Program} {M : Oper → TypeId → Bool} {K : Nat → Obj → Prop} {n0 : Nat}
abbrev Runner := FuncId → List V → List Ho → Option (V × List Ho)
def Right (P : Program) (K : Nat → Obj → Prop) (call : Runner) : Prop :=
  ∀ f vs h v h', call f vs h = some (v, h') → Enters P f ∧ Sp P K f vs h fun u hh => u = v ∧ hh = h'
def xRes (call : Runner) (st : Sv) (dst : Option Tmp) : Res → Option Sv
  | .val v h' => some ⟨putV st.tm dst v, trimY h'⟩
  | .call f vs => match call f vs st.h with
    | some (v, h') => some ⟨putV st.tm dst v, h'⟩
    | none => none
  | .no => none
def xOps (P : Program) (M : Oper → TypeId → Bool) (call : Runner) (ops : Array Oper) : List Oper → Sv → Option Sv
  | [], st => some st
  | o :: l, st => match wantedV ops st.tm o with
    | some true => match xRes call st o.dst (opV P (M o) st.tm (st.h ++ [.yet]) st.h.length o) with
      | some st' => xOps P M call ops l st'
      | none => none
    | some false => xOps P M call ops l ⟨putV st.tm o.dst .undef, st.h⟩
    | none => none
mutual
def refsV (p : Nat → Bool) : V → Bool
  | .d _ => true
  | .agg cs => refsL p cs
  | .tup cs => refsL p cs
  | .own _ _ t => p t
  | .full _ _ => true
  | .ptr o _ => p o
  | .ep _ _ => true
  | .hs _ _ o _ _ => p o
  | .mp o => p o
  | .fn _ cs => refsL p cs
  | .fnb _ cs => refsL p cs
  | .any => true
  | .ub => true
def refsL (p : Nat → Bool) : List V → Bool
  | [] => true
  | v :: vs => refsV p v && refsL p vs
end
def refsO (p : Nat → Bool) : Ho → Bool
  | .cells cs => refsL p cs
  | .map m => m.es.all fun e => refsV p e.val
  | _ => true
mutual
theorem renV_back {g k : Nat → Nat} {p : Nat → Bool} (h : ∀ i, p i = true → g (k i) = i) : ∀ v : V, refsV p v = true → renV g (renV k v) = v
  | .d x, _ => rfl
  | .agg cs, hp => by simp only [refsV] at hp; simp only [renV]; rw [renL_back h cs hp]
  | .tup cs, hp => by simp only [refsV] at hp; simp only [renV]; rw [renL_back h cs hp]
  | .own _ _ t, hp => by simp only [refsV] at hp; simp only [renV]; rw [h t hp]
  | .full _ _, _ => rfl
  | .ptr o _, hp => by simp only [refsV] at hp; simp only [renV]; rw [h o hp]
  | .ep _ _, _ => rfl
  | .hs _ _ o _ _, hp => by simp only [refsV] at hp; simp only [renV]; rw [h o hp]
  | .mp o, hp => by simp only [refsV] at hp; simp only [renV]; rw [h o hp]
  | .fn _ cs, hp => by simp only [refsV] at hp; simp only [renV]; rw [renL_back h cs hp]
  | .fnb _ cs, hp => by simp only [refsV] at hp; simp only [renV]; rw [renL_back h cs hp]
  | .any, _ => rfl
  | .ub, _ => rfl
theorem renL_back {g k : Nat → Nat} {p : Nat → Bool} (h : ∀ i, p i = true → g (k i) = i) : ∀ l : List V, refsL p l = true → renL g (renL k l) = l
  | [], _ => rfl
  | v :: vs, hp => by
    simp only [refsL, Bool.and_eq_true] at hp
    simp only [renL]
    rw [renV_back h v hp.1, renL_back h vs hp.2]
end
mutual
def nosV : V → List Nat
  | .agg cs => nosL cs
  | .tup cs => nosL cs
  | .own _ _ t => [t]
  | .ptr o _ => [o]
  | .hs _ _ o _ _ => [o]
  | .mp o => [o]
  | .fn _ cs => nosL cs
  | .fnb _ cs => nosL cs
  | _ => []
def nosL : List V → List Nat
  | [] => []
  | v :: vs => nosV v ++ nosL vs
end
def nosO : Ho → List Nat
  | .cells cs => nosL cs
  | .map m => nosL (m.es.map (·.val))
  | _ => []
def reach (h : List Ho) : Nat → List Nat → List Nat → List Nat
  | 0, _, acc => acc
  | k + 1, [], acc => acc
  | k + 1, i :: l, acc => if acc.contains i then reach h k l acc else match h[i]? with
    | some o => reach h k (nosO o ++ l) (acc ++ [i])
    | none => reach h k l acc
def idxOf (ρ : List Nat) (i : Nat) : Nat := ρ.idxOf i
def handed (ρ : List Nat) (vs : List V) (h : List Ho) : Option (List V × List Ho) :=
  match pickH h ρ with
  | some os => if decide ρ.Nodup && (refsL ρ.contains vs && os.all (refsO ρ.contains)) then some (renL ρ.idxOf vs, os.map (renO ρ.idxOf)) else none
  | none => none
def xDraw (P : Program) (M : Oper → TypeId → Bool) (call : Runner) (ops : Array Oper) : List Oper → List V → List Ho → List (List Nat × List Nat) → Option Sv
  | [], tm, h, ids => match okOrd ops ids.reverse with
    | true => some ⟨tm, h⟩
    | false => none
  | o :: l, tm, h, ids => match wantedV ops tm o with
    | none => none
    | some false => xDraw P M call ops l (putV tm o.dst .undef) h (([], []) :: ids)
    | some true => match opL P (M o) tm o with
      | .pure v => xDraw P M call ops l (putV tm o.dst v) h (([], []) :: ids)
      | .read i k => match (h[i]?).bind k with
        | some v => xDraw P M call ops l (putV tm o.dst v) h (([i], []) :: ids)
        | none => none
      | .write i k => match (h[i]?).bind k with
        | some (v, ob) => xDraw P M call ops l (putV tm o.dst v) (h.set i ob) (([i], [i]) :: ids)
        | none => none
      | .new v ob => xDraw P M call ops l (putV tm o.dst (v h.length)) (h ++ [ob]) (([h.length], [h.length]) :: ids)
      | .app t v => match h[t]? with
        | some .tail => xDraw P M call ops l (putV tm o.dst (v h.length)) (((h ++ [Ho.yet]).set t .dead).set h.length .tail) (([t, h.length], [t, h.length]) :: ids)
        | _ => none
      | .call f vs => match handed (reach h 1000 (nosL vs) []) vs h with
        | some (vs', hl) => match call f vs' hl with
          | some (v, hl') =>
            if (reach h 1000 (nosL vs) []).length ≤ hl'.length ∧ decide (reach h 1000 (nosL vs) [] ++ frs h.length (hl'.length - (reach h 1000 (nosL vs) []).length)).Nodup = true then
              xDraw P M call ops l (putV tm o.dst (renV (gB (reach h 1000 (nosL vs) [] ++ frs h.length (hl'.length - (reach h 1000 (nosL vs) []).length)) 0) v))
                (wrs (padY h (hl'.length - (reach h 1000 (nosL vs) []).length)) ((reach h 1000 (nosL vs) [] ++ frs h.length (hl'.length - (reach h 1000 (nosL vs) []).length)).zip (hl'.map (renO (gB (reach h 1000 (nosL vs) [] ++ frs h.length (hl'.length - (reach h 1000 (nosL vs) []).length)) 0)))))
                ((reach h 1000 (nosL vs) [] ++ frs h.length (hl'.length - (reach h 1000 (nosL vs) []).length), ((reach h 1000 (nosL vs) [] ++ frs h.length (hl'.length - (reach h 1000 (nosL vs) []).length)).zip (hl'.map (renO (gB (reach h 1000 (nosL vs) [] ++ frs h.length (hl'.length - (reach h 1000 (nosL vs) []).length)) 0)))).map (·.1)) :: ids)
            else none
          | none => none
        | none => none
      | .no => none
def cvM (M : Oper → TypeId → Bool) (ops : Array Oper) : Oper → TypeId → Bool := fun o t => M o t || match o.op, o.dst with
  | .buildSlice _ _ _, some d => ops.any fun o' => match o'.op with
    | .convert s s' (.tmp d') => s == t && s' == t && d' == d
    | _ => false
  | _, _ => false
def xCode (P : Program) (M : Oper → TypeId → Bool) (call : Runner) : Nat → Code → Sv → Option (Exit × Sv)
  | 0, _, _ => none
  | n + 1, .skip, st => some (.normal, st)
  | n + 1, .label _, st => some (.normal, st)
  | n + 1, .exit id, st => some (.exit id, st)
  | n + 1, .ret, st => some (.ret, st)
  | n + 1, .scope x, st => xCode P M call n x st
  | n + 1, .block id x, st => match xCode P M call n x st with
    | some (.exit id', st') => if id' = id then some (.normal, st') else some (.exit id', st')
    | r => r
  | n + 1, .seq x y, st => match xCode P M call n x st with
    | some (.normal, st') => xCode P M call n y st'
    | r => r
  | n + 1, .cond c x y, st => match evV st.tm c with
    | some (.d (.sc (.bool true))) => xCode P M call n x st
    | some (.d (.sc (.bool false))) => xCode P M call n y st
    | _ => none
  | n + 1, .loop x, st => match xCode P M call n x st with
    | some (.normal, st') => xCode P M call n (.loop x) st'
    | r => r
  | n + 1, .region _ ops false, st => match xOps P (cvM M ops) call ops ops.toList st with
    | some st' => some (.normal, st')
    | none => none
  | n + 1, .region _ ops true, st => match okR ops, P.follows .mixedOrders, xDraw P (cvM M ops) call ops ops.toList st.tm st.h [] with
    | true, true, some st' => some (.normal, st')
    | _, _, _ => none
  | _, _, _ => none
def noX : Runner := fun _ _ _ => none
def xFun (P : Program) (M : Oper → TypeId → Bool) (X : Runner) : Nat → Runner
  | 0, _, _, _ => none
  | n + 1, f, vs, h => match X f vs h with
    | some r => some r
    | none => match P.funcs[f]? with
    | some fn => match fn.body with
      | some c => match xCode P M (xFun P M X n) 100000 c ⟨vs ++ List.replicate (fn.ntmps - vs.length) .undef, h⟩ with
        | some (.normal, st) => match resultV P st fn.results.toList with
          | some v => some (v, st.h)
          | none => none
        | some (.ret, st) => match resultV P st fn.results.toList with
          | some v => some (v, st.h)
          | none => none
        | _ => none
      | none => none
    | none => none
def xTrue (P : Program) (M : Oper → TypeId → Bool) (X : Runner) (n : Nat) (f : FuncId) : Bool := match xFun P M X n f [] [] with
  | some (.d (.sc (.bool true)), _) => true
  | _ => false
end Go.Proofs.YtgfnpcmehnjopaaDoor
end
section
namespace Go.Proofs.YtgfnpcmehnjopaaDoor
open Go Go.RowKit
set_option linter.unusedVariables false
set_option linter.unusedSimpArgs false
variable {P : Program} {K : Nat → Obj → Prop}
def KT (K : Nat → Obj → Prop) : Prop := ∃ (arr : Array Value) (T : TypeId) (fr : Nat × Nat), K 1 (.cells arr T fr) ∧ ∀ i : UInt32, i.toNat < 16 → arr[(U i).toNat]? = some (.int .u32 (U (four i)))
def Knw (K : Nat → Obj → Prop) (w : World) : Prop := ∀ b x, K b x → w.heap[b]? = some x
theorem KT.tab {w : World} (h : KT K) (hk : Knw K w) : Tab w := fun i hi => by
  obtain ⟨arr, T, fr, h1, h2⟩ := h
  exact (cell_of w _ _ _).2 ⟨arr, T, fr, hk _ _ h1, h2 i hi⟩
theorem Inv.knw {F : Fr} {φ : List Pl} {w : World} {h : List Ho} (hi : Inv F φ w h) (hK : F.known = K) : Knw K w := fun b x hx => (hi.frK b x (by rw [hK]; exact hx)).1
theorem Sp.ofVK {f : FuncId} {vs : List V} {h : List Ho} {r : Value} {v : V} (hv : ∀ (F : Fr) (φ : List Pl) (w : World), Den F φ w r v)
    (hc : ∀ (F : Fr) (φ : List Pl) (w : World) (args : Array Value), Knw K w → DenL F φ w args.toList vs → Calls P f args w (RetV w r)) : Sp P K f vs h fun u hh => u = v ∧ hh = h := by
  intro F φ w args hK hi hd
  refine (hc F φ w args (hi.knw hK) hd).mono ?_
  rintro e w' ⟨rfl, bel⟩
  exact ⟨r, φ, v, h, rfl, .more bel.size (fun b hb => bel.block b hb) (io_below bel), hi.more bel.size (fun b hb => bel.block b hb) (io_below bel), hv F φ w', rfl, rfl⟩
theorem Sp.ofBK {f : FuncId} {vs : List V} {h : List Ho} {l : List UInt8}
    (hc : ∀ (F : Fr) (φ : List Pl) (w : World) (args : Array Value), Knw K w → DenL F φ w args.toList vs → Calls P f args w (RetB w l)) : Sp P K f vs h fun u hh => u = .sl 1 (bs l) ∧ hh = h := by
  intro F φ w args hK hi hd
  refine (hc F φ w args (hi.knw hK) hd).mono ?_
  rintro e w' ⟨u, rfl, ho, bel⟩
  exact ⟨_, φ, _, h, rfl, .more bel.size (fun b hb => bel.block b hb) (io_below bel), hi.more bel.size (fun b hb => bel.block b hb) (io_below bel), .d (Den.ofOwn hi bel.size ho), rfl, rfl⟩
theorem Sp.ofBEK {f : FuncId} {vs : List V} {h : List Ho} {l : List UInt8} {n : Int}
    (hc : ∀ (F : Fr) (φ : List Pl) (w : World) (args : Array Value), Knw K w → DenL F φ w args.toList vs → Calls P f args w (RetBE w l n)) : Sp P K f vs h fun u hh => u = .tup [.sl 1 (bs l), .sc (.int .i64 n)] ∧ hh = h := by
  intro F φ w args hK hi hd
  refine (hc F φ w args (hi.knw hK) hd).mono ?_
  rintro e w' ⟨u, rfl, ho, bel⟩
  refine ⟨_, φ, _, h, rfl, .more bel.size (fun b hb => bel.block b hb) (io_below bel), hi.more bel.size (fun b hb => bel.block b hb) (io_below bel), ?_, rfl, rfl⟩
  refine .tup rfl fun i r v hr hv => ?_
  match i, hr, hv with
  | 0, hr, hv => simp at hr hv; subst hr hv; exact .d (Den.ofOwn hi bel.size ho)
  | 1, hr, hv => simp at hr hv; subst hr hv; exact .d (.sc rfl)
theorem bclone_s (l : List UInt8) (hl : l.length ≤ 1000000000) (h : List Ho) : Sp Tryd.prog K 75 [.sl 1 (bs l)] h fun u hh => u = .sl 1 (bs l) ∧ hh = h :=
  .ofB fun F φ w args hd => by
    obtain ⟨r, rfl, h1⟩ := args1 hd
    exact clone_c r l w (den_in h1).sb (by omega)
theorem seal_s (hK : KT K) (l : List UInt8) (hl : l.length ≤ 1000000000) (h : List Ho) : Sp Tryd.prog K 36 [.sl 1 (bs l)] h fun u hh => u = .sl 1 (bs (sealF l)) ∧ hh = h :=
  .ofBK fun F φ w args hk hd => by
    obtain ⟨r, rfl, h1⟩ := args1 hd
    exact seal_c r l w (hK.tab hk) (den_in h1).sb hl
theorem open_s (hK : KT K) (l : List UInt8) (hl : l.length ≤ 1000000000) (h : List Ho) : Sp Tryd.prog K 76 [.sl 1 (bs l)] h fun u hh => u = .tup [.sl 1 (bs (openF l).1), .sc (.int .i64 (openF l).2)] ∧ hh = h :=
  .ofBEK fun F φ w args hk hd => by
    obtain ⟨r, rfl, h1⟩ := args1 hd
    exact open_c r l w (hK.tab hk) (den_in h1).sb hl
theorem sealF_len (l : List UInt8) : (sealF l).length = l.length + 4 := by simp [sealF, tail4]
theorem Wk.toD {v : V} {x : D} {vs vs' : List V} (e : toD v = some x) (h : Wk vs vs') : Wk (v :: vs) (.d x :: vs') := by
  cases v <;> simp only [Proofs.YtgfnpcmehnjopaaDoor.toD, Option.some.injEq, reduceCtorEq] at e
  · subst e; exact .same h
  · subst e; exact .own h
  · subst e; exact .full h
def bytesV (v : V) : Option (List UInt8) := match toD v with
  | some (.sl 1 es) => unbs es
  | _ => none
def crcX : Runner := fun f vs h =>
  if f = 41 then match vs with
    | [v, .d (.sc (.int .i64 a)), .d (.sc (.int .u32 m))] => match bytesV v with
      | some l => if l.length ≤ 1000000000 ∧ -9223372036854775808 ≤ a ∧ a ≤ 9223372036854775807 ∧ U (UInt32.ofNat m.toNat) = m then some (.sl 1 (bs (turnF a (UInt32.ofNat m.toNat) l)), h) else none
      | none => none
    | _ => none
  else if f = 36 then match vs with
    | [v] => match bytesV v with
      | some l => if l.length ≤ 1000000000 then some (.sl 1 (bs (sealF l)), h) else none
      | none => none
    | _ => none
  else if f = 76 then match vs with
    | [v] => match bytesV v with
      | some l => if l.length ≤ 1000000000 then some (.tup [.sl 1 (bs (openF l).1), .sc (.int .i64 (openF l).2)], h) else none
      | none => none
    | _ => none
  else none
end Go.Proofs.YtgfnpcmehnjopaaDoor
end
section
namespace Go.Proofs.YtgfnpcmehnjopaaDoor
open Go Go.RowKit
set_option linter.unusedVariables false
set_option linter.unusedSimpArgs false
def rs (l : List (List UInt8)) : List (List D) := l.map fun p => [.sl 1 (bs p)]
theorem rs_len (l : List (List UInt8)) : (rs l).length = l.length := by simp [rs]
theorem rs_get (l : List (List UInt8)) (i : Nat) : (rs l)[i]? = (l[i]?).map fun p => [.sl 1 (bs p)] := by simp [rs]
theorem rs_snoc (l : List (List UInt8)) (p : List UInt8) : rs l ++ [[.sl 1 (bs p)]] = rs (l ++ [p]) := by simp [rs]
theorem rs_take (l : List (List UInt8)) (n : Nat) : (rs l).take n = rs (l.take n) := by simp [rs]
theorem rs_drop (l : List (List UInt8)) (n : Nat) : (rs l).drop n = rs (l.drop n) := by simp [rs]
attribute [go_sem] rs_len rs_get rs_snoc rs_take rs_drop
def wrapF (p : List UInt8) : List UInt8 × Int := if 8192 < p.length then ([], 4) else (sealF (vput p.length ++ p), 0)
def nextF (b : List UInt8) : List UInt8 × Nat × Int :=
  if (tk b).2.2 ≠ 0 then ([], 0, (tk b).2.2) else if 8192 < (tk b).1.toNat then ([], 0, 4)
  else if b.length < (tk b).2.1 + (tk b).1.toNat + 4 then ([], 0, 2)
  else if (openF (b.take ((tk b).2.1 + (tk b).1.toNat + 4))).2 ≠ 0 then ([], 0, (openF (b.take ((tk b).2.1 + (tk b).1.toNat + 4))).2)
  else ((openF (b.take ((tk b).2.1 + (tk b).1.toNat + 4))).1.drop (tk b).2.1, (tk b).2.1 + (tk b).1.toNat + 4, 0)
def scanN (b : List UInt8) : Nat → List (List UInt8) → Nat → List (List UInt8) × Nat × Int
  | 0, out, used => (out, used, 0)
  | k + 1, out, used => if used = b.length then (out, used, 0) else if (nextF (b.drop used)).2.2 ≠ 0 then (out, used, (nextF (b.drop used)).2.2) else scanN b k (out ++ [(nextF (b.drop used)).1]) (used + (nextF (b.drop used)).2.1)
def scanF (b : List UInt8) : List (List UInt8) × Nat × Int := scanN b (b.length + 1) [] 0
def allN : List (List UInt8) → List UInt8 → List UInt8 × Int
  | [], b => (b, 0)
  | p :: l, b => if (wrapF p).2 ≠ 0 then ([], (wrapF p).2) else allN l (b ++ (wrapF p).1)
def allF (l : List (List UInt8)) : List UInt8 × Int := allN l []
theorem wrapF_len (p : List UInt8) : (wrapF p).1.length ≤ 9000 := by
  unfold wrapF
  split
  · simp
  · have := vput_len (n := p.length) (by omega)
    simp [sealF_len]; omega
theorem openF_ok {b : List UInt8} (h : (openF b).2 = 0) : 4 ≤ b.length ∧ (openF b).1 = b.take (b.length - 4) ∧ sealF (b.take (b.length - 4)) = b := by
  unfold openF at h ⊢
  split at h
  · simp at h
  · rename_i h4
    split at h
    · rename_i hs
      rw [if_neg h4, if_pos hs]
      exact ⟨by omega, rfl, hs⟩
    · simp at h
theorem nextF_ok {b p : List UInt8} {n : Nat} (h : nextF b = (p, n, 0)) : n ≤ b.length ∧ 5 ≤ n ∧ p.length ≤ 8192 ∧ wrapF p = (b.take n, 0) := by
  unfold nextF at h
  split at h
  · rename_i h1
    simp only [Prod.mk.injEq] at h
    exact absurd h.2.2 h1
  · rename_i h1
    have ht := tk_ok (Decidable.not_not.1 h1)
    split at h
    · simp at h
    · rename_i h2
      split at h
      · simp at h
      · rename_i h3
        split at h
        · rename_i h4
          simp only [Prod.mk.injEq] at h
          exact absurd h.2.2 h4
        · rename_i h4
          have ho := openF_ok (Decidable.not_not.1 h4)
          simp only [Prod.mk.injEq, and_true] at h
          obtain ⟨hp, hn⟩ := h
          obtain ⟨g1, g2, g3⟩ := ho
          have hl : (b.take ((tk b).2.1 + (tk b).1.toNat + 4)).length = (tk b).2.1 + (tk b).1.toNat + 4 := by rw [List.length_take]; omega
          rw [hl] at g1 g2 g3
          have e1 : (tk b).2.1 + (tk b).1.toNat + 4 - 4 = (tk b).2.1 + (tk b).1.toNat := by omega
          rw [e1, List.take_take, Nat.min_eq_left (by omega)] at g2 g3
          rw [g2] at hp
          have hpl : p.length = (tk b).1.toNat := by rw [← hp, List.length_drop, List.length_take]; omega
          have hsp : b.take ((tk b).2.1 + (tk b).1.toNat) = vput p.length ++ p := by
            rw [hpl, ht.2.2, ← hp]
            have := List.take_append_drop (tk b).2.1 (b.take ((tk b).2.1 + (tk b).1.toNat))
            rw [List.take_take, Nat.min_eq_left (by omega)] at this
            exact this.symm
          refine ⟨by omega, by omega, by omega, ?_⟩
          unfold wrapF
          rw [if_neg (by omega), ← hsp, g3, hn]
theorem nextF_len (b : List UInt8) : (nextF b).2.1 ≤ b.length ∧ ((nextF b).2.2 = 0 → 5 ≤ (nextF b).2.1) := by
  obtain ⟨p, n, e, h⟩ : ∃ p n e, nextF b = (p, n, e) := ⟨_, _, _, rfl⟩
  rw [h]
  by_cases he : e = 0
  · subst he
    have := nextF_ok h
    exact ⟨this.1, fun _ => this.2.1⟩
  · refine ⟨?_, fun e0 => absurd e0 he⟩
    have : n = 0 := by
      unfold nextF at h
      split at h
      · simp at h; omega
      split at h
      · simp at h; omega
      split at h
      · simp at h; omega
      split at h
      · simp at h; omega
      · simp at h; omega
    dsimp only; omega
end Go.Proofs.YtgfnpcmehnjopaaDoor
end
section
namespace Go.Proofs.YtgfnpcmehnjopaaDoor
open Go Go.RowKit
set_option linter.unusedVariables false
set_option linter.unusedSimpArgs false
def il (l : List Int) : List (List D) := l.map fun n => [.sc (.int .i64 n)]
theorem il_len (l : List Int) : (il l).length = l.length := by simp [il]
theorem il_get (l : List Int) (i : Nat) : (il l)[i]? = (l[i]?).map fun n => [.sc (.int .i64 n)] := by simp [il]
theorem il_snoc (l : List Int) (n : Int) : il l ++ [[.sc (.int .i64 n)]] = il (l ++ [n]) := by simp [il]
theorem wrl_snoc (l : List Wr) (a : Wr) : wrl l ++ [[.sc (.string a.k), .sc (.string a.v), .sc (.bool a.g)]] = wrl (l ++ [a]) := by simp [wrl, Wr.d]
attribute [go_sem] il_len il_get il_snoc wrl_snoc
structure It where
  d : Int
  o : Int
  n : Int
  a : Int
  m : Int
  c : Clk
  w : List Wr
  k : List Int
abbrev itL (x : It) : List V := [.sc (.int .i64 x.d), .sc (.int .i64 x.o), .sc (.int .i64 x.n), .sc (.int .i64 x.a), .sc (.int .u32 x.m), .sc (.int .i64 x.c.x), .sc (.int .i64 x.c.y), .sc (.int .i64 x.c.z), .sl 3 (wrl x.w), .sl 1 (il x.k)]
abbrev itV (x : It) : V := .agg (itL x)
def It.D (x : It) : List D := [.sc (.int .i64 x.d), .sc (.int .i64 x.o), .sc (.int .i64 x.n), .sc (.int .i64 x.a), .sc (.int .u32 x.m), .sc (.int .i64 x.c.x), .sc (.int .i64 x.c.y), .sc (.int .i64 x.c.z), .sl 3 (wrl x.w), .sl 1 (il x.k)]
def its (l : List It) : List (List Proofs.YtgfnpcmehnjopaaDoor.D) := l.map It.D
theorem its_len (l : List It) : (its l).length = l.length := by simp [its]
theorem its_get (l : List It) (i : Nat) : (its l)[i]? = (l[i]?).map It.D := by simp [its]
attribute [go_sem] its_len its_get It.D
def whoOk (x : It) : Bool := if x.d < 2 then decide (0 ≤ x.o ∧ x.o < 3) else if x.d = 2 ∨ x.d = 7 ∨ x.d = 8 then decide (0 ≤ x.o ∧ x.o ≤ 3) else decide (x.o = 0)
def withinF (n most : Int) (told : Bool) : Bool := decide (n = 0 ∨ told = true ∧ 0 < n ∧ n ≤ most)
def wroteE (w : List Wr) : Int := checkF ⟨0, 1, ⟨0, 0, 0⟩, w⟩
def odd1 (n : Int) : Bool := decide (n < 0 ∨ 1048576 < n)
def checkI (x : It) : Int :=
  if x.d < 0 ∨ 8 < x.d then 3 else
  if ¬ (x.d < 2 ∧ 0 ≤ x.o ∧ x.o < 3 ∨ (x.d = 2 ∨ x.d = 7 ∨ x.d = 8) ∧ 0 ≤ x.o ∧ x.o ≤ 3 ∨ x.o = 0) then 9 else
  if ¬ (x.n = 0 ∨ (3 ≤ x.d ∧ x.d ≤ 6 ∨ x.d = 8) ∧ 0 < x.n ∧ x.n ≤ 1048576) then 1 else
  if ¬ (x.a = 0 ∨ x.d = 6 ∧ 0 < x.a ∧ x.a ≤ 1048576) then 1 else
  if x.m ≠ 0 ∧ x.d ≠ 6 then 1 else
  if rightF x.c = false then 1 else
  if ¬ (x.c.x = 0 ∧ x.c.y = 0 ∧ x.c.z = 0) ∧ x.d ≠ 0 then 1 else
  if wroteE x.w ≠ 0 then 1 else
  if 0 < x.w.length ∧ x.d ≠ 0 then 1 else
  if 4 < x.k.length then 1 else
  if 0 < x.k.length ∧ x.d ≠ 7 then 1 else
  if x.k.any odd1 = true then 1 else 0
def textF (a : Wr) : List UInt8 := vput a.k.size ++ a.k.toList ++ (if a.g = true then [0] else vput (a.v.size + 1) ++ a.v.toList)
def whoB (x : It) : List UInt8 := if x.d < 3 ∨ x.d = 7 ∨ x.d = 8 then vput x.o.toNat else []
def numB (x : It) : List UInt8 := if 3 ≤ x.d ∧ x.d ≤ 6 ∨ x.d = 8 then vput x.n.toNat else []
def atB (x : It) : List UInt8 := if x.d = 6 then vput x.a.toNat ++ vput x.m.toNat else []
def depB (x : It) : List UInt8 := if x.d = 0 then (cputF ⟨0, 0, 0⟩ x.c).1 ++ vput x.w.length ++ x.w.flatMap textF else []
def keptB (x : It) : List UInt8 := if x.d = 7 then vput x.k.length ++ x.k.flatMap fun n => vput n.toNat else []
def bytesI (x : It) : List UInt8 := vput x.d.toNat ++ whoB x ++ numB x ++ atB x ++ depB x ++ keptB x
def rowsI : List It → List (List UInt8) × Int
  | [] => ([], 0)
  | x :: l => if checkI x ≠ 0 then ([], checkI x) else if (rowsI l).2 ≠ 0 then ([], (rowsI l).2) else (bytesI x :: (rowsI l).1, 0)
def putI (l : List It) : List UInt8 × Int :=
  if 300 < l.length then ([], 4) else if (rowsI l).2 ≠ 0 then ([], (rowsI l).2) else allF (rowsI l).1
abbrev Rst := List UInt8 × Int
def numR (s : Rst) (most : Nat) (above : Int) : Nat × Rst :=
  if s.2 ≠ 0 then (0, s) else
  if (tk s.1).2.2 = 0 ∧ most < (tk s.1).1.toNat then (0, s.1.drop (tk s.1).2.1, above) else
  ((if (tk s.1).2.2 ≠ 0 then 0 else (tk s.1).1.toNat), s.1.drop (tk s.1).2.1, (tk s.1).2.2)
def textR (s : Rst) (n : Nat) : ByteArray × Rst :=
  if s.2 ≠ 0 then (⟨#[]⟩, s) else if s.1.length < n then (⟨#[]⟩, s.1, 2) else (⟨(s.1.take n).toArray⟩, s.1.drop n, 0)
def clockR (s : Rst) : Clk × Rst :=
  if s.2 ≠ 0 then (⟨0, 0, 0⟩, s) else ((ctakeF ⟨0, 0, 0⟩ s.1).1, s.1.drop (ctakeF ⟨0, 0, 0⟩ s.1).2.1, (ctakeF ⟨0, 0, 0⟩ s.1).2.2)
def writeR (s : Rst) : Wr × Rst :=
  let k := numR s 64 1
  let t := textR k.2 k.1
  let n := numR t.2 257 1
  if n.1 = 0 then (⟨t.1, ⟨#[]⟩, true⟩, n.2) else (⟨t.1, (textR n.2 (n.1 - 1)).1, false⟩, (textR n.2 (n.1 - 1)).2)
def writesR : Nat → Rst → List Wr × Rst
  | 0, s => ([], s)
  | n + 1, s => ((writeR s).1 :: (writesR n (writeR s).2).1, (writesR n (writeR s).2).2)
def keptR : Nat → Rst → List Int × Rst
  | 0, s => ([], s)
  | n + 1, s => (((numR s 4611686018427387903 1).1 : Int) :: (keptR n (numR s 4611686018427387903 1).2).1, (keptR n (numR s 4611686018427387903 1).2).2)
def numIf (p : Prop) [Decidable p] (s : Rst) (most : Nat) : Nat × Rst := if p then numR s most 1 else (0, s)
def clockIf (p : Prop) [Decidable p] (s : Rst) : Clk × Rst := if p then clockR s else (⟨0, 0, 0⟩, s)
def endI (x : It) (s : Rst) : Int := if s.2 ≠ 0 then s.2 else if 0 < s.1.length then 3 else checkI x
def It.zero : It := ⟨0, 0, 0, 0, 0, ⟨0, 0, 0⟩, [], []⟩
def readI (b : List UInt8) : It × Int :=
  let d := numR (b, 0) 8 3
  if d.2.2 ≠ 0 then (It.zero, d.2.2) else
  let o := numIf (d.1 < 3 ∨ d.1 = 7 ∨ d.1 = 8) d.2 4611686018427387903
  let n := numIf (3 ≤ d.1 ∧ d.1 ≤ 6 ∨ d.1 = 8) o.2 4611686018427387903
  let a := numIf (d.1 = 6) n.2 4611686018427387903
  let m := numIf (d.1 = 6) a.2 4294967295
  let c := clockIf (d.1 = 0) m.2
  let q := numIf (d.1 = 0) c.2 16
  let w := writesR q.1 q.2
  let j := numIf (d.1 = 7) w.2 4
  let k := keptR j.1 j.2
  (⟨d.1, o.1, n.1, a.1, m.1, c.1, w.1, k.1⟩, endI ⟨d.1, o.1, n.1, a.1, m.1, c.1, w.1, k.1⟩ k.2)
theorem readI_err {b : List UInt8} {d : Nat} {s : Rst} (h0 : numR (b, 0) 8 3 = (d, s)) (h : s.2 ≠ 0) : readI b = (It.zero, s.2) := by
  unfold readI
  dsimp only
  rw [h0, if_pos h]
theorem readI_of {b : List UInt8} {d o n a m q j : Nat} {c : Clk} {w : List Wr} {k : List Int} {s0 s1 s2 s3 s4 s5 s6 s7 s8 s9 : Rst} (h0 : numR (b, 0) 8 3 = (d, s0)) (hd : s0.2 = 0)
    (h1 : numIf (d < 3 ∨ d = 7 ∨ d = 8) s0 4611686018427387903 = (o, s1)) (h2 : numIf (3 ≤ d ∧ d ≤ 6 ∨ d = 8) s1 4611686018427387903 = (n, s2)) (h3 : numIf (d = 6) s2 4611686018427387903 = (a, s3)) (h4 : numIf (d = 6) s3 4294967295 = (m, s4))
    (h5 : clockIf (d = 0) s4 = (c, s5)) (h6 : numIf (d = 0) s5 16 = (q, s6)) (h7 : writesR q s6 = (w, s7)) (h8 : numIf (d = 7) s7 4 = (j, s8)) (h9 : keptR j s8 = (k, s9)) :
    readI b = (⟨d, o, n, a, m, c, w, k⟩, endI ⟨d, o, n, a, m, c, w, k⟩ s9) := by
  unfold readI
  rw [h0]
  dsimp only
  rw [if_neg (by simpa using hd), h1]
  dsimp only
  rw [h2]
  dsimp only
  rw [h3]
  dsimp only
  rw [h4]
  dsimp only
  rw [h5]
  dsimp only
  rw [h6]
  dsimp only
  rw [h7]
  dsimp only
  rw [h8]
  dsimp only
  rw [h9]
def readsI : List (List UInt8) → List It × Int
  | [] => ([], 0)
  | b :: l => if (readI b).2 ≠ 0 then ([], (readI b).2) else if (readsI l).2 ≠ 0 then ([], (readsI l).2) else ((readI b).1 :: (readsI l).1, 0)
def takeI (b : List UInt8) : List It × Int :=
  if (scanF b).2.2 ≠ 0 then ([], (scanF b).2.2) else if 300 < (scanF b).1.length then ([], 4) else readsI (scanF b).1
end Go.Proofs.YtgfnpcmehnjopaaDoor
end
