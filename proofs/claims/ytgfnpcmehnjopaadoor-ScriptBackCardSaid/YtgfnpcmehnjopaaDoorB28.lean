/- Parts of the proofs, joined: FrmX, ScrTe, ScrAv. -/
import Derived.Test.YtgfnpcmehnjopaaDoorB10
import Derived.Test.YtgfnpcmehnjopaaDoorB15
import Derived.Test.YtgfnpcmehnjopaaDoorB22
import Derived.Test.YtgfnpcmehnjopaaDoorB24
import Derived.Test.YtgfnpcmehnjopaaDoorB26
import Derived.Test.YtgfnpcmehnjopaaDoorB27
section
namespace Go.Proofs.YtgfnpcmehnjopaaDoor
section
open Go Go.RowKit
set_option linter.unusedVariables false
set_option linter.unusedSimpArgs false
variable {K : Nat → Obj → Prop}
def frmX : Runner := fun f vs h =>
  if f = 75 then match vs with
    | [v] => match bytesV v with
      | some l => if l.length ≤ 1000000000 then some (.sl 1 (bs l), h) else none
      | none => none
    | _ => none
  else crcX f vs h
theorem fsame_t (l : List UInt8) (h : List Ho) : Sp Tryd.prog K 21 [.sl 1 (bs l), .sl 1 (bs l)] h fun u hh => u = .sc (.bool true) ∧ hh = h := by
  simpa using vsame_s (K := K) l l h
end
end Go.Proofs.YtgfnpcmehnjopaaDoor
end
section
namespace Go.Proofs.YtgfnpcmehnjopaaDoor
open Go Go.RowKit
set_option linter.unusedVariables false
set_option linter.unusedSimpArgs false
variable {K : Nat → Obj → Prop}
theorem takeI_bd (b : List UInt8) : (takeI b).1.length ≤ 300 ∧ LenI (takeI b).1 ∧ ∀ x ∈ (takeI b).1, ItM x := by
  by_cases h : (takeI b).2 = 0
  · obtain ⟨_, h2, h3⟩ := put_takeI (b := b) (l := (takeI b).1) (by rw [← h])
    refine ⟨h2, fun x hx => ?_, fun x hx => (h3 x hx).2⟩
    have hc := checkI_ok (h3 x hx).1
    have hw := wok_of hc.2.2.2.2.2.2.2.1
    have hk := hc.2.2.2.2.2.2.2.2.2.1
    omega
  · rw [takeI_err h]
    exact ⟨by simp, fun x hx => by simp at hx, fun x hx => by simp at hx⟩
theorem sfrow_le (m : List (List UInt8)) : (frow m).length ≤ 9000 * m.length := by
  have := bflat_len (fun p => (wrapF p).1) 9000 m fun p _ => wrapF_len p
  rwa [List.flatMap_def] at this
theorem putI_len {l : List It} (hm : ∀ x ∈ l, ItM x) : (putI l).1.length ≤ 9000 * 300 := by
  unfold putI
  split
  · simp
  rename_i h1
  split
  · simp
  rename_i h2
  obtain ⟨g1, g2⟩ := rowsI_0 (l := l) (r := (rowsI l).1) (by rw [← Decidable.not_not.1 h2])
  unfold allF
  by_cases hf : Fits (rowsI l).1
  · rw [allN_fits _ _ hf, List.nil_append]
    have := sfrow_le (rowsI l).1
    rw [g1, List.length_map] at this
    rw [g1]
    have : 9000 * l.length ≤ 9000 * 300 := Nat.mul_le_mul_left _ (by omega)
    dsimp only
    omega
  · rw [allN_not _ _ hf]; simp
theorem large_no {l : List It} (h : largeI l = false) : l.length ≤ 320 := by
  unfold largeI at h
  simp only [Bool.or_eq_false_iff, decide_eq_false_iff_not] at h
  omega
end Go.Proofs.YtgfnpcmehnjopaaDoor
end
section
namespace Go.Proofs.YtgfnpcmehnjopaaDoor
open Go Go.RowKit
set_option linter.unusedVariables false
set_option linter.unusedSimpArgs false
variable {K : Nat → Obj → Prop}
set_option maxRecDepth 100000 in
set_option maxHeartbeats 4000000 in
theorem rc14_s {L0 : List (List D)}
    (s1 : ∀ h, Sp Tryd.prog K 21 [.sl 1 (bs [6, 2, 9, 1]), .sl 1 [[.sc (.int .u8 6)], [.sc (.int .u8 2)], [.sc (.int .u8 9)], [.sc (.int .u8 1)]]] h fun u hh => u = .sc (.bool true) ∧ hh = h)
    (s2 : ∀ h, Sp Tryd.prog K 21 [.sl 1 (bs [0, 1, 6, 0, 0, 2, 1, 97, 2, 120, 1, 98, 0]), .sl 1 [[.sc (.int .u8 0)], [.sc (.int .u8 1)], [.sc (.int .u8 6)], [.sc (.int .u8 0)], [.sc (.int .u8 0)], [.sc (.int .u8 2)], [.sc (.int .u8 1)], [.sc (.int .u8 97)], [.sc (.int .u8 2)], [.sc (.int .u8 120)], [.sc (.int .u8 1)], [.sc (.int .u8 98)], [.sc (.int .u8 0)]]] h fun u hh => u = .sc (.bool true) ∧ hh = h)
    (s3 : ∀ h, Sp Tryd.prog K 21 [.sl 1 (bs [7, 3, 2, 0, 172, 2]), .sl 1 [[.sc (.int .u8 7)], [.sc (.int .u8 3)], [.sc (.int .u8 2)], [.sc (.int .u8 0)], [.sc (.int .u8 172)], [.sc (.int .u8 2)]]] h fun u hh => u = .sc (.bool true) ∧ hh = h)
    (k1 : ∀ h, Sp Tryd.prog K 17 [.agg [.sc (.int .i64 2), .sc (.int .i64 3), .sc (.int .i64 0), .sc (.int .i64 0), .sc (.int .u32 0), .sc (.int .i64 0), .sc (.int .i64 0), .sc (.int .i64 0), .sl 3 [], .sl 1 []]] h fun u hh => u = .sc (.int .i64 0) ∧ hh = h)
    (k2 : ∀ h, Sp Tryd.prog K 17 [.agg [.sc (.int .i64 2), .sc (.int .i64 0), .sc (.int .i64 1), .sc (.int .i64 0), .sc (.int .u32 0), .sc (.int .i64 0), .sc (.int .i64 0), .sc (.int .i64 0), .sl 3 [], .sl 1 []]] h fun u hh => u = .sc (.int .i64 1) ∧ hh = h)
    (k3 : ∀ h, Sp Tryd.prog K 19 [.agg [.sc (.int .i64 6), .sc (.int .i64 0), .sc (.int .i64 2), .sc (.int .i64 9), .sc (.int .u32 1), .sc (.int .i64 0), .sc (.int .i64 0), .sc (.int .i64 0), .sl 3 [], .sl 1 []], .agg [.sc (.int .i64 6), .sc (.int .i64 0), .sc (.int .i64 2), .sc (.int .i64 9), .sc (.int .u32 1), .sc (.int .i64 0), .sc (.int .i64 0), .sc (.int .i64 0), .sl 3 [], .sl 1 []]] h fun u hh => u = .sc (.bool true) ∧ hh = h)
    (k4 : ∀ h, Sp Tryd.prog K 19 [.agg [.sc (.int .i64 6), .sc (.int .i64 0), .sc (.int .i64 2), .sc (.int .i64 9), .sc (.int .u32 1), .sc (.int .i64 0), .sc (.int .i64 0), .sc (.int .i64 0), .sl 3 [], .sl 1 []], .agg [.sc (.int .i64 7), .sc (.int .i64 3), .sc (.int .i64 0), .sc (.int .i64 0), .sc (.int .u32 0), .sc (.int .i64 0), .sc (.int .i64 0), .sc (.int .i64 0), .sl 3 [], .sl 1 [[.sc (.int .i64 0)], [.sc (.int .i64 300)]]]] h fun u hh => u = .sc (.bool false) ∧ hh = h)
    (co : ∀ h, Sp Tryd.prog K 14 [.sl 10 L0] h fun u hh => u = .sl 10 L0 ∧ hh = h) (co2 : ∀ h, Sp Tryd.prog K 14 [.full 10 [[.sc (.int .i64 6), .sc (.int .i64 0), .sc (.int .i64 2), .sc (.int .i64 9), .sc (.int .u32 1), .sc (.int .i64 0), .sc (.int .i64 0), .sc (.int .i64 0), .sc (.slice none 0 0), .sc (.slice none 0 0)], [.sc (.int .i64 0), .sc (.int .i64 1), .sc (.int .i64 0), .sc (.int .i64 0), .sc (.int .u32 0), .sc (.int .i64 3), .sc (.int .i64 0), .sc (.int .i64 0), .sl 3 [[.sc (.string { data := #[97] }), .sc (.string { data := #[120] }), .sc (.bool false)], [.sc (.string { data := #[98] }), .sc (.string { data := #[] }), .sc (.bool true)]], .sc (.slice none 0 0)], [.sc (.int .i64 7), .sc (.int .i64 3), .sc (.int .i64 0), .sc (.int .i64 0), .sc (.int .u32 0), .sc (.int .i64 0), .sc (.int .i64 0), .sc (.int .i64 0), .sc (.slice none 0 0), .sl 1 [[.sc (.int .i64 0)], [.sc (.int .i64 300)]]]]] h fun u hh => u = .sl 10 L0 ∧ hh = h)
    (cs : ∀ h, Sp Tryd.prog K 22 [.sl 10 L0, .sl 10 L0] h fun u hh => u = .sc (.bool true) ∧ hh = h)
    (c : Code) (hc : (Tryd.f10.body.bind (regC 14)) = some c) {Q : Exit → Sv → Prop} (N : Sv → Prop) (hN : ∀ st, Desc K 0 st ⟨[.sc (.bool true), .any, .any, .any, .any, .any, .any, .any, .any, .any, .any, .any, .any, .any, .any, .any, .any, .any, .any, .any, .any, .any, .any, .any, .any, .any, .any, .any, .any, .any, .any, .any, .any, .any, .any, .any, .any, .any, .any, .any, .any, .any, .any, .any, .any, .any, .any, .any, .any, .any, .any, .any, .any, .any, .any, .any, .any, .any, .any, .any, .any, .any, .any, .any, .any, .any, .any, .any, .any, .any, .any, .any, .any, .any, .any, .any, .any, .any, .any, .any, .any, .any, .any, .any, .any, .any, .any, .any, .any, .any, .any, .any, .any, .any, .any, .any, .any, .any, .any, .any, .any, .any, .any, .any, .any, .any, .any, .any, .any, .any, .any, .any, .any, .any, .any, .any, .any, .any, .any, .any, .any, .any, .any, .any, .any, .any, .any, .any, .any, .any, .any, .any, .any, .any, .any, .any, .any, .any, .any, .any, .any, .any, .any, .any, .any, .any, .any, .any, .any], [.cells [.sc (.int .i64 6), .sc (.int .i64 0), .sc (.int .i64 2), .sc (.int .i64 9), .sc (.int .u32 1), .sc (.int .i64 0), .sc (.int .i64 0), .sc (.int .i64 0), .sc (.slice none 0 0), .sc (.slice none 0 0)], .cells [.sc (.int .i64 0), .sc (.int .i64 1), .sc (.int .i64 0), .sc (.int .i64 0), .sc (.int .u32 0), .sc (.int .i64 3), .sc (.int .i64 0), .sc (.int .i64 0), .sl 3 [[.sc (.string { data := #[97] }), .sc (.string { data := #[120] }), .sc (.bool false)], [.sc (.string { data := #[98] }), .sc (.string { data := #[] }), .sc (.bool true)]], .sc (.slice none 0 0)], .cells [.sc (.int .i64 7), .sc (.int .i64 3), .sc (.int .i64 0), .sc (.int .i64 0), .sc (.int .u32 0), .sc (.int .i64 0), .sc (.int .i64 0), .sc (.int .i64 0), .sc (.slice none 0 0), .sl 1 [[.sc (.int .i64 0)], [.sc (.int .i64 300)]]]]⟩ → N st) : WPV Tryd.prog K 0 c (thenV N Q) ⟨[.sc (.bool false), .ptr 0 0, .ptr 1 0, .ptr 2 0, .any, .sc (.int .i64 0), .sl 10 L0, .sc (.int .i64 0), .sl 1 (rs [[6, 2, 9, 1], [0, 1, 6, 0, 0, 2, 1, 97, 2, 120, 1, 98, 0], [7, 3, 2, 0, 172, 2]]), .any, .any, .any, .any, .any, .sc (.int .i64 3), .any, .sc (.int .i64 9), .any, .sc (.int .i64 2), .any, .any, .any, .any, .any, .any, .any, .any, .any, .any, .any, .any, .any, .any, .any, .any, .any, .any, .any, .any, .any, .any, .any, .any, .any, .any, .any, .any, .any, .any, .any, .any, .any, .any, .any, .any, .any, .any, .any, .any, .any, .any, .any, .any, .any, .any, .any, .any, .any, .any, .any, .any, .any, .any, .any, .any, .any, .any, .any, .sc (.bool false), .any, .any, .any, .any, .any, .any, .any, .any, .any, .any, .any, .any, .any, .any, .any, .any, .any, .any, .any, .any, .any, .any, .any, .any, .any, .any, .any, .any, .any, .any, .any, .any, .any, .any, .any, .any, .any, .any, .any, .any, .any, .any, .any, .any, .any, .any, .any, .any, .any, .any, .any, .any, .any, .any, .any, .any, .any, .any, .any, .any, .any, .any, .any, .any, .any, .any, .any, .any, .any, .any], [.cells [.sc (.int .i64 6), .sc (.int .i64 0), .sc (.int .i64 2), .sc (.int .i64 9), .sc (.int .u32 1), .sc (.int .i64 0), .sc (.int .i64 0), .sc (.int .i64 0), .sc (.slice none 0 0), .sc (.slice none 0 0)], .cells [.sc (.int .i64 0), .sc (.int .i64 1), .sc (.int .i64 0), .sc (.int .i64 0), .sc (.int .u32 0), .sc (.int .i64 3), .sc (.int .i64 0), .sc (.int .i64 0), .sl 3 [[.sc (.string { data := #[97] }), .sc (.string { data := #[120] }), .sc (.bool false)], [.sc (.string { data := #[98] }), .sc (.string { data := #[] }), .sc (.bool true)]], .sc (.slice none 0 0)], .cells [.sc (.int .i64 7), .sc (.int .i64 3), .sc (.int .i64 0), .sc (.int .i64 0), .sc (.int .u32 0), .sc (.int .i64 0), .sc (.int .i64 0), .sc (.int .i64 0), .sc (.slice none 0 0), .sl 1 [[.sc (.int .i64 0)], [.sc (.int .i64 300)]]]]⟩ := by
  simp only [Tryd.f10, Option.bind_some, regC, Nat.reduceEqDiff, if_false, if_true, reduceCtorEq] at hc
  cases hc
  have hz : True := trivial
  have hy := yieldedV_eq
  have hL := True.intro
  repeat' (first | (refine WPV.seqK ?_; intro N hN) | (refine And.intro (hO _ (by kernel_rfl)) ?_; clear hO) | refine gA ?_ | (refine gR (M := noM) ?_; intro N hN ops hy) | (refine gDG (M := noM) ?_; intro N hN ops hy hO) | (refine WPV.condK ?_; intro A hA B hB) | (refine here ?_; refine sN ?_) | refine Both.mk ?_ ?_ | ((with_reducible refine CallO.gd 21 ?_); first | refine CallO.toB Tryd.call21 (s1 _) ?_ | refine CallO.toB Tryd.call21 (s2 _) ?_ | refine CallO.toB Tryd.call21 (s3 _) ?_) | ((with_reducible refine CallO.gd 14 ?_); first | refine CallO.toB Tryd.call14 (co _) ?_ | refine CallO.toB Tryd.call14 (co2 _) ?_) | ((with_reducible refine CallO.gd 22 ?_); refine CallO.toB Tryd.call22 (cs _) ?_) | ((with_reducible refine CallO.gd 17 ?_); first | refine CallO.toB Tryd.call17 (k1 _) ?_ | refine CallO.toB Tryd.call17 (k2 _) ?_) | ((with_reducible refine CallO.gd 19 ?_); first | refine CallO.toB Tryd.call19 (k3 _) ?_ | refine CallO.toB Tryd.call19 (k4 _) ?_) | ((with_reducible refine CallP.gd 21 ?_); first | refine CallP.toB Tryd.call21 (s1 _) ?_ | refine CallP.toB Tryd.call21 (s2 _) ?_ | refine CallP.toB Tryd.call21 (s3 _) ?_) | ((with_reducible refine CallP.gd 14 ?_); first | refine CallP.toB Tryd.call14 (co _) ?_ | refine CallP.toB Tryd.call14 (co2 _) ?_) | ((with_reducible refine CallP.gd 22 ?_); refine CallP.toB Tryd.call22 (cs _) ?_) | ((with_reducible refine CallP.gd 17 ?_); first | refine CallP.toB Tryd.call17 (k1 _) ?_ | refine CallP.toB Tryd.call17 (k2 _) ?_) | ((with_reducible refine CallP.gd 19 ?_); first | refine CallP.toB Tryd.call19 (k3 _) ?_ | refine CallP.toB Tryd.call19 (k4 _) ?_) | (refine hN _ ?_; try clear hN N; try clear hy ops) | (refine hA ?_; clear hA A hB B; try simp only [hz]) | (refine hB ?_; clear hA A hB B; try simp only [hz]) | (refine gG ?_ ?_ <;> (intro hz; have h := nm hz; try (exfalso; omega)) <;> (have hz := nz hz; try subst hz)) | (rw [if_pos (show _ ∧ _ from ⟨by omega, by omega⟩)]; refine sN ?_) | refine gT ?_ | (clear hN N))
  all_goals exact jnZ
end Go.Proofs.YtgfnpcmehnjopaaDoor
end
