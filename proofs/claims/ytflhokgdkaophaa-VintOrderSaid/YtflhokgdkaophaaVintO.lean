/- Walk through the law VintOrder (printed by gen_order01.py). -/
import Derived.Test.YtflhokgdkaophaaVintA
namespace Go.Proofs.Ytflhokgdkaophaa
open Go.RowKit
set_option linter.unusedVariables false
set_option linter.unusedSimpArgs false

set_option maxRecDepth 100000 in
set_option maxHeartbeats 1000000 in
theorem order_c (a b : UInt64) (w : World) : Calls Try.prog 5 #[.int .u64 (W a), .int .u64 (W b)] w (RetV w (.bool true)) := by
  go_enter Try.func5, Try.ntmps5
  go_wp2_with fail
  refine (awake01_c _).mono ?_
  rintro e w1 ⟨rfl, hb1⟩
  by_cases hab : W b < W a
  · have HXY : Hid (b.toNat ≤ a.toNat) := Lib.hid (by unfold W at hab; omega)
    have HP0 := Lib.hid (vput_len_mono HXY.out)
    obtain ⟨p, hp⟩ : ∃ p, vput b.toNat = p := ⟨_, rfl⟩
    obtain ⟨q, hq⟩ : ∃ q, vput a.toNat = q := ⟨_, rfl⟩
    have hl1 : p.length ≤ q.length := by rw [← hp, ← hq]; exact HP0.out
    have hl2 : q.length ≤ 10 := by rw [← hq]; exact vput_len a.toNat_lt
    have HP := Lib.hid hp
    have HQ := Lib.hid hq
    have hne : b ≠ a → decide (p = q.take p.length) = false := fun h => by
      rw [decide_eq_false_iff_not]
      intro h0
      refine h (UInt64.toNat_inj.1 (vput_prefix (by rw [hp, hq]; exact hl1) ?_))
      rw [hp, hq]; exact h0
    have HNE := Lib.hid hne
    clear hp hq hne HP0
    go_wp2_with fail
    refine (Put_c _ _).mono ?_
    rw [HP.out]
    rintro e w2 ⟨up, rfl, ho2, hb2⟩
    have c2 := gthen hb1 hb2
    have s2 := ho2.sb
    clear hb2 ho2
    go_wp2_with fail
    refine (Put_c _ _).mono ?_
    rw [HQ.out]
    rintro e w3 ⟨uq, rfl, ho3, hb3⟩
    have c3 := gthen c2 hb3
    have sp := s2.below hb3
    have sq := ho3.sb
    clear hb3 ho3 s2 c2
    obtain ⟨Ap, cp, rfl, g1, g2⟩ := sp.form
    obtain ⟨Aq, cq, rfl, g3, g4⟩ := sq.form
    have SP := Lib.hid sp
    have SQ := Lib.hid sq
    have C3 := Lib.hid c3
    clear sp sq c3
    go_wp2_with fail
    refine (size_c _ _).mono ?_
    rw [HP.out]
    rintro e w4 ⟨rfl, hb4⟩
    have B4 := Lib.hid hb4
    clear hb4
    go_wp2_with fail
    refine (size_c _ _).mono ?_
    rw [HQ.out]
    rintro e w5 ⟨rfl, hb5⟩
    have B5 := Lib.hid (gthen B4.out hb5)
    clear hb5
    go_wp2_with fail
    refine (size_c _ _).mono ?_
    rw [HP.out]
    rintro e w6 ⟨rfl, hb6⟩
    have B6 := Lib.hid (gthen B5.out hb6)
    clear hb6
    by_cases hxy : b = a
    · have hv : (W b != W a) = false := by rw [hxy]; simp
      have HXX := Lib.hid hxy
      clear hxy
      go_wp2_with fail
      refine (zag_c _ _).mono ?_
      rintro e w8 ⟨rfl, hb8⟩
      have B8 := Lib.hid (gthen B6.out hb8)
      clear hb8
      go_wp2_with fail
      refine (zig_c _ (zag_lo _) (zag_hi _) _).mono ?_
      rw [zig_zag]
      rintro e w9 ⟨rfl, hb9⟩
      have B9 := Lib.hid (gthen B8.out hb9)
      clear hb9
      go_wp2_with fail
      refine (zig_c _ (by unfold wrap64; omega) (by unfold wrap64; omega) _).mono ?_
      rintro e w10 ⟨rfl, hb10⟩
      have B10 := Lib.hid (gthen B9.out hb10)
      clear hb10
      go_wp2_with fail
      refine (zag_c _ _).mono ?_
      rw [zag_zig _ (by unfold wrap64; omega) (by unfold wrap64; omega)]
      rintro e w11 ⟨rfl, hb11⟩
      have B11 := Lib.hid (gthen B10.out hb11)
      clear hb11
      go_wp2_with fail
      go_ret
      exact ⟨rfl, gthen C3.out B11.out⟩
    · have hv : (W b != W a) = true := by rw [bne_iff_ne]; exact fun h => hxy (W_inj h)
      have HXX := Lib.hid hxy
      clear hxy
      go_wp2_with fail
      refine (same_c _ _ p (q.take p.length) _ (SP.out.below B6.out) ((SQ.out.take p.length hl1).below B6.out)).mono ?_
      rw [HNE.out HXX.out]
      rintro e w7 ⟨rfl, hb7⟩
      have B7 := Lib.hid (gthen B6.out hb7)
      clear hb7
      go_wp2_with fail
      refine (zag_c _ _).mono ?_
      rintro e w8 ⟨rfl, hb8⟩
      have B8 := Lib.hid (gthen B7.out hb8)
      clear hb8
      go_wp2_with fail
      refine (zig_c _ (zag_lo _) (zag_hi _) _).mono ?_
      rw [zig_zag]
      rintro e w9 ⟨rfl, hb9⟩
      have B9 := Lib.hid (gthen B8.out hb9)
      clear hb9
      go_wp2_with fail
      refine (zig_c _ (by unfold wrap64; omega) (by unfold wrap64; omega) _).mono ?_
      rintro e w10 ⟨rfl, hb10⟩
      have B10 := Lib.hid (gthen B9.out hb10)
      clear hb10
      go_wp2_with fail
      refine (zag_c _ _).mono ?_
      rw [zag_zig _ (by unfold wrap64; omega) (by unfold wrap64; omega)]
      rintro e w11 ⟨rfl, hb11⟩
      have B11 := Lib.hid (gthen B10.out hb11)
      clear hb11
      go_wp2_with fail
      go_ret
      exact ⟨rfl, gthen C3.out B11.out⟩
  · have HXY : Hid (a.toNat ≤ b.toNat) := Lib.hid (by unfold W at hab; omega)
    have HP0 := Lib.hid (vput_len_mono HXY.out)
    obtain ⟨p, hp⟩ : ∃ p, vput a.toNat = p := ⟨_, rfl⟩
    obtain ⟨q, hq⟩ : ∃ q, vput b.toNat = q := ⟨_, rfl⟩
    have hl1 : p.length ≤ q.length := by rw [← hp, ← hq]; exact HP0.out
    have hl2 : q.length ≤ 10 := by rw [← hq]; exact vput_len b.toNat_lt
    have HP := Lib.hid hp
    have HQ := Lib.hid hq
    have hne : a ≠ b → decide (p = q.take p.length) = false := fun h => by
      rw [decide_eq_false_iff_not]
      intro h0
      refine h (UInt64.toNat_inj.1 (vput_prefix (by rw [hp, hq]; exact hl1) ?_))
      rw [hp, hq]; exact h0
    have HNE := Lib.hid hne
    clear hp hq hne HP0
    go_wp2_with fail
    refine (Put_c _ _).mono ?_
    rw [HP.out]
    rintro e w2 ⟨up, rfl, ho2, hb2⟩
    have c2 := gthen hb1 hb2
    have s2 := ho2.sb
    clear hb2 ho2
    go_wp2_with fail
    refine (Put_c _ _).mono ?_
    rw [HQ.out]
    rintro e w3 ⟨uq, rfl, ho3, hb3⟩
    have c3 := gthen c2 hb3
    have sp := s2.below hb3
    have sq := ho3.sb
    clear hb3 ho3 s2 c2
    obtain ⟨Ap, cp, rfl, g1, g2⟩ := sp.form
    obtain ⟨Aq, cq, rfl, g3, g4⟩ := sq.form
    have SP := Lib.hid sp
    have SQ := Lib.hid sq
    have C3 := Lib.hid c3
    clear sp sq c3
    go_wp2_with fail
    refine (size_c _ _).mono ?_
    rw [HP.out]
    rintro e w4 ⟨rfl, hb4⟩
    have B4 := Lib.hid hb4
    clear hb4
    go_wp2_with fail
    refine (size_c _ _).mono ?_
    rw [HQ.out]
    rintro e w5 ⟨rfl, hb5⟩
    have B5 := Lib.hid (gthen B4.out hb5)
    clear hb5
    go_wp2_with fail
    refine (size_c _ _).mono ?_
    rw [HP.out]
    rintro e w6 ⟨rfl, hb6⟩
    have B6 := Lib.hid (gthen B5.out hb6)
    clear hb6
    by_cases hxy : a = b
    · have hv : (W a != W b) = false := by rw [hxy]; simp
      have HXX := Lib.hid hxy
      clear hxy
      go_wp2_with fail
      refine (zag_c _ _).mono ?_
      rintro e w8 ⟨rfl, hb8⟩
      have B8 := Lib.hid (gthen B6.out hb8)
      clear hb8
      go_wp2_with fail
      refine (zig_c _ (zag_lo _) (zag_hi _) _).mono ?_
      rw [zig_zag]
      rintro e w9 ⟨rfl, hb9⟩
      have B9 := Lib.hid (gthen B8.out hb9)
      clear hb9
      go_wp2_with fail
      refine (zig_c _ (by unfold wrap64; omega) (by unfold wrap64; omega) _).mono ?_
      rintro e w10 ⟨rfl, hb10⟩
      have B10 := Lib.hid (gthen B9.out hb10)
      clear hb10
      go_wp2_with fail
      refine (zag_c _ _).mono ?_
      rw [zag_zig _ (by unfold wrap64; omega) (by unfold wrap64; omega)]
      rintro e w11 ⟨rfl, hb11⟩
      have B11 := Lib.hid (gthen B10.out hb11)
      clear hb11
      go_wp2_with fail
      go_ret
      exact ⟨rfl, gthen C3.out B11.out⟩
    · have hv : (W a != W b) = true := by rw [bne_iff_ne]; exact fun h => hxy (W_inj h)
      have HXX := Lib.hid hxy
      clear hxy
      go_wp2_with fail
      refine (same_c _ _ p (q.take p.length) _ (SP.out.below B6.out) ((SQ.out.take p.length hl1).below B6.out)).mono ?_
      rw [HNE.out HXX.out]
      rintro e w7 ⟨rfl, hb7⟩
      have B7 := Lib.hid (gthen B6.out hb7)
      clear hb7
      go_wp2_with fail
      refine (zag_c _ _).mono ?_
      rintro e w8 ⟨rfl, hb8⟩
      have B8 := Lib.hid (gthen B7.out hb8)
      clear hb8
      go_wp2_with fail
      refine (zig_c _ (zag_lo _) (zag_hi _) _).mono ?_
      rw [zig_zag]
      rintro e w9 ⟨rfl, hb9⟩
      have B9 := Lib.hid (gthen B8.out hb9)
      clear hb9
      go_wp2_with fail
      refine (zig_c _ (by unfold wrap64; omega) (by unfold wrap64; omega) _).mono ?_
      rintro e w10 ⟨rfl, hb10⟩
      have B10 := Lib.hid (gthen B9.out hb10)
      clear hb10
      go_wp2_with fail
      refine (zag_c _ _).mono ?_
      rw [zag_zig _ (by unfold wrap64; omega) (by unfold wrap64; omega)]
      rintro e w11 ⟨rfl, hb11⟩
      have B11 := Lib.hid (gthen B10.out hb11)
      clear hb11
      go_wp2_with fail
      go_ret
      exact ⟨rfl, gthen C3.out B11.out⟩
end Go.Proofs.Ytflhokgdkaophaa
