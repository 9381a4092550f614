/- Walks through the laws of package crc. -/
import Derived.Test.YtflhokgdkaophaaDoorCrcA
import Derived.Test.YtflhokgdkaophaaDoorCrcP
namespace Go.Proofs.YtflhokgdkaophaaDoor
open Go.RowKit
set_option linter.unusedVariables false
set_option linter.unusedSimpArgs false

theorem seal_len (l : List UInt8) : (sealF l).length = l.length + 4 := by simp [sealF, tail4]

set_option maxRecDepth 100000 in
set_option maxHeartbeats 1000000 in
theorem bursts_c (hp : BurstsLaw) (v : Value) (l : List UInt8) (at_ : Int) (m : UInt32) (w : World) (ht : Tab w) (h : Sb w v l) (ha : -9223372036854775808 ≤ at_) (hb : at_ ≤ 9223372036854775807) :
    Calls Tryd.prog 4 #[v, .int .i64 at_, .int .u32 (U m)] w (RetV w (.bool true)) := by
  obtain ⟨A, c, rfl, h1, h2⟩ := h.form
  have H := Lib.hid h
  have HT := Lib.hid ht
  have HPP := Lib.hid hp
  clear h ht hp
  go_enter Tryd.func4, Tryd.ntmps4
  go_wp2_with fail
  refine (awake_c _ HT.out).mono ?_
  rintro e w1 ⟨rfl, hb1⟩
  by_cases hl : l.length ≤ 300
  · have hsl := seal_len l
    have HSL := Lib.hid hsl
    clear hsl
    go_wp2_with fail
    refine (seal_c _ l _ (HT.out.below hb1) (H.out.below hb1) (by omega)).mono ?_
    rintro e w2 ⟨u2, rfl, ho2, hb2⟩
    obtain ⟨A2, c2, rfl, i2, j2⟩ := ho2.sb.form
    go_wp2_with fail
    refine (turn_c _ (sealF l) at_ m _ ho2.sb (by rw [HSL.out]; omega) ha hb).mono ?_
    rintro e w3 ⟨u3, rfl, ho3, hb3⟩
    obtain ⟨A3, c3, rfl, i3, j3⟩ := ho3.sb.form
    have HTL := Lib.hid (turnN_len at_ m (sealF l) 32)
    go_wp2_with fail
    refine (turn_c _ (turnF at_ m (sealF l)) at_ m _ ho3.sb (by unfold turnF; rw [HTL.out, HSL.out]; omega) ha hb).mono ?_
    rintro e w4 ⟨u4, rfl, ho4, hb4⟩
    go_wp2_with fail
    have s3 := ho3.sb.below hb4
    refine (open_c _ (turnF at_ m (sealF l)) _ (HT.out.below (gthen hb1 (gthen hb2 (gthen hb3 hb4)))) s3 (by unfold turnF; rw [HTL.out, HSL.out]; omega)).mono ?_
    rintro e w5 ⟨u5, rfl, ho5, hb5⟩
    obtain ⟨A5, c5, rfl, i5, j5⟩ := ho5.sb.form
    have hb15 := gthen hb1 (gthen hb2 (gthen hb3 (gthen hb4 hb5)))
    have s2 := ho2.sb.below (gthen hb3 (gthen hb4 hb5))
    have s3 := s3.below hb5
    have s4 := ho4.sb.below hb5
    have HP := Lib.hid (HPP.out l at_ m)
    have H5 := H.out.below hb15
    have HH := Lib.hid H5
    clear H5 H
    by_cases he : turnF at_ m (sealF l) = sealF l
    · have hd : decide (turnF at_ m (sealF l) = sealF l) = true := by simpa using he
      have ho : openF (turnF at_ m (sealF l)) = (l, 0) := HP.out.1 he
      rw [ho] at ho5 i5 ⊢
      clear ho he
      simp only [] at ho5 i5
      go_wp2_with fail
      refine (same_c _ _ (turnF at_ m (sealF l)) (sealF l) _ s3 s2).mono ?_
      rintro e w6 ⟨rfl, hb6⟩
      go_wp2_with fail
      refine (same_c _ _ l l _ (ho5.sb.below hb6) (HH.out.below hb6)).mono ?_
      rintro e w7 ⟨rfl, hb7⟩
      go_wp2_with fail
      go_ret
      exact ⟨by simp, gthen hb15 (gthen hb6 hb7)⟩
    · have hd : decide (turnF at_ m (sealF l) = sealF l) = false := by simpa using he
      have ho : openF (turnF at_ m (sealF l)) = ([], 5) := (HP.out.2 he).1
      have hback := (HP.out.2 he).2.1
      have hlen := (HP.out.2 he).2.2
      have HB := Lib.hid hback
      have HLN := Lib.hid hlen
      clear hlen
      rw [ho] at ho5 i5 ⊢
      clear ho he hback
      simp only [] at ho5 i5
      go_wp2_with fail
      refine (same_c _ _ (turnF at_ m (sealF l)) (sealF l) _ s3 s2).mono ?_
      rintro e w6 ⟨rfl, hb6⟩
      have hlen := HLN.out
      go_wp2_with fail
      refine (same_c _ _ (turnF at_ m (turnF at_ m (sealF l))) (sealF l) _ (s4.below hb6) (s2.below hb6)).mono ?_
      rw [HB.out]
      rintro e w7 ⟨rfl, hb7⟩
      go_wp2_with fail
      go_ret
      exact ⟨by simp, gthen hb15 (gthen hb6 hb7)⟩
  · have hlt : (300 : Int) < l.length := by omega
    go_wp2_with fail
    go_ret
    exact ⟨rfl, hb1⟩
end Go.Proofs.YtflhokgdkaophaaDoor
