/- Walk through crc.Turn, where no table is looked at. -/
import Derived.Test.YtonllhjmoenckaaWords
import Derived.Test.YtonllhjmoenckaaBits
import Derived.Test.YtonllhjmoenckaaCrcF
import Derived.Test.YtonllhjmoenckaaSl
namespace Go.Proofs.Ytonllhjmoenckaa
open Go.RowKit
set_option linter.unusedVariables false
set_option linter.unusedSimpArgs false
attribute [local go_sem] B_xor_pow

set_option maxRecDepth 100000 in
set_option maxHeartbeats 400000 in
theorem turn_c (v : Value) (l : List UInt8) (at_ : Int) (mask : UInt32) (w : World) (h : Sb w v l) (hl : l.length ≤ 1000000000) (ha : -9223372036854775808 ≤ at_) (hb : at_ ≤ 9223372036854775807) :
    Calls Try.prog 77 #[v, .int .i64 at_, .int .u32 (U mask)] w (RetB w (turnF at_ mask l)) := by
  have H := Lib.hid h
  clear h
  go_enter Try.func77, Try.ntmps77
  go_wp2_with (go_at_call 103; refine (clone_c _ _ _ H.out (by omega)).mono ?_; rintro e w1 ⟨u1, rfl, ho1, hb1⟩)
  obtain ⟨A, c, rfl, g1, g2⟩ := ho1.sb.form
  go_loopw [12] (fun i wr => ∃ k : Nat, k ≤ 32 ∧ i = .int .i64 k ∧ Hid (Ob wr w.heap.size (.slice A l.length c) (turnN at_ mask l k)) ∧ Below w.heap.size w wr) (fun i _ => 32 - (intOf i).toNat)
  case atStart => exact ⟨0, by omega, rfl, ho1, hb1⟩
  case round =>
    obtain ⟨k, hk, rfl, ho, hbw⟩ := hrel
    clear ho1 hb1
    by_cases hlt : k < 32
    · have HL := Lib.hid (turnN_len at_ mask l k)
      have HM := Lib.hid (U_bit mask k)
      by_cases c1 : mbit mask k = true ∧ 0 ≤ at_ + k ∧ (at_ + k) / 8 < l.length
      · obtain ⟨b1, b2, b3⟩ := c1
        have hm : bits .and .u32 (U mask / 2 ^ k) 1 = 1 := by rw [HM.out, if_pos b1]
        generalize hj : turnN at_ mask l k = o at *
        have HJ := Lib.hid hj
        clear hj hm
        have hm : bits .and .u32 (U mask / 2 ^ k) 1 = 1 := by rw [HM.out, if_pos b1]
        have b4 : ((at_ + k) / 8).toNat < o.length := by rw [HL.out]; omega
        obtain ⟨g, rfl, hg1, hg2, hc⟩ := Ob.at_ ho.out _ b4
        have hT : turnN at_ mask l (k + 1) = o.set ((at_ + k) / 8).toNat (o.getD ((at_ + k) / 8).toNat 0 ^^^ UInt8.ofNat (2 ^ ((at_ + k) % 8).toNat)) := by
          rw [turnN_succ, HJ.out]; exact if_pos ⟨b1, b2, by rw [HL.out]; exact b3⟩
        have HT := Lib.hid hT
        clear hT
        have hx : o.getD ((at_ + k) / 8).toNat 0 = o[((at_ + k) / 8).toNat] := by simp [List.getD_eq_getElem?_getD, b4]
        rw [hx] at hc
        have HX := Lib.hid hx
        clear hx
        by_cases c2 : 0 < at_
        all_goals
          go_wp2
          go_region
          go_wp2
          go_roundw
          case rel => exact ⟨k + 1, by omega, by go_num, by unfold Hid; rw [HT.out, HX.out]; exact Ob.set_ ho.out _ _, (hbw.setCell hg1 _).drew⟩
          case measure => simp [intOf]; omega
      · have HT : Hid (turnN at_ mask l (k + 1) = turnN at_ mask l k) := by
          unfold Hid; rw [turnN_succ]; exact turn1_no (by rw [HL.out]; exact c1)
        by_cases b1 : mbit mask k = true
        · have hm : bits .and .u32 (U mask / 2 ^ k) 1 = 1 := by rw [HM.out, if_pos b1]
          by_cases b5 : wrap64 (at_ + k) < 0
          · go_wp2
            go_roundw
            case rel => exact ⟨k + 1, by omega, by go_num, by unfold Hid; rw [HT.out]; exact ho.out, hbw⟩
            case measure => simp [intOf]; omega
          · have b6 : wrap64 (at_ + k) = at_ + k := by unfold wrap64 at b5 ⊢; omega
            have b7 : 0 ≤ at_ + k := by omega
            have b8 : at_ + k ≤ 9223372036854775807 := by unfold wrap64 at b6; omega
            have b9 : ¬ ((at_ + k) / 8 < l.length) := fun h => c1 ⟨b1, b7, h⟩
            clear b5 b6
            by_cases c2 : 0 < at_
            all_goals
              go_wp2
              go_roundw
              case rel => exact ⟨k + 1, by omega, by go_num, by unfold Hid; rw [HT.out]; exact ho.out, hbw⟩
              case measure => simp [intOf]; omega
        · have hm : bits .and .u32 (U mask / 2 ^ k) 1 = 0 := by rw [HM.out, if_neg b1]
          go_wp2
          go_roundw
          case rel => exact ⟨k + 1, by omega, by go_num, by unfold Hid; rw [HT.out]; exact ho.out, hbw⟩
          case measure => simp [intOf]; omega
    · have hk : k = 32 := by omega
      subst hk
      go_wp2
      go_ret
      exact ⟨_, rfl, by unfold turnF; have := ho.out; unfold Ob at this ⊢; rw [turnN_len] at this ⊢; exact this, hbw⟩
end Go.Proofs.Ytonllhjmoenckaa
