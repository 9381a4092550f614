/- Walk through the reference of package crc: Turn, alone. -/
import Derived.Test.YtonllhjmoenckaaTurnA
namespace Go.Proofs.Ytonllhjmoenckaa
open Go.RowKit
set_option linter.unusedVariables false
set_option linter.unusedSimpArgs false

theorem U_mod2 (c : UInt32) : U c % 2 = ((c.toNat % 2 : Nat) : Int) := by unfold U; omega
theorem U_tdiv2 (a : UInt32) : (U a).tdiv (2 : Int) % (4294967296 : Int) = U (a >>> 1) := by
  have h0 := U_lo a
  have h1 := U_hi a
  rw [Int.tdiv_eq_ediv_of_nonneg h0, U_half]
  have h2 := U_lo (a >>> 1)
  have h3 := U_hi (a >>> 1)
  omega
theorem U_tmod2 (c : UInt32) : (U c).tmod 2 = ((c.toNat % 2 : Nat) : Int) := by rw [Int.tmod_eq_emod_of_nonneg (U_lo c), U_mod2]
theorem mbit_div (m : UInt32) (mk k : Nat) (h : mk = m.toNat / 2 ^ k) : mk % 2 = if mbit m k then 1 else 0 := by
  subst h
  unfold mbit
  rw [Nat.testBit_eq_decide_div_mod_eq]
  by_cases hb : m.toNat / 2 ^ k % 2 = 1
  · simp [hb]
  · have : m.toNat / 2 ^ k % 2 = 0 := by omega
    simp [this]
theorem B_of (y : Nat) (h : y < 256) : (y : Int) = B (UInt8.ofNat y) := by
  unfold B
  rw [UInt8.toNat_ofNat', Nat.mod_eq_of_lt (by omega)]

attribute [local go_sem] U_tdiv2 U_tmod2 B_xor
set_option maxRecDepth 100000 in
set_option maxHeartbeats 2000000 in
theorem rturn_c (v : Value) (l : List UInt8) (at_ : Int) (mask : UInt32) (w : World) (h : Sb w v l) (hl : l.length ≤ 1000000000) (ha : -9223372036854775808 ≤ at_) (hb : at_ ≤ 9223372036854775807) :
    Calls Try.prog 31 #[v, .int .i64 at_, .int .u32 (U mask)] w (RetB w (turnF at_ mask l)) := by
  have H := Lib.hid h
  clear h
  go_enter Try.func31, Try.ntmps31
  go_wp2_with (at_builtin; refine wpList_app _ rfl (.tmp 13) (.tmp 14) _ rfl w.heap.size 5 _ 1 1 Try.underlying33 info_u8 rfl (by omega) (.slice (some ⟨w.heap.size, 0, none⟩) 0 0) 0 [] rfl (own_new w #[] _ 0 1 _ (Nat.le_refl _) rfl (by omega)) _ l.length (l.map bv) rfl (Sl.alloc H.out _) (bvs_one l) (by omega) (by simp only [maxLen]; omega) (by simp) ?_; intro v1 w1 hown1 hg1 hat1; have hb1 := ((Below.refl w.heap.size w).alloc (Nat.le_refl _) _).grown hg1 (by simp) (by simp [Value.ownBlock]))
  have ho1 : Ob w1 w.heap.size v1 l := by unfold Ob; simpa using hown1
  clear hown1 hg1 hat1
  obtain ⟨A, c, rfl, g1, g2⟩ := ho1.sb.form
  go_loopw [8, 9] (fun m i wr => ∃ (k : Nat) (mk : UInt32), k ≤ 32 ∧ i = .int .i64 k ∧ m = .int .u32 (U mk) ∧ Hid (mk.toNat = mask.toNat / 2 ^ k) ∧ Hid (Ob wr w.heap.size (.slice A l.length c) (turnN at_ mask l k)) ∧ Below w.heap.size w wr) (fun _ i _ => 32 - (intOf i).toNat)
  case atStart => exact ⟨0, mask, by omega, rfl, rfl, by simp [Hid], ho1, hb1⟩
  case round =>
    obtain ⟨k, mk, hk, rfl, rfl, hmk, ho, hbw⟩ := hrel
    clear ho1 hb1
    by_cases hlt : k < 32
    · have HL := Lib.hid (turnN_len at_ mask l k)
      have HM := Lib.hid (mbit_div mask _ k hmk.out)
      have HK : Hid ((mk >>> 1).toNat = mask.toNat / 2 ^ (k + 1)) := by
        unfold Hid
        rw [UInt32.toNat_shiftRight]
        show mk.toNat >>> 1 = _
        rw [Nat.shiftRight_eq_div_pow, hmk.out, Nat.div_div_eq_div_mul, ← Nat.pow_add]
      by_cases b1 : mbit mask k = true
      · have hm : ((mk.toNat % 2 : Nat) : Int) = 1 := by rw [HM.out, if_pos b1]; rfl
        by_cases c1 : 0 ≤ at_ + k ∧ (at_ + k) / 8 < l.length
        · obtain ⟨b2, b3⟩ := c1
          generalize hj : turnN at_ mask l k = o at *
          have HJ := Lib.hid hj
          clear hj
          have b4 : ((at_ + k) / 8).toNat < o.length := by rw [HL.out]; omega
          have b5 : at_ + k < 8 * (l.length : Int) := by omega
          obtain ⟨g, rfl, hg1, hg2, hc⟩ := Ob.at_ ho.out _ b4
          have hT : turnN at_ mask l (k + 1) = o.set ((at_ + k) / 8).toNat (o.getD ((at_ + k) / 8).toNat 0 ^^^ UInt8.ofNat (2 ^ ((at_ + k) % 8).toNat)) := by
            rw [turnN_succ, HJ.out]; exact if_pos ⟨b1, b2, by rw [HL.out]; exact b3⟩
          have HT := Lib.hid hT
          clear hT
          have hx : o.getD ((at_ + k) / 8).toNat 0 = o[((at_ + k) / 8).toNat] := by simp [List.getD_eq_getElem?_getD, b4]
          rw [hx] at hc
          have HX := Lib.hid hx
          clear hx
          go_wp2
          go_loop [11, 12] (fun p i => ∃ (j y : Nat), (j : Int) ≤ (at_ + k) % 8 ∧ y ≤ 128 ∧ i = .int .i64 j ∧ p = .int .u8 y ∧ Hid (y = 2 ^ j)) (fun _ i => ((at_ + k) % 8).toNat - (intOf i).toNat)
          case atStart => exact ⟨0, 1, by omega, by omega, rfl, rfl, rfl⟩
          case round =>
            obtain ⟨j, y, hj, hy, rfl, rfl, hyy⟩ := hrel
            by_cases hjl : (j : Int) < (at_ + k) % 8
            · have hy2 : y ≤ 64 := by
                have h1 := hyy.out
                have h2 : 2 ^ j ≤ 2 ^ 6 := Nat.pow_le_pow_right (by omega) (by omega)
                omega
              go_wp2
              go_round
              case rel => exact ⟨j + 1, y * 2, by omega, by omega, by go_num, by go_num, by unfold Hid; rw [hyy.out, Nat.pow_succ]⟩
              case measure => simp [intOf]; omega
            · have e : ((at_ + k) % 8).toNat = j := by omega
              have HE := Lib.hid e
              clear e
              rw [B_of y (by omega)]
              go_wp2
              go_roundw
              case rel => exact ⟨k + 1, mk >>> 1, by omega, by go_num, (by first | rfl | rw [U_tdiv2]), HK, by unfold Hid; rw [HT.out, HX.out, HE.out, ← hyy.out]; exact Ob.set_ ho.out _ _, hbw.setCell hg1 _⟩
              case measure => simp [intOf]; omega
        · have HT : Hid (turnN at_ mask l (k + 1) = turnN at_ mask l k) := by
            unfold Hid; rw [turnN_succ]; exact turn1_no (by rw [HL.out]; exact fun h => c1 h.2)
          by_cases d1 : at_ < -(k : Int)
          · go_wp2
            go_roundw
            case rel => exact ⟨k + 1, mk >>> 1, by omega, by go_num, (by first | rfl | rw [U_tdiv2]), HK, by unfold Hid; rw [HT.out]; exact ho.out, hbw⟩
            case measure => simp [intOf]; omega
          · by_cases d2 : 8 * (l.length : Int) < at_
            · go_wp2
              go_roundw
              case rel => exact ⟨k + 1, mk >>> 1, by omega, by go_num, (by first | rfl | rw [U_tdiv2]), HK, by unfold Hid; rw [HT.out]; exact ho.out, hbw⟩
              case measure => simp [intOf]; omega
            · have d3 : 8 * (l.length : Int) ≤ at_ + k := by omega
              go_wp2
              go_roundw
              case rel => exact ⟨k + 1, mk >>> 1, by omega, by go_num, (by first | rfl | rw [U_tdiv2]), HK, by unfold Hid; rw [HT.out]; exact ho.out, hbw⟩
              case measure => simp [intOf]; omega
      · have hm : ((mk.toNat % 2 : Nat) : Int) = 0 := by rw [HM.out, if_neg b1]; rfl
        have HT : Hid (turnN at_ mask l (k + 1) = turnN at_ mask l k) := by
          unfold Hid; rw [turnN_succ]; exact turn1_no fun h => b1 h.1
        go_wp2
        go_roundw
        case rel => exact ⟨k + 1, mk >>> 1, by omega, by go_num, (by first | rfl | rw [U_tdiv2]), HK, by unfold Hid; rw [HT.out]; exact ho.out, hbw⟩
        case measure => simp [intOf]; omega
    · have hk : k = 32 := by omega
      subst hk
      go_wp2
      go_ret
      exact ⟨_, rfl, by unfold turnF; have := ho.out; unfold Ob at this ⊢; rw [turnN_len] at this ⊢; exact this, hbw⟩
end Go.Proofs.Ytonllhjmoenckaa
