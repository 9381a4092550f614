/- Walk through the law CrcTells. -/
import Derived.Test.YtflhokgdkaophaaDoorCrcA
import Derived.Test.YtflhokgdkaophaaDoorCrcR3
import Derived.Test.YtflhokgdkaophaaDoorCrcM3
namespace Go.Proofs.YtflhokgdkaophaaDoor
open Go.RowKit
set_option linter.unusedVariables false
set_option linter.unusedSimpArgs false

set_option maxRecDepth 100000 in
set_option maxHeartbeats 2000000 in
theorem tells_c (va vb : Value) (a b : List UInt8) (at_ : Int) (m : UInt32) (w : World) (ht : Tab w) (ha : Sb w va a) (hb : Sb w vb b) (ha1 : -9223372036854775808 ≤ at_) (ha2 : at_ ≤ 9223372036854775807) :
    Calls Tryd.prog 3 #[va, vb, .int .i64 at_, .int .u32 (U m)] w (RetV w (.bool true)) := by
  obtain ⟨Aa, ca, rfl, g1, g2⟩ := ha.form
  obtain ⟨Ab, cb, rfl, g3, g4⟩ := hb.form
  have HA := Lib.hid ha
  have HB := Lib.hid hb
  have HT0 := Lib.hid ht
  clear ha hb ht
  go_enter Tryd.func3, Tryd.ntmps3
  go_wp2_with fail
  refine (awake_c _ HT0.out).mono ?_
  rintro e w1 ⟨rfl, hb1⟩
  by_cases hl : a.length ≤ 300 ∧ b.length ≤ 300
  · obtain ⟨l1, l2⟩ := hl
    go_wp2_with fail
    refine (open_c _ b _ (HT0.out.below hb1) (HB.out.below hb1) (by omega)).mono ?_
    rintro e w2 ⟨u2, rfl, ho2, hb2⟩
    go_wp2_with fail
    refine (ropen_c _ b _ ((HB.out.below hb1).below hb2) (by omega)).mono ?_
    rw [ropen_open]
    rintro e w0 ⟨u3, rfl, ho3, hb3⟩
    have hb03 := gthen hb1 (gthen hb2 hb3)
    have HT := Lib.hid (HT0.out.below hb03)
    have Ha := Lib.hid (HA.out.below hb03)
    have Hb := Lib.hid (HB.out.below hb03)
    have S1 := Lib.hid (ho2.sb.below hb3)
    have S2 := Lib.hid ho3.sb
    clear hb1 hb2 hb3 ho2 ho3 HA HB HT0
    generalize hE : (openF b).2 = ee
    clear hE
    go_wp2_with fail
    refine (sum_c _ b _ HT.out Hb.out).mono ?_
    rintro e w1 ⟨rfl, hb1⟩
    go_wp2_with fail
    refine (rsum_c _ b _ (Hb.out.below hb1)).mono ?_
    rw [rsum_sum]
    rintro e w2 ⟨rfl, hb2⟩
    have hb2 := gthen hb1 hb2
    go_wp2_with fail
    refine (rsum_c _ a _ (Ha.out.below hb2)).mono ?_
    rw [rsum_sum]
    rintro e w3 ⟨rfl, hb3⟩
    have hb3 := gthen hb2 hb3
    go_wp2_with fail
    refine (more_c _ _ b _ (HT.out.below hb3) (Hb.out.below hb3)).mono ?_
    rw [more_sum]
    rintro e w4 ⟨rfl, hb4⟩
    have hb4 := gthen hb3 hb4
    have Ha4 := Lib.hid (Ha.out.below hb4)
    have Hb4 := Lib.hid (Hb.out.below hb4)
    go_wp2_with (first
      | (at_builtin; refine wpList_app _ rfl (.tmp 43) (.tmp 44) _ rfl w4.heap.size 5 _ 1 1 Tryd.underlying22 info_u8 rfl (by omega) (.slice (some ⟨w4.heap.size, 0, none⟩) 0 0) 0 [] rfl (own_new w4 #[] _ 0 1 _ (Nat.le_refl _) rfl (by omega)) _ a.length (a.map bv) rfl (Sl.alloc Ha4.out _) (bvs_one a) (by omega) (by simp only [maxLen]; omega) (by simp) ?_; intro v5 w5 hown5 hg5 hat5; have hb5 := ((Below.refl w4.heap.size w4).alloc (Nat.le_refl _) _).grown hg5 (by simp) (by simp [Value.ownBlock]))
      | (at_builtin; refine wpList_app _ rfl (.tmp 45) (.tmp 46) _ rfl w4.heap.size 5 _ 1 1 Tryd.underlying22 info_u8 rfl (by omega) v5 _ _ rfl hown5 _ b.length (b.map bv) rfl (Hb4.out.below hb5) (bvs_one b) (by omega) (by simp only [maxLen]; omega) hb5.size ?_; intro v6 w6 hown6 hg6 hat6; have hb6 := hb5.grown hg6 hb5.size (own_ge hown5)))
    have ho6 : Ob w6 w4.heap.size v6 (a ++ b) := by
      unfold Ob
      simpa using hown6
    have hb6' := gthen hb4 hb6
    clear hown5 hown6 hg5 hg6 hat5 hat6 hb5 hb6
    generalize a ++ b = ab at ho6
    refine (rsum_c _ ab _ ho6.sb).mono ?_
    rw [rsum_sum]
    rintro e w7 ⟨rfl, hb7⟩
    have hb7 := gthen hb6' hb7
    go_wp2_with fail
    refine (seal_c _ b _ (HT.out.below hb7) (Hb.out.below hb7) (by omega)).mono ?_
    rintro e w8 ⟨u8, rfl, ho8, hb8⟩
    have hb8' := gthen hb7 hb8
    go_wp2_with fail
    refine (rseal_c _ b _ (Hb.out.below hb8') (by omega)).mono ?_
    rw [rseal_seal]
    rintro e w9 ⟨u9, rfl, ho9, hb9⟩
    have hb9' := gthen hb8' hb9
    go_wp2_with fail
    refine (same_c _ _ (sealF b) (sealF b) _ (ho8.sb.below hb9) ho9.sb).mono ?_
    rintro e w10 ⟨rfl, hb10⟩
    have hb10' := gthen hb9' hb10
    clear ho6 ho8 ho9 hb1 hb2 hb3 hb4 hb6' hb7 hb8' hb8 hb9 hb9' hb10
    go_wp2_with fail
    refine (same_c _ _ (openF b).1 (openF b).1 _ (S1.out.below hb10') (S2.out.below hb10')).mono ?_
    rintro e w11 ⟨rfl, hb11⟩
    have hb11' := gthen hb10' hb11
    go_wp2_with fail
    refine (turn_c _ b at_ m _ (Hb.out.below hb11') (by omega) ha1 ha2).mono ?_
    rintro e w12 ⟨u12, rfl, ho12, hb12⟩
    have hb12' := gthen hb11' hb12
    go_wp2_with fail
    refine (rturn_c _ b at_ m _ (Hb.out.below hb12') (by omega) ha1 ha2).mono ?_
    rintro e w13 ⟨u13, rfl, ho13, hb13⟩
    have hb13' := gthen hb12' hb13
    go_wp2_with fail
    refine (same_c _ _ (turnF at_ m b) (turnF at_ m b) _ (ho12.sb.below hb13) ho13.sb).mono ?_
    rintro e w14 ⟨rfl, hb14⟩
    go_wp2_with fail
    go_ret
    exact ⟨by simp, gthen hb03 (gthen hb13' hb14)⟩
  · by_cases l1 : a.length ≤ 300
    · have l3 : (300 : Int) < b.length := by omega
      go_wp2_with fail
      go_ret
      exact ⟨rfl, hb1⟩
    · have l2' : (300 : Int) < a.length := by omega
      go_wp2_with fail
      all_goals
        go_ret
        exact ⟨rfl, hb1⟩
end Go.Proofs.YtflhokgdkaophaaDoor
