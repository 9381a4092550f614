/- Walk through the law CrcParts. -/
import Derived.Test.YtflhokgdkaophaaDoorCrcA
import Derived.Test.YtflhokgdkaophaaDoorCrcP
namespace Go.Proofs.YtflhokgdkaophaaDoor
open Go.RowKit
set_option linter.unusedVariables false
set_option linter.unusedSimpArgs false

set_option maxRecDepth 100000 in
set_option maxHeartbeats 1000000 in
theorem parts_c (va vb vc : Value) (a b c : List UInt8) (w : World) (ht : Tab w) (ha : Sb w va a) (hb : Sb w vb b) (hc : Sb w vc c) :
    Calls Tryd.prog 5 #[va, vb, vc] w (RetV w (.bool true)) := by
  obtain ⟨Aa, ca, rfl, g1, g2⟩ := ha.form
  obtain ⟨Ab, cb, rfl, g3, g4⟩ := hb.form
  obtain ⟨Ac, cc, rfl, g5, g6⟩ := hc.form
  have HA := Lib.hid ha
  have HB := Lib.hid hb
  have HC := Lib.hid hc
  have HT := Lib.hid ht
  clear ha hb hc ht
  go_enter Tryd.func5, Tryd.ntmps5
  go_wp2_with fail
  refine (awake_c _ HT.out).mono ?_
  rintro e w1 ⟨rfl, hb1⟩
  by_cases hl : a.length ≤ 300 ∧ b.length ≤ 300 ∧ c.length ≤ 300
  · obtain ⟨l1, l2, l3⟩ := hl
    go_wp2_with (first
      | (at_builtin; refine wpList_app _ rfl (.tmp 25) (.tmp 26) _ rfl w1.heap.size 5 _ 1 1 Tryd.underlying22 info_u8 rfl (by omega) (.slice (some ⟨w1.heap.size, 0, none⟩) 0 0) 0 [] rfl (own_new w1 #[] _ 0 1 _ (Nat.le_refl _) rfl (by omega)) _ a.length (a.map bv) rfl (Sl.alloc (HA.out.below hb1) _) (bvs_one a) (by omega) (by simp only [maxLen]; omega) (by simp) ?_; intro v2 w2 hown2 hg2 hat2; have hb2 := ((Below.refl w1.heap.size w1).alloc (Nat.le_refl _) _).grown hg2 (by simp) (by simp [Value.ownBlock]))
      | (at_builtin; refine wpList_app _ rfl (.tmp 27) (.tmp 28) _ rfl w1.heap.size 5 _ 1 1 Tryd.underlying22 info_u8 rfl (by omega) v2 _ _ rfl hown2 _ b.length (b.map bv) rfl ((HB.out.below hb1).below hb2) (bvs_one b) (by omega) (by simp only [maxLen]; omega) hb2.size ?_; intro v3 w3 hown3 hg3 hat3; have hb3 := hb2.grown hg3 hb2.size (own_ge hown2))
      | (at_builtin; refine wpList_app _ rfl (.tmp 29) (.tmp 30) _ rfl w1.heap.size 5 _ 1 1 Tryd.underlying22 info_u8 rfl (by omega) v3 _ _ rfl hown3 _ c.length (c.map bv) rfl ((HC.out.below hb1).below hb3) (bvs_one c) (by omega) (by simp only [maxLen]; omega) hb3.size ?_; intro v4 w4 hown4 hg4 hat4; have hb4 := hb3.grown hg4 hb3.size (own_ge hown3)))
    have ho4 : Ob w4 w1.heap.size v4 (a ++ b ++ c) := by
      unfold Ob
      simpa [Nat.add_assoc] using hown4
    have HPL := Lib.hid (parts_law a b c)
    generalize a ++ b ++ c = al at ho4 HPL
    obtain ⟨A4, c4, rfl, g7, g8⟩ := ho4.sb.form
    have hb14 := gthen hb1 hb4
    have t4 := HT.out.below hb14
    have H4 := Lib.hid ho4.sb
    have HTT := Lib.hid t4
    have HB4 := Lib.hid hb14
    clear hown2 hown3 hown4 hg2 hg3 hg4 hat2 hat3 hat4 hb2 hb3 hb4 ho4 hb14 t4 hb1
    refine (sum_c _ a _ HTT.out (HA.out.below HB4.out)).mono ?_
    rintro e w5 ⟨rfl, hb5⟩
    go_wp2_with fail
    refine (more_c _ _ b _ (HTT.out.below hb5) ((HB.out.below HB4.out).below hb5)).mono ?_
    rintro e w6 ⟨rfl, hb6⟩
    have hb6 := gthen hb5 hb6
    go_wp2_with fail
    refine (more_c _ _ c _ (HTT.out.below hb6) ((HC.out.below HB4.out).below hb6)).mono ?_
    rw [HPL.out]
    rintro e w7 ⟨rfl, hb7⟩
    have hb7 := gthen hb6 hb7
    go_wp2_with fail
    refine (sum_c _ al _ (HTT.out.below hb7) (H4.out.below hb7)).mono ?_
    rintro e w8 ⟨rfl, hb8⟩
    have hb8 := gthen hb7 hb8
    go_wp2_with fail
    refine (more_c 0 _ al _ (HTT.out.below hb8) (H4.out.below hb8)).mono ?_
    rw [show moreF 0 al = sumF al from rfl]
    rintro e w9 ⟨rfl, hb9⟩
    have hb9 := gthen hb8 hb9
    go_wp2_with fail
    refine (sum_c _ al _ (HTT.out.below hb9) (H4.out.below hb9)).mono ?_
    rintro e w10 ⟨rfl, hb10⟩
    have hb10 := gthen hb9 hb10
    go_wp2_with fail
    refine (open_c _ c _ (HTT.out.below hb10) ((HC.out.below HB4.out).below hb10) (by omega)).mono ?_
    rintro e w11 ⟨u11, rfl, ho11, hb11⟩
    have hb11 := gthen hb10 hb11
    have s11 := Lib.hid ho11.sb
    clear hb5 hb6 hb7 hb8 hb9 hb10 ho11
    have HO := Lib.hid (open_seal c)
    by_cases he : (openF c).2 = 0
    · have hs : sealF (openF c).1 = c := HO.out he
      have HS := Lib.hid hs
      clear hs
      have hlen : (openF c).1.length ≤ c.length := by
        have := congrArg List.length HS.out
        simp only [sealF, tail4, List.length_append, List.length_cons, List.length_nil] at this
        omega
      rw [he]
      go_wp2_with fail
      refine (seal_c _ _ _ (HTT.out.below hb11) s11.out (by omega)).mono ?_
      rw [HS.out]
      rintro e w12 ⟨u12, rfl, ho12, hb12⟩
      go_wp2_with fail
      refine (same_c _ _ c c _ ho12.sb ((HC.out.below HB4.out).below (gthen hb11 hb12))).mono ?_
      rintro e w13 ⟨rfl, hb13⟩
      go_wp2_with fail
      go_ret
      exact ⟨by simp, gthen HB4.out (gthen hb11 (gthen hb12 hb13))⟩
    · have hn : ((openF c).2 != 0) = true := by simpa using he
      clear he
      go_wp2_with fail
      go_ret
      exact ⟨rfl, gthen HB4.out hb11⟩
  · by_cases l1 : a.length ≤ 300
    · by_cases l2 : b.length ≤ 300
      · have l3 : (300 : Int) < c.length := by omega
        go_wp2_with fail
        go_ret
        exact ⟨rfl, hb1⟩
      · have l2' : (300 : Int) < b.length := by omega
        by_cases l3 : c.length ≤ 300
        · go_wp2_with fail
          go_ret
          exact ⟨rfl, hb1⟩
        · go_wp2_with fail
          go_ret
          exact ⟨rfl, hb1⟩
    · have l2' : (300 : Int) < a.length := by omega
      go_wp2_with fail
      all_goals
        go_ret
        exact ⟨rfl, hb1⟩
end Go.Proofs.YtflhokgdkaophaaDoor
