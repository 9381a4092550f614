/- Walk through the law VintBack. -/
import Derived.Test.YtflhokgdkaophaaVintA
namespace Go.Proofs.Ytflhokgdkaophaa
open Go.RowKit
set_option linter.unusedVariables false
set_option linter.unusedSimpArgs false
attribute [local go_sem] Gv

theorem back_take (n : UInt64) (p b : List UInt8) (hp : vput n.toNat = p) (v : Value) (w : World) (h : Sb w v (p ++ b)) (hl : (p ++ b).length ≤ 1000000000) :
    Calls Try.prog 7 #[v] w (RetV w (.tuple #[.int .u64 (W n), .int .i64 (p.length : Int), .int .i64 0])) := by
  have h0 := take_c v _ w h hl
  rw [← hp, tk_put, hp] at h0
  exact h0
theorem back_cut (n : UInt64) (p : List UInt8) (hp : vput n.toNat = p) (v : Value) (w : World) (h : Sb w v (p.take (p.length - 1))) (hl : (p.take (p.length - 1)).length ≤ 1000000000) :
    Calls Try.prog 7 #[v] w (RetV w (.tuple #[.int .u64 0, .int .i64 0, .int .i64 2])) := by
  have h0 := take_c v _ w h hl
  rw [← hp, tk_cut] at h0
  exact h0
theorem back_signed (m : Int) (h1 : -9223372036854775808 ≤ m) (h2 : m < 9223372036854775808) (v : Value) (q : List UInt8) (hq : vput (zigF m).toNat = q) (w : World) (h : Sb w v q) :
    Calls Try.prog 9 #[v] w (RetV w (.tuple #[.int .i64 m, .int .i64 (q.length : Int), .int .i64 0])) := by
  have hl : q.length ≤ 10 := by rw [← hq]; exact vput_len (UInt64.toNat_lt _)
  have h0 := takes_c v _ w h (by omega)
  have h3 := tk_put (zigF m) []
  rw [List.append_nil, hq] at h3
  rw [h3, tkS] at h0
  simpa only [zag_zig m h1 h2] using h0

set_option maxRecDepth 100000 in
set_option maxHeartbeats 1000000 in
theorem back_c (n : UInt64) (m : Int) (vb : Value) (b : List UInt8) (w : World) (h1 : -9223372036854775808 ≤ m) (h2 : m ≤ 9223372036854775807) (hb : Sb w vb b) :
    Calls Try.prog 4 #[.int .u64 (W n), .int .i64 m, vb] w (RetV w (.bool true)) := by
  obtain ⟨Ab, cb, rfl, g1, g2⟩ := hb.form
  have HB := Lib.hid hb
  have H1 := Lib.hid h1
  have H2 : Hid (m < 9223372036854775808) := Lib.hid (by omega)
  clear hb h1 h2
  go_enter Try.func4, Try.ntmps4
  go_wp2_with fail
  refine (awake01_c _).mono ?_
  rintro e w1 ⟨rfl, hb1⟩
  have B1 := Lib.hid hb1
  clear hb1
  by_cases hl : b.length ≤ 1000
  · obtain ⟨p, hp⟩ : ∃ p, vput n.toNat = p := ⟨_, rfl⟩
    have hp1 : 1 ≤ p.length := by rw [← hp]; exact List.length_pos_iff.2 (vput_ne _)
    have hp2 : p.length ≤ 10 := by rw [← hp]; exact vput_len n.toNat_lt
    have HP := Lib.hid hp
    obtain ⟨q, hq⟩ : ∃ q, vput (zigF m).toNat = q := ⟨_, rfl⟩
    have HQ := Lib.hid hq
    clear hp hq
    go_wp2_with fail
    refine (Put_c _ _).mono ?_
    rw [HP.out]
    rintro e w2 ⟨up, rfl, ho2, hb2⟩
    obtain ⟨Ap, cp, rfl, g3, g4⟩ := ho2.sb.form
    have B2 := Lib.hid (gthen B1.out hb2)
    have SP := Lib.hid ho2.sb
    clear hb2 ho2
    go_wp2_with (first
      | (at_builtin; refine wpList_app _ rfl (.tmp 36) (.tmp 37) _ rfl w2.heap.size 5 _ 1 1 Try.underlying23 info_u8 rfl (by omega) (.slice (some ⟨w2.heap.size, 0, none⟩) 0 0) 0 [] rfl (own_new w2 #[] _ 0 1 _ (Nat.le_refl _) rfl (by omega)) _ p.length (p.map bv) rfl (Sl.alloc SP.out _) (bvs_one p) (by omega) (by simp only [maxLen]; omega) (by simp) ?_; intro v3 w3 hown3 hg3 hat3; have hb3 := ((Below.refl w2.heap.size w2).alloc (Nat.le_refl _) _).grown hg3 (by simp) (by simp [Value.ownBlock]))
      | (at_builtin; refine wpList_app _ rfl (.tmp 38) (.tmp 39) _ rfl w2.heap.size 5 _ 1 1 Try.underlying23 info_u8 rfl (by omega) v3 _ _ rfl hown3 _ b.length (b.map bv) rfl ((HB.out.below B2.out).below hb3) (bvs_one b) (by omega) (by simp only [maxLen]; omega) hb3.size ?_; intro v4 w4 hown4 hg4 hat4; have hb4 := hb3.grown hg4 hb3.size (own_ge hown3)))
    have ho4 : Ob w4 w2.heap.size v4 (p ++ b) := by
      unfold Ob
      simpa [Nat.add_assoc] using hown4
    have S4 := Lib.hid ho4.sb
    have B4 := Lib.hid (gthen B2.out hb4)
    have SP4 := Lib.hid (SP.out.below hb4)
    clear hown3 hown4 hg3 hg4 hat3 hat4 hb3 hb4 ho4
    refine (back_take n p b HP.out _ _ S4.out (by rw [List.length_append]; omega)).mono ?_
    rintro e w5 ⟨rfl, hb5⟩
    have B5 := Lib.hid hb5
    clear hb5
    go_wp2_with fail
    refine (back_cut n p HP.out _ _ ((SP4.out.take (p.length - 1) (by omega)).below B5.out) (by rw [List.length_take]; omega)).mono ?_
    rintro e w6 ⟨rfl, hb6⟩
    have B6 := Lib.hid (gthen B5.out hb6)
    clear hb6
    go_wp2_with fail
    refine (puts_c m H1.out H2.out _).mono ?_
    rw [HQ.out]
    rintro e w7 ⟨uq, rfl, ho7, hb7⟩
    have B7 := Lib.hid (gthen B6.out hb7)
    have SQ := Lib.hid ho7.sb
    clear hb7 ho7
    go_wp2_with fail
    refine (back_signed m H1.out H2.out _ q HQ.out _ SQ.out).mono ?_
    rintro e w8 ⟨rfl, hb8⟩
    have B8 := Lib.hid (gthen B7.out hb8)
    clear hb8
    go_wp2_with fail
    refine (puts_c m H1.out H2.out _).mono ?_
    rw [HQ.out]
    rintro e w9 ⟨uq2, rfl, ho9, hb9⟩
    have B9 := Lib.hid (gthen B8.out hb9)
    have SQ2 := Lib.hid ho9.sb
    obtain ⟨Aq, cq, rfl, g5, g6⟩ := ho9.sb.form
    clear hb9 ho9
    go_wp2_with fail
    have hk := take_c (.slice Ab b.length cb) b w9 (((HB.out.below B4.out)).below B9.out) (by omega)
    have hok := @tk_ok b
    unfold tkV at hk
    generalize (tk b).1 = z at *
    generalize (tk b).2.1 = k at *
    generalize (tk b).2.2 = g at *
    have HOK := Lib.hid hok
    clear hok
    refine hk.mono ?_
    clear hk
    rintro e w10 ⟨rfl, hb10⟩
    have B10 := Lib.hid (gthen B9.out hb10)
    clear hb10
    by_cases hg : g = 0
    · subst hg
      obtain ⟨k1, k2, k3⟩ := HOK.out rfl
      have hd : decide (vput z.toNat = b.take k) = true := by simpa using k3
      have HD := Lib.hid hd
      have kk1 : (1 : Int) ≤ (k : Int) := by omega
      have kk2 : (k : Int) ≤ (b.length : Int) := by omega
      clear k3 hd
      go_wp2_with fail
      refine wp_region_gr' (by kernel_rfl) (by kernel_rfl) ?_
      intro ops hop
      repeat
        apply wpG_det
        exact fun _ => by rw [hop.out]; rfl
        intro us w' hE hH
        go_simp
        exact ⟨Gr.refl _, rfl⟩
        intro us
        go_simp
        exact rfl
      apply wpG_sat (fun u w => Sb w u (vput z.toNat)) (fun _ _ _ h hb => h.below hb)
      exact fun _ => by rw [hop.out]; rfl
      · intro us w' hE hH
        go_simp
        refine (Put_c _ w').mono ?_
        rintro e w'' ⟨u, rfl, ho, hb⟩
        exact ⟨u, rfl, hb, ho.sb⟩
      intro us
      go_simp
      exact rfl
      repeat
        apply wpG_det
        exact fun _ => by rw [hop.out]; rfl
        intro us w' hE hH
        go_simp
        exact ⟨Gr.refl _, rfl⟩
        intro us
        go_simp
        exact rfl
      apply wpG_det (v := Value.slice Ab k cb)
      exact fun _ => by rw [hop.out]; rfl
      · intro us w' hE hH
        go_simp
        try rw [if_pos (by omega)]
        exact ⟨Gr.refl _, rfl⟩
      intro us
      go_simp
      exact rfl
      apply wpG_det (v := Value.bool true)
      exact fun _ => by rw [hop.out]; rfl
      · intro us w' hE hH
        go_simp
        refine (same_c _ _ (vput z.toNat) (b.take k) w' (hH.1 rfl) ((((HB.out.below B4.out).below B10.out).take k k2).below hE)).mono ?_
        rintro e w'' ⟨rfl, hb⟩
        exact ⟨_, rfl, hb, by rw [HD.out]⟩
      intro us
      go_simp
      exact rfl
      repeat
        apply wpG_det
        exact fun _ => by rw [hop.out]; rfl
        intro us w' hE hH
        go_simp
        exact ⟨Gr.refl _, rfl⟩
        intro us
        go_simp
        exact rfl
      intro us w' hE _
      clear hop
      go_wp2_with fail
      go_ret
      exact ⟨rfl, gthen (gthen B4.out B10.out) hE⟩
    · have hgb : (g != 0) = true := by rw [bne_iff_ne]; exact hg
      clear hg HOK
      go_wp2_with fail
      refine wp_region_gr' (by kernel_rfl) (by kernel_rfl) ?_
      intro ops hop
      repeat
        apply wpG_det
        exact fun _ => by rw [hop.out]; rfl
        intro us w' hE hH
        go_simp
        exact ⟨Gr.refl _, rfl⟩
        intro us
        go_simp
        exact rfl
      repeat
        apply wpG_off
        exact fun _ => by rw [hop.out]; rfl
        intro us
        go_simp
        exact rfl
      repeat
        apply wpG_det
        exact fun _ => by rw [hop.out]; rfl
        intro us w' hE hH
        go_simp
        exact ⟨Gr.refl _, rfl⟩
        intro us
        go_simp
        exact rfl
      intro us w' hE _
      clear hop
      go_wp2_with fail
      go_ret
      exact ⟨rfl, gthen (gthen B4.out B10.out) hE⟩
  · go_wp2_with fail
    go_ret
    exact ⟨rfl, B1.out⟩
end Go.Proofs.Ytflhokgdkaophaa
