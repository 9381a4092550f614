/- Walk through the law VintTells (printed by gen_tells01.py). -/
import Derived.Test.YtflhokgdkaophaaVintA
import Derived.Test.YtflhokgdkaophaaRow
namespace Go.Proofs.Ytflhokgdkaophaa
open Go.RowKit
set_option linter.unusedVariables false
set_option linter.unusedSimpArgs false

theorem tk_err {l : List UInt8} (h : (tk l).2.2 ≠ 0) : zagF (tk l).1 = 0 := by
  cases hs : scan l with
  | none => rw [tk_none hs]; split <;> rfl
  | some s =>
    rw [tk_some hs] at h ⊢
    split
    · next hc => rw [if_pos hc] at h; exact absurd rfl h
    · rfl

set_option maxRecDepth 100000 in
set_option maxHeartbeats 2000000 in
theorem vtells_c (n : UInt64) (m : Int) (vb vl : Value) (b : List UInt8) (l : List UInt64) (w : World) (h1 : -9223372036854775808 ≤ m) (h2 : m ≤ 9223372036854775807) (hb : Sb w vb b) (hl : Sw w vl l) :
    Calls Try.prog 3 #[.int .u64 (W n), .int .i64 m, vb, vl] w (RetV w (.bool true)) := by
  obtain ⟨Ab, cb, rfl, g1, g2⟩ := hb.form
  obtain ⟨Al, cl, rfl, g3, g4⟩ := Sl.form hl
  have HB := Lib.hid hb
  have HL := Lib.hid hl
  have H1 := Lib.hid h1
  have H2 : Hid (m < 9223372036854775808) := Lib.hid (by omega)
  clear hb hl h1 h2
  go_enter Try.func3, Try.ntmps3
  go_wp2_with fail
  refine (awake01_c _).mono ?_
  rintro e w1 ⟨rfl, hb1⟩
  have B1 := Lib.hid hb1
  clear hb1
  by_cases hlen : b.length ≤ 1000 ∧ l.length ≤ 100
  · obtain ⟨l1, l2⟩ := hlen
    have hk := take_c (.slice Ab b.length cb) b
    have hr := rtake_c (.slice Ab b.length cb) b
    have hs := takes_c (.slice Ab b.length cb) b
    have herr := @tk_err b
    unfold tkV at hk hr
    unfold tkS at hs
    generalize (tk b).1 = z at *
    generalize (tk b).2.1 = s at *
    generalize (tk b).2.2 = g at *
    have HK := Lib.hid hk
    have HR := Lib.hid hr
    have HS := Lib.hid hs
    have HE := Lib.hid herr
    clear hk hr hs herr
    go_wp2_with fail
    refine (HK.out _ (HB.out.below B1.out) (by omega)).mono ?_
    rintro e w2 ⟨rfl, hb2⟩
    have B2 := Lib.hid (gthen B1.out hb2)
    clear hb2
    go_wp2_with fail
    refine (HR.out _ (HB.out.below B2.out) (by omega)).mono ?_
    rintro e w3 ⟨rfl, hb3⟩
    have B3 := Lib.hid (gthen B2.out hb3)
    clear hb3
    go_wp2_with fail
    refine (HS.out _ (HB.out.below B3.out) (by omega)).mono ?_
    rintro e w4 ⟨rfl, hb4⟩
    have B4 := Lib.hid (gthen B3.out hb4)
    clear hb4
    by_cases hg : g = 0
    · subst hg
      go_wp2_with fail
      refine (rzag_c _ _).mono ?_
      rintro e w5 ⟨rfl, hb5⟩
      have B0 := Lib.hid (gthen B4.out hb5)
      clear hb5
      go_wp2_with fail
      go_loopw [19, 57] (fun u i wr => ∃ k : Nat, k ≤ l.length ∧ i = .int .i64 k ∧ Hid (Ob wr w5.heap.size u (vall (l.take k))) ∧ Hid (Below w5.heap.size w5 wr)) (fun _ i _ => l.length - (intOf i).toNat)
      case atStart => exact ⟨0, Nat.zero_le _, rfl, by simpa [Hid, Ob, vall] using own_new w5 #[] _ 0 1 _ (Nat.le_refl _) rfl (by omega), galloc _ _⟩
      case round =>
        obtain ⟨k, hk, rfl, HO, HBW⟩ := hrel
        by_cases hlt : k < l.length
        · obtain ⟨ad, rfl, had⟩ := ((HL.out.below B0.out).below HBW.out).at_ k hlt
          have HT := Lib.hid (vall_take l k hlt)
          obtain ⟨pk, hpk⟩ : ∃ pk, vput l[k].toNat = pk := ⟨_, rfl⟩
          have hpl : pk.length ≤ 10 := by rw [← hpk]; exact vput_len (UInt64.toNat_lt _)
          have HPK := Lib.hid hpk
          obtain ⟨d, hd⟩ : ∃ d, vall (l.take k) = d := ⟨_, rfl⟩
          have hdl : d.length ≤ 1000 := by
            have h0 := vall_len (l.take k)
            rw [List.length_take, hd] at h0
            omega
          have HD := Lib.hid hd
          have HO' : Hid (Ob wr w5.heap.size u19 d) := by have h0 := HO.out; rw [hd] at h0; exact h0
          clear hd hpk
          go_wp2_with (first
            | (go_at_call 11; refine (rput_c _ _).mono ?_; rw [HPK.out]; rintro e w9 ⟨up, rfl, ho9, hb9⟩)
            | (at_builtin; refine wpList_app _ rfl (.tmp 61) (.tmp 63) _ rfl w5.heap.size 5 _ 1 1 Try.underlying23 info_u8 rfl (by omega) _ d.length (d.map bv) rfl (own_below HO'.out hb9) _ pk.length (pk.map bv) rfl ho9.sb (bvs_one pk) (by omega) (by simp only [maxLen]; omega) (Nat.le_trans HBW.out.size hb9.size) ?_; intro v3 w3' hown3 hg3 hat3))
          go_roundw
          case rel =>
            refine ⟨k + 1, by omega, by go_num, ?_, (below_then HBW.out HBW.out.size hb9).grown hg3 (Nat.le_trans HBW.out.size hb9.size) (own_ge HO'.out)⟩
            unfold Hid Ob
            rw [HT.out, HPK.out, HD.out]
            simpa using hown3
          case measure => simp [intOf]; omega
        · have HT : Hid (l.take k = l) := List.take_of_length_le (by omega)
          have hoa := HO.out
          rw [HT.out] at hoa
          have SA := Lib.hid hoa.sb
          have BW := Lib.hid (gthen B0.out HBW.out)
          clear hoa HO HBW
          obtain ⟨p, hp⟩ : ∃ p, vput n.toNat = p := ⟨_, rfl⟩
          have hp2 : p.length ≤ 10 := by rw [← hp]; exact vput_len n.toNat_lt
          have HP := Lib.hid hp
          obtain ⟨q, hq⟩ : ∃ q, vput (zigF m).toNat = q := ⟨_, rfl⟩
          have HQ := Lib.hid hq
          clear hp hq
          go_wp2_with fail
          refine (Put_c _ _).mono ?_
          rw [HP.out]
          rintro e x1 ⟨u1, rfl, ho1, hb1⟩
          have X1 := Lib.hid hb1
          have S1 := Lib.hid ho1.sb
          clear hb1 ho1
          go_wp2_with fail
          refine (rput_c _ _).mono ?_
          rw [HP.out]
          rintro e x2 ⟨u2, rfl, ho2, hb2⟩
          have X2 := Lib.hid (gthen X1.out hb2)
          have S2 := Lib.hid ho2.sb
          have S1' := Lib.hid (S1.out.below hb2)
          clear hb2 ho2
          go_wp2_with fail
          refine (same_c _ _ p p _ S1'.out S2.out).mono ?_
          rw [decide_eq_true rfl]
          rintro e x3 ⟨rfl, hb3⟩
          have X3 := Lib.hid (gthen X2.out hb3)
          clear hb3
          go_wp2_with fail
          refine (size_c _ _).mono ?_
          rw [HP.out]
          rintro e x4 ⟨rfl, hb4⟩
          have X4 := Lib.hid (gthen X3.out hb4)
          clear hb4
          go_wp2_with fail
          refine (rput_c _ _).mono ?_
          rw [HP.out]
          rintro e x5 ⟨u5, rfl, ho5, hb5⟩
          have X5 := Lib.hid (gthen X4.out hb5)
          obtain ⟨A5, c5, rfl, g5, g6⟩ := ho5.sb.form
          clear hb5 ho5
          go_wp2_with fail
          refine (zig_c m H1.out H2.out _).mono ?_
          rintro e x6 ⟨rfl, hb6⟩
          have X6 := Lib.hid (gthen X5.out hb6)
          clear hb6
          go_wp2_with fail
          refine (rzig_c m H1.out H2.out _).mono ?_
          rintro e x7 ⟨rfl, hb7⟩
          have X7 := Lib.hid (gthen X6.out hb7)
          clear hb7
          go_wp2_with fail
          refine (zag_c _ _).mono ?_
          rintro e x8 ⟨rfl, hb8⟩
          have X8 := Lib.hid (gthen X7.out hb8)
          clear hb8
          go_wp2_with fail
          refine (rzag_c _ _).mono ?_
          rintro e x9 ⟨rfl, hb9⟩
          have X9 := Lib.hid (gthen X8.out hb9)
          clear hb9
          go_wp2_with fail
          refine (puts_c m H1.out H2.out _).mono ?_
          rw [HQ.out]
          rintro e x10 ⟨u10, rfl, ho10, hb10⟩
          have X10 := Lib.hid (gthen X9.out hb10)
          have S10 := Lib.hid ho10.sb
          clear hb10 ho10
          go_wp2_with fail
          refine (rzig_c m H1.out H2.out _).mono ?_
          rintro e x11 ⟨rfl, hb11⟩
          have X11 := Lib.hid (gthen X10.out hb11)
          have S11 := Lib.hid (S10.out.below hb11)
          clear hb11
          go_wp2_with fail
          refine (rput_c _ _).mono ?_
          rw [HQ.out]
          rintro e x12 ⟨u12, rfl, ho12, hb12⟩
          have X12 := Lib.hid (gthen X11.out hb12)
          have S12 := Lib.hid ho12.sb
          have S12' := Lib.hid (S11.out.below hb12)
          clear hb12 ho12
          go_wp2_with fail
          refine (same_c _ _ q q _ S12'.out S12.out).mono ?_
          rw [decide_eq_true rfl]
          rintro e x13 ⟨rfl, hb13⟩
          have X13 := Lib.hid (gthen X12.out hb13)
          clear hb13
          go_wp2_with fail
          refine (all_c _ l _ ((HL.out.below BW.out).below X13.out) (by omega)).mono ?_
          rintro e x14 ⟨u14, rfl, ho14, hb14⟩
          have X14 := Lib.hid (gthen X13.out hb14)
          have S14 := Lib.hid ho14.sb
          clear hb14 ho14
          go_wp2_with fail
          refine (same_c _ _ (vall l) (vall l) _ S14.out (SA.out.below X14.out)).mono ?_
          rw [decide_eq_true rfl]
          rintro e x15 ⟨rfl, hb15⟩
          go_wp2_with fail
          go_ret
          exact ⟨rfl, gthen BW.out (gthen X14.out hb15)⟩
    · have hz : (zagF z == 0) = true := by rw [beq_iff_eq]; exact HE.out hg
      have hgb : (g == 0) = false := by rw [beq_eq_false_iff_ne]; exact hg
      have B0 := Lib.hid B4.out
      clear hg
      go_wp2_with fail
      go_loopw [19, 57] (fun u i wr => ∃ k : Nat, k ≤ l.length ∧ i = .int .i64 k ∧ Hid (Ob wr w4.heap.size u (vall (l.take k))) ∧ Hid (Below w4.heap.size w4 wr)) (fun _ i _ => l.length - (intOf i).toNat)
      case atStart => exact ⟨0, Nat.zero_le _, rfl, by simpa [Hid, Ob, vall] using own_new w4 #[] _ 0 1 _ (Nat.le_refl _) rfl (by omega), galloc _ _⟩
      case round =>
        obtain ⟨k, hk, rfl, HO, HBW⟩ := hrel
        by_cases hlt : k < l.length
        · obtain ⟨ad, rfl, had⟩ := ((HL.out.below B0.out).below HBW.out).at_ k hlt
          have HT := Lib.hid (vall_take l k hlt)
          obtain ⟨pk, hpk⟩ : ∃ pk, vput l[k].toNat = pk := ⟨_, rfl⟩
          have hpl : pk.length ≤ 10 := by rw [← hpk]; exact vput_len (UInt64.toNat_lt _)
          have HPK := Lib.hid hpk
          obtain ⟨d, hd⟩ : ∃ d, vall (l.take k) = d := ⟨_, rfl⟩
          have hdl : d.length ≤ 1000 := by
            have h0 := vall_len (l.take k)
            rw [List.length_take, hd] at h0
            omega
          have HD := Lib.hid hd
          have HO' : Hid (Ob wr w4.heap.size u19 d) := by have h0 := HO.out; rw [hd] at h0; exact h0
          clear hd hpk
          go_wp2_with (first
            | (go_at_call 11; refine (rput_c _ _).mono ?_; rw [HPK.out]; rintro e w9 ⟨up, rfl, ho9, hb9⟩)
            | (at_builtin; refine wpList_app _ rfl (.tmp 61) (.tmp 63) _ rfl w4.heap.size 5 _ 1 1 Try.underlying23 info_u8 rfl (by omega) _ d.length (d.map bv) rfl (own_below HO'.out hb9) _ pk.length (pk.map bv) rfl ho9.sb (bvs_one pk) (by omega) (by simp only [maxLen]; omega) (Nat.le_trans HBW.out.size hb9.size) ?_; intro v3 w3' hown3 hg3 hat3))
          go_roundw
          case rel =>
            refine ⟨k + 1, by omega, by go_num, ?_, (below_then HBW.out HBW.out.size hb9).grown hg3 (Nat.le_trans HBW.out.size hb9.size) (own_ge HO'.out)⟩
            unfold Hid Ob
            rw [HT.out, HPK.out, HD.out]
            simpa using hown3
          case measure => simp [intOf]; omega
        · have HT : Hid (l.take k = l) := List.take_of_length_le (by omega)
          have hoa := HO.out
          rw [HT.out] at hoa
          have SA := Lib.hid hoa.sb
          have BW := Lib.hid (gthen B0.out HBW.out)
          clear hoa HO HBW
          obtain ⟨p, hp⟩ : ∃ p, vput n.toNat = p := ⟨_, rfl⟩
          have hp2 : p.length ≤ 10 := by rw [← hp]; exact vput_len n.toNat_lt
          have HP := Lib.hid hp
          obtain ⟨q, hq⟩ : ∃ q, vput (zigF m).toNat = q := ⟨_, rfl⟩
          have HQ := Lib.hid hq
          clear hp hq
          go_wp2_with fail
          refine (Put_c _ _).mono ?_
          rw [HP.out]
          rintro e x1 ⟨u1, rfl, ho1, hb1⟩
          have X1 := Lib.hid hb1
          have S1 := Lib.hid ho1.sb
          clear hb1 ho1
          go_wp2_with fail
          refine (rput_c _ _).mono ?_
          rw [HP.out]
          rintro e x2 ⟨u2, rfl, ho2, hb2⟩
          have X2 := Lib.hid (gthen X1.out hb2)
          have S2 := Lib.hid ho2.sb
          have S1' := Lib.hid (S1.out.below hb2)
          clear hb2 ho2
          go_wp2_with fail
          refine (same_c _ _ p p _ S1'.out S2.out).mono ?_
          rw [decide_eq_true rfl]
          rintro e x3 ⟨rfl, hb3⟩
          have X3 := Lib.hid (gthen X2.out hb3)
          clear hb3
          go_wp2_with fail
          refine (size_c _ _).mono ?_
          rw [HP.out]
          rintro e x4 ⟨rfl, hb4⟩
          have X4 := Lib.hid (gthen X3.out hb4)
          clear hb4
          go_wp2_with fail
          refine (rput_c _ _).mono ?_
          rw [HP.out]
          rintro e x5 ⟨u5, rfl, ho5, hb5⟩
          have X5 := Lib.hid (gthen X4.out hb5)
          obtain ⟨A5, c5, rfl, g5, g6⟩ := ho5.sb.form
          clear hb5 ho5
          go_wp2_with fail
          refine (zig_c m H1.out H2.out _).mono ?_
          rintro e x6 ⟨rfl, hb6⟩
          have X6 := Lib.hid (gthen X5.out hb6)
          clear hb6
          go_wp2_with fail
          refine (rzig_c m H1.out H2.out _).mono ?_
          rintro e x7 ⟨rfl, hb7⟩
          have X7 := Lib.hid (gthen X6.out hb7)
          clear hb7
          go_wp2_with fail
          refine (zag_c _ _).mono ?_
          rintro e x8 ⟨rfl, hb8⟩
          have X8 := Lib.hid (gthen X7.out hb8)
          clear hb8
          go_wp2_with fail
          refine (rzag_c _ _).mono ?_
          rintro e x9 ⟨rfl, hb9⟩
          have X9 := Lib.hid (gthen X8.out hb9)
          clear hb9
          go_wp2_with fail
          refine (puts_c m H1.out H2.out _).mono ?_
          rw [HQ.out]
          rintro e x10 ⟨u10, rfl, ho10, hb10⟩
          have X10 := Lib.hid (gthen X9.out hb10)
          have S10 := Lib.hid ho10.sb
          clear hb10 ho10
          go_wp2_with fail
          refine (rzig_c m H1.out H2.out _).mono ?_
          rintro e x11 ⟨rfl, hb11⟩
          have X11 := Lib.hid (gthen X10.out hb11)
          have S11 := Lib.hid (S10.out.below hb11)
          clear hb11
          go_wp2_with fail
          refine (rput_c _ _).mono ?_
          rw [HQ.out]
          rintro e x12 ⟨u12, rfl, ho12, hb12⟩
          have X12 := Lib.hid (gthen X11.out hb12)
          have S12 := Lib.hid ho12.sb
          have S12' := Lib.hid (S11.out.below hb12)
          clear hb12 ho12
          go_wp2_with fail
          refine (same_c _ _ q q _ S12'.out S12.out).mono ?_
          rw [decide_eq_true rfl]
          rintro e x13 ⟨rfl, hb13⟩
          have X13 := Lib.hid (gthen X12.out hb13)
          clear hb13
          go_wp2_with fail
          refine (all_c _ l _ ((HL.out.below BW.out).below X13.out) (by omega)).mono ?_
          rintro e x14 ⟨u14, rfl, ho14, hb14⟩
          have X14 := Lib.hid (gthen X13.out hb14)
          have S14 := Lib.hid ho14.sb
          clear hb14 ho14
          go_wp2_with fail
          refine (same_c _ _ (vall l) (vall l) _ S14.out (SA.out.below X14.out)).mono ?_
          rw [decide_eq_true rfl]
          rintro e x15 ⟨rfl, hb15⟩
          go_wp2_with fail
          go_ret
          exact ⟨rfl, gthen BW.out (gthen X14.out hb15)⟩
  · by_cases hlb : b.length ≤ 1000
    · have hll : ¬ l.length ≤ 100 := fun h => hlen ⟨hlb, h⟩
      clear hlen
      go_wp2_with fail
      go_ret
      exact ⟨rfl, B1.out⟩
    · clear hlen
      go_wp2_with fail
      go_ret
      exact ⟨rfl, B1.out⟩

theorem sw_of_row {w : World} {a : Option Addr} {len cap : Nat} {zs : List Int}
    (h : (a = none ∧ len = 0 ∧ cap = 0 ∧ zs = []) ∨ ∃ x, a = some x ∧ len ≤ cap ∧ cap ≤ maxLen ∧ zs.length = cap ∧ (∀ i, i < zs.length → w.cell? (x.add i) = some (.int .u64 (zs.getD i 0))) ∧ ∀ n ∈ zs, (Lit.int .u64 n).wf = true) :
    ∃ l : List UInt64, l.length = len ∧ Sw w (.slice a len cap) l := by
  rcases h with ⟨rfl, rfl, rfl, rfl⟩ | ⟨x, rfl, h1, h2, h3, h4, h5⟩
  · exact ⟨[], rfl, Sl.none_ 1 0 (Nat.zero_le _)⟩
  · have hlen : ((zs.take len).map fun n : Int => UInt64.ofNat n.toNat).length = len := by
      rw [List.length_map, List.length_take]; omega
    refine ⟨(zs.take len).map fun n => UInt64.ofNat n.toNat, hlen, some x, cap, by rw [hlen], by rw [hlen]; exact h1, h2, by simp, fun hp => ?_⟩
    rw [hlen] at hp
    refine ⟨x, rfl, ?_, fun j u hu => ?_⟩
    · have := h4 0 (by omega)
      rw [← add_block x 0]
      exact World.block_lt_of_cell? w _ this
    · rw [List.getElem?_map, List.getElem?_map] at hu
      by_cases hj : j < len
      · have hz : (zs.take len)[j]? = some (zs.getD j 0) := by
          rw [List.getElem?_take, if_pos hj, List.getElem?_eq_getElem (by omega)]
          simp [List.getD_eq_getElem?_getD, List.getElem?_eq_getElem (show j < zs.length by omega)]
        rw [hz] at hu
        simp only [Option.map_some, Option.some.injEq] at hu
        subst hu
        rw [h4 j (by omega)]
        have hm : zs.getD j 0 ∈ zs := by
          rw [List.getD_eq_getElem?_getD, List.getElem?_eq_getElem (show j < zs.length by omega)]
          exact List.getElem_mem _
        have hb := bounds_u64 (h5 _ hm)
        generalize zs.getD j 0 = z at *
        have : W (UInt64.ofNat z.toNat) = z := by
          unfold W
          rw [UInt64.toNat_ofNat', Nat.mod_eq_of_lt (by omega)]
          omega
        unfold wv
        rw [this]
      · have hz : (zs.take len)[j]? = none := by rw [List.getElem?_eq_none]; rw [List.length_take]; omega
        rw [hz] at hu
        cases hu
end Go.Proofs.Ytflhokgdkaophaa
