/- Walk through crc.Turn. -/
import Derived.Test.YtonllhjmoenckaaDoorCrcW2
namespace Go.Proofs.YtonllhjmoenckaaDoor
section
open Go.RowKit
set_option linter.unusedVariables false
set_option linter.unusedSimpArgs false
attribute [local go_sem] B_xor_pow

set_option maxRecDepth 100000 in
set_option maxHeartbeats 400000 in
theorem turn_c (v : Value) (l : List UInt8) (at_ : Int) (mask : UInt32) (w : World) (h : Sb w v l) (hl : l.length ≤ 1000000000) (ha : -9223372036854775808 ≤ at_) (hb : at_ ≤ 9223372036854775807) :
    Calls Tryd.prog 23 #[v, .int .i64 at_, .int .u32 (U mask)] w (RetB w (turnF at_ mask l)) := by
  have H := Lib.hid h
  clear h
  go_enter Tryd.func23, Tryd.ntmps23
  go_wp2_with (go_at_call 41; refine (clone_c _ _ _ H.out (by omega)).mono ?_; rintro e w1 ⟨u1, rfl, ho1, hb1⟩)
  obtain ⟨A, c, rfl, g1, g2⟩ := ho1.sb.form
  go_loopw [12] (fun i wr => ∃ k : Nat, k ≤ 32 ∧ i = .int .i64 k ∧ Hid (Ob wr w.heap.size (.slice A l.length c) (turnN at_ mask l k)) ∧ Below w.heap.size w wr) (fun i _ => 32 - (intOf i).toNat)
  case atStart => exact ⟨0, by omega, rfl, ho1, hb1⟩
  case round =>
    obtain ⟨k, hk, rfl, ho, hbw⟩ := hrel
    clear ho1 hb1
    by_cases hlt : k < 32
    · have HL := Lib.hid (turnN_len at_ mask l k)
      have HM := Lib.hid (U_bit mask k)
      by_cases c1 : mbit mask k = true ∧ 0 ≤ at_ + k ∧ (at_ + k) / 8 < l.length
      · obtain ⟨b1, b2, b3⟩ := c1
        have hm : bits .and .u32 (U mask / 2 ^ k) 1 = 1 := by rw [HM.out, if_pos b1]
        generalize hj : turnN at_ mask l k = o at *
        have HJ := Lib.hid hj
        clear hj hm
        have hm : bits .and .u32 (U mask / 2 ^ k) 1 = 1 := by rw [HM.out, if_pos b1]
        have b4 : ((at_ + k) / 8).toNat < o.length := by rw [HL.out]; omega
        obtain ⟨g, rfl, hg1, hg2, hc⟩ := Ob.at_ ho.out _ b4
        have hT : turnN at_ mask l (k + 1) = o.set ((at_ + k) / 8).toNat (o.getD ((at_ + k) / 8).toNat 0 ^^^ UInt8.ofNat (2 ^ ((at_ + k) % 8).toNat)) := by
          rw [turnN_succ, HJ.out]; exact if_pos ⟨b1, b2, by rw [HL.out]; exact b3⟩
        have HT := Lib.hid hT
        clear hT
        have hx : o.getD ((at_ + k) / 8).toNat 0 = o[((at_ + k) / 8).toNat] := by simp [List.getD_eq_getElem?_getD, b4]
        rw [hx] at hc
        have HX := Lib.hid hx
        clear hx
        by_cases c2 : 0 < at_
        all_goals
          go_wp2
          go_region
          go_wp2
          go_roundw
          case rel => exact ⟨k + 1, by omega, by go_num, by unfold Hid; rw [HT.out, HX.out]; exact Ob.set_ ho.out _ _, (hbw.setCell hg1 _).drew⟩
          case measure => simp [intOf]; omega
      · have HT : Hid (turnN at_ mask l (k + 1) = turnN at_ mask l k) := by
          unfold Hid; rw [turnN_succ]; exact turn1_no (by rw [HL.out]; exact c1)
        by_cases b1 : mbit mask k = true
        · have hm : bits .and .u32 (U mask / 2 ^ k) 1 = 1 := by rw [HM.out, if_pos b1]
          by_cases b5 : wrap64 (at_ + k) < 0
          · go_wp2
            go_roundw
            case rel => exact ⟨k + 1, by omega, by go_num, by unfold Hid; rw [HT.out]; exact ho.out, hbw⟩
            case measure => simp [intOf]; omega
          · have b6 : wrap64 (at_ + k) = at_ + k := by unfold wrap64 at b5 ⊢; omega
            have b7 : 0 ≤ at_ + k := by omega
            have b8 : at_ + k ≤ 9223372036854775807 := by unfold wrap64 at b6; omega
            have b9 : ¬ ((at_ + k) / 8 < l.length) := fun h => c1 ⟨b1, b7, h⟩
            clear b5 b6
            by_cases c2 : 0 < at_
            all_goals
              go_wp2
              go_roundw
              case rel => exact ⟨k + 1, by omega, by go_num, by unfold Hid; rw [HT.out]; exact ho.out, hbw⟩
              case measure => simp [intOf]; omega
        · have hm : bits .and .u32 (U mask / 2 ^ k) 1 = 0 := by rw [HM.out, if_neg b1]
          go_wp2
          go_roundw
          case rel => exact ⟨k + 1, by omega, by go_num, by unfold Hid; rw [HT.out]; exact ho.out, hbw⟩
          case measure => simp [intOf]; omega
    · have hk : k = 32 := by omega
      subst hk
      go_wp2
      go_ret
      exact ⟨_, rfl, by unfold turnF; have := ho.out; unfold Ob at this ⊢; rw [turnN_len] at this ⊢; exact this, hbw⟩
end

section
open Go.RowKit
set_option linter.unusedVariables false
set_option linter.unusedSimpArgs false

def bitN (n k : Nat) : Int := ((n / 2 ^ k % 2 : Nat) : Int)

set_option maxRecDepth 100000 in
set_option maxHeartbeats 400000 in
theorem rbit_c (x : UInt8) (k : Int) (w : World) (h0 : 0 ≤ k) (h1 : k ≤ 8) :
    Calls Tryd.prog 85 #[.int .u8 (B x), .int .i64 k] w fun e w' => e = .returned (.int .u32 (bitN x.toNat k.toNat)) ∧ w = w' := by
  obtain ⟨K, rfl⟩ := Int.eq_ofNat_of_zero_le h0
  rw [Int.toNat_natCast]
  have hK : K ≤ 8 := by omega
  clear h0 h1
  unfold B
  generalize hn : x.toNat = n
  have hlt : n < 256 := by rw [← hn]; exact x.toNat_lt
  clear hn
  go_enter Tryd.func85, Tryd.ntmps85
  go_wp2
  go_loop [0, 5] (fun v i => ∃ j y : Nat, j ≤ K ∧ y < 256 ∧ i = .int .i64 j ∧ v = .int .u8 y ∧ Hid (y = n / 2 ^ j)) (fun _ i => K - (intOf i).toNat)
  case atStart => exact ⟨0, n, Nat.zero_le _, hlt, rfl, rfl, by simp [Hid]⟩
  case round =>
    obtain ⟨j, y, hj, hy, rfl, rfl, hyy⟩ := hrel
    by_cases hjk : j < K
    · go_wp2
      go_round
      case rel => exact ⟨j + 1, y / 2, by omega, by omega, by go_num, by go_num, by unfold Hid; rw [hyy.out, Nat.pow_succ, Nat.div_div_eq_div_mul]⟩
      case measure => simp [intOf]; omega
    · have e : j = K := by omega
      subst e
      go_wp2
      go_ret
      refine ⟨?_, rfl⟩
      have : bitN n j = (y : Int) % 2 := by unfold bitN; rw [← hyy.out]; rfl
      rw [this]
      rfl

def rbit1 (c : UInt32) (x : UInt8) (k : Nat) : UInt32 := if ((c.toNat % 2 : Nat) : Int) ≠ bitN x.toNat k then c >>> 1 ^^^ 2197175160 else c >>> 1
def rbyteN (c : UInt32) (x : UInt8) (k : Nat) : UInt32 := (List.range k).foldl (fun c k => rbit1 c x k) c
theorem rbyteN_succ (c : UInt32) (x : UInt8) (k : Nat) : rbyteN c x (k + 1) = rbit1 (rbyteN c x k) x k := by
  unfold rbyteN; rw [List.range_succ, List.foldl_append]; rfl
def rsumF (l : List UInt8) : UInt32 := ~~~(l.foldl (fun c x => rbyteN c x 8) 4294967295)
theorem U_mod2 (c : UInt32) : U c % 2 = ((c.toNat % 2 : Nat) : Int) := by unfold U; omega
theorem fold_take (f : UInt32 → UInt8 → UInt32) (c : UInt32) (l : List UInt8) (k : Nat) (h : k < l.length) : (l.take (k + 1)).foldl f c = f ((l.take k).foldl f c) l[k] := by
  rw [List.take_succ_eq_append_getElem h, List.foldl_append]; rfl

theorem U_tdiv2 (a : UInt32) : (U a).tdiv (2 : Int) % (4294967296 : Int) = U (a >>> 1) := by
  have h0 := U_lo a
  have h1 := U_hi a
  rw [Int.tdiv_eq_ediv_of_nonneg h0, U_half]
  have h2 := U_lo (a >>> 1)
  have h3 := U_hi (a >>> 1)
  omega
theorem U_tmod2 (c : UInt32) : (U c).tmod 2 = ((c.toNat % 2 : Nat) : Int) := by rw [Int.tmod_eq_emod_of_nonneg (U_lo c), U_mod2]
theorem U_wrap (a : UInt32) : U a % (4294967296 : Int) = U a := by have := U_lo a; have := U_hi a; omega
theorem U_poly (a : UInt32) : bits .xor .u32 (U a) 2197175160 = U (a ^^^ 2197175160) := U_xor a 2197175160
attribute [local go_sem] U_tdiv2 U_poly U_flip U_wrap
set_option maxRecDepth 100000 in
set_option maxHeartbeats 1000000 in
theorem rsum_c (v : Value) (l : List UInt8) (w : World) (h : Sb w v l) :
    Calls Tryd.prog 65 #[v] w (RetV w (.int .u32 (U (rsumF l)))) := by
  obtain ⟨A, c, rfl, h1, h2⟩ := h.form
  have H := Lib.hid h
  have hlen : l.length ≤ 9223372036854775807 := h.max
  clear h
  go_enter Tryd.func65, Tryd.ntmps65
  go_wp2
  have hU : (4294967295 : Int) = U 4294967295 := rfl
  go_loop [3, 4] (fun c i => ∃ (k : Nat) (u : UInt32), k ≤ l.length ∧ i = .int .i64 k ∧ c = .int .u32 (U u) ∧ Hid (u = (l.take k).foldl (fun c x => rbyteN c x 8) 4294967295)) (fun _ i => l.length - (intOf i).toNat)
  case atStart => exact ⟨0, 4294967295, Nat.zero_le _, rfl, rfl, by simp [Hid]⟩
  case round =>
    obtain ⟨k, u, hk, rfl, rfl, hu⟩ := hrel
    clear hU
    by_cases hlt : k < l.length
    · obtain ⟨ad, rfl, had⟩ := Sb.at_ H.out k hlt
      go_wp2
      go_loop [3, 5] (fun c i => ∃ (j : Nat) (u1 : UInt32), j ≤ 8 ∧ i = .int .i64 j ∧ c = .int .u32 (U u1) ∧ Hid (u1 = rbyteN u l[k] j)) (fun _ i => 8 - (intOf i).toNat)
      case atStart => exact ⟨0, u, by omega, rfl, rfl, by simp [Hid, rbyteN]⟩
      case round =>
        obtain ⟨j, u1, hj, rfl, rfl, hu1⟩ := hrel
        by_cases hjl : j < 8
        · have hs := rbyteN_succ u l[k] j
          rw [← hu1.out] at hs
          have HS := Lib.hid hs
          clear hs
          have HM := Lib.hid (U_tmod2 u1)
          by_cases hb : ((u1.toNat % 2 : Nat) : Int) = bitN l[k].toNat j
          · have hn : ((U u1).tmod 2 != bitN l[k].toNat j) = false := by rw [HM.out, hb]; simp
            have HB : Hid (rbit1 u1 l[k] j = u1 >>> 1) := by unfold Hid rbit1; rw [if_neg (by simpa using hb)]
            clear hb
            go_wp2_with (go_at_call 85; refine (rbit_c l[k] (j : Int) _ (by omega) (by omega)).mono ?_; rw [Int.toNat_natCast]; rintro e w1 ⟨rfl, rfl⟩)
            go_round
            case rel => exact ⟨j + 1, u1 >>> 1, by omega, by go_num, by rw [U_tdiv2], by unfold Hid; rw [HS.out, HB.out]⟩
            case measure => simp [intOf]; omega
          · have hn : ((U u1).tmod 2 != bitN l[k].toNat j) = true := by rw [HM.out, bne_iff_ne]; exact hb
            have HB : Hid (rbit1 u1 l[k] j = u1 >>> 1 ^^^ 2197175160) := by unfold Hid rbit1; rw [if_pos (by simpa using hb)]
            clear hb
            go_wp2_with (go_at_call 85; refine (rbit_c l[k] (j : Int) _ (by omega) (by omega)).mono ?_; rw [Int.toNat_natCast]; rintro e w1 ⟨rfl, rfl⟩)
            go_round
            case rel => exact ⟨j + 1, _, by omega, by go_num, rfl, by unfold Hid; rw [HS.out, HB.out]⟩
            case measure => simp [intOf]; omega
        · have e : j = 8 := by omega
          subst e
          have HF := Lib.hid (fold_take (fun c x => rbyteN c x 8) 4294967295 l k hlt)
          go_wp2
          go_round
          case rel => exact ⟨k + 1, _, by omega, by go_num, rfl, by unfold Hid; rw [HF.out, ← hu.out, hu1.out]⟩
          case measure => simp [intOf]; omega
    · have hk2 : l.take k = l := List.take_of_length_le (by omega)
      rw [hk2] at hu
      have hh := U_hi u
      have hl := U_lo u
      go_wp2
      go_ret
      refine ⟨?_, Below.refl _ _⟩
      have : rsumF l = ~~~u := by unfold rsumF; rw [← hu.out]
      rw [this]
      rfl
end

section
open Go.RowKit
set_option linter.unusedVariables false
set_option linter.unusedSimpArgs false

def rsealF (l : List UInt8) : List UInt8 := l ++ tail4 (rsumF l)
def ropenF (l : List UInt8) : List UInt8 × Int :=
  if l.length < 4 then ([], 2) else if rsealF (l.take (l.length - 4)) = l then (l.take (l.length - 4), 0) else ([], 5)

theorem U_tmod256 (a : UInt32) : (U a).tmod (256 : Int) = B a.toUInt8 := by rw [Int.tmod_eq_emod_of_nonneg (U_lo a), U_b0]
theorem U_tdiv_8 (a : UInt32) : (U a).tdiv (256 : Int) % (4294967296 : Int) = U (a >>> 8) := by
  have h2 := U_lo (a >>> 8)
  have h3 := U_hi (a >>> 8)
  rw [Int.tdiv_eq_ediv_of_nonneg (U_lo a), U_shr8]
  omega
theorem U_tdiv_16 (a : UInt32) : (U a).tdiv (65536 : Int) % (4294967296 : Int) = U (a >>> 16) := by
  have h2 := U_lo (a >>> 16)
  have h3 := U_hi (a >>> 16)
  rw [Int.tdiv_eq_ediv_of_nonneg (U_lo a), U_shr16]
  omega
theorem U_tdiv_24 (a : UInt32) : (U a).tdiv (16777216 : Int) % (4294967296 : Int) = U (a >>> 24) := by
  have h2 := U_lo (a >>> 24)
  have h3 := U_hi (a >>> 24)
  rw [Int.tdiv_eq_ediv_of_nonneg (U_lo a), U_shr24]
  omega
theorem B_wrap (a : UInt8) : B a % (256 : Int) = B a := by have := B_lo a; have := B_hi a; omega

attribute [local go_sem] U_tmod256 U_tdiv_8 U_tdiv_16 U_tdiv_24 B_wrap U_b0
set_option maxRecDepth 100000 in
set_option maxHeartbeats 1000000 in
theorem rseal_c (v : Value) (l : List UInt8) (w : World) (h : Sb w v l) (hl : l.length ≤ 1000000000) :
    Calls Tryd.prog 38 #[v] w (RetB w (rsealF l)) := by
  have H := Lib.hid h
  clear h
  go_enter Tryd.func38, Tryd.ntmps38
  go_wp2_with fail
  refine (rsum_c v l _ H.out).mono ?_
  rintro e w1 ⟨rfl, hb1⟩
  go_wp2_with (first
    | (at_builtin; refine wpList_app _ rfl (.tmp 6) (.tmp 7) _ rfl w1.heap.size 5 _ 1 1 Tryd.underlying22 info_u8 rfl (by omega) (.slice (some ⟨w1.heap.size, 0, none⟩) 0 0) 0 [] rfl (own_new w1 #[] _ 0 1 _ (Nat.le_refl _) rfl (by omega)) _ l.length (l.map bv) rfl (Sl.alloc (H.out.below hb1) _) (bvs_one l) (by omega) (by simp only [maxLen]; omega) (by simp) ?_; intro v2 w2 hown2 hg2 hat2; have hb2 := ((Below.refl w1.heap.size w1).alloc (Nat.le_refl _) _).grown hg2 (by simp) (by simp [Value.ownBlock]))
    | (at_builtin; refine wpList_app _ rfl (.tmp 8) (.tmp 23) _ rfl w1.heap.size 5 _ 1 1 Tryd.underlying22 info_u8 rfl (by omega) v2 _ _ rfl (own_below hown2 ((Below.refl _ _).alloc (Nat.le_refl _) _)) (.slice (some ⟨w2.heap.size, 0, none⟩) 4 4) 4 ((tail4 (rsumF l)).map bv) rfl (Sl.new w2 _ _ (by simp)) (bvs_one _) (by omega) (by simp only [maxLen]; omega) (by have := hb2.size; simp; omega) ?_; intro v3 w3 hown3 hg3 hat3))
  go_ret
  have hb13 := (hb2.alloc hb2.size (Obj.cells #[.int .u8 (B (rsumF l).toUInt8), .int .u8 (B (rsumF l >>> 8).toUInt8), .int .u8 (B (rsumF l >>> 16).toUInt8), .int .u8 (B (rsumF l >>> 24).toUInt8)] 5)).grown hg3 (by have := hb2.size; simp; omega) fun k hk => own_ge hown2 k hk
  refine ⟨v3, rfl, ?_, gthen hb1 hb13⟩
  have := own_base hown3 hb1.size
  unfold Ob rsealF
  simpa [tail4, Nat.add_assoc] using this
end
end Go.Proofs.YtonllhjmoenckaaDoor
