/- Parts of the proofs, joined: Sl, CrcW2, CrcT, CrcM, CrcR2, Tab. -/
import Derived.Test.YtgfnpcmehnjopaaGreatDoorT1
import Derived.Test.YtgfnpcmehnjopaaGreatDoorProg
import Derived.KernelRfl
import Derived.LoopTactic
import Derived.Deep.LoopGhost
import Derived.Deep.QuietTactic
import Derived.BigQuiet
import Derived.Outline
import Derived.Test.YtgfnpcmehnjopaaGreatDoorRows
import Derived.Lib.LaidTab
import Derived.ProofKit
import Derived.LaidMore
import Derived.OpenShut
import Derived.Stop.Joined
section
namespace Go.Proofs.YtgfnpcmehnjopaaGreatDoor
open Go.RowKit
set_option linter.unusedVariables false
set_option linter.unusedSimpArgs false
set_option maxHeartbeats 400000 in
theorem clone_c (v : Value) (l : List UInt8) (w : World) (h : Sb w v l) (hl : l.length ≤ 1073741824) :
    Calls Tryz.prog 30 #[v] w (RetB w l) := by
  obtain ⟨A, c, rfl, h1, h2⟩ := h.form
  have hq := eql_nil_u8
  cases A with
  | none =>
    have hl0 : l = [] := by
      cases l with
      | nil => rfl
      | cons x xs => obtain ⟨ad, e, _⟩ := h.at_ 0 (by simp); cases e
    subst hl0
    go_enter Tryz.func30, Tryz.ntmps30
    go_wp2
    go_ret
    exact ⟨_, rfl, Ob.nil _ _, Below.refl _ _⟩
  | some ad =>
    have H := Lib.hid h
    clear h
    go_enter Tryz.func30, Tryz.ntmps30
    go_wp2_with (at_builtin; refine wpList_app _ rfl _ _ _ rfl w.heap.size 5 _ 1 1 Tryz.underlying25 info_u8 rfl (by omega) (.slice (some ⟨w.heap.size, 0, none⟩) 0 0) 0 [] rfl (own_new w #[] _ 0 1 _ (Nat.le_refl _) rfl (by omega)) _ l.length (l.map bv) rfl (Sl.alloc H.out _) (bvs_one l) (by omega) (by simp only [maxLen]; omega) (by simp) ?_; intro v1 w1 hown1 hg1 hat1)
    go_ret
    exact ⟨_, rfl, by simpa [Ob] using hown1, ((Below.refl _ _).alloc (Nat.le_refl _) _).grown hg1 (by simp) (by simp [Value.ownBlock])⟩
set_option maxHeartbeats 400000 in
theorem equal_c (v u : Value) (l m : List UInt8) (w : World) (h : Sb w v l) (h' : Sb w u m) :
    Calls Tryz.prog 52 #[v, u] w (RetV w (.bool (decide (l = m)))) := by
  obtain ⟨A, c, rfl, h1, h2⟩ := h.form
  obtain ⟨A', c', rfl, h1', h2'⟩ := h'.form
  by_cases hlen : l.length = m.length
  · have hm : m.length ≤ 9223372036854775807 := by omega
    have H := Lib.hid h
    have H' := Lib.hid h'
    clear h h' h1 h1' h2 h2'
    have HE := Lib.hid hlen
    rw [hlen]
    clear hlen
    go_enter Tryz.func52, Tryz.ntmps52
    go_wp2
    go_loopw [13] (fun i wr => ∃ k n : Nat, k ≤ m.length ∧ i = .int .i64 k ∧ Hid (l.take k = m.take k) ∧ wr = w.drewN n) (fun i _ => m.length - (intOf i).toNat)
    case atStart => exact ⟨0, 0, Nat.zero_le _, rfl, (by simp [Hid]), rfl⟩
    case round =>
      obtain ⟨k, n, hk, rfl, hh, rfl⟩ := hrel
      by_cases hlt : k < m.length
      · have hltl : k < l.length := by rw [HE.out]; exact hlt
        obtain ⟨ad, rfl, had⟩ := H.out.at_ k hltl
        obtain ⟨ad', rfl, had'⟩ := H'.out.at_ k hlt
        by_cases he : l[k] = m[k]
        · have he' : (B l[k] != B m[k]) = false := by rw [he]; simp
          have HN := Lib.hid he
          clear he
          go_wp2
          go_quiet (fail)
          go_wp2
          go_roundw
          case rel => exact ⟨k + 1, _, by omega, by go_num, (by unfold Hid; rw [List.take_succ_eq_append_getElem hltl, List.take_succ_eq_append_getElem hlt, hh.out, HN.out]), rfl⟩
          case measure => simp [intOf]; omega
        · have he' : (B l[k] != B m[k]) = true := by rw [bne_iff_ne]; exact fun h => he (B_inj h)
          have hf : decide (l = m) = false := by simp; rintro rfl; exact he rfl
          have HF := Lib.hid hf
          clear he hf
          go_wp2
          go_quiet (fail)
          go_wp2
          go_ret
          exact ⟨by rw [HF.out]; rfl, below_drewN (below_drewN (Below.refl _ _) _) _⟩
      · have hf : decide (l = m) = true := by
          have h0 := hh.out
          rw [List.take_of_length_le (by rw [HE.out]; omega), List.take_of_length_le (by omega)] at h0
          simpa using h0
        have HF := Lib.hid hf
        clear hf
        go_wp2
        go_ret
        exact ⟨by rw [HF.out]; rfl, below_drewN (Below.refl _ _) _⟩
  · have hd : decide (l = m) = false := by simp; rintro rfl; exact hlen rfl
    rw [hd]
    have hn : ((l.length : Int) != (m.length : Int)) = true := by rw [bne_iff_ne]; omega
    clear hd hlen h h'
    go_enter Tryz.func52, Tryz.ntmps52
    go_wp2
    go_ret
    exact ⟨rfl, Below.refl _ _⟩
end Go.Proofs.YtgfnpcmehnjopaaGreatDoor
end
section
namespace Go.Proofs.YtgfnpcmehnjopaaGreatDoor
open Go.RowKit
set_option linter.unusedVariables false
set_option linter.unusedSimpArgs false
theorem more_c (s : UInt32) (v : Value) (l : List UInt8) (w : World) (ht : Tab w) (h : Sb w v l) :
    Calls Tryz.prog 55 #[.int .u32 (U s), v] w (RetV w (.int .u32 (U (moreF s l)))) := by
  obtain ⟨A, c, rfl, h1, h2⟩ := h.form
  exact (more_walk s A c l w ht h).mono fun e w' ⟨he, hw⟩ => ⟨he, hw ▸ Below.refl _ _⟩
set_option maxHeartbeats 400000 in
theorem sum_c (v : Value) (l : List UInt8) (w : World) (ht : Tab w) (h : Sb w v l) :
    Calls Tryz.prog 29 #[v] w (RetV w (.int .u32 (U (sumF l)))) := by
  have H := Lib.hid h
  have HT := Lib.hid ht
  clear h ht
  go_enter Tryz.func29, Tryz.ntmps29
  go_wp2_with (go_at_call 55; refine (more_c 0 v l _ HT.out H.out).mono ?_; rintro e w1 ⟨rfl, hb⟩)
  go_ret
  exact ⟨rfl, hb⟩
attribute [local go_sem] U_b0 U_b1 U_b2 U_b3
set_option maxHeartbeats 400000 in
theorem seal_c (v : Value) (l : List UInt8) (w : World) (ht : Tab w) (h : Sb w v l) (hl : l.length ≤ 1000000000) :
    Calls Tryz.prog 10 #[v] w (RetB w (sealF l)) := by
  have H := Lib.hid h
  have HT := Lib.hid ht
  clear h ht
  go_enter Tryz.func10, Tryz.ntmps10
  go_wp2_with (first
    | (go_at_call 29; refine (sum_c v l _ HT.out H.out).mono ?_; rintro e w1 ⟨rfl, hb1⟩)
    | (go_at_call 30; refine (clone_c v l _ (H.out.below hb1) (by omega)).mono ?_; rintro e w2 ⟨u, rfl, ho2, hb2⟩)
    | (at_builtin; refine wpList_app _ rfl _ _ _ rfl w1.heap.size 5 _ 1 1 Tryz.underlying25 info_u8 rfl (by omega) u l.length (l.map bv) rfl (own_below ho2 ((Below.refl _ _).alloc (Nat.le_refl _) _)) (.slice (some ⟨w2.heap.size, 0, none⟩) 4 4) 4 ((tail4 (sumF l)).map bv) rfl (Sl.new w2 _ _ (by simp)) (bvs_one _) (by omega) (by simp only [maxLen]; omega) (by have := hb2.size; simp; omega) ?_; intro v3 w3 ho3 hg3 hat3))
  go_ret
  have hb12 := below_then hb1 hb1.size hb2
  refine ⟨v3, rfl, by simpa [Ob, sealF, tail4] using own_base ho3 hb1.size, (hb12.alloc hb12.size _).grown hg3 (by have := hb12.size; simp; omega) fun k hk => Nat.le_trans hb1.size (own_ge ho2 k hk)⟩
set_option maxHeartbeats 400000 in
theorem open_c (v : Value) (l : List UInt8) (w : World) (ht : Tab w) (h : Sb w v l) (hl : l.length ≤ 1000000000) :
    Calls Tryz.prog 23 #[v] w (RetBE w (openF l).1 (openF l).2) := by
  obtain ⟨A, c, rfl, h1, h2⟩ := h.form
  have H := Lib.hid h
  have HT := Lib.hid ht
  clear h ht
  by_cases h4 : l.length < 4
  · have hf : openF l = ([], 2) := by simp [openF, h4]
    rw [hf]
    go_enter Tryz.func23, Tryz.ntmps23
    go_wp2
    go_ret2
    exact ⟨_, rfl, Ob.nil _ _, Below.refl _ _⟩
  · have hlt : (l.take (l.length - 4)).length = l.length - 4 := by rw [List.length_take]; omega
    have HL := Lib.hid hlt
    clear hlt
    by_cases he : sealF (l.take (l.length - 4)) = l
    · have hf : openF l = (l.take (l.length - 4), 0) := by simp [openF, h4, he]
      have hd : decide (sealF (l.take (l.length - 4)) = l) = true := by simpa using he
      rw [hf]
      clear hf he
      go_enter Tryz.func23, Tryz.ntmps23
      go_wp2_with (first
        | (go_at_call 10; refine (seal_c _ _ _ HT.out (H.out.take (l.length - 4) (by omega)) (by rw [HL.out]; omega)).mono ?_; rintro e w1 ⟨u1, rfl, ho1, hb1⟩)
        | (go_at_call 52; refine (equal_c u1 _ _ l _ ho1.sb (H.out.below hb1)).mono ?_; rintro e w2 ⟨rfl, hb2⟩)
        | (go_at_call 30; refine (clone_c _ _ _ (((H.out.take (l.length - 4) (by omega)).below hb1).below hb2) (by rw [HL.out]; omega)).mono ?_; rintro e w3 ⟨u3, rfl, ho3, hb3⟩))
      go_ret2
      have hb12 := below_then hb1 hb1.size hb2
      exact ⟨_, rfl, ho3.to hb12.size, below_then hb12 hb12.size hb3⟩
    · have hf : openF l = ([], 5) := by simp [openF, h4, he]
      have hd : decide (sealF (l.take (l.length - 4)) = l) = false := by simpa using he
      rw [hf]
      clear hf he
      go_enter Tryz.func23, Tryz.ntmps23
      go_wp2_with (first
        | (go_at_call 10; refine (seal_c _ _ _ HT.out (H.out.take (l.length - 4) (by omega)) (by rw [HL.out]; omega)).mono ?_; rintro e w1 ⟨u1, rfl, ho1, hb1⟩)
        | (go_at_call 52; refine (equal_c u1 _ _ l _ ho1.sb (H.out.below hb1)).mono ?_; rintro e w2 ⟨rfl, hb2⟩))
      go_ret2
      have hb12 := below_then hb1 hb1.size hb2
      exact ⟨_, rfl, Ob.nil _ _, hb12⟩
end Go.Proofs.YtgfnpcmehnjopaaGreatDoor
end
section
namespace Go.Proofs.YtgfnpcmehnjopaaGreatDoor
section
open Go.RowKit
set_option linter.unusedVariables false
set_option linter.unusedSimpArgs false
attribute [local go_sem] B_xor_pow
set_option maxRecDepth 100000 in
set_option maxHeartbeats 400000 in
theorem turn_c (v : Value) (l : List UInt8) (at_ : Int) (mask : UInt32) (w : World) (h : Sb w v l) (hl : l.length ≤ 1000000000) (ha : -9223372036854775808 ≤ at_) (hb : at_ ≤ 9223372036854775807) :
    Calls Tryz.prog 17 #[v, .int .i64 at_, .int .u32 (U mask)] w (RetB w (turnF at_ mask l)) := by
  have H := Lib.hid h
  clear h
  go_enter Tryz.func17, Tryz.ntmps17
  go_wp2_with (go_at_call 30; refine (clone_c _ _ _ H.out (by omega)).mono ?_; rintro e w1 ⟨u1, rfl, ho1, hb1⟩)
  obtain ⟨A, c, rfl, g1, g2⟩ := ho1.sb.form
  go_loopw [12] (fun i wr => ∃ k : Nat, k ≤ 32 ∧ i = .int .i64 k ∧ Hid (Ob wr w.heap.size (.slice A l.length c) (turnN at_ mask l k)) ∧ Below w.heap.size w wr) (fun i _ => 32 - (intOf i).toNat)
  case atStart => exact ⟨0, by omega, rfl, ho1, hb1⟩
  case round =>
    obtain ⟨k, hk, rfl, ho, hbw⟩ := hrel
    clear ho1 hb1
    by_cases hlt : k < 32
    · have HL := Lib.hid (turnN_len at_ mask l k)
      have HM := Lib.hid (U_bit mask k)
      by_cases c1 : mbit mask k = true ∧ 0 ≤ at_ + k ∧ (at_ + k) / 8 < l.length
      · obtain ⟨b1, b2, b3⟩ := c1
        have hm : bits .and .u32 (U mask / 2 ^ k) 1 = 1 := by rw [HM.out, if_pos b1]
        generalize hj : turnN at_ mask l k = o at *
        have HJ := Lib.hid hj
        clear hj hm
        have hm : bits .and .u32 (U mask / 2 ^ k) 1 = 1 := by rw [HM.out, if_pos b1]
        have b4 : ((at_ + k) / 8).toNat < o.length := by rw [HL.out]; omega
        obtain ⟨g, rfl, hg1, hg2, hc⟩ := Ob.at_ ho.out _ b4
        have hT : turnN at_ mask l (k + 1) = o.set ((at_ + k) / 8).toNat (o.getD ((at_ + k) / 8).toNat 0 ^^^ UInt8.ofNat (2 ^ ((at_ + k) % 8).toNat)) := by
          rw [turnN_succ, HJ.out]; exact if_pos ⟨b1, b2, by rw [HL.out]; exact b3⟩
        have HT := Lib.hid hT
        clear hT
        have hx : o.getD ((at_ + k) / 8).toNat 0 = o[((at_ + k) / 8).toNat] := by simp [List.getD_eq_getElem?_getD, b4]
        rw [hx] at hc
        have HX := Lib.hid hx
        clear hx
        by_cases c2 : 0 < at_
        all_goals
          go_wp2
          go_region
          go_wp2
          go_roundw
          case rel => exact ⟨k + 1, by omega, by go_num, by unfold Hid; rw [HT.out, HX.out]; exact Ob.set_ ho.out _ _, (hbw.setCell hg1 _).drew⟩
          case measure => simp [intOf]; omega
      · have HT : Hid (turnN at_ mask l (k + 1) = turnN at_ mask l k) := by
          unfold Hid; rw [turnN_succ]; exact turn1_no (by rw [HL.out]; exact c1)
        by_cases b1 : mbit mask k = true
        · have hm : bits .and .u32 (U mask / 2 ^ k) 1 = 1 := by rw [HM.out, if_pos b1]
          by_cases b5 : wrap64 (at_ + k) < 0
          · go_wp2
            go_roundw
            case rel => exact ⟨k + 1, by omega, by go_num, by unfold Hid; rw [HT.out]; exact ho.out, hbw⟩
            case measure => simp [intOf]; omega
          · have b6 : wrap64 (at_ + k) = at_ + k := by unfold wrap64 at b5 ⊢; omega
            have b7 : 0 ≤ at_ + k := by omega
            have b8 : at_ + k ≤ 9223372036854775807 := by unfold wrap64 at b6; omega
            have b9 : ¬ ((at_ + k) / 8 < l.length) := fun h => c1 ⟨b1, b7, h⟩
            clear b5 b6
            by_cases c2 : 0 < at_
            all_goals
              go_wp2
              go_roundw
              case rel => exact ⟨k + 1, by omega, by go_num, by unfold Hid; rw [HT.out]; exact ho.out, hbw⟩
              case measure => simp [intOf]; omega
        · have hm : bits .and .u32 (U mask / 2 ^ k) 1 = 0 := by rw [HM.out, if_neg b1]
          go_wp2
          go_roundw
          case rel => exact ⟨k + 1, by omega, by go_num, by unfold Hid; rw [HT.out]; exact ho.out, hbw⟩
          case measure => simp [intOf]; omega
    · have hk : k = 32 := by omega
      subst hk
      go_wp2
      go_ret
      exact ⟨_, rfl, by unfold turnF; have := ho.out; unfold Ob at this ⊢; rw [turnN_len] at this ⊢; exact this, hbw⟩
end
section
open Go.RowKit
set_option linter.unusedVariables false
set_option linter.unusedSimpArgs false
def bitN (n k : Nat) : Int := ((n / 2 ^ k % 2 : Nat) : Int)
set_option maxRecDepth 100000 in
set_option maxHeartbeats 400000 in
theorem rbit_c (x : UInt8) (k : Int) (w : World) (h0 : 0 ≤ k) (h1 : k ≤ 8) :
    Calls Tryz.prog 56 #[.int .u8 (B x), .int .i64 k] w fun e w' => e = .returned (.int .u32 (bitN x.toNat k.toNat)) ∧ w = w' := by
  obtain ⟨K, rfl⟩ := Int.eq_ofNat_of_zero_le h0
  rw [Int.toNat_natCast]
  have hK : K ≤ 8 := by omega
  clear h0 h1
  unfold B
  generalize hn : x.toNat = n
  have hlt : n < 256 := by rw [← hn]; exact x.toNat_lt
  clear hn
  go_enter Tryz.func56, Tryz.ntmps56
  go_wp2
  go_loop [0, 5] (fun v i => ∃ j y : Nat, j ≤ K ∧ y < 256 ∧ i = .int .i64 j ∧ v = .int .u8 y ∧ Hid (y = n / 2 ^ j)) (fun _ i => K - (intOf i).toNat)
  case atStart => exact ⟨0, n, Nat.zero_le _, hlt, rfl, rfl, by simp [Hid]⟩
  case round =>
    obtain ⟨j, y, hj, hy, rfl, rfl, hyy⟩ := hrel
    by_cases hjk : j < K
    · go_wp2
      go_round
      case rel => exact ⟨j + 1, y / 2, by omega, by omega, by go_num, by go_num, by unfold Hid; rw [hyy.out, Nat.pow_succ, Nat.div_div_eq_div_mul]⟩
      case measure => simp [intOf]; omega
    · have e : j = K := by omega
      subst e
      go_wp2
      go_ret
      refine ⟨?_, rfl⟩
      have : bitN n j = (y : Int) % 2 := by unfold bitN; rw [← hyy.out]; rfl
      rw [this]
      rfl
def rbit1 (c : UInt32) (x : UInt8) (k : Nat) : UInt32 := if ((c.toNat % 2 : Nat) : Int) ≠ bitN x.toNat k then c >>> 1 ^^^ 2197175160 else c >>> 1
def rbyteN (c : UInt32) (x : UInt8) (k : Nat) : UInt32 := (List.range k).foldl (fun c k => rbit1 c x k) c
theorem rbyteN_succ (c : UInt32) (x : UInt8) (k : Nat) : rbyteN c x (k + 1) = rbit1 (rbyteN c x k) x k := by
  unfold rbyteN; rw [List.range_succ, List.foldl_append]; rfl
def rsumF (l : List UInt8) : UInt32 := ~~~(l.foldl (fun c x => rbyteN c x 8) 4294967295)
theorem U_mod2 (c : UInt32) : U c % 2 = ((c.toNat % 2 : Nat) : Int) := by unfold U; omega
theorem fold_take (f : UInt32 → UInt8 → UInt32) (c : UInt32) (l : List UInt8) (k : Nat) (h : k < l.length) : (l.take (k + 1)).foldl f c = f ((l.take k).foldl f c) l[k] := by
  rw [List.take_succ_eq_append_getElem h, List.foldl_append]; rfl
theorem U_tdiv2 (a : UInt32) : (U a).tdiv (2 : Int) % (4294967296 : Int) = U (a >>> 1) := by
  have h0 := U_lo a
  have h1 := U_hi a
  rw [Int.tdiv_eq_ediv_of_nonneg h0, U_half]
  have h2 := U_lo (a >>> 1)
  have h3 := U_hi (a >>> 1)
  omega
theorem U_tmod2 (c : UInt32) : (U c).tmod 2 = ((c.toNat % 2 : Nat) : Int) := by rw [Int.tmod_eq_emod_of_nonneg (U_lo c), U_mod2]
theorem U_wrap (a : UInt32) : U a % (4294967296 : Int) = U a := by have := U_lo a; have := U_hi a; omega
theorem U_poly (a : UInt32) : bits .xor .u32 (U a) 2197175160 = U (a ^^^ 2197175160) := U_xor a 2197175160
attribute [local go_sem] U_tdiv2 U_poly U_flip U_wrap
set_option maxRecDepth 100000 in
set_option maxHeartbeats 1000000 in
theorem rsum_c (v : Value) (l : List UInt8) (w : World) (h : Sb w v l) :
    Calls Tryz.prog 31 #[v] w (RetV w (.int .u32 (U (rsumF l)))) := by
  obtain ⟨A, c, rfl, h1, h2⟩ := h.form
  have H := Lib.hid h
  have hlen : l.length ≤ 9223372036854775807 := h.max
  clear h
  go_enter Tryz.func31, Tryz.ntmps31
  go_wp2
  have hU : (4294967295 : Int) = U 4294967295 := rfl
  go_loop [3, 4] (fun c i => ∃ (k : Nat) (u : UInt32), k ≤ l.length ∧ i = .int .i64 k ∧ c = .int .u32 (U u) ∧ Hid (u = (l.take k).foldl (fun c x => rbyteN c x 8) 4294967295)) (fun _ i => l.length - (intOf i).toNat)
  case atStart => exact ⟨0, 4294967295, Nat.zero_le _, rfl, rfl, by simp [Hid]⟩
  case round =>
    obtain ⟨k, u, hk, rfl, rfl, hu⟩ := hrel
    clear hU
    by_cases hlt : k < l.length
    · obtain ⟨ad, rfl, had⟩ := Sb.at_ H.out k hlt
      go_wp2
      go_loop [3, 5] (fun c i => ∃ (j : Nat) (u1 : UInt32), j ≤ 8 ∧ i = .int .i64 j ∧ c = .int .u32 (U u1) ∧ Hid (u1 = rbyteN u l[k] j)) (fun _ i => 8 - (intOf i).toNat)
      case atStart => exact ⟨0, u, by omega, rfl, rfl, by simp [Hid, rbyteN]⟩
      case round =>
        obtain ⟨j, u1, hj, rfl, rfl, hu1⟩ := hrel
        by_cases hjl : j < 8
        · have hs := rbyteN_succ u l[k] j
          rw [← hu1.out] at hs
          have HS := Lib.hid hs
          clear hs
          have HM := Lib.hid (U_tmod2 u1)
          by_cases hb : ((u1.toNat % 2 : Nat) : Int) = bitN l[k].toNat j
          · have hn : ((U u1).tmod 2 != bitN l[k].toNat j) = false := by rw [HM.out, hb]; simp
            have HB : Hid (rbit1 u1 l[k] j = u1 >>> 1) := by unfold Hid rbit1; rw [if_neg (by simpa using hb)]
            clear hb
            go_wp2_with (go_at_call 56; refine (rbit_c l[k] (j : Int) _ (by omega) (by omega)).mono ?_; rw [Int.toNat_natCast]; rintro e w1 ⟨rfl, rfl⟩)
            go_round
            case rel => exact ⟨j + 1, u1 >>> 1, by omega, by go_num, by rw [U_tdiv2], by unfold Hid; rw [HS.out, HB.out]⟩
            case measure => simp [intOf]; omega
          · have hn : ((U u1).tmod 2 != bitN l[k].toNat j) = true := by rw [HM.out, bne_iff_ne]; exact hb
            have HB : Hid (rbit1 u1 l[k] j = u1 >>> 1 ^^^ 2197175160) := by unfold Hid rbit1; rw [if_pos (by simpa using hb)]
            clear hb
            go_wp2_with (go_at_call 56; refine (rbit_c l[k] (j : Int) _ (by omega) (by omega)).mono ?_; rw [Int.toNat_natCast]; rintro e w1 ⟨rfl, rfl⟩)
            go_round
            case rel => exact ⟨j + 1, _, by omega, by go_num, rfl, by unfold Hid; rw [HS.out, HB.out]⟩
            case measure => simp [intOf]; omega
        · have e : j = 8 := by omega
          subst e
          have HF := Lib.hid (fold_take (fun c x => rbyteN c x 8) 4294967295 l k hlt)
          go_wp2
          go_round
          case rel => exact ⟨k + 1, _, by omega, by go_num, rfl, by unfold Hid; rw [HF.out, ← hu.out, hu1.out]⟩
          case measure => simp [intOf]; omega
    · have hk2 : l.take k = l := List.take_of_length_le (by omega)
      rw [hk2] at hu
      have hh := U_hi u
      have hl := U_lo u
      go_wp2
      go_ret
      refine ⟨?_, Below.refl _ _⟩
      have : rsumF l = ~~~u := by unfold rsumF; rw [← hu.out]
      rw [this]
      rfl
end
section
open Go.RowKit
set_option linter.unusedVariables false
set_option linter.unusedSimpArgs false
def rsealF (l : List UInt8) : List UInt8 := l ++ tail4 (rsumF l)
def ropenF (l : List UInt8) : List UInt8 × Int :=
  if l.length < 4 then ([], 2) else if rsealF (l.take (l.length - 4)) = l then (l.take (l.length - 4), 0) else ([], 5)
theorem U_tmod256 (a : UInt32) : (U a).tmod (256 : Int) = B a.toUInt8 := by rw [Int.tmod_eq_emod_of_nonneg (U_lo a), U_b0]
theorem U_tdiv_8 (a : UInt32) : (U a).tdiv (256 : Int) % (4294967296 : Int) = U (a >>> 8) := by
  have h2 := U_lo (a >>> 8)
  have h3 := U_hi (a >>> 8)
  rw [Int.tdiv_eq_ediv_of_nonneg (U_lo a), U_shr8]
  omega
theorem U_tdiv_16 (a : UInt32) : (U a).tdiv (65536 : Int) % (4294967296 : Int) = U (a >>> 16) := by
  have h2 := U_lo (a >>> 16)
  have h3 := U_hi (a >>> 16)
  rw [Int.tdiv_eq_ediv_of_nonneg (U_lo a), U_shr16]
  omega
theorem U_tdiv_24 (a : UInt32) : (U a).tdiv (16777216 : Int) % (4294967296 : Int) = U (a >>> 24) := by
  have h2 := U_lo (a >>> 24)
  have h3 := U_hi (a >>> 24)
  rw [Int.tdiv_eq_ediv_of_nonneg (U_lo a), U_shr24]
  omega
theorem B_wrap (a : UInt8) : B a % (256 : Int) = B a := by have := B_lo a; have := B_hi a; omega
attribute [local go_sem] U_tmod256 U_tdiv_8 U_tdiv_16 U_tdiv_24 B_wrap U_b0
set_option maxRecDepth 100000 in
set_option maxHeartbeats 1000000 in
theorem rseal_c (v : Value) (l : List UInt8) (w : World) (h : Sb w v l) (hl : l.length ≤ 1000000000) :
    Calls Tryz.prog 11 #[v] w (RetB w (rsealF l)) := by
  have H := Lib.hid h
  clear h
  go_enter Tryz.func11, Tryz.ntmps11
  go_wp2_with fail
  refine (rsum_c v l _ H.out).mono ?_
  rintro e w1 ⟨rfl, hb1⟩
  go_wp2_with (first
    | (at_builtin; refine wpList_app _ rfl (.tmp 6) (.tmp 7) _ rfl w1.heap.size 5 _ 1 1 Tryz.underlying25 info_u8 rfl (by omega) (.slice (some ⟨w1.heap.size, 0, none⟩) 0 0) 0 [] rfl (own_new w1 #[] _ 0 1 _ (Nat.le_refl _) rfl (by omega)) _ l.length (l.map bv) rfl (Sl.alloc (H.out.below hb1) _) (bvs_one l) (by omega) (by simp only [maxLen]; omega) (by simp) ?_; intro v2 w2 hown2 hg2 hat2; have hb2 := ((Below.refl w1.heap.size w1).alloc (Nat.le_refl _) _).grown hg2 (by simp) (by simp [Value.ownBlock]))
    | (at_builtin; refine wpList_app _ rfl (.tmp 8) (.tmp 23) _ rfl w1.heap.size 5 _ 1 1 Tryz.underlying25 info_u8 rfl (by omega) v2 _ _ rfl (own_below hown2 ((Below.refl _ _).alloc (Nat.le_refl _) _)) (.slice (some ⟨w2.heap.size, 0, none⟩) 4 4) 4 ((tail4 (rsumF l)).map bv) rfl (Sl.new w2 _ _ (by simp)) (bvs_one _) (by omega) (by simp only [maxLen]; omega) (by have := hb2.size; simp; omega) ?_; intro v3 w3 hown3 hg3 hat3))
  go_ret
  have hb13 := (hb2.alloc hb2.size (Obj.cells #[.int .u8 (B (rsumF l).toUInt8), .int .u8 (B (rsumF l >>> 8).toUInt8), .int .u8 (B (rsumF l >>> 16).toUInt8), .int .u8 (B (rsumF l >>> 24).toUInt8)] 5)).grown hg3 (by have := hb2.size; simp; omega) fun k hk => own_ge hown2 k hk
  refine ⟨v3, rfl, ?_, gthen hb1 hb13⟩
  have := own_base hown3 hb1.size
  unfold Ob rsealF
  simpa [tail4, Nat.add_assoc] using this
end
end Go.Proofs.YtgfnpcmehnjopaaGreatDoor
end
section
namespace Go.Proofs.YtgfnpcmehnjopaaGreatDoor
section
set_option linter.unusedVariables false
set_option linter.unusedSimpArgs false
def poly : BitVec 32 := 0x82f63b78#32
def t1 (c : BitVec 32) : BitVec 32 := (c >>> 1) ^^^ (if c.getLsbD 0 then poly else 0#32)
def t1n : Nat → BitVec 32 → BitVec 32
  | 0, c => c
  | n + 1, c => t1n n (t1 c)
theorem xlc (a b c : BitVec 32) : a ^^^ (b ^^^ c) = b ^^^ (a ^^^ c) := by rw [← BitVec.xor_assoc, BitVec.xor_comm a b, BitVec.xor_assoc]
theorem t1_xor (a b : BitVec 32) : t1 (a ^^^ b) = t1 a ^^^ t1 b := by
  apply BitVec.eq_of_getLsbD_eq
  intro i hi
  unfold t1
  rw [BitVec.getLsbD_xor (x := a) (y := b) (i := 0)]
  cases a.getLsbD 0 <;> cases b.getLsbD 0 <;> simp only [BitVec.getLsbD_xor, BitVec.getLsbD_ushiftRight, Bool.xor_false, Bool.false_xor, Bool.xor_true, Bool.true_xor, Bool.not_true, Bool.not_false, if_true, if_false, Bool.false_eq_true, BitVec.getLsbD_zero] <;>
    cases a.getLsbD (1 + i) <;> cases b.getLsbD (1 + i) <;> cases poly.getLsbD i <;> rfl
theorem t1_zero : t1 0#32 = 0#32 := by decide
theorem t1_eq_zero {a : BitVec 32} (h : t1 a = 0#32) : a = 0#32 := by
  have h31 := congrArg (fun x : BitVec 32 => x.getLsbD 31) h
  have ha : a.getLsbD 0 = false := by
    cases h0 : a.getLsbD 0 with
    | false => rfl
    | true =>
      exfalso
      simp only [t1, h0, if_true, BitVec.getLsbD_xor, BitVec.getLsbD_ushiftRight, BitVec.getLsbD_zero] at h31
      have hp : poly.getLsbD 31 = true := by decide
      rw [hp, BitVec.getLsbD_of_ge a (1 + 31) (by omega)] at h31
      simp at h31
  apply BitVec.eq_of_getLsbD_eq
  intro i hi
  rw [BitVec.getLsbD_zero]
  cases i with
  | zero => exact ha
  | succ j =>
    have := congrArg (fun x : BitVec 32 => x.getLsbD j) h
    simp only [t1, ha, BitVec.getLsbD_xor, BitVec.getLsbD_ushiftRight, BitVec.getLsbD_zero] at this
    rw [Nat.add_comm]
    simpa using this
theorem t1_shl {y : BitVec 32} (h : y.getLsbD 31 = false) : t1 (y <<< 1) = y := by
  have h0 : (y <<< 1).getLsbD 0 = false := by rw [BitVec.getLsbD_shiftLeft]; simp
  apply BitVec.eq_of_getLsbD_eq
  intro i hi
  simp only [t1, h0, BitVec.getLsbD_xor, BitVec.getLsbD_ushiftRight, BitVec.getLsbD_shiftLeft]
  by_cases h31 : i = 31
  · subst h31; rw [h]; simp
  · have : 1 + i < 32 := by omega
    simp [this]
theorem t1n_xor (n : Nat) : ∀ a b : BitVec 32, t1n n (a ^^^ b) = t1n n a ^^^ t1n n b := by
  induction n with
  | zero => intro a b; rfl
  | succ n ih => intro a b; simp only [t1n, t1_xor, ih]
theorem t1n_zero (n : Nat) : t1n n 0#32 = 0#32 := by
  induction n with
  | zero => rfl
  | succ n ih => simp only [t1n, t1_zero, ih]
theorem t1n_eq_zero (n : Nat) : ∀ {a : BitVec 32}, t1n n a = 0#32 → a = 0#32 := by
  induction n with
  | zero => intro a h; exact h
  | succ n ih => intro a h; exact t1_eq_zero (ih h)
theorem t1n_add (n m : Nat) : ∀ a : BitVec 32, t1n (n + m) a = t1n m (t1n n a) := by
  induction n with
  | zero => intro a; rw [Nat.zero_add]; rfl
  | succ n ih => intro a; rw [Nat.add_right_comm]; simp only [t1n, ih]
def b2w (b : Bool) : BitVec 32 := if b then 1#32 else 0#32
def reg (c : BitVec 32) (bs : List Bool) : BitVec 32 := bs.foldl (fun c b => t1 (c ^^^ b2w b)) c
def word : List Bool → BitVec 32
  | [] => 0#32
  | b :: bs => b2w b ^^^ (word bs <<< 1)
theorem b2w_bit (b : Bool) (i : Nat) : (b2w b).getLsbD i = (decide (i = 0) && b) := by
  cases b <;> cases i <;> simp [b2w]
theorem word_bit : ∀ (bs : List Bool) (i : Nat), i < 32 → (word bs).getLsbD i = bs.getD i false
  | [], i, _ => by simp [word]
  | b :: bs, 0, _ => by
    simp only [word, BitVec.getLsbD_xor, b2w_bit, BitVec.getLsbD_shiftLeft]
    simp
  | b :: bs, i + 1, h => by
    have ih := word_bit bs i (by omega)
    simp only [word, BitVec.getLsbD_xor, b2w_bit, BitVec.getLsbD_shiftLeft]
    simp [ih, h]
theorem reg_feed : ∀ (bs : List Bool) (c : BitVec 32), bs.length ≤ 32 → reg c bs = t1n bs.length (c ^^^ word bs)
  | [], c, _ => by simp [reg, word, t1n]
  | b :: bs, c, h => by
    have h31 : (word bs).getLsbD 31 = false := by
      rw [word_bit _ _ (by omega), List.getD_eq_getElem?_getD, List.getElem?_eq_none (by simp at h; omega)]; rfl
    have ih := reg_feed bs (t1 (c ^^^ b2w b)) (by simp at h; omega)
    simp only [reg, List.foldl_cons] at ih ⊢
    rw [ih]
    simp only [List.length_cons, t1n, word]
    rw [← BitVec.xor_assoc, t1_xor (c ^^^ b2w b), t1_shl h31]
theorem reg_append (c : BitVec 32) (as0 bs : List Bool) : reg c (as0 ++ bs) = reg (reg c as0) bs := List.foldl_append ..
theorem reg_xor : ∀ (as0 bs : List Bool) (c d : BitVec 32), as0.length = bs.length → reg (c ^^^ d) (List.zipWith xor as0 bs) = reg c as0 ^^^ reg d bs
  | [], [], c, d, _ => rfl
  | a :: as0, b :: bs, c, d, h => by
    have hb : b2w (xor a b) = b2w a ^^^ b2w b := by cases a <;> cases b <;> decide
    have ih := reg_xor as0 bs (t1 (c ^^^ b2w a)) (t1 (d ^^^ b2w b)) (by simpa using h)
    simp only [reg, List.zipWith_cons_cons, List.foldl_cons] at ih ⊢
    rw [← ih, ← t1_xor, hb]
    congr 2
    rw [BitVec.xor_assoc, BitVec.xor_assoc, xlc d]
  | [], _ :: _, _, _, h => by simp at h
  | _ :: _, [], _, _, h => by simp at h
theorem reg_false (n : Nat) : ∀ c : BitVec 32, reg c (List.replicate n false) = t1n n c := by
  induction n with
  | zero => intro c; rfl
  | succ n ih =>
    intro c
    have hb : b2w false = 0#32 := rfl
    have := ih (t1 c)
    simp only [reg, List.replicate_succ, List.foldl_cons, hb, BitVec.xor_zero, t1n] at this ⊢
    exact this
theorem burst_reg (es : List Bool) (A : Nat) (hw : ∀ p, es.getD p false = true → A ≤ p ∧ p < A + 32) (p : Nat) (hp : es.getD p false = true) : reg 0#32 es ≠ 0#32 := by
  have allf : ∀ l : List Bool, (∀ i, l.getD i false = false) → l = List.replicate l.length false := by
    intro l h
    apply List.eq_replicate_iff.2
    refine ⟨rfl, fun b hb => ?_⟩
    obtain ⟨i, hi, rfl⟩ := List.mem_iff_getElem.1 hb
    have := h i
    rwa [List.getD_eq_getElem?_getD, List.getElem?_eq_getElem hi] at this
  have h1 : es.take A = List.replicate (es.take A).length false := allf _ fun i => by
    by_cases hi : i < A
    · rw [List.getD_eq_getElem?_getD, List.getElem?_take, if_pos hi, ← List.getD_eq_getElem?_getD]
      cases hq : es.getD i false with
      | false => rfl
      | true => have := hw i hq; omega
    · rw [List.getD_eq_getElem?_getD, List.getElem?_take, if_neg hi]; rfl
  have h3 : (es.drop A).drop 32 = List.replicate ((es.drop A).drop 32).length false := allf _ fun i => by
    rw [List.getD_eq_getElem?_getD, List.getElem?_drop, List.getElem?_drop, ← List.getD_eq_getElem?_getD]
    cases hq : es.getD (A + (32 + i)) false with
    | false => rfl
    | true => have := hw _ hq; omega
  have hs : es = es.take A ++ ((es.drop A).take 32 ++ (es.drop A).drop 32) := by rw [List.take_append_drop, List.take_append_drop]
  rw [hs, reg_append, reg_append, h1, reg_false, t1n_zero, h3, reg_false, reg_feed _ _ (by simp; omega)]
  intro h0
  have h4 := t1n_eq_zero _ (t1n_eq_zero _ h0)
  rw [BitVec.zero_xor] at h4
  have hb := hw p hp
  have h5 := word_bit ((es.drop A).take 32) (p - A) (by omega)
  rw [h4, BitVec.getLsbD_zero, List.getD_eq_getElem?_getD, List.getElem?_take, if_pos (by omega), List.getElem?_drop, show A + (p - A) = p from by omega, ← List.getD_eq_getElem?_getD, hp] at h5
  cases h5
end
section
set_option linter.unusedVariables false
set_option linter.unusedSimpArgs false
def bits8 (x : UInt8) : List Bool := (List.range 8).map fun r => x.toNat.testBit r
def bitsOf (l : List UInt8) : List Bool := l.flatMap bits8
def bitAt (l : List UInt8) (p : Nat) : Bool := (l.getD (p / 8) 0).toNat.testBit (p % 8)
theorem bits8_len (x : UInt8) : (bits8 x).length = 8 := by simp [bits8]
theorem bitsOf_len (l : List UInt8) : (bitsOf l).length = 8 * l.length := by
  induction l with
  | nil => rfl
  | cons x l ih => simp only [bitsOf, List.flatMap_cons, List.length_append, List.length_cons] at ih ⊢; rw [ih, bits8_len]; omega
theorem bits8_get (x : UInt8) (r : Nat) (h : r < 8) : (bits8 x)[r]? = some (x.toNat.testBit r) := by
  simp [bits8, h]
theorem bitsOf_get : ∀ (l : List UInt8) (p : Nat), p < 8 * l.length → (bitsOf l)[p]? = some (bitAt l p)
  | [], p, h => by simp at h
  | x :: l, p, h => by
    have he : bitsOf (x :: l) = bits8 x ++ bitsOf l := by simp [bitsOf]
    rw [he]
    by_cases hp : p < 8
    · rw [List.getElem?_append_left (by rw [bits8_len]; exact hp), bits8_get x p hp]
      unfold bitAt
      rw [show p / 8 = 0 from by omega, show p % 8 = p from by omega]
      rfl
    · rw [List.getElem?_append_right (by rw [bits8_len]; omega), bits8_len, bitsOf_get l (p - 8) (by simp at h; omega)]
      unfold bitAt
      rw [show p / 8 = (p - 8) / 8 + 1 from by omega, show p % 8 = (p - 8) % 8 from by omega]
      simp
theorem byte_ext {x y : UInt8} (h : ∀ r, r < 8 → x.toNat.testBit r = y.toNat.testBit r) : x = y := by
  apply UInt8.toNat_inj.1
  apply Nat.eq_of_testBit_eq
  intro r
  by_cases hr : r < 8
  · exact h r hr
  · have hx := x.toNat_lt
    have hy := y.toNat_lt
    have h2 : 2 ^ 8 ≤ 2 ^ r := Nat.pow_le_pow_right (by omega) (by omega)
    rw [Nat.testBit_lt_two_pow (by omega), Nat.testBit_lt_two_pow (by omega)]
theorem list_bits_ext {l m : List UInt8} (hl : l.length = m.length) (h : ∀ p, p < 8 * l.length → bitAt l p = bitAt m p) : l = m := by
  apply List.ext_getElem hl
  intro i h1 h2
  apply byte_ext
  intro r hr
  have := h (8 * i + r) (by omega)
  unfold bitAt at this
  rw [show (8 * i + r) / 8 = i from by omega, show (8 * i + r) % 8 = r from by omega] at this
  simpa [List.getD_eq_getElem?_getD, h1, h2] using this
def eK (at_ : Int) (m : UInt32) (k p : Nat) : Bool := decide (at_ ≤ p ∧ (p : Int) < at_ + k) && mbit m ((p : Int) - at_).toNat
theorem xor_pow_bit (x : UInt8) (j r : Nat) (hj : j < 8) : (x ^^^ UInt8.ofNat (2 ^ j)).toNat.testBit r = xor (x.toNat.testBit r) (decide (j = r)) := by
  have h2 : 2 ^ j < 2 ^ 8 := Nat.pow_lt_pow_right (by omega) hj
  rw [UInt8.toNat_xor, Nat.testBit_xor, UInt8.toNat_ofNat', Nat.mod_eq_of_lt h2, Nat.testBit_two_pow]
theorem turnN_bit (at_ : Int) (m : UInt32) (l : List UInt8) (k p : Nat) (hp : p < 8 * l.length) : bitAt (turnN at_ m l k) p = xor (bitAt l p) (eK at_ m k p) := by
  induction k with
  | zero =>
    have : eK at_ m 0 p = false := by
      have : ¬ (at_ ≤ p ∧ (p : Int) < at_ + (0 : Nat)) := by omega
      unfold eK
      rw [decide_eq_false this]; rfl
    rw [this, Bool.xor_false]; rfl
  | succ k ih =>
    rw [turnN_succ]
    have hlen := turnN_len at_ m l k
    generalize turnN at_ m l k = o at *
    unfold turn1
    by_cases hc : mbit m k = true ∧ 0 ≤ at_ + k ∧ (at_ + k) / 8 < o.length
    · rw [if_pos hc]
      obtain ⟨h1, h2, h3⟩ := hc
      obtain ⟨q, hq⟩ : ∃ q : Nat, at_ + k = q := ⟨(at_ + k).toNat, by omega⟩
      rw [hq] at h3 ⊢
      have e1 : ((q : Int) / 8).toNat = q / 8 := by omega
      have e2 : ((q : Int) % 8).toNat = q % 8 := by omega
      rw [e1, e2]
      have hs : eK at_ m (k + 1) p = xor (eK at_ m k p) (decide (q = p)) := by
        unfold eK
        by_cases hqp : q = p
        · subst hqp
          have i1 : (at_ ≤ q ∧ (q : Int) < at_ + (k + 1 : Nat)) := by omega
          have i2 : ¬ (at_ ≤ q ∧ (q : Int) < at_ + k) := by omega
          have i3 : ((q : Int) - at_).toNat = k := by omega
          rw [i3, h1, decide_eq_true i1, decide_eq_false i2]; simp
        · have : (at_ ≤ p ∧ (p : Int) < at_ + (k + 1 : Nat)) ↔ (at_ ≤ p ∧ (p : Int) < at_ + k) := by omega
          rw [decide_eq_false hqp, Bool.xor_false, decide_eq_decide.2 this]
      rw [hs, ← Bool.xor_assoc, ← ih]
      unfold bitAt
      by_cases hb : q / 8 = p / 8
      · rw [hb]
        have hlt : p / 8 < o.length := by omega
        rw [List.getD_eq_getElem?_getD, List.getElem?_set_self (by omega), Option.getD_some, xor_pow_bit _ _ _ (by omega)]
        congr 1
        apply decide_eq_decide.2
        omega
      · rw [List.getD_eq_getElem?_getD, List.getElem?_set_ne hb, ← List.getD_eq_getElem?_getD]
        rw [decide_eq_false (show ¬ q = p from fun e => hb (by rw [e])), Bool.xor_false]
    · rw [if_neg hc]
      have hs : eK at_ m (k + 1) p = eK at_ m k p := by
        unfold eK
        by_cases hqp : (p : Int) = at_ + k
        · have h2 : 0 ≤ at_ + k := by omega
          have h3 : (at_ + k) / 8 < o.length := by omega
          have hm : mbit m k = false := by
            cases hmk : mbit m k with
            | false => rfl
            | true => exact absurd ⟨hmk, h2, h3⟩ hc
          have i3 : ((p : Int) - at_).toNat = k := by omega
          rw [i3, hm]; simp
        · have : (at_ ≤ p ∧ (p : Int) < at_ + (k + 1 : Nat)) ↔ (at_ ≤ p ∧ (p : Int) < at_ + k) := by omega
          rw [decide_eq_decide.2 this]
      rw [hs, ih]
theorem turn_twice (at_ : Int) (m : UInt32) (l : List UInt8) : turnF at_ m (turnF at_ m l) = l := by
  have hl : (turnF at_ m l).length = l.length := turnN_len ..
  have hl2 : (turnF at_ m (turnF at_ m l)).length = l.length := (turnN_len ..).trans hl
  apply list_bits_ext hl2
  intro p hp
  rw [hl2] at hp
  unfold turnF
  rw [turnN_bit _ _ _ _ _ (by rw [turnN_len]; exact hp), turnN_bit _ _ _ _ _ hp]
  cases bitAt l p <;> cases eK at_ m 32 p <;> rfl
theorem bits8_word (x : UInt8) : word (bits8 x) = x.toBitVec.setWidth 32 := by
  apply BitVec.eq_of_getLsbD_eq
  intro i hi
  rw [word_bit _ _ hi, BitVec.getLsbD_setWidth]
  by_cases h8 : i < 8
  · rw [List.getD_eq_getElem?_getD, bits8_get x i h8]
    simp [hi, BitVec.getLsbD]
  · rw [List.getD_eq_getElem?_getD, List.getElem?_eq_none (by rw [bits8_len]; omega), BitVec.getLsbD_of_ge _ _ (by omega)]
    simp
theorem four_bits : ∀ n : Fin 16, (four (UInt32.ofNat n.val)).toBitVec = t1n 4 (BitVec.ofNat 32 n.val) := by decide
theorem half_t1 (c : UInt32) : (half c).toBitVec = t1n 4 c.toBitVec := by
  have hc : c.toBitVec = (c &&& 15).toBitVec ^^^ ((((c.toBitVec >>> 4) <<< 1) <<< 1) <<< 1) <<< 1 := by
    apply BitVec.eq_of_getLsbD_eq
    intro i hi
    have h15 : (c &&& 15).toBitVec.getLsbD i = (c.toBitVec.getLsbD i && decide (i < 4)) := by
      rw [UInt32.toBitVec_and, BitVec.getLsbD_and]
      congr 1
      have : ∀ i : Fin 32, (15 : UInt32).toBitVec.getLsbD i.val = decide (i.val < 4) := by decide
      exact this ⟨i, hi⟩
    rw [BitVec.getLsbD_xor, h15]
    simp only [BitVec.getLsbD_shiftLeft, BitVec.getLsbD_ushiftRight]
    by_cases h4 : i < 4
    · have : i = 0 ∨ i = 1 ∨ i = 2 ∨ i = 3 := by omega
      rcases this with rfl | rfl | rfl | rfl <;> simp
    · obtain ⟨j, rfl⟩ : ∃ j, i = j + 4 := ⟨i - 4, by omega⟩
      have e1 : ¬ (j + 4 < 1) := by omega
      have e2 : ¬ (j + 4 - 1 < 1) := by omega
      have e3 : ¬ (j + 4 - 1 - 1 < 1) := by omega
      have e4 : ¬ (j + 4 - 1 - 1 - 1 < 1) := by omega
      have e5 : j + 4 - 1 - 1 - 1 - 1 = j := by omega
      have e6 : j + 4 < 32 := hi
      have e7 : j + 4 - 1 < 32 := by omega
      have e8 : j + 4 - 1 - 1 < 32 := by omega
      have e9 : j + 4 - 1 - 1 - 1 < 32 := by omega
      simp only [e1, e2, e3, e4, e5, e6, e7, e8, e9, h4, decide_true, decide_false, Bool.and_false, Bool.true_and, Bool.not_false, Bool.false_xor]
      rw [Nat.add_comm]
  have hy : ∀ i, 28 ≤ i → (c.toBitVec >>> 4).getLsbD i = false := fun i hi => by
    rw [BitVec.getLsbD_ushiftRight, BitVec.getLsbD_of_ge _ _ (by omega)]
  have hlow : t1n 4 (c &&& 15).toBitVec = (four (c &&& 15)).toBitVec := by
    have h := four_bits ⟨(c &&& 15).toNat, and15_lt c⟩
    have e1 : UInt32.ofNat (c &&& 15).toNat = c &&& 15 := UInt32.ofNat_toNat
    have e2 : BitVec.ofNat 32 (c &&& 15).toNat = (c &&& 15).toBitVec := BitVec.eq_of_toNat_eq (by
      rw [BitVec.toNat_ofNat]; exact Nat.mod_eq_of_lt (c &&& 15).toNat_lt)
    simp only [e1, e2] at h
    exact h.symm
  have hhi : t1n 4 (((((c.toBitVec >>> 4) <<< 1) <<< 1) <<< 1) <<< 1) = c.toBitVec >>> 4 := by
    simp only [t1n]
    rw [t1_shl, t1_shl, t1_shl, t1_shl]
    · exact hy 31 (by omega)
    · rw [BitVec.getLsbD_shiftLeft]; simp [hy 30 (by omega)]
    · rw [BitVec.getLsbD_shiftLeft, BitVec.getLsbD_shiftLeft]; simp [hy 29 (by omega)]
    · rw [BitVec.getLsbD_shiftLeft, BitVec.getLsbD_shiftLeft, BitVec.getLsbD_shiftLeft]; simp [hy 28 (by omega)]
  conv => rhs; rw [hc]
  rw [t1n_xor, hlow, hhi]
  unfold half
  rw [UInt32.toBitVec_xor, UInt32.toBitVec_shiftRight]
  rfl
theorem step1_reg (c : UInt32) (x : UInt8) : (step1 c x).toBitVec = reg c.toBitVec (bits8 x) := by
  rw [reg_feed _ _ (by rw [bits8_len]; omega), bits8_len, bits8_word]
  unfold step1
  rw [half_t1, half_t1, UInt32.toBitVec_xor, ← t1n_add]
  rfl
theorem fold_reg (l : List UInt8) : ∀ c : UInt32, (l.foldl step1 c).toBitVec = reg c.toBitVec (bitsOf l) := by
  induction l with
  | nil => intro c; rfl
  | cons x l ih =>
    intro c
    have he : bitsOf (x :: l) = bits8 x ++ bitsOf l := by simp [bitsOf]
    rw [List.foldl_cons, ih, step1_reg, he, reg_append]
theorem tail4_bits (c : UInt32) : word (bitsOf (tail4 c)) = c.toBitVec := by
  apply BitVec.eq_of_getLsbD_eq
  intro i hi
  rw [word_bit _ _ hi, List.getD_eq_getElem?_getD, bitsOf_get _ _ (by simp [tail4]; omega), Option.getD_some]
  have hs : ∀ (k r : Nat) (x : UInt32), r < 8 → k < 32 → (x >>> (UInt32.ofNat k)).toUInt8.toNat.testBit r = x.toNat.testBit (k + r) := fun k r x hr hk => by
    rw [UInt32.toNat_toUInt8, UInt32.toNat_shiftRight, UInt32.toNat_ofNat', Nat.mod_eq_of_lt (show k < 2 ^ 32 from by omega), Nat.mod_eq_of_lt hk]
    rw [show (2 : Nat) ^ 8 = 2 ^ 8 from rfl, Nat.testBit_mod_two_pow, Nat.testBit_shiftRight]
    simp [hr]
  have h0 : ∀ (r : Nat) (x : UInt32), r < 8 → x.toUInt8.toNat.testBit r = x.toNat.testBit r := fun r x hr => by
    rw [UInt32.toNat_toUInt8, Nat.testBit_mod_two_pow]
    simp [hr]
  have hb : c.toBitVec.getLsbD i = c.toNat.testBit i := rfl
  rw [hb]
  unfold bitAt tail4
  have hd : i / 8 = 0 ∨ i / 8 = 1 ∨ i / 8 = 2 ∨ i / 8 = 3 := by omega
  have hm : i % 8 < 8 := by omega
  rcases hd with h | h | h | h <;> rw [h]
  · show c.toUInt8.toNat.testBit (i % 8) = _
    rw [h0 _ _ hm, show i % 8 = i from by omega]
  · show (c >>> 8).toUInt8.toNat.testBit (i % 8) = _
    rw [show (8 : UInt32) = UInt32.ofNat 8 from rfl, hs 8 _ c hm (by omega), show 8 + i % 8 = i from by omega]
  · show (c >>> 16).toUInt8.toNat.testBit (i % 8) = _
    rw [show (16 : UInt32) = UInt32.ofNat 16 from rfl, hs 16 _ c hm (by omega), show 16 + i % 8 = i from by omega]
  · show (c >>> 24).toUInt8.toNat.testBit (i % 8) = _
    rw [show (24 : UInt32) = UInt32.ofNat 24 from rfl, hs 24 _ c hm (by omega), show 24 + i % 8 = i from by omega]
theorem seal_reg (l : List UInt8) : reg (~~~(~~~(0 : UInt32))).toBitVec [] = 0#32 ∧ reg (~~~(0 : UInt32)).toBitVec (bitsOf (sealF l)) = t1n 32 (BitVec.allOnes 32) := by
  refine ⟨rfl, ?_⟩
  have hb : bitsOf (sealF l) = bitsOf l ++ bitsOf (tail4 (sumF l)) := by simp [bitsOf, sealF]
  rw [hb, reg_append, ← fold_reg l, reg_feed _ _ (by rw [bitsOf_len]; simp [tail4]), bitsOf_len, tail4_bits]
  have hs : (sumF l).toBitVec = ~~~ (l.foldl step1 (~~~0)).toBitVec := by unfold sumF moreF; rfl
  rw [hs]
  generalize (l.foldl step1 (~~~0)).toBitVec = x
  have : x ^^^ ~~~x = BitVec.allOnes 32 := by
    apply BitVec.eq_of_getLsbD_eq
    intro i hi
    rw [BitVec.getLsbD_xor, BitVec.getLsbD_not, BitVec.getLsbD_allOnes]
    cases x.getLsbD i <;> simp [hi]
  rw [this]
  rfl
theorem openF_seal (l : List UInt8) : openF (sealF l) = (l, 0) := by
  have hl : (sealF l).length = l.length + 4 := by simp [sealF, tail4]
  have ht : (sealF l).take ((sealF l).length - 4) = l := by rw [hl, Nat.add_sub_cancel]; unfold sealF; exact List.take_left
  unfold openF
  rw [if_neg (by omega), ht, if_pos rfl]
theorem bursts_law : BurstsLaw := by
  intro l at_ m
  refine ⟨fun h => by rw [h]; exact openF_seal l, fun hne => ?_⟩
  generalize hs : sealF l = s at *
  have hlen : (turnF at_ m s).length = s.length := turnN_len ..
  refine ⟨?_, turn_twice _ _ _, hlen⟩
  have h4 : 4 ≤ s.length := by rw [← hs]; simp [sealF, tail4]
  have hno : ¬ sealF ((turnF at_ m s).take ((turnF at_ m s).length - 4)) = turnF at_ m s := by
    intro heq
    have hr1 := (seal_reg ((turnF at_ m s).take ((turnF at_ m s).length - 4))).2
    rw [heq] at hr1
    have hr2 := (seal_reg l).2
    rw [hs] at hr2
    let es := (List.range (8 * s.length)).map (eK at_ m 32)
    have hel : es.length = 8 * s.length := by simp [es]
    have hz : List.zipWith xor (bitsOf s) es = bitsOf (turnF at_ m s) := by
      apply List.ext_getElem?
      intro p
      by_cases hp : p < 8 * s.length
      · rw [List.getElem?_zipWith, bitsOf_get s p hp, bitsOf_get _ p (by rw [hlen]; exact hp)]
        have : es[p]? = some (eK at_ m 32 p) := by simp [es, hp]
        rw [this]
        unfold turnF
        rw [turnN_bit _ _ _ _ _ hp]
      · rw [List.getElem?_eq_none (by rw [List.length_zipWith, bitsOf_len, hel]; omega), List.getElem?_eq_none (by rw [bitsOf_len, hlen]; omega)]
    have hx := reg_xor (bitsOf s) es (~~~(0 : UInt32)).toBitVec 0#32 (by rw [bitsOf_len, hel])
    rw [hz, BitVec.xor_zero, hr1, hr2] at hx
    have h0 : reg 0#32 es = 0#32 := by
      have := congrArg (fun y => t1n 32 (BitVec.allOnes 32) ^^^ y) hx
      simp only [← BitVec.xor_assoc, BitVec.xor_self, BitVec.zero_xor] at this
      exact this.symm
    have hget : ∀ p, es.getD p false = true → p < 8 * s.length ∧ eK at_ m 32 p = true := by
      intro p hp
      by_cases hlt : p < 8 * s.length
      · refine ⟨hlt, ?_⟩
        have : es[p]? = some (eK at_ m 32 p) := by simp [es, hlt]
        rwa [List.getD_eq_getElem?_getD, this] at hp
      · rw [List.getD_eq_getElem?_getD, List.getElem?_eq_none (by omega)] at hp; cases hp
    have hex : ∃ p, es.getD p false = true := by
      apply Classical.byContradiction
      intro hn
      apply hne
      apply list_bits_ext hlen
      intro p hp
      rw [hlen] at hp
      unfold turnF
      rw [turnN_bit _ _ _ _ _ hp]
      have : eK at_ m 32 p = false := by
        cases hq : eK at_ m 32 p with
        | false => rfl
        | true =>
          exfalso
          apply hn
          refine ⟨p, ?_⟩
          have h1 : es[p]? = some (eK at_ m 32 p) := by simp [es, hp]
          rw [List.getD_eq_getElem?_getD, h1, Option.getD_some, hq]
      rw [this, Bool.xor_false]
    obtain ⟨p, hp⟩ := hex
    refine burst_reg es at_.toNat (fun q hq => ?_) p hp h0
    have := (hget q hq).2
    unfold eK at this
    rw [Bool.and_eq_true, decide_eq_true_iff] at this
    omega
  unfold openF
  rw [if_neg (by rw [hlen]; omega), if_neg hno]
end
section
set_option linter.unusedVariables false
set_option linter.unusedSimpArgs false
theorem rbit1_t1 (c : UInt32) (x : UInt8) (k : Nat) : (rbit1 c x k).toBitVec = t1 (c.toBitVec ^^^ b2w (x.toNat.testBit k)) := by
  have hs : (c.toBitVec ^^^ b2w (x.toNat.testBit k)) >>> 1 = c.toBitVec >>> 1 := by
    apply BitVec.eq_of_getLsbD_eq
    intro i hi
    rw [BitVec.getLsbD_ushiftRight, BitVec.getLsbD_ushiftRight, BitVec.getLsbD_xor, b2w_bit]
    rw [decide_eq_false (show ¬ (1 + i = 0) by omega)]; simp
  have hb : (c.toBitVec ^^^ b2w (x.toNat.testBit k)).getLsbD 0 = xor (c.toNat.testBit 0) (x.toNat.testBit k) := by
    rw [BitVec.getLsbD_xor, b2w_bit]
    simp [BitVec.getLsbD]
  unfold t1
  rw [hs, hb]
  unfold rbit1 bitN
  rw [Nat.testBit_zero, Nat.testBit_eq_decide_div_mod_eq]
  have e1 : (c >>> 1).toBitVec = c.toBitVec >>> 1 := by rw [UInt32.toBitVec_shiftRight]; rfl
  have h1 : c.toNat % 2 = 0 ∨ c.toNat % 2 = 1 := by omega
  have h2 : x.toNat / 2 ^ k % 2 = 0 ∨ x.toNat / 2 ^ k % 2 = 1 := by omega
  rcases h1 with h1 | h1 <;> rcases h2 with h2 | h2 <;> rw [h1, h2] <;> simp [e1, poly]
theorem rbyte_step1 (c : UInt32) (x : UInt8) : rbyteN c x 8 = step1 c x := by
  apply UInt32.toBitVec_inj.1
  rw [step1_reg]
  have hN : ∀ n, n ≤ 8 → (rbyteN c x n).toBitVec = reg c.toBitVec ((List.range n).map fun r => x.toNat.testBit r) := by
    intro n
    induction n with
    | zero => intro _; rfl
    | succ n ih =>
      intro h
      rw [rbyteN_succ, rbit1_t1, ih (by omega), List.range_succ, List.map_append, reg_append]
      rfl
  exact hN 8 (by omega)
theorem rsum_sum (l : List UInt8) : rsumF l = sumF l := by
  unfold rsumF sumF moreF
  have hf : (fun (c : UInt32) (x : UInt8) => rbyteN c x 8) = step1 := funext fun c => funext fun x => rbyte_step1 c x
  rw [hf]
  rfl
theorem rseal_seal (l : List UInt8) : rsealF l = sealF l := by unfold rsealF sealF; rw [rsum_sum]
theorem ropen_open (l : List UInt8) : ropenF l = openF l := by unfold ropenF openF; rw [rseal_seal]
end
end Go.Proofs.YtgfnpcmehnjopaaGreatDoor
end
section
namespace Go.Proofs.YtgfnpcmehnjopaaGreatDoor
open Go.RowKit
set_option linter.unusedVariables false
set_option linter.unusedSimpArgs false
attribute [local go_sem] U_tmod256 U_tdiv_8 U_tdiv_16 U_tdiv_24 B_wrap U_b0
set_option maxRecDepth 100000 in
set_option maxHeartbeats 1000000 in
theorem ropen_c (v : Value) (l : List UInt8) (w : World) (h : Sb w v l) (hl : l.length ≤ 1000000000) :
    Calls Tryz.prog 25 #[v] w (RetBE w (ropenF l).1 (ropenF l).2) := by
  obtain ⟨A, c, rfl, h1, h2⟩ := h.form
  have H := Lib.hid h
  clear h
  by_cases h4 : l.length < 4
  · have hf : ropenF l = ([], 2) := by simp [ropenF, h4]
    rw [hf]
    go_enter Tryz.func25, Tryz.ntmps25
    go_wp2
    go_ret2
    exact ⟨_, rfl, Ob.nil _ _, Below.refl _ _⟩
  · have hlt : (l.take (l.length - 4)).length = l.length - 4 := by rw [List.length_take]; omega
    have HL := Lib.hid hlt
    clear hlt
    by_cases he : rsealF (l.take (l.length - 4)) = l
    · have hf : ropenF l = (l.take (l.length - 4), 0) := by simp [ropenF, h4, he]
      have hd : decide (rsealF (l.take (l.length - 4)) = l) = true := by simpa using he
      rw [hf]
      clear hf he
      go_enter Tryz.func25, Tryz.ntmps25
      go_wp2_with fail
      refine (rseal_c _ _ _ (H.out.take (l.length - 4) (by omega)) (by rw [HL.out]; omega)).mono ?_
      rintro e w1 ⟨u1, rfl, ho1, hb1⟩
      go_wp2_with fail
      refine (same_c u1 _ _ l _ ho1.sb (H.out.below hb1)).mono ?_
      rintro e w2 ⟨rfl, hb2⟩
      have hb12 := gthen hb1 hb2
      have ht := Lib.hid ((H.out.below hb12).take (l.length - 4) (by omega))
      have hsl := Sl.alloc ht.out (.cells #[] 5)
      rw [HL.out] at hsl
      have HS := Lib.hid hsl
      clear hsl
      go_wp2_with (at_builtin; refine wpList_app _ rfl (.tmp 16) (.tmp 21) _ rfl w2.heap.size 5 _ 1 1 Tryz.underlying25 info_u8 rfl (by omega) (.slice (some ⟨w2.heap.size, 0, none⟩) 0 0) 0 [] rfl (own_new w2 #[] _ 0 1 _ (Nat.le_refl _) rfl (by omega)) _ (l.length - 4) ((l.take (l.length - 4)).map bv) rfl HS.out (bvs_one _) (by omega) (by simp only [maxLen]; omega) (by simp) ?_; intro v3 w3 hown3 hg3 hat3; have hb3 := ((Below.refl w2.heap.size w2).alloc (Nat.le_refl _) _).grown hg3 (by simp) (by simp [Value.ownBlock]))
      go_ret2
      refine ⟨_, rfl, ?_, gthen hb12 hb3⟩
      have h0 := own_base hown3 hb12.size
      unfold Ob
      rw [HL.out]
      simpa using h0
    · have hf : ropenF l = ([], 5) := by simp [ropenF, h4, he]
      have hd : decide (rsealF (l.take (l.length - 4)) = l) = false := by simpa using he
      rw [hf]
      clear hf he
      go_enter Tryz.func25, Tryz.ntmps25
      go_wp2_with fail
      refine (rseal_c _ _ _ (H.out.take (l.length - 4) (by omega)) (by rw [HL.out]; omega)).mono ?_
      rintro e w1 ⟨u1, rfl, ho1, hb1⟩
      go_wp2_with fail
      refine (same_c u1 _ _ l _ ho1.sb (H.out.below hb1)).mono ?_
      rintro e w2 ⟨rfl, hb2⟩
      go_wp2_with fail
      go_ret2
      exact ⟨_, rfl, Ob.nil _ _, gthen hb1 hb2⟩
end Go.Proofs.YtgfnpcmehnjopaaGreatDoor
end
section
namespace Go.Proofs.YtgfnpcmehnjopaaGreatDoor
open Go.ChangeShapes Go.WideShapes Go.ChangeAt Go.RowKit
set_option linter.unusedVariables false
set_option linter.unusedSimpArgs false
theorem gFour : Tryz.prog.globalNamed "packetboat/crc.four" = some 0 := by kernel_rfl
theorem tFour : (Tryz.prog.globals[0]?).map (·.type) = some 104 := by kernel_rfl
theorem cFour : Tryz.prog.cellsOf 104 = 16 := by kernel_rfl
theorem cU32 : Tryz.prog.cellsOf 52 = 1 := by kernel_rfl
theorem tab_nums : ∀ n : Nat, n < 16 → (tab4.map fun z : Nat => (z : Int)).getD n 0 = (((UInt32.ofNat (tab4.getD n 0)).toNat : Nat) : Int) := by decide
theorem tab_of_laid {W : World} (h : laidMetH Tryz.prog [("packetboat/crc.four", Rows.laid_packetboat_crc_four)] W) : Tab W := by
  rw [MakeChecks.laidMetH_plain _ _ _ (by kernel_rfl)] at h
  have hT : Lib.TabIs Tryz.prog W "packetboat/crc.four" .u32 (tab4.map fun z : Nat => (z : Int)) := Lib.tabIs_of_head gFour tFour Tryz.underlying104 Tryz.underlying52 cU32 cFour h
  intro i hi
  have := hT.cell gFour i.toNat (by rw [List.length_map]; exact hi)
  rw [tab_nums _ hi] at this
  exact this
end Go.Proofs.YtgfnpcmehnjopaaGreatDoor
end
