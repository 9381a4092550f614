/- Walks through the reference of package crc: bit, Sum. -/
import Derived.Test.YtflhokgdkaophaaDoorCrcW2
namespace Go.Proofs.YtflhokgdkaophaaDoor
open Go.RowKit
set_option linter.unusedVariables false
set_option linter.unusedSimpArgs false

def bitN (n k : Nat) : Int := ((n / 2 ^ k % 2 : Nat) : Int)

set_option maxRecDepth 100000 in
set_option maxHeartbeats 400000 in
theorem rbit_c (x : UInt8) (k : Int) (w : World) (h0 : 0 ≤ k) (h1 : k ≤ 8) :
    Calls Tryd.prog 19 #[.int .u8 (B x), .int .i64 k] w fun e w' => e = .returned (.int .u32 (bitN x.toNat k.toNat)) ∧ w = w' := by
  obtain ⟨K, rfl⟩ := Int.eq_ofNat_of_zero_le h0
  rw [Int.toNat_natCast]
  have hK : K ≤ 8 := by omega
  clear h0 h1
  unfold B
  generalize hn : x.toNat = n
  have hlt : n < 256 := by rw [← hn]; exact x.toNat_lt
  clear hn
  go_enter Tryd.func19, Tryd.ntmps19
  go_wp2
  go_loop [0, 5] (fun v i => ∃ j y : Nat, j ≤ K ∧ y < 256 ∧ i = .int .i64 j ∧ v = .int .u8 y ∧ Hid (y = n / 2 ^ j)) (fun _ i => K - (intOf i).toNat)
  case atStart => exact ⟨0, n, Nat.zero_le _, hlt, rfl, rfl, by simp [Hid]⟩
  case round =>
    obtain ⟨j, y, hj, hy, rfl, rfl, hyy⟩ := hrel
    by_cases hjk : j < K
    · go_wp2
      go_round
      case rel => exact ⟨j + 1, y / 2, by omega, by omega, by go_num, by go_num, by unfold Hid; rw [hyy.out, Nat.pow_succ, Nat.div_div_eq_div_mul]⟩
      case measure => simp [intOf]; omega
    · have e : j = K := by omega
      subst e
      go_wp2
      go_ret
      refine ⟨?_, rfl⟩
      have : bitN n j = (y : Int) % 2 := by unfold bitN; rw [← hyy.out]; rfl
      rw [this]
      rfl

def rbit1 (c : UInt32) (x : UInt8) (k : Nat) : UInt32 := if ((c.toNat % 2 : Nat) : Int) ≠ bitN x.toNat k then c >>> 1 ^^^ 2197175160 else c >>> 1
def rbyteN (c : UInt32) (x : UInt8) (k : Nat) : UInt32 := (List.range k).foldl (fun c k => rbit1 c x k) c
theorem rbyteN_succ (c : UInt32) (x : UInt8) (k : Nat) : rbyteN c x (k + 1) = rbit1 (rbyteN c x k) x k := by
  unfold rbyteN; rw [List.range_succ, List.foldl_append]; rfl
def rsumF (l : List UInt8) : UInt32 := ~~~(l.foldl (fun c x => rbyteN c x 8) 4294967295)
theorem U_mod2 (c : UInt32) : U c % 2 = ((c.toNat % 2 : Nat) : Int) := by unfold U; omega
theorem fold_take (f : UInt32 → UInt8 → UInt32) (c : UInt32) (l : List UInt8) (k : Nat) (h : k < l.length) : (l.take (k + 1)).foldl f c = f ((l.take k).foldl f c) l[k] := by
  rw [List.take_succ_eq_append_getElem h, List.foldl_append]; rfl

theorem U_tdiv2 (a : UInt32) : (U a).tdiv (2 : Int) % (4294967296 : Int) = U (a >>> 1) := by
  have h0 := U_lo a
  have h1 := U_hi a
  rw [Int.tdiv_eq_ediv_of_nonneg h0, U_half]
  have h2 := U_lo (a >>> 1)
  have h3 := U_hi (a >>> 1)
  omega
theorem U_tmod2 (c : UInt32) : (U c).tmod 2 = ((c.toNat % 2 : Nat) : Int) := by rw [Int.tmod_eq_emod_of_nonneg (U_lo c), U_mod2]
theorem U_wrap (a : UInt32) : U a % (4294967296 : Int) = U a := by have := U_lo a; have := U_hi a; omega
theorem U_poly (a : UInt32) : bits .xor .u32 (U a) 2197175160 = U (a ^^^ 2197175160) := U_xor a 2197175160
attribute [local go_sem] U_tdiv2 U_poly U_flip U_wrap
set_option maxRecDepth 100000 in
set_option maxHeartbeats 1000000 in
theorem rsum_c (v : Value) (l : List UInt8) (w : World) (h : Sb w v l) :
    Calls Tryd.prog 10 #[v] w (RetV w (.int .u32 (U (rsumF l)))) := by
  obtain ⟨A, c, rfl, h1, h2⟩ := h.form
  have H := Lib.hid h
  have hlen : l.length ≤ 9223372036854775807 := h.max
  clear h
  go_enter Tryd.func10, Tryd.ntmps10
  go_wp2
  have hU : (4294967295 : Int) = U 4294967295 := rfl
  go_loop [3, 4] (fun c i => ∃ (k : Nat) (u : UInt32), k ≤ l.length ∧ i = .int .i64 k ∧ c = .int .u32 (U u) ∧ Hid (u = (l.take k).foldl (fun c x => rbyteN c x 8) 4294967295)) (fun _ i => l.length - (intOf i).toNat)
  case atStart => exact ⟨0, 4294967295, Nat.zero_le _, rfl, rfl, by simp [Hid]⟩
  case round =>
    obtain ⟨k, u, hk, rfl, rfl, hu⟩ := hrel
    clear hU
    by_cases hlt : k < l.length
    · obtain ⟨ad, rfl, had⟩ := Sb.at_ H.out k hlt
      go_wp2
      go_loop [3, 5] (fun c i => ∃ (j : Nat) (u1 : UInt32), j ≤ 8 ∧ i = .int .i64 j ∧ c = .int .u32 (U u1) ∧ Hid (u1 = rbyteN u l[k] j)) (fun _ i => 8 - (intOf i).toNat)
      case atStart => exact ⟨0, u, by omega, rfl, rfl, by simp [Hid, rbyteN]⟩
      case round =>
        obtain ⟨j, u1, hj, rfl, rfl, hu1⟩ := hrel
        by_cases hjl : j < 8
        · have hs := rbyteN_succ u l[k] j
          rw [← hu1.out] at hs
          have HS := Lib.hid hs
          clear hs
          have HM := Lib.hid (U_tmod2 u1)
          by_cases hb : ((u1.toNat % 2 : Nat) : Int) = bitN l[k].toNat j
          · have hn : ((U u1).tmod 2 != bitN l[k].toNat j) = false := by rw [HM.out, hb]; simp
            have HB : Hid (rbit1 u1 l[k] j = u1 >>> 1) := by unfold Hid rbit1; rw [if_neg (by simpa using hb)]
            clear hb
            go_wp2_with (go_at_call 19; refine (rbit_c l[k] (j : Int) _ (by omega) (by omega)).mono ?_; rw [Int.toNat_natCast]; rintro e w1 ⟨rfl, rfl⟩)
            go_round
            case rel => exact ⟨j + 1, u1 >>> 1, by omega, by go_num, by rw [U_tdiv2], by unfold Hid; rw [HS.out, HB.out]⟩
            case measure => simp [intOf]; omega
          · have hn : ((U u1).tmod 2 != bitN l[k].toNat j) = true := by rw [HM.out, bne_iff_ne]; exact hb
            have HB : Hid (rbit1 u1 l[k] j = u1 >>> 1 ^^^ 2197175160) := by unfold Hid rbit1; rw [if_pos (by simpa using hb)]
            clear hb
            go_wp2_with (go_at_call 19; refine (rbit_c l[k] (j : Int) _ (by omega) (by omega)).mono ?_; rw [Int.toNat_natCast]; rintro e w1 ⟨rfl, rfl⟩)
            go_round
            case rel => exact ⟨j + 1, _, by omega, by go_num, rfl, by unfold Hid; rw [HS.out, HB.out]⟩
            case measure => simp [intOf]; omega
        · have e : j = 8 := by omega
          subst e
          have HF := Lib.hid (fold_take (fun c x => rbyteN c x 8) 4294967295 l k hlt)
          go_wp2
          go_round
          case rel => exact ⟨k + 1, _, by omega, by go_num, rfl, by unfold Hid; rw [HF.out, ← hu.out, hu1.out]⟩
          case measure => simp [intOf]; omega
    · have hk2 : l.take k = l := List.take_of_length_le (by omega)
      rw [hk2] at hu
      have hh := U_hi u
      have hl := U_lo u
      go_wp2
      go_ret
      refine ⟨?_, Below.refl _ _⟩
      have : rsumF l = ~~~u := by unfold rsumF; rw [← hu.out]
      rw [this]
      rfl
end Go.Proofs.YtflhokgdkaophaaDoor
