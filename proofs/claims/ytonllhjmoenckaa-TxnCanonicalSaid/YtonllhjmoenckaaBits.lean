/- Numbers of the kinds uint8, uint32, uint64 as values, and the model's bit operations on them. No program stands here. -/
import Derived.WalkKit
import Derived.Laws.BitsAllLaws
import Derived.Laws.BitsLemmas
namespace Go.Proofs.Ytonllhjmoenckaa
open Go

/-- A byte, a uint32, a uint64 as the model's integer: closed to the walk's simp. -/
def B (a : UInt8) : Int := (a.toNat : Int)
def U (a : UInt32) : Int := (a.toNat : Int)
def W (a : UInt64) : Int := (a.toNat : Int)

theorem B_nat (a : UInt8) : (B a).toNat = a.toNat := rfl
theorem U_nat (a : UInt32) : (U a).toNat = a.toNat := rfl
theorem W_nat (a : UInt64) : (W a).toNat = a.toNat := rfl
theorem B_lo (a : UInt8) : 0 ≤ B a := Int.natCast_nonneg _
theorem U_lo (a : UInt32) : 0 ≤ U a := Int.natCast_nonneg _
theorem W_lo (a : UInt64) : 0 ≤ W a := Int.natCast_nonneg _
theorem B_hi (a : UInt8) : B a < 256 := by have := a.toNat_lt; unfold B; omega
theorem U_hi (a : UInt32) : U a < 4294967296 := by have := a.toNat_lt; unfold U; omega
theorem W_hi (a : UInt64) : W a < 18446744073709551616 := by have := a.toNat_lt; unfold W; omega
theorem B_inj {a b : UInt8} (h : B a = B b) : a = b := UInt8.toNat_inj.1 (by unfold B at h; omega)
theorem U_inj {a b : UInt32} (h : U a = U b) : a = b := UInt32.toNat_inj.1 (by unfold U at h; omega)
theorem W_inj {a b : UInt64} (h : W a = W b) : a = b := UInt64.toNat_inj.1 (by unfold W at h; omega)

theorem U_xor (a b : UInt32) : bits .xor .u32 (U a) (U b) = U (a ^^^ b) := by
  unfold U; rw [u32_xor_nat _ _ a.toNat_lt b.toNat_lt, UInt32.toNat_xor]
theorem U_and (a b : UInt32) : bits .and .u32 (U a) (U b) = U (a &&& b) := by
  unfold U; rw [u32_and_nat _ _ a.toNat_lt b.toNat_lt, UInt32.toNat_and]
theorem U_and15 (a : UInt32) : bits .and .u32 (U a) 15 = U (a &&& 15) := U_and a 15
theorem U_not (a : UInt32) : bits .xor .u32 IntKind.u32.max (U a) = U (~~~a) := by
  have h : (IntKind.u32.max : Int) = U 0xffffffff := by decide
  rw [h, U_xor]
  congr 1
theorem U_xorB (a : UInt32) (b : UInt8) : bits .xor .u32 (U a) (B b) = U (a ^^^ b.toUInt32) := by
  rw [← U_xor]; rfl
theorem U_shr4 (a : UInt32) : U a / (16 : Int) = U (a >>> 4) := by
  unfold U
  rw [UInt32.toNat_shiftRight]
  show _ = ((a.toNat >>> 4 : Nat) : Int)
  rw [Nat.shiftRight_eq_div_pow]
  rfl
theorem U_xor_shr4 (a b : UInt32) : bits .xor .u32 (U a) (U b / (16 : Int)) = U (a ^^^ b >>> 4) := by rw [U_shr4, U_xor]
theorem U_b0 (a : UInt32) : U a % (256 : Int) = B a.toUInt8 := by
  unfold U B
  rw [UInt32.toNat_toUInt8]; rfl
theorem U_shr8 (a : UInt32) : U a / (256 : Int) = U (a >>> 8) := by
  unfold U
  rw [UInt32.toNat_shiftRight]
  show _ = ((a.toNat >>> 8 : Nat) : Int)
  rw [Nat.shiftRight_eq_div_pow]
  rfl
theorem U_shr16 (a : UInt32) : U a / (65536 : Int) = U (a >>> 16) := by
  unfold U
  rw [UInt32.toNat_shiftRight]
  show _ = ((a.toNat >>> 16 : Nat) : Int)
  rw [Nat.shiftRight_eq_div_pow]
  rfl
theorem U_shr24 (a : UInt32) : U a / (16777216 : Int) = U (a >>> 24) := by
  unfold U
  rw [UInt32.toNat_shiftRight]
  show _ = ((a.toNat >>> 24 : Nat) : Int)
  rw [Nat.shiftRight_eq_div_pow]
  rfl
theorem U_b1 (a : UInt32) : U a / (256 : Int) % (256 : Int) = B (a >>> 8).toUInt8 := by rw [U_shr8, U_b0]
theorem U_b2 (a : UInt32) : U a / (65536 : Int) % (256 : Int) = B (a >>> 16).toUInt8 := by rw [U_shr16, U_b0]
theorem U_b3 (a : UInt32) : U a / (16777216 : Int) % (256 : Int) = B (a >>> 24).toUInt8 := by rw [U_shr24, U_b0]
/-- The bit of number k. -/
def mbit (m : UInt32) (k : Nat) : Bool := m.toNat.testBit k
theorem U_bit (m : UInt32) (k : Nat) : bits .and .u32 (U m / 2 ^ k) 1 = if mbit m k then 1 else 0 := by
  unfold U mbit
  have h : ((m.toNat : Int) / 2 ^ k) = ((m.toNat / 2 ^ k : Nat) : Int) := by simp
  have hlt : m.toNat / 2 ^ k < 4294967296 := Nat.lt_of_le_of_lt (Nat.div_le_self _ _) m.toNat_lt
  rw [h]
  refine (u32_and_nat (m.toNat / 2 ^ k) 1 hlt (by decide)).trans ?_
  rw [Nat.and_one_is_mod, Nat.testBit_eq_decide_div_mod_eq]
  by_cases hb : m.toNat / 2 ^ k % 2 = 1
  · simp [hb]
  · have : m.toNat / 2 ^ k % 2 = 0 := by omega
    simp [this]
theorem B_xor (a b : UInt8) : bits .xor .u8 (B a) (B b) = B (a ^^^ b) := by
  unfold B; rw [u8_xor_nat _ _ a.toNat_lt b.toNat_lt, UInt8.toNat_xor]
theorem B_pow (k : Nat) : (2 : Int) ^ k % (256 : Int) = B (UInt8.ofNat (2 ^ k)) := by
  unfold B
  rw [UInt8.toNat_ofNat', Int.natCast_emod]
  simp
theorem B_xor_pow (a : UInt8) (k : Nat) : bits .xor .u8 (B a) ((2 : Int) ^ k % (256 : Int)) = B (a ^^^ UInt8.ofNat (2 ^ k)) := by rw [B_pow, B_xor]
theorem U_half (a : UInt32) : U a / (2 : Int) = U (a >>> 1) := by
  unfold U
  rw [UInt32.toNat_shiftRight]
  show _ = ((a.toNat >>> 1 : Nat) : Int)
  rw [Nat.shiftRight_eq_div_pow]
  rfl
theorem U_half_xor (a : UInt32) : bits .xor .u32 (U a / (2 : Int)) 2197175160 = U (a >>> 1 ^^^ 2197175160) := by
  rw [U_half]; exact U_xor _ 2197175160
theorem U_flip (a : UInt32) : (4294967295 : Int) - U a = U (~~~a) := by
  unfold U
  have := a.toNat_lt
  rw [UInt32.toNat_not]
  show _ = ((2 ^ 32 - 1 - a.toNat : Nat) : Int)
  omega
end Go.Proofs.Ytonllhjmoenckaa
