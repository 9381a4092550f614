/- Walks: Zig and Zag, both sides. -/
import Derived.Test.YtonllhjmoenckaaDoorVintW
namespace Go.Proofs.YtonllhjmoenckaaDoor
open Go.RowKit
set_option linter.unusedVariables false
set_option linter.unusedSimpArgs false

theorem xor_u64_0 (a : Nat) (h : a < 18446744073709551616) : bits .xor .u64 (a : Int) 0 = a := by
  rw [show (0 : Int) = ((0 : Nat) : Int) from rfl, u64_xor_nat a 0 h (by decide), Nat.xor_zero]
theorem xor_u64_1 (a : Nat) (h : a < 18446744073709551616) : bits .xor .u64 (a : Int) 18446744073709551615 = 18446744073709551615 - a := by
  have e : (18446744073709551615 : Int) = ((18446744073709551615 : Nat) : Int) := rfl
  show IntKind.u64.wrap ((BitVec.ofInt 64 (a : Int) ^^^ BitVec.ofInt 64 18446744073709551615).toNat : Int) = _
  rw [show BitVec.ofInt 64 18446744073709551615 = BitVec.allOnes 64 from by decide, BitVec.xor_allOnes, BitVec.toNat_not, ofInt_u64 a h, IntKind.wrap_u64]
  omega
theorem xor_i64_0 (a : Nat) (h : a < 9223372036854775808) : bits .xor .i64 (a : Int) 0 = a := by
  show IntKind.i64.wrap ((BitVec.ofInt 64 (a : Int) ^^^ BitVec.ofInt 64 0).toNat : Int) = _
  rw [show BitVec.ofInt 64 0 = 0#64 from by decide, BitVec.xor_zero, ofInt_u64 a (by omega), IntKind.wrap_i64]
  omega
theorem xor_i64_1 (a : Nat) (h : a < 9223372036854775808) : bits .xor .i64 (a : Int) (-1) = -1 - a := by
  show IntKind.i64.wrap ((BitVec.ofInt 64 (a : Int) ^^^ BitVec.ofInt 64 (-1)).toNat : Int) = _
  rw [show BitVec.ofInt 64 (-1) = BitVec.allOnes 64 from by decide, BitVec.xor_allOnes, BitVec.toNat_not, ofInt_u64 a (by omega), IntKind.wrap_i64]
  omega
theorem and_u64_1 (a : Nat) (h : a < 18446744073709551616) : bits .and .u64 (a : Int) 1 = ((a % 2 : Nat) : Int) := by
  rw [show (1 : Int) = ((1 : Nat) : Int) from rfl, u64_and_nat a 1 h (by decide), Nat.and_one_is_mod]

theorem zig_pos {m : Int} (h : 0 ≤ m) (h2 : m < 9223372036854775808) : W (zigF m) = 2 * m := by
  unfold W zigF; rw [if_pos h, UInt64.toNat_ofNat_of_lt' (by show _ < 18446744073709551616; omega)]; omega
theorem zig_neg {m : Int} (h : ¬ 0 ≤ m) (h1 : -9223372036854775808 ≤ m) : W (zigF m) = -2 * m - 1 := by
  unfold W zigF; rw [if_neg h, UInt64.toNat_ofNat_of_lt' (by show _ < 18446744073709551616; omega)]; omega

theorem zig_c (m : Int) (h1 : -9223372036854775808 ≤ m) (h2 : m < 9223372036854775808) (w : World) :
    Calls Tryd.prog 94 #[.int .i64 m] w (RetV w (.int .u64 (W (zigF m)))) := by
  by_cases h : 0 ≤ m
  · have hz := zig_pos h h2
    rw [hz]
    clear hz
    go_enter Tryd.func94, Tryd.ntmps94
    go_wp2
    go_ret
    refine ⟨?_, Below.refl _ _⟩
    show Ending.returned (Value.int .u64 (bits BinOp.xor IntKind.u64 (m * 2) (m / 9223372036854775808))) = _
    obtain ⟨k, rfl⟩ := Int.eq_ofNat_of_zero_le h
    have e1 : (k : Int) / 9223372036854775808 = 0 := by omega
    have e2 : (k : Int) * 2 = ((k * 2 : Nat) : Int) := by omega
    rw [e1, e2, xor_u64_0 _ (by omega)]
    congr 2; omega
  · have hz := zig_neg h h1
    rw [hz]
    clear hz
    go_enter Tryd.func94, Tryd.ntmps94
    go_wp2
    go_ret
    refine ⟨?_, Below.refl _ _⟩
    show Ending.returned (Value.int .u64 (bits BinOp.xor IntKind.u64 (IntKind.u64.wrap (IntKind.u64.wrap m * 2)) (IntKind.u64.wrap (m / 9223372036854775808)))) = _
    have e1 : IntKind.u64.wrap (m / 9223372036854775808) = 18446744073709551615 := by rw [IntKind.wrap_u64]; omega
    obtain ⟨k, hk⟩ : ∃ k : Nat, (k : Int) = 2 * m + 18446744073709551616 := ⟨(2 * m + 18446744073709551616).toNat, by omega⟩
    have e2 : IntKind.u64.wrap (IntKind.u64.wrap m * 2) = (k : Int) := by rw [IntKind.wrap_u64, IntKind.wrap_u64]; omega
    rw [e1, e2, xor_u64_1 _ (by omega)]
    congr 2; omega
theorem rzig_c (m : Int) (h1 : -9223372036854775808 ≤ m) (h2 : m < 9223372036854775808) (w : World) :
    Calls Tryd.prog 87 #[.int .i64 m] w (RetV w (.int .u64 (W (zigF m)))) := by
  by_cases h : 0 ≤ m
  · have hz := zig_pos h h2
    rw [hz]
    clear hz
    go_enter Tryd.func87, Tryd.ntmps87
    go_wp2
    go_ret
    exact ⟨rfl, Below.refl _ _⟩
  · have hz := zig_neg h h1
    rw [hz]
    clear hz
    go_enter Tryd.func87, Tryd.ntmps87
    go_wp2
    go_ret
    exact ⟨by show Ending.returned (Value.int .u64 (2 * -(m + 1) + 1)) = _; congr 2; omega, Below.refl _ _⟩
theorem zag_c (n : UInt64) (w : World) :
    Calls Tryd.prog 97 #[.int .u64 (W n)] w (RetV w (.int .i64 (zagF n))) := by
  have hn := n.toNat_lt
  have h1 := W_lo n
  have h2 := W_hi n
  obtain ⟨x, hx⟩ : ∃ x : Int, W n = x := ⟨_, rfl⟩
  have HX := Lib.hid hx
  have HN := Lib.hid hn
  rw [hx] at h1 h2 ⊢
  clear hx hn
  go_enter Tryd.func97, Tryd.ntmps97
  go_wp2
  go_ret
  have hx := HX.out
  have hn := HN.out
  subst hx
  refine ⟨?_, Below.refl _ _⟩
  show Ending.returned (Value.int .i64 (bits BinOp.xor IntKind.i64 (W n / 2) (wrap64 (-wrap64 (bits BinOp.and IntKind.u64 (W n) 1))))) = _
  unfold W zagF
  generalize n.toNat = k at *
  have e : (k : Int) / 2 = ((k / 2 : Nat) : Int) := by omega
  rw [and_u64_1 k (by omega), e]
  by_cases h : k % 2 = 0
  · have e1 : wrap64 (-wrap64 (((k % 2 : Nat) : Int))) = 0 := by unfold wrap64; omega
    rw [e1, xor_i64_0 _ (by omega), if_pos h]
  · have e1 : wrap64 (-wrap64 (((k % 2 : Nat) : Int))) = -1 := by unfold wrap64; omega
    rw [e1, xor_i64_1 _ (by omega), if_neg h]
    congr 2; omega
theorem rzag_c (n : UInt64) (w : World) :
    Calls Tryd.prog 90 #[.int .u64 (W n)] w (RetV w (.int .i64 (zagF n))) := by
  have hn := n.toNat_lt
  have h1 := W_lo n
  have h2 := W_hi n
  obtain ⟨x, hx⟩ : ∃ x : Int, W n = x := ⟨_, rfl⟩
  have HX := Lib.hid hx
  have HN := Lib.hid hn
  rw [hx] at h1 h2 ⊢
  by_cases h : x % 2 = 0
  · have h0 : zagF n = x / 2 := by rw [← hx]; unfold zagF W at *; rw [if_pos (by omega)]; omega
    rw [h0]
    clear h0 hx hn
    go_enter Tryd.func90, Tryd.ntmps90
    go_wp2
    go_ret
    exact ⟨rfl, Below.refl _ _⟩
  · have h0 : zagF n = -(x / 2) - 1 := by rw [← hx]; unfold zagF W at *; rw [if_neg (by omega)]; omega
    rw [h0]
    clear h0 hx hn
    go_enter Tryd.func90, Tryd.ntmps90
    go_wp2
    go_ret
    exact ⟨rfl, Below.refl _ _⟩
end Go.Proofs.YtonllhjmoenckaaDoor
