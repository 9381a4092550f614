/- bits.Len64 by the shelf's contract (the laying in plain words began as the print of the kit's lay-plain tool). -/
import Derived.Shelf.Strconv.Itoa0
import Derived.Test.YtonllhjmoenckaaDoorProg
import Derived.Test.YtonllhjmoenckaaDoorVint
namespace Go.Proofs.YtonllhjmoenckaaDoor
open Go.Shelf
set_option linter.unusedVariables false
set_option linter.unusedSimpArgs false
def lays129_ren : Go.Shelf.Ren := ⟨fun | 129 => 67 | n => n, fun | 53 => 38 | 3 => 3 | 4 => 4 | 46 => 97 | 5 => 5 | 9 => 9 | n => n, fun | n => n⟩
theorem lays129 : Go.Proofs.Lays.n129 Tryd.prog lays129_ren := {
  mixed := by kernel_rfl
  f129 := Tryd.func67.trans (congrArg some (by kernel_rfl))
  t3 := Tryd.underlying3
  a3 := Tryd.isAgg3
  z3 := Tryd.sizeOf3
  v3 := Tryd.zeroValue3
  t4 := Tryd.underlying4
  a4 := Tryd.isAgg4
  z4 := Tryd.sizeOf4
  v4 := Tryd.zeroValue4
  t5 := Tryd.underlying5
  a5 := Tryd.isAgg5
  z5 := Tryd.sizeOf5
  v5 := Tryd.zeroValue5
  t9 := Tryd.underlying9
  a9 := Tryd.isAgg9
  z9 := Tryd.sizeOf9
  v9 := Tryd.zeroValue9
  t46 := Tryd.underlying97
  a46 := Tryd.isAgg97
  z46 := Tryd.sizeOf97
  v46 := Tryd.zeroValue97
  t53 := Tryd.underlying38
  a53 := Tryd.isAgg38
  z53 := Tryd.sizeOf38
  v53 := Tryd.zeroValue38 }

theorem bitLenAux_eq (f : Nat) : ∀ x, x < 2 ^ f → ∀ k, (Lib.bitLenAux f x ≤ k ↔ x < 2 ^ k) := by
  induction f with
  | zero => intro x hx k; simp [Lib.bitLenAux]; have : x = 0 := by simpa using hx
            subst this; exact Nat.two_pow_pos k
  | succ f ih =>
    intro x hx k
    simp only [Lib.bitLenAux]
    by_cases h0 : x = 0
    · rw [if_pos h0, h0]; simp [Nat.two_pow_pos k]
    · rw [if_neg h0]
      cases k with
      | zero => simp; omega
      | succ k =>
        have := ih (x / 2) (by rw [Nat.pow_succ] at hx; omega) k
        rw [Nat.pow_succ]
        omega

/-- The size of a number by its bits. -/
theorem size_of_bits (n : Nat) (h : n < 18446744073709551616) : max ((Lib.bitLen n + 6) / 7) 1 = (vput n).length := by
  have hb : ∀ k, (Lib.bitLen n ≤ k ↔ n < 2 ^ k) := bitLenAux_eq 64 n h
  have hp := List.length_pos_iff.2 (vput_ne n)
  obtain ⟨k, hk⟩ : ∃ k, (vput n).length = k + 1 := ⟨(vput n).length - 1, by omega⟩
  have e : ∀ j, (128 : Nat) ^ j = 2 ^ (7 * j) := fun j => by rw [Nat.pow_mul]
  have h1 : Lib.bitLen n ≤ 7 * (k + 1) := by
    rw [hb, ← e]
    rcases Nat.lt_or_ge n (128 ^ (k + 1)) with h | h
    · exact h
    · have := vput_len_gt _ _ h; omega
  have h2 : k = 0 ∨ ¬ Lib.bitLen n ≤ 7 * k := by
    rcases Nat.eq_zero_or_pos k with h0 | h0
    · exact .inl h0
    · refine .inr fun hc => ?_
      rw [hb, ← e] at hc
      have := vput_len_le (k - 1) n (by rwa [Nat.sub_add_cancel h0])
      omega
  rw [hk]
  omega

theorem len64_c (n : UInt64) (w : World) : Calls Tryd.prog 67 #[.int .u64 (W n)] w fun e w' => e = .returned (.int .i64 (Lib.bitLen n.toNat)) ∧ w' = w :=
  Any.bits_Len64 lays129 (W n) w (W_lo n) (by have := W_hi n; omega)
end Go.Proofs.YtonllhjmoenckaaDoor
