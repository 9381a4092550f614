/- bits.Len64 by the shelf's contract (the laying in plain words began as the print of the kit's lay-plain tool). -/
import Derived.Shelf.Strconv.Itoa0
import Derived.Test.YtonllhjmoenckaaProg
import Derived.Test.YtonllhjmoenckaaVint
namespace Go.Proofs.Ytonllhjmoenckaa
open Go.Shelf
set_option linter.unusedVariables false
set_option linter.unusedSimpArgs false
def lays129_ren : Go.Shelf.Ren := ⟨fun | 129 => 115 | n => n, fun | 53 => 129 | 3 => 3 | 4 => 4 | 46 => 174 | 5 => 5 | 9 => 9 | n => n, fun | n => n⟩
theorem lays129 : Go.Proofs.Lays.n129 Try.prog lays129_ren := {
  mixed := by kernel_rfl
  f129 := Try.func115.trans (congrArg some (by kernel_rfl))
  t3 := Try.underlying3
  a3 := Try.isAgg3
  z3 := Try.sizeOf3
  v3 := Try.zeroValue3
  t4 := Try.underlying4
  a4 := Try.isAgg4
  z4 := Try.sizeOf4
  v4 := Try.zeroValue4
  t5 := Try.underlying5
  a5 := Try.isAgg5
  z5 := Try.sizeOf5
  v5 := Try.zeroValue5
  t9 := Try.underlying9
  a9 := Try.isAgg9
  z9 := Try.sizeOf9
  v9 := Try.zeroValue9
  t46 := Try.underlying174
  a46 := Try.isAgg174
  z46 := Try.sizeOf174
  v46 := Try.zeroValue174
  t53 := Try.underlying129
  a53 := Try.isAgg129
  z53 := Try.sizeOf129
  v53 := Try.zeroValue129 }

theorem bitLenAux_eq (f : Nat) : ∀ x, x < 2 ^ f → ∀ k, (Lib.bitLenAux f x ≤ k ↔ x < 2 ^ k) := by
  induction f with
  | zero => intro x hx k; simp [Lib.bitLenAux]; have : x = 0 := by simpa using hx
            subst this; exact Nat.two_pow_pos k
  | succ f ih =>
    intro x hx k
    simp only [Lib.bitLenAux]
    by_cases h0 : x = 0
    · rw [if_pos h0, h0]; simp [Nat.two_pow_pos k]
    · rw [if_neg h0]
      cases k with
      | zero => simp; omega
      | succ k =>
        have := ih (x / 2) (by rw [Nat.pow_succ] at hx; omega) k
        rw [Nat.pow_succ]
        omega

/-- The size of a number by its bits. -/
theorem size_of_bits (n : Nat) (h : n < 18446744073709551616) : max ((Lib.bitLen n + 6) / 7) 1 = (vput n).length := by
  have hb : ∀ k, (Lib.bitLen n ≤ k ↔ n < 2 ^ k) := bitLenAux_eq 64 n h
  have hp := List.length_pos_iff.2 (vput_ne n)
  obtain ⟨k, hk⟩ : ∃ k, (vput n).length = k + 1 := ⟨(vput n).length - 1, by omega⟩
  have e : ∀ j, (128 : Nat) ^ j = 2 ^ (7 * j) := fun j => by rw [Nat.pow_mul]
  have h1 : Lib.bitLen n ≤ 7 * (k + 1) := by
    rw [hb, ← e]
    rcases Nat.lt_or_ge n (128 ^ (k + 1)) with h | h
    · exact h
    · have := vput_len_gt _ _ h; omega
  have h2 : k = 0 ∨ ¬ Lib.bitLen n ≤ 7 * k := by
    rcases Nat.eq_zero_or_pos k with h0 | h0
    · exact .inl h0
    · refine .inr fun hc => ?_
      rw [hb, ← e] at hc
      have := vput_len_le (k - 1) n (by rwa [Nat.sub_add_cancel h0])
      omega
  rw [hk]
  omega

theorem len64_c (n : UInt64) (w : World) : Calls Try.prog 115 #[.int .u64 (W n)] w fun e w' => e = .returned (.int .i64 (Lib.bitLen n.toNat)) ∧ w' = w :=
  Any.bits_Len64 lays129 (W n) w (W_lo n) (by have := W_hi n; omega)
end Go.Proofs.Ytonllhjmoenckaa
