/- Walks through package crc. -/
import Derived.Test.YtonllhjmoenckaaDoorProg
import Derived.Test.YtonllhjmoenckaaDoorWords
import Derived.Test.YtonllhjmoenckaaDoorBits
import Derived.Test.YtonllhjmoenckaaDoorCrcF
import Derived.KernelRfl
import Derived.LoopTactic
import Derived.Deep.LoopGhost
import Derived.Deep.QuietTactic
import Derived.BigQuiet
import Derived.Outline
namespace Go.Proofs.YtonllhjmoenckaaDoor
open Go.RowKit
attribute [local go_sem] U_xor U_and15 U_not U_xorB U_xor_shr4

/-- The table stands in the first block. -/
def Tab (w : World) : Prop := ∀ i : UInt32, i.toNat < 16 → w.cell? ⟨1, (U i).toNat, none⟩ = some (.int .u32 (U (four i)))

theorem Tab.at_ {w : World} (h : Tab w) (c : UInt32) : w.cell? ⟨1, (U (c &&& 15)).toNat, none⟩ = some (.int .u32 (U (four (c &&& 15)))) ∧ 0 ≤ U (c &&& 15) ∧ U (c &&& 15) < 16 :=
  ⟨h _ (and15_lt c), U_lo _, by have := and15_lt c; unfold U; omega⟩

set_option maxRecDepth 100000 in
set_option maxHeartbeats 400000 in
theorem more_walk (s : UInt32) (A : Option Addr) (c : Nat) (l : List UInt8) (w : World) (ht : Tab w) (hl : Sb w (.slice A l.length c) l) :
    Calls Tryd.prog 84 #[.int .u32 (U s), .slice A l.length c] w fun e w' => e = .returned (.int .u32 (U (moreF s l))) ∧ w = w' := by
  have HL := Lib.hid hl
  have HT := Lib.hid ht
  have hlen : l.length ≤ 9223372036854775807 := Sb.max hl
  clear hl ht
  go_enter Tryd.func84, Tryd.ntmps84
  go_wp2
  go_loop [5, 12] (fun c i => ∃ k : Nat, k ≤ l.length ∧ i = .int .i64 k ∧ c = .int .u32 (U ((l.take k).foldl step1 (~~~s)))) (fun _ i => l.length - (intOf i).toNat)
  case atStart => exact ⟨0, Nat.zero_le _, rfl, by simp⟩
  case round =>
    obtain ⟨k, hk, rfl, rfl⟩ := hrel
    by_cases hlt : k < l.length
    · generalize hc : (l.take k).foldl step1 (~~~s) = c1
      have HC := Lib.hid hc
      clear hc
      obtain ⟨ad, rfl, had⟩ := Sb.at_ HL.out k hlt
      have hx := B_lo l[k]
      have hy := B_hi l[k]
      obtain ⟨t1, p1, q1⟩ := HT.out.at_ (c1 ^^^ l[k].toUInt32)
      obtain ⟨t2, p2, q2⟩ := HT.out.at_ (half (c1 ^^^ l[k].toUInt32))
      simp only [half] at t2 p2 q2
      go_wp2
      go_round
      case rel => exact ⟨k + 1, by omega, by go_num, by rw [take_step _ _ _ hlt, HC.out]; rfl⟩
      case measure => simp [intOf]; omega
    · have hk2 : l.take k = l := List.take_of_length_le (by omega)
      rw [hk2]
      clear hk2
      go_wp2
      go_ret
      exact ⟨rfl, rfl⟩
end Go.Proofs.YtonllhjmoenckaaDoor
