/- From the reading of a slice of bytes that came in to the words of the walks. No program stands here. -/
import Derived.Test.YtonllhjmoenckaaDoorWords
import Derived.OpenShut
namespace Go.Proofs.YtonllhjmoenckaaDoor
open Go.RowKit
set_option linter.unusedVariables false
set_option linter.unusedSimpArgs false

theorem wf_u8 {n : Int} (h : (Lit.int .u8 n).wf = true) : 0 ≤ n ∧ n < 256 := by
  have := bounds_u8 h
  omega

theorem sb_of_row {w : World} {a : Option Addr} {len cap : Nat} {zs : List Int}
    (h : (a = none ∧ len = 0 ∧ cap = 0 ∧ zs = []) ∨ ∃ x, a = some x ∧ len ≤ cap ∧ cap ≤ maxLen ∧ zs.length = cap ∧ (∀ i, i < zs.length → w.cell? (x.add i) = some (.int .u8 (zs.getD i 0))) ∧ ∀ n ∈ zs, (Lit.int .u8 n).wf = true) :
    ∃ l : List UInt8, l.length = len ∧ Sb w (.slice a len cap) l := by
  rcases h with ⟨rfl, rfl, rfl, rfl⟩ | ⟨x, rfl, h1, h2, h3, h4, h5⟩
  · exact ⟨[], rfl, Sl.none_ 1 0 (Nat.zero_le _)⟩
  · have hlen : ((zs.take len).map fun n : Int => UInt8.ofNat n.toNat).length = len := by
      rw [List.length_map, List.length_take]; omega
    refine ⟨(zs.take len).map fun n => UInt8.ofNat n.toNat, hlen, some x, cap, by rw [hlen], by rw [hlen]; exact h1, h2, by simp, fun hp => ?_⟩
    rw [hlen] at hp
    refine ⟨x, rfl, ?_, fun j u hu => ?_⟩
    · have := h4 0 (by omega)
      rw [← add_block x 0]
      exact World.block_lt_of_cell? w _ this
    · rw [List.getElem?_map, List.getElem?_map] at hu
      by_cases hj : j < len
      · have hz : (zs.take len)[j]? = some (zs.getD j 0) := by
          rw [List.getElem?_take, if_pos hj, List.getElem?_eq_getElem (by omega)]
          simp [List.getD_eq_getElem?_getD, List.getElem?_eq_getElem (show j < zs.length by omega)]
        rw [hz] at hu
        simp only [Option.map_some, Option.some.injEq] at hu
        subst hu
        rw [h4 j (by omega)]
        have hm : zs.getD j 0 ∈ zs := by
          rw [List.getD_eq_getElem?_getD, List.getElem?_eq_getElem (show j < zs.length by omega)]
          exact List.getElem_mem _
        have hb := wf_u8 (h5 _ hm)
        generalize zs.getD j 0 = z at *
        have : B (UInt8.ofNat z.toNat) = z := by
          unfold B
          rw [UInt8.toNat_ofNat']
          omega
        unfold bv
        rw [this]
      · have hz : (zs.take len)[j]? = none := by rw [List.getElem?_eq_none]; rw [List.length_take]; omega
        rw [hz] at hu
        cases hu

theorem u32_of_wf {n : Int} (h : (Lit.int .u32 n).wf = true) : ∃ m : UInt32, n = U m := by
  have hb := bounds_u32 h
  refine ⟨UInt32.ofNat n.toNat, ?_⟩
  unfold U
  rw [UInt32.toNat_ofNat', Nat.mod_eq_of_lt (by omega)]
  omega
theorem u64_of_wf {n : Int} (h : (Lit.int .u64 n).wf = true) : ∃ m : UInt64, n = W m := by
  have hb := bounds_u64 h
  refine ⟨UInt64.ofNat n.toNat, ?_⟩
  unfold W
  rw [UInt64.toNat_ofNat', Nat.mod_eq_of_lt (by omega)]
  omega
theorem i64_of_wf {n : Int} (h : (Lit.int .i64 n).wf = true) : -9223372036854775808 ≤ n ∧ n ≤ 9223372036854775807 := by
  have hb := bounds_i64 h
  omega
end Go.Proofs.YtonllhjmoenckaaDoor
