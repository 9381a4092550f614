/- The sum by definition is the sum by table. No walk stands here. -/
import Derived.Test.YtflhokgdkaophaaDoorCrcM2
import Derived.Test.YtflhokgdkaophaaDoorCrcR2
namespace Go.Proofs.YtflhokgdkaophaaDoor
set_option linter.unusedVariables false
set_option linter.unusedSimpArgs false

theorem rbit1_t1 (c : UInt32) (x : UInt8) (k : Nat) : (rbit1 c x k).toBitVec = t1 (c.toBitVec ^^^ b2w (x.toNat.testBit k)) := by
  have hs : (c.toBitVec ^^^ b2w (x.toNat.testBit k)) >>> 1 = c.toBitVec >>> 1 := by
    apply BitVec.eq_of_getLsbD_eq
    intro i hi
    rw [BitVec.getLsbD_ushiftRight, BitVec.getLsbD_ushiftRight, BitVec.getLsbD_xor, b2w_bit]
    rw [decide_eq_false (show ¬ (1 + i = 0) by omega)]; simp
  have hb : (c.toBitVec ^^^ b2w (x.toNat.testBit k)).getLsbD 0 = xor (c.toNat.testBit 0) (x.toNat.testBit k) := by
    rw [BitVec.getLsbD_xor, b2w_bit]
    simp [BitVec.getLsbD]
  unfold t1
  rw [hs, hb]
  unfold rbit1 bitN
  rw [Nat.testBit_zero, Nat.testBit_eq_decide_div_mod_eq]
  have e1 : (c >>> 1).toBitVec = c.toBitVec >>> 1 := by rw [UInt32.toBitVec_shiftRight]; rfl
  have h1 : c.toNat % 2 = 0 ∨ c.toNat % 2 = 1 := by omega
  have h2 : x.toNat / 2 ^ k % 2 = 0 ∨ x.toNat / 2 ^ k % 2 = 1 := by omega
  rcases h1 with h1 | h1 <;> rcases h2 with h2 | h2 <;> rw [h1, h2] <;> simp [e1, poly]
theorem rbyte_step1 (c : UInt32) (x : UInt8) : rbyteN c x 8 = step1 c x := by
  apply UInt32.toBitVec_inj.1
  rw [step1_reg]
  have hN : ∀ n, n ≤ 8 → (rbyteN c x n).toBitVec = reg c.toBitVec ((List.range n).map fun r => x.toNat.testBit r) := by
    intro n
    induction n with
    | zero => intro _; rfl
    | succ n ih =>
      intro h
      rw [rbyteN_succ, rbit1_t1, ih (by omega), List.range_succ, List.map_append, reg_append]
      rfl
  exact hN 8 (by omega)
theorem rsum_sum (l : List UInt8) : rsumF l = sumF l := by
  unfold rsumF sumF moreF
  have hf : (fun (c : UInt32) (x : UInt8) => rbyteN c x 8) = step1 := funext fun c => funext fun x => rbyte_step1 c x
  rw [hf]
  rfl
theorem rseal_seal (l : List UInt8) : rsealF l = sealF l := by unfold rsealF sealF; rw [rsum_sum]
theorem ropen_open (l : List UInt8) : ropenF l = openF l := by unfold ropenF openF; rw [rseal_seal]
theorem more_sum (a b : List UInt8) : moreF (sumF a) b = sumF (a ++ b) := by
  unfold sumF moreF
  simp [List.foldl_append]
end Go.Proofs.YtflhokgdkaophaaDoor
