/- The plain laws of the sums. No program stands here. -/
import Derived.Test.YtonllhjmoenckaaDoorCrcF
namespace Go.Proofs.YtonllhjmoenckaaDoor
set_option linter.unusedVariables false
set_option linter.unusedSimpArgs false

theorem parts_law (a b c : List UInt8) : moreF (moreF (sumF a) b) c = sumF (a ++ b ++ c) := by
  unfold sumF moreF
  simp [List.foldl_append]
theorem open_seal (l : List UInt8) (h : (openF l).2 = 0) : sealF (openF l).1 = l := by
  unfold openF at *
  split at h
  · simp at h
  · rw [if_neg (by assumption)]
    split at h
    · rw [if_pos (by assumption)]; assumption
    · simp at h
def BurstsLaw : Prop := ∀ (l : List UInt8) (at_ : Int) (m : UInt32),
    (turnF at_ m (sealF l) = sealF l → openF (turnF at_ m (sealF l)) = (l, 0)) ∧
    (turnF at_ m (sealF l) ≠ sealF l → openF (turnF at_ m (sealF l)) = ([], 5) ∧ turnF at_ m (turnF at_ m (sealF l)) = sealF l ∧ (turnF at_ m (sealF l)).length = (sealF l).length)
end Go.Proofs.YtonllhjmoenckaaDoor
