/- Frames, told by bytes: what is wrapped, what is read, all of a row. No program stands here. -/
import Derived.Test.YtonllhjmoenckaaDoorCrcV
namespace Go.Proofs.YtonllhjmoenckaaDoor
open Go Go.RowKit
set_option linter.unusedVariables false
set_option linter.unusedSimpArgs false

def rs (l : List (List UInt8)) : List (List D) := l.map fun p => [.sl 1 (bs p)]
theorem rs_len (l : List (List UInt8)) : (rs l).length = l.length := by simp [rs]
theorem rs_get (l : List (List UInt8)) (i : Nat) : (rs l)[i]? = (l[i]?).map fun p => [.sl 1 (bs p)] := by simp [rs]
theorem rs_snoc (l : List (List UInt8)) (p : List UInt8) : rs l ++ [[.sl 1 (bs p)]] = rs (l ++ [p]) := by simp [rs]
theorem rs_take (l : List (List UInt8)) (n : Nat) : (rs l).take n = rs (l.take n) := by simp [rs]
theorem rs_drop (l : List (List UInt8)) (n : Nat) : (rs l).drop n = rs (l.drop n) := by simp [rs]
attribute [go_sem] rs_len rs_get rs_snoc rs_take rs_drop

def wrapF (p : List UInt8) : List UInt8 × Int := if 8192 < p.length then ([], 4) else (sealF (vput p.length ++ p), 0)
def nextF (b : List UInt8) : List UInt8 × Nat × Int :=
  if (tk b).2.2 ≠ 0 then ([], 0, (tk b).2.2) else if 8192 < (tk b).1.toNat then ([], 0, 4)
  else if b.length < (tk b).2.1 + (tk b).1.toNat + 4 then ([], 0, 2)
  else if (openF (b.take ((tk b).2.1 + (tk b).1.toNat + 4))).2 ≠ 0 then ([], 0, (openF (b.take ((tk b).2.1 + (tk b).1.toNat + 4))).2)
  else ((openF (b.take ((tk b).2.1 + (tk b).1.toNat + 4))).1.drop (tk b).2.1, (tk b).2.1 + (tk b).1.toNat + 4, 0)
def scanN (b : List UInt8) : Nat → List (List UInt8) → Nat → List (List UInt8) × Nat × Int
  | 0, out, used => (out, used, 0)
  | k + 1, out, used => if used = b.length then (out, used, 0) else if (nextF (b.drop used)).2.2 ≠ 0 then (out, used, (nextF (b.drop used)).2.2) else scanN b k (out ++ [(nextF (b.drop used)).1]) (used + (nextF (b.drop used)).2.1)
def scanF (b : List UInt8) : List (List UInt8) × Nat × Int := scanN b (b.length + 1) [] 0
/-- The frames of a row, behind what stands there. -/
def allN : List (List UInt8) → List UInt8 → List UInt8 × Int
  | [], b => (b, 0)
  | p :: l, b => if (wrapF p).2 ≠ 0 then ([], (wrapF p).2) else allN l (b ++ (wrapF p).1)
def allF (l : List (List UInt8)) : List UInt8 × Int := allN l []
theorem wrapF_len (p : List UInt8) : (wrapF p).1.length ≤ 9000 := by
  unfold wrapF
  split
  · simp
  · have := vput_len (n := p.length) (by omega)
    simp [sealF_len]; omega
/-- A record that is read: its frame, in front of the bytes. -/
theorem openF_ok {b : List UInt8} (h : (openF b).2 = 0) : 4 ≤ b.length ∧ (openF b).1 = b.take (b.length - 4) ∧ sealF (b.take (b.length - 4)) = b := by
  unfold openF at h ⊢
  split at h
  · simp at h
  · rename_i h4
    split at h
    · rename_i hs
      rw [if_neg h4, if_pos hs]
      exact ⟨by omega, rfl, hs⟩
    · simp at h
theorem nextF_ok {b p : List UInt8} {n : Nat} (h : nextF b = (p, n, 0)) : n ≤ b.length ∧ 5 ≤ n ∧ p.length ≤ 8192 ∧ wrapF p = (b.take n, 0) := by
  unfold nextF at h
  split at h
  · rename_i h1
    simp only [Prod.mk.injEq] at h
    exact absurd h.2.2 h1
  · rename_i h1
    have ht := tk_ok (Decidable.not_not.1 h1)
    split at h
    · simp at h
    · rename_i h2
      split at h
      · simp at h
      · rename_i h3
        split at h
        · rename_i h4
          simp only [Prod.mk.injEq] at h
          exact absurd h.2.2 h4
        · rename_i h4
          have ho := openF_ok (Decidable.not_not.1 h4)
          simp only [Prod.mk.injEq, and_true] at h
          obtain ⟨hp, hn⟩ := h
          obtain ⟨g1, g2, g3⟩ := ho
          have hl : (b.take ((tk b).2.1 + (tk b).1.toNat + 4)).length = (tk b).2.1 + (tk b).1.toNat + 4 := by rw [List.length_take]; omega
          rw [hl] at g1 g2 g3
          have e1 : (tk b).2.1 + (tk b).1.toNat + 4 - 4 = (tk b).2.1 + (tk b).1.toNat := by omega
          rw [e1, List.take_take, Nat.min_eq_left (by omega)] at g2 g3
          rw [g2] at hp
          have hpl : p.length = (tk b).1.toNat := by rw [← hp, List.length_drop, List.length_take]; omega
          have hsp : b.take ((tk b).2.1 + (tk b).1.toNat) = vput p.length ++ p := by
            rw [hpl, ht.2.2, ← hp]
            have := List.take_append_drop (tk b).2.1 (b.take ((tk b).2.1 + (tk b).1.toNat))
            rw [List.take_take, Nat.min_eq_left (by omega)] at this
            exact this.symm
          refine ⟨by omega, by omega, by omega, ?_⟩
          unfold wrapF
          rw [if_neg (by omega), ← hsp, g3, hn]
theorem nextF_len (b : List UInt8) : (nextF b).2.1 ≤ b.length ∧ ((nextF b).2.2 = 0 → 5 ≤ (nextF b).2.1) := by
  obtain ⟨p, n, e, h⟩ : ∃ p n e, nextF b = (p, n, e) := ⟨_, _, _, rfl⟩
  rw [h]
  by_cases he : e = 0
  · subst he
    have := nextF_ok h
    exact ⟨this.1, fun _ => this.2.1⟩
  · refine ⟨?_, fun e0 => absurd e0 he⟩
    have : n = 0 := by
      unfold nextF at h
      split at h
      · simp at h; omega
      split at h
      · simp at h; omega
      split at h
      · simp at h; omega
      split at h
      · simp at h; omega
      · simp at h; omega
    dsimp only; omega
theorem nextF_rec (b : List UInt8) : (nextF b).1.length ≤ b.length := by
  obtain ⟨p, n, e, h⟩ : ∃ p n e, nextF b = (p, n, e) := ⟨_, _, _, rfl⟩
  rw [h]
  unfold nextF at h
  split at h
  · simp at h; rw [h.1]; simp
  split at h
  · simp at h; rw [h.1]; simp
  split at h
  · simp at h; rw [h.1]; simp
  split at h
  · simp at h; rw [h.1]; simp
  · rename_i h4
    have ho := openF_ok (Decidable.not_not.1 h4)
    simp only [Prod.mk.injEq] at h
    rw [← h.1, ho.2.1]
    simp; omega
end Go.Proofs.YtonllhjmoenckaaDoor
