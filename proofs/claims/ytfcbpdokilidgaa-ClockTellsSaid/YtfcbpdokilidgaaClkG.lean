/- Layer 4 in plain Lean: bytes come back from the clock that was read of them. -/
import Derived.Test.YtfcbpdokilidgaaClkF
namespace Go.Proofs.Ytfcbpdokilidgaa
open Go.RowKit
set_option linter.unusedVariables false
set_option linter.unusedSimpArgs false

theorem ct1_ok {q : Int} {l : List UInt8} (h : (ct1 q l).2.2 = 0) :
    zz ((ct1 q l).1 - q) = l.take (ct1 q l).2.1 ∧ 1 ≤ (ct1 q l).2.1 ∧ (ct1 q l).2.1 ≤ l.length ∧ 0 ≤ (ct1 q l).1 ∧ (ct1 q l).1 ≤ 4611686018427387903 := by
  unfold ct1 at *
  by_cases h1 : (tk l).2.2 = 0
  · obtain ⟨k1, k2, k3⟩ := tk_ok h1
    rw [if_neg (by simpa using h1)] at h ⊢
    by_cases h2 : zagF (tk l).1 < -q ∨ 4611686018427387903 - q < zagF (tk l).1
    · rw [if_pos h2] at h; exact absurd h (by decide)
    · rw [if_neg h2]
      dsimp only
      refine ⟨?_, k1, k2, by omega, by omega⟩
      rw [show q + zagF (tk l).1 - q = zagF (tk l).1 by omega]
      unfold zz
      rw [zig_zag, k3]
  · rw [if_pos (by simpa using h1)] at h
    exact absurd h h1

theorem ctake_ok {p : Clk} {s : List UInt8} (h : (ctakeF p s).2.2 = 0) :
    rightF (ctakeF p s).1 = true ∧ cputF p (ctakeF p s).1 = (s.take (ctakeF p s).2.1, 0) ∧ 3 ≤ (ctakeF p s).2.1 ∧ (ctakeF p s).2.1 ≤ s.length := by
  cases hr : rightF p with
  | false => unfold ctakeF at h; rw [if_pos hr] at h; exact absurd h (by decide)
  | true =>
    by_cases ha : (ct1 p.x s).2.2 = 0
    · by_cases hd : (ct1 p.y (s.drop (ct1 p.x s).2.1)).2.2 = 0
      · by_cases hf : (ct1 p.z (s.drop ((ct1 p.x s).2.1 + (ct1 p.y (s.drop (ct1 p.x s).2.1)).2.1))).2.2 = 0
        · have e : ctakeF p s = (⟨(ct1 p.x s).1, (ct1 p.y (s.drop (ct1 p.x s).2.1)).1, (ct1 p.z (s.drop ((ct1 p.x s).2.1 + (ct1 p.y (s.drop (ct1 p.x s).2.1)).2.1))).1⟩,
              (ct1 p.x s).2.1 + (ct1 p.y (s.drop (ct1 p.x s).2.1)).2.1 + (ct1 p.z (s.drop ((ct1 p.x s).2.1 + (ct1 p.y (s.drop (ct1 p.x s).2.1)).2.1))).2.1, 0) := by
            unfold ctakeF
            rw [if_neg (by rw [hr]; simp)]
            dsimp only
            rw [if_neg (by simpa using ha), if_neg (by simpa using hd), if_neg (by simpa using hf)]
          rw [e]
          obtain ⟨a1, a2, a3, a4, a5⟩ := ct1_ok ha
          obtain ⟨d1, d2, d3, d4, d5⟩ := ct1_ok hd
          obtain ⟨f1, f2, f3, f4, f5⟩ := ct1_ok hf
          rw [List.length_drop] at d3 f3
          dsimp only
          have hrd : rightF ⟨(ct1 p.x s).1, (ct1 p.y (s.drop (ct1 p.x s).2.1)).1, (ct1 p.z (s.drop ((ct1 p.x s).2.1 + (ct1 p.y (s.drop (ct1 p.x s).2.1)).2.1))).1⟩ = true := by
            simp only [rightF, Bool.and_eq_true, decide_eq_true_eq]
            exact ⟨⟨⟨⟨⟨a4, a5⟩, d4⟩, d5⟩, f4⟩, f5⟩
          refine ⟨hrd, ?_, by omega, by omega⟩
          unfold cputF
          rw [if_pos ⟨hr, hrd⟩]
          dsimp only
          rw [a1, d1, f1]
          congr 1
          rw [← List.take_add, ← List.take_add]
        · unfold ctakeF at h; rw [if_neg (by rw [hr]; simp)] at h; dsimp only at h
          rw [if_neg (by simpa using ha), if_neg (by simpa using hd), if_pos hf] at h
          exact absurd h hf
      · unfold ctakeF at h; rw [if_neg (by rw [hr]; simp)] at h; dsimp only at h
        rw [if_neg (by simpa using ha), if_pos hd] at h
        exact absurd h hd
    · unfold ctakeF at h; rw [if_neg (by rw [hr]; simp)] at h; dsimp only at h
      rw [if_pos ha] at h
      exact absurd h ha
end Go.Proofs.Ytfcbpdokilidgaa
