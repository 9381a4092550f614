/- Clocks in plain Lean: what is told, what is read; they come back. No program stands here. -/
import Derived.Test.YtonllhjmoenckaaVint
namespace Go.Proofs.Ytonllhjmoenckaa
open Go.RowKit
set_option linter.unusedVariables false
set_option linter.unusedSimpArgs false

structure Clk where
  x : Int
  y : Int
  z : Int
deriving DecidableEq
def rightF (c : Clk) : Bool := decide (0 ≤ c.x) && decide (c.x ≤ 4611686018427387903) && decide (0 ≤ c.y) && decide (c.y ≤ 4611686018427387903) && decide (0 ≤ c.z) && decide (c.z ≤ 4611686018427387903)
theorem right_bounds {c : Clk} (h : rightF c = true) : (0 ≤ c.x ∧ c.x ≤ 4611686018427387903) ∧ (0 ≤ c.y ∧ c.y ≤ 4611686018427387903) ∧ (0 ≤ c.z ∧ c.z ≤ 4611686018427387903) := by
  simp only [rightF, Bool.and_eq_true, decide_eq_true_eq] at h
  omega
theorem right_not {c : Clk} (h : rightF c = false) : c.x < 0 ∨ 4611686018427387903 < c.x ∨ c.y < 0 ∨ 4611686018427387903 < c.y ∨ c.z < 0 ∨ 4611686018427387903 < c.z := by
  by_cases hh : c.x < 0 ∨ 4611686018427387903 < c.x ∨ c.y < 0 ∨ 4611686018427387903 < c.y ∨ c.z < 0 ∨ 4611686018427387903 < c.z
  · exact hh
  · have : rightF c = true := by simp only [rightF, Bool.and_eq_true, decide_eq_true_eq]; omega
    rw [this] at h; cases h
def zz (m : Int) : List UInt8 := vput (zigF m).toNat
theorem zz_len (m : Int) : (zz m).length ≤ 10 := vput_len (UInt64.toNat_lt _)
def cputF (p c : Clk) : List UInt8 × Int := if rightF p = true ∧ rightF c = true then (zz (c.x - p.x) ++ zz (c.y - p.y) ++ zz (c.z - p.z), 0) else ([], 1)

theorem tk_le (l : List UInt8) : (tk l).2.1 ≤ l.length := by
  cases hs : scan l with
  | none => rw [tk_none hs]; split <;> exact Nat.zero_le _
  | some s =>
    obtain ⟨h1, _⟩ := scan_some hs
    rw [tk_some hs]
    split
    · exact h1
    · exact Nat.zero_le _

def ct1 (q : Int) (l : List UInt8) : Int × Nat × Int :=
  if (tk l).2.2 ≠ 0 then (0, 0, (tk l).2.2) else if zagF (tk l).1 < -q ∨ 4611686018427387903 - q < zagF (tk l).1 then (0, 0, 3) else (q + zagF (tk l).1, (tk l).2.1, 0)
def ctakeF (p : Clk) (b : List UInt8) : Clk × Nat × Int :=
  if rightF p = false then (⟨0, 0, 0⟩, 0, 1) else
  let a := ct1 p.x b
  if a.2.2 ≠ 0 then (⟨0, 0, 0⟩, 0, a.2.2) else
  let d := ct1 p.y (b.drop a.2.1)
  if d.2.2 ≠ 0 then (⟨0, 0, 0⟩, 0, d.2.2) else
  let f := ct1 p.z (b.drop (a.2.1 + d.2.1))
  if f.2.2 ≠ 0 then (⟨0, 0, 0⟩, 0, f.2.2) else (⟨a.1, d.1, f.1⟩, a.2.1 + d.2.1 + f.2.1, 0)
theorem tk_zz (m : Int) (t : List UInt8) : tk (zz m ++ t) = (zigF m, (zz m).length, 0) := tk_put _ _
theorem ct1_zz (q m : Int) (t : List UInt8) (h1 : -9223372036854775808 ≤ m) (h2 : m < 9223372036854775808) :
    ct1 q (zz m ++ t) = if m < -q ∨ 4611686018427387903 - q < m then (0, 0, 3) else (q + m, (zz m).length, 0) := by
  unfold ct1
  rw [tk_zz, if_neg (by simp)]
  simp only [zag_zig m h1 h2]
theorem drop_zz (m : Int) (t : List UInt8) : (zz m ++ t).drop (zz m).length = t := List.drop_left

theorem take_put (p c : Clk) (s : List UInt8) (hp : rightF p = true) (hc : rightF c = true) : ctakeF p ((cputF p c).1 ++ s) = (c, (cputF p c).1.length, 0) := by
  obtain ⟨⟨px0, px1⟩, ⟨py0, py1⟩, pz0, pz1⟩ := right_bounds hp
  obtain ⟨⟨cx0, cx1⟩, ⟨cy0, cy1⟩, cz0, cz1⟩ := right_bounds hc
  have e : cputF p c = (zz (c.x - p.x) ++ zz (c.y - p.y) ++ zz (c.z - p.z), 0) := if_pos ⟨hp, hc⟩
  rw [e]
  dsimp only
  have e1 : zz (c.x - p.x) ++ zz (c.y - p.y) ++ zz (c.z - p.z) ++ s = zz (c.x - p.x) ++ (zz (c.y - p.y) ++ (zz (c.z - p.z) ++ s)) := by simp
  rw [e1]
  unfold ctakeF
  rw [if_neg (by rw [hp]; simp)]
  dsimp only
  have a1 : ct1 p.x (zz (c.x - p.x) ++ (zz (c.y - p.y) ++ (zz (c.z - p.z) ++ s))) = (c.x, (zz (c.x - p.x)).length, 0) := by
    rw [ct1_zz _ _ _ (by omega) (by omega), if_neg (by omega)]
    congr 1; omega
  have a2 : ct1 p.y (zz (c.y - p.y) ++ (zz (c.z - p.z) ++ s)) = (c.y, (zz (c.y - p.y)).length, 0) := by
    rw [ct1_zz _ _ _ (by omega) (by omega), if_neg (by omega)]
    congr 1; omega
  have a3 : ct1 p.z (zz (c.z - p.z) ++ s) = (c.z, (zz (c.z - p.z)).length, 0) := by
    rw [ct1_zz _ _ _ (by omega) (by omega), if_neg (by omega)]
    congr 1; omega
  rw [a1]
  dsimp only
  rw [if_neg (by simp), drop_zz, a2]
  dsimp only
  rw [if_neg (by simp)]
  have e2 : (zz (c.x - p.x) ++ (zz (c.y - p.y) ++ (zz (c.z - p.z) ++ s))).drop ((zz (c.x - p.x)).length + (zz (c.y - p.y)).length) = zz (c.z - p.z) ++ s := by
    rw [← List.drop_drop, drop_zz, drop_zz]
  rw [e2, a3]
  dsimp only
  rw [if_neg (by simp)]
  simp [List.length_append, Nat.add_assoc]

theorem ct1_ok {q : Int} {l : List UInt8} (h : (ct1 q l).2.2 = 0) :
    zz ((ct1 q l).1 - q) = l.take (ct1 q l).2.1 ∧ 1 ≤ (ct1 q l).2.1 ∧ (ct1 q l).2.1 ≤ l.length ∧ 0 ≤ (ct1 q l).1 ∧ (ct1 q l).1 ≤ 4611686018427387903 := by
  unfold ct1 at *
  by_cases h1 : (tk l).2.2 = 0
  · obtain ⟨k1, k2, k3⟩ := tk_ok h1
    rw [if_neg (by simpa using h1)] at h ⊢
    by_cases h2 : zagF (tk l).1 < -q ∨ 4611686018427387903 - q < zagF (tk l).1
    · rw [if_pos h2] at h; exact absurd h (by decide)
    · rw [if_neg h2]
      dsimp only
      refine ⟨?_, k1, k2, by omega, by omega⟩
      rw [show q + zagF (tk l).1 - q = zagF (tk l).1 by omega]
      unfold zz
      rw [zig_zag, k3]
  · rw [if_pos (by simpa using h1)] at h
    exact absurd h h1

theorem ctake_ok {p : Clk} {s : List UInt8} (h : (ctakeF p s).2.2 = 0) :
    rightF (ctakeF p s).1 = true ∧ cputF p (ctakeF p s).1 = (s.take (ctakeF p s).2.1, 0) ∧ 3 ≤ (ctakeF p s).2.1 ∧ (ctakeF p s).2.1 ≤ s.length := by
  cases hr : rightF p with
  | false => unfold ctakeF at h; rw [if_pos hr] at h; exact absurd h (by decide)
  | true =>
    by_cases ha : (ct1 p.x s).2.2 = 0
    · by_cases hd : (ct1 p.y (s.drop (ct1 p.x s).2.1)).2.2 = 0
      · by_cases hf : (ct1 p.z (s.drop ((ct1 p.x s).2.1 + (ct1 p.y (s.drop (ct1 p.x s).2.1)).2.1))).2.2 = 0
        · have e : ctakeF p s = (⟨(ct1 p.x s).1, (ct1 p.y (s.drop (ct1 p.x s).2.1)).1, (ct1 p.z (s.drop ((ct1 p.x s).2.1 + (ct1 p.y (s.drop (ct1 p.x s).2.1)).2.1))).1⟩,
              (ct1 p.x s).2.1 + (ct1 p.y (s.drop (ct1 p.x s).2.1)).2.1 + (ct1 p.z (s.drop ((ct1 p.x s).2.1 + (ct1 p.y (s.drop (ct1 p.x s).2.1)).2.1))).2.1, 0) := by
            unfold ctakeF
            rw [if_neg (by rw [hr]; simp)]
            dsimp only
            rw [if_neg (by simpa using ha), if_neg (by simpa using hd), if_neg (by simpa using hf)]
          rw [e]
          obtain ⟨a1, a2, a3, a4, a5⟩ := ct1_ok ha
          obtain ⟨d1, d2, d3, d4, d5⟩ := ct1_ok hd
          obtain ⟨f1, f2, f3, f4, f5⟩ := ct1_ok hf
          rw [List.length_drop] at d3 f3
          dsimp only
          have hrd : rightF ⟨(ct1 p.x s).1, (ct1 p.y (s.drop (ct1 p.x s).2.1)).1, (ct1 p.z (s.drop ((ct1 p.x s).2.1 + (ct1 p.y (s.drop (ct1 p.x s).2.1)).2.1))).1⟩ = true := by
            simp only [rightF, Bool.and_eq_true, decide_eq_true_eq]
            exact ⟨⟨⟨⟨⟨a4, a5⟩, d4⟩, d5⟩, f4⟩, f5⟩
          refine ⟨hrd, ?_, by omega, by omega⟩
          unfold cputF
          rw [if_pos ⟨hr, hrd⟩]
          dsimp only
          rw [a1, d1, f1]
          congr 1
          rw [← List.take_add, ← List.take_add]
        · unfold ctakeF at h; rw [if_neg (by rw [hr]; simp)] at h; dsimp only at h
          rw [if_neg (by simpa using ha), if_neg (by simpa using hd), if_pos hf] at h
          exact absurd h hf
      · unfold ctakeF at h; rw [if_neg (by rw [hr]; simp)] at h; dsimp only at h
        rw [if_neg (by simpa using ha), if_pos hd] at h
        exact absurd h hd
    · unfold ctakeF at h; rw [if_neg (by rw [hr]; simp)] at h; dsimp only at h
      rw [if_pos ha] at h
      exact absurd h ha
end Go.Proofs.Ytonllhjmoenckaa
