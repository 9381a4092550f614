/- Layer 4 in plain Lean: clocks come back; what awake() asks. No program stands here. -/
import Derived.Test.YtfcbpdokilidgaaClkT
namespace Go.Proofs.Ytfcbpdokilidgaa
open Go.RowKit
set_option linter.unusedVariables false
set_option linter.unusedSimpArgs false

theorem tk_zz (m : Int) (t : List UInt8) : tk (zz m ++ t) = (zigF m, (zz m).length, 0) := tk_put _ _
theorem ct1_zz (q m : Int) (t : List UInt8) (h1 : -9223372036854775808 ≤ m) (h2 : m < 9223372036854775808) :
    ct1 q (zz m ++ t) = if m < -q ∨ 4611686018427387903 - q < m then (0, 0, 3) else (q + m, (zz m).length, 0) := by
  unfold ct1
  rw [tk_zz, if_neg (by simp)]
  simp only [zag_zig m h1 h2]
theorem drop_zz (m : Int) (t : List UInt8) : (zz m ++ t).drop (zz m).length = t := List.drop_left

theorem take_put (p c : Clk) (s : List UInt8) (hp : rightF p = true) (hc : rightF c = true) : ctakeF p ((cputF p c).1 ++ s) = (c, (cputF p c).1.length, 0) := by
  obtain ⟨⟨px0, px1⟩, ⟨py0, py1⟩, pz0, pz1⟩ := right_bounds hp
  obtain ⟨⟨cx0, cx1⟩, ⟨cy0, cy1⟩, cz0, cz1⟩ := right_bounds hc
  have e : cputF p c = (zz (c.x - p.x) ++ zz (c.y - p.y) ++ zz (c.z - p.z), 0) := if_pos ⟨hp, hc⟩
  rw [e]
  dsimp only
  have e1 : zz (c.x - p.x) ++ zz (c.y - p.y) ++ zz (c.z - p.z) ++ s = zz (c.x - p.x) ++ (zz (c.y - p.y) ++ (zz (c.z - p.z) ++ s)) := by simp
  rw [e1]
  unfold ctakeF
  rw [if_neg (by rw [hp]; simp)]
  dsimp only
  have a1 : ct1 p.x (zz (c.x - p.x) ++ (zz (c.y - p.y) ++ (zz (c.z - p.z) ++ s))) = (c.x, (zz (c.x - p.x)).length, 0) := by
    rw [ct1_zz _ _ _ (by omega) (by omega), if_neg (by omega)]
    congr 1; omega
  have a2 : ct1 p.y (zz (c.y - p.y) ++ (zz (c.z - p.z) ++ s)) = (c.y, (zz (c.y - p.y)).length, 0) := by
    rw [ct1_zz _ _ _ (by omega) (by omega), if_neg (by omega)]
    congr 1; omega
  have a3 : ct1 p.z (zz (c.z - p.z) ++ s) = (c.z, (zz (c.z - p.z)).length, 0) := by
    rw [ct1_zz _ _ _ (by omega) (by omega), if_neg (by omega)]
    congr 1; omega
  rw [a1]
  dsimp only
  rw [if_neg (by simp), drop_zz, a2]
  dsimp only
  rw [if_neg (by simp)]
  have e2 : (zz (c.x - p.x) ++ (zz (c.y - p.y) ++ (zz (c.z - p.z) ++ s))).drop ((zz (c.x - p.x)).length + (zz (c.y - p.y)).length) = zz (c.z - p.z) ++ s := by
    rw [← List.drop_drop, drop_zz, drop_zz]
  rw [e2, a3]
  dsimp only
  rw [if_neg (by simp)]
  simp [List.length_append, Nat.add_assoc]

theorem zz_1 : zz 1 = [2] := by unfold zz; rw [vput_lt (by decide)]; rfl
theorem zz_0 : zz 0 = [0] := by unfold zz; rw [vput_lt (by decide)]; rfl
theorem zz_m2 : zz (-2) = [3] := by unfold zz; rw [vput_lt (by decide)]; rfl
theorem zz_m1 : zz (-1) = [1] := by unfold zz; rw [vput_lt (by decide)]; rfl

theorem b1 : cputF ⟨4, 0, 9⟩ ⟨5, 0, 7⟩ = ([2, 0, 3], 0) := by
  unfold cputF
  rw [if_pos (by decide)]
  show (zz 1 ++ zz 0 ++ zz (-2), (0 : Int)) = _
  rw [zz_1, zz_0, zz_m2]; rfl
theorem b2 : ctakeF ⟨4, 0, 9⟩ [2, 0, 3, 9] = (⟨5, 0, 7⟩, 3, 0) := by
  have h := take_put ⟨4, 0, 9⟩ ⟨5, 0, 7⟩ [9] (by decide) (by decide)
  rw [b1] at h
  exact h
theorem ctake_2nd (p : Clk) (b : List UInt8) (a d : Int × Nat × Int) (hr : rightF p = true) (h1 : ct1 p.x b = a) (ha : a.2.2 = 0) (h2 : ct1 p.y (b.drop a.2.1) = d) (hd : d.2.2 ≠ 0) : ctakeF p b = (⟨0, 0, 0⟩, 0, d.2.2) := by
  unfold ctakeF
  rw [if_neg (by rw [hr]; simp)]
  dsimp only
  rw [h1, if_neg (by simpa using ha), h2, if_pos hd]
theorem b3 : ctakeF ⟨4, 0, 9⟩ [2, 1, 0] = (⟨0, 0, 0⟩, 0, 3) := by
  have e : ([2, 1, 0] : List UInt8) = zz 1 ++ (zz (-1) ++ [0]) := by rw [zz_1, zz_m1]; rfl
  rw [e]
  refine ctake_2nd _ _ (4 + 1, (zz 1).length, 0) (0, 0, 3) (by decide) ?_ rfl ?_ (by decide)
  · rw [ct1_zz 4 1 _ (by decide) (by decide), if_neg (by decide)]
  · dsimp only
    rw [drop_zz, ct1_zz 0 (-1) _ (by decide) (by decide), if_pos (by decide)]
theorem b4 : ctakeF ⟨4, 0, 9⟩ [2] = (⟨0, 0, 0⟩, 0, 2) := by
  have e : ([2] : List UInt8) = zz 1 ++ [] := by rw [zz_1]; rfl
  have e2 : ct1 0 [] = (0, 0, 2) := by
    have h : tk [] = (0, 0, 2) := by rw [tk_none (by decide)]; rfl
    unfold ct1; rw [h]; rfl
  rw [e]
  refine ctake_2nd _ _ (4 + 1, (zz 1).length, 0) (0, 0, 2) (by decide) ?_ rfl ?_ (by decide)
  · rw [ct1_zz 4 1 _ (by decide) (by decide), if_neg (by decide)]
  · dsimp only
    rw [drop_zz, e2]
theorem b5 : cputF ⟨-1, 0, 0⟩ ⟨5, 0, 7⟩ = ([], 1) := if_neg (by decide)

theorem j1 (w : World) : Calls Try.prog 32 #[cv ⟨4, 0, 9⟩, cv ⟨5, 0, 7⟩] w (RetBE w [2, 0, 3] 0) := by
  have h := cput_c ⟨4, 0, 9⟩ ⟨5, 0, 7⟩ w
  rw [b1] at h
  exact h
theorem j2 (v : Value) (w : World) (h : Sb w v [2, 0, 3, 9]) : Calls Try.prog 34 #[cv ⟨4, 0, 9⟩, v] w (RetV w (ctV (⟨5, 0, 7⟩, 3, 0))) := by
  have h := ctake_c ⟨4, 0, 9⟩ v _ w h (by decide)
  rw [b2] at h
  exact h
theorem j3 (v : Value) (w : World) (h : Sb w v [2, 1, 0]) : Calls Try.prog 34 #[cv ⟨4, 0, 9⟩, v] w (RetV w (.tuple #[.agg #[.int .i64 0, .int .i64 0, .int .i64 0], .int .i64 0, .int .i64 3])) := by
  have h := ctake_c ⟨4, 0, 9⟩ v _ w h (by decide)
  rw [b3] at h
  exact h
theorem j4 (v : Value) (w : World) (h : Sb w v [2]) : Calls Try.prog 34 #[cv ⟨4, 0, 9⟩, v] w (RetV w (.tuple #[.agg #[.int .i64 0, .int .i64 0, .int .i64 0], .int .i64 0, .int .i64 2])) := by
  have h := ctake_c ⟨4, 0, 9⟩ v _ w h (by decide)
  rw [b4] at h
  exact h
theorem j5 (w : World) : Calls Try.prog 32 #[cv ⟨-1, 0, 0⟩, cv ⟨5, 0, 7⟩] w (RetBE w [] 1) := by
  have h := cput_c ⟨-1, 0, 0⟩ ⟨5, 0, 7⟩ w
  rw [b5] at h
  exact h
theorem j6 (w : World) : Calls Try.prog 30 #[cv ⟨5, 0, 7⟩, .int .i64 1] w (RetV w (.tuple #[.agg #[.int .i64 5, .int .i64 1, .int .i64 7], .int .i64 0])) := by
  have h := step_c ⟨5, 0, 7⟩ 1 w (by decide) (by decide)
  rw [show stepF ⟨5, 0, 7⟩ 1 = (⟨5, 1, 7⟩, 0) from by decide] at h
  exact h
theorem j7 (w : World) : Calls Try.prog 30 #[cv ⟨5, 0, 7⟩, .int .i64 3] w (RetV w (.tuple #[.agg #[.int .i64 0, .int .i64 0, .int .i64 0], .int .i64 9])) := by
  have h := step_c ⟨5, 0, 7⟩ 3 w (by decide) (by decide)
  rw [show stepF ⟨5, 0, 7⟩ 3 = (⟨0, 0, 0⟩, 9) from by decide] at h
  exact h
theorem j8 (w : World) : Calls Try.prog 30 #[cv ⟨4611686018427387903, 0, 0⟩, .int .i64 0] w (RetV w (.tuple #[.agg #[.int .i64 0, .int .i64 0, .int .i64 0], .int .i64 10])) := by
  have h := step_c ⟨4611686018427387903, 0, 0⟩ 0 w (by decide) (by decide)
  rw [show stepF ⟨4611686018427387903, 0, 0⟩ 0 = (⟨0, 0, 0⟩, 10) from by decide] at h
  exact h
end Go.Proofs.Ytfcbpdokilidgaa
