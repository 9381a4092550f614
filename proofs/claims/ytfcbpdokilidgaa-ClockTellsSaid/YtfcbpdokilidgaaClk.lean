/- Walks through package clock and its reference: comparisons. -/
import Derived.Test.YtfcbpdokilidgaaProg
import Derived.Test.YtfcbpdokilidgaaWords
import Derived.KernelRfl
import Derived.LoopTactic
import Derived.Deep.LoopGhost
import Derived.Deep.QuietTactic
import Derived.BigQuiet
import Derived.Outline
namespace Go.Proofs.Ytfcbpdokilidgaa
open Go.RowKit
set_option linter.unusedVariables false
set_option linter.unusedSimpArgs false

theorem galloc (w : World) (o : Obj) : Below w.heap.size w (w.alloc o) := (Below.refl _ _).alloc (Nat.le_refl _) _

structure Clk where
  x : Int
  y : Int
  z : Int
deriving DecidableEq

/-- A clock as a value. -/
def cv (c : Clk) : Value := .agg #[.int .i64 c.x, .int .i64 c.y, .int .i64 c.z]

def covF (a b : Clk) : Bool := decide (b.x ≤ a.x) && decide (b.y ≤ a.y) && decide (b.z ≤ a.z)
def rightF (c : Clk) : Bool := decide (0 ≤ c.x) && decide (c.x ≤ 4611686018427387903) && decide (0 ≤ c.y) && decide (c.y ≤ 4611686018427387903) && decide (0 ≤ c.z) && decide (c.z ≤ 4611686018427387903)

set_option maxHeartbeats 400000 in
theorem rcovers_c (a b : Clk) (w : World) : Calls Try.prog 36 #[cv a, cv b] w (RetV w (.bool (covF a b))) := by
  obtain ⟨ax, ay, az⟩ := a
  obtain ⟨bx, bcy, bz⟩ := b
  unfold cv covF
  dsimp only
  by_cases h1 : bx ≤ ax
  · by_cases h2 : bcy ≤ ay
    · by_cases h3 : bz ≤ az
      all_goals
        go_enter Try.func36, Try.ntmps36
        go_wp2
        go_ret
        exact ⟨by simp <;> (intros; omega), gthen (galloc _ _) (galloc _ _)⟩
    · go_enter Try.func36, Try.ntmps36
      go_wp2
      go_ret
      exact ⟨by simp <;> (intros; omega), gthen (galloc _ _) (galloc _ _)⟩
  · go_enter Try.func36, Try.ntmps36
    go_wp2
    go_ret
    exact ⟨by simp <;> (intros; omega), gthen (galloc _ _) (galloc _ _)⟩
--TAIL
set_option maxHeartbeats 400000 in
theorem rright_c (c : Clk) (w : World) : Calls Try.prog 39 #[cv c] w (RetV w (.bool (rightF c))) := by
  obtain ⟨x, y, z⟩ := c
  unfold cv rightF
  dsimp only
  by_cases h1 : 0 ≤ x
  · by_cases h2 : x ≤ 4611686018427387903
    · by_cases h3 : 0 ≤ y
      · by_cases h4 : y ≤ 4611686018427387903
        · by_cases h5 : 0 ≤ z
          · by_cases h6 : z ≤ 4611686018427387903
            · go_enter Try.func39, Try.ntmps39
              go_wp2
              go_ret
              exact ⟨by simp <;> (intros; omega), galloc _ _⟩
            · go_enter Try.func39, Try.ntmps39
              go_wp2
              go_ret
              exact ⟨by simp <;> (intros; omega), galloc _ _⟩
          · go_enter Try.func39, Try.ntmps39
            go_wp2
            go_ret
            exact ⟨by simp <;> (intros; omega), galloc _ _⟩
        · go_enter Try.func39, Try.ntmps39
          go_wp2
          go_ret
          exact ⟨by simp <;> (intros; omega), galloc _ _⟩
      · go_enter Try.func39, Try.ntmps39
        go_wp2
        go_ret
        exact ⟨by simp <;> (intros; omega), galloc _ _⟩
    · go_enter Try.func39, Try.ntmps39
      go_wp2
      go_ret
      exact ⟨by simp <;> (intros; omega), galloc _ _⟩
  · go_enter Try.func39, Try.ntmps39
    go_wp2
    go_ret
    exact ⟨by simp <;> (intros; omega), galloc _ _⟩

set_option maxHeartbeats 400000 in
theorem right_c (c : Clk) (w : World) : Calls Try.prog 38 #[cv c] w (RetV w (.bool (rightF c))) := by
  obtain ⟨x, y, z⟩ := c
  unfold cv
  have i0 : ∀ w, (Instr.index 54 (.agg #[.int .i64 x, .int .i64 y, .int .i64 z]) (.int .i64 0)).run Try.prog w = .ok (.int .i64 x) w := fun _ => by kernel_rfl
  have i1 : ∀ w, (Instr.index 54 (.agg #[.int .i64 x, .int .i64 y, .int .i64 z]) (.int .i64 1)).run Try.prog w = .ok (.int .i64 y) w := fun _ => by kernel_rfl
  have i2 : ∀ w, (Instr.index 54 (.agg #[.int .i64 x, .int .i64 y, .int .i64 z]) (.int .i64 2)).run Try.prog w = .ok (.int .i64 z) w := fun _ => by kernel_rfl
  obtain ⟨R, hR⟩ : ∃ R, rightF ⟨x, y, z⟩ = R := ⟨_, rfl⟩
  have HR := Lib.hid hR
  rw [hR]
  clear hR
  go_enter Try.func38, Try.ntmps38
  go_wp2
  go_loopg [6] (3) (fun g i wr => wr = w.alloc (.cells #[.int .i64 x, .int .i64 y, .int .i64 z] 54) ∧ ((g = 3 ∧ i = .int .i64 0) ∨ (g = 2 ∧ i = .int .i64 1 ∧ 0 ≤ x ∧ x ≤ 4611686018427387903) ∨ (g = 1 ∧ i = .int .i64 2 ∧ 0 ≤ x ∧ x ≤ 4611686018427387903 ∧ 0 ≤ y ∧ y ≤ 4611686018427387903) ∨ (g = 0 ∧ i = .int .i64 3 ∧ 0 ≤ x ∧ x ≤ 4611686018427387903 ∧ 0 ≤ y ∧ y ≤ 4611686018427387903 ∧ 0 ≤ z ∧ z ≤ 4611686018427387903)))
  case atStart => exact ⟨rfl, .inl ⟨rfl, rfl⟩⟩
  case round =>
    obtain ⟨rfl, h⟩ := hrel
    rcases h with ⟨rfl, rfl⟩ | ⟨rfl, rfl, p1, p2⟩ | ⟨rfl, rfl, p1, p2, p3, p4⟩ | ⟨rfl, rfl, p1, p2, p3, p4, p5, p6⟩
    · by_cases n1 : 0 ≤ x
      · by_cases n2 : x ≤ 4611686018427387903
        · go_wp2
          go_roundg 2
          case measure => omega
          case rel => exact ⟨rfl, .inr (.inl ⟨rfl, rfl, n1, n2⟩)⟩
        · go_wp2
          go_ret
          exact ⟨by rw [← HR.out]; simp [rightF] <;> (intros; omega), galloc _ _⟩
      · go_wp2
        go_ret
        exact ⟨by rw [← HR.out]; simp [rightF] <;> (intros; omega), galloc _ _⟩
    · by_cases n1 : 0 ≤ y
      · by_cases n2 : y ≤ 4611686018427387903
        · go_wp2
          go_roundg 1
          case measure => omega
          case rel => exact ⟨rfl, .inr (.inr (.inl ⟨rfl, rfl, p1, p2, n1, n2⟩))⟩
        · go_wp2
          go_ret
          exact ⟨by rw [← HR.out]; simp [rightF] <;> (intros; omega), galloc _ _⟩
      · go_wp2
        go_ret
        exact ⟨by rw [← HR.out]; simp [rightF] <;> (intros; omega), galloc _ _⟩
    · by_cases n1 : 0 ≤ z
      · by_cases n2 : z ≤ 4611686018427387903
        · go_wp2
          go_roundg 0
          case measure => omega
          case rel => exact ⟨rfl, .inr (.inr (.inr ⟨rfl, rfl, p1, p2, p3, p4, n1, n2⟩))⟩
        · go_wp2
          go_ret
          exact ⟨by rw [← HR.out]; simp [rightF] <;> (intros; omega), galloc _ _⟩
      · go_wp2
        go_ret
        exact ⟨by rw [← HR.out]; simp [rightF] <;> (intros; omega), galloc _ _⟩
    · go_wp2
      go_ret
      exact ⟨by rw [← HR.out]; simp [rightF] <;> omega, galloc _ _⟩
end Go.Proofs.Ytfcbpdokilidgaa
