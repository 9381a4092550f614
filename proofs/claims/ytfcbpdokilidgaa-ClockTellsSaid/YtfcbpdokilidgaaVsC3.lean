/- The document's clock functions, told by values. -/
import Derived.Test.YtfcbpdokilidgaaVsC1
import Derived.Test.YtfcbpdokilidgaaVsP
namespace Go.Proofs.Ytfcbpdokilidgaa
open Go Go.RowKit
set_option linter.unusedVariables false
set_option linter.unusedSimpArgs false

theorem rright_s (c : Clk) (h : List Ho) : Sp Try.prog K0 39 [clkV c] h fun u hh => u = .sc (.bool (rightF c)) ∧ hh = h :=
  .ofV (fun F φ w => .d (.sc rfl)) fun F φ w args hd => by
    obtain ⟨r, rfl, h1⟩ := args1 hd
    rw [clk_of h1]; exact rright_c c w
theorem rzig_s {m : Int} (h1 : -9223372036854775808 ≤ m) (h2 : m < 9223372036854775808) (h : List Ho) : Sp Try.prog K0 65 [.sc (.int .i64 m)] h fun u hh => u = .sc (.int .u64 (zigF m).toNat) ∧ hh = h :=
  .ofV (fun F φ w => .d (.sc rfl)) fun F φ w args hd => by
    obtain ⟨r, rfl, h3⟩ := args1 hd
    rw [h3.sc.1]; exact rzig_c m h1 h2 w
theorem rzag_s (n : UInt64) (h : List Ho) : Sp Try.prog K0 68 [.sc (.int .u64 n.toNat)] h fun u hh => u = .sc (.int .i64 (zagF n)) ∧ hh = h :=
  .ofV (fun F φ w => .d (.sc rfl)) fun F φ w args hd => by
    obtain ⟨r, rfl, h3⟩ := args1 hd
    rw [h3.sc.1]; exact rzag_c n w
theorem rput_s {n : UInt64} {l : List UInt8} (hl : vput n.toNat = l) (h : List Ho) : Sp Try.prog K0 64 [.sc (.int .u64 n.toNat)] h fun u hh => u = .sl 1 (bs l) ∧ hh = h :=
  .ofB fun F φ w args hd => by
    obtain ⟨r, rfl, h3⟩ := args1 hd
    rw [h3.sc.1, ← hl]; exact rput_c n w
theorem rtake_s {s : List UInt8} {u : UInt64} {n : Nat} {er : Int} (ht : tk s = (u, n, er)) (hl : s.length ≤ 1000000000) (h : List Ho) : Sp Try.prog K0 67 [.sl 1 (bs s)] h fun v hh => v = .tup [.sc (.int .u64 u.toNat), .sc (.int .i64 n), .sc (.int .i64 er)] ∧ hh = h :=
  .ofV (r := tkV (tk s)) (fun F φ w => by rw [ht]; exact den_tup (.cons (.d (.sc rfl)) (.cons (.d (.sc rfl)) (.cons (.d (.sc rfl)) .nil)))) fun F φ w args hd => by
    obtain ⟨r, rfl, h3⟩ := args1 hd
    exact rtake_c r s w (den_in h3).sb hl
end Go.Proofs.Ytfcbpdokilidgaa
