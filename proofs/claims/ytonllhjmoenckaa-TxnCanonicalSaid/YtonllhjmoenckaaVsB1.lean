/- Are bytes the same? Told by values. -/
import Derived.Test.YtonllhjmoenckaaVsQ
import Derived.Test.YtonllhjmoenckaaSame
namespace Go.Proofs.Ytonllhjmoenckaa
open Go Go.RowKit
set_option linter.unusedVariables false
set_option linter.unusedSimpArgs false
variable {K : Nat → Obj → Prop}

theorem noGo : (Try.prog.funcs.all fun fn => !(fn.name == "runtime.NumGoroutine")) = true := by kernel_rfl
theorem vsame_s (l m : List UInt8) (h : List Ho) : Sp Try.prog K 37 [.sl 1 (bs l), .sl 1 (bs m)] h fun u hh => u = .sc (.bool (decide (l = m))) ∧ hh = h :=
  .ofV (fun F φ w => .d (.sc rfl)) fun F φ w args hd => by
    obtain ⟨r, q, rfl, h1, h2⟩ := args2 hd
    exact same_c r q l m w (den_in h1).sb (den_in h2).sb
end Go.Proofs.Ytonllhjmoenckaa
