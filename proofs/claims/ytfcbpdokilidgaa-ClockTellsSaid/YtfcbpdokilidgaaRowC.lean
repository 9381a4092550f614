/- A clock that came in (an array of three by value), opened. -/
import Derived.Test.YtfcbpdokilidgaaClkM
import Derived.Test.YtfcbpdokilidgaaRow
import Derived.OpenShut
import Derived.ProofKit
import Derived.Laws.IdiomArrays
namespace Go.Proofs.Ytfcbpdokilidgaa
open Go.RowKit Go.ChangeShapes
set_option linter.unusedVariables false
set_option linter.unusedSimpArgs false
set_option linter.constructorNameAsVariable false

set_option maxRecDepth 100000 in
theorem open_clk {H : Type} {enc : TypeId × Value → H} {W : World} {base : Nat} {sp : Nat → Bool} {held : Bool} {r : Reach} {b0 : Nat} {v : Value} {d : DataW H} {ps : List MemPlace}
    (hval : Value.okWide Try.prog W r b0 54 v) (hd : DataW.Trod enc Try.prog W base sp held 54 v d ps) :
    ∃ c : Clk, v = cv c ∧ (Lit.int .i64 c.x).wf = true ∧ (Lit.int .i64 c.y).wf = true ∧ (Lit.int .i64 c.z).wf = true := by
  simp only [Value.okWide, Try.underlying54] at hval
  obtain ⟨cs, h1, h2, _⟩ := hval
  have hc : Try.prog.cellsOf 54 = 3 := by kernel_rfl
  rw [hc] at h2
  obtain ⟨l⟩ := cs
  match l, h2 with
  | [c0, c1, c2], _ =>
    subst h1
    obtain ⟨fuel, hf⟩ := hd
    obtain ⟨y0, y1, y2, n, _, t0, t1, t2⟩ := trod_array3 Try.underlying54 (by kernel_rfl) hf
    obtain ⟨a, ea, _, wa⟩ := DataW.trod_int Try.underlying2 t0
    obtain ⟨b, eb, _, wb⟩ := DataW.trod_int Try.underlying2 t1
    obtain ⟨c, ec, _, wc⟩ := DataW.trod_int Try.underlying2 t2
    simp at ea eb ec
    subst ea; subst eb; subst ec
    exact ⟨⟨a, b, c⟩, rfl, wa, wb, wc⟩
end Go.Proofs.Ytfcbpdokilidgaa
