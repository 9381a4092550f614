/- Parts of the proofs, joined: ScrJ. -/
import Derived.Test.YtgfnpcmehnjopaaDoorB11
import Derived.Test.YtgfnpcmehnjopaaDoorB16
namespace Go.Proofs.YtgfnpcmehnjopaaDoor
open Go Go.RowKit
set_option linter.unusedVariables false
set_option linter.unusedSimpArgs false
variable {K : Nat → Obj → Prop}
def rbytesP (K : Nat → Obj → Prop) (x : It) : Prop := Sp Tryd.prog K 45 [itV x] [] fun u hh => u = .sl 1 (bs (bytesI x)) ∧ hh = []
end Go.Proofs.YtgfnpcmehnjopaaDoor
