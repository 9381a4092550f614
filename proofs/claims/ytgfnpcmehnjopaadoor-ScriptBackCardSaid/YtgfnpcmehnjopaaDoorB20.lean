/- Parts of the proofs, joined: ScrRc. -/
import Derived.Test.YtgfnpcmehnjopaaDoorB19
namespace Go.Proofs.YtgfnpcmehnjopaaDoor
open Go Go.RowKit
set_option linter.unusedVariables false
set_option linter.unusedSimpArgs false
variable {K : Nat → Obj → Prop}
end Go.Proofs.YtgfnpcmehnjopaaDoor
