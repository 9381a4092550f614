/- Parts of the proofs, joined: ScrE. -/
import Derived.Test.YtgfnpcmehnjopaaDoorB16
import Derived.Test.YtgfnpcmehnjopaaDoorB17
namespace Go.Proofs.YtgfnpcmehnjopaaDoor
open Go Go.RowKit
set_option linter.unusedVariables false
set_option linter.unusedSimpArgs false
variable {K : Nat → Obj → Prop}
end Go.Proofs.YtgfnpcmehnjopaaDoor
