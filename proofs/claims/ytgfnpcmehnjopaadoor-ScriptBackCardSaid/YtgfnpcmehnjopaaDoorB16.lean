/- Parts of the proofs, joined: TxnD, ScrW, ScrEa. -/
import Derived.Test.YtgfnpcmehnjopaaDoorB10
import Derived.Test.YtgfnpcmehnjopaaDoorB11
import Derived.Test.YtgfnpcmehnjopaaDoorB13
section
namespace Go.Proofs.YtgfnpcmehnjopaaDoor
open Go Go.RowKit
set_option linter.unusedVariables false
set_option linter.unusedSimpArgs false
variable {K : Nat → Obj → Prop}
end Go.Proofs.YtgfnpcmehnjopaaDoor
end
section
namespace Go.Proofs.YtgfnpcmehnjopaaDoor
open Go Go.RowKit
set_option linter.unusedVariables false
set_option linter.unusedSimpArgs false
variable {K : Nat → Obj → Prop}
def memI (d : Int) (l : List Int) : Bool := l.any fun n => decide (d = n)
end Go.Proofs.YtgfnpcmehnjopaaDoor
end
section
namespace Go.Proofs.YtgfnpcmehnjopaaDoor
open Go Go.RowKit
set_option linter.unusedVariables false
set_option linter.unusedSimpArgs false
variable {K : Nat → Obj → Prop}
end Go.Proofs.YtgfnpcmehnjopaaDoor
end
