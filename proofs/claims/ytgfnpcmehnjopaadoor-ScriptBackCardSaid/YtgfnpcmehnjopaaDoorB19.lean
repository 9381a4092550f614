/- Parts of the proofs, joined: ScrN, ScrRa, ScrRb. -/
import Derived.Test.YtgfnpcmehnjopaaDoorB13
import Derived.Test.YtgfnpcmehnjopaaDoorB18
section
namespace Go.Proofs.YtgfnpcmehnjopaaDoor
open Go Go.RowKit
set_option linter.unusedVariables false
set_option linter.unusedSimpArgs false
variable {K : Nat → Obj → Prop}
abbrev rdD (b : List UInt8) (u : Nat) (e : Int) : Ho := .cells [.sl 1 (bs b), .sc (.int .i64 (u : Int)), .sc (.int .i64 e)]
def DR (b : List UInt8) (u : Nat) (s : Rst) : Prop := s.1 = b.drop u ∧ u ≤ b.length
end Go.Proofs.YtgfnpcmehnjopaaDoor
end
section
namespace Go.Proofs.YtgfnpcmehnjopaaDoor
open Go Go.RowKit
set_option linter.unusedVariables false
set_option linter.unusedSimpArgs false
variable {K : Nat → Obj → Prop}
abbrev itD (x : It) (u v : V) : List V := [.sc (.int .i64 x.d), .sc (.int .i64 x.o), .sc (.int .i64 x.n), .sc (.int .i64 x.a), .sc (.int .u32 x.m), .sc (.int .i64 x.c.x), .sc (.int .i64 x.c.y), .sc (.int .i64 x.c.z), u, v]
abbrev nilD : V := .sc (.slice none 0 0)
def dreadP (K : Nat → Obj → Prop) (b : List UInt8) : Prop := Sp Tryd.prog K 49 [.sl 1 (bs b)] [] fun u hh => u = .tup [itV (readI b).1, .sc (.int .i64 (readI b).2)] ∧ hh = []
end Go.Proofs.YtgfnpcmehnjopaaDoor
end
section
namespace Go.Proofs.YtgfnpcmehnjopaaDoor
open Go Go.RowKit
set_option linter.unusedVariables false
set_option linter.unusedSimpArgs false
variable {K : Nat → Obj → Prop}
end Go.Proofs.YtgfnpcmehnjopaaDoor
end
