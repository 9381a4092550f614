/-
  No cell of these rows narrows 'for every input' (looked for: loops, veiled, ifaces, maps, wideKeys, modest, calm, conditions, laid).
  DERIVED. THE GIVEN ROWS OF THIS SEAT. 3 by the template 'for every input the law returns true; each argument reads behind the call as it read before'; 0 by the template 'total and deterministic' (their statements: YtflhokgdkaophaaTotals.lean).
  GIVEN WITH THE SEED: the statements are not yours to turn. If you find one false, say at which input.
  Laid BY PROGRAM, IN A SANDBOX (cutbox-rows.mjs): the forced cells as the released guide's own fill.sh prints them over the translation ad147bd05e7ca79a… (all of the seat's roots in one cut). By AI agents, Wed Nov 11 2026. No macro, syntax, notation, axiom, sorry.
-/
import Derived.Test.YtflhokgdkaophaaChecked
import GoSem.Claim
import GoSem.ClaimJoined
import GoSem.ClaimMapViews
import Derived.JoinedTies
import Derived.KernelRfl
namespace Go.Proofs.Ytflhokgdkaophaa
/- THE CELL 'sum', in the pinned program and in every row, IS THE sha256 OF THE DUMP (.gsa) THAT YtflhokgdkaophaaProg.lean LOADS. Nothing in Lean hashes anything: it is a label: what it is worth is what the hold of that sum in a sandbox is worth. -/
noncomputable def Try.pinned : Pinned := { name := "ytflhokgdkaophaa", sum := "ad147bd05e7ca79a93ddf6ad1afded303bb9b858b63701bf7ddb3f0641520f5f", checked := Try.checked }
namespace Rows
def none {H : Type} : Left H := { results := [], args := [] }

/-- 'packetboatlaw01.VintTells': WHATEVER THE INPUT: true; the input reads as it did. -/
def vintTellsSpec : ChangeSpec := { name := "vintTells", fn := fun _ => fun
  | [d1, d2, d3, d4] => { results := [.lit (.bool true)], args := [d1, d2, d3, d4] }
  | _ => none }
def vintTellsRow : OpenClaim := { program := "ytflhokgdkaophaa", sum := "ad147bd05e7ca79a93ddf6ad1afded303bb9b858b63701bf7ddb3f0641520f5f", func := "packetboat/packetboatlaw01.VintTells", spec := "vintTells", apart := false }
def VintTellsSaid : Prop := vintTellsRow.holds Try.pinned (OpenSpec.ofChange vintTellsSpec)

/-- ITS FALSE NEIGHBOUR: 'it returns false'. Refute it at one input. -/
def vintTellsWrong : ChangeSpec := { name := "vintTells", fn := fun _ => fun
  | [d1, d2, d3, d4] => { results := [.lit (.bool false)], args := [d1, d2, d3, d4] }
  | _ => none }
def VintTellsWrongFalsely : Prop := vintTellsRow.holds Try.pinned (OpenSpec.ofChange vintTellsWrong)

/-- 'packetboatlaw01.VintBack': WHATEVER THE INPUT: true; the input reads as it did. -/
def vintBackSpec : ChangeSpec := { name := "vintBack", fn := fun _ => fun
  | [d1, d2, d3] => { results := [.lit (.bool true)], args := [d1, d2, d3] }
  | _ => none }
def vintBackRow : OpenClaim := { program := "ytflhokgdkaophaa", sum := "ad147bd05e7ca79a93ddf6ad1afded303bb9b858b63701bf7ddb3f0641520f5f", func := "packetboat/packetboatlaw01.VintBack", spec := "vintBack", apart := false }
def VintBackSaid : Prop := vintBackRow.holds Try.pinned (OpenSpec.ofChange vintBackSpec)

/-- ITS FALSE NEIGHBOUR: 'it returns false'. Refute it at one input. -/
def vintBackWrong : ChangeSpec := { name := "vintBack", fn := fun _ => fun
  | [d1, d2, d3] => { results := [.lit (.bool false)], args := [d1, d2, d3] }
  | _ => none }
def VintBackWrongFalsely : Prop := vintBackRow.holds Try.pinned (OpenSpec.ofChange vintBackWrong)

/-- 'packetboatlaw01.VintOrder': WHATEVER THE INPUT: true; the input reads as it did. -/
def vintOrderSpec : ChangeSpec := { name := "vintOrder", fn := fun _ => fun
  | [d1, d2] => { results := [.lit (.bool true)], args := [d1, d2] }
  | _ => none }
def vintOrderRow : OpenClaim := { program := "ytflhokgdkaophaa", sum := "ad147bd05e7ca79a93ddf6ad1afded303bb9b858b63701bf7ddb3f0641520f5f", func := "packetboat/packetboatlaw01.VintOrder", spec := "vintOrder", apart := false }
def VintOrderSaid : Prop := vintOrderRow.holds Try.pinned (OpenSpec.ofChange vintOrderSpec)

/-- ITS FALSE NEIGHBOUR: 'it returns false'. Refute it at one input. -/
def vintOrderWrong : ChangeSpec := { name := "vintOrder", fn := fun _ => fun
  | [d1, d2] => { results := [.lit (.bool false)], args := [d1, d2] }
  | _ => none }
def VintOrderWrongFalsely : Prop := vintOrderRow.holds Try.pinned (OpenSpec.ofChange vintOrderWrong)

/- THE SECOND FORM. 'bulk': how many values and letters a reading holds, each counted each time it is reached (what is shared counts as often as it is met; a slice's spare places count too). A statement '..UptoSaid' is the law's where the arguments, and the package variables that the reading takes, are together of bulk at most 1048576: NARROWER than '..Said'. Prove '..Said' where nothing that the law and all that it calls make is longer than what came in: it says more and counts as full. Else prove '..UptoSaid'. A law counts once. -/
mutual
def uptoBulk {H : Type} : DataW H → Nat
  | .lit (.string bytes) => bytes.length + 1
  | .lit _ => 1
  | .nil => 1
  | .ptr d => uptoBulk d + 1
  | .slice elems spare => uptoBulkAll elems + uptoBulkAll spare + 1
  | .agg parts => uptoBulkAll parts + 1
  | .iface _ d => uptoBulk d + 1
  | .map entries => uptoBulkEntries entries + 1
  | .held _ => 1
def uptoBulkAll {H : Type} : List (DataW H) → Nat
  | [] => 0
  | d :: r => uptoBulk d + uptoBulkAll r
def uptoBulkEntries {H : Type} : List (Lit × DataW H) → Nat
  | [] => 0
  | x :: r => uptoBulkEntry x + uptoBulkEntries r
def uptoBulkEntry {H : Type} : Lit × DataW H → Nat
  | (.string bytes, d) => bytes.length + uptoBulk d + 1
  | (_, d) => uptoBulk d + 1
 end
def uptoSmall : (H : Type) → List (DataW H) → Bool := fun _ ds => decide (uptoBulkAll ds ≤ 1048576)
def OpenSpec.upto (s : _root_.Go.ChangeSpec) : _root_.Go.OpenSpec := { _root_.Go.OpenSpec.ofChange s with cond := some uptoSmall }

/-- 'packetboatlaw01.VintTells', WHERE WHAT IT READS IS OF BULK AT MOST 1048576: true; the input reads as it did. -/
def vintTellsUptoRow : OpenClaim := { program := "ytflhokgdkaophaa", sum := "ad147bd05e7ca79a93ddf6ad1afded303bb9b858b63701bf7ddb3f0641520f5f", func := "packetboat/packetboatlaw01.VintTells", spec := "vintTells", apart := false, narrowed := true }
def VintTellsUptoSaid : Prop := vintTellsUptoRow.holds Try.pinned (OpenSpec.upto vintTellsSpec)

/-- 'packetboatlaw01.VintBack', WHERE WHAT IT READS IS OF BULK AT MOST 1048576: true; the input reads as it did. -/
def vintBackUptoRow : OpenClaim := { program := "ytflhokgdkaophaa", sum := "ad147bd05e7ca79a93ddf6ad1afded303bb9b858b63701bf7ddb3f0641520f5f", func := "packetboat/packetboatlaw01.VintBack", spec := "vintBack", apart := false, narrowed := true }
def VintBackUptoSaid : Prop := vintBackUptoRow.holds Try.pinned (OpenSpec.upto vintBackSpec)

/-- 'packetboatlaw01.VintOrder', WHERE WHAT IT READS IS OF BULK AT MOST 1048576: true; the input reads as it did. -/
def vintOrderUptoRow : OpenClaim := { program := "ytflhokgdkaophaa", sum := "ad147bd05e7ca79a93ddf6ad1afded303bb9b858b63701bf7ddb3f0641520f5f", func := "packetboat/packetboatlaw01.VintOrder", spec := "vintOrder", apart := false, narrowed := true }
def VintOrderUptoSaid : Prop := vintOrderUptoRow.holds Try.pinned (OpenSpec.upto vintOrderSpec)

end Rows
end Go.Proofs.Ytflhokgdkaophaa
