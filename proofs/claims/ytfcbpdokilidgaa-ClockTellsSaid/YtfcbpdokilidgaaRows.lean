/-
  No cell of these rows narrows 'for every input' (looked for: loops, veiled, ifaces, maps, wideKeys, modest, calm, conditions, laid).
  DERIVED. THE GIVEN ROWS OF THIS SEAT. 10 by the template 'for every input the law returns true; each argument reads behind the call as it read before'; 0 by the template 'total and deterministic' (their statements: YtfcbpdokilidgaaTotals.lean).
  GIVEN WITH THE SEED: the statements are not yours to turn. If you find one false, say at which input.
  Laid BY PROGRAM, IN A SANDBOX (cutbox-rows.mjs): the forced cells as the released guide's own fill.sh prints them over the translation 79e95edab0af360f… (all of the seat's roots in one cut). By AI agents, Wed Nov 11 2026. No macro, syntax, notation, axiom, sorry.
-/
import Derived.Test.YtfcbpdokilidgaaChecked
import GoSem.Claim
import GoSem.ClaimJoined
import GoSem.ClaimMapViews
import Derived.JoinedTies
import Derived.KernelRfl
namespace Go.Proofs.Ytfcbpdokilidgaa
/- THE CELL 'sum', in the pinned program and in every row, IS THE sha256 OF THE DUMP (.gsa) THAT YtfcbpdokilidgaaProg.lean LOADS. Nothing in Lean hashes anything: it is a label: what it is worth is what the hold of that sum in a sandbox is worth. -/
noncomputable def Try.pinned : Pinned := { name := "ytfcbpdokilidgaa", sum := "79e95edab0af360f1d9b16c0b4cde62b3d574cac699bd8a8cce0f37025942fc4", checked := Try.checked }
namespace Rows
def none {H : Type} : Left H := { results := [], args := [] }

/-- 'packetboatlaw21.NetDoes': WHATEVER THE INPUT: true; the input reads as it did. -/
def netDoesSpec : ChangeSpec := { name := "netDoes", fn := fun _ => fun
  | [d] => { results := [.lit (.bool true)], args := [d] }
  | _ => none }
def netDoesRow : OpenClaim := { program := "ytfcbpdokilidgaa", sum := "79e95edab0af360f1d9b16c0b4cde62b3d574cac699bd8a8cce0f37025942fc4", func := "packetboat/packetboatlaw21.NetDoes", spec := "netDoes", apart := false }
def NetDoesSaid : Prop := netDoesRow.holds Try.pinned (OpenSpec.ofChange netDoesSpec)

/-- ITS FALSE NEIGHBOUR: 'it returns false'. Refute it at one input. -/
def netDoesWrong : ChangeSpec := { name := "netDoes", fn := fun _ => fun
  | [d] => { results := [.lit (.bool false)], args := [d] }
  | _ => none }
def NetDoesWrongFalsely : Prop := netDoesRow.holds Try.pinned (OpenSpec.ofChange netDoesWrong)

/-- 'packetboatlaw21.NetTrue': WHATEVER THE INPUT: true; the input reads as it did. -/
def netTrueSpec : ChangeSpec := { name := "netTrue", fn := fun _ => fun
  | [d] => { results := [.lit (.bool true)], args := [d] }
  | _ => none }
def netTrueRow : OpenClaim := { program := "ytfcbpdokilidgaa", sum := "79e95edab0af360f1d9b16c0b4cde62b3d574cac699bd8a8cce0f37025942fc4", func := "packetboat/packetboatlaw21.NetTrue", spec := "netTrue", apart := false }
def NetTrueSaid : Prop := netTrueRow.holds Try.pinned (OpenSpec.ofChange netTrueSpec)

/-- ITS FALSE NEIGHBOUR: 'it returns false'. Refute it at one input. -/
def netTrueWrong : ChangeSpec := { name := "netTrue", fn := fun _ => fun
  | [d] => { results := [.lit (.bool false)], args := [d] }
  | _ => none }
def NetTrueWrongFalsely : Prop := netTrueRow.holds Try.pinned (OpenSpec.ofChange netTrueWrong)

/-- 'packetboatlaw21.NetSpoilt': WHATEVER THE INPUT: true; the input reads as it did. -/
def netSpoiltSpec : ChangeSpec := { name := "netSpoilt", fn := fun _ => fun
  | [d] => { results := [.lit (.bool true)], args := [d] }
  | _ => none }
def netSpoiltRow : OpenClaim := { program := "ytfcbpdokilidgaa", sum := "79e95edab0af360f1d9b16c0b4cde62b3d574cac699bd8a8cce0f37025942fc4", func := "packetboat/packetboatlaw21.NetSpoilt", spec := "netSpoilt", apart := false }
def NetSpoiltSaid : Prop := netSpoiltRow.holds Try.pinned (OpenSpec.ofChange netSpoiltSpec)

/-- ITS FALSE NEIGHBOUR: 'it returns false'. Refute it at one input. -/
def netSpoiltWrong : ChangeSpec := { name := "netSpoilt", fn := fun _ => fun
  | [d] => { results := [.lit (.bool false)], args := [d] }
  | _ => none }
def NetSpoiltWrongFalsely : Prop := netSpoiltRow.holds Try.pinned (OpenSpec.ofChange netSpoiltWrong)

/-- 'packetboatlaw21.NetAll': WHATEVER THE INPUT: true; the input reads as it did. -/
def netAllSpec : ChangeSpec := { name := "netAll", fn := fun _ => fun
  | [d] => { results := [.lit (.bool true)], args := [d] }
  | _ => none }
def netAllRow : OpenClaim := { program := "ytfcbpdokilidgaa", sum := "79e95edab0af360f1d9b16c0b4cde62b3d574cac699bd8a8cce0f37025942fc4", func := "packetboat/packetboatlaw21.NetAll", spec := "netAll", apart := false }
def NetAllSaid : Prop := netAllRow.holds Try.pinned (OpenSpec.ofChange netAllSpec)

/-- ITS FALSE NEIGHBOUR: 'it returns false'. Refute it at one input. -/
def netAllWrong : ChangeSpec := { name := "netAll", fn := fun _ => fun
  | [d] => { results := [.lit (.bool false)], args := [d] }
  | _ => none }
def NetAllWrongFalsely : Prop := netAllRow.holds Try.pinned (OpenSpec.ofChange netAllWrong)

/-- 'packetboatlaw04.ClockTells': WHATEVER THE INPUT: true; the input reads as it did. -/
def clockTellsSpec : ChangeSpec := { name := "clockTells", fn := fun _ => fun
  | [d1, d2, d3, d4, d5] => { results := [.lit (.bool true)], args := [d1, d2, d3, d4, d5] }
  | _ => none }
def clockTellsRow : OpenClaim := { program := "ytfcbpdokilidgaa", sum := "79e95edab0af360f1d9b16c0b4cde62b3d574cac699bd8a8cce0f37025942fc4", func := "packetboat/packetboatlaw04.ClockTells", spec := "clockTells", apart := false }
def ClockTellsSaid : Prop := clockTellsRow.holds Try.pinned (OpenSpec.ofChange clockTellsSpec)

/-- ITS FALSE NEIGHBOUR: 'it returns false'. Refute it at one input. -/
def clockTellsWrong : ChangeSpec := { name := "clockTells", fn := fun _ => fun
  | [d1, d2, d3, d4, d5] => { results := [.lit (.bool false)], args := [d1, d2, d3, d4, d5] }
  | _ => none }
def ClockTellsWrongFalsely : Prop := clockTellsRow.holds Try.pinned (OpenSpec.ofChange clockTellsWrong)

/-- 'packetboatlaw04.ClockBack': WHATEVER THE INPUT: true; the input reads as it did. -/
def clockBackSpec : ChangeSpec := { name := "clockBack", fn := fun _ => fun
  | [d1, d2, d3] => { results := [.lit (.bool true)], args := [d1, d2, d3] }
  | _ => none }
def clockBackRow : OpenClaim := { program := "ytfcbpdokilidgaa", sum := "79e95edab0af360f1d9b16c0b4cde62b3d574cac699bd8a8cce0f37025942fc4", func := "packetboat/packetboatlaw04.ClockBack", spec := "clockBack", apart := false }
def ClockBackSaid : Prop := clockBackRow.holds Try.pinned (OpenSpec.ofChange clockBackSpec)

/-- ITS FALSE NEIGHBOUR: 'it returns false'. Refute it at one input. -/
def clockBackWrong : ChangeSpec := { name := "clockBack", fn := fun _ => fun
  | [d1, d2, d3] => { results := [.lit (.bool false)], args := [d1, d2, d3] }
  | _ => none }
def ClockBackWrongFalsely : Prop := clockBackRow.holds Try.pinned (OpenSpec.ofChange clockBackWrong)

/-- 'packetboatlaw04.ClockOrder': WHATEVER THE INPUT: true; the input reads as it did. -/
def clockOrderSpec : ChangeSpec := { name := "clockOrder", fn := fun _ => fun
  | [d1, d2, d3, d4] => { results := [.lit (.bool true)], args := [d1, d2, d3, d4] }
  | _ => none }
def clockOrderRow : OpenClaim := { program := "ytfcbpdokilidgaa", sum := "79e95edab0af360f1d9b16c0b4cde62b3d574cac699bd8a8cce0f37025942fc4", func := "packetboat/packetboatlaw04.ClockOrder", spec := "clockOrder", apart := false }
def ClockOrderSaid : Prop := clockOrderRow.holds Try.pinned (OpenSpec.ofChange clockOrderSpec)

/-- ITS FALSE NEIGHBOUR: 'it returns false'. Refute it at one input. -/
def clockOrderWrong : ChangeSpec := { name := "clockOrder", fn := fun _ => fun
  | [d1, d2, d3, d4] => { results := [.lit (.bool false)], args := [d1, d2, d3, d4] }
  | _ => none }
def ClockOrderWrongFalsely : Prop := clockOrderRow.holds Try.pinned (OpenSpec.ofChange clockOrderWrong)

/-- 'packetboatlaw05.DictDoes': WHATEVER THE INPUT: true; the input reads as it did. -/
def dictDoesSpec : ChangeSpec := { name := "dictDoes", fn := fun _ => fun
  | [d] => { results := [.lit (.bool true)], args := [d] }
  | _ => none }
def dictDoesRow : OpenClaim := { program := "ytfcbpdokilidgaa", sum := "79e95edab0af360f1d9b16c0b4cde62b3d574cac699bd8a8cce0f37025942fc4", func := "packetboat/packetboatlaw05.DictDoes", spec := "dictDoes", inPlace := ["maps.clone"], apart := false }
def DictDoesSaid : Prop := dictDoesRow.holds Try.pinned (OpenSpec.ofChange dictDoesSpec)

/-- ITS FALSE NEIGHBOUR: 'it returns false'. Refute it at one input. -/
def dictDoesWrong : ChangeSpec := { name := "dictDoes", fn := fun _ => fun
  | [d] => { results := [.lit (.bool false)], args := [d] }
  | _ => none }
def DictDoesWrongFalsely : Prop := dictDoesRow.holds Try.pinned (OpenSpec.ofChange dictDoesWrong)

/-- 'packetboatlaw05.DictBack': WHATEVER THE INPUT: true; the input reads as it did. -/
def dictBackSpec : ChangeSpec := { name := "dictBack", fn := fun _ => fun
  | [d1, d2] => { results := [.lit (.bool true)], args := [d1, d2] }
  | _ => none }
def dictBackRow : OpenClaim := { program := "ytfcbpdokilidgaa", sum := "79e95edab0af360f1d9b16c0b4cde62b3d574cac699bd8a8cce0f37025942fc4", func := "packetboat/packetboatlaw05.DictBack", spec := "dictBack", inPlace := ["maps.clone"], apart := false }
def DictBackSaid : Prop := dictBackRow.holds Try.pinned (OpenSpec.ofChange dictBackSpec)

/-- ITS FALSE NEIGHBOUR: 'it returns false'. Refute it at one input. -/
def dictBackWrong : ChangeSpec := { name := "dictBack", fn := fun _ => fun
  | [d1, d2] => { results := [.lit (.bool false)], args := [d1, d2] }
  | _ => none }
def DictBackWrongFalsely : Prop := dictBackRow.holds Try.pinned (OpenSpec.ofChange dictBackWrong)

/-- 'packetboatlaw05.DictFew': WHATEVER THE INPUT: true; the input reads as it did. -/
def dictFewSpec : ChangeSpec := { name := "dictFew", fn := fun _ => fun
  | [d] => { results := [.lit (.bool true)], args := [d] }
  | _ => none }
def dictFewRow : OpenClaim := { program := "ytfcbpdokilidgaa", sum := "79e95edab0af360f1d9b16c0b4cde62b3d574cac699bd8a8cce0f37025942fc4", func := "packetboat/packetboatlaw05.DictFew", spec := "dictFew", inPlace := ["maps.clone"], apart := false }
def DictFewSaid : Prop := dictFewRow.holds Try.pinned (OpenSpec.ofChange dictFewSpec)

/-- ITS FALSE NEIGHBOUR: 'it returns false'. Refute it at one input. -/
def dictFewWrong : ChangeSpec := { name := "dictFew", fn := fun _ => fun
  | [d] => { results := [.lit (.bool false)], args := [d] }
  | _ => none }
def DictFewWrongFalsely : Prop := dictFewRow.holds Try.pinned (OpenSpec.ofChange dictFewWrong)

/- THE SECOND FORM. 'bulk': how many values and letters a reading holds, each counted each time it is reached (what is shared counts as often as it is met; a slice's spare places count too). A statement '..UptoSaid' is the law's where the arguments, and the package variables that the reading takes, are together of bulk at most 1048576: NARROWER than '..Said'. Prove '..Said' where nothing that the law and all that it calls make is longer than what came in: it says more and counts as full. Else prove '..UptoSaid'. A law counts once. -/
mutual
def uptoBulk {H : Type} : DataW H → Nat
  | .lit (.string bytes) => bytes.length + 1
  | .lit _ => 1
  | .nil => 1
  | .ptr d => uptoBulk d + 1
  | .slice elems spare => uptoBulkAll elems + uptoBulkAll spare + 1
  | .agg parts => uptoBulkAll parts + 1
  | .iface _ d => uptoBulk d + 1
  | .map entries => uptoBulkEntries entries + 1
  | .held _ => 1
def uptoBulkAll {H : Type} : List (DataW H) → Nat
  | [] => 0
  | d :: r => uptoBulk d + uptoBulkAll r
def uptoBulkEntries {H : Type} : List (Lit × DataW H) → Nat
  | [] => 0
  | x :: r => uptoBulkEntry x + uptoBulkEntries r
def uptoBulkEntry {H : Type} : Lit × DataW H → Nat
  | (.string bytes, d) => bytes.length + uptoBulk d + 1
  | (_, d) => uptoBulk d + 1
 end
def uptoSmall : (H : Type) → List (DataW H) → Bool := fun _ ds => decide (uptoBulkAll ds ≤ 1048576)
def OpenSpec.upto (s : _root_.Go.ChangeSpec) : _root_.Go.OpenSpec := { _root_.Go.OpenSpec.ofChange s with cond := some uptoSmall }

/-- 'packetboatlaw21.NetDoes', WHERE WHAT IT READS IS OF BULK AT MOST 1048576: true; the input reads as it did. -/
def netDoesUptoRow : OpenClaim := { program := "ytfcbpdokilidgaa", sum := "79e95edab0af360f1d9b16c0b4cde62b3d574cac699bd8a8cce0f37025942fc4", func := "packetboat/packetboatlaw21.NetDoes", spec := "netDoes", apart := false, narrowed := true }
def NetDoesUptoSaid : Prop := netDoesUptoRow.holds Try.pinned (OpenSpec.upto netDoesSpec)

/-- 'packetboatlaw21.NetTrue', WHERE WHAT IT READS IS OF BULK AT MOST 1048576: true; the input reads as it did. -/
def netTrueUptoRow : OpenClaim := { program := "ytfcbpdokilidgaa", sum := "79e95edab0af360f1d9b16c0b4cde62b3d574cac699bd8a8cce0f37025942fc4", func := "packetboat/packetboatlaw21.NetTrue", spec := "netTrue", apart := false, narrowed := true }
def NetTrueUptoSaid : Prop := netTrueUptoRow.holds Try.pinned (OpenSpec.upto netTrueSpec)

/-- 'packetboatlaw21.NetSpoilt', WHERE WHAT IT READS IS OF BULK AT MOST 1048576: true; the input reads as it did. -/
def netSpoiltUptoRow : OpenClaim := { program := "ytfcbpdokilidgaa", sum := "79e95edab0af360f1d9b16c0b4cde62b3d574cac699bd8a8cce0f37025942fc4", func := "packetboat/packetboatlaw21.NetSpoilt", spec := "netSpoilt", apart := false, narrowed := true }
def NetSpoiltUptoSaid : Prop := netSpoiltUptoRow.holds Try.pinned (OpenSpec.upto netSpoiltSpec)

/-- 'packetboatlaw21.NetAll', WHERE WHAT IT READS IS OF BULK AT MOST 1048576: true; the input reads as it did. -/
def netAllUptoRow : OpenClaim := { program := "ytfcbpdokilidgaa", sum := "79e95edab0af360f1d9b16c0b4cde62b3d574cac699bd8a8cce0f37025942fc4", func := "packetboat/packetboatlaw21.NetAll", spec := "netAll", apart := false, narrowed := true }
def NetAllUptoSaid : Prop := netAllUptoRow.holds Try.pinned (OpenSpec.upto netAllSpec)

/-- 'packetboatlaw04.ClockTells', WHERE WHAT IT READS IS OF BULK AT MOST 1048576: true; the input reads as it did. -/
def clockTellsUptoRow : OpenClaim := { program := "ytfcbpdokilidgaa", sum := "79e95edab0af360f1d9b16c0b4cde62b3d574cac699bd8a8cce0f37025942fc4", func := "packetboat/packetboatlaw04.ClockTells", spec := "clockTells", apart := false, narrowed := true }
def ClockTellsUptoSaid : Prop := clockTellsUptoRow.holds Try.pinned (OpenSpec.upto clockTellsSpec)

/-- 'packetboatlaw04.ClockBack', WHERE WHAT IT READS IS OF BULK AT MOST 1048576: true; the input reads as it did. -/
def clockBackUptoRow : OpenClaim := { program := "ytfcbpdokilidgaa", sum := "79e95edab0af360f1d9b16c0b4cde62b3d574cac699bd8a8cce0f37025942fc4", func := "packetboat/packetboatlaw04.ClockBack", spec := "clockBack", apart := false, narrowed := true }
def ClockBackUptoSaid : Prop := clockBackUptoRow.holds Try.pinned (OpenSpec.upto clockBackSpec)

/-- 'packetboatlaw04.ClockOrder', WHERE WHAT IT READS IS OF BULK AT MOST 1048576: true; the input reads as it did. -/
def clockOrderUptoRow : OpenClaim := { program := "ytfcbpdokilidgaa", sum := "79e95edab0af360f1d9b16c0b4cde62b3d574cac699bd8a8cce0f37025942fc4", func := "packetboat/packetboatlaw04.ClockOrder", spec := "clockOrder", apart := false, narrowed := true }
def ClockOrderUptoSaid : Prop := clockOrderUptoRow.holds Try.pinned (OpenSpec.upto clockOrderSpec)

/-- 'packetboatlaw05.DictDoes', WHERE WHAT IT READS IS OF BULK AT MOST 1048576: true; the input reads as it did. -/
def dictDoesUptoRow : OpenClaim := { program := "ytfcbpdokilidgaa", sum := "79e95edab0af360f1d9b16c0b4cde62b3d574cac699bd8a8cce0f37025942fc4", func := "packetboat/packetboatlaw05.DictDoes", spec := "dictDoes", inPlace := ["maps.clone"], apart := false, narrowed := true }
def DictDoesUptoSaid : Prop := dictDoesUptoRow.holds Try.pinned (OpenSpec.upto dictDoesSpec)

/-- 'packetboatlaw05.DictBack', WHERE WHAT IT READS IS OF BULK AT MOST 1048576: true; the input reads as it did. -/
def dictBackUptoRow : OpenClaim := { program := "ytfcbpdokilidgaa", sum := "79e95edab0af360f1d9b16c0b4cde62b3d574cac699bd8a8cce0f37025942fc4", func := "packetboat/packetboatlaw05.DictBack", spec := "dictBack", inPlace := ["maps.clone"], apart := false, narrowed := true }
def DictBackUptoSaid : Prop := dictBackUptoRow.holds Try.pinned (OpenSpec.upto dictBackSpec)

/-- 'packetboatlaw05.DictFew', WHERE WHAT IT READS IS OF BULK AT MOST 1048576: true; the input reads as it did. -/
def dictFewUptoRow : OpenClaim := { program := "ytfcbpdokilidgaa", sum := "79e95edab0af360f1d9b16c0b4cde62b3d574cac699bd8a8cce0f37025942fc4", func := "packetboat/packetboatlaw05.DictFew", spec := "dictFew", inPlace := ["maps.clone"], apart := false, narrowed := true }
def DictFewUptoSaid : Prop := dictFewUptoRow.holds Try.pinned (OpenSpec.upto dictFewSpec)

end Rows
end Go.Proofs.Ytfcbpdokilidgaa
