/-
  No cell of these rows narrows 'for every input' (looked for: loops, veiled, ifaces, maps, wideKeys, modest, calm, conditions, laid).
  DERIVED. THE GIVEN ROWS OF THIS SEAT. 13 by the template 'for every input the law returns true; each argument reads behind the call as it read before'; 0 by the template 'total and deterministic' (their statements: YtonllhjmoenckaaTotals.lean).
  GIVEN WITH THE SEED: the statements are not yours to turn. If you find one false, say at which input.
  Laid BY PROGRAM, IN A SANDBOX (cutbox-rows.mjs): the forced cells as the released guide's own fill.sh prints them over the translation 668b9142e98acb50… (all of the seat's roots in one cut). By AI agents, Wed Nov 11 2026. No macro, syntax, notation, axiom, sorry.
-/
import Derived.Test.YtonllhjmoenckaaChecked
import GoSem.Claim
import GoSem.ClaimJoined
import GoSem.ClaimMapViews
import Derived.JoinedTies
import Derived.KernelRfl
namespace Go.Proofs.Ytonllhjmoenckaa
/- THE CELL 'sum', in the pinned program and in every row, IS THE sha256 OF THE DUMP (.gsa) THAT YtonllhjmoenckaaProg.lean LOADS. Nothing in Lean hashes anything: it is a label: what it is worth is what the hold of that sum in a sandbox is worth. -/
noncomputable def Try.pinned : Pinned := { name := "ytonllhjmoenckaa", sum := "668b9142e98acb5074f9acc48b8e1c62aa78961d299541ee7ac6a685e07c22dc", checked := Try.checked }
namespace Rows
def none {H : Type} : Left H := { results := [], args := [] }

/-- 'packetboatlaw21.NetDoes': WHATEVER THE INPUT: true; the input reads as it did. -/
def netDoesSpec : ChangeSpec := { name := "netDoes", fn := fun _ => fun
  | [d] => { results := [.lit (.bool true)], args := [d] }
  | _ => none }
def netDoesRow : OpenClaim := { program := "ytonllhjmoenckaa", sum := "668b9142e98acb5074f9acc48b8e1c62aa78961d299541ee7ac6a685e07c22dc", func := "packetboat/packetboatlaw21.NetDoes", spec := "netDoes", apart := false }
def NetDoesSaid : Prop := netDoesRow.holds Try.pinned (OpenSpec.ofChange netDoesSpec)

/-- ITS FALSE NEIGHBOUR: 'it returns false'. Refute it at one input. -/
def netDoesWrong : ChangeSpec := { name := "netDoes", fn := fun _ => fun
  | [d] => { results := [.lit (.bool false)], args := [d] }
  | _ => none }
def NetDoesWrongFalsely : Prop := netDoesRow.holds Try.pinned (OpenSpec.ofChange netDoesWrong)

/-- 'packetboatlaw21.NetTrue': WHATEVER THE INPUT: true; the input reads as it did. -/
def netTrueSpec : ChangeSpec := { name := "netTrue", fn := fun _ => fun
  | [d] => { results := [.lit (.bool true)], args := [d] }
  | _ => none }
def netTrueRow : OpenClaim := { program := "ytonllhjmoenckaa", sum := "668b9142e98acb5074f9acc48b8e1c62aa78961d299541ee7ac6a685e07c22dc", func := "packetboat/packetboatlaw21.NetTrue", spec := "netTrue", apart := false }
def NetTrueSaid : Prop := netTrueRow.holds Try.pinned (OpenSpec.ofChange netTrueSpec)

/-- ITS FALSE NEIGHBOUR: 'it returns false'. Refute it at one input. -/
def netTrueWrong : ChangeSpec := { name := "netTrue", fn := fun _ => fun
  | [d] => { results := [.lit (.bool false)], args := [d] }
  | _ => none }
def NetTrueWrongFalsely : Prop := netTrueRow.holds Try.pinned (OpenSpec.ofChange netTrueWrong)

/-- 'packetboatlaw21.NetSpoilt': WHATEVER THE INPUT: true; the input reads as it did. -/
def netSpoiltSpec : ChangeSpec := { name := "netSpoilt", fn := fun _ => fun
  | [d] => { results := [.lit (.bool true)], args := [d] }
  | _ => none }
def netSpoiltRow : OpenClaim := { program := "ytonllhjmoenckaa", sum := "668b9142e98acb5074f9acc48b8e1c62aa78961d299541ee7ac6a685e07c22dc", func := "packetboat/packetboatlaw21.NetSpoilt", spec := "netSpoilt", apart := false }
def NetSpoiltSaid : Prop := netSpoiltRow.holds Try.pinned (OpenSpec.ofChange netSpoiltSpec)

/-- ITS FALSE NEIGHBOUR: 'it returns false'. Refute it at one input. -/
def netSpoiltWrong : ChangeSpec := { name := "netSpoilt", fn := fun _ => fun
  | [d] => { results := [.lit (.bool false)], args := [d] }
  | _ => none }
def NetSpoiltWrongFalsely : Prop := netSpoiltRow.holds Try.pinned (OpenSpec.ofChange netSpoiltWrong)

/-- 'packetboatlaw21.NetAll': WHATEVER THE INPUT: true; the input reads as it did. -/
def netAllSpec : ChangeSpec := { name := "netAll", fn := fun _ => fun
  | [d] => { results := [.lit (.bool true)], args := [d] }
  | _ => none }
def netAllRow : OpenClaim := { program := "ytonllhjmoenckaa", sum := "668b9142e98acb5074f9acc48b8e1c62aa78961d299541ee7ac6a685e07c22dc", func := "packetboat/packetboatlaw21.NetAll", spec := "netAll", apart := false }
def NetAllSaid : Prop := netAllRow.holds Try.pinned (OpenSpec.ofChange netAllSpec)

/-- ITS FALSE NEIGHBOUR: 'it returns false'. Refute it at one input. -/
def netAllWrong : ChangeSpec := { name := "netAll", fn := fun _ => fun
  | [d] => { results := [.lit (.bool false)], args := [d] }
  | _ => none }
def NetAllWrongFalsely : Prop := netAllRow.holds Try.pinned (OpenSpec.ofChange netAllWrong)

/-- 'packetboatlaw05.DictDoes': WHATEVER THE INPUT: true; the input reads as it did. -/
def dictDoesSpec : ChangeSpec := { name := "dictDoes", fn := fun _ => fun
  | [d] => { results := [.lit (.bool true)], args := [d] }
  | _ => none }
def dictDoesRow : OpenClaim := { program := "ytonllhjmoenckaa", sum := "668b9142e98acb5074f9acc48b8e1c62aa78961d299541ee7ac6a685e07c22dc", func := "packetboat/packetboatlaw05.DictDoes", spec := "dictDoes", inPlace := ["maps.clone"], apart := false }
def DictDoesSaid : Prop := dictDoesRow.holds Try.pinned (OpenSpec.ofChange dictDoesSpec)

/-- ITS FALSE NEIGHBOUR: 'it returns false'. Refute it at one input. -/
def dictDoesWrong : ChangeSpec := { name := "dictDoes", fn := fun _ => fun
  | [d] => { results := [.lit (.bool false)], args := [d] }
  | _ => none }
def DictDoesWrongFalsely : Prop := dictDoesRow.holds Try.pinned (OpenSpec.ofChange dictDoesWrong)

/-- 'packetboatlaw05.DictBack': WHATEVER THE INPUT: true; the input reads as it did. -/
def dictBackSpec : ChangeSpec := { name := "dictBack", fn := fun _ => fun
  | [d1, d2] => { results := [.lit (.bool true)], args := [d1, d2] }
  | _ => none }
def dictBackRow : OpenClaim := { program := "ytonllhjmoenckaa", sum := "668b9142e98acb5074f9acc48b8e1c62aa78961d299541ee7ac6a685e07c22dc", func := "packetboat/packetboatlaw05.DictBack", spec := "dictBack", inPlace := ["maps.clone"], apart := false }
def DictBackSaid : Prop := dictBackRow.holds Try.pinned (OpenSpec.ofChange dictBackSpec)

/-- ITS FALSE NEIGHBOUR: 'it returns false'. Refute it at one input. -/
def dictBackWrong : ChangeSpec := { name := "dictBack", fn := fun _ => fun
  | [d1, d2] => { results := [.lit (.bool false)], args := [d1, d2] }
  | _ => none }
def DictBackWrongFalsely : Prop := dictBackRow.holds Try.pinned (OpenSpec.ofChange dictBackWrong)

/-- 'packetboatlaw05.DictFew': WHATEVER THE INPUT: true; the input reads as it did. -/
def dictFewSpec : ChangeSpec := { name := "dictFew", fn := fun _ => fun
  | [d] => { results := [.lit (.bool true)], args := [d] }
  | _ => none }
def dictFewRow : OpenClaim := { program := "ytonllhjmoenckaa", sum := "668b9142e98acb5074f9acc48b8e1c62aa78961d299541ee7ac6a685e07c22dc", func := "packetboat/packetboatlaw05.DictFew", spec := "dictFew", inPlace := ["maps.clone"], apart := false }
def DictFewSaid : Prop := dictFewRow.holds Try.pinned (OpenSpec.ofChange dictFewSpec)

/-- ITS FALSE NEIGHBOUR: 'it returns false'. Refute it at one input. -/
def dictFewWrong : ChangeSpec := { name := "dictFew", fn := fun _ => fun
  | [d] => { results := [.lit (.bool false)], args := [d] }
  | _ => none }
def DictFewWrongFalsely : Prop := dictFewRow.holds Try.pinned (OpenSpec.ofChange dictFewWrong)

/-- 'packetboatlaw06.TxnBack': WHATEVER THE INPUT: true; the input reads as it did. -/
def txnBackSpec : ChangeSpec := { name := "txnBack", fn := fun _ => fun
  | [d1, d2] => { results := [.lit (.bool true)], args := [d1, d2] }
  | _ => none }
def txnBackRow : OpenClaim := { program := "ytonllhjmoenckaa", sum := "668b9142e98acb5074f9acc48b8e1c62aa78961d299541ee7ac6a685e07c22dc", func := "packetboat/packetboatlaw06.TxnBack", spec := "txnBack", inPlace := ["maps.clone"], unfollowed := true, recurses := true, apart := false }
def TxnBackSaid : Prop := txnBackRow.holds Try.pinned (OpenSpec.ofChange txnBackSpec)

/-- ITS FALSE NEIGHBOUR: 'it returns false'. Refute it at one input. -/
def txnBackWrong : ChangeSpec := { name := "txnBack", fn := fun _ => fun
  | [d1, d2] => { results := [.lit (.bool false)], args := [d1, d2] }
  | _ => none }
def TxnBackWrongFalsely : Prop := txnBackRow.holds Try.pinned (OpenSpec.ofChange txnBackWrong)

/-- 'packetboatlaw06.TxnCanonical': WHATEVER THE INPUT: true; the input reads as it did. -/
def txnCanonicalSpec : ChangeSpec := { name := "txnCanonical", fn := fun _ => fun
  | [d] => { results := [.lit (.bool true)], args := [d] }
  | _ => none }
def txnCanonicalRow : OpenClaim := { program := "ytonllhjmoenckaa", sum := "668b9142e98acb5074f9acc48b8e1c62aa78961d299541ee7ac6a685e07c22dc", func := "packetboat/packetboatlaw06.TxnCanonical", spec := "txnCanonical", inPlace := ["maps.clone"], unfollowed := true, recurses := true, apart := false }
def TxnCanonicalSaid : Prop := txnCanonicalRow.holds Try.pinned (OpenSpec.ofChange txnCanonicalSpec)

/-- ITS FALSE NEIGHBOUR: 'it returns false'. Refute it at one input. -/
def txnCanonicalWrong : ChangeSpec := { name := "txnCanonical", fn := fun _ => fun
  | [d] => { results := [.lit (.bool false)], args := [d] }
  | _ => none }
def TxnCanonicalWrongFalsely : Prop := txnCanonicalRow.holds Try.pinned (OpenSpec.ofChange txnCanonicalWrong)

/-- 'packetboatlaw06.TxnDoes': WHATEVER THE INPUT: true; the input reads as it did. -/
def txnDoesSpec : ChangeSpec := { name := "txnDoes", fn := fun _ => fun
  | [d] => { results := [.lit (.bool true)], args := [d] }
  | _ => none }
def txnDoesRow : OpenClaim := { program := "ytonllhjmoenckaa", sum := "668b9142e98acb5074f9acc48b8e1c62aa78961d299541ee7ac6a685e07c22dc", func := "packetboat/packetboatlaw06.TxnDoes", spec := "txnDoes", inPlace := ["maps.clone"], unfollowed := true, recurses := true, apart := false }
def TxnDoesSaid : Prop := txnDoesRow.holds Try.pinned (OpenSpec.ofChange txnDoesSpec)

/-- ITS FALSE NEIGHBOUR: 'it returns false'. Refute it at one input. -/
def txnDoesWrong : ChangeSpec := { name := "txnDoes", fn := fun _ => fun
  | [d] => { results := [.lit (.bool false)], args := [d] }
  | _ => none }
def TxnDoesWrongFalsely : Prop := txnDoesRow.holds Try.pinned (OpenSpec.ofChange txnDoesWrong)

/-- 'packetboatlaw07.EpochTells': WHATEVER THE INPUT: true; the input reads as it did. -/
def epochTellsSpec : ChangeSpec := { name := "epochTells", fn := fun _ => fun
  | [d1, d2, d3] => { results := [.lit (.bool true)], args := [d1, d2, d3] }
  | _ => none }
def epochTellsRow : OpenClaim := { program := "ytonllhjmoenckaa", sum := "668b9142e98acb5074f9acc48b8e1c62aa78961d299541ee7ac6a685e07c22dc", func := "packetboat/packetboatlaw07.EpochTells", spec := "epochTells", inPlace := ["maps.clone"], unfollowed := true, recurses := true, apart := false }
def EpochTellsSaid : Prop := epochTellsRow.holds Try.pinned (OpenSpec.ofChange epochTellsSpec)

/-- ITS FALSE NEIGHBOUR: 'it returns false'. Refute it at one input. -/
def epochTellsWrong : ChangeSpec := { name := "epochTells", fn := fun _ => fun
  | [d1, d2, d3] => { results := [.lit (.bool false)], args := [d1, d2, d3] }
  | _ => none }
def EpochTellsWrongFalsely : Prop := epochTellsRow.holds Try.pinned (OpenSpec.ofChange epochTellsWrong)

/-- 'packetboatlaw07.EpochBack': WHATEVER THE INPUT: true; the input reads as it did. -/
def epochBackSpec : ChangeSpec := { name := "epochBack", fn := fun _ => fun
  | [d1, d2] => { results := [.lit (.bool true)], args := [d1, d2] }
  | _ => none }
def epochBackRow : OpenClaim := { program := "ytonllhjmoenckaa", sum := "668b9142e98acb5074f9acc48b8e1c62aa78961d299541ee7ac6a685e07c22dc", func := "packetboat/packetboatlaw07.EpochBack", spec := "epochBack", inPlace := ["maps.clone"], unfollowed := true, recurses := true, apart := false }
def EpochBackSaid : Prop := epochBackRow.holds Try.pinned (OpenSpec.ofChange epochBackSpec)

/-- ITS FALSE NEIGHBOUR: 'it returns false'. Refute it at one input. -/
def epochBackWrong : ChangeSpec := { name := "epochBack", fn := fun _ => fun
  | [d1, d2] => { results := [.lit (.bool false)], args := [d1, d2] }
  | _ => none }
def EpochBackWrongFalsely : Prop := epochBackRow.holds Try.pinned (OpenSpec.ofChange epochBackWrong)

/-- 'packetboatlaw07.EpochBatch': WHATEVER THE INPUT: true; the input reads as it did. -/
def epochBatchSpec : ChangeSpec := { name := "epochBatch", fn := fun _ => fun
  | [d1, d2] => { results := [.lit (.bool true)], args := [d1, d2] }
  | _ => none }
def epochBatchRow : OpenClaim := { program := "ytonllhjmoenckaa", sum := "668b9142e98acb5074f9acc48b8e1c62aa78961d299541ee7ac6a685e07c22dc", func := "packetboat/packetboatlaw07.EpochBatch", spec := "epochBatch", inPlace := ["maps.clone"], unfollowed := true, recurses := true, apart := false }
def EpochBatchSaid : Prop := epochBatchRow.holds Try.pinned (OpenSpec.ofChange epochBatchSpec)

/-- ITS FALSE NEIGHBOUR: 'it returns false'. Refute it at one input. -/
def epochBatchWrong : ChangeSpec := { name := "epochBatch", fn := fun _ => fun
  | [d1, d2] => { results := [.lit (.bool false)], args := [d1, d2] }
  | _ => none }
def EpochBatchWrongFalsely : Prop := epochBatchRow.holds Try.pinned (OpenSpec.ofChange epochBatchWrong)

/- THE SECOND FORM. 'bulk': how many values and letters a reading holds, each counted each time it is reached (what is shared counts as often as it is met; a slice's spare places count too). A statement '..UptoSaid' is the law's where the arguments, and the package variables that the reading takes, are together of bulk at most 1048576: NARROWER than '..Said'. Prove '..Said' where nothing that the law and all that it calls make is longer than what came in: it says more and counts as full. Else prove '..UptoSaid'. A law counts once. -/
mutual
def uptoBulk {H : Type} : DataW H → Nat
  | .lit (.string bytes) => bytes.length + 1
  | .lit _ => 1
  | .nil => 1
  | .ptr d => uptoBulk d + 1
  | .slice elems spare => uptoBulkAll elems + uptoBulkAll spare + 1
  | .agg parts => uptoBulkAll parts + 1
  | .iface _ d => uptoBulk d + 1
  | .map entries => uptoBulkEntries entries + 1
  | .held _ => 1
def uptoBulkAll {H : Type} : List (DataW H) → Nat
  | [] => 0
  | d :: r => uptoBulk d + uptoBulkAll r
def uptoBulkEntries {H : Type} : List (Lit × DataW H) → Nat
  | [] => 0
  | x :: r => uptoBulkEntry x + uptoBulkEntries r
def uptoBulkEntry {H : Type} : Lit × DataW H → Nat
  | (.string bytes, d) => bytes.length + uptoBulk d + 1
  | (_, d) => uptoBulk d + 1
 end
def uptoSmall : (H : Type) → List (DataW H) → Bool := fun _ ds => decide (uptoBulkAll ds ≤ 1048576)
def OpenSpec.upto (s : _root_.Go.ChangeSpec) : _root_.Go.OpenSpec := { _root_.Go.OpenSpec.ofChange s with cond := some uptoSmall }

/-- 'packetboatlaw21.NetDoes', WHERE WHAT IT READS IS OF BULK AT MOST 1048576: true; the input reads as it did. -/
def netDoesUptoRow : OpenClaim := { program := "ytonllhjmoenckaa", sum := "668b9142e98acb5074f9acc48b8e1c62aa78961d299541ee7ac6a685e07c22dc", func := "packetboat/packetboatlaw21.NetDoes", spec := "netDoes", apart := false, narrowed := true }
def NetDoesUptoSaid : Prop := netDoesUptoRow.holds Try.pinned (OpenSpec.upto netDoesSpec)

/-- 'packetboatlaw21.NetTrue', WHERE WHAT IT READS IS OF BULK AT MOST 1048576: true; the input reads as it did. -/
def netTrueUptoRow : OpenClaim := { program := "ytonllhjmoenckaa", sum := "668b9142e98acb5074f9acc48b8e1c62aa78961d299541ee7ac6a685e07c22dc", func := "packetboat/packetboatlaw21.NetTrue", spec := "netTrue", apart := false, narrowed := true }
def NetTrueUptoSaid : Prop := netTrueUptoRow.holds Try.pinned (OpenSpec.upto netTrueSpec)

/-- 'packetboatlaw21.NetSpoilt', WHERE WHAT IT READS IS OF BULK AT MOST 1048576: true; the input reads as it did. -/
def netSpoiltUptoRow : OpenClaim := { program := "ytonllhjmoenckaa", sum := "668b9142e98acb5074f9acc48b8e1c62aa78961d299541ee7ac6a685e07c22dc", func := "packetboat/packetboatlaw21.NetSpoilt", spec := "netSpoilt", apart := false, narrowed := true }
def NetSpoiltUptoSaid : Prop := netSpoiltUptoRow.holds Try.pinned (OpenSpec.upto netSpoiltSpec)

/-- 'packetboatlaw21.NetAll', WHERE WHAT IT READS IS OF BULK AT MOST 1048576: true; the input reads as it did. -/
def netAllUptoRow : OpenClaim := { program := "ytonllhjmoenckaa", sum := "668b9142e98acb5074f9acc48b8e1c62aa78961d299541ee7ac6a685e07c22dc", func := "packetboat/packetboatlaw21.NetAll", spec := "netAll", apart := false, narrowed := true }
def NetAllUptoSaid : Prop := netAllUptoRow.holds Try.pinned (OpenSpec.upto netAllSpec)

/-- 'packetboatlaw05.DictDoes', WHERE WHAT IT READS IS OF BULK AT MOST 1048576: true; the input reads as it did. -/
def dictDoesUptoRow : OpenClaim := { program := "ytonllhjmoenckaa", sum := "668b9142e98acb5074f9acc48b8e1c62aa78961d299541ee7ac6a685e07c22dc", func := "packetboat/packetboatlaw05.DictDoes", spec := "dictDoes", inPlace := ["maps.clone"], apart := false, narrowed := true }
def DictDoesUptoSaid : Prop := dictDoesUptoRow.holds Try.pinned (OpenSpec.upto dictDoesSpec)

/-- 'packetboatlaw05.DictBack', WHERE WHAT IT READS IS OF BULK AT MOST 1048576: true; the input reads as it did. -/
def dictBackUptoRow : OpenClaim := { program := "ytonllhjmoenckaa", sum := "668b9142e98acb5074f9acc48b8e1c62aa78961d299541ee7ac6a685e07c22dc", func := "packetboat/packetboatlaw05.DictBack", spec := "dictBack", inPlace := ["maps.clone"], apart := false, narrowed := true }
def DictBackUptoSaid : Prop := dictBackUptoRow.holds Try.pinned (OpenSpec.upto dictBackSpec)

/-- 'packetboatlaw05.DictFew', WHERE WHAT IT READS IS OF BULK AT MOST 1048576: true; the input reads as it did. -/
def dictFewUptoRow : OpenClaim := { program := "ytonllhjmoenckaa", sum := "668b9142e98acb5074f9acc48b8e1c62aa78961d299541ee7ac6a685e07c22dc", func := "packetboat/packetboatlaw05.DictFew", spec := "dictFew", inPlace := ["maps.clone"], apart := false, narrowed := true }
def DictFewUptoSaid : Prop := dictFewUptoRow.holds Try.pinned (OpenSpec.upto dictFewSpec)

/-- 'packetboatlaw06.TxnBack', WHERE WHAT IT READS IS OF BULK AT MOST 1048576: true; the input reads as it did. -/
def txnBackUptoRow : OpenClaim := { program := "ytonllhjmoenckaa", sum := "668b9142e98acb5074f9acc48b8e1c62aa78961d299541ee7ac6a685e07c22dc", func := "packetboat/packetboatlaw06.TxnBack", spec := "txnBack", inPlace := ["maps.clone"], unfollowed := true, recurses := true, apart := false, narrowed := true }
def TxnBackUptoSaid : Prop := txnBackUptoRow.holds Try.pinned (OpenSpec.upto txnBackSpec)

/-- 'packetboatlaw06.TxnCanonical', WHERE WHAT IT READS IS OF BULK AT MOST 1048576: true; the input reads as it did. -/
def txnCanonicalUptoRow : OpenClaim := { program := "ytonllhjmoenckaa", sum := "668b9142e98acb5074f9acc48b8e1c62aa78961d299541ee7ac6a685e07c22dc", func := "packetboat/packetboatlaw06.TxnCanonical", spec := "txnCanonical", inPlace := ["maps.clone"], unfollowed := true, recurses := true, apart := false, narrowed := true }
def TxnCanonicalUptoSaid : Prop := txnCanonicalUptoRow.holds Try.pinned (OpenSpec.upto txnCanonicalSpec)

/-- 'packetboatlaw06.TxnDoes', WHERE WHAT IT READS IS OF BULK AT MOST 1048576: true; the input reads as it did. -/
def txnDoesUptoRow : OpenClaim := { program := "ytonllhjmoenckaa", sum := "668b9142e98acb5074f9acc48b8e1c62aa78961d299541ee7ac6a685e07c22dc", func := "packetboat/packetboatlaw06.TxnDoes", spec := "txnDoes", inPlace := ["maps.clone"], unfollowed := true, recurses := true, apart := false, narrowed := true }
def TxnDoesUptoSaid : Prop := txnDoesUptoRow.holds Try.pinned (OpenSpec.upto txnDoesSpec)

/-- 'packetboatlaw07.EpochTells', WHERE WHAT IT READS IS OF BULK AT MOST 1048576: true; the input reads as it did. -/
def epochTellsUptoRow : OpenClaim := { program := "ytonllhjmoenckaa", sum := "668b9142e98acb5074f9acc48b8e1c62aa78961d299541ee7ac6a685e07c22dc", func := "packetboat/packetboatlaw07.EpochTells", spec := "epochTells", inPlace := ["maps.clone"], unfollowed := true, recurses := true, apart := false, narrowed := true }
def EpochTellsUptoSaid : Prop := epochTellsUptoRow.holds Try.pinned (OpenSpec.upto epochTellsSpec)

/-- 'packetboatlaw07.EpochBack', WHERE WHAT IT READS IS OF BULK AT MOST 1048576: true; the input reads as it did. -/
def epochBackUptoRow : OpenClaim := { program := "ytonllhjmoenckaa", sum := "668b9142e98acb5074f9acc48b8e1c62aa78961d299541ee7ac6a685e07c22dc", func := "packetboat/packetboatlaw07.EpochBack", spec := "epochBack", inPlace := ["maps.clone"], unfollowed := true, recurses := true, apart := false, narrowed := true }
def EpochBackUptoSaid : Prop := epochBackUptoRow.holds Try.pinned (OpenSpec.upto epochBackSpec)

/-- 'packetboatlaw07.EpochBatch', WHERE WHAT IT READS IS OF BULK AT MOST 1048576: true; the input reads as it did. -/
def epochBatchUptoRow : OpenClaim := { program := "ytonllhjmoenckaa", sum := "668b9142e98acb5074f9acc48b8e1c62aa78961d299541ee7ac6a685e07c22dc", func := "packetboat/packetboatlaw07.EpochBatch", spec := "epochBatch", inPlace := ["maps.clone"], unfollowed := true, recurses := true, apart := false, narrowed := true }
def EpochBatchUptoSaid : Prop := epochBatchUptoRow.holds Try.pinned (OpenSpec.upto epochBatchSpec)

end Rows
end Go.Proofs.Ytonllhjmoenckaa
