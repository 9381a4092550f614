/-
  NARROWER THAN 'FOR EVERY INPUT', by the rows' own cells (each row's printed sentence says how): ScriptTells: laid · ScriptRow: laid · ScriptBack: laid · SegBack: laid · SegGoes: laid · MailBack: laid · MailBursts: laid.
  DERIVED. THE GIVEN ROWS OF THIS SEAT. 7 by the template 'for every input the law returns true; each argument reads behind the call as it read before'; 0 by the template 'total and deterministic' (their statements: YtgfnpcmehnjopaaDoorTotals.lean).
  GIVEN WITH THE SEED: the statements are not yours to turn. If you find one false, say at which input.
  Laid BY PROGRAM, IN A SANDBOX (cutbox-rows.mjs): the forced cells as the released guide's own fill.sh prints them over the translation 5019d686ab4db107… (all of the seat's roots in one cut). By AI agents, Wed Nov 11 2026. No macro, syntax, notation, axiom, sorry.
-/
import Derived.Test.YtgfnpcmehnjopaaDoorChecked
import GoSem.Claim
import GoSem.ClaimJoined
import GoSem.ClaimMapViews
import Derived.JoinedTies
import Derived.KernelRfl
namespace Go.Proofs.YtgfnpcmehnjopaaDoor
/- THE CELL 'sum', in the pinned program and in every row, IS THE sha256 OF THE DUMP (.gsa) THAT YtgfnpcmehnjopaaDoorProg.lean LOADS. Nothing in Lean hashes anything: it is a label: what it is worth is what the hold of that sum in a sandbox is worth. -/
noncomputable def Tryd.pinned : Pinned := { name := "ytgfnpcmehnjopaadoor", sum := "5019d686ab4db10708bff4f77f58b4424b18d7f77d96aab08bfffba16d9ece1f", checked := Tryd.checked }
namespace Rows
def none {H : Type} : Left H := { results := [], args := [] }

/- WHAT THE LISTED PACKAGE-LEVEL VARIABLES READ AS WHEN THE CALL BEGINS. Each datum BY PROGRAM (the guide's laid-datum.mjs) off the statement by which the dump's own 'gosem.cut.vars' lays the variable. In a bare row this is a premise. The card (YtgfnpcmehnjopaaDoorCards.lean) ties it to the program's text. -/
def laid_packetboat_crc_four {H : Type} : DataW H := .agg [.lit (.int .u32 0), .lit (.int .u32 274646895), .lit (.int .u32 549293790), .lit (.int .u32 820201905), .lit (.int .u32 1098587580), .lit (.int .u32 1361435347), .lit (.int .u32 1640403810), .lit (.int .u32 1905808397), .lit (.int .u32 2197175160), .lit (.int .u32 2460548119), .lit (.int .u32 2722870694), .lit (.int .u32 2987750089), .lit (.int .u32 3280807620), .lit (.int .u32 3553878443), .lit (.int .u32 3811616794), .lit (.int .u32 4084100981)]
def laid_packetboat_script_tells {H : Type} : DataW H := .agg [.lit (.int .i64 97), .lit (.int .i64 1), .lit (.int .i64 2), .lit (.int .i64 4), .lit (.int .i64 4), .lit (.int .i64 4), .lit (.int .i64 28), .lit (.int .i64 130), .lit (.int .i64 6)]

/-- 'packetboatlaw22.ScriptTells': WHATEVER THE INPUT: true; the input reads as it did. -/
def scriptTellsSpec : ChangeSpec := { name := "scriptTells", fn := fun _ => fun
  | [d1, d2] => { results := [.lit (.bool true)], args := [d1, d2] }
  | _ => none }
def scriptTellsRow : OpenClaim := { program := "ytgfnpcmehnjopaadoor", sum := "5019d686ab4db10708bff4f77f58b4424b18d7f77d96aab08bfffba16d9ece1f", func := "packetboat/packetboatlaw22.ScriptTells", spec := "scriptTells", unfollowed := true, recurses := true, named := ["packetboat/script.tells", "packetboat/crc.four"], apart := false, laid := [("packetboat/crc.four", laid_packetboat_crc_four), ("packetboat/script.tells", laid_packetboat_script_tells)] }
def ScriptTellsSaid : Prop := scriptTellsRow.holds Tryd.pinned (OpenSpec.ofChange scriptTellsSpec)

/-- ITS FALSE NEIGHBOUR: 'it returns false'. Refute it at one input. -/
def scriptTellsWrong : ChangeSpec := { name := "scriptTells", fn := fun _ => fun
  | [d1, d2] => { results := [.lit (.bool false)], args := [d1, d2] }
  | _ => none }
def ScriptTellsWrongFalsely : Prop := scriptTellsRow.holds Tryd.pinned (OpenSpec.ofChange scriptTellsWrong)

/-- 'packetboatlaw22.ScriptRow': WHATEVER THE INPUT: true; the input reads as it did. -/
def scriptRowSpec : ChangeSpec := { name := "scriptRow", fn := fun _ => fun
  | [d] => { results := [.lit (.bool true)], args := [d] }
  | _ => none }
def scriptRowRow : OpenClaim := { program := "ytgfnpcmehnjopaadoor", sum := "5019d686ab4db10708bff4f77f58b4424b18d7f77d96aab08bfffba16d9ece1f", func := "packetboat/packetboatlaw22.ScriptRow", spec := "scriptRow", unfollowed := true, recurses := true, named := ["packetboat/script.tells", "packetboat/crc.four"], apart := false, laid := [("packetboat/crc.four", laid_packetboat_crc_four), ("packetboat/script.tells", laid_packetboat_script_tells)] }
def ScriptRowSaid : Prop := scriptRowRow.holds Tryd.pinned (OpenSpec.ofChange scriptRowSpec)

/-- ITS FALSE NEIGHBOUR: 'it returns false'. Refute it at one input. -/
def scriptRowWrong : ChangeSpec := { name := "scriptRow", fn := fun _ => fun
  | [d] => { results := [.lit (.bool false)], args := [d] }
  | _ => none }
def ScriptRowWrongFalsely : Prop := scriptRowRow.holds Tryd.pinned (OpenSpec.ofChange scriptRowWrong)

/-- 'packetboatlaw22.ScriptBack': WHATEVER THE INPUT: true; the input reads as it did. -/
def scriptBackSpec : ChangeSpec := { name := "scriptBack", fn := fun _ => fun
  | [d1, d2, d3] => { results := [.lit (.bool true)], args := [d1, d2, d3] }
  | _ => none }
def scriptBackRow : OpenClaim := { program := "ytgfnpcmehnjopaadoor", sum := "5019d686ab4db10708bff4f77f58b4424b18d7f77d96aab08bfffba16d9ece1f", func := "packetboat/packetboatlaw22.ScriptBack", spec := "scriptBack", unfollowed := true, recurses := true, named := ["packetboat/script.tells", "packetboat/crc.four"], apart := false, laid := [("packetboat/crc.four", laid_packetboat_crc_four), ("packetboat/script.tells", laid_packetboat_script_tells)] }
def ScriptBackSaid : Prop := scriptBackRow.holds Tryd.pinned (OpenSpec.ofChange scriptBackSpec)

/-- ITS FALSE NEIGHBOUR: 'it returns false'. Refute it at one input. -/
def scriptBackWrong : ChangeSpec := { name := "scriptBack", fn := fun _ => fun
  | [d1, d2, d3] => { results := [.lit (.bool false)], args := [d1, d2, d3] }
  | _ => none }
def ScriptBackWrongFalsely : Prop := scriptBackRow.holds Tryd.pinned (OpenSpec.ofChange scriptBackWrong)

/-- 'packetboatlaw09.SegBack': WHATEVER THE INPUT: true; the input reads as it did. -/
def segBackSpec : ChangeSpec := { name := "segBack", fn := fun _ => fun
  | [d1, d2, d3] => { results := [.lit (.bool true)], args := [d1, d2, d3] }
  | _ => none }
def segBackRow : OpenClaim := { program := "ytgfnpcmehnjopaadoor", sum := "5019d686ab4db10708bff4f77f58b4424b18d7f77d96aab08bfffba16d9ece1f", func := "packetboat/packetboatlaw09.SegBack", spec := "segBack", inPlace := ["maps.clone"], unfollowed := true, recurses := true, named := ["packetboat/crc.four"], apart := false, laid := [("packetboat/crc.four", laid_packetboat_crc_four)] }
def SegBackSaid : Prop := segBackRow.holds Tryd.pinned (OpenSpec.ofChange segBackSpec)

/-- ITS FALSE NEIGHBOUR: 'it returns false'. Refute it at one input. -/
def segBackWrong : ChangeSpec := { name := "segBack", fn := fun _ => fun
  | [d1, d2, d3] => { results := [.lit (.bool false)], args := [d1, d2, d3] }
  | _ => none }
def SegBackWrongFalsely : Prop := segBackRow.holds Tryd.pinned (OpenSpec.ofChange segBackWrong)

/-- 'packetboatlaw09.SegGoes': WHATEVER THE INPUT: true; the input reads as it did. -/
def segGoesSpec : ChangeSpec := { name := "segGoes", fn := fun _ => fun
  | [d1, d2, d3] => { results := [.lit (.bool true)], args := [d1, d2, d3] }
  | _ => none }
def segGoesRow : OpenClaim := { program := "ytgfnpcmehnjopaadoor", sum := "5019d686ab4db10708bff4f77f58b4424b18d7f77d96aab08bfffba16d9ece1f", func := "packetboat/packetboatlaw09.SegGoes", spec := "segGoes", inPlace := ["maps.clone"], unfollowed := true, recurses := true, named := ["packetboat/crc.four"], apart := false, laid := [("packetboat/crc.four", laid_packetboat_crc_four)] }
def SegGoesSaid : Prop := segGoesRow.holds Tryd.pinned (OpenSpec.ofChange segGoesSpec)

/-- ITS FALSE NEIGHBOUR: 'it returns false'. Refute it at one input. -/
def segGoesWrong : ChangeSpec := { name := "segGoes", fn := fun _ => fun
  | [d1, d2, d3] => { results := [.lit (.bool false)], args := [d1, d2, d3] }
  | _ => none }
def SegGoesWrongFalsely : Prop := segGoesRow.holds Tryd.pinned (OpenSpec.ofChange segGoesWrong)

/-- 'packetboatlaw13.MailBack': WHATEVER THE INPUT: true; the input reads as it did. -/
def mailBackSpec : ChangeSpec := { name := "mailBack", fn := fun _ => fun
  | [d1, d2] => { results := [.lit (.bool true)], args := [d1, d2] }
  | _ => none }
def mailBackRow : OpenClaim := { program := "ytgfnpcmehnjopaadoor", sum := "5019d686ab4db10708bff4f77f58b4424b18d7f77d96aab08bfffba16d9ece1f", func := "packetboat/packetboatlaw13.MailBack", spec := "mailBack", inPlace := ["maps.clone"], unfollowed := true, recurses := true, named := ["packetboat/crc.four"], apart := false, laid := [("packetboat/crc.four", laid_packetboat_crc_four)] }
def MailBackSaid : Prop := mailBackRow.holds Tryd.pinned (OpenSpec.ofChange mailBackSpec)

/-- ITS FALSE NEIGHBOUR: 'it returns false'. Refute it at one input. -/
def mailBackWrong : ChangeSpec := { name := "mailBack", fn := fun _ => fun
  | [d1, d2] => { results := [.lit (.bool false)], args := [d1, d2] }
  | _ => none }
def MailBackWrongFalsely : Prop := mailBackRow.holds Tryd.pinned (OpenSpec.ofChange mailBackWrong)

/-- 'packetboatlaw13.MailBursts': WHATEVER THE INPUT: true; the input reads as it did. -/
def mailBurstsSpec : ChangeSpec := { name := "mailBursts", fn := fun _ => fun
  | [d1, d2, d3] => { results := [.lit (.bool true)], args := [d1, d2, d3] }
  | _ => none }
def mailBurstsRow : OpenClaim := { program := "ytgfnpcmehnjopaadoor", sum := "5019d686ab4db10708bff4f77f58b4424b18d7f77d96aab08bfffba16d9ece1f", func := "packetboat/packetboatlaw13.MailBursts", spec := "mailBursts", inPlace := ["maps.clone"], unfollowed := true, recurses := true, named := ["packetboat/crc.four"], apart := false, laid := [("packetboat/crc.four", laid_packetboat_crc_four)] }
def MailBurstsSaid : Prop := mailBurstsRow.holds Tryd.pinned (OpenSpec.ofChange mailBurstsSpec)

/-- ITS FALSE NEIGHBOUR: 'it returns false'. Refute it at one input. -/
def mailBurstsWrong : ChangeSpec := { name := "mailBursts", fn := fun _ => fun
  | [d1, d2, d3] => { results := [.lit (.bool false)], args := [d1, d2, d3] }
  | _ => none }
def MailBurstsWrongFalsely : Prop := mailBurstsRow.holds Tryd.pinned (OpenSpec.ofChange mailBurstsWrong)

/- THE SECOND FORM. 'bulk': how many values and letters a reading holds, each counted each time it is reached (what is shared counts as often as it is met; a slice's spare places count too). A statement '..UptoSaid' is the law's where the arguments, and the package variables that the reading takes, are together of bulk at most 1048576: NARROWER than '..Said'. Prove '..Said' where nothing that the law and all that it calls make is longer than what came in: it says more and counts as full. Else prove '..UptoSaid'. A law counts once. -/
mutual
def uptoBulk {H : Type} : DataW H → Nat
  | .lit (.string bytes) => bytes.length + 1
  | .lit _ => 1
  | .nil => 1
  | .ptr d => uptoBulk d + 1
  | .slice elems spare => uptoBulkAll elems + uptoBulkAll spare + 1
  | .agg parts => uptoBulkAll parts + 1
  | .iface _ d => uptoBulk d + 1
  | .map entries => uptoBulkEntries entries + 1
  | .held _ => 1
def uptoBulkAll {H : Type} : List (DataW H) → Nat
  | [] => 0
  | d :: r => uptoBulk d + uptoBulkAll r
def uptoBulkEntries {H : Type} : List (Lit × DataW H) → Nat
  | [] => 0
  | x :: r => uptoBulkEntry x + uptoBulkEntries r
def uptoBulkEntry {H : Type} : Lit × DataW H → Nat
  | (.string bytes, d) => bytes.length + uptoBulk d + 1
  | (_, d) => uptoBulk d + 1
 end
def uptoSmall : (H : Type) → List (DataW H) → Bool := fun _ ds => decide (uptoBulkAll ds ≤ 1048576)
def OpenSpec.upto (s : _root_.Go.ChangeSpec) : _root_.Go.OpenSpec := { _root_.Go.OpenSpec.ofChange s with cond := some uptoSmall }

/-- 'packetboatlaw22.ScriptTells', WHERE WHAT IT READS IS OF BULK AT MOST 1048576: true; the input reads as it did. -/
def scriptTellsUptoRow : OpenClaim := { program := "ytgfnpcmehnjopaadoor", sum := "5019d686ab4db10708bff4f77f58b4424b18d7f77d96aab08bfffba16d9ece1f", func := "packetboat/packetboatlaw22.ScriptTells", spec := "scriptTells", unfollowed := true, recurses := true, named := ["packetboat/script.tells", "packetboat/crc.four"], apart := false, laid := [("packetboat/crc.four", laid_packetboat_crc_four), ("packetboat/script.tells", laid_packetboat_script_tells)], narrowed := true }
def ScriptTellsUptoSaid : Prop := scriptTellsUptoRow.holds Tryd.pinned (OpenSpec.upto scriptTellsSpec)

/-- 'packetboatlaw22.ScriptRow', WHERE WHAT IT READS IS OF BULK AT MOST 1048576: true; the input reads as it did. -/
def scriptRowUptoRow : OpenClaim := { program := "ytgfnpcmehnjopaadoor", sum := "5019d686ab4db10708bff4f77f58b4424b18d7f77d96aab08bfffba16d9ece1f", func := "packetboat/packetboatlaw22.ScriptRow", spec := "scriptRow", unfollowed := true, recurses := true, named := ["packetboat/script.tells", "packetboat/crc.four"], apart := false, laid := [("packetboat/crc.four", laid_packetboat_crc_four), ("packetboat/script.tells", laid_packetboat_script_tells)], narrowed := true }
def ScriptRowUptoSaid : Prop := scriptRowUptoRow.holds Tryd.pinned (OpenSpec.upto scriptRowSpec)

/-- 'packetboatlaw22.ScriptBack', WHERE WHAT IT READS IS OF BULK AT MOST 1048576: true; the input reads as it did. -/
def scriptBackUptoRow : OpenClaim := { program := "ytgfnpcmehnjopaadoor", sum := "5019d686ab4db10708bff4f77f58b4424b18d7f77d96aab08bfffba16d9ece1f", func := "packetboat/packetboatlaw22.ScriptBack", spec := "scriptBack", unfollowed := true, recurses := true, named := ["packetboat/script.tells", "packetboat/crc.four"], apart := false, laid := [("packetboat/crc.four", laid_packetboat_crc_four), ("packetboat/script.tells", laid_packetboat_script_tells)], narrowed := true }
def ScriptBackUptoSaid : Prop := scriptBackUptoRow.holds Tryd.pinned (OpenSpec.upto scriptBackSpec)

/-- 'packetboatlaw09.SegBack', WHERE WHAT IT READS IS OF BULK AT MOST 1048576: true; the input reads as it did. -/
def segBackUptoRow : OpenClaim := { program := "ytgfnpcmehnjopaadoor", sum := "5019d686ab4db10708bff4f77f58b4424b18d7f77d96aab08bfffba16d9ece1f", func := "packetboat/packetboatlaw09.SegBack", spec := "segBack", inPlace := ["maps.clone"], unfollowed := true, recurses := true, named := ["packetboat/crc.four"], apart := false, laid := [("packetboat/crc.four", laid_packetboat_crc_four)], narrowed := true }
def SegBackUptoSaid : Prop := segBackUptoRow.holds Tryd.pinned (OpenSpec.upto segBackSpec)

/-- 'packetboatlaw09.SegGoes', WHERE WHAT IT READS IS OF BULK AT MOST 1048576: true; the input reads as it did. -/
def segGoesUptoRow : OpenClaim := { program := "ytgfnpcmehnjopaadoor", sum := "5019d686ab4db10708bff4f77f58b4424b18d7f77d96aab08bfffba16d9ece1f", func := "packetboat/packetboatlaw09.SegGoes", spec := "segGoes", inPlace := ["maps.clone"], unfollowed := true, recurses := true, named := ["packetboat/crc.four"], apart := false, laid := [("packetboat/crc.four", laid_packetboat_crc_four)], narrowed := true }
def SegGoesUptoSaid : Prop := segGoesUptoRow.holds Tryd.pinned (OpenSpec.upto segGoesSpec)

/-- 'packetboatlaw13.MailBack', WHERE WHAT IT READS IS OF BULK AT MOST 1048576: true; the input reads as it did. -/
def mailBackUptoRow : OpenClaim := { program := "ytgfnpcmehnjopaadoor", sum := "5019d686ab4db10708bff4f77f58b4424b18d7f77d96aab08bfffba16d9ece1f", func := "packetboat/packetboatlaw13.MailBack", spec := "mailBack", inPlace := ["maps.clone"], unfollowed := true, recurses := true, named := ["packetboat/crc.four"], apart := false, laid := [("packetboat/crc.four", laid_packetboat_crc_four)], narrowed := true }
def MailBackUptoSaid : Prop := mailBackUptoRow.holds Tryd.pinned (OpenSpec.upto mailBackSpec)

/-- 'packetboatlaw13.MailBursts', WHERE WHAT IT READS IS OF BULK AT MOST 1048576: true; the input reads as it did. -/
def mailBurstsUptoRow : OpenClaim := { program := "ytgfnpcmehnjopaadoor", sum := "5019d686ab4db10708bff4f77f58b4424b18d7f77d96aab08bfffba16d9ece1f", func := "packetboat/packetboatlaw13.MailBursts", spec := "mailBursts", inPlace := ["maps.clone"], unfollowed := true, recurses := true, named := ["packetboat/crc.four"], apart := false, laid := [("packetboat/crc.four", laid_packetboat_crc_four)], narrowed := true }
def MailBurstsUptoSaid : Prop := mailBurstsUptoRow.holds Tryd.pinned (OpenSpec.upto mailBurstsSpec)

end Rows
end Go.Proofs.YtgfnpcmehnjopaaDoor
