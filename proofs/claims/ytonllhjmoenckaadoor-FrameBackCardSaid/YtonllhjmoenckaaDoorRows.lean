/-
  NARROWER THAN 'FOR EVERY INPUT', by the rows' own cells (each row's printed sentence says how): FrameTells: laid · FrameBack: laid · FrameBursts: laid · ScriptTells: laid · ScriptRow: laid · ScriptBack: laid.
  DERIVED. THE GIVEN ROWS OF THIS SEAT. 6 by the template 'for every input the law returns true; each argument reads behind the call as it read before'; 0 by the template 'total and deterministic' (their statements: YtonllhjmoenckaaDoorTotals.lean).
  GIVEN WITH THE SEED: the statements are not yours to turn. If you find one false, say at which input.
  Laid BY PROGRAM, IN A SANDBOX (cutbox-rows.mjs): the forced cells as the released guide's own fill.sh prints them over the translation 2966eebb1451757a… (all of the seat's roots in one cut). By AI agents, Wed Nov 11 2026. No macro, syntax, notation, axiom, sorry.
-/
import Derived.Test.YtonllhjmoenckaaDoorChecked
import GoSem.Claim
import GoSem.ClaimJoined
import GoSem.ClaimMapViews
import Derived.JoinedTies
import Derived.KernelRfl
namespace Go.Proofs.YtonllhjmoenckaaDoor
/- THE CELL 'sum', in the pinned program and in every row, IS THE sha256 OF THE DUMP (.gsa) THAT YtonllhjmoenckaaDoorProg.lean LOADS. Nothing in Lean hashes anything: it is a label: what it is worth is what the hold of that sum in a sandbox is worth. -/
noncomputable def Tryd.pinned : Pinned := { name := "ytonllhjmoenckaadoor", sum := "2966eebb1451757a3c11f911b8c6bcf5fbaa7effcc699f4f88a42138c73fae21", checked := Tryd.checked }
namespace Rows
def none {H : Type} : Left H := { results := [], args := [] }

/- WHAT THE LISTED PACKAGE-LEVEL VARIABLES READ AS WHEN THE CALL BEGINS. Each datum BY PROGRAM (the guide's laid-datum.mjs) off the statement by which the dump's own 'gosem.cut.vars' lays the variable. In a bare row this is a premise. The card (YtonllhjmoenckaaDoorCards.lean) ties it to the program's text. -/
def laid_packetboat_crc_four {H : Type} : DataW H := .agg [.lit (.int .u32 0), .lit (.int .u32 274646895), .lit (.int .u32 549293790), .lit (.int .u32 820201905), .lit (.int .u32 1098587580), .lit (.int .u32 1361435347), .lit (.int .u32 1640403810), .lit (.int .u32 1905808397), .lit (.int .u32 2197175160), .lit (.int .u32 2460548119), .lit (.int .u32 2722870694), .lit (.int .u32 2987750089), .lit (.int .u32 3280807620), .lit (.int .u32 3553878443), .lit (.int .u32 3811616794), .lit (.int .u32 4084100981)]
def laid_packetboat_script_tells {H : Type} : DataW H := .agg [.lit (.int .i64 97), .lit (.int .i64 1), .lit (.int .i64 2), .lit (.int .i64 4), .lit (.int .i64 4), .lit (.int .i64 4), .lit (.int .i64 28), .lit (.int .i64 130), .lit (.int .i64 6)]

/-- 'packetboatlaw03.FrameTells': WHATEVER THE INPUT: true; the input reads as it did. -/
def frameTellsSpec : ChangeSpec := { name := "frameTells", fn := fun _ => fun
  | [d1, d2, d3] => { results := [.lit (.bool true)], args := [d1, d2, d3] }
  | _ => none }
def frameTellsRow : OpenClaim := { program := "ytonllhjmoenckaadoor", sum := "2966eebb1451757a3c11f911b8c6bcf5fbaa7effcc699f4f88a42138c73fae21", func := "packetboat/packetboatlaw03.FrameTells", spec := "frameTells", unfollowed := true, recurses := true, named := ["packetboat/crc.four"], apart := false, laid := [("packetboat/crc.four", laid_packetboat_crc_four)] }
def FrameTellsSaid : Prop := frameTellsRow.holds Tryd.pinned (OpenSpec.ofChange frameTellsSpec)

/-- ITS FALSE NEIGHBOUR: 'it returns false'. Refute it at one input. -/
def frameTellsWrong : ChangeSpec := { name := "frameTells", fn := fun _ => fun
  | [d1, d2, d3] => { results := [.lit (.bool false)], args := [d1, d2, d3] }
  | _ => none }
def FrameTellsWrongFalsely : Prop := frameTellsRow.holds Tryd.pinned (OpenSpec.ofChange frameTellsWrong)

/-- 'packetboatlaw03.FrameBack': WHATEVER THE INPUT: true; the input reads as it did. -/
def frameBackSpec : ChangeSpec := { name := "frameBack", fn := fun _ => fun
  | [d1, d2, d3] => { results := [.lit (.bool true)], args := [d1, d2, d3] }
  | _ => none }
def frameBackRow : OpenClaim := { program := "ytonllhjmoenckaadoor", sum := "2966eebb1451757a3c11f911b8c6bcf5fbaa7effcc699f4f88a42138c73fae21", func := "packetboat/packetboatlaw03.FrameBack", spec := "frameBack", unfollowed := true, recurses := true, named := ["packetboat/crc.four"], apart := false, laid := [("packetboat/crc.four", laid_packetboat_crc_four)] }
def FrameBackSaid : Prop := frameBackRow.holds Tryd.pinned (OpenSpec.ofChange frameBackSpec)

/-- ITS FALSE NEIGHBOUR: 'it returns false'. Refute it at one input. -/
def frameBackWrong : ChangeSpec := { name := "frameBack", fn := fun _ => fun
  | [d1, d2, d3] => { results := [.lit (.bool false)], args := [d1, d2, d3] }
  | _ => none }
def FrameBackWrongFalsely : Prop := frameBackRow.holds Tryd.pinned (OpenSpec.ofChange frameBackWrong)

/-- 'packetboatlaw03.FrameBursts': WHATEVER THE INPUT: true; the input reads as it did. -/
def frameBurstsSpec : ChangeSpec := { name := "frameBursts", fn := fun _ => fun
  | [d1, d2, d3] => { results := [.lit (.bool true)], args := [d1, d2, d3] }
  | _ => none }
def frameBurstsRow : OpenClaim := { program := "ytonllhjmoenckaadoor", sum := "2966eebb1451757a3c11f911b8c6bcf5fbaa7effcc699f4f88a42138c73fae21", func := "packetboat/packetboatlaw03.FrameBursts", spec := "frameBursts", unfollowed := true, recurses := true, named := ["packetboat/crc.four"], apart := false, laid := [("packetboat/crc.four", laid_packetboat_crc_four)] }
def FrameBurstsSaid : Prop := frameBurstsRow.holds Tryd.pinned (OpenSpec.ofChange frameBurstsSpec)

/-- ITS FALSE NEIGHBOUR: 'it returns false'. Refute it at one input. -/
def frameBurstsWrong : ChangeSpec := { name := "frameBursts", fn := fun _ => fun
  | [d1, d2, d3] => { results := [.lit (.bool false)], args := [d1, d2, d3] }
  | _ => none }
def FrameBurstsWrongFalsely : Prop := frameBurstsRow.holds Tryd.pinned (OpenSpec.ofChange frameBurstsWrong)

/-- 'packetboatlaw22.ScriptTells': WHATEVER THE INPUT: true; the input reads as it did. -/
def scriptTellsSpec : ChangeSpec := { name := "scriptTells", fn := fun _ => fun
  | [d1, d2] => { results := [.lit (.bool true)], args := [d1, d2] }
  | _ => none }
def scriptTellsRow : OpenClaim := { program := "ytonllhjmoenckaadoor", sum := "2966eebb1451757a3c11f911b8c6bcf5fbaa7effcc699f4f88a42138c73fae21", func := "packetboat/packetboatlaw22.ScriptTells", spec := "scriptTells", unfollowed := true, recurses := true, named := ["packetboat/script.tells", "packetboat/crc.four"], apart := false, laid := [("packetboat/crc.four", laid_packetboat_crc_four), ("packetboat/script.tells", laid_packetboat_script_tells)] }
def ScriptTellsSaid : Prop := scriptTellsRow.holds Tryd.pinned (OpenSpec.ofChange scriptTellsSpec)

/-- ITS FALSE NEIGHBOUR: 'it returns false'. Refute it at one input. -/
def scriptTellsWrong : ChangeSpec := { name := "scriptTells", fn := fun _ => fun
  | [d1, d2] => { results := [.lit (.bool false)], args := [d1, d2] }
  | _ => none }
def ScriptTellsWrongFalsely : Prop := scriptTellsRow.holds Tryd.pinned (OpenSpec.ofChange scriptTellsWrong)

/-- 'packetboatlaw22.ScriptRow': WHATEVER THE INPUT: true; the input reads as it did. -/
def scriptRowSpec : ChangeSpec := { name := "scriptRow", fn := fun _ => fun
  | [d] => { results := [.lit (.bool true)], args := [d] }
  | _ => none }
def scriptRowRow : OpenClaim := { program := "ytonllhjmoenckaadoor", sum := "2966eebb1451757a3c11f911b8c6bcf5fbaa7effcc699f4f88a42138c73fae21", func := "packetboat/packetboatlaw22.ScriptRow", spec := "scriptRow", unfollowed := true, recurses := true, named := ["packetboat/script.tells", "packetboat/crc.four"], apart := false, laid := [("packetboat/crc.four", laid_packetboat_crc_four), ("packetboat/script.tells", laid_packetboat_script_tells)] }
def ScriptRowSaid : Prop := scriptRowRow.holds Tryd.pinned (OpenSpec.ofChange scriptRowSpec)

/-- ITS FALSE NEIGHBOUR: 'it returns false'. Refute it at one input. -/
def scriptRowWrong : ChangeSpec := { name := "scriptRow", fn := fun _ => fun
  | [d] => { results := [.lit (.bool false)], args := [d] }
  | _ => none }
def ScriptRowWrongFalsely : Prop := scriptRowRow.holds Tryd.pinned (OpenSpec.ofChange scriptRowWrong)

/-- 'packetboatlaw22.ScriptBack': WHATEVER THE INPUT: true; the input reads as it did. -/
def scriptBackSpec : ChangeSpec := { name := "scriptBack", fn := fun _ => fun
  | [d1, d2, d3] => { results := [.lit (.bool true)], args := [d1, d2, d3] }
  | _ => none }
def scriptBackRow : OpenClaim := { program := "ytonllhjmoenckaadoor", sum := "2966eebb1451757a3c11f911b8c6bcf5fbaa7effcc699f4f88a42138c73fae21", func := "packetboat/packetboatlaw22.ScriptBack", spec := "scriptBack", unfollowed := true, recurses := true, named := ["packetboat/script.tells", "packetboat/crc.four"], apart := false, laid := [("packetboat/crc.four", laid_packetboat_crc_four), ("packetboat/script.tells", laid_packetboat_script_tells)] }
def ScriptBackSaid : Prop := scriptBackRow.holds Tryd.pinned (OpenSpec.ofChange scriptBackSpec)

/-- ITS FALSE NEIGHBOUR: 'it returns false'. Refute it at one input. -/
def scriptBackWrong : ChangeSpec := { name := "scriptBack", fn := fun _ => fun
  | [d1, d2, d3] => { results := [.lit (.bool false)], args := [d1, d2, d3] }
  | _ => none }
def ScriptBackWrongFalsely : Prop := scriptBackRow.holds Tryd.pinned (OpenSpec.ofChange scriptBackWrong)

/- THE SECOND FORM. 'bulk': how many values and letters a reading holds, each counted each time it is reached (what is shared counts as often as it is met; a slice's spare places count too). A statement '..UptoSaid' is the law's where the arguments, and the package variables that the reading takes, are together of bulk at most 1048576: NARROWER than '..Said'. Prove '..Said' where nothing that the law and all that it calls make is longer than what came in: it says more and counts as full. Else prove '..UptoSaid'. A law counts once. -/
mutual
def uptoBulk {H : Type} : DataW H → Nat
  | .lit (.string bytes) => bytes.length + 1
  | .lit _ => 1
  | .nil => 1
  | .ptr d => uptoBulk d + 1
  | .slice elems spare => uptoBulkAll elems + uptoBulkAll spare + 1
  | .agg parts => uptoBulkAll parts + 1
  | .iface _ d => uptoBulk d + 1
  | .map entries => uptoBulkEntries entries + 1
  | .held _ => 1
def uptoBulkAll {H : Type} : List (DataW H) → Nat
  | [] => 0
  | d :: r => uptoBulk d + uptoBulkAll r
def uptoBulkEntries {H : Type} : List (Lit × DataW H) → Nat
  | [] => 0
  | x :: r => uptoBulkEntry x + uptoBulkEntries r
def uptoBulkEntry {H : Type} : Lit × DataW H → Nat
  | (.string bytes, d) => bytes.length + uptoBulk d + 1
  | (_, d) => uptoBulk d + 1
 end
def uptoSmall : (H : Type) → List (DataW H) → Bool := fun _ ds => decide (uptoBulkAll ds ≤ 1048576)
def OpenSpec.upto (s : _root_.Go.ChangeSpec) : _root_.Go.OpenSpec := { _root_.Go.OpenSpec.ofChange s with cond := some uptoSmall }

/-- 'packetboatlaw03.FrameTells', WHERE WHAT IT READS IS OF BULK AT MOST 1048576: true; the input reads as it did. -/
def frameTellsUptoRow : OpenClaim := { program := "ytonllhjmoenckaadoor", sum := "2966eebb1451757a3c11f911b8c6bcf5fbaa7effcc699f4f88a42138c73fae21", func := "packetboat/packetboatlaw03.FrameTells", spec := "frameTells", unfollowed := true, recurses := true, named := ["packetboat/crc.four"], apart := false, laid := [("packetboat/crc.four", laid_packetboat_crc_four)], narrowed := true }
def FrameTellsUptoSaid : Prop := frameTellsUptoRow.holds Tryd.pinned (OpenSpec.upto frameTellsSpec)

/-- 'packetboatlaw03.FrameBack', WHERE WHAT IT READS IS OF BULK AT MOST 1048576: true; the input reads as it did. -/
def frameBackUptoRow : OpenClaim := { program := "ytonllhjmoenckaadoor", sum := "2966eebb1451757a3c11f911b8c6bcf5fbaa7effcc699f4f88a42138c73fae21", func := "packetboat/packetboatlaw03.FrameBack", spec := "frameBack", unfollowed := true, recurses := true, named := ["packetboat/crc.four"], apart := false, laid := [("packetboat/crc.four", laid_packetboat_crc_four)], narrowed := true }
def FrameBackUptoSaid : Prop := frameBackUptoRow.holds Tryd.pinned (OpenSpec.upto frameBackSpec)

/-- 'packetboatlaw03.FrameBursts', WHERE WHAT IT READS IS OF BULK AT MOST 1048576: true; the input reads as it did. -/
def frameBurstsUptoRow : OpenClaim := { program := "ytonllhjmoenckaadoor", sum := "2966eebb1451757a3c11f911b8c6bcf5fbaa7effcc699f4f88a42138c73fae21", func := "packetboat/packetboatlaw03.FrameBursts", spec := "frameBursts", unfollowed := true, recurses := true, named := ["packetboat/crc.four"], apart := false, laid := [("packetboat/crc.four", laid_packetboat_crc_four)], narrowed := true }
def FrameBurstsUptoSaid : Prop := frameBurstsUptoRow.holds Tryd.pinned (OpenSpec.upto frameBurstsSpec)

/-- 'packetboatlaw22.ScriptTells', WHERE WHAT IT READS IS OF BULK AT MOST 1048576: true; the input reads as it did. -/
def scriptTellsUptoRow : OpenClaim := { program := "ytonllhjmoenckaadoor", sum := "2966eebb1451757a3c11f911b8c6bcf5fbaa7effcc699f4f88a42138c73fae21", func := "packetboat/packetboatlaw22.ScriptTells", spec := "scriptTells", unfollowed := true, recurses := true, named := ["packetboat/script.tells", "packetboat/crc.four"], apart := false, laid := [("packetboat/crc.four", laid_packetboat_crc_four), ("packetboat/script.tells", laid_packetboat_script_tells)], narrowed := true }
def ScriptTellsUptoSaid : Prop := scriptTellsUptoRow.holds Tryd.pinned (OpenSpec.upto scriptTellsSpec)

/-- 'packetboatlaw22.ScriptRow', WHERE WHAT IT READS IS OF BULK AT MOST 1048576: true; the input reads as it did. -/
def scriptRowUptoRow : OpenClaim := { program := "ytonllhjmoenckaadoor", sum := "2966eebb1451757a3c11f911b8c6bcf5fbaa7effcc699f4f88a42138c73fae21", func := "packetboat/packetboatlaw22.ScriptRow", spec := "scriptRow", unfollowed := true, recurses := true, named := ["packetboat/script.tells", "packetboat/crc.four"], apart := false, laid := [("packetboat/crc.four", laid_packetboat_crc_four), ("packetboat/script.tells", laid_packetboat_script_tells)], narrowed := true }
def ScriptRowUptoSaid : Prop := scriptRowUptoRow.holds Tryd.pinned (OpenSpec.upto scriptRowSpec)

/-- 'packetboatlaw22.ScriptBack', WHERE WHAT IT READS IS OF BULK AT MOST 1048576: true; the input reads as it did. -/
def scriptBackUptoRow : OpenClaim := { program := "ytonllhjmoenckaadoor", sum := "2966eebb1451757a3c11f911b8c6bcf5fbaa7effcc699f4f88a42138c73fae21", func := "packetboat/packetboatlaw22.ScriptBack", spec := "scriptBack", unfollowed := true, recurses := true, named := ["packetboat/script.tells", "packetboat/crc.four"], apart := false, laid := [("packetboat/crc.four", laid_packetboat_crc_four), ("packetboat/script.tells", laid_packetboat_script_tells)], narrowed := true }
def ScriptBackUptoSaid : Prop := scriptBackUptoRow.holds Tryd.pinned (OpenSpec.upto scriptBackSpec)

end Rows
end Go.Proofs.YtonllhjmoenckaaDoor
