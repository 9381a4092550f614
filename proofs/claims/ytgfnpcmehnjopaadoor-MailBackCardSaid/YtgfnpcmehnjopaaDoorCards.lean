/-
  DERIVED. GIVEN WITH THE SEED: THE CARDS: each row of YtgfnpcmehnjopaaDoorRows.lean that lists a variable, with what it lists TIED to the program's text (the seventh form; the later family's looks); each row that meets fmt, with fmt's text TOLD by the authors' own Lean function (tested against real Go, not proved from fmt's source: count such statements apart). THE CARD IS WHAT COUNTS. Prove the row's statement (the work); the ties are given (YtgfnpcmehnjopaaDoorTie.lean); close each card by the builder's one call (the guide's Derived/Test/ToyasCard.lean, 'card_holds'). Laid BY PROGRAM, IN A SANDBOX (cutbox-door.mjs). By AI agents, Wed Nov 11 2026. No macro, syntax, notation, axiom, sorry.
-/
import Derived.Test.YtgfnpcmehnjopaaDoorRows
import GoSem.ClaimSeven
namespace Go.Proofs.YtgfnpcmehnjopaaDoor
namespace Rows

/-- THE TIED CARD OF 'packetboatlaw22.ScriptTells'. -/
def scriptTellsCard : Claim7 := { stood := { row := scriptTellsRow, standIns := [], harness := (true, "0ade4416e34933b240847ba9878fb54900ffeca644053ce618a4409d63690e59"), looks := true }, kinds := [], alts := [], laidByText := true, laidKinds := [.data, .data], laidTests := true, laidLooks := .later }
def ScriptTellsCardSaid : Prop := Claim7.holds Tryd.pinned (.plain (OpenSpec.ofChange scriptTellsSpec)) scriptTellsCard

/-- THE TIED CARD OF 'packetboatlaw22.ScriptRow'. -/
def scriptRowCard : Claim7 := { stood := { row := scriptRowRow, standIns := [], harness := (true, "0ade4416e34933b240847ba9878fb54900ffeca644053ce618a4409d63690e59"), looks := true }, kinds := [], alts := [], laidByText := true, laidKinds := [.data, .data], laidTests := true, laidLooks := .later }
def ScriptRowCardSaid : Prop := Claim7.holds Tryd.pinned (.plain (OpenSpec.ofChange scriptRowSpec)) scriptRowCard

/-- THE TIED CARD OF 'packetboatlaw22.ScriptBack'. -/
def scriptBackCard : Claim7 := { stood := { row := scriptBackRow, standIns := [], harness := (true, "0ade4416e34933b240847ba9878fb54900ffeca644053ce618a4409d63690e59"), looks := true }, kinds := [], alts := [], laidByText := true, laidKinds := [.data, .data], laidTests := true, laidLooks := .later }
def ScriptBackCardSaid : Prop := Claim7.holds Tryd.pinned (.plain (OpenSpec.ofChange scriptBackSpec)) scriptBackCard

/-- THE TIED CARD OF 'packetboatlaw09.SegBack'. -/
def segBackCard : Claim7 := { stood := { row := segBackRow, standIns := [], harness := (true, "0ade4416e34933b240847ba9878fb54900ffeca644053ce618a4409d63690e59"), looks := true }, kinds := [], alts := [], laidByText := true, laidKinds := [.data], laidTests := true, laidLooks := .later }
def SegBackCardSaid : Prop := Claim7.holds Tryd.pinned (.plain (OpenSpec.ofChange segBackSpec)) segBackCard

/-- THE TIED CARD OF 'packetboatlaw09.SegGoes'. -/
def segGoesCard : Claim7 := { stood := { row := segGoesRow, standIns := [], harness := (true, "0ade4416e34933b240847ba9878fb54900ffeca644053ce618a4409d63690e59"), looks := true }, kinds := [], alts := [], laidByText := true, laidKinds := [.data], laidTests := true, laidLooks := .later }
def SegGoesCardSaid : Prop := Claim7.holds Tryd.pinned (.plain (OpenSpec.ofChange segGoesSpec)) segGoesCard

/-- THE TIED CARD OF 'packetboatlaw13.MailBack'. -/
def mailBackCard : Claim7 := { stood := { row := mailBackRow, standIns := [], harness := (true, "0ade4416e34933b240847ba9878fb54900ffeca644053ce618a4409d63690e59"), looks := true }, kinds := [], alts := [], laidByText := true, laidKinds := [.data], laidTests := true, laidLooks := .later }
def MailBackCardSaid : Prop := Claim7.holds Tryd.pinned (.plain (OpenSpec.ofChange mailBackSpec)) mailBackCard

/-- THE TIED CARD OF 'packetboatlaw13.MailBursts'. -/
def mailBurstsCard : Claim7 := { stood := { row := mailBurstsRow, standIns := [], harness := (true, "0ade4416e34933b240847ba9878fb54900ffeca644053ce618a4409d63690e59"), looks := true }, kinds := [], alts := [], laidByText := true, laidKinds := [.data], laidTests := true, laidLooks := .later }
def MailBurstsCardSaid : Prop := Claim7.holds Tryd.pinned (.plain (OpenSpec.ofChange mailBurstsSpec)) mailBurstsCard

/-- THE SECOND FORM's CARD OF 'packetboatlaw22.ScriptTells'. -/
def scriptTellsUptoCard : Claim7 := { stood := { row := scriptTellsUptoRow, standIns := [], harness := (true, "0ade4416e34933b240847ba9878fb54900ffeca644053ce618a4409d63690e59"), looks := true }, kinds := [], alts := [], laidByText := true, laidKinds := [.data, .data], laidTests := true, laidLooks := .later }
def ScriptTellsUptoCardSaid : Prop := Claim7.holds Tryd.pinned (.plain (OpenSpec.upto scriptTellsSpec)) scriptTellsUptoCard

/-- THE SECOND FORM's CARD OF 'packetboatlaw22.ScriptRow'. -/
def scriptRowUptoCard : Claim7 := { stood := { row := scriptRowUptoRow, standIns := [], harness := (true, "0ade4416e34933b240847ba9878fb54900ffeca644053ce618a4409d63690e59"), looks := true }, kinds := [], alts := [], laidByText := true, laidKinds := [.data, .data], laidTests := true, laidLooks := .later }
def ScriptRowUptoCardSaid : Prop := Claim7.holds Tryd.pinned (.plain (OpenSpec.upto scriptRowSpec)) scriptRowUptoCard

/-- THE SECOND FORM's CARD OF 'packetboatlaw22.ScriptBack'. -/
def scriptBackUptoCard : Claim7 := { stood := { row := scriptBackUptoRow, standIns := [], harness := (true, "0ade4416e34933b240847ba9878fb54900ffeca644053ce618a4409d63690e59"), looks := true }, kinds := [], alts := [], laidByText := true, laidKinds := [.data, .data], laidTests := true, laidLooks := .later }
def ScriptBackUptoCardSaid : Prop := Claim7.holds Tryd.pinned (.plain (OpenSpec.upto scriptBackSpec)) scriptBackUptoCard

/-- THE SECOND FORM's CARD OF 'packetboatlaw09.SegBack'. -/
def segBackUptoCard : Claim7 := { stood := { row := segBackUptoRow, standIns := [], harness := (true, "0ade4416e34933b240847ba9878fb54900ffeca644053ce618a4409d63690e59"), looks := true }, kinds := [], alts := [], laidByText := true, laidKinds := [.data], laidTests := true, laidLooks := .later }
def SegBackUptoCardSaid : Prop := Claim7.holds Tryd.pinned (.plain (OpenSpec.upto segBackSpec)) segBackUptoCard

/-- THE SECOND FORM's CARD OF 'packetboatlaw09.SegGoes'. -/
def segGoesUptoCard : Claim7 := { stood := { row := segGoesUptoRow, standIns := [], harness := (true, "0ade4416e34933b240847ba9878fb54900ffeca644053ce618a4409d63690e59"), looks := true }, kinds := [], alts := [], laidByText := true, laidKinds := [.data], laidTests := true, laidLooks := .later }
def SegGoesUptoCardSaid : Prop := Claim7.holds Tryd.pinned (.plain (OpenSpec.upto segGoesSpec)) segGoesUptoCard

/-- THE SECOND FORM's CARD OF 'packetboatlaw13.MailBack'. -/
def mailBackUptoCard : Claim7 := { stood := { row := mailBackUptoRow, standIns := [], harness := (true, "0ade4416e34933b240847ba9878fb54900ffeca644053ce618a4409d63690e59"), looks := true }, kinds := [], alts := [], laidByText := true, laidKinds := [.data], laidTests := true, laidLooks := .later }
def MailBackUptoCardSaid : Prop := Claim7.holds Tryd.pinned (.plain (OpenSpec.upto mailBackSpec)) mailBackUptoCard

/-- THE SECOND FORM's CARD OF 'packetboatlaw13.MailBursts'. -/
def mailBurstsUptoCard : Claim7 := { stood := { row := mailBurstsUptoRow, standIns := [], harness := (true, "0ade4416e34933b240847ba9878fb54900ffeca644053ce618a4409d63690e59"), looks := true }, kinds := [], alts := [], laidByText := true, laidKinds := [.data], laidTests := true, laidLooks := .later }
def MailBurstsUptoCardSaid : Prop := Claim7.holds Tryd.pinned (.plain (OpenSpec.upto mailBurstsSpec)) mailBurstsUptoCard
end Rows
end Go.Proofs.YtgfnpcmehnjopaaDoor
