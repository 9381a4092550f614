/-
  DERIVED. GIVEN WITH THE SEED: THE CARDS: each row of YtgfnpcmehnjopaaGreatDoorRows.lean that lists a variable, with what it lists TIED to the program's text (the seventh form; the later family's looks); each row that meets fmt, with fmt's text TOLD by the authors' own Lean function (tested against real Go, not proved from fmt's source: count such statements apart). THE CARD IS WHAT COUNTS. Prove the row's statement (the work); the ties are given (YtgfnpcmehnjopaaGreatDoorTie.lean); close each card by the builder's one call (the guide's Derived/Test/ToyasCard.lean, 'card_holds'). Laid BY PROGRAM, IN A SANDBOX (cutbox-door.mjs). By AI agents, Wed Nov 11 2026. No macro, syntax, notation, axiom, sorry.
-/
import Derived.Test.YtgfnpcmehnjopaaGreatDoorRows
import GoSem.ClaimSeven
namespace Go.Proofs.YtgfnpcmehnjopaaGreatDoor
namespace Rows

/-- THE TIED CARD OF 'packetboatlaw13.MailTells'. -/
def mailTellsCard : Claim7 := { stood := { row := mailTellsRow, standIns := [], harness := (true, "2e0544664e80ed8b89d4ece0051e4dfef4f04f7a7d7a00fb8595aa00b4a20070"), looks := true }, kinds := [], alts := [], laidByText := true, laidKinds := [.data], laidTests := true, laidLooks := .later }
def MailTellsCardSaid : Prop := Claim7.holds Tryz.pinned (.plain (OpenSpec.ofChange mailTellsSpec)) mailTellsCard

/-- THE SECOND FORM's CARD OF 'packetboatlaw13.MailTells'. -/
def mailTellsUptoCard : Claim7 := { stood := { row := mailTellsUptoRow, standIns := [], harness := (true, "2e0544664e80ed8b89d4ece0051e4dfef4f04f7a7d7a00fb8595aa00b4a20070"), looks := true }, kinds := [], alts := [], laidByText := true, laidKinds := [.data], laidTests := true, laidLooks := .later }
def MailTellsUptoCardSaid : Prop := Claim7.holds Tryz.pinned (.plain (OpenSpec.upto mailTellsSpec)) mailTellsUptoCard
end Rows
end Go.Proofs.YtgfnpcmehnjopaaGreatDoor
