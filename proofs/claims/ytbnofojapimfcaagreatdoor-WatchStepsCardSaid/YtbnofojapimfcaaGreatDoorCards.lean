/-
  DERIVED. GIVEN WITH THE SEED: THE CARDS: each row of YtbnofojapimfcaaGreatDoorRows.lean that lists a variable, with what it lists TIED to the program's text (the seventh form; the later family's looks); each row that meets fmt, with fmt's text TOLD by the authors' own Lean function (tested against real Go, not proved from fmt's source: count such statements apart). THE CARD IS WHAT COUNTS. Prove the row's statement (the work); the ties are given (YtbnofojapimfcaaGreatDoorTie.lean); close each card by the builder's one call (the guide's Derived/Test/ToyasCard.lean, 'card_holds'). Laid BY PROGRAM, IN A SANDBOX (cutbox-door.mjs). By AI agents, Wed Nov 11 2026. No macro, syntax, notation, axiom, sorry.
-/
import Derived.Test.YtbnofojapimfcaaGreatDoorRows
import GoSem.ClaimSeven
namespace Go.Proofs.YtbnofojapimfcaaGreatDoor
namespace Rows

/-- THE TIED CARD OF 'tidewaterlaw39.WatchSteps'. -/
def watchStepsCard : Claim7 := { stood := { row := watchStepsRow, standIns := [], harness := (true, "5cc71b06980a099406719e34058e1f5d1a736008a5070eab2c229fef185d461a"), looks := true }, kinds := [], alts := [], laidByText := true, laidKinds := [.sentinel, .sentinel, .sentinel, .sentinel, .sentinel, .sentinel, .sentinel, .sentinel, .sentinel, .sentinel, .sentinel, .sentinel, .sentinel, .sentinel, .sentinel, .sentinel, .sentinel, .sentinel, .sentinel], laidTests := true, laidLooks := .later }
def WatchStepsCardSaid : Prop := Claim7.holds Tryz.pinned (.plain (OpenSpec.ofChange watchStepsSpec)) watchStepsCard

/-- THE TIED CARD OF 'tidewaterlaw30.AuditPlays'. -/
def auditPlaysCard : Claim7 := { stood := { row := auditPlaysRow, standIns := [], harness := (true, "5cc71b06980a099406719e34058e1f5d1a736008a5070eab2c229fef185d461a"), looks := true }, kinds := [], alts := [], laidByText := true, laidKinds := [.sentinel, .sentinel, .sentinel, .sentinel, .sentinel, .sentinel, .sentinel, .sentinel, .sentinel, .sentinel, .sentinel, .sentinel, .sentinel, .sentinel, .sentinel, .sentinel, .sentinel, .sentinel, .sentinel], laidTests := true, laidLooks := .later }
def AuditPlaysCardSaid : Prop := Claim7.holds Tryz.pinned (.plain (OpenSpec.ofChange auditPlaysSpec)) auditPlaysCard

/-- THE SECOND FORM's CARD OF 'tidewaterlaw39.WatchSteps'. -/
def watchStepsUptoCard : Claim7 := { stood := { row := watchStepsUptoRow, standIns := [], harness := (true, "5cc71b06980a099406719e34058e1f5d1a736008a5070eab2c229fef185d461a"), looks := true }, kinds := [], alts := [], laidByText := true, laidKinds := [.sentinel, .sentinel, .sentinel, .sentinel, .sentinel, .sentinel, .sentinel, .sentinel, .sentinel, .sentinel, .sentinel, .sentinel, .sentinel, .sentinel, .sentinel, .sentinel, .sentinel, .sentinel, .sentinel], laidTests := true, laidLooks := .later }
def WatchStepsUptoCardSaid : Prop := Claim7.holds Tryz.pinned (.plain (OpenSpec.upto watchStepsSpec)) watchStepsUptoCard

/-- THE SECOND FORM's CARD OF 'tidewaterlaw30.AuditPlays'. -/
def auditPlaysUptoCard : Claim7 := { stood := { row := auditPlaysUptoRow, standIns := [], harness := (true, "5cc71b06980a099406719e34058e1f5d1a736008a5070eab2c229fef185d461a"), looks := true }, kinds := [], alts := [], laidByText := true, laidKinds := [.sentinel, .sentinel, .sentinel, .sentinel, .sentinel, .sentinel, .sentinel, .sentinel, .sentinel, .sentinel, .sentinel, .sentinel, .sentinel, .sentinel, .sentinel, .sentinel, .sentinel, .sentinel, .sentinel], laidTests := true, laidLooks := .later }
def AuditPlaysUptoCardSaid : Prop := Claim7.holds Tryz.pinned (.plain (OpenSpec.upto auditPlaysSpec)) auditPlaysUptoCard
end Rows
end Go.Proofs.YtbnofojapimfcaaGreatDoor
