/-
  DERIVED. GIVEN WITH THE SEED: THE CARDS: each row of YtgegogoanbamfaaGreatDoorRows.lean that lists a variable, with what it lists TIED to the program's text (the seventh form; the later family's looks); each row that meets fmt, with fmt's text TOLD by the authors' own Lean function (tested against real Go, not proved from fmt's source: count such statements apart). THE CARD IS WHAT COUNTS. Prove the row's statement (the work); the ties are given (YtgegogoanbamfaaGreatDoorTie.lean); close each card by the builder's one call (the guide's Derived/Test/ToyasCard.lean, 'card_holds'). Laid BY PROGRAM, IN A SANDBOX (cutbox-door.mjs). By AI agents, Wed Nov 11 2026. No macro, syntax, notation, axiom, sorry.
-/
import Derived.Test.YtgegogoanbamfaaGreatDoorRows
import GoSem.ClaimSeven
namespace Go.Proofs.YtgegogoanbamfaaGreatDoor
namespace Rows

/-- THE TIED CARD OF 'tidewaterlaw30.AuditPlays'. -/
def auditPlaysCard : Claim7 := { stood := { row := auditPlaysRow, standIns := [], harness := (true, "01c0f03f4af08d2ac225746d9237fde8269a61d82ce83ce7648f02532a7b9471"), looks := true }, kinds := [], alts := [], laidByText := true, laidKinds := [.sentinel, .sentinel, .sentinel, .sentinel, .sentinel, .sentinel, .sentinel, .sentinel, .sentinel, .sentinel, .sentinel, .sentinel, .sentinel, .sentinel, .sentinel, .sentinel, .sentinel, .sentinel, .sentinel], laidTests := true, laidLooks := .later }
def AuditPlaysCardSaid : Prop := Claim7.holds Tryz.pinned (.plain (OpenSpec.ofChange auditPlaysSpec)) auditPlaysCard

/-- THE SECOND FORM's CARD OF 'tidewaterlaw30.AuditPlays'. -/
def auditPlaysUptoCard : Claim7 := { stood := { row := auditPlaysUptoRow, standIns := [], harness := (true, "01c0f03f4af08d2ac225746d9237fde8269a61d82ce83ce7648f02532a7b9471"), looks := true }, kinds := [], alts := [], laidByText := true, laidKinds := [.sentinel, .sentinel, .sentinel, .sentinel, .sentinel, .sentinel, .sentinel, .sentinel, .sentinel, .sentinel, .sentinel, .sentinel, .sentinel, .sentinel, .sentinel, .sentinel, .sentinel, .sentinel, .sentinel], laidTests := true, laidLooks := .later }
def AuditPlaysUptoCardSaid : Prop := Claim7.holds Tryz.pinned (.plain (OpenSpec.upto auditPlaysSpec)) auditPlaysUptoCard
end Rows
end Go.Proofs.YtgegogoanbamfaaGreatDoor
