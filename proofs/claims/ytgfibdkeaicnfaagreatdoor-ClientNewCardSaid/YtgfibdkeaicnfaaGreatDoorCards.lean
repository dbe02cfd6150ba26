/-
  DERIVED. GIVEN WITH THE SEED: THE CARDS: each row of YtgfibdkeaicnfaaGreatDoorRows.lean that lists a variable, with what it lists TIED to the program's text (the seventh form; the later family's looks); each row that meets fmt, with fmt's text TOLD by the authors' own Lean function (tested against real Go, not proved from fmt's source: count such statements apart). THE CARD IS WHAT COUNTS. Prove the row's statement (the work); the ties are given (YtgfibdkeaicnfaaGreatDoorTie.lean); close each card by the builder's one call (the guide's Derived/Test/ToyasCard.lean, 'card_holds'). Laid BY PROGRAM, IN A SANDBOX (cutbox-door.mjs). By AI agents, Wed Nov 11 2026. No macro, syntax, notation, axiom, sorry.
-/
import Derived.Test.YtgfibdkeaicnfaaGreatDoorRows
import GoSem.ClaimSeven
namespace Go.Proofs.YtgfibdkeaicnfaaGreatDoor
namespace Rows

/-- THE TIED CARD OF 'tidewaterlaw28.ClientNew'. -/
def clientNewCard : Claim7 := { stood := { row := clientNewRow, standIns := [], harness := (true, "b51f82e2efa054d27a5f26efe5c18c624119d99b3c759a86bbb0b601365dcc69"), looks := true }, kinds := [], alts := [], laidByText := true, laidKinds := [.sentinel, .sentinel, .sentinel, .sentinel, .sentinel, .sentinel, .sentinel, .sentinel, .sentinel, .sentinel, .sentinel, .sentinel, .sentinel, .sentinel, .sentinel, .sentinel, .sentinel, .sentinel, .sentinel], laidTests := true, laidLooks := .later }
def ClientNewCardSaid : Prop := Claim7.holds Tryz.pinned (.plain (OpenSpec.ofChange clientNewSpec)) clientNewCard

/-- THE SECOND FORM's CARD OF 'tidewaterlaw28.ClientNew'. -/
def clientNewUptoCard : Claim7 := { stood := { row := clientNewUptoRow, standIns := [], harness := (true, "b51f82e2efa054d27a5f26efe5c18c624119d99b3c759a86bbb0b601365dcc69"), looks := true }, kinds := [], alts := [], laidByText := true, laidKinds := [.sentinel, .sentinel, .sentinel, .sentinel, .sentinel, .sentinel, .sentinel, .sentinel, .sentinel, .sentinel, .sentinel, .sentinel, .sentinel, .sentinel, .sentinel, .sentinel, .sentinel, .sentinel, .sentinel], laidTests := true, laidLooks := .later }
def ClientNewUptoCardSaid : Prop := Claim7.holds Tryz.pinned (.plain (OpenSpec.upto clientNewSpec)) clientNewUptoCard
end Rows
end Go.Proofs.YtgfibdkeaicnfaaGreatDoor
