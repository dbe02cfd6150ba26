/-
  DERIVED. GIVEN WITH THE SEED: THE CARDS: each row of YtlgcdneiebjkcaaGreatDoorRows.lean that lists a variable, with what it lists TIED to the program's text (the seventh form; the later family's looks); each row that meets fmt, with fmt's text TOLD by the authors' own Lean function (tested against real Go, not proved from fmt's source: count such statements apart). THE CARD IS WHAT COUNTS. Prove the row's statement (the work); the ties are given (YtlgcdneiebjkcaaGreatDoorTie.lean); close each card by the builder's one call (the guide's Derived/Test/ToyasCard.lean, 'card_holds'). Laid BY PROGRAM, IN A SANDBOX (cutbox-door.mjs). By AI agents, Wed Nov 11 2026. No macro, syntax, notation, axiom, sorry.
-/
import Derived.Test.YtlgcdneiebjkcaaGreatDoorRows
import GoSem.ClaimSeven
namespace Go.Proofs.YtlgcdneiebjkcaaGreatDoor
namespace Rows

/-- THE TIED CARD OF 'tidewaterlaw27.ServeNew'. -/
def serveNewCard : Claim7 := { stood := { row := serveNewRow, standIns := [], harness := (true, "05f919f22207aa42edf5d02d511b485b96e9e80a01878ab4a6637799e829b83b"), looks := true }, kinds := [], alts := [], laidByText := true, laidKinds := [.sentinel, .sentinel, .sentinel, .sentinel, .sentinel, .sentinel, .sentinel, .sentinel, .sentinel, .sentinel, .sentinel, .sentinel, .sentinel, .sentinel, .sentinel, .sentinel, .sentinel, .sentinel, .sentinel], laidTests := true, laidLooks := .later }
def ServeNewCardSaid : Prop := Claim7.holds Tryz.pinned (.plain (OpenSpec.ofChange serveNewSpec)) serveNewCard

/-- THE SECOND FORM's CARD OF 'tidewaterlaw27.ServeNew'. -/
def serveNewUptoCard : Claim7 := { stood := { row := serveNewUptoRow, standIns := [], harness := (true, "05f919f22207aa42edf5d02d511b485b96e9e80a01878ab4a6637799e829b83b"), looks := true }, kinds := [], alts := [], laidByText := true, laidKinds := [.sentinel, .sentinel, .sentinel, .sentinel, .sentinel, .sentinel, .sentinel, .sentinel, .sentinel, .sentinel, .sentinel, .sentinel, .sentinel, .sentinel, .sentinel, .sentinel, .sentinel, .sentinel, .sentinel], laidTests := true, laidLooks := .later }
def ServeNewUptoCardSaid : Prop := Claim7.holds Tryz.pinned (.plain (OpenSpec.upto serveNewSpec)) serveNewUptoCard
end Rows
end Go.Proofs.YtlgcdneiebjkcaaGreatDoor
