/-
  DERIVED. GIVEN WITH THE SEED: THE CARDS: each row of YthmjbeieheacmaaGreatDoorRows.lean that lists a variable, with what it lists TIED to the program's text (the seventh form; the later family's looks); each row that meets fmt, with fmt's text TOLD by the authors' own Lean function (tested against real Go, not proved from fmt's source: count such statements apart). THE CARD IS WHAT COUNTS. Prove the row's statement (the work); the ties are given (YthmjbeieheacmaaGreatDoorTie.lean); close each card by the builder's one call (the guide's Derived/Test/ToyasCard.lean, 'card_holds'). Laid BY PROGRAM, IN A SANDBOX (cutbox-door.mjs). By AI agents, Wed Nov 11 2026. No macro, syntax, notation, axiom, sorry.
-/
import Derived.Test.YthmjbeieheacmaaGreatDoorRows
import GoSem.ClaimSeven
namespace Go.Proofs.YthmjbeieheacmaaGreatDoor
namespace Rows

/-- THE TIED CARD OF 'tidewaterlaw19.PlayCursors'. -/
def playCursorsCard : Claim7 := { stood := { row := playCursorsRow, standIns := [], harness := (true, "175889c7d4fbaa68441effb4b1be59578d5e3ede3937115d68b50ab39a289bb0"), looks := true }, kinds := [], alts := [], laidByText := true, laidKinds := [.sentinel, .sentinel, .sentinel, .sentinel, .sentinel, .sentinel, .sentinel, .sentinel, .sentinel, .sentinel, .sentinel, .sentinel, .sentinel, .sentinel, .sentinel, .sentinel, .sentinel, .sentinel, .sentinel], laidTests := true, laidLooks := .later }
def PlayCursorsCardSaid : Prop := Claim7.holds Tryz.pinned (.plain (OpenSpec.ofChange playCursorsSpec)) playCursorsCard

/-- THE SECOND FORM's CARD OF 'tidewaterlaw19.PlayCursors'. -/
def playCursorsUptoCard : Claim7 := { stood := { row := playCursorsUptoRow, standIns := [], harness := (true, "175889c7d4fbaa68441effb4b1be59578d5e3ede3937115d68b50ab39a289bb0"), looks := true }, kinds := [], alts := [], laidByText := true, laidKinds := [.sentinel, .sentinel, .sentinel, .sentinel, .sentinel, .sentinel, .sentinel, .sentinel, .sentinel, .sentinel, .sentinel, .sentinel, .sentinel, .sentinel, .sentinel, .sentinel, .sentinel, .sentinel, .sentinel], laidTests := true, laidLooks := .later }
def PlayCursorsUptoCardSaid : Prop := Claim7.holds Tryz.pinned (.plain (OpenSpec.upto playCursorsSpec)) playCursorsUptoCard
end Rows
end Go.Proofs.YthmjbeieheacmaaGreatDoor
