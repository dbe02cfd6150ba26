/-
  DERIVED. GIVEN WITH THE SEED: THE CARDS: each row of YtapchoppcaacdaaDoorRows.lean that lists a variable, with what it lists TIED to the program's text (the seventh form; the later family's looks); each row that meets fmt, with fmt's text TOLD by the authors' own Lean function (tested against real Go, not proved from fmt's source: count such statements apart). THE CARD IS WHAT COUNTS. Prove the row's statement (the work); the ties are given (YtapchoppcaacdaaDoorTie.lean); close each card by the builder's one call (the guide's Derived/Test/ToyasCard.lean, 'card_holds'). Laid BY PROGRAM, IN A SANDBOX (cutbox-door.mjs). By AI agents, Wed Nov 11 2026. No macro, syntax, notation, axiom, sorry.
-/
import Derived.Test.YtapchoppcaacdaaDoorRows
import GoSem.ClaimSeven
namespace Go.Proofs.YtapchoppcaacdaaDoor
namespace Rows

/-- THE TIED CARD OF 'tidewaterlaw38.PastTrims'. -/
def pastTrimsCard : Claim7 := { stood := { row := pastTrimsRow, standIns := [], harness := (true, "51125a0523e5bc963b1328e66d27d2740efab82a353e673f4e176d39f4ddfe82"), looks := true }, kinds := [], alts := [], laidByText := true, laidKinds := [.sentinel, .sentinel, .sentinel, .sentinel, .sentinel, .sentinel, .sentinel, .sentinel, .sentinel, .sentinel, .sentinel, .sentinel, .sentinel, .sentinel, .sentinel, .sentinel, .sentinel, .sentinel, .sentinel], laidTests := true, laidLooks := .later }
def PastTrimsCardSaid : Prop := Claim7.holds Tryd.pinned (.plain (OpenSpec.ofChange pastTrimsSpec)) pastTrimsCard

/-- THE SECOND FORM's CARD OF 'tidewaterlaw38.PastTrims'. -/
def pastTrimsUptoCard : Claim7 := { stood := { row := pastTrimsUptoRow, standIns := [], harness := (true, "51125a0523e5bc963b1328e66d27d2740efab82a353e673f4e176d39f4ddfe82"), looks := true }, kinds := [], alts := [], laidByText := true, laidKinds := [.sentinel, .sentinel, .sentinel, .sentinel, .sentinel, .sentinel, .sentinel, .sentinel, .sentinel, .sentinel, .sentinel, .sentinel, .sentinel, .sentinel, .sentinel, .sentinel, .sentinel, .sentinel, .sentinel], laidTests := true, laidLooks := .later }
def PastTrimsUptoCardSaid : Prop := Claim7.holds Tryd.pinned (.plain (OpenSpec.upto pastTrimsSpec)) pastTrimsUptoCard
end Rows
end Go.Proofs.YtapchoppcaacdaaDoor
