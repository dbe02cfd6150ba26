/-
  DERIVED. GIVEN WITH THE SEED: THE CARDS: each row of YtifcnammekbfoaaGreatDoorRows.lean that lists a variable, with what it lists TIED to the program's text (the seventh form; the later family's looks); each row that meets fmt, with fmt's text TOLD by the authors' own Lean function (tested against real Go, not proved from fmt's source: count such statements apart). THE CARD IS WHAT COUNTS. Prove the row's statement (the work); the ties are given (YtifcnammekbfoaaGreatDoorTie.lean); close each card by the builder's one call (the guide's Derived/Test/ToyasCard.lean, 'card_holds'). Laid BY PROGRAM, IN A SANDBOX (cutbox-door.mjs). By AI agents, Wed Nov 11 2026. No macro, syntax, notation, axiom, sorry.
-/
import Derived.Test.YtifcnammekbfoaaGreatDoorRows
import GoSem.ClaimSeven
namespace Go.Proofs.YtifcnammekbfoaaGreatDoor
namespace Rows

/-- THE TIED CARD OF 'tidewaterlaw21.TablePlays'. -/
def tablePlaysCard : Claim7 := { stood := { row := tablePlaysRow, standIns := [], harness := (true, "291a7547dfc7d5edca66fa20d4ec054f2127b904d54057ac56c4e112a3e2d459"), looks := true }, kinds := [], alts := [], laidByText := true, laidKinds := [.sentinel, .sentinel, .sentinel, .sentinel, .sentinel, .sentinel, .sentinel, .sentinel, .sentinel, .sentinel, .sentinel, .sentinel, .sentinel, .sentinel, .sentinel, .sentinel, .sentinel, .sentinel, .sentinel], laidTests := true, laidLooks := .later }
def TablePlaysCardSaid : Prop := Claim7.holds Tryz.pinned (.plain (OpenSpec.ofChange tablePlaysSpec)) tablePlaysCard

/-- THE TIED CARD OF 'tidewaterlaw23.StateOnce'. -/
def stateOnceCard : Claim7 := { stood := { row := stateOnceRow, standIns := [], harness := (true, "291a7547dfc7d5edca66fa20d4ec054f2127b904d54057ac56c4e112a3e2d459"), looks := true }, kinds := [], alts := [], laidByText := true, laidKinds := [.sentinel, .sentinel, .sentinel, .sentinel, .sentinel, .sentinel, .sentinel], laidTests := true, laidLooks := .later }
def StateOnceCardSaid : Prop := Claim7.holds Tryz.pinned (.plain (OpenSpec.ofChange stateOnceSpec)) stateOnceCard

/-- THE TIED CARD OF 'tidewaterlaw37.DeltaChain'. -/
def deltaChainCard : Claim7 := { stood := { row := deltaChainRow, standIns := [], harness := (true, "291a7547dfc7d5edca66fa20d4ec054f2127b904d54057ac56c4e112a3e2d459"), looks := true }, kinds := [], alts := [], laidByText := true, laidKinds := [.sentinel, .sentinel, .sentinel, .sentinel, .sentinel, .sentinel, .sentinel], laidTests := true, laidLooks := .later }
def DeltaChainCardSaid : Prop := Claim7.holds Tryz.pinned (.plain (OpenSpec.ofChange deltaChainSpec)) deltaChainCard

/-- THE TIED CARD OF 'tidewaterlaw37.DeltaBetween'. -/
def deltaBetweenCard : Claim7 := { stood := { row := deltaBetweenRow, standIns := [], harness := (true, "291a7547dfc7d5edca66fa20d4ec054f2127b904d54057ac56c4e112a3e2d459"), looks := true }, kinds := [], alts := [], laidByText := true, laidKinds := [.sentinel, .sentinel, .sentinel, .sentinel, .sentinel, .sentinel, .sentinel], laidTests := true, laidLooks := .later }
def DeltaBetweenCardSaid : Prop := Claim7.holds Tryz.pinned (.plain (OpenSpec.ofChange deltaBetweenSpec)) deltaBetweenCard

/-- THE TIED CARD OF 'tidewaterlaw23.StatePlays'. -/
def statePlaysCard : Claim7 := { stood := { row := statePlaysRow, standIns := [], harness := (true, "291a7547dfc7d5edca66fa20d4ec054f2127b904d54057ac56c4e112a3e2d459"), looks := true }, kinds := [], alts := [], laidByText := true, laidKinds := [.sentinel, .sentinel, .sentinel, .sentinel, .sentinel, .sentinel, .sentinel, .sentinel, .sentinel, .sentinel, .sentinel, .sentinel, .sentinel, .sentinel, .sentinel, .sentinel, .sentinel, .sentinel, .sentinel], laidTests := true, laidLooks := .later }
def StatePlaysCardSaid : Prop := Claim7.holds Tryz.pinned (.plain (OpenSpec.ofChange statePlaysSpec)) statePlaysCard

/-- THE SECOND FORM's CARD OF 'tidewaterlaw21.TablePlays'. -/
def tablePlaysUptoCard : Claim7 := { stood := { row := tablePlaysUptoRow, standIns := [], harness := (true, "291a7547dfc7d5edca66fa20d4ec054f2127b904d54057ac56c4e112a3e2d459"), looks := true }, kinds := [], alts := [], laidByText := true, laidKinds := [.sentinel, .sentinel, .sentinel, .sentinel, .sentinel, .sentinel, .sentinel, .sentinel, .sentinel, .sentinel, .sentinel, .sentinel, .sentinel, .sentinel, .sentinel, .sentinel, .sentinel, .sentinel, .sentinel], laidTests := true, laidLooks := .later }
def TablePlaysUptoCardSaid : Prop := Claim7.holds Tryz.pinned (.plain (OpenSpec.upto tablePlaysSpec)) tablePlaysUptoCard

/-- THE SECOND FORM's CARD OF 'tidewaterlaw23.StateOnce'. -/
def stateOnceUptoCard : Claim7 := { stood := { row := stateOnceUptoRow, standIns := [], harness := (true, "291a7547dfc7d5edca66fa20d4ec054f2127b904d54057ac56c4e112a3e2d459"), looks := true }, kinds := [], alts := [], laidByText := true, laidKinds := [.sentinel, .sentinel, .sentinel, .sentinel, .sentinel, .sentinel, .sentinel], laidTests := true, laidLooks := .later }
def StateOnceUptoCardSaid : Prop := Claim7.holds Tryz.pinned (.plain (OpenSpec.upto stateOnceSpec)) stateOnceUptoCard

/-- THE SECOND FORM's CARD OF 'tidewaterlaw37.DeltaChain'. -/
def deltaChainUptoCard : Claim7 := { stood := { row := deltaChainUptoRow, standIns := [], harness := (true, "291a7547dfc7d5edca66fa20d4ec054f2127b904d54057ac56c4e112a3e2d459"), looks := true }, kinds := [], alts := [], laidByText := true, laidKinds := [.sentinel, .sentinel, .sentinel, .sentinel, .sentinel, .sentinel, .sentinel], laidTests := true, laidLooks := .later }
def DeltaChainUptoCardSaid : Prop := Claim7.holds Tryz.pinned (.plain (OpenSpec.upto deltaChainSpec)) deltaChainUptoCard

/-- THE SECOND FORM's CARD OF 'tidewaterlaw37.DeltaBetween'. -/
def deltaBetweenUptoCard : Claim7 := { stood := { row := deltaBetweenUptoRow, standIns := [], harness := (true, "291a7547dfc7d5edca66fa20d4ec054f2127b904d54057ac56c4e112a3e2d459"), looks := true }, kinds := [], alts := [], laidByText := true, laidKinds := [.sentinel, .sentinel, .sentinel, .sentinel, .sentinel, .sentinel, .sentinel], laidTests := true, laidLooks := .later }
def DeltaBetweenUptoCardSaid : Prop := Claim7.holds Tryz.pinned (.plain (OpenSpec.upto deltaBetweenSpec)) deltaBetweenUptoCard

/-- THE SECOND FORM's CARD OF 'tidewaterlaw23.StatePlays'. -/
def statePlaysUptoCard : Claim7 := { stood := { row := statePlaysUptoRow, standIns := [], harness := (true, "291a7547dfc7d5edca66fa20d4ec054f2127b904d54057ac56c4e112a3e2d459"), looks := true }, kinds := [], alts := [], laidByText := true, laidKinds := [.sentinel, .sentinel, .sentinel, .sentinel, .sentinel, .sentinel, .sentinel, .sentinel, .sentinel, .sentinel, .sentinel, .sentinel, .sentinel, .sentinel, .sentinel, .sentinel, .sentinel, .sentinel, .sentinel], laidTests := true, laidLooks := .later }
def StatePlaysUptoCardSaid : Prop := Claim7.holds Tryz.pinned (.plain (OpenSpec.upto statePlaysSpec)) statePlaysUptoCard
end Rows
end Go.Proofs.YtifcnammekbfoaaGreatDoor
