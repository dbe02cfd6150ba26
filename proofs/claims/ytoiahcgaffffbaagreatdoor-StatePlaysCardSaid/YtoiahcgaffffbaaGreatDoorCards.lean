/-
  DERIVED. GIVEN WITH THE SEED: THE CARDS: each row of YtoiahcgaffffbaaGreatDoorRows.lean that lists a variable, with what it lists TIED to the program's text (the seventh form; the later family's looks); each row that meets fmt, with fmt's text TOLD by the authors' own Lean function (tested against real Go, not proved from fmt's source: count such statements apart). THE CARD IS WHAT COUNTS. Prove the row's statement (the work); the ties are given (YtoiahcgaffffbaaGreatDoorTie.lean); close each card by the builder's one call (the guide's Derived/Test/ToyasCard.lean, 'card_holds'). Laid BY PROGRAM, IN A SANDBOX (cutbox-door.mjs). By AI agents, Wed Nov 11 2026. No macro, syntax, notation, axiom, sorry.
-/
import Derived.Test.YtoiahcgaffffbaaGreatDoorRows
import GoSem.ClaimSeven
namespace Go.Proofs.YtoiahcgaffffbaaGreatDoor
namespace Rows

/-- THE TIED CARD OF 'tidewaterlaw37.DeltaBetween'. -/
def deltaBetweenCard : Claim7 := { stood := { row := deltaBetweenRow, standIns := [], harness := (true, "aff97e110becb2293ea5b9a0fa4efa53c459c8467cb53ee62b33620985fe1c52"), looks := true }, kinds := [], alts := [], laidByText := true, laidKinds := [.sentinel, .sentinel, .sentinel, .sentinel, .sentinel, .sentinel, .sentinel], laidTests := true, laidLooks := .later }
def DeltaBetweenCardSaid : Prop := Claim7.holds Tryz.pinned (.plain (OpenSpec.ofChange deltaBetweenSpec)) deltaBetweenCard

/-- THE TIED CARD OF 'tidewaterlaw23.StatePlays'. -/
def statePlaysCard : Claim7 := { stood := { row := statePlaysRow, standIns := [], harness := (true, "aff97e110becb2293ea5b9a0fa4efa53c459c8467cb53ee62b33620985fe1c52"), looks := true }, kinds := [], alts := [], laidByText := true, laidKinds := [.sentinel, .sentinel, .sentinel, .sentinel, .sentinel, .sentinel, .sentinel, .sentinel, .sentinel, .sentinel, .sentinel, .sentinel, .sentinel, .sentinel, .sentinel, .sentinel, .sentinel, .sentinel, .sentinel], laidTests := true, laidLooks := .later }
def StatePlaysCardSaid : Prop := Claim7.holds Tryz.pinned (.plain (OpenSpec.ofChange statePlaysSpec)) statePlaysCard

/-- THE TIED CARD OF 'tidewaterlaw30.AuditApart'. -/
def auditApartCard : Claim7 := { stood := { row := auditApartRow, standIns := [], harness := (true, "aff97e110becb2293ea5b9a0fa4efa53c459c8467cb53ee62b33620985fe1c52"), looks := true }, kinds := [], alts := [], laidByText := true, laidKinds := [.sentinel, .sentinel, .sentinel, .sentinel, .sentinel, .sentinel, .sentinel, .sentinel], laidTests := true, laidLooks := .later }
def AuditApartCardSaid : Prop := Claim7.holds Tryz.pinned (.plain (OpenSpec.ofChange auditApartSpec)) auditApartCard

/-- THE TIED CARD OF 'tidewaterlaw39.WatchSpans'. -/
def watchSpansCard : Claim7 := { stood := { row := watchSpansRow, standIns := [], harness := (true, "aff97e110becb2293ea5b9a0fa4efa53c459c8467cb53ee62b33620985fe1c52"), looks := true }, kinds := [], alts := [], laidByText := true, laidKinds := [.sentinel, .sentinel, .sentinel, .sentinel, .sentinel, .sentinel, .sentinel, .sentinel], laidTests := true, laidLooks := .later }
def WatchSpansCardSaid : Prop := Claim7.holds Tryz.pinned (.plain (OpenSpec.ofChange watchSpansSpec)) watchSpansCard

/-- THE TIED CARD OF 'tidewaterlaw39.WatchSteps'. -/
def watchStepsCard : Claim7 := { stood := { row := watchStepsRow, standIns := [], harness := (true, "aff97e110becb2293ea5b9a0fa4efa53c459c8467cb53ee62b33620985fe1c52"), looks := true }, kinds := [], alts := [], laidByText := true, laidKinds := [.sentinel, .sentinel, .sentinel, .sentinel, .sentinel, .sentinel, .sentinel, .sentinel, .sentinel, .sentinel, .sentinel, .sentinel, .sentinel, .sentinel, .sentinel, .sentinel, .sentinel, .sentinel, .sentinel], laidTests := true, laidLooks := .later }
def WatchStepsCardSaid : Prop := Claim7.holds Tryz.pinned (.plain (OpenSpec.ofChange watchStepsSpec)) watchStepsCard

/-- THE TIED CARD OF 'tidewaterlaw39.WatchReplays'. -/
def watchReplaysCard : Claim7 := { stood := { row := watchReplaysRow, standIns := [], harness := (true, "aff97e110becb2293ea5b9a0fa4efa53c459c8467cb53ee62b33620985fe1c52"), looks := true }, kinds := [], alts := [], laidByText := true, laidKinds := [.sentinel, .sentinel, .sentinel, .sentinel, .sentinel, .sentinel, .sentinel, .sentinel, .sentinel, .sentinel, .sentinel, .sentinel, .sentinel, .sentinel, .sentinel, .sentinel, .sentinel, .sentinel, .sentinel], laidTests := true, laidLooks := .later }
def WatchReplaysCardSaid : Prop := Claim7.holds Tryz.pinned (.plain (OpenSpec.ofChange watchReplaysSpec)) watchReplaysCard

/-- THE SECOND FORM's CARD OF 'tidewaterlaw37.DeltaBetween'. -/
def deltaBetweenUptoCard : Claim7 := { stood := { row := deltaBetweenUptoRow, standIns := [], harness := (true, "aff97e110becb2293ea5b9a0fa4efa53c459c8467cb53ee62b33620985fe1c52"), looks := true }, kinds := [], alts := [], laidByText := true, laidKinds := [.sentinel, .sentinel, .sentinel, .sentinel, .sentinel, .sentinel, .sentinel], laidTests := true, laidLooks := .later }
def DeltaBetweenUptoCardSaid : Prop := Claim7.holds Tryz.pinned (.plain (OpenSpec.upto deltaBetweenSpec)) deltaBetweenUptoCard

/-- THE SECOND FORM's CARD OF 'tidewaterlaw23.StatePlays'. -/
def statePlaysUptoCard : Claim7 := { stood := { row := statePlaysUptoRow, standIns := [], harness := (true, "aff97e110becb2293ea5b9a0fa4efa53c459c8467cb53ee62b33620985fe1c52"), looks := true }, kinds := [], alts := [], laidByText := true, laidKinds := [.sentinel, .sentinel, .sentinel, .sentinel, .sentinel, .sentinel, .sentinel, .sentinel, .sentinel, .sentinel, .sentinel, .sentinel, .sentinel, .sentinel, .sentinel, .sentinel, .sentinel, .sentinel, .sentinel], laidTests := true, laidLooks := .later }
def StatePlaysUptoCardSaid : Prop := Claim7.holds Tryz.pinned (.plain (OpenSpec.upto statePlaysSpec)) statePlaysUptoCard

/-- THE SECOND FORM's CARD OF 'tidewaterlaw30.AuditApart'. -/
def auditApartUptoCard : Claim7 := { stood := { row := auditApartUptoRow, standIns := [], harness := (true, "aff97e110becb2293ea5b9a0fa4efa53c459c8467cb53ee62b33620985fe1c52"), looks := true }, kinds := [], alts := [], laidByText := true, laidKinds := [.sentinel, .sentinel, .sentinel, .sentinel, .sentinel, .sentinel, .sentinel, .sentinel], laidTests := true, laidLooks := .later }
def AuditApartUptoCardSaid : Prop := Claim7.holds Tryz.pinned (.plain (OpenSpec.upto auditApartSpec)) auditApartUptoCard

/-- THE SECOND FORM's CARD OF 'tidewaterlaw39.WatchSpans'. -/
def watchSpansUptoCard : Claim7 := { stood := { row := watchSpansUptoRow, standIns := [], harness := (true, "aff97e110becb2293ea5b9a0fa4efa53c459c8467cb53ee62b33620985fe1c52"), looks := true }, kinds := [], alts := [], laidByText := true, laidKinds := [.sentinel, .sentinel, .sentinel, .sentinel, .sentinel, .sentinel, .sentinel, .sentinel], laidTests := true, laidLooks := .later }
def WatchSpansUptoCardSaid : Prop := Claim7.holds Tryz.pinned (.plain (OpenSpec.upto watchSpansSpec)) watchSpansUptoCard

/-- THE SECOND FORM's CARD OF 'tidewaterlaw39.WatchSteps'. -/
def watchStepsUptoCard : Claim7 := { stood := { row := watchStepsUptoRow, standIns := [], harness := (true, "aff97e110becb2293ea5b9a0fa4efa53c459c8467cb53ee62b33620985fe1c52"), looks := true }, kinds := [], alts := [], laidByText := true, laidKinds := [.sentinel, .sentinel, .sentinel, .sentinel, .sentinel, .sentinel, .sentinel, .sentinel, .sentinel, .sentinel, .sentinel, .sentinel, .sentinel, .sentinel, .sentinel, .sentinel, .sentinel, .sentinel, .sentinel], laidTests := true, laidLooks := .later }
def WatchStepsUptoCardSaid : Prop := Claim7.holds Tryz.pinned (.plain (OpenSpec.upto watchStepsSpec)) watchStepsUptoCard

/-- THE SECOND FORM's CARD OF 'tidewaterlaw39.WatchReplays'. -/
def watchReplaysUptoCard : Claim7 := { stood := { row := watchReplaysUptoRow, standIns := [], harness := (true, "aff97e110becb2293ea5b9a0fa4efa53c459c8467cb53ee62b33620985fe1c52"), looks := true }, kinds := [], alts := [], laidByText := true, laidKinds := [.sentinel, .sentinel, .sentinel, .sentinel, .sentinel, .sentinel, .sentinel, .sentinel, .sentinel, .sentinel, .sentinel, .sentinel, .sentinel, .sentinel, .sentinel, .sentinel, .sentinel, .sentinel, .sentinel], laidTests := true, laidLooks := .later }
def WatchReplaysUptoCardSaid : Prop := Claim7.holds Tryz.pinned (.plain (OpenSpec.upto watchReplaysSpec)) watchReplaysUptoCard
end Rows
end Go.Proofs.YtoiahcgaffffbaaGreatDoor
