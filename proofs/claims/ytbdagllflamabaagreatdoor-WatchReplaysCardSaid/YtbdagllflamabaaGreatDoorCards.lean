/-
  DERIVED. GIVEN WITH THE SEED: THE CARDS: each row of YtbdagllflamabaaGreatDoorRows.lean that lists a variable, with what it lists TIED to the program's text (the seventh form; the later family's looks); each row that meets fmt, with fmt's text TOLD by the authors' own Lean function (tested against real Go, not proved from fmt's source: count such statements apart). THE CARD IS WHAT COUNTS. Prove the row's statement (the work); the ties are given (YtbdagllflamabaaGreatDoorTie.lean); close each card by the builder's one call (the guide's Derived/Test/ToyasCard.lean, 'card_holds'). Laid BY PROGRAM, IN A SANDBOX (cutbox-door.mjs). By AI agents, Wed Nov 11 2026. No macro, syntax, notation, axiom, sorry.
-/
import Derived.Test.YtbdagllflamabaaGreatDoorRows
import GoSem.ClaimSeven
namespace Go.Proofs.YtbdagllflamabaaGreatDoor
namespace Rows

/-- THE TIED CARD OF 'tidewaterlaw30.AuditApart'. -/
def auditApartCard : Claim7 := { stood := { row := auditApartRow, standIns := [], harness := (true, "bfddf3c87e6d17e35750cd52c5c9fffcdefb10eafc48f816959a331ce4719d2a"), looks := true }, kinds := [], alts := [], laidByText := true, laidKinds := [.sentinel, .sentinel, .sentinel, .sentinel, .sentinel, .sentinel, .sentinel, .sentinel], laidTests := true, laidLooks := .later }
def AuditApartCardSaid : Prop := Claim7.holds Tryz.pinned (.plain (OpenSpec.ofChange auditApartSpec)) auditApartCard

/-- THE TIED CARD OF 'tidewaterlaw39.WatchSpans'. -/
def watchSpansCard : Claim7 := { stood := { row := watchSpansRow, standIns := [], harness := (true, "bfddf3c87e6d17e35750cd52c5c9fffcdefb10eafc48f816959a331ce4719d2a"), looks := true }, kinds := [], alts := [], laidByText := true, laidKinds := [.sentinel, .sentinel, .sentinel, .sentinel, .sentinel, .sentinel, .sentinel, .sentinel], laidTests := true, laidLooks := .later }
def WatchSpansCardSaid : Prop := Claim7.holds Tryz.pinned (.plain (OpenSpec.ofChange watchSpansSpec)) watchSpansCard

/-- THE TIED CARD OF 'tidewaterlaw39.WatchSteps'. -/
def watchStepsCard : Claim7 := { stood := { row := watchStepsRow, standIns := [], harness := (true, "bfddf3c87e6d17e35750cd52c5c9fffcdefb10eafc48f816959a331ce4719d2a"), looks := true }, kinds := [], alts := [], laidByText := true, laidKinds := [.sentinel, .sentinel, .sentinel, .sentinel, .sentinel, .sentinel, .sentinel, .sentinel, .sentinel, .sentinel, .sentinel, .sentinel, .sentinel, .sentinel, .sentinel, .sentinel, .sentinel, .sentinel, .sentinel], laidTests := true, laidLooks := .later }
def WatchStepsCardSaid : Prop := Claim7.holds Tryz.pinned (.plain (OpenSpec.ofChange watchStepsSpec)) watchStepsCard

/-- THE TIED CARD OF 'tidewaterlaw39.WatchReplays'. -/
def watchReplaysCard : Claim7 := { stood := { row := watchReplaysRow, standIns := [], harness := (true, "bfddf3c87e6d17e35750cd52c5c9fffcdefb10eafc48f816959a331ce4719d2a"), looks := true }, kinds := [], alts := [], laidByText := true, laidKinds := [.sentinel, .sentinel, .sentinel, .sentinel, .sentinel, .sentinel, .sentinel, .sentinel, .sentinel, .sentinel, .sentinel, .sentinel, .sentinel, .sentinel, .sentinel, .sentinel, .sentinel, .sentinel, .sentinel], laidTests := true, laidLooks := .later }
def WatchReplaysCardSaid : Prop := Claim7.holds Tryz.pinned (.plain (OpenSpec.ofChange watchReplaysSpec)) watchReplaysCard

/-- THE TIED CARD OF 'tidewaterlaw30.AuditPlays'. -/
def auditPlaysCard : Claim7 := { stood := { row := auditPlaysRow, standIns := [], harness := (true, "bfddf3c87e6d17e35750cd52c5c9fffcdefb10eafc48f816959a331ce4719d2a"), looks := true }, kinds := [], alts := [], laidByText := true, laidKinds := [.sentinel, .sentinel, .sentinel, .sentinel, .sentinel, .sentinel, .sentinel, .sentinel, .sentinel, .sentinel, .sentinel, .sentinel, .sentinel, .sentinel, .sentinel, .sentinel, .sentinel, .sentinel, .sentinel], laidTests := true, laidLooks := .later }
def AuditPlaysCardSaid : Prop := Claim7.holds Tryz.pinned (.plain (OpenSpec.ofChange auditPlaysSpec)) auditPlaysCard

/-- THE SECOND FORM's CARD OF 'tidewaterlaw30.AuditApart'. -/
def auditApartUptoCard : Claim7 := { stood := { row := auditApartUptoRow, standIns := [], harness := (true, "bfddf3c87e6d17e35750cd52c5c9fffcdefb10eafc48f816959a331ce4719d2a"), looks := true }, kinds := [], alts := [], laidByText := true, laidKinds := [.sentinel, .sentinel, .sentinel, .sentinel, .sentinel, .sentinel, .sentinel, .sentinel], laidTests := true, laidLooks := .later }
def AuditApartUptoCardSaid : Prop := Claim7.holds Tryz.pinned (.plain (OpenSpec.upto auditApartSpec)) auditApartUptoCard

/-- THE SECOND FORM's CARD OF 'tidewaterlaw39.WatchSpans'. -/
def watchSpansUptoCard : Claim7 := { stood := { row := watchSpansUptoRow, standIns := [], harness := (true, "bfddf3c87e6d17e35750cd52c5c9fffcdefb10eafc48f816959a331ce4719d2a"), looks := true }, kinds := [], alts := [], laidByText := true, laidKinds := [.sentinel, .sentinel, .sentinel, .sentinel, .sentinel, .sentinel, .sentinel, .sentinel], laidTests := true, laidLooks := .later }
def WatchSpansUptoCardSaid : Prop := Claim7.holds Tryz.pinned (.plain (OpenSpec.upto watchSpansSpec)) watchSpansUptoCard

/-- THE SECOND FORM's CARD OF 'tidewaterlaw39.WatchSteps'. -/
def watchStepsUptoCard : Claim7 := { stood := { row := watchStepsUptoRow, standIns := [], harness := (true, "bfddf3c87e6d17e35750cd52c5c9fffcdefb10eafc48f816959a331ce4719d2a"), looks := true }, kinds := [], alts := [], laidByText := true, laidKinds := [.sentinel, .sentinel, .sentinel, .sentinel, .sentinel, .sentinel, .sentinel, .sentinel, .sentinel, .sentinel, .sentinel, .sentinel, .sentinel, .sentinel, .sentinel, .sentinel, .sentinel, .sentinel, .sentinel], laidTests := true, laidLooks := .later }
def WatchStepsUptoCardSaid : Prop := Claim7.holds Tryz.pinned (.plain (OpenSpec.upto watchStepsSpec)) watchStepsUptoCard

/-- THE SECOND FORM's CARD OF 'tidewaterlaw39.WatchReplays'. -/
def watchReplaysUptoCard : Claim7 := { stood := { row := watchReplaysUptoRow, standIns := [], harness := (true, "bfddf3c87e6d17e35750cd52c5c9fffcdefb10eafc48f816959a331ce4719d2a"), looks := true }, kinds := [], alts := [], laidByText := true, laidKinds := [.sentinel, .sentinel, .sentinel, .sentinel, .sentinel, .sentinel, .sentinel, .sentinel, .sentinel, .sentinel, .sentinel, .sentinel, .sentinel, .sentinel, .sentinel, .sentinel, .sentinel, .sentinel, .sentinel], laidTests := true, laidLooks := .later }
def WatchReplaysUptoCardSaid : Prop := Claim7.holds Tryz.pinned (.plain (OpenSpec.upto watchReplaysSpec)) watchReplaysUptoCard

/-- THE SECOND FORM's CARD OF 'tidewaterlaw30.AuditPlays'. -/
def auditPlaysUptoCard : Claim7 := { stood := { row := auditPlaysUptoRow, standIns := [], harness := (true, "bfddf3c87e6d17e35750cd52c5c9fffcdefb10eafc48f816959a331ce4719d2a"), looks := true }, kinds := [], alts := [], laidByText := true, laidKinds := [.sentinel, .sentinel, .sentinel, .sentinel, .sentinel, .sentinel, .sentinel, .sentinel, .sentinel, .sentinel, .sentinel, .sentinel, .sentinel, .sentinel, .sentinel, .sentinel, .sentinel, .sentinel, .sentinel], laidTests := true, laidLooks := .later }
def AuditPlaysUptoCardSaid : Prop := Claim7.holds Tryz.pinned (.plain (OpenSpec.upto auditPlaysSpec)) auditPlaysUptoCard
end Rows
end Go.Proofs.YtbdagllflamabaaGreatDoor
