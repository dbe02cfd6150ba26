/-
  DERIVED. GIVEN WITH THE SEED: THE CARDS: each row of YtajoihpjnnnkeaaDoorRows.lean that lists a variable, with what it lists TIED to the program's text (the seventh form; the later family's looks); each row that meets fmt, with fmt's text TOLD by the authors' own Lean function (tested against real Go, not proved from fmt's source: count such statements apart). THE CARD IS WHAT COUNTS. Prove the row's statement (the work); the ties are given (YtajoihpjnnnkeaaDoorTie.lean); close each card by the builder's one call (the guide's Derived/Test/ToyasCard.lean, 'card_holds'). Laid BY PROGRAM, IN A SANDBOX (cutbox-door.mjs). By AI agents, Wed Nov 11 2026. No macro, syntax, notation, axiom, sorry.
-/
import Derived.Test.YtajoihpjnnnkeaaDoorRows
import GoSem.ClaimSeven
namespace Go.Proofs.YtajoihpjnnnkeaaDoor
namespace Rows

/-- THE TIED CARD OF 'tidewaterlaw20.ShardsAgain'. -/
def shardsAgainCard : Claim7 := { stood := { row := shardsAgainRow, standIns := [], harness := (true, "b335e2d6e50e7c89d6ef0b422687e13d5ba5a7db85b66f389234f58f21396102"), looks := true }, kinds := [], alts := [], laidByText := true, laidKinds := [.sentinel, .sentinel, .sentinel, .sentinel, .sentinel, .sentinel], laidTests := true, laidLooks := .later }
def ShardsAgainCardSaid : Prop := Claim7.holds Tryd.pinned (.plain (OpenSpec.ofChange shardsAgainSpec)) shardsAgainCard

/-- THE TIED CARD OF 'tidewaterlaw20.ShardsPlays'. -/
def shardsPlaysCard : Claim7 := { stood := { row := shardsPlaysRow, standIns := [], harness := (true, "b335e2d6e50e7c89d6ef0b422687e13d5ba5a7db85b66f389234f58f21396102"), looks := true }, kinds := [], alts := [], laidByText := true, laidKinds := [.sentinel, .sentinel, .sentinel, .sentinel, .sentinel, .sentinel], laidTests := true, laidLooks := .later }
def ShardsPlaysCardSaid : Prop := Claim7.holds Tryd.pinned (.plain (OpenSpec.ofChange shardsPlaysSpec)) shardsPlaysCard

/-- THE TIED CARD OF 'tidewaterlaw21.TableParts'. -/
def tablePartsCard : Claim7 := { stood := { row := tablePartsRow, standIns := [], harness := (true, "b335e2d6e50e7c89d6ef0b422687e13d5ba5a7db85b66f389234f58f21396102"), looks := true }, kinds := [], alts := [], laidByText := true, laidKinds := [.sentinel, .sentinel, .sentinel, .sentinel, .sentinel, .sentinel], laidTests := true, laidLooks := .later }
def TablePartsCardSaid : Prop := Claim7.holds Tryd.pinned (.plain (OpenSpec.ofChange tablePartsSpec)) tablePartsCard

/-- THE TIED CARD OF 'tidewaterlaw38.PastTrims'. -/
def pastTrimsCard : Claim7 := { stood := { row := pastTrimsRow, standIns := [], harness := (true, "b335e2d6e50e7c89d6ef0b422687e13d5ba5a7db85b66f389234f58f21396102"), looks := true }, kinds := [], alts := [], laidByText := true, laidKinds := [.sentinel, .sentinel, .sentinel, .sentinel, .sentinel, .sentinel, .sentinel, .sentinel, .sentinel, .sentinel, .sentinel, .sentinel, .sentinel, .sentinel, .sentinel, .sentinel, .sentinel, .sentinel, .sentinel], laidTests := true, laidLooks := .later }
def PastTrimsCardSaid : Prop := Claim7.holds Tryd.pinned (.plain (OpenSpec.ofChange pastTrimsSpec)) pastTrimsCard

/-- THE TIED CARD OF 'tidewaterlaw20.ShardsCovers'. -/
def shardsCoversCard : Claim7 := { stood := { row := shardsCoversRow, standIns := [], harness := (true, "b335e2d6e50e7c89d6ef0b422687e13d5ba5a7db85b66f389234f58f21396102"), looks := true }, kinds := [], alts := [], laidByText := true, laidKinds := [.sentinel, .sentinel, .sentinel, .sentinel, .sentinel, .sentinel], laidTests := true, laidLooks := .later }
def ShardsCoversCardSaid : Prop := Claim7.holds Tryd.pinned (.plain (OpenSpec.ofChange shardsCoversSpec)) shardsCoversCard

/-- THE SECOND FORM's CARD OF 'tidewaterlaw20.ShardsAgain'. -/
def shardsAgainUptoCard : Claim7 := { stood := { row := shardsAgainUptoRow, standIns := [], harness := (true, "b335e2d6e50e7c89d6ef0b422687e13d5ba5a7db85b66f389234f58f21396102"), looks := true }, kinds := [], alts := [], laidByText := true, laidKinds := [.sentinel, .sentinel, .sentinel, .sentinel, .sentinel, .sentinel], laidTests := true, laidLooks := .later }
def ShardsAgainUptoCardSaid : Prop := Claim7.holds Tryd.pinned (.plain (OpenSpec.upto shardsAgainSpec)) shardsAgainUptoCard

/-- THE SECOND FORM's CARD OF 'tidewaterlaw20.ShardsPlays'. -/
def shardsPlaysUptoCard : Claim7 := { stood := { row := shardsPlaysUptoRow, standIns := [], harness := (true, "b335e2d6e50e7c89d6ef0b422687e13d5ba5a7db85b66f389234f58f21396102"), looks := true }, kinds := [], alts := [], laidByText := true, laidKinds := [.sentinel, .sentinel, .sentinel, .sentinel, .sentinel, .sentinel], laidTests := true, laidLooks := .later }
def ShardsPlaysUptoCardSaid : Prop := Claim7.holds Tryd.pinned (.plain (OpenSpec.upto shardsPlaysSpec)) shardsPlaysUptoCard

/-- THE SECOND FORM's CARD OF 'tidewaterlaw21.TableParts'. -/
def tablePartsUptoCard : Claim7 := { stood := { row := tablePartsUptoRow, standIns := [], harness := (true, "b335e2d6e50e7c89d6ef0b422687e13d5ba5a7db85b66f389234f58f21396102"), looks := true }, kinds := [], alts := [], laidByText := true, laidKinds := [.sentinel, .sentinel, .sentinel, .sentinel, .sentinel, .sentinel], laidTests := true, laidLooks := .later }
def TablePartsUptoCardSaid : Prop := Claim7.holds Tryd.pinned (.plain (OpenSpec.upto tablePartsSpec)) tablePartsUptoCard

/-- THE SECOND FORM's CARD OF 'tidewaterlaw38.PastTrims'. -/
def pastTrimsUptoCard : Claim7 := { stood := { row := pastTrimsUptoRow, standIns := [], harness := (true, "b335e2d6e50e7c89d6ef0b422687e13d5ba5a7db85b66f389234f58f21396102"), looks := true }, kinds := [], alts := [], laidByText := true, laidKinds := [.sentinel, .sentinel, .sentinel, .sentinel, .sentinel, .sentinel, .sentinel, .sentinel, .sentinel, .sentinel, .sentinel, .sentinel, .sentinel, .sentinel, .sentinel, .sentinel, .sentinel, .sentinel, .sentinel], laidTests := true, laidLooks := .later }
def PastTrimsUptoCardSaid : Prop := Claim7.holds Tryd.pinned (.plain (OpenSpec.upto pastTrimsSpec)) pastTrimsUptoCard

/-- THE SECOND FORM's CARD OF 'tidewaterlaw20.ShardsCovers'. -/
def shardsCoversUptoCard : Claim7 := { stood := { row := shardsCoversUptoRow, standIns := [], harness := (true, "b335e2d6e50e7c89d6ef0b422687e13d5ba5a7db85b66f389234f58f21396102"), looks := true }, kinds := [], alts := [], laidByText := true, laidKinds := [.sentinel, .sentinel, .sentinel, .sentinel, .sentinel, .sentinel], laidTests := true, laidLooks := .later }
def ShardsCoversUptoCardSaid : Prop := Claim7.holds Tryd.pinned (.plain (OpenSpec.upto shardsCoversSpec)) shardsCoversUptoCard
end Rows
end Go.Proofs.YtajoihpjnnnkeaaDoor
