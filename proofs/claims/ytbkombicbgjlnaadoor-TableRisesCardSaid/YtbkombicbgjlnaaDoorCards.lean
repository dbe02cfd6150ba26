/-
  DERIVED. GIVEN WITH THE SEED: THE CARDS: each row of YtbkombicbgjlnaaDoorRows.lean that lists a variable, with what it lists TIED to the program's text (the seventh form; the later family's looks); each row that meets fmt, with fmt's text TOLD by the authors' own Lean function (tested against real Go, not proved from fmt's source: count such statements apart). THE CARD IS WHAT COUNTS. Prove the row's statement (the work); the ties are given (YtbkombicbgjlnaaDoorTie.lean); close each card by the builder's one call (the guide's Derived/Test/ToyasCard.lean, 'card_holds'). Laid BY PROGRAM, IN A SANDBOX (cutbox-door.mjs). By AI agents, Wed Nov 11 2026. No macro, syntax, notation, axiom, sorry.
-/
import Derived.Test.YtbkombicbgjlnaaDoorRows
import GoSem.ClaimSeven
namespace Go.Proofs.YtbkombicbgjlnaaDoor
namespace Rows

/-- THE TIED CARD OF 'tidewaterlaw38.PastHistory'. -/
def pastHistoryCard : Claim7 := { stood := { row := pastHistoryRow, standIns := [], harness := (true, "d3292658f869ba506edc79b5db054d4bcacc859676bcee2a7c792c90c8ed4b78"), looks := true }, kinds := [], alts := [], laidByText := true, laidKinds := [.sentinel, .sentinel, .sentinel, .sentinel, .sentinel, .sentinel, .sentinel, .sentinel, .sentinel, .sentinel, .sentinel, .sentinel, .sentinel, .sentinel, .sentinel, .sentinel, .sentinel, .sentinel, .sentinel], laidTests := true, laidLooks := .later }
def PastHistoryCardSaid : Prop := Claim7.holds Tryd.pinned (.plain (OpenSpec.ofChange pastHistorySpec)) pastHistoryCard

/-- THE TIED CARD OF 'tidewaterlaw03.SpanHas'. -/
def spanHasCard : Claim7 := { stood := { row := spanHasRow, standIns := [], harness := (true, "d3292658f869ba506edc79b5db054d4bcacc859676bcee2a7c792c90c8ed4b78"), looks := true }, kinds := [], alts := [], laidByText := true, laidKinds := [.sentinel, .sentinel, .sentinel, .sentinel, .sentinel, .sentinel, .sentinel, .sentinel, .sentinel, .sentinel, .sentinel, .sentinel, .sentinel, .sentinel, .sentinel, .sentinel, .sentinel, .sentinel, .sentinel], laidTests := true, laidLooks := .later }
def SpanHasCardSaid : Prop := Claim7.holds Tryd.pinned (.plain (OpenSpec.ofChange spanHasSpec)) spanHasCard

/-- THE TIED CARD OF 'tidewaterlaw03.SpanBoth'. -/
def spanBothCard : Claim7 := { stood := { row := spanBothRow, standIns := [], harness := (true, "d3292658f869ba506edc79b5db054d4bcacc859676bcee2a7c792c90c8ed4b78"), looks := true }, kinds := [], alts := [], laidByText := true, laidKinds := [.sentinel, .sentinel, .sentinel, .sentinel, .sentinel, .sentinel, .sentinel, .sentinel, .sentinel, .sentinel, .sentinel, .sentinel, .sentinel, .sentinel, .sentinel, .sentinel, .sentinel, .sentinel, .sentinel], laidTests := true, laidLooks := .later }
def SpanBothCardSaid : Prop := Claim7.holds Tryd.pinned (.plain (OpenSpec.ofChange spanBothSpec)) spanBothCard

/-- THE TIED CARD OF 'tidewaterlaw21.TableRises'. -/
def tableRisesCard : Claim7 := { stood := { row := tableRisesRow, standIns := [], harness := (true, "d3292658f869ba506edc79b5db054d4bcacc859676bcee2a7c792c90c8ed4b78"), looks := true }, kinds := [], alts := [], laidByText := true, laidKinds := [.sentinel, .sentinel, .sentinel, .sentinel, .sentinel], laidTests := true, laidLooks := .later }
def TableRisesCardSaid : Prop := Claim7.holds Tryd.pinned (.plain (OpenSpec.ofChange tableRisesSpec)) tableRisesCard

/-- THE TIED CARD OF 'tidewaterlaw20.ShardsAgain'. -/
def shardsAgainCard : Claim7 := { stood := { row := shardsAgainRow, standIns := [], harness := (true, "d3292658f869ba506edc79b5db054d4bcacc859676bcee2a7c792c90c8ed4b78"), looks := true }, kinds := [], alts := [], laidByText := true, laidKinds := [.sentinel, .sentinel, .sentinel, .sentinel, .sentinel, .sentinel], laidTests := true, laidLooks := .later }
def ShardsAgainCardSaid : Prop := Claim7.holds Tryd.pinned (.plain (OpenSpec.ofChange shardsAgainSpec)) shardsAgainCard

/-- THE TIED CARD OF 'tidewaterlaw20.ShardsPlays'. -/
def shardsPlaysCard : Claim7 := { stood := { row := shardsPlaysRow, standIns := [], harness := (true, "d3292658f869ba506edc79b5db054d4bcacc859676bcee2a7c792c90c8ed4b78"), looks := true }, kinds := [], alts := [], laidByText := true, laidKinds := [.sentinel, .sentinel, .sentinel, .sentinel, .sentinel, .sentinel], laidTests := true, laidLooks := .later }
def ShardsPlaysCardSaid : Prop := Claim7.holds Tryd.pinned (.plain (OpenSpec.ofChange shardsPlaysSpec)) shardsPlaysCard

/-- THE TIED CARD OF 'tidewaterlaw21.TableParts'. -/
def tablePartsCard : Claim7 := { stood := { row := tablePartsRow, standIns := [], harness := (true, "d3292658f869ba506edc79b5db054d4bcacc859676bcee2a7c792c90c8ed4b78"), looks := true }, kinds := [], alts := [], laidByText := true, laidKinds := [.sentinel, .sentinel, .sentinel, .sentinel, .sentinel, .sentinel], laidTests := true, laidLooks := .later }
def TablePartsCardSaid : Prop := Claim7.holds Tryd.pinned (.plain (OpenSpec.ofChange tablePartsSpec)) tablePartsCard

/-- THE TIED CARD OF 'tidewaterlaw38.PastTrims'. -/
def pastTrimsCard : Claim7 := { stood := { row := pastTrimsRow, standIns := [], harness := (true, "d3292658f869ba506edc79b5db054d4bcacc859676bcee2a7c792c90c8ed4b78"), looks := true }, kinds := [], alts := [], laidByText := true, laidKinds := [.sentinel, .sentinel, .sentinel, .sentinel, .sentinel, .sentinel, .sentinel, .sentinel, .sentinel, .sentinel, .sentinel, .sentinel, .sentinel, .sentinel, .sentinel, .sentinel, .sentinel, .sentinel, .sentinel], laidTests := true, laidLooks := .later }
def PastTrimsCardSaid : Prop := Claim7.holds Tryd.pinned (.plain (OpenSpec.ofChange pastTrimsSpec)) pastTrimsCard

/-- THE TIED CARD OF 'tidewaterlaw20.ShardsCovers'. -/
def shardsCoversCard : Claim7 := { stood := { row := shardsCoversRow, standIns := [], harness := (true, "d3292658f869ba506edc79b5db054d4bcacc859676bcee2a7c792c90c8ed4b78"), looks := true }, kinds := [], alts := [], laidByText := true, laidKinds := [.sentinel, .sentinel, .sentinel, .sentinel, .sentinel, .sentinel], laidTests := true, laidLooks := .later }
def ShardsCoversCardSaid : Prop := Claim7.holds Tryd.pinned (.plain (OpenSpec.ofChange shardsCoversSpec)) shardsCoversCard

/-- THE SECOND FORM's CARD OF 'tidewaterlaw38.PastHistory'. -/
def pastHistoryUptoCard : Claim7 := { stood := { row := pastHistoryUptoRow, standIns := [], harness := (true, "d3292658f869ba506edc79b5db054d4bcacc859676bcee2a7c792c90c8ed4b78"), looks := true }, kinds := [], alts := [], laidByText := true, laidKinds := [.sentinel, .sentinel, .sentinel, .sentinel, .sentinel, .sentinel, .sentinel, .sentinel, .sentinel, .sentinel, .sentinel, .sentinel, .sentinel, .sentinel, .sentinel, .sentinel, .sentinel, .sentinel, .sentinel], laidTests := true, laidLooks := .later }
def PastHistoryUptoCardSaid : Prop := Claim7.holds Tryd.pinned (.plain (OpenSpec.upto pastHistorySpec)) pastHistoryUptoCard

/-- THE SECOND FORM's CARD OF 'tidewaterlaw03.SpanHas'. -/
def spanHasUptoCard : Claim7 := { stood := { row := spanHasUptoRow, standIns := [], harness := (true, "d3292658f869ba506edc79b5db054d4bcacc859676bcee2a7c792c90c8ed4b78"), looks := true }, kinds := [], alts := [], laidByText := true, laidKinds := [.sentinel, .sentinel, .sentinel, .sentinel, .sentinel, .sentinel, .sentinel, .sentinel, .sentinel, .sentinel, .sentinel, .sentinel, .sentinel, .sentinel, .sentinel, .sentinel, .sentinel, .sentinel, .sentinel], laidTests := true, laidLooks := .later }
def SpanHasUptoCardSaid : Prop := Claim7.holds Tryd.pinned (.plain (OpenSpec.upto spanHasSpec)) spanHasUptoCard

/-- THE SECOND FORM's CARD OF 'tidewaterlaw03.SpanBoth'. -/
def spanBothUptoCard : Claim7 := { stood := { row := spanBothUptoRow, standIns := [], harness := (true, "d3292658f869ba506edc79b5db054d4bcacc859676bcee2a7c792c90c8ed4b78"), looks := true }, kinds := [], alts := [], laidByText := true, laidKinds := [.sentinel, .sentinel, .sentinel, .sentinel, .sentinel, .sentinel, .sentinel, .sentinel, .sentinel, .sentinel, .sentinel, .sentinel, .sentinel, .sentinel, .sentinel, .sentinel, .sentinel, .sentinel, .sentinel], laidTests := true, laidLooks := .later }
def SpanBothUptoCardSaid : Prop := Claim7.holds Tryd.pinned (.plain (OpenSpec.upto spanBothSpec)) spanBothUptoCard

/-- THE SECOND FORM's CARD OF 'tidewaterlaw21.TableRises'. -/
def tableRisesUptoCard : Claim7 := { stood := { row := tableRisesUptoRow, standIns := [], harness := (true, "d3292658f869ba506edc79b5db054d4bcacc859676bcee2a7c792c90c8ed4b78"), looks := true }, kinds := [], alts := [], laidByText := true, laidKinds := [.sentinel, .sentinel, .sentinel, .sentinel, .sentinel], laidTests := true, laidLooks := .later }
def TableRisesUptoCardSaid : Prop := Claim7.holds Tryd.pinned (.plain (OpenSpec.upto tableRisesSpec)) tableRisesUptoCard

/-- THE SECOND FORM's CARD OF 'tidewaterlaw20.ShardsAgain'. -/
def shardsAgainUptoCard : Claim7 := { stood := { row := shardsAgainUptoRow, standIns := [], harness := (true, "d3292658f869ba506edc79b5db054d4bcacc859676bcee2a7c792c90c8ed4b78"), looks := true }, kinds := [], alts := [], laidByText := true, laidKinds := [.sentinel, .sentinel, .sentinel, .sentinel, .sentinel, .sentinel], laidTests := true, laidLooks := .later }
def ShardsAgainUptoCardSaid : Prop := Claim7.holds Tryd.pinned (.plain (OpenSpec.upto shardsAgainSpec)) shardsAgainUptoCard

/-- THE SECOND FORM's CARD OF 'tidewaterlaw20.ShardsPlays'. -/
def shardsPlaysUptoCard : Claim7 := { stood := { row := shardsPlaysUptoRow, standIns := [], harness := (true, "d3292658f869ba506edc79b5db054d4bcacc859676bcee2a7c792c90c8ed4b78"), looks := true }, kinds := [], alts := [], laidByText := true, laidKinds := [.sentinel, .sentinel, .sentinel, .sentinel, .sentinel, .sentinel], laidTests := true, laidLooks := .later }
def ShardsPlaysUptoCardSaid : Prop := Claim7.holds Tryd.pinned (.plain (OpenSpec.upto shardsPlaysSpec)) shardsPlaysUptoCard

/-- THE SECOND FORM's CARD OF 'tidewaterlaw21.TableParts'. -/
def tablePartsUptoCard : Claim7 := { stood := { row := tablePartsUptoRow, standIns := [], harness := (true, "d3292658f869ba506edc79b5db054d4bcacc859676bcee2a7c792c90c8ed4b78"), looks := true }, kinds := [], alts := [], laidByText := true, laidKinds := [.sentinel, .sentinel, .sentinel, .sentinel, .sentinel, .sentinel], laidTests := true, laidLooks := .later }
def TablePartsUptoCardSaid : Prop := Claim7.holds Tryd.pinned (.plain (OpenSpec.upto tablePartsSpec)) tablePartsUptoCard

/-- THE SECOND FORM's CARD OF 'tidewaterlaw38.PastTrims'. -/
def pastTrimsUptoCard : Claim7 := { stood := { row := pastTrimsUptoRow, standIns := [], harness := (true, "d3292658f869ba506edc79b5db054d4bcacc859676bcee2a7c792c90c8ed4b78"), looks := true }, kinds := [], alts := [], laidByText := true, laidKinds := [.sentinel, .sentinel, .sentinel, .sentinel, .sentinel, .sentinel, .sentinel, .sentinel, .sentinel, .sentinel, .sentinel, .sentinel, .sentinel, .sentinel, .sentinel, .sentinel, .sentinel, .sentinel, .sentinel], laidTests := true, laidLooks := .later }
def PastTrimsUptoCardSaid : Prop := Claim7.holds Tryd.pinned (.plain (OpenSpec.upto pastTrimsSpec)) pastTrimsUptoCard

/-- THE SECOND FORM's CARD OF 'tidewaterlaw20.ShardsCovers'. -/
def shardsCoversUptoCard : Claim7 := { stood := { row := shardsCoversUptoRow, standIns := [], harness := (true, "d3292658f869ba506edc79b5db054d4bcacc859676bcee2a7c792c90c8ed4b78"), looks := true }, kinds := [], alts := [], laidByText := true, laidKinds := [.sentinel, .sentinel, .sentinel, .sentinel, .sentinel, .sentinel], laidTests := true, laidLooks := .later }
def ShardsCoversUptoCardSaid : Prop := Claim7.holds Tryd.pinned (.plain (OpenSpec.upto shardsCoversSpec)) shardsCoversUptoCard
end Rows
end Go.Proofs.YtbkombicbgjlnaaDoor
