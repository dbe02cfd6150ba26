/-
  DERIVED. GIVEN WITH THE SEED: THE PROGRAM's TIES (one call each: nine closed facts by the kernel) AND EACH ROW's TIE, after the 31st guide's Derived/Test/Toyas{Tie, Card}.lean. No idea stands in it: it is a product of the set-up. Laid BY PROGRAM, IN A SANDBOX (cutbox-door.mjs). By AI agents, Wed Nov 11 2026. No macro, syntax, notation, axiom, sorry.
-/
import Derived.Test.YtajoihpjnnnkeaaDoorRows
import Derived.LaidByTextLater
import Derived.SevenTiedAt
import Derived.LaidSub
import Derived.LaidOnce
namespace Go.Proofs.YtajoihpjnnnkeaaDoor
open Go
set_option maxRecDepth 100000
theorem seatTie1 : Tryd.prog.laidByTextLater [("tidewater/api.ErrRange", Rows.laid_tidewater_api_ErrRange), ("tidewater/api.ErrShort", Rows.laid_tidewater_api_ErrShort), ("tidewater/api.ErrLong", Rows.laid_tidewater_api_ErrLong), ("tidewater/api.ErrForm", Rows.laid_tidewater_api_ErrForm), ("tidewater/api.ErrSum", Rows.laid_tidewater_api_ErrSum), ("tidewater/api.ErrRune", Rows.laid_tidewater_api_ErrRune), ("tidewater/api.ErrName", Rows.laid_tidewater_api_ErrName), ("tidewater/api.ErrSealed", Rows.laid_tidewater_api_ErrSealed), ("tidewater/api.ErrWritten", Rows.laid_tidewater_api_ErrWritten), ("tidewater/api.ErrUnwritten", Rows.laid_tidewater_api_ErrUnwritten), ("tidewater/api.ErrTrimmed", Rows.laid_tidewater_api_ErrTrimmed), ("tidewater/api.ErrDown", Rows.laid_tidewater_api_ErrDown), ("tidewater/api.ErrFull", Rows.laid_tidewater_api_ErrFull), ("tidewater/api.ErrEpoch", Rows.laid_tidewater_api_ErrEpoch), ("tidewater/api.ErrMoved", Rows.laid_tidewater_api_ErrMoved), ("tidewater/api.ErrNone", Rows.laid_tidewater_api_ErrNone), ("tidewater/api.ErrState", Rows.laid_tidewater_api_ErrState), ("tidewater/api.ErrClash", Rows.laid_tidewater_api_ErrClash), ("tidewater/api.ErrStale", Rows.laid_tidewater_api_ErrStale)] [.sentinel, .sentinel, .sentinel, .sentinel, .sentinel, .sentinel, .sentinel, .sentinel, .sentinel, .sentinel, .sentinel, .sentinel, .sentinel, .sentinel, .sentinel, .sentinel, .sentinel, .sentinel, .sentinel] true :=
  Program.laidByTextLater_by_one 370 8 2 (by kernel_rfl) (by kernel_rfl) (by kernel_rfl) (by kernel_rfl) (by kernel_rfl) (by kernel_rfl) (fun _ _ => by kernel_rfl)
theorem noOwnUnsafe : Tryd.pinned.checked.prog.headLifts.contains "ownunsafe" = false := by kernel_rfl
theorem tie : Tryd.prog.laidByTextLater [("tidewater/api.ErrRange", Rows.laid_tidewater_api_ErrRange), ("tidewater/api.ErrShort", Rows.laid_tidewater_api_ErrShort), ("tidewater/api.ErrLong", Rows.laid_tidewater_api_ErrLong), ("tidewater/api.ErrForm", Rows.laid_tidewater_api_ErrForm), ("tidewater/api.ErrRune", Rows.laid_tidewater_api_ErrRune), ("tidewater/api.ErrName", Rows.laid_tidewater_api_ErrName)] [.sentinel, .sentinel, .sentinel, .sentinel, .sentinel, .sentinel] true :=
  Program.laidByTextLater.sub seatTie1 ["tidewater/api.ErrRange", "tidewater/api.ErrShort", "tidewater/api.ErrLong", "tidewater/api.ErrForm", "tidewater/api.ErrRune", "tidewater/api.ErrName"] (by kernel_rfl) (by kernel_rfl)
theorem shardsAgain_row_tie : Rows.shardsAgainRow.laidByTextAt .later Tryd.pinned [.sentinel, .sentinel, .sentinel, .sentinel, .sentinel, .sentinel] true :=
  OpenClaim.laidByTextAt_later rfl rfl tie noOwnUnsafe
theorem shardsPlays_row_tie : Rows.shardsPlaysRow.laidByTextAt .later Tryd.pinned [.sentinel, .sentinel, .sentinel, .sentinel, .sentinel, .sentinel] true :=
  OpenClaim.laidByTextAt_later rfl rfl tie noOwnUnsafe
theorem shardsCovers_row_tie : Rows.shardsCoversRow.laidByTextAt .later Tryd.pinned [.sentinel, .sentinel, .sentinel, .sentinel, .sentinel, .sentinel] true :=
  OpenClaim.laidByTextAt_later rfl rfl tie noOwnUnsafe
theorem tie2 : Tryd.prog.laidByTextLater [("tidewater/api.ErrRange", Rows.laid_tidewater_api_ErrRange), ("tidewater/api.ErrShort", Rows.laid_tidewater_api_ErrShort), ("tidewater/api.ErrLong", Rows.laid_tidewater_api_ErrLong), ("tidewater/api.ErrRune", Rows.laid_tidewater_api_ErrRune), ("tidewater/api.ErrName", Rows.laid_tidewater_api_ErrName), ("tidewater/api.ErrClash", Rows.laid_tidewater_api_ErrClash)] [.sentinel, .sentinel, .sentinel, .sentinel, .sentinel, .sentinel] true :=
  Program.laidByTextLater.sub seatTie1 ["tidewater/api.ErrRange", "tidewater/api.ErrShort", "tidewater/api.ErrLong", "tidewater/api.ErrRune", "tidewater/api.ErrName", "tidewater/api.ErrClash"] (by kernel_rfl) (by kernel_rfl)
theorem tableParts_row_tie : Rows.tablePartsRow.laidByTextAt .later Tryd.pinned [.sentinel, .sentinel, .sentinel, .sentinel, .sentinel, .sentinel] true :=
  OpenClaim.laidByTextAt_later rfl rfl tie2 noOwnUnsafe
theorem tie3 : Tryd.prog.laidByTextLater [("tidewater/api.ErrRange", Rows.laid_tidewater_api_ErrRange), ("tidewater/api.ErrShort", Rows.laid_tidewater_api_ErrShort), ("tidewater/api.ErrLong", Rows.laid_tidewater_api_ErrLong), ("tidewater/api.ErrForm", Rows.laid_tidewater_api_ErrForm), ("tidewater/api.ErrSum", Rows.laid_tidewater_api_ErrSum), ("tidewater/api.ErrRune", Rows.laid_tidewater_api_ErrRune), ("tidewater/api.ErrName", Rows.laid_tidewater_api_ErrName), ("tidewater/api.ErrSealed", Rows.laid_tidewater_api_ErrSealed), ("tidewater/api.ErrWritten", Rows.laid_tidewater_api_ErrWritten), ("tidewater/api.ErrUnwritten", Rows.laid_tidewater_api_ErrUnwritten), ("tidewater/api.ErrTrimmed", Rows.laid_tidewater_api_ErrTrimmed), ("tidewater/api.ErrDown", Rows.laid_tidewater_api_ErrDown), ("tidewater/api.ErrFull", Rows.laid_tidewater_api_ErrFull), ("tidewater/api.ErrEpoch", Rows.laid_tidewater_api_ErrEpoch), ("tidewater/api.ErrMoved", Rows.laid_tidewater_api_ErrMoved), ("tidewater/api.ErrNone", Rows.laid_tidewater_api_ErrNone), ("tidewater/api.ErrState", Rows.laid_tidewater_api_ErrState), ("tidewater/api.ErrClash", Rows.laid_tidewater_api_ErrClash), ("tidewater/api.ErrStale", Rows.laid_tidewater_api_ErrStale)] [.sentinel, .sentinel, .sentinel, .sentinel, .sentinel, .sentinel, .sentinel, .sentinel, .sentinel, .sentinel, .sentinel, .sentinel, .sentinel, .sentinel, .sentinel, .sentinel, .sentinel, .sentinel, .sentinel] true :=
  Program.laidByTextLater.sub seatTie1 ["tidewater/api.ErrRange", "tidewater/api.ErrShort", "tidewater/api.ErrLong", "tidewater/api.ErrForm", "tidewater/api.ErrSum", "tidewater/api.ErrRune", "tidewater/api.ErrName", "tidewater/api.ErrSealed", "tidewater/api.ErrWritten", "tidewater/api.ErrUnwritten", "tidewater/api.ErrTrimmed", "tidewater/api.ErrDown", "tidewater/api.ErrFull", "tidewater/api.ErrEpoch", "tidewater/api.ErrMoved", "tidewater/api.ErrNone", "tidewater/api.ErrState", "tidewater/api.ErrClash", "tidewater/api.ErrStale"] (by kernel_rfl) (by kernel_rfl)
theorem pastTrims_row_tie : Rows.pastTrimsRow.laidByTextAt .later Tryd.pinned [.sentinel, .sentinel, .sentinel, .sentinel, .sentinel, .sentinel, .sentinel, .sentinel, .sentinel, .sentinel, .sentinel, .sentinel, .sentinel, .sentinel, .sentinel, .sentinel, .sentinel, .sentinel, .sentinel] true :=
  OpenClaim.laidByTextAt_later rfl rfl tie3 noOwnUnsafe
theorem shardsAgainUpto_row_tie : Rows.shardsAgainUptoRow.laidByTextAt .later Tryd.pinned [.sentinel, .sentinel, .sentinel, .sentinel, .sentinel, .sentinel] true :=
  OpenClaim.laidByTextAt_later rfl rfl tie noOwnUnsafe
theorem shardsPlaysUpto_row_tie : Rows.shardsPlaysUptoRow.laidByTextAt .later Tryd.pinned [.sentinel, .sentinel, .sentinel, .sentinel, .sentinel, .sentinel] true :=
  OpenClaim.laidByTextAt_later rfl rfl tie noOwnUnsafe
theorem tablePartsUpto_row_tie : Rows.tablePartsUptoRow.laidByTextAt .later Tryd.pinned [.sentinel, .sentinel, .sentinel, .sentinel, .sentinel, .sentinel] true :=
  OpenClaim.laidByTextAt_later rfl rfl tie2 noOwnUnsafe
theorem pastTrimsUpto_row_tie : Rows.pastTrimsUptoRow.laidByTextAt .later Tryd.pinned [.sentinel, .sentinel, .sentinel, .sentinel, .sentinel, .sentinel, .sentinel, .sentinel, .sentinel, .sentinel, .sentinel, .sentinel, .sentinel, .sentinel, .sentinel, .sentinel, .sentinel, .sentinel, .sentinel] true :=
  OpenClaim.laidByTextAt_later rfl rfl tie3 noOwnUnsafe
theorem shardsCoversUpto_row_tie : Rows.shardsCoversUptoRow.laidByTextAt .later Tryd.pinned [.sentinel, .sentinel, .sentinel, .sentinel, .sentinel, .sentinel] true :=
  OpenClaim.laidByTextAt_later rfl rfl tie noOwnUnsafe
end Go.Proofs.YtajoihpjnnnkeaaDoor
