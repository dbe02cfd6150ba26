/-
  NARROWER THAN 'FOR EVERY INPUT', by the rows' own cells (each row's printed sentence says how): ServeNew: laid.
  DERIVED. THE GIVEN ROWS OF THIS SEAT. 1 by the template 'for every input the law returns true; each argument reads behind the call as it read before'; 0 by the template 'total and deterministic' (their statements: YtlgcdneiebjkcaaGreatDoorTotals.lean).
  GIVEN WITH THE SEED: the statements are not yours to turn. If you find one false, say at which input.
  Laid BY PROGRAM, IN A SANDBOX (cutbox-rows.mjs): the forced cells as the released guide's own fill.sh prints them over the translation ef12a0419d536211… (all of the seat's roots in one cut). By AI agents, Wed Nov 11 2026. No macro, syntax, notation, axiom, sorry.
-/
import Derived.Test.YtlgcdneiebjkcaaGreatDoorChecked
import GoSem.Claim
import GoSem.ClaimJoined
import GoSem.ClaimMapViews
import Derived.JoinedTies
import Derived.KernelRfl
namespace Go.Proofs.YtlgcdneiebjkcaaGreatDoor
/- THE CELL 'sum', in the pinned program and in every row, IS THE sha256 OF THE DUMP (.gsa) THAT YtlgcdneiebjkcaaGreatDoorProg.lean LOADS. Nothing in Lean hashes anything: it is a label: what it is worth is what the hold of that sum in a sandbox is worth. -/
noncomputable def Tryz.pinned : Pinned := { name := "ytlgcdneiebjkcaagreatdoor", sum := "ef12a0419d536211580830d017e1df8eba6ffa701e4d3fb1c33bfe239c47a9a8", checked := Tryz.checked }
namespace Rows
def none {H : Type} : Left H := { results := [], args := [] }

/- WHAT THE LISTED PACKAGE-LEVEL VARIABLES READ AS WHEN THE CALL BEGINS. Each datum BY PROGRAM (the guide's laid-datum.mjs) off the statement by which the dump's own 'gosem.cut.vars' lays the variable. In a bare row this is a premise. The card (YtlgcdneiebjkcaaGreatDoorCards.lean) ties it to the program's text. -/
def laid_tidewater_api_ErrRange {H : Type} : DataW H := .iface "*errors.errorString" (.ptr (.agg [.lit (.string [116, 105, 100, 101, 119, 97, 116, 101, 114, 58, 32, 114, 97, 110, 103, 101])]))
def laid_tidewater_api_ErrShort {H : Type} : DataW H := .iface "*errors.errorString" (.ptr (.agg [.lit (.string [116, 105, 100, 101, 119, 97, 116, 101, 114, 58, 32, 115, 104, 111, 114, 116])]))
def laid_tidewater_api_ErrLong {H : Type} : DataW H := .iface "*errors.errorString" (.ptr (.agg [.lit (.string [116, 105, 100, 101, 119, 97, 116, 101, 114, 58, 32, 108, 111, 110, 103])]))
def laid_tidewater_api_ErrForm {H : Type} : DataW H := .iface "*errors.errorString" (.ptr (.agg [.lit (.string [116, 105, 100, 101, 119, 97, 116, 101, 114, 58, 32, 102, 111, 114, 109])]))
def laid_tidewater_api_ErrSum {H : Type} : DataW H := .iface "*errors.errorString" (.ptr (.agg [.lit (.string [116, 105, 100, 101, 119, 97, 116, 101, 114, 58, 32, 115, 117, 109])]))
def laid_tidewater_api_ErrRune {H : Type} : DataW H := .iface "*errors.errorString" (.ptr (.agg [.lit (.string [116, 105, 100, 101, 119, 97, 116, 101, 114, 58, 32, 114, 117, 110, 101])]))
def laid_tidewater_api_ErrName {H : Type} : DataW H := .iface "*errors.errorString" (.ptr (.agg [.lit (.string [116, 105, 100, 101, 119, 97, 116, 101, 114, 58, 32, 110, 97, 109, 101])]))
def laid_tidewater_api_ErrSealed {H : Type} : DataW H := .iface "*errors.errorString" (.ptr (.agg [.lit (.string [116, 105, 100, 101, 119, 97, 116, 101, 114, 58, 32, 115, 101, 97, 108, 101, 100])]))
def laid_tidewater_api_ErrWritten {H : Type} : DataW H := .iface "*errors.errorString" (.ptr (.agg [.lit (.string [116, 105, 100, 101, 119, 97, 116, 101, 114, 58, 32, 119, 114, 105, 116, 116, 101, 110])]))
def laid_tidewater_api_ErrUnwritten {H : Type} : DataW H := .iface "*errors.errorString" (.ptr (.agg [.lit (.string [116, 105, 100, 101, 119, 97, 116, 101, 114, 58, 32, 117, 110, 119, 114, 105, 116, 116, 101, 110])]))
def laid_tidewater_api_ErrTrimmed {H : Type} : DataW H := .iface "*errors.errorString" (.ptr (.agg [.lit (.string [116, 105, 100, 101, 119, 97, 116, 101, 114, 58, 32, 116, 114, 105, 109, 109, 101, 100])]))
def laid_tidewater_api_ErrDown {H : Type} : DataW H := .iface "*errors.errorString" (.ptr (.agg [.lit (.string [116, 105, 100, 101, 119, 97, 116, 101, 114, 58, 32, 100, 111, 119, 110])]))
def laid_tidewater_api_ErrFull {H : Type} : DataW H := .iface "*errors.errorString" (.ptr (.agg [.lit (.string [116, 105, 100, 101, 119, 97, 116, 101, 114, 58, 32, 102, 117, 108, 108])]))
def laid_tidewater_api_ErrEpoch {H : Type} : DataW H := .iface "*errors.errorString" (.ptr (.agg [.lit (.string [116, 105, 100, 101, 119, 97, 116, 101, 114, 58, 32, 101, 112, 111, 99, 104])]))
def laid_tidewater_api_ErrMoved {H : Type} : DataW H := .iface "*errors.errorString" (.ptr (.agg [.lit (.string [116, 105, 100, 101, 119, 97, 116, 101, 114, 58, 32, 109, 111, 118, 101, 100])]))
def laid_tidewater_api_ErrNone {H : Type} : DataW H := .iface "*errors.errorString" (.ptr (.agg [.lit (.string [116, 105, 100, 101, 119, 97, 116, 101, 114, 58, 32, 110, 111, 110, 101])]))
def laid_tidewater_api_ErrState {H : Type} : DataW H := .iface "*errors.errorString" (.ptr (.agg [.lit (.string [116, 105, 100, 101, 119, 97, 116, 101, 114, 58, 32, 115, 116, 97, 116, 101])]))
def laid_tidewater_api_ErrClash {H : Type} : DataW H := .iface "*errors.errorString" (.ptr (.agg [.lit (.string [116, 105, 100, 101, 119, 97, 116, 101, 114, 58, 32, 99, 108, 97, 115, 104])]))
def laid_tidewater_api_ErrStale {H : Type} : DataW H := .iface "*errors.errorString" (.ptr (.agg [.lit (.string [116, 105, 100, 101, 119, 97, 116, 101, 114, 58, 32, 115, 116, 97, 108, 101])]))

/-- 'tidewaterlaw27.ServeNew': WHATEVER THE INPUT: true; the input reads as it did. -/
def serveNewSpec : ChangeSpec := { name := "serveNew", fn := fun _ => fun
  | [d] => { results := [.lit (.bool true)], args := [d] }
  | _ => none }
def serveNewRow : OpenClaim := { program := "ytlgcdneiebjkcaagreatdoor", sum := "ef12a0419d536211580830d017e1df8eba6ffa701e4d3fb1c33bfe239c47a9a8", func := "tidewater/tidewaterlaw27.ServeNew", spec := "serveNew", inPlace := ["internal/reflectlite.TypeOf", "slices.overlaps[tidewater/shards.Shard]", "slices.overlaps[tidewater/api.Pair]", "maps.clone"], unfollowed := true, recurses := true, named := ["tidewater/api.ErrRange", "tidewater/api.ErrShort", "tidewater/api.ErrForm", "tidewater/api.ErrEpoch", "tidewater/api.ErrMoved", "tidewater/api.ErrTrimmed", "tidewater/api.ErrDown", "tidewater/api.ErrSealed", "tidewater/api.ErrUnwritten", "tidewater/api.ErrWritten", "tidewater/api.ErrState", "tidewater/api.ErrLong", "tidewater/api.ErrFull", "tidewater/api.ErrRune", "tidewater/api.ErrName", "tidewater/api.ErrNone", "tidewater/api.ErrStale", "tidewater/api.ErrClash", "tidewater/api.ErrSum"], plainKeys := false, apart := false, laid := [("tidewater/api.ErrRange", laid_tidewater_api_ErrRange), ("tidewater/api.ErrShort", laid_tidewater_api_ErrShort), ("tidewater/api.ErrLong", laid_tidewater_api_ErrLong), ("tidewater/api.ErrForm", laid_tidewater_api_ErrForm), ("tidewater/api.ErrSum", laid_tidewater_api_ErrSum), ("tidewater/api.ErrRune", laid_tidewater_api_ErrRune), ("tidewater/api.ErrName", laid_tidewater_api_ErrName), ("tidewater/api.ErrSealed", laid_tidewater_api_ErrSealed), ("tidewater/api.ErrWritten", laid_tidewater_api_ErrWritten), ("tidewater/api.ErrUnwritten", laid_tidewater_api_ErrUnwritten), ("tidewater/api.ErrTrimmed", laid_tidewater_api_ErrTrimmed), ("tidewater/api.ErrDown", laid_tidewater_api_ErrDown), ("tidewater/api.ErrFull", laid_tidewater_api_ErrFull), ("tidewater/api.ErrEpoch", laid_tidewater_api_ErrEpoch), ("tidewater/api.ErrMoved", laid_tidewater_api_ErrMoved), ("tidewater/api.ErrNone", laid_tidewater_api_ErrNone), ("tidewater/api.ErrState", laid_tidewater_api_ErrState), ("tidewater/api.ErrClash", laid_tidewater_api_ErrClash), ("tidewater/api.ErrStale", laid_tidewater_api_ErrStale)] }
def ServeNewSaid : Prop := serveNewRow.holds Tryz.pinned (OpenSpec.ofChange serveNewSpec)

/-- ITS FALSE NEIGHBOUR: 'it returns false'. Refute it at one input. -/
def serveNewWrong : ChangeSpec := { name := "serveNew", fn := fun _ => fun
  | [d] => { results := [.lit (.bool false)], args := [d] }
  | _ => none }
def ServeNewWrongFalsely : Prop := serveNewRow.holds Tryz.pinned (OpenSpec.ofChange serveNewWrong)

/- THE SECOND FORM. 'bulk': how many values and letters a reading holds, each counted each time it is reached (what is shared counts as often as it is met; a slice's spare places count too). A statement '..UptoSaid' is the law's where the arguments, and the package variables that the reading takes, are together of bulk at most 1048576: NARROWER than '..Said'. Prove '..Said' where nothing that the law and all that it calls make is longer than what came in: it says more and counts as full. Else prove '..UptoSaid'. A law counts once. -/
mutual
def uptoBulk {H : Type} : DataW H → Nat
  | .lit (.string bytes) => bytes.length + 1
  | .lit _ => 1
  | .nil => 1
  | .ptr d => uptoBulk d + 1
  | .slice elems spare => uptoBulkAll elems + uptoBulkAll spare + 1
  | .agg parts => uptoBulkAll parts + 1
  | .iface _ d => uptoBulk d + 1
  | .map entries => uptoBulkEntries entries + 1
  | .held _ => 1
def uptoBulkAll {H : Type} : List (DataW H) → Nat
  | [] => 0
  | d :: r => uptoBulk d + uptoBulkAll r
def uptoBulkEntries {H : Type} : List (Lit × DataW H) → Nat
  | [] => 0
  | x :: r => uptoBulkEntry x + uptoBulkEntries r
def uptoBulkEntry {H : Type} : Lit × DataW H → Nat
  | (.string bytes, d) => bytes.length + uptoBulk d + 1
  | (_, d) => uptoBulk d + 1
 end
def uptoSmall : (H : Type) → List (DataW H) → Bool := fun _ ds => decide (uptoBulkAll ds ≤ 1048576)
def OpenSpec.upto (s : _root_.Go.ChangeSpec) : _root_.Go.OpenSpec := { _root_.Go.OpenSpec.ofChange s with cond := some uptoSmall }

/-- 'tidewaterlaw27.ServeNew', WHERE WHAT IT READS IS OF BULK AT MOST 1048576: true; the input reads as it did. -/
def serveNewUptoRow : OpenClaim := { program := "ytlgcdneiebjkcaagreatdoor", sum := "ef12a0419d536211580830d017e1df8eba6ffa701e4d3fb1c33bfe239c47a9a8", func := "tidewater/tidewaterlaw27.ServeNew", spec := "serveNew", inPlace := ["internal/reflectlite.TypeOf", "slices.overlaps[tidewater/shards.Shard]", "slices.overlaps[tidewater/api.Pair]", "maps.clone"], unfollowed := true, recurses := true, named := ["tidewater/api.ErrRange", "tidewater/api.ErrShort", "tidewater/api.ErrForm", "tidewater/api.ErrEpoch", "tidewater/api.ErrMoved", "tidewater/api.ErrTrimmed", "tidewater/api.ErrDown", "tidewater/api.ErrSealed", "tidewater/api.ErrUnwritten", "tidewater/api.ErrWritten", "tidewater/api.ErrState", "tidewater/api.ErrLong", "tidewater/api.ErrFull", "tidewater/api.ErrRune", "tidewater/api.ErrName", "tidewater/api.ErrNone", "tidewater/api.ErrStale", "tidewater/api.ErrClash", "tidewater/api.ErrSum"], plainKeys := false, apart := false, laid := [("tidewater/api.ErrRange", laid_tidewater_api_ErrRange), ("tidewater/api.ErrShort", laid_tidewater_api_ErrShort), ("tidewater/api.ErrLong", laid_tidewater_api_ErrLong), ("tidewater/api.ErrForm", laid_tidewater_api_ErrForm), ("tidewater/api.ErrSum", laid_tidewater_api_ErrSum), ("tidewater/api.ErrRune", laid_tidewater_api_ErrRune), ("tidewater/api.ErrName", laid_tidewater_api_ErrName), ("tidewater/api.ErrSealed", laid_tidewater_api_ErrSealed), ("tidewater/api.ErrWritten", laid_tidewater_api_ErrWritten), ("tidewater/api.ErrUnwritten", laid_tidewater_api_ErrUnwritten), ("tidewater/api.ErrTrimmed", laid_tidewater_api_ErrTrimmed), ("tidewater/api.ErrDown", laid_tidewater_api_ErrDown), ("tidewater/api.ErrFull", laid_tidewater_api_ErrFull), ("tidewater/api.ErrEpoch", laid_tidewater_api_ErrEpoch), ("tidewater/api.ErrMoved", laid_tidewater_api_ErrMoved), ("tidewater/api.ErrNone", laid_tidewater_api_ErrNone), ("tidewater/api.ErrState", laid_tidewater_api_ErrState), ("tidewater/api.ErrClash", laid_tidewater_api_ErrClash), ("tidewater/api.ErrStale", laid_tidewater_api_ErrStale)], narrowed := true }
def ServeNewUptoSaid : Prop := serveNewUptoRow.holds Tryz.pinned (OpenSpec.upto serveNewSpec)

end Rows
end Go.Proofs.YtlgcdneiebjkcaaGreatDoor
