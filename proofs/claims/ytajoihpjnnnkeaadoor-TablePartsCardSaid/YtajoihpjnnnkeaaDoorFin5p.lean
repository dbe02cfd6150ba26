/- What a statement over tables with five sentinels and ErrClash shares: the list is met where the program's own text has run; it gives the sentinels. -/
import Derived.Test.YtajoihpjnnnkeaaDoorLaid
import Derived.Test.YtajoihpjnnnkeaaDoorTab2
import Derived.Test.YtajoihpjnnnkeaaDoorCards
import Derived.Test.YtajoihpjnnnkeaaDoorTie
import Derived.ProofKit
import Derived.OpenShut
import Derived.ShutString
import Derived.LaidMore
import Derived.Stop.Joined
import Derived.Lib.SmallJoins
namespace Go.Proofs.YtajoihpjnnnkeaaDoor.fin5p
open Go.ChangeShapes Go.WideShapes Go.ChangeAt Go.RowKit

def tabS (k : Nat) : Bool := decide (k = 1) || decide (k = 2) || decide (k = 3) || decide (k = 6) || decide (k = 7) || decide (k = 18)
theorem tabS_ok : TabS tabS := ⟨rfl, rfl, rfl, rfl, rfl⟩
theorem own : ownKnob Tryd.prog.godebug = none := by kernel_rfl
theorem laidOut : laidOutB Tryd.prog = true := by kernel_rfl

theorem laid_met (os : Os) (args : Array Value) : laidMetH Tryd.prog Rows.tablePartsRow.laid ((World.doorLaid Tryd.prog 400 os).forCall (fun _ _ => 0) ⟨#[], args, []⟩).memory :=
  laidMet_of_run' 8 (by kernel_rfl) (by kernel_rfl)

theorem errs {W : World} (h : laidMetH Tryd.prog Rows.tablePartsRow.laid W) : ∃ E, Errs tabS E W := by
  have h' : laidMet Tryd.prog Rows.tablePartsRow.laid W := h
  exact errs_of_laid Rows.tablePartsRow.laid [1, 2, 3, 6, 7, 18] tabS
    (fun k hk => by simp only [tabS, Bool.or_eq_true, decide_eq_true_eq] at hk; simp only [List.mem_cons, List.not_mem_nil, or_false]; omega) rfl
    (by simp only [Rows.tablePartsRow, List.forall_mem_cons]; exact ⟨⟨_, rfl⟩, ⟨_, rfl⟩, ⟨_, rfl⟩, ⟨_, rfl⟩, ⟨_, rfl⟩, ⟨_, rfl⟩, by simp⟩)
    (by kernel_rfl) (by simp only [List.map_cons, List.map_nil, List.forall_mem_cons]; refine ⟨?_, ?_, ?_, ?_, ?_, ?_, by simp⟩ <;> kernel_rfl) h'

end Go.Proofs.YtajoihpjnnnkeaaDoor.fin5p
