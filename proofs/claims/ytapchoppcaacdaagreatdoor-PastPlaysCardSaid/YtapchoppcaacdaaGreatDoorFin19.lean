/- What every statement with the nineteen sentinels shares: the list is met where the program's own text has run; it gives the sentinels. -/
import Derived.Test.YtapchoppcaacdaaGreatDoorLaid
import Derived.Test.YtapchoppcaacdaaGreatDoorCards
import Derived.Test.YtapchoppcaacdaaGreatDoorTie
import Derived.ProofKit
import Derived.OpenShut
import Derived.ShutString
import Derived.LaidMore
import Derived.Stop.Joined
import Derived.Lib.SmallJoins
namespace Go.Proofs.YtapchoppcaacdaaGreatDoor.fin
open Go.ChangeShapes Go.WideShapes Go.ChangeAt Go.RowKit

theorem own : ownKnob Tryz.prog.godebug = none := by kernel_rfl
theorem laidOut : laidOutB Tryz.prog = true := by kernel_rfl

theorem laid_met (os : Os) (args : Array Value) : laidMetH Tryz.prog Rows.pastPlaysRow.laid ((World.doorLaid Tryz.prog 400 os).forCall (fun _ _ => 0) ⟨#[], args, []⟩).memory :=
  laidMet_of_run' 8 (by kernel_rfl) (by kernel_rfl)

theorem errs {W : World} (h : laidMetH Tryz.prog Rows.pastPlaysRow.laid W) : ∃ E, Errs allS E W := by
  have h' : laidMet Tryz.prog Rows.pastPlaysRow.laid W := h
  exact errs_of_laid Rows.pastPlaysRow.laid [1, 2, 3, 4, 5, 6, 7, 8, 9, 10, 11, 12, 13, 14, 15, 16, 17, 18, 19] allS
    (fun k hk => by simp only [allS, Bool.and_eq_true, decide_eq_true_eq] at hk; simp only [List.mem_cons, List.not_mem_nil, or_false]; omega) rfl
    (by simp only [Rows.pastPlaysRow, List.forall_mem_cons]; exact ⟨⟨_, rfl⟩, ⟨_, rfl⟩, ⟨_, rfl⟩, ⟨_, rfl⟩, ⟨_, rfl⟩, ⟨_, rfl⟩, ⟨_, rfl⟩, ⟨_, rfl⟩, ⟨_, rfl⟩, ⟨_, rfl⟩, ⟨_, rfl⟩, ⟨_, rfl⟩, ⟨_, rfl⟩, ⟨_, rfl⟩, ⟨_, rfl⟩, ⟨_, rfl⟩, ⟨_, rfl⟩, ⟨_, rfl⟩, ⟨_, rfl⟩, by simp⟩)
    (by kernel_rfl) (by simp only [List.map_cons, List.map_nil, List.forall_mem_cons]; refine ⟨?_, ?_, ?_, ?_, ?_, ?_, ?_, ?_, ?_, ?_, ?_, ?_, ?_, ?_, ?_, ?_, ?_, ?_, ?_, by simp⟩ <;> kernel_rfl) h'

theorem cellsSpan : Tryz.prog.cellsOf 32 = 2 := by kernel_rfl
end Go.Proofs.YtapchoppcaacdaaGreatDoor.fin
