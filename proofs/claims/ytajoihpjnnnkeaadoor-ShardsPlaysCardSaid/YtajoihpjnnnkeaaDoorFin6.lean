/- What a statement over maps of shards with six sentinels (maps of shards) shares: the list is met where the program's own text has run; it gives the sentinels. -/
import Derived.Test.YtajoihpjnnnkeaaDoorLaid
import Derived.Test.YtajoihpjnnnkeaaDoorShd2
import Derived.Test.YtajoihpjnnnkeaaDoorCards
import Derived.Test.YtajoihpjnnnkeaaDoorTie
import Derived.ProofKit
import Derived.OpenShut
import Derived.ShutString
import Derived.LaidMore
import Derived.Stop.Joined
import Derived.Lib.SmallJoins
set_option linter.unusedVariables false
set_option linter.unusedSectionVars false
set_option linter.unusedSimpArgs false
namespace Go.Proofs.YtajoihpjnnnkeaaDoor.fin6
open Go.ChangeShapes Go.WideShapes Go.ChangeAt Go.RowKit

def shdS (k : Nat) : Bool := decide (k = 1) || decide (k = 2) || decide (k = 3) || decide (k = 4) || decide (k = 6) || decide (k = 7)
theorem shdS_ok : ShdS shdS := ⟨rfl, rfl, rfl, rfl, rfl, rfl⟩
theorem own : ownKnob Tryd.prog.godebug = none := by kernel_rfl
theorem laidOut : laidOutB Tryd.prog = true := by kernel_rfl

theorem laid_met (os : Os) (args : Array Value) : laidMetH Tryd.prog Rows.shardsAgainRow.laid ((World.doorLaid Tryd.prog 400 os).forCall (fun _ _ => 0) ⟨#[], args, []⟩).memory :=
  laidMet_of_run' 8 (by kernel_rfl) (by kernel_rfl)

theorem errs {W : World} (h : laidMetH Tryd.prog Rows.shardsAgainRow.laid W) : ∃ E, Errs shdS E W := by
  have h' : laidMet Tryd.prog Rows.shardsAgainRow.laid W := h
  exact errs_of_laid Rows.shardsAgainRow.laid [1, 2, 3, 4, 6, 7] shdS
    (fun k hk => by simp only [shdS, Bool.or_eq_true, decide_eq_true_eq] at hk; simp only [List.mem_cons, List.not_mem_nil, or_false]; omega) rfl
    (by simp only [Rows.shardsAgainRow, List.forall_mem_cons]; exact ⟨⟨_, rfl⟩, ⟨_, rfl⟩, ⟨_, rfl⟩, ⟨_, rfl⟩, ⟨_, rfl⟩, ⟨_, rfl⟩, by simp⟩)
    (by kernel_rfl) (by simp only [List.map_cons, List.map_nil, List.forall_mem_cons]; refine ⟨?_, ?_, ?_, ?_, ?_, ?_, by simp⟩ <;> kernel_rfl) h'

end Go.Proofs.YtajoihpjnnnkeaaDoor.fin6
