/- tidewaterref21.SamePairs of two rows of the same pairs: true. -/
import Derived.Test.YtapchoppcaacdaaGreatDoorPr0
import Derived.BigQuiet
namespace Go.Proofs.YtapchoppcaacdaaGreatDoor
open Go.RowKit Go.Maps
attribute [local go_sem] Oper.semAt_some

set_option maxRecDepth 100000 in
set_option maxHeartbeats 1000000 in
theorem samePairs_same (w : World) (a b : Option Addr) (c d : Nat) (xs : List Pr) (hA : PairsAt w a xs) (hB : PairsAt w b xs) (hx : xs.length ≤ 1000000) :
    Calls Tryz.prog 13 #[.slice a xs.length c, .slice b xs.length d] w fun e w' => e = .returned (.bool true) ∧ Grew w w' := by
  have HA := hid hA
  have HB := hid hB
  have hbn : (xs.length : Int) ≤ 1000000 := by omega
  clear hA hB
  go_enter Tryz.func13, Tryz.ntmps13
  go_wp2_with fail
  go_loopw [13] (fun i wr => ∃ k : Nat, k ≤ xs.length ∧ i = .int .i64 k ∧ Grew w wr) (fun i _ => xs.length - (intOf i).toNat)
  case atStart => exact ⟨0, Nat.zero_le _, rfl, Grew.refl w⟩
  case round =>
    obtain ⟨k, hk1, rfl, hG⟩ := hrel
    by_cases hlt : k < xs.length
    · rcases HA.out with h0 | ⟨b1, off1, rfl, hb1, hR1⟩
      · rw [h0] at hlt; simp at hlt
      rcases HB.out with h0 | ⟨b2, off2, rfl, hb2, hR2⟩
      · rw [h0] at hlt; simp at hlt
      have q0 := (hG.cells.1 _ _ hb1).trans (hR1.key k hlt)
      have q1 := (hG.cells.1 _ _ hb1).trans (hR1.val k hlt)
      have q2 := (hG.cells.1 _ _ hb1).trans (hR1.ver k hlt)
      have p0 := (hG.cells.1 _ _ hb2).trans (hR2.key k hlt)
      have p1 := (hG.cells.1 _ _ hb2).trans (hR2.val k hlt)
      have p2 := (hG.cells.1 _ _ hb2).trans (hR2.ver k hlt)
      clear hR1 hR2
      generalize prAt xs k = e at *
      obtain ⟨ek, ev, en⟩ := e
      dsimp only at *
      have hltI : (k : Int) < (xs.length : Int) := by omega
      go_wp2_with fail
      go_quiet (fail)
      all_goals (
        go_wp2_with fail
        go_roundw
        case rel => exact ⟨k + 1, by omega, by go_num, hG.drewN _⟩
        case measure => simp [intOf]; omega)
    · obtain rfl : k = xs.length := by omega
      go_wp2_with fail
      go_ret
      exact ⟨rfl, hG⟩
end Go.Proofs.YtapchoppcaacdaaGreatDoor
