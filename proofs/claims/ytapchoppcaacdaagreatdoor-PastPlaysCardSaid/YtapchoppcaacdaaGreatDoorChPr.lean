/- Changes as pairs. -/
import Derived.Test.YtapchoppcaacdaaGreatDoorPast6
import Derived.Test.YtapchoppcaacdaaGreatDoorPr0
namespace Go.Proofs.YtapchoppcaacdaaGreatDoor
open Go.RowKit Go.Maps

def toPr (c : Ch) : Pr := ⟨c.key, c.val, c.ver⟩
theorem pFlat_pr (xs : List Ch) : pFlat xs = prFlat (xs.map toPr) := by
  unfold pFlat prFlat
  rw [List.flatMap_map]; rfl

theorem pairs_of_p {W : World} {B : Nat} {v : Value} {xs : List Ch} (h : W.ownsRow B 82 3 v xs.length (pFlat xs)) : ∃ a cap, v = .slice a (xs.map toPr).length cap ∧ PairsAt W a (xs.map toPr) := by
  rw [pFlat_pr] at h
  exact pairsAt_of (by rw [List.length_map]; exact h)
end Go.Proofs.YtapchoppcaacdaaGreatDoor
