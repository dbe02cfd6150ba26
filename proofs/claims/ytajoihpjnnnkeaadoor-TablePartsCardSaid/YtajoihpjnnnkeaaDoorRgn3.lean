/- Small words for a region's walk: what lay before, in every world that grew; a struct of two cells that the region makes. -/
import Derived.Test.YtajoihpjnnnkeaaDoorRgn2
import Derived.Test.YtajoihpjnnnkeaaDoorOwn
namespace Go.Proofs.YtajoihpjnnnkeaaDoor
open Go.RowKit

/-- A cell of old, in every world that grew. -/
theorem wd_cell {w : World} {a : Addr} {v : Value} (h : w.cell? a = some v) (p : Wd (Grew w)) : p.w.cell? a = some v := by
  rw [p.ok.below.cell (World.block_lt_of_cell? w a h)]; exact h

instance wdGrew (w : World) : Nonempty (Wd (Grew w)) := ⟨⟨w, Grew.refl w⟩⟩

instance wdOnly (S : Nat → Prop) (w : World) : Nonempty (Wd (Only S w)) := ⟨⟨w, Only.refl S w⟩⟩
/-- A cell that may not have turned, in every world that has turned elsewhere. -/
theorem wd_only {S : Nat → Prop} {w : World} {b o : Nat} {v : Value} (h : w.cell? ⟨b, o, none⟩ = some v) (hS : ¬ S b) (p : Wd (Only S w)) : p.w.cell? ⟨b, o, none⟩ = some v := by
  rw [p.ok.cell (World.block_lt_of_cell? w _ h) hS o]; exact h

/-- A struct of two cells, in a block that is not of old. -/
def Fr2 (N : Nat) (w : World) (x a b : Value) : Prop := ∃ m, x = .pointer (some ⟨m, 0, none⟩) ∧ N ≤ m ∧ w.cell? ⟨m, 0, none⟩ = some a ∧ w.cell? ⟨m, 1, none⟩ = some b ∧ w.frozen? ⟨m, 0, none⟩ = false ∧ w.frozen? ⟨m, 1, none⟩ = false
theorem Fr2.grew {N : Nat} {w w' : World} {x a b : Value} (h : Fr2 N w x a b) (g : Grew w w') : Fr2 N w' x a b := by
  obtain ⟨m, h1, h2, h3, h4, h5, h6⟩ := h
  have hm : m < w.heap.size := World.block_lt_of_cell? w _ h3
  exact ⟨m, h1, h2, (g.cells.1 _ _ hm).trans h3, (g.cells.1 _ _ hm).trans h4, (g.cells.2 _ _ hm).trans h5, (g.cells.2 _ _ hm).trans h6⟩
theorem Fr2.of_alloc {N : Nat} {u : World} (h : N ≤ u.heap.size) (a b : Value) (t : TypeId) : Fr2 N (u.alloc (Obj.cells #[a, b] t)) (.pointer (some ⟨u.heap.size, 0, none⟩)) a b :=
  ⟨_, rfl, h, by simp [go_sem], by simp [go_sem], by simp [go_sem], by simp [go_sem]⟩
theorem fr2_store {w u : World} {m : Nat} {x y : Value} (g : Grew w u) (hN : w.heap.size ≤ m) (c0 : u.cell? ⟨m, 0, none⟩ = some x) (c1 : u.cell? ⟨m, 1, none⟩ = some y) (f0 : u.frozen? ⟨m, 0, none⟩ = false) (f1 : u.frozen? ⟨m, 1, none⟩ = false) (a b : Value) :
    Grew w ((u.setCell ⟨m, 0, none⟩ a).setCell ⟨m, 1, none⟩ b) ∧ Fr2 w.heap.size ((u.setCell ⟨m, 0, none⟩ a).setCell ⟨m, 1, none⟩ b) (.pointer (some ⟨m, 0, none⟩)) a b := by
  refine ⟨(g.setCell (p := ⟨m, 0, none⟩) hN a).setCell (p := ⟨m, 1, none⟩) hN b, m, rfl, hN, ?_, ?_, ?_, ?_⟩ <;> simp [go_sem, c0, c1, f0, f1]
end Go.Proofs.YtajoihpjnnnkeaaDoor
