/- Small words for all walks: an ending by its value; what lay before stays ('Below'), step by step. -/
import Derived.Test.YtajoihpjnnnkeaaDoorProg
import Derived.WalkKit
import Derived.WalkSpells
import Derived.WalkLawsBesides
namespace Go.Proofs.YtajoihpjnnnkeaaDoor
open Go.RowKit

theorem hid {p : Prop} (h : p) : Hid p := h
theorem ret_int {k : IntKind} {a b : Int} (h : a = b) : Ending.returned (.int k a) = .returned (.int k b) := by rw [h]
theorem ret_bool {a b : Bool} (h : a = b) : Ending.returned (.bool a) = .returned (.bool b) := by rw [h]
theorem ret_val {a b : Value} (h : a = b) : Ending.returned a = .returned b := by rw [h]

/-- What lay before stays: said cell by cell, for the walk. -/
theorem bcell {B : Nat} {W w1 : World} (hb : Below B W w1) : (∀ b o, b < B → w1.cell? ⟨b, o, none⟩ = W.cell? ⟨b, o, none⟩) ∧ (∀ b o, b < B → w1.frozen? ⟨b, o, none⟩ = W.frozen? ⟨b, o, none⟩) :=
  ⟨fun b o h => hb.cell (p := ⟨b, o, none⟩) h, fun b o h => hb.frozen (p := ⟨b, o, none⟩) h⟩

/-- Nothing that was there has turned. -/
def Grew (w w' : World) : Prop := Below w.heap.size w w'
theorem Grew.below {w w' : World} (h : Grew w w') : Below w.heap.size w w' := h
theorem Grew.refl (w : World) : Grew w w := Below.refl _ _
theorem Grew.size {w w' : World} (h : Grew w w') : w.heap.size ≤ w'.heap.size := Below.size h
theorem Grew.trans {a b c : World} (h : Grew a b) (k : Grew b c) : Grew a c := Below.trans h (Below.mono k h.size)
theorem Grew.alloc {a b : World} (h : Grew a b) (o : Obj) : Grew a (b.alloc o) := Below.alloc h h.size o
theorem Grew.drew {a b : World} (h : Grew a b) : Grew a b.drew := Below.drew h
theorem Grew.drewN {a b : World} (h : Grew a b) (n : Nat) : Grew a (b.drewN n) := ⟨h.os, h.tape, h.output, h.size, h.block⟩
theorem Grew.iter {a b : World} (h : Grew a b) (s : ByteArray) (p : Nat) : Grew a (b.iter s p) := h.alloc _
theorem Grew.setCell {a b : World} (h : Grew a b) {p : Addr} (hp : a.heap.size ≤ p.block) (u : Value) : Grew a (b.setCell p u) := Below.setCell h hp u
theorem Grew.cells {a b : World} (h : Grew a b) : (∀ k o, k < a.heap.size → b.cell? ⟨k, o, none⟩ = a.cell? ⟨k, o, none⟩) ∧ (∀ k o, k < a.heap.size → b.frozen? ⟨k, o, none⟩ = a.frozen? ⟨k, o, none⟩) := bcell h
end Go.Proofs.YtajoihpjnnnkeaaDoor
