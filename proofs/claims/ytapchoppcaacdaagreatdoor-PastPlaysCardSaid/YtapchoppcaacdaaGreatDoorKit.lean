/- Small words for all walks: an ending by its value; what lay before stays ('Below'), step by step. Then: Plain: the first element that a function tells yes of. -/
import Derived.Test.YtapchoppcaacdaaGreatDoorProg
import Derived.WalkKit
import Derived.WalkSpells
import Derived.WalkLawsBesides
namespace Go.Proofs.YtapchoppcaacdaaGreatDoor
open Go.RowKit

theorem hid {p : Prop} (h : p) : Hid p := h
theorem ret_int {k : IntKind} {a b : Int} (h : a = b) : Ending.returned (.int k a) = .returned (.int k b) := by rw [h]
theorem ret_bool {a b : Bool} (h : a = b) : Ending.returned (.bool a) = .returned (.bool b) := by rw [h]
theorem ret_val {a b : Value} (h : a = b) : Ending.returned a = .returned b := by rw [h]

/-- What lay before stays: said cell by cell, for the walk. -/
theorem bcell {B : Nat} {W w1 : World} (hb : Below B W w1) : (∀ b o, b < B → w1.cell? ⟨b, o, none⟩ = W.cell? ⟨b, o, none⟩) ∧ (∀ b o, b < B → w1.frozen? ⟨b, o, none⟩ = W.frozen? ⟨b, o, none⟩) :=
  ⟨fun b o h => hb.cell (p := ⟨b, o, none⟩) h, fun b o h => hb.frozen (p := ⟨b, o, none⟩) h⟩

/-- Nothing that was there has turned. -/
def Grew (w w' : World) : Prop := Below w.heap.size w w'
theorem Grew.below {w w' : World} (h : Grew w w') : Below w.heap.size w w' := h
theorem Grew.refl (w : World) : Grew w w := Below.refl _ _
theorem Grew.size {w w' : World} (h : Grew w w') : w.heap.size ≤ w'.heap.size := Below.size h
theorem Grew.trans {a b c : World} (h : Grew a b) (k : Grew b c) : Grew a c := Below.trans h (Below.mono k h.size)
theorem Grew.alloc {a b : World} (h : Grew a b) (o : Obj) : Grew a (b.alloc o) := Below.alloc h h.size o
theorem Grew.drew {a b : World} (h : Grew a b) : Grew a b.drew := Below.drew h
theorem Grew.drewN {a b : World} (h : Grew a b) (n : Nat) : Grew a (b.drewN n) := ⟨h.os, h.tape, h.output, h.size, h.block⟩
theorem Grew.iter {a b : World} (h : Grew a b) (s : ByteArray) (p : Nat) : Grew a (b.iter s p) := h.alloc _
theorem Grew.setCell {a b : World} (h : Grew a b) {p : Addr} (hp : a.heap.size ≤ p.block) (u : Value) : Grew a (b.setCell p u) := Below.setCell h hp u
theorem Grew.cells {a b : World} (h : Grew a b) : (∀ k o, k < a.heap.size → b.cell? ⟨k, o, none⟩ = a.cell? ⟨k, o, none⟩) ∧ (∀ k o, k < a.heap.size → b.frozen? ⟨k, o, none⟩ = a.frozen? ⟨k, o, none⟩) := bcell h
end Go.Proofs.YtapchoppcaacdaaGreatDoor

namespace Go.Proofs.YtapchoppcaacdaaGreatDoor
/-- The index of the first; -1: there is none. -/
def idxI {α : Type} (p : α → Bool) (xs : List α) : Int := match xs.findIdx? p with | some i => (i : Nat) | none => -1
theorem idx_none {α : Type} (p : α → Bool) (xs : List α) (h : xs.all (fun c => !p c) = true) : idxI p xs = -1 := by
  have : xs.findIdx? p = none := by
    rw [List.findIdx?_eq_none_iff]
    intro x hx
    have := List.all_eq_true.1 h x hx
    simpa using this
  unfold idxI; rw [this]
theorem idx_some {α : Type} (p : α → Bool) (xs : List α) (k : Nat) (hk : k < xs.length) (h : (xs.take k).all (fun c => !p c) = true) (hp : p xs[k] = true) : idxI p xs = (k : Nat) := by
  have : xs.findIdx? p = some k := by
    rw [List.findIdx?_eq_some_iff_getElem]
    refine ⟨hk, hp, fun j hj => ?_⟩
    have h2 := List.all_eq_true.1 h xs[j] (by rw [List.mem_take_iff_getElem]; exact ⟨j, by omega, rfl⟩)
    simpa using h2
  unfold idxI; rw [this]
theorem idx_next {α : Type} (p : α → Bool) (xs : List α) (k : Nat) (hk : k < xs.length) (h : (xs.take k).all (fun c => !p c) = true) (hp : p xs[k] = false) : (xs.take (k + 1)).all (fun c => !p c) = true := by
  rw [List.take_succ_eq_append_getElem hk, List.all_append, h]
  simp [hp]
theorem idx_ge {α : Type} (p : α → Bool) (xs : List α) : decide (0 ≤ idxI p xs) = xs.any p := by
  cases hf : xs.findIdx? p with
  | none =>
    rw [List.findIdx?_eq_none_iff] at hf
    have : idxI p xs = -1 := idx_none p xs (List.all_eq_true.2 fun x hx => by simpa using hf x hx)
    rw [this]
    have h2 : xs.any p = false := List.any_eq_false.2 fun x hx => by simpa using hf x hx
    rw [h2]; rfl
  | some i =>
    have : idxI p xs = (i : Nat) := by unfold idxI; rw [hf]
    rw [this]
    obtain ⟨hi, hp, _⟩ := List.findIdx?_eq_some_iff_getElem.1 hf
    have h2 : xs.any p = true := List.any_eq_true.2 ⟨xs[i], List.getElem_mem hi, hp⟩
    rw [h2]; simp
end Go.Proofs.YtapchoppcaacdaaGreatDoor
