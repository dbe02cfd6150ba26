/- Plain: the first element that a function tells yes of. -/
import Derived.Test.YtajoihpjnnnkeaaDoorKit
namespace Go.Proofs.YtajoihpjnnnkeaaDoor
/-- The index of the first; -1: there is none. -/
def idxI {α : Type} (p : α → Bool) (xs : List α) : Int := match xs.findIdx? p with | some i => (i : Nat) | none => -1
theorem idx_none {α : Type} (p : α → Bool) (xs : List α) (h : xs.all (fun c => !p c) = true) : idxI p xs = -1 := by
  have : xs.findIdx? p = none := by
    rw [List.findIdx?_eq_none_iff]
    intro x hx
    have := List.all_eq_true.1 h x hx
    simpa using this
  unfold idxI; rw [this]
theorem idx_some {α : Type} (p : α → Bool) (xs : List α) (k : Nat) (hk : k < xs.length) (h : (xs.take k).all (fun c => !p c) = true) (hp : p xs[k] = true) : idxI p xs = (k : Nat) := by
  have : xs.findIdx? p = some k := by
    rw [List.findIdx?_eq_some_iff_getElem]
    refine ⟨hk, hp, fun j hj => ?_⟩
    have h2 := List.all_eq_true.1 h xs[j] (by rw [List.mem_take_iff_getElem]; exact ⟨j, by omega, rfl⟩)
    simpa using h2
  unfold idxI; rw [this]
theorem idx_next {α : Type} (p : α → Bool) (xs : List α) (k : Nat) (hk : k < xs.length) (h : (xs.take k).all (fun c => !p c) = true) (hp : p xs[k] = false) : (xs.take (k + 1)).all (fun c => !p c) = true := by
  rw [List.take_succ_eq_append_getElem hk, List.all_append, h]
  simp [hp]
theorem idx_ge {α : Type} (p : α → Bool) (xs : List α) : decide (0 ≤ idxI p xs) = xs.any p := by
  cases hf : xs.findIdx? p with
  | none =>
    rw [List.findIdx?_eq_none_iff] at hf
    have : idxI p xs = -1 := idx_none p xs (List.all_eq_true.2 fun x hx => by simpa using hf x hx)
    rw [this]
    have h2 : xs.any p = false := List.any_eq_false.2 fun x hx => by simpa using hf x hx
    rw [h2]; rfl
  | some i =>
    have : idxI p xs = (i : Nat) := by unfold idxI; rw [hf]
    rw [this]
    obtain ⟨hi, hp, _⟩ := List.findIdx?_eq_some_iff_getElem.1 hf
    have h2 : xs.any p = true := List.any_eq_true.2 ⟨xs[i], List.getElem_mem hi, hp⟩
    rw [h2]; simp
end Go.Proofs.YtajoihpjnnnkeaaDoor
