/- Pairs: their row, their slice. -/
import Derived.Test.YtifcnammekbfoaaGreatDoorFinStateOnceQ1
namespace Go.Proofs.YtifcnammekbfoaaGreatDoor
open Go.RowKit Go.Maps
attribute [local go_sem] Oper.semAt_some

/-- A pair. -/
structure Pr where
  key : ByteArray
  val : ByteArray
  ver : Int
def Pr.none : Pr := ⟨⟨#[]⟩, ⟨#[]⟩, 0⟩
def Pr.vals (c : Pr) : List Value := [.string c.key, .string c.val, .int .i64 c.ver]
def Pr.agg (c : Pr) : Value := .agg #[.string c.key, .string c.val, .int .i64 c.ver]
def prFlat (xs : List Pr) : List Value := xs.flatMap Pr.vals
def prAt (xs : List Pr) (j : Nat) : Pr := xs[j]?.getD Pr.none
theorem prAt_eq (xs : List Pr) (i : Nat) (hi : i < xs.length) : prAt xs i = xs[i] := by unfold prAt; rw [List.getElem?_eq_getElem hi]; rfl
theorem prFlat_length (xs : List Pr) : (prFlat xs).length = xs.length * 3 := by
  induction xs with
  | nil => rfl
  | cons c xs ih => unfold prFlat at ih ⊢; rw [List.flatMap_cons, List.length_append, ih]; simp [Pr.vals]; omega
theorem prFlat_get (i : Nat) (hi : i < 3) : ∀ (xs : List Pr) (j : Nat), j < xs.length → (prFlat xs)[j * 3 + i]? = (prAt xs j).vals[i]? := by
  intro xs
  induction xs with
  | nil => intro j hj; simp at hj
  | cons c xs ih =>
    intro j hj
    unfold prFlat at ih ⊢
    rw [List.flatMap_cons]
    cases j with
    | zero => rw [List.getElem?_append_left (by simp [Pr.vals]; omega)]; simp [prAt]
    | succ j =>
      rw [List.getElem?_append_right (by simp [Pr.vals]; omega)]
      have e : (j + 1) * 3 + i - c.vals.length = j * 3 + i := by simp [Pr.vals]; omega
      rw [e, ih j (by simpa using hj)]
      simp [prAt]
theorem prFlat_append (xs ys : List Pr) : prFlat (xs ++ ys) = prFlat xs ++ prFlat ys := by unfold prFlat; rw [List.flatMap_append]
theorem prFlat_one (c : Pr) : prFlat [c] = c.vals := by simp [prFlat]
theorem prFlat_take (xs : List Pr) (i : Nat) : prFlat (xs.take i) = (prFlat xs).take (i * 3) := by
  by_cases h : i ≤ xs.length
  · have e : prFlat xs = prFlat (xs.take i) ++ prFlat (xs.drop i) := by rw [← prFlat_append, List.take_append_drop]
    have h2 : (prFlat (xs.take i)).length = i * 3 := by rw [prFlat_length, List.length_take]; omega
    rw [e, ← h2, List.take_left]
  · have h2 : (prFlat xs).length ≤ i * 3 := by rw [prFlat_length]; omega
    rw [List.take_of_length_le (show xs.length ≤ i by omega), List.take_of_length_le h2]
theorem prFlat_drop (xs : List Pr) (i : Nat) : prFlat (xs.drop i) = (prFlat xs).drop (i * 3) := by
  by_cases h : i ≤ xs.length
  · have e : prFlat xs = prFlat (xs.take i) ++ prFlat (xs.drop i) := by rw [← prFlat_append, List.take_append_drop]
    have h2 : (prFlat (xs.take i)).length = i * 3 := by rw [prFlat_length, List.length_take]; omega
    rw [e, ← h2, List.drop_left]
  · have h2 : (prFlat xs).length ≤ i * 3 := by rw [prFlat_length]; omega
    rw [List.drop_of_length_le (show xs.length ≤ i by omega), List.drop_of_length_le h2]; rfl
theorem prFlat_one' (xs : List Pr) : ∀ u ∈ prFlat xs, u.oneCell' = true := by
  intro u hu
  unfold prFlat at hu
  obtain ⟨c, _, hc⟩ := List.mem_flatMap.1 hu
  simp [Pr.vals] at hc
  rcases hc with rfl | rfl | rfl <;> rfl

/-- The cells of a row of pairs. -/
structure PairRow (W : World) (b off : Nat) (xs : List Pr) : Prop where
  key : ∀ j, j < xs.length → W.cell? ⟨b, off + j * 3, none⟩ = some (.string (prAt xs j).key)
  val : ∀ j, j < xs.length → W.cell? ⟨b, off + j * 3 + 1, none⟩ = some (.string (prAt xs j).val)
  ver : ∀ j, j < xs.length → W.cell? ⟨b, off + j * 3 + 2, none⟩ = some (.int .i64 (prAt xs j).ver)
theorem PairRow.grew {W W' : World} {b off : Nat} {xs : List Pr} (h : PairRow W b off xs) (g : Grew W W') (hb : b < W.heap.size) : PairRow W' b off xs :=
  ⟨fun j hj => (g.cells.1 _ _ hb).trans (h.key j hj), fun j hj => (g.cells.1 _ _ hb).trans (h.val j hj), fun j hj => (g.cells.1 _ _ hb).trans (h.ver j hj)⟩
/-- A slice of pairs: empty, or a row. -/
def PairsAt (W : World) (a : Option Addr) (xs : List Pr) : Prop := xs = [] ∨ ∃ b off, a = some ⟨b, off, none⟩ ∧ b < W.heap.size ∧ PairRow W b off xs
theorem PairsAt.grew {W W' : World} {a : Option Addr} {xs : List Pr} (h : PairsAt W a xs) (g : Grew W W') : PairsAt W' a xs := by
  rcases h with h | ⟨b, off, e, hb, h⟩
  · exact .inl h
  · exact .inr ⟨b, off, e, Nat.lt_of_lt_of_le hb g.size, h.grew g hb⟩
theorem pairsAt_of {W : World} {B : Nat} {v : Value} {xs : List Pr} (h : W.ownsRow B 104 3 v xs.length (prFlat xs)) : ∃ a cap, v = .slice a xs.length cap ∧ PairsAt W a xs := by
  rcases Nat.eq_zero_or_pos xs.length with h0 | h0
  · have hx : xs = [] := List.eq_nil_of_length_eq_zero h0
    rcases h.2 with ⟨rfl, _⟩ | ⟨g, cap, cur, rfl, _, hg, _⟩
    · exact ⟨none, 0, by rw [h0], .inl hx⟩
    · exact ⟨_, _, rfl, .inl hx⟩
  · obtain ⟨g, cap, rfl, _, hlt⟩ := h.form h0
    refine ⟨_, _, rfl, .inr ⟨g, 0, rfl, hlt, ?_, ?_, ?_⟩⟩ <;> intro j hj
    · have := h.cellAt (j * 3 + 0) (by omega); rw [prFlat_get 0 (by omega) xs j hj] at this; rw [Nat.zero_add]; exact this
    · have := h.cellAt (j * 3 + 1) (by omega); rw [prFlat_get 1 (by omega) xs j hj] at this; rw [Nat.zero_add]; exact this
    · have := h.cellAt (j * 3 + 2) (by omega); rw [prFlat_get 2 (by omega) xs j hj] at this; rw [Nat.zero_add]; exact this

theorem PairRow.drop {W : World} {b off : Nat} {xs : List Pr} (h : PairRow W b off xs) (i : Nat) : PairRow W b (off + i * 3) (xs.drop i) := by
  have e : ∀ j, prAt (xs.drop i) j = prAt xs (i + j) := fun j => by unfold prAt; rw [List.getElem?_drop]
  refine ⟨fun j hj => ?_, fun j hj => ?_, fun j hj => ?_⟩ <;> (rw [List.length_drop] at hj; rw [e])
  · have := h.key (i + j) (by omega); rwa [show off + (i + j) * 3 = off + i * 3 + j * 3 by omega] at this
  · have := h.val (i + j) (by omega); rwa [show off + (i + j) * 3 = off + i * 3 + j * 3 by omega] at this
  · have := h.ver (i + j) (by omega); rwa [show off + (i + j) * 3 = off + i * 3 + j * 3 by omega] at this
theorem PairRow.take {W : World} {b off : Nat} {xs : List Pr} (h : PairRow W b off xs) (i : Nat) : PairRow W b off (xs.take i) := by
  have e : ∀ j, j < (xs.take i).length → prAt (xs.take i) j = prAt xs j := fun j hj => by unfold prAt; rw [List.length_take] at hj; rw [List.getElem?_take, if_pos (by omega)]
  refine ⟨fun j hj => ?_, fun j hj => ?_, fun j hj => ?_⟩ <;> (rw [e j hj]; rw [List.length_take] at hj)
  · exact h.key j (by omega)
  · exact h.val j (by omega)
  · exact h.ver j (by omega)
end Go.Proofs.YtifcnammekbfoaaGreatDoor
