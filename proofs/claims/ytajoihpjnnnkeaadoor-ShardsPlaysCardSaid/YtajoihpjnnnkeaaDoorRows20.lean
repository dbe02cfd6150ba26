/- Operations and shards: rows of them in memory (printed by gen_rows.py). -/
import Derived.Test.YtajoihpjnnnkeaaDoorRowK
namespace Go.Proofs.YtajoihpjnnnkeaaDoor
open Go.RowKit
/-- An operation. -/
structure OpR where
  kind : Int
  key : ByteArray
  val : ByteArray
  old : ByteArray
  ver : Int
def OpR.none : OpR := ⟨0, ⟨#[]⟩, ⟨#[]⟩, ⟨#[]⟩, 0⟩
instance : Inhabited OpR := ⟨OpR.none⟩
def OpR.vals (c : OpR) : List Value := [.int .i64 c.kind, .string c.key, .string c.val, .string c.old, .int .i64 c.ver]
def opRAt (xs : List OpR) (j : Nat) : OpR := xs[j]?.getD OpR.none
def opRFlat (xs : List OpR) : List Value := xs.flatMap OpR.vals
theorem opRAt_eq (xs : List OpR) (i : Nat) (hi : i < xs.length) : opRAt xs i = xs[i] := by unfold opRAt; rw [List.getElem?_eq_getElem hi]; rfl
theorem opRAt_mem (xs : List OpR) (k : Nat) (h : k < xs.length) : opRAt xs k ∈ xs := by rw [opRAt_eq xs k h]; exact List.getElem_mem h
theorem opRFlat_length (xs : List OpR) : (opRFlat xs).length = xs.length * 5 := by
  induction xs with
  | nil => rfl
  | cons c xs ih => unfold opRFlat at ih ⊢; rw [List.flatMap_cons, List.length_append, ih]; simp [OpR.vals]; omega
theorem opRFlat_get (i : Nat) (hi : i < 5) : ∀ (xs : List OpR) (j : Nat), j < xs.length → (opRFlat xs)[j * 5 + i]? = (opRAt xs j).vals[i]? := by
  intro xs
  induction xs with
  | nil => intro j hj; simp at hj
  | cons c xs ih =>
    intro j hj
    unfold opRFlat at ih ⊢
    rw [List.flatMap_cons]
    cases j with
    | zero => rw [List.getElem?_append_left (by simp [OpR.vals]; omega)]; simp [opRAt]
    | succ j =>
      rw [List.getElem?_append_right (by simp [OpR.vals]; omega)]
      have e : (j + 1) * 5 + i - c.vals.length = j * 5 + i := by simp [OpR.vals]; omega
      rw [e, ih j (by simpa using hj)]
      simp [opRAt]
theorem opRFlat_append (xs ys : List OpR) : opRFlat (xs ++ ys) = opRFlat xs ++ opRFlat ys := by unfold opRFlat; rw [List.flatMap_append]
theorem opRFlat_one (c : OpR) : opRFlat [c] = c.vals := by simp [opRFlat]
theorem opRFlat_take (xs : List OpR) (i : Nat) : opRFlat (xs.take i) = (opRFlat xs).take (i * 5) := by
  by_cases h : i ≤ xs.length
  · have e : opRFlat xs = opRFlat (xs.take i) ++ opRFlat (xs.drop i) := by rw [← opRFlat_append, List.take_append_drop]
    have h2 : (opRFlat (xs.take i)).length = i * 5 := by rw [opRFlat_length, List.length_take]; omega
    rw [e, ← h2, List.take_left]
  · have h2 : (opRFlat xs).length ≤ i * 5 := by rw [opRFlat_length]; omega
    rw [List.take_of_length_le (show xs.length ≤ i by omega), List.take_of_length_le h2]
theorem opRFlat_drop (xs : List OpR) (i : Nat) : opRFlat (xs.drop i) = (opRFlat xs).drop (i * 5) := by
  by_cases h : i ≤ xs.length
  · have e : opRFlat xs = opRFlat (xs.take i) ++ opRFlat (xs.drop i) := by rw [← opRFlat_append, List.take_append_drop]
    have h2 : (opRFlat (xs.take i)).length = i * 5 := by rw [opRFlat_length, List.length_take]; omega
    rw [e, ← h2, List.drop_left]
  · have h2 : (opRFlat xs).length ≤ i * 5 := by rw [opRFlat_length]; omega
    rw [List.drop_of_length_le (show xs.length ≤ i by omega), List.drop_of_length_le h2]; rfl
/-- The cells of a row. -/
structure OpRRow (W : World) (b off : Nat) (xs : List OpR) : Prop where
  kind : ∀ j, j < xs.length → W.cell? ⟨b, off + j * 5, Option.none⟩ = some (.int .i64 (opRAt xs j).kind)
  key : ∀ j, j < xs.length → W.cell? ⟨b, off + j * 5 + 1, Option.none⟩ = some (.string (opRAt xs j).key)
  val : ∀ j, j < xs.length → W.cell? ⟨b, off + j * 5 + 2, Option.none⟩ = some (.string (opRAt xs j).val)
  old : ∀ j, j < xs.length → W.cell? ⟨b, off + j * 5 + 3, Option.none⟩ = some (.string (opRAt xs j).old)
  ver : ∀ j, j < xs.length → W.cell? ⟨b, off + j * 5 + 4, Option.none⟩ = some (.int .i64 (opRAt xs j).ver)
theorem OpRRow.grew {W W' : World} {b off : Nat} {xs : List OpR} (h : OpRRow W b off xs) (g : Grew W W') (hb : b < W.heap.size) : OpRRow W' b off xs :=
  ⟨fun j hj => (g.cells.1 _ _ hb).trans (h.kind j hj), fun j hj => (g.cells.1 _ _ hb).trans (h.key j hj), fun j hj => (g.cells.1 _ _ hb).trans (h.val j hj), fun j hj => (g.cells.1 _ _ hb).trans (h.old j hj), fun j hj => (g.cells.1 _ _ hb).trans (h.ver j hj)⟩
/-- A slice of them: empty, or a row. -/
def OpRsAt (W : World) (a : Option Addr) (xs : List OpR) : Prop := xs = [] ∨ ∃ b off, a = some ⟨b, off, Option.none⟩ ∧ b < W.heap.size ∧ OpRRow W b off xs
theorem OpRsAt.grew {W W' : World} {a : Option Addr} {xs : List OpR} (h : OpRsAt W a xs) (g : Grew W W') : OpRsAt W' a xs := by
  rcases h with h | ⟨b, off, e, hb, h⟩
  · exact .inl h
  · exact .inr ⟨b, off, e, Nat.lt_of_lt_of_le hb g.size, h.grew g hb⟩

/-- A shard that lives. -/
structure Sh where
  id : Int
  server : Int
  since : Int
  lo : ByteArray
  hi : ByteArray
def Sh.none : Sh := ⟨0, 0, 0, ⟨#[]⟩, ⟨#[]⟩⟩
instance : Inhabited Sh := ⟨Sh.none⟩
def Sh.vals (c : Sh) : List Value := [.int .i64 c.id, .int .i64 c.server, .int .i64 c.since, .string c.lo, .string c.hi]
def shAt (xs : List Sh) (j : Nat) : Sh := xs[j]?.getD Sh.none
def shFlat (xs : List Sh) : List Value := xs.flatMap Sh.vals
theorem shAt_eq (xs : List Sh) (i : Nat) (hi : i < xs.length) : shAt xs i = xs[i] := by unfold shAt; rw [List.getElem?_eq_getElem hi]; rfl
theorem shAt_mem (xs : List Sh) (k : Nat) (h : k < xs.length) : shAt xs k ∈ xs := by rw [shAt_eq xs k h]; exact List.getElem_mem h
theorem shFlat_length (xs : List Sh) : (shFlat xs).length = xs.length * 5 := by
  induction xs with
  | nil => rfl
  | cons c xs ih => unfold shFlat at ih ⊢; rw [List.flatMap_cons, List.length_append, ih]; simp [Sh.vals]; omega
theorem shFlat_get (i : Nat) (hi : i < 5) : ∀ (xs : List Sh) (j : Nat), j < xs.length → (shFlat xs)[j * 5 + i]? = (shAt xs j).vals[i]? := by
  intro xs
  induction xs with
  | nil => intro j hj; simp at hj
  | cons c xs ih =>
    intro j hj
    unfold shFlat at ih ⊢
    rw [List.flatMap_cons]
    cases j with
    | zero => rw [List.getElem?_append_left (by simp [Sh.vals]; omega)]; simp [shAt]
    | succ j =>
      rw [List.getElem?_append_right (by simp [Sh.vals]; omega)]
      have e : (j + 1) * 5 + i - c.vals.length = j * 5 + i := by simp [Sh.vals]; omega
      rw [e, ih j (by simpa using hj)]
      simp [shAt]
theorem shFlat_append (xs ys : List Sh) : shFlat (xs ++ ys) = shFlat xs ++ shFlat ys := by unfold shFlat; rw [List.flatMap_append]
theorem shFlat_one (c : Sh) : shFlat [c] = c.vals := by simp [shFlat]
theorem shFlat_take (xs : List Sh) (i : Nat) : shFlat (xs.take i) = (shFlat xs).take (i * 5) := by
  by_cases h : i ≤ xs.length
  · have e : shFlat xs = shFlat (xs.take i) ++ shFlat (xs.drop i) := by rw [← shFlat_append, List.take_append_drop]
    have h2 : (shFlat (xs.take i)).length = i * 5 := by rw [shFlat_length, List.length_take]; omega
    rw [e, ← h2, List.take_left]
  · have h2 : (shFlat xs).length ≤ i * 5 := by rw [shFlat_length]; omega
    rw [List.take_of_length_le (show xs.length ≤ i by omega), List.take_of_length_le h2]
theorem shFlat_drop (xs : List Sh) (i : Nat) : shFlat (xs.drop i) = (shFlat xs).drop (i * 5) := by
  by_cases h : i ≤ xs.length
  · have e : shFlat xs = shFlat (xs.take i) ++ shFlat (xs.drop i) := by rw [← shFlat_append, List.take_append_drop]
    have h2 : (shFlat (xs.take i)).length = i * 5 := by rw [shFlat_length, List.length_take]; omega
    rw [e, ← h2, List.drop_left]
  · have h2 : (shFlat xs).length ≤ i * 5 := by rw [shFlat_length]; omega
    rw [List.drop_of_length_le (show xs.length ≤ i by omega), List.drop_of_length_le h2]; rfl
/-- The cells of a row. -/
structure ShRow (W : World) (b off : Nat) (xs : List Sh) : Prop where
  id : ∀ j, j < xs.length → W.cell? ⟨b, off + j * 5, Option.none⟩ = some (.int .i64 (shAt xs j).id)
  server : ∀ j, j < xs.length → W.cell? ⟨b, off + j * 5 + 1, Option.none⟩ = some (.int .i64 (shAt xs j).server)
  since : ∀ j, j < xs.length → W.cell? ⟨b, off + j * 5 + 2, Option.none⟩ = some (.int .i64 (shAt xs j).since)
  lo : ∀ j, j < xs.length → W.cell? ⟨b, off + j * 5 + 3, Option.none⟩ = some (.string (shAt xs j).lo)
  hi : ∀ j, j < xs.length → W.cell? ⟨b, off + j * 5 + 4, Option.none⟩ = some (.string (shAt xs j).hi)
theorem ShRow.grew {W W' : World} {b off : Nat} {xs : List Sh} (h : ShRow W b off xs) (g : Grew W W') (hb : b < W.heap.size) : ShRow W' b off xs :=
  ⟨fun j hj => (g.cells.1 _ _ hb).trans (h.id j hj), fun j hj => (g.cells.1 _ _ hb).trans (h.server j hj), fun j hj => (g.cells.1 _ _ hb).trans (h.since j hj), fun j hj => (g.cells.1 _ _ hb).trans (h.lo j hj), fun j hj => (g.cells.1 _ _ hb).trans (h.hi j hj)⟩
/-- A slice of them: empty, or a row. -/
def ShsAt (W : World) (a : Option Addr) (xs : List Sh) : Prop := xs = [] ∨ ∃ b off, a = some ⟨b, off, Option.none⟩ ∧ b < W.heap.size ∧ ShRow W b off xs
theorem ShsAt.grew {W W' : World} {a : Option Addr} {xs : List Sh} (h : ShsAt W a xs) (g : Grew W W') : ShsAt W' a xs := by
  rcases h with h | ⟨b, off, e, hb, h⟩
  · exact .inl h
  · exact .inr ⟨b, off, e, Nat.lt_of_lt_of_le hb g.size, h.grew g hb⟩
theorem shsAt_of {W : World} {B : Nat} {v : Value} {xs : List Sh} (h : W.ownsRow B 40 5 v xs.length (shFlat xs)) : ∃ a cap, v = .slice a xs.length cap ∧ ShsAt W a xs := by
  rcases Nat.eq_zero_or_pos xs.length with h0 | h0
  · have hx : xs = [] := List.eq_nil_of_length_eq_zero h0
    rcases h.2 with ⟨rfl, _⟩ | ⟨g, cap, cur, rfl, _, hg, _⟩
    · exact ⟨Option.none, 0, by rw [h0], .inl hx⟩
    · exact ⟨_, _, rfl, .inl hx⟩
  · obtain ⟨g, cap, rfl, _, hlt⟩ := h.form h0
    refine ⟨_, _, rfl, .inr ⟨g, 0, rfl, hlt, ?_, ?_, ?_, ?_, ?_⟩⟩ <;> intro j hj
    · have := h.cellAt (j * 5 + 0) (by omega); rw [shFlat_get 0 (by omega) xs j hj] at this; rw [Nat.zero_add]; exact this
    · have := h.cellAt (j * 5 + 1) (by omega); rw [shFlat_get 1 (by omega) xs j hj] at this; rw [Nat.zero_add]; exact this
    · have := h.cellAt (j * 5 + 2) (by omega); rw [shFlat_get 2 (by omega) xs j hj] at this; rw [Nat.zero_add]; exact this
    · have := h.cellAt (j * 5 + 3) (by omega); rw [shFlat_get 3 (by omega) xs j hj] at this; rw [Nat.zero_add]; exact this
    · have := h.cellAt (j * 5 + 4) (by omega); rw [shFlat_get 4 (by omega) xs j hj] at this; rw [Nat.zero_add]; exact this

theorem shFlat_one' (xs : List Sh) : ∀ u ∈ shFlat xs, u.oneCell' = true := by
  intro u hu
  unfold shFlat at hu
  obtain ⟨c, _, hc⟩ := List.mem_flatMap.1 hu
  simp [Sh.vals] at hc
  rcases hc with rfl | rfl | rfl | rfl | rfl <;> rfl
def OpR.aggOf (c : OpR) : Value := .agg c.vals.toArray
def Sh.aggOf (c : Sh) : Value := .agg c.vals.toArray
end Go.Proofs.YtajoihpjnnnkeaaDoor
