/- Rows20, IdxSh: one text. -/
import Derived.Test.YtbdagllflamabaaGreatDoorFinWatchReplaysQ4
import Derived.Test.YtbdagllflamabaaGreatDoorFinWatchReplaysQ1
namespace Go.Proofs.YtbdagllflamabaaGreatDoor
open Go.RowKit
structure Sh where
  id : Int
  server : Int
  since : Int
  lo : ByteArray
  hi : ByteArray
def Sh.none : Sh := ⟨0, 0, 0, ⟨#[]⟩, ⟨#[]⟩⟩
instance : Inhabited Sh := ⟨Sh.none⟩
def Sh.vals (c : Sh) : List Value := [.int .i64 c.id, .int .i64 c.server, .int .i64 c.since, .string c.lo, .string c.hi]
def shAt (xs : List Sh) (j : Nat) : Sh := xs[j]?.getD Sh.none
def shFlat (xs : List Sh) : List Value := xs.flatMap Sh.vals
theorem shAt_eq (xs : List Sh) (i : Nat) (hi : i < xs.length) : shAt xs i = xs[i] := by unfold shAt; rw [List.getElem?_eq_getElem hi]; rfl
theorem shAt_mem (xs : List Sh) (k : Nat) (h : k < xs.length) : shAt xs k ∈ xs := by rw [shAt_eq xs k h]; exact List.getElem_mem h
theorem shFlat_length (xs : List Sh) : (shFlat xs).length = xs.length * 5 := by
  induction xs with
  | nil => rfl
  | cons c xs ih => unfold shFlat at ih ⊢; rw [List.flatMap_cons, List.length_append, ih]; simp [Sh.vals]; omega
theorem shFlat_get (i : Nat) (hi : i < 5) : ∀ (xs : List Sh) (j : Nat), j < xs.length → (shFlat xs)[j * 5 + i]? = (shAt xs j).vals[i]? := by
  intro xs
  induction xs with
  | nil => intro j hj; simp at hj
  | cons c xs ih =>
    intro j hj
    unfold shFlat at ih ⊢
    rw [List.flatMap_cons]
    cases j with
    | zero => rw [List.getElem?_append_left (by simp [Sh.vals]; omega)]; simp [shAt]
    | succ j =>
      rw [List.getElem?_append_right (by simp [Sh.vals]; omega)]
      have e : (j + 1) * 5 + i - c.vals.length = j * 5 + i := by simp [Sh.vals]; omega
      rw [e, ih j (by simpa using hj)]
      simp [shAt]
theorem shFlat_append (xs ys : List Sh) : shFlat (xs ++ ys) = shFlat xs ++ shFlat ys := by unfold shFlat; rw [List.flatMap_append]
theorem shFlat_one (c : Sh) : shFlat [c] = c.vals := by simp [shFlat]
theorem shFlat_take (xs : List Sh) (i : Nat) : shFlat (xs.take i) = (shFlat xs).take (i * 5) := by
  by_cases h : i ≤ xs.length
  · have e : shFlat xs = shFlat (xs.take i) ++ shFlat (xs.drop i) := by rw [← shFlat_append, List.take_append_drop]
    have h2 : (shFlat (xs.take i)).length = i * 5 := by rw [shFlat_length, List.length_take]; omega
    rw [e, ← h2, List.take_left]
  · have h2 : (shFlat xs).length ≤ i * 5 := by rw [shFlat_length]; omega
    rw [List.take_of_length_le (show xs.length ≤ i by omega), List.take_of_length_le h2]
theorem shFlat_drop (xs : List Sh) (i : Nat) : shFlat (xs.drop i) = (shFlat xs).drop (i * 5) := by
  by_cases h : i ≤ xs.length
  · have e : shFlat xs = shFlat (xs.take i) ++ shFlat (xs.drop i) := by rw [← shFlat_append, List.take_append_drop]
    have h2 : (shFlat (xs.take i)).length = i * 5 := by rw [shFlat_length, List.length_take]; omega
    rw [e, ← h2, List.drop_left]
  · have h2 : (shFlat xs).length ≤ i * 5 := by rw [shFlat_length]; omega
    rw [List.drop_of_length_le (show xs.length ≤ i by omega), List.drop_of_length_le h2]; rfl
structure ShRow (W : World) (b off : Nat) (xs : List Sh) : Prop where
  id : ∀ j, j < xs.length → W.cell? ⟨b, off + j * 5, Option.none⟩ = some (.int .i64 (shAt xs j).id)
  server : ∀ j, j < xs.length → W.cell? ⟨b, off + j * 5 + 1, Option.none⟩ = some (.int .i64 (shAt xs j).server)
  since : ∀ j, j < xs.length → W.cell? ⟨b, off + j * 5 + 2, Option.none⟩ = some (.int .i64 (shAt xs j).since)
  lo : ∀ j, j < xs.length → W.cell? ⟨b, off + j * 5 + 3, Option.none⟩ = some (.string (shAt xs j).lo)
  hi : ∀ j, j < xs.length → W.cell? ⟨b, off + j * 5 + 4, Option.none⟩ = some (.string (shAt xs j).hi)
theorem ShRow.grew {W W' : World} {b off : Nat} {xs : List Sh} (h : ShRow W b off xs) (g : Grew W W') (hb : b < W.heap.size) : ShRow W' b off xs :=
  ⟨fun j hj => (g.cells.1 _ _ hb).trans (h.id j hj), fun j hj => (g.cells.1 _ _ hb).trans (h.server j hj), fun j hj => (g.cells.1 _ _ hb).trans (h.since j hj), fun j hj => (g.cells.1 _ _ hb).trans (h.lo j hj), fun j hj => (g.cells.1 _ _ hb).trans (h.hi j hj)⟩
def ShsAt (W : World) (a : Option Addr) (xs : List Sh) : Prop := xs = [] ∨ ∃ b off, a = some ⟨b, off, Option.none⟩ ∧ b < W.heap.size ∧ ShRow W b off xs
theorem ShsAt.grew {W W' : World} {a : Option Addr} {xs : List Sh} (h : ShsAt W a xs) (g : Grew W W') : ShsAt W' a xs := by
  rcases h with h | ⟨b, off, e, hb, h⟩
  · exact .inl h
  · exact .inr ⟨b, off, e, Nat.lt_of_lt_of_le hb g.size, h.grew g hb⟩
theorem shsAt_of {W : World} {B : Nat} {v : Value} {xs : List Sh} (h : W.ownsRow B 118 5 v xs.length (shFlat xs)) : ∃ a cap, v = .slice a xs.length cap ∧ ShsAt W a xs := by
  rcases Nat.eq_zero_or_pos xs.length with h0 | h0
  · have hx : xs = [] := List.eq_nil_of_length_eq_zero h0
    rcases h.2 with ⟨rfl, _⟩ | ⟨g, cap, cur, rfl, _, hg, _⟩
    · exact ⟨Option.none, 0, by rw [h0], .inl hx⟩
    · exact ⟨_, _, rfl, .inl hx⟩
  · obtain ⟨g, cap, rfl, _, hlt⟩ := h.form h0
    refine ⟨_, _, rfl, .inr ⟨g, 0, rfl, hlt, ?_, ?_, ?_, ?_, ?_⟩⟩ <;> intro j hj
    · have := h.cellAt (j * 5 + 0) (by omega); rw [shFlat_get 0 (by omega) xs j hj] at this; rw [Nat.zero_add]; exact this
    · have := h.cellAt (j * 5 + 1) (by omega); rw [shFlat_get 1 (by omega) xs j hj] at this; rw [Nat.zero_add]; exact this
    · have := h.cellAt (j * 5 + 2) (by omega); rw [shFlat_get 2 (by omega) xs j hj] at this; rw [Nat.zero_add]; exact this
    · have := h.cellAt (j * 5 + 3) (by omega); rw [shFlat_get 3 (by omega) xs j hj] at this; rw [Nat.zero_add]; exact this
    · have := h.cellAt (j * 5 + 4) (by omega); rw [shFlat_get 4 (by omega) xs j hj] at this; rw [Nat.zero_add]; exact this
theorem shFlat_one' (xs : List Sh) : ∀ u ∈ shFlat xs, u.oneCell' = true := by
  intro u hu
  unfold shFlat at hu
  obtain ⟨c, _, hc⟩ := List.mem_flatMap.1 hu
  simp [Sh.vals] at hc
  rcases hc with rfl | rfl | rfl | rfl | rfl <;> rfl
def Sh.aggOf (c : Sh) : Value := .agg c.vals.toArray
end Go.Proofs.YtbdagllflamabaaGreatDoor
namespace Go.Proofs.YtbdagllflamabaaGreatDoor
open Go.RowKit
attribute [local go_sem] Oper.semAt_some
set_option maxRecDepth 100000 in
set_option maxHeartbeats 1000000 in
theorem idxShardFind (p : Sh → Bool) (cb : Nat) (a : Option Addr) (cap : Nat) (xs : List Sh) (w : World) (hA : ShsAt w a xs) (hx : xs.length ≤ 1000000)
    (hp : ∀ j, j < xs.length → ∀ W, Grew w W → Calls Tryz.prog 141 #[(shAt xs j).aggOf, .pointer (some ⟨cb, 0, none⟩)] W fun e W' => e = .returned (.bool (p (shAt xs j))) ∧ Grew W W') :
    Calls Tryz.prog 95 #[.slice a xs.length cap, .func (.func 141) #[] #[.pointer (some ⟨cb, 0, none⟩)]] w fun e w' => e = .returned (.int .i64 (idxI p xs)) ∧ Grew w w' := by
  have HA := hid hA
  have HP := hid hp
  clear hA hp
  go_enter Tryz.func95, Tryz.ntmps95
  go_wp2_with fail
  go_loopw [8] (fun i wr => ∃ k : Nat, k ≤ xs.length ∧ i = .int .i64 k ∧ Hid ((xs.take k).all (fun c => !p c) = true) ∧ Grew w wr) (fun i _ => xs.length - (intOf i).toNat)
  case atStart => exact ⟨0, Nat.zero_le _, rfl, rfl, Grew.refl w⟩
  case round =>
    obtain ⟨k, hk1, rfl, HN, hG⟩ := hrel
    by_cases hlt : k < xs.length
    · rcases HA.out with h0 | ⟨b, off, rfl, hb, hR⟩
      · rw [h0] at hlt; simp at hlt
      have q0 := (hG.cells.1 b (off + k * 5) hb).trans (hR.id k hlt)
      have q1 := (hG.cells.1 b (off + k * 5 + 1) hb).trans (hR.server k hlt)
      have q2 := (hG.cells.1 b (off + k * 5 + 2) hb).trans (hR.since k hlt)
      have q3 := (hG.cells.1 b (off + k * 5 + 3) hb).trans (hR.lo k hlt)
      have q4 := (hG.cells.1 b (off + k * 5 + 4) hb).trans (hR.hi k hlt)
      have HC := hid (HP.out k hlt)
      have hat : shAt xs k = xs[k] := shAt_eq xs k hlt
      have HAT := hid hat
      clear hR hat
      have HS := hid (idx_some p xs k hlt HN.out)
      have HN2 := hid (idx_next p xs k hlt HN.out)
      rw [← HAT.out] at HS HN2
      generalize shAt xs k = c at *
      clear HAT
      unfold Sh.aggOf at HC
      cases hpc : p c with
      | true =>
        rw [hpc] at HC
        have HS2 := hid (HS.out hpc)
        obtain ⟨c0, c1, c2, c3, c4⟩ := c
        dsimp only [Sh.vals] at *
        clear hpc HS HN2
        go_wp2_with fail
        refine (HC.out _ hG).mono ?_
        rintro e w1 ⟨rfl, hg1⟩
        go_wp2_with fail
        go_ret
        exact ⟨ret_int HS2.out.symm, hG.trans hg1⟩
      | false =>
        rw [hpc] at HC
        have HS2 := hid (HN2.out hpc)
        obtain ⟨c0, c1, c2, c3, c4⟩ := c
        dsimp only [Sh.vals] at *
        clear hpc HS HN2
        go_wp2_with fail
        refine (HC.out _ hG).mono ?_
        rintro e w1 ⟨rfl, hg1⟩
        go_wp2_with fail
        go_roundw
        case rel => exact ⟨k + 1, by omega, by go_num, HS2, hG.trans hg1⟩
        case measure => simp [intOf]; omega
    · obtain rfl : k = xs.length := by omega
      have HE := hid (idx_none p xs (by have := HN.out; rwa [List.take_length] at this))
      go_wp2_with fail
      go_ret
      exact ⟨ret_int HE.out.symm, hG⟩
end Go.Proofs.YtbdagllflamabaaGreatDoor
namespace Go.Proofs.YtbdagllflamabaaGreatDoor
open Go.RowKit
attribute [local go_sem] Oper.semAt_some
set_option maxRecDepth 100000 in
set_option maxHeartbeats 1000000 in
theorem idxShardOwner (p : Sh → Bool) (cb : Nat) (a : Option Addr) (cap : Nat) (xs : List Sh) (w : World) (hA : ShsAt w a xs) (hx : xs.length ≤ 1000000)
    (hp : ∀ j, j < xs.length → ∀ W, Grew w W → Calls Tryz.prog 96 #[(shAt xs j).aggOf, .pointer (some ⟨cb, 0, none⟩)] W fun e W' => e = .returned (.bool (p (shAt xs j))) ∧ Grew W W') :
    Calls Tryz.prog 95 #[.slice a xs.length cap, .func (.func 96) #[] #[.pointer (some ⟨cb, 0, none⟩)]] w fun e w' => e = .returned (.int .i64 (idxI p xs)) ∧ Grew w w' := by
  have HA := hid hA
  have HP := hid hp
  clear hA hp
  go_enter Tryz.func95, Tryz.ntmps95
  go_wp2_with fail
  go_loopw [8] (fun i wr => ∃ k : Nat, k ≤ xs.length ∧ i = .int .i64 k ∧ Hid ((xs.take k).all (fun c => !p c) = true) ∧ Grew w wr) (fun i _ => xs.length - (intOf i).toNat)
  case atStart => exact ⟨0, Nat.zero_le _, rfl, rfl, Grew.refl w⟩
  case round =>
    obtain ⟨k, hk1, rfl, HN, hG⟩ := hrel
    by_cases hlt : k < xs.length
    · rcases HA.out with h0 | ⟨b, off, rfl, hb, hR⟩
      · rw [h0] at hlt; simp at hlt
      have q0 := (hG.cells.1 b (off + k * 5) hb).trans (hR.id k hlt)
      have q1 := (hG.cells.1 b (off + k * 5 + 1) hb).trans (hR.server k hlt)
      have q2 := (hG.cells.1 b (off + k * 5 + 2) hb).trans (hR.since k hlt)
      have q3 := (hG.cells.1 b (off + k * 5 + 3) hb).trans (hR.lo k hlt)
      have q4 := (hG.cells.1 b (off + k * 5 + 4) hb).trans (hR.hi k hlt)
      have HC := hid (HP.out k hlt)
      have hat : shAt xs k = xs[k] := shAt_eq xs k hlt
      have HAT := hid hat
      clear hR hat
      have HS := hid (idx_some p xs k hlt HN.out)
      have HN2 := hid (idx_next p xs k hlt HN.out)
      rw [← HAT.out] at HS HN2
      generalize shAt xs k = c at *
      clear HAT
      unfold Sh.aggOf at HC
      cases hpc : p c with
      | true =>
        rw [hpc] at HC
        have HS2 := hid (HS.out hpc)
        obtain ⟨c0, c1, c2, c3, c4⟩ := c
        dsimp only [Sh.vals] at *
        clear hpc HS HN2
        go_wp2_with fail
        refine (HC.out _ hG).mono ?_
        rintro e w1 ⟨rfl, hg1⟩
        go_wp2_with fail
        go_ret
        exact ⟨ret_int HS2.out.symm, hG.trans hg1⟩
      | false =>
        rw [hpc] at HC
        have HS2 := hid (HN2.out hpc)
        obtain ⟨c0, c1, c2, c3, c4⟩ := c
        dsimp only [Sh.vals] at *
        clear hpc HS HN2
        go_wp2_with fail
        refine (HC.out _ hG).mono ?_
        rintro e w1 ⟨rfl, hg1⟩
        go_wp2_with fail
        go_roundw
        case rel => exact ⟨k + 1, by omega, by go_num, HS2, hG.trans hg1⟩
        case measure => simp [intOf]; omega
    · obtain rfl : k = xs.length := by omega
      have HE := hid (idx_none p xs (by have := HN.out; rwa [List.take_length] at this))
      go_wp2_with fail
      go_ret
      exact ⟨ret_int HE.out.symm, hG⟩
end Go.Proofs.YtbdagllflamabaaGreatDoor
