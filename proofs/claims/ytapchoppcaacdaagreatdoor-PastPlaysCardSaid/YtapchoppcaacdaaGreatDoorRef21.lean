/- The walks of tidewaterref21: find, Get, Sorted, Scan. -/
import Derived.Test.YtapchoppcaacdaaGreatDoorScanP
import Derived.Test.YtapchoppcaacdaaGreatDoorRef03b
import Derived.Test.YtapchoppcaacdaaGreatDoorConP0
import Derived.BigQuiet
set_option linter.unusedVariables false
set_option linter.unusedSimpArgs false
namespace Go.Proofs.YtapchoppcaacdaaGreatDoor
open Go.RowKit Go.Maps
attribute [local go_sem] Oper.semAt_some

/-- The document's table in memory: read alone. -/
def MTab (w : World) (tb : Nat) (xs : List Pr) : Prop := ∃ a cap, w.cell? ⟨tb, 0, none⟩ = some (.slice a xs.length cap) ∧ PairsAt w a xs
theorem MTab.grew {w w' : World} {tb : Nat} {xs : List Pr} (h : MTab w tb xs) (g : Grew w w') : MTab w' tb xs := by
  obtain ⟨a, cap, h1, h2⟩ := h
  exact ⟨a, cap, (g.cells.1 _ _ (cell_lt h1)).trans h1, h2.grew g⟩

theorem toList_inj21 {a b : ByteArray} (h : a.toList = b.toList) : a = b := by
  rw [ByteArray.toList_eq, ByteArray.toList_eq] at h
  obtain ⟨⟨a⟩⟩ := a
  obtain ⟨⟨b⟩⟩ := b
  exact congrArg (fun l : List UInt8 => (⟨⟨l⟩⟩ : ByteArray)) h

def Pl.isK (k : ByteArray) (c : Pr) : Bool := c.key.toList == k.toList
theorem Pl.isK_iff (k : ByteArray) (c : Pr) : Pl.isK k c = true ↔ c.key = k := by
  unfold Pl.isK
  rw [beq_iff_eq]
  exact ⟨toList_inj21, fun h => by rw [h]⟩

set_option maxRecDepth 100000 in
set_option maxHeartbeats 1000000 in
theorem find21_any {w : World} {tb : Nat} {xs : List Pr} (h : MTab w tb xs) (hx : xs.length ≤ 1000000) (key : ByteArray) :
    Calls Tryz.prog 96 #[.pointer (some ⟨tb, 0, none⟩), .string key] w fun e w' => e = .returned (.int .i64 (idxI (Pl.isK key) xs)) ∧ Grew w w' := by
  obtain ⟨a, cap, c0, hA⟩ := h
  have htb := cell_lt c0
  have HA := hid hA
  clear hA
  go_enter Tryz.func96, Tryz.ntmps96
  go_wp2_with fail
  go_loopw [12] (fun i wr => ∃ k : Nat, k ≤ xs.length ∧ i = .int .i64 k ∧ Hid ((xs.take k).all (fun c => !Pl.isK key c) = true) ∧ Grew w wr) (fun i _ => xs.length - (intOf i).toNat)
  case atStart => exact ⟨0, Nat.zero_le _, rfl, rfl, Grew.refl w⟩
  case round =>
    obtain ⟨k, hk1, rfl, HN, hG⟩ := hrel
    by_cases hlt : k < xs.length
    · rcases HA.out with h0 | ⟨b, off, rfl, hb, hR⟩
      · rw [h0] at hlt; simp at hlt
      have q0 := (hG.cells.1 b (off + k * 3) hb).trans (hR.key k hlt)
      have q1 := (hG.cells.1 b (off + k * 3 + 1) hb).trans (hR.val k hlt)
      have q2 := (hG.cells.1 b (off + k * 3 + 2) hb).trans (hR.ver k hlt)
      have hat : prAt xs k = xs[k] := prAt_eq xs k hlt
      have HS := hid (idx_some (Pl.isK key) xs k hlt HN.out)
      have HN2 := hid (idx_next (Pl.isK key) xs k hlt HN.out)
      rw [← hat] at HS HN2
      clear hat hR
      generalize prAt xs k = c at *
      obtain ⟨ck, cv, cn⟩ := c
      dsimp only at *
      cases hpc : (ck.toList == key.toList) with
      | true =>
        have HS2 := hid (HS.out hpc)
        clear HS HN2
        go_wp2_with fail
        go_ret
        exact ⟨ret_int HS2.out.symm, hG.alloc _⟩
      | false =>
        have HS2 := hid (HN2.out hpc)
        clear HS HN2
        go_wp2_with fail
        go_roundw
        case rel => exact ⟨k + 1, by omega, by go_num, HS2, hG.alloc _⟩
        case measure => simp [intOf]; omega
    · obtain rfl : k = xs.length := by omega
      have HE := hid (idx_none (Pl.isK key) xs (by have := HN.out; rwa [List.take_length] at this))
      go_wp2_with fail
      go_ret
      exact ⟨ret_int HE.out.symm, hG⟩

theorem idx_find {α : Type} (p : α → Bool) (xs : List α) : (idxI p xs = -1 ∧ xs.find? p = none) ∨ ∃ i : Nat, ∃ h : i < xs.length, idxI p xs = (i : Nat) ∧ xs.find? p = some xs[i] := by
  unfold idxI
  cases h : xs.findIdx? p with
  | none =>
    refine .inl ⟨rfl, ?_⟩
    rw [List.findIdx?_eq_none_iff] at h
    rw [List.find?_eq_none]
    intro x hx; simpa using h x hx
  | some i =>
    obtain ⟨hi, h1, h2⟩ := List.findIdx?_eq_some_iff_getElem.1 h
    refine .inr ⟨i, hi, rfl, ?_⟩
    rw [List.find?_eq_some_iff_getElem]
    exact ⟨h1, i, hi, rfl, fun j hj => by simpa using h2 j hj⟩

set_option maxRecDepth 100000 in
set_option maxHeartbeats 1000000 in
theorem get21_any {w : World} {tb : Nat} {xs : List Pr} (h : MTab w tb xs) (hx : xs.length ≤ 1000000) (key : ByteArray) :
    Calls Tryz.prog 48 #[.pointer (some ⟨tb, 0, none⟩), .string key] w fun e w' => e = .returned (.tuple #[((xs.find? (Pl.isK key)).getD Pr.none).agg, .bool (xs.find? (Pl.isK key)).isSome]) ∧ Grew w w' := by
  have HF := hid (fun W (g : Grew w W) => find21_any (h.grew g) hx key)
  obtain ⟨a, cap, c0, hA⟩ := h
  have htb := cell_lt c0
  have HA := hid hA
  clear hA
  rcases idx_find (Pl.isK key) xs with ⟨e1, e2⟩ | ⟨i, hi, e1, e2⟩
  · rw [e1] at HF
    rw [e2]
    clear e1 e2
    go_enter Tryz.func48, Tryz.ntmps48
    go_wp2_with fail
    refine (HF.out _ ((Grew.refl w).alloc _)).mono ?_
    rintro e w1 ⟨rfl, hg⟩
    have hz : w.heap.size < w1.heap.size := by have := hg.size; simp at this; omega
    obtain ⟨hc, hf⟩ := hg.cells
    go_wp2_with fail
    refine bodyPost_ret (v := .tuple #[Pr.none.agg, .bool false]) (by simp [results, Tryz.results48, go_sem, hc, hz, Pr.agg, Pr.none]) rfl ⟨rfl, ?_⟩
    have hG := ((Grew.refl w).alloc _).trans hg
    refine ((hG.setCell ?_ _).setCell ?_ _).setCell ?_ _ <;> exact Nat.le_refl _
  · rw [e1] at HF
    rw [e2]
    rcases HA.out with h0 | ⟨b, off, rfl, hb, hR⟩
    · rw [h0] at hi; simp at hi
    have hat : prAt xs i = xs[i] := prAt_eq xs i hi
    have q0 := hR.key i hi
    have q1 := hR.val i hi
    have q2 := hR.ver i hi
    rw [← hat]
    clear hat hR e1 e2
    generalize prAt xs i = c at *
    obtain ⟨ck, cv, cn⟩ := c
    dsimp only at *
    have hneg : ¬ (i : Int) < 0 := by omega
    have hilt : (i : Int) < (xs.length : Int) := by omega
    go_enter Tryz.func48, Tryz.ntmps48
    go_wp2_with fail
    refine (HF.out _ ((Grew.refl w).alloc _)).mono ?_
    rintro e w1 ⟨rfl, hg⟩
    have hz : w.heap.size < w1.heap.size := by have := hg.size; simp at this; omega
    obtain ⟨hc, hf⟩ := hg.cells
    have hG := ((Grew.refl w).alloc (Obj.cells #[.string ⟨#[]⟩, .string ⟨#[]⟩, .int .i64 0] 82)).trans hg
    have c1 := (hG.cells.1 _ _ htb).trans c0
    have r0 := (hG.cells.1 _ _ hb).trans q0
    have r1 := (hG.cells.1 _ _ hb).trans q1
    have r2 := (hG.cells.1 _ _ hb).trans q2
    have htb1 := Nat.lt_of_lt_of_le htb hG.size
    have hb1 := Nat.lt_of_lt_of_le hb hG.size
    go_wp2_with fail
    refine bodyPost_ret (v := .tuple #[.agg #[.string ck, .string cv, .int .i64 cn], .bool true]) (by simp [results, Tryz.results48, go_sem, hc, hz]) rfl ⟨rfl, ?_⟩
    refine ((hG.setCell ?_ _).setCell ?_ _).setCell ?_ _ <;> exact Nat.le_refl _
end Go.Proofs.YtapchoppcaacdaaGreatDoor
