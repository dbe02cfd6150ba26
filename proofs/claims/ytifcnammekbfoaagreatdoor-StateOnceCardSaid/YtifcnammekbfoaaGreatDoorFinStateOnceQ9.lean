/- A table in memory; the walks of table.New, find, at, Get, Len. -/
import Derived.Test.YtifcnammekbfoaaGreatDoorFinStateOnceQ6
import Derived.Test.YtifcnammekbfoaaGreatDoorFinStateOnceQ8
namespace Go.Proofs.YtifcnammekbfoaaGreatDoor
open Go.RowKit Go.Maps
attribute [local go_sem] Oper.semAt_some

/-- The sentinels that a table answers with. -/
structure TabS (S : Nat → Bool) : Prop where
  h1 : S 1 = true
  h2 : S 2 = true
  h3 : S 3 = true
  h6 : S 6 = true
  h7 : S 7 = true
structure TableIs (w : World) (F : Nat → Prop) (tb : Nat) (v : Value) (xs : List Pr) : Prop where
  cell : w.cell? ⟨tb, 0, none⟩ = some v
  fz : w.frozen? ⟨tb, 0, none⟩ = false
  row : w.ownsRow 0 104 3 v xs.length (prFlat xs)
  srt : Pl.Srt xs
  sz : ∀ c ∈ xs, c.key.size ≤ 70368744177664
  foot0 : F tb
  foot1 : ∀ g, v.ownBlock = some g → F g ∧ g ≠ tb
  lt : ∀ j, F j → j < w.heap.size
def TabAt (w : World) (F : Nat → Prop) (tb : Nat) (xs : List Pr) : Prop := ∃ v, TableIs w F tb v xs
theorem TableIs.kept {w w' : World} {F S : Nat → Prop} {tb : Nat} {v : Value} {xs : List Pr} (h : TableIs w F tb v xs) (g : Only S w w') (hS : ∀ j, F j → ¬ S j) : TableIs w' F tb v xs where
  cell := (g.cell (cell_lt h.cell) (hS _ h.foot0) 0).trans h.cell
  fz := (g.frozen (cell_lt h.cell) (hS _ h.foot0) 0).trans h.fz
  row := by
    refine ⟨h.row.1, ?_⟩
    rcases h.row.2 with h2 | ⟨b, cap, cur, e1, h2, h3, h4⟩
    · exact .inl h2
    · exact .inr ⟨b, cap, cur, e1, h2, (g.block b (Array.getElem?_eq_some_iff.1 h3).1 (hS b (h.foot1 b (by rw [e1]; rfl)).1)).trans h3, h4⟩
  srt := h.srt
  sz := h.sz
  foot0 := h.foot0
  foot1 := h.foot1
  lt j hj := Nat.lt_of_lt_of_le (h.lt j hj) g.size
theorem TableIs.grew {w w' : World} {F : Nat → Prop} {tb : Nat} {v : Value} {xs : List Pr} (h : TableIs w F tb v xs) (g : Grew w w') : TableIs w' F tb v xs := h.kept (g.only fun _ => False) (fun _ _ h => h)
theorem TabAt.kept {w w' : World} {F S : Nat → Prop} {tb : Nat} {xs : List Pr} (h : TabAt w F tb xs) (g : Only S w w') (hS : ∀ j, F j → ¬ S j) : TabAt w' F tb xs := by
  obtain ⟨v, h⟩ := h; exact ⟨v, h.kept g hS⟩
theorem TabAt.grew {w w' : World} {F : Nat → Prop} {tb : Nat} {xs : List Pr} (h : TabAt w F tb xs) (g : Grew w w') : TabAt w' F tb xs := by
  obtain ⟨v, h⟩ := h; exact ⟨v, h.grew g⟩
theorem TableIs.szAt {w : World} {F : Nat → Prop} {tb : Nat} {v : Value} {xs : List Pr} (h : TableIs w F tb v xs) : ∀ j, j < xs.length → (prAt xs j).key.size ≤ 70368744177664 := fun j hj => h.sz _ (Pl.prAt_mem xs j hj)

theorem newT_any (w : World) : Calls Tryz.prog 10 #[] w fun e w' => e = .returned (.pointer (some ⟨w.heap.size, 0, none⟩)) ∧ Grew w w' ∧ TabAt w' (fun j => j = w.heap.size) w.heap.size [] := by
  go_enter Tryz.func10, Tryz.ntmps10
  go_wp2_with fail
  go_ret
  exact ⟨rfl, (Grew.refl w).alloc _, _, ⟨by simp [go_sem], by simp [go_sem], World.ownsRow_nil _ _ _ _, Pl.srt_nil, by simp, rfl, (fun g hg => by cases hg), (fun j hj => by subst hj; simp)⟩⟩

theorem findT_any {w : World} {F : Nat → Prop} {tb : Nat} {xs : List Pr} (h : TabAt w F tb xs) (hx : xs.length ≤ 1000000) (key : ByteArray) (hy : key.size ≤ 70368744177664) (hk : Pl.Ok key) :
    Calls Tryz.prog 97 #[.pointer (some ⟨tb, 0, none⟩), .string key] w fun e w' => e = .returned (.tuple #[.int .i64 (Pl.pos xs key : Nat), .bool (Pl.hasB xs key)]) ∧ Grew w w' := by
  obtain ⟨v, h⟩ := h
  obtain ⟨a, cap, rfl, hA⟩ := pairsAt_of h.row
  have c0 := h.cell
  have hB : ∀ W, Grew w W → Calls Tryz.prog 148 #[.slice a xs.length cap, .string key, .func (.func 149) #[] #[]] W fun e w' => e = .returned (.tuple #[.int .i64 ((Pl.pos xs key : Nat) : Int), .bool (Pl.hasB xs key)]) ∧ Grew W w' :=
    fun W (g : Grew w W) => bsearch_any a cap xs key W (hA.grew g) hx h.szAt hy (Pl.pos xs key) (Pl.pos_le xs key) (Pl.pos_iff hk h.srt)
  have HB := hid hB
  clear hB
  clear h hA
  go_enter Tryz.func97, Tryz.ntmps97
  go_wp2_with fail
  refine (HB.out _ (Grew.refl w)).mono ?_
  rintro e w1 ⟨rfl, hg⟩
  go_wp2_with fail
  go_ret2
  exact ⟨rfl, hg⟩

namespace Pl
/-- Where a key is; -1: it isn't there. -/
def atT (xs : List Pr) (k : ByteArray) : Int := if keyN k = 0 ∧ hasB xs k = true then ((pos xs k : Nat) : Int) else -1
end Pl
theorem atT_any {S : Nat → Bool} (hS : TabS S) (E : Nat → Addr) {w : World} (hE : Errs S E w) {F : Nat → Prop} {tb : Nat} {xs : List Pr} (h : TabAt w F tb xs) (hx : xs.length ≤ 1000000) (key : ByteArray) (hy : key.size ≤ 70368744177664) :
    Calls Tryz.prog 99 #[.pointer (some ⟨tb, 0, none⟩), .string key] w fun e w' => e = .returned (.int .i64 (Pl.atT xs key)) ∧ Grew w w' := by
  have HE := hid hE
  have HT := hid h
  clear hE h
  by_cases hk : Pl.keyN key = 0
  · have HK : Hid (errOf E (Pl.keyN key) = .nilIface) := by unfold Hid; rw [hk]; rfl
    have HF := hid (fun W (g : Grew w W) => findT_any (HT.out.grew g) hx key hy (Pl.ok_key hk))
    have HA : Hid (Pl.atT xs key = if Pl.hasB xs key = true then ((Pl.pos xs key : Nat) : Int) else -1) := by
      unfold Hid Pl.atT
      by_cases hb : Pl.hasB xs key = true
      · rw [if_pos ⟨hk, hb⟩, if_pos hb]
      · rw [if_neg (fun h => hb h.2), if_neg hb]
    clear hk
    generalize Pl.pos xs key = p at *
    generalize Pl.hasB xs key = b at *
    go_enter Tryz.func99, Tryz.ntmps99
    go_wp2_with fail
    refine (key_any S E hS.h2 hS.h3 hS.h6 hS.h7 key _ (by omega) HE.out).mono ?_
    rw [HK.out]
    rintro e w1 ⟨rfl, hg⟩
    go_wp2_with fail
    refine (HF.out _ hg).mono ?_
    rintro e w2 ⟨rfl, hg2⟩
    cases b with
    | true =>
      go_wp2_with fail
      go_ret
      exact ⟨ret_int (by rw [HA.out]; rfl), hg.trans hg2⟩
    | false =>
      go_wp2_with fail
      go_ret
      exact ⟨ret_int (by rw [HA.out]; rfl), hg.trans hg2⟩
  · have HK := hid (show errOf E (Pl.keyN key) = .iface 293 (.pointer (some (E (Pl.keyN key)))) from errOf_pos E _ hk)
    have HA : Hid (Pl.atT xs key = -1) := by unfold Hid Pl.atT; rw [if_neg (fun h => hk h.1)]
    go_enter Tryz.func99, Tryz.ntmps99
    go_wp2_with fail
    refine (key_any S E hS.h2 hS.h3 hS.h6 hS.h7 key _ (by omega) HE.out).mono ?_
    rw [HK.out]
    rintro e w1 ⟨rfl, hg⟩
    go_wp2_with fail
    go_ret
    exact ⟨ret_int (by rw [HA.out]), hg⟩

namespace Pl
/-- A key's pair. -/
def getT (xs : List Pr) (k : ByteArray) : Option Pr := if keyN k = 0 ∧ hasB xs k = true then some (prAt xs (pos xs k)) else none
theorem getT_some {xs : List Pr} (h : Srt xs) {k : ByteArray} {c : Pr} (hg : getT xs k = some c) : c ∈ xs ∧ c.key = k := by
  unfold getT at hg
  split at hg
  · next hh =>
    cases hg
    have := hasB_key h (ok_key hh.1) hh.2
    exact ⟨prAt_mem xs _ this.1, this.2⟩
  · cases hg
theorem getT_mem {xs : List Pr} (h : Srt xs) {c : Pr} (hc : c ∈ xs) : getT xs c.key = some c := by
  have := hasB_of_mem h hc
  unfold getT
  rw [if_pos ⟨h.key c hc, this.1⟩, this.2]
theorem getT_none {xs : List Pr} (h : Srt xs) {k : ByteArray} (hn : ∀ c ∈ xs, c.key ≠ k) : getT xs k = none := by
  cases hg : getT xs k with
  | none => rfl
  | some c => exact absurd (getT_some h hg).2 (hn c (getT_some h hg).1)
end Pl
theorem getTab_any {S : Nat → Bool} (hS : TabS S) (E : Nat → Addr) {w : World} (hE : Errs S E w) {F : Nat → Prop} {tb : Nat} {xs : List Pr} (h : TabAt w F tb xs) (hx : xs.length ≤ 1000000) (key : ByteArray) (hy : key.size ≤ 70368744177664) :
    Calls Tryz.prog 45 #[.pointer (some ⟨tb, 0, none⟩), .string key] w fun e w' => e = .returned (.tuple #[((Pl.getT xs key).getD Pr.none).agg, .bool (Pl.getT xs key).isSome]) ∧ Grew w w' := by
  have HE := hid hE
  have HT := hid h
  obtain ⟨v, h⟩ := h
  obtain ⟨a, cap, rfl, hA⟩ := pairsAt_of h.row
  have c0 := h.cell
  have hb : tb < w.heap.size := cell_lt c0
  have HS := hid h.srt
  clear hE h
  by_cases hh : Pl.keyN key = 0 ∧ Pl.hasB xs key = true
  · have hg : Pl.getT xs key = some (prAt xs (Pl.pos xs key)) := by unfold Pl.getT; rw [if_pos hh]
    have ha : Pl.atT xs key = (Pl.pos xs key : Nat) := by unfold Pl.atT; rw [if_pos hh]
    have hp := (Pl.hasB_key HS.out (Pl.ok_key hh.1) hh.2).1
    have hR := hid (fun W (g : Grew w W) => atT_any hS E (HE.out.grew g) (HT.out.grew g) hx key hy)
    rw [hg]
    rw [ha] at hR
    clear hg ha hh
    generalize Pl.pos xs key = p at *
    rcases hA with h0 | ⟨b, off, rfl, hbb, hRow⟩
    · rw [h0] at hp; simp at hp
    have q0 := hRow.key p hp
    have q1 := hRow.val p hp
    have q2 := hRow.ver p hp
    clear hRow
    have hpI : (p : Int) < (xs.length : Int) := by omega
    generalize prAt xs p = c at *
    obtain ⟨ck, cv, cn⟩ := c
    dsimp only at *
    go_enter Tryz.func45, Tryz.ntmps45
    go_wp2_with fail
    refine (hR.out _ ((Grew.refl w).alloc _)).mono ?_
    rintro e w1 ⟨rfl, hg⟩
    have hz : w.heap.size < w1.heap.size := by have := hg.size; simp at this; omega
    obtain ⟨hc, hf⟩ := hg.cells
    go_wp2_with fail
    refine bodyPost_ret (v := .tuple #[.agg #[.string ck, .string cv, .int .i64 cn], .bool true]) (by simp [results, Tryz.results45, go_sem, hc]) rfl ⟨rfl, ?_⟩
    have hG := ((Grew.refl w).alloc _).trans hg
    refine ((hG.setCell ?_ _).setCell ?_ _).setCell ?_ _ <;> exact Nat.le_refl _
  · have hg : Pl.getT xs key = none := by unfold Pl.getT; rw [if_neg hh]
    have ha : Pl.atT xs key = -1 := by unfold Pl.atT; rw [if_neg hh]
    have hR := hid (fun W (g : Grew w W) => atT_any hS E (HE.out.grew g) (HT.out.grew g) hx key hy)
    rw [hg]
    rw [ha] at hR
    clear hg ha hh
    go_enter Tryz.func45, Tryz.ntmps45
    go_wp2_with fail
    refine (hR.out _ ((Grew.refl w).alloc _)).mono ?_
    rintro e w1 ⟨rfl, hg⟩
    have hz : w.heap.size < w1.heap.size := by have := hg.size; simp at this; omega
    obtain ⟨hc, hf⟩ := hg.cells
    go_wp2_with fail
    refine bodyPost_ret (v := .tuple #[.agg #[.string ⟨#[]⟩, .string ⟨#[]⟩, .int .i64 0], .bool false]) (by simp [results, Tryz.results45, go_sem, hc]) rfl ⟨rfl, ?_⟩
    have hG := ((Grew.refl w).alloc _).trans hg
    refine ((hG.setCell ?_ _).setCell ?_ _).setCell ?_ _ <;> exact Nat.le_refl _

theorem lenT_any {w : World} {F : Nat → Prop} {tb : Nat} {xs : List Pr} (h : TabAt w F tb xs) : Calls Tryz.prog 46 #[.pointer (some ⟨tb, 0, none⟩)] w fun e w' => e = .returned (.int .i64 (xs.length : Nat)) ∧ w = w' := by
  obtain ⟨v, h⟩ := h
  obtain ⟨a, cap, rfl, hA⟩ := pairsAt_of h.row
  have c0 := h.cell
  clear h hA
  go_enter Tryz.func46, Tryz.ntmps46
  go_wp2_with fail
  go_ret
  exact ⟨rfl, rfl⟩
end Go.Proofs.YtifcnammekbfoaaGreatDoor
