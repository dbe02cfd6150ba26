/- Tab2, ConP, CmpD0: one text. -/
import Derived.Test.YtifcnammekbfoaaGreatDoorFinTablePlaysQ6
import Derived.Test.YtifcnammekbfoaaGreatDoorFinTablePlaysQ14
import Derived.Test.YtifcnammekbfoaaGreatDoorFinTablePlaysQ11
import Derived.Deep.Upon
import Derived.Lib.AppendZeros
import Derived.Deep.AppendLies
import Derived.Test.YtifcnammekbfoaaGreatDoorFinTablePlaysQ5
import Derived.Shelf.GgSortFunc.Insertion
import Derived.Test.YtifcnammekbfoaaGreatDoorFinTablePlaysQ1
/- A table in memory; the walks of table.New, find, at, Get, Len. -/
namespace Go.Proofs.YtifcnammekbfoaaGreatDoor
open Go.RowKit Go.Maps
attribute [local go_sem] Oper.semAt_some

/-- The sentinels that a table answers with. -/
structure TabS (S : Nat → Bool) : Prop where
  h1 : S 1 = true
  h2 : S 2 = true
  h3 : S 3 = true
  h6 : S 6 = true
  h7 : S 7 = true
structure TableIs (w : World) (F : Nat → Prop) (tb : Nat) (v : Value) (xs : List Pr) : Prop where
  cell : w.cell? ⟨tb, 0, none⟩ = some v
  fz : w.frozen? ⟨tb, 0, none⟩ = false
  row : w.ownsRow 0 104 3 v xs.length (prFlat xs)
  srt : Pl.Srt xs
  sz : ∀ c ∈ xs, c.key.size ≤ 70368744177664
  foot0 : F tb
  foot1 : ∀ g, v.ownBlock = some g → F g ∧ g ≠ tb
  lt : ∀ j, F j → j < w.heap.size
def TabAt (w : World) (F : Nat → Prop) (tb : Nat) (xs : List Pr) : Prop := ∃ v, TableIs w F tb v xs
theorem TableIs.kept {w w' : World} {F S : Nat → Prop} {tb : Nat} {v : Value} {xs : List Pr} (h : TableIs w F tb v xs) (g : Only S w w') (hS : ∀ j, F j → ¬ S j) : TableIs w' F tb v xs where
  cell := (g.cell (cell_lt h.cell) (hS _ h.foot0) 0).trans h.cell
  fz := (g.frozen (cell_lt h.cell) (hS _ h.foot0) 0).trans h.fz
  row := by
    refine ⟨h.row.1, ?_⟩
    rcases h.row.2 with h2 | ⟨b, cap, cur, e1, h2, h3, h4⟩
    · exact .inl h2
    · exact .inr ⟨b, cap, cur, e1, h2, (g.block b (Array.getElem?_eq_some_iff.1 h3).1 (hS b (h.foot1 b (by rw [e1]; rfl)).1)).trans h3, h4⟩
  srt := h.srt
  sz := h.sz
  foot0 := h.foot0
  foot1 := h.foot1
  lt j hj := Nat.lt_of_lt_of_le (h.lt j hj) g.size
theorem TableIs.grew {w w' : World} {F : Nat → Prop} {tb : Nat} {v : Value} {xs : List Pr} (h : TableIs w F tb v xs) (g : Grew w w') : TableIs w' F tb v xs := h.kept (g.only fun _ => False) (fun _ _ h => h)
theorem TabAt.kept {w w' : World} {F S : Nat → Prop} {tb : Nat} {xs : List Pr} (h : TabAt w F tb xs) (g : Only S w w') (hS : ∀ j, F j → ¬ S j) : TabAt w' F tb xs := by
  obtain ⟨v, h⟩ := h; exact ⟨v, h.kept g hS⟩
theorem TabAt.grew {w w' : World} {F : Nat → Prop} {tb : Nat} {xs : List Pr} (h : TabAt w F tb xs) (g : Grew w w') : TabAt w' F tb xs := by
  obtain ⟨v, h⟩ := h; exact ⟨v, h.grew g⟩
theorem TableIs.szAt {w : World} {F : Nat → Prop} {tb : Nat} {v : Value} {xs : List Pr} (h : TableIs w F tb v xs) : ∀ j, j < xs.length → (prAt xs j).key.size ≤ 70368744177664 := fun j hj => h.sz _ (Pl.prAt_mem xs j hj)

theorem newT_any (w : World) : Calls Tryz.prog 10 #[] w fun e w' => e = .returned (.pointer (some ⟨w.heap.size, 0, none⟩)) ∧ Grew w w' ∧ TabAt w' (fun j => j = w.heap.size) w.heap.size [] := by
  go_enter Tryz.func10, Tryz.ntmps10
  go_wp2_with fail
  go_ret
  exact ⟨rfl, (Grew.refl w).alloc _, _, ⟨by simp [go_sem], by simp [go_sem], World.ownsRow_nil _ _ _ _, Pl.srt_nil, by simp, rfl, (fun g hg => by cases hg), (fun j hj => by subst hj; simp)⟩⟩

theorem findT_any {w : World} {F : Nat → Prop} {tb : Nat} {xs : List Pr} (h : TabAt w F tb xs) (hx : xs.length ≤ 1000000) (key : ByteArray) (hy : key.size ≤ 70368744177664) (hk : Pl.Ok key) :
    Calls Tryz.prog 97 #[.pointer (some ⟨tb, 0, none⟩), .string key] w fun e w' => e = .returned (.tuple #[.int .i64 (Pl.pos xs key : Nat), .bool (Pl.hasB xs key)]) ∧ Grew w w' := by
  obtain ⟨v, h⟩ := h
  obtain ⟨a, cap, rfl, hA⟩ := pairsAt_of h.row
  have c0 := h.cell
  have hB : ∀ W, Grew w W → Calls Tryz.prog 148 #[.slice a xs.length cap, .string key, .func (.func 149) #[] #[]] W fun e w' => e = .returned (.tuple #[.int .i64 ((Pl.pos xs key : Nat) : Int), .bool (Pl.hasB xs key)]) ∧ Grew W w' :=
    fun W (g : Grew w W) => bsearch_any a cap xs key W (hA.grew g) hx h.szAt hy (Pl.pos xs key) (Pl.pos_le xs key) (Pl.pos_iff hk h.srt)
  have HB := hid hB
  clear hB
  clear h hA
  go_enter Tryz.func97, Tryz.ntmps97
  go_wp2_with fail
  refine (HB.out _ (Grew.refl w)).mono ?_
  rintro e w1 ⟨rfl, hg⟩
  go_wp2_with fail
  go_ret2
  exact ⟨rfl, hg⟩

namespace Pl
/-- Where a key is; -1: it isn't there. -/
def atT (xs : List Pr) (k : ByteArray) : Int := if keyN k = 0 ∧ hasB xs k = true then ((pos xs k : Nat) : Int) else -1
end Pl
theorem atT_any {S : Nat → Bool} (hS : TabS S) (E : Nat → Addr) {w : World} (hE : Errs S E w) {F : Nat → Prop} {tb : Nat} {xs : List Pr} (h : TabAt w F tb xs) (hx : xs.length ≤ 1000000) (key : ByteArray) (hy : key.size ≤ 70368744177664) :
    Calls Tryz.prog 99 #[.pointer (some ⟨tb, 0, none⟩), .string key] w fun e w' => e = .returned (.int .i64 (Pl.atT xs key)) ∧ Grew w w' := by
  have HE := hid hE
  have HT := hid h
  clear hE h
  by_cases hk : Pl.keyN key = 0
  · have HK : Hid (errOf E (Pl.keyN key) = .nilIface) := by unfold Hid; rw [hk]; rfl
    have HF := hid (fun W (g : Grew w W) => findT_any (HT.out.grew g) hx key hy (Pl.ok_key hk))
    have HA : Hid (Pl.atT xs key = if Pl.hasB xs key = true then ((Pl.pos xs key : Nat) : Int) else -1) := by
      unfold Hid Pl.atT
      by_cases hb : Pl.hasB xs key = true
      · rw [if_pos ⟨hk, hb⟩, if_pos hb]
      · rw [if_neg (fun h => hb h.2), if_neg hb]
    clear hk
    generalize Pl.pos xs key = p at *
    generalize Pl.hasB xs key = b at *
    go_enter Tryz.func99, Tryz.ntmps99
    go_wp2_with fail
    refine (key_any S E hS.h2 hS.h3 hS.h6 hS.h7 key _ (by omega) HE.out).mono ?_
    rw [HK.out]
    rintro e w1 ⟨rfl, hg⟩
    go_wp2_with fail
    refine (HF.out _ hg).mono ?_
    rintro e w2 ⟨rfl, hg2⟩
    cases b with
    | true =>
      go_wp2_with fail
      go_ret
      exact ⟨ret_int (by rw [HA.out]; rfl), hg.trans hg2⟩
    | false =>
      go_wp2_with fail
      go_ret
      exact ⟨ret_int (by rw [HA.out]; rfl), hg.trans hg2⟩
  · have HK := hid (show errOf E (Pl.keyN key) = .iface 293 (.pointer (some (E (Pl.keyN key)))) from errOf_pos E _ hk)
    have HA : Hid (Pl.atT xs key = -1) := by unfold Hid Pl.atT; rw [if_neg (fun h => hk h.1)]
    go_enter Tryz.func99, Tryz.ntmps99
    go_wp2_with fail
    refine (key_any S E hS.h2 hS.h3 hS.h6 hS.h7 key _ (by omega) HE.out).mono ?_
    rw [HK.out]
    rintro e w1 ⟨rfl, hg⟩
    go_wp2_with fail
    go_ret
    exact ⟨ret_int (by rw [HA.out]), hg⟩

namespace Pl
/-- A key's pair. -/
def getT (xs : List Pr) (k : ByteArray) : Option Pr := if keyN k = 0 ∧ hasB xs k = true then some (prAt xs (pos xs k)) else none
theorem getT_some {xs : List Pr} (h : Srt xs) {k : ByteArray} {c : Pr} (hg : getT xs k = some c) : c ∈ xs ∧ c.key = k := by
  unfold getT at hg
  split at hg
  · next hh =>
    cases hg
    have := hasB_key h (ok_key hh.1) hh.2
    exact ⟨prAt_mem xs _ this.1, this.2⟩
  · cases hg
theorem getT_mem {xs : List Pr} (h : Srt xs) {c : Pr} (hc : c ∈ xs) : getT xs c.key = some c := by
  have := hasB_of_mem h hc
  unfold getT
  rw [if_pos ⟨h.key c hc, this.1⟩, this.2]
theorem getT_none {xs : List Pr} (h : Srt xs) {k : ByteArray} (hn : ∀ c ∈ xs, c.key ≠ k) : getT xs k = none := by
  cases hg : getT xs k with
  | none => rfl
  | some c => exact absurd (getT_some h hg).2 (hn c (getT_some h hg).1)
end Pl
theorem getTab_any {S : Nat → Bool} (hS : TabS S) (E : Nat → Addr) {w : World} (hE : Errs S E w) {F : Nat → Prop} {tb : Nat} {xs : List Pr} (h : TabAt w F tb xs) (hx : xs.length ≤ 1000000) (key : ByteArray) (hy : key.size ≤ 70368744177664) :
    Calls Tryz.prog 45 #[.pointer (some ⟨tb, 0, none⟩), .string key] w fun e w' => e = .returned (.tuple #[((Pl.getT xs key).getD Pr.none).agg, .bool (Pl.getT xs key).isSome]) ∧ Grew w w' := by
  have HE := hid hE
  have HT := hid h
  obtain ⟨v, h⟩ := h
  obtain ⟨a, cap, rfl, hA⟩ := pairsAt_of h.row
  have c0 := h.cell
  have hb : tb < w.heap.size := cell_lt c0
  have HS := hid h.srt
  clear hE h
  by_cases hh : Pl.keyN key = 0 ∧ Pl.hasB xs key = true
  · have hg : Pl.getT xs key = some (prAt xs (Pl.pos xs key)) := by unfold Pl.getT; rw [if_pos hh]
    have ha : Pl.atT xs key = (Pl.pos xs key : Nat) := by unfold Pl.atT; rw [if_pos hh]
    have hp := (Pl.hasB_key HS.out (Pl.ok_key hh.1) hh.2).1
    have hR := hid (fun W (g : Grew w W) => atT_any hS E (HE.out.grew g) (HT.out.grew g) hx key hy)
    rw [hg]
    rw [ha] at hR
    clear hg ha hh
    generalize Pl.pos xs key = p at *
    rcases hA with h0 | ⟨b, off, rfl, hbb, hRow⟩
    · rw [h0] at hp; simp at hp
    have q0 := hRow.key p hp
    have q1 := hRow.val p hp
    have q2 := hRow.ver p hp
    clear hRow
    have hpI : (p : Int) < (xs.length : Int) := by omega
    generalize prAt xs p = c at *
    obtain ⟨ck, cv, cn⟩ := c
    dsimp only at *
    go_enter Tryz.func45, Tryz.ntmps45
    go_wp2_with fail
    refine (hR.out _ ((Grew.refl w).alloc _)).mono ?_
    rintro e w1 ⟨rfl, hg⟩
    have hz : w.heap.size < w1.heap.size := by have := hg.size; simp at this; omega
    obtain ⟨hc, hf⟩ := hg.cells
    go_wp2_with fail
    refine bodyPost_ret (v := .tuple #[.agg #[.string ck, .string cv, .int .i64 cn], .bool true]) (by simp [results, Tryz.results45, go_sem, hc]) rfl ⟨rfl, ?_⟩
    have hG := ((Grew.refl w).alloc _).trans hg
    refine ((hG.setCell ?_ _).setCell ?_ _).setCell ?_ _ <;> exact Nat.le_refl _
  · have hg : Pl.getT xs key = none := by unfold Pl.getT; rw [if_neg hh]
    have ha : Pl.atT xs key = -1 := by unfold Pl.atT; rw [if_neg hh]
    have hR := hid (fun W (g : Grew w W) => atT_any hS E (HE.out.grew g) (HT.out.grew g) hx key hy)
    rw [hg]
    rw [ha] at hR
    clear hg ha hh
    go_enter Tryz.func45, Tryz.ntmps45
    go_wp2_with fail
    refine (hR.out _ ((Grew.refl w).alloc _)).mono ?_
    rintro e w1 ⟨rfl, hg⟩
    have hz : w.heap.size < w1.heap.size := by have := hg.size; simp at this; omega
    obtain ⟨hc, hf⟩ := hg.cells
    go_wp2_with fail
    refine bodyPost_ret (v := .tuple #[.agg #[.string ⟨#[]⟩, .string ⟨#[]⟩, .int .i64 0], .bool false]) (by simp [results, Tryz.results45, go_sem, hc]) rfl ⟨rfl, ?_⟩
    have hG := ((Grew.refl w).alloc _).trans hg
    refine ((hG.setCell ?_ _).setCell ?_ _).setCell ?_ _ <;> exact Nat.le_refl _

theorem lenT_any {w : World} {F : Nat → Prop} {tb : Nat} {xs : List Pr} (h : TabAt w F tb xs) : Calls Tryz.prog 46 #[.pointer (some ⟨tb, 0, none⟩)] w fun e w' => e = .returned (.int .i64 (xs.length : Nat)) ∧ w = w' := by
  obtain ⟨v, h⟩ := h
  obtain ⟨a, cap, rfl, hA⟩ := pairsAt_of h.row
  have c0 := h.cell
  clear h hA
  go_enter Tryz.func46, Tryz.ntmps46
  go_wp2_with fail
  go_ret
  exact ⟨rfl, rfl⟩
end Go.Proofs.YtifcnammekbfoaaGreatDoor

/- slices.Grow of nil and slices.Concat of two, at a table's pairs; append of pairs to an owned row. -/
namespace Go.Proofs.YtifcnammekbfoaaGreatDoor
open Go.RowKit Go.Maps
attribute [local go_sem] Oper.semAt_some

set_option maxRecDepth 100000 in
theorem growP_nil (w : World) : Calls Tryz.prog 152 #[.slice none 0 0, .int .i64 0] w fun e w' => e = .returned (.slice none 0 0) ∧ w' = w := by
  go_enter Tryz.func152, Tryz.ntmps152
  go_wp2_with fail
  go_ret
  exact ⟨rfl, rfl⟩

theorem zeroPair : (Value.cells (.agg #[.string ⟨#[]⟩, .string ⟨#[]⟩, .int .i64 0])).size = 3 := by kernel_rfl

set_option maxRecDepth 100000 in
theorem growP (w : World) (n : Nat) (h0 : 0 < n) (hn : n ≤ 2000000) : Calls Tryz.prog 152 #[.slice none 0 0, .int .i64 (n : Int)] w fun e w' => ∃ g cap, e = .returned (.slice (some ⟨g, 0, none⟩) 0 cap) ∧ w'.ownsRow w.heap.size 104 3 (.slice (some ⟨g, 0, none⟩) 0 cap) 0 [] ∧ Grew w w' := by
  obtain ⟨i0, hi0, hz0, hz1, hz2⟩ := info_parts infoPair
  have z1 : ¬ ((n : Int) < 0) := by omega
  have z2 : (n : Int) > 0 := by omega
  have z3 : IntKind.i64.wrap ((n : Int) - 0) = (n : Int) := by rw [show (n : Int) - 0 = (n : Int) by omega]; exact IntWalk.i64_in _ (by omega)
  have hge := grownCap_ge w n 0 104
  have hle := grownCap_le_maxLen w n 0 104 (by unfold maxLen; omega)
  have HO := hid (fun (c : Nat) (h1 : n ≤ c) (h2 : c ≤ maxLen) => show (w.drew.alloc (.cells (Builtin.zeroCells (Value.cells (.agg #[.string ⟨#[]⟩, .string ⟨#[]⟩, .int .i64 0])) n ++ Builtin.zeroCells (Value.cells (.agg #[.string ⟨#[]⟩, .string ⟨#[]⟩, .int .i64 0])) (c - n)) 104)).ownsRow w.heap.size 104 3 (.slice (some ⟨w.heap.size, 0, none⟩) 0 c) 0 [] from by
    refine ownsRow_of_block (cur := (Builtin.zeroCells (Value.cells (.agg #[.string ⟨#[]⟩, .string ⟨#[]⟩, .int .i64 0])) n ++ Builtin.zeroCells (Value.cells (.agg #[.string ⟨#[]⟩, .string ⟨#[]⟩, .int .i64 0])) (c - n)).toList) (Nat.le_refl _) ?_ (Nat.zero_le _) (by unfold maxLen at h2; omega) ?_ (by simp)
    · rw [Array.toArray_toList]; exact heap_alloc_new w.drew _
    · rw [Array.length_toList, Array.size_append, size_zeroCells, size_zeroCells, zeroPair]; omega)
  have HG := hid (fun (os : Obj) => ((Grew.refl w).drew).alloc os)
  have HOO := hid (HO.out _ hge hle)
  have HR := hid (Lib.run_append_nil_zeros (P := Tryz.prog) w 28 3 28 104 i0 _ .i64 .i64 Tryz.underlying28 Tryz.underlying3 hi0 hz0 n h0 (by omega) (by omega) (by rw [hz2]; omega))
  clear HO
  generalize hW : w.drew.alloc _ = W at HOO HR
  have HGW : Hid (Grew w W) := by rw [← hW]; exact HG.out _
  clear hW HG
  go_enter Tryz.func152, Tryz.ntmps152
  go_wp2_with (at_builtin; refine Lib.wpList_append_run _ rfl _ _ _ _ rfl _ _ rfl rfl _ _ HR.out ?_)
  go_wp2_with fail
  go_ret
  exact ⟨_, _, rfl, HOO.out, HGW.out⟩

set_option maxRecDepth 100000 in
set_option maxHeartbeats 2000000 in
theorem concatP (w : World) (vb : Nat) (a1 a2 : Option Addr) (c1 c2 : Nat) (xs ys : List Pr) (h1 : w.cell? ⟨vb, 0, none⟩ = some (.slice a1 xs.length c1)) (h2 : w.cell? ⟨vb, 1, none⟩ = some (.slice a2 ys.length c2)) (A1 : PairsAt w a1 xs) (A2 : PairsAt w a2 ys) (F1 : SlForm a1 c1) (F2 : SlForm a2 c2) (hx : xs.length ≤ 1000000) (hy : ys.length ≤ 1000000) :
    Calls Tryz.prog 109 #[.slice (some ⟨vb, 0, none⟩) 2 2] w fun e w' => ∃ a cap, e = .returned (.slice a (xs.length + ys.length) cap) ∧ w'.ownsRow w.heap.size 104 3 (.slice a (xs.length + ys.length) cap) (xs.length + ys.length) (prFlat (xs ++ ys)) ∧ Grew w w' := by
  have hvb : vb < w.heap.size := cell_lt h1
  have HX := hid (And.intro A1 (And.intro F1 hx))
  have HY := hid (And.intro A2 (And.intro F2 hy))
  have hG0 : ∀ W : World, Calls Tryz.prog 152 #[.slice none 0 0, .int .i64 ((xs.length : Int) + (ys.length : Int))] W fun e w' => ∃ a cap, e = .returned (.slice a 0 cap) ∧ w'.ownsRow W.heap.size 104 3 (.slice a 0 cap) 0 (prFlat []) ∧ Grew W w' := fun W => by
    rcases Nat.eq_zero_or_pos (xs.length + ys.length) with h0 | h0
    · have e : ((xs.length : Int) + (ys.length : Int)) = 0 := by omega
      rw [e]
      exact (growP_nil W).mono fun e w' ⟨he, hw⟩ => ⟨none, 0, he, World.ownsRow_nil _ _ _ _, by rw [hw]; exact Grew.refl W⟩
    · rw [← Int.natCast_add]
      exact (growP W _ h0 (by omega)).mono fun e w' ⟨g, cap, he, hr, hg⟩ => ⟨_, _, he, hr, hg⟩
  have HG0 := hid hG0
  have b1 : (xs.length : Int) ≤ 1000000 := by omega
  have b2 : (ys.length : Int) ≤ 1000000 := by omega
  clear hG0 A1 A2 F1 F2
  go_enter Tryz.func109, Tryz.ntmps109
  go_wp2_with fail
  go_loopw [11, 3] (fun i s wr => wr = w ∧ ((i = .int .i64 0 ∧ s = .int .i64 0) ∨ (i = .int .i64 1 ∧ s = .int .i64 xs.length) ∨ (i = .int .i64 2 ∧ s = .int .i64 ((xs.length : Int) + (ys.length : Int))))) (fun i _ _ => 2 - (intOf i).toNat)
  case atStart => exact ⟨rfl, .inl ⟨rfl, rfl⟩⟩
  case round =>
    obtain ⟨rfl, hrel⟩ := hrel
    rcases hrel with ⟨rfl, rfl⟩ | ⟨rfl, rfl⟩ | ⟨rfl, rfl⟩
    · go_wp2_with fail
      go_roundw
      case rel => exact ⟨trivial, .inr (.inl ⟨by go_num, by go_num⟩)⟩
      case measure => simp [intOf]
    · go_wp2_with fail
      go_roundw
      case rel => exact ⟨trivial, .inr (.inr ⟨by go_num, by go_num⟩)⟩
      case measure => simp [intOf]
    · go_wp2_with fail
      refine (HG0.out _).mono ?_
      rintro e w1 ⟨a, cap, rfl, hr, hg⟩
      have HS := hid (And.intro hr hg)
      have hsz := hg.size
      have g1 := (hg.cells.1 _ 0 hvb).trans h1
      have g2 := (hg.cells.1 _ 1 hvb).trans h2
      clear hr hg
      go_wp2_with fail
      go_loopw [27, 6] (fun i v wx => (i = .int .i64 0 ∧ ∃ a cap, v = .slice a 0 cap ∧ Hid (wx.ownsRow wr.heap.size 104 3 (.slice a 0 cap) 0 (prFlat []) ∧ Grew wr wx)) ∨ (i = .int .i64 1 ∧ ∃ a cap, v = .slice a xs.length cap ∧ Hid (wx.ownsRow wr.heap.size 104 3 (.slice a xs.length cap) xs.length (prFlat xs) ∧ Grew wr wx)) ∨ (i = .int .i64 2 ∧ ∃ a cap, v = .slice a (xs.length + ys.length) cap ∧ Hid (wx.ownsRow wr.heap.size 104 3 (.slice a (xs.length + ys.length) cap) (xs.length + ys.length) (prFlat (xs ++ ys)) ∧ Grew wr wx))) (fun i _ _ => 2 - (intOf i).toNat)
      case atStart => exact .inl ⟨rfl, a, cap, rfl, HS⟩
      case round =>
        rcases hrel with ⟨rfl, a, cap, rfl, HR⟩ | ⟨rfl, a, cap, rfl, HR⟩ | ⟨rfl, a, cap, rfl, HR⟩
        · have q1 := (HR.out.2.cells.1 _ 0 hvb).trans h1
          have HA := hid (HX.out.1.grew HR.out.2)
          clear g1 g2 h1 h2
          go_wp2_with (at_builtin; refine wpList_append_pairs rfl _ _ rfl rfl HR.out.1 rfl rfl HA.out HX.out.2.1 (by omega) HR.out.2.size ?_)
          intro a' cap' w2 hr2 hgr
          have HR2 := hid (And.intro hr2 (((HR.out.2.only (fun j => some j = Value.ownBlock (.slice a 0 cap))).then (Only.of_grownBy hgr)).grew (fun j hj => (HR.out.1.lt j hj.symm).1)))
          clear hr2 hgr
          go_wp2_with fail
          go_roundw
          case rel => exact .inr (.inl ⟨by go_num, a', cap', rfl, HR2⟩)
          case measure => simp [intOf]
        · have q2 := (HR.out.2.cells.1 _ 1 hvb).trans h2
          have HA := hid (HY.out.1.grew HR.out.2)
          clear g1 g2 h1 h2
          go_wp2_with (at_builtin; refine wpList_append_pairs rfl _ _ rfl rfl HR.out.1 rfl rfl HA.out HY.out.2.1 (by omega) HR.out.2.size ?_)
          intro a' cap' w2 hr2 hgr
          have HR2 := hid (And.intro hr2 (((HR.out.2.only (fun j => some j = Value.ownBlock (.slice a xs.length cap))).then (Only.of_grownBy hgr)).grew (fun j hj => (HR.out.1.lt j hj.symm).1)))
          clear hr2 hgr
          go_wp2_with fail
          go_roundw
          case rel => exact .inr (.inr ⟨by go_num, a', cap', rfl, HR2⟩)
          case measure => simp [intOf]
        · go_wp2_with fail
          go_ret
          exact ⟨a, cap, rfl, HR.out.1, HR.out.2⟩
end Go.Proofs.YtifcnammekbfoaaGreatDoor

/- runes.Compare again: blocks are laid, answers drawn, and that is all: what slices.SortFunc asks of a closure. -/
set_option linter.unusedVariables false
namespace Go.Proofs.YtifcnammekbfoaaGreatDoor
open Go.RowKit Go.Shelf Go.Lib Go.Sort

/-- Blocks laid, answers drawn: nothing else. -/
def GrewD (w w' : World) : Prop := Grew w w' ∧ w.drawn ≤ w'.drawn
theorem GrewD.refl (w : World) : GrewD w w := ⟨Grew.refl w, Nat.le_refl _⟩
theorem GrewD.trans {a b c : World} (h : GrewD a b) (k : GrewD b c) : GrewD a c := ⟨h.1.trans k.1, Nat.le_trans h.2 k.2⟩
theorem GrewD.alloc {a b : World} (h : GrewD a b) (o : Obj) : GrewD a (b.alloc o) := ⟨h.1.alloc o, h.2⟩
theorem GrewD.drew {a b : World} (h : GrewD a b) : GrewD a b.drew := ⟨h.1.drew, Nat.le_succ_of_le h.2⟩
theorem GrewD.iter {a b : World} (h : GrewD a b) (s : ByteArray) (p : Nat) : GrewD a (b.iter s p) := ⟨h.1.iter s p, h.2⟩
theorem GrewD.grown {w w' : World} (h : GrewD w w') : ∃ q os, w' = grow (w.drewN q) os := by
  obtain ⟨⟨h1, h2, h3, h4, h5⟩, h6⟩ := h
  refine ⟨w'.drawn - w.drawn, w'.heap.extract w.heap.size w'.heap.size, ?_⟩
  obtain ⟨hp, tp, dr, os, ou⟩ := w'
  obtain ⟨hp0, tp0, dr0, os0, ou0⟩ := w
  dsimp only at *
  subst h1 h2 h3
  unfold grow World.drewN
  dsimp only
  have e1 : dr0 + (dr - dr0) = dr := by omega
  have e2 : hp0 ++ hp.extract hp0.size hp.size = hp := by
    apply Array.ext_getElem?
    intro i
    rw [Array.getElem?_append]
    by_cases hi : i < hp0.size
    · rw [if_pos hi, h5 i hi]
    · rw [if_neg hi, Array.getElem?_extract]
      by_cases h7 : i < hp.size
      · rw [if_pos (by omega)]; congr 1; omega
      · rw [if_neg (by omega), Array.getElem?_eq_none (by omega)]
  rw [e1, e2]

set_option maxHeartbeats 400000 in
theorem listD_any (s : ByteArray) (l : List Nat) (w : World) (hs : s.size ≤ 70368744177664) (hr : Pl.runes s.data.toList = some l) :
    Calls Tryz.prog 117 #[.string s] w fun e w' => ∃ v, e = .returned v ∧ RuneRow w' v l ∧ GrewD w w' := by
  have hq : Pl.right s = true := by unfold Pl.right; rw [hr]; rfl
  have hf : Conv.runesFrom s s.size 0 #[] = (l.map fun c => Value.int .i32 (c : Nat)).toArray := by
    rw [runesFrom_list s s.size 0 l #[] (by omega) hr]; simp
  have hcv := fun W => run_runes_of_string (P := Tryz.prog) W 9 186 21 s Tryz.underlying9 Tryz.underlying186 Tryz.underlying21 (by have := size_runesFrom s s.size 0 #[]; simp at this; omega)
  rw [hf] at hcv
  have HF := hid hf
  have HR := hid hr
  clear hf hr
  go_enter Tryz.func117, Tryz.ntmps117
  go_wp2_with (go_at_call 106; refine (right_any _ _ (by omega)).mono ?_; rintro e w' ⟨rfl, p, rfl⟩)
  go_ret
  refine ⟨_, rfl, ⟨_, _, rfl, fun i hi => ?_⟩, (((GrewD.refl w).iter _ _).alloc _).drew⟩
  show (World.alloc _ _).cell? _ = _
  rw [cell_of_row _ _ _ _ _ _ (heap_alloc_new _ _), Array.getElem?_append_left (by simpa using hi)]
  simp [hi]

set_option maxHeartbeats 400000 in
theorem compareD_any (a b : ByteArray) (w : World) (ha : a.size ≤ 70368744177664) (hb : b.size ≤ 70368744177664) :
    Calls Tryz.prog 66 #[.string a, .string b] w fun e w' => e = .returned (.int .i64 (Pl.compare a b)) ∧ GrewD w w' := by
  cases hr : Pl.runes a.data.toList with
  | none =>
    have hq : Pl.right a = false := by unfold Pl.right; rw [hr]; rfl
    have hc : Pl.compare a b = 0 := by unfold Pl.compare; rw [hr]
    have HC := hid hc
    clear hc hr
    go_enter Tryz.func66, Tryz.ntmps66
    go_wp2_with (go_at_call 106; refine (right_any _ _ (by omega)).mono ?_; rintro e w' ⟨rfl, p, rfl⟩)
    go_ret
    exact ⟨ret_int HC.out.symm, (GrewD.refl w).iter _ _⟩
  | some x =>
    have hq : Pl.right a = true := by unfold Pl.right; rw [hr]; rfl
    cases hr2 : Pl.runes b.data.toList with
    | none =>
      have hq2 : Pl.right b = false := by unfold Pl.right; rw [hr2]; rfl
      have hc : Pl.compare a b = 0 := by unfold Pl.compare; rw [hr, hr2]
      have HC := hid hc
      clear hc hr hr2
      go_enter Tryz.func66, Tryz.ntmps66
      go_wp2_with fail
      refine (right_any a _ (by omega)).mono ?_
      rintro e w' ⟨rfl, p, rfl⟩
      go_wp2_with fail
      refine (right_any b _ (by omega)).mono ?_
      rintro e w' ⟨rfl, q, rfl⟩
      go_wp2_with fail
      go_ret
      exact ⟨ret_int HC.out.symm, ((GrewD.refl w).iter _ _).iter _ _⟩
    | some y =>
      have hq2 : Pl.right b = true := by unfold Pl.right; rw [hr2]; rfl
      have hc : Pl.compare a b = Pl.cmpNums x y := by unfold Pl.compare; rw [hr, hr2]
      have hx : x.length ≤ a.size := by simpa using Pl.runes_len _ _ x (Nat.le_refl _) hr
      have hy : y.length ≤ b.size := by simpa using Pl.runes_len _ _ y (Nat.le_refl _) hr2
      have HC := hid hc
      have HR := hid hr
      have HR2 := hid hr2
      clear hc hr hr2
      go_enter Tryz.func66, Tryz.ntmps66
      go_wp2_with fail
      refine (right_any a _ (by omega)).mono ?_
      rintro e w' ⟨rfl, p, rfl⟩
      go_wp2_with fail
      refine (right_any b _ (by omega)).mono ?_
      rintro e w' ⟨rfl, q, rfl⟩
      go_wp2_with fail
      refine (listD_any a x _ ha HR.out).mono ?_
      rintro e w1 ⟨v1, rfl, hv1, hg1⟩
      go_wp2_with fail
      refine (listD_any b y _ hb HR2.out).mono ?_
      rintro e w2 ⟨v2, rfl, hv2, hg2⟩
      go_wp2_with fail
      refine (compareFunc_any v1 v2 x y _ (hv1.grew hg2.1) hv2 (by omega)).mono ?_
      rintro e w' ⟨rfl, rfl⟩
      go_wp2_with fail
      go_ret
      exact ⟨ret_int HC.out.symm, (((GrewD.refl w).iter _ _).iter _ _).trans (hg1.trans hg2)⟩
end Go.Proofs.YtifcnammekbfoaaGreatDoor
