/- Tab2, ConP, CmpD, TabQ, ClonePair, IdxCut: one text. -/
import Derived.Test.YtbdagllflamabaaGreatDoorFinWatchReplaysQ20
import Derived.Test.YtbdagllflamabaaGreatDoorFinWatchReplaysQ6
import Derived.Test.YtbdagllflamabaaGreatDoorFinWatchReplaysQ19
import Derived.Deep.Upon
import Derived.Lib.AppendZeros
import Derived.Deep.AppendLies
import Derived.Test.YtbdagllflamabaaGreatDoorFinWatchReplaysQ3
import Derived.Shelf.SlSortCmp.WholeK
import Derived.Sort.Statements
import Derived.Shelf.SlSortCmp.Insertion
import Derived.Test.YtbdagllflamabaaGreatDoorFinWatchReplaysQ1
import Derived.Test.YtbdagllflamabaaGreatDoorFinWatchReplaysQ7
import Derived.Test.YtbdagllflamabaaGreatDoorFinWatchReplaysQ4
namespace Go.Proofs.YtbdagllflamabaaGreatDoor
open Go.RowKit Go.Maps
attribute [local go_sem] Oper.semAt_some
structure TabS (S : Nat → Bool) : Prop where
  h1 : S 1 = true
  h2 : S 2 = true
  h3 : S 3 = true
  h6 : S 6 = true
  h7 : S 7 = true
structure TableIs (w : World) (F : Nat → Prop) (tb : Nat) (v : Value) (xs : List Pr) : Prop where
  cell : w.cell? ⟨tb, 0, none⟩ = some v
  fz : w.frozen? ⟨tb, 0, none⟩ = false
  row : w.ownsRow 0 42 3 v xs.length (prFlat xs)
  srt : Pl.Srt xs
  sz : ∀ c ∈ xs, c.key.size ≤ 70368744177664
  foot0 : F tb
  foot1 : ∀ g, v.ownBlock = some g → F g ∧ g ≠ tb
  lt : ∀ j, F j → j < w.heap.size
def TabAt (w : World) (F : Nat → Prop) (tb : Nat) (xs : List Pr) : Prop := ∃ v, TableIs w F tb v xs
theorem TableIs.kept {w w' : World} {F S : Nat → Prop} {tb : Nat} {v : Value} {xs : List Pr} (h : TableIs w F tb v xs) (g : Only S w w') (hS : ∀ j, F j → ¬ S j) : TableIs w' F tb v xs where
  cell := (g.cell (cell_lt h.cell) (hS _ h.foot0) 0).trans h.cell
  fz := (g.frozen (cell_lt h.cell) (hS _ h.foot0) 0).trans h.fz
  row := by
    refine ⟨h.row.1, ?_⟩
    rcases h.row.2 with h2 | ⟨b, cap, cur, e1, h2, h3, h4⟩
    · exact .inl h2
    · exact .inr ⟨b, cap, cur, e1, h2, (g.block b (Array.getElem?_eq_some_iff.1 h3).1 (hS b (h.foot1 b (by rw [e1]; rfl)).1)).trans h3, h4⟩
  srt := h.srt
  sz := h.sz
  foot0 := h.foot0
  foot1 := h.foot1
  lt j hj := Nat.lt_of_lt_of_le (h.lt j hj) g.size
theorem TableIs.grew {w w' : World} {F : Nat → Prop} {tb : Nat} {v : Value} {xs : List Pr} (h : TableIs w F tb v xs) (g : Grew w w') : TableIs w' F tb v xs := h.kept (g.only fun _ => False) (fun _ _ h => h)
theorem TabAt.kept {w w' : World} {F S : Nat → Prop} {tb : Nat} {xs : List Pr} (h : TabAt w F tb xs) (g : Only S w w') (hS : ∀ j, F j → ¬ S j) : TabAt w' F tb xs := by
  obtain ⟨v, h⟩ := h; exact ⟨v, h.kept g hS⟩
theorem TabAt.grew {w w' : World} {F : Nat → Prop} {tb : Nat} {xs : List Pr} (h : TabAt w F tb xs) (g : Grew w w') : TabAt w' F tb xs := by
  obtain ⟨v, h⟩ := h; exact ⟨v, h.grew g⟩
theorem TableIs.szAt {w : World} {F : Nat → Prop} {tb : Nat} {v : Value} {xs : List Pr} (h : TableIs w F tb v xs) : ∀ j, j < xs.length → (prAt xs j).key.size ≤ 70368744177664 := fun j hj => h.sz _ (Pl.prAt_mem xs j hj)
theorem newT_any (w : World) : Calls Tryz.prog 66 #[] w fun e w' => e = .returned (.pointer (some ⟨w.heap.size, 0, none⟩)) ∧ Grew w w' ∧ TabAt w' (fun j => j = w.heap.size) w.heap.size [] := by
  go_enter Tryz.func66, Tryz.ntmps66
  go_wp2_with fail
  go_ret
  exact ⟨rfl, (Grew.refl w).alloc _, _, ⟨by simp [go_sem], by simp [go_sem], World.ownsRow_nil _ _ _ _, Pl.srt_nil, by simp, rfl, (fun g hg => by cases hg), (fun j hj => by subst hj; simp)⟩⟩
theorem findT_any {w : World} {F : Nat → Prop} {tb : Nat} {xs : List Pr} (h : TabAt w F tb xs) (hx : xs.length ≤ 1000000) (key : ByteArray) (hy : key.size ≤ 70368744177664) (hk : Pl.Ok key) :
    Calls Tryz.prog 94 #[.pointer (some ⟨tb, 0, none⟩), .string key] w fun e w' => e = .returned (.tuple #[.int .i64 (Pl.pos xs key : Nat), .bool (Pl.hasB xs key)]) ∧ Grew w w' := by
  obtain ⟨v, h⟩ := h
  obtain ⟨a, cap, rfl, hA⟩ := pairsAt_of h.row
  have c0 := h.cell
  have hB : ∀ W, Grew w W → Calls Tryz.prog 150 #[.slice a xs.length cap, .string key, .func (.func 151) #[] #[]] W fun e w' => e = .returned (.tuple #[.int .i64 ((Pl.pos xs key : Nat) : Int), .bool (Pl.hasB xs key)]) ∧ Grew W w' :=
    fun W (g : Grew w W) => bsearch_any a cap xs key W (hA.grew g) hx h.szAt hy (Pl.pos xs key) (Pl.pos_le xs key) (Pl.pos_iff hk h.srt)
  have HB := hid hB
  clear hB
  clear h hA
  go_enter Tryz.func94, Tryz.ntmps94
  go_wp2_with fail
  refine (HB.out _ (Grew.refl w)).mono ?_
  rintro e w1 ⟨rfl, hg⟩
  go_wp2_with fail
  go_ret2
  exact ⟨rfl, hg⟩
namespace Pl
def atT (xs : List Pr) (k : ByteArray) : Int := if keyN k = 0 ∧ hasB xs k = true then ((pos xs k : Nat) : Int) else -1
end Pl
theorem atT_any {S : Nat → Bool} (hS : TabS S) (E : Nat → Addr) {w : World} (hE : Errs S E w) {F : Nat → Prop} {tb : Nat} {xs : List Pr} (h : TabAt w F tb xs) (hx : xs.length ≤ 1000000) (key : ByteArray) (hy : key.size ≤ 70368744177664) :
    Calls Tryz.prog 51 #[.pointer (some ⟨tb, 0, none⟩), .string key] w fun e w' => e = .returned (.int .i64 (Pl.atT xs key)) ∧ Grew w w' := by
  have HE := hid hE
  have HT := hid h
  clear hE h
  by_cases hk : Pl.keyN key = 0
  · have HK : Hid (errOf E (Pl.keyN key) = .nilIface) := by unfold Hid; rw [hk]; rfl
    have HF := hid (fun W (g : Grew w W) => findT_any (HT.out.grew g) hx key hy (Pl.ok_key hk))
    have HA : Hid (Pl.atT xs key = if Pl.hasB xs key = true then ((Pl.pos xs key : Nat) : Int) else -1) := by
      unfold Hid Pl.atT
      by_cases hb : Pl.hasB xs key = true
      · rw [if_pos ⟨hk, hb⟩, if_pos hb]
      · rw [if_neg (fun h => hb h.2), if_neg hb]
    clear hk
    generalize Pl.pos xs key = p at *
    generalize Pl.hasB xs key = b at *
    go_enter Tryz.func51, Tryz.ntmps51
    go_wp2_with fail
    refine (key_any S E hS.h2 hS.h3 hS.h6 hS.h7 key _ (by omega) HE.out).mono ?_
    rw [HK.out]
    rintro e w1 ⟨rfl, hg⟩
    go_wp2_with fail
    refine (HF.out _ hg).mono ?_
    rintro e w2 ⟨rfl, hg2⟩
    cases b with
    | true =>
      go_wp2_with fail
      go_ret
      exact ⟨ret_int (by rw [HA.out]; rfl), hg.trans hg2⟩
    | false =>
      go_wp2_with fail
      go_ret
      exact ⟨ret_int (by rw [HA.out]; rfl), hg.trans hg2⟩
  · have HK := hid (show errOf E (Pl.keyN key) = .iface 343 (.pointer (some (E (Pl.keyN key)))) from errOf_pos E _ hk)
    have HA : Hid (Pl.atT xs key = -1) := by unfold Hid Pl.atT; rw [if_neg (fun h => hk h.1)]
    go_enter Tryz.func51, Tryz.ntmps51
    go_wp2_with fail
    refine (key_any S E hS.h2 hS.h3 hS.h6 hS.h7 key _ (by omega) HE.out).mono ?_
    rw [HK.out]
    rintro e w1 ⟨rfl, hg⟩
    go_wp2_with fail
    go_ret
    exact ⟨ret_int (by rw [HA.out]), hg⟩
namespace Pl
def getT (xs : List Pr) (k : ByteArray) : Option Pr := if keyN k = 0 ∧ hasB xs k = true then some (prAt xs (pos xs k)) else none
theorem getT_some {xs : List Pr} (h : Srt xs) {k : ByteArray} {c : Pr} (hg : getT xs k = some c) : c ∈ xs ∧ c.key = k := by
  unfold getT at hg
  split at hg
  · next hh =>
    cases hg
    have := hasB_key h (ok_key hh.1) hh.2
    exact ⟨prAt_mem xs _ this.1, this.2⟩
  · cases hg
theorem getT_mem {xs : List Pr} (h : Srt xs) {c : Pr} (hc : c ∈ xs) : getT xs c.key = some c := by
  have := hasB_of_mem h hc
  unfold getT
  rw [if_pos ⟨h.key c hc, this.1⟩, this.2]
theorem getT_none {xs : List Pr} (h : Srt xs) {k : ByteArray} (hn : ∀ c ∈ xs, c.key ≠ k) : getT xs k = none := by
  cases hg : getT xs k with
  | none => rfl
  | some c => exact absurd (getT_some h hg).2 (hn c (getT_some h hg).1)
end Pl
theorem getTab_any {S : Nat → Bool} (hS : TabS S) (E : Nat → Addr) {w : World} (hE : Errs S E w) {F : Nat → Prop} {tb : Nat} {xs : List Pr} (h : TabAt w F tb xs) (hx : xs.length ≤ 1000000) (key : ByteArray) (hy : key.size ≤ 70368744177664) :
    Calls Tryz.prog 16 #[.pointer (some ⟨tb, 0, none⟩), .string key] w fun e w' => e = .returned (.tuple #[((Pl.getT xs key).getD Pr.none).agg, .bool (Pl.getT xs key).isSome]) ∧ Grew w w' := by
  have HE := hid hE
  have HT := hid h
  obtain ⟨v, h⟩ := h
  obtain ⟨a, cap, rfl, hA⟩ := pairsAt_of h.row
  have c0 := h.cell
  have hb : tb < w.heap.size := cell_lt c0
  have HS := hid h.srt
  clear hE h
  by_cases hh : Pl.keyN key = 0 ∧ Pl.hasB xs key = true
  · have hg : Pl.getT xs key = some (prAt xs (Pl.pos xs key)) := by unfold Pl.getT; rw [if_pos hh]
    have ha : Pl.atT xs key = (Pl.pos xs key : Nat) := by unfold Pl.atT; rw [if_pos hh]
    have hp := (Pl.hasB_key HS.out (Pl.ok_key hh.1) hh.2).1
    have hR := hid (fun W (g : Grew w W) => atT_any hS E (HE.out.grew g) (HT.out.grew g) hx key hy)
    rw [hg]
    rw [ha] at hR
    clear hg ha hh
    generalize Pl.pos xs key = p at *
    rcases hA with h0 | ⟨b, off, rfl, hbb, hRow⟩
    · rw [h0] at hp; simp at hp
    have q0 := hRow.key p hp
    have q1 := hRow.val p hp
    have q2 := hRow.ver p hp
    clear hRow
    have hpI : (p : Int) < (xs.length : Int) := by omega
    generalize prAt xs p = c at *
    obtain ⟨ck, cv, cn⟩ := c
    dsimp only at *
    go_enter Tryz.func16, Tryz.ntmps16
    go_wp2_with fail
    refine (hR.out _ ((Grew.refl w).alloc _)).mono ?_
    rintro e w1 ⟨rfl, hg⟩
    have hz : w.heap.size < w1.heap.size := by have := hg.size; simp at this; omega
    obtain ⟨hc, hf⟩ := hg.cells
    go_wp2_with fail
    refine bodyPost_ret (v := .tuple #[.agg #[.string ck, .string cv, .int .i64 cn], .bool true]) (by simp [results, Tryz.results16, go_sem, hc]) rfl ⟨rfl, ?_⟩
    have hG := ((Grew.refl w).alloc _).trans hg
    refine ((hG.setCell ?_ _).setCell ?_ _).setCell ?_ _ <;> exact Nat.le_refl _
  · have hg : Pl.getT xs key = none := by unfold Pl.getT; rw [if_neg hh]
    have ha : Pl.atT xs key = -1 := by unfold Pl.atT; rw [if_neg hh]
    have hR := hid (fun W (g : Grew w W) => atT_any hS E (HE.out.grew g) (HT.out.grew g) hx key hy)
    rw [hg]
    rw [ha] at hR
    clear hg ha hh
    go_enter Tryz.func16, Tryz.ntmps16
    go_wp2_with fail
    refine (hR.out _ ((Grew.refl w).alloc _)).mono ?_
    rintro e w1 ⟨rfl, hg⟩
    have hz : w.heap.size < w1.heap.size := by have := hg.size; simp at this; omega
    obtain ⟨hc, hf⟩ := hg.cells
    go_wp2_with fail
    refine bodyPost_ret (v := .tuple #[.agg #[.string ⟨#[]⟩, .string ⟨#[]⟩, .int .i64 0], .bool false]) (by simp [results, Tryz.results16, go_sem, hc]) rfl ⟨rfl, ?_⟩
    have hG := ((Grew.refl w).alloc _).trans hg
    refine ((hG.setCell ?_ _).setCell ?_ _).setCell ?_ _ <;> exact Nat.le_refl _
end Go.Proofs.YtbdagllflamabaaGreatDoor
namespace Go.Proofs.YtbdagllflamabaaGreatDoor
open Go.RowKit Go.Maps
attribute [local go_sem] Oper.semAt_some
set_option maxRecDepth 100000 in
theorem growP_nil (w : World) : Calls Tryz.prog 196 #[.slice none 0 0, .int .i64 0] w fun e w' => e = .returned (.slice none 0 0) ∧ w' = w := by
  go_enter Tryz.func196, Tryz.ntmps196
  go_wp2_with fail
  go_ret
  exact ⟨rfl, rfl⟩
theorem zeroPair : (Value.cells (.agg #[.string ⟨#[]⟩, .string ⟨#[]⟩, .int .i64 0])).size = 3 := by kernel_rfl
set_option maxRecDepth 100000 in
theorem growP (w : World) (n : Nat) (h0 : 0 < n) (hn : n ≤ 2000000) : Calls Tryz.prog 196 #[.slice none 0 0, .int .i64 (n : Int)] w fun e w' => ∃ g cap, e = .returned (.slice (some ⟨g, 0, none⟩) 0 cap) ∧ w'.ownsRow w.heap.size 42 3 (.slice (some ⟨g, 0, none⟩) 0 cap) 0 [] ∧ Grew w w' := by
  obtain ⟨i0, hi0, hz0, hz1, hz2⟩ := info_parts infoPair
  have z1 : ¬ ((n : Int) < 0) := by omega
  have z2 : (n : Int) > 0 := by omega
  have z3 : IntKind.i64.wrap ((n : Int) - 0) = (n : Int) := by rw [show (n : Int) - 0 = (n : Int) by omega]; exact IntWalk.i64_in _ (by omega)
  have hge := grownCap_ge w n 0 42
  have hle := grownCap_le_maxLen w n 0 42 (by unfold maxLen; omega)
  have HO := hid (fun (c : Nat) (h1 : n ≤ c) (h2 : c ≤ maxLen) => show (w.drew.alloc (.cells (Builtin.zeroCells (Value.cells (.agg #[.string ⟨#[]⟩, .string ⟨#[]⟩, .int .i64 0])) n ++ Builtin.zeroCells (Value.cells (.agg #[.string ⟨#[]⟩, .string ⟨#[]⟩, .int .i64 0])) (c - n)) 42)).ownsRow w.heap.size 42 3 (.slice (some ⟨w.heap.size, 0, none⟩) 0 c) 0 [] from by
    refine ownsRow_of_block (cur := (Builtin.zeroCells (Value.cells (.agg #[.string ⟨#[]⟩, .string ⟨#[]⟩, .int .i64 0])) n ++ Builtin.zeroCells (Value.cells (.agg #[.string ⟨#[]⟩, .string ⟨#[]⟩, .int .i64 0])) (c - n)).toList) (Nat.le_refl _) ?_ (Nat.zero_le _) (by unfold maxLen at h2; omega) ?_ (by simp)
    · rw [Array.toArray_toList]; exact heap_alloc_new w.drew _
    · rw [Array.length_toList, Array.size_append, size_zeroCells, size_zeroCells, zeroPair]; omega)
  have HG := hid (fun (os : Obj) => ((Grew.refl w).drew).alloc os)
  have HOO := hid (HO.out _ hge hle)
  have HR := hid (Lib.run_append_nil_zeros (P := Tryz.prog) w 36 3 36 42 i0 _ .i64 .i64 Tryz.underlying36 Tryz.underlying3 hi0 hz0 n h0 (by omega) (by omega) (by rw [hz2]; omega))
  clear HO
  generalize hW : w.drew.alloc _ = W at HOO HR
  have HGW : Hid (Grew w W) := by rw [← hW]; exact HG.out _
  clear hW HG
  go_enter Tryz.func196, Tryz.ntmps196
  go_wp2_with (at_builtin; refine Lib.wpList_append_run _ rfl _ _ _ _ rfl _ _ rfl rfl _ _ HR.out ?_)
  go_wp2_with fail
  go_ret
  exact ⟨_, _, rfl, HOO.out, HGW.out⟩
set_option maxRecDepth 100000 in
set_option maxHeartbeats 2000000 in
theorem concatP (w : World) (vb : Nat) (a1 a2 : Option Addr) (c1 c2 : Nat) (xs ys : List Pr) (h1 : w.cell? ⟨vb, 0, none⟩ = some (.slice a1 xs.length c1)) (h2 : w.cell? ⟨vb, 1, none⟩ = some (.slice a2 ys.length c2)) (A1 : PairsAt w a1 xs) (A2 : PairsAt w a2 ys) (F1 : SlForm a1 c1) (F2 : SlForm a2 c2) (hx : xs.length ≤ 1000000) (hy : ys.length ≤ 1000000) :
    Calls Tryz.prog 176 #[.slice (some ⟨vb, 0, none⟩) 2 2] w fun e w' => ∃ a cap, e = .returned (.slice a (xs.length + ys.length) cap) ∧ w'.ownsRow w.heap.size 42 3 (.slice a (xs.length + ys.length) cap) (xs.length + ys.length) (prFlat (xs ++ ys)) ∧ Grew w w' := by
  have hvb : vb < w.heap.size := cell_lt h1
  have HX := hid (And.intro A1 (And.intro F1 hx))
  have HY := hid (And.intro A2 (And.intro F2 hy))
  have hG0 : ∀ W : World, Calls Tryz.prog 196 #[.slice none 0 0, .int .i64 ((xs.length : Int) + (ys.length : Int))] W fun e w' => ∃ a cap, e = .returned (.slice a 0 cap) ∧ w'.ownsRow W.heap.size 42 3 (.slice a 0 cap) 0 (prFlat []) ∧ Grew W w' := fun W => by
    rcases Nat.eq_zero_or_pos (xs.length + ys.length) with h0 | h0
    · have e : ((xs.length : Int) + (ys.length : Int)) = 0 := by omega
      rw [e]
      exact (growP_nil W).mono fun e w' ⟨he, hw⟩ => ⟨none, 0, he, World.ownsRow_nil _ _ _ _, by rw [hw]; exact Grew.refl W⟩
    · rw [← Int.natCast_add]
      exact (growP W _ h0 (by omega)).mono fun e w' ⟨g, cap, he, hr, hg⟩ => ⟨_, _, he, hr, hg⟩
  have HG0 := hid hG0
  have b1 : (xs.length : Int) ≤ 1000000 := by omega
  have b2 : (ys.length : Int) ≤ 1000000 := by omega
  clear hG0 A1 A2 F1 F2
  go_enter Tryz.func176, Tryz.ntmps176
  go_wp2_with fail
  go_loopw [11, 3] (fun i s wr => wr = w ∧ ((i = .int .i64 0 ∧ s = .int .i64 0) ∨ (i = .int .i64 1 ∧ s = .int .i64 xs.length) ∨ (i = .int .i64 2 ∧ s = .int .i64 ((xs.length : Int) + (ys.length : Int))))) (fun i _ _ => 2 - (intOf i).toNat)
  case atStart => exact ⟨rfl, .inl ⟨rfl, rfl⟩⟩
  case round =>
    obtain ⟨rfl, hrel⟩ := hrel
    rcases hrel with ⟨rfl, rfl⟩ | ⟨rfl, rfl⟩ | ⟨rfl, rfl⟩
    · go_wp2_with fail
      go_roundw
      case rel => exact ⟨trivial, .inr (.inl ⟨by go_num, by go_num⟩)⟩
      case measure => simp [intOf]
    · go_wp2_with fail
      go_roundw
      case rel => exact ⟨trivial, .inr (.inr ⟨by go_num, by go_num⟩)⟩
      case measure => simp [intOf]
    · go_wp2_with fail
      refine (HG0.out _).mono ?_
      rintro e w1 ⟨a, cap, rfl, hr, hg⟩
      have HS := hid (And.intro hr hg)
      have hsz := hg.size
      have g1 := (hg.cells.1 _ 0 hvb).trans h1
      have g2 := (hg.cells.1 _ 1 hvb).trans h2
      clear hr hg
      go_wp2_with fail
      go_loopw [27, 6] (fun i v wx => (i = .int .i64 0 ∧ ∃ a cap, v = .slice a 0 cap ∧ Hid (wx.ownsRow wr.heap.size 42 3 (.slice a 0 cap) 0 (prFlat []) ∧ Grew wr wx)) ∨ (i = .int .i64 1 ∧ ∃ a cap, v = .slice a xs.length cap ∧ Hid (wx.ownsRow wr.heap.size 42 3 (.slice a xs.length cap) xs.length (prFlat xs) ∧ Grew wr wx)) ∨ (i = .int .i64 2 ∧ ∃ a cap, v = .slice a (xs.length + ys.length) cap ∧ Hid (wx.ownsRow wr.heap.size 42 3 (.slice a (xs.length + ys.length) cap) (xs.length + ys.length) (prFlat (xs ++ ys)) ∧ Grew wr wx))) (fun i _ _ => 2 - (intOf i).toNat)
      case atStart => exact .inl ⟨rfl, a, cap, rfl, HS⟩
      case round =>
        rcases hrel with ⟨rfl, a, cap, rfl, HR⟩ | ⟨rfl, a, cap, rfl, HR⟩ | ⟨rfl, a, cap, rfl, HR⟩
        · have q1 := (HR.out.2.cells.1 _ 0 hvb).trans h1
          have HA := hid (HX.out.1.grew HR.out.2)
          clear g1 g2 h1 h2
          go_wp2_with (at_builtin; refine wpList_append_pairs rfl _ _ rfl rfl HR.out.1 rfl rfl HA.out HX.out.2.1 (by omega) HR.out.2.size ?_)
          intro a' cap' w2 hr2 hgr
          have HR2 := hid (And.intro hr2 (((HR.out.2.only (fun j => some j = Value.ownBlock (.slice a 0 cap))).then (Only.of_grownBy hgr)).grew (fun j hj => (HR.out.1.lt j hj.symm).1)))
          clear hr2 hgr
          go_wp2_with fail
          go_roundw
          case rel => exact .inr (.inl ⟨by go_num, a', cap', rfl, HR2⟩)
          case measure => simp [intOf]
        · have q2 := (HR.out.2.cells.1 _ 1 hvb).trans h2
          have HA := hid (HY.out.1.grew HR.out.2)
          clear g1 g2 h1 h2
          go_wp2_with (at_builtin; refine wpList_append_pairs rfl _ _ rfl rfl HR.out.1 rfl rfl HA.out HY.out.2.1 (by omega) HR.out.2.size ?_)
          intro a' cap' w2 hr2 hgr
          have HR2 := hid (And.intro hr2 (((HR.out.2.only (fun j => some j = Value.ownBlock (.slice a xs.length cap))).then (Only.of_grownBy hgr)).grew (fun j hj => (HR.out.1.lt j hj.symm).1)))
          clear hr2 hgr
          go_wp2_with fail
          go_roundw
          case rel => exact .inr (.inr ⟨by go_num, a', cap', rfl, HR2⟩)
          case measure => simp [intOf]
        · go_wp2_with fail
          go_ret
          exact ⟨a, cap, rfl, HR.out.1, HR.out.2⟩
end Go.Proofs.YtbdagllflamabaaGreatDoor
set_option linter.unusedVariables false
namespace Go.Proofs.YtbdagllflamabaaGreatDoor.Pl
open Go.Sort Go.Proofs
theorem perm_rise {α : Type} (lt : α → α → Prop) : ∀ (l l' : List α), l.Perm l' → l.Pairwise lt → l'.Pairwise (fun a b => ¬ lt b a) → (∀ a b, lt a b → ¬ lt b a) → l = l'
  | [], l', hp, _, _, _ => (List.Perm.nil_eq hp)
  | a :: l, [], hp, _, _, _ => by have := hp.length_eq; simp at this
  | a :: l, b :: l', hp, h1, h2, h3 => by
    rw [List.pairwise_cons] at h1 h2
    have hab : a = b := by
      have hb : b ∈ a :: l := hp.mem_iff.2 (List.mem_cons_self ..)
      have ha : a ∈ b :: l' := hp.mem_iff.1 (List.mem_cons_self ..)
      rcases List.mem_cons.1 hb with hb | hb
      · exact hb.symm
      · rcases List.mem_cons.1 ha with ha | ha
        · exact ha
        · exact absurd (h1.1 b hb) (h2.1 a ha)
    subst hab
    rw [perm_rise lt l l' (List.perm_cons a |>.1 hp) h1.2 h2.2 h3]
end Go.Proofs.YtbdagllflamabaaGreatDoor.Pl
namespace Go.Proofs.YtbdagllflamabaaGreatDoor
namespace Pl
theorem compare_asymm {a b : ByteArray} (h : compare a b < 0) : ¬ compare b a < 0 := by
  have hab : Ok a ∧ Ok b := by
    unfold compare at h
    split at h
    · next x y hx hy => exact ⟨⟨x, hx⟩, ⟨y, hy⟩⟩
    · simp at h
  have := compare_swap hab.1 hab.2
  omega
theorem hasS_all {k : ByteArray} (h : keyN k = 0) : hasS ⟨#[]⟩ ⟨#[]⟩ k = true := by
  unfold hasS
  have h1 : rightS ⟨#[]⟩ ⟨#[]⟩ = true := by decide +kernel
  have h2 : isKey k = true := by unfold isKey; rw [h]; rfl
  have h3 : decide (0 ≤ compare k ⟨#[]⟩) = true := by
    refine decide_eq_true ?_
    obtain ⟨l, hl⟩ := ok_key h
    unfold compare
    rw [hl]
    have : runes (⟨#[]⟩ : ByteArray).data.toList = some [] := by rfl
    rw [this]
    cases l with
    | nil => decide
    | cons a l => show (0 : Int) ≤ cmpNums (a :: l) []; unfold cmpNums; decide
  have h4 : lessB k ⟨#[]⟩ = true := by
    unfold lessB none0
    rw [show (⟨#[]⟩ : ByteArray).toList.isEmpty = true from by decide +kernel]; rfl
  rw [h1, h2, h3, h4]; rfl
theorem srt_take {xs : List Pr} (h : Srt xs) (n : Nat) : Srt (xs.take n) := srt_sub h (List.take_sublist _ _)
theorem srt_drop {xs : List Pr} (h : Srt xs) (n : Nat) : Srt (xs.drop n) := srt_sub h (List.drop_sublist _ _)
def cutN (xs : List Pr) (k : ByteArray) : Nat := if right k = true then pos xs k else xs.length
theorem cutN_le (xs : List Pr) (k : ByteArray) : cutN xs k ≤ xs.length := by unfold cutN; split; exact pos_le xs k; exact Nat.le_refl _
theorem right_ok {k : ByteArray} (h : right k = true) : Ok k := by
  unfold right at h
  cases hr : runes k.data.toList with
  | none => rw [hr] at h; cases h
  | some l => exact ⟨l, hr⟩
theorem idx_cut {xs : List Pr} (h : Srt xs) {k : ByteArray} (hk : right k = true) : idxI (fun c : Pr => decide (0 ≤ compare c.key k)) xs = if cutN xs k < xs.length then ((cutN xs k : Nat) : Int) else -1 := by
  have hp := pos_iff (right_ok hk) h
  unfold cutN
  rw [if_pos hk]
  have hall : ∀ m, m ≤ pos xs k → (xs.take m).all (fun c => !(decide (0 ≤ compare c.key k))) = true := by
    intro m hm
    rw [List.all_eq_true]
    intro c hc
    obtain ⟨j, hj, rfl⟩ := List.getElem_of_mem hc
    rw [List.length_take] at hj
    have := (hp j (by omega)).2 (by omega)
    rw [prAt_eq xs j (by omega)] at this
    rw [List.getElem_take]
    simpa using this
  by_cases hlt : pos xs k < xs.length
  · rw [if_pos hlt]
    refine idx_some _ xs _ hlt (hall _ (Nat.le_refl _)) ?_
    have := (hp _ hlt)
    rw [prAt_eq xs _ hlt] at this
    exact decide_eq_true (by omega)
  · rw [if_neg hlt]
    have := hall xs.length (by omega)
    rw [List.take_length] at this
    exact idx_none _ xs this
theorem join_self {xs zs : List Pr} (hs : Srt xs) (hp : zs.Perm xs) (hz : zs.Pairwise fun a b => ¬ compare b.key a.key < 0) : zs = xs :=
  (perm_rise (fun a b : Pr => compare a.key b.key < 0) xs zs hp.symm hs.rise hz fun _ _ h => compare_asymm h).symm
def dupN : List Pr → Bool
  | a :: b :: r => decide (a.key = b.key) || dupN (b :: r)
  | _ => false
theorem dup_none {xs : List Pr} (h : ∀ i, i + 1 < xs.length → (prAt xs i).key ≠ (prAt xs (i + 1)).key) : dupN xs = false := by
  induction xs with
  | nil => rfl
  | cons a xs ih =>
    cases xs with
    | nil => rfl
    | cons b r =>
      unfold dupN
      rw [ih (fun i hi => by have := h (i + 1) (by simpa using hi); simpa [prAt] using this), decide_eq_false (by have := h 0 (by simp); simpa [prAt] using this)]
      rfl
theorem dup_some {xs : List Pr} (i : Nat) (hi : i + 1 < xs.length) (h : (prAt xs i).key = (prAt xs (i + 1)).key) : dupN xs = true := by
  induction xs generalizing i with
  | nil => simp at hi
  | cons a xs ih =>
    cases xs with
    | nil => simp at hi
    | cons b r =>
      unfold dupN
      cases i with
      | zero => rw [decide_eq_true (by simpa [prAt] using h)]; rfl
      | succ i => rw [ih i (by simpa using hi) (by simpa [prAt] using h), Bool.or_true]
theorem srt_sorted {zs : List Pr} (hk : ∀ c ∈ zs, keyN c.key = 0) (hz : zs.Pairwise fun a b => ¬ compare b.key a.key < 0) (hd : dupN zs = false) : Srt zs := by
  refine ⟨hk, ?_⟩
  induction zs with
  | nil => exact List.Pairwise.nil
  | cons a zs ih =>
    rw [List.pairwise_cons] at hz
    cases zs with
    | nil => simp
    | cons b r =>
      unfold dupN at hd
      rw [Bool.or_eq_false_iff, decide_eq_false_iff_not] at hd
      have h2 := ih (fun c hc => hk c (List.mem_cons_of_mem _ hc)) hz.2 hd.2
      have ha : Ok a.key := ok_key (hk a (by simp))
      have hb : Ok b.key := ok_key (hk b (by simp))
      have hab : compare a.key b.key < 0 := by
        have h3 := hz.1 b (by simp)
        have h4 := compare_swap ha hb
        have h5 : compare a.key b.key ≠ 0 := fun h => hd.1 (compare_zero ha hb h)
        omega
      rw [List.pairwise_cons]
      refine ⟨fun c hc => ?_, h2⟩
      rcases List.mem_cons.1 hc with rfl | hc
      · exact hab
      · exact compare_trans ha hb (ok_key (hk c (by simp [hc]))) hab ((List.pairwise_cons.1 h2).1 c hc)
end Pl
theorem scan_all {xs : List Pr} (h : Pl.Srt xs) : xs.filter (fun c => Pl.hasS ⟨#[]⟩ ⟨#[]⟩ c.key) = xs := List.filter_eq_self.2 fun c hc => Pl.hasS_all (h.key c hc)
end Go.Proofs.YtbdagllflamabaaGreatDoor
set_option linter.unusedSectionVars false
set_option linter.unusedSimpArgs false
namespace Go.Proofs.YtbdagllflamabaaGreatDoor
open Go.RowKit Go.Maps
attribute [local go_sem] Oper.semAt_some
theorem infoCPair : (Tryz.prog.info? 42).map (fun i => (i.zero, i.size, i.bytes)) = some (some (.agg #[.string ⟨#[]⟩, .string ⟨#[]⟩, .int .i64 0]), 3, 40) := by kernel_rfl
theorem zcCPair : (Value.cells (.agg #[.string ⟨#[]⟩, .string ⟨#[]⟩, .int .i64 0])).size = 3 := by kernel_rfl
theorem eqCPair (gb off m c : Nat) (w : World) : (binOp .eql 36 (.slice (some ⟨gb, off, none⟩) m c) (.slice none 0 0)).run Tryz.prog w = .ok (.bool false) w := by kernel_rfl
theorem eqCnPair (w : World) : (binOp .eql 36 (.slice none 0 0) (.slice none 0 0)).run Tryz.prog w = .ok (.bool true) w := by kernel_rfl
set_option maxRecDepth 100000 in
set_option maxHeartbeats 1000000 in
theorem clonePair (w : World) (gb off m c : Nat) (hm : 0 < m) (hbig : m ≤ 1000000) (news : List Value) (hl : news.length = m * 3) (hnews : ∀ j u, news[j]? = some u → w.cell? ⟨gb, off + j, none⟩ = some u) (h1 : ∀ u ∈ news, u.oneCell' = true) :
    Calls Tryz.prog 148 #[.slice (some ⟨gb, off, none⟩) m c] w fun e w' => ∃ g cap, e = .returned (.slice (some ⟨g, 0, none⟩) m cap) ∧ w'.ownsRow w.heap.size 42 3 (.slice (some ⟨g, 0, none⟩) m cap) m news ∧ Grew w w' := by
  obtain ⟨i0, hi0, hz0, hz1, hz2⟩ := info_parts infoCPair
  have had : gb < w.heap.size := by
    have h0 : 0 < news.length := by omega
    have h2 := World.block_lt_of_cell? _ _ (hnews 0 news[0] (List.getElem?_eq_getElem h0))
    exact h2
  have HN : Hid (∀ (t : TypeId) j u, news[j]? = some u → (w.alloc (.cells #[] t)).cell? ⟨gb, off + j, none⟩ = some u) := fun t j u hj => by
    have := hnews j u hj
    rw [← this]
    exact ((Grew.refl w).alloc _).below.cell (World.block_lt_of_cell? _ _ this)
  have HL := hid hl
  have H1 := hid h1
  have HO := hid (fun (t : TypeId) (h : t = 42) => show (w.alloc (.cells #[] t)).ownsRow w.heap.size 42 3 (.slice (some ⟨w.heap.size, 0, none⟩) 0 0) 0 [] from by
    subst h
    exact ownsRow_of_block (cur := []) (Nat.le_refl _) (heap_alloc_new w _) (Nat.le_refl _) (by decide) rfl rfl)
  clear hnews hl h1
  have hEq := eqCPair gb off m c
  go_enter Tryz.func148, Tryz.ntmps148
  go_wp2_with (at_builtin; refine wpList_append_lies _ rfl _ _ 36 rfl w.heap.size 42 i0 _ 3 40 Tryz.underlying36 hi0 hz0 hz1 hz2 zcCPair (by omega) (.slice (some ⟨w.heap.size, 0, none⟩) 0 0) 0 [] rfl (HO.out _ rfl) ⟨gb, off, none⟩ m c news rfl HL.out (fun j u hj => by rw [Addr.add_lit]; exact HN.out _ j u hj) H1.out (by omega) (by unfold maxLen; omega) (by omega) (by simp) _ rfl ?_)
  intro g cap w1 hown hgrow hat hlt
  have HO := hid hown
  have HG := hid hgrow
  clear hown hgrow hat
  go_wp2_with fail
  go_ret
  refine ⟨g, cap, by simp, by simpa using HO.out, ?_⟩
  refine (((Grew.refl w).alloc _).only (fun j => some j = Value.ownBlock (.slice (some ⟨w.heap.size, 0, none⟩) 0 0))).then (Only.of_grownBy HG.out) |>.grew ?_
  intro j hj
  have : j = w.heap.size := Option.some.inj hj
  omega
set_option maxRecDepth 100000 in
theorem cloneNilPair (w : World) : Calls Tryz.prog 148 #[.slice none 0 0] w fun e w' => e = .returned (.slice none 0 0) ∧ Grew w w' := by
  have hEq := eqCnPair
  go_enter Tryz.func148, Tryz.ntmps148
  go_wp2_with fail
  go_ret
  exact ⟨rfl, Grew.refl w⟩
set_option maxRecDepth 100000 in
theorem cloneZeroPair (w : World) (gb off c : Nat) : Calls Tryz.prog 148 #[.slice (some ⟨gb, off, none⟩) 0 c] w fun e w' => e = .returned (.slice (some ⟨w.heap.size, 0, none⟩) 0 0) ∧ w'.ownsRow w.heap.size 42 3 (.slice (some ⟨w.heap.size, 0, none⟩) 0 0) 0 [] ∧ Grew w w' := by
  obtain ⟨i0, hi0, hz0, hz1, hz2⟩ := info_parts infoCPair
  have HO := hid (fun (t : TypeId) (h : t = 42) => show (w.alloc (.cells #[] t)).ownsRow w.heap.size 42 3 (.slice (some ⟨w.heap.size, 0, none⟩) 0 0) 0 [] from by
    subst h
    exact ownsRow_of_block (cur := []) (Nat.le_refl _) (heap_alloc_new w _) (Nat.le_refl _) (by decide) rfl rfl)
  have HG := hid (fun (t : TypeId) => (Grew.refl w).alloc (.cells #[] t))
  have hS : ∀ W : World, Src Tryz.prog i0.size 36 (.slice (some ⟨gb, off, none⟩) 0 c) 0 [] W := fun W => Src.ofSlice W Tryz.underlying36 ⟨gb, off, none⟩ 0 c [] (by simp) (fun j u hj => by simp at hj) (fun u hu => by cases hu)
  have HS := hid hS
  clear hS
  have hEq := eqCPair gb off 0 c
  go_enter Tryz.func148, Tryz.ntmps148
  go_wp2_with (at_builtin; refine Lib.wpList_append_run _ rfl _ _ _ _ rfl _ _ rfl rfl _ _ (run_append_nothing _ 36 36 _ 42 i0 Tryz.underlying36 hi0 _ 0 0 (Nat.le_refl _) _ (HS.out _)) ?_)
  go_wp2_with fail
  go_ret
  exact ⟨rfl, HO.out _ rfl, HG.out _⟩
end Go.Proofs.YtbdagllflamabaaGreatDoor
namespace Go.Proofs.YtbdagllflamabaaGreatDoor
open Go.RowKit
attribute [local go_sem] Oper.semAt_some
def Pr.aggOf (c : Pr) : Value := .agg c.vals.toArray
set_option maxRecDepth 100000 in
set_option maxHeartbeats 1000000 in
theorem idxCut (p : Pr → Bool) (cb : Nat) (a : Option Addr) (cap : Nat) (xs : List Pr) (w : World) (hA : PairsAt w a xs) (hx : xs.length ≤ 1000000)
    (hp : ∀ j, j < xs.length → ∀ W, Grew w W → Calls Tryz.prog 175 #[(prAt xs j).aggOf, .pointer (some ⟨cb, 0, none⟩)] W fun e W' => e = .returned (.bool (p (prAt xs j))) ∧ Grew W W') :
    Calls Tryz.prog 174 #[.slice a xs.length cap, .func (.func 175) #[] #[.pointer (some ⟨cb, 0, none⟩)]] w fun e w' => e = .returned (.int .i64 (idxI p xs)) ∧ Grew w w' := by
  have HA := hid hA
  have HP := hid hp
  clear hA hp
  go_enter Tryz.func174, Tryz.ntmps174
  go_wp2_with fail
  go_loopw [8] (fun i wr => ∃ k : Nat, k ≤ xs.length ∧ i = .int .i64 k ∧ Hid ((xs.take k).all (fun c => !p c) = true) ∧ Grew w wr) (fun i _ => xs.length - (intOf i).toNat)
  case atStart => exact ⟨0, Nat.zero_le _, rfl, rfl, Grew.refl w⟩
  case round =>
    obtain ⟨k, hk1, rfl, HN, hG⟩ := hrel
    by_cases hlt : k < xs.length
    · rcases HA.out with h0 | ⟨b, off, rfl, hb, hR⟩
      · rw [h0] at hlt; simp at hlt
      have q0 := (hG.cells.1 b (off + k * 3) hb).trans (hR.key k hlt)
      have q1 := (hG.cells.1 b (off + k * 3 + 1) hb).trans (hR.val k hlt)
      have q2 := (hG.cells.1 b (off + k * 3 + 2) hb).trans (hR.ver k hlt)
      have HC := hid (HP.out k hlt)
      have hat : prAt xs k = xs[k] := prAt_eq xs k hlt
      have HAT := hid hat
      clear hR hat
      have HS := hid (idx_some p xs k hlt HN.out)
      have HN2 := hid (idx_next p xs k hlt HN.out)
      rw [← HAT.out] at HS HN2
      generalize prAt xs k = c at *
      clear HAT
      unfold Pr.aggOf at HC
      cases hpc : p c with
      | true =>
        rw [hpc] at HC
        have HS2 := hid (HS.out hpc)
        obtain ⟨c0, c1, c2⟩ := c
        dsimp only [Pr.vals] at *
        clear hpc HS HN2
        go_wp2_with fail
        refine (HC.out _ hG).mono ?_
        rintro e w1 ⟨rfl, hg1⟩
        go_wp2_with fail
        go_ret
        exact ⟨ret_int HS2.out.symm, hG.trans hg1⟩
      | false =>
        rw [hpc] at HC
        have HS2 := hid (HN2.out hpc)
        obtain ⟨c0, c1, c2⟩ := c
        dsimp only [Pr.vals] at *
        clear hpc HS HN2
        go_wp2_with fail
        refine (HC.out _ hG).mono ?_
        rintro e w1 ⟨rfl, hg1⟩
        go_wp2_with fail
        go_roundw
        case rel => exact ⟨k + 1, by omega, by go_num, HS2, hG.trans hg1⟩
        case measure => simp [intOf]; omega
    · obtain rfl : k = xs.length := by omega
      have HE := hid (idx_none p xs (by have := HN.out; rwa [List.take_length] at this))
      go_wp2_with fail
      go_ret
      exact ⟨ret_int HE.out.symm, hG⟩
end Go.Proofs.YtbdagllflamabaaGreatDoor
