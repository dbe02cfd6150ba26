/- Dd5, Dd6, Tab1, ScanP: one text. -/
import Derived.Test.YtbdagllflamabaaGreatDoorFinWatchReplaysQ19
import Derived.Test.YtbdagllflamabaaGreatDoorFinWatchReplaysQ3
import Derived.Test.YtbdagllflamabaaGreatDoorFinWatchReplaysQ4
import Derived.IntWalk
import Derived.Test.YtbdagllflamabaaGreatDoorFinWatchReplaysQ7
set_option linter.unusedVariables false
set_option linter.unusedSectionVars false
set_option linter.unusedSimpArgs false
namespace Go.Proofs.YtbdagllflamabaaGreatDoor
open Go.RowKit Go.Maps Go.Shelf
attribute [local go_sem] Oper.semAt_some
def OutB (ob : Nat) (W : World) (j : Nat) : Prop := j = ob ∨ ∃ v, W.cell? ⟨ob, 0, none⟩ = some v ∧ v.ownBlock = some j
def OutL (W : World) (ob : Nat) (cs : List Int) : Prop := OutAt W (OutB ob W) ob cs
theorem OutAt.l {w : World} {G : Nat → Prop} {ob : Nat} {cs : List Int} (h : OutAt w G ob cs) : OutL w ob cs ∧ ∀ j, OutB ob w j → G j := by
  obtain ⟨v, h⟩ := h
  have hG : ∀ j, OutB ob w j → G j := by
    rintro j (rfl | ⟨u, hu, hj⟩)
    · exact h.foot
    · rw [h.c0] at hu; cases hu; exact (h.own j hj).1
  exact ⟨⟨v, h.c0, h.f0, h.c1, h.row, .inl rfl, fun g hg => ⟨.inr ⟨v, h.c0, hg⟩, (h.own g hg).2⟩, fun j hj => h.lt j (hG j hj)⟩, hG⟩
theorem OutL.cells {w : World} {ob : Nat} {cs : List Int} (h : OutL w ob cs) (j : Nat) (hj : OutB ob w j) : ∃ o : Obj, w.heap[j]? = some o ∧ o.isCells = true := by
  obtain ⟨v, h⟩ := h
  rcases hj with rfl | ⟨u, hu, hj⟩
  · obtain ⟨o, h1, h2⟩ := cells_of_cell h.c0
    exact ⟨o, h1, h2⟩
  · rw [h.c0] at hu; cases hu
    rcases h.row.2 with ⟨h1, _⟩ | ⟨g, c, cur, h1, _, h2, _⟩
    · rw [h1] at hj; cases hj
    · rw [h1] at hj
      obtain rfl : g = j := by simpa [Value.ownBlock] using hj
      exact ⟨_, h2, rfl⟩
theorem OutB.same {w w' : World} {ob : Nat} (h : w'.cell? ⟨ob, 0, none⟩ = w.cell? ⟨ob, 0, none⟩) (j : Nat) : OutB ob w' j ↔ OutB ob w j := by unfold OutB; rw [h]
theorem OutL.own {w w' : World} {row : Option Nat} {ob : Nat} {cs : List Int} (h : OutL w ob cs) (hg : w.grownBy w' row) (hr : ∀ r, row = some r → ∃ o : Obj, w.heap[r]? = some o ∧ o.isCells = false) : OutL w' ob cs ∧ ∀ j, OutB ob w' j ↔ OutB ob w j := by
  have hO := Only.of_grownBy hg
  have hdis : ∀ j, OutB ob w j → ¬ some j = row := fun j hj e => by
    obtain ⟨o, h1, h2⟩ := h.cells j hj
    obtain ⟨o', h3, h4⟩ := hr j e.symm
    rw [h1] at h3; cases h3
    rw [h2] at h4; cases h4
  have hk : OutAt w' (OutB ob w) ob cs := OutAt.kept h hO hdis
  have hs : ∀ j, OutB ob w' j ↔ OutB ob w j := fun j => OutB.same (by
    obtain ⟨v, h⟩ := h
    obtain ⟨v', h'⟩ := hk
    exact (hO.cell (cell_lt h.c0) (hdis ob (.inl rfl)) 0)) j
  refine ⟨?_, hs⟩
  have := hk.l.1
  exact this
def KpO (n₀ ob : Nat) (W W' : World) : Prop :=
  Below n₀ W W' ∧ W.heap.size ≤ W'.heap.size ∧ (∀ (b : Nat) (o : Obj), W.heap[b]? = some o → o.isCells = true → ¬ OutB ob W b → W'.heap[b]? = some o) ∧ (∀ j, OutB ob W' j → OutB ob W j ∨ W.heap.size ≤ j)
theorem KpO.trans {n₀ ob : Nat} {A B C : World} (h : KpO n₀ ob A B) (k : KpO n₀ ob B C) : KpO n₀ ob A C := by
  obtain ⟨h1, h2, h3, h4⟩ := h
  obtain ⟨k1, k2, k3, k4⟩ := k
  refine ⟨h1.trans k1, Nat.le_trans h2 k2, fun b o hb ho hn => k3 b o (h3 b o hb ho hn) ho fun hB => ?_, fun j hj => ?_⟩
  · rcases h4 b hB with h | h
    · exact hn h
    · have := (Array.getElem?_eq_some_iff.1 hb).1; omega
  · rcases k4 j hj with h | h
    · exact h4 j h
    · exact .inr (Nat.le_trans h2 h)
theorem KpO.put {n₀ ob : Nat} {w : World} (hn : n₀ ≤ w.heap.size) (hob : ob < w.heap.size) (W : World) (l : Nat) (o o' : Obj) (hl : w.heap.size ≤ l) (h1 : W.heap[l]? = some o) (h2 : o.isCells = false) (h3 : o.isWalk = false) : KpO n₀ ob W (W.putObj l o') := by
  have hg := grownBy_putObj' W l o'
  have hc : (W.putObj l o').cell? ⟨ob, 0, none⟩ = W.cell? ⟨ob, 0, none⟩ := World.cell?_of_block (a := ⟨ob, 0, none⟩) (World.putObj_heap_other (show ob ≠ l by omega))
  refine ⟨belowK_b hn W l o o' hl h1 h2 h3, hg.size, fun b q hb hq hnb => ?_, fun j hj => .inl ((OutB.same hc j).1 hj)⟩
  rw [World.putObj_heap_other (fun e => ?_)]
  · exact hb
  · subst e
    rw [h1] at hb; cases hb
    rw [h2] at hq; cases hq
theorem KpO.refl {n₀ ob : Nat} (W : World) : KpO n₀ ob W W := ⟨Below.refl _ _, Nat.le_refl _, fun _ _ h _ _ => h, fun _ h => .inl h⟩
theorem KpO.grew {n₀ ob : Nat} {W W' : World} (hn : n₀ ≤ W.heap.size) (hob : ob < W.heap.size) (g : Grew W W') : KpO n₀ ob W W' :=
  ⟨Below.mono g hn, g.size, fun b o hb _ _ => (g.below.block b (Array.getElem?_eq_some_iff.1 hb).1).trans hb, fun j hj => .inl ((OutB.same (g.cells.1 ob 0 hob) j).1 hj)⟩
theorem KpO.cell {n₀ ob : Nat} {W W' : World} (h : KpO n₀ ob W W') {b o : Nat} {v : Value} (hc : W.cell? ⟨b, o, none⟩ = some v) (hn : ¬ OutB ob W b) : W'.cell? ⟨b, o, none⟩ = some v := by
  obtain ⟨q, h1, h2⟩ := cells_of_cell hc
  rw [World.cell?_of_block (a := ⟨b, o, none⟩) ((h.2.2.1 b q h1 h2 hn).trans h1.symm)]
  exact hc
theorem KeepsFrom.grew {W W' : World} (g : Grew W W') (B : Nat) : KeepsFrom B W W' := ⟨g.size, fun k o _ hk _ => (g.below.block k (Array.getElem?_eq_some_iff.1 hk).1).trans hk⟩
theorem OutL.lt {w : World} {ob : Nat} {cs : List Int} (h : OutL w ob cs) : ∀ j, OutB ob w j → j < w.heap.size := OutAt.lt h
theorem OutL.grew {w w' : World} {ob : Nat} {cs : List Int} (h : OutL w ob cs) (g : Grew w w') : OutL w' ob cs ∧ ∀ j, OutB ob w' j ↔ OutB ob w j := by
  have h1 : OutAt w' (OutB ob w) ob cs := OutAt.grew h g
  exact ⟨h1.l.1, fun j => OutB.same (g.cells.1 ob 0 (h.lt ob (.inl rfl))) j⟩
theorem KpO.turn {n₀ ob : Nat} {W W' : World} {cs ds : List Int} (h : OutL W ob cs) (hz : n₀ ≤ W.heap.size) (hn : ∀ j, OutB ob W j → n₀ ≤ j) (hT : OutTurn W (OutB ob W) ob ds W') : KpO n₀ ob W W' ∧ OutL W' ob ds ∧ (∀ B, KeepsFrom B W W') := by
  obtain ⟨hO, G', hA, hG⟩ := hT
  obtain ⟨hL, hB⟩ := hA.l
  have hkeep : ∀ (b : Nat) (o : Obj), W.heap[b]? = some o → ¬ OutB ob W b → W'.heap[b]? = some o := fun b o hb hnb => (hO.block b (Array.getElem?_eq_some_iff.1 hb).1 hnb).trans hb
  refine ⟨⟨⟨hO.os, hO.tape, hO.output, hO.size, fun k hk => ?_⟩, hO.size, fun b o hb _ hnb => hkeep b o hb hnb, fun j hj => hG j (hB j hj)⟩, hL, fun B => ⟨hO.size, fun k o _ hk ho => hkeep k o hk fun hb => ?_⟩⟩
  · exact hO.block k (by omega) fun hb => by have := hn k hb; omega
  · obtain ⟨o', h1, h2⟩ := h.cells k hb
    rw [hk] at h1; cases h1
    rw [ho] at h2; cases h2
def clB (x : Int × An) : List Int := Pl.numB x.1.toNat ++ Pl.numB x.2.seq.toNat ++ Pl.numB x.2.code.toNat ++ Pl.numB x.2.at_.toNat
def clsB (xs : List (Int × An)) : List Int := xs.flatMap clB
set_option maxRecDepth 100000 in
theorem risingD_any (w : World) (sb : Nat) : Calls Tryz.prog 170 #[.pointer (some ⟨sb, 0, none⟩)] w fun e w' => e = .returned (.func (.func 192) #[] #[.pointer (some ⟨w.heap.size, 0, none⟩)]) ∧ w' = w.alloc (.cells #[.pointer (some ⟨sb, 0, none⟩)] 49) := by
  go_enter Tryz.func170, Tryz.ntmps170
  go_wp2_with fail
  go_ret
  exact ⟨rfl, rfl⟩
end Go.Proofs.YtbdagllflamabaaGreatDoor
namespace Go.Proofs.YtbdagllflamabaaGreatDoor
open Go.RowKit Go.Maps Go.Shelf
attribute [local go_sem] Oper.semAt_some uponV
theorem SeenIs.len {w w' : World} {F : Nat → Prop} {sb mb n : Nat} {f : Lit → Option Value} {S : Int → Option An} (h : SeenIs w F sb mb n f S) (g : Grew w w') (ty : TypeId) : (Builtin.len_ #[213] ty #[.map (some mb)]).run Tryz.prog w' = .ok (.int .i64 ((clients S).length : Nat)) w' := by
  obtain ⟨D, hown, hf⟩ := h.lm.grew g
  obtain ⟨hnd, hmem, _, _⟩ := ownsMap_ints hown cl_keyed Tryz.underlying3
  rw [hown.len Tryz.underlying213 ty]
  have hl : Maps.size D = (intKeys D).length := by
    obtain ⟨es, hD, _⟩ := hown.entries cl_keyed
    rw [hD]
    unfold intKeys Maps.size
    simp
  have e : (intKeys D).Perm ((clients S).map (·.1)) := by
    refine (List.perm_ext_iff_of_nodup hnd ((clients_rise S).imp fun {a b} hab => by omega)).2 fun c => ?_
    rw [hmem, hf, h.val, List.mem_map]
    constructor
    · intro hc
      cases hS : S c with
      | none => rw [hS] at hc; exact absurd rfl hc
      | some a => exact ⟨(c, a), mem_clients.2 ⟨by have := h.ok c a hS; omega, hS⟩, rfl⟩
    · rintro ⟨⟨d, a⟩, hd, rfl⟩
      rw [(mem_clients.1 hd).2]
      simp
  rw [hl, e.length_eq, List.length_map]
structure JLen (y : World) (m : Nat) (L : Nat → Bool) (f : Nat → Value) (x : World) : Prop where
  grew : Grew y x
  len : L 5 = true → f 5 = .int .i64 (m : Nat)
def DI (w w4 : World) (ob m : Nat) (pre : List ClK) (W : World) : Prop := (OutL W ob (Pl.numB m ++ clsB (pre.map Subtype.val)) ∧ W.cell? ⟨ob + 1, 0, none⟩ = some (.pointer (some ⟨ob, 0, none⟩)) ∧ (∀ j, OutB ob W j → w.heap.size ≤ j ∧ j ≠ ob + 1) ∧ w4.heap.size ≤ W.heap.size) ∧ Below w.heap.size w W
theorem DI.own {w w4 : World} {ob m : Nat} (h4 : w.heap.size ≤ w4.heap.size) : OwnFrom w4.heap.size (DI w w4 ob m) := by
  rintro pre W W' row ⟨⟨h1, h2, h3, h5⟩, h6⟩ hg hr
  obtain ⟨k1, k2⟩ := h1.own hg (fun r e => (hr r e).2)
  exact ⟨⟨k1, cell_kept h2 hg (fun r e => (hr r e).2), fun j hj => h3 j ((k2 j).1 hj), Nat.le_trans h5 hg.size⟩, h6.grown hg h6.size (fun k e => Nat.le_trans h4 (hr k e).1)⟩
theorem DI.grew {w w4 W W' : World} {ob m : Nat} {pre : List ClK} (h : DI w w4 ob m pre W) (g : Grew W W') : DI w w4 ob m pre W' := by
  obtain ⟨⟨h1, h2, h3, h5⟩, h6⟩ := h
  obtain ⟨k1, k2⟩ := h1.grew g
  exact ⟨⟨k1, (g.cells.1 _ _ (cell_lt h2)).trans h2, fun j hj => h3 j ((k2 j).1 hj), Nat.le_trans h5 g.size⟩, h6.trans (Below.mono g h6.size)⟩
def DA (w4 : World) (ob Bx : Nat) (x : ClK) (W : World) : Prop := w4.heap.size ≤ Bx ∧ W.cell? ⟨Bx, 0, none⟩ = some (.int .i64 x.1.2.seq) ∧ W.cell? ⟨Bx, 1, none⟩ = some (.int .i64 x.1.2.code) ∧ W.cell? ⟨Bx, 2, none⟩ = some (.int .i64 x.1.2.at_) ∧ Bx ≠ ob ∧ ∃ v, W.cell? ⟨ob, 0, none⟩ = some v ∧ v.ownBlock ≠ some Bx
theorem DA.own {w4 : World} {ob Bx : Nat} {x : ClK} {B : Nat} : OwnFrom B (fun (_ : Unit) W => DA w4 ob Bx x W) := by
  rintro _ W W' row ⟨h1, h2, h3, h4, h5, v, h6, h7⟩ hg hr
  have hr' := fun r e => (hr r e).2
  exact ⟨h1, cell_kept h2 hg hr', cell_kept h3 hg hr', cell_kept h4 hg hr', h5, v, cell_kept h6 hg hr', h7⟩
theorem DA.apart {w4 W : World} {ob Bx : Nat} {x : ClK} (h : DA w4 ob Bx x W) : ¬ OutB ob W Bx := by
  obtain ⟨_, _, _, _, h5, v, h6, h7⟩ := h
  rintro (e | ⟨u, hu, hj⟩)
  · exact h5 e
  · rw [h6] at hu; cases hu; exact h7 hj
end Go.Proofs.YtbdagllflamabaaGreatDoor
namespace Go.Proofs.YtbdagllflamabaaGreatDoor
open Go.RowKit Go.Maps
attribute [local go_sem] Oper.semAt_some
theorem find1_any (k v : ByteArray) (n : Int) (key : ByteArray) (w : World) (hk : k.size ≤ 70368744177664) (hy : key.size ≤ 70368744177664) :
    Calls Tryz.prog 151 #[.agg #[.string k, .string v, .int .i64 n], .string key] w fun e w' => e = .returned (.int .i64 (Pl.compare k key)) ∧ Grew w w' := by
  go_enter Tryz.func151, Tryz.ntmps151
  go_wp2_with fail
  refine (compare_any k key _ hk hy).mono ?_
  rintro e w' ⟨rfl, hg⟩
  go_wp2_with fail
  go_ret
  exact ⟨rfl, ((Grew.refl w).alloc _).trans hg⟩
set_option maxRecDepth 100000 in
set_option maxHeartbeats 4000000 in
theorem bsearch_any (a : Option Addr) (cap : Nat) (xs : List Pr) (key : ByteArray) (w : World) (hA : PairsAt w a xs) (hx : xs.length ≤ 1000000) (hks : ∀ j, j < xs.length → (prAt xs j).key.size ≤ 70368744177664) (hy : key.size ≤ 70368744177664)
    (p : Nat) (hp : p ≤ xs.length) (hpos : ∀ j, j < xs.length → (Pl.compare (prAt xs j).key key < 0 ↔ j < p)) :
    Calls Tryz.prog 150 #[.slice a xs.length cap, .string key, .func (.func 151) #[] #[]] w fun e w' => e = .returned (.tuple #[.int .i64 (p : Int), .bool (decide (p < xs.length ∧ Pl.compare (prAt xs p).key key = 0))]) ∧ Grew w w' := by
  have HA := hid hA
  have HK := hid hks
  have HP := hid hpos
  clear hA hks hpos
  go_enter Tryz.func150, Tryz.ntmps150
  go_wp2_with fail
  go_loopw [9, 10] (fun i j wr => ∃ l r : Nat, l ≤ p ∧ p ≤ r ∧ r ≤ xs.length ∧ i = .int .i64 l ∧ j = .int .i64 r ∧ Grew w wr) (fun i j _ => (intOf j).toNat - (intOf i).toNat)
  case atStart => exact ⟨0, xs.length, Nat.zero_le _, hp, Nat.le_refl _, rfl, rfl, Grew.refl w⟩
  case round =>
    obtain ⟨l, r, hl, hr, hrx, rfl, rfl, hG⟩ := hrel
    by_cases hlt : l < r
    · obtain ⟨m, hm⟩ : ∃ m, m = (l + r) / 2 := ⟨_, rfl⟩
      have hm1 : l ≤ m := by omega
      have hm2 : m < r := by omega
      have hm3 : m < xs.length := by omega
      have hm4 : (m : Int) < (xs.length : Int) := by omega
      have hme : ((l : Int) + (r : Int)) / 2 = (m : Int) := by omega
      clear hm
      rcases HA.out with h0 | ⟨b, off, rfl, hb, hR⟩
      · rw [h0] at hm3; simp at hm3
      have q0 := (hG.cells.1 b (off + m * 3) hb).trans (hR.key m hm3)
      have q1 := (hG.cells.1 b (off + m * 3 + 1) hb).trans (hR.val m hm3)
      have q2 := (hG.cells.1 b (off + m * 3 + 2) hb).trans (hR.ver m hm3)
      have HPm := hid (HP.out m hm3)
      have HF := hid (fun W => find1_any (prAt xs m).key (prAt xs m).val (prAt xs m).ver key W (HK.out m hm3) hy)
      clear hR
      by_cases hc : Pl.compare (prAt xs m).key key < 0
      · have hmp := HPm.out.1 hc
        go_wp2_with fail
        refine (HF.out _).mono ?_
        rintro e w1 ⟨rfl, hg1⟩
        go_wp2_with fail
        go_roundw
        case rel => exact ⟨m + 1, r, by omega, hr, hrx, by go_num, rfl, hG.trans hg1⟩
        case measure => simp [intOf]; omega
      · have hmp : p ≤ m := Nat.le_of_not_lt fun h => hc (HPm.out.2 h)
        go_wp2_with fail
        refine (HF.out _).mono ?_
        rintro e w1 ⟨rfl, hg1⟩
        go_wp2_with fail
        go_roundw
        case rel => exact ⟨l, m, hl, hmp, by omega, rfl, rfl, hG.trans hg1⟩
        case measure => simp [intOf]; omega
    · obtain rfl : l = p := by omega
      obtain rfl : r = l := by omega
      by_cases hpx : r < xs.length
      · rcases HA.out with h0 | ⟨b, off, rfl, hb, hR⟩
        · rw [h0] at hpx; simp at hpx
        have q0 := (hG.cells.1 b (off + r * 3) hb).trans (hR.key r hpx)
        have q1 := (hG.cells.1 b (off + r * 3 + 1) hb).trans (hR.val r hpx)
        have q2 := (hG.cells.1 b (off + r * 3 + 2) hb).trans (hR.ver r hpx)
        have HF := hid (fun W => find1_any (prAt xs r).key (prAt xs r).val (prAt xs r).ver key W (HK.out r hpx) hy)
        have hpx2 : (r : Int) < (xs.length : Int) := by omega
        clear hR
        have HB : Hid (decide (r < xs.length ∧ Pl.compare (prAt xs r).key key = 0) = (Pl.compare (prAt xs r).key key == 0)) := by
          unfold Hid
          rw [Bool.eq_iff_iff]; simp [hpx]
        go_wp2_with fail
        refine (HF.out _).mono ?_
        rintro e w1 ⟨rfl, hg1⟩
        go_wp2_with fail
        go_ret2
        exact ⟨by rw [HB.out]; rfl, hG.trans hg1⟩
      · have hpx2 : ¬ (r : Int) < (xs.length : Int) := by omega
        go_wp2_with fail
        go_ret2
        exact ⟨rfl, hG⟩
end Go.Proofs.YtbdagllflamabaaGreatDoor
namespace Go.Proofs.YtbdagllflamabaaGreatDoor
namespace Pl
structure Srt (xs : List Pr) : Prop where
  key : ∀ c ∈ xs, keyN c.key = 0
  rise : xs.Pairwise fun a b => compare a.key b.key < 0
theorem srt_nil : Srt [] := ⟨by simp, by simp⟩
def pos (xs : List Pr) (k : ByteArray) : Nat := xs.countP fun c => decide (compare c.key k < 0)
theorem pos_le (xs : List Pr) (k : ByteArray) : pos xs k ≤ xs.length := List.countP_le_length
theorem pos_iff {k : ByteArray} (hk : Ok k) : ∀ {xs : List Pr}, Srt xs → ∀ j, j < xs.length → (compare (prAt xs j).key k < 0 ↔ j < pos xs k) := by
  intro xs
  induction xs with
  | nil => intro _ j hj; simp at hj
  | cons c xs ih =>
    intro h j hj
    have hs : Srt xs := ⟨fun x hx => h.key x (List.mem_cons_of_mem _ hx), (List.pairwise_cons.1 h.rise).2⟩
    have hc : Ok c.key := ok_key (h.key c (by simp))
    by_cases hlt : compare c.key k < 0
    · have e : pos (c :: xs) k = pos xs k + 1 := by unfold pos; rw [List.countP_cons_of_pos (by simpa using hlt)]
      rw [e]
      cases j with
      | zero => simp [prAt, hlt]
      | succ j =>
        have := ih hs j (by simpa using hj)
        rw [show prAt (c :: xs) (j + 1) = prAt xs j from by simp [prAt]]
        omega
    · have hall : ∀ x ∈ xs, ¬ compare x.key k < 0 := by
        intro x hx hlt2
        exact hlt (compare_trans hc (ok_key (h.key x (List.mem_cons_of_mem _ hx))) hk ((List.pairwise_cons.1 h.rise).1 x hx) hlt2)
      have e0 : pos xs k = 0 := by
        unfold pos
        rw [List.countP_eq_zero]
        intro x hx
        simpa using hall x hx
      have e : pos (c :: xs) k = 0 := by
        unfold pos at e0 ⊢
        rw [List.countP_cons_of_neg (by simpa using hlt)]; exact e0
      rw [e]
      refine ⟨fun hh => ?_, fun hh => by omega⟩
      cases j with
      | zero => exact absurd (by simpa [prAt] using hh) hlt
      | succ j =>
        rw [show prAt (c :: xs) (j + 1) = prAt xs j from by simp [prAt], prAt_eq xs j (by simpa using hj)] at hh
        exact absurd hh (hall _ (List.getElem_mem _))
theorem prAt_mem (xs : List Pr) (k : Nat) (h : k < xs.length) : prAt xs k ∈ xs := by rw [prAt_eq xs k h]; exact List.getElem_mem h
def hasB (xs : List Pr) (k : ByteArray) : Bool := decide (pos xs k < xs.length ∧ compare (prAt xs (pos xs k)).key k = 0)
theorem hasB_key {xs : List Pr} (h : Srt xs) {k : ByteArray} (hk : Ok k) (hb : hasB xs k = true) : pos xs k < xs.length ∧ (prAt xs (pos xs k)).key = k := by
  unfold hasB at hb
  rw [decide_eq_true_iff] at hb
  exact ⟨hb.1, compare_zero (ok_key (h.key _ (prAt_mem xs _ hb.1))) hk hb.2⟩
theorem hasB_of_mem {xs : List Pr} (h : Srt xs) {c : Pr} (hc : c ∈ xs) : hasB xs c.key = true ∧ prAt xs (pos xs c.key) = c := by
  obtain ⟨j, hj, rfl⟩ := List.getElem_of_mem hc
  have hok : Ok (xs[j]).key := ok_key (h.key _ hc)
  have hi := pos_iff hok h
  have h1 : ¬ j < pos xs (xs[j]).key := by
    rw [← hi j hj, prAt_eq xs j hj, compare_self hok]; simp
  have h2 : pos xs (xs[j]).key = j := by
    rcases Nat.lt_or_ge (pos xs (xs[j]).key) j with hlt | hge
    · have := (hi (pos xs (xs[j]).key) (by omega)).1 (by
        rw [prAt_eq xs _ (by omega)]
        exact List.pairwise_iff_getElem.1 h.rise _ _ (by omega) hj hlt)
      omega
    · omega
  rw [h2]
  refine ⟨?_, prAt_eq xs j hj⟩
  unfold hasB
  rw [h2, decide_eq_true_iff, prAt_eq xs j hj]
  exact ⟨hj, compare_self hok⟩
def tput (xs : List Pr) (p : Pr) : List Pr := xs.take (pos xs p.key) ++ [p] ++ xs.drop (pos xs p.key + if hasB xs p.key = true then 1 else 0)
def tdel (xs : List Pr) (k : ByteArray) : List Pr := if keyN k = 0 ∧ hasB xs k = true then xs.take (pos xs k) ++ xs.drop (pos xs k + 1) else xs
theorem take_pos {xs : List Pr} (h : Srt xs) {k : ByteArray} (hk : Ok k) (c : Pr) (hc : c ∈ xs.take (pos xs k)) : compare c.key k < 0 := by
  obtain ⟨j, hj, rfl⟩ := List.getElem_of_mem hc
  rw [List.length_take] at hj
  have := (pos_iff hk h j (by omega)).2 (by omega)
  rw [prAt_eq xs j (by omega)] at this
  rw [List.getElem_take]; exact this
theorem drop_at {xs : List Pr} (h : Srt xs) {k : ByteArray} (hk : Ok k) (q : Nat) (hql : q < xs.length) (hq : (pos xs k + if hasB xs k = true then 1 else 0) ≤ q) : compare k (xs[q]).key < 0 := by
  have hqok : Ok (xs[q]).key := ok_key (h.key _ (List.getElem_mem hql))
  have h1 : ¬ compare (xs[q]).key k < 0 := by
    rw [← prAt_eq xs q hql, pos_iff hk h q hql]
    split at hq <;> omega
  have h2 : compare (xs[q]).key k ≠ 0 := by
    intro h0
    have he : (xs[q]).key = k := compare_zero hqok hk h0
    have := hasB_of_mem h (List.getElem_mem hql)
    rw [he] at this
    have hp := this.2
    rw [if_pos this.1] at hq
    have hpl := (hasB_key h hk this.1).1
    rw [prAt_eq xs _ hpl] at hp
    have hr := List.pairwise_iff_getElem.1 h.rise (pos xs k) q hpl hql (by omega)
    rw [hp, compare_self hqok] at hr
    simp at hr
  rw [compare_swap hqok hk]
  omega
theorem drop_pos {xs : List Pr} (h : Srt xs) {k : ByteArray} (hk : Ok k) (c : Pr) (hc : c ∈ xs.drop (pos xs k + if hasB xs k = true then 1 else 0)) : compare k c.key < 0 := by
  obtain ⟨j, hj, rfl⟩ := List.getElem_of_mem hc
  rw [List.length_drop] at hj
  rw [List.getElem_drop]
  exact drop_at h hk _ _ (Nat.le_add_right _ _)
theorem srt_sub {xs ys : List Pr} (h : Srt xs) (hs : ys.Sublist xs) : Srt ys := ⟨fun c hc => h.key c (hs.subset hc), h.rise.sublist hs⟩
theorem srt_put {xs : List Pr} (h : Srt xs) {p : Pr} (hp : keyN p.key = 0) : Srt (tput xs p) := by
  have hk := ok_key hp
  refine ⟨?_, ?_⟩
  · intro c hc
    unfold tput at hc
    simp only [List.mem_append, List.mem_singleton] at hc
    rcases hc with (hc | rfl) | hc
    · exact h.key c (List.mem_of_mem_take hc)
    · exact hp
    · exact h.key c (List.mem_of_mem_drop hc)
  · unfold tput
    rw [List.append_assoc, List.pairwise_append]
    refine ⟨h.rise.sublist (List.take_sublist _ _), ?_, ?_⟩
    · rw [List.singleton_append, List.pairwise_cons]
      exact ⟨fun c hc => drop_pos h hk c hc, h.rise.sublist (List.drop_sublist _ _)⟩
    · intro a ha b hb
      have h1 := take_pos h hk a ha
      simp only [List.singleton_append, List.mem_cons] at hb
      rcases hb with rfl | hb
      · exact h1
      · exact compare_trans (ok_key (h.key a (List.mem_of_mem_take ha))) hk (ok_key (h.key b (List.mem_of_mem_drop hb))) h1 (drop_pos h hk b hb)
theorem mem_split {xs : List Pr} (h : Srt xs) {k : ByteArray} (hk : Ok k) (c : Pr) : (c ∈ xs.take (pos xs k) ∨ c ∈ xs.drop (pos xs k + if hasB xs k = true then 1 else 0)) ↔ c ∈ xs ∧ c.key ≠ k := by
  constructor
  · rintro (hc | hc)
    · refine ⟨List.mem_of_mem_take hc, fun e => ?_⟩
      have := take_pos h hk c hc
      rw [e, compare_self hk] at this; simp at this
    · refine ⟨List.mem_of_mem_drop hc, fun e => ?_⟩
      have := drop_pos h hk c hc
      rw [e, compare_self hk] at this; simp at this
  · rintro ⟨hc, hne⟩
    obtain ⟨j, hj, rfl⟩ := List.getElem_of_mem hc
    by_cases hlt : j < pos xs k
    · left; rw [List.mem_take_iff_getElem]; exact ⟨j, by omega, rfl⟩
    · right
      rw [List.mem_drop_iff_getElem]
      by_cases hb : hasB xs k = true
      · rw [if_pos hb]
        have hbk := hasB_key h hk hb
        have hne2 : j ≠ pos xs k := by
          rintro rfl
          rw [prAt_eq xs _ hbk.1] at hbk
          exact hne hbk.2
        exact ⟨j - (pos xs k + 1), by omega, by congr 1; omega⟩
      · rw [if_neg hb]
        exact ⟨j - (pos xs k + 0), by omega, by congr 1; omega⟩
theorem mem_put {xs : List Pr} (h : Srt xs) {p : Pr} (hp : keyN p.key = 0) (c : Pr) : c ∈ tput xs p ↔ c = p ∨ c ∈ xs ∧ c.key ≠ p.key := by
  rw [← mem_split h (ok_key hp)]
  unfold tput
  simp only [List.mem_append, List.mem_singleton]
  constructor
  · rintro ((h | h) | h)
    · exact .inr (.inl h)
    · exact .inl h
    · exact .inr (.inr h)
  · rintro (h | h | h)
    · exact .inl (.inr h)
    · exact .inl (.inl h)
    · exact .inr h
theorem srt_del {xs : List Pr} (h : Srt xs) (k : ByteArray) : Srt (tdel xs k) := by
  unfold tdel
  split
  · refine srt_sub h ?_
    have e : xs = xs.take (pos xs k) ++ xs.drop (pos xs k) := (List.take_append_drop _ _).symm
    conv => rhs; rw [e]
    exact List.Sublist.append (List.Sublist.refl _) (by rw [← List.drop_drop]; exact List.drop_sublist _ _)
  · exact h
theorem mem_del {xs : List Pr} (h : Srt xs) (k : ByteArray) (c : Pr) : c ∈ tdel xs k ↔ c ∈ xs ∧ c.key ≠ k := by
  unfold tdel
  split
  · next hh =>
    have := mem_split h (ok_key hh.1) c
    rw [if_pos hh.2] at this
    rw [List.mem_append]; exact this
  · next hh =>
    refine ⟨fun hc => ⟨hc, fun e => ?_⟩, fun hc => hc.1⟩
    subst e
    exact hh ⟨h.key c hc, (hasB_of_mem h hc).1⟩
theorem tput_length (xs : List Pr) (p : Pr) : (tput xs p).length ≤ xs.length + 1 := by
  unfold tput
  have := pos_le xs p.key
  simp only [List.length_append, List.length_take, List.length_singleton, List.length_drop]
  split <;> omega
theorem tdel_length (xs : List Pr) (k : ByteArray) : (tdel xs k).length ≤ xs.length := by
  unfold tdel
  split
  · simp only [List.length_append, List.length_take, List.length_drop]; omega
  · exact Nat.le_refl _
end Pl
end Go.Proofs.YtbdagllflamabaaGreatDoor
namespace Go.Proofs.YtbdagllflamabaaGreatDoor
namespace Pl
def scanT (xs : List Pr) (lo hi : ByteArray) (limit : Int) : List Pr := (xs.filter fun c => hasS lo hi c.key).take limit.toNat
theorem scan_snoc (xs : List Pr) (lo hi : ByteArray) (limit : Int) (k : Nat) (hk : k < xs.length) :
    scanT (xs.take (k + 1)) lo hi limit = scanT (xs.take k) lo hi limit ++ if ((scanT (xs.take k) lo hi limit).length : Int) < limit ∧ hasS lo hi (prAt xs k).key = true then [prAt xs k] else [] := by
  unfold scanT
  rw [List.take_succ_eq_append_getElem hk, ← prAt_eq xs k hk, List.filter_append]
  by_cases hh : hasS lo hi (prAt xs k).key = true
  · rw [List.filter_cons_of_pos (by simpa using hh), List.filter_nil]
    generalize (xs.take k).filter _ = L
    by_cases hlt : ((L.take limit.toNat).length : Int) < limit
    · rw [if_pos ⟨hlt, hh⟩]
      rw [List.length_take] at hlt
      rw [List.take_of_length_le (show L.length ≤ limit.toNat by omega), List.take_of_length_le (by simp; omega)]
    · rw [if_neg (fun h => hlt h.1), List.append_nil]
      rw [List.length_take] at hlt
      rw [List.take_append_of_le_length (by omega)]
  · rw [List.filter_cons_of_neg (by simpa using hh), List.filter_nil, List.append_nil, if_neg (fun h => hh h.2), List.append_nil]
end Pl
end Go.Proofs.YtbdagllflamabaaGreatDoor
