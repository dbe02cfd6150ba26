/- An Out that the rounds of a range over a function write; the walk of dedup.rising; what clients are as bytes. -/
import Derived.Test.YtifcnammekbfoaaGreatDoorFinStateOnceQ19
import Derived.Test.YtifcnammekbfoaaGreatDoorFinStateOnceQ21
set_option linter.unusedVariables false
set_option linter.unusedSectionVars false
set_option linter.unusedSimpArgs false
namespace Go.Proofs.YtifcnammekbfoaaGreatDoor
open Go.RowKit Go.Maps Go.Shelf
attribute [local go_sem] Oper.semAt_some

/-- The blocks of an Out, as memory has them. -/
def OutB (ob : Nat) (W : World) (j : Nat) : Prop := j = ob ∨ ∃ v, W.cell? ⟨ob, 0, none⟩ = some v ∧ v.ownBlock = some j
def OutL (W : World) (ob : Nat) (cs : List Int) : Prop := OutAt W (OutB ob W) ob cs
theorem OutAt.l {w : World} {G : Nat → Prop} {ob : Nat} {cs : List Int} (h : OutAt w G ob cs) : OutL w ob cs ∧ ∀ j, OutB ob w j → G j := by
  obtain ⟨v, h⟩ := h
  have hG : ∀ j, OutB ob w j → G j := by
    rintro j (rfl | ⟨u, hu, hj⟩)
    · exact h.foot
    · rw [h.c0] at hu; cases hu; exact (h.own j hj).1
  exact ⟨⟨v, h.c0, h.f0, h.c1, h.row, .inl rfl, fun g hg => ⟨.inr ⟨v, h.c0, hg⟩, (h.own g hg).2⟩, fun j hj => h.lt j (hG j hj)⟩, hG⟩
theorem OutL.cells {w : World} {ob : Nat} {cs : List Int} (h : OutL w ob cs) (j : Nat) (hj : OutB ob w j) : ∃ o : Obj, w.heap[j]? = some o ∧ o.isCells = true := by
  obtain ⟨v, h⟩ := h
  rcases hj with rfl | ⟨u, hu, hj⟩
  · obtain ⟨o, h1, h2⟩ := cells_of_cell h.c0
    exact ⟨o, h1, h2⟩
  · rw [h.c0] at hu; cases hu
    rcases h.row.2 with ⟨h1, _⟩ | ⟨g, c, cur, h1, _, h2, _⟩
    · rw [h1] at hj; cases hj
    · rw [h1] at hj
      obtain rfl : g = j := by simpa [Value.ownBlock] using hj
      exact ⟨_, h2, rfl⟩
theorem OutB.same {w w' : World} {ob : Nat} (h : w'.cell? ⟨ob, 0, none⟩ = w.cell? ⟨ob, 0, none⟩) (j : Nat) : OutB ob w' j ↔ OutB ob w j := by unfold OutB; rw [h]
/-- What is no cells may turn. -/
theorem OutL.own {w w' : World} {row : Option Nat} {ob : Nat} {cs : List Int} (h : OutL w ob cs) (hg : w.grownBy w' row) (hr : ∀ r, row = some r → ∃ o : Obj, w.heap[r]? = some o ∧ o.isCells = false) : OutL w' ob cs ∧ ∀ j, OutB ob w' j ↔ OutB ob w j := by
  have hO := Only.of_grownBy hg
  have hdis : ∀ j, OutB ob w j → ¬ some j = row := fun j hj e => by
    obtain ⟨o, h1, h2⟩ := h.cells j hj
    obtain ⟨o', h3, h4⟩ := hr j e.symm
    rw [h1] at h3; cases h3
    rw [h2] at h4; cases h4
  have hk : OutAt w' (OutB ob w) ob cs := OutAt.kept h hO hdis
  have hs : ∀ j, OutB ob w' j ↔ OutB ob w j := fun j => OutB.same (by
    obtain ⟨v, h⟩ := h
    obtain ⟨v', h'⟩ := hk
    exact (hO.cell (cell_lt h.c0) (hdis ob (.inl rfl)) 0)) j
  refine ⟨?_, hs⟩
  have := hk.l.1
  exact this
/-- What a round that writes the Out keeps: all cells but the Out's. -/
def KpO (n₀ ob : Nat) (W W' : World) : Prop :=
  Below n₀ W W' ∧ W.heap.size ≤ W'.heap.size ∧ (∀ (b : Nat) (o : Obj), W.heap[b]? = some o → o.isCells = true → ¬ OutB ob W b → W'.heap[b]? = some o) ∧ (∀ j, OutB ob W' j → OutB ob W j ∨ W.heap.size ≤ j)
theorem KpO.trans {n₀ ob : Nat} {A B C : World} (h : KpO n₀ ob A B) (k : KpO n₀ ob B C) : KpO n₀ ob A C := by
  obtain ⟨h1, h2, h3, h4⟩ := h
  obtain ⟨k1, k2, k3, k4⟩ := k
  refine ⟨h1.trans k1, Nat.le_trans h2 k2, fun b o hb ho hn => k3 b o (h3 b o hb ho hn) ho fun hB => ?_, fun j hj => ?_⟩
  · rcases h4 b hB with h | h
    · exact hn h
    · have := (Array.getElem?_eq_some_iff.1 hb).1; omega
  · rcases k4 j hj with h | h
    · exact h4 j h
    · exact .inr (Nat.le_trans h2 h)
theorem KpO.put {n₀ ob : Nat} {w : World} (hn : n₀ ≤ w.heap.size) (hob : ob < w.heap.size) (W : World) (l : Nat) (o o' : Obj) (hl : w.heap.size ≤ l) (h1 : W.heap[l]? = some o) (h2 : o.isCells = false) (h3 : o.isWalk = false) : KpO n₀ ob W (W.putObj l o') := by
  have hg := grownBy_putObj' W l o'
  have hc : (W.putObj l o').cell? ⟨ob, 0, none⟩ = W.cell? ⟨ob, 0, none⟩ := World.cell?_of_block (a := ⟨ob, 0, none⟩) (World.putObj_heap_other (show ob ≠ l by omega))
  refine ⟨belowK_b hn W l o o' hl h1 h2 h3, hg.size, fun b q hb hq hnb => ?_, fun j hj => .inl ((OutB.same hc j).1 hj)⟩
  rw [World.putObj_heap_other (fun e => ?_)]
  · exact hb
  · subst e
    rw [h1] at hb; cases hb
    rw [h2] at hq; cases hq
theorem KpO.refl {n₀ ob : Nat} (W : World) : KpO n₀ ob W W := ⟨Below.refl _ _, Nat.le_refl _, fun _ _ h _ _ => h, fun _ h => .inl h⟩
theorem KpO.grew {n₀ ob : Nat} {W W' : World} (hn : n₀ ≤ W.heap.size) (hob : ob < W.heap.size) (g : Grew W W') : KpO n₀ ob W W' :=
  ⟨Below.mono g hn, g.size, fun b o hb _ _ => (g.below.block b (Array.getElem?_eq_some_iff.1 hb).1).trans hb, fun j hj => .inl ((OutB.same (g.cells.1 ob 0 hob) j).1 hj)⟩
theorem KpO.cell {n₀ ob : Nat} {W W' : World} (h : KpO n₀ ob W W') {b o : Nat} {v : Value} (hc : W.cell? ⟨b, o, none⟩ = some v) (hn : ¬ OutB ob W b) : W'.cell? ⟨b, o, none⟩ = some v := by
  obtain ⟨q, h1, h2⟩ := cells_of_cell hc
  rw [World.cell?_of_block (a := ⟨b, o, none⟩) ((h.2.2.1 b q h1 h2 hn).trans h1.symm)]
  exact hc
theorem KeepsFrom.grew {W W' : World} (g : Grew W W') (B : Nat) : KeepsFrom B W W' := ⟨g.size, fun k o _ hk _ => (g.below.block k (Array.getElem?_eq_some_iff.1 hk).1).trans hk⟩
theorem OutL.lt {w : World} {ob : Nat} {cs : List Int} (h : OutL w ob cs) : ∀ j, OutB ob w j → j < w.heap.size := OutAt.lt h
theorem OutL.grew {w w' : World} {ob : Nat} {cs : List Int} (h : OutL w ob cs) (g : Grew w w') : OutL w' ob cs ∧ ∀ j, OutB ob w' j ↔ OutB ob w j := by
  have h1 : OutAt w' (OutB ob w) ob cs := OutAt.grew h g
  exact ⟨h1.l.1, fun j => OutB.same (g.cells.1 ob 0 (h.lt ob (.inl rfl))) j⟩
/-- A turn of the Out keeps these. -/
theorem KpO.turn {n₀ ob : Nat} {W W' : World} {cs ds : List Int} (h : OutL W ob cs) (hz : n₀ ≤ W.heap.size) (hn : ∀ j, OutB ob W j → n₀ ≤ j) (hT : OutTurn W (OutB ob W) ob ds W') : KpO n₀ ob W W' ∧ OutL W' ob ds ∧ (∀ B, KeepsFrom B W W') := by
  obtain ⟨hO, G', hA, hG⟩ := hT
  obtain ⟨hL, hB⟩ := hA.l
  have hkeep : ∀ (b : Nat) (o : Obj), W.heap[b]? = some o → ¬ OutB ob W b → W'.heap[b]? = some o := fun b o hb hnb => (hO.block b (Array.getElem?_eq_some_iff.1 hb).1 hnb).trans hb
  refine ⟨⟨⟨hO.os, hO.tape, hO.output, hO.size, fun k hk => ?_⟩, hO.size, fun b o hb _ hnb => hkeep b o hb hnb, fun j hj => hG j (hB j hj)⟩, hL, fun B => ⟨hO.size, fun k o _ hk ho => hkeep k o hk fun hb => ?_⟩⟩
  · exact hO.block k (by omega) fun hb => by have := hn k hb; omega
  · obtain ⟨o', h1, h2⟩ := h.cells k hb
    rw [hk] at h1; cases h1
    rw [ho] at h2; cases h2

/-- A client's bytes; all clients'. -/
def clB (x : Int × An) : List Int := Pl.numB x.1.toNat ++ Pl.numB x.2.seq.toNat ++ Pl.numB x.2.code.toNat ++ Pl.numB x.2.at_.toNat
def clsB (xs : List (Int × An)) : List Int := xs.flatMap clB
def seenB (S : Int → Option An) : List Int := Pl.numB (clients S).length ++ clsB (clients S)

set_option maxRecDepth 100000 in
theorem risingD_any (w : World) (sb : Nat) : Calls Tryz.prog 146 #[.pointer (some ⟨sb, 0, none⟩)] w fun e w' => e = .returned (.func (.func 160) #[] #[.pointer (some ⟨w.heap.size, 0, none⟩)]) ∧ w' = w.alloc (.cells #[.pointer (some ⟨sb, 0, none⟩)] 61) := by
  go_enter Tryz.func146, Tryz.ntmps146
  go_wp2_with fail
  go_ret
  exact ⟨rfl, rfl⟩
end Go.Proofs.YtifcnammekbfoaaGreatDoor
