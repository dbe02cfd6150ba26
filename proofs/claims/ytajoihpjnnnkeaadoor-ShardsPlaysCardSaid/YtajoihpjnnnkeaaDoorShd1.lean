/- A map of shards in memory; the walks of shards.New, find. -/
import Derived.Test.YtajoihpjnnnkeaaDoorEnt3
import Derived.Test.YtajoihpjnnnkeaaDoorIdxOpBad
import Derived.Test.YtajoihpjnnnkeaaDoorInsShard
namespace Go.Proofs.YtajoihpjnnnkeaaDoor
open Go.RowKit Go.Maps
attribute [local go_sem] Oper.semAt_some

/-- A map of shards in memory: block sb: the slice of shards, thirteen marks, the slice of events. -/
structure SmIs (w : World) (F : Nat → Prop) (sb : Nat) (v ve : Value) (xs : List Sh) (used : Nat → Bool) (ne : Nat) (evs : List Value) : Prop where
  live : w.cell? ⟨sb, 0, none⟩ = some v
  used : ∀ i, i < 13 → w.cell? ⟨sb, 1 + i, none⟩ = some (.bool (used i))
  ev : w.cell? ⟨sb, 14, none⟩ = some ve
  fz : ∀ i, i < 15 → w.frozen? ⟨sb, i, none⟩ = false
  row : w.ownsRow 0 40 5 v xs.length (shFlat xs)
  erow : w.ownsRow 0 97 13 ve ne evs
  sz : ∀ c ∈ xs, c.lo.size ≤ 70368744177664 ∧ c.hi.size ≤ 70368744177664
  foot0 : F sb
  foot1 : ∀ g, v.ownBlock = some g → F g ∧ g ≠ sb
  foot2 : ∀ g, ve.ownBlock = some g → F g ∧ g ≠ sb ∧ v.ownBlock ≠ some g
  lt : ∀ j, F j → j < w.heap.size
  nil : ne = 0 → ve = .slice none 0 0
/-- .. with its slices left open. -/
def SmAt (w : World) (F : Nat → Prop) (sb : Nat) (xs : List Sh) (used : Nat → Bool) (ne : Nat) (evs : List Value) : Prop := ∃ v ve, SmIs w F sb v ve xs used ne evs
theorem ownsRow_keep {S : Nat → Prop} {w w' : World} (g : Only S w w') {B : Nat} {e : TypeId} {k : Nat} {v : Value} {n : Nat} {xs : List Value} (h : w.ownsRow B e k v n xs) (hS : ∀ b, v.ownBlock = some b → ¬ S b) : w'.ownsRow B e k v n xs := by
  refine ⟨h.1, ?_⟩
  rcases h.2 with h2 | ⟨b, cap, cur, e1, h2, h3, h4⟩
  · exact .inl h2
  · refine .inr ⟨b, cap, cur, e1, h2, (g.block b (Array.getElem?_eq_some_iff.1 h3).1 (hS b (by rw [e1]; rfl))).trans h3, h4⟩
section
variable {w w' : World} {F S : Nat → Prop} {sb : Nat} {v ve : Value} {xs : List Sh} {used : Nat → Bool} {ne : Nat} {evs : List Value}
theorem SmIs.blt (h : SmIs w F sb v ve xs used ne evs) : sb < w.heap.size := cell_lt h.live
theorem SmIs.kept (h : SmIs w F sb v ve xs used ne evs) (g : Only S w w') (hS : ∀ j, F j → ¬ S j) : SmIs w' F sb v ve xs used ne evs where
  live := (g.cell h.blt (hS _ h.foot0) 0).trans h.live
  used i hi := (g.cell h.blt (hS _ h.foot0) _).trans (h.used i hi)
  ev := (g.cell h.blt (hS _ h.foot0) _).trans h.ev
  fz i hi := (g.frozen h.blt (hS _ h.foot0) _).trans (h.fz i hi)
  row := ownsRow_keep g h.row (fun b hb => hS b (h.foot1 b hb).1)
  erow := ownsRow_keep g h.erow (fun b hb => hS b (h.foot2 b hb).1)
  sz := h.sz
  foot0 := h.foot0
  foot1 := h.foot1
  foot2 := h.foot2
  lt j hj := Nat.lt_of_lt_of_le (h.lt j hj) g.size
  nil := h.nil
theorem SmIs.grew (h : SmIs w F sb v ve xs used ne evs) (g : Grew w w') : SmIs w' F sb v ve xs used ne evs := h.kept (g.only fun _ => False) (fun _ _ h => h)
theorem SmAt.kept (h : SmAt w F sb xs used ne evs) (g : Only S w w') (hS : ∀ j, F j → ¬ S j) : SmAt w' F sb xs used ne evs := by
  obtain ⟨v, ve, h⟩ := h; exact ⟨v, ve, h.kept g hS⟩
theorem SmAt.grew (h : SmAt w F sb xs used ne evs) (g : Grew w w') : SmAt w' F sb xs used ne evs := by
  obtain ⟨v, ve, h⟩ := h; exact ⟨v, ve, h.grew g⟩
end

abbrev sh0 : Sh := ⟨1, 1, 0, ⟨#[]⟩, ⟨#[]⟩⟩
def used0 (i : Nat) : Bool := decide (i = 1)
theorem used0_cells (b : Nat) (i : Nat) (hi : i < 13) : (#[Value.slice (some ⟨b, 0, none⟩) 1 1, .bool false, .bool true, .bool false, .bool false, .bool false, .bool false, .bool false, .bool false, .bool false, .bool false, .bool false, .bool false, .bool false, .slice none 0 0] : Array Value)[i + 1]? = some (.bool (used0 i)) :=
  match i, hi with
    | 0, _ => rfl
    | 1, _ => rfl
    | 2, _ => rfl
    | 3, _ => rfl
    | 4, _ => rfl
    | 5, _ => rfl
    | 6, _ => rfl
    | 7, _ => rfl
    | 8, _ => rfl
    | 9, _ => rfl
    | 10, _ => rfl
    | 11, _ => rfl
    | 12, _ => rfl
    | n + 13, h => by omega
set_option maxRecDepth 100000 in
set_option maxHeartbeats 1000000 in
theorem newM_any (w : World) : Calls Tryd.prog 10 #[] w fun e w' => ∃ sb, e = .returned (.pointer (some ⟨sb, 0, none⟩)) ∧ Grew w w' ∧ w.heap.size ≤ sb ∧ ∃ F, SmAt w' F sb [sh0] used0 0 [] ∧ ∀ j, F j → w.heap.size ≤ j := by
  go_enter Tryd.func10, Tryd.ntmps10
  go_wp2_with fail
  go_ret
  refine ⟨w.heap.size + 1, rfl, ?_, Nat.le_succ _, fun j => j = w.heap.size ∨ j = w.heap.size + 1, ?_, ?_⟩
  · exact ((Grew.refl w).alloc _).alloc _
  · refine ⟨.slice (some ⟨w.heap.size, 0, none⟩) 1 1, .slice none 0 0, ?_⟩
    refine ⟨by simp [go_sem], ?_, by simp [go_sem], ?_, ?_, World.ownsRow_nil _ _ _ _, ?_, .inr rfl, ?_, (fun g hg => by cases hg), ?_, fun _ => rfl⟩
    · intro i hi
      rw [cell_of_row _ (w.heap.size + 1) (1 + i) _ _ _ (heap_alloc2_new w _ _), Nat.add_comm]
      exact used0_cells w.heap.size i hi
    · intro i _
      exact frozen_of_row _ (w.heap.size + 1) i _ _ (heap_alloc2_new w _ _)
    · refine ownsRow_of_block (cur := [.int .i64 1, .int .i64 1, .int .i64 0, .string ⟨#[]⟩, .string ⟨#[]⟩]) (Nat.zero_le _) (heap_alloc2_old w _ _) (Nat.le_refl _) (by decide) rfl rfl
    · intro c hc
      rw [List.mem_singleton.1 hc]
      exact ⟨Nat.zero_le _, Nat.zero_le _⟩
    · intro g hg
      cases hg
      exact ⟨.inl rfl, Nat.ne_of_lt (Nat.lt_succ_self _)⟩
    · intro j hj
      simp
      omega
  · intro j hj; omega

theorem find1M_any (c : Sh) (cb : Nat) (id : Int) (w : World) (hc : w.cell? ⟨cb, 0, none⟩ = some (.int .i64 id)) :
    Calls Tryd.prog 90 #[c.aggOf, .pointer (some ⟨cb, 0, none⟩)] w fun e w' => e = .returned (.bool (c.id == id)) ∧ Grew w w' := by
  obtain ⟨i, s, n, l, h⟩ := c
  unfold Sh.aggOf Sh.vals
  dsimp only
  have hb : cb < w.heap.size := cell_lt hc
  go_enter Tryd.func90, Tryd.ntmps90
  go_wp2_with fail
  go_ret
  exact ⟨rfl, (Grew.refl w).alloc _⟩

namespace Pl
/-- The index of a shard; -1: it doesn't live. -/
def findM (xs : List Sh) (id : Int) : Int := idxI (fun c => c.id == id) xs
end Pl
theorem findM_any {w : World} {F : Nat → Prop} {sb : Nat} {xs : List Sh} {used : Nat → Bool} {ne : Nat} {evs : List Value} (h : SmAt w F sb xs used ne evs) (hx : xs.length ≤ 1000000) (id : Int) :
    Calls Tryd.prog 43 #[.pointer (some ⟨sb, 0, none⟩), .int .i64 id] w fun e w' => e = .returned (.int .i64 (Pl.findM xs id)) ∧ Grew w w' := by
  obtain ⟨v, ve, h⟩ := h
  obtain ⟨a, cap, rfl, hA⟩ := shsAt_of h.row
  have c0 := h.live
  have hb := h.blt
  have HI := hid (fun W (hc : W.cell? ⟨w.heap.size, 0, none⟩ = some (.int .i64 id)) (g : Grew w W) => idxShardFind (fun c => c.id == id) w.heap.size a cap xs W (hA.grew g) hx
    (fun j hj W' g' => find1M_any (shAt xs j) w.heap.size id W' ((g'.cells.1 _ _ (cell_lt hc)).trans hc)))
  unfold Pl.findM
  clear h hA
  generalize idxI (fun c => c.id == id) xs = r at *
  go_enter Tryd.func43, Tryd.ntmps43
  go_wp2_with fail
  refine (HI.out _ (by simp [go_sem]) ((Grew.refl w).alloc _)).mono ?_
  rintro e w1 ⟨rfl, hg⟩
  go_wp2_with fail
  go_ret
  exact ⟨rfl, ((Grew.refl w).alloc _).trans hg⟩
end Go.Proofs.YtajoihpjnnnkeaaDoor
