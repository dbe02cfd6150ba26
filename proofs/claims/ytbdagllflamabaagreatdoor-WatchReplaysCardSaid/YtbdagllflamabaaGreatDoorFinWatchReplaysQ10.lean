/- Shd1, Span3, Shd2: one text. -/
import Derived.Test.YtbdagllflamabaaGreatDoorFinWatchReplaysQ8
import Derived.Test.YtbdagllflamabaaGreatDoorFinWatchReplaysQ5
import Derived.Test.YtbdagllflamabaaGreatDoorFinWatchReplaysQ4
import Derived.Test.YtbdagllflamabaaGreatDoorFinWatchReplaysQ9
import Derived.Test.YtbdagllflamabaaGreatDoorFinWatchReplaysQ7
import Derived.Lib.QuietBelow
import Derived.BigQuiet
import Derived.Deep.RegionWith
namespace Go.Proofs.YtbdagllflamabaaGreatDoor
open Go.RowKit Go.Maps
attribute [local go_sem] Oper.semAt_some
structure SmIs (w : World) (F : Nat → Prop) (sb : Nat) (v ve : Value) (xs : List Sh) (used : Nat → Bool) (ne : Nat) (evs : List Value) : Prop where
  live : w.cell? ⟨sb, 0, none⟩ = some v
  used : ∀ i, i < 13 → w.cell? ⟨sb, 1 + i, none⟩ = some (.bool (used i))
  ev : w.cell? ⟨sb, 14, none⟩ = some ve
  fz : ∀ i, i < 15 → w.frozen? ⟨sb, i, none⟩ = false
  row : w.ownsRow 0 118 5 v xs.length (shFlat xs)
  erow : w.ownsRow 0 164 13 ve ne evs
  sz : ∀ c ∈ xs, c.lo.size ≤ 70368744177664 ∧ c.hi.size ≤ 70368744177664
  foot0 : F sb
  foot1 : ∀ g, v.ownBlock = some g → F g ∧ g ≠ sb
  foot2 : ∀ g, ve.ownBlock = some g → F g ∧ g ≠ sb ∧ v.ownBlock ≠ some g
  lt : ∀ j, F j → j < w.heap.size
  nil : ne = 0 → ve = .slice none 0 0
def SmAt (w : World) (F : Nat → Prop) (sb : Nat) (xs : List Sh) (used : Nat → Bool) (ne : Nat) (evs : List Value) : Prop := ∃ v ve, SmIs w F sb v ve xs used ne evs
theorem ownsRow_keep {S : Nat → Prop} {w w' : World} (g : Only S w w') {B : Nat} {e : TypeId} {k : Nat} {v : Value} {n : Nat} {xs : List Value} (h : w.ownsRow B e k v n xs) (hS : ∀ b, v.ownBlock = some b → ¬ S b) : w'.ownsRow B e k v n xs := by
  refine ⟨h.1, ?_⟩
  rcases h.2 with h2 | ⟨b, cap, cur, e1, h2, h3, h4⟩
  · exact .inl h2
  · refine .inr ⟨b, cap, cur, e1, h2, (g.block b (Array.getElem?_eq_some_iff.1 h3).1 (hS b (by rw [e1]; rfl))).trans h3, h4⟩
section
variable {w w' : World} {F S : Nat → Prop} {sb : Nat} {v ve : Value} {xs : List Sh} {used : Nat → Bool} {ne : Nat} {evs : List Value}
theorem SmIs.blt (h : SmIs w F sb v ve xs used ne evs) : sb < w.heap.size := cell_lt h.live
theorem SmIs.kept (h : SmIs w F sb v ve xs used ne evs) (g : Only S w w') (hS : ∀ j, F j → ¬ S j) : SmIs w' F sb v ve xs used ne evs where
  live := (g.cell h.blt (hS _ h.foot0) 0).trans h.live
  used i hi := (g.cell h.blt (hS _ h.foot0) _).trans (h.used i hi)
  ev := (g.cell h.blt (hS _ h.foot0) _).trans h.ev
  fz i hi := (g.frozen h.blt (hS _ h.foot0) _).trans (h.fz i hi)
  row := ownsRow_keep g h.row (fun b hb => hS b (h.foot1 b hb).1)
  erow := ownsRow_keep g h.erow (fun b hb => hS b (h.foot2 b hb).1)
  sz := h.sz
  foot0 := h.foot0
  foot1 := h.foot1
  foot2 := h.foot2
  lt j hj := Nat.lt_of_lt_of_le (h.lt j hj) g.size
  nil := h.nil
theorem SmIs.grew (h : SmIs w F sb v ve xs used ne evs) (g : Grew w w') : SmIs w' F sb v ve xs used ne evs := h.kept (g.only fun _ => False) (fun _ _ h => h)
theorem SmAt.kept (h : SmAt w F sb xs used ne evs) (g : Only S w w') (hS : ∀ j, F j → ¬ S j) : SmAt w' F sb xs used ne evs := by
  obtain ⟨v, ve, h⟩ := h; exact ⟨v, ve, h.kept g hS⟩
theorem SmAt.grew (h : SmAt w F sb xs used ne evs) (g : Grew w w') : SmAt w' F sb xs used ne evs := by
  obtain ⟨v, ve, h⟩ := h; exact ⟨v, ve, h.grew g⟩
end
abbrev sh0 : Sh := ⟨1, 1, 0, ⟨#[]⟩, ⟨#[]⟩⟩
def used0 (i : Nat) : Bool := decide (i = 1)
theorem used0_cells (b : Nat) (i : Nat) (hi : i < 13) : (#[Value.slice (some ⟨b, 0, none⟩) 1 1, .bool false, .bool true, .bool false, .bool false, .bool false, .bool false, .bool false, .bool false, .bool false, .bool false, .bool false, .bool false, .bool false, .slice none 0 0] : Array Value)[i + 1]? = some (.bool (used0 i)) :=
  match i, hi with
    | 0, _ => rfl
    | 1, _ => rfl
    | 2, _ => rfl
    | 3, _ => rfl
    | 4, _ => rfl
    | 5, _ => rfl
    | 6, _ => rfl
    | 7, _ => rfl
    | 8, _ => rfl
    | 9, _ => rfl
    | 10, _ => rfl
    | 11, _ => rfl
    | 12, _ => rfl
    | n + 13, h => by omega
set_option maxRecDepth 100000 in
set_option maxHeartbeats 1000000 in
theorem newM_any (w : World) : Calls Tryz.prog 40 #[] w fun e w' => ∃ sb, e = .returned (.pointer (some ⟨sb, 0, none⟩)) ∧ Grew w w' ∧ w.heap.size ≤ sb ∧ ∃ F, SmAt w' F sb [sh0] used0 0 [] ∧ ∀ j, F j → w.heap.size ≤ j := by
  go_enter Tryz.func40, Tryz.ntmps40
  go_wp2_with fail
  go_ret
  refine ⟨w.heap.size + 1, rfl, ?_, Nat.le_succ _, fun j => j = w.heap.size ∨ j = w.heap.size + 1, ?_, ?_⟩
  · exact ((Grew.refl w).alloc _).alloc _
  · refine ⟨.slice (some ⟨w.heap.size, 0, none⟩) 1 1, .slice none 0 0, ?_⟩
    refine ⟨by simp [go_sem], ?_, by simp [go_sem], ?_, ?_, World.ownsRow_nil _ _ _ _, ?_, .inr rfl, ?_, (fun g hg => by cases hg), ?_, fun _ => rfl⟩
    · intro i hi
      rw [cell_of_row _ (w.heap.size + 1) (1 + i) _ _ _ (heap_alloc2_new w _ _), Nat.add_comm]
      exact used0_cells w.heap.size i hi
    · intro i _
      exact frozen_of_row _ (w.heap.size + 1) i _ _ (heap_alloc2_new w _ _)
    · refine ownsRow_of_block (cur := [.int .i64 1, .int .i64 1, .int .i64 0, .string ⟨#[]⟩, .string ⟨#[]⟩]) (Nat.zero_le _) (heap_alloc2_old w _ _) (Nat.le_refl _) (by decide) rfl rfl
    · intro c hc
      rw [List.mem_singleton.1 hc]
      exact ⟨Nat.zero_le _, Nat.zero_le _⟩
    · intro g hg
      cases hg
      exact ⟨.inl rfl, Nat.ne_of_lt (Nat.lt_succ_self _)⟩
    · intro j hj
      simp
      omega
  · intro j hj; omega
theorem find1M_any (c : Sh) (cb : Nat) (id : Int) (w : World) (hc : w.cell? ⟨cb, 0, none⟩ = some (.int .i64 id)) :
    Calls Tryz.prog 141 #[c.aggOf, .pointer (some ⟨cb, 0, none⟩)] w fun e w' => e = .returned (.bool (c.id == id)) ∧ Grew w w' := by
  obtain ⟨i, s, n, l, h⟩ := c
  unfold Sh.aggOf Sh.vals
  dsimp only
  have hb : cb < w.heap.size := cell_lt hc
  go_enter Tryz.func141, Tryz.ntmps141
  go_wp2_with fail
  go_ret
  exact ⟨rfl, (Grew.refl w).alloc _⟩
namespace Pl
def findM (xs : List Sh) (id : Int) : Int := idxI (fun c => c.id == id) xs
end Pl
theorem findM_any {w : World} {F : Nat → Prop} {sb : Nat} {xs : List Sh} {used : Nat → Bool} {ne : Nat} {evs : List Value} (h : SmAt w F sb xs used ne evs) (hx : xs.length ≤ 1000000) (id : Int) :
    Calls Tryz.prog 84 #[.pointer (some ⟨sb, 0, none⟩), .int .i64 id] w fun e w' => e = .returned (.int .i64 (Pl.findM xs id)) ∧ Grew w w' := by
  obtain ⟨v, ve, h⟩ := h
  obtain ⟨a, cap, rfl, hA⟩ := shsAt_of h.row
  have c0 := h.live
  have hb := h.blt
  have HI := hid (fun W (hc : W.cell? ⟨w.heap.size, 0, none⟩ = some (.int .i64 id)) (g : Grew w W) => idxShardFind (fun c => c.id == id) w.heap.size a cap xs W (hA.grew g) hx
    (fun j hj W' g' => find1M_any (shAt xs j) w.heap.size id W' ((g'.cells.1 _ _ (cell_lt hc)).trans hc)))
  unfold Pl.findM
  clear h hA
  generalize idxI (fun c => c.id == id) xs = r at *
  go_enter Tryz.func84, Tryz.ntmps84
  go_wp2_with fail
  refine (HI.out _ (by simp [go_sem]) ((Grew.refl w).alloc _)).mono ?_
  rintro e w1 ⟨rfl, hg⟩
  go_wp2_with fail
  go_ret
  exact ⟨rfl, ((Grew.refl w).alloc _).trans hg⟩
end Go.Proofs.YtbdagllflamabaaGreatDoor
namespace Go.Proofs.YtbdagllflamabaaGreatDoor
open Go.RowKit
namespace Pl
def joinE (ra rb : Bool) (alo ahi blo bhi : ByteArray) : Nat :=
  if ra = false ∨ rb = false then 4 else if none0 ahi = false ∧ ahi.toList = blo.toList then 0 else if none0 bhi = false ∧ bhi.toList = alo.toList then 0 else 1
def joinV (ra rb : Bool) (alo ahi blo bhi : ByteArray) : ByteArray × ByteArray :=
  if ra = false ∨ rb = false then (⟨#[]⟩, ⟨#[]⟩) else if none0 ahi = false ∧ ahi.toList = blo.toList then (alo, bhi) else if none0 bhi = false ∧ bhi.toList = alo.toList then (blo, ahi) else (⟨#[]⟩, ⟨#[]⟩)
end Pl
def JoinPost (E : Nat → Addr) (v : ByteArray × ByteArray) (n : Nat) (w : World) (e : Ending) (w' : World) : Prop :=
  e = .returned (.tuple #[.agg #[.string v.1, .string v.2], errOf E n]) ∧ Grew w w'
set_option maxHeartbeats 1600000 in
theorem join_any (S : Nat → Bool) (E : Nat → Addr) (hS : SpanS S) (alo ahi blo bhi : ByteArray) (w : World) (h1 : alo.size ≤ 70368744177664) (h2 : ahi.size ≤ 70368744177664) (h3 : blo.size ≤ 70368744177664) (h4 : bhi.size ≤ 70368744177664) (hE : Errs S E w) :
    Calls Tryz.prog 140 #[.agg #[.string alo, .string ahi], .agg #[.string blo, .string bhi]] w (JoinPost E (Pl.joinV (Pl.rightS alo ahi) (Pl.rightS blo bhi) alo ahi blo bhi) (Pl.joinE (Pl.rightS alo ahi) (Pl.rightS blo bhi) alo ahi blo bhi) w) := by
  have HE := hid hE
  obtain ⟨hK, s1, s4⟩ := hS
  have b4 : 0 < w.heap.size := cell_lt (hE.cell 4 s4)
  have b1 : 1 < w.heap.size := cell_lt (hE.cell 1 s1)
  clear hE
  cases r1 : Pl.rightS alo ahi with
  | false =>
    have hn : Pl.joinE false (Pl.rightS blo bhi) alo ahi blo bhi = 4 := by unfold Pl.joinE; rw [if_pos (Or.inl rfl)]
    have hv : Pl.joinV false (Pl.rightS blo bhi) alo ahi blo bhi = (noText, noText) := by unfold Pl.joinV; rw [if_pos (Or.inl rfl)]
    rw [hn, hv]
    clear hn hv
    go_enter Tryz.func140, Tryz.ntmps140
    go_wp2_with fail
    refine (right_span S E hK alo ahi _ h1 h2 (HE.out.grew ((((Grew.refl w).alloc _).alloc _).alloc _))).mono ?_
    rintro e w1 ⟨rfl, hg⟩
    have hG : Grew w w1 := ((((Grew.refl w).alloc _).alloc _).alloc _).trans hg
    have hz : w.heap.size + 1 + 1 < w1.heap.size := by have := hg.size; simp at this; omega
    obtain ⟨hc, hf⟩ := hg.cells
    have cw4 : w.cell? ⟨0, 0, none⟩ = some (.iface 343 (.pointer (some (E 4)))) := HE.out.cell 4 s4
    have c4 : w1.cell? ⟨0, 0, none⟩ = some (.iface 343 (.pointer (some (E 4)))) := (HE.out.grew hG).cell 4 s4
    go_wp2_with fail
    go_region
    go_wp2_with fail
    refine bodyPost_ret (v := .tuple #[.agg #[.string noText, .string noText], errOf E 4]) (by simp [results, Tryz.results140, go_sem, hc]; rfl) rfl ⟨rfl, ?_⟩
    exact ((hG.setCell (by simp; omega) _).setCell (by simp; omega) _).drew
  | true =>
    cases r2 : Pl.rightS blo bhi with
    | false =>
      have hn : Pl.joinE true false alo ahi blo bhi = 4 := by unfold Pl.joinE; rw [if_pos (Or.inr rfl)]
      have hv : Pl.joinV true false alo ahi blo bhi = (noText, noText) := by unfold Pl.joinV; rw [if_pos (Or.inr rfl)]
      rw [hn, hv]
      clear hn hv
      go_enter Tryz.func140, Tryz.ntmps140
      go_wp2_with fail
      refine (right_span S E hK alo ahi _ h1 h2 (HE.out.grew ((((Grew.refl w).alloc _).alloc _).alloc _))).mono ?_
      rintro e w1 ⟨rfl, hg⟩
      have hG : Grew w w1 := ((((Grew.refl w).alloc _).alloc _).alloc _).trans hg
      have hz : w.heap.size + 1 < w1.heap.size ∧ w.heap.size + 1 + 1 < w1.heap.size := by have := hg.size; simp at this; omega
      obtain ⟨hz1, hz2⟩ := hz
      obtain ⟨hc, hf⟩ := hg.cells
      go_wp2_with fail
      refine (right_span S E hK blo bhi _ h3 h4 (HE.out.grew hG)).mono ?_
      rintro e w2 ⟨rfl, hg2⟩
      have hG2 : Grew w w2 := hG.trans hg2
      obtain ⟨hc2, hf2⟩ := hg2.cells
      have c4 : w2.cell? ⟨0, 0, none⟩ = some (.iface 343 (.pointer (some (E 4)))) := (HE.out.grew hG2).cell 4 s4
      go_wp2_with fail
      go_region
      go_wp2_with fail
      refine bodyPost_ret (v := .tuple #[.agg #[.string noText, .string noText], errOf E 4]) (by simp [results, Tryz.results140, go_sem, hc, hc2, hz2]; rfl) rfl ⟨rfl, ?_⟩
      exact ((hG2.setCell (by simp; omega) _).setCell (by simp; omega) _).drew
    | true =>
      cases eahi1 : ahi.toList.isEmpty with
      | true =>
        have eahi2 : ahi.toList = [] := by simpa using eahi1
        cases ebhi1 : bhi.toList.isEmpty with
        | true =>
          have ebhi2 : bhi.toList = [] := by simpa using ebhi1
          have hn : Pl.joinE true true alo ahi blo bhi = 1 := by unfold Pl.joinE; rw [if_neg (by simp), if_neg (fun h => by have := h.1; unfold Pl.none0 at this; rw [eahi1] at this; cases this), if_neg (fun h => by have := h.1; unfold Pl.none0 at this; rw [ebhi1] at this; cases this)]
          have hv : Pl.joinV true true alo ahi blo bhi = (noText, noText) := by unfold Pl.joinV; rw [if_neg (by simp), if_neg (fun h => by have := h.1; unfold Pl.none0 at this; rw [eahi1] at this; cases this), if_neg (fun h => by have := h.1; unfold Pl.none0 at this; rw [ebhi1] at this; cases this)]
          rw [hn, hv]
          clear hn hv
          go_enter Tryz.func140, Tryz.ntmps140
          go_wp2_with fail
          refine (right_span S E hK alo ahi _ (by omega) (by omega) (HE.out.grew ((((Grew.refl w).alloc _).alloc _).alloc _))).mono ?_
          rintro e w1 ⟨rfl, hg⟩
          have hG : Grew w w1 := ((((Grew.refl w).alloc _).alloc _).alloc _).trans hg
          have hz : w.heap.size < w1.heap.size ∧ w.heap.size + 1 < w1.heap.size ∧ w.heap.size + 1 + 1 < w1.heap.size := by have := hg.size; simp at this; omega
          obtain ⟨hz0, hz1, hz2⟩ := hz
          obtain ⟨hc, hf⟩ := hg.cells
          go_wp2_with fail
          refine (right_span S E hK blo bhi _ (by omega) (by omega) (HE.out.grew hG)).mono ?_
          rintro e w2 ⟨rfl, hg2⟩
          have hG2 : Grew w w2 := hG.trans hg2
          obtain ⟨hc2, hf2⟩ := hg2.cells
          have c1 : w2.cell? ⟨1, 0, none⟩ = some (.iface 343 (.pointer (some (E 1)))) := (HE.out.grew hG2).cell 1 s1
          go_wp2_with fail
          go_region
          go_wp2_with fail
          refine bodyPost_ret (v := .tuple #[.agg #[.string noText, .string noText], errOf E 1]) (by simp [results, Tryz.results140, go_sem, hc, hc2, hz2]; rfl) rfl ⟨rfl, ?_⟩
          exact ((hG2.setCell (by simp; omega) _).setCell (by simp; omega) _).drew
        | false =>
          have ebhi2 : ¬ bhi.toList = [] := by simpa using ebhi1
          have ebhi3 : (!bhi.toList.isEmpty) = true := by rw [ebhi1]; rfl
          by_cases q2 : bhi.toList = alo.toList
          · have q2' : (bhi.toList == alo.toList) = true := by simpa using q2
            have hn : Pl.joinE true true alo ahi blo bhi = 0 := by unfold Pl.joinE; rw [if_neg (by simp), if_neg (fun h => by have := h.1; unfold Pl.none0 at this; rw [eahi1] at this; cases this), if_pos ⟨ebhi1, q2⟩]
            have hv : Pl.joinV true true alo ahi blo bhi = (blo, ahi) := by unfold Pl.joinV; rw [if_neg (by simp), if_neg (fun h => by have := h.1; unfold Pl.none0 at this; rw [eahi1] at this; cases this), if_pos ⟨ebhi1, q2⟩]
            rw [hn, hv]
            clear hn hv
            clear q2
            go_enter Tryz.func140, Tryz.ntmps140
            go_wp2_with fail
            refine (right_span S E hK alo ahi _ (by omega) (by omega) (HE.out.grew ((((Grew.refl w).alloc _).alloc _).alloc _))).mono ?_
            rintro e w1 ⟨rfl, hg⟩
            have hG : Grew w w1 := ((((Grew.refl w).alloc _).alloc _).alloc _).trans hg
            have hz : w.heap.size < w1.heap.size ∧ w.heap.size + 1 < w1.heap.size ∧ w.heap.size + 1 + 1 < w1.heap.size := by have := hg.size; simp at this; omega
            obtain ⟨hz0, hz1, hz2⟩ := hz
            obtain ⟨hc, hf⟩ := hg.cells
            go_wp2_with fail
            refine (right_span S E hK blo bhi _ (by omega) (by omega) (HE.out.grew hG)).mono ?_
            rintro e w2 ⟨rfl, hg2⟩
            have hG2 : Grew w w2 := hG.trans hg2
            obtain ⟨hc2, hf2⟩ := hg2.cells
            go_wp2_with fail
            refine bodyPost_ret (v := .tuple #[.agg #[.string blo, .string ahi], errOf E 0]) (by simp [results, Tryz.results140, go_sem, hc, hc2, hz2]; rfl) rfl ⟨rfl, ?_⟩
            exact ((hG2.setCell (by simp; omega) _).setCell (by simp; omega) _)
          · have q2' : (bhi.toList == alo.toList) = false := by simpa using q2
            have hn : Pl.joinE true true alo ahi blo bhi = 1 := by unfold Pl.joinE; rw [if_neg (by simp), if_neg (fun h => by have := h.1; unfold Pl.none0 at this; rw [eahi1] at this; cases this), if_neg (fun h => q2 h.2)]
            have hv : Pl.joinV true true alo ahi blo bhi = (noText, noText) := by unfold Pl.joinV; rw [if_neg (by simp), if_neg (fun h => by have := h.1; unfold Pl.none0 at this; rw [eahi1] at this; cases this), if_neg (fun h => q2 h.2)]
            rw [hn, hv]
            clear hn hv
            clear q2
            go_enter Tryz.func140, Tryz.ntmps140
            go_wp2_with fail
            refine (right_span S E hK alo ahi _ (by omega) (by omega) (HE.out.grew ((((Grew.refl w).alloc _).alloc _).alloc _))).mono ?_
            rintro e w1 ⟨rfl, hg⟩
            have hG : Grew w w1 := ((((Grew.refl w).alloc _).alloc _).alloc _).trans hg
            have hz : w.heap.size < w1.heap.size ∧ w.heap.size + 1 < w1.heap.size ∧ w.heap.size + 1 + 1 < w1.heap.size := by have := hg.size; simp at this; omega
            obtain ⟨hz0, hz1, hz2⟩ := hz
            obtain ⟨hc, hf⟩ := hg.cells
            go_wp2_with fail
            refine (right_span S E hK blo bhi _ (by omega) (by omega) (HE.out.grew hG)).mono ?_
            rintro e w2 ⟨rfl, hg2⟩
            have hG2 : Grew w w2 := hG.trans hg2
            obtain ⟨hc2, hf2⟩ := hg2.cells
            have c1 : w2.cell? ⟨1, 0, none⟩ = some (.iface 343 (.pointer (some (E 1)))) := (HE.out.grew hG2).cell 1 s1
            go_wp2_with fail
            go_region
            go_wp2_with fail
            refine bodyPost_ret (v := .tuple #[.agg #[.string noText, .string noText], errOf E 1]) (by simp [results, Tryz.results140, go_sem, hc, hc2, hz2]; rfl) rfl ⟨rfl, ?_⟩
            exact ((hG2.setCell (by simp; omega) _).setCell (by simp; omega) _).drew
      | false =>
        have eahi2 : ¬ ahi.toList = [] := by simpa using eahi1
        have eahi3 : (!ahi.toList.isEmpty) = true := by rw [eahi1]; rfl
        by_cases q1 : ahi.toList = blo.toList
        · have q1' : (ahi.toList == blo.toList) = true := by simpa using q1
          have hn : Pl.joinE true true alo ahi blo bhi = 0 := by unfold Pl.joinE; rw [if_neg (by simp), if_pos ⟨eahi1, q1⟩]
          have hv : Pl.joinV true true alo ahi blo bhi = (alo, bhi) := by unfold Pl.joinV; rw [if_neg (by simp), if_pos ⟨eahi1, q1⟩]
          rw [hn, hv]
          clear hn hv
          clear q1
          go_enter Tryz.func140, Tryz.ntmps140
          go_wp2_with fail
          refine (right_span S E hK alo ahi _ (by omega) (by omega) (HE.out.grew ((((Grew.refl w).alloc _).alloc _).alloc _))).mono ?_
          rintro e w1 ⟨rfl, hg⟩
          have hG : Grew w w1 := ((((Grew.refl w).alloc _).alloc _).alloc _).trans hg
          have hz : w.heap.size < w1.heap.size ∧ w.heap.size + 1 < w1.heap.size ∧ w.heap.size + 1 + 1 < w1.heap.size := by have := hg.size; simp at this; omega
          obtain ⟨hz0, hz1, hz2⟩ := hz
          obtain ⟨hc, hf⟩ := hg.cells
          go_wp2_with fail
          refine (right_span S E hK blo bhi _ (by omega) (by omega) (HE.out.grew hG)).mono ?_
          rintro e w2 ⟨rfl, hg2⟩
          have hG2 : Grew w w2 := hG.trans hg2
          obtain ⟨hc2, hf2⟩ := hg2.cells
          go_wp2_with fail
          refine bodyPost_ret (v := .tuple #[.agg #[.string alo, .string bhi], errOf E 0]) (by simp [results, Tryz.results140, go_sem, hc, hc2, hz2]; rfl) rfl ⟨rfl, ?_⟩
          exact ((hG2.setCell (by simp; omega) _).setCell (by simp; omega) _)
        · have q1' : (ahi.toList == blo.toList) = false := by simpa using q1
          cases ebhi1 : bhi.toList.isEmpty with
          | true =>
            have ebhi2 : bhi.toList = [] := by simpa using ebhi1
            have hn : Pl.joinE true true alo ahi blo bhi = 1 := by unfold Pl.joinE; rw [if_neg (by simp), if_neg (fun h => q1 h.2), if_neg (fun h => by have := h.1; unfold Pl.none0 at this; rw [ebhi1] at this; cases this)]
            have hv : Pl.joinV true true alo ahi blo bhi = (noText, noText) := by unfold Pl.joinV; rw [if_neg (by simp), if_neg (fun h => q1 h.2), if_neg (fun h => by have := h.1; unfold Pl.none0 at this; rw [ebhi1] at this; cases this)]
            rw [hn, hv]
            clear hn hv
            clear q1
            go_enter Tryz.func140, Tryz.ntmps140
            go_wp2_with fail
            refine (right_span S E hK alo ahi _ (by omega) (by omega) (HE.out.grew ((((Grew.refl w).alloc _).alloc _).alloc _))).mono ?_
            rintro e w1 ⟨rfl, hg⟩
            have hG : Grew w w1 := ((((Grew.refl w).alloc _).alloc _).alloc _).trans hg
            have hz : w.heap.size < w1.heap.size ∧ w.heap.size + 1 < w1.heap.size ∧ w.heap.size + 1 + 1 < w1.heap.size := by have := hg.size; simp at this; omega
            obtain ⟨hz0, hz1, hz2⟩ := hz
            obtain ⟨hc, hf⟩ := hg.cells
            go_wp2_with fail
            refine (right_span S E hK blo bhi _ (by omega) (by omega) (HE.out.grew hG)).mono ?_
            rintro e w2 ⟨rfl, hg2⟩
            have hG2 : Grew w w2 := hG.trans hg2
            obtain ⟨hc2, hf2⟩ := hg2.cells
            have c1 : w2.cell? ⟨1, 0, none⟩ = some (.iface 343 (.pointer (some (E 1)))) := (HE.out.grew hG2).cell 1 s1
            go_wp2_with fail
            go_region
            go_wp2_with fail
            refine bodyPost_ret (v := .tuple #[.agg #[.string noText, .string noText], errOf E 1]) (by simp [results, Tryz.results140, go_sem, hc, hc2, hz2]; rfl) rfl ⟨rfl, ?_⟩
            exact ((hG2.setCell (by simp; omega) _).setCell (by simp; omega) _).drew
          | false =>
            have ebhi2 : ¬ bhi.toList = [] := by simpa using ebhi1
            have ebhi3 : (!bhi.toList.isEmpty) = true := by rw [ebhi1]; rfl
            by_cases q2 : bhi.toList = alo.toList
            · have q2' : (bhi.toList == alo.toList) = true := by simpa using q2
              have hn : Pl.joinE true true alo ahi blo bhi = 0 := by unfold Pl.joinE; rw [if_neg (by simp), if_neg (fun h => q1 h.2), if_pos ⟨ebhi1, q2⟩]
              have hv : Pl.joinV true true alo ahi blo bhi = (blo, ahi) := by unfold Pl.joinV; rw [if_neg (by simp), if_neg (fun h => q1 h.2), if_pos ⟨ebhi1, q2⟩]
              rw [hn, hv]
              clear hn hv
              clear q2
              clear q1
              go_enter Tryz.func140, Tryz.ntmps140
              go_wp2_with fail
              refine (right_span S E hK alo ahi _ (by omega) (by omega) (HE.out.grew ((((Grew.refl w).alloc _).alloc _).alloc _))).mono ?_
              rintro e w1 ⟨rfl, hg⟩
              have hG : Grew w w1 := ((((Grew.refl w).alloc _).alloc _).alloc _).trans hg
              have hz : w.heap.size < w1.heap.size ∧ w.heap.size + 1 < w1.heap.size ∧ w.heap.size + 1 + 1 < w1.heap.size := by have := hg.size; simp at this; omega
              obtain ⟨hz0, hz1, hz2⟩ := hz
              obtain ⟨hc, hf⟩ := hg.cells
              go_wp2_with fail
              refine (right_span S E hK blo bhi _ (by omega) (by omega) (HE.out.grew hG)).mono ?_
              rintro e w2 ⟨rfl, hg2⟩
              have hG2 : Grew w w2 := hG.trans hg2
              obtain ⟨hc2, hf2⟩ := hg2.cells
              go_wp2_with fail
              refine bodyPost_ret (v := .tuple #[.agg #[.string blo, .string ahi], errOf E 0]) (by simp [results, Tryz.results140, go_sem, hc, hc2, hz2]; rfl) rfl ⟨rfl, ?_⟩
              exact ((hG2.setCell (by simp; omega) _).setCell (by simp; omega) _)
            · have q2' : (bhi.toList == alo.toList) = false := by simpa using q2
              have hn : Pl.joinE true true alo ahi blo bhi = 1 := by unfold Pl.joinE; rw [if_neg (by simp), if_neg (fun h => q1 h.2), if_neg (fun h => q2 h.2)]
              have hv : Pl.joinV true true alo ahi blo bhi = (noText, noText) := by unfold Pl.joinV; rw [if_neg (by simp), if_neg (fun h => q1 h.2), if_neg (fun h => q2 h.2)]
              rw [hn, hv]
              clear hn hv
              clear q2
              clear q1
              go_enter Tryz.func140, Tryz.ntmps140
              go_wp2_with fail
              refine (right_span S E hK alo ahi _ (by omega) (by omega) (HE.out.grew ((((Grew.refl w).alloc _).alloc _).alloc _))).mono ?_
              rintro e w1 ⟨rfl, hg⟩
              have hG : Grew w w1 := ((((Grew.refl w).alloc _).alloc _).alloc _).trans hg
              have hz : w.heap.size < w1.heap.size ∧ w.heap.size + 1 < w1.heap.size ∧ w.heap.size + 1 + 1 < w1.heap.size := by have := hg.size; simp at this; omega
              obtain ⟨hz0, hz1, hz2⟩ := hz
              obtain ⟨hc, hf⟩ := hg.cells
              go_wp2_with fail
              refine (right_span S E hK blo bhi _ (by omega) (by omega) (HE.out.grew hG)).mono ?_
              rintro e w2 ⟨rfl, hg2⟩
              have hG2 : Grew w w2 := hG.trans hg2
              obtain ⟨hc2, hf2⟩ := hg2.cells
              have c1 : w2.cell? ⟨1, 0, none⟩ = some (.iface 343 (.pointer (some (E 1)))) := (HE.out.grew hG2).cell 1 s1
              go_wp2_with fail
              go_region
              go_wp2_with fail
              refine bodyPost_ret (v := .tuple #[.agg #[.string noText, .string noText], errOf E 1]) (by simp [results, Tryz.results140, go_sem, hc, hc2, hz2]; rfl) rfl ⟨rfl, ?_⟩
              exact ((hG2.setCell (by simp; omega) _).setCell (by simp; omega) _).drew
end Go.Proofs.YtbdagllflamabaaGreatDoor
namespace Go.Proofs.YtbdagllflamabaaGreatDoor
open Go.RowKit Go.Maps Go.Sort
attribute [local go_sem] Oper.semAt_some
structure ShdS (S : Nat → Bool) : Prop where
  h1 : S 1 = true
  h2 : S 2 = true
  h3 : S 3 = true
  h4 : S 4 = true
  h6 : S 6 = true
  h7 : S 7 = true
theorem ShdS.key {S : Nat → Bool} (h : ShdS S) : KeyT S := ⟨h.h2, h.h3, h.h6, h.h7⟩
theorem ShdS.keyS {S : Nat → Bool} (h : ShdS S) : KeyS S := ⟨h.h2, h.h3, h.h6, h.h7⟩
theorem ShdS.span {S : Nat → Bool} (h : ShdS S) : SpanS S := ⟨h.keyS, h.h1, h.h4⟩
namespace Pl
theorem findM_cases (xs : List Sh) (id : Int) : findM xs id = -1 ∨ ∃ i, i < xs.length ∧ findM xs id = (i : Nat) ∧ (shAt xs i).id = id := by
  unfold findM idxI
  cases hf : xs.findIdx? (fun c => c.id == id) with
  | none => exact .inl rfl
  | some i =>
    obtain ⟨hi, hp, _⟩ := List.findIdx?_eq_some_iff_getElem.1 hf
    exact .inr ⟨i, hi, rfl, by rw [shAt_eq xs i hi]; exact beq_iff_eq.1 hp⟩
def countsB (xs : List Sh) (used : Nat → Bool) (e : En) : Bool :=
  if rightB e = false then false
  else if findM xs e.shard < 0 then false
  else if e.kind = 2 then true
  else if e.kind = 3 then !used e.other.toNat && hasS (shAt xs (findM xs e.shard).toNat).lo (shAt xs (findM xs e.shard).toNat).hi e.key && !decide (e.key.toList = (shAt xs (findM xs e.shard).toNat).lo.toList)
  else if e.kind = 4 then
    if findM xs e.other < 0 then false
    else decide (joinE (rightS (shAt xs (findM xs e.shard).toNat).lo (shAt xs (findM xs e.shard).toNat).hi) (rightS (shAt xs (findM xs e.other).toNat).lo (shAt xs (findM xs e.other).toNat).hi) (shAt xs (findM xs e.shard).toNat).lo (shAt xs (findM xs e.shard).toNat).hi (shAt xs (findM xs e.other).toNat).lo (shAt xs (findM xs e.other).toNat).hi = 0)
  else false
theorem right_other {e : En} (h : rightB e = true) (hk : e.kind = 3) : 1 ≤ e.other ∧ e.other ≤ 12 := by
  unfold rightB at h
  rw [if_neg (by omega), if_neg (by omega), if_pos hk] at h
  unfold splB withinB at h
  simp only [Bool.and_eq_true, decide_eq_true_eq] at h
  exact h.1.1.1.2
end Pl
end Go.Proofs.YtbdagllflamabaaGreatDoor
