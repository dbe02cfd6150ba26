/- Span3, SortP: one text. -/
import Derived.Test.YtoiahcgaffffbaaGreatDoorFinStatePlaysQ36
import Derived.Test.YtoiahcgaffffbaaGreatDoorFinStatePlaysQ8
import Derived.Test.YtoiahcgaffffbaaGreatDoorFinStatePlaysQ13
import Derived.Test.YtoiahcgaffffbaaGreatDoorFinStatePlaysQ1
namespace Go.Proofs.YtoiahcgaffffbaaGreatDoor
open Go.RowKit
namespace Pl
def joinE (ra rb : Bool) (alo ahi blo bhi : ByteArray) : Nat :=
  if ra = false ∨ rb = false then 4 else if none0 ahi = false ∧ ahi.toList = blo.toList then 0 else if none0 bhi = false ∧ bhi.toList = alo.toList then 0 else 1
def joinV (ra rb : Bool) (alo ahi blo bhi : ByteArray) : ByteArray × ByteArray :=
  if ra = false ∨ rb = false then (⟨#[]⟩, ⟨#[]⟩) else if none0 ahi = false ∧ ahi.toList = blo.toList then (alo, bhi) else if none0 bhi = false ∧ bhi.toList = alo.toList then (blo, ahi) else (⟨#[]⟩, ⟨#[]⟩)
end Pl
def JoinPost (E : Nat → Addr) (v : ByteArray × ByteArray) (n : Nat) (w : World) (e : Ending) (w' : World) : Prop :=
  e = .returned (.tuple #[.agg #[.string v.1, .string v.2], errOf E n]) ∧ Grew w w'
set_option maxHeartbeats 1600000 in
theorem join_any (S : Nat → Bool) (E : Nat → Addr) (hS : SpanS S) (alo ahi blo bhi : ByteArray) (w : World) (h1 : alo.size ≤ 70368744177664) (h2 : ahi.size ≤ 70368744177664) (h3 : blo.size ≤ 70368744177664) (h4 : bhi.size ≤ 70368744177664) (hE : Errs S E w) :
    Calls Tryz.prog 156 #[.agg #[.string alo, .string ahi], .agg #[.string blo, .string bhi]] w (JoinPost E (Pl.joinV (Pl.rightS alo ahi) (Pl.rightS blo bhi) alo ahi blo bhi) (Pl.joinE (Pl.rightS alo ahi) (Pl.rightS blo bhi) alo ahi blo bhi) w) := by
  have HE := hid hE
  obtain ⟨hK, s1, s4⟩ := hS
  have b4 : 0 < w.heap.size := cell_lt (hE.cell 4 s4)
  have b1 : 1 < w.heap.size := cell_lt (hE.cell 1 s1)
  clear hE
  cases r1 : Pl.rightS alo ahi with
  | false =>
    have hn : Pl.joinE false (Pl.rightS blo bhi) alo ahi blo bhi = 4 := by unfold Pl.joinE; rw [if_pos (Or.inl rfl)]
    have hv : Pl.joinV false (Pl.rightS blo bhi) alo ahi blo bhi = (noText, noText) := by unfold Pl.joinV; rw [if_pos (Or.inl rfl)]
    rw [hn, hv]
    clear hn hv
    go_enter Tryz.func156, Tryz.ntmps156
    go_wp2_with fail
    refine (right_span S E hK alo ahi _ h1 h2 (HE.out.grew ((((Grew.refl w).alloc _).alloc _).alloc _))).mono ?_
    rintro e w1 ⟨rfl, hg⟩
    have hG : Grew w w1 := ((((Grew.refl w).alloc _).alloc _).alloc _).trans hg
    have hz : w.heap.size + 1 + 1 < w1.heap.size := by have := hg.size; simp at this; omega
    obtain ⟨hc, hf⟩ := hg.cells
    have cw4 : w.cell? ⟨0, 0, none⟩ = some (.iface 388 (.pointer (some (E 4)))) := HE.out.cell 4 s4
    have c4 : w1.cell? ⟨0, 0, none⟩ = some (.iface 388 (.pointer (some (E 4)))) := (HE.out.grew hG).cell 4 s4
    go_wp2_with fail
    go_region
    go_wp2_with fail
    refine bodyPost_ret (v := .tuple #[.agg #[.string noText, .string noText], errOf E 4]) (by simp [results, Tryz.results156, go_sem, hc]; rfl) rfl ⟨rfl, ?_⟩
    exact ((hG.setCell (by simp; omega) _).setCell (by simp; omega) _).drew
  | true =>
    cases r2 : Pl.rightS blo bhi with
    | false =>
      have hn : Pl.joinE true false alo ahi blo bhi = 4 := by unfold Pl.joinE; rw [if_pos (Or.inr rfl)]
      have hv : Pl.joinV true false alo ahi blo bhi = (noText, noText) := by unfold Pl.joinV; rw [if_pos (Or.inr rfl)]
      rw [hn, hv]
      clear hn hv
      go_enter Tryz.func156, Tryz.ntmps156
      go_wp2_with fail
      refine (right_span S E hK alo ahi _ h1 h2 (HE.out.grew ((((Grew.refl w).alloc _).alloc _).alloc _))).mono ?_
      rintro e w1 ⟨rfl, hg⟩
      have hG : Grew w w1 := ((((Grew.refl w).alloc _).alloc _).alloc _).trans hg
      have hz : w.heap.size + 1 < w1.heap.size ∧ w.heap.size + 1 + 1 < w1.heap.size := by have := hg.size; simp at this; omega
      obtain ⟨hz1, hz2⟩ := hz
      obtain ⟨hc, hf⟩ := hg.cells
      go_wp2_with fail
      refine (right_span S E hK blo bhi _ h3 h4 (HE.out.grew hG)).mono ?_
      rintro e w2 ⟨rfl, hg2⟩
      have hG2 : Grew w w2 := hG.trans hg2
      obtain ⟨hc2, hf2⟩ := hg2.cells
      have c4 : w2.cell? ⟨0, 0, none⟩ = some (.iface 388 (.pointer (some (E 4)))) := (HE.out.grew hG2).cell 4 s4
      go_wp2_with fail
      go_region
      go_wp2_with fail
      refine bodyPost_ret (v := .tuple #[.agg #[.string noText, .string noText], errOf E 4]) (by simp [results, Tryz.results156, go_sem, hc, hc2, hz2]; rfl) rfl ⟨rfl, ?_⟩
      exact ((hG2.setCell (by simp; omega) _).setCell (by simp; omega) _).drew
    | true =>
      cases eahi1 : ahi.toList.isEmpty with
      | true =>
        have eahi2 : ahi.toList = [] := by simpa using eahi1
        cases ebhi1 : bhi.toList.isEmpty with
        | true =>
          have ebhi2 : bhi.toList = [] := by simpa using ebhi1
          have hn : Pl.joinE true true alo ahi blo bhi = 1 := by unfold Pl.joinE; rw [if_neg (by simp), if_neg (fun h => by have := h.1; unfold Pl.none0 at this; rw [eahi1] at this; cases this), if_neg (fun h => by have := h.1; unfold Pl.none0 at this; rw [ebhi1] at this; cases this)]
          have hv : Pl.joinV true true alo ahi blo bhi = (noText, noText) := by unfold Pl.joinV; rw [if_neg (by simp), if_neg (fun h => by have := h.1; unfold Pl.none0 at this; rw [eahi1] at this; cases this), if_neg (fun h => by have := h.1; unfold Pl.none0 at this; rw [ebhi1] at this; cases this)]
          rw [hn, hv]
          clear hn hv
          go_enter Tryz.func156, Tryz.ntmps156
          go_wp2_with fail
          refine (right_span S E hK alo ahi _ (by omega) (by omega) (HE.out.grew ((((Grew.refl w).alloc _).alloc _).alloc _))).mono ?_
          rintro e w1 ⟨rfl, hg⟩
          have hG : Grew w w1 := ((((Grew.refl w).alloc _).alloc _).alloc _).trans hg
          have hz : w.heap.size < w1.heap.size ∧ w.heap.size + 1 < w1.heap.size ∧ w.heap.size + 1 + 1 < w1.heap.size := by have := hg.size; simp at this; omega
          obtain ⟨hz0, hz1, hz2⟩ := hz
          obtain ⟨hc, hf⟩ := hg.cells
          go_wp2_with fail
          refine (right_span S E hK blo bhi _ (by omega) (by omega) (HE.out.grew hG)).mono ?_
          rintro e w2 ⟨rfl, hg2⟩
          have hG2 : Grew w w2 := hG.trans hg2
          obtain ⟨hc2, hf2⟩ := hg2.cells
          have c1 : w2.cell? ⟨1, 0, none⟩ = some (.iface 388 (.pointer (some (E 1)))) := (HE.out.grew hG2).cell 1 s1
          go_wp2_with fail
          go_region
          go_wp2_with fail
          refine bodyPost_ret (v := .tuple #[.agg #[.string noText, .string noText], errOf E 1]) (by simp [results, Tryz.results156, go_sem, hc, hc2, hz2]; rfl) rfl ⟨rfl, ?_⟩
          exact ((hG2.setCell (by simp; omega) _).setCell (by simp; omega) _).drew
        | false =>
          have ebhi2 : ¬ bhi.toList = [] := by simpa using ebhi1
          have ebhi3 : (!bhi.toList.isEmpty) = true := by rw [ebhi1]; rfl
          by_cases q2 : bhi.toList = alo.toList
          · have q2' : (bhi.toList == alo.toList) = true := by simpa using q2
            have hn : Pl.joinE true true alo ahi blo bhi = 0 := by unfold Pl.joinE; rw [if_neg (by simp), if_neg (fun h => by have := h.1; unfold Pl.none0 at this; rw [eahi1] at this; cases this), if_pos ⟨ebhi1, q2⟩]
            have hv : Pl.joinV true true alo ahi blo bhi = (blo, ahi) := by unfold Pl.joinV; rw [if_neg (by simp), if_neg (fun h => by have := h.1; unfold Pl.none0 at this; rw [eahi1] at this; cases this), if_pos ⟨ebhi1, q2⟩]
            rw [hn, hv]
            clear hn hv
            clear q2
            go_enter Tryz.func156, Tryz.ntmps156
            go_wp2_with fail
            refine (right_span S E hK alo ahi _ (by omega) (by omega) (HE.out.grew ((((Grew.refl w).alloc _).alloc _).alloc _))).mono ?_
            rintro e w1 ⟨rfl, hg⟩
            have hG : Grew w w1 := ((((Grew.refl w).alloc _).alloc _).alloc _).trans hg
            have hz : w.heap.size < w1.heap.size ∧ w.heap.size + 1 < w1.heap.size ∧ w.heap.size + 1 + 1 < w1.heap.size := by have := hg.size; simp at this; omega
            obtain ⟨hz0, hz1, hz2⟩ := hz
            obtain ⟨hc, hf⟩ := hg.cells
            go_wp2_with fail
            refine (right_span S E hK blo bhi _ (by omega) (by omega) (HE.out.grew hG)).mono ?_
            rintro e w2 ⟨rfl, hg2⟩
            have hG2 : Grew w w2 := hG.trans hg2
            obtain ⟨hc2, hf2⟩ := hg2.cells
            go_wp2_with fail
            refine bodyPost_ret (v := .tuple #[.agg #[.string blo, .string ahi], errOf E 0]) (by simp [results, Tryz.results156, go_sem, hc, hc2, hz2]; rfl) rfl ⟨rfl, ?_⟩
            exact ((hG2.setCell (by simp; omega) _).setCell (by simp; omega) _)
          · have q2' : (bhi.toList == alo.toList) = false := by simpa using q2
            have hn : Pl.joinE true true alo ahi blo bhi = 1 := by unfold Pl.joinE; rw [if_neg (by simp), if_neg (fun h => by have := h.1; unfold Pl.none0 at this; rw [eahi1] at this; cases this), if_neg (fun h => q2 h.2)]
            have hv : Pl.joinV true true alo ahi blo bhi = (noText, noText) := by unfold Pl.joinV; rw [if_neg (by simp), if_neg (fun h => by have := h.1; unfold Pl.none0 at this; rw [eahi1] at this; cases this), if_neg (fun h => q2 h.2)]
            rw [hn, hv]
            clear hn hv
            clear q2
            go_enter Tryz.func156, Tryz.ntmps156
            go_wp2_with fail
            refine (right_span S E hK alo ahi _ (by omega) (by omega) (HE.out.grew ((((Grew.refl w).alloc _).alloc _).alloc _))).mono ?_
            rintro e w1 ⟨rfl, hg⟩
            have hG : Grew w w1 := ((((Grew.refl w).alloc _).alloc _).alloc _).trans hg
            have hz : w.heap.size < w1.heap.size ∧ w.heap.size + 1 < w1.heap.size ∧ w.heap.size + 1 + 1 < w1.heap.size := by have := hg.size; simp at this; omega
            obtain ⟨hz0, hz1, hz2⟩ := hz
            obtain ⟨hc, hf⟩ := hg.cells
            go_wp2_with fail
            refine (right_span S E hK blo bhi _ (by omega) (by omega) (HE.out.grew hG)).mono ?_
            rintro e w2 ⟨rfl, hg2⟩
            have hG2 : Grew w w2 := hG.trans hg2
            obtain ⟨hc2, hf2⟩ := hg2.cells
            have c1 : w2.cell? ⟨1, 0, none⟩ = some (.iface 388 (.pointer (some (E 1)))) := (HE.out.grew hG2).cell 1 s1
            go_wp2_with fail
            go_region
            go_wp2_with fail
            refine bodyPost_ret (v := .tuple #[.agg #[.string noText, .string noText], errOf E 1]) (by simp [results, Tryz.results156, go_sem, hc, hc2, hz2]; rfl) rfl ⟨rfl, ?_⟩
            exact ((hG2.setCell (by simp; omega) _).setCell (by simp; omega) _).drew
      | false =>
        have eahi2 : ¬ ahi.toList = [] := by simpa using eahi1
        have eahi3 : (!ahi.toList.isEmpty) = true := by rw [eahi1]; rfl
        by_cases q1 : ahi.toList = blo.toList
        · have q1' : (ahi.toList == blo.toList) = true := by simpa using q1
          have hn : Pl.joinE true true alo ahi blo bhi = 0 := by unfold Pl.joinE; rw [if_neg (by simp), if_pos ⟨eahi1, q1⟩]
          have hv : Pl.joinV true true alo ahi blo bhi = (alo, bhi) := by unfold Pl.joinV; rw [if_neg (by simp), if_pos ⟨eahi1, q1⟩]
          rw [hn, hv]
          clear hn hv
          clear q1
          go_enter Tryz.func156, Tryz.ntmps156
          go_wp2_with fail
          refine (right_span S E hK alo ahi _ (by omega) (by omega) (HE.out.grew ((((Grew.refl w).alloc _).alloc _).alloc _))).mono ?_
          rintro e w1 ⟨rfl, hg⟩
          have hG : Grew w w1 := ((((Grew.refl w).alloc _).alloc _).alloc _).trans hg
          have hz : w.heap.size < w1.heap.size ∧ w.heap.size + 1 < w1.heap.size ∧ w.heap.size + 1 + 1 < w1.heap.size := by have := hg.size; simp at this; omega
          obtain ⟨hz0, hz1, hz2⟩ := hz
          obtain ⟨hc, hf⟩ := hg.cells
          go_wp2_with fail
          refine (right_span S E hK blo bhi _ (by omega) (by omega) (HE.out.grew hG)).mono ?_
          rintro e w2 ⟨rfl, hg2⟩
          have hG2 : Grew w w2 := hG.trans hg2
          obtain ⟨hc2, hf2⟩ := hg2.cells
          go_wp2_with fail
          refine bodyPost_ret (v := .tuple #[.agg #[.string alo, .string bhi], errOf E 0]) (by simp [results, Tryz.results156, go_sem, hc, hc2, hz2]; rfl) rfl ⟨rfl, ?_⟩
          exact ((hG2.setCell (by simp; omega) _).setCell (by simp; omega) _)
        · have q1' : (ahi.toList == blo.toList) = false := by simpa using q1
          cases ebhi1 : bhi.toList.isEmpty with
          | true =>
            have ebhi2 : bhi.toList = [] := by simpa using ebhi1
            have hn : Pl.joinE true true alo ahi blo bhi = 1 := by unfold Pl.joinE; rw [if_neg (by simp), if_neg (fun h => q1 h.2), if_neg (fun h => by have := h.1; unfold Pl.none0 at this; rw [ebhi1] at this; cases this)]
            have hv : Pl.joinV true true alo ahi blo bhi = (noText, noText) := by unfold Pl.joinV; rw [if_neg (by simp), if_neg (fun h => q1 h.2), if_neg (fun h => by have := h.1; unfold Pl.none0 at this; rw [ebhi1] at this; cases this)]
            rw [hn, hv]
            clear hn hv
            clear q1
            go_enter Tryz.func156, Tryz.ntmps156
            go_wp2_with fail
            refine (right_span S E hK alo ahi _ (by omega) (by omega) (HE.out.grew ((((Grew.refl w).alloc _).alloc _).alloc _))).mono ?_
            rintro e w1 ⟨rfl, hg⟩
            have hG : Grew w w1 := ((((Grew.refl w).alloc _).alloc _).alloc _).trans hg
            have hz : w.heap.size < w1.heap.size ∧ w.heap.size + 1 < w1.heap.size ∧ w.heap.size + 1 + 1 < w1.heap.size := by have := hg.size; simp at this; omega
            obtain ⟨hz0, hz1, hz2⟩ := hz
            obtain ⟨hc, hf⟩ := hg.cells
            go_wp2_with fail
            refine (right_span S E hK blo bhi _ (by omega) (by omega) (HE.out.grew hG)).mono ?_
            rintro e w2 ⟨rfl, hg2⟩
            have hG2 : Grew w w2 := hG.trans hg2
            obtain ⟨hc2, hf2⟩ := hg2.cells
            have c1 : w2.cell? ⟨1, 0, none⟩ = some (.iface 388 (.pointer (some (E 1)))) := (HE.out.grew hG2).cell 1 s1
            go_wp2_with fail
            go_region
            go_wp2_with fail
            refine bodyPost_ret (v := .tuple #[.agg #[.string noText, .string noText], errOf E 1]) (by simp [results, Tryz.results156, go_sem, hc, hc2, hz2]; rfl) rfl ⟨rfl, ?_⟩
            exact ((hG2.setCell (by simp; omega) _).setCell (by simp; omega) _).drew
          | false =>
            have ebhi2 : ¬ bhi.toList = [] := by simpa using ebhi1
            have ebhi3 : (!bhi.toList.isEmpty) = true := by rw [ebhi1]; rfl
            by_cases q2 : bhi.toList = alo.toList
            · have q2' : (bhi.toList == alo.toList) = true := by simpa using q2
              have hn : Pl.joinE true true alo ahi blo bhi = 0 := by unfold Pl.joinE; rw [if_neg (by simp), if_neg (fun h => q1 h.2), if_pos ⟨ebhi1, q2⟩]
              have hv : Pl.joinV true true alo ahi blo bhi = (blo, ahi) := by unfold Pl.joinV; rw [if_neg (by simp), if_neg (fun h => q1 h.2), if_pos ⟨ebhi1, q2⟩]
              rw [hn, hv]
              clear hn hv
              clear q2
              clear q1
              go_enter Tryz.func156, Tryz.ntmps156
              go_wp2_with fail
              refine (right_span S E hK alo ahi _ (by omega) (by omega) (HE.out.grew ((((Grew.refl w).alloc _).alloc _).alloc _))).mono ?_
              rintro e w1 ⟨rfl, hg⟩
              have hG : Grew w w1 := ((((Grew.refl w).alloc _).alloc _).alloc _).trans hg
              have hz : w.heap.size < w1.heap.size ∧ w.heap.size + 1 < w1.heap.size ∧ w.heap.size + 1 + 1 < w1.heap.size := by have := hg.size; simp at this; omega
              obtain ⟨hz0, hz1, hz2⟩ := hz
              obtain ⟨hc, hf⟩ := hg.cells
              go_wp2_with fail
              refine (right_span S E hK blo bhi _ (by omega) (by omega) (HE.out.grew hG)).mono ?_
              rintro e w2 ⟨rfl, hg2⟩
              have hG2 : Grew w w2 := hG.trans hg2
              obtain ⟨hc2, hf2⟩ := hg2.cells
              go_wp2_with fail
              refine bodyPost_ret (v := .tuple #[.agg #[.string blo, .string ahi], errOf E 0]) (by simp [results, Tryz.results156, go_sem, hc, hc2, hz2]; rfl) rfl ⟨rfl, ?_⟩
              exact ((hG2.setCell (by simp; omega) _).setCell (by simp; omega) _)
            · have q2' : (bhi.toList == alo.toList) = false := by simpa using q2
              have hn : Pl.joinE true true alo ahi blo bhi = 1 := by unfold Pl.joinE; rw [if_neg (by simp), if_neg (fun h => q1 h.2), if_neg (fun h => q2 h.2)]
              have hv : Pl.joinV true true alo ahi blo bhi = (noText, noText) := by unfold Pl.joinV; rw [if_neg (by simp), if_neg (fun h => q1 h.2), if_neg (fun h => q2 h.2)]
              rw [hn, hv]
              clear hn hv
              clear q2
              clear q1
              go_enter Tryz.func156, Tryz.ntmps156
              go_wp2_with fail
              refine (right_span S E hK alo ahi _ (by omega) (by omega) (HE.out.grew ((((Grew.refl w).alloc _).alloc _).alloc _))).mono ?_
              rintro e w1 ⟨rfl, hg⟩
              have hG : Grew w w1 := ((((Grew.refl w).alloc _).alloc _).alloc _).trans hg
              have hz : w.heap.size < w1.heap.size ∧ w.heap.size + 1 < w1.heap.size ∧ w.heap.size + 1 + 1 < w1.heap.size := by have := hg.size; simp at this; omega
              obtain ⟨hz0, hz1, hz2⟩ := hz
              obtain ⟨hc, hf⟩ := hg.cells
              go_wp2_with fail
              refine (right_span S E hK blo bhi _ (by omega) (by omega) (HE.out.grew hG)).mono ?_
              rintro e w2 ⟨rfl, hg2⟩
              have hG2 : Grew w w2 := hG.trans hg2
              obtain ⟨hc2, hf2⟩ := hg2.cells
              have c1 : w2.cell? ⟨1, 0, none⟩ = some (.iface 388 (.pointer (some (E 1)))) := (HE.out.grew hG2).cell 1 s1
              go_wp2_with fail
              go_region
              go_wp2_with fail
              refine bodyPost_ret (v := .tuple #[.agg #[.string noText, .string noText], errOf E 1]) (by simp [results, Tryz.results156, go_sem, hc, hc2, hz2]; rfl) rfl ⟨rfl, ?_⟩
              exact ((hG2.setCell (by simp; omega) _).setCell (by simp; omega) _).drew
end Go.Proofs.YtoiahcgaffffbaaGreatDoor
set_option linter.unusedVariables false
namespace Go.Proofs.YtoiahcgaffffbaaGreatDoor
open Go.Shelf
def Tryz.sortPair_ren : Go.Shelf.Ren := ⟨fun | 6 => 201 | 15 => 210 | 14 => 216 | 28 => 230 | 29 => 231 | 20 => 237 | 21 => 238 | 22 => 239 | 23 => 240 | 24 => 241 | 25 => 242 | 26 => 243 | 27 => 244 | 46 => 254 | 47 => 249 | 48 => 250 | 49 => 255 | 50 => 256 | 57 => 268 | n => n, fun | 22 => 32 | 24 => 83 | 25 => 313 | 3 => 3 | 39 => 224 | 0 => 0 | 53 => 351 | 55 => 353 | 4 => 4 | 46 => 345 | 45 => 344 | 50 => 228 | 5 => 5 | 9 => 9 | 66 => 366 | 70 => 370 | 76 => 381 | 77 => 382 | n => n, fun | n => n⟩
theorem Tryz.sortPair : Go.Proofs.SlLaysF0.n6 Tryz.prog Tryz.sortPair_ren := {
  mixed := by kernel_rfl
  f6 := ⟨Tryz.f201.name, by decide, Tryz.func201.trans (congrArg some (by kernel_rfl))⟩
  f14 := ⟨Tryz.f216.name, by decide, Tryz.func216.trans (congrArg some (by kernel_rfl))⟩
  f15 := Tryz.func210.trans (congrArg some (by kernel_rfl))
  f20 := ⟨Tryz.f237.name, by decide, Tryz.func237.trans (congrArg some (by kernel_rfl))⟩
  f21 := ⟨Tryz.f238.name, by decide, Tryz.func238.trans (congrArg some (by kernel_rfl))⟩
  f22 := ⟨Tryz.f239.name, by decide, Tryz.func239.trans (congrArg some (by kernel_rfl))⟩
  f23 := ⟨Tryz.f240.name, by decide, Tryz.func240.trans (congrArg some (by kernel_rfl))⟩
  f24 := ⟨Tryz.f241.name, by decide, Tryz.func241.trans (congrArg some (by kernel_rfl))⟩
  f25 := ⟨Tryz.f242.name, by decide, Tryz.func242.trans (congrArg some (by kernel_rfl))⟩
  f26 := ⟨Tryz.f243.name, by decide, Tryz.func243.trans (congrArg some (by kernel_rfl))⟩
  f27 := ⟨Tryz.f244.name, by decide, Tryz.func244.trans (congrArg some (by kernel_rfl))⟩
  f28 := Tryz.func230.trans (congrArg some (by kernel_rfl))
  f29 := Tryz.func231.trans (congrArg some (by kernel_rfl))
  f46 := ⟨Tryz.f254.name, by decide, Tryz.func254.trans (congrArg some (by kernel_rfl))⟩
  f47 := Tryz.func249.trans (congrArg some (by kernel_rfl))
  f48 := Tryz.func250.trans (congrArg some (by kernel_rfl))
  f49 := ⟨Tryz.f255.name, by decide, Tryz.func255.trans (congrArg some (by kernel_rfl))⟩
  f50 := ⟨Tryz.f256.name, by decide, Tryz.func256.trans (congrArg some (by kernel_rfl))⟩
  f57 := ⟨Tryz.f268.name, by decide, Tryz.func268.trans (congrArg some (by kernel_rfl))⟩
  t0 := Tryz.underlying0
  a0 := Tryz.isAgg0
  z0 := Tryz.sizeOf0
  v0 := Tryz.zeroValue0
  t3 := Tryz.underlying3
  a3 := Tryz.isAgg3
  z3 := Tryz.sizeOf3
  v3 := Tryz.zeroValue3
  t4 := Tryz.underlying4
  a4 := Tryz.isAgg4
  z4 := Tryz.sizeOf4
  v4 := Tryz.zeroValue4
  t5 := Tryz.underlying5
  a5 := Tryz.isAgg5
  z5 := Tryz.sizeOf5
  v5 := Tryz.zeroValue5
  t9 := Tryz.underlying9
  a9 := Tryz.isAgg9
  z9 := Tryz.sizeOf9
  v9 := Tryz.zeroValue9
  t22 := Tryz.underlying32
  a22 := Tryz.isAgg32
  z22 := Tryz.sizeOf32
  v22 := Tryz.zeroValue32
  t25 := Tryz.underlying313
  a25 := Tryz.isAgg313
  z25 := Tryz.sizeOf313
  v25 := Tryz.zeroValue313
  t39 := Tryz.underlying224
  a39 := Tryz.isAgg224
  z39 := Tryz.sizeOf224
  v39 := Tryz.zeroValue224
  t45 := Tryz.underlying344
  a45 := Tryz.isAgg344
  z45 := Tryz.sizeOf344
  v45 := Tryz.zeroValue344
  t46 := Tryz.underlying345
  a46 := Tryz.isAgg345
  z46 := Tryz.sizeOf345
  v46 := Tryz.zeroValue345
  t50 := Tryz.underlying228
  a50 := Tryz.isAgg228
  z50 := Tryz.sizeOf228
  v50 := Tryz.zeroValue228
  t53 := Tryz.underlying351
  a53 := Tryz.isAgg351
  z53 := Tryz.sizeOf351
  v53 := Tryz.zeroValue351
  t55 := Tryz.underlying353
  a55 := Tryz.isAgg353
  z55 := Tryz.sizeOf353
  v55 := Tryz.zeroValue353
  t66 := Tryz.underlying366
  a66 := Tryz.isAgg366
  z66 := Tryz.sizeOf366
  v66 := Tryz.zeroValue366
  t70 := Tryz.underlying370
  a70 := Tryz.isAgg370
  z70 := Tryz.sizeOf370
  v70 := Tryz.zeroValue370
  t76 := Tryz.underlying381
  a76 := Tryz.isAgg381
  z76 := Tryz.sizeOf381
  v76 := Tryz.zeroValue381
  t77 := Tryz.underlying382
  a77 := Tryz.isAgg382
  z77 := Tryz.sizeOf382
  v77 := Tryz.zeroValue382 }
end Go.Proofs.YtoiahcgaffffbaaGreatDoor
namespace Go.Proofs.YtoiahcgaffffbaaGreatDoor
open Go.RowKit Go.Shelf Go.Lib Go.Sort
attribute [local go_sem] Oper.semAt_some
theorem swoKey {α : Type} (f : α → ByteArray) (hf : ∀ x, Pl.Ok (f x)) : SWO (ltOf fun x y => Pl.compare (f x) (f y)) where
  irrefl x := by
    simp only [ltOf, Pl.compare_self (hf x)]; decide
  trans x y z h k := by
    simp only [ltOf, decide_eq_true_eq] at *
    exact Pl.compare_trans (hf x) (hf y) (hf z) h k
  ntrans x y z h k := by
    simp only [ltOf, decide_eq_false_iff_not] at *
    intro hz
    have s1 := Pl.compare_swap (hf x) (hf y)
    have s2 := Pl.compare_swap (hf y) (hf z)
    by_cases h1 : Pl.compare (f y) (f x) < 0
    · have := Pl.compare_trans (hf y) (hf x) (hf z) h1 hz
      omega
    · have h2 : Pl.compare (f x) (f y) = 0 := by omega
      have e := Pl.compare_zero (hf x) (hf y) h2
      rw [e] at hz; omega
theorem ownsRow_putRow {w : World} {B : Nat} {e : TypeId} {k g cap n : Nat} {L : List Value} (ho : w.ownsRow B e k (.slice (some ⟨g, 0, none⟩) n cap) n L) (h0 : 0 < n) (F : Array Value) (hF : F.size = n * k) :
    (putRow id w g 0 F).ownsRow B e k (.slice (some ⟨g, 0, none⟩) n cap) n F.toList ∧ Only (fun j => j = g) w (putRow id w g 0 F) := by
  obtain ⟨g', cap', cur, e1, hB, hg, hn, hc, hl, hx⟩ := ownsRow_block ho h0
  cases e1
  have hnk : n * k ≤ cap * k := Nat.mul_le_mul_right k hn
  have hheap : (putRow id w g 0 F).heap[g]? = some (.cells ((putCells id 0 F cur.toArray).toList).toArray e (0, 0)) := by
    unfold putRow mapBlock
    dsimp only
    rw [Array.getElem?_modify, if_pos rfl, hg]
    simp [onCells]
  refine ⟨ownsRow_of_block hB hheap hn hc ?_ ?_, ⟨rfl, rfl, rfl, ?_, ?_⟩⟩
  · unfold putCells; simp [hl]
  · apply List.ext_getElem?
    intro t
    rw [List.getElem?_take]
    by_cases ht : t < n * k
    · rw [if_pos ht]
      have h1 : (putCells id 0 F cur.toArray).toList[t]? = some F[t]! := by
        unfold putCells
        rw [Array.getElem?_toList, Array.getElem?_mapIdx]
        have : cur.toArray[t]? = some cur[t] := by simp [List.getElem?_eq_getElem (show t < cur.length by omega)]
        rw [this]
        simp only [Option.map_some, Nat.zero_le, Nat.zero_add, Nat.sub_zero, true_and, id]
        rw [if_pos (by omega)]
      rw [h1, Array.getElem?_toList, getElem!_pos F t (by omega), Array.getElem?_eq_getElem (by omega)]
    · rw [if_neg ht, Array.getElem?_toList, Array.getElem?_eq_none (by omega)]
  · unfold putRow mapBlock; simp
  · intro j hj hne
    unfold putRow mapBlock
    dsimp only
    rw [Array.getElem?_modify, if_neg (fun h => hne h.symm)]
structure PrK where
  val : Pr
  ok : Pl.Ok val.key ∧ val.key.size ≤ 70368744177664
instance : Inhabited PrK := ⟨⟨Pr.none, ⟨[], rfl⟩, by decide⟩⟩
def encPr (x : PrK) : List Value := x.1.vals
def cfPr (x y : PrK) : Int := Pl.compare x.1.key y.1.key
theorem flat_pr (d : Array PrK) : (flatK encPr 3 d).toList = prFlat (d.toList.map PrK.val) := by
  apply List.ext_getElem?
  intro t
  by_cases ht : t < d.size * 3
  · have h1 : (flatK encPr 3 d).toList[t]? = some (flatK encPr 3 d)[t]! := by
      rw [Array.getElem?_toList, Array.getElem?_eq_getElem (by rw [size_flatK]; exact ht), getElem!_pos _ t (by rw [size_flatK]; exact ht)]
    have h2 := prFlat_get (t % 3) (Nat.mod_lt _ (by decide)) (d.toList.map PrK.val) (t / 3) (by simp; omega)
    rw [show t / 3 * 3 + t % 3 = t by omega] at h2
    rw [h1, h2, get_flatK _ _ _ _ ht, prAt_eq _ _ (by simp; omega)]
    have h3 : (d.toList.map PrK.val)[t / 3]'(by simp; omega) = (d[t / 3]!).1 := by
      rw [getElem!_pos d (t / 3) (by omega)]; simp
    rw [h3]
    unfold encPr
    have h4 : t % 3 < 3 := Nat.mod_lt _ (by decide)
    generalize t % 3 = r at h4
    generalize (d[t / 3]!).1 = c
    unfold Pr.vals
    match r, h4 with
    | 0, _ => rfl
    | 1, _ => rfl
    | 2, _ => rfl
  · rw [List.getElem?_eq_none (by rw [Array.length_toList, size_flatK]; omega), List.getElem?_eq_none (by rw [prFlat_length]; simp; omega)]
theorem joinLess (x y : PrK) (W : World) : Calls Tryz.prog 202 #[.agg #[.string x.1.key, .string x.1.val, .int .i64 x.1.ver], .agg #[.string y.1.key, .string y.1.val, .int .i64 y.1.ver]] W fun e w' => e = .returned (.int .i64 (cfPr x y)) ∧ GrewD W w' := by
  have hc := fun W => compareD_any x.1.key y.1.key W x.2.2 y.2.2
  change ∀ W, Calls Tryz.prog 111 _ W (fun e w' => e = .returned (.int .i64 (cfPr x y)) ∧ _) at hc
  have HC := hid hc
  clear hc
  generalize cfPr x y = r at HC ⊢
  go_enter Tryz.func202, Tryz.ntmps202
  go_wp2_with fail
  refine (HC.out _).mono ?_
  rintro e w1 ⟨rfl, hg⟩
  go_wp2_with fail
  go_ret
  exact ⟨rfl, (((GrewD.refl W).alloc _).alloc _).trans hg⟩
theorem cmpPr (blk off size : Nat) (w : World) : CmpLays Tryz.prog 202 #[] encPr 3 cfPr blk off size w :=
  fun _ _ _ _ x y => (joinLess x y _).mono fun _ _ ⟨he, hg⟩ => ⟨he, hg.grown⟩
def prK (xs : List Pr) (hok : ∀ c ∈ xs, Pl.Ok c.key ∧ c.key.size ≤ 70368744177664) : Array PrK := (xs.attach.map fun c => (⟨c.1, hok c.1 c.2⟩ : PrK)).toArray
theorem prK_val (xs : List Pr) (hok) : (prK xs hok).toList.map PrK.val = xs := by unfold prK; simp
theorem prK_size (xs : List Pr) (hok) : (prK xs hok).size = xs.length := by unfold prK; simp
theorem holds_pr {w : World} {B g cap : Nat} {xs : List Pr} (ho : w.ownsRow B 83 3 (.slice (some ⟨g, 0, none⟩) xs.length cap) xs.length (prFlat xs)) (h0 : 0 < xs.length) (hok : ∀ c ∈ xs, Pl.Ok c.key ∧ c.key.size ≤ 70368744177664) : HoldsK encPr 3 w g 0 (prK xs hok) := by
  obtain ⟨g', cap', cur, e, hB, hg, hn, hc, hl, hx⟩ := ownsRow_block ho h0
  cases e
  intro t ht
  have ht' := ht
  rw [size_flatK, prK_size] at ht'
  refine ⟨?_, ?_⟩
  · rw [Nat.zero_add, cell_block hg t]
    have h1 : cur[t]? = (prFlat xs)[t]? := by rw [← hx, List.getElem?_take, if_pos ht']
    have h2 := flat_pr (prK xs hok)
    rw [prK_val] at h2
    rw [h1, ← h2, Array.getElem?_toList, Array.getElem?_eq_getElem ht, getElem!_pos _ t ht]; rfl
  · unfold World.frozen?
    dsimp only
    rw [hg]
    rfl
theorem sortPairs (w : World) (B g cap : Nat) (xs : List Pr) (ho : w.ownsRow B 83 3 (.slice (some ⟨g, 0, none⟩) xs.length cap) xs.length (prFlat xs)) (h0 : 0 < xs.length) (hbig : xs.length ≤ 1000000) (hok : ∀ c ∈ xs, Pl.Ok c.key ∧ c.key.size ≤ 70368744177664) :
    Calls Tryz.prog 201 #[.slice (some ⟨g, 0, none⟩) xs.length cap, .func (.func 202) #[] #[]] w fun e w' => e = .returned (.tuple #[]) ∧ Only (fun j => j = g) w w' ∧ ∃ zs : List Pr, zs.Perm xs ∧ zs.Pairwise (fun a b => ¬ Pl.compare b.key a.key < 0) ∧ w'.ownsRow B 83 3 (.slice (some ⟨g, 0, none⟩) zs.length cap) zs.length (prFlat zs) := by
  have hH := holds_pr ho h0 hok
  have hlt : g < w.heap.size := by
    obtain ⟨_, _, e, _, hlt⟩ := ho.form h0
    cases e
    exact hlt
  have eg : ∀ args w, (callFunc 202 args).run Tryz.prog w = .ok (.enter 202 args) w := enters_of Tryz.func202 (by kernel_rfl) rfl
  have hcon := AnyQ.slices_SortFunc Tryz.sortPair 3 Tryz.isAgg83 Tryz.sizeOf83 encPr (fun _ => rfl) (fun x v hv => by simp [encPr, Pr.vals] at hv; rcases hv with rfl | rfl | rfl <;> rfl) cfPr (swoKey (fun x : PrK => x.1.key) fun x => x.2.1) 202 #[] g 0 cap (prK xs hok) w eg (cmpPr g 0 _ w) hH hlt (by rw [prK_size]; omega)
  rw [prK_size] at hcon
  refine hcon.mono ?_
  rintro e w' ⟨he, d', n, os, hp, hd, hw⟩
  obtain ⟨hs, _, hperm⟩ := hp
  rw [prK_size] at hs
  have e1 : (prK xs hok).extract 0 xs.length = prK xs hok := by rw [← prK_size xs hok]; simp
  have e2 : d'.extract 0 xs.length = d' := by rw [← hs]; simp
  rw [e1, e2] at hperm
  have hlen : (d'.toList.map PrK.val).length = xs.length := by simp [hs]
  obtain ⟨hr, hO⟩ := ownsRow_putRow (w := Sort.ahead w n) (show (Sort.ahead w n).ownsRow B 83 3 _ _ _ from ho) h0 (flatK encPr 3 d') (by rw [size_flatK, hs])
  have hO1 : Only (fun j => j = g) w (putRow id (Sort.ahead w n) g 0 (flatK encPr 3 d')) := (Only.mono (show Only (fun j => j = g) w (Sort.ahead w n) from ⟨rfl, rfl, rfl, Nat.le_refl _, fun _ _ _ => rfl⟩) (fun _ h => .inl h)).then hO
  have hG : Grew (putRow id (Sort.ahead w n) g 0 (flatK encPr 3 d')) w' := by
    rw [hw]
    refine ⟨rfl, rfl, rfl, ?_, ?_⟩
    · unfold sortWorldK grow putRowK; simp
    · intro k hk
      show (_ ++ os)[k]? = _
      rw [Array.getElem?_append]
      exact if_pos hk
  refine ⟨he, hO1.grewT hG, d'.toList.map PrK.val, ?_, ?_, ?_⟩
  · have := hperm.map PrK.val
    rwa [prK_val] at this
  · rw [List.pairwise_map, List.pairwise_iff_getElem]
    intro i j hi hj hij
    have := hd i j (Nat.zero_le _) hij (by simpa [hs] using hj)
    rw [getElem!_pos d' i (by simpa using hi), getElem!_pos d' j (by simpa using hj)] at this
    unfold ltOf cfPr at this
    simpa using this
  · rw [hlen, ← flat_pr]
    exact ownsRow_grew hG hr
end Go.Proofs.YtoiahcgaffffbaaGreatDoor
