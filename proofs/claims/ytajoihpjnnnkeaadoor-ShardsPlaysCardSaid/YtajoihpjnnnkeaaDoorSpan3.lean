/- The walks of package span: Join, Meet. -/
import Derived.Test.YtajoihpjnnnkeaaDoorSpan1
namespace Go.Proofs.YtajoihpjnnnkeaaDoor
open Go.RowKit

namespace Pl
/-- span.Join: the error's number; the whole. -/
def joinE (ra rb : Bool) (alo ahi blo bhi : ByteArray) : Nat :=
  if ra = false ∨ rb = false then 4 else if none0 ahi = false ∧ ahi.toList = blo.toList then 0 else if none0 bhi = false ∧ bhi.toList = alo.toList then 0 else 1
def joinV (ra rb : Bool) (alo ahi blo bhi : ByteArray) : ByteArray × ByteArray :=
  if ra = false ∨ rb = false then (⟨#[]⟩, ⟨#[]⟩) else if none0 ahi = false ∧ ahi.toList = blo.toList then (alo, bhi) else if none0 bhi = false ∧ bhi.toList = alo.toList then (blo, ahi) else (⟨#[]⟩, ⟨#[]⟩)
end Pl

def JoinPost (E : Nat → Addr) (v : ByteArray × ByteArray) (n : Nat) (w : World) (e : Ending) (w' : World) : Prop :=
  e = .returned (.tuple #[.agg #[.string v.1, .string v.2], errOf E n]) ∧ Grew w w'

set_option maxHeartbeats 1600000 in
theorem join_any (S : Nat → Bool) (E : Nat → Addr) (hS : SpanS S) (alo ahi blo bhi : ByteArray) (w : World) (h1 : alo.size ≤ 70368744177664) (h2 : ahi.size ≤ 70368744177664) (h3 : blo.size ≤ 70368744177664) (h4 : bhi.size ≤ 70368744177664) (hE : Errs S E w) :
    Calls Tryd.prog 48 #[.agg #[.string alo, .string ahi], .agg #[.string blo, .string bhi]] w (JoinPost E (Pl.joinV (Pl.rightS alo ahi) (Pl.rightS blo bhi) alo ahi blo bhi) (Pl.joinE (Pl.rightS alo ahi) (Pl.rightS blo bhi) alo ahi blo bhi) w) := by
  have HE := hid hE
  obtain ⟨hK, s1, s4⟩ := hS
  have b4 : 3 < w.heap.size := cell_lt (hE.cell 4 s4)
  have b1 : 1 < w.heap.size := cell_lt (hE.cell 1 s1)
  clear hE
  cases r1 : Pl.rightS alo ahi with
  | false =>
    have hn : Pl.joinE false (Pl.rightS blo bhi) alo ahi blo bhi = 4 := by unfold Pl.joinE; rw [if_pos (Or.inl rfl)]
    have hv : Pl.joinV false (Pl.rightS blo bhi) alo ahi blo bhi = (noText, noText) := by unfold Pl.joinV; rw [if_pos (Or.inl rfl)]
    rw [hn, hv]
    clear hn hv
    go_enter Tryd.func48, Tryd.ntmps48
    go_wp2_with fail
    refine (right_span S E hK alo ahi _ h1 h2 (HE.out.grew ((((Grew.refl w).alloc _).alloc _).alloc _))).mono ?_
    rintro e w1 ⟨rfl, hg⟩
    have hG : Grew w w1 := ((((Grew.refl w).alloc _).alloc _).alloc _).trans hg
    have hz : w.heap.size + 1 + 1 < w1.heap.size := by have := hg.size; simp at this; omega
    obtain ⟨hc, hf⟩ := hg.cells
    have c4 : w1.cell? ⟨3, 0, none⟩ = some (.iface 265 (.pointer (some (E 4)))) := (HE.out.grew hG).cell 4 s4
    go_wp2_with fail
    go_region
    go_wp2_with fail
    refine bodyPost_ret (v := .tuple #[.agg #[.string noText, .string noText], errOf E 4]) (by simp [results, Tryd.results48, go_sem, hc]; rfl) rfl ⟨rfl, ?_⟩
    exact ((hG.setCell (by simp; omega) _).setCell (by simp; omega) _).drew
  | true =>
    cases r2 : Pl.rightS blo bhi with
    | false =>
      have hn : Pl.joinE true false alo ahi blo bhi = 4 := by unfold Pl.joinE; rw [if_pos (Or.inr rfl)]
      have hv : Pl.joinV true false alo ahi blo bhi = (noText, noText) := by unfold Pl.joinV; rw [if_pos (Or.inr rfl)]
      rw [hn, hv]
      clear hn hv
      go_enter Tryd.func48, Tryd.ntmps48
      go_wp2_with fail
      refine (right_span S E hK alo ahi _ h1 h2 (HE.out.grew ((((Grew.refl w).alloc _).alloc _).alloc _))).mono ?_
      rintro e w1 ⟨rfl, hg⟩
      have hG : Grew w w1 := ((((Grew.refl w).alloc _).alloc _).alloc _).trans hg
      have hz : w.heap.size + 1 < w1.heap.size ∧ w.heap.size + 1 + 1 < w1.heap.size := by have := hg.size; simp at this; omega
      obtain ⟨hz1, hz2⟩ := hz
      obtain ⟨hc, hf⟩ := hg.cells
      go_wp2_with fail
      refine (right_span S E hK blo bhi _ h3 h4 (HE.out.grew hG)).mono ?_
      rintro e w2 ⟨rfl, hg2⟩
      have hG2 : Grew w w2 := hG.trans hg2
      obtain ⟨hc2, hf2⟩ := hg2.cells
      have c4 : w2.cell? ⟨3, 0, none⟩ = some (.iface 265 (.pointer (some (E 4)))) := (HE.out.grew hG2).cell 4 s4
      go_wp2_with fail
      go_region
      go_wp2_with fail
      refine bodyPost_ret (v := .tuple #[.agg #[.string noText, .string noText], errOf E 4]) (by simp [results, Tryd.results48, go_sem, hc, hc2, hz2]; rfl) rfl ⟨rfl, ?_⟩
      exact ((hG2.setCell (by simp; omega) _).setCell (by simp; omega) _).drew
    | true =>
      cases eahi1 : ahi.toList.isEmpty with
      | true =>
        have eahi2 : ahi.toList = [] := by simpa using eahi1
        cases ebhi1 : bhi.toList.isEmpty with
        | true =>
          have ebhi2 : bhi.toList = [] := by simpa using ebhi1
          have hn : Pl.joinE true true alo ahi blo bhi = 1 := by unfold Pl.joinE; rw [if_neg (by simp), if_neg (fun h => by have := h.1; unfold Pl.none0 at this; rw [eahi1] at this; cases this), if_neg (fun h => by have := h.1; unfold Pl.none0 at this; rw [ebhi1] at this; cases this)]
          have hv : Pl.joinV true true alo ahi blo bhi = (noText, noText) := by unfold Pl.joinV; rw [if_neg (by simp), if_neg (fun h => by have := h.1; unfold Pl.none0 at this; rw [eahi1] at this; cases this), if_neg (fun h => by have := h.1; unfold Pl.none0 at this; rw [ebhi1] at this; cases this)]
          rw [hn, hv]
          clear hn hv
          go_enter Tryd.func48, Tryd.ntmps48
          go_wp2_with fail
          refine (right_span S E hK alo ahi _ (by omega) (by omega) (HE.out.grew ((((Grew.refl w).alloc _).alloc _).alloc _))).mono ?_
          rintro e w1 ⟨rfl, hg⟩
          have hG : Grew w w1 := ((((Grew.refl w).alloc _).alloc _).alloc _).trans hg
          have hz : w.heap.size < w1.heap.size ∧ w.heap.size + 1 < w1.heap.size ∧ w.heap.size + 1 + 1 < w1.heap.size := by have := hg.size; simp at this; omega
          obtain ⟨hz0, hz1, hz2⟩ := hz
          obtain ⟨hc, hf⟩ := hg.cells
          go_wp2_with fail
          refine (right_span S E hK blo bhi _ (by omega) (by omega) (HE.out.grew hG)).mono ?_
          rintro e w2 ⟨rfl, hg2⟩
          have hG2 : Grew w w2 := hG.trans hg2
          obtain ⟨hc2, hf2⟩ := hg2.cells
          have c1 : w2.cell? ⟨1, 0, none⟩ = some (.iface 265 (.pointer (some (E 1)))) := (HE.out.grew hG2).cell 1 s1
          go_wp2_with fail
          go_region
          go_wp2_with fail
          refine bodyPost_ret (v := .tuple #[.agg #[.string noText, .string noText], errOf E 1]) (by simp [results, Tryd.results48, go_sem, hc, hc2, hz2]; rfl) rfl ⟨rfl, ?_⟩
          exact ((hG2.setCell (by simp; omega) _).setCell (by simp; omega) _).drew
        | false =>
          have ebhi2 : ¬ bhi.toList = [] := by simpa using ebhi1
          have ebhi3 : (!bhi.toList.isEmpty) = true := by rw [ebhi1]; rfl
          by_cases q2 : bhi.toList = alo.toList
          · have q2' : (bhi.toList == alo.toList) = true := by simpa using q2
            have hn : Pl.joinE true true alo ahi blo bhi = 0 := by unfold Pl.joinE; rw [if_neg (by simp), if_neg (fun h => by have := h.1; unfold Pl.none0 at this; rw [eahi1] at this; cases this), if_pos ⟨ebhi1, q2⟩]
            have hv : Pl.joinV true true alo ahi blo bhi = (blo, ahi) := by unfold Pl.joinV; rw [if_neg (by simp), if_neg (fun h => by have := h.1; unfold Pl.none0 at this; rw [eahi1] at this; cases this), if_pos ⟨ebhi1, q2⟩]
            rw [hn, hv]
            clear hn hv
            clear q2
            go_enter Tryd.func48, Tryd.ntmps48
            go_wp2_with fail
            refine (right_span S E hK alo ahi _ (by omega) (by omega) (HE.out.grew ((((Grew.refl w).alloc _).alloc _).alloc _))).mono ?_
            rintro e w1 ⟨rfl, hg⟩
            have hG : Grew w w1 := ((((Grew.refl w).alloc _).alloc _).alloc _).trans hg
            have hz : w.heap.size < w1.heap.size ∧ w.heap.size + 1 < w1.heap.size ∧ w.heap.size + 1 + 1 < w1.heap.size := by have := hg.size; simp at this; omega
            obtain ⟨hz0, hz1, hz2⟩ := hz
            obtain ⟨hc, hf⟩ := hg.cells
            go_wp2_with fail
            refine (right_span S E hK blo bhi _ (by omega) (by omega) (HE.out.grew hG)).mono ?_
            rintro e w2 ⟨rfl, hg2⟩
            have hG2 : Grew w w2 := hG.trans hg2
            obtain ⟨hc2, hf2⟩ := hg2.cells
            go_wp2_with fail
            refine bodyPost_ret (v := .tuple #[.agg #[.string blo, .string ahi], errOf E 0]) (by simp [results, Tryd.results48, go_sem, hc, hc2, hz2]; rfl) rfl ⟨rfl, ?_⟩
            exact ((hG2.setCell (by simp; omega) _).setCell (by simp; omega) _)
          · have q2' : (bhi.toList == alo.toList) = false := by simpa using q2
            have hn : Pl.joinE true true alo ahi blo bhi = 1 := by unfold Pl.joinE; rw [if_neg (by simp), if_neg (fun h => by have := h.1; unfold Pl.none0 at this; rw [eahi1] at this; cases this), if_neg (fun h => q2 h.2)]
            have hv : Pl.joinV true true alo ahi blo bhi = (noText, noText) := by unfold Pl.joinV; rw [if_neg (by simp), if_neg (fun h => by have := h.1; unfold Pl.none0 at this; rw [eahi1] at this; cases this), if_neg (fun h => q2 h.2)]
            rw [hn, hv]
            clear hn hv
            clear q2
            go_enter Tryd.func48, Tryd.ntmps48
            go_wp2_with fail
            refine (right_span S E hK alo ahi _ (by omega) (by omega) (HE.out.grew ((((Grew.refl w).alloc _).alloc _).alloc _))).mono ?_
            rintro e w1 ⟨rfl, hg⟩
            have hG : Grew w w1 := ((((Grew.refl w).alloc _).alloc _).alloc _).trans hg
            have hz : w.heap.size < w1.heap.size ∧ w.heap.size + 1 < w1.heap.size ∧ w.heap.size + 1 + 1 < w1.heap.size := by have := hg.size; simp at this; omega
            obtain ⟨hz0, hz1, hz2⟩ := hz
            obtain ⟨hc, hf⟩ := hg.cells
            go_wp2_with fail
            refine (right_span S E hK blo bhi _ (by omega) (by omega) (HE.out.grew hG)).mono ?_
            rintro e w2 ⟨rfl, hg2⟩
            have hG2 : Grew w w2 := hG.trans hg2
            obtain ⟨hc2, hf2⟩ := hg2.cells
            have c1 : w2.cell? ⟨1, 0, none⟩ = some (.iface 265 (.pointer (some (E 1)))) := (HE.out.grew hG2).cell 1 s1
            go_wp2_with fail
            go_region
            go_wp2_with fail
            refine bodyPost_ret (v := .tuple #[.agg #[.string noText, .string noText], errOf E 1]) (by simp [results, Tryd.results48, go_sem, hc, hc2, hz2]; rfl) rfl ⟨rfl, ?_⟩
            exact ((hG2.setCell (by simp; omega) _).setCell (by simp; omega) _).drew
      | false =>
        have eahi2 : ¬ ahi.toList = [] := by simpa using eahi1
        have eahi3 : (!ahi.toList.isEmpty) = true := by rw [eahi1]; rfl
        by_cases q1 : ahi.toList = blo.toList
        · have q1' : (ahi.toList == blo.toList) = true := by simpa using q1
          have hn : Pl.joinE true true alo ahi blo bhi = 0 := by unfold Pl.joinE; rw [if_neg (by simp), if_pos ⟨eahi1, q1⟩]
          have hv : Pl.joinV true true alo ahi blo bhi = (alo, bhi) := by unfold Pl.joinV; rw [if_neg (by simp), if_pos ⟨eahi1, q1⟩]
          rw [hn, hv]
          clear hn hv
          clear q1
          go_enter Tryd.func48, Tryd.ntmps48
          go_wp2_with fail
          refine (right_span S E hK alo ahi _ (by omega) (by omega) (HE.out.grew ((((Grew.refl w).alloc _).alloc _).alloc _))).mono ?_
          rintro e w1 ⟨rfl, hg⟩
          have hG : Grew w w1 := ((((Grew.refl w).alloc _).alloc _).alloc _).trans hg
          have hz : w.heap.size < w1.heap.size ∧ w.heap.size + 1 < w1.heap.size ∧ w.heap.size + 1 + 1 < w1.heap.size := by have := hg.size; simp at this; omega
          obtain ⟨hz0, hz1, hz2⟩ := hz
          obtain ⟨hc, hf⟩ := hg.cells
          go_wp2_with fail
          refine (right_span S E hK blo bhi _ (by omega) (by omega) (HE.out.grew hG)).mono ?_
          rintro e w2 ⟨rfl, hg2⟩
          have hG2 : Grew w w2 := hG.trans hg2
          obtain ⟨hc2, hf2⟩ := hg2.cells
          go_wp2_with fail
          refine bodyPost_ret (v := .tuple #[.agg #[.string alo, .string bhi], errOf E 0]) (by simp [results, Tryd.results48, go_sem, hc, hc2, hz2]; rfl) rfl ⟨rfl, ?_⟩
          exact ((hG2.setCell (by simp; omega) _).setCell (by simp; omega) _)
        · have q1' : (ahi.toList == blo.toList) = false := by simpa using q1
          cases ebhi1 : bhi.toList.isEmpty with
          | true =>
            have ebhi2 : bhi.toList = [] := by simpa using ebhi1
            have hn : Pl.joinE true true alo ahi blo bhi = 1 := by unfold Pl.joinE; rw [if_neg (by simp), if_neg (fun h => q1 h.2), if_neg (fun h => by have := h.1; unfold Pl.none0 at this; rw [ebhi1] at this; cases this)]
            have hv : Pl.joinV true true alo ahi blo bhi = (noText, noText) := by unfold Pl.joinV; rw [if_neg (by simp), if_neg (fun h => q1 h.2), if_neg (fun h => by have := h.1; unfold Pl.none0 at this; rw [ebhi1] at this; cases this)]
            rw [hn, hv]
            clear hn hv
            clear q1
            go_enter Tryd.func48, Tryd.ntmps48
            go_wp2_with fail
            refine (right_span S E hK alo ahi _ (by omega) (by omega) (HE.out.grew ((((Grew.refl w).alloc _).alloc _).alloc _))).mono ?_
            rintro e w1 ⟨rfl, hg⟩
            have hG : Grew w w1 := ((((Grew.refl w).alloc _).alloc _).alloc _).trans hg
            have hz : w.heap.size < w1.heap.size ∧ w.heap.size + 1 < w1.heap.size ∧ w.heap.size + 1 + 1 < w1.heap.size := by have := hg.size; simp at this; omega
            obtain ⟨hz0, hz1, hz2⟩ := hz
            obtain ⟨hc, hf⟩ := hg.cells
            go_wp2_with fail
            refine (right_span S E hK blo bhi _ (by omega) (by omega) (HE.out.grew hG)).mono ?_
            rintro e w2 ⟨rfl, hg2⟩
            have hG2 : Grew w w2 := hG.trans hg2
            obtain ⟨hc2, hf2⟩ := hg2.cells
            have c1 : w2.cell? ⟨1, 0, none⟩ = some (.iface 265 (.pointer (some (E 1)))) := (HE.out.grew hG2).cell 1 s1
            go_wp2_with fail
            go_region
            go_wp2_with fail
            refine bodyPost_ret (v := .tuple #[.agg #[.string noText, .string noText], errOf E 1]) (by simp [results, Tryd.results48, go_sem, hc, hc2, hz2]; rfl) rfl ⟨rfl, ?_⟩
            exact ((hG2.setCell (by simp; omega) _).setCell (by simp; omega) _).drew
          | false =>
            have ebhi2 : ¬ bhi.toList = [] := by simpa using ebhi1
            have ebhi3 : (!bhi.toList.isEmpty) = true := by rw [ebhi1]; rfl
            by_cases q2 : bhi.toList = alo.toList
            · have q2' : (bhi.toList == alo.toList) = true := by simpa using q2
              have hn : Pl.joinE true true alo ahi blo bhi = 0 := by unfold Pl.joinE; rw [if_neg (by simp), if_neg (fun h => q1 h.2), if_pos ⟨ebhi1, q2⟩]
              have hv : Pl.joinV true true alo ahi blo bhi = (blo, ahi) := by unfold Pl.joinV; rw [if_neg (by simp), if_neg (fun h => q1 h.2), if_pos ⟨ebhi1, q2⟩]
              rw [hn, hv]
              clear hn hv
              clear q2
              clear q1
              go_enter Tryd.func48, Tryd.ntmps48
              go_wp2_with fail
              refine (right_span S E hK alo ahi _ (by omega) (by omega) (HE.out.grew ((((Grew.refl w).alloc _).alloc _).alloc _))).mono ?_
              rintro e w1 ⟨rfl, hg⟩
              have hG : Grew w w1 := ((((Grew.refl w).alloc _).alloc _).alloc _).trans hg
              have hz : w.heap.size < w1.heap.size ∧ w.heap.size + 1 < w1.heap.size ∧ w.heap.size + 1 + 1 < w1.heap.size := by have := hg.size; simp at this; omega
              obtain ⟨hz0, hz1, hz2⟩ := hz
              obtain ⟨hc, hf⟩ := hg.cells
              go_wp2_with fail
              refine (right_span S E hK blo bhi _ (by omega) (by omega) (HE.out.grew hG)).mono ?_
              rintro e w2 ⟨rfl, hg2⟩
              have hG2 : Grew w w2 := hG.trans hg2
              obtain ⟨hc2, hf2⟩ := hg2.cells
              go_wp2_with fail
              refine bodyPost_ret (v := .tuple #[.agg #[.string blo, .string ahi], errOf E 0]) (by simp [results, Tryd.results48, go_sem, hc, hc2, hz2]; rfl) rfl ⟨rfl, ?_⟩
              exact ((hG2.setCell (by simp; omega) _).setCell (by simp; omega) _)
            · have q2' : (bhi.toList == alo.toList) = false := by simpa using q2
              have hn : Pl.joinE true true alo ahi blo bhi = 1 := by unfold Pl.joinE; rw [if_neg (by simp), if_neg (fun h => q1 h.2), if_neg (fun h => q2 h.2)]
              have hv : Pl.joinV true true alo ahi blo bhi = (noText, noText) := by unfold Pl.joinV; rw [if_neg (by simp), if_neg (fun h => q1 h.2), if_neg (fun h => q2 h.2)]
              rw [hn, hv]
              clear hn hv
              clear q2
              clear q1
              go_enter Tryd.func48, Tryd.ntmps48
              go_wp2_with fail
              refine (right_span S E hK alo ahi _ (by omega) (by omega) (HE.out.grew ((((Grew.refl w).alloc _).alloc _).alloc _))).mono ?_
              rintro e w1 ⟨rfl, hg⟩
              have hG : Grew w w1 := ((((Grew.refl w).alloc _).alloc _).alloc _).trans hg
              have hz : w.heap.size < w1.heap.size ∧ w.heap.size + 1 < w1.heap.size ∧ w.heap.size + 1 + 1 < w1.heap.size := by have := hg.size; simp at this; omega
              obtain ⟨hz0, hz1, hz2⟩ := hz
              obtain ⟨hc, hf⟩ := hg.cells
              go_wp2_with fail
              refine (right_span S E hK blo bhi _ (by omega) (by omega) (HE.out.grew hG)).mono ?_
              rintro e w2 ⟨rfl, hg2⟩
              have hG2 : Grew w w2 := hG.trans hg2
              obtain ⟨hc2, hf2⟩ := hg2.cells
              have c1 : w2.cell? ⟨1, 0, none⟩ = some (.iface 265 (.pointer (some (E 1)))) := (HE.out.grew hG2).cell 1 s1
              go_wp2_with fail
              go_region
              go_wp2_with fail
              refine bodyPost_ret (v := .tuple #[.agg #[.string noText, .string noText], errOf E 1]) (by simp [results, Tryd.results48, go_sem, hc, hc2, hz2]; rfl) rfl ⟨rfl, ?_⟩
              exact ((hG2.setCell (by simp; omega) _).setCell (by simp; omega) _).drew
end Go.Proofs.YtajoihpjnnnkeaaDoor
