/- The walk of the document's package 03: Join. (Printed by wip/gen_ref03d.py.) -/
import Derived.Test.YtajoihpjnnnkeaaDoorRef03b
import Derived.Test.YtajoihpjnnnkeaaDoorSpan3
namespace Go.Proofs.YtajoihpjnnnkeaaDoor
open Go.RowKit

def RefJoinPost (v : ByteArray × ByteArray) (n : Nat) (w : World) (e : Ending) (w' : World) : Prop :=
  e = .returned (.tuple #[.agg #[.string v.1, .string v.2], .int .i64 (n : Nat)]) ∧ Grew w w'

set_option maxHeartbeats 1600000 in
theorem ref_join (alo ahi blo bhi : ByteArray) (w : World) (h1 : alo.size ≤ 16777216) (h2 : ahi.size ≤ 16777216) (h3 : blo.size ≤ 16777216) (h4 : bhi.size ≤ 16777216) :
    Calls Tryd.prog 54 #[.agg #[.string alo, .string ahi], .agg #[.string blo, .string bhi]] w (RefJoinPost (Pl.joinV (Pl.rightR alo ahi) (Pl.rightR blo bhi) alo ahi blo bhi) (Pl.joinE (Pl.rightR alo ahi) (Pl.rightR blo bhi) alo ahi blo bhi) w) := by
  cases r1 : Pl.rightR alo ahi with
  | false =>
    have hn : Pl.joinE false (Pl.rightR blo bhi) alo ahi blo bhi = 4 := by unfold Pl.joinE; rw [if_pos (Or.inl rfl)]
    have hv : Pl.joinV false (Pl.rightR blo bhi) alo ahi blo bhi = (noText, noText) := by unfold Pl.joinV; rw [if_pos (Or.inl rfl)]
    rw [hn, hv]
    clear hn hv
    go_enter Tryd.func54, Tryd.ntmps54
    go_wp2_with fail
    refine (ref_right alo ahi _ h1 h2).mono ?_
    rintro e w1 ⟨rfl, hg⟩
    have hG : Grew w w1 := ((((Grew.refl w).alloc _).alloc _).alloc _).trans hg
    have hz : w.heap.size + 1 + 1 < w1.heap.size := by have := hg.size; simp at this; omega
    obtain ⟨hc, hf⟩ := hg.cells
    go_wp2_with fail
    refine bodyPost_ret (v := .tuple #[.agg #[.string noText, .string noText], .int .i64 4]) (by simp [results, Tryd.results54, go_sem, hc]) rfl ⟨rfl, ?_⟩
    exact ((hG.setCell (by simp; omega) _).setCell (by simp; omega) _)
  | true =>
    cases r2 : Pl.rightR blo bhi with
    | false =>
      have hn : Pl.joinE true false alo ahi blo bhi = 4 := by unfold Pl.joinE; rw [if_pos (Or.inr rfl)]
      have hv : Pl.joinV true false alo ahi blo bhi = (noText, noText) := by unfold Pl.joinV; rw [if_pos (Or.inr rfl)]
      rw [hn, hv]
      clear hn hv
      go_enter Tryd.func54, Tryd.ntmps54
      go_wp2_with fail
      refine (ref_right alo ahi _ h1 h2).mono ?_
      rintro e w1 ⟨rfl, hg⟩
      have hG : Grew w w1 := ((((Grew.refl w).alloc _).alloc _).alloc _).trans hg
      have hz : w.heap.size + 1 < w1.heap.size ∧ w.heap.size + 1 + 1 < w1.heap.size := by have := hg.size; simp at this; omega
      obtain ⟨hz1, hz2⟩ := hz
      obtain ⟨hc, hf⟩ := hg.cells
      go_wp2_with fail
      refine (ref_right blo bhi _ h3 h4).mono ?_
      rintro e w2 ⟨rfl, hg2⟩
      have hG2 : Grew w w2 := hG.trans hg2
      obtain ⟨hc2, hf2⟩ := hg2.cells
      go_wp2_with fail
      refine bodyPost_ret (v := .tuple #[.agg #[.string noText, .string noText], .int .i64 4]) (by simp [results, Tryd.results54, go_sem, hc, hc2, hz2]) rfl ⟨rfl, ?_⟩
      exact ((hG2.setCell (by simp; omega) _).setCell (by simp; omega) _)
    | true =>
      cases eahi1 : ahi.toList.isEmpty with
      | true =>
        have eahi2 : ahi.toList = [] := by simpa using eahi1
        cases ebhi1 : bhi.toList.isEmpty with
        | true =>
          have ebhi2 : bhi.toList = [] := by simpa using ebhi1
          have hn : Pl.joinE true true alo ahi blo bhi = 1 := by unfold Pl.joinE; rw [if_neg (by simp), if_neg (fun h => by have := h.1; unfold Pl.none0 at this; rw [eahi1] at this; cases this), if_neg (fun h => by have := h.1; unfold Pl.none0 at this; rw [ebhi1] at this; cases this)]
          have hv : Pl.joinV true true alo ahi blo bhi = (noText, noText) := by unfold Pl.joinV; rw [if_neg (by simp), if_neg (fun h => by have := h.1; unfold Pl.none0 at this; rw [eahi1] at this; cases this), if_neg (fun h => by have := h.1; unfold Pl.none0 at this; rw [ebhi1] at this; cases this)]
          rw [hn, hv]
          clear hn hv
          go_enter Tryd.func54, Tryd.ntmps54
          go_wp2_with fail
          refine (ref_right alo ahi _ (by omega) (by omega)).mono ?_
          rintro e w1 ⟨rfl, hg⟩
          have hG : Grew w w1 := ((((Grew.refl w).alloc _).alloc _).alloc _).trans hg
          have hz : w.heap.size < w1.heap.size ∧ w.heap.size + 1 < w1.heap.size ∧ w.heap.size + 1 + 1 < w1.heap.size := by have := hg.size; simp at this; omega
          obtain ⟨hz0, hz1, hz2⟩ := hz
          obtain ⟨hc, hf⟩ := hg.cells
          go_wp2_with fail
          refine (ref_right blo bhi _ (by omega) (by omega)).mono ?_
          rintro e w2 ⟨rfl, hg2⟩
          have hG2 : Grew w w2 := hG.trans hg2
          obtain ⟨hc2, hf2⟩ := hg2.cells
          go_wp2_with fail
          refine bodyPost_ret (v := .tuple #[.agg #[.string noText, .string noText], (.int .i64 1)]) (by simp [results, Tryd.results54, go_sem, hc, hc2, hz2]) rfl ⟨rfl, ?_⟩
          exact ((hG2.setCell (by simp; omega) _).setCell (by simp; omega) _)
        | false =>
          have ebhi2 : ¬ bhi.toList = [] := by simpa using ebhi1
          have ebhi3 : (!bhi.toList.isEmpty) = true := by rw [ebhi1]; rfl
          by_cases q2 : bhi.toList = alo.toList
          · have q2' : (bhi.toList == alo.toList) = true := by simpa using q2
            have hn : Pl.joinE true true alo ahi blo bhi = 0 := by unfold Pl.joinE; rw [if_neg (by simp), if_neg (fun h => by have := h.1; unfold Pl.none0 at this; rw [eahi1] at this; cases this), if_pos ⟨ebhi1, q2⟩]
            have hv : Pl.joinV true true alo ahi blo bhi = (blo, ahi) := by unfold Pl.joinV; rw [if_neg (by simp), if_neg (fun h => by have := h.1; unfold Pl.none0 at this; rw [eahi1] at this; cases this), if_pos ⟨ebhi1, q2⟩]
            rw [hn, hv]
            clear hn hv
            clear q2
            go_enter Tryd.func54, Tryd.ntmps54
            go_wp2_with fail
            refine (ref_right alo ahi _ (by omega) (by omega)).mono ?_
            rintro e w1 ⟨rfl, hg⟩
            have hG : Grew w w1 := ((((Grew.refl w).alloc _).alloc _).alloc _).trans hg
            have hz : w.heap.size < w1.heap.size ∧ w.heap.size + 1 < w1.heap.size ∧ w.heap.size + 1 + 1 < w1.heap.size := by have := hg.size; simp at this; omega
            obtain ⟨hz0, hz1, hz2⟩ := hz
            obtain ⟨hc, hf⟩ := hg.cells
            go_wp2_with fail
            refine (ref_right blo bhi _ (by omega) (by omega)).mono ?_
            rintro e w2 ⟨rfl, hg2⟩
            have hG2 : Grew w w2 := hG.trans hg2
            obtain ⟨hc2, hf2⟩ := hg2.cells
            go_wp2_with fail
            refine bodyPost_ret (v := .tuple #[.agg #[.string blo, .string ahi], (.int .i64 0)]) (by simp [results, Tryd.results54, go_sem, hc, hc2, hz2]) rfl ⟨rfl, ?_⟩
            exact ((hG2.setCell (by simp; omega) _).setCell (by simp; omega) _)
          · have q2' : (bhi.toList == alo.toList) = false := by simpa using q2
            have hn : Pl.joinE true true alo ahi blo bhi = 1 := by unfold Pl.joinE; rw [if_neg (by simp), if_neg (fun h => by have := h.1; unfold Pl.none0 at this; rw [eahi1] at this; cases this), if_neg (fun h => q2 h.2)]
            have hv : Pl.joinV true true alo ahi blo bhi = (noText, noText) := by unfold Pl.joinV; rw [if_neg (by simp), if_neg (fun h => by have := h.1; unfold Pl.none0 at this; rw [eahi1] at this; cases this), if_neg (fun h => q2 h.2)]
            rw [hn, hv]
            clear hn hv
            clear q2
            go_enter Tryd.func54, Tryd.ntmps54
            go_wp2_with fail
            refine (ref_right alo ahi _ (by omega) (by omega)).mono ?_
            rintro e w1 ⟨rfl, hg⟩
            have hG : Grew w w1 := ((((Grew.refl w).alloc _).alloc _).alloc _).trans hg
            have hz : w.heap.size < w1.heap.size ∧ w.heap.size + 1 < w1.heap.size ∧ w.heap.size + 1 + 1 < w1.heap.size := by have := hg.size; simp at this; omega
            obtain ⟨hz0, hz1, hz2⟩ := hz
            obtain ⟨hc, hf⟩ := hg.cells
            go_wp2_with fail
            refine (ref_right blo bhi _ (by omega) (by omega)).mono ?_
            rintro e w2 ⟨rfl, hg2⟩
            have hG2 : Grew w w2 := hG.trans hg2
            obtain ⟨hc2, hf2⟩ := hg2.cells
            go_wp2_with fail
            refine bodyPost_ret (v := .tuple #[.agg #[.string noText, .string noText], (.int .i64 1)]) (by simp [results, Tryd.results54, go_sem, hc, hc2, hz2]) rfl ⟨rfl, ?_⟩
            exact ((hG2.setCell (by simp; omega) _).setCell (by simp; omega) _)
      | false =>
        have eahi2 : ¬ ahi.toList = [] := by simpa using eahi1
        have eahi3 : (!ahi.toList.isEmpty) = true := by rw [eahi1]; rfl
        by_cases q1 : ahi.toList = blo.toList
        · have q1' : (ahi.toList == blo.toList) = true := by simpa using q1
          have hn : Pl.joinE true true alo ahi blo bhi = 0 := by unfold Pl.joinE; rw [if_neg (by simp), if_pos ⟨eahi1, q1⟩]
          have hv : Pl.joinV true true alo ahi blo bhi = (alo, bhi) := by unfold Pl.joinV; rw [if_neg (by simp), if_pos ⟨eahi1, q1⟩]
          rw [hn, hv]
          clear hn hv
          clear q1
          go_enter Tryd.func54, Tryd.ntmps54
          go_wp2_with fail
          refine (ref_right alo ahi _ (by omega) (by omega)).mono ?_
          rintro e w1 ⟨rfl, hg⟩
          have hG : Grew w w1 := ((((Grew.refl w).alloc _).alloc _).alloc _).trans hg
          have hz : w.heap.size < w1.heap.size ∧ w.heap.size + 1 < w1.heap.size ∧ w.heap.size + 1 + 1 < w1.heap.size := by have := hg.size; simp at this; omega
          obtain ⟨hz0, hz1, hz2⟩ := hz
          obtain ⟨hc, hf⟩ := hg.cells
          go_wp2_with fail
          refine (ref_right blo bhi _ (by omega) (by omega)).mono ?_
          rintro e w2 ⟨rfl, hg2⟩
          have hG2 : Grew w w2 := hG.trans hg2
          obtain ⟨hc2, hf2⟩ := hg2.cells
          go_wp2_with fail
          refine bodyPost_ret (v := .tuple #[.agg #[.string alo, .string bhi], (.int .i64 0)]) (by simp [results, Tryd.results54, go_sem, hc, hc2, hz2]) rfl ⟨rfl, ?_⟩
          exact ((hG2.setCell (by simp; omega) _).setCell (by simp; omega) _)
        · have q1' : (ahi.toList == blo.toList) = false := by simpa using q1
          cases ebhi1 : bhi.toList.isEmpty with
          | true =>
            have ebhi2 : bhi.toList = [] := by simpa using ebhi1
            have hn : Pl.joinE true true alo ahi blo bhi = 1 := by unfold Pl.joinE; rw [if_neg (by simp), if_neg (fun h => q1 h.2), if_neg (fun h => by have := h.1; unfold Pl.none0 at this; rw [ebhi1] at this; cases this)]
            have hv : Pl.joinV true true alo ahi blo bhi = (noText, noText) := by unfold Pl.joinV; rw [if_neg (by simp), if_neg (fun h => q1 h.2), if_neg (fun h => by have := h.1; unfold Pl.none0 at this; rw [ebhi1] at this; cases this)]
            rw [hn, hv]
            clear hn hv
            clear q1
            go_enter Tryd.func54, Tryd.ntmps54
            go_wp2_with fail
            refine (ref_right alo ahi _ (by omega) (by omega)).mono ?_
            rintro e w1 ⟨rfl, hg⟩
            have hG : Grew w w1 := ((((Grew.refl w).alloc _).alloc _).alloc _).trans hg
            have hz : w.heap.size < w1.heap.size ∧ w.heap.size + 1 < w1.heap.size ∧ w.heap.size + 1 + 1 < w1.heap.size := by have := hg.size; simp at this; omega
            obtain ⟨hz0, hz1, hz2⟩ := hz
            obtain ⟨hc, hf⟩ := hg.cells
            go_wp2_with fail
            refine (ref_right blo bhi _ (by omega) (by omega)).mono ?_
            rintro e w2 ⟨rfl, hg2⟩
            have hG2 : Grew w w2 := hG.trans hg2
            obtain ⟨hc2, hf2⟩ := hg2.cells
            go_wp2_with fail
            refine bodyPost_ret (v := .tuple #[.agg #[.string noText, .string noText], (.int .i64 1)]) (by simp [results, Tryd.results54, go_sem, hc, hc2, hz2]) rfl ⟨rfl, ?_⟩
            exact ((hG2.setCell (by simp; omega) _).setCell (by simp; omega) _)
          | false =>
            have ebhi2 : ¬ bhi.toList = [] := by simpa using ebhi1
            have ebhi3 : (!bhi.toList.isEmpty) = true := by rw [ebhi1]; rfl
            by_cases q2 : bhi.toList = alo.toList
            · have q2' : (bhi.toList == alo.toList) = true := by simpa using q2
              have hn : Pl.joinE true true alo ahi blo bhi = 0 := by unfold Pl.joinE; rw [if_neg (by simp), if_neg (fun h => q1 h.2), if_pos ⟨ebhi1, q2⟩]
              have hv : Pl.joinV true true alo ahi blo bhi = (blo, ahi) := by unfold Pl.joinV; rw [if_neg (by simp), if_neg (fun h => q1 h.2), if_pos ⟨ebhi1, q2⟩]
              rw [hn, hv]
              clear hn hv
              clear q2
              clear q1
              go_enter Tryd.func54, Tryd.ntmps54
              go_wp2_with fail
              refine (ref_right alo ahi _ (by omega) (by omega)).mono ?_
              rintro e w1 ⟨rfl, hg⟩
              have hG : Grew w w1 := ((((Grew.refl w).alloc _).alloc _).alloc _).trans hg
              have hz : w.heap.size < w1.heap.size ∧ w.heap.size + 1 < w1.heap.size ∧ w.heap.size + 1 + 1 < w1.heap.size := by have := hg.size; simp at this; omega
              obtain ⟨hz0, hz1, hz2⟩ := hz
              obtain ⟨hc, hf⟩ := hg.cells
              go_wp2_with fail
              refine (ref_right blo bhi _ (by omega) (by omega)).mono ?_
              rintro e w2 ⟨rfl, hg2⟩
              have hG2 : Grew w w2 := hG.trans hg2
              obtain ⟨hc2, hf2⟩ := hg2.cells
              go_wp2_with fail
              refine bodyPost_ret (v := .tuple #[.agg #[.string blo, .string ahi], (.int .i64 0)]) (by simp [results, Tryd.results54, go_sem, hc, hc2, hz2]) rfl ⟨rfl, ?_⟩
              exact ((hG2.setCell (by simp; omega) _).setCell (by simp; omega) _)
            · have q2' : (bhi.toList == alo.toList) = false := by simpa using q2
              have hn : Pl.joinE true true alo ahi blo bhi = 1 := by unfold Pl.joinE; rw [if_neg (by simp), if_neg (fun h => q1 h.2), if_neg (fun h => q2 h.2)]
              have hv : Pl.joinV true true alo ahi blo bhi = (noText, noText) := by unfold Pl.joinV; rw [if_neg (by simp), if_neg (fun h => q1 h.2), if_neg (fun h => q2 h.2)]
              rw [hn, hv]
              clear hn hv
              clear q2
              clear q1
              go_enter Tryd.func54, Tryd.ntmps54
              go_wp2_with fail
              refine (ref_right alo ahi _ (by omega) (by omega)).mono ?_
              rintro e w1 ⟨rfl, hg⟩
              have hG : Grew w w1 := ((((Grew.refl w).alloc _).alloc _).alloc _).trans hg
              have hz : w.heap.size < w1.heap.size ∧ w.heap.size + 1 < w1.heap.size ∧ w.heap.size + 1 + 1 < w1.heap.size := by have := hg.size; simp at this; omega
              obtain ⟨hz0, hz1, hz2⟩ := hz
              obtain ⟨hc, hf⟩ := hg.cells
              go_wp2_with fail
              refine (ref_right blo bhi _ (by omega) (by omega)).mono ?_
              rintro e w2 ⟨rfl, hg2⟩
              have hG2 : Grew w w2 := hG.trans hg2
              obtain ⟨hc2, hf2⟩ := hg2.cells
              go_wp2_with fail
              refine bodyPost_ret (v := .tuple #[.agg #[.string noText, .string noText], (.int .i64 1)]) (by simp [results, Tryd.results54, go_sem, hc, hc2, hz2]) rfl ⟨rfl, ?_⟩
              exact ((hG2.setCell (by simp; omega) _).setCell (by simp; omega) _)
end Go.Proofs.YtajoihpjnnnkeaaDoor
