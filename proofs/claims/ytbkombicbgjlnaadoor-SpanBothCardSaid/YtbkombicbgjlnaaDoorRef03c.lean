/- The walk of the document's package 03: Cut. (Printed out of span.Cut's walk.) -/
import Derived.Test.YtbkombicbgjlnaaDoorRef03b
namespace Go.Proofs.YtbkombicbgjlnaaDoor
open Go.RowKit

def RefCutPost (lo hi key : ByteArray) (n : Nat) (w : World) (e : Ending) (w' : World) : Prop :=
  e = .returned (.tuple #[.agg #[.string (Pl.cutA n lo key).1, .string (Pl.cutA n lo key).2], .agg #[.string (Pl.cutA n key hi).1, .string (Pl.cutA n key hi).2], .int .i64 (n : Nat)]) ∧ Grew w w'

set_option maxHeartbeats 800000 in
theorem ref_cut (lo hi key : ByteArray) (w : World) (hl : lo.size ≤ 16777216) (hh : hi.size ≤ 16777216) (hk : key.size ≤ 16777216) :
    Calls Tryd.prog 23 #[.agg #[.string lo, .string hi], .string key] w (RefCutPost lo hi key (Pl.cutE (Pl.rightR lo hi) (Pl.keyN key) (Pl.hasR lo hi key) lo key) w) := by
  cases h1 : Pl.rightR lo hi with
  | false =>
    have hn : Pl.cutE false (Pl.keyN key) (Pl.hasR lo hi key) lo key = 4 := rfl
    rw [hn]
    clear hn
    go_enter Tryd.func23, Tryd.ntmps23
    go_wp2_with fail
    refine (ref_right lo hi _ hl hh).mono ?_
    rintro e w1 ⟨rfl, hg⟩
    have hG : Grew w w1 := ((((Grew.refl w).alloc _).alloc _).alloc _).trans hg
    obtain ⟨hc, hf⟩ := hg.cells
    go_wp2_with fail
    refine bodyPost_ret (v := .tuple #[.agg #[.string noText, .string noText], .agg #[.string noText, .string noText], (.int .i64 4)]) (by simp [results, Tryd.results23, go_sem, hc]) rfl ⟨rfl, ?_⟩
    exact ((((hG.setCell (by simp) _).setCell (by simp) _).setCell (by simp; omega) _).setCell (by simp; omega) _)
  | true =>
    cases h2 : Pl.isKey key with
    | false =>
      have k0 : Pl.keyN key ≠ 0 := of_decide_eq_false h2
      have hn : Pl.cutE true (Pl.keyN key) (Pl.hasR lo hi key) lo key = Pl.keyN key := by unfold Pl.cutE; rw [if_neg (by decide), if_pos k0]
      have hA : ∀ a b, Pl.cutA (Pl.keyN key) a b = (noText, noText) := fun a b => by unfold Pl.cutA; rw [if_neg k0]
      have hk1 : (((Pl.keyN key : Nat) : Int) == 0) = false := beq_eq_false_iff_ne.2 (by omega)
      have hk3 : (((Pl.keyN key : Nat) : Int) != 0) = true := by rw [bne_iff_ne]; omega
      unfold RefCutPost
      rw [hn, hA, hA]
      clear hn hA k0
      go_enter Tryd.func23, Tryd.ntmps23
      go_wp2_with fail
      refine (ref_right lo hi _ hl hh).mono ?_
      rintro e w1 ⟨rfl, hg⟩
      have hG : Grew w w1 := ((((Grew.refl w).alloc _).alloc _).alloc _).trans hg
      have hz : w.heap.size < w1.heap.size ∧ w.heap.size + 1 < w1.heap.size ∧ w.heap.size + 1 + 1 < w1.heap.size := by have := hg.size; simp at this; omega
      obtain ⟨hz0, hz1, hz2⟩ := hz
      obtain ⟨hc, hf⟩ := hg.cells
      go_wp2_with fail
      refine (ref_key key _ hk).mono ?_
      rintro e w2 ⟨rfl, hg2⟩
      obtain ⟨hc2, hf2⟩ := hg2.cells
      have hG2 : Grew w w2 := hG.trans hg2
      go_wp2_with fail
      refine bodyPost_ret (v := .tuple #[.agg #[.string noText, .string noText], .agg #[.string noText, .string noText], .int .i64 (Pl.keyN key : Nat)]) (by simp [results, Tryd.results23, go_sem, hc, hc2, hz1, hz2]) rfl ⟨rfl, ?_⟩
      exact (((hG2.setCell (by simp) _).setCell (by simp) _).setCell (by simp; omega) _).setCell (by simp; omega) _
    | true =>
      have k0 : Pl.keyN key = 0 := of_decide_eq_true h2
      have HK := hid (key_zero key h2)
      cases h3 : Pl.hasR lo hi key with
      | false =>
        have hn : Pl.cutE true (Pl.keyN key) false lo key = 1 := by unfold Pl.cutE; rw [if_neg (by decide), if_neg (by omega), if_pos (Or.inl rfl)]
        rw [hn]
        clear hn k0
        go_enter Tryd.func23, Tryd.ntmps23
        go_wp2_with fail
        refine (ref_right lo hi _ hl hh).mono ?_
        rintro e w1 ⟨rfl, hg⟩
        have hG : Grew w w1 := ((((Grew.refl w).alloc _).alloc _).alloc _).trans hg
        have hz : w.heap.size < w1.heap.size ∧ w.heap.size + 1 < w1.heap.size ∧ w.heap.size + 1 + 1 < w1.heap.size := by have := hg.size; simp at this; omega
        obtain ⟨hz0, hz1, hz2⟩ := hz
        obtain ⟨hc, hf⟩ := hg.cells
        go_wp2_with fail
        refine (ref_key key _ hk).mono ?_
        rw [HK.out]
        rintro e w2 ⟨rfl, hg2⟩
        obtain ⟨hc2, hf2⟩ := hg2.cells
        have hG2 : Grew w w2 := hG.trans hg2
        have hy : w.heap.size < w2.heap.size ∧ w.heap.size + 1 < w2.heap.size ∧ w.heap.size + 1 + 1 < w2.heap.size := by have := hg2.size; omega
        obtain ⟨hy0, hy1, hy2⟩ := hy
        go_wp2_with fail
        refine (ref_has lo hi key _ hl hh hk).mono ?_
        rintro e w3 ⟨rfl, hg3⟩
        obtain ⟨hc3, hf3⟩ := hg3.cells
        have hG3 : Grew w w3 := hG2.trans hg3
        go_wp2_with fail
        refine bodyPost_ret (v := .tuple #[.agg #[.string noText, .string noText], .agg #[.string noText, .string noText], (.int .i64 1)]) (by simp [results, Tryd.results23, go_sem, hc, hc2, hc3, hz1, hz2, hy1, hy2]) rfl ⟨rfl, ?_⟩
        exact ((((hG3.setCell (by simp) _).setCell (by simp) _).setCell (by simp; omega) _).setCell (by simp; omega) _)
      | true =>
        by_cases h4 : key.toList = lo.toList
        · have hn : Pl.cutE true (Pl.keyN key) true lo key = 1 := by unfold Pl.cutE; rw [if_neg (by decide), if_neg (by omega), if_pos (Or.inr h4)]
          rw [hn]
          have h5 : (key.toList == lo.toList) = true := by simpa using h4
          clear hn k0 h4
          go_enter Tryd.func23, Tryd.ntmps23
          go_wp2_with fail
          refine (ref_right lo hi _ hl hh).mono ?_
          rintro e w1 ⟨rfl, hg⟩
          have hG : Grew w w1 := ((((Grew.refl w).alloc _).alloc _).alloc _).trans hg
          have hz : w.heap.size < w1.heap.size ∧ w.heap.size + 1 < w1.heap.size ∧ w.heap.size + 1 + 1 < w1.heap.size := by have := hg.size; simp at this; omega
          obtain ⟨hz0, hz1, hz2⟩ := hz
          obtain ⟨hc, hf⟩ := hg.cells
          go_wp2_with fail
          refine (ref_key key _ hk).mono ?_
          rw [HK.out]
          rintro e w2 ⟨rfl, hg2⟩
          obtain ⟨hc2, hf2⟩ := hg2.cells
          have hG2 : Grew w w2 := hG.trans hg2
          have hy : w.heap.size < w2.heap.size ∧ w.heap.size + 1 < w2.heap.size ∧ w.heap.size + 1 + 1 < w2.heap.size := by have := hg2.size; omega
          obtain ⟨hy0, hy1, hy2⟩ := hy
          go_wp2_with fail
          refine (ref_has lo hi key _ hl hh hk).mono ?_
          rintro e w3 ⟨rfl, hg3⟩
          obtain ⟨hc3, hf3⟩ := hg3.cells
          have hG3 : Grew w w3 := hG2.trans hg3
          go_wp2_with fail
          refine bodyPost_ret (v := .tuple #[.agg #[.string noText, .string noText], .agg #[.string noText, .string noText], (.int .i64 1)]) (by simp [results, Tryd.results23, go_sem, hc, hc2, hc3, hz1, hz2, hy1, hy2]) rfl ⟨rfl, ?_⟩
          exact ((((hG3.setCell (by simp) _).setCell (by simp) _).setCell (by simp; omega) _).setCell (by simp; omega) _)
        · have hn : Pl.cutE true (Pl.keyN key) true lo key = 0 := by unfold Pl.cutE; rw [if_neg (by decide), if_neg (by omega), if_neg (by simpa using h4)]
          rw [hn]
          have h5 : (key.toList == lo.toList) = false := by simpa using h4
          clear hn k0 h4
          go_enter Tryd.func23, Tryd.ntmps23
          go_wp2_with fail
          refine (ref_right lo hi _ hl hh).mono ?_
          rintro e w1 ⟨rfl, hg⟩
          have hG : Grew w w1 := ((((Grew.refl w).alloc _).alloc _).alloc _).trans hg
          have hz : w.heap.size < w1.heap.size ∧ w.heap.size + 1 < w1.heap.size ∧ w.heap.size + 1 + 1 < w1.heap.size := by have := hg.size; simp at this; omega
          obtain ⟨hz0, hz1, hz2⟩ := hz
          obtain ⟨hc, hf⟩ := hg.cells
          go_wp2_with fail
          refine (ref_key key _ hk).mono ?_
          rw [HK.out]
          rintro e w2 ⟨rfl, hg2⟩
          obtain ⟨hc2, hf2⟩ := hg2.cells
          have hG2 : Grew w w2 := hG.trans hg2
          have hy : w.heap.size < w2.heap.size ∧ w.heap.size + 1 < w2.heap.size ∧ w.heap.size + 1 + 1 < w2.heap.size := by have := hg2.size; omega
          obtain ⟨hy0, hy1, hy2⟩ := hy
          go_wp2_with fail
          refine (ref_has lo hi key _ hl hh hk).mono ?_
          rintro e w3 ⟨rfl, hg3⟩
          obtain ⟨hc3, hf3⟩ := hg3.cells
          have hG3 : Grew w w3 := hG2.trans hg3
          have l0 : w3.cell? ⟨w.heap.size, 0, none⟩ = some (.string lo) := by rw [hc3 _ _ hy0, hc2 _ _ hz0, hc _ _ (by simp; omega)]; simp [go_sem]
          have l1 : w3.cell? ⟨w.heap.size, 1, none⟩ = some (.string hi) := by rw [hc3 _ _ hy0, hc2 _ _ hz0, hc _ _ (by simp; omega)]; simp [go_sem]
          go_wp2_with fail
          go_region
          go_wp2_with fail
          refine bodyPost_ret (v := .tuple #[.agg #[.string lo, .string key], .agg #[.string key, .string hi], (.int .i64 0)]) (by simp [results, Tryd.results23, go_sem, hc, hc2, hc3, hz1, hz2, hy1, hy2]) rfl ⟨rfl, ?_⟩
          exact ((((hG3.setCell (by simp) _).setCell (by simp) _).setCell (by simp; omega) _).setCell (by simp; omega) _).drew
end Go.Proofs.YtbkombicbgjlnaaDoor
