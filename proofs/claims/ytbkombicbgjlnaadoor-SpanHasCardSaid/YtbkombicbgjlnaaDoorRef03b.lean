/- The walks of the document's package 03: end, Right, Has, Cut. -/
import Derived.Test.YtbkombicbgjlnaaDoorRef03
namespace Go.Proofs.YtbkombicbgjlnaaDoor
open Go.RowKit

namespace Pl
def rightR (lo hi : ByteArray) : Bool := endB lo && endB hi && (none0 hi || Op.bytesLess lo.toList hi.toList)
def hasR (lo hi key : ByteArray) : Bool := rightR lo hi && isKey key && !Op.bytesLess key.toList lo.toList && (none0 hi || Op.bytesLess key.toList hi.toList)
end Pl

theorem key_zero (s : ByteArray) (h : Pl.isKey s = true) : ((Pl.keyN s : Nat) : Int) = 0 := by
  unfold Pl.isKey at h; rw [of_decide_eq_true h]; rfl

set_option maxHeartbeats 400000 in
theorem ref_end (s : ByteArray) (w : World) (hs : s.size ≤ 16777216) :
    Calls Tryd.prog 69 #[.string s] w fun e w' => e = .returned (.bool (Pl.endB s)) ∧ Grew w w' := by
  cases he : s.toList.isEmpty with
  | true =>
    have e : Pl.endB s = true := by unfold Pl.endB Pl.none0; rw [he]; rfl
    have e2 : s.toList = [] := by simpa using he
    have HE := hid e
    clear e
    go_enter Tryd.func69, Tryd.ntmps69
    go_wp2
    go_ret
    exact ⟨ret_bool HE.out.symm, Grew.refl _⟩
  | false =>
    have e2 : (!s.toList.isEmpty) = true := by rw [he]; rfl
    have e3 : ¬ s.toList = [] := by simpa using he
    have e : Pl.endB s = (((Pl.keyN s : Nat) : Int) == 0) := by
      unfold Pl.endB Pl.none0 Pl.isKey; rw [he, Bool.false_or, Bool.eq_iff_iff]; simp
    have HE := hid e
    clear e
    go_enter Tryd.func69, Tryd.ntmps69
    go_wp2_with (go_at_call 66; refine (ref_key s _ hs).mono ?_; rintro e w' ⟨rfl, hg⟩)
    go_ret
    exact ⟨ret_bool HE.out.symm, by assumption⟩

set_option maxHeartbeats 400000 in
theorem ref_right (lo hi : ByteArray) (w : World) (hl : lo.size ≤ 16777216) (hh : hi.size ≤ 16777216) :
    Calls Tryd.prog 25 #[.agg #[.string lo, .string hi]] w fun e w' => e = .returned (.bool (Pl.rightR lo hi)) ∧ Grew w w' := by
  cases h1 : Pl.endB lo with
  | false =>
    have hr : Pl.rightR lo hi = false := by unfold Pl.rightR; rw [h1]; rfl
    have HR := hid hr
    clear hr
    go_enter Tryd.func25, Tryd.ntmps25
    go_wp2_with fail
    refine (ref_end lo _ hl).mono ?_
    rintro e w1 ⟨rfl, hg⟩
    go_wp2_with fail
    go_ret
    exact ⟨ret_bool HR.out.symm, ((Grew.refl w).alloc _).trans hg⟩
  | true =>
    cases h2 : Pl.endB hi with
    | false =>
      have hr : Pl.rightR lo hi = false := by unfold Pl.rightR; rw [h1, h2]; rfl
      have HR := hid hr
      clear hr
      go_enter Tryd.func25, Tryd.ntmps25
      go_wp2_with fail
      refine (ref_end lo _ hl).mono ?_
      rintro e w1 ⟨rfl, hg⟩
      have hG : Grew w w1 := ((Grew.refl w).alloc _).trans hg
      obtain ⟨hc, _⟩ := hg.cells
      go_wp2_with fail
      refine (ref_end hi _ hh).mono ?_
      rintro e w2 ⟨rfl, hg2⟩
      go_wp2_with fail
      go_ret
      exact ⟨ret_bool HR.out.symm, hG.trans hg2⟩
    | true =>
      cases h3 : hi.toList.isEmpty with
      | true =>
        have hr : Pl.rightR lo hi = true := by unfold Pl.rightR Pl.none0; rw [h1, h2, h3]; rfl
        have h4 : hi.toList = [] := by simpa using h3
        have HR := hid hr
        clear hr
        go_enter Tryd.func25, Tryd.ntmps25
        go_wp2_with fail
        refine (ref_end lo _ hl).mono ?_
        rintro e w1 ⟨rfl, hg⟩
        have hG : Grew w w1 := ((Grew.refl w).alloc _).trans hg
        have hz : w.heap.size < w1.heap.size := by have := hg.size; simp at this; omega
        obtain ⟨hc, _⟩ := hg.cells
        go_wp2_with fail
        refine (ref_end hi _ hh).mono ?_
        rintro e w2 ⟨rfl, hg2⟩
        obtain ⟨hc2, _⟩ := hg2.cells
        go_wp2_with fail
        go_ret
        exact ⟨ret_bool HR.out.symm, hG.trans hg2⟩
      | false =>
        have hr : Pl.rightR lo hi = Op.bytesLess lo.toList hi.toList := by unfold Pl.rightR Pl.none0; rw [h1, h2, h3]; rfl
        have h4 : ¬ hi.toList = [] := by simpa using h3
        have h5 : (!hi.toList.isEmpty) = true := by rw [h3]; rfl
        have HR := hid hr
        clear hr
        go_enter Tryd.func25, Tryd.ntmps25
        go_wp2_with fail
        refine (ref_end lo _ hl).mono ?_
        rintro e w1 ⟨rfl, hg⟩
        have hG : Grew w w1 := ((Grew.refl w).alloc _).trans hg
        have hz : w.heap.size < w1.heap.size := by have := hg.size; simp at this; omega
        obtain ⟨hc, _⟩ := hg.cells
        go_wp2_with fail
        refine (ref_end hi _ hh).mono ?_
        rintro e w2 ⟨rfl, hg2⟩
        obtain ⟨hc2, _⟩ := hg2.cells
        go_wp2_with fail
        go_ret
        exact ⟨ret_bool HR.out.symm, hG.trans hg2⟩

set_option maxHeartbeats 800000 in
theorem ref_has (lo hi key : ByteArray) (w : World) (hl : lo.size ≤ 16777216) (hh : hi.size ≤ 16777216) (hk : key.size ≤ 16777216) :
    Calls Tryd.prog 27 #[.agg #[.string lo, .string hi], .string key] w fun e w' => e = .returned (.bool (Pl.hasR lo hi key)) ∧ Grew w w' := by
  cases h1 : Pl.rightR lo hi with
  | false =>
    have hr : Pl.hasR lo hi key = false := by unfold Pl.hasR; rw [h1]; rfl
    have HR := hid hr
    clear hr
    go_enter Tryd.func27, Tryd.ntmps27
    go_wp2_with fail
    refine (ref_right lo hi _ hl hh).mono ?_
    rintro e w1 ⟨rfl, hg⟩
    go_wp2_with fail
    go_ret
    exact ⟨ret_bool HR.out.symm, ((Grew.refl w).alloc _).trans hg⟩
  | true =>
    cases h2 : Pl.isKey key with
    | false =>
      have hr : Pl.hasR lo hi key = false := by unfold Pl.hasR; rw [h1, h2]; rfl
      have HR := hid hr
      have hk0 : (((Pl.keyN key : Nat) : Int) == 0) = false := by rw [beq_eq_false_iff_ne]; have := of_decide_eq_false h2; omega
      clear hr
      go_enter Tryd.func27, Tryd.ntmps27
      go_wp2_with fail
      refine (ref_right lo hi _ hl hh).mono ?_
      rintro e w1 ⟨rfl, hg⟩
      go_wp2_with fail
      refine (ref_key key _ hk).mono ?_
      rintro e w2 ⟨rfl, hg2⟩
      go_wp2_with fail
      go_ret
      exact ⟨ret_bool HR.out.symm, ((Grew.refl w).alloc _).trans (hg.trans hg2)⟩
    | true =>
      have HK := hid (key_zero key h2)
      cases h3 : Op.bytesLess key.toList lo.toList with
      | true =>
        have hr : Pl.hasR lo hi key = false := by unfold Pl.hasR; rw [h1, h2, h3]; rfl
        have HR := hid hr
        clear hr
        go_enter Tryd.func27, Tryd.ntmps27
        go_wp2_with fail
        refine (ref_right lo hi _ hl hh).mono ?_
        rintro e w1 ⟨rfl, hg⟩
        have hz : w.heap.size < w1.heap.size := by have := hg.size; simp at this; omega
        obtain ⟨hc, _⟩ := hg.cells
        go_wp2_with fail
        refine (ref_key key _ hk).mono ?_
        rw [HK.out]
        rintro e w2 ⟨rfl, hg2⟩
        obtain ⟨hc2, _⟩ := hg2.cells
        go_wp2_with fail
        go_ret
        exact ⟨ret_bool HR.out.symm, ((Grew.refl w).alloc _).trans (hg.trans hg2)⟩
      | false =>
        cases h4 : hi.toList.isEmpty with
        | true =>
          have hr : Pl.hasR lo hi key = true := by unfold Pl.hasR Pl.none0; rw [h1, h2, h3, h4]; rfl
          have h5 : hi.toList = [] := by simpa using h4
          have HR := hid hr
          clear hr
          go_enter Tryd.func27, Tryd.ntmps27
          go_wp2_with fail
          refine (ref_right lo hi _ hl hh).mono ?_
          rintro e w1 ⟨rfl, hg⟩
          have hz : w.heap.size < w1.heap.size := by have := hg.size; simp at this; omega
          obtain ⟨hc, _⟩ := hg.cells
          go_wp2_with fail
          refine (ref_key key _ hk).mono ?_
          rw [HK.out]
          rintro e w2 ⟨rfl, hg2⟩
          obtain ⟨hc2, _⟩ := hg2.cells
          go_wp2_with fail
          go_ret
          exact ⟨ret_bool HR.out.symm, ((Grew.refl w).alloc _).trans (hg.trans hg2)⟩
        | false =>
          have hr : Pl.hasR lo hi key = Op.bytesLess key.toList hi.toList := by unfold Pl.hasR Pl.none0; rw [h1, h2, h3, h4]; rfl
          have h5 : ¬ hi.toList = [] := by simpa using h4
          have h6 : (!hi.toList.isEmpty) = true := by rw [h4]; rfl
          have HR := hid hr
          clear hr
          go_enter Tryd.func27, Tryd.ntmps27
          go_wp2_with fail
          refine (ref_right lo hi _ hl hh).mono ?_
          rintro e w1 ⟨rfl, hg⟩
          have hz : w.heap.size < w1.heap.size := by have := hg.size; simp at this; omega
          obtain ⟨hc, _⟩ := hg.cells
          go_wp2_with fail
          refine (ref_key key _ hk).mono ?_
          rw [HK.out]
          rintro e w2 ⟨rfl, hg2⟩
          obtain ⟨hc2, _⟩ := hg2.cells
          go_wp2_with fail
          go_ret
          exact ⟨ret_bool HR.out.symm, ((Grew.refl w).alloc _).trans (hg.trans hg2)⟩
end Go.Proofs.YtbkombicbgjlnaaDoor
