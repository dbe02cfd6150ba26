/- The walks of the document's package 03: end, Right, Has, Cut. Then: Plain: the program's spans are the document's: the runes' order is the bytes' order. No walk here. Then: The walk of the document's package 03: Cut. (Printed out of span.Cut's walk.) -/
import Derived.Test.YtapchoppcaacdaaGreatDoorSpan1
import Derived.Test.YtapchoppcaacdaaGreatDoorRef03
namespace Go.Proofs.YtapchoppcaacdaaGreatDoor
open Go.RowKit

namespace Pl
def rightR (lo hi : ByteArray) : Bool := endB lo && endB hi && (none0 hi || Op.bytesLess lo.toList hi.toList)
def hasR (lo hi key : ByteArray) : Bool := rightR lo hi && isKey key && !Op.bytesLess key.toList lo.toList && (none0 hi || Op.bytesLess key.toList hi.toList)
end Pl

theorem key_zero (s : ByteArray) (h : Pl.isKey s = true) : ((Pl.keyN s : Nat) : Int) = 0 := by
  unfold Pl.isKey at h; rw [of_decide_eq_true h]; rfl

set_option maxHeartbeats 400000 in
theorem ref_end (s : ByteArray) (w : World) (hs : s.size ≤ 16777216) :
    Calls Tryz.prog 131 #[.string s] w fun e w' => e = .returned (.bool (Pl.endB s)) ∧ Grew w w' := by
  cases he : s.toList.isEmpty with
  | true =>
    have e : Pl.endB s = true := by unfold Pl.endB Pl.none0; rw [he]; rfl
    have e2 : s.toList = [] := by simpa using he
    have HE := hid e
    clear e
    go_enter Tryz.func131, Tryz.ntmps131
    go_wp2
    go_ret
    exact ⟨ret_bool HE.out.symm, Grew.refl _⟩
  | false =>
    have e2 : (!s.toList.isEmpty) = true := by rw [he]; rfl
    have e3 : ¬ s.toList = [] := by simpa using he
    have e : Pl.endB s = (((Pl.keyN s : Nat) : Int) == 0) := by
      unfold Pl.endB Pl.none0 Pl.isKey; rw [he, Bool.false_or, Bool.eq_iff_iff]; simp
    have HE := hid e
    clear e
    go_enter Tryz.func131, Tryz.ntmps131
    go_wp2_with (go_at_call 83; refine (ref_key s _ hs).mono ?_; rintro e w' ⟨rfl, hg⟩)
    go_ret
    exact ⟨ret_bool HE.out.symm, by assumption⟩

set_option maxHeartbeats 400000 in
theorem ref_right (lo hi : ByteArray) (w : World) (hl : lo.size ≤ 16777216) (hh : hi.size ≤ 16777216) :
    Calls Tryz.prog 90 #[.agg #[.string lo, .string hi]] w fun e w' => e = .returned (.bool (Pl.rightR lo hi)) ∧ Grew w w' := by
  cases h1 : Pl.endB lo with
  | false =>
    have hr : Pl.rightR lo hi = false := by unfold Pl.rightR; rw [h1]; rfl
    have HR := hid hr
    clear hr
    go_enter Tryz.func90, Tryz.ntmps90
    go_wp2_with fail
    refine (ref_end lo _ hl).mono ?_
    rintro e w1 ⟨rfl, hg⟩
    go_wp2_with fail
    go_ret
    exact ⟨ret_bool HR.out.symm, ((Grew.refl w).alloc _).trans hg⟩
  | true =>
    cases h2 : Pl.endB hi with
    | false =>
      have hr : Pl.rightR lo hi = false := by unfold Pl.rightR; rw [h1, h2]; rfl
      have HR := hid hr
      clear hr
      go_enter Tryz.func90, Tryz.ntmps90
      go_wp2_with fail
      refine (ref_end lo _ hl).mono ?_
      rintro e w1 ⟨rfl, hg⟩
      have hG : Grew w w1 := ((Grew.refl w).alloc _).trans hg
      obtain ⟨hc, _⟩ := hg.cells
      go_wp2_with fail
      refine (ref_end hi _ hh).mono ?_
      rintro e w2 ⟨rfl, hg2⟩
      go_wp2_with fail
      go_ret
      exact ⟨ret_bool HR.out.symm, hG.trans hg2⟩
    | true =>
      cases h3 : hi.toList.isEmpty with
      | true =>
        have hr : Pl.rightR lo hi = true := by unfold Pl.rightR Pl.none0; rw [h1, h2, h3]; rfl
        have h4 : hi.toList = [] := by simpa using h3
        have HR := hid hr
        clear hr
        go_enter Tryz.func90, Tryz.ntmps90
        go_wp2_with fail
        refine (ref_end lo _ hl).mono ?_
        rintro e w1 ⟨rfl, hg⟩
        have hG : Grew w w1 := ((Grew.refl w).alloc _).trans hg
        have hz : w.heap.size < w1.heap.size := by have := hg.size; simp at this; omega
        obtain ⟨hc, _⟩ := hg.cells
        go_wp2_with fail
        refine (ref_end hi _ hh).mono ?_
        rintro e w2 ⟨rfl, hg2⟩
        obtain ⟨hc2, _⟩ := hg2.cells
        go_wp2_with fail
        go_ret
        exact ⟨ret_bool HR.out.symm, hG.trans hg2⟩
      | false =>
        have hr : Pl.rightR lo hi = Op.bytesLess lo.toList hi.toList := by unfold Pl.rightR Pl.none0; rw [h1, h2, h3]; rfl
        have h4 : ¬ hi.toList = [] := by simpa using h3
        have h5 : (!hi.toList.isEmpty) = true := by rw [h3]; rfl
        have HR := hid hr
        clear hr
        go_enter Tryz.func90, Tryz.ntmps90
        go_wp2_with fail
        refine (ref_end lo _ hl).mono ?_
        rintro e w1 ⟨rfl, hg⟩
        have hG : Grew w w1 := ((Grew.refl w).alloc _).trans hg
        have hz : w.heap.size < w1.heap.size := by have := hg.size; simp at this; omega
        obtain ⟨hc, _⟩ := hg.cells
        go_wp2_with fail
        refine (ref_end hi _ hh).mono ?_
        rintro e w2 ⟨rfl, hg2⟩
        obtain ⟨hc2, _⟩ := hg2.cells
        go_wp2_with fail
        go_ret
        exact ⟨ret_bool HR.out.symm, hG.trans hg2⟩

set_option maxHeartbeats 800000 in
theorem ref_has (lo hi key : ByteArray) (w : World) (hl : lo.size ≤ 16777216) (hh : hi.size ≤ 16777216) (hk : key.size ≤ 16777216) :
    Calls Tryz.prog 97 #[.agg #[.string lo, .string hi], .string key] w fun e w' => e = .returned (.bool (Pl.hasR lo hi key)) ∧ Grew w w' := by
  cases h1 : Pl.rightR lo hi with
  | false =>
    have hr : Pl.hasR lo hi key = false := by unfold Pl.hasR; rw [h1]; rfl
    have HR := hid hr
    clear hr
    go_enter Tryz.func97, Tryz.ntmps97
    go_wp2_with fail
    refine (ref_right lo hi _ hl hh).mono ?_
    rintro e w1 ⟨rfl, hg⟩
    go_wp2_with fail
    go_ret
    exact ⟨ret_bool HR.out.symm, ((Grew.refl w).alloc _).trans hg⟩
  | true =>
    cases h2 : Pl.isKey key with
    | false =>
      have hr : Pl.hasR lo hi key = false := by unfold Pl.hasR; rw [h1, h2]; rfl
      have HR := hid hr
      have hk0 : (((Pl.keyN key : Nat) : Int) == 0) = false := by rw [beq_eq_false_iff_ne]; have := of_decide_eq_false h2; omega
      clear hr
      go_enter Tryz.func97, Tryz.ntmps97
      go_wp2_with fail
      refine (ref_right lo hi _ hl hh).mono ?_
      rintro e w1 ⟨rfl, hg⟩
      go_wp2_with fail
      refine (ref_key key _ hk).mono ?_
      rintro e w2 ⟨rfl, hg2⟩
      go_wp2_with fail
      go_ret
      exact ⟨ret_bool HR.out.symm, ((Grew.refl w).alloc _).trans (hg.trans hg2)⟩
    | true =>
      have HK := hid (key_zero key h2)
      cases h3 : Op.bytesLess key.toList lo.toList with
      | true =>
        have hr : Pl.hasR lo hi key = false := by unfold Pl.hasR; rw [h1, h2, h3]; rfl
        have HR := hid hr
        clear hr
        go_enter Tryz.func97, Tryz.ntmps97
        go_wp2_with fail
        refine (ref_right lo hi _ hl hh).mono ?_
        rintro e w1 ⟨rfl, hg⟩
        have hz : w.heap.size < w1.heap.size := by have := hg.size; simp at this; omega
        obtain ⟨hc, _⟩ := hg.cells
        go_wp2_with fail
        refine (ref_key key _ hk).mono ?_
        rw [HK.out]
        rintro e w2 ⟨rfl, hg2⟩
        obtain ⟨hc2, _⟩ := hg2.cells
        go_wp2_with fail
        go_ret
        exact ⟨ret_bool HR.out.symm, ((Grew.refl w).alloc _).trans (hg.trans hg2)⟩
      | false =>
        cases h4 : hi.toList.isEmpty with
        | true =>
          have hr : Pl.hasR lo hi key = true := by unfold Pl.hasR Pl.none0; rw [h1, h2, h3, h4]; rfl
          have h5 : hi.toList = [] := by simpa using h4
          have HR := hid hr
          clear hr
          go_enter Tryz.func97, Tryz.ntmps97
          go_wp2_with fail
          refine (ref_right lo hi _ hl hh).mono ?_
          rintro e w1 ⟨rfl, hg⟩
          have hz : w.heap.size < w1.heap.size := by have := hg.size; simp at this; omega
          obtain ⟨hc, _⟩ := hg.cells
          go_wp2_with fail
          refine (ref_key key _ hk).mono ?_
          rw [HK.out]
          rintro e w2 ⟨rfl, hg2⟩
          obtain ⟨hc2, _⟩ := hg2.cells
          go_wp2_with fail
          go_ret
          exact ⟨ret_bool HR.out.symm, ((Grew.refl w).alloc _).trans (hg.trans hg2)⟩
        | false =>
          have hr : Pl.hasR lo hi key = Op.bytesLess key.toList hi.toList := by unfold Pl.hasR Pl.none0; rw [h1, h2, h3, h4]; rfl
          have h5 : ¬ hi.toList = [] := by simpa using h4
          have h6 : (!hi.toList.isEmpty) = true := by rw [h4]; rfl
          have HR := hid hr
          clear hr
          go_enter Tryz.func97, Tryz.ntmps97
          go_wp2_with fail
          refine (ref_right lo hi _ hl hh).mono ?_
          rintro e w1 ⟨rfl, hg⟩
          have hz : w.heap.size < w1.heap.size := by have := hg.size; simp at this; omega
          obtain ⟨hc, _⟩ := hg.cells
          go_wp2_with fail
          refine (ref_key key _ hk).mono ?_
          rw [HK.out]
          rintro e w2 ⟨rfl, hg2⟩
          obtain ⟨hc2, _⟩ := hg2.cells
          go_wp2_with fail
          go_ret
          exact ⟨ret_bool HR.out.symm, ((Grew.refl w).alloc _).trans (hg.trans hg2)⟩
end Go.Proofs.YtapchoppcaacdaaGreatDoor

set_option linter.unusedVariables false
namespace Go.Proofs.YtapchoppcaacdaaGreatDoor.Pl

theorem cmp_lt : ∀ (x y : List Nat), (cmpNums x y < 0) = (numLess x y = true)
  | [], [] => by simp [cmpNums, numLess]
  | [], _ :: _ => by simp [cmpNums, numLess]
  | _ :: _, [] => by simp [cmpNums, numLess]
  | a :: x, b :: y => by
    unfold cmpNums numLess
    by_cases h1 : a < b
    · simp [h1]
    · by_cases h2 : b < a
      · have : a ≠ b := by omega
        simp [h1, h2, this]
      · have : a = b := by omega
        subst this
        simp [cmp_lt x y]
theorem cmp_gt : ∀ (x y : List Nat), (0 < cmpNums x y) = (numLess y x = true)
  | [], [] => by simp [cmpNums, numLess]
  | [], _ :: _ => by simp [cmpNums, numLess]
  | _ :: _, [] => by simp [cmpNums, numLess]
  | a :: x, b :: y => by
    unfold cmpNums numLess
    by_cases h1 : a < b
    · have h2 : ¬ b < a := by omega
      have h3 : b ≠ a := by omega
      simp [h1, h2, h3]
    · by_cases h2 : b < a
      · simp [h1, h2]
      · have : a = b := by omega
        subst this
        simp [cmp_gt x y]

theorem isKey_runes (s : ByteArray) (h : isKey s = true) : ∃ l, runes s.data.toList = some l := by
  unfold isKey keyN at h
  cases hr : runes s.data.toList with
  | none => rw [hr] at h; simp at h
  | some l => exact ⟨l, rfl⟩
theorem none0_runes (s : ByteArray) (h : none0 s = true) : runes s.data.toList = some [] := by
  unfold none0 at h
  rw [ByteArray.toList_eq] at h
  have : s.data.toList = [] := List.isEmpty_iff.1 h
  rw [this]; rfl
theorem endB_runes (s : ByteArray) (h : endB s = true) : ∃ l, runes s.data.toList = some l := by
  unfold endB at h
  rw [Bool.or_eq_true] at h
  rcases h with h | h
  · exact ⟨_, none0_runes s h⟩
  · exact isKey_runes s h

/-- At right texts the program's comparison is the bytes'. -/
theorem compare_lt (a b : ByteArray) (ha : ∃ l, runes a.data.toList = some l) (hb : ∃ l, runes b.data.toList = some l) : decide (compare a b < 0) = Op.bytesLess a.toList b.toList := by
  obtain ⟨x, hx⟩ := ha
  obtain ⟨y, hy⟩ := hb
  have e : compare a b = cmpNums x y := by unfold compare; rw [hx, hy]
  rw [e, ByteArray.toList_eq, ByteArray.toList_eq, less_runes _ _ _ x y (Nat.le_refl _) hx hy, Bool.eq_iff_iff, decide_eq_true_iff, cmp_lt]
theorem compare_gt (a b : ByteArray) (ha : ∃ l, runes a.data.toList = some l) (hb : ∃ l, runes b.data.toList = some l) : decide (0 < compare a b) = Op.bytesLess b.toList a.toList := by
  obtain ⟨x, hx⟩ := ha
  obtain ⟨y, hy⟩ := hb
  have e : compare a b = cmpNums x y := by unfold compare; rw [hx, hy]
  rw [e, ByteArray.toList_eq, ByteArray.toList_eq, less_runes _ _ _ y x (Nat.le_refl _) hy hx, Bool.eq_iff_iff, decide_eq_true_iff, cmp_gt]
theorem compare_ge (a b : ByteArray) (ha : ∃ l, runes a.data.toList = some l) (hb : ∃ l, runes b.data.toList = some l) : decide (0 ≤ compare a b) = !Op.bytesLess a.toList b.toList := by
  rw [← compare_lt a b ha hb, Bool.eq_iff_iff]
  simp

theorem lessB_eq (a b : ByteArray) (ha : ∃ l, runes a.data.toList = some l) (hb : endB b = true) : lessB a b = (none0 b || Op.bytesLess a.toList b.toList) := by
  unfold lessB
  rw [compare_lt a b ha (endB_runes b hb)]

theorem rightR_eq (lo hi : ByteArray) : rightR lo hi = rightS lo hi := by
  unfold rightR rightS
  cases h1 : endB lo with
  | false => rfl
  | true =>
    cases h2 : endB hi with
    | false => rfl
    | true => rw [lessB_eq lo hi (endB_runes lo h1) h2]
theorem rightS_ends (lo hi : ByteArray) (h : rightS lo hi = true) : endB lo = true ∧ endB hi = true := by
  unfold rightS at h
  rw [Bool.and_eq_true, Bool.and_eq_true] at h
  exact h.1
theorem hasR_eq (lo hi key : ByteArray) : hasR lo hi key = hasS lo hi key := by
  unfold hasR hasS
  rw [rightR_eq]
  cases h1 : rightS lo hi with
  | false => rfl
  | true =>
    obtain ⟨e1, e2⟩ := rightS_ends lo hi h1
    cases h2 : isKey key with
    | false => rfl
    | true =>
      have hk := isKey_runes key h2
      rw [lessB_eq key hi hk e2, compare_ge key lo hk (endB_runes lo e1)]
end Go.Proofs.YtapchoppcaacdaaGreatDoor.Pl
