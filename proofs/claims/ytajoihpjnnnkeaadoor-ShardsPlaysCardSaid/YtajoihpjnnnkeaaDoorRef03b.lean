/- The walks of the document's package 03: end, Right, Has, Cut. Then: Plain: the program's spans are the document's: the runes' order is the bytes' order. No walk here. Then: The walk of the document's package 03: Cut. (Printed out of span.Cut's walk.) -/
import Derived.Test.YtajoihpjnnnkeaaDoorRef03
namespace Go.Proofs.YtajoihpjnnnkeaaDoor
open Go.RowKit

namespace Pl
def rightR (lo hi : ByteArray) : Bool := endB lo && endB hi && (none0 hi || Op.bytesLess lo.toList hi.toList)
def hasR (lo hi key : ByteArray) : Bool := rightR lo hi && isKey key && !Op.bytesLess key.toList lo.toList && (none0 hi || Op.bytesLess key.toList hi.toList)
end Pl

theorem key_zero (s : ByteArray) (h : Pl.isKey s = true) : ((Pl.keyN s : Nat) : Int) = 0 := by
  unfold Pl.isKey at h; rw [of_decide_eq_true h]; rfl

set_option maxHeartbeats 400000 in
theorem ref_end (s : ByteArray) (w : World) (hs : s.size ≤ 16777216) :
    Calls Tryd.prog 126 #[.string s] w fun e w' => e = .returned (.bool (Pl.endB s)) ∧ Grew w w' := by
  cases he : s.toList.isEmpty with
  | true =>
    have e : Pl.endB s = true := by unfold Pl.endB Pl.none0; rw [he]; rfl
    have e2 : s.toList = [] := by simpa using he
    have HE := hid e
    clear e
    go_enter Tryd.func126, Tryd.ntmps126
    go_wp2
    go_ret
    exact ⟨ret_bool HE.out.symm, Grew.refl _⟩
  | false =>
    have e2 : (!s.toList.isEmpty) = true := by rw [he]; rfl
    have e3 : ¬ s.toList = [] := by simpa using he
    have e : Pl.endB s = (((Pl.keyN s : Nat) : Int) == 0) := by
      unfold Pl.endB Pl.none0 Pl.isKey; rw [he, Bool.false_or, Bool.eq_iff_iff]; simp
    have HE := hid e
    clear e
    go_enter Tryd.func126, Tryd.ntmps126
    go_wp2_with (go_at_call 62; refine (ref_key s _ hs).mono ?_; rintro e w' ⟨rfl, hg⟩)
    go_ret
    exact ⟨ret_bool HE.out.symm, by assumption⟩

set_option maxHeartbeats 400000 in
theorem ref_right (lo hi : ByteArray) (w : World) (hl : lo.size ≤ 16777216) (hh : hi.size ≤ 16777216) :
    Calls Tryd.prog 97 #[.agg #[.string lo, .string hi]] w fun e w' => e = .returned (.bool (Pl.rightR lo hi)) ∧ Grew w w' := by
  cases h1 : Pl.endB lo with
  | false =>
    have hr : Pl.rightR lo hi = false := by unfold Pl.rightR; rw [h1]; rfl
    have HR := hid hr
    clear hr
    go_enter Tryd.func97, Tryd.ntmps97
    go_wp2_with fail
    refine (ref_end lo _ hl).mono ?_
    rintro e w1 ⟨rfl, hg⟩
    go_wp2_with fail
    go_ret
    exact ⟨ret_bool HR.out.symm, ((Grew.refl w).alloc _).trans hg⟩
  | true =>
    cases h2 : Pl.endB hi with
    | false =>
      have hr : Pl.rightR lo hi = false := by unfold Pl.rightR; rw [h1, h2]; rfl
      have HR := hid hr
      clear hr
      go_enter Tryd.func97, Tryd.ntmps97
      go_wp2_with fail
      refine (ref_end lo _ hl).mono ?_
      rintro e w1 ⟨rfl, hg⟩
      have hG : Grew w w1 := ((Grew.refl w).alloc _).trans hg
      obtain ⟨hc, _⟩ := hg.cells
      go_wp2_with fail
      refine (ref_end hi _ hh).mono ?_
      rintro e w2 ⟨rfl, hg2⟩
      go_wp2_with fail
      go_ret
      exact ⟨ret_bool HR.out.symm, hG.trans hg2⟩
    | true =>
      cases h3 : hi.toList.isEmpty with
      | true =>
        have hr : Pl.rightR lo hi = true := by unfold Pl.rightR Pl.none0; rw [h1, h2, h3]; rfl
        have h4 : hi.toList = [] := by simpa using h3
        have HR := hid hr
        clear hr
        go_enter Tryd.func97, Tryd.ntmps97
        go_wp2_with fail
        refine (ref_end lo _ hl).mono ?_
        rintro e w1 ⟨rfl, hg⟩
        have hG : Grew w w1 := ((Grew.refl w).alloc _).trans hg
        have hz : w.heap.size < w1.heap.size := by have := hg.size; simp at this; omega
        obtain ⟨hc, _⟩ := hg.cells
        go_wp2_with fail
        refine (ref_end hi _ hh).mono ?_
        rintro e w2 ⟨rfl, hg2⟩
        obtain ⟨hc2, _⟩ := hg2.cells
        go_wp2_with fail
        go_ret
        exact ⟨ret_bool HR.out.symm, hG.trans hg2⟩
      | false =>
        have hr : Pl.rightR lo hi = Op.bytesLess lo.toList hi.toList := by unfold Pl.rightR Pl.none0; rw [h1, h2, h3]; rfl
        have h4 : ¬ hi.toList = [] := by simpa using h3
        have h5 : (!hi.toList.isEmpty) = true := by rw [h3]; rfl
        have HR := hid hr
        clear hr
        go_enter Tryd.func97, Tryd.ntmps97
        go_wp2_with fail
        refine (ref_end lo _ hl).mono ?_
        rintro e w1 ⟨rfl, hg⟩
        have hG : Grew w w1 := ((Grew.refl w).alloc _).trans hg
        have hz : w.heap.size < w1.heap.size := by have := hg.size; simp at this; omega
        obtain ⟨hc, _⟩ := hg.cells
        go_wp2_with fail
        refine (ref_end hi _ hh).mono ?_
        rintro e w2 ⟨rfl, hg2⟩
        obtain ⟨hc2, _⟩ := hg2.cells
        go_wp2_with fail
        go_ret
        exact ⟨ret_bool HR.out.symm, hG.trans hg2⟩

set_option maxHeartbeats 800000 in
theorem ref_has (lo hi key : ByteArray) (w : World) (hl : lo.size ≤ 16777216) (hh : hi.size ≤ 16777216) (hk : key.size ≤ 16777216) :
    Calls Tryd.prog 53 #[.agg #[.string lo, .string hi], .string key] w fun e w' => e = .returned (.bool (Pl.hasR lo hi key)) ∧ Grew w w' := by
  cases h1 : Pl.rightR lo hi with
  | false =>
    have hr : Pl.hasR lo hi key = false := by unfold Pl.hasR; rw [h1]; rfl
    have HR := hid hr
    clear hr
    go_enter Tryd.func53, Tryd.ntmps53
    go_wp2_with fail
    refine (ref_right lo hi _ hl hh).mono ?_
    rintro e w1 ⟨rfl, hg⟩
    go_wp2_with fail
    go_ret
    exact ⟨ret_bool HR.out.symm, ((Grew.refl w).alloc _).trans hg⟩
  | true =>
    cases h2 : Pl.isKey key with
    | false =>
      have hr : Pl.hasR lo hi key = false := by unfold Pl.hasR; rw [h1, h2]; rfl
      have HR := hid hr
      have hk0 : (((Pl.keyN key : Nat) : Int) == 0) = false := by rw [beq_eq_false_iff_ne]; have := of_decide_eq_false h2; omega
      clear hr
      go_enter Tryd.func53, Tryd.ntmps53
      go_wp2_with fail
      refine (ref_right lo hi _ hl hh).mono ?_
      rintro e w1 ⟨rfl, hg⟩
      go_wp2_with fail
      refine (ref_key key _ hk).mono ?_
      rintro e w2 ⟨rfl, hg2⟩
      go_wp2_with fail
      go_ret
      exact ⟨ret_bool HR.out.symm, ((Grew.refl w).alloc _).trans (hg.trans hg2)⟩
    | true =>
      have HK := hid (key_zero key h2)
      cases h3 : Op.bytesLess key.toList lo.toList with
      | true =>
        have hr : Pl.hasR lo hi key = false := by unfold Pl.hasR; rw [h1, h2, h3]; rfl
        have HR := hid hr
        clear hr
        go_enter Tryd.func53, Tryd.ntmps53
        go_wp2_with fail
        refine (ref_right lo hi _ hl hh).mono ?_
        rintro e w1 ⟨rfl, hg⟩
        have hz : w.heap.size < w1.heap.size := by have := hg.size; simp at this; omega
        obtain ⟨hc, _⟩ := hg.cells
        go_wp2_with fail
        refine (ref_key key _ hk).mono ?_
        rw [HK.out]
        rintro e w2 ⟨rfl, hg2⟩
        obtain ⟨hc2, _⟩ := hg2.cells
        go_wp2_with fail
        go_ret
        exact ⟨ret_bool HR.out.symm, ((Grew.refl w).alloc _).trans (hg.trans hg2)⟩
      | false =>
        cases h4 : hi.toList.isEmpty with
        | true =>
          have hr : Pl.hasR lo hi key = true := by unfold Pl.hasR Pl.none0; rw [h1, h2, h3, h4]; rfl
          have h5 : hi.toList = [] := by simpa using h4
          have HR := hid hr
          clear hr
          go_enter Tryd.func53, Tryd.ntmps53
          go_wp2_with fail
          refine (ref_right lo hi _ hl hh).mono ?_
          rintro e w1 ⟨rfl, hg⟩
          have hz : w.heap.size < w1.heap.size := by have := hg.size; simp at this; omega
          obtain ⟨hc, _⟩ := hg.cells
          go_wp2_with fail
          refine (ref_key key _ hk).mono ?_
          rw [HK.out]
          rintro e w2 ⟨rfl, hg2⟩
          obtain ⟨hc2, _⟩ := hg2.cells
          go_wp2_with fail
          go_ret
          exact ⟨ret_bool HR.out.symm, ((Grew.refl w).alloc _).trans (hg.trans hg2)⟩
        | false =>
          have hr : Pl.hasR lo hi key = Op.bytesLess key.toList hi.toList := by unfold Pl.hasR Pl.none0; rw [h1, h2, h3, h4]; rfl
          have h5 : ¬ hi.toList = [] := by simpa using h4
          have h6 : (!hi.toList.isEmpty) = true := by rw [h4]; rfl
          have HR := hid hr
          clear hr
          go_enter Tryd.func53, Tryd.ntmps53
          go_wp2_with fail
          refine (ref_right lo hi _ hl hh).mono ?_
          rintro e w1 ⟨rfl, hg⟩
          have hz : w.heap.size < w1.heap.size := by have := hg.size; simp at this; omega
          obtain ⟨hc, _⟩ := hg.cells
          go_wp2_with fail
          refine (ref_key key _ hk).mono ?_
          rw [HK.out]
          rintro e w2 ⟨rfl, hg2⟩
          obtain ⟨hc2, _⟩ := hg2.cells
          go_wp2_with fail
          go_ret
          exact ⟨ret_bool HR.out.symm, ((Grew.refl w).alloc _).trans (hg.trans hg2)⟩
end Go.Proofs.YtajoihpjnnnkeaaDoor

set_option linter.unusedVariables false
namespace Go.Proofs.YtajoihpjnnnkeaaDoor.Pl

theorem cmp_lt : ∀ (x y : List Nat), (cmpNums x y < 0) = (numLess x y = true)
  | [], [] => by simp [cmpNums, numLess]
  | [], _ :: _ => by simp [cmpNums, numLess]
  | _ :: _, [] => by simp [cmpNums, numLess]
  | a :: x, b :: y => by
    unfold cmpNums numLess
    by_cases h1 : a < b
    · simp [h1]
    · by_cases h2 : b < a
      · have : a ≠ b := by omega
        simp [h1, h2, this]
      · have : a = b := by omega
        subst this
        simp [cmp_lt x y]
theorem cmp_gt : ∀ (x y : List Nat), (0 < cmpNums x y) = (numLess y x = true)
  | [], [] => by simp [cmpNums, numLess]
  | [], _ :: _ => by simp [cmpNums, numLess]
  | _ :: _, [] => by simp [cmpNums, numLess]
  | a :: x, b :: y => by
    unfold cmpNums numLess
    by_cases h1 : a < b
    · have h2 : ¬ b < a := by omega
      have h3 : b ≠ a := by omega
      simp [h1, h2, h3]
    · by_cases h2 : b < a
      · simp [h1, h2]
      · have : a = b := by omega
        subst this
        simp [cmp_gt x y]

theorem isKey_runes (s : ByteArray) (h : isKey s = true) : ∃ l, runes s.data.toList = some l := by
  unfold isKey keyN at h
  cases hr : runes s.data.toList with
  | none => rw [hr] at h; simp at h
  | some l => exact ⟨l, rfl⟩
theorem none0_runes (s : ByteArray) (h : none0 s = true) : runes s.data.toList = some [] := by
  unfold none0 at h
  rw [ByteArray.toList_eq] at h
  have : s.data.toList = [] := List.isEmpty_iff.1 h
  rw [this]; rfl
theorem endB_runes (s : ByteArray) (h : endB s = true) : ∃ l, runes s.data.toList = some l := by
  unfold endB at h
  rw [Bool.or_eq_true] at h
  rcases h with h | h
  · exact ⟨_, none0_runes s h⟩
  · exact isKey_runes s h

/-- At right texts the program's comparison is the bytes'. -/
theorem compare_lt (a b : ByteArray) (ha : ∃ l, runes a.data.toList = some l) (hb : ∃ l, runes b.data.toList = some l) : decide (compare a b < 0) = Op.bytesLess a.toList b.toList := by
  obtain ⟨x, hx⟩ := ha
  obtain ⟨y, hy⟩ := hb
  have e : compare a b = cmpNums x y := by unfold compare; rw [hx, hy]
  rw [e, ByteArray.toList_eq, ByteArray.toList_eq, less_runes _ _ _ x y (Nat.le_refl _) hx hy, Bool.eq_iff_iff, decide_eq_true_iff, cmp_lt]
theorem compare_gt (a b : ByteArray) (ha : ∃ l, runes a.data.toList = some l) (hb : ∃ l, runes b.data.toList = some l) : decide (0 < compare a b) = Op.bytesLess b.toList a.toList := by
  obtain ⟨x, hx⟩ := ha
  obtain ⟨y, hy⟩ := hb
  have e : compare a b = cmpNums x y := by unfold compare; rw [hx, hy]
  rw [e, ByteArray.toList_eq, ByteArray.toList_eq, less_runes _ _ _ y x (Nat.le_refl _) hy hx, Bool.eq_iff_iff, decide_eq_true_iff, cmp_gt]
theorem compare_ge (a b : ByteArray) (ha : ∃ l, runes a.data.toList = some l) (hb : ∃ l, runes b.data.toList = some l) : decide (0 ≤ compare a b) = !Op.bytesLess a.toList b.toList := by
  rw [← compare_lt a b ha hb, Bool.eq_iff_iff]
  simp

theorem lessB_eq (a b : ByteArray) (ha : ∃ l, runes a.data.toList = some l) (hb : endB b = true) : lessB a b = (none0 b || Op.bytesLess a.toList b.toList) := by
  unfold lessB
  rw [compare_lt a b ha (endB_runes b hb)]

theorem rightR_eq (lo hi : ByteArray) : rightR lo hi = rightS lo hi := by
  unfold rightR rightS
  cases h1 : endB lo with
  | false => rfl
  | true =>
    cases h2 : endB hi with
    | false => rfl
    | true => rw [lessB_eq lo hi (endB_runes lo h1) h2]
theorem rightS_ends (lo hi : ByteArray) (h : rightS lo hi = true) : endB lo = true ∧ endB hi = true := by
  unfold rightS at h
  rw [Bool.and_eq_true, Bool.and_eq_true] at h
  exact h.1
theorem hasR_eq (lo hi key : ByteArray) : hasR lo hi key = hasS lo hi key := by
  unfold hasR hasS
  rw [rightR_eq]
  cases h1 : rightS lo hi with
  | false => rfl
  | true =>
    obtain ⟨e1, e2⟩ := rightS_ends lo hi h1
    cases h2 : isKey key with
    | false => rfl
    | true =>
      have hk := isKey_runes key h2
      rw [lessB_eq key hi hk e2, compare_ge key lo hk (endB_runes lo e1)]
end Go.Proofs.YtajoihpjnnnkeaaDoor.Pl

namespace Go.Proofs.YtajoihpjnnnkeaaDoor
open Go.RowKit

def RefCutPost (lo hi key : ByteArray) (n : Nat) (w : World) (e : Ending) (w' : World) : Prop :=
  e = .returned (.tuple #[.agg #[.string (Pl.cutA n lo key).1, .string (Pl.cutA n lo key).2], .agg #[.string (Pl.cutA n key hi).1, .string (Pl.cutA n key hi).2], .int .i64 (n : Nat)]) ∧ Grew w w'

set_option maxHeartbeats 800000 in
theorem ref_cut (lo hi key : ByteArray) (w : World) (hl : lo.size ≤ 16777216) (hh : hi.size ≤ 16777216) (hk : key.size ≤ 16777216) :
    Calls Tryd.prog 55 #[.agg #[.string lo, .string hi], .string key] w (RefCutPost lo hi key (Pl.cutE (Pl.rightR lo hi) (Pl.keyN key) (Pl.hasR lo hi key) lo key) w) := by
  cases h1 : Pl.rightR lo hi with
  | false =>
    have hn : Pl.cutE false (Pl.keyN key) (Pl.hasR lo hi key) lo key = 4 := rfl
    rw [hn]
    clear hn
    go_enter Tryd.func55, Tryd.ntmps55
    go_wp2_with fail
    refine (ref_right lo hi _ hl hh).mono ?_
    rintro e w1 ⟨rfl, hg⟩
    have hG : Grew w w1 := ((((Grew.refl w).alloc _).alloc _).alloc _).trans hg
    obtain ⟨hc, hf⟩ := hg.cells
    go_wp2_with fail
    refine bodyPost_ret (v := .tuple #[.agg #[.string noText, .string noText], .agg #[.string noText, .string noText], (.int .i64 4)]) (by simp [results, Tryd.results55, go_sem, hc]) rfl ⟨rfl, ?_⟩
    exact ((((hG.setCell (by simp) _).setCell (by simp) _).setCell (by simp; omega) _).setCell (by simp; omega) _)
  | true =>
    cases h2 : Pl.isKey key with
    | false =>
      have k0 : Pl.keyN key ≠ 0 := of_decide_eq_false h2
      have hn : Pl.cutE true (Pl.keyN key) (Pl.hasR lo hi key) lo key = Pl.keyN key := by unfold Pl.cutE; rw [if_neg (by decide), if_pos k0]
      have hA : ∀ a b, Pl.cutA (Pl.keyN key) a b = (noText, noText) := fun a b => by unfold Pl.cutA; rw [if_neg k0]
      have hk1 : (((Pl.keyN key : Nat) : Int) == 0) = false := beq_eq_false_iff_ne.2 (by omega)
      have hk3 : (((Pl.keyN key : Nat) : Int) != 0) = true := by rw [bne_iff_ne]; omega
      unfold RefCutPost
      rw [hn, hA, hA]
      clear hn hA k0
      go_enter Tryd.func55, Tryd.ntmps55
      go_wp2_with fail
      refine (ref_right lo hi _ hl hh).mono ?_
      rintro e w1 ⟨rfl, hg⟩
      have hG : Grew w w1 := ((((Grew.refl w).alloc _).alloc _).alloc _).trans hg
      have hz : w.heap.size < w1.heap.size ∧ w.heap.size + 1 < w1.heap.size ∧ w.heap.size + 1 + 1 < w1.heap.size := by have := hg.size; simp at this; omega
      obtain ⟨hz0, hz1, hz2⟩ := hz
      obtain ⟨hc, hf⟩ := hg.cells
      go_wp2_with fail
      refine (ref_key key _ hk).mono ?_
      rintro e w2 ⟨rfl, hg2⟩
      obtain ⟨hc2, hf2⟩ := hg2.cells
      have hG2 : Grew w w2 := hG.trans hg2
      go_wp2_with fail
      refine bodyPost_ret (v := .tuple #[.agg #[.string noText, .string noText], .agg #[.string noText, .string noText], .int .i64 (Pl.keyN key : Nat)]) (by simp [results, Tryd.results55, go_sem, hc, hc2, hz1, hz2]) rfl ⟨rfl, ?_⟩
      exact (((hG2.setCell (by simp) _).setCell (by simp) _).setCell (by simp; omega) _).setCell (by simp; omega) _
    | true =>
      have k0 : Pl.keyN key = 0 := of_decide_eq_true h2
      have HK := hid (key_zero key h2)
      cases h3 : Pl.hasR lo hi key with
      | false =>
        have hn : Pl.cutE true (Pl.keyN key) false lo key = 1 := by unfold Pl.cutE; rw [if_neg (by decide), if_neg (by omega), if_pos (Or.inl rfl)]
        rw [hn]
        clear hn k0
        go_enter Tryd.func55, Tryd.ntmps55
        go_wp2_with fail
        refine (ref_right lo hi _ hl hh).mono ?_
        rintro e w1 ⟨rfl, hg⟩
        have hG : Grew w w1 := ((((Grew.refl w).alloc _).alloc _).alloc _).trans hg
        have hz : w.heap.size < w1.heap.size ∧ w.heap.size + 1 < w1.heap.size ∧ w.heap.size + 1 + 1 < w1.heap.size := by have := hg.size; simp at this; omega
        obtain ⟨hz0, hz1, hz2⟩ := hz
        obtain ⟨hc, hf⟩ := hg.cells
        go_wp2_with fail
        refine (ref_key key _ hk).mono ?_
        rw [HK.out]
        rintro e w2 ⟨rfl, hg2⟩
        obtain ⟨hc2, hf2⟩ := hg2.cells
        have hG2 : Grew w w2 := hG.trans hg2
        have hy : w.heap.size < w2.heap.size ∧ w.heap.size + 1 < w2.heap.size ∧ w.heap.size + 1 + 1 < w2.heap.size := by have := hg2.size; omega
        obtain ⟨hy0, hy1, hy2⟩ := hy
        go_wp2_with fail
        refine (ref_has lo hi key _ hl hh hk).mono ?_
        rintro e w3 ⟨rfl, hg3⟩
        obtain ⟨hc3, hf3⟩ := hg3.cells
        have hG3 : Grew w w3 := hG2.trans hg3
        go_wp2_with fail
        refine bodyPost_ret (v := .tuple #[.agg #[.string noText, .string noText], .agg #[.string noText, .string noText], (.int .i64 1)]) (by simp [results, Tryd.results55, go_sem, hc, hc2, hc3, hz1, hz2, hy1, hy2]) rfl ⟨rfl, ?_⟩
        exact ((((hG3.setCell (by simp) _).setCell (by simp) _).setCell (by simp; omega) _).setCell (by simp; omega) _)
      | true =>
        by_cases h4 : key.toList = lo.toList
        · have hn : Pl.cutE true (Pl.keyN key) true lo key = 1 := by unfold Pl.cutE; rw [if_neg (by decide), if_neg (by omega), if_pos (Or.inr h4)]
          rw [hn]
          have h5 : (key.toList == lo.toList) = true := by simpa using h4
          clear hn k0 h4
          go_enter Tryd.func55, Tryd.ntmps55
          go_wp2_with fail
          refine (ref_right lo hi _ hl hh).mono ?_
          rintro e w1 ⟨rfl, hg⟩
          have hG : Grew w w1 := ((((Grew.refl w).alloc _).alloc _).alloc _).trans hg
          have hz : w.heap.size < w1.heap.size ∧ w.heap.size + 1 < w1.heap.size ∧ w.heap.size + 1 + 1 < w1.heap.size := by have := hg.size; simp at this; omega
          obtain ⟨hz0, hz1, hz2⟩ := hz
          obtain ⟨hc, hf⟩ := hg.cells
          go_wp2_with fail
          refine (ref_key key _ hk).mono ?_
          rw [HK.out]
          rintro e w2 ⟨rfl, hg2⟩
          obtain ⟨hc2, hf2⟩ := hg2.cells
          have hG2 : Grew w w2 := hG.trans hg2
          have hy : w.heap.size < w2.heap.size ∧ w.heap.size + 1 < w2.heap.size ∧ w.heap.size + 1 + 1 < w2.heap.size := by have := hg2.size; omega
          obtain ⟨hy0, hy1, hy2⟩ := hy
          go_wp2_with fail
          refine (ref_has lo hi key _ hl hh hk).mono ?_
          rintro e w3 ⟨rfl, hg3⟩
          obtain ⟨hc3, hf3⟩ := hg3.cells
          have hG3 : Grew w w3 := hG2.trans hg3
          go_wp2_with fail
          refine bodyPost_ret (v := .tuple #[.agg #[.string noText, .string noText], .agg #[.string noText, .string noText], (.int .i64 1)]) (by simp [results, Tryd.results55, go_sem, hc, hc2, hc3, hz1, hz2, hy1, hy2]) rfl ⟨rfl, ?_⟩
          exact ((((hG3.setCell (by simp) _).setCell (by simp) _).setCell (by simp; omega) _).setCell (by simp; omega) _)
        · have hn : Pl.cutE true (Pl.keyN key) true lo key = 0 := by unfold Pl.cutE; rw [if_neg (by decide), if_neg (by omega), if_neg (by simpa using h4)]
          rw [hn]
          have h5 : (key.toList == lo.toList) = false := by simpa using h4
          clear hn k0 h4
          go_enter Tryd.func55, Tryd.ntmps55
          go_wp2_with fail
          refine (ref_right lo hi _ hl hh).mono ?_
          rintro e w1 ⟨rfl, hg⟩
          have hG : Grew w w1 := ((((Grew.refl w).alloc _).alloc _).alloc _).trans hg
          have hz : w.heap.size < w1.heap.size ∧ w.heap.size + 1 < w1.heap.size ∧ w.heap.size + 1 + 1 < w1.heap.size := by have := hg.size; simp at this; omega
          obtain ⟨hz0, hz1, hz2⟩ := hz
          obtain ⟨hc, hf⟩ := hg.cells
          go_wp2_with fail
          refine (ref_key key _ hk).mono ?_
          rw [HK.out]
          rintro e w2 ⟨rfl, hg2⟩
          obtain ⟨hc2, hf2⟩ := hg2.cells
          have hG2 : Grew w w2 := hG.trans hg2
          have hy : w.heap.size < w2.heap.size ∧ w.heap.size + 1 < w2.heap.size ∧ w.heap.size + 1 + 1 < w2.heap.size := by have := hg2.size; omega
          obtain ⟨hy0, hy1, hy2⟩ := hy
          go_wp2_with fail
          refine (ref_has lo hi key _ hl hh hk).mono ?_
          rintro e w3 ⟨rfl, hg3⟩
          obtain ⟨hc3, hf3⟩ := hg3.cells
          have hG3 : Grew w w3 := hG2.trans hg3
          have l0 : w3.cell? ⟨w.heap.size, 0, none⟩ = some (.string lo) := by rw [hc3 _ _ hy0, hc2 _ _ hz0, hc _ _ (by simp; omega)]; simp [go_sem]
          have l1 : w3.cell? ⟨w.heap.size, 1, none⟩ = some (.string hi) := by rw [hc3 _ _ hy0, hc2 _ _ hz0, hc _ _ (by simp; omega)]; simp [go_sem]
          go_wp2_with fail
          go_region
          go_wp2_with fail
          refine bodyPost_ret (v := .tuple #[.agg #[.string lo, .string key], .agg #[.string key, .string hi], (.int .i64 0)]) (by simp [results, Tryd.results55, go_sem, hc, hc2, hc3, hz1, hz2, hy1, hy2]) rfl ⟨rfl, ?_⟩
          exact ((((hG3.setCell (by simp) _).setCell (by simp) _).setCell (by simp; omega) _).setCell (by simp; omega) _).drew
end Go.Proofs.YtajoihpjnnnkeaaDoor
