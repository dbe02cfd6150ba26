/- Plain: the program's spans are the document's: the runes' order is the bytes' order. No walk here. -/
import Derived.Test.YtbkombicbgjlnaaDoorRef03b
set_option linter.unusedVariables false
namespace Go.Proofs.YtbkombicbgjlnaaDoor.Pl

theorem cmp_lt : ∀ (x y : List Nat), (cmpNums x y < 0) = (numLess x y = true)
  | [], [] => by simp [cmpNums, numLess]
  | [], _ :: _ => by simp [cmpNums, numLess]
  | _ :: _, [] => by simp [cmpNums, numLess]
  | a :: x, b :: y => by
    unfold cmpNums numLess
    by_cases h1 : a < b
    · simp [h1]
    · by_cases h2 : b < a
      · have : a ≠ b := by omega
        simp [h1, h2, this]
      · have : a = b := by omega
        subst this
        simp [cmp_lt x y]
theorem cmp_gt : ∀ (x y : List Nat), (0 < cmpNums x y) = (numLess y x = true)
  | [], [] => by simp [cmpNums, numLess]
  | [], _ :: _ => by simp [cmpNums, numLess]
  | _ :: _, [] => by simp [cmpNums, numLess]
  | a :: x, b :: y => by
    unfold cmpNums numLess
    by_cases h1 : a < b
    · have h2 : ¬ b < a := by omega
      have h3 : b ≠ a := by omega
      simp [h1, h2, h3]
    · by_cases h2 : b < a
      · simp [h1, h2]
      · have : a = b := by omega
        subst this
        simp [cmp_gt x y]

theorem isKey_runes (s : ByteArray) (h : isKey s = true) : ∃ l, runes s.data.toList = some l := by
  unfold isKey keyN at h
  cases hr : runes s.data.toList with
  | none => rw [hr] at h; simp at h
  | some l => exact ⟨l, rfl⟩
theorem none0_runes (s : ByteArray) (h : none0 s = true) : runes s.data.toList = some [] := by
  unfold none0 at h
  rw [ByteArray.toList_eq] at h
  have : s.data.toList = [] := List.isEmpty_iff.1 h
  rw [this]; rfl
theorem endB_runes (s : ByteArray) (h : endB s = true) : ∃ l, runes s.data.toList = some l := by
  unfold endB at h
  rw [Bool.or_eq_true] at h
  rcases h with h | h
  · exact ⟨_, none0_runes s h⟩
  · exact isKey_runes s h

/-- At right texts the program's comparison is the bytes'. -/
theorem compare_lt (a b : ByteArray) (ha : ∃ l, runes a.data.toList = some l) (hb : ∃ l, runes b.data.toList = some l) : decide (compare a b < 0) = Op.bytesLess a.toList b.toList := by
  obtain ⟨x, hx⟩ := ha
  obtain ⟨y, hy⟩ := hb
  have e : compare a b = cmpNums x y := by unfold compare; rw [hx, hy]
  rw [e, ByteArray.toList_eq, ByteArray.toList_eq, less_runes _ _ _ x y (Nat.le_refl _) hx hy, Bool.eq_iff_iff, decide_eq_true_iff, cmp_lt]
theorem compare_gt (a b : ByteArray) (ha : ∃ l, runes a.data.toList = some l) (hb : ∃ l, runes b.data.toList = some l) : decide (0 < compare a b) = Op.bytesLess b.toList a.toList := by
  obtain ⟨x, hx⟩ := ha
  obtain ⟨y, hy⟩ := hb
  have e : compare a b = cmpNums x y := by unfold compare; rw [hx, hy]
  rw [e, ByteArray.toList_eq, ByteArray.toList_eq, less_runes _ _ _ y x (Nat.le_refl _) hy hx, Bool.eq_iff_iff, decide_eq_true_iff, cmp_gt]
theorem compare_ge (a b : ByteArray) (ha : ∃ l, runes a.data.toList = some l) (hb : ∃ l, runes b.data.toList = some l) : decide (0 ≤ compare a b) = !Op.bytesLess a.toList b.toList := by
  rw [← compare_lt a b ha hb, Bool.eq_iff_iff]
  simp

theorem lessB_eq (a b : ByteArray) (ha : ∃ l, runes a.data.toList = some l) (hb : endB b = true) : lessB a b = (none0 b || Op.bytesLess a.toList b.toList) := by
  unfold lessB
  rw [compare_lt a b ha (endB_runes b hb)]

theorem rightR_eq (lo hi : ByteArray) : rightR lo hi = rightS lo hi := by
  unfold rightR rightS
  cases h1 : endB lo with
  | false => rfl
  | true =>
    cases h2 : endB hi with
    | false => rfl
    | true => rw [lessB_eq lo hi (endB_runes lo h1) h2]
theorem rightS_ends (lo hi : ByteArray) (h : rightS lo hi = true) : endB lo = true ∧ endB hi = true := by
  unfold rightS at h
  rw [Bool.and_eq_true, Bool.and_eq_true] at h
  exact h.1
theorem hasR_eq (lo hi key : ByteArray) : hasR lo hi key = hasS lo hi key := by
  unfold hasR hasS
  rw [rightR_eq]
  cases h1 : rightS lo hi with
  | false => rfl
  | true =>
    obtain ⟨e1, e2⟩ := rightS_ends lo hi h1
    cases h2 : isKey key with
    | false => rfl
    | true =>
      have hk := isKey_runes key h2
      rw [lessB_eq key hi hk e2, compare_ge key lo hk (endB_runes lo e1)]
end Go.Proofs.YtbkombicbgjlnaaDoor.Pl
