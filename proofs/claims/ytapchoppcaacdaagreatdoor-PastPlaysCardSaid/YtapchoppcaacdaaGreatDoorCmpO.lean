/- The plain law of the order of right texts. -/
import Derived.Test.YtapchoppcaacdaaGreatDoorRunes3
namespace Go.Proofs.YtapchoppcaacdaaGreatDoor
namespace Pl
theorem cmpNums_swap : ∀ (x y : List Nat), cmpNums y x = - cmpNums x y
  | [], [] => rfl
  | [], _ :: _ => rfl
  | _ :: _, [] => rfl
  | a :: x, b :: y => by
    unfold cmpNums
    by_cases h1 : a < b
    · have h2 : ¬ b < a := by omega
      simp [h1, h2]
    · by_cases h2 : b < a
      · simp [h1, h2]
      · simp only [h1, h2, if_false]; exact cmpNums_swap x y
theorem cmpNums_zero : ∀ (x y : List Nat), cmpNums x y = 0 → x = y
  | [], [], _ => rfl
  | [], _ :: _, h => by simp [cmpNums] at h
  | _ :: _, [], h => by simp [cmpNums] at h
  | a :: x, b :: y, h => by
    unfold cmpNums at h
    by_cases h1 : a < b
    · rw [if_pos h1] at h; simp at h
    · by_cases h2 : b < a
      · rw [if_neg h1, if_pos h2] at h; simp at h
      · rw [if_neg h1, if_neg h2] at h
        rw [show a = b by omega, cmpNums_zero x y h]
theorem cmpNums_self : ∀ (x : List Nat), cmpNums x x = 0
  | [] => rfl
  | a :: x => by unfold cmpNums; rw [if_neg (by omega), if_neg (by omega)]; exact cmpNums_self x
theorem cmpNums_trans : ∀ (x y z : List Nat), cmpNums x y < 0 → cmpNums y z < 0 → cmpNums x z < 0
  | [], [], _, h, _ => by simp [cmpNums] at h
  | [], _ :: _, [], _, h => by simp [cmpNums] at h
  | [], _ :: _, _ :: _, _, _ => by simp [cmpNums]
  | _ :: _, [], _, h, _ => by simp [cmpNums] at h
  | _ :: _, _ :: _, [], _, h => by simp [cmpNums] at h
  | a :: x, b :: y, c :: z, h, k => by
    unfold cmpNums at h k ⊢
    by_cases h1 : a < b
    · by_cases k1 : b < c
      · rw [if_pos (by omega)]; decide
      · by_cases k2 : c < b
        · rw [if_neg k1, if_pos k2] at k; simp at k
        · rw [if_pos (by omega)]; decide
    · by_cases h2 : b < a
      · rw [if_neg h1, if_pos h2] at h; simp at h
      · by_cases k1 : b < c
        · rw [if_pos (by omega)]; decide
        · by_cases k2 : c < b
          · rw [if_neg k1, if_pos k2] at k; simp at k
          · rw [if_neg h1, if_neg h2] at h
            rw [if_neg k1, if_neg k2] at k
            rw [if_neg (by omega), if_neg (by omega)]
            exact cmpNums_trans x y z h k

/-- A right text. -/
def Ok (s : ByteArray) : Prop := ∃ l, runes s.data.toList = some l
theorem ok_key {s : ByteArray} (h : keyN s = 0) : Ok s := by
  unfold keyN at h
  cases hr : runes s.data.toList with
  | none => rw [hr] at h; cases h
  | some l => exact ⟨l, hr⟩
theorem compare_swap {a b : ByteArray} (ha : Ok a) (hb : Ok b) : compare b a = - compare a b := by
  obtain ⟨x, hx⟩ := ha
  obtain ⟨y, hy⟩ := hb
  unfold compare
  rw [hx, hy]
  exact cmpNums_swap x y
theorem compare_zero {a b : ByteArray} (ha : Ok a) (hb : Ok b) (h : compare a b = 0) : a = b := by
  obtain ⟨x, hx⟩ := ha
  obtain ⟨y, hy⟩ := hb
  unfold compare at h
  rw [hx, hy] at h
  have e := cmpNums_zero x y h
  subst e
  have e2 := runes_inj _ _ _ _ (Nat.le_refl _) hx hy
  obtain ⟨⟨a⟩⟩ := a
  obtain ⟨⟨b⟩⟩ := b
  exact congrArg (fun l : List UInt8 => (⟨⟨l⟩⟩ : ByteArray)) e2
theorem compare_self {a : ByteArray} (ha : Ok a) : compare a a = 0 := by
  obtain ⟨x, hx⟩ := ha
  unfold compare
  rw [hx]
  exact cmpNums_self x
theorem compare_trans {a b c : ByteArray} (ha : Ok a) (hb : Ok b) (hc : Ok c) (h : compare a b < 0) (k : compare b c < 0) : compare a c < 0 := by
  obtain ⟨x, hx⟩ := ha
  obtain ⟨y, hy⟩ := hb
  obtain ⟨z, hz⟩ := hc
  unfold compare at h k ⊢
  rw [hx, hy] at h
  rw [hy, hz] at k
  rw [hx, hz]
  exact cmpNums_trans x y z h k
theorem cmpNums_vals : ∀ (x y : List Nat), cmpNums x y = -1 ∨ cmpNums x y = 0 ∨ cmpNums x y = 1
  | [], [] => .inr (.inl rfl)
  | [], _ :: _ => .inl rfl
  | _ :: _, [] => .inr (.inr rfl)
  | a :: x, b :: y => by
    unfold cmpNums
    by_cases h1 : a < b
    · rw [if_pos h1]; exact .inl rfl
    · by_cases h2 : b < a
      · rw [if_neg h1, if_pos h2]; exact .inr (.inr rfl)
      · rw [if_neg h1, if_neg h2]; exact cmpNums_vals x y
theorem compare_vals (a b : ByteArray) : compare a b = -1 ∨ compare a b = 0 ∨ compare a b = 1 := by
  unfold compare
  split
  · exact cmpNums_vals _ _
  · exact .inr (.inl rfl)

end Pl
end Go.Proofs.YtapchoppcaacdaaGreatDoor
