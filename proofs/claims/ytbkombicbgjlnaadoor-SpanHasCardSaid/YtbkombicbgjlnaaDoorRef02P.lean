/- Plain: one round of the document's reading of UTF-8, way by way. No program in sight. -/
import Derived.Test.YtbkombicbgjlnaaDoorUtfC
set_option linter.unusedVariables false
namespace Go.Proofs.YtbkombicbgjlnaaDoor.Pl

def byteAt (s : ByteArray) (p : Nat) : Nat := (s.get! p).toNat
theorem byteAt_lt (s : ByteArray) (p : Nat) : byteAt s p < 256 := UInt8.toNat_lt _
theorem byteAt_eq (s : ByteArray) (q : Nat) (h : q < s.size) : byteAt s q = (s[q]'h).toNat := by
  unfold byteAt
  congr 1
  simp [ByteArray.get!, getElem!_pos, h]
  rfl

theorem step_ref (s : ByteArray) (p : Nat) (hp : p < s.size) : step1 (suf s p) = ref1 (s.size - p) (byteAt s p) (byteAt s (p + 1)) (byteAt s (p + 2)) (byteAt s (p + 3)) := by
  rw [step1_at, Lib.decode_at, ref1_eq _ _ _ _ _ (by omega) (byteAt_lt _ _) (byteAt_lt _ _) (byteAt_lt _ _) (byteAt_lt _ _)]
  rfl

theorem lead1 (b : Nat) (h : b < 128) : leadN b = some (1, 0, b) := by unfold leadN; rw [if_pos h]
theorem lead2 (b : Nat) (h : 192 ≤ b) (h2 : b < 224) : leadN b = some (2, 128, b - 192) := by unfold leadN; rw [if_neg (by omega), if_pos ⟨h, h2⟩]
theorem lead3 (b : Nat) (h : 224 ≤ b) (h2 : b < 240) : leadN b = some (3, 2048, b - 224) := by unfold leadN; rw [if_neg (by omega), if_neg (by omega), if_pos ⟨h, h2⟩]
theorem lead4 (b : Nat) (h : 240 ≤ b) (h2 : b < 248) : leadN b = some (4, 65536, b - 240) := by unfold leadN; rw [if_neg (by omega), if_neg (by omega), if_neg (by omega), if_pos ⟨h, h2⟩]
theorem lead0 (b : Nat) (h : 128 ≤ b ∧ b < 192 ∨ 248 ≤ b) : leadN b = none := by unfold leadN; rw [if_neg (by omega), if_neg (by omega), if_neg (by omega), if_neg (by omega)]

theorem r_none (s : ByteArray) (p : Nat) (hp : p < s.size) (h : leadN (byteAt s p) = none) : step1 (suf s p) = none := by
  rw [step_ref s p hp, ref1, h]; rfl
theorem r_short (s : ByteArray) (p : Nat) (hp : p < s.size) (k l c : Nat) (h : leadN (byteAt s p) = some (k, l, c)) (hs : s.size - p < k) : step1 (suf s p) = none := by
  rw [step_ref s p hp, ref1, h]
  simp only [Option.bind_some]
  rw [if_pos hs]
theorem r_one (s : ByteArray) (p : Nat) (hp : p < s.size) (l c : Nat) (h : leadN (byteAt s p) = some (1, l, c)) (hs : ¬ s.size - p < 1) :
    step1 (suf s p) = if fitsN l c then some (c, 1) else none := by
  rw [step_ref s p hp, ref1, h]
  simp only [Option.bind_some]
  rw [if_neg hs, if_pos trivial]
theorem r_b1 (s : ByteArray) (p : Nat) (hp : p < s.size) (k l c : Nat) (h : leadN (byteAt s p) = some (k, l, c)) (hk : k ≠ 1) (hm : moreN (byteAt s (p + 1)) = false) : step1 (suf s p) = none := by
  rw [step_ref s p hp, ref1, h]
  simp only [Option.bind_some]
  by_cases hs : s.size - p < k
  · rw [if_pos hs]
  · rw [if_neg hs, if_neg hk, hm]; rfl
theorem r_two (s : ByteArray) (p : Nat) (hp : p < s.size) (l c : Nat) (h : leadN (byteAt s p) = some (2, l, c)) (hs : ¬ s.size - p < 2) (hm : moreN (byteAt s (p + 1)) = true) :
    step1 (suf s p) = if fitsN l (c * 64 + byteAt s (p + 1) - 128) then some (c * 64 + byteAt s (p + 1) - 128, 2) else none := by
  rw [step_ref s p hp, ref1, h]
  simp only [Option.bind_some]
  rw [if_neg hs, if_neg (by decide), hm]; rfl
theorem r_b2 (s : ByteArray) (p : Nat) (hp : p < s.size) (k l c : Nat) (h : leadN (byteAt s p) = some (k, l, c)) (hk : k ≠ 1) (hk2 : k ≠ 2) (hm : moreN (byteAt s (p + 2)) = false) : step1 (suf s p) = none := by
  cases hm1 : moreN (byteAt s (p + 1)) with
  | false => exact r_b1 s p hp k l c h hk hm1
  | true =>
    rw [step_ref s p hp, ref1, h]
    simp only [Option.bind_some]
    by_cases hs : s.size - p < k
    · rw [if_pos hs]
    · rw [if_neg hs, if_neg hk, hm1, if_neg (by decide), if_neg hk2, hm]; rfl
theorem r_three (s : ByteArray) (p : Nat) (hp : p < s.size) (l c : Nat) (h : leadN (byteAt s p) = some (3, l, c)) (hs : ¬ s.size - p < 3) (hm : moreN (byteAt s (p + 1)) = true) (hm2 : moreN (byteAt s (p + 2)) = true) :
    step1 (suf s p) = if fitsN l ((c * 64 + byteAt s (p + 1) - 128) * 64 + byteAt s (p + 2) - 128) then some ((c * 64 + byteAt s (p + 1) - 128) * 64 + byteAt s (p + 2) - 128, 3) else none := by
  rw [step_ref s p hp, ref1, h]
  simp only [Option.bind_some]
  rw [if_neg hs, if_neg (by decide), hm, if_neg (by decide), if_neg (by decide), hm2]; rfl
theorem r_b3 (s : ByteArray) (p : Nat) (hp : p < s.size) (l c : Nat) (h : leadN (byteAt s p) = some (4, l, c)) (hm : moreN (byteAt s (p + 3)) = false) : step1 (suf s p) = none := by
  cases hm1 : moreN (byteAt s (p + 1)) with
  | false => exact r_b1 s p hp 4 l c h (by decide) hm1
  | true =>
    cases hm2 : moreN (byteAt s (p + 2)) with
    | false => exact r_b2 s p hp 4 l c h (by decide) (by decide) hm2
    | true =>
      rw [step_ref s p hp, ref1, h]
      simp only [Option.bind_some]
      by_cases hs : s.size - p < 4
      · rw [if_pos hs]
      · rw [if_neg hs, if_neg (by decide), hm1, if_neg (by decide), if_neg (by decide), hm2, if_neg (by decide), if_neg (by decide), hm]; rfl
theorem r_four (s : ByteArray) (p : Nat) (hp : p < s.size) (l c : Nat) (h : leadN (byteAt s p) = some (4, l, c)) (hs : ¬ s.size - p < 4) (hm : moreN (byteAt s (p + 1)) = true) (hm2 : moreN (byteAt s (p + 2)) = true) (hm3 : moreN (byteAt s (p + 3)) = true) :
    step1 (suf s p) = if fitsN l (((c * 64 + byteAt s (p + 1) - 128) * 64 + byteAt s (p + 2) - 128) * 64 + byteAt s (p + 3) - 128) then some (((c * 64 + byteAt s (p + 1) - 128) * 64 + byteAt s (p + 2) - 128) * 64 + byteAt s (p + 3) - 128, 4) else none := by
  rw [step_ref s p hp, ref1, h]
  simp only [Option.bind_some]
  rw [if_neg hs, if_neg (by decide), hm, if_neg (by decide), if_neg (by decide), hm2, if_neg (by decide), if_neg (by decide), hm3]; rfl

/-- What a step leaves to read. -/
theorem next_none (s : ByteArray) (p : Nat) (hp : p < s.size) (r : List Nat) (h : runes s.data.toList = (runesAt s p).map (r ++ ·)) (hs : step1 (suf s p) = none) : runes s.data.toList = none := by
  rw [h]
  unfold runesAt
  rw [runes_step _ (suf_ne s p hp), hs]; rfl
theorem next_some (s : ByteArray) (p : Nat) (hp : p < s.size) (r : List Nat) (h : runes s.data.toList = (runesAt s p).map (r ++ ·)) (c k : Nat) (hs : step1 (suf s p) = some (c, k)) :
    runes s.data.toList = (runesAt s (p + k)).map ((r ++ [c]) ++ ·) ∧ p + k ≤ s.size ∧ 1 ≤ k := by
  have hw := step1_pos' (suf s p) (suf_ne s p hp) (c, k) hs
  rw [suf_length] at hw
  refine ⟨?_, by simp at hw; omega, by simp at hw; omega⟩
  rw [h]
  unfold runesAt
  rw [runes_step _ (suf_ne s p hp), hs]
  simp only [Option.bind_some, Option.map_map]
  rw [suf_drop]
  congr 1
  funext x
  simp
theorem done_some (s : ByteArray) (p : Nat) (hp : ¬ p < s.size) (r : List Nat) (h : runes s.data.toList = (runesAt s p).map (r ++ ·)) : runes s.data.toList = some r := by
  rw [h, runesAt_end s p hp]; simp
end Go.Proofs.YtbkombicbgjlnaaDoor.Pl
