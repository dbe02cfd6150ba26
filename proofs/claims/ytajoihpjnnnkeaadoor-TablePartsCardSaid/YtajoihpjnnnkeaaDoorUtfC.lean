/- Plain: a text's runes from a place on, in the decoder's own words. No program in sight. -/
import Derived.Test.YtajoihpjnnnkeaaDoorUtf
import Derived.Test.YtajoihpjnnnkeaaDoorUtfB
set_option linter.unusedVariables false
namespace Go.Proofs.YtajoihpjnnnkeaaDoor.Pl

def suf (s : ByteArray) (p : Nat) : List UInt8 := s.data.toList.drop p
def runesAt (s : ByteArray) (p : Nat) : Option (List Nat) := runes (suf s p)

theorem suf_length (s : ByteArray) (p : Nat) : (suf s p).length = s.size - p := by
  simp [suf]
theorem suf_get (s : ByteArray) (p k : Nat) : (suf s p).getD k 0 = s.get! (p + k) := by
  unfold suf
  rw [List.getD_eq_getElem?_getD, List.getElem?_drop]
  by_cases h : p + k < s.size
  · have h' : p + k < s.data.toList.length := by simpa using h
    rw [List.getElem?_eq_getElem h']
    simp [ByteArray.get!]
    rw [getElem!_pos s.data (p + k) (by simpa using h)]
  · have h' : ¬ p + k < s.data.toList.length := by simpa using h
    rw [List.getElem?_eq_none (by omega)]
    simp [ByteArray.get!]
    rw [getElem!_neg s.data (p + k) (by simpa using h)]
    rfl
theorem step1_at (s : ByteArray) (p : Nat) : step1 (suf s p) = if Utf8.decode s p = (65533, 1) then none else some (Utf8.decode s p) := by
  have e : Lib.decodeN (suf s p).length ((suf s p).getD 0 0).toNat ((suf s p).getD 1 0).toNat ((suf s p).getD 2 0).toNat ((suf s p).getD 3 0).toNat = Utf8.decode s p := by
    rw [Lib.decode_at, suf_length, suf_get, suf_get, suf_get, suf_get]
    rfl
  unfold step1
  rw [e]
theorem step1_enc' (l : List UInt8) (hl : l ≠ []) (d : Nat × Nat) (h : step1 l = some d) : l = enc d.1 ++ l.drop d.2 ∧ d.2 = (enc d.1).length ∧ good d.1 := by
  obtain ⟨c, w⟩ := d
  exact step1_enc l hl c w h
theorem step1_pos' (l : List UInt8) (hl : l ≠ []) (d : Nat × Nat) (h : step1 l = some d) : 0 < d.2 ∧ d.2 ≤ l.length := by
  obtain ⟨c, w⟩ := d
  exact step1_pos l hl c w h
theorem suf_drop (s : ByteArray) (p k : Nat) : (suf s p).drop k = suf s (p + k) := by
  unfold suf
  rw [List.drop_drop]
theorem suf_ne (s : ByteArray) (p : Nat) (h : p < s.size) : suf s p ≠ [] := by
  intro e
  have := congrArg List.length e
  rw [suf_length] at this
  simp at this
  omega
theorem runesAt_step (s : ByteArray) (p : Nat) (h : p < s.size) :
    runesAt s p = if Utf8.decode s p = (65533, 1) then none else (runesAt s (p + (Utf8.decode s p).2)).map ((Utf8.decode s p).1 :: ·) := by
  unfold runesAt
  rw [runes_step _ (suf_ne s p h), step1_at]
  split
  · rfl
  · simp only [Option.bind_some]
    rw [suf_drop]
theorem runesAt_end (s : ByteArray) (p : Nat) (h : ¬ p < s.size) : runesAt s p = some [] := by
  unfold runesAt
  have : suf s p = [] := List.eq_nil_of_length_eq_zero (by rw [suf_length]; omega)
  rw [this, runes_nil]
theorem runesAt_zero (s : ByteArray) : runesAt s 0 = runes s.data.toList := rfl

/-- A text is right. -/
def right (s : ByteArray) : Bool := (runes s.data.toList).isSome

def mark : ByteArray := ⟨#[239, 191, 189]⟩

theorem ext_toList (s : ByteArray) (a b : Nat) : (s.extract a b).data.toList = (s.data.toList.take b).drop a := by
  rw [ByteArray.data_extract, Array.toList_extract, List.extract_eq_take_drop, List.take_drop]
  by_cases h : a ≤ b
  · rw [show a + (b - a) = b by omega]
  · have e1 : (List.take (a + (b - a)) s.data.toList).drop a = [] := by
      rw [List.drop_eq_nil_iff, List.length_take]; omega
    have e2 : (List.take b s.data.toList).drop a = [] := by
      rw [List.drop_eq_nil_iff, List.length_take]; omega
    rw [e1, e2]
theorem ext_suf (s : ByteArray) (p k : Nat) : (s.extract p (p + k)).data.toList = (suf s p).take k := by
  rw [ext_toList, suf, List.take_drop]

/-- U+FFFD, told by the decoder: three bytes wide just where the mark stands. -/
theorem mark_iff (s : ByteArray) (p : Nat) (h : p < s.size) (hc : (Utf8.decode s p).1 = 65533) :
    (Utf8.decode s p ≠ (65533, 1)) ↔ ((s.extract p (p + 3)).data.toList = [239, 191, 189]) := by
  rw [ext_suf]
  constructor
  · intro hne
    have e := step1_at s p
    rw [if_neg hne] at e
    obtain ⟨e1, e2, e3⟩ := step1_enc' (suf s p) (suf_ne s p h) _ e
    rw [hc] at e1
    rw [e1]
    rfl
  · intro hm e
    have hl : 3 ≤ (suf s p).length := by
      have := congrArg List.length hm
      rw [List.length_take] at this
      simp at this
      omega
    have g : ∀ k, k < 3 → (suf s p).getD k 0 = [239, 191, 189].getD k 0 := by
      intro k hk
      rw [← hm, List.getD_eq_getElem?_getD, List.getD_eq_getElem?_getD, List.getElem?_take, if_pos hk]
    have g0 := g 0 (by omega)
    have g1 := g 1 (by omega)
    have g2 := g 2 (by omega)
    have d := Lib.decode_at s p
    rw [suf_get] at g0 g1 g2
    rw [suf_length] at hl
    simp only [Nat.add_zero, List.getD_cons_zero, List.getD_cons_succ] at g0 g1 g2
    rw [g0, g1, g2, e] at d
    simp only [Lib.decodeN] at d
    rw [if_neg (by decide), if_neg (fun hh => absurd hh.1 (by decide)), if_pos (by refine ⟨by decide, ⟨by omega, by decide⟩, by omega, by decide⟩), if_pos (by decide)] at d
    simp at d
theorem mark_short (s : ByteArray) (p : Nat) (h : s.size - p < 3) : ¬ ((s.extract p (p + 3)).data.toList = [239, 191, 189]) := by
  intro hm
  rw [ext_suf] at hm
  have := congrArg List.length hm
  rw [List.length_take, suf_length] at this
  simp at this
  omega
theorem width_le (s : ByteArray) (p : Nat) (h : p < s.size) (hne : Utf8.decode s p ≠ (65533, 1)) : p + (Utf8.decode s p).2 ≤ s.size := by
  have e := step1_at s p
  rw [if_neg hne] at e
  have := step1_pos' (suf s p) (suf_ne s p h) _ e
  rw [suf_length] at this
  omega
end Go.Proofs.YtajoihpjnnnkeaaDoor.Pl
