/- Utf, Runes1: one text. -/
import Derived.Lib.DecodeN
import GoSem.Op.String
import Derived.Test.YtgfibdkeaicnfaaGreatDoorFinClientNewQ1
set_option linter.unusedVariables false
namespace Go.Proofs.YtgfibdkeaicnfaaGreatDoor.Pl
def step1 (l : List UInt8) : Option (Nat × Nat) :=
  if (Lib.decodeN l.length (l.getD 0 0).toNat (l.getD 1 0).toNat (l.getD 2 0).toNat (l.getD 3 0).toNat) = (65533, 1) then none
  else some (Lib.decodeN l.length (l.getD 0 0).toNat (l.getD 1 0).toNat (l.getD 2 0).toNat (l.getD 3 0).toNat)
def enc (c : Nat) : List UInt8 :=
  if c < 128 then [UInt8.ofNat c]
  else if c < 2048 then [UInt8.ofNat (192 + c / 64), UInt8.ofNat (128 + c % 64)]
  else if c < 65536 then [UInt8.ofNat (224 + c / 4096), UInt8.ofNat (128 + c / 64 % 64), UInt8.ofNat (128 + c % 64)]
  else [UInt8.ofNat (240 + c / 262144), UInt8.ofNat (128 + c / 4096 % 64), UInt8.ofNat (128 + c / 64 % 64), UInt8.ofNat (128 + c % 64)]
def good (c : Nat) : Prop := c < 55296 ∨ (57344 ≤ c ∧ c ≤ 1114111)
theorem decodeN_some (n b0 b1 b2 b3 c w : Nat) (h0 : b0 < 256) (h1 : b1 < 256) (h2 : b2 < 256) (h3 : b3 < 256) (hn : 0 < n)
    (h : Lib.decodeN n b0 b1 b2 b3 = (c, w)) (hne : (c, w) ≠ (65533, 1)) :
    good c ∧ w ≤ n ∧ ((c < 128 ∧ w = 1 ∧ b0 = c) ∨ (128 ≤ c ∧ c < 2048 ∧ w = 2 ∧ b0 = 192 + c / 64 ∧ b1 = 128 + c % 64) ∨
      (2048 ≤ c ∧ c < 65536 ∧ w = 3 ∧ b0 = 224 + c / 4096 ∧ b1 = 128 + c / 64 % 64 ∧ b2 = 128 + c % 64) ∨
      (65536 ≤ c ∧ w = 4 ∧ b0 = 240 + c / 262144 ∧ b1 = 128 + c / 4096 % 64 ∧ b2 = 128 + c / 64 % 64 ∧ b3 = 128 + c % 64)) := by
  unfold Lib.decodeN at h
  unfold good
  split at h
  · simp only [Prod.mk.injEq] at h
    omega
  · split at h
    · split at h
      · simp only [Prod.mk.injEq] at h
        omega
      · exact absurd h.symm hne
    · split at h
      · split at h
        · simp only [Prod.mk.injEq] at h
          omega
        · exact absurd h.symm hne
      · split at h
        · split at h
          · simp only [Prod.mk.injEq] at h
            omega
          · exact absurd h.symm hne
        · exact absurd h.symm hne
theorem step1_enc (l : List UInt8) (hl : l ≠ []) (c w : Nat) (h : step1 l = some (c, w)) : l = enc c ++ l.drop w ∧ w = (enc c).length ∧ good c := by
  unfold step1 at h
  split at h
  · cases h
  · next hne =>
    have hp : 0 < l.length := List.length_pos_iff.2 hl
    simp only [Option.some.injEq] at h
    rw [h] at hne
    obtain ⟨hg, hw, hc⟩ := decodeN_some _ _ _ _ _ c w (UInt8.toNat_lt _) (UInt8.toNat_lt _) (UInt8.toNat_lt _) (UInt8.toNat_lt _) hp h hne
    refine ⟨?_, ?_, hg⟩
    · rcases hc with ⟨h1, rfl, e0⟩ | ⟨h1, h2, rfl, e0, e1⟩ | ⟨h1, h2, rfl, e0, e1, e2⟩ | ⟨h1, rfl, e0, e1, e2, e3⟩
      · match l, hw with
        | a :: t, _ =>
          simp at e0
          rw [enc, if_pos h1, ← e0]; simp
      · match l, hw with
        | a :: b :: t, _ => 
          simp at e0 e1
          rw [enc, if_neg (by omega), if_pos h2, ← e0, ← e1]; simp
      · match l, hw with
        | a :: b :: d :: t, _ => 
          simp at e0 e1 e2
          rw [enc, if_neg (by omega), if_neg (by omega), if_pos h2, ← e0, ← e1, ← e2]; simp
      · match l, hw with
        | a :: b :: d :: e :: t, _ => 
          simp at e0 e1 e2 e3
          rw [enc, if_neg (by omega), if_neg (by omega), if_neg (by omega), ← e0, ← e1, ← e2, ← e3]; simp
    · unfold enc
      rcases hc with ⟨h1, rfl, e0⟩ | ⟨h1, h2, rfl, e0, e1⟩ | ⟨h1, h2, rfl, e0, e1, e2⟩ | ⟨h1, rfl, e0, e1, e2, e3⟩
      · rw [if_pos h1]; rfl
      · rw [if_neg (by omega), if_pos h2]; rfl
      · rw [if_neg (by omega), if_neg (by omega), if_pos h2]; rfl
      · rw [if_neg (by omega), if_neg (by omega), if_neg (by omega)]; rfl
def runesF : Nat → List UInt8 → Option (List Nat)
  | 0, _ => some []
  | n + 1, l => if l = [] then some [] else (step1 l).bind fun p => (runesF n (l.drop p.2)).map (p.1 :: ·)
def runes (l : List UInt8) : Option (List Nat) := runesF l.length l
theorem step1_pos (l : List UInt8) (hl : l ≠ []) (c w : Nat) (h : step1 l = some (c, w)) : 0 < w ∧ w ≤ l.length := by
  obtain ⟨h1, h2, _⟩ := step1_enc l hl c w h
  have e : 0 < (enc c).length := by
    unfold enc
    repeat' split
    all_goals simp
  have := congrArg List.length h1
  simp at this
  have hp : 0 < l.length := List.length_pos_iff.2 hl
  omega
theorem runesF_fuel : ∀ (n m : Nat) (l : List UInt8), l.length ≤ n → l.length ≤ m → runesF n l = runesF m l := by
  intro n
  induction n with
  | zero =>
    intro m l hn _
    have : l = [] := List.eq_nil_of_length_eq_zero (by omega)
    subst this
    cases m <;> simp [runesF]
  | succ n ih =>
    intro m l hn hm
    cases m with
    | zero =>
      have : l = [] := List.eq_nil_of_length_eq_zero (by omega)
      subst this
      simp [runesF]
    | succ m =>
      unfold runesF
      by_cases hl : l = []
      · simp [hl]
      · simp only [hl, if_false]
        cases h : step1 l with
        | none => rfl
        | some p =>
          obtain ⟨c, w⟩ := p
          have hp := step1_pos l hl c w h
          simp only [Option.bind_some]
          rw [ih m (l.drop w) (by simp; omega) (by simp; omega)]
theorem runes_nil : runes [] = some [] := rfl
theorem runes_step (l : List UInt8) (hl : l ≠ []) : runes l = (step1 l).bind fun p => (runes (l.drop p.2)).map (p.1 :: ·) := by
  have hp : 0 < l.length := List.length_pos_iff.2 hl
  unfold runes
  obtain ⟨n, hn⟩ : ∃ n, l.length = n + 1 := ⟨l.length - 1, by omega⟩
  rw [hn, runesF, if_neg hl]
  cases h : step1 l with
  | none => rfl
  | some p =>
    obtain ⟨c, w⟩ := p
    have hp := step1_pos l hl c w h
    simp only [Option.bind_some]
    rw [runesF_fuel n (l.drop w).length (l.drop w) (by simp; omega) (Nat.le_refl _)]
end Go.Proofs.YtgfibdkeaicnfaaGreatDoor.Pl
namespace Go.Proofs.YtgfibdkeaicnfaaGreatDoor.Pl
def leadN (c : Nat) : Option (Nat × Nat × Nat) :=
  if c < 128 then some (1, 0, c) else if 192 ≤ c ∧ c < 224 then some (2, 128, c - 192) else if 224 ≤ c ∧ c < 240 then some (3, 2048, c - 224) else if 240 ≤ c ∧ c < 248 then some (4, 65536, c - 240) else none
def fitsN (least c : Nat) : Bool := !(decide (c < least) || decide (1114111 < c) || (decide (55296 ≤ c) && decide (c ≤ 57343)))
def moreN (d : Nat) : Bool := decide (128 ≤ d) && decide (d ≤ 191)
def ref1 (n b0 b1 b2 b3 : Nat) : Option (Nat × Nat) :=
  (leadN b0).bind fun p =>
    if n < p.1 then none else
    if p.1 = 1 then (if fitsN p.2.1 p.2.2 then some (p.2.2, 1) else none) else
    if !moreN b1 then none else
    if p.1 = 2 then (if fitsN p.2.1 (p.2.2 * 64 + b1 - 128) then some (p.2.2 * 64 + b1 - 128, 2) else none) else
    if !moreN b2 then none else
    if p.1 = 3 then (if fitsN p.2.1 ((p.2.2 * 64 + b1 - 128) * 64 + b2 - 128) then some ((p.2.2 * 64 + b1 - 128) * 64 + b2 - 128, 3) else none) else
    if !moreN b3 then none else
    (if fitsN p.2.1 (((p.2.2 * 64 + b1 - 128) * 64 + b2 - 128) * 64 + b3 - 128) then some (((p.2.2 * 64 + b1 - 128) * 64 + b2 - 128) * 64 + b3 - 128, 4) else none)
theorem decL (P : Nat × Nat) (Q : Option (Nat × Nat)) {D : Nat × Nat} (h : D = P) (h2 : Q = if P = (65533, 1) then none else some P) : Q = if D = (65533, 1) then none else some D := by
  rw [h]; exact h2
theorem someP (c w : Nat) (hw : w ≠ 1) : (some (c, w) : Option (Nat × Nat)) = if (c, w) = (65533, 1) then none else some (c, w) := by
  rw [if_neg (by intro h; simp only [Prod.mk.injEq] at h; exact hw h.2)]
theorem noneP : (none : Option (Nat × Nat)) = if ((65533, 1) : Nat × Nat) = (65533, 1) then none else some (65533, 1) := by
  rw [if_pos rfl]
theorem fits_iff (l c : Nat) : fitsN l c = decide (l ≤ c ∧ (c < 55296 ∨ (57344 ≤ c ∧ c ≤ 1114111))) := by
  unfold fitsN
  rw [Bool.eq_iff_iff]; simp; omega
theorem more_iff (d : Nat) (h : d < 256) : moreN d = decide (d / 64 = 2) := by
  unfold moreN
  rw [Bool.eq_iff_iff]; simp; omega
set_option maxRecDepth 100000 in
set_option maxHeartbeats 4000000 in
theorem ref1_eq (n b0 b1 b2 b3 : Nat) (hn : 0 < n) (h0 : b0 < 256) (h1 : b1 < 256) (h2 : b2 < 256) (h3 : b3 < 256) :
    ref1 n b0 b1 b2 b3 = if Lib.decodeN n b0 b1 b2 b3 = (65533, 1) then none else some (Lib.decodeN n b0 b1 b2 b3) := by
  unfold ref1 leadN
  simp only [fits_iff, more_iff b1 h1, more_iff b2 h2, more_iff b3 h3]
  by_cases c0 : b0 < 128
  · refine decL (b0, 1) _ (by unfold Lib.decodeN; rw [if_pos c0]) ?_
    rw [if_pos c0]
    simp only [Option.bind_some]
    rw [if_neg (show ¬ n < 1 by omega), if_pos trivial, if_pos (by simp; omega), if_neg (by intro h; simp only [Prod.mk.injEq] at h; omega)]
  · by_cases c1 : 192 ≤ b0 ∧ b0 < 224
    · rw [if_neg c0, if_pos c1]
      simp only [Option.bind_some]
      by_cases m1 : 1 < n ∧ b1 / 64 = 2
      · rw [if_neg (show ¬ n < 2 by omega), if_neg (show ¬ (2 = 1) by omega), show decide (b1 / 64 = 2) = true by simp [m1.2]]
        have e : (b0 - 192) * 64 + b1 - 128 = b0 % 32 * 64 + b1 % 64 := by omega
        rw [e]
        by_cases f : b0 % 32 * 64 + b1 % 64 ≥ 128
        · refine decL (b0 % 32 * 64 + b1 % 64, 2) _ (by unfold Lib.decodeN; rw [if_neg c0, if_pos (by omega), if_pos f]) ?_
          rw [← someP _ _ (by omega)]
          simp; omega
        · refine decL (65533, 1) _ (by unfold Lib.decodeN; rw [if_neg c0, if_pos (by omega), if_neg f]) ?_
          rw [← noneP]
          simp; omega
      · refine decL (65533, 1) _ (by unfold Lib.decodeN; rw [if_neg c0, if_neg (by omega), if_neg (by omega), if_neg (by omega)]) ?_
        rw [← noneP]
        by_cases hn2 : n < 2
        · rw [if_pos hn2]
        · rw [if_neg hn2, if_neg (show ¬ (2 = 1) by omega), show decide (b1 / 64 = 2) = false by simp; omega]; rfl
    · by_cases c2 : 224 ≤ b0 ∧ b0 < 240
      · rw [if_neg c0, if_neg c1, if_pos c2]
        simp only [Option.bind_some]
        by_cases m1 : (1 < n ∧ b1 / 64 = 2) ∧ (2 < n ∧ b2 / 64 = 2)
        · rw [if_neg (show ¬ n < 3 by omega), if_neg (show ¬ (3 = 1) by omega), show decide (b1 / 64 = 2) = true by simp [m1.1.2], if_neg (show ¬ (3 = 2) by omega), show decide (b2 / 64 = 2) = true by simp [m1.2.2]]
          have e : ((b0 - 224) * 64 + b1 - 128) * 64 + b2 - 128 = b0 % 16 * 4096 + b1 % 64 * 64 + b2 % 64 := by omega
          rw [e]
          by_cases f : b0 % 16 * 4096 + b1 % 64 * 64 + b2 % 64 ≥ 2048 ∧ (b0 % 16 * 4096 + b1 % 64 * 64 + b2 % 64 < 55296 ∨ (57344 ≤ b0 % 16 * 4096 + b1 % 64 * 64 + b2 % 64 ∧ b0 % 16 * 4096 + b1 % 64 * 64 + b2 % 64 ≤ 1114111))
          · refine decL (b0 % 16 * 4096 + b1 % 64 * 64 + b2 % 64, 3) _ (by unfold Lib.decodeN; rw [if_neg c0, if_neg (by omega), if_pos (by omega), if_pos f]) ?_
            rw [← someP _ _ (by omega), decide_eq_true (show 2048 ≤ _ ∧ _ from f)]
            rfl
          · refine decL (65533, 1) _ (by unfold Lib.decodeN; rw [if_neg c0, if_neg (by omega), if_pos (by omega), if_neg f]) ?_
            rw [← noneP, decide_eq_false (show ¬ (2048 ≤ _ ∧ _) from f)]
            rfl
        · refine decL (65533, 1) _ (by unfold Lib.decodeN; rw [if_neg c0, if_neg (by omega), if_neg (by omega), if_neg (by omega)]) ?_
          rw [← noneP]
          by_cases hn2 : n < 3
          · rw [if_pos hn2]
          · rw [if_neg hn2, if_neg (show ¬ (3 = 1) by omega)]
            by_cases q1 : b1 / 64 = 2
            · rw [decide_eq_true q1, decide_eq_false (show ¬ b2 / 64 = 2 by omega)]; simp
            · rw [decide_eq_false q1]; rfl
      · by_cases c3 : 240 ≤ b0 ∧ b0 < 248
        · rw [if_neg c0, if_neg c1, if_neg c2, if_pos c3]
          simp only [Option.bind_some]
          by_cases m1 : (1 < n ∧ b1 / 64 = 2) ∧ (2 < n ∧ b2 / 64 = 2) ∧ (3 < n ∧ b3 / 64 = 2)
          · rw [if_neg (show ¬ n < 4 by omega), if_neg (show ¬ (4 = 1) by omega), show decide (b1 / 64 = 2) = true by simp [m1.1.2], if_neg (show ¬ (4 = 2) by omega), show decide (b2 / 64 = 2) = true by simp [m1.2.1.2], if_neg (show ¬ (4 = 3) by omega), show decide (b3 / 64 = 2) = true by simp [m1.2.2.2]]
            have e : (((b0 - 240) * 64 + b1 - 128) * 64 + b2 - 128) * 64 + b3 - 128 = b0 % 8 * 262144 + b1 % 64 * 4096 + b2 % 64 * 64 + b3 % 64 := by omega
            rw [e]
            by_cases f : b0 % 8 * 262144 + b1 % 64 * 4096 + b2 % 64 * 64 + b3 % 64 ≥ 65536 ∧ (b0 % 8 * 262144 + b1 % 64 * 4096 + b2 % 64 * 64 + b3 % 64 < 55296 ∨ (57344 ≤ b0 % 8 * 262144 + b1 % 64 * 4096 + b2 % 64 * 64 + b3 % 64 ∧ b0 % 8 * 262144 + b1 % 64 * 4096 + b2 % 64 * 64 + b3 % 64 ≤ 1114111))
            · refine decL (b0 % 8 * 262144 + b1 % 64 * 4096 + b2 % 64 * 64 + b3 % 64, 4) _ (by unfold Lib.decodeN; rw [if_neg c0, if_neg (by omega), if_neg (by omega), if_pos (by omega), if_pos f]) ?_
              rw [← someP _ _ (by omega), decide_eq_true (show 65536 ≤ _ ∧ _ from f)]
              rfl
            · refine decL (65533, 1) _ (by unfold Lib.decodeN; rw [if_neg c0, if_neg (by omega), if_neg (by omega), if_pos (by omega), if_neg f]) ?_
              rw [← noneP, decide_eq_false (show ¬ (65536 ≤ _ ∧ _) from f)]
              rfl
          · refine decL (65533, 1) _ (by unfold Lib.decodeN; rw [if_neg c0, if_neg (by omega), if_neg (by omega), if_neg (by omega)]) ?_
            rw [← noneP]
            by_cases hn2 : n < 4
            · rw [if_pos hn2]
            · rw [if_neg hn2, if_neg (show ¬ (4 = 1) by omega)]
              by_cases q1 : b1 / 64 = 2
              · by_cases q2 : b2 / 64 = 2
                · rw [decide_eq_true q1, decide_eq_true q2, decide_eq_false (show ¬ b3 / 64 = 2 by omega)]; simp
                · rw [decide_eq_true q1, decide_eq_false q2]; simp
              · rw [decide_eq_false q1]; rfl
        · refine decL (65533, 1) _ (by unfold Lib.decodeN; rw [if_neg c0, if_neg (by omega), if_neg (by omega), if_neg (by omega)]) ?_
          rw [← noneP, if_neg c0, if_neg c1, if_neg c2, if_neg c3]
          rfl
end Go.Proofs.YtgfibdkeaicnfaaGreatDoor.Pl
namespace Go.Proofs.YtgfibdkeaicnfaaGreatDoor.Pl
def suf (s : ByteArray) (p : Nat) : List UInt8 := s.data.toList.drop p
def runesAt (s : ByteArray) (p : Nat) : Option (List Nat) := runes (suf s p)
theorem suf_length (s : ByteArray) (p : Nat) : (suf s p).length = s.size - p := by
  simp [suf]
theorem suf_get (s : ByteArray) (p k : Nat) : (suf s p).getD k 0 = s.get! (p + k) := by
  unfold suf
  rw [List.getD_eq_getElem?_getD, List.getElem?_drop]
  by_cases h : p + k < s.size
  · have h' : p + k < s.data.toList.length := by simpa using h
    rw [List.getElem?_eq_getElem h']
    simp [ByteArray.get!]
    rw [getElem!_pos s.data (p + k) (by simpa using h)]
  · have h' : ¬ p + k < s.data.toList.length := by simpa using h
    rw [List.getElem?_eq_none (by omega)]
    simp [ByteArray.get!]
    rw [getElem!_neg s.data (p + k) (by simpa using h)]
    rfl
theorem step1_at (s : ByteArray) (p : Nat) : step1 (suf s p) = if Utf8.decode s p = (65533, 1) then none else some (Utf8.decode s p) := by
  have e : Lib.decodeN (suf s p).length ((suf s p).getD 0 0).toNat ((suf s p).getD 1 0).toNat ((suf s p).getD 2 0).toNat ((suf s p).getD 3 0).toNat = Utf8.decode s p := by
    rw [Lib.decode_at, suf_length, suf_get, suf_get, suf_get, suf_get]
    rfl
  unfold step1
  rw [e]
theorem step1_enc' (l : List UInt8) (hl : l ≠ []) (d : Nat × Nat) (h : step1 l = some d) : l = enc d.1 ++ l.drop d.2 ∧ d.2 = (enc d.1).length ∧ good d.1 := by
  obtain ⟨c, w⟩ := d
  exact step1_enc l hl c w h
theorem step1_pos' (l : List UInt8) (hl : l ≠ []) (d : Nat × Nat) (h : step1 l = some d) : 0 < d.2 ∧ d.2 ≤ l.length := by
  obtain ⟨c, w⟩ := d
  exact step1_pos l hl c w h
theorem suf_drop (s : ByteArray) (p k : Nat) : (suf s p).drop k = suf s (p + k) := by
  unfold suf
  rw [List.drop_drop]
theorem suf_ne (s : ByteArray) (p : Nat) (h : p < s.size) : suf s p ≠ [] := by
  intro e
  have := congrArg List.length e
  rw [suf_length] at this
  simp at this
  omega
theorem runesAt_step (s : ByteArray) (p : Nat) (h : p < s.size) :
    runesAt s p = if Utf8.decode s p = (65533, 1) then none else (runesAt s (p + (Utf8.decode s p).2)).map ((Utf8.decode s p).1 :: ·) := by
  unfold runesAt
  rw [runes_step _ (suf_ne s p h), step1_at]
  split
  · rfl
  · simp only [Option.bind_some]
    rw [suf_drop]
theorem runesAt_end (s : ByteArray) (p : Nat) (h : ¬ p < s.size) : runesAt s p = some [] := by
  unfold runesAt
  have : suf s p = [] := List.eq_nil_of_length_eq_zero (by rw [suf_length]; omega)
  rw [this, runes_nil]
theorem runesAt_zero (s : ByteArray) : runesAt s 0 = runes s.data.toList := rfl
def right (s : ByteArray) : Bool := (runes s.data.toList).isSome
def mark : ByteArray := ⟨#[239, 191, 189]⟩
theorem ext_toList (s : ByteArray) (a b : Nat) : (s.extract a b).data.toList = (s.data.toList.take b).drop a := by
  rw [ByteArray.data_extract, Array.toList_extract, List.extract_eq_take_drop, List.take_drop]
  by_cases h : a ≤ b
  · rw [show a + (b - a) = b by omega]
  · have e1 : (List.take (a + (b - a)) s.data.toList).drop a = [] := by
      rw [List.drop_eq_nil_iff, List.length_take]; omega
    have e2 : (List.take b s.data.toList).drop a = [] := by
      rw [List.drop_eq_nil_iff, List.length_take]; omega
    rw [e1, e2]
theorem ext_suf (s : ByteArray) (p k : Nat) : (s.extract p (p + k)).data.toList = (suf s p).take k := by
  rw [ext_toList, suf, List.take_drop]
theorem mark_iff (s : ByteArray) (p : Nat) (h : p < s.size) (hc : (Utf8.decode s p).1 = 65533) :
    (Utf8.decode s p ≠ (65533, 1)) ↔ ((s.extract p (p + 3)).data.toList = [239, 191, 189]) := by
  rw [ext_suf]
  constructor
  · intro hne
    have e := step1_at s p
    rw [if_neg hne] at e
    obtain ⟨e1, e2, e3⟩ := step1_enc' (suf s p) (suf_ne s p h) _ e
    rw [hc] at e1
    rw [e1]
    rfl
  · intro hm e
    have hl : 3 ≤ (suf s p).length := by
      have := congrArg List.length hm
      rw [List.length_take] at this
      simp at this
      omega
    have g : ∀ k, k < 3 → (suf s p).getD k 0 = [239, 191, 189].getD k 0 := by
      intro k hk
      rw [← hm, List.getD_eq_getElem?_getD, List.getD_eq_getElem?_getD, List.getElem?_take, if_pos hk]
    have g0 := g 0 (by omega)
    have g1 := g 1 (by omega)
    have g2 := g 2 (by omega)
    have d := Lib.decode_at s p
    rw [suf_get] at g0 g1 g2
    rw [suf_length] at hl
    simp only [Nat.add_zero, List.getD_cons_zero, List.getD_cons_succ] at g0 g1 g2
    rw [g0, g1, g2, e] at d
    simp only [Lib.decodeN] at d
    rw [if_neg (by decide), if_neg (fun hh => absurd hh.1 (by decide)), if_pos (by refine ⟨by decide, ⟨by omega, by decide⟩, by omega, by decide⟩), if_pos (by decide)] at d
    simp at d
theorem mark_short (s : ByteArray) (p : Nat) (h : s.size - p < 3) : ¬ ((s.extract p (p + 3)).data.toList = [239, 191, 189]) := by
  intro hm
  rw [ext_suf] at hm
  have := congrArg List.length hm
  rw [List.length_take, suf_length] at this
  simp at this
  omega
theorem width_le (s : ByteArray) (p : Nat) (h : p < s.size) (hne : Utf8.decode s p ≠ (65533, 1)) : p + (Utf8.decode s p).2 ≤ s.size := by
  have e := step1_at s p
  rw [if_neg hne] at e
  have := step1_pos' (suf s p) (suf_ne s p h) _ e
  rw [suf_length] at this
  omega
end Go.Proofs.YtgfibdkeaicnfaaGreatDoor.Pl
namespace Go.Proofs.YtgfibdkeaicnfaaGreatDoor
open Go.RowKit
namespace Pl
theorem bad_right (s : ByteArray) (p : Nat) (hp : p < s.size) (h : (runesAt s p).isSome = right s) (hb : Utf8.decode s p = (65533, 1)) : right s = false := by
  rw [← h, runesAt_step s p hp, if_pos hb]; rfl
theorem next_right (s : ByteArray) (p : Nat) (hp : p < s.size) (h : (runesAt s p).isSome = right s) (hb : Utf8.decode s p ≠ (65533, 1)) :
    (runesAt s (p + (Utf8.decode s p).2)).isSome = right s := by
  rw [← h, runesAt_step s p hp, if_neg hb]; simp
theorem fst_ne (s : ByteArray) (p : Nat) (h : ¬ ((Utf8.decode s p).1 : Int) = 65533) : Utf8.decode s p ≠ (65533, 1) := by
  intro e; rw [e] at h; exact h rfl
end Pl
set_option maxHeartbeats 400000 in
theorem right_any (s : ByteArray) (w : World) (hs : s.size ≤ 140737488351232) :
    Calls Tryz.prog 155 #[.string s] w fun e w' => e = .returned (.bool (Pl.right s)) ∧ ∃ p, w' = w.iter s p := by
  go_enter Tryz.func155, Tryz.ntmps155
  go_wp2
  go_loopw [3, 4] (fun _ _ w' => ∃ p : Nat, w' = w.iter s p ∧ p ≤ s.size ∧ Hid ((Pl.runesAt s p).isSome = Pl.right s)) (fun _ _ w' => s.size - w'.iterPos w.heap.size)
  case atStart => exact ⟨0, rfl, Nat.zero_le _, rfl⟩
  case round =>
    obtain ⟨p, rfl, hle, HR⟩ := hrel
    by_cases hp : p < s.size
    · have hnx : ∀ ty, (Instr.next (.pointer (some ⟨w.heap.size, 0, none⟩)) true ty).run Tryz.prog (w.iter s p) = _ := fun ty => run_next_any w s p ty hp
      have go_on : Utf8.decode s p ≠ (65533, 1) → p + (Utf8.decode s p).2 ≤ s.size ∧ 1 ≤ (Utf8.decode s p).2 ∧ Hid ((Pl.runesAt s (p + (Utf8.decode s p).2)).isSome = Pl.right s) := fun h => by
        have e := Pl.step1_at s p
        rw [if_neg h] at e
        exact ⟨Pl.width_le s p hp h, (Pl.step1_pos' _ (Pl.suf_ne s p hp) _ e).1, Pl.next_right s p hp HR.out h⟩
      have stop : Utf8.decode s p = (65533, 1) → Pl.right s = false := fun h => Pl.bad_right s p hp HR.out h
      have HG := hid go_on
      have HS := hid stop
      clear go_on stop
      go_wp2
      · have h1 : ((Utf8.decode s p).1 : Int) = 65533 := by assumption
        have h2 : (s.size : Int) - p < 3 ∨ (!(s.extract p (p + 3)).toList == [239, 191, 189]) = true := by assumption
        go_ret
        refine ⟨ret_bool ?_, _, rfl⟩
        rw [HS.out]
        refine Classical.byContradiction fun hne => ?_
        have hm := (Pl.mark_iff s p hp (by omega)).1 hne
        rcases h2 with h2 | h2
        · exact Pl.mark_short s p (by omega) hm
        · rw [ByteArray.toList_eq, hm] at h2
          simp at h2
      · have h1 : ((Utf8.decode s p).1 : Int) = 65533 := by assumption
        have h2 : (3 : Int) ≤ s.size - p ∧ (!(s.extract p (p + 3)).toList == [239, 191, 189]) = false := by assumption
        have hne : Utf8.decode s p ≠ (65533, 1) := (Pl.mark_iff s p hp (by omega)).2 (by simpa [ByteArray.toList_eq] using h2.2)
        obtain ⟨g1, g2, g3⟩ := HG.out hne
        go_roundw
        case rel => exact ⟨_, rfl, g1, g3⟩
        case measure => simp; omega
      · have h1 : ((Utf8.decode s p).1 : Int) = 65533 := by assumption
        have h2 : (s.size : Int) - p < 3 := by assumption
        go_ret
        refine ⟨ret_bool ?_, _, rfl⟩
        rw [HS.out]
        refine Classical.byContradiction fun hne => ?_
        exact Pl.mark_short s p (by omega) ((Pl.mark_iff s p hp (by omega)).1 hne)
      · have h1 : ¬ ((Utf8.decode s p).1 : Int) = 65533 := by assumption
        obtain ⟨g1, g2, g3⟩ := HG.out (Pl.fst_ne s p h1)
        go_roundw
        case rel => exact ⟨_, rfl, g1, g3⟩
        case measure => simp; omega
    · have hnx : ∀ ty, (Instr.next (.pointer (some ⟨w.heap.size, 0, none⟩)) true ty).run Tryz.prog (w.iter s p) = _ := fun ty => run_next_end w s p ty hp
      go_wp2
      go_ret
      have e : Pl.right s = true := by rw [← HR.out, Pl.runesAt_end s p hp]; rfl
      exact ⟨ret_bool e.symm, _, rfl⟩
end Go.Proofs.YtgfibdkeaicnfaaGreatDoor
