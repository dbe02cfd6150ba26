/- Plain: the document's reading of UTF-8, byte by byte, is the decoder's. No program in sight. -/
import Derived.Lib.DecodeN
set_option linter.unusedVariables false
namespace Go.Proofs.YtajoihpjnnnkeaaDoor.Pl
/-- tidewaterref02.Runes, one round: the number of bytes, the least number, the lead's own bits. -/
def leadN (c : Nat) : Option (Nat × Nat × Nat) :=
  if c < 128 then some (1, 0, c) else if 192 ≤ c ∧ c < 224 then some (2, 128, c - 192) else if 224 ≤ c ∧ c < 240 then some (3, 2048, c - 224) else if 240 ≤ c ∧ c < 248 then some (4, 65536, c - 240) else none
def fitsN (least c : Nat) : Bool := !(decide (c < least) || decide (1114111 < c) || (decide (55296 ≤ c) && decide (c ≤ 57343)))
def moreN (d : Nat) : Bool := decide (128 ≤ d) && decide (d ≤ 191)

def ref1 (n b0 b1 b2 b3 : Nat) : Option (Nat × Nat) :=
  (leadN b0).bind fun p =>
    if n < p.1 then none else
    if p.1 = 1 then (if fitsN p.2.1 p.2.2 then some (p.2.2, 1) else none) else
    if !moreN b1 then none else
    if p.1 = 2 then (if fitsN p.2.1 (p.2.2 * 64 + b1 - 128) then some (p.2.2 * 64 + b1 - 128, 2) else none) else
    if !moreN b2 then none else
    if p.1 = 3 then (if fitsN p.2.1 ((p.2.2 * 64 + b1 - 128) * 64 + b2 - 128) then some ((p.2.2 * 64 + b1 - 128) * 64 + b2 - 128, 3) else none) else
    if !moreN b3 then none else
    (if fitsN p.2.1 (((p.2.2 * 64 + b1 - 128) * 64 + b2 - 128) * 64 + b3 - 128) then some (((p.2.2 * 64 + b1 - 128) * 64 + b2 - 128) * 64 + b3 - 128, 4) else none)

theorem decL (P : Nat × Nat) (Q : Option (Nat × Nat)) {D : Nat × Nat} (h : D = P) (h2 : Q = if P = (65533, 1) then none else some P) : Q = if D = (65533, 1) then none else some D := by
  rw [h]; exact h2
theorem someP (c w : Nat) (hw : w ≠ 1) : (some (c, w) : Option (Nat × Nat)) = if (c, w) = (65533, 1) then none else some (c, w) := by
  rw [if_neg (by intro h; simp only [Prod.mk.injEq] at h; exact hw h.2)]
theorem noneP : (none : Option (Nat × Nat)) = if ((65533, 1) : Nat × Nat) = (65533, 1) then none else some (65533, 1) := by
  rw [if_pos rfl]
theorem fits_iff (l c : Nat) : fitsN l c = decide (l ≤ c ∧ (c < 55296 ∨ (57344 ≤ c ∧ c ≤ 1114111))) := by
  unfold fitsN
  rw [Bool.eq_iff_iff]; simp; omega
theorem more_iff (d : Nat) (h : d < 256) : moreN d = decide (d / 64 = 2) := by
  unfold moreN
  rw [Bool.eq_iff_iff]; simp; omega

set_option maxRecDepth 100000 in
set_option maxHeartbeats 4000000 in
theorem ref1_eq (n b0 b1 b2 b3 : Nat) (hn : 0 < n) (h0 : b0 < 256) (h1 : b1 < 256) (h2 : b2 < 256) (h3 : b3 < 256) :
    ref1 n b0 b1 b2 b3 = if Lib.decodeN n b0 b1 b2 b3 = (65533, 1) then none else some (Lib.decodeN n b0 b1 b2 b3) := by
  unfold ref1 leadN
  simp only [fits_iff, more_iff b1 h1, more_iff b2 h2, more_iff b3 h3]
  by_cases c0 : b0 < 128
  · refine decL (b0, 1) _ (by unfold Lib.decodeN; rw [if_pos c0]) ?_
    rw [if_pos c0]
    simp only [Option.bind_some]
    rw [if_neg (show ¬ n < 1 by omega), if_pos trivial, if_pos (by simp; omega), if_neg (by intro h; simp only [Prod.mk.injEq] at h; omega)]
  · by_cases c1 : 192 ≤ b0 ∧ b0 < 224
    · rw [if_neg c0, if_pos c1]
      simp only [Option.bind_some]
      by_cases m1 : 1 < n ∧ b1 / 64 = 2
      · rw [if_neg (show ¬ n < 2 by omega), if_neg (show ¬ (2 = 1) by omega), show decide (b1 / 64 = 2) = true by simp [m1.2]]
        have e : (b0 - 192) * 64 + b1 - 128 = b0 % 32 * 64 + b1 % 64 := by omega
        rw [e]
        by_cases f : b0 % 32 * 64 + b1 % 64 ≥ 128
        · refine decL (b0 % 32 * 64 + b1 % 64, 2) _ (by unfold Lib.decodeN; rw [if_neg c0, if_pos (by omega), if_pos f]) ?_
          rw [← someP _ _ (by omega)]
          simp; omega
        · refine decL (65533, 1) _ (by unfold Lib.decodeN; rw [if_neg c0, if_pos (by omega), if_neg f]) ?_
          rw [← noneP]
          simp; omega
      · refine decL (65533, 1) _ (by unfold Lib.decodeN; rw [if_neg c0, if_neg (by omega), if_neg (by omega), if_neg (by omega)]) ?_
        rw [← noneP]
        by_cases hn2 : n < 2
        · rw [if_pos hn2]
        · rw [if_neg hn2, if_neg (show ¬ (2 = 1) by omega), show decide (b1 / 64 = 2) = false by simp; omega]; rfl
    · by_cases c2 : 224 ≤ b0 ∧ b0 < 240
      · rw [if_neg c0, if_neg c1, if_pos c2]
        simp only [Option.bind_some]
        by_cases m1 : (1 < n ∧ b1 / 64 = 2) ∧ (2 < n ∧ b2 / 64 = 2)
        · rw [if_neg (show ¬ n < 3 by omega), if_neg (show ¬ (3 = 1) by omega), show decide (b1 / 64 = 2) = true by simp [m1.1.2], if_neg (show ¬ (3 = 2) by omega), show decide (b2 / 64 = 2) = true by simp [m1.2.2]]
          have e : ((b0 - 224) * 64 + b1 - 128) * 64 + b2 - 128 = b0 % 16 * 4096 + b1 % 64 * 64 + b2 % 64 := by omega
          rw [e]
          by_cases f : b0 % 16 * 4096 + b1 % 64 * 64 + b2 % 64 ≥ 2048 ∧ (b0 % 16 * 4096 + b1 % 64 * 64 + b2 % 64 < 55296 ∨ (57344 ≤ b0 % 16 * 4096 + b1 % 64 * 64 + b2 % 64 ∧ b0 % 16 * 4096 + b1 % 64 * 64 + b2 % 64 ≤ 1114111))
          · refine decL (b0 % 16 * 4096 + b1 % 64 * 64 + b2 % 64, 3) _ (by unfold Lib.decodeN; rw [if_neg c0, if_neg (by omega), if_pos (by omega), if_pos f]) ?_
            rw [← someP _ _ (by omega), decide_eq_true (show 2048 ≤ _ ∧ _ from f)]
            rfl
          · refine decL (65533, 1) _ (by unfold Lib.decodeN; rw [if_neg c0, if_neg (by omega), if_pos (by omega), if_neg f]) ?_
            rw [← noneP, decide_eq_false (show ¬ (2048 ≤ _ ∧ _) from f)]
            rfl
        · refine decL (65533, 1) _ (by unfold Lib.decodeN; rw [if_neg c0, if_neg (by omega), if_neg (by omega), if_neg (by omega)]) ?_
          rw [← noneP]
          by_cases hn2 : n < 3
          · rw [if_pos hn2]
          · rw [if_neg hn2, if_neg (show ¬ (3 = 1) by omega)]
            by_cases q1 : b1 / 64 = 2
            · rw [decide_eq_true q1, decide_eq_false (show ¬ b2 / 64 = 2 by omega)]; simp
            · rw [decide_eq_false q1]; rfl
      · by_cases c3 : 240 ≤ b0 ∧ b0 < 248
        · rw [if_neg c0, if_neg c1, if_neg c2, if_pos c3]
          simp only [Option.bind_some]
          by_cases m1 : (1 < n ∧ b1 / 64 = 2) ∧ (2 < n ∧ b2 / 64 = 2) ∧ (3 < n ∧ b3 / 64 = 2)
          · rw [if_neg (show ¬ n < 4 by omega), if_neg (show ¬ (4 = 1) by omega), show decide (b1 / 64 = 2) = true by simp [m1.1.2], if_neg (show ¬ (4 = 2) by omega), show decide (b2 / 64 = 2) = true by simp [m1.2.1.2], if_neg (show ¬ (4 = 3) by omega), show decide (b3 / 64 = 2) = true by simp [m1.2.2.2]]
            have e : (((b0 - 240) * 64 + b1 - 128) * 64 + b2 - 128) * 64 + b3 - 128 = b0 % 8 * 262144 + b1 % 64 * 4096 + b2 % 64 * 64 + b3 % 64 := by omega
            rw [e]
            by_cases f : b0 % 8 * 262144 + b1 % 64 * 4096 + b2 % 64 * 64 + b3 % 64 ≥ 65536 ∧ (b0 % 8 * 262144 + b1 % 64 * 4096 + b2 % 64 * 64 + b3 % 64 < 55296 ∨ (57344 ≤ b0 % 8 * 262144 + b1 % 64 * 4096 + b2 % 64 * 64 + b3 % 64 ∧ b0 % 8 * 262144 + b1 % 64 * 4096 + b2 % 64 * 64 + b3 % 64 ≤ 1114111))
            · refine decL (b0 % 8 * 262144 + b1 % 64 * 4096 + b2 % 64 * 64 + b3 % 64, 4) _ (by unfold Lib.decodeN; rw [if_neg c0, if_neg (by omega), if_neg (by omega), if_pos (by omega), if_pos f]) ?_
              rw [← someP _ _ (by omega), decide_eq_true (show 65536 ≤ _ ∧ _ from f)]
              rfl
            · refine decL (65533, 1) _ (by unfold Lib.decodeN; rw [if_neg c0, if_neg (by omega), if_neg (by omega), if_pos (by omega), if_neg f]) ?_
              rw [← noneP, decide_eq_false (show ¬ (65536 ≤ _ ∧ _) from f)]
              rfl
          · refine decL (65533, 1) _ (by unfold Lib.decodeN; rw [if_neg c0, if_neg (by omega), if_neg (by omega), if_neg (by omega)]) ?_
            rw [← noneP]
            by_cases hn2 : n < 4
            · rw [if_pos hn2]
            · rw [if_neg hn2, if_neg (show ¬ (4 = 1) by omega)]
              by_cases q1 : b1 / 64 = 2
              · by_cases q2 : b2 / 64 = 2
                · rw [decide_eq_true q1, decide_eq_true q2, decide_eq_false (show ¬ b3 / 64 = 2 by omega)]; simp
                · rw [decide_eq_true q1, decide_eq_false q2]; simp
              · rw [decide_eq_false q1]; rfl
        · refine decL (65533, 1) _ (by unfold Lib.decodeN; rw [if_neg c0, if_neg (by omega), if_neg (by omega), if_neg (by omega)]) ?_
          rw [← noneP, if_neg c0, if_neg c1, if_neg c2, if_neg c3]
          rfl
end Go.Proofs.YtajoihpjnnnkeaaDoor.Pl
