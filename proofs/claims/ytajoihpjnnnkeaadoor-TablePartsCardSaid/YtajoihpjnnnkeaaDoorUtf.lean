/- Plain: texts of runes: UTF-8's encoding keeps the order: bytes compare as runes do. No program in sight. -/
import Derived.Lib.DecodeN
import GoSem.Op.String
set_option linter.unusedVariables false
namespace Go.Proofs.YtajoihpjnnnkeaaDoor.Pl
/-- The head of a text: its rune and its width; none where it is not UTF-8. -/
def step1 (l : List UInt8) : Option (Nat × Nat) :=
  if (Lib.decodeN l.length (l.getD 0 0).toNat (l.getD 1 0).toNat (l.getD 2 0).toNat (l.getD 3 0).toNat) = (65533, 1) then none
  else some (Lib.decodeN l.length (l.getD 0 0).toNat (l.getD 1 0).toNat (l.getD 2 0).toNat (l.getD 3 0).toNat)

def enc (c : Nat) : List UInt8 :=
  if c < 128 then [UInt8.ofNat c]
  else if c < 2048 then [UInt8.ofNat (192 + c / 64), UInt8.ofNat (128 + c % 64)]
  else if c < 65536 then [UInt8.ofNat (224 + c / 4096), UInt8.ofNat (128 + c / 64 % 64), UInt8.ofNat (128 + c % 64)]
  else [UInt8.ofNat (240 + c / 262144), UInt8.ofNat (128 + c / 4096 % 64), UInt8.ofNat (128 + c / 64 % 64), UInt8.ofNat (128 + c % 64)]

def good (c : Nat) : Prop := c < 55296 ∨ (57344 ≤ c ∧ c ≤ 1114111)

theorem ofNat_eq (u : UInt8) (n : Nat) (h : u.toNat = n) : u = UInt8.ofNat n := by
  subst h; simp

/-- The numbers alone. -/
theorem decodeN_some (n b0 b1 b2 b3 c w : Nat) (h0 : b0 < 256) (h1 : b1 < 256) (h2 : b2 < 256) (h3 : b3 < 256) (hn : 0 < n)
    (h : Lib.decodeN n b0 b1 b2 b3 = (c, w)) (hne : (c, w) ≠ (65533, 1)) :
    good c ∧ w ≤ n ∧ ((c < 128 ∧ w = 1 ∧ b0 = c) ∨ (128 ≤ c ∧ c < 2048 ∧ w = 2 ∧ b0 = 192 + c / 64 ∧ b1 = 128 + c % 64) ∨
      (2048 ≤ c ∧ c < 65536 ∧ w = 3 ∧ b0 = 224 + c / 4096 ∧ b1 = 128 + c / 64 % 64 ∧ b2 = 128 + c % 64) ∨
      (65536 ≤ c ∧ w = 4 ∧ b0 = 240 + c / 262144 ∧ b1 = 128 + c / 4096 % 64 ∧ b2 = 128 + c / 64 % 64 ∧ b3 = 128 + c % 64)) := by
  unfold Lib.decodeN at h
  unfold good
  split at h
  · simp only [Prod.mk.injEq] at h
    omega
  · split at h
    · split at h
      · simp only [Prod.mk.injEq] at h
        omega
      · exact absurd h.symm hne
    · split at h
      · split at h
        · simp only [Prod.mk.injEq] at h
          omega
        · exact absurd h.symm hne
      · split at h
        · split at h
          · simp only [Prod.mk.injEq] at h
            omega
          · exact absurd h.symm hne
        · exact absurd h.symm hne

theorem step1_enc (l : List UInt8) (hl : l ≠ []) (c w : Nat) (h : step1 l = some (c, w)) : l = enc c ++ l.drop w ∧ w = (enc c).length ∧ good c := by
  unfold step1 at h
  split at h
  · cases h
  · next hne =>
    have hp : 0 < l.length := List.length_pos_iff.2 hl
    simp only [Option.some.injEq] at h
    rw [h] at hne
    obtain ⟨hg, hw, hc⟩ := decodeN_some _ _ _ _ _ c w (UInt8.toNat_lt _) (UInt8.toNat_lt _) (UInt8.toNat_lt _) (UInt8.toNat_lt _) hp h hne
    refine ⟨?_, ?_, hg⟩
    · rcases hc with ⟨h1, rfl, e0⟩ | ⟨h1, h2, rfl, e0, e1⟩ | ⟨h1, h2, rfl, e0, e1, e2⟩ | ⟨h1, rfl, e0, e1, e2, e3⟩
      · match l, hw with
        | a :: t, _ =>
          simp at e0
          rw [enc, if_pos h1, ← e0]; simp
      · match l, hw with
        | a :: b :: t, _ => 
          simp at e0 e1
          rw [enc, if_neg (by omega), if_pos h2, ← e0, ← e1]; simp
      · match l, hw with
        | a :: b :: d :: t, _ => 
          simp at e0 e1 e2
          rw [enc, if_neg (by omega), if_neg (by omega), if_pos h2, ← e0, ← e1, ← e2]; simp
      · match l, hw with
        | a :: b :: d :: e :: t, _ => 
          simp at e0 e1 e2 e3
          rw [enc, if_neg (by omega), if_neg (by omega), if_neg (by omega), ← e0, ← e1, ← e2, ← e3]; simp
    · unfold enc
      rcases hc with ⟨h1, rfl, e0⟩ | ⟨h1, h2, rfl, e0, e1⟩ | ⟨h1, h2, rfl, e0, e1, e2⟩ | ⟨h1, rfl, e0, e1, e2, e3⟩
      · rw [if_pos h1]; rfl
      · rw [if_neg (by omega), if_pos h2]; rfl
      · rw [if_neg (by omega), if_neg (by omega), if_pos h2]; rfl
      · rw [if_neg (by omega), if_neg (by omega), if_neg (by omega)]; rfl

theorem lt_iff (a b : Nat) (ha : a < 256) (hb : b < 256) : (UInt8.ofNat a < UInt8.ofNat b) = (a < b) := by
  rw [UInt8.lt_iff_toNat_lt]; simp; rw [Nat.mod_eq_of_lt ha, Nat.mod_eq_of_lt hb]
theorem eq_iff (a b : Nat) (ha : a < 256) (hb : b < 256) : (UInt8.ofNat a = UInt8.ofNat b) = (a = b) := by
  apply propext
  rw [← UInt8.toNat_inj]; simp; rw [Nat.mod_eq_of_lt ha, Nat.mod_eq_of_lt hb]

/-- The first bytes that part decide: a rule for one place. -/
theorem bytesLess_cons (a b : Nat) (ha : a < 256) (hb : b < 256) (x y : List UInt8) :
    Op.bytesLess (UInt8.ofNat a :: x) (UInt8.ofNat b :: y) = if a < b then true else if a = b then Op.bytesLess x y else false := by
  simp only [Op.bytesLess]
  by_cases h1 : a < b
  · simp [h1, lt_iff a b ha hb]
  · by_cases h2 : a = b
    · subst h2; simp
    · have e1 : decide (UInt8.ofNat a < UInt8.ofNat b) = false := by rw [decide_eq_false_iff_not, lt_iff a b ha hb]; exact h1
      have e2 : (UInt8.ofNat a == UInt8.ofNat b) = false := by rw [beq_eq_false_iff_ne, Ne, eq_iff a b ha hb]; exact h2
      rw [e1, e2, if_neg h1, if_neg h2]; rfl

set_option maxRecDepth 100000 in
theorem enc_lt (c d : Nat) (hc : good c) (hd : good d) (x y : List UInt8) :
    Op.bytesLess (enc c ++ x) (enc d ++ y) = if c < d then true else if c = d then Op.bytesLess x y else false := by
  unfold good at hc hd
  by_cases hcd : c = d
  · subst hcd
    unfold enc
    split
    · simp only [List.cons_append, List.nil_append]
      rw [bytesLess_cons _ _ (by omega) (by omega)]; simp
    · split
      · simp only [List.cons_append, List.nil_append]
        rw [bytesLess_cons _ _ (by omega) (by omega), bytesLess_cons _ _ (by omega) (by omega)]; simp
      · split
        · simp only [List.cons_append, List.nil_append]
          rw [bytesLess_cons _ _ (by omega) (by omega), bytesLess_cons _ _ (by omega) (by omega), bytesLess_cons _ _ (by omega) (by omega)]; simp
        · simp only [List.cons_append, List.nil_append]
          rw [bytesLess_cons _ _ (by omega) (by omega), bytesLess_cons _ _ (by omega) (by omega), bytesLess_cons _ _ (by omega) (by omega), bytesLess_cons _ _ (by omega) (by omega)]; simp
  · unfold enc
    by_cases c1 : c < 128
    all_goals by_cases d1 : d < 128
    all_goals by_cases c2 : c < 2048
    all_goals by_cases d2 : d < 2048
    all_goals by_cases c3 : c < 65536
    all_goals by_cases d3 : d < 65536
    all_goals first
      | (exfalso; omega)
      | (simp only [c1, d1, c2, d2, c3, d3, if_true, if_false, List.cons_append, List.nil_append, hcd]
         repeat (rw [bytesLess_cons _ _ (by omega) (by omega)])
         repeat' split
         all_goals first | rfl | (exfalso; omega))

/-- A text's runes; none of one that is not UTF-8. -/
def runesF : Nat → List UInt8 → Option (List Nat)
  | 0, _ => some []
  | n + 1, l => if l = [] then some [] else (step1 l).bind fun p => (runesF n (l.drop p.2)).map (p.1 :: ·)
def runes (l : List UInt8) : Option (List Nat) := runesF l.length l

theorem step1_pos (l : List UInt8) (hl : l ≠ []) (c w : Nat) (h : step1 l = some (c, w)) : 0 < w ∧ w ≤ l.length := by
  obtain ⟨h1, h2, _⟩ := step1_enc l hl c w h
  have e : 0 < (enc c).length := by
    unfold enc
    repeat' split
    all_goals simp
  have := congrArg List.length h1
  simp at this
  have hp : 0 < l.length := List.length_pos_iff.2 hl
  omega

theorem runesF_fuel : ∀ (n m : Nat) (l : List UInt8), l.length ≤ n → l.length ≤ m → runesF n l = runesF m l := by
  intro n
  induction n with
  | zero =>
    intro m l hn _
    have : l = [] := List.eq_nil_of_length_eq_zero (by omega)
    subst this
    cases m <;> simp [runesF]
  | succ n ih =>
    intro m l hn hm
    cases m with
    | zero =>
      have : l = [] := List.eq_nil_of_length_eq_zero (by omega)
      subst this
      simp [runesF]
    | succ m =>
      unfold runesF
      by_cases hl : l = []
      · simp [hl]
      · simp only [hl, if_false]
        cases h : step1 l with
        | none => rfl
        | some p =>
          obtain ⟨c, w⟩ := p
          have hp := step1_pos l hl c w h
          simp only [Option.bind_some]
          rw [ih m (l.drop w) (by simp; omega) (by simp; omega)]

theorem runes_nil : runes [] = some [] := rfl
theorem runes_step (l : List UInt8) (hl : l ≠ []) : runes l = (step1 l).bind fun p => (runes (l.drop p.2)).map (p.1 :: ·) := by
  have hp : 0 < l.length := List.length_pos_iff.2 hl
  unfold runes
  obtain ⟨n, hn⟩ : ∃ n, l.length = n + 1 := ⟨l.length - 1, by omega⟩
  rw [hn, runesF, if_neg hl]
  cases h : step1 l with
  | none => rfl
  | some p =>
    obtain ⟨c, w⟩ := p
    have hp := step1_pos l hl c w h
    simp only [Option.bind_some]
    rw [runesF_fuel n (l.drop w).length (l.drop w) (by simp; omega) (Nat.le_refl _)]

/-- Lists of numbers, as a dictionary has them. -/
def numLess : List Nat → List Nat → Bool
  | _, [] => false
  | [], _ :: _ => true
  | a :: x, b :: y => if a < b then true else if a = b then numLess x y else false

theorem less_runes : ∀ (n : Nat) (a b : List UInt8) (x y : List Nat), a.length ≤ n → runes a = some x → runes b = some y → Op.bytesLess a b = numLess x y := by
  intro n
  induction n with
  | zero =>
    intro a b x y hn ha hb
    have : a = [] := List.eq_nil_of_length_eq_zero (by omega)
    subst this
    rw [runes_nil] at ha
    cases ha
    cases b with
    | nil => rw [runes_nil] at hb; cases hb; rfl
    | cons u t =>
      rw [runes_step _ (by simp)] at hb
      cases h : step1 (u :: t) with
      | none => rw [h] at hb; cases hb
      | some p =>
        rw [h] at hb
        simp only [Option.bind_some, Option.map_eq_some_iff] at hb
        obtain ⟨z, _, rfl⟩ := hb
        rfl
  | succ n ih =>
    intro a b x y hn ha hb
    by_cases ea : a = []
    · subst ea
      rw [runes_nil] at ha
      cases ha
      cases b with
      | nil => rw [runes_nil] at hb; cases hb; rfl
      | cons u t =>
        rw [runes_step _ (by simp)] at hb
        cases h : step1 (u :: t) with
        | none => rw [h] at hb; cases hb
        | some p =>
          rw [h] at hb
          simp only [Option.bind_some, Option.map_eq_some_iff] at hb
          obtain ⟨z, _, rfl⟩ := hb
          rfl
    · rw [runes_step _ ea] at ha
      cases h : step1 a with
      | none => rw [h] at ha; cases ha
      | some p =>
        obtain ⟨c, w⟩ := p
        rw [h] at ha
        simp only [Option.bind_some, Option.map_eq_some_iff] at ha
        obtain ⟨z, hz, rfl⟩ := ha
        obtain ⟨e1, e2, e3⟩ := step1_enc a ea c w h
        have hp := step1_pos a ea c w h
        by_cases eb : b = []
        · subst eb
          rw [runes_nil] at hb
          cases hb
          cases a <;> rfl
        · rw [runes_step _ eb] at hb
          cases h' : step1 b with
          | none => rw [h'] at hb; cases hb
          | some p' =>
            obtain ⟨c', w'⟩ := p'
            rw [h'] at hb
            simp only [Option.bind_some, Option.map_eq_some_iff] at hb
            obtain ⟨z', hz', rfl⟩ := hb
            obtain ⟨e1', e2', e3'⟩ := step1_enc b eb c' w' h'
            rw [e1, e1', enc_lt c c' e3 e3']
            unfold numLess
            rw [ih (a.drop w) (b.drop w') z z' (by simp; omega) hz hz']

theorem runes_inj : ∀ (n : Nat) (a b : List UInt8) (x : List Nat), a.length ≤ n → runes a = some x → runes b = some x → a = b := by
  intro n
  induction n with
  | zero =>
    intro a b x hn ha hb
    have : a = [] := List.eq_nil_of_length_eq_zero (by omega)
    subst this
    rw [runes_nil] at ha
    cases ha
    cases b with
    | nil => rfl
    | cons u t =>
      rw [runes_step _ (by simp)] at hb
      cases h : step1 (u :: t) with
      | none => rw [h] at hb; cases hb
      | some p =>
        rw [h] at hb
        simp at hb
  | succ n ih =>
    intro a b x hn ha hb
    by_cases ea : a = []
    · subst ea
      rw [runes_nil] at ha
      cases ha
      cases b with
      | nil => rfl
      | cons u t =>
        rw [runes_step _ (by simp)] at hb
        cases h : step1 (u :: t) with
        | none => rw [h] at hb; cases hb
        | some p =>
          rw [h] at hb
          simp at hb
    · rw [runes_step _ ea] at ha
      cases h : step1 a with
      | none => rw [h] at ha; cases ha
      | some p =>
        obtain ⟨c, w⟩ := p
        rw [h] at ha
        simp only [Option.bind_some, Option.map_eq_some_iff] at ha
        obtain ⟨z, hz, rfl⟩ := ha
        obtain ⟨e1, e2, e3⟩ := step1_enc a ea c w h
        have hp := step1_pos a ea c w h
        by_cases eb : b = []
        · subst eb
          rw [runes_nil] at hb
          cases hb
        · rw [runes_step _ eb] at hb
          cases h' : step1 b with
          | none => rw [h'] at hb; cases hb
          | some p' =>
            obtain ⟨c', w'⟩ := p'
            rw [h'] at hb
            simp only [Option.bind_some, Option.map_eq_some_iff] at hb
            obtain ⟨z', hz', hzz⟩ := hb
            simp only [List.cons.injEq] at hzz
            obtain ⟨rfl, rfl⟩ := hzz
            obtain ⟨e1', e2', e3'⟩ := step1_enc b eb c' w' h'
            rw [e1, e1', ih (a.drop w) (b.drop w') z' (by simp; omega) hz hz']
end Go.Proofs.YtajoihpjnnnkeaaDoor.Pl
