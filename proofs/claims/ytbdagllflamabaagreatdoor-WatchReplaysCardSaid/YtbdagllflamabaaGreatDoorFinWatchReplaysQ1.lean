/- Kit, Utf: one text. -/
import Derived.Test.YtbdagllflamabaaGreatDoorProg
import Derived.WalkKit
import Derived.WalkSpells
import Derived.WalkLawsBesides
import Derived.Lib.DecodeN
import GoSem.Op.String
namespace Go.Proofs.YtbdagllflamabaaGreatDoor
open Go.RowKit
theorem hid {p : Prop} (h : p) : Hid p := h
theorem ret_int {k : IntKind} {a b : Int} (h : a = b) : Ending.returned (.int k a) = .returned (.int k b) := by rw [h]
theorem ret_bool {a b : Bool} (h : a = b) : Ending.returned (.bool a) = .returned (.bool b) := by rw [h]
theorem ret_val {a b : Value} (h : a = b) : Ending.returned a = .returned b := by rw [h]
theorem bcell {B : Nat} {W w1 : World} (hb : Below B W w1) : (∀ b o, b < B → w1.cell? ⟨b, o, none⟩ = W.cell? ⟨b, o, none⟩) ∧ (∀ b o, b < B → w1.frozen? ⟨b, o, none⟩ = W.frozen? ⟨b, o, none⟩) :=
  ⟨fun b o h => hb.cell (p := ⟨b, o, none⟩) h, fun b o h => hb.frozen (p := ⟨b, o, none⟩) h⟩
def Grew (w w' : World) : Prop := Below w.heap.size w w'
theorem Grew.below {w w' : World} (h : Grew w w') : Below w.heap.size w w' := h
theorem Grew.refl (w : World) : Grew w w := Below.refl _ _
theorem Grew.size {w w' : World} (h : Grew w w') : w.heap.size ≤ w'.heap.size := Below.size h
theorem Grew.trans {a b c : World} (h : Grew a b) (k : Grew b c) : Grew a c := Below.trans h (Below.mono k h.size)
theorem Grew.alloc {a b : World} (h : Grew a b) (o : Obj) : Grew a (b.alloc o) := Below.alloc h h.size o
theorem Grew.drew {a b : World} (h : Grew a b) : Grew a b.drew := Below.drew h
theorem Grew.drewN {a b : World} (h : Grew a b) (n : Nat) : Grew a (b.drewN n) := ⟨h.os, h.tape, h.output, h.size, h.block⟩
theorem Grew.iter {a b : World} (h : Grew a b) (s : ByteArray) (p : Nat) : Grew a (b.iter s p) := h.alloc _
theorem Grew.setCell {a b : World} (h : Grew a b) {p : Addr} (hp : a.heap.size ≤ p.block) (u : Value) : Grew a (b.setCell p u) := Below.setCell h hp u
theorem Grew.cells {a b : World} (h : Grew a b) : (∀ k o, k < a.heap.size → b.cell? ⟨k, o, none⟩ = a.cell? ⟨k, o, none⟩) ∧ (∀ k o, k < a.heap.size → b.frozen? ⟨k, o, none⟩ = a.frozen? ⟨k, o, none⟩) := bcell h
end Go.Proofs.YtbdagllflamabaaGreatDoor
namespace Go.Proofs.YtbdagllflamabaaGreatDoor
def idxI {α : Type} (p : α → Bool) (xs : List α) : Int := match xs.findIdx? p with | some i => (i : Nat) | none => -1
theorem idx_none {α : Type} (p : α → Bool) (xs : List α) (h : xs.all (fun c => !p c) = true) : idxI p xs = -1 := by
  have : xs.findIdx? p = none := by
    rw [List.findIdx?_eq_none_iff]
    intro x hx
    have := List.all_eq_true.1 h x hx
    simpa using this
  unfold idxI; rw [this]
theorem idx_some {α : Type} (p : α → Bool) (xs : List α) (k : Nat) (hk : k < xs.length) (h : (xs.take k).all (fun c => !p c) = true) (hp : p xs[k] = true) : idxI p xs = (k : Nat) := by
  have : xs.findIdx? p = some k := by
    rw [List.findIdx?_eq_some_iff_getElem]
    refine ⟨hk, hp, fun j hj => ?_⟩
    have h2 := List.all_eq_true.1 h xs[j] (by rw [List.mem_take_iff_getElem]; exact ⟨j, by omega, rfl⟩)
    simpa using h2
  unfold idxI; rw [this]
theorem idx_next {α : Type} (p : α → Bool) (xs : List α) (k : Nat) (hk : k < xs.length) (h : (xs.take k).all (fun c => !p c) = true) (hp : p xs[k] = false) : (xs.take (k + 1)).all (fun c => !p c) = true := by
  rw [List.take_succ_eq_append_getElem hk, List.all_append, h]
  simp [hp]
theorem idx_ge {α : Type} (p : α → Bool) (xs : List α) : decide (0 ≤ idxI p xs) = xs.any p := by
  cases hf : xs.findIdx? p with
  | none =>
    rw [List.findIdx?_eq_none_iff] at hf
    have : idxI p xs = -1 := idx_none p xs (List.all_eq_true.2 fun x hx => by simpa using hf x hx)
    rw [this]
    have h2 : xs.any p = false := List.any_eq_false.2 fun x hx => by simpa using hf x hx
    rw [h2]; rfl
  | some i =>
    have : idxI p xs = (i : Nat) := by unfold idxI; rw [hf]
    rw [this]
    obtain ⟨hi, hp, _⟩ := List.findIdx?_eq_some_iff_getElem.1 hf
    have h2 : xs.any p = true := List.any_eq_true.2 ⟨xs[i], List.getElem_mem hi, hp⟩
    rw [h2]; simp
end Go.Proofs.YtbdagllflamabaaGreatDoor
set_option linter.unusedVariables false
namespace Go.Proofs.YtbdagllflamabaaGreatDoor.Pl
def step1 (l : List UInt8) : Option (Nat × Nat) :=
  if (Lib.decodeN l.length (l.getD 0 0).toNat (l.getD 1 0).toNat (l.getD 2 0).toNat (l.getD 3 0).toNat) = (65533, 1) then none
  else some (Lib.decodeN l.length (l.getD 0 0).toNat (l.getD 1 0).toNat (l.getD 2 0).toNat (l.getD 3 0).toNat)
def enc (c : Nat) : List UInt8 :=
  if c < 128 then [UInt8.ofNat c]
  else if c < 2048 then [UInt8.ofNat (192 + c / 64), UInt8.ofNat (128 + c % 64)]
  else if c < 65536 then [UInt8.ofNat (224 + c / 4096), UInt8.ofNat (128 + c / 64 % 64), UInt8.ofNat (128 + c % 64)]
  else [UInt8.ofNat (240 + c / 262144), UInt8.ofNat (128 + c / 4096 % 64), UInt8.ofNat (128 + c / 64 % 64), UInt8.ofNat (128 + c % 64)]
def good (c : Nat) : Prop := c < 55296 ∨ (57344 ≤ c ∧ c ≤ 1114111)
theorem decodeN_some (n b0 b1 b2 b3 c w : Nat) (h0 : b0 < 256) (h1 : b1 < 256) (h2 : b2 < 256) (h3 : b3 < 256) (hn : 0 < n)
    (h : Lib.decodeN n b0 b1 b2 b3 = (c, w)) (hne : (c, w) ≠ (65533, 1)) :
    good c ∧ w ≤ n ∧ ((c < 128 ∧ w = 1 ∧ b0 = c) ∨ (128 ≤ c ∧ c < 2048 ∧ w = 2 ∧ b0 = 192 + c / 64 ∧ b1 = 128 + c % 64) ∨
      (2048 ≤ c ∧ c < 65536 ∧ w = 3 ∧ b0 = 224 + c / 4096 ∧ b1 = 128 + c / 64 % 64 ∧ b2 = 128 + c % 64) ∨
      (65536 ≤ c ∧ w = 4 ∧ b0 = 240 + c / 262144 ∧ b1 = 128 + c / 4096 % 64 ∧ b2 = 128 + c / 64 % 64 ∧ b3 = 128 + c % 64)) := by
  unfold Lib.decodeN at h
  unfold good
  split at h
  · simp only [Prod.mk.injEq] at h
    omega
  · split at h
    · split at h
      · simp only [Prod.mk.injEq] at h
        omega
      · exact absurd h.symm hne
    · split at h
      · split at h
        · simp only [Prod.mk.injEq] at h
          omega
        · exact absurd h.symm hne
      · split at h
        · split at h
          · simp only [Prod.mk.injEq] at h
            omega
          · exact absurd h.symm hne
        · exact absurd h.symm hne
theorem step1_enc (l : List UInt8) (hl : l ≠ []) (c w : Nat) (h : step1 l = some (c, w)) : l = enc c ++ l.drop w ∧ w = (enc c).length ∧ good c := by
  unfold step1 at h
  split at h
  · cases h
  · next hne =>
    have hp : 0 < l.length := List.length_pos_iff.2 hl
    simp only [Option.some.injEq] at h
    rw [h] at hne
    obtain ⟨hg, hw, hc⟩ := decodeN_some _ _ _ _ _ c w (UInt8.toNat_lt _) (UInt8.toNat_lt _) (UInt8.toNat_lt _) (UInt8.toNat_lt _) hp h hne
    refine ⟨?_, ?_, hg⟩
    · rcases hc with ⟨h1, rfl, e0⟩ | ⟨h1, h2, rfl, e0, e1⟩ | ⟨h1, h2, rfl, e0, e1, e2⟩ | ⟨h1, rfl, e0, e1, e2, e3⟩
      · match l, hw with
        | a :: t, _ =>
          simp at e0
          rw [enc, if_pos h1, ← e0]; simp
      · match l, hw with
        | a :: b :: t, _ => 
          simp at e0 e1
          rw [enc, if_neg (by omega), if_pos h2, ← e0, ← e1]; simp
      · match l, hw with
        | a :: b :: d :: t, _ => 
          simp at e0 e1 e2
          rw [enc, if_neg (by omega), if_neg (by omega), if_pos h2, ← e0, ← e1, ← e2]; simp
      · match l, hw with
        | a :: b :: d :: e :: t, _ => 
          simp at e0 e1 e2 e3
          rw [enc, if_neg (by omega), if_neg (by omega), if_neg (by omega), ← e0, ← e1, ← e2, ← e3]; simp
    · unfold enc
      rcases hc with ⟨h1, rfl, e0⟩ | ⟨h1, h2, rfl, e0, e1⟩ | ⟨h1, h2, rfl, e0, e1, e2⟩ | ⟨h1, rfl, e0, e1, e2, e3⟩
      · rw [if_pos h1]; rfl
      · rw [if_neg (by omega), if_pos h2]; rfl
      · rw [if_neg (by omega), if_neg (by omega), if_pos h2]; rfl
      · rw [if_neg (by omega), if_neg (by omega), if_neg (by omega)]; rfl
theorem lt_iff (a b : Nat) (ha : a < 256) (hb : b < 256) : (UInt8.ofNat a < UInt8.ofNat b) = (a < b) := by
  rw [UInt8.lt_iff_toNat_lt]; simp; rw [Nat.mod_eq_of_lt ha, Nat.mod_eq_of_lt hb]
theorem eq_iff (a b : Nat) (ha : a < 256) (hb : b < 256) : (UInt8.ofNat a = UInt8.ofNat b) = (a = b) := by
  apply propext
  rw [← UInt8.toNat_inj]; simp; rw [Nat.mod_eq_of_lt ha, Nat.mod_eq_of_lt hb]
theorem bytesLess_cons (a b : Nat) (ha : a < 256) (hb : b < 256) (x y : List UInt8) :
    Op.bytesLess (UInt8.ofNat a :: x) (UInt8.ofNat b :: y) = if a < b then true else if a = b then Op.bytesLess x y else false := by
  simp only [Op.bytesLess]
  by_cases h1 : a < b
  · simp [h1, lt_iff a b ha hb]
  · by_cases h2 : a = b
    · subst h2; simp
    · have e1 : decide (UInt8.ofNat a < UInt8.ofNat b) = false := by rw [decide_eq_false_iff_not, lt_iff a b ha hb]; exact h1
      have e2 : (UInt8.ofNat a == UInt8.ofNat b) = false := by rw [beq_eq_false_iff_ne, Ne, eq_iff a b ha hb]; exact h2
      rw [e1, e2, if_neg h1, if_neg h2]; rfl
set_option maxRecDepth 100000 in
theorem enc_lt (c d : Nat) (hc : good c) (hd : good d) (x y : List UInt8) :
    Op.bytesLess (enc c ++ x) (enc d ++ y) = if c < d then true else if c = d then Op.bytesLess x y else false := by
  unfold good at hc hd
  by_cases hcd : c = d
  · subst hcd
    unfold enc
    split
    · simp only [List.cons_append, List.nil_append]
      rw [bytesLess_cons _ _ (by omega) (by omega)]; simp
    · split
      · simp only [List.cons_append, List.nil_append]
        rw [bytesLess_cons _ _ (by omega) (by omega), bytesLess_cons _ _ (by omega) (by omega)]; simp
      · split
        · simp only [List.cons_append, List.nil_append]
          rw [bytesLess_cons _ _ (by omega) (by omega), bytesLess_cons _ _ (by omega) (by omega), bytesLess_cons _ _ (by omega) (by omega)]; simp
        · simp only [List.cons_append, List.nil_append]
          rw [bytesLess_cons _ _ (by omega) (by omega), bytesLess_cons _ _ (by omega) (by omega), bytesLess_cons _ _ (by omega) (by omega), bytesLess_cons _ _ (by omega) (by omega)]; simp
  · unfold enc
    by_cases c1 : c < 128
    all_goals by_cases d1 : d < 128
    all_goals by_cases c2 : c < 2048
    all_goals by_cases d2 : d < 2048
    all_goals by_cases c3 : c < 65536
    all_goals by_cases d3 : d < 65536
    all_goals first
      | (exfalso; omega)
      | (simp only [c1, d1, c2, d2, c3, d3, if_true, if_false, List.cons_append, List.nil_append, hcd]
         repeat (rw [bytesLess_cons _ _ (by omega) (by omega)])
         repeat' split
         all_goals first | rfl | (exfalso; omega))
def runesF : Nat → List UInt8 → Option (List Nat)
  | 0, _ => some []
  | n + 1, l => if l = [] then some [] else (step1 l).bind fun p => (runesF n (l.drop p.2)).map (p.1 :: ·)
def runes (l : List UInt8) : Option (List Nat) := runesF l.length l
theorem step1_pos (l : List UInt8) (hl : l ≠ []) (c w : Nat) (h : step1 l = some (c, w)) : 0 < w ∧ w ≤ l.length := by
  obtain ⟨h1, h2, _⟩ := step1_enc l hl c w h
  have e : 0 < (enc c).length := by
    unfold enc
    repeat' split
    all_goals simp
  have := congrArg List.length h1
  simp at this
  have hp : 0 < l.length := List.length_pos_iff.2 hl
  omega
theorem runesF_fuel : ∀ (n m : Nat) (l : List UInt8), l.length ≤ n → l.length ≤ m → runesF n l = runesF m l := by
  intro n
  induction n with
  | zero =>
    intro m l hn _
    have : l = [] := List.eq_nil_of_length_eq_zero (by omega)
    subst this
    cases m <;> simp [runesF]
  | succ n ih =>
    intro m l hn hm
    cases m with
    | zero =>
      have : l = [] := List.eq_nil_of_length_eq_zero (by omega)
      subst this
      simp [runesF]
    | succ m =>
      unfold runesF
      by_cases hl : l = []
      · simp [hl]
      · simp only [hl, if_false]
        cases h : step1 l with
        | none => rfl
        | some p =>
          obtain ⟨c, w⟩ := p
          have hp := step1_pos l hl c w h
          simp only [Option.bind_some]
          rw [ih m (l.drop w) (by simp; omega) (by simp; omega)]
theorem runes_nil : runes [] = some [] := rfl
theorem runes_step (l : List UInt8) (hl : l ≠ []) : runes l = (step1 l).bind fun p => (runes (l.drop p.2)).map (p.1 :: ·) := by
  have hp : 0 < l.length := List.length_pos_iff.2 hl
  unfold runes
  obtain ⟨n, hn⟩ : ∃ n, l.length = n + 1 := ⟨l.length - 1, by omega⟩
  rw [hn, runesF, if_neg hl]
  cases h : step1 l with
  | none => rfl
  | some p =>
    obtain ⟨c, w⟩ := p
    have hp := step1_pos l hl c w h
    simp only [Option.bind_some]
    rw [runesF_fuel n (l.drop w).length (l.drop w) (by simp; omega) (Nat.le_refl _)]
def numLess : List Nat → List Nat → Bool
  | _, [] => false
  | [], _ :: _ => true
  | a :: x, b :: y => if a < b then true else if a = b then numLess x y else false
theorem less_runes : ∀ (n : Nat) (a b : List UInt8) (x y : List Nat), a.length ≤ n → runes a = some x → runes b = some y → Op.bytesLess a b = numLess x y := by
  intro n
  induction n with
  | zero =>
    intro a b x y hn ha hb
    have : a = [] := List.eq_nil_of_length_eq_zero (by omega)
    subst this
    rw [runes_nil] at ha
    cases ha
    cases b with
    | nil => rw [runes_nil] at hb; cases hb; rfl
    | cons u t =>
      rw [runes_step _ (by simp)] at hb
      cases h : step1 (u :: t) with
      | none => rw [h] at hb; cases hb
      | some p =>
        rw [h] at hb
        simp only [Option.bind_some, Option.map_eq_some_iff] at hb
        obtain ⟨z, _, rfl⟩ := hb
        rfl
  | succ n ih =>
    intro a b x y hn ha hb
    by_cases ea : a = []
    · subst ea
      rw [runes_nil] at ha
      cases ha
      cases b with
      | nil => rw [runes_nil] at hb; cases hb; rfl
      | cons u t =>
        rw [runes_step _ (by simp)] at hb
        cases h : step1 (u :: t) with
        | none => rw [h] at hb; cases hb
        | some p =>
          rw [h] at hb
          simp only [Option.bind_some, Option.map_eq_some_iff] at hb
          obtain ⟨z, _, rfl⟩ := hb
          rfl
    · rw [runes_step _ ea] at ha
      cases h : step1 a with
      | none => rw [h] at ha; cases ha
      | some p =>
        obtain ⟨c, w⟩ := p
        rw [h] at ha
        simp only [Option.bind_some, Option.map_eq_some_iff] at ha
        obtain ⟨z, hz, rfl⟩ := ha
        obtain ⟨e1, e2, e3⟩ := step1_enc a ea c w h
        have hp := step1_pos a ea c w h
        by_cases eb : b = []
        · subst eb
          rw [runes_nil] at hb
          cases hb
          cases a <;> rfl
        · rw [runes_step _ eb] at hb
          cases h' : step1 b with
          | none => rw [h'] at hb; cases hb
          | some p' =>
            obtain ⟨c', w'⟩ := p'
            rw [h'] at hb
            simp only [Option.bind_some, Option.map_eq_some_iff] at hb
            obtain ⟨z', hz', rfl⟩ := hb
            obtain ⟨e1', e2', e3'⟩ := step1_enc b eb c' w' h'
            rw [e1, e1', enc_lt c c' e3 e3']
            unfold numLess
            rw [ih (a.drop w) (b.drop w') z z' (by simp; omega) hz hz']
theorem runes_inj : ∀ (n : Nat) (a b : List UInt8) (x : List Nat), a.length ≤ n → runes a = some x → runes b = some x → a = b := by
  intro n
  induction n with
  | zero =>
    intro a b x hn ha hb
    have : a = [] := List.eq_nil_of_length_eq_zero (by omega)
    subst this
    rw [runes_nil] at ha
    cases ha
    cases b with
    | nil => rfl
    | cons u t =>
      rw [runes_step _ (by simp)] at hb
      cases h : step1 (u :: t) with
      | none => rw [h] at hb; cases hb
      | some p =>
        rw [h] at hb
        simp at hb
  | succ n ih =>
    intro a b x hn ha hb
    by_cases ea : a = []
    · subst ea
      rw [runes_nil] at ha
      cases ha
      cases b with
      | nil => rfl
      | cons u t =>
        rw [runes_step _ (by simp)] at hb
        cases h : step1 (u :: t) with
        | none => rw [h] at hb; cases hb
        | some p =>
          rw [h] at hb
          simp at hb
    · rw [runes_step _ ea] at ha
      cases h : step1 a with
      | none => rw [h] at ha; cases ha
      | some p =>
        obtain ⟨c, w⟩ := p
        rw [h] at ha
        simp only [Option.bind_some, Option.map_eq_some_iff] at ha
        obtain ⟨z, hz, rfl⟩ := ha
        obtain ⟨e1, e2, e3⟩ := step1_enc a ea c w h
        have hp := step1_pos a ea c w h
        by_cases eb : b = []
        · subst eb
          rw [runes_nil] at hb
          cases hb
        · rw [runes_step _ eb] at hb
          cases h' : step1 b with
          | none => rw [h'] at hb; cases hb
          | some p' =>
            obtain ⟨c', w'⟩ := p'
            rw [h'] at hb
            simp only [Option.bind_some, Option.map_eq_some_iff] at hb
            obtain ⟨z', hz', hzz⟩ := hb
            simp only [List.cons.injEq] at hzz
            obtain ⟨rfl, rfl⟩ := hzz
            obtain ⟨e1', e2', e3'⟩ := step1_enc b eb c' w' h'
            rw [e1, e1', ih (a.drop w) (b.drop w') z' (by simp; omega) hz hz']
end Go.Proofs.YtbdagllflamabaaGreatDoor.Pl
namespace Go.Proofs.YtbdagllflamabaaGreatDoor.Pl
def leadN (c : Nat) : Option (Nat × Nat × Nat) :=
  if c < 128 then some (1, 0, c) else if 192 ≤ c ∧ c < 224 then some (2, 128, c - 192) else if 224 ≤ c ∧ c < 240 then some (3, 2048, c - 224) else if 240 ≤ c ∧ c < 248 then some (4, 65536, c - 240) else none
def fitsN (least c : Nat) : Bool := !(decide (c < least) || decide (1114111 < c) || (decide (55296 ≤ c) && decide (c ≤ 57343)))
def moreN (d : Nat) : Bool := decide (128 ≤ d) && decide (d ≤ 191)
def ref1 (n b0 b1 b2 b3 : Nat) : Option (Nat × Nat) :=
  (leadN b0).bind fun p =>
    if n < p.1 then none else
    if p.1 = 1 then (if fitsN p.2.1 p.2.2 then some (p.2.2, 1) else none) else
    if !moreN b1 then none else
    if p.1 = 2 then (if fitsN p.2.1 (p.2.2 * 64 + b1 - 128) then some (p.2.2 * 64 + b1 - 128, 2) else none) else
    if !moreN b2 then none else
    if p.1 = 3 then (if fitsN p.2.1 ((p.2.2 * 64 + b1 - 128) * 64 + b2 - 128) then some ((p.2.2 * 64 + b1 - 128) * 64 + b2 - 128, 3) else none) else
    if !moreN b3 then none else
    (if fitsN p.2.1 (((p.2.2 * 64 + b1 - 128) * 64 + b2 - 128) * 64 + b3 - 128) then some (((p.2.2 * 64 + b1 - 128) * 64 + b2 - 128) * 64 + b3 - 128, 4) else none)
theorem decL (P : Nat × Nat) (Q : Option (Nat × Nat)) {D : Nat × Nat} (h : D = P) (h2 : Q = if P = (65533, 1) then none else some P) : Q = if D = (65533, 1) then none else some D := by
  rw [h]; exact h2
theorem someP (c w : Nat) (hw : w ≠ 1) : (some (c, w) : Option (Nat × Nat)) = if (c, w) = (65533, 1) then none else some (c, w) := by
  rw [if_neg (by intro h; simp only [Prod.mk.injEq] at h; exact hw h.2)]
theorem noneP : (none : Option (Nat × Nat)) = if ((65533, 1) : Nat × Nat) = (65533, 1) then none else some (65533, 1) := by
  rw [if_pos rfl]
theorem fits_iff (l c : Nat) : fitsN l c = decide (l ≤ c ∧ (c < 55296 ∨ (57344 ≤ c ∧ c ≤ 1114111))) := by
  unfold fitsN
  rw [Bool.eq_iff_iff]; simp; omega
theorem more_iff (d : Nat) (h : d < 256) : moreN d = decide (d / 64 = 2) := by
  unfold moreN
  rw [Bool.eq_iff_iff]; simp; omega
set_option maxRecDepth 100000 in
set_option maxHeartbeats 4000000 in
theorem ref1_eq (n b0 b1 b2 b3 : Nat) (hn : 0 < n) (h0 : b0 < 256) (h1 : b1 < 256) (h2 : b2 < 256) (h3 : b3 < 256) :
    ref1 n b0 b1 b2 b3 = if Lib.decodeN n b0 b1 b2 b3 = (65533, 1) then none else some (Lib.decodeN n b0 b1 b2 b3) := by
  unfold ref1 leadN
  simp only [fits_iff, more_iff b1 h1, more_iff b2 h2, more_iff b3 h3]
  by_cases c0 : b0 < 128
  · refine decL (b0, 1) _ (by unfold Lib.decodeN; rw [if_pos c0]) ?_
    rw [if_pos c0]
    simp only [Option.bind_some]
    rw [if_neg (show ¬ n < 1 by omega), if_pos trivial, if_pos (by simp; omega), if_neg (by intro h; simp only [Prod.mk.injEq] at h; omega)]
  · by_cases c1 : 192 ≤ b0 ∧ b0 < 224
    · rw [if_neg c0, if_pos c1]
      simp only [Option.bind_some]
      by_cases m1 : 1 < n ∧ b1 / 64 = 2
      · rw [if_neg (show ¬ n < 2 by omega), if_neg (show ¬ (2 = 1) by omega), show decide (b1 / 64 = 2) = true by simp [m1.2]]
        have e : (b0 - 192) * 64 + b1 - 128 = b0 % 32 * 64 + b1 % 64 := by omega
        rw [e]
        by_cases f : b0 % 32 * 64 + b1 % 64 ≥ 128
        · refine decL (b0 % 32 * 64 + b1 % 64, 2) _ (by unfold Lib.decodeN; rw [if_neg c0, if_pos (by omega), if_pos f]) ?_
          rw [← someP _ _ (by omega)]
          simp; omega
        · refine decL (65533, 1) _ (by unfold Lib.decodeN; rw [if_neg c0, if_pos (by omega), if_neg f]) ?_
          rw [← noneP]
          simp; omega
      · refine decL (65533, 1) _ (by unfold Lib.decodeN; rw [if_neg c0, if_neg (by omega), if_neg (by omega), if_neg (by omega)]) ?_
        rw [← noneP]
        by_cases hn2 : n < 2
        · rw [if_pos hn2]
        · rw [if_neg hn2, if_neg (show ¬ (2 = 1) by omega), show decide (b1 / 64 = 2) = false by simp; omega]; rfl
    · by_cases c2 : 224 ≤ b0 ∧ b0 < 240
      · rw [if_neg c0, if_neg c1, if_pos c2]
        simp only [Option.bind_some]
        by_cases m1 : (1 < n ∧ b1 / 64 = 2) ∧ (2 < n ∧ b2 / 64 = 2)
        · rw [if_neg (show ¬ n < 3 by omega), if_neg (show ¬ (3 = 1) by omega), show decide (b1 / 64 = 2) = true by simp [m1.1.2], if_neg (show ¬ (3 = 2) by omega), show decide (b2 / 64 = 2) = true by simp [m1.2.2]]
          have e : ((b0 - 224) * 64 + b1 - 128) * 64 + b2 - 128 = b0 % 16 * 4096 + b1 % 64 * 64 + b2 % 64 := by omega
          rw [e]
          by_cases f : b0 % 16 * 4096 + b1 % 64 * 64 + b2 % 64 ≥ 2048 ∧ (b0 % 16 * 4096 + b1 % 64 * 64 + b2 % 64 < 55296 ∨ (57344 ≤ b0 % 16 * 4096 + b1 % 64 * 64 + b2 % 64 ∧ b0 % 16 * 4096 + b1 % 64 * 64 + b2 % 64 ≤ 1114111))
          · refine decL (b0 % 16 * 4096 + b1 % 64 * 64 + b2 % 64, 3) _ (by unfold Lib.decodeN; rw [if_neg c0, if_neg (by omega), if_pos (by omega), if_pos f]) ?_
            rw [← someP _ _ (by omega), decide_eq_true (show 2048 ≤ _ ∧ _ from f)]
            rfl
          · refine decL (65533, 1) _ (by unfold Lib.decodeN; rw [if_neg c0, if_neg (by omega), if_pos (by omega), if_neg f]) ?_
            rw [← noneP, decide_eq_false (show ¬ (2048 ≤ _ ∧ _) from f)]
            rfl
        · refine decL (65533, 1) _ (by unfold Lib.decodeN; rw [if_neg c0, if_neg (by omega), if_neg (by omega), if_neg (by omega)]) ?_
          rw [← noneP]
          by_cases hn2 : n < 3
          · rw [if_pos hn2]
          · rw [if_neg hn2, if_neg (show ¬ (3 = 1) by omega)]
            by_cases q1 : b1 / 64 = 2
            · rw [decide_eq_true q1, decide_eq_false (show ¬ b2 / 64 = 2 by omega)]; simp
            · rw [decide_eq_false q1]; rfl
      · by_cases c3 : 240 ≤ b0 ∧ b0 < 248
        · rw [if_neg c0, if_neg c1, if_neg c2, if_pos c3]
          simp only [Option.bind_some]
          by_cases m1 : (1 < n ∧ b1 / 64 = 2) ∧ (2 < n ∧ b2 / 64 = 2) ∧ (3 < n ∧ b3 / 64 = 2)
          · rw [if_neg (show ¬ n < 4 by omega), if_neg (show ¬ (4 = 1) by omega), show decide (b1 / 64 = 2) = true by simp [m1.1.2], if_neg (show ¬ (4 = 2) by omega), show decide (b2 / 64 = 2) = true by simp [m1.2.1.2], if_neg (show ¬ (4 = 3) by omega), show decide (b3 / 64 = 2) = true by simp [m1.2.2.2]]
            have e : (((b0 - 240) * 64 + b1 - 128) * 64 + b2 - 128) * 64 + b3 - 128 = b0 % 8 * 262144 + b1 % 64 * 4096 + b2 % 64 * 64 + b3 % 64 := by omega
            rw [e]
            by_cases f : b0 % 8 * 262144 + b1 % 64 * 4096 + b2 % 64 * 64 + b3 % 64 ≥ 65536 ∧ (b0 % 8 * 262144 + b1 % 64 * 4096 + b2 % 64 * 64 + b3 % 64 < 55296 ∨ (57344 ≤ b0 % 8 * 262144 + b1 % 64 * 4096 + b2 % 64 * 64 + b3 % 64 ∧ b0 % 8 * 262144 + b1 % 64 * 4096 + b2 % 64 * 64 + b3 % 64 ≤ 1114111))
            · refine decL (b0 % 8 * 262144 + b1 % 64 * 4096 + b2 % 64 * 64 + b3 % 64, 4) _ (by unfold Lib.decodeN; rw [if_neg c0, if_neg (by omega), if_neg (by omega), if_pos (by omega), if_pos f]) ?_
              rw [← someP _ _ (by omega), decide_eq_true (show 65536 ≤ _ ∧ _ from f)]
              rfl
            · refine decL (65533, 1) _ (by unfold Lib.decodeN; rw [if_neg c0, if_neg (by omega), if_neg (by omega), if_pos (by omega), if_neg f]) ?_
              rw [← noneP, decide_eq_false (show ¬ (65536 ≤ _ ∧ _) from f)]
              rfl
          · refine decL (65533, 1) _ (by unfold Lib.decodeN; rw [if_neg c0, if_neg (by omega), if_neg (by omega), if_neg (by omega)]) ?_
            rw [← noneP]
            by_cases hn2 : n < 4
            · rw [if_pos hn2]
            · rw [if_neg hn2, if_neg (show ¬ (4 = 1) by omega)]
              by_cases q1 : b1 / 64 = 2
              · by_cases q2 : b2 / 64 = 2
                · rw [decide_eq_true q1, decide_eq_true q2, decide_eq_false (show ¬ b3 / 64 = 2 by omega)]; simp
                · rw [decide_eq_true q1, decide_eq_false q2]; simp
              · rw [decide_eq_false q1]; rfl
        · refine decL (65533, 1) _ (by unfold Lib.decodeN; rw [if_neg c0, if_neg (by omega), if_neg (by omega), if_neg (by omega)]) ?_
          rw [← noneP, if_neg c0, if_neg c1, if_neg c2, if_neg c3]
          rfl
end Go.Proofs.YtbdagllflamabaaGreatDoor.Pl
namespace Go.Proofs.YtbdagllflamabaaGreatDoor.Pl
def suf (s : ByteArray) (p : Nat) : List UInt8 := s.data.toList.drop p
def runesAt (s : ByteArray) (p : Nat) : Option (List Nat) := runes (suf s p)
theorem suf_length (s : ByteArray) (p : Nat) : (suf s p).length = s.size - p := by
  simp [suf]
theorem suf_get (s : ByteArray) (p k : Nat) : (suf s p).getD k 0 = s.get! (p + k) := by
  unfold suf
  rw [List.getD_eq_getElem?_getD, List.getElem?_drop]
  by_cases h : p + k < s.size
  · have h' : p + k < s.data.toList.length := by simpa using h
    rw [List.getElem?_eq_getElem h']
    simp [ByteArray.get!]
    rw [getElem!_pos s.data (p + k) (by simpa using h)]
  · have h' : ¬ p + k < s.data.toList.length := by simpa using h
    rw [List.getElem?_eq_none (by omega)]
    simp [ByteArray.get!]
    rw [getElem!_neg s.data (p + k) (by simpa using h)]
    rfl
theorem step1_at (s : ByteArray) (p : Nat) : step1 (suf s p) = if Utf8.decode s p = (65533, 1) then none else some (Utf8.decode s p) := by
  have e : Lib.decodeN (suf s p).length ((suf s p).getD 0 0).toNat ((suf s p).getD 1 0).toNat ((suf s p).getD 2 0).toNat ((suf s p).getD 3 0).toNat = Utf8.decode s p := by
    rw [Lib.decode_at, suf_length, suf_get, suf_get, suf_get, suf_get]
    rfl
  unfold step1
  rw [e]
theorem step1_enc' (l : List UInt8) (hl : l ≠ []) (d : Nat × Nat) (h : step1 l = some d) : l = enc d.1 ++ l.drop d.2 ∧ d.2 = (enc d.1).length ∧ good d.1 := by
  obtain ⟨c, w⟩ := d
  exact step1_enc l hl c w h
theorem step1_pos' (l : List UInt8) (hl : l ≠ []) (d : Nat × Nat) (h : step1 l = some d) : 0 < d.2 ∧ d.2 ≤ l.length := by
  obtain ⟨c, w⟩ := d
  exact step1_pos l hl c w h
theorem suf_drop (s : ByteArray) (p k : Nat) : (suf s p).drop k = suf s (p + k) := by
  unfold suf
  rw [List.drop_drop]
theorem suf_ne (s : ByteArray) (p : Nat) (h : p < s.size) : suf s p ≠ [] := by
  intro e
  have := congrArg List.length e
  rw [suf_length] at this
  simp at this
  omega
theorem runesAt_step (s : ByteArray) (p : Nat) (h : p < s.size) :
    runesAt s p = if Utf8.decode s p = (65533, 1) then none else (runesAt s (p + (Utf8.decode s p).2)).map ((Utf8.decode s p).1 :: ·) := by
  unfold runesAt
  rw [runes_step _ (suf_ne s p h), step1_at]
  split
  · rfl
  · simp only [Option.bind_some]
    rw [suf_drop]
theorem runesAt_end (s : ByteArray) (p : Nat) (h : ¬ p < s.size) : runesAt s p = some [] := by
  unfold runesAt
  have : suf s p = [] := List.eq_nil_of_length_eq_zero (by rw [suf_length]; omega)
  rw [this, runes_nil]
theorem runesAt_zero (s : ByteArray) : runesAt s 0 = runes s.data.toList := rfl
def right (s : ByteArray) : Bool := (runes s.data.toList).isSome
def mark : ByteArray := ⟨#[239, 191, 189]⟩
theorem ext_toList (s : ByteArray) (a b : Nat) : (s.extract a b).data.toList = (s.data.toList.take b).drop a := by
  rw [ByteArray.data_extract, Array.toList_extract, List.extract_eq_take_drop, List.take_drop]
  by_cases h : a ≤ b
  · rw [show a + (b - a) = b by omega]
  · have e1 : (List.take (a + (b - a)) s.data.toList).drop a = [] := by
      rw [List.drop_eq_nil_iff, List.length_take]; omega
    have e2 : (List.take b s.data.toList).drop a = [] := by
      rw [List.drop_eq_nil_iff, List.length_take]; omega
    rw [e1, e2]
theorem ext_suf (s : ByteArray) (p k : Nat) : (s.extract p (p + k)).data.toList = (suf s p).take k := by
  rw [ext_toList, suf, List.take_drop]
theorem mark_iff (s : ByteArray) (p : Nat) (h : p < s.size) (hc : (Utf8.decode s p).1 = 65533) :
    (Utf8.decode s p ≠ (65533, 1)) ↔ ((s.extract p (p + 3)).data.toList = [239, 191, 189]) := by
  rw [ext_suf]
  constructor
  · intro hne
    have e := step1_at s p
    rw [if_neg hne] at e
    obtain ⟨e1, e2, e3⟩ := step1_enc' (suf s p) (suf_ne s p h) _ e
    rw [hc] at e1
    rw [e1]
    rfl
  · intro hm e
    have hl : 3 ≤ (suf s p).length := by
      have := congrArg List.length hm
      rw [List.length_take] at this
      simp at this
      omega
    have g : ∀ k, k < 3 → (suf s p).getD k 0 = [239, 191, 189].getD k 0 := by
      intro k hk
      rw [← hm, List.getD_eq_getElem?_getD, List.getD_eq_getElem?_getD, List.getElem?_take, if_pos hk]
    have g0 := g 0 (by omega)
    have g1 := g 1 (by omega)
    have g2 := g 2 (by omega)
    have d := Lib.decode_at s p
    rw [suf_get] at g0 g1 g2
    rw [suf_length] at hl
    simp only [Nat.add_zero, List.getD_cons_zero, List.getD_cons_succ] at g0 g1 g2
    rw [g0, g1, g2, e] at d
    simp only [Lib.decodeN] at d
    rw [if_neg (by decide), if_neg (fun hh => absurd hh.1 (by decide)), if_pos (by refine ⟨by decide, ⟨by omega, by decide⟩, by omega, by decide⟩), if_pos (by decide)] at d
    simp at d
theorem mark_short (s : ByteArray) (p : Nat) (h : s.size - p < 3) : ¬ ((s.extract p (p + 3)).data.toList = [239, 191, 189]) := by
  intro hm
  rw [ext_suf] at hm
  have := congrArg List.length hm
  rw [List.length_take, suf_length] at this
  simp at this
  omega
theorem width_le (s : ByteArray) (p : Nat) (h : p < s.size) (hne : Utf8.decode s p ≠ (65533, 1)) : p + (Utf8.decode s p).2 ≤ s.size := by
  have e := step1_at s p
  rw [if_neg hne] at e
  have := step1_pos' (suf s p) (suf_ne s p h) _ e
  rw [suf_length] at this
  omega
end Go.Proofs.YtbdagllflamabaaGreatDoor.Pl
