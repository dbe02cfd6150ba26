/- Utf, Runes1, Runes2: one text. -/
import Derived.Lib.DecodeN
import GoSem.Op.String
import Derived.Test.YtlgcdneiebjkcaaGreatDoorFinServeNewQ1
import Derived.Test.YtlgcdneiebjkcaaGreatDoorFinServeNewQ4
set_option linter.unusedVariables false
namespace Go.Proofs.YtlgcdneiebjkcaaGreatDoor.Pl
def step1 (l : List UInt8) : Option (Nat × Nat) :=
  if (Lib.decodeN l.length (l.getD 0 0).toNat (l.getD 1 0).toNat (l.getD 2 0).toNat (l.getD 3 0).toNat) = (65533, 1) then none
  else some (Lib.decodeN l.length (l.getD 0 0).toNat (l.getD 1 0).toNat (l.getD 2 0).toNat (l.getD 3 0).toNat)
def enc (c : Nat) : List UInt8 :=
  if c < 128 then [UInt8.ofNat c]
  else if c < 2048 then [UInt8.ofNat (192 + c / 64), UInt8.ofNat (128 + c % 64)]
  else if c < 65536 then [UInt8.ofNat (224 + c / 4096), UInt8.ofNat (128 + c / 64 % 64), UInt8.ofNat (128 + c % 64)]
  else [UInt8.ofNat (240 + c / 262144), UInt8.ofNat (128 + c / 4096 % 64), UInt8.ofNat (128 + c / 64 % 64), UInt8.ofNat (128 + c % 64)]
def good (c : Nat) : Prop := c < 55296 ∨ (57344 ≤ c ∧ c ≤ 1114111)
theorem decodeN_some (n b0 b1 b2 b3 c w : Nat) (h0 : b0 < 256) (h1 : b1 < 256) (h2 : b2 < 256) (h3 : b3 < 256) (hn : 0 < n)
    (h : Lib.decodeN n b0 b1 b2 b3 = (c, w)) (hne : (c, w) ≠ (65533, 1)) :
    good c ∧ w ≤ n ∧ ((c < 128 ∧ w = 1 ∧ b0 = c) ∨ (128 ≤ c ∧ c < 2048 ∧ w = 2 ∧ b0 = 192 + c / 64 ∧ b1 = 128 + c % 64) ∨
      (2048 ≤ c ∧ c < 65536 ∧ w = 3 ∧ b0 = 224 + c / 4096 ∧ b1 = 128 + c / 64 % 64 ∧ b2 = 128 + c % 64) ∨
      (65536 ≤ c ∧ w = 4 ∧ b0 = 240 + c / 262144 ∧ b1 = 128 + c / 4096 % 64 ∧ b2 = 128 + c / 64 % 64 ∧ b3 = 128 + c % 64)) := by
  unfold Lib.decodeN at h
  unfold good
  split at h
  · simp only [Prod.mk.injEq] at h
    omega
  · split at h
    · split at h
      · simp only [Prod.mk.injEq] at h
        omega
      · exact absurd h.symm hne
    · split at h
      · split at h
        · simp only [Prod.mk.injEq] at h
          omega
        · exact absurd h.symm hne
      · split at h
        · split at h
          · simp only [Prod.mk.injEq] at h
            omega
          · exact absurd h.symm hne
        · exact absurd h.symm hne
theorem step1_enc (l : List UInt8) (hl : l ≠ []) (c w : Nat) (h : step1 l = some (c, w)) : l = enc c ++ l.drop w ∧ w = (enc c).length ∧ good c := by
  unfold step1 at h
  split at h
  · cases h
  · next hne =>
    have hp : 0 < l.length := List.length_pos_iff.2 hl
    simp only [Option.some.injEq] at h
    rw [h] at hne
    obtain ⟨hg, hw, hc⟩ := decodeN_some _ _ _ _ _ c w (UInt8.toNat_lt _) (UInt8.toNat_lt _) (UInt8.toNat_lt _) (UInt8.toNat_lt _) hp h hne
    refine ⟨?_, ?_, hg⟩
    · rcases hc with ⟨h1, rfl, e0⟩ | ⟨h1, h2, rfl, e0, e1⟩ | ⟨h1, h2, rfl, e0, e1, e2⟩ | ⟨h1, rfl, e0, e1, e2, e3⟩
      · match l, hw with
        | a :: t, _ =>
          simp at e0
          rw [enc, if_pos h1, ← e0]; simp
      · match l, hw with
        | a :: b :: t, _ => 
          simp at e0 e1
          rw [enc, if_neg (by omega), if_pos h2, ← e0, ← e1]; simp
      · match l, hw with
        | a :: b :: d :: t, _ => 
          simp at e0 e1 e2
          rw [enc, if_neg (by omega), if_neg (by omega), if_pos h2, ← e0, ← e1, ← e2]; simp
      · match l, hw with
        | a :: b :: d :: e :: t, _ => 
          simp at e0 e1 e2 e3
          rw [enc, if_neg (by omega), if_neg (by omega), if_neg (by omega), ← e0, ← e1, ← e2, ← e3]; simp
    · unfold enc
      rcases hc with ⟨h1, rfl, e0⟩ | ⟨h1, h2, rfl, e0, e1⟩ | ⟨h1, h2, rfl, e0, e1, e2⟩ | ⟨h1, rfl, e0, e1, e2, e3⟩
      · rw [if_pos h1]; rfl
      · rw [if_neg (by omega), if_pos h2]; rfl
      · rw [if_neg (by omega), if_neg (by omega), if_pos h2]; rfl
      · rw [if_neg (by omega), if_neg (by omega), if_neg (by omega)]; rfl
def runesF : Nat → List UInt8 → Option (List Nat)
  | 0, _ => some []
  | n + 1, l => if l = [] then some [] else (step1 l).bind fun p => (runesF n (l.drop p.2)).map (p.1 :: ·)
def runes (l : List UInt8) : Option (List Nat) := runesF l.length l
theorem step1_pos (l : List UInt8) (hl : l ≠ []) (c w : Nat) (h : step1 l = some (c, w)) : 0 < w ∧ w ≤ l.length := by
  obtain ⟨h1, h2, _⟩ := step1_enc l hl c w h
  have e : 0 < (enc c).length := by
    unfold enc
    repeat' split
    all_goals simp
  have := congrArg List.length h1
  simp at this
  have hp : 0 < l.length := List.length_pos_iff.2 hl
  omega
theorem runesF_fuel : ∀ (n m : Nat) (l : List UInt8), l.length ≤ n → l.length ≤ m → runesF n l = runesF m l := by
  intro n
  induction n with
  | zero =>
    intro m l hn _
    have : l = [] := List.eq_nil_of_length_eq_zero (by omega)
    subst this
    cases m <;> simp [runesF]
  | succ n ih =>
    intro m l hn hm
    cases m with
    | zero =>
      have : l = [] := List.eq_nil_of_length_eq_zero (by omega)
      subst this
      simp [runesF]
    | succ m =>
      unfold runesF
      by_cases hl : l = []
      · simp [hl]
      · simp only [hl, if_false]
        cases h : step1 l with
        | none => rfl
        | some p =>
          obtain ⟨c, w⟩ := p
          have hp := step1_pos l hl c w h
          simp only [Option.bind_some]
          rw [ih m (l.drop w) (by simp; omega) (by simp; omega)]
theorem runes_nil : runes [] = some [] := rfl
theorem runes_step (l : List UInt8) (hl : l ≠ []) : runes l = (step1 l).bind fun p => (runes (l.drop p.2)).map (p.1 :: ·) := by
  have hp : 0 < l.length := List.length_pos_iff.2 hl
  unfold runes
  obtain ⟨n, hn⟩ : ∃ n, l.length = n + 1 := ⟨l.length - 1, by omega⟩
  rw [hn, runesF, if_neg hl]
  cases h : step1 l with
  | none => rfl
  | some p =>
    obtain ⟨c, w⟩ := p
    have hp := step1_pos l hl c w h
    simp only [Option.bind_some]
    rw [runesF_fuel n (l.drop w).length (l.drop w) (by simp; omega) (Nat.le_refl _)]
theorem runes_inj : ∀ (n : Nat) (a b : List UInt8) (x : List Nat), a.length ≤ n → runes a = some x → runes b = some x → a = b := by
  intro n
  induction n with
  | zero =>
    intro a b x hn ha hb
    have : a = [] := List.eq_nil_of_length_eq_zero (by omega)
    subst this
    rw [runes_nil] at ha
    cases ha
    cases b with
    | nil => rfl
    | cons u t =>
      rw [runes_step _ (by simp)] at hb
      cases h : step1 (u :: t) with
      | none => rw [h] at hb; cases hb
      | some p =>
        rw [h] at hb
        simp at hb
  | succ n ih =>
    intro a b x hn ha hb
    by_cases ea : a = []
    · subst ea
      rw [runes_nil] at ha
      cases ha
      cases b with
      | nil => rfl
      | cons u t =>
        rw [runes_step _ (by simp)] at hb
        cases h : step1 (u :: t) with
        | none => rw [h] at hb; cases hb
        | some p =>
          rw [h] at hb
          simp at hb
    · rw [runes_step _ ea] at ha
      cases h : step1 a with
      | none => rw [h] at ha; cases ha
      | some p =>
        obtain ⟨c, w⟩ := p
        rw [h] at ha
        simp only [Option.bind_some, Option.map_eq_some_iff] at ha
        obtain ⟨z, hz, rfl⟩ := ha
        obtain ⟨e1, e2, e3⟩ := step1_enc a ea c w h
        have hp := step1_pos a ea c w h
        by_cases eb : b = []
        · subst eb
          rw [runes_nil] at hb
          cases hb
        · rw [runes_step _ eb] at hb
          cases h' : step1 b with
          | none => rw [h'] at hb; cases hb
          | some p' =>
            obtain ⟨c', w'⟩ := p'
            rw [h'] at hb
            simp only [Option.bind_some, Option.map_eq_some_iff] at hb
            obtain ⟨z', hz', hzz⟩ := hb
            simp only [List.cons.injEq] at hzz
            obtain ⟨rfl, rfl⟩ := hzz
            obtain ⟨e1', e2', e3'⟩ := step1_enc b eb c' w' h'
            rw [e1, e1', ih (a.drop w) (b.drop w') z' (by simp; omega) hz hz']
end Go.Proofs.YtlgcdneiebjkcaaGreatDoor.Pl
namespace Go.Proofs.YtlgcdneiebjkcaaGreatDoor.Pl
end Go.Proofs.YtlgcdneiebjkcaaGreatDoor.Pl
namespace Go.Proofs.YtlgcdneiebjkcaaGreatDoor.Pl
def suf (s : ByteArray) (p : Nat) : List UInt8 := s.data.toList.drop p
def runesAt (s : ByteArray) (p : Nat) : Option (List Nat) := runes (suf s p)
theorem suf_length (s : ByteArray) (p : Nat) : (suf s p).length = s.size - p := by
  simp [suf]
theorem suf_get (s : ByteArray) (p k : Nat) : (suf s p).getD k 0 = s.get! (p + k) := by
  unfold suf
  rw [List.getD_eq_getElem?_getD, List.getElem?_drop]
  by_cases h : p + k < s.size
  · have h' : p + k < s.data.toList.length := by simpa using h
    rw [List.getElem?_eq_getElem h']
    simp [ByteArray.get!]
    rw [getElem!_pos s.data (p + k) (by simpa using h)]
  · have h' : ¬ p + k < s.data.toList.length := by simpa using h
    rw [List.getElem?_eq_none (by omega)]
    simp [ByteArray.get!]
    rw [getElem!_neg s.data (p + k) (by simpa using h)]
    rfl
theorem step1_at (s : ByteArray) (p : Nat) : step1 (suf s p) = if Utf8.decode s p = (65533, 1) then none else some (Utf8.decode s p) := by
  have e : Lib.decodeN (suf s p).length ((suf s p).getD 0 0).toNat ((suf s p).getD 1 0).toNat ((suf s p).getD 2 0).toNat ((suf s p).getD 3 0).toNat = Utf8.decode s p := by
    rw [Lib.decode_at, suf_length, suf_get, suf_get, suf_get, suf_get]
    rfl
  unfold step1
  rw [e]
theorem step1_enc' (l : List UInt8) (hl : l ≠ []) (d : Nat × Nat) (h : step1 l = some d) : l = enc d.1 ++ l.drop d.2 ∧ d.2 = (enc d.1).length ∧ good d.1 := by
  obtain ⟨c, w⟩ := d
  exact step1_enc l hl c w h
theorem step1_pos' (l : List UInt8) (hl : l ≠ []) (d : Nat × Nat) (h : step1 l = some d) : 0 < d.2 ∧ d.2 ≤ l.length := by
  obtain ⟨c, w⟩ := d
  exact step1_pos l hl c w h
theorem suf_drop (s : ByteArray) (p k : Nat) : (suf s p).drop k = suf s (p + k) := by
  unfold suf
  rw [List.drop_drop]
theorem suf_ne (s : ByteArray) (p : Nat) (h : p < s.size) : suf s p ≠ [] := by
  intro e
  have := congrArg List.length e
  rw [suf_length] at this
  simp at this
  omega
theorem runesAt_step (s : ByteArray) (p : Nat) (h : p < s.size) :
    runesAt s p = if Utf8.decode s p = (65533, 1) then none else (runesAt s (p + (Utf8.decode s p).2)).map ((Utf8.decode s p).1 :: ·) := by
  unfold runesAt
  rw [runes_step _ (suf_ne s p h), step1_at]
  split
  · rfl
  · simp only [Option.bind_some]
    rw [suf_drop]
theorem runesAt_end (s : ByteArray) (p : Nat) (h : ¬ p < s.size) : runesAt s p = some [] := by
  unfold runesAt
  have : suf s p = [] := List.eq_nil_of_length_eq_zero (by rw [suf_length]; omega)
  rw [this, runes_nil]
def right (s : ByteArray) : Bool := (runes s.data.toList).isSome
def mark : ByteArray := ⟨#[239, 191, 189]⟩
theorem ext_toList (s : ByteArray) (a b : Nat) : (s.extract a b).data.toList = (s.data.toList.take b).drop a := by
  rw [ByteArray.data_extract, Array.toList_extract, List.extract_eq_take_drop, List.take_drop]
  by_cases h : a ≤ b
  · rw [show a + (b - a) = b by omega]
  · have e1 : (List.take (a + (b - a)) s.data.toList).drop a = [] := by
      rw [List.drop_eq_nil_iff, List.length_take]; omega
    have e2 : (List.take b s.data.toList).drop a = [] := by
      rw [List.drop_eq_nil_iff, List.length_take]; omega
    rw [e1, e2]
theorem ext_suf (s : ByteArray) (p k : Nat) : (s.extract p (p + k)).data.toList = (suf s p).take k := by
  rw [ext_toList, suf, List.take_drop]
theorem mark_iff (s : ByteArray) (p : Nat) (h : p < s.size) (hc : (Utf8.decode s p).1 = 65533) :
    (Utf8.decode s p ≠ (65533, 1)) ↔ ((s.extract p (p + 3)).data.toList = [239, 191, 189]) := by
  rw [ext_suf]
  constructor
  · intro hne
    have e := step1_at s p
    rw [if_neg hne] at e
    obtain ⟨e1, e2, e3⟩ := step1_enc' (suf s p) (suf_ne s p h) _ e
    rw [hc] at e1
    rw [e1]
    rfl
  · intro hm e
    have hl : 3 ≤ (suf s p).length := by
      have := congrArg List.length hm
      rw [List.length_take] at this
      simp at this
      omega
    have g : ∀ k, k < 3 → (suf s p).getD k 0 = [239, 191, 189].getD k 0 := by
      intro k hk
      rw [← hm, List.getD_eq_getElem?_getD, List.getD_eq_getElem?_getD, List.getElem?_take, if_pos hk]
    have g0 := g 0 (by omega)
    have g1 := g 1 (by omega)
    have g2 := g 2 (by omega)
    have d := Lib.decode_at s p
    rw [suf_get] at g0 g1 g2
    rw [suf_length] at hl
    simp only [Nat.add_zero, List.getD_cons_zero, List.getD_cons_succ] at g0 g1 g2
    rw [g0, g1, g2, e] at d
    simp only [Lib.decodeN] at d
    rw [if_neg (by decide), if_neg (fun hh => absurd hh.1 (by decide)), if_pos (by refine ⟨by decide, ⟨by omega, by decide⟩, by omega, by decide⟩), if_pos (by decide)] at d
    simp at d
theorem mark_short (s : ByteArray) (p : Nat) (h : s.size - p < 3) : ¬ ((s.extract p (p + 3)).data.toList = [239, 191, 189]) := by
  intro hm
  rw [ext_suf] at hm
  have := congrArg List.length hm
  rw [List.length_take, suf_length] at this
  simp at this
  omega
theorem width_le (s : ByteArray) (p : Nat) (h : p < s.size) (hne : Utf8.decode s p ≠ (65533, 1)) : p + (Utf8.decode s p).2 ≤ s.size := by
  have e := step1_at s p
  rw [if_neg hne] at e
  have := step1_pos' (suf s p) (suf_ne s p h) _ e
  rw [suf_length] at this
  omega
end Go.Proofs.YtlgcdneiebjkcaaGreatDoor.Pl
namespace Go.Proofs.YtlgcdneiebjkcaaGreatDoor
open Go.RowKit
namespace Pl
theorem bad_right (s : ByteArray) (p : Nat) (hp : p < s.size) (h : (runesAt s p).isSome = right s) (hb : Utf8.decode s p = (65533, 1)) : right s = false := by
  rw [← h, runesAt_step s p hp, if_pos hb]; rfl
theorem next_right (s : ByteArray) (p : Nat) (hp : p < s.size) (h : (runesAt s p).isSome = right s) (hb : Utf8.decode s p ≠ (65533, 1)) :
    (runesAt s (p + (Utf8.decode s p).2)).isSome = right s := by
  rw [← h, runesAt_step s p hp, if_neg hb]; simp
theorem fst_ne (s : ByteArray) (p : Nat) (h : ¬ ((Utf8.decode s p).1 : Int) = 65533) : Utf8.decode s p ≠ (65533, 1) := by
  intro e; rw [e] at h; exact h rfl
end Pl
set_option maxHeartbeats 400000 in
theorem right_any (s : ByteArray) (w : World) (hs : s.size ≤ 140737488351232) :
    Calls Tryz.prog 107 #[.string s] w fun e w' => e = .returned (.bool (Pl.right s)) ∧ ∃ p, w' = w.iter s p := by
  go_enter Tryz.func107, Tryz.ntmps107
  go_wp2
  go_loopw [3, 4] (fun _ _ w' => ∃ p : Nat, w' = w.iter s p ∧ p ≤ s.size ∧ Hid ((Pl.runesAt s p).isSome = Pl.right s)) (fun _ _ w' => s.size - w'.iterPos w.heap.size)
  case atStart => exact ⟨0, rfl, Nat.zero_le _, rfl⟩
  case round =>
    obtain ⟨p, rfl, hle, HR⟩ := hrel
    by_cases hp : p < s.size
    · have hnx : ∀ ty, (Instr.next (.pointer (some ⟨w.heap.size, 0, none⟩)) true ty).run Tryz.prog (w.iter s p) = _ := fun ty => run_next_any w s p ty hp
      have go_on : Utf8.decode s p ≠ (65533, 1) → p + (Utf8.decode s p).2 ≤ s.size ∧ 1 ≤ (Utf8.decode s p).2 ∧ Hid ((Pl.runesAt s (p + (Utf8.decode s p).2)).isSome = Pl.right s) := fun h => by
        have e := Pl.step1_at s p
        rw [if_neg h] at e
        exact ⟨Pl.width_le s p hp h, (Pl.step1_pos' _ (Pl.suf_ne s p hp) _ e).1, Pl.next_right s p hp HR.out h⟩
      have stop : Utf8.decode s p = (65533, 1) → Pl.right s = false := fun h => Pl.bad_right s p hp HR.out h
      have HG := hid go_on
      have HS := hid stop
      clear go_on stop
      go_wp2
      · have h1 : ((Utf8.decode s p).1 : Int) = 65533 := by assumption
        have h2 : (s.size : Int) - p < 3 ∨ (!(s.extract p (p + 3)).toList == [239, 191, 189]) = true := by assumption
        go_ret
        refine ⟨ret_bool ?_, _, rfl⟩
        rw [HS.out]
        refine Classical.byContradiction fun hne => ?_
        have hm := (Pl.mark_iff s p hp (by omega)).1 hne
        rcases h2 with h2 | h2
        · exact Pl.mark_short s p (by omega) hm
        · rw [ByteArray.toList_eq, hm] at h2
          simp at h2
      · have h1 : ((Utf8.decode s p).1 : Int) = 65533 := by assumption
        have h2 : (3 : Int) ≤ s.size - p ∧ (!(s.extract p (p + 3)).toList == [239, 191, 189]) = false := by assumption
        have hne : Utf8.decode s p ≠ (65533, 1) := (Pl.mark_iff s p hp (by omega)).2 (by simpa [ByteArray.toList_eq] using h2.2)
        obtain ⟨g1, g2, g3⟩ := HG.out hne
        go_roundw
        case rel => exact ⟨_, rfl, g1, g3⟩
        case measure => simp; omega
      · have h1 : ((Utf8.decode s p).1 : Int) = 65533 := by assumption
        have h2 : (s.size : Int) - p < 3 := by assumption
        go_ret
        refine ⟨ret_bool ?_, _, rfl⟩
        rw [HS.out]
        refine Classical.byContradiction fun hne => ?_
        exact Pl.mark_short s p (by omega) ((Pl.mark_iff s p hp (by omega)).1 hne)
      · have h1 : ¬ ((Utf8.decode s p).1 : Int) = 65533 := by assumption
        obtain ⟨g1, g2, g3⟩ := HG.out (Pl.fst_ne s p h1)
        go_roundw
        case rel => exact ⟨_, rfl, g1, g3⟩
        case measure => simp; omega
    · have hnx : ∀ ty, (Instr.next (.pointer (some ⟨w.heap.size, 0, none⟩)) true ty).run Tryz.prog (w.iter s p) = _ := fun ty => run_next_end w s p ty hp
      go_wp2
      go_ret
      have e : Pl.right s = true := by rw [← HR.out, Pl.runesAt_end s p hp]; rfl
      exact ⟨ret_bool e.symm, _, rfl⟩
end Go.Proofs.YtlgcdneiebjkcaaGreatDoor
namespace Go.Proofs.YtlgcdneiebjkcaaGreatDoor
open Go.RowKit
namespace Pl
def count (s : ByteArray) : Int := match runes s.data.toList with | none => -1 | some l => l.length
def badRune (c : Nat) : Bool := decide (c < 32) || decide (c = 127)
def keyL (l : List Nat) : Nat := if l.length = 0 then 2 else if 24 < l.length then 3 else if l.any badRune then 7 else 0
def keyN (s : ByteArray) : Nat := match runes s.data.toList with | none => 6 | some l => keyL l
theorem runes_round (s : ByteArray) (p : Nat) (r : List Nat) (hp : p < s.size) (h : runesAt s p = some r) :
    ∃ t, r = (Utf8.decode s p).1 :: t ∧ runesAt s (p + (Utf8.decode s p).2) = some t ∧ p + (Utf8.decode s p).2 ≤ s.size ∧ 1 ≤ (Utf8.decode s p).2 := by
  rw [runesAt_step s p hp] at h
  split at h
  · cases h
  · next hne =>
    simp only [Option.map_eq_some_iff] at h
    obtain ⟨t, ht, rfl⟩ := h
    have e := step1_at s p
    rw [if_neg hne] at e
    exact ⟨t, rfl, ht, width_le s p hp hne, (step1_pos' _ (suf_ne s p hp) _ e).1⟩
theorem runes_done (s : ByteArray) (p : Nat) (r : List Nat) (hp : ¬ p < s.size) (h : runesAt s p = some r) : r = [] := by
  rw [runesAt_end s p hp] at h; exact (Option.some.inj h).symm
theorem runes_len : ∀ (n : Nat) (l : List UInt8) (r : List Nat), l.length ≤ n → runes l = some r → r.length ≤ l.length := by
  intro n
  induction n with
  | zero =>
    intro l r hl h
    have : l = [] := List.eq_nil_of_length_eq_zero (by omega)
    subst this
    rw [runes_nil] at h; cases h; simp
  | succ n ih =>
    intro l r hl h
    by_cases e : l = []
    · subst e; rw [runes_nil] at h; cases h; simp
    · rw [runes_step l e] at h
      cases hs : step1 l with
      | none => rw [hs] at h; cases h
      | some d =>
        rw [hs] at h
        simp only [Option.bind_some, Option.map_eq_some_iff] at h
        obtain ⟨t, ht, rfl⟩ := h
        have hp := step1_pos' l e d hs
        have := ih (l.drop d.2) t (by simp; omega) ht
        simp at this ⊢
        omega
end Pl
set_option maxHeartbeats 400000 in
theorem count_any (s : ByteArray) (w : World) (hs : s.size ≤ 140737488351232) :
    Calls Tryz.prog 70 #[.string s] w fun e w' => e = .returned (.int .i64 (Pl.count s)) ∧ Grew w w' := by
  cases hr : Pl.runes s.data.toList with
  | none =>
    have hq : Pl.right s = false := by unfold Pl.right; rw [hr]; rfl
    have hc : Pl.count s = -1 := by unfold Pl.count; rw [hr]
    have HC := hid hc
    clear hc hr
    go_enter Tryz.func70, Tryz.ntmps70
    go_wp2_with (go_at_call 107; refine (right_any _ _ hs).mono ?_; rintro e w' ⟨rfl, p, rfl⟩)
    go_ret
    exact ⟨ret_int HC.out.symm, (Grew.refl w).iter _ _⟩
  | some l =>
    have hq : Pl.right s = true := by unfold Pl.right; rw [hr]; rfl
    have hc : Pl.count s = l.length := by unfold Pl.count; rw [hr]
    have hl : l.length ≤ s.size := by simpa using Pl.runes_len _ _ l (Nat.le_refl _) hr
    have HC := hid hc
    have HR := hid hr
    clear hc hr
    go_enter Tryz.func70, Tryz.ntmps70
    go_wp2_with (go_at_call 107; refine (right_any _ _ hs).mono ?_; rintro e w' ⟨rfl, p, rfl⟩)
    obtain ⟨W1, hW1⟩ : ∃ W1, W1 = w.iter s p := ⟨_, rfl⟩
    have hG : Grew w W1 := by rw [hW1]; exact (Grew.refl w).iter _ _
    rw [← hW1]
    clear hW1
    go_wp2
    go_loopw [3] (fun n w' => ∃ (q k : Nat) (r : List Nat), n = .int .i64 k ∧ w' = W1.iter s q ∧ q ≤ s.size ∧ Hid (Pl.runesAt s q = some r) ∧ Hid (k + r.length = l.length) ∧ k ≤ l.length) (fun _ w' => s.size - w'.iterPos W1.heap.size)
    case atStart => exact ⟨0, 0, l, rfl, rfl, Nat.zero_le _, HR.out, by simp [Hid], by omega⟩
    case round =>
      obtain ⟨q, k, r, rfl, rfl, hq2, HA, HL, hkl⟩ := hrel
      by_cases hp : q < s.size
      · have hnx : ∀ ty, (Instr.next (.pointer (some ⟨W1.heap.size, 0, none⟩)) true ty).run Tryz.prog (W1.iter s q) = _ := fun ty => run_next_any W1 s q ty hp
        have HN := hid (Pl.runes_round s q r hp HA.out)
        go_wp2
        obtain ⟨t, rfl, ht, h1, h2⟩ := HN.out
        have hlen := HL.out
        simp only [List.length_cons] at hlen
        go_roundw
        case rel => exact ⟨_, k + 1, t, by go_num, rfl, h1, ht, by unfold Hid; omega, by omega⟩
        case measure => simp; omega
      · have hnx : ∀ ty, (Instr.next (.pointer (some ⟨W1.heap.size, 0, none⟩)) true ty).run Tryz.prog (W1.iter s q) = _ := fun ty => run_next_end W1 s q ty hp
        have HN := hid (Pl.runes_done s q r hp HA.out)
        go_wp2
        go_ret
        have e1 := HN.out
        have hlen := HL.out
        rw [e1] at hlen
        simp at hlen
        exact ⟨ret_int (by rw [HC.out]; omega), hG.iter _ _⟩
theorem load_iter (W : World) (s : ByteArray) (p g : Nat) (v : Value) (h : W.cell? ⟨g, 0, none⟩ = some v) : (W.iter s p).cell? ⟨g, 0, none⟩ = some v :=
  ((Grew.refl W).iter s p).below.cell (p := ⟨g, 0, none⟩) (cell_lt h) |>.trans h
set_option maxHeartbeats 400000 in
theorem key_any (S : Nat → Bool) (E : Nat → Addr) (h2 : S 2 = true) (h3 : S 3 = true) (h6 : S 6 = true) (h7 : S 7 = true) (s : ByteArray) (w : World) (hs : s.size ≤ 140737488351232) (hE : Errs S E w) :
    Calls Tryz.prog 44 #[.string s] w fun e w' => e = .returned (errOf E (Pl.keyN s)) ∧ Grew w w' := by
  have HE := hid hE
  clear hE
  cases hr : Pl.runes s.data.toList with
  | none =>
    have hc : Pl.count s = -1 := by unfold Pl.count; rw [hr]
    have hk : Pl.keyN s = 6 := by unfold Pl.keyN; rw [hr]
    have HC := hid hc
    have HK := hid hk
    clear hc hr hk
    go_enter Tryz.func44, Tryz.ntmps44
    go_wp2_with (go_at_call 70; refine (count_any _ _ hs).mono ?_; rw [HC.out]; rintro e W1 ⟨rfl, hG⟩; have c6 : W1.cell? ⟨5, 0, none⟩ = some (.iface 476 (.pointer (some (E 6)))) := (HE.out.grew hG).cell 6 h6)
    go_ret
    exact ⟨ret_val (by rw [HK.out]; rfl), hG⟩
  | some l =>
    have hc : Pl.count s = (l.length : Int) := by unfold Pl.count; rw [hr]
    have hk : Pl.keyN s = Pl.keyL l := by unfold Pl.keyN; rw [hr]
    have hl : l.length ≤ s.size := by simpa using Pl.runes_len _ _ l (Nat.le_refl _) hr
    have HC := hid hc
    have HK := hid hk
    have HR := hid hr
    clear hc hr hk
    by_cases l0 : l.length = 0
    · have hk2 : Pl.keyL l = 2 := by unfold Pl.keyL; rw [if_pos l0]
      have HC2 : Hid (Pl.count s = 0) := by unfold Hid; rw [HC.out, l0]; rfl
      have HK2 := hid hk2
      clear hk2 l0
      go_enter Tryz.func44, Tryz.ntmps44
      go_wp2_with (go_at_call 70; refine (count_any _ _ hs).mono ?_; rw [HC2.out]; rintro e W1 ⟨rfl, hG⟩; have c6 : W1.cell? ⟨1, 0, none⟩ = some (.iface 476 (.pointer (some (E 2)))) := (HE.out.grew hG).cell 2 h2)
      go_ret
      exact ⟨ret_val (by rw [HK.out, HK2.out]; rfl), hG⟩
    · by_cases l24 : 24 < l.length
      · have hk2 : Pl.keyL l = 3 := by unfold Pl.keyL; rw [if_neg l0, if_pos l24]
        have HK2 := hid hk2
        clear hk2
        go_enter Tryz.func44, Tryz.ntmps44
        go_wp2_with (go_at_call 70; refine (count_any _ _ hs).mono ?_; rw [HC.out]; rintro e W1 ⟨rfl, hG⟩; have c6 : W1.cell? ⟨2, 0, none⟩ = some (.iface 476 (.pointer (some (E 3)))) := (HE.out.grew hG).cell 3 h3)
        go_ret
        exact ⟨ret_val (by rw [HK.out, HK2.out]; rfl), hG⟩
      · have hk2 : Pl.keyL l = if l.any Pl.badRune then 7 else 0 := by unfold Pl.keyL; rw [if_neg l0, if_neg l24]
        have HK2 := hid hk2
        clear hk2
        have b0 : ((l.length : Int) == 0) = false := beq_eq_false_iff_ne.2 (by omega)
        have b1 : decide ((l.length : Int) < 0) = false := by simp
        have b2 : decide ((24 : Int) < (l.length : Int)) = false := by simp; omega
        go_enter Tryz.func44, Tryz.ntmps44
        go_wp2_with (go_at_call 70; refine (count_any _ _ hs).mono ?_; rw [HC.out]; rintro e W1 ⟨rfl, hG⟩)
        have hE1 := HE.out.grew hG
        have c7 : W1.cell? ⟨6, 0, none⟩ = some (.iface 476 (.pointer (some (E 7)))) := hE1.cell 7 h7
        clear hE1
        go_loopw [5] (fun _ w' => ∃ (q : Nat) (r : List Nat), w' = W1.iter s q ∧ q ≤ s.size ∧ Hid (Pl.runesAt s q = some r) ∧ Hid (r.any Pl.badRune = l.any Pl.badRune)) (fun _ w' => s.size - w'.iterPos W1.heap.size)
        case atStart => exact ⟨0, l, rfl, Nat.zero_le _, HR.out, rfl⟩
        case round =>
          obtain ⟨q, r, rfl, hq2, HA, HL⟩ := hrel
          by_cases hp : q < s.size
          · have hnx : ∀ ty, (Instr.next (.pointer (some ⟨W1.heap.size, 0, none⟩)) true ty).run Tryz.prog (W1.iter s q) = _ := fun ty => run_next_any W1 s q ty hp
            have HN := hid (Pl.runes_round s q r hp HA.out)
            have c7' := load_iter W1 s (q + (Utf8.decode s q).2) 6 _ c7
            go_wp2
            · obtain ⟨t, rfl, ht, h1, h2⟩ := HN.out
              have g1 : (32 : Int) ≤ (Utf8.decode s q).1 := by assumption
              have g2 : ((Utf8.decode s q).1 : Int) < 32 ∨ (((Utf8.decode s q).1 : Int) == 127) = true := by assumption
              have g3 : (Utf8.decode s q).1 = 127 := by rcases g2 with g2 | g2; exact absurd g2 (by omega); have := eq_of_beq g2; omega
              have hb : l.any Pl.badRune = true := by rw [← HL.out]; simp [Pl.badRune, g3]
              go_ret
              exact ⟨ret_val (by rw [HK.out, HK2.out, if_pos hb]; rfl), hG.iter _ _⟩
            · obtain ⟨t, rfl, ht, h1, h2⟩ := HN.out
              have g2 : (32 : Int) ≤ (Utf8.decode s q).1 ∧ (((Utf8.decode s q).1 : Int) == 127) = false := by assumption
              have g3 : Pl.badRune (Utf8.decode s q).1 = false := by simp [Pl.badRune] at g2 ⊢; omega
              go_roundw
              case rel => exact ⟨_, t, rfl, h1, ht, by unfold Hid; rw [← HL.out]; simp [g3]⟩
              case measure => simp; omega
            · obtain ⟨t, rfl, ht, h1, h2⟩ := HN.out
              have g1 : ((Utf8.decode s q).1 : Int) < 32 := by assumption
              have hb : l.any Pl.badRune = true := by
                have g3 : Pl.badRune (Utf8.decode s q).1 = true := by simp [Pl.badRune]; omega
                rw [← HL.out]; simp [g3]
              go_ret
              exact ⟨ret_val (by rw [HK.out, HK2.out, if_pos hb]; rfl), hG.iter _ _⟩
          · have hnx : ∀ ty, (Instr.next (.pointer (some ⟨W1.heap.size, 0, none⟩)) true ty).run Tryz.prog (W1.iter s q) = _ := fun ty => run_next_end W1 s q ty hp
            have HN := hid (Pl.runes_done s q r hp HA.out)
            go_wp2
            go_ret
            have e1 := HN.out
            have hlen := HL.out
            rw [e1] at hlen
            simp at hlen
            exact ⟨ret_val (by rw [HK.out, HK2.out, if_neg (by simpa using hlen)]; rfl), hG.iter _ _⟩
end Go.Proofs.YtlgcdneiebjkcaaGreatDoor
