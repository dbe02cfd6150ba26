/- Runes2, Runes3, CmpD0, CmpO: one text. -/
import Derived.Test.YtbdagllflamabaaGreatDoorFinWatchSpansQ1
import Derived.Laws.IdiomStrings
import Derived.Shelf.GgSortFunc.Insertion
namespace Go.Proofs.YtbdagllflamabaaGreatDoor
open Go.RowKit
namespace Pl
def count (s : ByteArray) : Int := match runes s.data.toList with | none => -1 | some l => l.length
def badRune (c : Nat) : Bool := decide (c < 32) || decide (c = 127)
def keyL (l : List Nat) : Nat := if l.length = 0 then 2 else if 24 < l.length then 3 else if l.any badRune then 7 else 0
def keyN (s : ByteArray) : Nat := match runes s.data.toList with | none => 6 | some l => keyL l
theorem runes_round (s : ByteArray) (p : Nat) (r : List Nat) (hp : p < s.size) (h : runesAt s p = some r) :
    ∃ t, r = (Utf8.decode s p).1 :: t ∧ runesAt s (p + (Utf8.decode s p).2) = some t ∧ p + (Utf8.decode s p).2 ≤ s.size ∧ 1 ≤ (Utf8.decode s p).2 := by
  rw [runesAt_step s p hp] at h
  split at h
  · cases h
  · next hne =>
    simp only [Option.map_eq_some_iff] at h
    obtain ⟨t, ht, rfl⟩ := h
    have e := step1_at s p
    rw [if_neg hne] at e
    exact ⟨t, rfl, ht, width_le s p hp hne, (step1_pos' _ (suf_ne s p hp) _ e).1⟩
theorem runes_done (s : ByteArray) (p : Nat) (r : List Nat) (hp : ¬ p < s.size) (h : runesAt s p = some r) : r = [] := by
  rw [runesAt_end s p hp] at h; exact (Option.some.inj h).symm
theorem runes_len : ∀ (n : Nat) (l : List UInt8) (r : List Nat), l.length ≤ n → runes l = some r → r.length ≤ l.length := by
  intro n
  induction n with
  | zero =>
    intro l r hl h
    have : l = [] := List.eq_nil_of_length_eq_zero (by omega)
    subst this
    rw [runes_nil] at h; cases h; simp
  | succ n ih =>
    intro l r hl h
    by_cases e : l = []
    · subst e; rw [runes_nil] at h; cases h; simp
    · rw [runes_step l e] at h
      cases hs : step1 l with
      | none => rw [hs] at h; cases h
      | some d =>
        rw [hs] at h
        simp only [Option.bind_some, Option.map_eq_some_iff] at h
        obtain ⟨t, ht, rfl⟩ := h
        have hp := step1_pos' l e d hs
        have := ih (l.drop d.2) t (by simp; omega) ht
        simp at this ⊢
        omega
end Pl
set_option maxHeartbeats 400000 in
theorem count_any (s : ByteArray) (w : World) (hs : s.size ≤ 140737488351232) :
    Calls Tryz.prog 104 #[.string s] w fun e w' => e = .returned (.int .i64 (Pl.count s)) ∧ Grew w w' := by
  cases hr : Pl.runes s.data.toList with
  | none =>
    have hq : Pl.right s = false := by unfold Pl.right; rw [hr]; rfl
    have hc : Pl.count s = -1 := by unfold Pl.count; rw [hr]
    have HC := hid hc
    clear hc hr
    go_enter Tryz.func104, Tryz.ntmps104
    go_wp2_with (go_at_call 105; refine (right_any _ _ hs).mono ?_; rintro e w' ⟨rfl, p, rfl⟩)
    go_ret
    exact ⟨ret_int HC.out.symm, (Grew.refl w).iter _ _⟩
  | some l =>
    have hq : Pl.right s = true := by unfold Pl.right; rw [hr]; rfl
    have hc : Pl.count s = l.length := by unfold Pl.count; rw [hr]
    have hl : l.length ≤ s.size := by simpa using Pl.runes_len _ _ l (Nat.le_refl _) hr
    have HC := hid hc
    have HR := hid hr
    clear hc hr
    go_enter Tryz.func104, Tryz.ntmps104
    go_wp2_with (go_at_call 105; refine (right_any _ _ hs).mono ?_; rintro e w' ⟨rfl, p, rfl⟩)
    obtain ⟨W1, hW1⟩ : ∃ W1, W1 = w.iter s p := ⟨_, rfl⟩
    have hG : Grew w W1 := by rw [hW1]; exact (Grew.refl w).iter _ _
    rw [← hW1]
    clear hW1
    go_wp2
    go_loopw [3] (fun n w' => ∃ (q k : Nat) (r : List Nat), n = .int .i64 k ∧ w' = W1.iter s q ∧ q ≤ s.size ∧ Hid (Pl.runesAt s q = some r) ∧ Hid (k + r.length = l.length) ∧ k ≤ l.length) (fun _ w' => s.size - w'.iterPos W1.heap.size)
    case atStart => exact ⟨0, 0, l, rfl, rfl, Nat.zero_le _, HR.out, by simp [Hid], by omega⟩
    case round =>
      obtain ⟨q, k, r, rfl, rfl, hq2, HA, HL, hkl⟩ := hrel
      by_cases hp : q < s.size
      · have hnx : ∀ ty, (Instr.next (.pointer (some ⟨W1.heap.size, 0, none⟩)) true ty).run Tryz.prog (W1.iter s q) = _ := fun ty => run_next_any W1 s q ty hp
        have HN := hid (Pl.runes_round s q r hp HA.out)
        go_wp2
        obtain ⟨t, rfl, ht, h1, h2⟩ := HN.out
        have hlen := HL.out
        simp only [List.length_cons] at hlen
        go_roundw
        case rel => exact ⟨_, k + 1, t, by go_num, rfl, h1, ht, by unfold Hid; omega, by omega⟩
        case measure => simp; omega
      · have hnx : ∀ ty, (Instr.next (.pointer (some ⟨W1.heap.size, 0, none⟩)) true ty).run Tryz.prog (W1.iter s q) = _ := fun ty => run_next_end W1 s q ty hp
        have HN := hid (Pl.runes_done s q r hp HA.out)
        go_wp2
        go_ret
        have e1 := HN.out
        have hlen := HL.out
        rw [e1] at hlen
        simp at hlen
        exact ⟨ret_int (by rw [HC.out]; omega), hG.iter _ _⟩
theorem load_iter (W : World) (s : ByteArray) (p g : Nat) (v : Value) (h : W.cell? ⟨g, 0, none⟩ = some v) : (W.iter s p).cell? ⟨g, 0, none⟩ = some v :=
  ((Grew.refl W).iter s p).below.cell (p := ⟨g, 0, none⟩) (cell_lt h) |>.trans h
set_option maxHeartbeats 400000 in
theorem key_any (S : Nat → Bool) (E : Nat → Addr) (h2 : S 2 = true) (h3 : S 3 = true) (h6 : S 6 = true) (h7 : S 7 = true) (s : ByteArray) (w : World) (hs : s.size ≤ 140737488351232) (hE : Errs S E w) :
    Calls Tryz.prog 58 #[.string s] w fun e w' => e = .returned (errOf E (Pl.keyN s)) ∧ Grew w w' := by
  have HE := hid hE
  clear hE
  cases hr : Pl.runes s.data.toList with
  | none =>
    have hc : Pl.count s = -1 := by unfold Pl.count; rw [hr]
    have hk : Pl.keyN s = 6 := by unfold Pl.keyN; rw [hr]
    have HC := hid hc
    have HK := hid hk
    clear hc hr hk
    go_enter Tryz.func58, Tryz.ntmps58
    go_wp2_with (go_at_call 104; refine (count_any _ _ hs).mono ?_; rw [HC.out]; rintro e W1 ⟨rfl, hG⟩; have c6 : W1.cell? ⟨5, 0, none⟩ = some (.iface 343 (.pointer (some (E 6)))) := (HE.out.grew hG).cell 6 h6)
    go_ret
    exact ⟨ret_val (by rw [HK.out]; rfl), hG⟩
  | some l =>
    have hc : Pl.count s = (l.length : Int) := by unfold Pl.count; rw [hr]
    have hk : Pl.keyN s = Pl.keyL l := by unfold Pl.keyN; rw [hr]
    have hl : l.length ≤ s.size := by simpa using Pl.runes_len _ _ l (Nat.le_refl _) hr
    have HC := hid hc
    have HK := hid hk
    have HR := hid hr
    clear hc hr hk
    by_cases l0 : l.length = 0
    · have hk2 : Pl.keyL l = 2 := by unfold Pl.keyL; rw [if_pos l0]
      have HC2 : Hid (Pl.count s = 0) := by unfold Hid; rw [HC.out, l0]; rfl
      have HK2 := hid hk2
      clear hk2 l0
      go_enter Tryz.func58, Tryz.ntmps58
      go_wp2_with (go_at_call 104; refine (count_any _ _ hs).mono ?_; rw [HC2.out]; rintro e W1 ⟨rfl, hG⟩; have c6 : W1.cell? ⟨2, 0, none⟩ = some (.iface 343 (.pointer (some (E 2)))) := (HE.out.grew hG).cell 2 h2)
      go_ret
      exact ⟨ret_val (by rw [HK.out, HK2.out]; rfl), hG⟩
    · by_cases l24 : 24 < l.length
      · have hk2 : Pl.keyL l = 3 := by unfold Pl.keyL; rw [if_neg l0, if_pos l24]
        have HK2 := hid hk2
        clear hk2
        go_enter Tryz.func58, Tryz.ntmps58
        go_wp2_with (go_at_call 104; refine (count_any _ _ hs).mono ?_; rw [HC.out]; rintro e W1 ⟨rfl, hG⟩; have c6 : W1.cell? ⟨3, 0, none⟩ = some (.iface 343 (.pointer (some (E 3)))) := (HE.out.grew hG).cell 3 h3)
        go_ret
        exact ⟨ret_val (by rw [HK.out, HK2.out]; rfl), hG⟩
      · have hk2 : Pl.keyL l = if l.any Pl.badRune then 7 else 0 := by unfold Pl.keyL; rw [if_neg l0, if_neg l24]
        have HK2 := hid hk2
        clear hk2
        have b0 : ((l.length : Int) == 0) = false := beq_eq_false_iff_ne.2 (by omega)
        have b1 : decide ((l.length : Int) < 0) = false := by simp
        have b2 : decide ((24 : Int) < (l.length : Int)) = false := by simp; omega
        go_enter Tryz.func58, Tryz.ntmps58
        go_wp2_with (go_at_call 104; refine (count_any _ _ hs).mono ?_; rw [HC.out]; rintro e W1 ⟨rfl, hG⟩)
        have hE1 := HE.out.grew hG
        have c7 : W1.cell? ⟨6, 0, none⟩ = some (.iface 343 (.pointer (some (E 7)))) := hE1.cell 7 h7
        clear hE1
        go_loopw [5] (fun _ w' => ∃ (q : Nat) (r : List Nat), w' = W1.iter s q ∧ q ≤ s.size ∧ Hid (Pl.runesAt s q = some r) ∧ Hid (r.any Pl.badRune = l.any Pl.badRune)) (fun _ w' => s.size - w'.iterPos W1.heap.size)
        case atStart => exact ⟨0, l, rfl, Nat.zero_le _, HR.out, rfl⟩
        case round =>
          obtain ⟨q, r, rfl, hq2, HA, HL⟩ := hrel
          by_cases hp : q < s.size
          · have hnx : ∀ ty, (Instr.next (.pointer (some ⟨W1.heap.size, 0, none⟩)) true ty).run Tryz.prog (W1.iter s q) = _ := fun ty => run_next_any W1 s q ty hp
            have HN := hid (Pl.runes_round s q r hp HA.out)
            have c7' := load_iter W1 s (q + (Utf8.decode s q).2) 6 _ c7
            go_wp2
            · obtain ⟨t, rfl, ht, h1, h2⟩ := HN.out
              have g1 : (32 : Int) ≤ (Utf8.decode s q).1 := by assumption
              have g2 : ((Utf8.decode s q).1 : Int) < 32 ∨ (((Utf8.decode s q).1 : Int) == 127) = true := by assumption
              have g3 : (Utf8.decode s q).1 = 127 := by rcases g2 with g2 | g2; exact absurd g2 (by omega); have := eq_of_beq g2; omega
              have hb : l.any Pl.badRune = true := by rw [← HL.out]; simp [Pl.badRune, g3]
              go_ret
              exact ⟨ret_val (by rw [HK.out, HK2.out, if_pos hb]; rfl), hG.iter _ _⟩
            · obtain ⟨t, rfl, ht, h1, h2⟩ := HN.out
              have g2 : (32 : Int) ≤ (Utf8.decode s q).1 ∧ (((Utf8.decode s q).1 : Int) == 127) = false := by assumption
              have g3 : Pl.badRune (Utf8.decode s q).1 = false := by simp [Pl.badRune] at g2 ⊢; omega
              go_roundw
              case rel => exact ⟨_, t, rfl, h1, ht, by unfold Hid; rw [← HL.out]; simp [g3]⟩
              case measure => simp; omega
            · obtain ⟨t, rfl, ht, h1, h2⟩ := HN.out
              have g1 : ((Utf8.decode s q).1 : Int) < 32 := by assumption
              have hb : l.any Pl.badRune = true := by
                have g3 : Pl.badRune (Utf8.decode s q).1 = true := by simp [Pl.badRune]; omega
                rw [← HL.out]; simp [g3]
              go_ret
              exact ⟨ret_val (by rw [HK.out, HK2.out, if_pos hb]; rfl), hG.iter _ _⟩
          · have hnx : ∀ ty, (Instr.next (.pointer (some ⟨W1.heap.size, 0, none⟩)) true ty).run Tryz.prog (W1.iter s q) = _ := fun ty => run_next_end W1 s q ty hp
            have HN := hid (Pl.runes_done s q r hp HA.out)
            go_wp2
            go_ret
            have e1 := HN.out
            have hlen := HL.out
            rw [e1] at hlen
            simp at hlen
            exact ⟨ret_val (by rw [HK.out, HK2.out, if_neg (by simpa using hlen)]; rfl), hG.iter _ _⟩
end Go.Proofs.YtbdagllflamabaaGreatDoor
namespace Go.Proofs.YtbdagllflamabaaGreatDoor
open Go.RowKit
namespace Pl
def cmpNum (a b : Int) : Int := if a < b then -1 else if b < a then 1 else 0
def cmpNums : List Nat → List Nat → Int
  | [], [] => 0
  | [], _ :: _ => -1
  | _ :: _, [] => 1
  | a :: x, b :: y => if a < b then -1 else if b < a then 1 else cmpNums x y
def compare (a b : ByteArray) : Int := match runes a.data.toList, runes b.data.toList with | some x, some y => cmpNums x y | _, _ => 0
end Pl
theorem cmp_rune (a b : Int) (w : World) : Calls Tryz.prog 109 #[.int .i32 a, .int .i32 b] w fun e w' => e = .returned (.int .i64 (Pl.cmpNum a b)) ∧ w = w' := by
  by_cases h1 : a < b
  · have e : Pl.cmpNum a b = -1 := by unfold Pl.cmpNum; rw [if_pos h1]
    rw [e]
    go_enter Tryz.func109, Tryz.ntmps109
    go_wp2
    go_ret
    exact ⟨rfl, rfl⟩
  · by_cases h2 : b < a
    · have e : Pl.cmpNum a b = 1 := by unfold Pl.cmpNum; rw [if_neg h1, if_pos h2]
      rw [e]
      go_enter Tryz.func109, Tryz.ntmps109
      go_wp2
      go_ret
      exact ⟨rfl, rfl⟩
    · have e : Pl.cmpNum a b = 0 := by unfold Pl.cmpNum; rw [if_neg h1, if_neg h2]
      rw [e]
      go_enter Tryz.func109, Tryz.ntmps109
      go_wp2
      go_ret
      exact ⟨rfl, rfl⟩
theorem cmp_lit (a b : Int) (w : World) : Calls Tryz.prog 108 #[.int .i32 a, .int .i32 b] w fun e w' => e = .returned (.int .i64 (Pl.cmpNum a b)) ∧ w = w' := by
  go_enter Tryz.func108, Tryz.ntmps108
  go_wp2_with (go_at_call 109; refine (cmp_rune a b _).mono ?_; rintro e w' ⟨rfl, rfl⟩)
  go_ret
  exact ⟨rfl, rfl⟩
def RuneRow (w : World) (v : Value) (l : List Nat) : Prop :=
  ∃ b cap, v = .slice (some ⟨b, 0, none⟩) l.length cap ∧ ∀ i, i < l.length → w.cell? ⟨b, i, none⟩ = some (.int .i32 (l.getD i 0 : Nat))
theorem runesFrom_list (s : ByteArray) : ∀ (n p : Nat) (r : List Nat) (acc : Array Value), s.size ≤ p + n → Pl.runesAt s p = some r →
    Conv.runesFrom s n p acc = acc ++ (r.map fun c => Value.int .i32 (c : Nat)).toArray := by
  intro n
  induction n with
  | zero =>
    intro p r acc hn h
    rw [Pl.runesAt_end s p (by omega)] at h
    cases h
    simp [Conv.runesFrom]
  | succ n ih =>
    intro p r acc hn h
    unfold Conv.runesFrom
    by_cases hp : p < s.size
    · obtain ⟨t, rfl, ht, h1, h2⟩ := Pl.runes_round s p r hp h
      rw [if_pos hp]
      show Conv.runesFrom s n (p + (Utf8.decode s p).2) (acc.push (.int .i32 (Int.ofNat (Utf8.decode s p).1))) = _
      rw [ih _ t _ (by omega) ht]
      apply Array.ext'
      simp
    · rw [Pl.runesAt_end s p hp] at h
      cases h
      rw [if_neg hp]
      simp
set_option maxHeartbeats 400000 in
theorem list_any (s : ByteArray) (l : List Nat) (w : World) (hs : s.size ≤ 70368744177664) (hr : Pl.runes s.data.toList = some l) :
    Calls Tryz.prog 107 #[.string s] w fun e w' => ∃ v, e = .returned v ∧ RuneRow w' v l ∧ Grew w w' := by
  have hq : Pl.right s = true := by unfold Pl.right; rw [hr]; rfl
  have hf : Conv.runesFrom s s.size 0 #[] = (l.map fun c => Value.int .i32 (c : Nat)).toArray := by
    rw [runesFrom_list s s.size 0 l #[] (by omega) hr]; simp
  have hcv := fun W => run_runes_of_string (P := Tryz.prog) W 9 179 21 s Tryz.underlying9 Tryz.underlying179 Tryz.underlying21 (by have := size_runesFrom s s.size 0 #[]; simp at this; omega)
  rw [hf] at hcv
  have HF := hid hf
  have HR := hid hr
  clear hf hr
  go_enter Tryz.func107, Tryz.ntmps107
  go_wp2_with (go_at_call 105; refine (right_any _ _ (by omega)).mono ?_; rintro e w' ⟨rfl, p, rfl⟩)
  go_ret
  refine ⟨_, rfl, ⟨_, _, rfl, fun i hi => ?_⟩, (((Grew.refl w).iter _ _).alloc _).drew⟩
  show (World.alloc _ _).cell? _ = _
  rw [cell_of_row _ _ _ _ _ _ (heap_alloc_new _ _), Array.getElem?_append_left (by simpa using hi)]
  simp [hi]
theorem RuneRow.grew {w w' : World} {v : Value} {l : List Nat} (h : RuneRow w v l) (g : Grew w w') : RuneRow w' v l := by
  obtain ⟨b, cap, rfl, hc⟩ := h
  refine ⟨b, cap, rfl, fun i hi => ?_⟩
  rw [← hc i hi]
  exact g.below.cell (p := ⟨b, i, none⟩) (cell_lt (hc i hi))
namespace Pl
theorem cmpNums_step (x y : List Nat) (n : Nat) (h1 : n < x.length) (h2 : n < y.length) :
    cmpNums (x.drop n) (y.drop n) = if x.getD n 0 < y.getD n 0 then -1 else if y.getD n 0 < x.getD n 0 then 1 else cmpNums (x.drop (n + 1)) (y.drop (n + 1)) := by
  rw [List.drop_eq_getElem_cons h1, List.drop_eq_getElem_cons h2]
  have e1 : x.getD n 0 = x[n] := by rw [List.getD_eq_getElem?_getD, List.getElem?_eq_getElem h1]; rfl
  have e2 : y.getD n 0 = y[n] := by rw [List.getD_eq_getElem?_getD, List.getElem?_eq_getElem h2]; rfl
  rw [e1, e2]
  rfl
theorem cmpNums_left (x y : List Nat) (n : Nat) (h1 : n < x.length) (h2 : ¬ n < y.length) : cmpNums (x.drop n) (y.drop n) = 1 := by
  rw [List.drop_eq_getElem_cons h1, List.drop_of_length_le (by omega : y.length ≤ n)]; rfl
theorem cmpNums_right (x y : List Nat) (n : Nat) (h1 : ¬ n < x.length) (h2 : n < y.length) : cmpNums (x.drop n) (y.drop n) = -1 := by
  rw [List.drop_eq_getElem_cons h2, List.drop_of_length_le (by omega : x.length ≤ n)]; rfl
theorem cmpNums_none (x y : List Nat) (n : Nat) (h1 : ¬ n < x.length) (h2 : ¬ n < y.length) : cmpNums (x.drop n) (y.drop n) = 0 := by
  rw [List.drop_of_length_le (by omega : y.length ≤ n), List.drop_of_length_le (by omega : x.length ≤ n)]; rfl
end Pl
set_option maxHeartbeats 800000 in
theorem compareFunc_any (v1 v2 : Value) (x y : List Nat) (w : World) (h1 : RuneRow w v1 x) (h2 : RuneRow w v2 y) (hx : x.length ≤ 140737488351232) :
    Calls Tryz.prog 106 #[v1, v2, .func (.func 108) #[] #[]] w fun e w' => e = .returned (.int .i64 (Pl.cmpNums x y)) ∧ w = w' := by
  obtain ⟨b1, cap1, rfl, hc1⟩ := h1
  obtain ⟨b2, cap2, rfl, hc2⟩ := h2
  have C1 := hid hc1
  have C2 := hid hc2
  clear hc1 hc2
  go_enter Tryz.func106, Tryz.ntmps106
  go_wp2
  go_loop [7, 8, 9, 10, 13] (fun _ _ _ _ i => ∃ n : Nat, i = .int .i64 n ∧ n ≤ x.length ∧ n ≤ y.length ∧ Hid (Pl.cmpNums (x.drop n) (y.drop n) = Pl.cmpNums x y)) (fun _ _ _ _ i => x.length - (intOf i).toNat)
  case atStart => exact ⟨0, rfl, Nat.zero_le _, Nat.zero_le _, rfl⟩
  case round =>
    obtain ⟨n, rfl, hn1, hn2, HN⟩ := hrel
    by_cases l1 : n < x.length
    · have c1 := C1.out n l1
      by_cases l2 : n < y.length
      · have c2 := C2.out n l2
        have hst := hid (Pl.cmpNums_step x y n l1 l2)
        obtain ⟨a, ha⟩ : ∃ a, a = x.getD n 0 := ⟨_, rfl⟩
        obtain ⟨b, hb⟩ : ∃ b, b = y.getD n 0 := ⟨_, rfl⟩
        rw [← ha] at c1
        rw [← hb] at c2
        rw [← ha, ← hb] at hst
        clear ha hb
        have HS := hst
        by_cases q1 : a < b
        · have e : Pl.cmpNum (a : Int) b = -1 := by unfold Pl.cmpNum; rw [if_pos (by omega)]
          have e2 : Pl.cmpNums x y = -1 := by rw [← HN.out, HS.out, if_pos q1]
          have E2 := hid e2
          clear e2
          go_wp2_with (go_at_call 108; refine (cmp_lit _ _ _).mono ?_; rw [e]; rintro e w' ⟨rfl, rfl⟩)
          go_ret
          exact ⟨ret_int E2.out.symm, rfl⟩
        · by_cases q2 : b < a
          · have e : Pl.cmpNum (a : Int) b = 1 := by unfold Pl.cmpNum; rw [if_neg (by omega), if_pos (by omega)]
            have e2 : Pl.cmpNums x y = 1 := by rw [← HN.out, HS.out, if_neg q1, if_pos q2]
            have E2 := hid e2
            clear e2
            go_wp2_with (go_at_call 108; refine (cmp_lit _ _ _).mono ?_; rw [e]; rintro e w' ⟨rfl, rfl⟩)
            go_ret
            exact ⟨ret_int E2.out.symm, rfl⟩
          · have e : Pl.cmpNum (a : Int) b = 0 := by unfold Pl.cmpNum; rw [if_neg (by omega), if_neg (by omega)]
            have e2 : Pl.cmpNums (x.drop (n + 1)) (y.drop (n + 1)) = Pl.cmpNums x y := by rw [← HN.out, HS.out, if_neg q1, if_neg q2]
            have E2 := hid e2
            clear e2
            go_wp2_with (go_at_call 108; refine (cmp_lit _ _ _).mono ?_; rw [e]; rintro e w' ⟨rfl, rfl⟩)
            go_round
            case rel => exact ⟨n + 1, by go_num, by omega, by omega, E2⟩
            case measure => simp [intOf]; omega
      · have e2 : Pl.cmpNums x y = 1 := by rw [← HN.out, Pl.cmpNums_left x y n l1 l2]
        have E2 := hid e2
        clear e2
        go_wp2
        go_ret
        exact ⟨ret_int E2.out.symm, rfl⟩
    · by_cases l2 : n < y.length
      · have e2 : Pl.cmpNums x y = -1 := by rw [← HN.out, Pl.cmpNums_right x y n l1 l2]
        have E2 := hid e2
        clear e2
        go_wp2
        go_ret
        exact ⟨ret_int E2.out.symm, rfl⟩
      · have e2 : Pl.cmpNums x y = 0 := by rw [← HN.out, Pl.cmpNums_none x y n l1 l2]
        have E2 := hid e2
        clear e2
        go_wp2
        go_ret
        exact ⟨ret_int E2.out.symm, rfl⟩
set_option maxHeartbeats 400000 in
theorem compare_any (a b : ByteArray) (w : World) (ha : a.size ≤ 70368744177664) (hb : b.size ≤ 70368744177664) :
    Calls Tryz.prog 59 #[.string a, .string b] w fun e w' => e = .returned (.int .i64 (Pl.compare a b)) ∧ Grew w w' := by
  cases hr : Pl.runes a.data.toList with
  | none =>
    have hq : Pl.right a = false := by unfold Pl.right; rw [hr]; rfl
    have hc : Pl.compare a b = 0 := by unfold Pl.compare; rw [hr]
    have HC := hid hc
    clear hc hr
    go_enter Tryz.func59, Tryz.ntmps59
    go_wp2_with (go_at_call 105; refine (right_any _ _ (by omega)).mono ?_; rintro e w' ⟨rfl, p, rfl⟩)
    go_ret
    exact ⟨ret_int HC.out.symm, (Grew.refl w).iter _ _⟩
  | some x =>
    have hq : Pl.right a = true := by unfold Pl.right; rw [hr]; rfl
    cases hr2 : Pl.runes b.data.toList with
    | none =>
      have hq2 : Pl.right b = false := by unfold Pl.right; rw [hr2]; rfl
      have hc : Pl.compare a b = 0 := by unfold Pl.compare; rw [hr, hr2]
      have HC := hid hc
      clear hc hr hr2
      go_enter Tryz.func59, Tryz.ntmps59
      go_wp2_with fail
      refine (right_any a _ (by omega)).mono ?_
      rintro e w' ⟨rfl, p, rfl⟩
      go_wp2_with fail
      refine (right_any b _ (by omega)).mono ?_
      rintro e w' ⟨rfl, q, rfl⟩
      go_wp2_with fail
      go_ret
      exact ⟨ret_int HC.out.symm, ((Grew.refl w).iter _ _).iter _ _⟩
    | some y =>
      have hq2 : Pl.right b = true := by unfold Pl.right; rw [hr2]; rfl
      have hc : Pl.compare a b = Pl.cmpNums x y := by unfold Pl.compare; rw [hr, hr2]
      have hx : x.length ≤ a.size := by simpa using Pl.runes_len _ _ x (Nat.le_refl _) hr
      have hy : y.length ≤ b.size := by simpa using Pl.runes_len _ _ y (Nat.le_refl _) hr2
      have HC := hid hc
      have HR := hid hr
      have HR2 := hid hr2
      clear hc hr hr2
      go_enter Tryz.func59, Tryz.ntmps59
      go_wp2_with fail
      refine (right_any a _ (by omega)).mono ?_
      rintro e w' ⟨rfl, p, rfl⟩
      go_wp2_with fail
      refine (right_any b _ (by omega)).mono ?_
      rintro e w' ⟨rfl, q, rfl⟩
      go_wp2_with fail
      refine (list_any a x _ ha HR.out).mono ?_
      rintro e w1 ⟨v1, rfl, hv1, hg1⟩
      go_wp2_with fail
      refine (list_any b y _ hb HR2.out).mono ?_
      rintro e w2 ⟨v2, rfl, hv2, hg2⟩
      go_wp2_with fail
      refine (compareFunc_any v1 v2 x y _ (hv1.grew hg2) hv2 (by omega)).mono ?_
      rintro e w' ⟨rfl, rfl⟩
      go_wp2_with fail
      go_ret
      exact ⟨ret_int HC.out.symm, (((Grew.refl w).iter _ _).iter _ _).trans (hg1.trans hg2)⟩
end Go.Proofs.YtbdagllflamabaaGreatDoor
set_option linter.unusedVariables false
namespace Go.Proofs.YtbdagllflamabaaGreatDoor
open Go.RowKit Go.Shelf Go.Lib Go.Sort
def GrewD (w w' : World) : Prop := Grew w w' ∧ w.drawn ≤ w'.drawn
theorem GrewD.refl (w : World) : GrewD w w := ⟨Grew.refl w, Nat.le_refl _⟩
theorem GrewD.trans {a b c : World} (h : GrewD a b) (k : GrewD b c) : GrewD a c := ⟨h.1.trans k.1, Nat.le_trans h.2 k.2⟩
theorem GrewD.alloc {a b : World} (h : GrewD a b) (o : Obj) : GrewD a (b.alloc o) := ⟨h.1.alloc o, h.2⟩
theorem GrewD.drew {a b : World} (h : GrewD a b) : GrewD a b.drew := ⟨h.1.drew, Nat.le_succ_of_le h.2⟩
theorem GrewD.iter {a b : World} (h : GrewD a b) (s : ByteArray) (p : Nat) : GrewD a (b.iter s p) := ⟨h.1.iter s p, h.2⟩
theorem GrewD.grown {w w' : World} (h : GrewD w w') : ∃ q os, w' = grow (w.drewN q) os := by
  obtain ⟨⟨h1, h2, h3, h4, h5⟩, h6⟩ := h
  refine ⟨w'.drawn - w.drawn, w'.heap.extract w.heap.size w'.heap.size, ?_⟩
  obtain ⟨hp, tp, dr, os, ou⟩ := w'
  obtain ⟨hp0, tp0, dr0, os0, ou0⟩ := w
  dsimp only at *
  subst h1 h2 h3
  unfold grow World.drewN
  dsimp only
  have e1 : dr0 + (dr - dr0) = dr := by omega
  have e2 : hp0 ++ hp.extract hp0.size hp.size = hp := by
    apply Array.ext_getElem?
    intro i
    rw [Array.getElem?_append]
    by_cases hi : i < hp0.size
    · rw [if_pos hi, h5 i hi]
    · rw [if_neg hi, Array.getElem?_extract]
      by_cases h7 : i < hp.size
      · rw [if_pos (by omega)]; congr 1; omega
      · rw [if_neg (by omega), Array.getElem?_eq_none (by omega)]
  rw [e1, e2]
set_option maxHeartbeats 400000 in
theorem listD_any (s : ByteArray) (l : List Nat) (w : World) (hs : s.size ≤ 70368744177664) (hr : Pl.runes s.data.toList = some l) :
    Calls Tryz.prog 107 #[.string s] w fun e w' => ∃ v, e = .returned v ∧ RuneRow w' v l ∧ GrewD w w' := by
  have hq : Pl.right s = true := by unfold Pl.right; rw [hr]; rfl
  have hf : Conv.runesFrom s s.size 0 #[] = (l.map fun c => Value.int .i32 (c : Nat)).toArray := by
    rw [runesFrom_list s s.size 0 l #[] (by omega) hr]; simp
  have hcv := fun W => run_runes_of_string (P := Tryz.prog) W 9 179 21 s Tryz.underlying9 Tryz.underlying179 Tryz.underlying21 (by have := size_runesFrom s s.size 0 #[]; simp at this; omega)
  rw [hf] at hcv
  have HF := hid hf
  have HR := hid hr
  clear hf hr
  go_enter Tryz.func107, Tryz.ntmps107
  go_wp2_with (go_at_call 105; refine (right_any _ _ (by omega)).mono ?_; rintro e w' ⟨rfl, p, rfl⟩)
  go_ret
  refine ⟨_, rfl, ⟨_, _, rfl, fun i hi => ?_⟩, (((GrewD.refl w).iter _ _).alloc _).drew⟩
  show (World.alloc _ _).cell? _ = _
  rw [cell_of_row _ _ _ _ _ _ (heap_alloc_new _ _), Array.getElem?_append_left (by simpa using hi)]
  simp [hi]
set_option maxHeartbeats 400000 in
theorem compareD_any (a b : ByteArray) (w : World) (ha : a.size ≤ 70368744177664) (hb : b.size ≤ 70368744177664) :
    Calls Tryz.prog 59 #[.string a, .string b] w fun e w' => e = .returned (.int .i64 (Pl.compare a b)) ∧ GrewD w w' := by
  cases hr : Pl.runes a.data.toList with
  | none =>
    have hq : Pl.right a = false := by unfold Pl.right; rw [hr]; rfl
    have hc : Pl.compare a b = 0 := by unfold Pl.compare; rw [hr]
    have HC := hid hc
    clear hc hr
    go_enter Tryz.func59, Tryz.ntmps59
    go_wp2_with (go_at_call 105; refine (right_any _ _ (by omega)).mono ?_; rintro e w' ⟨rfl, p, rfl⟩)
    go_ret
    exact ⟨ret_int HC.out.symm, (GrewD.refl w).iter _ _⟩
  | some x =>
    have hq : Pl.right a = true := by unfold Pl.right; rw [hr]; rfl
    cases hr2 : Pl.runes b.data.toList with
    | none =>
      have hq2 : Pl.right b = false := by unfold Pl.right; rw [hr2]; rfl
      have hc : Pl.compare a b = 0 := by unfold Pl.compare; rw [hr, hr2]
      have HC := hid hc
      clear hc hr hr2
      go_enter Tryz.func59, Tryz.ntmps59
      go_wp2_with fail
      refine (right_any a _ (by omega)).mono ?_
      rintro e w' ⟨rfl, p, rfl⟩
      go_wp2_with fail
      refine (right_any b _ (by omega)).mono ?_
      rintro e w' ⟨rfl, q, rfl⟩
      go_wp2_with fail
      go_ret
      exact ⟨ret_int HC.out.symm, ((GrewD.refl w).iter _ _).iter _ _⟩
    | some y =>
      have hq2 : Pl.right b = true := by unfold Pl.right; rw [hr2]; rfl
      have hc : Pl.compare a b = Pl.cmpNums x y := by unfold Pl.compare; rw [hr, hr2]
      have hx : x.length ≤ a.size := by simpa using Pl.runes_len _ _ x (Nat.le_refl _) hr
      have hy : y.length ≤ b.size := by simpa using Pl.runes_len _ _ y (Nat.le_refl _) hr2
      have HC := hid hc
      have HR := hid hr
      have HR2 := hid hr2
      clear hc hr hr2
      go_enter Tryz.func59, Tryz.ntmps59
      go_wp2_with fail
      refine (right_any a _ (by omega)).mono ?_
      rintro e w' ⟨rfl, p, rfl⟩
      go_wp2_with fail
      refine (right_any b _ (by omega)).mono ?_
      rintro e w' ⟨rfl, q, rfl⟩
      go_wp2_with fail
      refine (listD_any a x _ ha HR.out).mono ?_
      rintro e w1 ⟨v1, rfl, hv1, hg1⟩
      go_wp2_with fail
      refine (listD_any b y _ hb HR2.out).mono ?_
      rintro e w2 ⟨v2, rfl, hv2, hg2⟩
      go_wp2_with fail
      refine (compareFunc_any v1 v2 x y _ (hv1.grew hg2.1) hv2 (by omega)).mono ?_
      rintro e w' ⟨rfl, rfl⟩
      go_wp2_with fail
      go_ret
      exact ⟨ret_int HC.out.symm, (((GrewD.refl w).iter _ _).iter _ _).trans (hg1.trans hg2)⟩
end Go.Proofs.YtbdagllflamabaaGreatDoor
namespace Go.Proofs.YtbdagllflamabaaGreatDoor
namespace Pl
theorem cmpNums_swap : ∀ (x y : List Nat), cmpNums y x = - cmpNums x y
  | [], [] => rfl
  | [], _ :: _ => rfl
  | _ :: _, [] => rfl
  | a :: x, b :: y => by
    unfold cmpNums
    by_cases h1 : a < b
    · have h2 : ¬ b < a := by omega
      simp [h1, h2]
    · by_cases h2 : b < a
      · simp [h1, h2]
      · simp only [h1, h2, if_false]; exact cmpNums_swap x y
theorem cmpNums_zero : ∀ (x y : List Nat), cmpNums x y = 0 → x = y
  | [], [], _ => rfl
  | [], _ :: _, h => by simp [cmpNums] at h
  | _ :: _, [], h => by simp [cmpNums] at h
  | a :: x, b :: y, h => by
    unfold cmpNums at h
    by_cases h1 : a < b
    · rw [if_pos h1] at h; simp at h
    · by_cases h2 : b < a
      · rw [if_neg h1, if_pos h2] at h; simp at h
      · rw [if_neg h1, if_neg h2] at h
        rw [show a = b by omega, cmpNums_zero x y h]
theorem cmpNums_self : ∀ (x : List Nat), cmpNums x x = 0
  | [] => rfl
  | a :: x => by unfold cmpNums; rw [if_neg (by omega), if_neg (by omega)]; exact cmpNums_self x
theorem cmpNums_trans : ∀ (x y z : List Nat), cmpNums x y < 0 → cmpNums y z < 0 → cmpNums x z < 0
  | [], [], _, h, _ => by simp [cmpNums] at h
  | [], _ :: _, [], _, h => by simp [cmpNums] at h
  | [], _ :: _, _ :: _, _, _ => by simp [cmpNums]
  | _ :: _, [], _, h, _ => by simp [cmpNums] at h
  | _ :: _, _ :: _, [], _, h => by simp [cmpNums] at h
  | a :: x, b :: y, c :: z, h, k => by
    unfold cmpNums at h k ⊢
    by_cases h1 : a < b
    · by_cases k1 : b < c
      · rw [if_pos (by omega)]; decide
      · by_cases k2 : c < b
        · rw [if_neg k1, if_pos k2] at k; simp at k
        · rw [if_pos (by omega)]; decide
    · by_cases h2 : b < a
      · rw [if_neg h1, if_pos h2] at h; simp at h
      · by_cases k1 : b < c
        · rw [if_pos (by omega)]; decide
        · by_cases k2 : c < b
          · rw [if_neg k1, if_pos k2] at k; simp at k
          · rw [if_neg h1, if_neg h2] at h
            rw [if_neg k1, if_neg k2] at k
            rw [if_neg (by omega), if_neg (by omega)]
            exact cmpNums_trans x y z h k
def Ok (s : ByteArray) : Prop := ∃ l, runes s.data.toList = some l
theorem ok_key {s : ByteArray} (h : keyN s = 0) : Ok s := by
  unfold keyN at h
  cases hr : runes s.data.toList with
  | none => rw [hr] at h; cases h
  | some l => exact ⟨l, hr⟩
theorem compare_swap {a b : ByteArray} (ha : Ok a) (hb : Ok b) : compare b a = - compare a b := by
  obtain ⟨x, hx⟩ := ha
  obtain ⟨y, hy⟩ := hb
  unfold compare
  rw [hx, hy]
  exact cmpNums_swap x y
theorem compare_zero {a b : ByteArray} (ha : Ok a) (hb : Ok b) (h : compare a b = 0) : a = b := by
  obtain ⟨x, hx⟩ := ha
  obtain ⟨y, hy⟩ := hb
  unfold compare at h
  rw [hx, hy] at h
  have e := cmpNums_zero x y h
  subst e
  have e2 := runes_inj _ _ _ _ (Nat.le_refl _) hx hy
  obtain ⟨⟨a⟩⟩ := a
  obtain ⟨⟨b⟩⟩ := b
  exact congrArg (fun l : List UInt8 => (⟨⟨l⟩⟩ : ByteArray)) e2
theorem compare_self {a : ByteArray} (ha : Ok a) : compare a a = 0 := by
  obtain ⟨x, hx⟩ := ha
  unfold compare
  rw [hx]
  exact cmpNums_self x
theorem compare_trans {a b c : ByteArray} (ha : Ok a) (hb : Ok b) (hc : Ok c) (h : compare a b < 0) (k : compare b c < 0) : compare a c < 0 := by
  obtain ⟨x, hx⟩ := ha
  obtain ⟨y, hy⟩ := hb
  obtain ⟨z, hz⟩ := hc
  unfold compare at h k ⊢
  rw [hx, hy] at h
  rw [hy, hz] at k
  rw [hx, hz]
  exact cmpNums_trans x y z h k
end Pl
end Go.Proofs.YtbdagllflamabaaGreatDoor
