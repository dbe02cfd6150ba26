/- The walks of package runes: Compare and what it calls. -/
import Derived.Test.YtapchoppcaacdaaGreatDoorRunes2
import Derived.Laws.IdiomStrings
namespace Go.Proofs.YtapchoppcaacdaaGreatDoor
open Go.RowKit

namespace Pl
def cmpNum (a b : Int) : Int := if a < b then -1 else if b < a then 1 else 0
def cmpNums : List Nat → List Nat → Int
  | [], [] => 0
  | [], _ :: _ => -1
  | _ :: _, [] => 1
  | a :: x, b :: y => if a < b then -1 else if b < a then 1 else cmpNums x y
/-- What runes.Compare tells. -/
def compare (a b : ByteArray) : Int := match runes a.data.toList, runes b.data.toList with | some x, some y => cmpNums x y | _, _ => 0
end Pl

theorem isNaN_rune (a : Int) (w : World) : Calls Tryz.prog 139 #[.int .i32 a] w fun e w' => e = .returned (.bool false) ∧ w = w' := by
  go_enter Tryz.func139, Tryz.ntmps139
  go_wp2
  go_ret
  exact ⟨ret_bool (by simp), rfl⟩

theorem cmp_rune (a b : Int) (w : World) : Calls Tryz.prog 113 #[.int .i32 a, .int .i32 b] w fun e w' => e = .returned (.int .i64 (Pl.cmpNum a b)) ∧ w = w' := by
  by_cases h1 : a < b
  · have e : Pl.cmpNum a b = -1 := by unfold Pl.cmpNum; rw [if_pos h1]
    rw [e]
    go_enter Tryz.func113, Tryz.ntmps113
    go_wp2
    go_ret
    exact ⟨rfl, rfl⟩
  · by_cases h2 : b < a
    · have e : Pl.cmpNum a b = 1 := by unfold Pl.cmpNum; rw [if_neg h1, if_pos h2]
      rw [e]
      go_enter Tryz.func113, Tryz.ntmps113
      go_wp2
      go_ret
      exact ⟨rfl, rfl⟩
    · have e : Pl.cmpNum a b = 0 := by unfold Pl.cmpNum; rw [if_neg h1, if_neg h2]
      rw [e]
      go_enter Tryz.func113, Tryz.ntmps113
      go_wp2
      go_ret
      exact ⟨rfl, rfl⟩

theorem cmp_lit (a b : Int) (w : World) : Calls Tryz.prog 112 #[.int .i32 a, .int .i32 b] w fun e w' => e = .returned (.int .i64 (Pl.cmpNum a b)) ∧ w = w' := by
  go_enter Tryz.func112, Tryz.ntmps112
  go_wp2_with (go_at_call 113; refine (cmp_rune a b _).mono ?_; rintro e w' ⟨rfl, rfl⟩)
  go_ret
  exact ⟨rfl, rfl⟩

/-- A slice of runes that reads as a list: nil, or a row of cells. -/
def RuneRow (w : World) (v : Value) (l : List Nat) : Prop :=
  ∃ b cap, v = .slice (some ⟨b, 0, none⟩) l.length cap ∧ ∀ i, i < l.length → w.cell? ⟨b, i, none⟩ = some (.int .i32 (l.getD i 0 : Nat))

theorem runesFrom_list (s : ByteArray) : ∀ (n p : Nat) (r : List Nat) (acc : Array Value), s.size ≤ p + n → Pl.runesAt s p = some r →
    Conv.runesFrom s n p acc = acc ++ (r.map fun c => Value.int .i32 (c : Nat)).toArray := by
  intro n
  induction n with
  | zero =>
    intro p r acc hn h
    rw [Pl.runesAt_end s p (by omega)] at h
    cases h
    simp [Conv.runesFrom]
  | succ n ih =>
    intro p r acc hn h
    unfold Conv.runesFrom
    by_cases hp : p < s.size
    · obtain ⟨t, rfl, ht, h1, h2⟩ := Pl.runes_round s p r hp h
      rw [if_pos hp]
      show Conv.runesFrom s n (p + (Utf8.decode s p).2) (acc.push (.int .i32 (Int.ofNat (Utf8.decode s p).1))) = _
      rw [ih _ t _ (by omega) ht]
      apply Array.ext'
      simp
    · rw [Pl.runesAt_end s p hp] at h
      cases h
      rw [if_neg hp]
      simp

set_option maxHeartbeats 400000 in
theorem list_any (s : ByteArray) (l : List Nat) (w : World) (hs : s.size ≤ 70368744177664) (hr : Pl.runes s.data.toList = some l) :
    Calls Tryz.prog 111 #[.string s] w fun e w' => ∃ v, e = .returned v ∧ RuneRow w' v l ∧ Grew w w' := by
  have hq : Pl.right s = true := by unfold Pl.right; rw [hr]; rfl
  have hf : Conv.runesFrom s s.size 0 #[] = (l.map fun c => Value.int .i32 (c : Nat)).toArray := by
    rw [runesFrom_list s s.size 0 l #[] (by omega) hr]; simp
  have hcv := fun W => run_runes_of_string (P := Tryz.prog) W 9 172 21 s Tryz.underlying9 Tryz.underlying172 Tryz.underlying21 (by have := size_runesFrom s s.size 0 #[]; simp at this; omega)
  rw [hf] at hcv
  have HF := hid hf
  have HR := hid hr
  clear hf hr
  go_enter Tryz.func111, Tryz.ntmps111
  go_wp2_with (go_at_call 100; refine (right_any _ _ (by omega)).mono ?_; rintro e w' ⟨rfl, p, rfl⟩)
  go_ret
  refine ⟨_, rfl, ⟨_, _, rfl, fun i hi => ?_⟩, (((Grew.refl w).iter _ _).alloc _).drew⟩
  show (World.alloc _ _).cell? _ = _
  rw [cell_of_row _ _ _ _ _ _ (heap_alloc_new _ _), Array.getElem?_append_left (by simpa using hi)]
  simp [hi]

theorem RuneRow.grew {w w' : World} {v : Value} {l : List Nat} (h : RuneRow w v l) (g : Grew w w') : RuneRow w' v l := by
  obtain ⟨b, cap, rfl, hc⟩ := h
  refine ⟨b, cap, rfl, fun i hi => ?_⟩
  rw [← hc i hi]
  exact g.below.cell (p := ⟨b, i, none⟩) (cell_lt (hc i hi))
namespace Pl
theorem cmpNums_step (x y : List Nat) (n : Nat) (h1 : n < x.length) (h2 : n < y.length) :
    cmpNums (x.drop n) (y.drop n) = if x.getD n 0 < y.getD n 0 then -1 else if y.getD n 0 < x.getD n 0 then 1 else cmpNums (x.drop (n + 1)) (y.drop (n + 1)) := by
  rw [List.drop_eq_getElem_cons h1, List.drop_eq_getElem_cons h2]
  have e1 : x.getD n 0 = x[n] := by rw [List.getD_eq_getElem?_getD, List.getElem?_eq_getElem h1]; rfl
  have e2 : y.getD n 0 = y[n] := by rw [List.getD_eq_getElem?_getD, List.getElem?_eq_getElem h2]; rfl
  rw [e1, e2]
  rfl
theorem cmpNums_left (x y : List Nat) (n : Nat) (h1 : n < x.length) (h2 : ¬ n < y.length) : cmpNums (x.drop n) (y.drop n) = 1 := by
  rw [List.drop_eq_getElem_cons h1, List.drop_of_length_le (by omega : y.length ≤ n)]; rfl
theorem cmpNums_right (x y : List Nat) (n : Nat) (h1 : ¬ n < x.length) (h2 : n < y.length) : cmpNums (x.drop n) (y.drop n) = -1 := by
  rw [List.drop_eq_getElem_cons h2, List.drop_of_length_le (by omega : x.length ≤ n)]; rfl
theorem cmpNums_none (x y : List Nat) (n : Nat) (h1 : ¬ n < x.length) (h2 : ¬ n < y.length) : cmpNums (x.drop n) (y.drop n) = 0 := by
  rw [List.drop_of_length_le (by omega : y.length ≤ n), List.drop_of_length_le (by omega : x.length ≤ n)]; rfl
end Pl

set_option maxHeartbeats 800000 in
theorem compareFunc_any (v1 v2 : Value) (x y : List Nat) (w : World) (h1 : RuneRow w v1 x) (h2 : RuneRow w v2 y) (hx : x.length ≤ 140737488351232) :
    Calls Tryz.prog 110 #[v1, v2, .func (.func 112) #[] #[]] w fun e w' => e = .returned (.int .i64 (Pl.cmpNums x y)) ∧ w = w' := by
  obtain ⟨b1, cap1, rfl, hc1⟩ := h1
  obtain ⟨b2, cap2, rfl, hc2⟩ := h2
  have C1 := hid hc1
  have C2 := hid hc2
  clear hc1 hc2
  go_enter Tryz.func110, Tryz.ntmps110
  go_wp2
  go_loop [7, 8, 9, 10, 13] (fun _ _ _ _ i => ∃ n : Nat, i = .int .i64 n ∧ n ≤ x.length ∧ n ≤ y.length ∧ Hid (Pl.cmpNums (x.drop n) (y.drop n) = Pl.cmpNums x y)) (fun _ _ _ _ i => x.length - (intOf i).toNat)
  case atStart => exact ⟨0, rfl, Nat.zero_le _, Nat.zero_le _, rfl⟩
  case round =>
    obtain ⟨n, rfl, hn1, hn2, HN⟩ := hrel
    by_cases l1 : n < x.length
    · have c1 := C1.out n l1
      by_cases l2 : n < y.length
      · have c2 := C2.out n l2
        have hst := hid (Pl.cmpNums_step x y n l1 l2)
        obtain ⟨a, ha⟩ : ∃ a, a = x.getD n 0 := ⟨_, rfl⟩
        obtain ⟨b, hb⟩ : ∃ b, b = y.getD n 0 := ⟨_, rfl⟩
        rw [← ha] at c1
        rw [← hb] at c2
        rw [← ha, ← hb] at hst
        clear ha hb
        have HS := hst
        by_cases q1 : a < b
        · have e : Pl.cmpNum (a : Int) b = -1 := by unfold Pl.cmpNum; rw [if_pos (by omega)]
          have e2 : Pl.cmpNums x y = -1 := by rw [← HN.out, HS.out, if_pos q1]
          have E2 := hid e2
          clear e2
          go_wp2_with (go_at_call 112; refine (cmp_lit _ _ _).mono ?_; rw [e]; rintro e w' ⟨rfl, rfl⟩)
          go_ret
          exact ⟨ret_int E2.out.symm, rfl⟩
        · by_cases q2 : b < a
          · have e : Pl.cmpNum (a : Int) b = 1 := by unfold Pl.cmpNum; rw [if_neg (by omega), if_pos (by omega)]
            have e2 : Pl.cmpNums x y = 1 := by rw [← HN.out, HS.out, if_neg q1, if_pos q2]
            have E2 := hid e2
            clear e2
            go_wp2_with (go_at_call 112; refine (cmp_lit _ _ _).mono ?_; rw [e]; rintro e w' ⟨rfl, rfl⟩)
            go_ret
            exact ⟨ret_int E2.out.symm, rfl⟩
          · have e : Pl.cmpNum (a : Int) b = 0 := by unfold Pl.cmpNum; rw [if_neg (by omega), if_neg (by omega)]
            have e2 : Pl.cmpNums (x.drop (n + 1)) (y.drop (n + 1)) = Pl.cmpNums x y := by rw [← HN.out, HS.out, if_neg q1, if_neg q2]
            have E2 := hid e2
            clear e2
            go_wp2_with (go_at_call 112; refine (cmp_lit _ _ _).mono ?_; rw [e]; rintro e w' ⟨rfl, rfl⟩)
            go_round
            case rel => exact ⟨n + 1, by go_num, by omega, by omega, E2⟩
            case measure => simp [intOf]; omega
      · have e2 : Pl.cmpNums x y = 1 := by rw [← HN.out, Pl.cmpNums_left x y n l1 l2]
        have E2 := hid e2
        clear e2
        go_wp2
        go_ret
        exact ⟨ret_int E2.out.symm, rfl⟩
    · by_cases l2 : n < y.length
      · have e2 : Pl.cmpNums x y = -1 := by rw [← HN.out, Pl.cmpNums_right x y n l1 l2]
        have E2 := hid e2
        clear e2
        go_wp2
        go_ret
        exact ⟨ret_int E2.out.symm, rfl⟩
      · have e2 : Pl.cmpNums x y = 0 := by rw [← HN.out, Pl.cmpNums_none x y n l1 l2]
        have E2 := hid e2
        clear e2
        go_wp2
        go_ret
        exact ⟨ret_int E2.out.symm, rfl⟩

set_option maxHeartbeats 400000 in
theorem compare_any (a b : ByteArray) (w : World) (ha : a.size ≤ 70368744177664) (hb : b.size ≤ 70368744177664) :
    Calls Tryz.prog 64 #[.string a, .string b] w fun e w' => e = .returned (.int .i64 (Pl.compare a b)) ∧ Grew w w' := by
  cases hr : Pl.runes a.data.toList with
  | none =>
    have hq : Pl.right a = false := by unfold Pl.right; rw [hr]; rfl
    have hc : Pl.compare a b = 0 := by unfold Pl.compare; rw [hr]
    have HC := hid hc
    clear hc hr
    go_enter Tryz.func64, Tryz.ntmps64
    go_wp2_with (go_at_call 100; refine (right_any _ _ (by omega)).mono ?_; rintro e w' ⟨rfl, p, rfl⟩)
    go_ret
    exact ⟨ret_int HC.out.symm, (Grew.refl w).iter _ _⟩
  | some x =>
    have hq : Pl.right a = true := by unfold Pl.right; rw [hr]; rfl
    cases hr2 : Pl.runes b.data.toList with
    | none =>
      have hq2 : Pl.right b = false := by unfold Pl.right; rw [hr2]; rfl
      have hc : Pl.compare a b = 0 := by unfold Pl.compare; rw [hr, hr2]
      have HC := hid hc
      clear hc hr hr2
      go_enter Tryz.func64, Tryz.ntmps64
      go_wp2_with fail
      refine (right_any a _ (by omega)).mono ?_
      rintro e w' ⟨rfl, p, rfl⟩
      go_wp2_with fail
      refine (right_any b _ (by omega)).mono ?_
      rintro e w' ⟨rfl, q, rfl⟩
      go_wp2_with fail
      go_ret
      exact ⟨ret_int HC.out.symm, ((Grew.refl w).iter _ _).iter _ _⟩
    | some y =>
      have hq2 : Pl.right b = true := by unfold Pl.right; rw [hr2]; rfl
      have hc : Pl.compare a b = Pl.cmpNums x y := by unfold Pl.compare; rw [hr, hr2]
      have hx : x.length ≤ a.size := by simpa using Pl.runes_len _ _ x (Nat.le_refl _) hr
      have hy : y.length ≤ b.size := by simpa using Pl.runes_len _ _ y (Nat.le_refl _) hr2
      have HC := hid hc
      have HR := hid hr
      have HR2 := hid hr2
      clear hc hr hr2
      go_enter Tryz.func64, Tryz.ntmps64
      go_wp2_with fail
      refine (right_any a _ (by omega)).mono ?_
      rintro e w' ⟨rfl, p, rfl⟩
      go_wp2_with fail
      refine (right_any b _ (by omega)).mono ?_
      rintro e w' ⟨rfl, q, rfl⟩
      go_wp2_with fail
      refine (list_any a x _ ha HR.out).mono ?_
      rintro e w1 ⟨v1, rfl, hv1, hg1⟩
      go_wp2_with fail
      refine (list_any b y _ hb HR2.out).mono ?_
      rintro e w2 ⟨v2, rfl, hv2, hg2⟩
      go_wp2_with fail
      refine (compareFunc_any v1 v2 x y _ (hv1.grew hg2) hv2 (by omega)).mono ?_
      rintro e w' ⟨rfl, rfl⟩
      go_wp2_with fail
      go_ret
      exact ⟨ret_int HC.out.symm, (((Grew.refl w).iter _ _).iter _ _).trans (hg1.trans hg2)⟩
end Go.Proofs.YtapchoppcaacdaaGreatDoor
