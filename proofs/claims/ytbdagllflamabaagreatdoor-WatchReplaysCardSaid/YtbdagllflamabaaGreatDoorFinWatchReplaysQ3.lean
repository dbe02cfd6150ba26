/- Runes3, CmpD0, CmpO, Own: one text. -/
import Derived.Test.YtbdagllflamabaaGreatDoorFinWatchReplaysQ2
import Derived.Laws.IdiomStrings
import Derived.Shelf.GgSortFunc.Insertion
import Derived.Test.YtbdagllflamabaaGreatDoorFinWatchReplaysQ1
import Derived.Maps.OwnSet
import Derived.Maps.OwnOps
import Derived.Deep.AppendLies
namespace Go.Proofs.YtbdagllflamabaaGreatDoor
open Go.RowKit
namespace Pl
def cmpNum (a b : Int) : Int := if a < b then -1 else if b < a then 1 else 0
def cmpNums : List Nat → List Nat → Int
  | [], [] => 0
  | [], _ :: _ => -1
  | _ :: _, [] => 1
  | a :: x, b :: y => if a < b then -1 else if b < a then 1 else cmpNums x y
def compare (a b : ByteArray) : Int := match runes a.data.toList, runes b.data.toList with | some x, some y => cmpNums x y | _, _ => 0
end Pl
theorem cmp_rune (a b : Int) (w : World) : Calls Tryz.prog 109 #[.int .i32 a, .int .i32 b] w fun e w' => e = .returned (.int .i64 (Pl.cmpNum a b)) ∧ w = w' := by
  by_cases h1 : a < b
  · have e : Pl.cmpNum a b = -1 := by unfold Pl.cmpNum; rw [if_pos h1]
    rw [e]
    go_enter Tryz.func109, Tryz.ntmps109
    go_wp2
    go_ret
    exact ⟨rfl, rfl⟩
  · by_cases h2 : b < a
    · have e : Pl.cmpNum a b = 1 := by unfold Pl.cmpNum; rw [if_neg h1, if_pos h2]
      rw [e]
      go_enter Tryz.func109, Tryz.ntmps109
      go_wp2
      go_ret
      exact ⟨rfl, rfl⟩
    · have e : Pl.cmpNum a b = 0 := by unfold Pl.cmpNum; rw [if_neg h1, if_neg h2]
      rw [e]
      go_enter Tryz.func109, Tryz.ntmps109
      go_wp2
      go_ret
      exact ⟨rfl, rfl⟩
theorem cmp_lit (a b : Int) (w : World) : Calls Tryz.prog 108 #[.int .i32 a, .int .i32 b] w fun e w' => e = .returned (.int .i64 (Pl.cmpNum a b)) ∧ w = w' := by
  go_enter Tryz.func108, Tryz.ntmps108
  go_wp2_with (go_at_call 109; refine (cmp_rune a b _).mono ?_; rintro e w' ⟨rfl, rfl⟩)
  go_ret
  exact ⟨rfl, rfl⟩
def RuneRow (w : World) (v : Value) (l : List Nat) : Prop :=
  ∃ b cap, v = .slice (some ⟨b, 0, none⟩) l.length cap ∧ ∀ i, i < l.length → w.cell? ⟨b, i, none⟩ = some (.int .i32 (l.getD i 0 : Nat))
theorem runesFrom_list (s : ByteArray) : ∀ (n p : Nat) (r : List Nat) (acc : Array Value), s.size ≤ p + n → Pl.runesAt s p = some r →
    Conv.runesFrom s n p acc = acc ++ (r.map fun c => Value.int .i32 (c : Nat)).toArray := by
  intro n
  induction n with
  | zero =>
    intro p r acc hn h
    rw [Pl.runesAt_end s p (by omega)] at h
    cases h
    simp [Conv.runesFrom]
  | succ n ih =>
    intro p r acc hn h
    unfold Conv.runesFrom
    by_cases hp : p < s.size
    · obtain ⟨t, rfl, ht, h1, h2⟩ := Pl.runes_round s p r hp h
      rw [if_pos hp]
      show Conv.runesFrom s n (p + (Utf8.decode s p).2) (acc.push (.int .i32 (Int.ofNat (Utf8.decode s p).1))) = _
      rw [ih _ t _ (by omega) ht]
      apply Array.ext'
      simp
    · rw [Pl.runesAt_end s p hp] at h
      cases h
      rw [if_neg hp]
      simp
set_option maxHeartbeats 400000 in
theorem list_any (s : ByteArray) (l : List Nat) (w : World) (hs : s.size ≤ 70368744177664) (hr : Pl.runes s.data.toList = some l) :
    Calls Tryz.prog 107 #[.string s] w fun e w' => ∃ v, e = .returned v ∧ RuneRow w' v l ∧ Grew w w' := by
  have hq : Pl.right s = true := by unfold Pl.right; rw [hr]; rfl
  have hf : Conv.runesFrom s s.size 0 #[] = (l.map fun c => Value.int .i32 (c : Nat)).toArray := by
    rw [runesFrom_list s s.size 0 l #[] (by omega) hr]; simp
  have hcv := fun W => run_runes_of_string (P := Tryz.prog) W 9 179 21 s Tryz.underlying9 Tryz.underlying179 Tryz.underlying21 (by have := size_runesFrom s s.size 0 #[]; simp at this; omega)
  rw [hf] at hcv
  have HF := hid hf
  have HR := hid hr
  clear hf hr
  go_enter Tryz.func107, Tryz.ntmps107
  go_wp2_with (go_at_call 105; refine (right_any _ _ (by omega)).mono ?_; rintro e w' ⟨rfl, p, rfl⟩)
  go_ret
  refine ⟨_, rfl, ⟨_, _, rfl, fun i hi => ?_⟩, (((Grew.refl w).iter _ _).alloc _).drew⟩
  show (World.alloc _ _).cell? _ = _
  rw [cell_of_row _ _ _ _ _ _ (heap_alloc_new _ _), Array.getElem?_append_left (by simpa using hi)]
  simp [hi]
theorem RuneRow.grew {w w' : World} {v : Value} {l : List Nat} (h : RuneRow w v l) (g : Grew w w') : RuneRow w' v l := by
  obtain ⟨b, cap, rfl, hc⟩ := h
  refine ⟨b, cap, rfl, fun i hi => ?_⟩
  rw [← hc i hi]
  exact g.below.cell (p := ⟨b, i, none⟩) (cell_lt (hc i hi))
namespace Pl
theorem cmpNums_step (x y : List Nat) (n : Nat) (h1 : n < x.length) (h2 : n < y.length) :
    cmpNums (x.drop n) (y.drop n) = if x.getD n 0 < y.getD n 0 then -1 else if y.getD n 0 < x.getD n 0 then 1 else cmpNums (x.drop (n + 1)) (y.drop (n + 1)) := by
  rw [List.drop_eq_getElem_cons h1, List.drop_eq_getElem_cons h2]
  have e1 : x.getD n 0 = x[n] := by rw [List.getD_eq_getElem?_getD, List.getElem?_eq_getElem h1]; rfl
  have e2 : y.getD n 0 = y[n] := by rw [List.getD_eq_getElem?_getD, List.getElem?_eq_getElem h2]; rfl
  rw [e1, e2]
  rfl
theorem cmpNums_left (x y : List Nat) (n : Nat) (h1 : n < x.length) (h2 : ¬ n < y.length) : cmpNums (x.drop n) (y.drop n) = 1 := by
  rw [List.drop_eq_getElem_cons h1, List.drop_of_length_le (by omega : y.length ≤ n)]; rfl
theorem cmpNums_right (x y : List Nat) (n : Nat) (h1 : ¬ n < x.length) (h2 : n < y.length) : cmpNums (x.drop n) (y.drop n) = -1 := by
  rw [List.drop_eq_getElem_cons h2, List.drop_of_length_le (by omega : x.length ≤ n)]; rfl
theorem cmpNums_none (x y : List Nat) (n : Nat) (h1 : ¬ n < x.length) (h2 : ¬ n < y.length) : cmpNums (x.drop n) (y.drop n) = 0 := by
  rw [List.drop_of_length_le (by omega : y.length ≤ n), List.drop_of_length_le (by omega : x.length ≤ n)]; rfl
end Pl
set_option maxHeartbeats 800000 in
theorem compareFunc_any (v1 v2 : Value) (x y : List Nat) (w : World) (h1 : RuneRow w v1 x) (h2 : RuneRow w v2 y) (hx : x.length ≤ 140737488351232) :
    Calls Tryz.prog 106 #[v1, v2, .func (.func 108) #[] #[]] w fun e w' => e = .returned (.int .i64 (Pl.cmpNums x y)) ∧ w = w' := by
  obtain ⟨b1, cap1, rfl, hc1⟩ := h1
  obtain ⟨b2, cap2, rfl, hc2⟩ := h2
  have C1 := hid hc1
  have C2 := hid hc2
  clear hc1 hc2
  go_enter Tryz.func106, Tryz.ntmps106
  go_wp2
  go_loop [7, 8, 9, 10, 13] (fun _ _ _ _ i => ∃ n : Nat, i = .int .i64 n ∧ n ≤ x.length ∧ n ≤ y.length ∧ Hid (Pl.cmpNums (x.drop n) (y.drop n) = Pl.cmpNums x y)) (fun _ _ _ _ i => x.length - (intOf i).toNat)
  case atStart => exact ⟨0, rfl, Nat.zero_le _, Nat.zero_le _, rfl⟩
  case round =>
    obtain ⟨n, rfl, hn1, hn2, HN⟩ := hrel
    by_cases l1 : n < x.length
    · have c1 := C1.out n l1
      by_cases l2 : n < y.length
      · have c2 := C2.out n l2
        have hst := hid (Pl.cmpNums_step x y n l1 l2)
        obtain ⟨a, ha⟩ : ∃ a, a = x.getD n 0 := ⟨_, rfl⟩
        obtain ⟨b, hb⟩ : ∃ b, b = y.getD n 0 := ⟨_, rfl⟩
        rw [← ha] at c1
        rw [← hb] at c2
        rw [← ha, ← hb] at hst
        clear ha hb
        have HS := hst
        by_cases q1 : a < b
        · have e : Pl.cmpNum (a : Int) b = -1 := by unfold Pl.cmpNum; rw [if_pos (by omega)]
          have e2 : Pl.cmpNums x y = -1 := by rw [← HN.out, HS.out, if_pos q1]
          have E2 := hid e2
          clear e2
          go_wp2_with (go_at_call 108; refine (cmp_lit _ _ _).mono ?_; rw [e]; rintro e w' ⟨rfl, rfl⟩)
          go_ret
          exact ⟨ret_int E2.out.symm, rfl⟩
        · by_cases q2 : b < a
          · have e : Pl.cmpNum (a : Int) b = 1 := by unfold Pl.cmpNum; rw [if_neg (by omega), if_pos (by omega)]
            have e2 : Pl.cmpNums x y = 1 := by rw [← HN.out, HS.out, if_neg q1, if_pos q2]
            have E2 := hid e2
            clear e2
            go_wp2_with (go_at_call 108; refine (cmp_lit _ _ _).mono ?_; rw [e]; rintro e w' ⟨rfl, rfl⟩)
            go_ret
            exact ⟨ret_int E2.out.symm, rfl⟩
          · have e : Pl.cmpNum (a : Int) b = 0 := by unfold Pl.cmpNum; rw [if_neg (by omega), if_neg (by omega)]
            have e2 : Pl.cmpNums (x.drop (n + 1)) (y.drop (n + 1)) = Pl.cmpNums x y := by rw [← HN.out, HS.out, if_neg q1, if_neg q2]
            have E2 := hid e2
            clear e2
            go_wp2_with (go_at_call 108; refine (cmp_lit _ _ _).mono ?_; rw [e]; rintro e w' ⟨rfl, rfl⟩)
            go_round
            case rel => exact ⟨n + 1, by go_num, by omega, by omega, E2⟩
            case measure => simp [intOf]; omega
      · have e2 : Pl.cmpNums x y = 1 := by rw [← HN.out, Pl.cmpNums_left x y n l1 l2]
        have E2 := hid e2
        clear e2
        go_wp2
        go_ret
        exact ⟨ret_int E2.out.symm, rfl⟩
    · by_cases l2 : n < y.length
      · have e2 : Pl.cmpNums x y = -1 := by rw [← HN.out, Pl.cmpNums_right x y n l1 l2]
        have E2 := hid e2
        clear e2
        go_wp2
        go_ret
        exact ⟨ret_int E2.out.symm, rfl⟩
      · have e2 : Pl.cmpNums x y = 0 := by rw [← HN.out, Pl.cmpNums_none x y n l1 l2]
        have E2 := hid e2
        clear e2
        go_wp2
        go_ret
        exact ⟨ret_int E2.out.symm, rfl⟩
set_option maxHeartbeats 400000 in
theorem compare_any (a b : ByteArray) (w : World) (ha : a.size ≤ 70368744177664) (hb : b.size ≤ 70368744177664) :
    Calls Tryz.prog 59 #[.string a, .string b] w fun e w' => e = .returned (.int .i64 (Pl.compare a b)) ∧ Grew w w' := by
  cases hr : Pl.runes a.data.toList with
  | none =>
    have hq : Pl.right a = false := by unfold Pl.right; rw [hr]; rfl
    have hc : Pl.compare a b = 0 := by unfold Pl.compare; rw [hr]
    have HC := hid hc
    clear hc hr
    go_enter Tryz.func59, Tryz.ntmps59
    go_wp2_with (go_at_call 105; refine (right_any _ _ (by omega)).mono ?_; rintro e w' ⟨rfl, p, rfl⟩)
    go_ret
    exact ⟨ret_int HC.out.symm, (Grew.refl w).iter _ _⟩
  | some x =>
    have hq : Pl.right a = true := by unfold Pl.right; rw [hr]; rfl
    cases hr2 : Pl.runes b.data.toList with
    | none =>
      have hq2 : Pl.right b = false := by unfold Pl.right; rw [hr2]; rfl
      have hc : Pl.compare a b = 0 := by unfold Pl.compare; rw [hr, hr2]
      have HC := hid hc
      clear hc hr hr2
      go_enter Tryz.func59, Tryz.ntmps59
      go_wp2_with fail
      refine (right_any a _ (by omega)).mono ?_
      rintro e w' ⟨rfl, p, rfl⟩
      go_wp2_with fail
      refine (right_any b _ (by omega)).mono ?_
      rintro e w' ⟨rfl, q, rfl⟩
      go_wp2_with fail
      go_ret
      exact ⟨ret_int HC.out.symm, ((Grew.refl w).iter _ _).iter _ _⟩
    | some y =>
      have hq2 : Pl.right b = true := by unfold Pl.right; rw [hr2]; rfl
      have hc : Pl.compare a b = Pl.cmpNums x y := by unfold Pl.compare; rw [hr, hr2]
      have hx : x.length ≤ a.size := by simpa using Pl.runes_len _ _ x (Nat.le_refl _) hr
      have hy : y.length ≤ b.size := by simpa using Pl.runes_len _ _ y (Nat.le_refl _) hr2
      have HC := hid hc
      have HR := hid hr
      have HR2 := hid hr2
      clear hc hr hr2
      go_enter Tryz.func59, Tryz.ntmps59
      go_wp2_with fail
      refine (right_any a _ (by omega)).mono ?_
      rintro e w' ⟨rfl, p, rfl⟩
      go_wp2_with fail
      refine (right_any b _ (by omega)).mono ?_
      rintro e w' ⟨rfl, q, rfl⟩
      go_wp2_with fail
      refine (list_any a x _ ha HR.out).mono ?_
      rintro e w1 ⟨v1, rfl, hv1, hg1⟩
      go_wp2_with fail
      refine (list_any b y _ hb HR2.out).mono ?_
      rintro e w2 ⟨v2, rfl, hv2, hg2⟩
      go_wp2_with fail
      refine (compareFunc_any v1 v2 x y _ (hv1.grew hg2) hv2 (by omega)).mono ?_
      rintro e w' ⟨rfl, rfl⟩
      go_wp2_with fail
      go_ret
      exact ⟨ret_int HC.out.symm, (((Grew.refl w).iter _ _).iter _ _).trans (hg1.trans hg2)⟩
end Go.Proofs.YtbdagllflamabaaGreatDoor
set_option linter.unusedVariables false
namespace Go.Proofs.YtbdagllflamabaaGreatDoor
open Go.RowKit Go.Shelf Go.Lib Go.Sort
def GrewD (w w' : World) : Prop := Grew w w' ∧ w.drawn ≤ w'.drawn
theorem GrewD.refl (w : World) : GrewD w w := ⟨Grew.refl w, Nat.le_refl _⟩
theorem GrewD.trans {a b c : World} (h : GrewD a b) (k : GrewD b c) : GrewD a c := ⟨h.1.trans k.1, Nat.le_trans h.2 k.2⟩
theorem GrewD.alloc {a b : World} (h : GrewD a b) (o : Obj) : GrewD a (b.alloc o) := ⟨h.1.alloc o, h.2⟩
theorem GrewD.drew {a b : World} (h : GrewD a b) : GrewD a b.drew := ⟨h.1.drew, Nat.le_succ_of_le h.2⟩
theorem GrewD.iter {a b : World} (h : GrewD a b) (s : ByteArray) (p : Nat) : GrewD a (b.iter s p) := ⟨h.1.iter s p, h.2⟩
theorem GrewD.grown {w w' : World} (h : GrewD w w') : ∃ q os, w' = grow (w.drewN q) os := by
  obtain ⟨⟨h1, h2, h3, h4, h5⟩, h6⟩ := h
  refine ⟨w'.drawn - w.drawn, w'.heap.extract w.heap.size w'.heap.size, ?_⟩
  obtain ⟨hp, tp, dr, os, ou⟩ := w'
  obtain ⟨hp0, tp0, dr0, os0, ou0⟩ := w
  dsimp only at *
  subst h1 h2 h3
  unfold grow World.drewN
  dsimp only
  have e1 : dr0 + (dr - dr0) = dr := by omega
  have e2 : hp0 ++ hp.extract hp0.size hp.size = hp := by
    apply Array.ext_getElem?
    intro i
    rw [Array.getElem?_append]
    by_cases hi : i < hp0.size
    · rw [if_pos hi, h5 i hi]
    · rw [if_neg hi, Array.getElem?_extract]
      by_cases h7 : i < hp.size
      · rw [if_pos (by omega)]; congr 1; omega
      · rw [if_neg (by omega), Array.getElem?_eq_none (by omega)]
  rw [e1, e2]
set_option maxHeartbeats 400000 in
theorem listD_any (s : ByteArray) (l : List Nat) (w : World) (hs : s.size ≤ 70368744177664) (hr : Pl.runes s.data.toList = some l) :
    Calls Tryz.prog 107 #[.string s] w fun e w' => ∃ v, e = .returned v ∧ RuneRow w' v l ∧ GrewD w w' := by
  have hq : Pl.right s = true := by unfold Pl.right; rw [hr]; rfl
  have hf : Conv.runesFrom s s.size 0 #[] = (l.map fun c => Value.int .i32 (c : Nat)).toArray := by
    rw [runesFrom_list s s.size 0 l #[] (by omega) hr]; simp
  have hcv := fun W => run_runes_of_string (P := Tryz.prog) W 9 179 21 s Tryz.underlying9 Tryz.underlying179 Tryz.underlying21 (by have := size_runesFrom s s.size 0 #[]; simp at this; omega)
  rw [hf] at hcv
  have HF := hid hf
  have HR := hid hr
  clear hf hr
  go_enter Tryz.func107, Tryz.ntmps107
  go_wp2_with (go_at_call 105; refine (right_any _ _ (by omega)).mono ?_; rintro e w' ⟨rfl, p, rfl⟩)
  go_ret
  refine ⟨_, rfl, ⟨_, _, rfl, fun i hi => ?_⟩, (((GrewD.refl w).iter _ _).alloc _).drew⟩
  show (World.alloc _ _).cell? _ = _
  rw [cell_of_row _ _ _ _ _ _ (heap_alloc_new _ _), Array.getElem?_append_left (by simpa using hi)]
  simp [hi]
set_option maxHeartbeats 400000 in
theorem compareD_any (a b : ByteArray) (w : World) (ha : a.size ≤ 70368744177664) (hb : b.size ≤ 70368744177664) :
    Calls Tryz.prog 59 #[.string a, .string b] w fun e w' => e = .returned (.int .i64 (Pl.compare a b)) ∧ GrewD w w' := by
  cases hr : Pl.runes a.data.toList with
  | none =>
    have hq : Pl.right a = false := by unfold Pl.right; rw [hr]; rfl
    have hc : Pl.compare a b = 0 := by unfold Pl.compare; rw [hr]
    have HC := hid hc
    clear hc hr
    go_enter Tryz.func59, Tryz.ntmps59
    go_wp2_with (go_at_call 105; refine (right_any _ _ (by omega)).mono ?_; rintro e w' ⟨rfl, p, rfl⟩)
    go_ret
    exact ⟨ret_int HC.out.symm, (GrewD.refl w).iter _ _⟩
  | some x =>
    have hq : Pl.right a = true := by unfold Pl.right; rw [hr]; rfl
    cases hr2 : Pl.runes b.data.toList with
    | none =>
      have hq2 : Pl.right b = false := by unfold Pl.right; rw [hr2]; rfl
      have hc : Pl.compare a b = 0 := by unfold Pl.compare; rw [hr, hr2]
      have HC := hid hc
      clear hc hr hr2
      go_enter Tryz.func59, Tryz.ntmps59
      go_wp2_with fail
      refine (right_any a _ (by omega)).mono ?_
      rintro e w' ⟨rfl, p, rfl⟩
      go_wp2_with fail
      refine (right_any b _ (by omega)).mono ?_
      rintro e w' ⟨rfl, q, rfl⟩
      go_wp2_with fail
      go_ret
      exact ⟨ret_int HC.out.symm, ((GrewD.refl w).iter _ _).iter _ _⟩
    | some y =>
      have hq2 : Pl.right b = true := by unfold Pl.right; rw [hr2]; rfl
      have hc : Pl.compare a b = Pl.cmpNums x y := by unfold Pl.compare; rw [hr, hr2]
      have hx : x.length ≤ a.size := by simpa using Pl.runes_len _ _ x (Nat.le_refl _) hr
      have hy : y.length ≤ b.size := by simpa using Pl.runes_len _ _ y (Nat.le_refl _) hr2
      have HC := hid hc
      have HR := hid hr
      have HR2 := hid hr2
      clear hc hr hr2
      go_enter Tryz.func59, Tryz.ntmps59
      go_wp2_with fail
      refine (right_any a _ (by omega)).mono ?_
      rintro e w' ⟨rfl, p, rfl⟩
      go_wp2_with fail
      refine (right_any b _ (by omega)).mono ?_
      rintro e w' ⟨rfl, q, rfl⟩
      go_wp2_with fail
      refine (listD_any a x _ ha HR.out).mono ?_
      rintro e w1 ⟨v1, rfl, hv1, hg1⟩
      go_wp2_with fail
      refine (listD_any b y _ hb HR2.out).mono ?_
      rintro e w2 ⟨v2, rfl, hv2, hg2⟩
      go_wp2_with fail
      refine (compareFunc_any v1 v2 x y _ (hv1.grew hg2.1) hv2 (by omega)).mono ?_
      rintro e w' ⟨rfl, rfl⟩
      go_wp2_with fail
      go_ret
      exact ⟨ret_int HC.out.symm, (((GrewD.refl w).iter _ _).iter _ _).trans (hg1.trans hg2)⟩
end Go.Proofs.YtbdagllflamabaaGreatDoor
namespace Go.Proofs.YtbdagllflamabaaGreatDoor
namespace Pl
theorem cmpNums_swap : ∀ (x y : List Nat), cmpNums y x = - cmpNums x y
  | [], [] => rfl
  | [], _ :: _ => rfl
  | _ :: _, [] => rfl
  | a :: x, b :: y => by
    unfold cmpNums
    by_cases h1 : a < b
    · have h2 : ¬ b < a := by omega
      simp [h1, h2]
    · by_cases h2 : b < a
      · simp [h1, h2]
      · simp only [h1, h2, if_false]; exact cmpNums_swap x y
theorem cmpNums_zero : ∀ (x y : List Nat), cmpNums x y = 0 → x = y
  | [], [], _ => rfl
  | [], _ :: _, h => by simp [cmpNums] at h
  | _ :: _, [], h => by simp [cmpNums] at h
  | a :: x, b :: y, h => by
    unfold cmpNums at h
    by_cases h1 : a < b
    · rw [if_pos h1] at h; simp at h
    · by_cases h2 : b < a
      · rw [if_neg h1, if_pos h2] at h; simp at h
      · rw [if_neg h1, if_neg h2] at h
        rw [show a = b by omega, cmpNums_zero x y h]
theorem cmpNums_self : ∀ (x : List Nat), cmpNums x x = 0
  | [] => rfl
  | a :: x => by unfold cmpNums; rw [if_neg (by omega), if_neg (by omega)]; exact cmpNums_self x
theorem cmpNums_trans : ∀ (x y z : List Nat), cmpNums x y < 0 → cmpNums y z < 0 → cmpNums x z < 0
  | [], [], _, h, _ => by simp [cmpNums] at h
  | [], _ :: _, [], _, h => by simp [cmpNums] at h
  | [], _ :: _, _ :: _, _, _ => by simp [cmpNums]
  | _ :: _, [], _, h, _ => by simp [cmpNums] at h
  | _ :: _, _ :: _, [], _, h => by simp [cmpNums] at h
  | a :: x, b :: y, c :: z, h, k => by
    unfold cmpNums at h k ⊢
    by_cases h1 : a < b
    · by_cases k1 : b < c
      · rw [if_pos (by omega)]; decide
      · by_cases k2 : c < b
        · rw [if_neg k1, if_pos k2] at k; simp at k
        · rw [if_pos (by omega)]; decide
    · by_cases h2 : b < a
      · rw [if_neg h1, if_pos h2] at h; simp at h
      · by_cases k1 : b < c
        · rw [if_pos (by omega)]; decide
        · by_cases k2 : c < b
          · rw [if_neg k1, if_pos k2] at k; simp at k
          · rw [if_neg h1, if_neg h2] at h
            rw [if_neg k1, if_neg k2] at k
            rw [if_neg (by omega), if_neg (by omega)]
            exact cmpNums_trans x y z h k
def Ok (s : ByteArray) : Prop := ∃ l, runes s.data.toList = some l
theorem ok_key {s : ByteArray} (h : keyN s = 0) : Ok s := by
  unfold keyN at h
  cases hr : runes s.data.toList with
  | none => rw [hr] at h; cases h
  | some l => exact ⟨l, hr⟩
theorem compare_swap {a b : ByteArray} (ha : Ok a) (hb : Ok b) : compare b a = - compare a b := by
  obtain ⟨x, hx⟩ := ha
  obtain ⟨y, hy⟩ := hb
  unfold compare
  rw [hx, hy]
  exact cmpNums_swap x y
theorem compare_zero {a b : ByteArray} (ha : Ok a) (hb : Ok b) (h : compare a b = 0) : a = b := by
  obtain ⟨x, hx⟩ := ha
  obtain ⟨y, hy⟩ := hb
  unfold compare at h
  rw [hx, hy] at h
  have e := cmpNums_zero x y h
  subst e
  have e2 := runes_inj _ _ _ _ (Nat.le_refl _) hx hy
  obtain ⟨⟨a⟩⟩ := a
  obtain ⟨⟨b⟩⟩ := b
  exact congrArg (fun l : List UInt8 => (⟨⟨l⟩⟩ : ByteArray)) e2
theorem compare_self {a : ByteArray} (ha : Ok a) : compare a a = 0 := by
  obtain ⟨x, hx⟩ := ha
  unfold compare
  rw [hx]
  exact cmpNums_self x
theorem compare_trans {a b c : ByteArray} (ha : Ok a) (hb : Ok b) (hc : Ok c) (h : compare a b < 0) (k : compare b c < 0) : compare a c < 0 := by
  obtain ⟨x, hx⟩ := ha
  obtain ⟨y, hy⟩ := hb
  obtain ⟨z, hz⟩ := hc
  unfold compare at h k ⊢
  rw [hx, hy] at h
  rw [hy, hz] at k
  rw [hx, hz]
  exact cmpNums_trans x y z h k
end Pl
end Go.Proofs.YtbdagllflamabaaGreatDoor
namespace Go.Proofs.YtbdagllflamabaaGreatDoor
open Go.RowKit Go.Maps
structure Only (S : Nat → Prop) (w w' : World) : Prop where
  os : w'.os = w.os
  tape : w'.tape = w.tape
  output : w'.output = w.output
  size : w.heap.size ≤ w'.heap.size
  block : ∀ k, k < w.heap.size → ¬ S k → w'.heap[k]? = w.heap[k]?
theorem Only.refl (S : Nat → Prop) (w : World) : Only S w w := ⟨rfl, rfl, rfl, Nat.le_refl _, fun _ _ _ => rfl⟩
theorem Only.trans {S T : Nat → Prop} {a b c : World} (h : Only S a b) (k : Only T b c) (hT : ∀ j, T j → S j ∨ a.heap.size ≤ j) : Only S a c :=
  ⟨k.os.trans h.os, k.tape.trans h.tape, k.output.trans h.output, Nat.le_trans h.size k.size, fun j hj hS => (k.block j (Nat.lt_of_lt_of_le hj h.size) (fun t => by rcases hT j t with s | s; exact hS s; omega)).trans (h.block j hj hS)⟩
theorem Only.then {S : Nat → Prop} {a b c : World} (h : Only S a b) (k : Only S b c) : Only S a c := h.trans k fun _ => .inl
theorem Only.mono {S T : Nat → Prop} {a b : World} (h : Only S a b) (hST : ∀ j, S j → T j ∨ a.heap.size ≤ j) : Only T a b :=
  ⟨h.os, h.tape, h.output, h.size, fun j hj ht => h.block j hj fun s => by rcases hST j s with t | t; exact ht t; omega⟩
theorem Grew.only {a b : World} (h : Grew a b) (S : Nat → Prop) : Only S a b := ⟨h.os, h.tape, h.output, h.size, fun j hj _ => h.block j hj⟩
theorem Only.grew {S : Nat → Prop} {a b : World} (h : Only S a b) (hS : ∀ j, S j → a.heap.size ≤ j) : Grew a b := ⟨h.os, h.tape, h.output, h.size, fun j hj => h.block j hj fun s => by have := hS j s; omega⟩
theorem Only.grewT {S : Nat → Prop} {a b c : World} (h : Only S a b) (k : Grew b c) : Only S a c := h.then (k.only S)
theorem Only.alloc {S : Nat → Prop} {a b : World} (h : Only S a b) (o : Obj) : Only S a (b.alloc o) := h.grewT ((Grew.refl b).alloc o)
theorem Only.drew {S : Nat → Prop} {a b : World} (h : Only S a b) : Only S a b.drew := h.grewT ((Grew.refl b).drew)
theorem Only.drewN {S : Nat → Prop} {a b : World} (h : Only S a b) (n : Nat) : Only S a (b.drewN n) := h.grewT ((Grew.refl b).drewN n)
theorem Only.cell {S : Nat → Prop} {w w' : World} (h : Only S w w') {k : Nat} (hk : k < w.heap.size) (hS : ¬ S k) (o : Nat) : w'.cell? ⟨k, o, none⟩ = w.cell? ⟨k, o, none⟩ := World.cell?_of_block (a := ⟨k, o, none⟩) (h.block k hk hS)
theorem Only.frozen {S : Nat → Prop} {w w' : World} (h : Only S w w') {k : Nat} (hk : k < w.heap.size) (hS : ¬ S k) (o : Nat) : w'.frozen? ⟨k, o, none⟩ = w.frozen? ⟨k, o, none⟩ := World.frozen?_of_block (a := ⟨k, o, none⟩) (h.block k hk hS)
theorem Only.of_grownBy {w w' : World} {row : Option Nat} (h : w.grownBy w' row) : Only (fun j => some j = row) w w' := ⟨h.os, h.tape, h.output, h.size, h.block⟩
theorem Only.toGrownBy {S : Nat → Prop} {w w' : World} {row : Option Nat} (h : Only S w w') (hS : ∀ j, S j → some j = row ∨ w.heap.size ≤ j) : w.grownBy w' row :=
  ⟨h.os, h.tape, h.output, h.size, fun j hj hn => h.block j hj fun s => by rcases hS j s with t | t; exact hn t; omega⟩
theorem Only.setCell (w : World) (p : Addr) (u : Value) : Only (fun j => j = p.block) w (w.setCell p u) := by
  have := Below.setCell (Below.refl 0 w) (Nat.zero_le p.block) u
  refine ⟨this.os, this.tape, this.output, ?_, ?_⟩
  · exact this.size
  · intro k hk hne
    exact Below.heap_setCell w p u k hne
def raw (v : Value) : Option (DataW Value × List MemPlace) := some (.held v, [])
def lookD (D : DataW Value) (l : Lit) : Option Value := if has D l = true then (match D.atKey l .nil with | .held v => some v | _ => none) else none
def LMap (w : World) (P : Program) (k : TypeId) (b n : Nat) (f : Lit → Option Value) : Prop := ∃ D, w.ownsMap P k raw b n D ∧ ∀ l, lookD D l = f l
section
variable {w : World} {P : Program} {k e t : TypeId} {b n : Nat} {f : Lit → Option Value}
theorem LMap.made (w : World) (P : Program) (k : TypeId) : LMap (w.alloc (.map #[] 0)) P k w.heap.size 0 (fun _ => none) :=
  ⟨_, World.ownsMap_made w P k raw, fun l => by simp [lookD, has]⟩
theorem LMap.lt (h : LMap w P k b n f) : b < w.heap.size := by obtain ⟨D, h, _⟩ := h; exact h.lt
theorem LMap.mono (h : LMap w P k b n f) {m : Nat} (hm : n ≤ m) : LMap w P k b m f := by obtain ⟨D, h, g⟩ := h; exact ⟨D, h.mono hm, g⟩
theorem LMap.kept {S : Nat → Prop} {w' : World} (h : LMap w P k b n f) (g : Only S w w') (hS : ¬ S b) : LMap w' P k b n f := by
  obtain ⟨D, h, hf⟩ := h
  have hlt := h.lt
  obtain ⟨es, clock, hb, F, hs, hD⟩ := h
  exact ⟨D, ⟨es, clock, (g.block b hlt hS).trans hb, F, hs, hD⟩, hf⟩
theorem LMap.grew {w' : World} (h : LMap w P k b n f) (g : Grew w w') : LMap w' P k b n f := h.kept (g.only fun _ => False) (fun h => h)
theorem LMap.lookup {z : Value} {key : Value} {l : Lit} (h : LMap w P k b n f) (K : Keyed P k) (ht : P.underlying t = some (.map k e)) (hz : (zeroValue e).run P w = .ok z w) (hkey : keyOf P k key = some l) :
    (Instr.lookup t (.map (some b)) key false).run P w = .ok ((f l).getD z) w := by
  obtain ⟨D, h, hf⟩ := h
  obtain ⟨es, clock, hb, F, _, rfl⟩ := h
  rw [← hf]
  rcases Maps.fit_look false K ht hz hb F hkey with ⟨hrun, _, hat⟩ | ⟨e0, y, _, _, hrun, hRv, hat, _⟩
  · rw [hrun]; unfold lookD; rw [Maps.has_false_of_atKey hat]; rfl
  · rw [hrun]; unfold lookD; rw [Maps.has_true_of_atKey hat, hat]; cases hRv; rfl
theorem LMap.lookup_ok {z : Value} {key : Value} {l : Lit} (h : LMap w P k b n f) (K : Keyed P k) (ht : P.underlying t = some (.map k e)) (hz : (zeroValue e).run P w = .ok z w) (hkey : keyOf P k key = some l) :
    (Instr.lookup t (.map (some b)) key true).run P w = .ok (.tuple #[(f l).getD z, .bool (f l).isSome]) w := by
  obtain ⟨D, h, hf⟩ := h
  obtain ⟨es, clock, hb, F, _, rfl⟩ := h
  rw [← hf]
  rcases Maps.fit_look true K ht hz hb F hkey with ⟨hrun, _, hat⟩ | ⟨e0, y, _, _, hrun, hRv, hat, _⟩
  · rw [hrun]; unfold lookD; rw [Maps.has_false_of_atKey hat]; rfl
  · rw [hrun]; unfold lookD; rw [Maps.has_true_of_atKey hat, hat]; cases hRv; rfl
noncomputable def lset (f : Lit → Option Value) (l : Lit) (v : Option Value) (m : Lit) : Option Value := open Classical in if m = l then v else f m
theorem LMap.store {key val : Value} {l : Lit} (h : LMap w P k b n f) (K : Keyed P k) (ht : P.underlying t = some (.map k e)) (hn : n < maxLen) (hkey : keyOf P k key = some l) :
    ∃ w', (Instr.mapUpdate t (.map (some b)) key val).run P w = .ok () w' ∧ LMap w' P k b (n + 1) (lset f l (some val)) ∧ w.mapTurned w' b := by
  obtain ⟨D, h, hf⟩ := h
  have hm := h.isMap
  have hl := K.key hkey
  obtain ⟨w', hrun, h1, h2⟩ := h.store K ht hn hkey (val := val) (d := .held val) (ps := []) rfl
  refine ⟨w', hrun, ⟨_, h1, fun m => ?_⟩, h2⟩
  unfold lset
  split
  · next he => subst he; unfold lookD; rw [has_put_same hm hl, atKey_put_same hm hl]; rfl
  · next he => rw [← hf]; unfold lookD; rw [has_put_other he, atKey_put_other he]
theorem LMap.drop {key : Value} {l : Lit} (h : LMap w P k b n f) (K : Keyed P k) (ht : P.underlying t = some (.map k e)) (hkey : keyOf P k key = some l) (ty : TypeId) :
    ∃ w', (Builtin.delete_ #[t, k] ty #[.map (some b), key]).run P w = .ok (.tuple #[]) w' ∧ LMap w' P k b n (lset f l none) ∧ w.mapTurned w' b := by
  obtain ⟨D, h, hf⟩ := h
  obtain ⟨w', hrun, h1, h2⟩ := h.drop K ht hkey ty
  refine ⟨w', hrun, ⟨_, h1, fun m => ?_⟩, h2⟩
  unfold lset
  split
  · next he => subst he; unfold lookD; rw [has_del_same]; rfl
  · next he => rw [← hf]; unfold lookD; rw [has_del_other he, atKey_del_other he]
end
theorem Only.of_turned {w w' : World} {b : Nat} (h : w.mapTurned w' b) : Only (fun j => j = b) w w' := (Only.of_grownBy h.grown).mono fun _ hj => .inl (Option.some.inj hj)
end Go.Proofs.YtbdagllflamabaaGreatDoor
