/- Runes3, CmpO, Tab1, InsPair, Tab2: one text. -/
import Derived.Test.YtlgcdneiebjkcaaGreatDoorFinServeNewQ11
import Derived.Laws.IdiomStrings
import Derived.Test.YtlgcdneiebjkcaaGreatDoorFinServeNewQ10
import Derived.Test.YtlgcdneiebjkcaaGreatDoorFinServeNewQ1
import Derived.IntWalk
import Derived.Laws.Externs
namespace Go.Proofs.YtlgcdneiebjkcaaGreatDoor
open Go.RowKit
namespace Pl
def cmpNum (a b : Int) : Int := if a < b then -1 else if b < a then 1 else 0
def cmpNums : List Nat → List Nat → Int
  | [], [] => 0
  | [], _ :: _ => -1
  | _ :: _, [] => 1
  | a :: x, b :: y => if a < b then -1 else if b < a then 1 else cmpNums x y
def compare (a b : ByteArray) : Int := match runes a.data.toList, runes b.data.toList with | some x, some y => cmpNums x y | _, _ => 0
end Pl
theorem cmp_rune (a b : Int) (w : World) : Calls Tryz.prog 154 #[.int .i32 a, .int .i32 b] w fun e w' => e = .returned (.int .i64 (Pl.cmpNum a b)) ∧ w = w' := by
  by_cases h1 : a < b
  · have e : Pl.cmpNum a b = -1 := by unfold Pl.cmpNum; rw [if_pos h1]
    rw [e]
    go_enter Tryz.func154, Tryz.ntmps154
    go_wp2
    go_ret
    exact ⟨rfl, rfl⟩
  · by_cases h2 : b < a
    · have e : Pl.cmpNum a b = 1 := by unfold Pl.cmpNum; rw [if_neg h1, if_pos h2]
      rw [e]
      go_enter Tryz.func154, Tryz.ntmps154
      go_wp2
      go_ret
      exact ⟨rfl, rfl⟩
    · have e : Pl.cmpNum a b = 0 := by unfold Pl.cmpNum; rw [if_neg h1, if_neg h2]
      rw [e]
      go_enter Tryz.func154, Tryz.ntmps154
      go_wp2
      go_ret
      exact ⟨rfl, rfl⟩
theorem cmp_lit (a b : Int) (w : World) : Calls Tryz.prog 153 #[.int .i32 a, .int .i32 b] w fun e w' => e = .returned (.int .i64 (Pl.cmpNum a b)) ∧ w = w' := by
  go_enter Tryz.func153, Tryz.ntmps153
  go_wp2_with (go_at_call 154; refine (cmp_rune a b _).mono ?_; rintro e w' ⟨rfl, rfl⟩)
  go_ret
  exact ⟨rfl, rfl⟩
def RuneRow (w : World) (v : Value) (l : List Nat) : Prop :=
  ∃ b cap, v = .slice (some ⟨b, 0, none⟩) l.length cap ∧ ∀ i, i < l.length → w.cell? ⟨b, i, none⟩ = some (.int .i32 (l.getD i 0 : Nat))
theorem runesFrom_list (s : ByteArray) : ∀ (n p : Nat) (r : List Nat) (acc : Array Value), s.size ≤ p + n → Pl.runesAt s p = some r →
    Conv.runesFrom s n p acc = acc ++ (r.map fun c => Value.int .i32 (c : Nat)).toArray := by
  intro n
  induction n with
  | zero =>
    intro p r acc hn h
    rw [Pl.runesAt_end s p (by omega)] at h
    cases h
    simp [Conv.runesFrom]
  | succ n ih =>
    intro p r acc hn h
    unfold Conv.runesFrom
    by_cases hp : p < s.size
    · obtain ⟨t, rfl, ht, h1, h2⟩ := Pl.runes_round s p r hp h
      rw [if_pos hp]
      show Conv.runesFrom s n (p + (Utf8.decode s p).2) (acc.push (.int .i32 (Int.ofNat (Utf8.decode s p).1))) = _
      rw [ih _ t _ (by omega) ht]
      apply Array.ext'
      simp
    · rw [Pl.runesAt_end s p hp] at h
      cases h
      rw [if_neg hp]
      simp
set_option maxHeartbeats 400000 in
theorem list_any (s : ByteArray) (l : List Nat) (w : World) (hs : s.size ≤ 70368744177664) (hr : Pl.runes s.data.toList = some l) :
    Calls Tryz.prog 152 #[.string s] w fun e w' => ∃ v, e = .returned v ∧ RuneRow w' v l ∧ Grew w w' := by
  have hq : Pl.right s = true := by unfold Pl.right; rw [hr]; rfl
  have hf : Conv.runesFrom s s.size 0 #[] = (l.map fun c => Value.int .i32 (c : Nat)).toArray := by
    rw [runesFrom_list s s.size 0 l #[] (by omega) hr]; simp
  have hcv := fun W => run_runes_of_string (P := Tryz.prog) W 9 289 21 s Tryz.underlying9 Tryz.underlying289 Tryz.underlying21 (by have := size_runesFrom s s.size 0 #[]; simp at this; omega)
  rw [hf] at hcv
  have HF := hid hf
  have HR := hid hr
  clear hf hr
  go_enter Tryz.func152, Tryz.ntmps152
  go_wp2_with (go_at_call 107; refine (right_any _ _ (by omega)).mono ?_; rintro e w' ⟨rfl, p, rfl⟩)
  go_ret
  refine ⟨_, rfl, ⟨_, _, rfl, fun i hi => ?_⟩, (((Grew.refl w).iter _ _).alloc _).drew⟩
  show (World.alloc _ _).cell? _ = _
  rw [cell_of_row _ _ _ _ _ _ (heap_alloc_new _ _), Array.getElem?_append_left (by simpa using hi)]
  simp [hi]
theorem RuneRow.grew {w w' : World} {v : Value} {l : List Nat} (h : RuneRow w v l) (g : Grew w w') : RuneRow w' v l := by
  obtain ⟨b, cap, rfl, hc⟩ := h
  refine ⟨b, cap, rfl, fun i hi => ?_⟩
  rw [← hc i hi]
  exact g.below.cell (p := ⟨b, i, none⟩) (cell_lt (hc i hi))
namespace Pl
theorem cmpNums_step (x y : List Nat) (n : Nat) (h1 : n < x.length) (h2 : n < y.length) :
    cmpNums (x.drop n) (y.drop n) = if x.getD n 0 < y.getD n 0 then -1 else if y.getD n 0 < x.getD n 0 then 1 else cmpNums (x.drop (n + 1)) (y.drop (n + 1)) := by
  rw [List.drop_eq_getElem_cons h1, List.drop_eq_getElem_cons h2]
  have e1 : x.getD n 0 = x[n] := by rw [List.getD_eq_getElem?_getD, List.getElem?_eq_getElem h1]; rfl
  have e2 : y.getD n 0 = y[n] := by rw [List.getD_eq_getElem?_getD, List.getElem?_eq_getElem h2]; rfl
  rw [e1, e2]
  rfl
theorem cmpNums_left (x y : List Nat) (n : Nat) (h1 : n < x.length) (h2 : ¬ n < y.length) : cmpNums (x.drop n) (y.drop n) = 1 := by
  rw [List.drop_eq_getElem_cons h1, List.drop_of_length_le (by omega : y.length ≤ n)]; rfl
theorem cmpNums_right (x y : List Nat) (n : Nat) (h1 : ¬ n < x.length) (h2 : n < y.length) : cmpNums (x.drop n) (y.drop n) = -1 := by
  rw [List.drop_eq_getElem_cons h2, List.drop_of_length_le (by omega : x.length ≤ n)]; rfl
theorem cmpNums_none (x y : List Nat) (n : Nat) (h1 : ¬ n < x.length) (h2 : ¬ n < y.length) : cmpNums (x.drop n) (y.drop n) = 0 := by
  rw [List.drop_of_length_le (by omega : y.length ≤ n), List.drop_of_length_le (by omega : x.length ≤ n)]; rfl
end Pl
set_option maxHeartbeats 800000 in
theorem compareFunc_any (v1 v2 : Value) (x y : List Nat) (w : World) (h1 : RuneRow w v1 x) (h2 : RuneRow w v2 y) (hx : x.length ≤ 140737488351232) :
    Calls Tryz.prog 151 #[v1, v2, .func (.func 153) #[] #[]] w fun e w' => e = .returned (.int .i64 (Pl.cmpNums x y)) ∧ w = w' := by
  obtain ⟨b1, cap1, rfl, hc1⟩ := h1
  obtain ⟨b2, cap2, rfl, hc2⟩ := h2
  have C1 := hid hc1
  have C2 := hid hc2
  clear hc1 hc2
  go_enter Tryz.func151, Tryz.ntmps151
  go_wp2
  go_loop [7, 8, 9, 10, 13] (fun _ _ _ _ i => ∃ n : Nat, i = .int .i64 n ∧ n ≤ x.length ∧ n ≤ y.length ∧ Hid (Pl.cmpNums (x.drop n) (y.drop n) = Pl.cmpNums x y)) (fun _ _ _ _ i => x.length - (intOf i).toNat)
  case atStart => exact ⟨0, rfl, Nat.zero_le _, Nat.zero_le _, rfl⟩
  case round =>
    obtain ⟨n, rfl, hn1, hn2, HN⟩ := hrel
    by_cases l1 : n < x.length
    · have c1 := C1.out n l1
      by_cases l2 : n < y.length
      · have c2 := C2.out n l2
        have hst := hid (Pl.cmpNums_step x y n l1 l2)
        obtain ⟨a, ha⟩ : ∃ a, a = x.getD n 0 := ⟨_, rfl⟩
        obtain ⟨b, hb⟩ : ∃ b, b = y.getD n 0 := ⟨_, rfl⟩
        rw [← ha] at c1
        rw [← hb] at c2
        rw [← ha, ← hb] at hst
        clear ha hb
        have HS := hst
        by_cases q1 : a < b
        · have e : Pl.cmpNum (a : Int) b = -1 := by unfold Pl.cmpNum; rw [if_pos (by omega)]
          have e2 : Pl.cmpNums x y = -1 := by rw [← HN.out, HS.out, if_pos q1]
          have E2 := hid e2
          clear e2
          go_wp2_with (go_at_call 153; refine (cmp_lit _ _ _).mono ?_; rw [e]; rintro e w' ⟨rfl, rfl⟩)
          go_ret
          exact ⟨ret_int E2.out.symm, rfl⟩
        · by_cases q2 : b < a
          · have e : Pl.cmpNum (a : Int) b = 1 := by unfold Pl.cmpNum; rw [if_neg (by omega), if_pos (by omega)]
            have e2 : Pl.cmpNums x y = 1 := by rw [← HN.out, HS.out, if_neg q1, if_pos q2]
            have E2 := hid e2
            clear e2
            go_wp2_with (go_at_call 153; refine (cmp_lit _ _ _).mono ?_; rw [e]; rintro e w' ⟨rfl, rfl⟩)
            go_ret
            exact ⟨ret_int E2.out.symm, rfl⟩
          · have e : Pl.cmpNum (a : Int) b = 0 := by unfold Pl.cmpNum; rw [if_neg (by omega), if_neg (by omega)]
            have e2 : Pl.cmpNums (x.drop (n + 1)) (y.drop (n + 1)) = Pl.cmpNums x y := by rw [← HN.out, HS.out, if_neg q1, if_neg q2]
            have E2 := hid e2
            clear e2
            go_wp2_with (go_at_call 153; refine (cmp_lit _ _ _).mono ?_; rw [e]; rintro e w' ⟨rfl, rfl⟩)
            go_round
            case rel => exact ⟨n + 1, by go_num, by omega, by omega, E2⟩
            case measure => simp [intOf]; omega
      · have e2 : Pl.cmpNums x y = 1 := by rw [← HN.out, Pl.cmpNums_left x y n l1 l2]
        have E2 := hid e2
        clear e2
        go_wp2
        go_ret
        exact ⟨ret_int E2.out.symm, rfl⟩
    · by_cases l2 : n < y.length
      · have e2 : Pl.cmpNums x y = -1 := by rw [← HN.out, Pl.cmpNums_right x y n l1 l2]
        have E2 := hid e2
        clear e2
        go_wp2
        go_ret
        exact ⟨ret_int E2.out.symm, rfl⟩
      · have e2 : Pl.cmpNums x y = 0 := by rw [← HN.out, Pl.cmpNums_none x y n l1 l2]
        have E2 := hid e2
        clear e2
        go_wp2
        go_ret
        exact ⟨ret_int E2.out.symm, rfl⟩
set_option maxHeartbeats 400000 in
theorem compare_any (a b : ByteArray) (w : World) (ha : a.size ≤ 70368744177664) (hb : b.size ≤ 70368744177664) :
    Calls Tryz.prog 109 #[.string a, .string b] w fun e w' => e = .returned (.int .i64 (Pl.compare a b)) ∧ Grew w w' := by
  cases hr : Pl.runes a.data.toList with
  | none =>
    have hq : Pl.right a = false := by unfold Pl.right; rw [hr]; rfl
    have hc : Pl.compare a b = 0 := by unfold Pl.compare; rw [hr]
    have HC := hid hc
    clear hc hr
    go_enter Tryz.func109, Tryz.ntmps109
    go_wp2_with (go_at_call 107; refine (right_any _ _ (by omega)).mono ?_; rintro e w' ⟨rfl, p, rfl⟩)
    go_ret
    exact ⟨ret_int HC.out.symm, (Grew.refl w).iter _ _⟩
  | some x =>
    have hq : Pl.right a = true := by unfold Pl.right; rw [hr]; rfl
    cases hr2 : Pl.runes b.data.toList with
    | none =>
      have hq2 : Pl.right b = false := by unfold Pl.right; rw [hr2]; rfl
      have hc : Pl.compare a b = 0 := by unfold Pl.compare; rw [hr, hr2]
      have HC := hid hc
      clear hc hr hr2
      go_enter Tryz.func109, Tryz.ntmps109
      go_wp2_with fail
      refine (right_any a _ (by omega)).mono ?_
      rintro e w' ⟨rfl, p, rfl⟩
      go_wp2_with fail
      refine (right_any b _ (by omega)).mono ?_
      rintro e w' ⟨rfl, q, rfl⟩
      go_wp2_with fail
      go_ret
      exact ⟨ret_int HC.out.symm, ((Grew.refl w).iter _ _).iter _ _⟩
    | some y =>
      have hq2 : Pl.right b = true := by unfold Pl.right; rw [hr2]; rfl
      have hc : Pl.compare a b = Pl.cmpNums x y := by unfold Pl.compare; rw [hr, hr2]
      have hx : x.length ≤ a.size := by simpa using Pl.runes_len _ _ x (Nat.le_refl _) hr
      have hy : y.length ≤ b.size := by simpa using Pl.runes_len _ _ y (Nat.le_refl _) hr2
      have HC := hid hc
      have HR := hid hr
      have HR2 := hid hr2
      clear hc hr hr2
      go_enter Tryz.func109, Tryz.ntmps109
      go_wp2_with fail
      refine (right_any a _ (by omega)).mono ?_
      rintro e w' ⟨rfl, p, rfl⟩
      go_wp2_with fail
      refine (right_any b _ (by omega)).mono ?_
      rintro e w' ⟨rfl, q, rfl⟩
      go_wp2_with fail
      refine (list_any a x _ ha HR.out).mono ?_
      rintro e w1 ⟨v1, rfl, hv1, hg1⟩
      go_wp2_with fail
      refine (list_any b y _ hb HR2.out).mono ?_
      rintro e w2 ⟨v2, rfl, hv2, hg2⟩
      go_wp2_with fail
      refine (compareFunc_any v1 v2 x y _ (hv1.grew hg2) hv2 (by omega)).mono ?_
      rintro e w' ⟨rfl, rfl⟩
      go_wp2_with fail
      go_ret
      exact ⟨ret_int HC.out.symm, (((Grew.refl w).iter _ _).iter _ _).trans (hg1.trans hg2)⟩
end Go.Proofs.YtlgcdneiebjkcaaGreatDoor
namespace Go.Proofs.YtlgcdneiebjkcaaGreatDoor
namespace Pl
theorem cmpNums_zero : ∀ (x y : List Nat), cmpNums x y = 0 → x = y
  | [], [], _ => rfl
  | [], _ :: _, h => by simp [cmpNums] at h
  | _ :: _, [], h => by simp [cmpNums] at h
  | a :: x, b :: y, h => by
    unfold cmpNums at h
    by_cases h1 : a < b
    · rw [if_pos h1] at h; simp at h
    · by_cases h2 : b < a
      · rw [if_neg h1, if_pos h2] at h; simp at h
      · rw [if_neg h1, if_neg h2] at h
        rw [show a = b by omega, cmpNums_zero x y h]
theorem cmpNums_trans : ∀ (x y z : List Nat), cmpNums x y < 0 → cmpNums y z < 0 → cmpNums x z < 0
  | [], [], _, h, _ => by simp [cmpNums] at h
  | [], _ :: _, [], _, h => by simp [cmpNums] at h
  | [], _ :: _, _ :: _, _, _ => by simp [cmpNums]
  | _ :: _, [], _, h, _ => by simp [cmpNums] at h
  | _ :: _, _ :: _, [], _, h => by simp [cmpNums] at h
  | a :: x, b :: y, c :: z, h, k => by
    unfold cmpNums at h k ⊢
    by_cases h1 : a < b
    · by_cases k1 : b < c
      · rw [if_pos (by omega)]; decide
      · by_cases k2 : c < b
        · rw [if_neg k1, if_pos k2] at k; simp at k
        · rw [if_pos (by omega)]; decide
    · by_cases h2 : b < a
      · rw [if_neg h1, if_pos h2] at h; simp at h
      · by_cases k1 : b < c
        · rw [if_pos (by omega)]; decide
        · by_cases k2 : c < b
          · rw [if_neg k1, if_pos k2] at k; simp at k
          · rw [if_neg h1, if_neg h2] at h
            rw [if_neg k1, if_neg k2] at k
            rw [if_neg (by omega), if_neg (by omega)]
            exact cmpNums_trans x y z h k
def Ok (s : ByteArray) : Prop := ∃ l, runes s.data.toList = some l
theorem ok_key {s : ByteArray} (h : keyN s = 0) : Ok s := by
  unfold keyN at h
  cases hr : runes s.data.toList with
  | none => rw [hr] at h; cases h
  | some l => exact ⟨l, hr⟩
theorem compare_zero {a b : ByteArray} (ha : Ok a) (hb : Ok b) (h : compare a b = 0) : a = b := by
  obtain ⟨x, hx⟩ := ha
  obtain ⟨y, hy⟩ := hb
  unfold compare at h
  rw [hx, hy] at h
  have e := cmpNums_zero x y h
  subst e
  have e2 := runes_inj _ _ _ _ (Nat.le_refl _) hx hy
  obtain ⟨⟨a⟩⟩ := a
  obtain ⟨⟨b⟩⟩ := b
  exact congrArg (fun l : List UInt8 => (⟨⟨l⟩⟩ : ByteArray)) e2
theorem compare_trans {a b c : ByteArray} (ha : Ok a) (hb : Ok b) (hc : Ok c) (h : compare a b < 0) (k : compare b c < 0) : compare a c < 0 := by
  obtain ⟨x, hx⟩ := ha
  obtain ⟨y, hy⟩ := hb
  obtain ⟨z, hz⟩ := hc
  unfold compare at h k ⊢
  rw [hx, hy] at h
  rw [hy, hz] at k
  rw [hx, hz]
  exact cmpNums_trans x y z h k
end Pl
end Go.Proofs.YtlgcdneiebjkcaaGreatDoor
namespace Go.Proofs.YtlgcdneiebjkcaaGreatDoor
open Go.RowKit Go.Maps
attribute [local go_sem] Oper.semAt_some
theorem find1_any (k v : ByteArray) (n : Int) (key : ByteArray) (w : World) (hk : k.size ≤ 70368744177664) (hy : key.size ≤ 70368744177664) :
    Calls Tryz.prog 112 #[.agg #[.string k, .string v, .int .i64 n], .string key] w fun e w' => e = .returned (.int .i64 (Pl.compare k key)) ∧ Grew w w' := by
  go_enter Tryz.func112, Tryz.ntmps112
  go_wp2_with fail
  refine (compare_any k key _ hk hy).mono ?_
  rintro e w' ⟨rfl, hg⟩
  go_wp2_with fail
  go_ret
  exact ⟨rfl, ((Grew.refl w).alloc _).trans hg⟩
set_option maxRecDepth 100000 in
set_option maxHeartbeats 4000000 in
theorem bsearch_any (a : Option Addr) (cap : Nat) (xs : List Pr) (key : ByteArray) (w : World) (hA : PairsAt w a xs) (hx : xs.length ≤ 1000000) (hks : ∀ j, j < xs.length → (prAt xs j).key.size ≤ 70368744177664) (hy : key.size ≤ 70368744177664)
    (p : Nat) (hp : p ≤ xs.length) (hpos : ∀ j, j < xs.length → (Pl.compare (prAt xs j).key key < 0 ↔ j < p)) :
    Calls Tryz.prog 111 #[.slice a xs.length cap, .string key, .func (.func 112) #[] #[]] w fun e w' => e = .returned (.tuple #[.int .i64 (p : Int), .bool (decide (p < xs.length ∧ Pl.compare (prAt xs p).key key = 0))]) ∧ Grew w w' := by
  have HA := hid hA
  have HK := hid hks
  have HP := hid hpos
  clear hA hks hpos
  go_enter Tryz.func111, Tryz.ntmps111
  go_wp2_with fail
  go_loopw [9, 10] (fun i j wr => ∃ l r : Nat, l ≤ p ∧ p ≤ r ∧ r ≤ xs.length ∧ i = .int .i64 l ∧ j = .int .i64 r ∧ Grew w wr) (fun i j _ => (intOf j).toNat - (intOf i).toNat)
  case atStart => exact ⟨0, xs.length, Nat.zero_le _, hp, Nat.le_refl _, rfl, rfl, Grew.refl w⟩
  case round =>
    obtain ⟨l, r, hl, hr, hrx, rfl, rfl, hG⟩ := hrel
    by_cases hlt : l < r
    · obtain ⟨m, hm⟩ : ∃ m, m = (l + r) / 2 := ⟨_, rfl⟩
      have hm1 : l ≤ m := by omega
      have hm2 : m < r := by omega
      have hm3 : m < xs.length := by omega
      have hm4 : (m : Int) < (xs.length : Int) := by omega
      have hme : ((l : Int) + (r : Int)) / 2 = (m : Int) := by omega
      clear hm
      rcases HA.out with h0 | ⟨b, off, rfl, hb, hR⟩
      · rw [h0] at hm3; simp at hm3
      have q0 := (hG.cells.1 b (off + m * 3) hb).trans (hR.key m hm3)
      have q1 := (hG.cells.1 b (off + m * 3 + 1) hb).trans (hR.val m hm3)
      have q2 := (hG.cells.1 b (off + m * 3 + 2) hb).trans (hR.ver m hm3)
      have HPm := hid (HP.out m hm3)
      have HF := hid (fun W => find1_any (prAt xs m).key (prAt xs m).val (prAt xs m).ver key W (HK.out m hm3) hy)
      clear hR
      by_cases hc : Pl.compare (prAt xs m).key key < 0
      · have hmp := HPm.out.1 hc
        go_wp2_with fail
        refine (HF.out _).mono ?_
        rintro e w1 ⟨rfl, hg1⟩
        go_wp2_with fail
        go_roundw
        case rel => exact ⟨m + 1, r, by omega, hr, hrx, by go_num, rfl, hG.trans hg1⟩
        case measure => simp [intOf]; omega
      · have hmp : p ≤ m := Nat.le_of_not_lt fun h => hc (HPm.out.2 h)
        go_wp2_with fail
        refine (HF.out _).mono ?_
        rintro e w1 ⟨rfl, hg1⟩
        go_wp2_with fail
        go_roundw
        case rel => exact ⟨l, m, hl, hmp, by omega, rfl, rfl, hG.trans hg1⟩
        case measure => simp [intOf]; omega
    · obtain rfl : l = p := by omega
      obtain rfl : r = l := by omega
      by_cases hpx : r < xs.length
      · rcases HA.out with h0 | ⟨b, off, rfl, hb, hR⟩
        · rw [h0] at hpx; simp at hpx
        have q0 := (hG.cells.1 b (off + r * 3) hb).trans (hR.key r hpx)
        have q1 := (hG.cells.1 b (off + r * 3 + 1) hb).trans (hR.val r hpx)
        have q2 := (hG.cells.1 b (off + r * 3 + 2) hb).trans (hR.ver r hpx)
        have HF := hid (fun W => find1_any (prAt xs r).key (prAt xs r).val (prAt xs r).ver key W (HK.out r hpx) hy)
        have hpx2 : (r : Int) < (xs.length : Int) := by omega
        clear hR
        have HB : Hid (decide (r < xs.length ∧ Pl.compare (prAt xs r).key key = 0) = (Pl.compare (prAt xs r).key key == 0)) := by
          unfold Hid
          rw [Bool.eq_iff_iff]; simp [hpx]
        go_wp2_with fail
        refine (HF.out _).mono ?_
        rintro e w1 ⟨rfl, hg1⟩
        go_wp2_with fail
        go_ret2
        exact ⟨by rw [HB.out]; rfl, hG.trans hg1⟩
      · have hpx2 : ¬ (r : Int) < (xs.length : Int) := by omega
        go_wp2_with fail
        go_ret2
        exact ⟨rfl, hG⟩
end Go.Proofs.YtlgcdneiebjkcaaGreatDoor
namespace Go.Proofs.YtlgcdneiebjkcaaGreatDoor
namespace Pl
structure Srt (xs : List Pr) : Prop where
  key : ∀ c ∈ xs, keyN c.key = 0
  rise : xs.Pairwise fun a b => compare a.key b.key < 0
theorem srt_nil : Srt [] := ⟨by simp, by simp⟩
def pos (xs : List Pr) (k : ByteArray) : Nat := xs.countP fun c => decide (compare c.key k < 0)
theorem pos_le (xs : List Pr) (k : ByteArray) : pos xs k ≤ xs.length := List.countP_le_length
theorem pos_iff {k : ByteArray} (hk : Ok k) : ∀ {xs : List Pr}, Srt xs → ∀ j, j < xs.length → (compare (prAt xs j).key k < 0 ↔ j < pos xs k) := by
  intro xs
  induction xs with
  | nil => intro _ j hj; simp at hj
  | cons c xs ih =>
    intro h j hj
    have hs : Srt xs := ⟨fun x hx => h.key x (List.mem_cons_of_mem _ hx), (List.pairwise_cons.1 h.rise).2⟩
    have hc : Ok c.key := ok_key (h.key c (by simp))
    by_cases hlt : compare c.key k < 0
    · have e : pos (c :: xs) k = pos xs k + 1 := by unfold pos; rw [List.countP_cons_of_pos (by simpa using hlt)]
      rw [e]
      cases j with
      | zero => simp [prAt, hlt]
      | succ j =>
        have := ih hs j (by simpa using hj)
        rw [show prAt (c :: xs) (j + 1) = prAt xs j from by simp [prAt]]
        omega
    · have hall : ∀ x ∈ xs, ¬ compare x.key k < 0 := by
        intro x hx hlt2
        exact hlt (compare_trans hc (ok_key (h.key x (List.mem_cons_of_mem _ hx))) hk ((List.pairwise_cons.1 h.rise).1 x hx) hlt2)
      have e0 : pos xs k = 0 := by
        unfold pos
        rw [List.countP_eq_zero]
        intro x hx
        simpa using hall x hx
      have e : pos (c :: xs) k = 0 := by
        unfold pos at e0 ⊢
        rw [List.countP_cons_of_neg (by simpa using hlt)]; exact e0
      rw [e]
      refine ⟨fun hh => ?_, fun hh => by omega⟩
      cases j with
      | zero => exact absurd (by simpa [prAt] using hh) hlt
      | succ j =>
        rw [show prAt (c :: xs) (j + 1) = prAt xs j from by simp [prAt], prAt_eq xs j (by simpa using hj)] at hh
        exact absurd hh (hall _ (List.getElem_mem _))
theorem prAt_mem (xs : List Pr) (k : Nat) (h : k < xs.length) : prAt xs k ∈ xs := by rw [prAt_eq xs k h]; exact List.getElem_mem h
def hasB (xs : List Pr) (k : ByteArray) : Bool := decide (pos xs k < xs.length ∧ compare (prAt xs (pos xs k)).key k = 0)
theorem hasB_key {xs : List Pr} (h : Srt xs) {k : ByteArray} (hk : Ok k) (hb : hasB xs k = true) : pos xs k < xs.length ∧ (prAt xs (pos xs k)).key = k := by
  unfold hasB at hb
  rw [decide_eq_true_iff] at hb
  exact ⟨hb.1, compare_zero (ok_key (h.key _ (prAt_mem xs _ hb.1))) hk hb.2⟩
end Pl
end Go.Proofs.YtlgcdneiebjkcaaGreatDoor
namespace Go.Proofs.YtlgcdneiebjkcaaGreatDoor
open Go.RowKit Go.Maps
attribute [local go_sem] Oper.semAt_some
structure InsPair (w w' : World) (v r : Value) (B n : Nat) (ys : List Value) : Prop where
  form : ∃ g cap, r = .slice (some ⟨g, 0, none⟩) n cap ∧ (v.ownBlock = some g ∨ w.heap.size ≤ g)
  row : w'.ownsRow B 41 3 r n ys
  grown : w.grownBy w' v.ownBlock
end Go.Proofs.YtlgcdneiebjkcaaGreatDoor
namespace Go.Proofs.YtlgcdneiebjkcaaGreatDoor
open Go.RowKit Go.Maps
attribute [local go_sem] Oper.semAt_some
structure TabS (S : Nat → Bool) : Prop where
  h1 : S 1 = true
  h2 : S 2 = true
  h3 : S 3 = true
  h6 : S 6 = true
  h7 : S 7 = true
structure TableIs (w : World) (F : Nat → Prop) (tb : Nat) (v : Value) (xs : List Pr) : Prop where
  cell : w.cell? ⟨tb, 0, none⟩ = some v
  fz : w.frozen? ⟨tb, 0, none⟩ = false
  row : w.ownsRow 0 41 3 v xs.length (prFlat xs)
  srt : Pl.Srt xs
  sz : ∀ c ∈ xs, c.key.size ≤ 70368744177664
  foot0 : F tb
  foot1 : ∀ g, v.ownBlock = some g → F g ∧ g ≠ tb
  lt : ∀ j, F j → j < w.heap.size
def TabAt (w : World) (F : Nat → Prop) (tb : Nat) (xs : List Pr) : Prop := ∃ v, TableIs w F tb v xs
theorem TableIs.kept {w w' : World} {F S : Nat → Prop} {tb : Nat} {v : Value} {xs : List Pr} (h : TableIs w F tb v xs) (g : Only S w w') (hS : ∀ j, F j → ¬ S j) : TableIs w' F tb v xs where
  cell := (g.cell (cell_lt h.cell) (hS _ h.foot0) 0).trans h.cell
  fz := (g.frozen (cell_lt h.cell) (hS _ h.foot0) 0).trans h.fz
  row := by
    refine ⟨h.row.1, ?_⟩
    rcases h.row.2 with h2 | ⟨b, cap, cur, e1, h2, h3, h4⟩
    · exact .inl h2
    · exact .inr ⟨b, cap, cur, e1, h2, (g.block b (Array.getElem?_eq_some_iff.1 h3).1 (hS b (h.foot1 b (by rw [e1]; rfl)).1)).trans h3, h4⟩
  srt := h.srt
  sz := h.sz
  foot0 := h.foot0
  foot1 := h.foot1
  lt j hj := Nat.lt_of_lt_of_le (h.lt j hj) g.size
theorem TableIs.grew {w w' : World} {F : Nat → Prop} {tb : Nat} {v : Value} {xs : List Pr} (h : TableIs w F tb v xs) (g : Grew w w') : TableIs w' F tb v xs := h.kept (g.only fun _ => False) (fun _ _ h => h)
theorem TabAt.kept {w w' : World} {F S : Nat → Prop} {tb : Nat} {xs : List Pr} (h : TabAt w F tb xs) (g : Only S w w') (hS : ∀ j, F j → ¬ S j) : TabAt w' F tb xs := by
  obtain ⟨v, h⟩ := h; exact ⟨v, h.kept g hS⟩
theorem TabAt.grew {w w' : World} {F : Nat → Prop} {tb : Nat} {xs : List Pr} (h : TabAt w F tb xs) (g : Grew w w') : TabAt w' F tb xs := by
  obtain ⟨v, h⟩ := h; exact ⟨v, h.grew g⟩
theorem TableIs.szAt {w : World} {F : Nat → Prop} {tb : Nat} {v : Value} {xs : List Pr} (h : TableIs w F tb v xs) : ∀ j, j < xs.length → (prAt xs j).key.size ≤ 70368744177664 := fun j hj => h.sz _ (Pl.prAt_mem xs j hj)
theorem newT_any (w : World) : Calls Tryz.prog 225 #[] w fun e w' => e = .returned (.pointer (some ⟨w.heap.size, 0, none⟩)) ∧ Grew w w' ∧ TabAt w' (fun j => j = w.heap.size) w.heap.size [] := by
  go_enter Tryz.func225, Tryz.ntmps225
  go_wp2_with fail
  go_ret
  exact ⟨rfl, (Grew.refl w).alloc _, _, ⟨by simp [go_sem], by simp [go_sem], World.ownsRow_nil _ _ _ _, Pl.srt_nil, by simp, rfl, (fun g hg => by cases hg), (fun j hj => by subst hj; simp)⟩⟩
theorem findT_any {w : World} {F : Nat → Prop} {tb : Nat} {xs : List Pr} (h : TabAt w F tb xs) (hx : xs.length ≤ 1000000) (key : ByteArray) (hy : key.size ≤ 70368744177664) (hk : Pl.Ok key) :
    Calls Tryz.prog 74 #[.pointer (some ⟨tb, 0, none⟩), .string key] w fun e w' => e = .returned (.tuple #[.int .i64 (Pl.pos xs key : Nat), .bool (Pl.hasB xs key)]) ∧ Grew w w' := by
  obtain ⟨v, h⟩ := h
  obtain ⟨a, cap, rfl, hA⟩ := pairsAt_of h.row
  have c0 := h.cell
  have hB : ∀ W, Grew w W → Calls Tryz.prog 111 #[.slice a xs.length cap, .string key, .func (.func 112) #[] #[]] W fun e w' => e = .returned (.tuple #[.int .i64 ((Pl.pos xs key : Nat) : Int), .bool (Pl.hasB xs key)]) ∧ Grew W w' :=
    fun W (g : Grew w W) => bsearch_any a cap xs key W (hA.grew g) hx h.szAt hy (Pl.pos xs key) (Pl.pos_le xs key) (Pl.pos_iff hk h.srt)
  have HB := hid hB
  clear hB
  clear h hA
  go_enter Tryz.func74, Tryz.ntmps74
  go_wp2_with fail
  refine (HB.out _ (Grew.refl w)).mono ?_
  rintro e w1 ⟨rfl, hg⟩
  go_wp2_with fail
  go_ret2
  exact ⟨rfl, hg⟩
namespace Pl
def atT (xs : List Pr) (k : ByteArray) : Int := if keyN k = 0 ∧ hasB xs k = true then ((pos xs k : Nat) : Int) else -1
end Pl
theorem atT_any {S : Nat → Bool} (hS : TabS S) (E : Nat → Addr) {w : World} (hE : Errs S E w) {F : Nat → Prop} {tb : Nat} {xs : List Pr} (h : TabAt w F tb xs) (hx : xs.length ≤ 1000000) (key : ByteArray) (hy : key.size ≤ 70368744177664) :
    Calls Tryz.prog 46 #[.pointer (some ⟨tb, 0, none⟩), .string key] w fun e w' => e = .returned (.int .i64 (Pl.atT xs key)) ∧ Grew w w' := by
  have HE := hid hE
  have HT := hid h
  clear hE h
  by_cases hk : Pl.keyN key = 0
  · have HK : Hid (errOf E (Pl.keyN key) = .nilIface) := by unfold Hid; rw [hk]; rfl
    have HF := hid (fun W (g : Grew w W) => findT_any (HT.out.grew g) hx key hy (Pl.ok_key hk))
    have HA : Hid (Pl.atT xs key = if Pl.hasB xs key = true then ((Pl.pos xs key : Nat) : Int) else -1) := by
      unfold Hid Pl.atT
      by_cases hb : Pl.hasB xs key = true
      · rw [if_pos ⟨hk, hb⟩, if_pos hb]
      · rw [if_neg (fun h => hb h.2), if_neg hb]
    clear hk
    generalize Pl.pos xs key = p at *
    generalize Pl.hasB xs key = b at *
    go_enter Tryz.func46, Tryz.ntmps46
    go_wp2_with fail
    refine (key_any S E hS.h2 hS.h3 hS.h6 hS.h7 key _ (by omega) HE.out).mono ?_
    rw [HK.out]
    rintro e w1 ⟨rfl, hg⟩
    go_wp2_with fail
    refine (HF.out _ hg).mono ?_
    rintro e w2 ⟨rfl, hg2⟩
    cases b with
    | true =>
      go_wp2_with fail
      go_ret
      exact ⟨ret_int (by rw [HA.out]; rfl), hg.trans hg2⟩
    | false =>
      go_wp2_with fail
      go_ret
      exact ⟨ret_int (by rw [HA.out]; rfl), hg.trans hg2⟩
  · have HK := hid (show errOf E (Pl.keyN key) = .iface 476 (.pointer (some (E (Pl.keyN key)))) from errOf_pos E _ hk)
    have HA : Hid (Pl.atT xs key = -1) := by unfold Hid Pl.atT; rw [if_neg (fun h => hk h.1)]
    go_enter Tryz.func46, Tryz.ntmps46
    go_wp2_with fail
    refine (key_any S E hS.h2 hS.h3 hS.h6 hS.h7 key _ (by omega) HE.out).mono ?_
    rw [HK.out]
    rintro e w1 ⟨rfl, hg⟩
    go_wp2_with fail
    go_ret
    exact ⟨ret_int (by rw [HA.out]), hg⟩
namespace Pl
def getT (xs : List Pr) (k : ByteArray) : Option Pr := if keyN k = 0 ∧ hasB xs k = true then some (prAt xs (pos xs k)) else none
end Pl
theorem getTab_any {S : Nat → Bool} (hS : TabS S) (E : Nat → Addr) {w : World} (hE : Errs S E w) {F : Nat → Prop} {tb : Nat} {xs : List Pr} (h : TabAt w F tb xs) (hx : xs.length ≤ 1000000) (key : ByteArray) (hy : key.size ≤ 70368744177664) :
    Calls Tryz.prog 24 #[.pointer (some ⟨tb, 0, none⟩), .string key] w fun e w' => e = .returned (.tuple #[((Pl.getT xs key).getD Pr.none).agg, .bool (Pl.getT xs key).isSome]) ∧ Grew w w' := by
  have HE := hid hE
  have HT := hid h
  obtain ⟨v, h⟩ := h
  obtain ⟨a, cap, rfl, hA⟩ := pairsAt_of h.row
  have c0 := h.cell
  have hb : tb < w.heap.size := cell_lt c0
  have HS := hid h.srt
  clear hE h
  by_cases hh : Pl.keyN key = 0 ∧ Pl.hasB xs key = true
  · have hg : Pl.getT xs key = some (prAt xs (Pl.pos xs key)) := by unfold Pl.getT; rw [if_pos hh]
    have ha : Pl.atT xs key = (Pl.pos xs key : Nat) := by unfold Pl.atT; rw [if_pos hh]
    have hp := (Pl.hasB_key HS.out (Pl.ok_key hh.1) hh.2).1
    have hR := hid (fun W (g : Grew w W) => atT_any hS E (HE.out.grew g) (HT.out.grew g) hx key hy)
    rw [hg]
    rw [ha] at hR
    clear hg ha hh
    generalize Pl.pos xs key = p at *
    rcases hA with h0 | ⟨b, off, rfl, hbb, hRow⟩
    · rw [h0] at hp; simp at hp
    have q0 := hRow.key p hp
    have q1 := hRow.val p hp
    have q2 := hRow.ver p hp
    clear hRow
    have hpI : (p : Int) < (xs.length : Int) := by omega
    generalize prAt xs p = c at *
    obtain ⟨ck, cv, cn⟩ := c
    dsimp only at *
    go_enter Tryz.func24, Tryz.ntmps24
    go_wp2_with fail
    refine (hR.out _ ((Grew.refl w).alloc _)).mono ?_
    rintro e w1 ⟨rfl, hg⟩
    have hz : w.heap.size < w1.heap.size := by have := hg.size; simp at this; omega
    obtain ⟨hc, hf⟩ := hg.cells
    go_wp2_with fail
    refine bodyPost_ret (v := .tuple #[.agg #[.string ck, .string cv, .int .i64 cn], .bool true]) (by simp [results, Tryz.results24, go_sem, hc]) rfl ⟨rfl, ?_⟩
    have hG := ((Grew.refl w).alloc _).trans hg
    refine ((hG.setCell ?_ _).setCell ?_ _).setCell ?_ _ <;> exact Nat.le_refl _
  · have hg : Pl.getT xs key = none := by unfold Pl.getT; rw [if_neg hh]
    have ha : Pl.atT xs key = -1 := by unfold Pl.atT; rw [if_neg hh]
    have hR := hid (fun W (g : Grew w W) => atT_any hS E (HE.out.grew g) (HT.out.grew g) hx key hy)
    rw [hg]
    rw [ha] at hR
    clear hg ha hh
    go_enter Tryz.func24, Tryz.ntmps24
    go_wp2_with fail
    refine (hR.out _ ((Grew.refl w).alloc _)).mono ?_
    rintro e w1 ⟨rfl, hg⟩
    have hz : w.heap.size < w1.heap.size := by have := hg.size; simp at this; omega
    obtain ⟨hc, hf⟩ := hg.cells
    go_wp2_with fail
    refine bodyPost_ret (v := .tuple #[.agg #[.string ⟨#[]⟩, .string ⟨#[]⟩, .int .i64 0], .bool false]) (by simp [results, Tryz.results24, go_sem, hc]) rfl ⟨rfl, ?_⟩
    have hG := ((Grew.refl w).alloc _).trans hg
    refine ((hG.setCell ?_ _).setCell ?_ _).setCell ?_ _ <;> exact Nat.le_refl _
end Go.Proofs.YtlgcdneiebjkcaaGreatDoor
