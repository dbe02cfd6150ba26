/- Tab1, Span1, ScanP: one text. -/
import Derived.Test.YtoiahcgaffffbaaGreatDoorFinStatePlaysQ6
import Derived.Test.YtoiahcgaffffbaaGreatDoorFinStatePlaysQ7
import Derived.Test.YtoiahcgaffffbaaGreatDoorFinStatePlaysQ1
import Derived.IntWalk
namespace Go.Proofs.YtoiahcgaffffbaaGreatDoor
open Go.RowKit Go.Maps
attribute [local go_sem] Oper.semAt_some
theorem find1_any (k v : ByteArray) (n : Int) (key : ByteArray) (w : World) (hk : k.size ≤ 70368744177664) (hy : key.size ≤ 70368744177664) :
    Calls Tryz.prog 194 #[.agg #[.string k, .string v, .int .i64 n], .string key] w fun e w' => e = .returned (.int .i64 (Pl.compare k key)) ∧ Grew w w' := by
  go_enter Tryz.func194, Tryz.ntmps194
  go_wp2_with fail
  refine (compare_any k key _ hk hy).mono ?_
  rintro e w' ⟨rfl, hg⟩
  go_wp2_with fail
  go_ret
  exact ⟨rfl, ((Grew.refl w).alloc _).trans hg⟩
set_option maxRecDepth 100000 in
set_option maxHeartbeats 4000000 in
theorem bsearch_any (a : Option Addr) (cap : Nat) (xs : List Pr) (key : ByteArray) (w : World) (hA : PairsAt w a xs) (hx : xs.length ≤ 1000000) (hks : ∀ j, j < xs.length → (prAt xs j).key.size ≤ 70368744177664) (hy : key.size ≤ 70368744177664)
    (p : Nat) (hp : p ≤ xs.length) (hpos : ∀ j, j < xs.length → (Pl.compare (prAt xs j).key key < 0 ↔ j < p)) :
    Calls Tryz.prog 193 #[.slice a xs.length cap, .string key, .func (.func 194) #[] #[]] w fun e w' => e = .returned (.tuple #[.int .i64 (p : Int), .bool (decide (p < xs.length ∧ Pl.compare (prAt xs p).key key = 0))]) ∧ Grew w w' := by
  have HA := hid hA
  have HK := hid hks
  have HP := hid hpos
  clear hA hks hpos
  go_enter Tryz.func193, Tryz.ntmps193
  go_wp2_with fail
  go_loopw [9, 10] (fun i j wr => ∃ l r : Nat, l ≤ p ∧ p ≤ r ∧ r ≤ xs.length ∧ i = .int .i64 l ∧ j = .int .i64 r ∧ Grew w wr) (fun i j _ => (intOf j).toNat - (intOf i).toNat)
  case atStart => exact ⟨0, xs.length, Nat.zero_le _, hp, Nat.le_refl _, rfl, rfl, Grew.refl w⟩
  case round =>
    obtain ⟨l, r, hl, hr, hrx, rfl, rfl, hG⟩ := hrel
    by_cases hlt : l < r
    · obtain ⟨m, hm⟩ : ∃ m, m = (l + r) / 2 := ⟨_, rfl⟩
      have hm1 : l ≤ m := by omega
      have hm2 : m < r := by omega
      have hm3 : m < xs.length := by omega
      have hm4 : (m : Int) < (xs.length : Int) := by omega
      have hme : ((l : Int) + (r : Int)) / 2 = (m : Int) := by omega
      clear hm
      rcases HA.out with h0 | ⟨b, off, rfl, hb, hR⟩
      · rw [h0] at hm3; simp at hm3
      have q0 := (hG.cells.1 b (off + m * 3) hb).trans (hR.key m hm3)
      have q1 := (hG.cells.1 b (off + m * 3 + 1) hb).trans (hR.val m hm3)
      have q2 := (hG.cells.1 b (off + m * 3 + 2) hb).trans (hR.ver m hm3)
      have HPm := hid (HP.out m hm3)
      have HF := hid (fun W => find1_any (prAt xs m).key (prAt xs m).val (prAt xs m).ver key W (HK.out m hm3) hy)
      clear hR
      by_cases hc : Pl.compare (prAt xs m).key key < 0
      · have hmp := HPm.out.1 hc
        go_wp2_with fail
        refine (HF.out _).mono ?_
        rintro e w1 ⟨rfl, hg1⟩
        go_wp2_with fail
        go_roundw
        case rel => exact ⟨m + 1, r, by omega, hr, hrx, by go_num, rfl, hG.trans hg1⟩
        case measure => simp [intOf]; omega
      · have hmp : p ≤ m := Nat.le_of_not_lt fun h => hc (HPm.out.2 h)
        go_wp2_with fail
        refine (HF.out _).mono ?_
        rintro e w1 ⟨rfl, hg1⟩
        go_wp2_with fail
        go_roundw
        case rel => exact ⟨l, m, hl, hmp, by omega, rfl, rfl, hG.trans hg1⟩
        case measure => simp [intOf]; omega
    · obtain rfl : l = p := by omega
      obtain rfl : r = l := by omega
      by_cases hpx : r < xs.length
      · rcases HA.out with h0 | ⟨b, off, rfl, hb, hR⟩
        · rw [h0] at hpx; simp at hpx
        have q0 := (hG.cells.1 b (off + r * 3) hb).trans (hR.key r hpx)
        have q1 := (hG.cells.1 b (off + r * 3 + 1) hb).trans (hR.val r hpx)
        have q2 := (hG.cells.1 b (off + r * 3 + 2) hb).trans (hR.ver r hpx)
        have HF := hid (fun W => find1_any (prAt xs r).key (prAt xs r).val (prAt xs r).ver key W (HK.out r hpx) hy)
        have hpx2 : (r : Int) < (xs.length : Int) := by omega
        clear hR
        have HB : Hid (decide (r < xs.length ∧ Pl.compare (prAt xs r).key key = 0) = (Pl.compare (prAt xs r).key key == 0)) := by
          unfold Hid
          rw [Bool.eq_iff_iff]; simp [hpx]
        go_wp2_with fail
        refine (HF.out _).mono ?_
        rintro e w1 ⟨rfl, hg1⟩
        go_wp2_with fail
        go_ret2
        exact ⟨by rw [HB.out]; rfl, hG.trans hg1⟩
      · have hpx2 : ¬ (r : Int) < (xs.length : Int) := by omega
        go_wp2_with fail
        go_ret2
        exact ⟨rfl, hG⟩
end Go.Proofs.YtoiahcgaffffbaaGreatDoor
namespace Go.Proofs.YtoiahcgaffffbaaGreatDoor
namespace Pl
structure Srt (xs : List Pr) : Prop where
  key : ∀ c ∈ xs, keyN c.key = 0
  rise : xs.Pairwise fun a b => compare a.key b.key < 0
theorem srt_nil : Srt [] := ⟨by simp, by simp⟩
def pos (xs : List Pr) (k : ByteArray) : Nat := xs.countP fun c => decide (compare c.key k < 0)
theorem pos_le (xs : List Pr) (k : ByteArray) : pos xs k ≤ xs.length := List.countP_le_length
theorem pos_iff {k : ByteArray} (hk : Ok k) : ∀ {xs : List Pr}, Srt xs → ∀ j, j < xs.length → (compare (prAt xs j).key k < 0 ↔ j < pos xs k) := by
  intro xs
  induction xs with
  | nil => intro _ j hj; simp at hj
  | cons c xs ih =>
    intro h j hj
    have hs : Srt xs := ⟨fun x hx => h.key x (List.mem_cons_of_mem _ hx), (List.pairwise_cons.1 h.rise).2⟩
    have hc : Ok c.key := ok_key (h.key c (by simp))
    by_cases hlt : compare c.key k < 0
    · have e : pos (c :: xs) k = pos xs k + 1 := by unfold pos; rw [List.countP_cons_of_pos (by simpa using hlt)]
      rw [e]
      cases j with
      | zero => simp [prAt, hlt]
      | succ j =>
        have := ih hs j (by simpa using hj)
        rw [show prAt (c :: xs) (j + 1) = prAt xs j from by simp [prAt]]
        omega
    · have hall : ∀ x ∈ xs, ¬ compare x.key k < 0 := by
        intro x hx hlt2
        exact hlt (compare_trans hc (ok_key (h.key x (List.mem_cons_of_mem _ hx))) hk ((List.pairwise_cons.1 h.rise).1 x hx) hlt2)
      have e0 : pos xs k = 0 := by
        unfold pos
        rw [List.countP_eq_zero]
        intro x hx
        simpa using hall x hx
      have e : pos (c :: xs) k = 0 := by
        unfold pos at e0 ⊢
        rw [List.countP_cons_of_neg (by simpa using hlt)]; exact e0
      rw [e]
      refine ⟨fun hh => ?_, fun hh => by omega⟩
      cases j with
      | zero => exact absurd (by simpa [prAt] using hh) hlt
      | succ j =>
        rw [show prAt (c :: xs) (j + 1) = prAt xs j from by simp [prAt], prAt_eq xs j (by simpa using hj)] at hh
        exact absurd hh (hall _ (List.getElem_mem _))
theorem prAt_mem (xs : List Pr) (k : Nat) (h : k < xs.length) : prAt xs k ∈ xs := by rw [prAt_eq xs k h]; exact List.getElem_mem h
def hasB (xs : List Pr) (k : ByteArray) : Bool := decide (pos xs k < xs.length ∧ compare (prAt xs (pos xs k)).key k = 0)
theorem hasB_key {xs : List Pr} (h : Srt xs) {k : ByteArray} (hk : Ok k) (hb : hasB xs k = true) : pos xs k < xs.length ∧ (prAt xs (pos xs k)).key = k := by
  unfold hasB at hb
  rw [decide_eq_true_iff] at hb
  exact ⟨hb.1, compare_zero (ok_key (h.key _ (prAt_mem xs _ hb.1))) hk hb.2⟩
theorem hasB_of_mem {xs : List Pr} (h : Srt xs) {c : Pr} (hc : c ∈ xs) : hasB xs c.key = true ∧ prAt xs (pos xs c.key) = c := by
  obtain ⟨j, hj, rfl⟩ := List.getElem_of_mem hc
  have hok : Ok (xs[j]).key := ok_key (h.key _ hc)
  have hi := pos_iff hok h
  have h1 : ¬ j < pos xs (xs[j]).key := by
    rw [← hi j hj, prAt_eq xs j hj, compare_self hok]; simp
  have h2 : pos xs (xs[j]).key = j := by
    rcases Nat.lt_or_ge (pos xs (xs[j]).key) j with hlt | hge
    · have := (hi (pos xs (xs[j]).key) (by omega)).1 (by
        rw [prAt_eq xs _ (by omega)]
        exact List.pairwise_iff_getElem.1 h.rise _ _ (by omega) hj hlt)
      omega
    · omega
  rw [h2]
  refine ⟨?_, prAt_eq xs j hj⟩
  unfold hasB
  rw [h2, decide_eq_true_iff, prAt_eq xs j hj]
  exact ⟨hj, compare_self hok⟩
def tput (xs : List Pr) (p : Pr) : List Pr := xs.take (pos xs p.key) ++ [p] ++ xs.drop (pos xs p.key + if hasB xs p.key = true then 1 else 0)
def tdel (xs : List Pr) (k : ByteArray) : List Pr := if keyN k = 0 ∧ hasB xs k = true then xs.take (pos xs k) ++ xs.drop (pos xs k + 1) else xs
theorem take_pos {xs : List Pr} (h : Srt xs) {k : ByteArray} (hk : Ok k) (c : Pr) (hc : c ∈ xs.take (pos xs k)) : compare c.key k < 0 := by
  obtain ⟨j, hj, rfl⟩ := List.getElem_of_mem hc
  rw [List.length_take] at hj
  have := (pos_iff hk h j (by omega)).2 (by omega)
  rw [prAt_eq xs j (by omega)] at this
  rw [List.getElem_take]; exact this
theorem drop_at {xs : List Pr} (h : Srt xs) {k : ByteArray} (hk : Ok k) (q : Nat) (hql : q < xs.length) (hq : (pos xs k + if hasB xs k = true then 1 else 0) ≤ q) : compare k (xs[q]).key < 0 := by
  have hqok : Ok (xs[q]).key := ok_key (h.key _ (List.getElem_mem hql))
  have h1 : ¬ compare (xs[q]).key k < 0 := by
    rw [← prAt_eq xs q hql, pos_iff hk h q hql]
    split at hq <;> omega
  have h2 : compare (xs[q]).key k ≠ 0 := by
    intro h0
    have he : (xs[q]).key = k := compare_zero hqok hk h0
    have := hasB_of_mem h (List.getElem_mem hql)
    rw [he] at this
    have hp := this.2
    rw [if_pos this.1] at hq
    have hpl := (hasB_key h hk this.1).1
    rw [prAt_eq xs _ hpl] at hp
    have hr := List.pairwise_iff_getElem.1 h.rise (pos xs k) q hpl hql (by omega)
    rw [hp, compare_self hqok] at hr
    simp at hr
  rw [compare_swap hqok hk]
  omega
theorem drop_pos {xs : List Pr} (h : Srt xs) {k : ByteArray} (hk : Ok k) (c : Pr) (hc : c ∈ xs.drop (pos xs k + if hasB xs k = true then 1 else 0)) : compare k c.key < 0 := by
  obtain ⟨j, hj, rfl⟩ := List.getElem_of_mem hc
  rw [List.length_drop] at hj
  rw [List.getElem_drop]
  exact drop_at h hk _ _ (Nat.le_add_right _ _)
theorem srt_sub {xs ys : List Pr} (h : Srt xs) (hs : ys.Sublist xs) : Srt ys := ⟨fun c hc => h.key c (hs.subset hc), h.rise.sublist hs⟩
theorem srt_put {xs : List Pr} (h : Srt xs) {p : Pr} (hp : keyN p.key = 0) : Srt (tput xs p) := by
  have hk := ok_key hp
  refine ⟨?_, ?_⟩
  · intro c hc
    unfold tput at hc
    simp only [List.mem_append, List.mem_singleton] at hc
    rcases hc with (hc | rfl) | hc
    · exact h.key c (List.mem_of_mem_take hc)
    · exact hp
    · exact h.key c (List.mem_of_mem_drop hc)
  · unfold tput
    rw [List.append_assoc, List.pairwise_append]
    refine ⟨h.rise.sublist (List.take_sublist _ _), ?_, ?_⟩
    · rw [List.singleton_append, List.pairwise_cons]
      exact ⟨fun c hc => drop_pos h hk c hc, h.rise.sublist (List.drop_sublist _ _)⟩
    · intro a ha b hb
      have h1 := take_pos h hk a ha
      simp only [List.singleton_append, List.mem_cons] at hb
      rcases hb with rfl | hb
      · exact h1
      · exact compare_trans (ok_key (h.key a (List.mem_of_mem_take ha))) hk (ok_key (h.key b (List.mem_of_mem_drop hb))) h1 (drop_pos h hk b hb)
theorem mem_split {xs : List Pr} (h : Srt xs) {k : ByteArray} (hk : Ok k) (c : Pr) : (c ∈ xs.take (pos xs k) ∨ c ∈ xs.drop (pos xs k + if hasB xs k = true then 1 else 0)) ↔ c ∈ xs ∧ c.key ≠ k := by
  constructor
  · rintro (hc | hc)
    · refine ⟨List.mem_of_mem_take hc, fun e => ?_⟩
      have := take_pos h hk c hc
      rw [e, compare_self hk] at this; simp at this
    · refine ⟨List.mem_of_mem_drop hc, fun e => ?_⟩
      have := drop_pos h hk c hc
      rw [e, compare_self hk] at this; simp at this
  · rintro ⟨hc, hne⟩
    obtain ⟨j, hj, rfl⟩ := List.getElem_of_mem hc
    by_cases hlt : j < pos xs k
    · left; rw [List.mem_take_iff_getElem]; exact ⟨j, by omega, rfl⟩
    · right
      rw [List.mem_drop_iff_getElem]
      by_cases hb : hasB xs k = true
      · rw [if_pos hb]
        have hbk := hasB_key h hk hb
        have hne2 : j ≠ pos xs k := by
          rintro rfl
          rw [prAt_eq xs _ hbk.1] at hbk
          exact hne hbk.2
        exact ⟨j - (pos xs k + 1), by omega, by congr 1; omega⟩
      · rw [if_neg hb]
        exact ⟨j - (pos xs k + 0), by omega, by congr 1; omega⟩
theorem mem_put {xs : List Pr} (h : Srt xs) {p : Pr} (hp : keyN p.key = 0) (c : Pr) : c ∈ tput xs p ↔ c = p ∨ c ∈ xs ∧ c.key ≠ p.key := by
  rw [← mem_split h (ok_key hp)]
  unfold tput
  simp only [List.mem_append, List.mem_singleton]
  constructor
  · rintro ((h | h) | h)
    · exact .inr (.inl h)
    · exact .inl h
    · exact .inr (.inr h)
  · rintro (h | h | h)
    · exact .inl (.inr h)
    · exact .inl (.inl h)
    · exact .inr h
theorem srt_del {xs : List Pr} (h : Srt xs) (k : ByteArray) : Srt (tdel xs k) := by
  unfold tdel
  split
  · refine srt_sub h ?_
    have e : xs = xs.take (pos xs k) ++ xs.drop (pos xs k) := (List.take_append_drop _ _).symm
    conv => rhs; rw [e]
    exact List.Sublist.append (List.Sublist.refl _) (by rw [← List.drop_drop]; exact List.drop_sublist _ _)
  · exact h
theorem mem_del {xs : List Pr} (h : Srt xs) (k : ByteArray) (c : Pr) : c ∈ tdel xs k ↔ c ∈ xs ∧ c.key ≠ k := by
  unfold tdel
  split
  · next hh =>
    have := mem_split h (ok_key hh.1) c
    rw [if_pos hh.2] at this
    rw [List.mem_append]; exact this
  · next hh =>
    refine ⟨fun hc => ⟨hc, fun e => ?_⟩, fun hc => hc.1⟩
    subst e
    exact hh ⟨h.key c hc, (hasB_of_mem h hc).1⟩
theorem tput_length (xs : List Pr) (p : Pr) : (tput xs p).length ≤ xs.length + 1 := by
  unfold tput
  have := pos_le xs p.key
  simp only [List.length_append, List.length_take, List.length_singleton, List.length_drop]
  split <;> omega
end Pl
end Go.Proofs.YtoiahcgaffffbaaGreatDoor
namespace Go.Proofs.YtoiahcgaffffbaaGreatDoor
open Go.RowKit
namespace Pl
def isKey (s : ByteArray) : Bool := decide (keyN s = 0)
def none0 (s : ByteArray) : Bool := s.toList.isEmpty
def endB (s : ByteArray) : Bool := none0 s || isKey s
def lessB (key hi : ByteArray) : Bool := none0 hi || decide (compare key hi < 0)
def rightS (lo hi : ByteArray) : Bool := endB lo && endB hi && lessB lo hi
def hasS (lo hi key : ByteArray) : Bool := rightS lo hi && isKey key && decide (0 ≤ compare key lo) && lessB key hi
end Pl
theorem errOf_key (E : Nat → Addr) (s : ByteArray) (h : Pl.isKey s = true) : errOf E (Pl.keyN s) = .nilIface := by
  unfold Pl.isKey at h; rw [of_decide_eq_true h]; rfl
theorem errOf_nokey (E : Nat → Addr) (s : ByteArray) (h : Pl.isKey s = false) : errOf E (Pl.keyN s) = .iface 388 (.pointer (some (E (Pl.keyN s)))) :=
  errOf_pos E _ (of_decide_eq_false h)
def KeyS (S : Nat → Bool) : Prop := S 2 = true ∧ S 3 = true ∧ S 6 = true ∧ S 7 = true
set_option maxHeartbeats 400000 in
theorem end_any (S : Nat → Bool) (E : Nat → Addr) (hS : KeyS S) (s : ByteArray) (w : World) (hs : s.size ≤ 140737488351232) (hE : Errs S E w) :
    Calls Tryz.prog 105 #[.string s] w fun e w' => e = .returned (.bool (Pl.endB s)) ∧ Grew w w' := by
  obtain ⟨h2, h3, h6, h7⟩ := hS
  have hkey := key_any S E h2 h3 h6 h7 s w hs hE
  clear h2 h3 h6 h7 hE
  cases he : s.toList.isEmpty with
  | true =>
    have e : Pl.endB s = true := by unfold Pl.endB Pl.none0; rw [he]; rfl
    have e2 : s.toList = [] := by simpa using he
    have HE := hid e
    clear e hkey
    go_enter Tryz.func105, Tryz.ntmps105
    go_wp2
    go_ret
    exact ⟨ret_bool HE.out.symm, Grew.refl _⟩
  | false =>
    have e2 : (!s.toList.isEmpty) = true := by rw [he]; rfl
    have e3 : ¬ s.toList = [] := by simpa using he
    cases hk : Pl.isKey s with
    | true =>
      have e : Pl.endB s = true := by unfold Pl.endB; rw [hk]; simp
      have HE := hid e
      rw [errOf_key E s hk] at hkey
      have HK := hid hkey
      clear e hk hkey
      go_enter Tryz.func105, Tryz.ntmps105
      go_wp2_with (go_at_call 110; refine HK.out.mono ?_; rintro e w' ⟨rfl, hg⟩)
      go_ret
      exact ⟨ret_bool HE.out.symm, by assumption⟩
    | false =>
      have e : Pl.endB s = false := by unfold Pl.endB Pl.none0; rw [hk, he]; rfl
      have HE := hid e
      rw [errOf_nokey E s hk] at hkey
      have HK := hid hkey
      clear e hk hkey
      go_enter Tryz.func105, Tryz.ntmps105
      go_wp2_with (go_at_call 110; refine HK.out.mono ?_; rintro e w' ⟨rfl, hg⟩)
      go_ret
      exact ⟨ret_bool HE.out.symm, by assumption⟩
set_option maxHeartbeats 400000 in
theorem less_any (key hi : ByteArray) (w : World) (hk : key.size ≤ 70368744177664) (hh : hi.size ≤ 70368744177664) :
    Calls Tryz.prog 106 #[.string key, .string hi] w fun e w' => e = .returned (.bool (Pl.lessB key hi)) ∧ Grew w w' := by
  cases he : hi.toList.isEmpty with
  | true =>
    have e : Pl.lessB key hi = true := by unfold Pl.lessB Pl.none0; rw [he]; rfl
    have e2 : hi.toList = [] := by simpa using he
    have HE := hid e
    clear e
    go_enter Tryz.func106, Tryz.ntmps106
    go_wp2
    go_ret
    exact ⟨ret_bool HE.out.symm, Grew.refl _⟩
  | false =>
    have e2 : (!hi.toList.isEmpty) = true := by rw [he]; rfl
    have e3 : ¬ hi.toList = [] := by simpa using he
    have e : Pl.lessB key hi = decide (Pl.compare key hi < 0) := by unfold Pl.lessB Pl.none0; rw [he]; rfl
    have HE := hid e
    clear e
    go_enter Tryz.func106, Tryz.ntmps106
    go_wp2_with (go_at_call 111; refine (compare_any _ _ _ hk hh).mono ?_; rintro e w' ⟨rfl, hg⟩)
    go_ret
    exact ⟨ret_bool HE.out.symm, by assumption⟩
set_option maxHeartbeats 400000 in
theorem right_span (S : Nat → Bool) (E : Nat → Addr) (hS : KeyS S) (lo hi : ByteArray) (w : World) (hl : lo.size ≤ 70368744177664) (hh : hi.size ≤ 70368744177664) (hE : Errs S E w) :
    Calls Tryz.prog 45 #[.agg #[.string lo, .string hi]] w fun e w' => e = .returned (.bool (Pl.rightS lo hi)) ∧ Grew w w' := by
  have HE := hid hE
  have hle : lo.size ≤ 140737488351232 := by omega
  have hhe : hi.size ≤ 140737488351232 := by omega
  clear hE
  cases h1 : Pl.endB lo with
  | false =>
    have hr : Pl.rightS lo hi = false := by unfold Pl.rightS; rw [h1]; rfl
    have HR := hid hr
    clear hr
    go_enter Tryz.func45, Tryz.ntmps45
    go_wp2_with fail
    refine (end_any S E hS lo _ hle (HE.out.grew ((Grew.refl w).alloc _))).mono ?_
    rintro e w1 ⟨rfl, hg⟩
    go_wp2_with fail
    go_ret
    exact ⟨ret_bool HR.out.symm, ((Grew.refl w).alloc _).trans hg⟩
  | true =>
    cases h2 : Pl.endB hi with
    | false =>
      have hr : Pl.rightS lo hi = false := by unfold Pl.rightS; rw [h1, h2]; rfl
      have HR := hid hr
      clear hr
      go_enter Tryz.func45, Tryz.ntmps45
      go_wp2_with fail
      refine (end_any S E hS lo _ hle (HE.out.grew ((Grew.refl w).alloc _))).mono ?_
      rintro e w1 ⟨rfl, hg⟩
      have hG : Grew w w1 := ((Grew.refl w).alloc _).trans hg
      obtain ⟨hc, _⟩ := hg.cells
      go_wp2_with fail
      refine (end_any S E hS hi _ hhe (HE.out.grew hG)).mono ?_
      rintro e w2 ⟨rfl, hg2⟩
      go_wp2_with fail
      go_ret
      exact ⟨ret_bool HR.out.symm, hG.trans hg2⟩
    | true =>
      have hr : Pl.rightS lo hi = Pl.lessB lo hi := by unfold Pl.rightS; rw [h1, h2]; rfl
      have HR := hid hr
      clear hr
      go_enter Tryz.func45, Tryz.ntmps45
      go_wp2_with fail
      refine (end_any S E hS lo _ hle (HE.out.grew ((Grew.refl w).alloc _))).mono ?_
      rintro e w1 ⟨rfl, hg⟩
      have hG : Grew w w1 := ((Grew.refl w).alloc _).trans hg
      obtain ⟨hc, _⟩ := hg.cells
      go_wp2_with fail
      refine (end_any S E hS hi _ hhe (HE.out.grew hG)).mono ?_
      rintro e w2 ⟨rfl, hg2⟩
      have hz : w.heap.size < w1.heap.size := by have := hg.size; simp at this; omega
      obtain ⟨hc2, _⟩ := hg2.cells
      go_wp2_with fail
      refine (less_any lo hi _ hl hh).mono ?_
      rintro e w3 ⟨rfl, hg3⟩
      go_wp2_with fail
      go_ret
      exact ⟨ret_bool HR.out.symm, (hG.trans hg2).trans hg3⟩
end Go.Proofs.YtoiahcgaffffbaaGreatDoor
namespace Go.Proofs.YtoiahcgaffffbaaGreatDoor
open Go.RowKit
set_option maxHeartbeats 800000 in
theorem has_span (S : Nat → Bool) (E : Nat → Addr) (hS : KeyS S) (lo hi key : ByteArray) (w : World) (hl : lo.size ≤ 70368744177664) (hh : hi.size ≤ 70368744177664) (hk : key.size ≤ 70368744177664) (hE : Errs S E w) :
    Calls Tryz.prog 48 #[.agg #[.string lo, .string hi], .string key] w fun e w' => e = .returned (.bool (Pl.hasS lo hi key)) ∧ Grew w w' := by
  have HE := hid hE
  obtain ⟨s2, s3, s6, s7⟩ := id hS
  clear hE
  cases h1 : Pl.rightS lo hi with
  | false =>
    have hr : Pl.hasS lo hi key = false := by unfold Pl.hasS; rw [h1]; rfl
    have HR := hid hr
    clear hr
    go_enter Tryz.func48, Tryz.ntmps48
    go_wp2_with fail
    refine (right_span S E hS lo hi _ hl hh (HE.out.grew ((Grew.refl w).alloc _))).mono ?_
    rintro e w1 ⟨rfl, hg⟩
    go_wp2_with fail
    go_ret
    exact ⟨ret_bool HR.out.symm, ((Grew.refl w).alloc _).trans hg⟩
  | true =>
    cases h2 : Pl.isKey key with
    | false =>
      have hr : Pl.hasS lo hi key = false := by unfold Pl.hasS; rw [h1, h2]; rfl
      have HR := hid hr
      have HK := hid (errOf_nokey E key h2)
      clear hr
      go_enter Tryz.func48, Tryz.ntmps48
      go_wp2_with fail
      refine (right_span S E hS lo hi _ hl hh (HE.out.grew ((Grew.refl w).alloc _))).mono ?_
      rintro e w1 ⟨rfl, hg⟩
      have hG : Grew w w1 := ((Grew.refl w).alloc _).trans hg
      go_wp2_with fail
      refine (key_any S E s2 s3 s6 s7 key _ (by omega) (HE.out.grew hG)).mono ?_
      rw [HK.out]
      rintro e w2 ⟨rfl, hg2⟩
      go_wp2_with fail
      go_ret
      exact ⟨ret_bool HR.out.symm, hG.trans hg2⟩
    | true =>
      have HK := hid (errOf_key E key h2)
      by_cases h3 : 0 ≤ Pl.compare key lo
      · have hr : Pl.hasS lo hi key = Pl.lessB key hi := by unfold Pl.hasS; rw [h1, h2, decide_eq_true h3]; rfl
        have HR := hid hr
        clear hr
        go_enter Tryz.func48, Tryz.ntmps48
        go_wp2_with fail
        refine (right_span S E hS lo hi _ hl hh (HE.out.grew ((Grew.refl w).alloc _))).mono ?_
        rintro e w1 ⟨rfl, hg⟩
        have hG : Grew w w1 := ((Grew.refl w).alloc _).trans hg
        have hz : w.heap.size < w1.heap.size := by have := hg.size; simp at this; omega
        obtain ⟨hc, _⟩ := hg.cells
        go_wp2_with fail
        refine (key_any S E s2 s3 s6 s7 key _ (by omega) (HE.out.grew hG)).mono ?_
        rw [HK.out]
        rintro e w2 ⟨rfl, hg2⟩
        have hz2 : w.heap.size < w2.heap.size := by have := hg2.size; omega
        obtain ⟨hc2, _⟩ := hg2.cells
        go_wp2_with fail
        refine (compare_any key lo _ hk hl).mono ?_
        rintro e w3 ⟨rfl, hg3⟩
        obtain ⟨hc3, _⟩ := hg3.cells
        go_wp2_with fail
        refine (less_any key hi _ hk hh).mono ?_
        rintro e w4 ⟨rfl, hg4⟩
        go_wp2_with fail
        go_ret
        exact ⟨ret_bool HR.out.symm, ((hG.trans hg2).trans hg3).trans hg4⟩
      · have hr : Pl.hasS lo hi key = false := by unfold Pl.hasS; rw [h1, h2, decide_eq_false h3]; rfl
        have HR := hid hr
        clear hr
        go_enter Tryz.func48, Tryz.ntmps48
        go_wp2_with fail
        refine (right_span S E hS lo hi _ hl hh (HE.out.grew ((Grew.refl w).alloc _))).mono ?_
        rintro e w1 ⟨rfl, hg⟩
        have hG : Grew w w1 := ((Grew.refl w).alloc _).trans hg
        have hz : w.heap.size < w1.heap.size := by have := hg.size; simp at this; omega
        obtain ⟨hc, _⟩ := hg.cells
        go_wp2_with fail
        refine (key_any S E s2 s3 s6 s7 key _ (by omega) (HE.out.grew hG)).mono ?_
        rw [HK.out]
        rintro e w2 ⟨rfl, hg2⟩
        have hz2 : w.heap.size < w2.heap.size := by have := hg2.size; omega
        obtain ⟨hc2, _⟩ := hg2.cells
        go_wp2_with fail
        refine (compare_any key lo _ hk hl).mono ?_
        rintro e w3 ⟨rfl, hg3⟩
        go_wp2_with fail
        go_ret
        exact ⟨ret_bool HR.out.symm, (hG.trans hg2).trans hg3⟩
end Go.Proofs.YtoiahcgaffffbaaGreatDoor
namespace Go.Proofs.YtoiahcgaffffbaaGreatDoor
namespace Pl
def scanT (xs : List Pr) (lo hi : ByteArray) (limit : Int) : List Pr := (xs.filter fun c => hasS lo hi c.key).take limit.toNat
theorem scan_snoc (xs : List Pr) (lo hi : ByteArray) (limit : Int) (k : Nat) (hk : k < xs.length) :
    scanT (xs.take (k + 1)) lo hi limit = scanT (xs.take k) lo hi limit ++ if ((scanT (xs.take k) lo hi limit).length : Int) < limit ∧ hasS lo hi (prAt xs k).key = true then [prAt xs k] else [] := by
  unfold scanT
  rw [List.take_succ_eq_append_getElem hk, ← prAt_eq xs k hk, List.filter_append]
  by_cases hh : hasS lo hi (prAt xs k).key = true
  · rw [List.filter_cons_of_pos (by simpa using hh), List.filter_nil]
    generalize (xs.take k).filter _ = L
    by_cases hlt : ((L.take limit.toNat).length : Int) < limit
    · rw [if_pos ⟨hlt, hh⟩]
      rw [List.length_take] at hlt
      rw [List.take_of_length_le (show L.length ≤ limit.toNat by omega), List.take_of_length_le (by simp; omega)]
    · rw [if_neg (fun h => hlt h.1), List.append_nil]
      rw [List.length_take] at hlt
      rw [List.take_append_of_le_length (by omega)]
  · rw [List.filter_cons_of_neg (by simpa using hh), List.filter_nil, List.append_nil, if_neg (fun h => hh h.2), List.append_nil]
end Pl
end Go.Proofs.YtoiahcgaffffbaaGreatDoor
