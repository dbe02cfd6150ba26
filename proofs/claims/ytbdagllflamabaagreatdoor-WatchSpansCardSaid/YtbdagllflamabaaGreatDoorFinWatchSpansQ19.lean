/- Dd6, Tab1, ScanP, Ref02P, Ref03, Ref03b, Ref21, Sort21: one text. -/
import Derived.Test.YtbdagllflamabaaGreatDoorFinWatchSpansQ18
import Derived.Test.YtbdagllflamabaaGreatDoorFinWatchSpansQ2
import Derived.Test.YtbdagllflamabaaGreatDoorFinWatchSpansQ3
import Derived.IntWalk
import Derived.Test.YtbdagllflamabaaGreatDoorFinWatchSpansQ6
import Derived.Test.YtbdagllflamabaaGreatDoorFinWatchSpansQ1
import Derived.Deep.QuietTactic
import Derived.BigQuiet
import Derived.Test.YtbdagllflamabaaGreatDoorFinWatchSpansQ11
set_option linter.unusedVariables false
set_option linter.unusedSectionVars false
set_option linter.unusedSimpArgs false
namespace Go.Proofs.YtbdagllflamabaaGreatDoor
open Go.RowKit Go.Maps Go.Shelf
attribute [local go_sem] Oper.semAt_some uponV
theorem SeenIs.len {w w' : World} {F : Nat → Prop} {sb mb n : Nat} {f : Lit → Option Value} {S : Int → Option An} (h : SeenIs w F sb mb n f S) (g : Grew w w') (ty : TypeId) : (Builtin.len_ #[213] ty #[.map (some mb)]).run Tryz.prog w' = .ok (.int .i64 ((clients S).length : Nat)) w' := by
  obtain ⟨D, hown, hf⟩ := h.lm.grew g
  obtain ⟨hnd, hmem, _, _⟩ := ownsMap_ints hown cl_keyed Tryz.underlying3
  rw [hown.len Tryz.underlying213 ty]
  have hl : Maps.size D = (intKeys D).length := by
    obtain ⟨es, hD, _⟩ := hown.entries cl_keyed
    rw [hD]
    unfold intKeys Maps.size
    simp
  have e : (intKeys D).Perm ((clients S).map (·.1)) := by
    refine (List.perm_ext_iff_of_nodup hnd ((clients_rise S).imp fun {a b} hab => by omega)).2 fun c => ?_
    rw [hmem, hf, h.val, List.mem_map]
    constructor
    · intro hc
      cases hS : S c with
      | none => rw [hS] at hc; exact absurd rfl hc
      | some a => exact ⟨(c, a), mem_clients.2 ⟨by have := h.ok c a hS; omega, hS⟩, rfl⟩
    · rintro ⟨⟨d, a⟩, hd, rfl⟩
      rw [(mem_clients.1 hd).2]
      simp
  rw [hl, e.length_eq, List.length_map]
structure JLen (y : World) (m : Nat) (L : Nat → Bool) (f : Nat → Value) (x : World) : Prop where
  grew : Grew y x
  len : L 5 = true → f 5 = .int .i64 (m : Nat)
def DI (w w4 : World) (ob m : Nat) (pre : List ClK) (W : World) : Prop := (OutL W ob (Pl.numB m ++ clsB (pre.map Subtype.val)) ∧ W.cell? ⟨ob + 1, 0, none⟩ = some (.pointer (some ⟨ob, 0, none⟩)) ∧ (∀ j, OutB ob W j → w.heap.size ≤ j ∧ j ≠ ob + 1) ∧ w4.heap.size ≤ W.heap.size) ∧ Below w.heap.size w W
theorem DI.own {w w4 : World} {ob m : Nat} (h4 : w.heap.size ≤ w4.heap.size) : OwnFrom w4.heap.size (DI w w4 ob m) := by
  rintro pre W W' row ⟨⟨h1, h2, h3, h5⟩, h6⟩ hg hr
  obtain ⟨k1, k2⟩ := h1.own hg (fun r e => (hr r e).2)
  exact ⟨⟨k1, cell_kept h2 hg (fun r e => (hr r e).2), fun j hj => h3 j ((k2 j).1 hj), Nat.le_trans h5 hg.size⟩, h6.grown hg h6.size (fun k e => Nat.le_trans h4 (hr k e).1)⟩
theorem DI.grew {w w4 W W' : World} {ob m : Nat} {pre : List ClK} (h : DI w w4 ob m pre W) (g : Grew W W') : DI w w4 ob m pre W' := by
  obtain ⟨⟨h1, h2, h3, h5⟩, h6⟩ := h
  obtain ⟨k1, k2⟩ := h1.grew g
  exact ⟨⟨k1, (g.cells.1 _ _ (cell_lt h2)).trans h2, fun j hj => h3 j ((k2 j).1 hj), Nat.le_trans h5 g.size⟩, h6.trans (Below.mono g h6.size)⟩
def DA (w4 : World) (ob Bx : Nat) (x : ClK) (W : World) : Prop := w4.heap.size ≤ Bx ∧ W.cell? ⟨Bx, 0, none⟩ = some (.int .i64 x.1.2.seq) ∧ W.cell? ⟨Bx, 1, none⟩ = some (.int .i64 x.1.2.code) ∧ W.cell? ⟨Bx, 2, none⟩ = some (.int .i64 x.1.2.at_) ∧ Bx ≠ ob ∧ ∃ v, W.cell? ⟨ob, 0, none⟩ = some v ∧ v.ownBlock ≠ some Bx
theorem DA.own {w4 : World} {ob Bx : Nat} {x : ClK} {B : Nat} : OwnFrom B (fun (_ : Unit) W => DA w4 ob Bx x W) := by
  rintro _ W W' row ⟨h1, h2, h3, h4, h5, v, h6, h7⟩ hg hr
  have hr' := fun r e => (hr r e).2
  exact ⟨h1, cell_kept h2 hg hr', cell_kept h3 hg hr', cell_kept h4 hg hr', h5, v, cell_kept h6 hg hr', h7⟩
theorem DA.apart {w4 W : World} {ob Bx : Nat} {x : ClK} (h : DA w4 ob Bx x W) : ¬ OutB ob W Bx := by
  obtain ⟨_, _, _, _, h5, v, h6, h7⟩ := h
  rintro (e | ⟨u, hu, hj⟩)
  · exact h5 e
  · rw [h6] at hu; cases hu; exact h7 hj
end Go.Proofs.YtbdagllflamabaaGreatDoor
namespace Go.Proofs.YtbdagllflamabaaGreatDoor
open Go.RowKit Go.Maps
attribute [local go_sem] Oper.semAt_some
theorem find1_any (k v : ByteArray) (n : Int) (key : ByteArray) (w : World) (hk : k.size ≤ 70368744177664) (hy : key.size ≤ 70368744177664) :
    Calls Tryz.prog 151 #[.agg #[.string k, .string v, .int .i64 n], .string key] w fun e w' => e = .returned (.int .i64 (Pl.compare k key)) ∧ Grew w w' := by
  go_enter Tryz.func151, Tryz.ntmps151
  go_wp2_with fail
  refine (compare_any k key _ hk hy).mono ?_
  rintro e w' ⟨rfl, hg⟩
  go_wp2_with fail
  go_ret
  exact ⟨rfl, ((Grew.refl w).alloc _).trans hg⟩
set_option maxRecDepth 100000 in
set_option maxHeartbeats 4000000 in
theorem bsearch_any (a : Option Addr) (cap : Nat) (xs : List Pr) (key : ByteArray) (w : World) (hA : PairsAt w a xs) (hx : xs.length ≤ 1000000) (hks : ∀ j, j < xs.length → (prAt xs j).key.size ≤ 70368744177664) (hy : key.size ≤ 70368744177664)
    (p : Nat) (hp : p ≤ xs.length) (hpos : ∀ j, j < xs.length → (Pl.compare (prAt xs j).key key < 0 ↔ j < p)) :
    Calls Tryz.prog 150 #[.slice a xs.length cap, .string key, .func (.func 151) #[] #[]] w fun e w' => e = .returned (.tuple #[.int .i64 (p : Int), .bool (decide (p < xs.length ∧ Pl.compare (prAt xs p).key key = 0))]) ∧ Grew w w' := by
  have HA := hid hA
  have HK := hid hks
  have HP := hid hpos
  clear hA hks hpos
  go_enter Tryz.func150, Tryz.ntmps150
  go_wp2_with fail
  go_loopw [9, 10] (fun i j wr => ∃ l r : Nat, l ≤ p ∧ p ≤ r ∧ r ≤ xs.length ∧ i = .int .i64 l ∧ j = .int .i64 r ∧ Grew w wr) (fun i j _ => (intOf j).toNat - (intOf i).toNat)
  case atStart => exact ⟨0, xs.length, Nat.zero_le _, hp, Nat.le_refl _, rfl, rfl, Grew.refl w⟩
  case round =>
    obtain ⟨l, r, hl, hr, hrx, rfl, rfl, hG⟩ := hrel
    by_cases hlt : l < r
    · obtain ⟨m, hm⟩ : ∃ m, m = (l + r) / 2 := ⟨_, rfl⟩
      have hm1 : l ≤ m := by omega
      have hm2 : m < r := by omega
      have hm3 : m < xs.length := by omega
      have hm4 : (m : Int) < (xs.length : Int) := by omega
      have hme : ((l : Int) + (r : Int)) / 2 = (m : Int) := by omega
      clear hm
      rcases HA.out with h0 | ⟨b, off, rfl, hb, hR⟩
      · rw [h0] at hm3; simp at hm3
      have q0 := (hG.cells.1 b (off + m * 3) hb).trans (hR.key m hm3)
      have q1 := (hG.cells.1 b (off + m * 3 + 1) hb).trans (hR.val m hm3)
      have q2 := (hG.cells.1 b (off + m * 3 + 2) hb).trans (hR.ver m hm3)
      have HPm := hid (HP.out m hm3)
      have HF := hid (fun W => find1_any (prAt xs m).key (prAt xs m).val (prAt xs m).ver key W (HK.out m hm3) hy)
      clear hR
      by_cases hc : Pl.compare (prAt xs m).key key < 0
      · have hmp := HPm.out.1 hc
        go_wp2_with fail
        refine (HF.out _).mono ?_
        rintro e w1 ⟨rfl, hg1⟩
        go_wp2_with fail
        go_roundw
        case rel => exact ⟨m + 1, r, by omega, hr, hrx, by go_num, rfl, hG.trans hg1⟩
        case measure => simp [intOf]; omega
      · have hmp : p ≤ m := Nat.le_of_not_lt fun h => hc (HPm.out.2 h)
        go_wp2_with fail
        refine (HF.out _).mono ?_
        rintro e w1 ⟨rfl, hg1⟩
        go_wp2_with fail
        go_roundw
        case rel => exact ⟨l, m, hl, hmp, by omega, rfl, rfl, hG.trans hg1⟩
        case measure => simp [intOf]; omega
    · obtain rfl : l = p := by omega
      obtain rfl : r = l := by omega
      by_cases hpx : r < xs.length
      · rcases HA.out with h0 | ⟨b, off, rfl, hb, hR⟩
        · rw [h0] at hpx; simp at hpx
        have q0 := (hG.cells.1 b (off + r * 3) hb).trans (hR.key r hpx)
        have q1 := (hG.cells.1 b (off + r * 3 + 1) hb).trans (hR.val r hpx)
        have q2 := (hG.cells.1 b (off + r * 3 + 2) hb).trans (hR.ver r hpx)
        have HF := hid (fun W => find1_any (prAt xs r).key (prAt xs r).val (prAt xs r).ver key W (HK.out r hpx) hy)
        have hpx2 : (r : Int) < (xs.length : Int) := by omega
        clear hR
        have HB : Hid (decide (r < xs.length ∧ Pl.compare (prAt xs r).key key = 0) = (Pl.compare (prAt xs r).key key == 0)) := by
          unfold Hid
          rw [Bool.eq_iff_iff]; simp [hpx]
        go_wp2_with fail
        refine (HF.out _).mono ?_
        rintro e w1 ⟨rfl, hg1⟩
        go_wp2_with fail
        go_ret2
        exact ⟨by rw [HB.out]; rfl, hG.trans hg1⟩
      · have hpx2 : ¬ (r : Int) < (xs.length : Int) := by omega
        go_wp2_with fail
        go_ret2
        exact ⟨rfl, hG⟩
end Go.Proofs.YtbdagllflamabaaGreatDoor
namespace Go.Proofs.YtbdagllflamabaaGreatDoor
namespace Pl
structure Srt (xs : List Pr) : Prop where
  key : ∀ c ∈ xs, keyN c.key = 0
  rise : xs.Pairwise fun a b => compare a.key b.key < 0
theorem srt_nil : Srt [] := ⟨by simp, by simp⟩
def pos (xs : List Pr) (k : ByteArray) : Nat := xs.countP fun c => decide (compare c.key k < 0)
theorem pos_le (xs : List Pr) (k : ByteArray) : pos xs k ≤ xs.length := List.countP_le_length
theorem pos_iff {k : ByteArray} (hk : Ok k) : ∀ {xs : List Pr}, Srt xs → ∀ j, j < xs.length → (compare (prAt xs j).key k < 0 ↔ j < pos xs k) := by
  intro xs
  induction xs with
  | nil => intro _ j hj; simp at hj
  | cons c xs ih =>
    intro h j hj
    have hs : Srt xs := ⟨fun x hx => h.key x (List.mem_cons_of_mem _ hx), (List.pairwise_cons.1 h.rise).2⟩
    have hc : Ok c.key := ok_key (h.key c (by simp))
    by_cases hlt : compare c.key k < 0
    · have e : pos (c :: xs) k = pos xs k + 1 := by unfold pos; rw [List.countP_cons_of_pos (by simpa using hlt)]
      rw [e]
      cases j with
      | zero => simp [prAt, hlt]
      | succ j =>
        have := ih hs j (by simpa using hj)
        rw [show prAt (c :: xs) (j + 1) = prAt xs j from by simp [prAt]]
        omega
    · have hall : ∀ x ∈ xs, ¬ compare x.key k < 0 := by
        intro x hx hlt2
        exact hlt (compare_trans hc (ok_key (h.key x (List.mem_cons_of_mem _ hx))) hk ((List.pairwise_cons.1 h.rise).1 x hx) hlt2)
      have e0 : pos xs k = 0 := by
        unfold pos
        rw [List.countP_eq_zero]
        intro x hx
        simpa using hall x hx
      have e : pos (c :: xs) k = 0 := by
        unfold pos at e0 ⊢
        rw [List.countP_cons_of_neg (by simpa using hlt)]; exact e0
      rw [e]
      refine ⟨fun hh => ?_, fun hh => by omega⟩
      cases j with
      | zero => exact absurd (by simpa [prAt] using hh) hlt
      | succ j =>
        rw [show prAt (c :: xs) (j + 1) = prAt xs j from by simp [prAt], prAt_eq xs j (by simpa using hj)] at hh
        exact absurd hh (hall _ (List.getElem_mem _))
theorem prAt_mem (xs : List Pr) (k : Nat) (h : k < xs.length) : prAt xs k ∈ xs := by rw [prAt_eq xs k h]; exact List.getElem_mem h
def hasB (xs : List Pr) (k : ByteArray) : Bool := decide (pos xs k < xs.length ∧ compare (prAt xs (pos xs k)).key k = 0)
theorem hasB_key {xs : List Pr} (h : Srt xs) {k : ByteArray} (hk : Ok k) (hb : hasB xs k = true) : pos xs k < xs.length ∧ (prAt xs (pos xs k)).key = k := by
  unfold hasB at hb
  rw [decide_eq_true_iff] at hb
  exact ⟨hb.1, compare_zero (ok_key (h.key _ (prAt_mem xs _ hb.1))) hk hb.2⟩
theorem hasB_of_mem {xs : List Pr} (h : Srt xs) {c : Pr} (hc : c ∈ xs) : hasB xs c.key = true ∧ prAt xs (pos xs c.key) = c := by
  obtain ⟨j, hj, rfl⟩ := List.getElem_of_mem hc
  have hok : Ok (xs[j]).key := ok_key (h.key _ hc)
  have hi := pos_iff hok h
  have h1 : ¬ j < pos xs (xs[j]).key := by
    rw [← hi j hj, prAt_eq xs j hj, compare_self hok]; simp
  have h2 : pos xs (xs[j]).key = j := by
    rcases Nat.lt_or_ge (pos xs (xs[j]).key) j with hlt | hge
    · have := (hi (pos xs (xs[j]).key) (by omega)).1 (by
        rw [prAt_eq xs _ (by omega)]
        exact List.pairwise_iff_getElem.1 h.rise _ _ (by omega) hj hlt)
      omega
    · omega
  rw [h2]
  refine ⟨?_, prAt_eq xs j hj⟩
  unfold hasB
  rw [h2, decide_eq_true_iff, prAt_eq xs j hj]
  exact ⟨hj, compare_self hok⟩
def tput (xs : List Pr) (p : Pr) : List Pr := xs.take (pos xs p.key) ++ [p] ++ xs.drop (pos xs p.key + if hasB xs p.key = true then 1 else 0)
def tdel (xs : List Pr) (k : ByteArray) : List Pr := if keyN k = 0 ∧ hasB xs k = true then xs.take (pos xs k) ++ xs.drop (pos xs k + 1) else xs
theorem take_pos {xs : List Pr} (h : Srt xs) {k : ByteArray} (hk : Ok k) (c : Pr) (hc : c ∈ xs.take (pos xs k)) : compare c.key k < 0 := by
  obtain ⟨j, hj, rfl⟩ := List.getElem_of_mem hc
  rw [List.length_take] at hj
  have := (pos_iff hk h j (by omega)).2 (by omega)
  rw [prAt_eq xs j (by omega)] at this
  rw [List.getElem_take]; exact this
theorem drop_at {xs : List Pr} (h : Srt xs) {k : ByteArray} (hk : Ok k) (q : Nat) (hql : q < xs.length) (hq : (pos xs k + if hasB xs k = true then 1 else 0) ≤ q) : compare k (xs[q]).key < 0 := by
  have hqok : Ok (xs[q]).key := ok_key (h.key _ (List.getElem_mem hql))
  have h1 : ¬ compare (xs[q]).key k < 0 := by
    rw [← prAt_eq xs q hql, pos_iff hk h q hql]
    split at hq <;> omega
  have h2 : compare (xs[q]).key k ≠ 0 := by
    intro h0
    have he : (xs[q]).key = k := compare_zero hqok hk h0
    have := hasB_of_mem h (List.getElem_mem hql)
    rw [he] at this
    have hp := this.2
    rw [if_pos this.1] at hq
    have hpl := (hasB_key h hk this.1).1
    rw [prAt_eq xs _ hpl] at hp
    have hr := List.pairwise_iff_getElem.1 h.rise (pos xs k) q hpl hql (by omega)
    rw [hp, compare_self hqok] at hr
    simp at hr
  rw [compare_swap hqok hk]
  omega
theorem drop_pos {xs : List Pr} (h : Srt xs) {k : ByteArray} (hk : Ok k) (c : Pr) (hc : c ∈ xs.drop (pos xs k + if hasB xs k = true then 1 else 0)) : compare k c.key < 0 := by
  obtain ⟨j, hj, rfl⟩ := List.getElem_of_mem hc
  rw [List.length_drop] at hj
  rw [List.getElem_drop]
  exact drop_at h hk _ _ (Nat.le_add_right _ _)
theorem srt_sub {xs ys : List Pr} (h : Srt xs) (hs : ys.Sublist xs) : Srt ys := ⟨fun c hc => h.key c (hs.subset hc), h.rise.sublist hs⟩
theorem srt_put {xs : List Pr} (h : Srt xs) {p : Pr} (hp : keyN p.key = 0) : Srt (tput xs p) := by
  have hk := ok_key hp
  refine ⟨?_, ?_⟩
  · intro c hc
    unfold tput at hc
    simp only [List.mem_append, List.mem_singleton] at hc
    rcases hc with (hc | rfl) | hc
    · exact h.key c (List.mem_of_mem_take hc)
    · exact hp
    · exact h.key c (List.mem_of_mem_drop hc)
  · unfold tput
    rw [List.append_assoc, List.pairwise_append]
    refine ⟨h.rise.sublist (List.take_sublist _ _), ?_, ?_⟩
    · rw [List.singleton_append, List.pairwise_cons]
      exact ⟨fun c hc => drop_pos h hk c hc, h.rise.sublist (List.drop_sublist _ _)⟩
    · intro a ha b hb
      have h1 := take_pos h hk a ha
      simp only [List.singleton_append, List.mem_cons] at hb
      rcases hb with rfl | hb
      · exact h1
      · exact compare_trans (ok_key (h.key a (List.mem_of_mem_take ha))) hk (ok_key (h.key b (List.mem_of_mem_drop hb))) h1 (drop_pos h hk b hb)
theorem mem_split {xs : List Pr} (h : Srt xs) {k : ByteArray} (hk : Ok k) (c : Pr) : (c ∈ xs.take (pos xs k) ∨ c ∈ xs.drop (pos xs k + if hasB xs k = true then 1 else 0)) ↔ c ∈ xs ∧ c.key ≠ k := by
  constructor
  · rintro (hc | hc)
    · refine ⟨List.mem_of_mem_take hc, fun e => ?_⟩
      have := take_pos h hk c hc
      rw [e, compare_self hk] at this; simp at this
    · refine ⟨List.mem_of_mem_drop hc, fun e => ?_⟩
      have := drop_pos h hk c hc
      rw [e, compare_self hk] at this; simp at this
  · rintro ⟨hc, hne⟩
    obtain ⟨j, hj, rfl⟩ := List.getElem_of_mem hc
    by_cases hlt : j < pos xs k
    · left; rw [List.mem_take_iff_getElem]; exact ⟨j, by omega, rfl⟩
    · right
      rw [List.mem_drop_iff_getElem]
      by_cases hb : hasB xs k = true
      · rw [if_pos hb]
        have hbk := hasB_key h hk hb
        have hne2 : j ≠ pos xs k := by
          rintro rfl
          rw [prAt_eq xs _ hbk.1] at hbk
          exact hne hbk.2
        exact ⟨j - (pos xs k + 1), by omega, by congr 1; omega⟩
      · rw [if_neg hb]
        exact ⟨j - (pos xs k + 0), by omega, by congr 1; omega⟩
theorem mem_put {xs : List Pr} (h : Srt xs) {p : Pr} (hp : keyN p.key = 0) (c : Pr) : c ∈ tput xs p ↔ c = p ∨ c ∈ xs ∧ c.key ≠ p.key := by
  rw [← mem_split h (ok_key hp)]
  unfold tput
  simp only [List.mem_append, List.mem_singleton]
  constructor
  · rintro ((h | h) | h)
    · exact .inr (.inl h)
    · exact .inl h
    · exact .inr (.inr h)
  · rintro (h | h | h)
    · exact .inl (.inr h)
    · exact .inl (.inl h)
    · exact .inr h
theorem srt_del {xs : List Pr} (h : Srt xs) (k : ByteArray) : Srt (tdel xs k) := by
  unfold tdel
  split
  · refine srt_sub h ?_
    have e : xs = xs.take (pos xs k) ++ xs.drop (pos xs k) := (List.take_append_drop _ _).symm
    conv => rhs; rw [e]
    exact List.Sublist.append (List.Sublist.refl _) (by rw [← List.drop_drop]; exact List.drop_sublist _ _)
  · exact h
theorem mem_del {xs : List Pr} (h : Srt xs) (k : ByteArray) (c : Pr) : c ∈ tdel xs k ↔ c ∈ xs ∧ c.key ≠ k := by
  unfold tdel
  split
  · next hh =>
    have := mem_split h (ok_key hh.1) c
    rw [if_pos hh.2] at this
    rw [List.mem_append]; exact this
  · next hh =>
    refine ⟨fun hc => ⟨hc, fun e => ?_⟩, fun hc => hc.1⟩
    subst e
    exact hh ⟨h.key c hc, (hasB_of_mem h hc).1⟩
theorem tput_length (xs : List Pr) (p : Pr) : (tput xs p).length ≤ xs.length + 1 := by
  unfold tput
  have := pos_le xs p.key
  simp only [List.length_append, List.length_take, List.length_singleton, List.length_drop]
  split <;> omega
end Pl
end Go.Proofs.YtbdagllflamabaaGreatDoor
namespace Go.Proofs.YtbdagllflamabaaGreatDoor
namespace Pl
end Pl
end Go.Proofs.YtbdagllflamabaaGreatDoor
namespace Go.Proofs.YtbdagllflamabaaGreatDoor.Pl
end Go.Proofs.YtbdagllflamabaaGreatDoor.Pl
namespace Go.Proofs.YtbdagllflamabaaGreatDoor
open Go.RowKit
end Go.Proofs.YtbdagllflamabaaGreatDoor
namespace Go.Proofs.YtbdagllflamabaaGreatDoor
open Go.RowKit
end Go.Proofs.YtbdagllflamabaaGreatDoor
namespace Go.Proofs.YtbdagllflamabaaGreatDoor
open Go.RowKit
namespace Pl
end Pl
end Go.Proofs.YtbdagllflamabaaGreatDoor
namespace Go.Proofs.YtbdagllflamabaaGreatDoor.Pl
theorem cmp_lt : ∀ (x y : List Nat), (cmpNums x y < 0) = (numLess x y = true)
  | [], [] => by simp [cmpNums, numLess]
  | [], _ :: _ => by simp [cmpNums, numLess]
  | _ :: _, [] => by simp [cmpNums, numLess]
  | a :: x, b :: y => by
    unfold cmpNums numLess
    by_cases h1 : a < b
    · simp [h1]
    · by_cases h2 : b < a
      · have : a ≠ b := by omega
        simp [h1, h2, this]
      · have : a = b := by omega
        subst this
        simp [cmp_lt x y]
theorem compare_lt (a b : ByteArray) (ha : ∃ l, runes a.data.toList = some l) (hb : ∃ l, runes b.data.toList = some l) : decide (compare a b < 0) = Op.bytesLess a.toList b.toList := by
  obtain ⟨x, hx⟩ := ha
  obtain ⟨y, hy⟩ := hb
  have e : compare a b = cmpNums x y := by unfold compare; rw [hx, hy]
  rw [e, ByteArray.toList_eq, ByteArray.toList_eq, less_runes _ _ _ x y (Nat.le_refl _) hx hy, Bool.eq_iff_iff, decide_eq_true_iff, cmp_lt]
end Go.Proofs.YtbdagllflamabaaGreatDoor.Pl
namespace Go.Proofs.YtbdagllflamabaaGreatDoor
open Go.RowKit Go.Maps
attribute [local go_sem] Oper.semAt_some
def MTab (w : World) (tb : Nat) (xs : List Pr) : Prop := ∃ a cap, w.cell? ⟨tb, 0, none⟩ = some (.slice a xs.length cap) ∧ PairsAt w a xs
theorem MTab.grew {w w' : World} {tb : Nat} {xs : List Pr} (h : MTab w tb xs) (g : Grew w w') : MTab w' tb xs := by
  obtain ⟨a, cap, h1, h2⟩ := h
  exact ⟨a, cap, (g.cells.1 _ _ (cell_lt h1)).trans h1, h2.grew g⟩
theorem toList_inj21 {a b : ByteArray} (h : a.toList = b.toList) : a = b := by
  rw [ByteArray.toList_eq, ByteArray.toList_eq] at h
  obtain ⟨⟨a⟩⟩ := a
  obtain ⟨⟨b⟩⟩ := b
  exact congrArg (fun l : List UInt8 => (⟨⟨l⟩⟩ : ByteArray)) h
def Pl.isK (k : ByteArray) (c : Pr) : Bool := c.key.toList == k.toList
theorem Pl.isK_iff (k : ByteArray) (c : Pr) : Pl.isK k c = true ↔ c.key = k := by
  unfold Pl.isK
  rw [beq_iff_eq]
  exact ⟨toList_inj21, fun h => by rw [h]⟩
end Go.Proofs.YtbdagllflamabaaGreatDoor
namespace Go.Proofs.YtbdagllflamabaaGreatDoor
open Go.RowKit Go.Maps
attribute [local go_sem] Oper.semAt_some
structure JS (y : World) (pv A C : List Value) (k n : Nat) (L : Nat → Bool) (f : Nat → Value) (x : World) : Prop where
  grew : Grew y x
  o4 : L 4 = true → L 0 = true
  o7 : L 7 = true → L 4 = true ∧ L 6 = true
  o11 : L 11 = true → L 7 = true
  r0 : L 0 = true → L 4 = false → x.ownsRow y.heap.size 42 3 (f 0) 0 []
  r6 : L 6 = true → L 7 = false → ∃ vb, f 6 = .slice (some ⟨vb, 0, none⟩) 1 1 ∧ y.heap.size ≤ vb ∧ x.heap[vb]? = some (.cells pv.toArray 42 (0, 0)) ∧ (L 0 = true → L 4 = false → (f 0).ownBlock ≠ some vb) ∧ (L 4 = true → (f 4).ownBlock ≠ some vb)
  r4 : L 4 = true → L 7 = false → x.ownsRow y.heap.size 42 3 (f 4) k A
  r7 : L 7 = true → L 11 = false → x.ownsRow y.heap.size 42 3 (f 7) (k + 1) (A ++ pv)
  r11 : L 11 = true → x.ownsRow y.heap.size 42 3 (f 11) (n + 1) (A ++ pv ++ C)
section
variable {y x x' : World} {pv A C : List Value} {k n : Nat} {L : Nat → Bool} {f : Nat → Value}
theorem JS.start (y : World) : JS y pv A C k n (fun _ => false) f y.drew :=
  ⟨(Grew.refl y).drew, (fun h => by cases h), (fun h => by cases h), (fun h => by cases h), (fun h => by cases h), (fun h => by cases h), (fun h => by cases h), (fun h => by cases h), (fun h => by cases h)⟩
theorem bool_no {b : Bool} (h : b = true → False) : b = false := by cases b; rfl; exact (h rfl).elim
theorem JS.s0 (h : JS y pv A C k n L f x) (hL : L 0 = false) : JS y pv A C k n (plus L 0) (updV f 0 (.slice (some ⟨x.heap.size, 0, none⟩) 0 0)) (x.alloc (.cells #[] 42)) := by
  have l4 : L 4 = false := bool_no fun h4 => by rw [h.o4 h4] at hL; cases hL
  have l7 : L 7 = false := bool_no fun h7 => by rw [(h.o7 h7).1] at l4; cases l4
  have l11 : L 11 = false := bool_no fun h11 => by rw [h.o11 h11] at l7; cases l7
  refine ⟨h.grew.alloc _, fun _ => rfl, h.o7, h.o11, fun _ _ => ?_, fun h6 h7 => ?_, fun h4 => ?_, fun h7 => ?_, fun h11 => ?_⟩
  · exact ⟨rfl, .inr ⟨x.heap.size, 0, #[], rfl, h.grew.size, heap_alloc_new x _, Nat.le_refl _, Nat.zero_le _, rfl, rfl⟩⟩
  · obtain ⟨vb, e1, e2, e3, _, e5⟩ := h.r6 h6 h7
    have hlt : vb < x.heap.size := (Array.getElem?_eq_some_iff.1 e3).1
    refine ⟨vb, e1, e2, (Below.heap_alloc _ _ vb hlt).trans e3, fun _ _ e => ?_, e5⟩
    have : x.heap.size = vb := by simpa [updV_same, Value.ownBlock] using e
    omega
  · change L 4 = true at h4; rw [l4] at h4; cases h4
  · change L 7 = true at h7; rw [l7] at h7; cases h7
  · change L 11 = true at h11; rw [l11] at h11; cases h11
theorem JS.s6 (h : JS y pv A C k n L f x) (hL : L 6 = false) : JS y pv A C k n (plus L 6) (updV f 6 (.slice (some ⟨x.heap.size, 0, none⟩) 1 1)) (x.alloc (.cells pv.toArray 42)) := by
  have l7 : L 7 = false := bool_no fun h7 => by rw [(h.o7 h7).2] at hL; cases hL
  have l11 : L 11 = false := bool_no fun h11 => by rw [h.o11 h11] at l7; cases l7
  have hG : Grew x (x.alloc (.cells pv.toArray 42)) := (Grew.refl x).alloc _
  refine ⟨h.grew.alloc _, h.o4, fun h7 => ?_, h.o11, fun h0 h4 => ownsRow_grew hG (h.r0 h0 h4), fun _ _ => ⟨x.heap.size, updV_same _ _ _, h.grew.size, heap_alloc_new x _, fun h0 h4 e => ?_, fun h4 e => ?_⟩, fun h4 h7 => ownsRow_grew hG (h.r4 h4 h7), fun h7 => ?_, fun h11 => ?_⟩
  · change L 7 = true at h7; rw [l7] at h7; cases h7
  · have := ((h.r0 h0 h4).lt x.heap.size e).2; omega
  · have := ((h.r4 h4 l7).lt x.heap.size e).2; omega
  · change L 7 = true at h7; rw [l7] at h7; cases h7
  · change L 11 = true at h11; rw [l11] at h11; cases h11
theorem JS.s4 (h : JS y pv A C k n L f x) (hL : L 4 = false) (h0 : L 0 = true) {r : Value} (hrow : x'.ownsRow y.heap.size 42 3 r k A) (hg : x.grownBy x' (f 0).ownBlock) (ho : ∀ g, r.ownBlock = some g → (f 0).ownBlock = some g ∨ g = x.heap.size) : JS y pv A C k n (plus L 4) (updV f 4 r) x' := by
  have l7 : L 7 = false := bool_no fun h7 => by rw [(h.o7 h7).1] at hL; cases hL
  have l11 : L 11 = false := bool_no fun h11 => by rw [h.o11 h11] at l7; cases l7
  have hr0 := h.r0 h0 hL
  have hG : Grew y x' := ((h.grew.only _).then (Only.of_grownBy hg)).grew fun j hj => (hr0.lt j hj.symm).1
  refine ⟨hG, fun _ => h0, fun h7 => ?_, h.o11, (fun _ h4 => by cases h4), fun h6 _ => ?_, fun _ _ => hrow, fun h7 => ?_, fun h11 => ?_⟩
  · change L 7 = true at h7; rw [l7] at h7; cases h7
  · obtain ⟨vb, e1, e2, e3, e4, _⟩ := h.r6 h6 l7
    have hlt : vb < x.heap.size := (Array.getElem?_eq_some_iff.1 e3).1
    have hne := e4 h0 hL
    refine ⟨vb, e1, e2, (hg.block vb hlt (fun e => hne e.symm)).trans e3, (fun _ h4 => by cases h4), fun _ e => ?_⟩
    have e' : r.ownBlock = some vb := e
    rcases ho vb e' with h1 | h1
    · exact hne h1
    · omega
  · change L 7 = true at h7; rw [l7] at h7; cases h7
  · change L 11 = true at h11; rw [l11] at h11; cases h11
theorem JS.s7 (h : JS y pv A C k n L f x) (hL : L 7 = false) (h4 : L 4 = true) (h6 : L 6 = true) {r : Value} (hrow : x'.ownsRow y.heap.size 42 3 r (k + 1) (A ++ pv)) (hg : x.grownBy x' (f 4).ownBlock) : JS y pv A C k n (plus L 7) (updV f 7 r) x' := by
  have l11 : L 11 = false := bool_no fun h11 => by rw [h.o11 h11] at hL; cases hL
  have hG : Grew y x' := ((h.grew.only _).then (Only.of_grownBy hg)).grew fun j hj => ((h.r4 h4 hL).lt j hj.symm).1
  refine ⟨hG, h.o4, fun _ => ⟨h4, h6⟩, fun _ => rfl, fun _ h4' => ?_, (fun _ h7 => by cases h7), (fun _ h7 => by cases h7), fun _ _ => hrow, fun h11 => ?_⟩
  · change L 4 = false at h4'; rw [h4] at h4'; cases h4'
  · change L 11 = true at h11; rw [l11] at h11; cases h11
end
namespace Pl
end Pl
end Go.Proofs.YtbdagllflamabaaGreatDoor
