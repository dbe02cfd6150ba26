/- The walk of tidewaterlaw20.alive. Then: tidewaterlaw20.ShardsAgain: the map, the shards that were, the entry in its variable: what stays of them, call by call. Then: Plain: the spans of a map's shards follow one another from end to end; a key lies in one of them at most. No walk here. Then: Plain: a map's shards follow one another in every order of entries. No walk here. Then: Plain: every map's shards follow one another; what is gone stays gone; a key lies in one at most. No walk here. -/
import Derived.Test.YtajoihpjnnnkeaaDoorLaw20P
import Derived.Test.YtajoihpjnnnkeaaDoorShd8
import Derived.Test.YtajoihpjnnnkeaaDoorActs20
set_option linter.unusedVariables false
set_option linter.unusedSectionVars false
set_option linter.unusedSimpArgs false
namespace Go.Proofs.YtajoihpjnnnkeaaDoor
open Go.RowKit
attribute [local go_sem] Oper.semAt_some

namespace Pl
/-- The chapter's example. -/
def eS : En := { En.zero with kind := 3, shard := 1, other := 2, server := 1, key := ⟨#[109]⟩ }
theorem alive_apply : applyB ShSt.init.xs ShSt.init.used eS 4 = true := by kernel_rfl
theorem alive_owner : ownerI (applyP ShSt.init eS 4).xs ⟨#[122]⟩ = 1 := by kernel_rfl
theorem alive_shard : (ownerV (applyP ShSt.init eS 4).xs ⟨#[122]⟩).aggOf = .agg #[.int .i64 2, .int .i64 1, .int .i64 5, .string ⟨#[109]⟩, .string ⟨#[]⟩] := by
  have : ownerV (applyP ShSt.init eS 4).xs ⟨#[122]⟩ = ⟨2, 1, 5, ⟨#[109]⟩, ⟨#[]⟩⟩ := by
    kernel_rfl
  rw [this]; rfl
end Pl

set_option maxRecDepth 100000 in
set_option maxHeartbeats 2000000 in
theorem alive20 {S : Nat → Bool} (hS : ShdS S) (E : Nat → Addr) (w : World) (hE : Errs S E w) : Calls Tryd.prog 8 #[] w fun e w' => e = .returned (.bool true) ∧ Grew w w' := by
  have HA := hid (fun W F sb (g : Grew w W) (h : StAt W F sb ShSt.init) => apply_any hS E (hE.grew g) h (by decide) (by decide) Pl.eS ⟨.inl rfl, by decide, fun o ho => (by cases ho), by decide⟩ (by decide) 4)
  have HO := hid (fun W F sb (g : Grew w W) (h : StAt W F sb (Pl.applyP ShSt.init Pl.eS 4)) => owner_any hS E (hE.grew g) h (by have := (Pl.inv_apply Pl.inv_init Pl.eS 4).len; omega) ⟨#[122]⟩ (by decide))
  simp only [Pl.alive_apply, Pl.alive_owner, Pl.alive_shard] at HA HO
  have e0 : Pl.eS.agg = .agg #[.int .i64 3, .int .i64 1, .int .i64 2, .int .i64 1, .int .i64 0, .int .i64 0, .slice none 0 0, .string ⟨#[109]⟩, .int .i64 0, .int .i64 0, .int .i64 0, .slice none 0 0] := rfl
  rw [e0] at HA
  clear e0
  go_enter Tryd.func8, Tryd.ntmps8
  go_wp2_with fail
  refine (newM_any w).mono ?_
  rintro r w1 ⟨sb, rfl, hg1, hsb, F, hM, hF⟩
  have HM := hid hM
  have HF := hid hF
  clear hM hF
  go_wp2_with fail
  refine (HA.out w1 F sb hg1 HM.out).mono ?_
  rintro r w2 ⟨rfl, ho2, F2, h2, hF2⟩
  have HG2 := hid (((hg1.only F).then ho2).grew fun j hj => HF.out j hj)
  have H2 := hid h2
  clear ho2 h2 hF2
  go_wp2_with fail
  refine (HO.out w2 F2 sb HG2.out H2.out).mono ?_
  rintro r w3 ⟨rfl, hg3⟩
  have hG3 := HG2.out.trans hg3
  clear hg3
  go_wp2_with fail
  go_ret
  exact ⟨rfl, hG3.alloc _⟩
end Go.Proofs.YtajoihpjnnnkeaaDoor

set_option linter.unusedVariables false
set_option linter.unusedSectionVars false
set_option linter.unusedSimpArgs false
namespace Go.Proofs.YtajoihpjnnnkeaaDoor
open Go.RowKit Go.Maps

/-- The map (state s), a row of shards that were told, an entry in a variable; base: the world at first. -/
structure AgAt (w W : World) (F : Nat → Prop) (sb : Nat) (s : ShSt) (gw cw : Nat) (ws : List Sh) (e : En) : Prop where
  st : StAt W F sb s
  low : ∀ j, F j → w.heap.size < j
  far : ¬ F gw
  row : W.ownsRow 0 40 5 (.slice (some ⟨gw, 0, none⟩) ws.length cw) ws.length (shFlat ws)
  rlt : gw < W.heap.size
  gne : w.heap.size < gw
  box : EnBox W w.heap.size e
  blt : w.heap.size < W.heap.size
  grew : Grew w W
section
variable {w W W' : World} {F F' : Nat → Prop} {sb : Nat} {s s' : ShSt} {gw cw : Nat} {ws : List Sh} {e : En}
theorem AgAt.turn (h : AgAt w W F sb s gw cw ws e) (ho : Only F W W') (h' : StAt W' F' sb s') (hF' : ∀ j, F' j → F j ∨ W.heap.size ≤ j) : AgAt w W' F' sb s' gw cw ws e := by
  have hlow : ∀ j, F' j → w.heap.size < j := fun j hj => by
    rcases hF' j hj with h1 | h1
    · exact h.low j h1
    · have := h.blt; omega
  refine ⟨h', hlow, fun hg => ?_, ownsRow_keep ho h.row (fun b hb e => ?_), Nat.lt_of_lt_of_le h.rlt ho.size, h.gne, h.box.only ho h.blt (fun hb => Nat.lt_irrefl _ (h.low _ hb)), Nat.lt_of_lt_of_le h.blt ho.size, ?_⟩
  · rcases hF' _ hg with h1 | h1
    · exact h.far h1
    · have := h.rlt; omega
  · have : gw = b := Option.some.inj hb
    subst this; exact h.far e
  · exact ((h.grew.only F).then ho).grew fun j hj => Nat.le_of_lt (h.low j hj)
theorem AgAt.more (h : AgAt w W F sb s gw cw ws e) (g : Grew W W') : AgAt w W' F sb s gw cw ws e := h.turn (g.only F) (h.st.grew g) fun _ => .inl
end

section
variable {S : Nat → Bool} (hS : ShdS S) (E : Nat → Addr) {w W : World} (hE : Errs S E w) {F : Nat → Prop} {sb : Nat} {s : ShSt} {gw cw : Nat} {ws : List Sh} {e : En} (h : AgAt w W F sb s gw cw ws e) (hx : s.xs.length ≤ 1000)
include hS hE h hx
theorem ag_apply (hne : s.ne ≤ 1000000) (e' : En) (hA : EnAt W e') (hkey : e'.key.size ≤ 70368744177664) (at' : Int) :
    Calls Tryd.prog 11 #[.pointer (some ⟨sb, 0, none⟩), e'.agg, .int .i64 at'] W fun r W' => r = .returned (.bool (Pl.applyB s.xs s.used e' at')) ∧ ∃ F', AgAt w W' F' sb (Pl.applyP s e' at') gw cw ws e := by
  refine (apply_any hS E (hE.grew h.grew) h.st hx hne e' hA hkey at').mono ?_
  rintro r W' ⟨hr, ho, F', h', hF'⟩
  exact ⟨hr, F', h.turn ho h' hF'⟩
theorem ag_counts (e' : En) (hA : EnAt W e') (hkey : e'.key.size ≤ 70368744177664) :
    Calls Tryd.prog 13 #[.pointer (some ⟨sb, 0, none⟩), e'.agg] W fun r W' => r = .returned (.bool (Pl.countsB s.xs s.used e')) ∧ AgAt w W' F sb s gw cw ws e := by
  refine (counts_any hS E (hE.grew h.grew) h.st (by omega) e' hA hkey).mono ?_
  rintro r W' ⟨hr, g⟩
  exact ⟨hr, h.more g⟩
end
section
variable {w W : World} {F : Nat → Prop} {sb : Nat} {s : ShSt} {gw cw : Nat} {ws : List Sh} {e : En} (h : AgAt w W F sb s gw cw ws e) (hx : s.xs.length ≤ 1000)
include h hx
theorem ag_shards (h0 : 0 < s.xs.length) : Calls Tryd.prog 12 #[.pointer (some ⟨sb, 0, none⟩)] W fun r W' => ∃ g cap, r = .returned (.slice (some ⟨g, 0, none⟩) s.xs.length cap) ∧ W'.ownsRow 0 40 5 (.slice (some ⟨g, 0, none⟩) s.xs.length cap) s.xs.length (shFlat s.xs) ∧ AgAt w W' F sb s gw cw ws e ∧ W.heap.size ≤ g := by
  refine (shards_any h.st hx h0).mono ?_
  rintro r W' ⟨g, cap, hr, hrow, g1⟩
  obtain ⟨g', c', e', hb, _⟩ := hrow.form h0
  cases e'
  exact ⟨g, cap, hr, ownsRow_base (Nat.zero_le _) hrow, h.more g1, hb⟩
theorem ag_shard (id : Int) : Calls Tryd.prog 14 #[.pointer (some ⟨sb, 0, none⟩), .int .i64 id] W fun r W' => r = .returned (.tuple #[(Pl.shardV s.xs id).aggOf, .bool (decide (0 ≤ Pl.findM s.xs id))]) ∧ AgAt w W' F sb s gw cw ws e := by
  refine (shardM_any h.st hx id).mono ?_
  rintro r W' ⟨hr, g⟩
  exact ⟨hr, h.more g⟩
end

theorem enAt_short {W : World} {A : Ac} (h : OpRsAt W A.e.opsA A.e.ops) (hs : A.e.ops.length ≤ 20 ∧ A.e.key.size ≤ 300 ∧ A.e.dataL ≤ 600 ∧ ∀ o ∈ A.e.ops, o.key.size ≤ 300 ∧ o.val.size ≤ 300 ∧ o.old.size ≤ 300) : EnAt W A.e :=
  ⟨h, by omega, fun o ho => by obtain ⟨a, b, c⟩ := hs.2.2.2 o ho; exact ⟨by omega, by omega, by omega⟩, by omega⟩

end Go.Proofs.YtajoihpjnnnkeaaDoor

set_option linter.unusedVariables false
namespace Go.Proofs.YtajoihpjnnnkeaaDoor.Pl

/-- Spans that follow one another. -/
structure ChainF (n : Nat) (lo hi : Nat → ByteArray) : Prop where
  pos : 0 < n
  first : lo 0 = ⟨#[]⟩
  last : hi (n - 1) = ⟨#[]⟩
  link : ∀ i, i + 1 < n → hi i = lo (i + 1) ∧ none0 (hi i) = false
  right : ∀ i, i < n → rightS (lo i) (hi i) = true
theorem right_parts {lo hi : ByteArray} (h : rightS lo hi = true) : endB lo = true ∧ endB hi = true ∧ lessB lo hi = true := by
  unfold rightS at h
  simp only [Bool.and_eq_true] at h
  exact ⟨h.1.1, h.1.2, h.2⟩
section
variable {n : Nat} {lo hi : Nat → ByteArray} (h : ChainF n lo hi)
include h
theorem ChainF.okLo (i : Nat) (hi' : i < n) : Ok (lo i) := ok_end (right_parts (h.right i hi')).1
theorem ChainF.step (i : Nat) (hi' : i + 1 < n) : compare (lo i) (lo (i + 1)) < 0 := by
  obtain ⟨h1, h2⟩ := h.link i hi'
  obtain ⟨_, _, h3⟩ := right_parts (h.right i (by omega))
  unfold lessB at h3
  rw [h2, Bool.false_or, decide_eq_true_eq, h1] at h3
  exact h3
theorem ChainF.lows : ∀ (d i : Nat), i + d + 1 < n → compare (lo i) (lo (i + d + 1)) < 0
  | 0, i, hd => h.step i hd
  | d + 1, i, hd => by
    have h1 := ChainF.lows d i (by omega)
    have h2 := h.step (i + d + 1) (by omega)
    exact compare_trans (h.okLo i (by omega)) (h.okLo (i + d + 1) (by omega)) (h.okLo (i + d + 1 + 1) (by omega)) h1 h2
theorem ChainF.low (i j : Nat) (hij : i < j) (hj : j < n) : compare (lo i) (lo j) < 0 := by
  have := h.lows (j - i - 1) i (by omega)
  rwa [show i + (j - i - 1) + 1 = j by omega] at this
theorem ChainF.loInj (i j : Nat) (hi' : i < n) (hj : j < n) (he : lo i = lo j) : i = j := by
  rcases Nat.lt_trichotomy i j with h1 | h1 | h1
  · have := h.low i j h1 hj
    rw [he, compare_self (h.okLo j hj)] at this; omega
  · exact h1
  · have := h.low j i h1 hi'
    rw [he, compare_self (h.okLo j hj)] at this; omega
/-- A key lies in one of them at most. -/
theorem ChainF.uniq (key : ByteArray) (i j : Nat) (hi' : i < n) (hj : j < n) (h1 : hasS (lo i) (hi i) key = true) (h2 : hasS (lo j) (hi j) key = true) : i = j := by
  have key1 : ∀ i j, i < j → j < n → hasS (lo i) (hi i) key = true → hasS (lo j) (hi j) key = true → False := by
    intro i j hij hj h1 h2
    obtain ⟨_, k1, _, k2⟩ := has_right h1
    obtain ⟨_, _, k3, _⟩ := has_right h2
    obtain ⟨l1, l2⟩ := h.link i (by omega)
    unfold lessB at k2
    rw [l2, Bool.false_or, decide_eq_true_eq, l1] at k2
    have ho := ok_isKey k1
    by_cases he : i + 1 = j
    · subst he; omega
    · have k4 := h.low (i + 1) j (by omega) hj
      have := compare_trans ho (h.okLo (i + 1) (by omega)) (h.okLo j hj) k2 k4
      omega
  rcases Nat.lt_trichotomy i j with h3 | h3 | h3
  · exact (key1 i j h3 hj h1 h2).elim
  · exact h3
  · exact (key1 j i h3 hi' h2 h1).elim
end

/-- The shards' spans follow one another. -/
def Chain (xs : List Sh) : Prop := ChainF xs.length (fun i => (shAt xs i).lo) (fun i => (shAt xs i).hi)
theorem chain_init : Chain ShSt.init.xs :=
  ⟨by decide, rfl, rfl, fun i hi => absurd hi (by have : ShSt.init.xs.length = 1 := rfl; omega), fun i hi => by
    have : ShSt.init.xs.length = 1 := rfl
    have hi0 : i = 0 := by omega
    subst hi0
    show rightS ⟨#[]⟩ ⟨#[]⟩ = true
    unfold rightS endB lessB none0
    rw [ByteArray.toList_eq]; rfl⟩
theorem shAt_set (xs : List Sh) (i : Nat) (hi : i < xs.length) (c : Sh) (j : Nat) : shAt (xs.set i c) j = if j = i then c else shAt xs j := by
  unfold shAt
  rw [List.getElem?_set]
  by_cases h : i = j
  · subst h; rw [if_pos rfl, if_pos hi, if_pos rfl]; rfl
  · rw [if_neg h, if_neg (Ne.symm h)]
end Go.Proofs.YtajoihpjnnnkeaaDoor.Pl

set_option linter.unusedVariables false
set_option linter.unusedSimpArgs false
namespace Go.Proofs.YtajoihpjnnnkeaaDoor.Pl

theorem ChainF.congr {n : Nat} {lo hi lo' hi' : Nat → ByteArray} (h : ChainF n lo hi) (h1 : ∀ i, i < n → lo' i = lo i) (h2 : ∀ i, i < n → hi' i = hi i) : ChainF n lo' hi' :=
  ⟨h.pos, (h1 0 h.pos).trans h.first, (h2 _ (by have := h.pos; omega)).trans h.last, fun i hi0 => by rw [h2 i (by omega), h1 (i + 1) hi0]; exact h.link i hi0, fun i hi0 => by rw [h1 i hi0, h2 i hi0]; exact h.right i hi0⟩
theorem ChainF.split {n : Nat} {lo hi : Nat → ByteArray} (h : ChainF n lo hi) (i : Nat) (hi' : i < n) (key : ByteArray) (h1 : rightS (lo i) key = true) (h2 : rightS key (hi i) = true) (hk : none0 key = false) :
    ChainF (n + 1) (fun j => if j ≤ i then lo j else if j = i + 1 then key else lo (j - 1)) (fun j => if j < i then hi j else if j = i then key else hi (j - 1)) := by
  refine ⟨Nat.succ_pos n, ?_, ?_, fun j hj => ?_, fun j hj => ?_⟩
  · (try dsimp only); rw [if_pos (Nat.zero_le _)]; exact h.first
  · (try dsimp only); rw [if_neg (by omega), if_neg (by omega)]; exact h.last
  · try dsimp only
    by_cases a1 : j < i
    · rw [if_pos a1, if_pos (by omega)]; exact h.link j (by omega)
    · rw [if_neg a1]
      by_cases a2 : j = i
      · rw [if_pos a2, if_neg (by omega), if_pos (by omega)]; exact ⟨rfl, hk⟩
      · rw [if_neg a2, if_neg (by omega), if_neg (by omega)]
        have := h.link (j - 1) (by omega)
        rwa [show j - 1 + 1 = j by omega] at this
  · try dsimp only
    by_cases a1 : j < i
    · rw [if_pos a1, if_pos (by omega)]; exact h.right j (by omega)
    · rw [if_neg a1]
      by_cases a2 : j = i
      · subst a2; rw [if_pos rfl, if_pos (Nat.le_refl _)]; exact h1
      · rw [if_neg a2, if_neg (by omega)]
        by_cases a3 : j = i + 1
        · rw [if_pos a3, a3, show i + 1 - 1 = i by omega]; exact h2
        · rw [if_neg a3]; exact h.right (j - 1) (by omega)
theorem right_trans {a b d : ByteArray} (h1 : rightS a b = true) (h2 : rightS b d = true) (hb : none0 b = false) : rightS a d = true := by
  obtain ⟨a1, a2, a3⟩ := right_parts h1
  obtain ⟨b1, b2, b3⟩ := right_parts h2
  unfold rightS
  rw [a1, b2]
  unfold lessB at a3 b3 ⊢
  rw [hb, Bool.false_or, decide_eq_true_eq] at a3
  cases hd : none0 d with
  | true => rfl
  | false =>
    rw [hd, Bool.false_or, decide_eq_true_eq] at b3
    have := compare_trans (ok_end a1) (ok_end b1) (ok_end b2) a3 b3
    simpa using this
theorem ChainF.merge {n : Nat} {lo hi : Nat → ByteArray} (h : ChainF n lo hi) (k : Nat) (hk : k + 1 < n) :
    ChainF (n - 1) (fun j => if j ≤ k then lo j else lo (j + 1)) (fun j => if j < k then hi j else hi (j + 1)) := by
  refine ⟨by omega, ?_, ?_, fun j hj => ?_, fun j hj => ?_⟩
  · (try dsimp only); rw [if_pos (Nat.zero_le _)]; exact h.first
  · (try dsimp only); rw [if_neg (by omega), show n - 1 - 1 + 1 = n - 1 by omega]; exact h.last
  · try dsimp only
    by_cases a1 : j < k
    · rw [if_pos a1, if_pos (by omega)]; exact h.link j (by omega)
    · rw [if_neg a1, if_neg (by omega)]; exact h.link (j + 1) (by omega)
  · try dsimp only
    by_cases a1 : j < k
    · rw [if_pos a1, if_pos (by omega)]; exact h.right j (by omega)
    · rw [if_neg a1]
      by_cases a2 : j = k
      · subst a2
        rw [if_pos (Nat.le_refl _)]
        obtain ⟨l1, l2⟩ := h.link j hk
        refine right_trans (h.right j (by omega)) ?_ l2
        rw [l1]; exact h.right (j + 1) hk
      · rw [if_neg (by omega)]; exact h.right (j + 1) (by omega)

theorem shAt_split (xs : List Sh) (i : Nat) (hi : i < xs.length) (key : ByteArray) (other server at' : Int) (j : Nat) :
    shAt (splitM xs i key other server at') j = if j < i then shAt xs j else if j = i then ⟨(shAt xs i).id, (shAt xs i).server, at' + 1, (shAt xs i).lo, key⟩ else if j = i + 1 then ⟨other, server, at' + 1, key, (shAt xs i).hi⟩ else shAt xs (j - 1) := by
  have hA : (xs.take i).length = i := by rw [List.length_take]; omega
  unfold splitM
  generalize (⟨(shAt xs i).id, (shAt xs i).server, at' + 1, (shAt xs i).lo, key⟩ : Sh) = a
  generalize (⟨other, server, at' + 1, key, (shAt xs i).hi⟩ : Sh) = b
  unfold shAt
  by_cases h1 : j < i
  · rw [if_pos h1, List.append_assoc, List.getElem?_append_left (by omega), List.getElem?_take, if_pos h1]
  · rw [if_neg h1, List.append_assoc, List.getElem?_append_right (by omega), hA]
    by_cases h2 : j = i
    · subst h2; rw [if_pos rfl, Nat.sub_self]; rfl
    · rw [if_neg h2]
      by_cases h3 : j = i + 1
      · subst h3; rw [if_pos rfl, show i + 1 - i = 1 by omega]; rfl
      · rw [if_neg h3, List.getElem?_append_right (by simp; omega), List.getElem?_drop]
        rw [show i + 1 + (j - i - [a, b].length) = j - 1 by simp; omega]
theorem shAt_merge (xs : List Sh) (i j : Nat) (hj : j < xs.length) (v : ByteArray × ByteArray) (at' : Int) (m : Nat) :
    shAt (mergeM xs i j v at') m = shAt (xs.set i ⟨(shAt xs i).id, (shAt xs i).server, at' + 1, v.1, v.2⟩) (if m < j then m else m + 1) := by
  unfold mergeM
  generalize hys : xs.set i _ = ys
  have hl : ys.length = xs.length := by rw [← hys, List.length_set]
  have hA : (ys.take j).length = j := by rw [List.length_take]; omega
  unfold shAt
  by_cases h1 : m < j
  · rw [if_pos h1, List.getElem?_append_left (by omega), List.getElem?_take, if_pos h1]
  · rw [if_neg h1, List.getElem?_append_right (by omega), hA, List.getElem?_drop, show j + 1 + (m - j) = m + 1 by omega]

theorem chain_split {xs : List Sh} (h : Chain xs) (i : Nat) (hi : i < xs.length) (key : ByteArray) (other server at' : Int) (hh : hasS (shAt xs i).lo (shAt xs i).hi key = true) (hnk : key.toList ≠ (shAt xs i).lo.toList) : Chain (splitM xs i key other server at') := by
  obtain ⟨c1, c2, _⟩ := cut_join hh hnk
  have hk := key_none (has_right hh).2.1
  unfold Chain
  rw [splitM_len xs i hi]
  refine (ChainF.split h i hi key c1 c2 hk).congr (fun j hj => ?_) (fun j hj => ?_)
  · rw [shAt_split xs i hi]
    by_cases a1 : j < i
    · have a2 : j ≤ i := by omega
      simp only [if_pos a1, if_pos a2]
    · by_cases a2 : j = i
      · have a3 : j ≤ i := by omega
        simp only [if_neg a1, if_pos a2, if_pos a3]
        rw [a2]
      · have a4 : ¬ j ≤ i := by omega
        by_cases a3 : j = i + 1
        · simp only [if_neg a1, if_neg a2, if_pos a3, if_neg a4]
        · simp only [if_neg a1, if_neg a2, if_neg a3, if_neg a4]
  · rw [shAt_split xs i hi]
    by_cases a1 : j < i
    · simp only [if_pos a1]
    · by_cases a2 : j = i
      · simp only [if_neg a1, if_pos a2]
      · by_cases a3 : j = i + 1
        · simp only [if_neg a1, if_neg a2, if_pos a3]
          rw [a3]; rfl
        · simp only [if_neg a1, if_neg a2, if_neg a3]
theorem toList_inj {a b : ByteArray} (h : a.toList = b.toList) : a = b := by
  rw [ByteArray.toList_eq, ByteArray.toList_eq] at h
  obtain ⟨⟨a⟩⟩ := a
  obtain ⟨⟨b⟩⟩ := b
  exact congrArg (fun l : List UInt8 => (⟨⟨l⟩⟩ : ByteArray)) h
theorem chain_merge {xs : List Sh} (h : Chain xs) (i j : Nat) (hi : i < xs.length) (hj : j < xs.length) (at' : Int)
    (hz : joinE (rightS (shAt xs i).lo (shAt xs i).hi) (rightS (shAt xs j).lo (shAt xs j).hi) (shAt xs i).lo (shAt xs i).hi (shAt xs j).lo (shAt xs j).hi = 0) :
    Chain (mergeM xs i j (joinV (rightS (shAt xs i).lo (shAt xs i).hi) (rightS (shAt xs j).lo (shAt xs j).hi) (shAt xs i).lo (shAt xs i).hi (shAt xs j).lo (shAt xs j).hi) at') := by
  have r1 := h.right i hi
  have r2 := h.right j hj
  try dsimp only at r1 r2
  rw [r1, r2] at hz ⊢
  have hlast : ∀ a, a < xs.length → none0 (shAt xs a).hi = false → a + 1 < xs.length := by
    intro a ha hn
    apply Classical.byContradiction
    intro hc
    have := h.last
    rw [show xs.length - 1 = a by omega] at this
    try dsimp only at this
    rw [this] at hn; exact absurd hn (by rw [(none0_iff _).2 rfl]; simp)
  have hpos := h.pos
  unfold Chain
  rw [mergeM_len xs i j hj]
  unfold joinE at hz
  unfold joinV
  rw [if_neg (by simp)] at hz ⊢
  by_cases q1 : none0 (shAt xs i).hi = false ∧ (shAt xs i).hi.toList = (shAt xs j).lo.toList
  · rw [if_pos q1]
    have hn := hlast i hi q1.1
    have hl := (h.link i hn).1
    try dsimp only at hl
    have hji : j = i + 1 := (h.loInj (i + 1) j hn hj (by rw [← hl]; exact toList_inj q1.2)).symm
    refine (ChainF.merge h i hn).congr (fun m hm => ?_) (fun m hm => ?_)
    · rw [shAt_merge xs i j hj, shAt_set xs i hi]
      by_cases a1 : m ≤ i
      · have b1 : m < j := by omega
        by_cases a2 : m = i
        · simp only [if_pos a1, if_pos b1, if_pos a2]
          rw [a2]
        · simp only [if_pos a1, if_pos b1, if_neg a2]
      · have b1 : ¬ m < j := by omega
        have a2 : ¬ m + 1 = i := by omega
        simp only [if_neg a1, if_neg b1, if_neg a2]
    · rw [shAt_merge xs i j hj, shAt_set xs i hi]
      by_cases a1 : m < i
      · have b1 : m < j := by omega
        have a2 : ¬ m = i := by omega
        simp only [if_pos a1, if_pos b1, if_neg a2]
      · by_cases a2 : m = i
        · have b1 : m < j := by omega
          simp only [if_neg a1, if_pos b1, if_pos a2]
          rw [a2, ← hji]
        · have b1 : ¬ m < j := by omega
          have a3 : ¬ m + 1 = i := by omega
          simp only [if_neg a1, if_neg b1, if_neg a3]
  · rw [if_neg q1] at hz ⊢
    by_cases q2 : none0 (shAt xs j).hi = false ∧ (shAt xs j).hi.toList = (shAt xs i).lo.toList
    · rw [if_pos q2]
      have hn := hlast j hj q2.1
      have hl := (h.link j hn).1
      try dsimp only at hl
      have hij : i = j + 1 := (h.loInj (j + 1) i hn hi (by rw [← hl]; exact toList_inj q2.2)).symm
      refine (ChainF.merge h j hn).congr (fun m hm => ?_) (fun m hm => ?_)
      · rw [shAt_merge xs i j hj, shAt_set xs i hi]
        by_cases a1 : m ≤ j
        · by_cases a2 : m = j
          · have b1 : ¬ m < j := by omega
            have a3 : m + 1 = i := by omega
            simp only [if_pos a1, if_neg b1, if_pos a3]
            rw [a2]
          · have b1 : m < j := by omega
            have a3 : ¬ m = i := by omega
            simp only [if_pos a1, if_pos b1, if_neg a3]
        · have b1 : ¬ m < j := by omega
          have a3 : ¬ m + 1 = i := by omega
          simp only [if_neg a1, if_neg b1, if_neg a3]
      · rw [shAt_merge xs i j hj, shAt_set xs i hi]
        by_cases a1 : m < j
        · have a3 : ¬ m = i := by omega
          simp only [if_pos a1, if_neg a3]
        · by_cases a2 : m = j
          · have a3 : m + 1 = i := by omega
            simp only [if_neg a1, if_pos a3]
            rw [a2, ← hij]
          · have a3 : ¬ m + 1 = i := by omega
            simp only [if_neg a1, if_neg a3]
    · rw [if_neg q2] at hz; cases hz
end Go.Proofs.YtajoihpjnnnkeaaDoor.Pl

set_option linter.unusedVariables false
set_option linter.unusedSimpArgs false
namespace Go.Proofs.YtajoihpjnnnkeaaDoor.Pl

theorem chain_done {s : ShSt} (h : Chain s.xs) {e : En} {at' : Int} (ha : applyB s.xs s.used e at' = true) : Chain (doneP s e at').xs := by
  have hc : countsB s.xs s.used e = true := by unfold applyB at ha; simp only [Bool.and_eq_true] at ha; exact ha.1.1
  obtain ⟨hr, i, hi, hf, hiO, hid1, hk⟩ := counts_kind hc
  obtain ⟨xs, used, ne, evs⟩ := s
  dsimp only at *
  rcases hk with k2 | ⟨k3, hu, o1, o2, hh, hnk⟩ | ⟨k4, j, hj, hfj, hjO, hid2, hjn⟩
  · unfold doneP
    rw [if_pos k2]
    dsimp only
    rw [hiO]
    unfold Chain
    rw [List.length_set]
    refine ChainF.congr h (fun j hj => ?_) (fun j hj => ?_)
    · rw [shAt_set xs i hi]
      by_cases q : j = i
      · simp only [if_pos q]; rw [q]
      · simp only [if_neg q]
    · rw [shAt_set xs i hi]
      by_cases q : j = i
      · simp only [if_pos q]; rw [q]
      · simp only [if_neg q]
  · unfold doneP
    rw [if_neg (by omega), if_pos k3]
    dsimp only
    rw [hiO]
    exact chain_split h i hi e.key e.other e.server at' hh hnk
  · unfold doneP
    rw [if_neg (by omega), if_neg (by omega)]
    dsimp only
    rw [hiO, hjO]
    exact chain_merge h i j hi hj at' hjn
theorem chain_apply {s : ShSt} (h : Chain s.xs) (e : En) (at' : Int) : Chain (applyP s e at').xs := by
  unfold applyP
  split
  · next ha => exact chain_done h ha
  · exact h
theorem chain_play (l : List Ac) : Chain (playP l).xs := by
  have key : ∀ (l : List Ac) (s : ShSt), Chain s.xs → Chain (l.foldl (fun s a => applyP s a.e a.at') s).xs := by
    intro l
    induction l with
    | nil => intro s h; exact h
    | cons a l ih => intro s h; rw [List.foldl_cons]; exact ih _ (chain_apply h a.e a.at')
  exact key l ShSt.init chain_init

/-- A number that was used and names no shard. -/
def Dead (s : ShSt) (id : Int) : Prop := s.used id.toNat = true ∧ ∀ c ∈ s.xs, c.id ≠ id
theorem used_done {s : ShSt} {e : En} {at' : Int} {n : Nat} (h : s.used n = true) : (doneP s e at').used n = true := by
  unfold doneP
  split
  · exact h
  · split
    · dsimp only; unfold useM; split; rfl; exact h
    · exact h
theorem ids_done {s : ShSt} {e : En} {at' : Int} (ha : applyB s.xs s.used e at' = true) (c : Sh) (hm : c ∈ (doneP s e at').xs) : (∃ d ∈ s.xs, d.id = c.id) ∨ s.used c.id.toNat = false := by
  have hc : countsB s.xs s.used e = true := by unfold applyB at ha; simp only [Bool.and_eq_true] at ha; exact ha.1.1
  obtain ⟨hr, i, hi, hf, hiO, hid1, hk⟩ := counts_kind hc
  obtain ⟨xs, used, ne, evs⟩ := s
  dsimp only at *
  rcases hk with k2 | ⟨k3, hu, o1, o2, hh, hnk⟩ | ⟨k4, j, hj, hfj, hjO, hid2, hjn⟩
  · unfold doneP at hm
    rw [if_pos k2] at hm
    dsimp only at hm
    rw [hiO] at hm
    rcases mem_set' hm with hm | rfl
    · exact .inl ⟨c, hm, rfl⟩
    · exact .inl ⟨_, shAt_mem xs i hi, rfl⟩
  · unfold doneP at hm
    rw [if_neg (by omega), if_pos k3] at hm
    dsimp only at hm
    rw [hiO] at hm
    unfold splitM at hm
    rcases List.mem_append.1 hm with hm | hm
    · rcases List.mem_append.1 hm with hm | hm
      · exact .inl ⟨c, List.mem_of_mem_take hm, rfl⟩
      · simp only [List.mem_cons, List.not_mem_nil, or_false] at hm
        rcases hm with rfl | rfl
        · exact .inl ⟨_, shAt_mem xs i hi, rfl⟩
        · exact .inr hu
    · exact .inl ⟨c, List.mem_of_mem_drop hm, rfl⟩
  · unfold doneP at hm
    rw [if_neg (by omega), if_neg (by omega)] at hm
    dsimp only at hm
    rw [hiO, hjO] at hm
    unfold mergeM at hm
    have : c ∈ xs.set i ⟨(shAt xs i).id, (shAt xs i).server, at' + 1, (joinV (rightS (shAt xs i).lo (shAt xs i).hi) (rightS (shAt xs j).lo (shAt xs j).hi) (shAt xs i).lo (shAt xs i).hi (shAt xs j).lo (shAt xs j).hi).1, (joinV (rightS (shAt xs i).lo (shAt xs i).hi) (rightS (shAt xs j).lo (shAt xs j).hi) (shAt xs i).lo (shAt xs i).hi (shAt xs j).lo (shAt xs j).hi).2⟩ := by
      rcases List.mem_append.1 hm with hm | hm
      · exact List.mem_of_mem_take hm
      · exact List.mem_of_mem_drop hm
    rcases mem_set' this with hm | rfl
    · exact .inl ⟨c, hm, rfl⟩
    · exact .inl ⟨_, shAt_mem xs i hi, rfl⟩
theorem dead_apply {s : ShSt} {id : Int} (h : Dead s id) (e : En) (at' : Int) : Dead (applyP s e at') id := by
  unfold applyP
  split
  · next ha =>
    refine ⟨used_done h.1, fun c hc he => ?_⟩
    rcases ids_done ha c hc with ⟨d, hd, hd2⟩ | hu
    · exact h.2 d hd (hd2.trans he)
    · rw [he, h.1] at hu; cases hu
  · exact h
theorem find_none {xs : List Sh} {id : Int} (h : findM xs id < 0) : ∀ c ∈ xs, c.id ≠ id := by
  intro c hc he
  have := idx_ge (fun c : Sh => c.id == id) xs
  have h2 : xs.any (fun c => c.id == id) = true := List.any_eq_true.2 ⟨c, hc, by simp [he]⟩
  rw [h2, decide_eq_true_eq] at this
  unfold findM at h; omega
theorem dead_new {s : ShSt} {n : Nat} (h : Inv s n) (e : En) (at' : Int) (c : Sh) (hc : c ∈ s.xs) (hf : findM (applyP s e at').xs c.id < 0) : Dead (applyP s e at') c.id := by
  refine ⟨?_, find_none hf⟩
  have := (h.ids c hc).2.2
  unfold applyP
  split
  · exact used_done this
  · exact this

/-- How many hold a key. -/
def manyP (xs : List Sh) (key : ByteArray) : Nat := (xs.filter fun c => hasS c.lo c.hi key).length
theorem few_filter {α : Type} (p : α → Bool) : ∀ (l : List α), l.Pairwise (fun a b => ¬ (p a = true ∧ p b = true)) → (l.filter p).length ≤ 1
  | [], _ => by simp
  | a :: l, h => by
    rw [List.pairwise_cons] at h
    cases hp : p a with
    | false => rw [List.filter_cons_of_neg (by rw [hp]; simp)]; exact few_filter p l h.2
    | true =>
      have : l.filter p = [] := by
        rw [List.filter_eq_nil_iff]
        intro b hb hpb
        exact h.1 b hb ⟨hp, hpb⟩
      rw [List.filter_cons_of_pos hp, this]; simp
theorem many_le {xs : List Sh} (h : Chain xs) (key : ByteArray) : manyP xs key ≤ 1 := by
  refine few_filter _ _ ?_
  rw [List.pairwise_iff_getElem]
  intro i j hi hj hij ⟨h1, h2⟩
  rw [← shAt_eq xs i hi] at h1
  rw [← shAt_eq xs j hj] at h2
  have := h.uniq key i j hi hj h1 h2
  omega
theorem many_owner {xs : List Sh} (h : Chain xs) (key : ByteArray) : decide (0 ≤ ownerI xs key) = decide (manyP xs key = 1) := by
  have h1 := many_le h key
  have h2 := idx_ge (fun c : Sh => hasS c.lo c.hi key) xs
  unfold ownerI
  cases hk : isKey key with
  | false =>
    have : manyP xs key = 0 := by
      unfold manyP
      rw [List.length_eq_zero_iff, List.filter_eq_nil_iff]
      intro c _ hc
      rw [(has_right hc).2.1] at hk; cases hk
    rw [this]; simp
  | true =>
    rw [if_pos rfl, h2, Bool.eq_iff_iff, decide_eq_true_eq, List.any_eq_true]
    constructor
    · rintro ⟨c, hc, hp⟩
      have : 0 < manyP xs key := by
        unfold manyP
        rw [List.length_pos_iff_exists_mem]
        exact ⟨c, List.mem_filter.2 ⟨hc, hp⟩⟩
      omega
    · intro h0
      unfold manyP at h0
      obtain ⟨c, hc⟩ := List.length_pos_iff_exists_mem.1 (show 0 < (xs.filter fun c => hasS c.lo c.hi key).length by omega)
      obtain ⟨a, b⟩ := List.mem_filter.1 hc
      exact ⟨c, a, b⟩
theorem many_next (xs : List Sh) (key : ByteArray) (j : Nat) (hj : j < xs.length) : manyP (xs.take (j + 1)) key = manyP (xs.take j) key + (if hasS (shAt xs j).lo (shAt xs j).hi key = true then 1 else 0) := by
  unfold manyP
  rw [List.take_succ_eq_append_getElem hj, List.filter_append, List.length_append, shAt_eq xs j hj]
  congr 1
  split
  · next h => simp [List.filter, h]
  · next h => simp [List.filter, h]
end Go.Proofs.YtajoihpjnnnkeaaDoor.Pl
