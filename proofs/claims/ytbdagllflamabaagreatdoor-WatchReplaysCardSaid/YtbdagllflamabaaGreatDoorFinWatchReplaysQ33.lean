/- LawAP, WtC: one text. -/
import Derived.Test.YtbdagllflamabaaGreatDoorFinWatchReplaysQ32
import Derived.Test.YtbdagllflamabaaGreatDoorFinWatchReplaysQ20
import Derived.Test.YtbdagllflamabaaGreatDoorFinWatchReplaysQ7
import Derived.Shelf.SlicesE.Compact
set_option linter.unusedVariables false
set_option linter.unusedSectionVars false
set_option linter.unusedSimpArgs false
namespace Go.Proofs.YtbdagllflamabaaGreatDoor.Pl
structure Inv (s : ShSt) (n : Nat) : Prop where
  pos : 0 < s.xs.length
  len : s.xs.length ≤ n + 1
  few : s.ne ≤ n
  ids : ∀ c ∈ s.xs, 1 ≤ c.id ∧ c.id ≤ 12 ∧ s.used c.id.toNat = true
  nodup : (s.xs.map Sh.id).Nodup
  srv : ∀ c ∈ s.xs, 1 ≤ c.server ∧ c.server ≤ 4
theorem Inv.more {s : ShSt} {n m : Nat} (h : Inv s n) (hm : n ≤ m) : Inv s m := ⟨h.pos, Nat.le_trans h.len (by omega), Nat.le_trans h.few hm, h.ids, h.nodup, h.srv⟩
theorem inv_init : Inv ShSt.init 0 := by
  refine ⟨by decide, by decide, by decide, ?_, by decide, ?_⟩
  · intro c hc; rw [List.mem_singleton.1 hc]; decide
  · intro c hc; rw [List.mem_singleton.1 hc]; decide
theorem within_iff (n m : Int) : withinB n m = true ↔ 1 ≤ n ∧ n ≤ m := by unfold withinB; simp
theorem right_move {e : En} (h : rightB e = true) (hk : e.kind = 2) : 1 ≤ e.shard ∧ e.shard ≤ 12 ∧ 1 ≤ e.server ∧ e.server ≤ 4 := by
  unfold rightB at h
  rw [if_neg (by omega), if_pos hk] at h
  unfold movB at h
  simp only [Bool.and_eq_true, within_iff] at h
  omega
theorem right_split {e : En} (h : rightB e = true) (hk : e.kind = 3) : 1 ≤ e.shard ∧ e.shard ≤ 12 ∧ 1 ≤ e.other ∧ e.other ≤ 12 ∧ e.shard ≠ e.other ∧ 1 ≤ e.server ∧ e.server ≤ 4 ∧ keyN e.key = 0 := by
  unfold rightB at h
  rw [if_neg (by omega), if_neg (by omega), if_pos hk] at h
  unfold splB at h
  simp only [Bool.and_eq_true, within_iff, decide_eq_true_eq, bne_iff_ne] at h
  obtain ⟨⟨⟨⟨h1, h2⟩, h3⟩, h4⟩, h5⟩ := h
  exact ⟨h1.1, h1.2, h2.1, h2.2, h3, h4.1, h4.2, h5⟩
theorem right_merge {e : En} (h : rightB e = true) (hk : e.kind = 4) : 1 ≤ e.shard ∧ e.shard ≤ 12 ∧ 1 ≤ e.other ∧ e.other ≤ 12 ∧ e.shard ≠ e.other := by
  unfold rightB at h
  rw [if_neg (by omega), if_neg (by omega), if_neg (by omega), if_pos hk] at h
  unfold merB at h
  simp only [Bool.and_eq_true, within_iff, bne_iff_ne] at h
  obtain ⟨⟨h1, h2⟩, h3⟩ := h
  exact ⟨h1.1, h1.2, h2.1, h2.2, h3⟩
theorem mem_set' {α : Type} {l : List α} {i : Nat} {a b : α} (h : b ∈ l.set i a) : b ∈ l ∨ b = a := List.mem_or_eq_of_mem_set h
theorem map_set_id (xs : List Sh) (i : Nat) (hi : i < xs.length) (c : Sh) (hc : c.id = (shAt xs i).id) : (xs.set i c).map Sh.id = xs.map Sh.id := by
  rw [List.map_set, hc, shAt_eq xs i hi]
  apply List.ext_getElem?
  intro j
  rw [List.getElem?_set]
  by_cases hj : i = j
  · subst hj; simp [hi]
  · rw [if_neg hj]
theorem map_set_id' (xs : List Sh) (i : Nat) (hi : i < xs.length) (sv sn : Int) (lo hi' : ByteArray) : (xs.set i ⟨(shAt xs i).id, sv, sn, lo, hi'⟩).map Sh.id = xs.map Sh.id := map_set_id xs i hi ⟨(shAt xs i).id, sv, sn, lo, hi'⟩ rfl
theorem inv_done {s : ShSt} {n : Nat} (h : Inv s n) {e : En} {at' : Int} (ha : applyB s.xs s.used e at' = true) : Inv (doneP s e at') (n + 1) := by
  have hc : countsB s.xs s.used e = true := by unfold applyB at ha; simp only [Bool.and_eq_true] at ha; exact ha.1.1
  obtain ⟨hr, i, hi, hf, hiO, hid1, hk⟩ := counts_kind hc
  obtain ⟨xs, used, ne, evs⟩ := s
  dsimp only at *
  rcases hk with k2 | ⟨k3, hu, o1, o2, hh, hnk⟩ | ⟨k4, j, hj, hfj, hjO, hid2, hjn⟩
  · unfold doneP
    rw [if_pos k2]
    dsimp only
    rw [hiO]
    obtain ⟨_, _, v1, v2⟩ := right_move hr k2
    refine ⟨by simpa using h.pos, by have := h.len; simp at this ⊢; omega, by have := h.few; simp at this ⊢; omega, ?_, ?_, ?_⟩
    · intro c hc
      rcases mem_set' hc with hc | rfl
      · exact h.ids c hc
      · exact h.ids (shAt xs i) (shAt_mem xs i hi)
    · show ((xs.set i _).map Sh.id).Nodup
      rw [map_set_id' xs i hi]; exact h.nodup
    · intro c hc
      rcases mem_set' hc with hc | rfl
      · exact h.srv c hc
      · exact ⟨v1, v2⟩
  · unfold doneP
    rw [if_neg (by omega), if_pos k3]
    dsimp only
    rw [hiO]
    obtain ⟨_, _, _, _, _, v1, v2, _⟩ := right_split hr k3
    have hnew : ∀ c ∈ xs, c.id ≠ e.other := by
      intro c hc he
      have := (h.ids c hc).2.2
      dsimp only at this
      rw [he, hu] at this; cases this
    have hmem : ∀ c ∈ splitM xs i e.key e.other e.server at', c ∈ xs ∨ (c.id = (shAt xs i).id ∧ c.server = (shAt xs i).server) ∨ (c.id = e.other ∧ c.server = e.server) := by
      intro c hc
      unfold splitM at hc
      rcases List.mem_append.1 hc with hc | hc
      · rcases List.mem_append.1 hc with hc | hc
        · exact .inl (List.mem_of_mem_take hc)
        · simp only [List.mem_cons, List.not_mem_nil, or_false] at hc
          rcases hc with rfl | rfl
          · exact .inr (.inl ⟨rfl, rfl⟩)
          · exact .inr (.inr ⟨rfl, rfl⟩)
      · exact .inl (List.mem_of_mem_drop hc)
    refine ⟨by show 0 < (splitM xs i e.key e.other e.server at').length; rw [splitM_len xs i hi]; omega, by have := h.len; show (splitM xs i e.key e.other e.server at').length ≤ _; rw [splitM_len xs i hi]; dsimp only at this; omega, by have := h.few; show ne + 1 ≤ n + 1; dsimp only at this; omega, ?_, ?_, ?_⟩
    · intro c hc
      rcases hmem c hc with hc | ⟨e1, _⟩ | ⟨e1, _⟩
      · obtain ⟨a1, a2, a3⟩ := h.ids c hc
        refine ⟨a1, a2, ?_⟩
        dsimp only at a3 ⊢
        unfold useM; split; rfl; exact a3
      · obtain ⟨a1, a2, a3⟩ := h.ids _ (shAt_mem xs i hi)
        rw [e1]
        refine ⟨a1, a2, ?_⟩
        dsimp only at a3 ⊢
        unfold useM; split; rfl; exact a3
      · rw [e1]
        exact ⟨o1, o2, by dsimp only; unfold useM; rw [if_pos rfl]⟩
    · show ((splitM xs i e.key e.other e.server at').map Sh.id).Nodup
      have hn := h.nodup
      dsimp only at hn
      have e0 : (splitM xs i e.key e.other e.server at').map Sh.id = (xs.map Sh.id).take (i + 1) ++ e.other :: (xs.map Sh.id).drop (i + 1) := by
        unfold splitM
        have e1 : (xs.map Sh.id).take (i + 1) = (xs.take i).map Sh.id ++ [(shAt xs i).id] := by
          rw [← List.map_take, List.take_succ_eq_append_getElem hi, List.map_append, shAt_eq xs i hi]; rfl
        rw [e1]
        simp [List.map_take, List.map_drop]
      rw [e0]
      have hp : ((xs.map Sh.id).take (i + 1) ++ (xs.map Sh.id).drop (i + 1)).Nodup := by rw [List.take_append_drop]; exact hn
      have hno : e.other ∉ xs.map Sh.id := by
        intro hm
        obtain ⟨c, hc, he⟩ := List.mem_map.1 hm
        exact hnew c hc he
      have hperm : ((xs.map Sh.id).take (i + 1) ++ e.other :: (xs.map Sh.id).drop (i + 1)).Perm (e.other :: ((xs.map Sh.id).take (i + 1) ++ (xs.map Sh.id).drop (i + 1))) := List.perm_middle
      rw [hperm.nodup_iff, List.nodup_cons, List.take_append_drop]
      exact ⟨hno, hn⟩
    · intro c hc
      rcases hmem c hc with hc | ⟨_, e1⟩ | ⟨_, e1⟩
      · exact h.srv c hc
      · rw [e1]; exact h.srv _ (shAt_mem xs i hi)
      · rw [e1]; exact ⟨v1, v2⟩
  · unfold doneP
    rw [if_neg (by omega), if_neg (by omega)]
    dsimp only
    rw [hiO, hjO]
    obtain ⟨_, _, _, _, hne⟩ := right_merge hr k4
    have hij : i ≠ j := by intro he; subst he; exact hne (hid1.symm.trans hid2)
    generalize joinV _ _ _ _ _ _ = v
    have hmem : ∀ c ∈ mergeM xs i j v at', c ∈ xs ∨ (c.id = (shAt xs i).id ∧ c.server = (shAt xs i).server) := by
      intro c hc
      unfold mergeM at hc
      have : c ∈ xs.set i ⟨(shAt xs i).id, (shAt xs i).server, at' + 1, v.1, v.2⟩ := by
        rcases List.mem_append.1 hc with hc | hc
        · exact List.mem_of_mem_take hc
        · exact List.mem_of_mem_drop hc
      rcases mem_set' this with hc | rfl
      · exact .inl hc
      · exact .inr ⟨rfl, rfl⟩
    have hl2 : 2 ≤ xs.length := by omega
    refine ⟨by show 0 < (mergeM xs i j v at').length; rw [mergeM_len xs i j hj]; omega, by have := h.len; show (mergeM xs i j v at').length ≤ _; rw [mergeM_len xs i j hj]; dsimp only at this; omega, by have := h.few; show ne + 1 ≤ n + 1; dsimp only at this; omega, ?_, ?_, ?_⟩
    · intro c hc
      rcases hmem c hc with hc | ⟨e1, _⟩
      · exact h.ids c hc
      · rw [e1]; exact h.ids _ (shAt_mem xs i hi)
    · show ((mergeM xs i j v at').map Sh.id).Nodup
      unfold mergeM
      have hn := h.nodup
      dsimp only at hn
      rw [List.map_append, List.map_take, List.map_drop, map_set_id' xs i hi]
      refine List.Nodup.sublist ?_ hn
      have : (xs.map Sh.id).take j ++ (xs.map Sh.id).drop (j + 1) = (xs.map Sh.id).eraseIdx j := by rw [List.eraseIdx_eq_take_drop_succ]
      rw [this]
      exact List.eraseIdx_sublist ..
    · intro c hc
      rcases hmem c hc with hc | ⟨_, e1⟩
      · exact h.srv c hc
      · rw [e1]; exact h.srv _ (shAt_mem xs i hi)
theorem find_at {xs : List Sh} (hn : (xs.map Sh.id).Nodup) (i : Nat) (hi : i < xs.length) : findM xs (shAt xs i).id = (i : Nat) := by
  unfold findM
  refine idx_some _ xs i hi ?_ ?_
  · rw [List.all_eq_true]
    intro c hc
    obtain ⟨j, hj, rfl⟩ := List.mem_iff_getElem.1 hc
    rw [List.length_take] at hj
    rw [List.getElem_take]
    have hne : xs[j].id ≠ xs[i].id := by
      intro he
      have := List.pairwise_iff_getElem.1 hn j i (by rw [List.length_map]; omega) (by rw [List.length_map]; exact hi) (by omega)
      rw [List.getElem_map, List.getElem_map] at this
      exact this he
    rw [shAt_eq xs i hi]
    simp [hne]
  · rw [shAt_eq xs i hi]; simp
structure ChainF (n : Nat) (lo hi : Nat → ByteArray) : Prop where
  pos : 0 < n
  first : lo 0 = ⟨#[]⟩
  last : hi (n - 1) = ⟨#[]⟩
  link : ∀ i, i + 1 < n → hi i = lo (i + 1) ∧ none0 (hi i) = false
  right : ∀ i, i < n → rightS (lo i) (hi i) = true
theorem right_parts {lo hi : ByteArray} (h : rightS lo hi = true) : endB lo = true ∧ endB hi = true ∧ lessB lo hi = true := by
  unfold rightS at h
  simp only [Bool.and_eq_true] at h
  exact ⟨h.1.1, h.1.2, h.2⟩
section
variable {n : Nat} {lo hi : Nat → ByteArray} (h : ChainF n lo hi)
include h
theorem ChainF.okLo (i : Nat) (hi' : i < n) : Ok (lo i) := ok_end (right_parts (h.right i hi')).1
theorem ChainF.step (i : Nat) (hi' : i + 1 < n) : compare (lo i) (lo (i + 1)) < 0 := by
  obtain ⟨h1, h2⟩ := h.link i hi'
  obtain ⟨_, _, h3⟩ := right_parts (h.right i (by omega))
  unfold lessB at h3
  rw [h2, Bool.false_or, decide_eq_true_eq, h1] at h3
  exact h3
theorem ChainF.lows : ∀ (d i : Nat), i + d + 1 < n → compare (lo i) (lo (i + d + 1)) < 0
  | 0, i, hd => h.step i hd
  | d + 1, i, hd => by
    have h1 := ChainF.lows d i (by omega)
    have h2 := h.step (i + d + 1) (by omega)
    exact compare_trans (h.okLo i (by omega)) (h.okLo (i + d + 1) (by omega)) (h.okLo (i + d + 1 + 1) (by omega)) h1 h2
theorem ChainF.low (i j : Nat) (hij : i < j) (hj : j < n) : compare (lo i) (lo j) < 0 := by
  have := h.lows (j - i - 1) i (by omega)
  rwa [show i + (j - i - 1) + 1 = j by omega] at this
theorem ChainF.loInj (i j : Nat) (hi' : i < n) (hj : j < n) (he : lo i = lo j) : i = j := by
  rcases Nat.lt_trichotomy i j with h1 | h1 | h1
  · have := h.low i j h1 hj
    rw [he, compare_self (h.okLo j hj)] at this; omega
  · exact h1
  · have := h.low j i h1 hi'
    rw [he, compare_self (h.okLo j hj)] at this; omega
end
def Chain (xs : List Sh) : Prop := ChainF xs.length (fun i => (shAt xs i).lo) (fun i => (shAt xs i).hi)
theorem chain_init : Chain ShSt.init.xs :=
  ⟨by decide, rfl, rfl, fun i hi => absurd hi (by have : ShSt.init.xs.length = 1 := rfl; omega), fun i hi => by
    have : ShSt.init.xs.length = 1 := rfl
    have hi0 : i = 0 := by omega
    subst hi0
    show rightS ⟨#[]⟩ ⟨#[]⟩ = true
    unfold rightS endB lessB none0
    rw [ByteArray.toList_eq]; rfl⟩
theorem shAt_set (xs : List Sh) (i : Nat) (hi : i < xs.length) (c : Sh) (j : Nat) : shAt (xs.set i c) j = if j = i then c else shAt xs j := by
  unfold shAt
  rw [List.getElem?_set]
  by_cases h : i = j
  · subst h; rw [if_pos rfl, if_pos hi, if_pos rfl]; rfl
  · rw [if_neg h, if_neg (Ne.symm h)]
theorem ChainF.congr {n : Nat} {lo hi lo' hi' : Nat → ByteArray} (h : ChainF n lo hi) (h1 : ∀ i, i < n → lo' i = lo i) (h2 : ∀ i, i < n → hi' i = hi i) : ChainF n lo' hi' :=
  ⟨h.pos, (h1 0 h.pos).trans h.first, (h2 _ (by have := h.pos; omega)).trans h.last, fun i hi0 => by rw [h2 i (by omega), h1 (i + 1) hi0]; exact h.link i hi0, fun i hi0 => by rw [h1 i hi0, h2 i hi0]; exact h.right i hi0⟩
theorem ChainF.split {n : Nat} {lo hi : Nat → ByteArray} (h : ChainF n lo hi) (i : Nat) (hi' : i < n) (key : ByteArray) (h1 : rightS (lo i) key = true) (h2 : rightS key (hi i) = true) (hk : none0 key = false) :
    ChainF (n + 1) (fun j => if j ≤ i then lo j else if j = i + 1 then key else lo (j - 1)) (fun j => if j < i then hi j else if j = i then key else hi (j - 1)) := by
  refine ⟨Nat.succ_pos n, ?_, ?_, fun j hj => ?_, fun j hj => ?_⟩
  · (try dsimp only); rw [if_pos (Nat.zero_le _)]; exact h.first
  · (try dsimp only); rw [if_neg (by omega), if_neg (by omega)]; exact h.last
  · try dsimp only
    by_cases a1 : j < i
    · rw [if_pos a1, if_pos (by omega)]; exact h.link j (by omega)
    · rw [if_neg a1]
      by_cases a2 : j = i
      · rw [if_pos a2, if_neg (by omega), if_pos (by omega)]; exact ⟨rfl, hk⟩
      · rw [if_neg a2, if_neg (by omega), if_neg (by omega)]
        have := h.link (j - 1) (by omega)
        rwa [show j - 1 + 1 = j by omega] at this
  · try dsimp only
    by_cases a1 : j < i
    · rw [if_pos a1, if_pos (by omega)]; exact h.right j (by omega)
    · rw [if_neg a1]
      by_cases a2 : j = i
      · subst a2; rw [if_pos rfl, if_pos (Nat.le_refl _)]; exact h1
      · rw [if_neg a2, if_neg (by omega)]
        by_cases a3 : j = i + 1
        · rw [if_pos a3, a3, show i + 1 - 1 = i by omega]; exact h2
        · rw [if_neg a3]; exact h.right (j - 1) (by omega)
theorem right_trans {a b d : ByteArray} (h1 : rightS a b = true) (h2 : rightS b d = true) (hb : none0 b = false) : rightS a d = true := by
  obtain ⟨a1, a2, a3⟩ := right_parts h1
  obtain ⟨b1, b2, b3⟩ := right_parts h2
  unfold rightS
  rw [a1, b2]
  unfold lessB at a3 b3 ⊢
  rw [hb, Bool.false_or, decide_eq_true_eq] at a3
  cases hd : none0 d with
  | true => rfl
  | false =>
    rw [hd, Bool.false_or, decide_eq_true_eq] at b3
    have := compare_trans (ok_end a1) (ok_end b1) (ok_end b2) a3 b3
    simpa using this
theorem ChainF.merge {n : Nat} {lo hi : Nat → ByteArray} (h : ChainF n lo hi) (k : Nat) (hk : k + 1 < n) :
    ChainF (n - 1) (fun j => if j ≤ k then lo j else lo (j + 1)) (fun j => if j < k then hi j else hi (j + 1)) := by
  refine ⟨by omega, ?_, ?_, fun j hj => ?_, fun j hj => ?_⟩
  · (try dsimp only); rw [if_pos (Nat.zero_le _)]; exact h.first
  · (try dsimp only); rw [if_neg (by omega), show n - 1 - 1 + 1 = n - 1 by omega]; exact h.last
  · try dsimp only
    by_cases a1 : j < k
    · rw [if_pos a1, if_pos (by omega)]; exact h.link j (by omega)
    · rw [if_neg a1, if_neg (by omega)]; exact h.link (j + 1) (by omega)
  · try dsimp only
    by_cases a1 : j < k
    · rw [if_pos a1, if_pos (by omega)]; exact h.right j (by omega)
    · rw [if_neg a1]
      by_cases a2 : j = k
      · subst a2
        rw [if_pos (Nat.le_refl _)]
        obtain ⟨l1, l2⟩ := h.link j hk
        refine right_trans (h.right j (by omega)) ?_ l2
        rw [l1]; exact h.right (j + 1) hk
      · rw [if_neg (by omega)]; exact h.right (j + 1) (by omega)
theorem shAt_split (xs : List Sh) (i : Nat) (hi : i < xs.length) (key : ByteArray) (other server at' : Int) (j : Nat) :
    shAt (splitM xs i key other server at') j = if j < i then shAt xs j else if j = i then ⟨(shAt xs i).id, (shAt xs i).server, at' + 1, (shAt xs i).lo, key⟩ else if j = i + 1 then ⟨other, server, at' + 1, key, (shAt xs i).hi⟩ else shAt xs (j - 1) := by
  have hA : (xs.take i).length = i := by rw [List.length_take]; omega
  unfold splitM
  generalize (⟨(shAt xs i).id, (shAt xs i).server, at' + 1, (shAt xs i).lo, key⟩ : Sh) = a
  generalize (⟨other, server, at' + 1, key, (shAt xs i).hi⟩ : Sh) = b
  unfold shAt
  by_cases h1 : j < i
  · rw [if_pos h1, List.append_assoc, List.getElem?_append_left (by omega), List.getElem?_take, if_pos h1]
  · rw [if_neg h1, List.append_assoc, List.getElem?_append_right (by omega), hA]
    by_cases h2 : j = i
    · subst h2; rw [if_pos rfl, Nat.sub_self]; rfl
    · rw [if_neg h2]
      by_cases h3 : j = i + 1
      · subst h3; rw [if_pos rfl, show i + 1 - i = 1 by omega]; rfl
      · rw [if_neg h3, List.getElem?_append_right (by simp; omega), List.getElem?_drop]
        rw [show i + 1 + (j - i - [a, b].length) = j - 1 by simp; omega]
theorem shAt_merge (xs : List Sh) (i j : Nat) (hj : j < xs.length) (v : ByteArray × ByteArray) (at' : Int) (m : Nat) :
    shAt (mergeM xs i j v at') m = shAt (xs.set i ⟨(shAt xs i).id, (shAt xs i).server, at' + 1, v.1, v.2⟩) (if m < j then m else m + 1) := by
  unfold mergeM
  generalize hys : xs.set i _ = ys
  have hl : ys.length = xs.length := by rw [← hys, List.length_set]
  have hA : (ys.take j).length = j := by rw [List.length_take]; omega
  unfold shAt
  by_cases h1 : m < j
  · rw [if_pos h1, List.getElem?_append_left (by omega), List.getElem?_take, if_pos h1]
  · rw [if_neg h1, List.getElem?_append_right (by omega), hA, List.getElem?_drop, show j + 1 + (m - j) = m + 1 by omega]
theorem chain_split {xs : List Sh} (h : Chain xs) (i : Nat) (hi : i < xs.length) (key : ByteArray) (other server at' : Int) (hh : hasS (shAt xs i).lo (shAt xs i).hi key = true) (hnk : key.toList ≠ (shAt xs i).lo.toList) : Chain (splitM xs i key other server at') := by
  obtain ⟨c1, c2, _⟩ := cut_join hh hnk
  have hk := key_none (has_right hh).2.1
  unfold Chain
  rw [splitM_len xs i hi]
  refine (ChainF.split h i hi key c1 c2 hk).congr (fun j hj => ?_) (fun j hj => ?_)
  · rw [shAt_split xs i hi]
    by_cases a1 : j < i
    · have a2 : j ≤ i := by omega
      simp only [if_pos a1, if_pos a2]
    · by_cases a2 : j = i
      · have a3 : j ≤ i := by omega
        simp only [if_neg a1, if_pos a2, if_pos a3]
        rw [a2]
      · have a4 : ¬ j ≤ i := by omega
        by_cases a3 : j = i + 1
        · simp only [if_neg a1, if_neg a2, if_pos a3, if_neg a4]
        · simp only [if_neg a1, if_neg a2, if_neg a3, if_neg a4]
  · rw [shAt_split xs i hi]
    by_cases a1 : j < i
    · simp only [if_pos a1]
    · by_cases a2 : j = i
      · simp only [if_neg a1, if_pos a2]
      · by_cases a3 : j = i + 1
        · simp only [if_neg a1, if_neg a2, if_pos a3]
          rw [a3]; rfl
        · simp only [if_neg a1, if_neg a2, if_neg a3]
theorem toList_inj {a b : ByteArray} (h : a.toList = b.toList) : a = b := by
  rw [ByteArray.toList_eq, ByteArray.toList_eq] at h
  obtain ⟨⟨a⟩⟩ := a
  obtain ⟨⟨b⟩⟩ := b
  exact congrArg (fun l : List UInt8 => (⟨⟨l⟩⟩ : ByteArray)) h
theorem chain_merge {xs : List Sh} (h : Chain xs) (i j : Nat) (hi : i < xs.length) (hj : j < xs.length) (at' : Int)
    (hz : joinE (rightS (shAt xs i).lo (shAt xs i).hi) (rightS (shAt xs j).lo (shAt xs j).hi) (shAt xs i).lo (shAt xs i).hi (shAt xs j).lo (shAt xs j).hi = 0) :
    Chain (mergeM xs i j (joinV (rightS (shAt xs i).lo (shAt xs i).hi) (rightS (shAt xs j).lo (shAt xs j).hi) (shAt xs i).lo (shAt xs i).hi (shAt xs j).lo (shAt xs j).hi) at') := by
  have r1 := h.right i hi
  have r2 := h.right j hj
  try dsimp only at r1 r2
  rw [r1, r2] at hz ⊢
  have hlast : ∀ a, a < xs.length → none0 (shAt xs a).hi = false → a + 1 < xs.length := by
    intro a ha hn
    apply Classical.byContradiction
    intro hc
    have := h.last
    rw [show xs.length - 1 = a by omega] at this
    try dsimp only at this
    rw [this] at hn; exact absurd hn (by rw [(none0_iff _).2 rfl]; simp)
  have hpos := h.pos
  unfold Chain
  rw [mergeM_len xs i j hj]
  unfold joinE at hz
  unfold joinV
  rw [if_neg (by simp)] at hz ⊢
  by_cases q1 : none0 (shAt xs i).hi = false ∧ (shAt xs i).hi.toList = (shAt xs j).lo.toList
  · rw [if_pos q1]
    have hn := hlast i hi q1.1
    have hl := (h.link i hn).1
    try dsimp only at hl
    have hji : j = i + 1 := (h.loInj (i + 1) j hn hj (by rw [← hl]; exact toList_inj q1.2)).symm
    refine (ChainF.merge h i hn).congr (fun m hm => ?_) (fun m hm => ?_)
    · rw [shAt_merge xs i j hj, shAt_set xs i hi]
      by_cases a1 : m ≤ i
      · have b1 : m < j := by omega
        by_cases a2 : m = i
        · simp only [if_pos a1, if_pos b1, if_pos a2]
          rw [a2]
        · simp only [if_pos a1, if_pos b1, if_neg a2]
      · have b1 : ¬ m < j := by omega
        have a2 : ¬ m + 1 = i := by omega
        simp only [if_neg a1, if_neg b1, if_neg a2]
    · rw [shAt_merge xs i j hj, shAt_set xs i hi]
      by_cases a1 : m < i
      · have b1 : m < j := by omega
        have a2 : ¬ m = i := by omega
        simp only [if_pos a1, if_pos b1, if_neg a2]
      · by_cases a2 : m = i
        · have b1 : m < j := by omega
          simp only [if_neg a1, if_pos b1, if_pos a2]
          rw [a2, ← hji]
        · have b1 : ¬ m < j := by omega
          have a3 : ¬ m + 1 = i := by omega
          simp only [if_neg a1, if_neg b1, if_neg a3]
  · rw [if_neg q1] at hz ⊢
    by_cases q2 : none0 (shAt xs j).hi = false ∧ (shAt xs j).hi.toList = (shAt xs i).lo.toList
    · rw [if_pos q2]
      have hn := hlast j hj q2.1
      have hl := (h.link j hn).1
      try dsimp only at hl
      have hij : i = j + 1 := (h.loInj (j + 1) i hn hi (by rw [← hl]; exact toList_inj q2.2)).symm
      refine (ChainF.merge h j hn).congr (fun m hm => ?_) (fun m hm => ?_)
      · rw [shAt_merge xs i j hj, shAt_set xs i hi]
        by_cases a1 : m ≤ j
        · by_cases a2 : m = j
          · have b1 : ¬ m < j := by omega
            have a3 : m + 1 = i := by omega
            simp only [if_pos a1, if_neg b1, if_pos a3]
            rw [a2]
          · have b1 : m < j := by omega
            have a3 : ¬ m = i := by omega
            simp only [if_pos a1, if_pos b1, if_neg a3]
        · have b1 : ¬ m < j := by omega
          have a3 : ¬ m + 1 = i := by omega
          simp only [if_neg a1, if_neg b1, if_neg a3]
      · rw [shAt_merge xs i j hj, shAt_set xs i hi]
        by_cases a1 : m < j
        · have a3 : ¬ m = i := by omega
          simp only [if_pos a1, if_neg a3]
        · by_cases a2 : m = j
          · have a3 : m + 1 = i := by omega
            simp only [if_neg a1, if_pos a3]
            rw [a2, ← hij]
          · have a3 : ¬ m + 1 = i := by omega
            simp only [if_neg a1, if_neg a3]
    · rw [if_neg q2] at hz; cases hz
theorem chain_done {s : ShSt} (h : Chain s.xs) {e : En} {at' : Int} (ha : applyB s.xs s.used e at' = true) : Chain (doneP s e at').xs := by
  have hc : countsB s.xs s.used e = true := by unfold applyB at ha; simp only [Bool.and_eq_true] at ha; exact ha.1.1
  obtain ⟨hr, i, hi, hf, hiO, hid1, hk⟩ := counts_kind hc
  obtain ⟨xs, used, ne, evs⟩ := s
  dsimp only at *
  rcases hk with k2 | ⟨k3, hu, o1, o2, hh, hnk⟩ | ⟨k4, j, hj, hfj, hjO, hid2, hjn⟩
  · unfold doneP
    rw [if_pos k2]
    dsimp only
    rw [hiO]
    unfold Chain
    rw [List.length_set]
    refine ChainF.congr h (fun j hj => ?_) (fun j hj => ?_)
    · rw [shAt_set xs i hi]
      by_cases q : j = i
      · simp only [if_pos q]; rw [q]
      · simp only [if_neg q]
    · rw [shAt_set xs i hi]
      by_cases q : j = i
      · simp only [if_pos q]; rw [q]
      · simp only [if_neg q]
  · unfold doneP
    rw [if_neg (by omega), if_pos k3]
    dsimp only
    rw [hiO]
    exact chain_split h i hi e.key e.other e.server at' hh hnk
  · unfold doneP
    rw [if_neg (by omega), if_neg (by omega)]
    dsimp only
    rw [hiO, hjO]
    exact chain_merge h i j hi hj at' hjn
end Go.Proofs.YtbdagllflamabaaGreatDoor.Pl
namespace Go.Proofs.YtbdagllflamabaaGreatDoor
open Go.Shelf
def Tryz.compStr_ren : Go.Shelf.Ren := ⟨fun | 43 => 102 | n => n, fun | 22 => 128 | 23 => 9 | 3 => 3 | 4 => 4 | 0 => 0 | n => n, fun | n => n⟩
theorem Tryz.compStr : Go.Proofs.SlLaysE.n43 Tryz.prog Tryz.compStr_ren := {
  mixed := by kernel_rfl
  f43 := ⟨Tryz.f102.name, by decide, Tryz.func102.trans (congrArg some (by kernel_rfl))⟩
  t0 := Tryz.underlying0
  a0 := Tryz.isAgg0
  z0 := Tryz.sizeOf0
  v0 := Tryz.zeroValue0
  t3 := Tryz.underlying3
  a3 := Tryz.isAgg3
  z3 := Tryz.sizeOf3
  v3 := Tryz.zeroValue3
  t4 := Tryz.underlying4
  a4 := Tryz.isAgg4
  z4 := Tryz.sizeOf4
  v4 := Tryz.zeroValue4
  t22 := Tryz.underlying128
  a22 := Tryz.isAgg128
  z22 := Tryz.sizeOf128
  v22 := Tryz.zeroValue128
  a23 := Tryz.isAgg9
  z23 := Tryz.sizeOf9 }
end Go.Proofs.YtbdagllflamabaaGreatDoor
namespace Go.Proofs.YtbdagllflamabaaGreatDoor
open Go.RowKit Go.Shelf Go.Lib Go.Sort Go.Maps
attribute [local go_sem] Oper.semAt_some
theorem get_toArray (xs : List ByteArray) (j : Nat) (hj : j < xs.length) : xs.toArray[j]! = xs[j] := by
  rw [getElem!_pos xs.toArray j (by simpa using hj)]; simp
theorem compact_mem (d : Array ByteArray) : ∀ m, m ≤ d.size → ∀ x, x ∈ compactUpTo d m ↔ ∃ j, j < m ∧ d[j]! = x
  | 0, _, x => by simp [compactUpTo]
  | m + 1, h, x => by
    rw [compactUpTo_succ, List.mem_append, compact_mem d m (by omega) x]
    constructor
    · rintro (⟨j, hj, e⟩ | q)
      · exact ⟨j, by omega, e⟩
      · split at q
        · exact ⟨m, by omega, (List.mem_singleton.1 q).symm⟩
        · cases q
    · rintro ⟨j, hj, e⟩
      by_cases hjm : j < m
      · exact .inl ⟨j, hjm, e⟩
      · obtain rfl : j = m := by omega
        cases hk : keeps d j with
        | true => right; rw [if_pos rfl]; exact List.mem_singleton.2 e.symm
        | false =>
          left
          have : ¬ (j = 0 ∨ d[j]! ≠ d[j - 1]!) := by unfold keeps at hk; exact of_decide_eq_false hk
          have h1 : j ≠ 0 := fun q => this (.inl q)
          have h2 : d[j]! = d[j - 1]! := Classical.byContradiction fun q => this (.inr q)
          exact ⟨j - 1, by omega, by rw [← h2]; exact e⟩
theorem compact_rise (d : Array ByteArray) (hok : ∀ j, j < d.size → Pl.Ok d[j]!) (hs : ∀ i j, i < j → j < d.size → ¬ Pl.compare d[j]! d[i]! < 0) : ∀ m, m ≤ d.size → (compactUpTo d m).Pairwise fun a b => Pl.compare a b < 0
  | 0, _ => by simp [compactUpTo]
  | m + 1, h => by
    rw [compactUpTo_succ]
    refine List.pairwise_append.2 ⟨compact_rise d hok hs m (by omega), ?_, ?_⟩
    · split <;> simp
    · intro x hx y hy
      obtain ⟨j, hj, rfl⟩ := (compact_mem d m (by omega) x).1 hx
      split at hy
      · next hk =>
        obtain rfl := List.mem_singleton.1 hy
        have hk2 : m = 0 ∨ d[m]! ≠ d[m - 1]! := by unfold keeps at hk; exact of_decide_eq_true hk
        have hne : d[m]! ≠ d[m - 1]! := by
          rcases hk2 with q | q
          · omega
          · exact q
        have o1 := hok m (by omega)
        have o2 := hok (m - 1) (by omega)
        have o3 := hok j (by omega)
        have s1 := hs (m - 1) m (by omega) (by omega)
        have w1 := Pl.compare_swap o2 o1
        have h1 : Pl.compare d[m - 1]! d[m]! < 0 := by
          by_cases q : Pl.compare d[m]! d[m - 1]! = 0
          · exact absurd (Pl.compare_zero o1 o2 q) hne
          · have := Pl.compare_swap o1 o2
            omega
        by_cases hjm : j = m - 1
        · rw [hjm]; exact h1
        · have s2 := hs j (m - 1) (by omega) (by omega)
          by_cases q : Pl.compare d[m - 1]! d[j]! = 0
          · rw [← Pl.compare_zero o2 o3 q]; exact h1
          · have := Pl.compare_swap o2 o3
            exact Pl.compare_trans o3 o2 o1 (by omega) h1
      · cases hy
theorem eqStr : EqlAt Tryz.prog 9 Value.string (fun x y => decide (x = y)) := by
  have h := EqlAt.string Tryz.prog 9
  have e : (fun x y : ByteArray => x.toList == y.toList) = fun x y => decide (x = y) := by
    funext x y
    by_cases q : x = y
    · subst q; simp
    · rw [decide_eq_false q, beq_eq_false_iff_ne]
      exact fun t => q (Pl.toList_inj t)
  rw [e] at h; exact h
theorem neStr : NeqAt Tryz.prog 9 Value.string (fun x y => decide (x = y)) := by
  have h := NeqAt.string Tryz.prog 9
  have e : (fun x y : ByteArray => x.toList == y.toList) = fun x y => decide (x = y) := by
    funext x y
    by_cases q : x = y
    · subst q; simp
    · rw [decide_eq_false q, beq_eq_false_iff_ne]
      exact fun t => q (Pl.toList_inj t)
  rw [e] at h; exact h
theorem compactStr (w : World) (B g cap : Nat) (xs : List ByteArray) (ho : w.ownsRow B 9 1 (.slice (some ⟨g, 0, none⟩) xs.length cap) xs.length (strFlat xs)) (h0 : 0 < xs.length) (hbig : xs.length ≤ 1000000) (hok : ∀ c ∈ xs, Pl.Ok c) (hs : xs.Pairwise fun a b => ¬ Pl.compare b a < 0) :
    Calls Tryz.prog 102 #[.slice (some ⟨g, 0, none⟩) xs.length cap] w fun e w' => ∃ ks : List ByteArray, e = .returned (.slice (some ⟨g, 0, none⟩) ks.length cap) ∧ Only (fun j => j = g) w w' ∧ w'.ownsRow B 9 1 (.slice (some ⟨g, 0, none⟩) ks.length cap) ks.length (strFlat ks) ∧ ks.Pairwise (fun a b => Pl.compare a b < 0) ∧ (∀ k, k ∈ ks ↔ k ∈ xs) ∧ ks.length ≤ xs.length := by
  obtain ⟨g', cap', cur, e1, hB, hg, hn, hc, hl, hx⟩ := ownsRow_block ho h0
  cases e1
  have hH : Holds Value.string w g 0 xs.toArray := by
    intro j hj
    have hj' : j < xs.length := by simpa using hj
    refine ⟨?_, by simp [World.frozen?, hg]⟩
    rw [Nat.zero_add, cell_block hg j]
    have h1 : cur[j]? = (strFlat xs)[j]? := by rw [← hx, List.getElem?_take, if_pos (by omega)]
    rw [h1]
    unfold strFlat
    rw [List.getElem?_map, List.getElem?_eq_getElem hj', get_toArray xs j hj']; rfl
  have hcon := AnyE.slices_Compact Tryz.compStr Value.string (fun _ => rfl) eqStr neStr ⟨#[]⟩ (fun w => by kernel_rfl) g 0 cap xs.toArray w hH (by simp; omega) (by simpa using hn)
  have hsz : xs.toArray.size = xs.length := by simp
  have hrise := compact_rise xs.toArray (fun j hj => by rw [get_toArray xs j (by simpa using hj)]; exact hok _ (List.getElem_mem _)) (fun i j hij hj => by
    have hj' : j < xs.length := by simpa using hj
    rw [get_toArray xs j hj', get_toArray xs i (by omega)]
    exact List.pairwise_iff_getElem.1 hs i j (by omega) hj' hij) xs.length (by simp)
  have hmem := compact_mem xs.toArray xs.length (by simp)
  have hlen : (compactUpTo xs.toArray xs.length).length ≤ xs.length := by
    unfold compactUpTo
    rw [List.length_map]
    have := List.length_filter_le (keeps xs.toArray) (List.range xs.length)
    rwa [List.length_range] at this
  rw [hsz] at hcon
  generalize compactUpTo xs.toArray xs.length = ks at *
  refine hcon.mono ?_
  rintro e w' ⟨rfl, q, rfl⟩
  have hF : (ks ++ List.replicate (xs.length - ks.length) (⟨#[]⟩ : ByteArray)).toArray.size = xs.length := by simp; omega
  obtain ⟨hr, hO⟩ := ownsRow_putRow1 Value.string (w := Sort.ahead w q) (show (Sort.ahead w q).ownsRow B 9 1 _ _ _ from ho) h0 _ hF
  refine ⟨ks, rfl, (Only.mono (show Only (fun j => j = g) w (Sort.ahead w q) from ⟨rfl, rfl, rfl, Nat.le_refl _, fun _ _ _ => rfl⟩) (fun _ h => .inl h)).then hO, ?_, hrise, fun k => ?_, hlen⟩
  · obtain ⟨g2, cap2, cur2, e2, hB2, hg2, hn2, hc2, hl2, hx2⟩ := ownsRow_block hr h0
    cases e2
    refine ownsRow_of_block hB2 hg2 (by omega) hc2 hl2 ?_
    have h3 : (cur2.take (xs.length * 1)).take ks.length = strFlat ks := by
      rw [hx2]
      unfold strFlat
      simp
    rw [List.take_take, Nat.min_eq_left (by omega)] at h3
    rw [Nat.mul_one]; exact h3
  · rw [hmem]
    constructor
    · rintro ⟨j, hj, rfl⟩
      rw [get_toArray xs j hj]; exact List.getElem_mem hj
    · intro hk
      obtain ⟨j, hj, rfl⟩ := List.getElem_of_mem hk
      exact ⟨j, hj, get_toArray xs j hj⟩
set_option maxRecDepth 100000 in
theorem compactNone (p : Option Addr) (cap : Nat) (w : World) : Calls Tryz.prog 102 #[.slice p 0 cap] w fun e w' => e = .returned (.slice p 0 cap) ∧ w = w' := by
  go_enter Tryz.func102, Tryz.ntmps102
  go_wp2_with fail
  go_ret
  exact ⟨rfl, rfl⟩
end Go.Proofs.YtbdagllflamabaaGreatDoor
