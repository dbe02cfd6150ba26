/- Plain: what holds of a map of shards in every order of entries; a split and its merge. No walk here. -/
import Derived.Test.YtajoihpjnnnkeaaDoorShd9
import Derived.Test.YtajoihpjnnnkeaaDoorTab1
set_option linter.unusedVariables false
set_option linter.unusedSectionVars false
set_option linter.unusedSimpArgs false
namespace Go.Proofs.YtajoihpjnnnkeaaDoor.Pl

/-- What holds of every map, n entries on. -/
structure Inv (s : ShSt) (n : Nat) : Prop where
  pos : 0 < s.xs.length
  len : s.xs.length ≤ n + 1
  few : s.ne ≤ n
  ids : ∀ c ∈ s.xs, 1 ≤ c.id ∧ c.id ≤ 12 ∧ s.used c.id.toNat = true
  nodup : (s.xs.map Sh.id).Nodup
  srv : ∀ c ∈ s.xs, 1 ≤ c.server ∧ c.server ≤ 4
theorem Inv.more {s : ShSt} {n m : Nat} (h : Inv s n) (hm : n ≤ m) : Inv s m := ⟨h.pos, Nat.le_trans h.len (by omega), Nat.le_trans h.few hm, h.ids, h.nodup, h.srv⟩
theorem inv_init : Inv ShSt.init 0 := by
  refine ⟨by decide, by decide, by decide, ?_, by decide, ?_⟩
  · intro c hc; rw [List.mem_singleton.1 hc]; decide
  · intro c hc; rw [List.mem_singleton.1 hc]; decide

theorem within_iff (n m : Int) : withinB n m = true ↔ 1 ≤ n ∧ n ≤ m := by unfold withinB; simp
theorem right_move {e : En} (h : rightB e = true) (hk : e.kind = 2) : 1 ≤ e.shard ∧ e.shard ≤ 12 ∧ 1 ≤ e.server ∧ e.server ≤ 4 := by
  unfold rightB at h
  rw [if_neg (by omega), if_pos hk] at h
  unfold movB at h
  simp only [Bool.and_eq_true, within_iff] at h
  omega
theorem right_split {e : En} (h : rightB e = true) (hk : e.kind = 3) : 1 ≤ e.shard ∧ e.shard ≤ 12 ∧ 1 ≤ e.other ∧ e.other ≤ 12 ∧ e.shard ≠ e.other ∧ 1 ≤ e.server ∧ e.server ≤ 4 ∧ keyN e.key = 0 := by
  unfold rightB at h
  rw [if_neg (by omega), if_neg (by omega), if_pos hk] at h
  unfold splB at h
  simp only [Bool.and_eq_true, within_iff, decide_eq_true_eq, bne_iff_ne] at h
  obtain ⟨⟨⟨⟨h1, h2⟩, h3⟩, h4⟩, h5⟩ := h
  exact ⟨h1.1, h1.2, h2.1, h2.2, h3, h4.1, h4.2, h5⟩
theorem right_merge {e : En} (h : rightB e = true) (hk : e.kind = 4) : 1 ≤ e.shard ∧ e.shard ≤ 12 ∧ 1 ≤ e.other ∧ e.other ≤ 12 ∧ e.shard ≠ e.other := by
  unfold rightB at h
  rw [if_neg (by omega), if_neg (by omega), if_neg (by omega), if_pos hk] at h
  unfold merB at h
  simp only [Bool.and_eq_true, within_iff, bne_iff_ne] at h
  obtain ⟨⟨h1, h2⟩, h3⟩ := h
  exact ⟨h1.1, h1.2, h2.1, h2.2, h3⟩

theorem mem_set' {α : Type} {l : List α} {i : Nat} {a b : α} (h : b ∈ l.set i a) : b ∈ l ∨ b = a := List.mem_or_eq_of_mem_set h
theorem map_set_id (xs : List Sh) (i : Nat) (hi : i < xs.length) (c : Sh) (hc : c.id = (shAt xs i).id) : (xs.set i c).map Sh.id = xs.map Sh.id := by
  rw [List.map_set, hc, shAt_eq xs i hi]
  apply List.ext_getElem?
  intro j
  rw [List.getElem?_set]
  by_cases hj : i = j
  · subst hj; simp [hi]
  · rw [if_neg hj]
theorem map_set_id' (xs : List Sh) (i : Nat) (hi : i < xs.length) (sv sn : Int) (lo hi' : ByteArray) : (xs.set i ⟨(shAt xs i).id, sv, sn, lo, hi'⟩).map Sh.id = xs.map Sh.id := map_set_id xs i hi ⟨(shAt xs i).id, sv, sn, lo, hi'⟩ rfl
theorem inv_done {s : ShSt} {n : Nat} (h : Inv s n) {e : En} {at' : Int} (ha : applyB s.xs s.used e at' = true) : Inv (doneP s e at') (n + 1) := by
  have hc : countsB s.xs s.used e = true := by unfold applyB at ha; simp only [Bool.and_eq_true] at ha; exact ha.1.1
  obtain ⟨hr, i, hi, hf, hiO, hid1, hk⟩ := counts_kind hc
  obtain ⟨xs, used, ne, evs⟩ := s
  dsimp only at *
  rcases hk with k2 | ⟨k3, hu, o1, o2, hh, hnk⟩ | ⟨k4, j, hj, hfj, hjO, hid2, hjn⟩
  · unfold doneP
    rw [if_pos k2]
    dsimp only
    rw [hiO]
    obtain ⟨_, _, v1, v2⟩ := right_move hr k2
    refine ⟨by simpa using h.pos, by have := h.len; simp at this ⊢; omega, by have := h.few; simp at this ⊢; omega, ?_, ?_, ?_⟩
    · intro c hc
      rcases mem_set' hc with hc | rfl
      · exact h.ids c hc
      · exact h.ids (shAt xs i) (shAt_mem xs i hi)
    · show ((xs.set i _).map Sh.id).Nodup
      rw [map_set_id' xs i hi]; exact h.nodup
    · intro c hc
      rcases mem_set' hc with hc | rfl
      · exact h.srv c hc
      · exact ⟨v1, v2⟩
  · unfold doneP
    rw [if_neg (by omega), if_pos k3]
    dsimp only
    rw [hiO]
    obtain ⟨_, _, _, _, _, v1, v2, _⟩ := right_split hr k3
    have hnew : ∀ c ∈ xs, c.id ≠ e.other := by
      intro c hc he
      have := (h.ids c hc).2.2
      dsimp only at this
      rw [he, hu] at this; cases this
    have hmem : ∀ c ∈ splitM xs i e.key e.other e.server at', c ∈ xs ∨ (c.id = (shAt xs i).id ∧ c.server = (shAt xs i).server) ∨ (c.id = e.other ∧ c.server = e.server) := by
      intro c hc
      unfold splitM at hc
      rcases List.mem_append.1 hc with hc | hc
      · rcases List.mem_append.1 hc with hc | hc
        · exact .inl (List.mem_of_mem_take hc)
        · simp only [List.mem_cons, List.not_mem_nil, or_false] at hc
          rcases hc with rfl | rfl
          · exact .inr (.inl ⟨rfl, rfl⟩)
          · exact .inr (.inr ⟨rfl, rfl⟩)
      · exact .inl (List.mem_of_mem_drop hc)
    refine ⟨by show 0 < (splitM xs i e.key e.other e.server at').length; rw [splitM_len xs i hi]; omega, by have := h.len; show (splitM xs i e.key e.other e.server at').length ≤ _; rw [splitM_len xs i hi]; dsimp only at this; omega, by have := h.few; show ne + 1 ≤ n + 1; dsimp only at this; omega, ?_, ?_, ?_⟩
    · intro c hc
      rcases hmem c hc with hc | ⟨e1, _⟩ | ⟨e1, _⟩
      · obtain ⟨a1, a2, a3⟩ := h.ids c hc
        refine ⟨a1, a2, ?_⟩
        dsimp only at a3 ⊢
        unfold useM; split; rfl; exact a3
      · obtain ⟨a1, a2, a3⟩ := h.ids _ (shAt_mem xs i hi)
        rw [e1]
        refine ⟨a1, a2, ?_⟩
        dsimp only at a3 ⊢
        unfold useM; split; rfl; exact a3
      · rw [e1]
        exact ⟨o1, o2, by dsimp only; unfold useM; rw [if_pos rfl]⟩
    · show ((splitM xs i e.key e.other e.server at').map Sh.id).Nodup
      have hn := h.nodup
      dsimp only at hn
      have e0 : (splitM xs i e.key e.other e.server at').map Sh.id = (xs.map Sh.id).take (i + 1) ++ e.other :: (xs.map Sh.id).drop (i + 1) := by
        unfold splitM
        have e1 : (xs.map Sh.id).take (i + 1) = (xs.take i).map Sh.id ++ [(shAt xs i).id] := by
          rw [← List.map_take, List.take_succ_eq_append_getElem hi, List.map_append, shAt_eq xs i hi]; rfl
        rw [e1]
        simp [List.map_take, List.map_drop]
      rw [e0]
      have hp : ((xs.map Sh.id).take (i + 1) ++ (xs.map Sh.id).drop (i + 1)).Nodup := by rw [List.take_append_drop]; exact hn
      have hno : e.other ∉ xs.map Sh.id := by
        intro hm
        obtain ⟨c, hc, he⟩ := List.mem_map.1 hm
        exact hnew c hc he
      have hperm : ((xs.map Sh.id).take (i + 1) ++ e.other :: (xs.map Sh.id).drop (i + 1)).Perm (e.other :: ((xs.map Sh.id).take (i + 1) ++ (xs.map Sh.id).drop (i + 1))) := List.perm_middle
      rw [hperm.nodup_iff, List.nodup_cons, List.take_append_drop]
      exact ⟨hno, hn⟩
    · intro c hc
      rcases hmem c hc with hc | ⟨_, e1⟩ | ⟨_, e1⟩
      · exact h.srv c hc
      · rw [e1]; exact h.srv _ (shAt_mem xs i hi)
      · rw [e1]; exact ⟨v1, v2⟩
  · unfold doneP
    rw [if_neg (by omega), if_neg (by omega)]
    dsimp only
    rw [hiO, hjO]
    obtain ⟨_, _, _, _, hne⟩ := right_merge hr k4
    have hij : i ≠ j := by intro he; subst he; exact hne (hid1.symm.trans hid2)
    generalize joinV _ _ _ _ _ _ = v
    have hmem : ∀ c ∈ mergeM xs i j v at', c ∈ xs ∨ (c.id = (shAt xs i).id ∧ c.server = (shAt xs i).server) := by
      intro c hc
      unfold mergeM at hc
      have : c ∈ xs.set i ⟨(shAt xs i).id, (shAt xs i).server, at' + 1, v.1, v.2⟩ := by
        rcases List.mem_append.1 hc with hc | hc
        · exact List.mem_of_mem_take hc
        · exact List.mem_of_mem_drop hc
      rcases mem_set' this with hc | rfl
      · exact .inl hc
      · exact .inr ⟨rfl, rfl⟩
    have hl2 : 2 ≤ xs.length := by omega
    refine ⟨by show 0 < (mergeM xs i j v at').length; rw [mergeM_len xs i j hj]; omega, by have := h.len; show (mergeM xs i j v at').length ≤ _; rw [mergeM_len xs i j hj]; dsimp only at this; omega, by have := h.few; show ne + 1 ≤ n + 1; dsimp only at this; omega, ?_, ?_, ?_⟩
    · intro c hc
      rcases hmem c hc with hc | ⟨e1, _⟩
      · exact h.ids c hc
      · rw [e1]; exact h.ids _ (shAt_mem xs i hi)
    · show ((mergeM xs i j v at').map Sh.id).Nodup
      unfold mergeM
      have hn := h.nodup
      dsimp only at hn
      rw [List.map_append, List.map_take, List.map_drop, map_set_id' xs i hi]
      refine List.Nodup.sublist ?_ hn
      have : (xs.map Sh.id).take j ++ (xs.map Sh.id).drop (j + 1) = (xs.map Sh.id).eraseIdx j := by rw [List.eraseIdx_eq_take_drop_succ]
      rw [this]
      exact List.eraseIdx_sublist ..
    · intro c hc
      rcases hmem c hc with hc | ⟨_, e1⟩
      · exact h.srv c hc
      · rw [e1]; exact h.srv _ (shAt_mem xs i hi)
theorem inv_apply {s : ShSt} {n : Nat} (h : Inv s n) (e : En) (at' : Int) : Inv (applyP s e at') (n + 1) := by
  unfold applyP
  split
  · next ha => exact inv_done h ha
  · exact h.more (Nat.le_succ n)
theorem inv_play (l : List Ac) : Inv (playP l) l.length := by
  have key : ∀ (l : List Ac) (s : ShSt) (n : Nat), Inv s n → Inv (l.foldl (fun s a => applyP s a.e a.at') s) (n + l.length) := by
    intro l
    induction l with
    | nil => intro s n h; exact h
    | cons a l ih => intro s n h; rw [List.foldl_cons, List.length_cons]; exact (ih _ _ (inv_apply h a.e a.at')).more (by omega)
  have := key l ShSt.init 0 inv_init
  rwa [Nat.zero_add] at this
theorem play_snoc (l : List Ac) (k : Nat) (hk : k < l.length) : playP (l.take (k + 1)) = applyP (playP (l.take k)) (acAt l k).e (acAt l k).at' := by
  unfold playP
  rw [List.take_succ_eq_append_getElem hk, List.foldl_append, acAt_eq l k hk]; rfl

/-- A shard by its number, where all numbers are apart. -/
theorem find_at {xs : List Sh} (hn : (xs.map Sh.id).Nodup) (i : Nat) (hi : i < xs.length) : findM xs (shAt xs i).id = (i : Nat) := by
  unfold findM
  refine idx_some _ xs i hi ?_ ?_
  · rw [List.all_eq_true]
    intro c hc
    obtain ⟨j, hj, rfl⟩ := List.mem_iff_getElem.1 hc
    rw [List.length_take] at hj
    rw [List.getElem_take]
    have hne : xs[j].id ≠ xs[i].id := by
      intro he
      have := List.pairwise_iff_getElem.1 hn j i (by rw [List.length_map]; omega) (by rw [List.length_map]; exact hi) (by omega)
      rw [List.getElem_map, List.getElem_map] at this
      exact this he
    rw [shAt_eq xs i hi]
    simp [hne]
  · rw [shAt_eq xs i hi]; simp

theorem none0_iff (b : ByteArray) : none0 b = true ↔ b = ⟨#[]⟩ := by
  unfold none0
  rw [ByteArray.toList_eq]
  constructor
  · intro h
    have : b.data.toList = [] := List.isEmpty_iff.1 h
    cases b with
    | mk d => simp at this; rw [this]
  · rintro rfl; rfl
theorem ok_none : Ok ⟨#[]⟩ := ⟨[], rfl⟩
theorem ok_isKey {s : ByteArray} (h : isKey s = true) : Ok s := ok_key (by unfold isKey at h; simpa using h)
theorem ok_end {s : ByteArray} (h : endB s = true) : Ok s := by
  unfold endB at h
  rw [Bool.or_eq_true] at h
  rcases h with h | h
  · rw [(none0_iff s).1 h]; exact ok_none
  · exact ok_isKey h
theorem key_none {k : ByteArray} (h : isKey k = true) : none0 k = false := by
  cases hn : none0 k with
  | false => rfl
  | true =>
    rw [(none0_iff k).1 hn] at h
    exact absurd h (by decide)
/-- Both parts of a span that is cut are right, and join to the whole. -/
theorem cut_join {lo hi key : ByteArray} (h : hasS lo hi key = true) (hne : key.toList ≠ lo.toList) :
    rightS lo key = true ∧ rightS key hi = true ∧ joinE (rightS lo key) (rightS key hi) lo key key hi = 0 ∧ joinV (rightS lo key) (rightS key hi) lo key key hi = (lo, hi) := by
  obtain ⟨h1, h2, h3, h4⟩ := has_right h
  unfold rightS at h1
  simp only [Bool.and_eq_true] at h1
  obtain ⟨⟨e1, e2⟩, e3⟩ := h1
  have hek : endB key = true := by unfold endB; rw [h2]; simp
  have hlt : lessB lo key = true := by
    unfold lessB
    rw [key_none h2, Bool.false_or, decide_eq_true_eq]
    have hz : compare key lo ≠ 0 := by
      intro hz
      have := compare_zero (ok_isKey h2) (ok_end e1) hz
      exact hne (by rw [this])
    have := compare_swap (ok_isKey h2) (ok_end e1)
    omega
  have r1 : rightS lo key = true := by unfold rightS; rw [e1, hek, hlt]; rfl
  have r2 : rightS key hi = true := by unfold rightS; rw [e2, hek, h4]; rfl
  refine ⟨r1, r2, ?_, ?_⟩
  · unfold joinE; rw [r1, r2, key_none h2]; simp
  · unfold joinV; rw [r1, r2, key_none h2]; simp

/-- The entry that merges what another split. -/
def backE (e : En) : En := { En.zero with kind := 4, shard := e.shard, other := e.other }
/-- A split and its merge: every span is as it was. -/
theorem again {s : ShSt} {n : Nat} (h : Inv s n) {e : En} (k3 : e.kind = 3) (hc : countsB s.xs s.used e = true) :
    applyB s.xs s.used e 9 = true ∧ (applyP s e 9).xs.length = s.xs.length + 1 ∧ applyB (applyP s e 9).xs (applyP s e 9).used (backE e) 10 = true ∧
    countsB (applyP (applyP s e 9) (backE e) 10).xs (applyP (applyP s e 9) (backE e) 10).used e = false ∧ (applyP (applyP s e 9) (backE e) 10).xs.length = s.xs.length ∧
    ∀ j, j < s.xs.length → (shAt (applyP (applyP s e 9) (backE e) 10).xs j).id = (shAt s.xs j).id ∧ (shAt (applyP (applyP s e 9) (backE e) 10).xs j).server = (shAt s.xs j).server ∧ (shAt (applyP (applyP s e 9) (backE e) 10).xs j).lo = (shAt s.xs j).lo ∧ (shAt (applyP (applyP s e 9) (backE e) 10).xs j).hi = (shAt s.xs j).hi := by
  obtain ⟨hr, i, hi, hf, hiO, hid1, hk⟩ := counts_kind hc
  have ha : applyB s.xs s.used e 9 = true := by unfold applyB; rw [hc]; rfl
  have hI1 := inv_done h ha
  obtain ⟨hu, o1, o2, hh, hnk⟩ : s.used e.other.toNat = false ∧ 1 ≤ e.other ∧ e.other ≤ 12 ∧ hasS (shAt s.xs i).lo (shAt s.xs i).hi e.key = true ∧ e.key.toList ≠ (shAt s.xs i).lo.toList := by
    rcases hk with k2 | ⟨_, q⟩ | ⟨k4, _⟩
    · omega
    · exact q
    · omega
  obtain ⟨sh1, sh2, _, _, hne, sv1, sv2, _⟩ := right_split hr k3
  have e1 : applyP s e 9 = doneP s e 9 := by unfold applyP; rw [if_pos ha]
  have e2 : doneP s e 9 = ⟨splitM s.xs i e.key e.other e.server 9, useM s.used e.other.toNat, s.ne + 1, s.evs ++ evVals 9 e⟩ := by
    unfold doneP; rw [if_neg (by omega), if_pos k3, hiO]
  obtain ⟨c1, c2, c3, c4⟩ := cut_join hh hnk
  rw [e1]
  rw [e2] at hI1 ⊢
  have hl1 := splitM_len s.xs i hi e.key e.other e.server 9
  -- both parts, where they lie
  have hA : (s.xs.take i).length = i := by rw [List.length_take]; omega
  have at1 : shAt (splitM s.xs i e.key e.other e.server 9) i = ⟨(shAt s.xs i).id, (shAt s.xs i).server, 10, (shAt s.xs i).lo, e.key⟩ := by
    unfold splitM shAt
    rw [List.append_assoc, List.getElem?_append_right (by omega), hA, Nat.sub_self]; rfl
  have at2 : shAt (splitM s.xs i e.key e.other e.server 9) (i + 1) = ⟨e.other, e.server, 10, e.key, (shAt s.xs i).hi⟩ := by
    unfold splitM shAt
    rw [List.append_assoc, List.getElem?_append_right (by omega), hA, show i + 1 - i = 1 by omega]; rfl
  have f1 : findM (splitM s.xs i e.key e.other e.server 9) e.shard = (i : Nat) := by
    have := find_at hI1.nodup i (by dsimp only; rw [hl1]; omega)
    dsimp only at this
    rw [at1] at this
    dsimp only at this
    rwa [hid1] at this
  have f2 : findM (splitM s.xs i e.key e.other e.server 9) e.other = ((i + 1 : Nat) : Int) := by
    have := find_at hI1.nodup (i + 1) (by dsimp only; rw [hl1]; omega)
    dsimp only at this
    rwa [at2] at this
  have hrb : rightB (backE e) = true := by
    unfold rightB backE merB
    dsimp only [En.zero]
    simp only [(within_iff _ _).2 ⟨sh1, sh2⟩, (within_iff _ _).2 ⟨o1, o2⟩]
    simpa using hne
  have hcb : countsB (splitM s.xs i e.key e.other e.server 9) (useM s.used e.other.toNat) (backE e) = true := by
    unfold countsB
    rw [if_neg (by rw [hrb]; simp)]
    have g1 : (backE e).shard = e.shard := rfl
    have g2 : (backE e).other = e.other := rfl
    have g3 : (backE e).kind = 4 := rfl
    rw [g1, g2, g3, f1, f2, if_neg (by omega), if_neg (by decide), if_neg (by decide), if_pos rfl, if_neg (by omega)]
    rw [Int.toNat_natCast, Int.toNat_natCast, at1, at2]
    exact decide_eq_true c3
  have hab : applyB (splitM s.xs i e.key e.other e.server 9) (useM s.used e.other.toNat) (backE e) 10 = true := by unfold applyB; rw [hcb]; rfl
  dsimp only
  have e3 : applyP ⟨splitM s.xs i e.key e.other e.server 9, useM s.used e.other.toNat, s.ne + 1, s.evs ++ evVals 9 e⟩ (backE e) 10 = ⟨mergeM (splitM s.xs i e.key e.other e.server 9) i (i + 1) ((shAt s.xs i).lo, (shAt s.xs i).hi) 10, useM s.used e.other.toNat, s.ne + 1 + 1, s.evs ++ evVals 9 e ++ evVals 10 (backE e)⟩ := by
    unfold applyP
    rw [if_pos hab]
    unfold doneP
    have g3 : (backE e).kind = 4 := rfl
    have g4 : iOf (splitM s.xs i e.key e.other e.server 9) (backE e) = i := by unfold iOf; rw [show (backE e).shard = e.shard from rfl, f1]; rfl
    have g5 : jOf (splitM s.xs i e.key e.other e.server 9) (backE e) = i + 1 := by unfold jOf; rw [show (backE e).other = e.other from rfl, f2]; rfl
    rw [if_neg (by rw [g3]; decide), if_neg (by rw [g3]; decide)]
    dsimp only
    rw [g4, g5, at1, at2]
    dsimp only
    rw [c4]
  rw [e3]
  dsimp only
  have em : mergeM (splitM s.xs i e.key e.other e.server 9) i (i + 1) ((shAt s.xs i).lo, (shAt s.xs i).hi) 10 = s.xs.set i ⟨(shAt s.xs i).id, (shAt s.xs i).server, 11, (shAt s.xs i).lo, (shAt s.xs i).hi⟩ := by
    unfold mergeM
    rw [at1]
    dsimp only
    unfold splitM
    rw [List.set_eq_take_append_cons_drop (l := s.xs), if_pos hi]
    generalize s.xs.drop (i + 1) = B
    generalize s.xs.take i = A at *
    subst hA
    have t1 : ∀ (x y : Sh), (A ++ x :: y :: B).take (A.length + 1) = A ++ [x] := fun x y => by rw [List.take_append, List.take_of_length_le (by omega), show A.length + 1 - A.length = 1 by omega]; rfl
    have t2 : ∀ (x y : Sh), (A ++ x :: y :: B).drop (A.length + 1 + 1) = B := fun x y => by rw [List.drop_append, List.drop_of_length_le (by omega), show A.length + 1 + 1 - A.length = 2 by omega]; rfl
    have t3 : ∀ (x y z : Sh), (A ++ [x, y] ++ B).set A.length z = A ++ z :: y :: B := fun x y z => by
      rw [List.append_assoc, List.set_append_right _ _ (Nat.le_refl _), Nat.sub_self]; rfl
    rw [t3, t1, t2]
    simp
  refine ⟨ha, hl1, hab, ?_, ?_, ?_⟩
  · unfold countsB
    rw [if_neg (by rw [hr]; simp)]
    split
    · rfl
    · try rw [if_neg (by omega)]
      try rw [if_pos k3]
      have : useM s.used e.other.toNat e.other.toNat = true := by unfold useM; rw [if_pos rfl]
      rw [this]; rfl
  · rw [em]; simp
  · intro j hj
    rw [em]
    unfold shAt
    rw [List.getElem?_set]
    by_cases hij : i = j
    · subst hij
      rw [if_pos rfl, if_pos hi]
      exact ⟨rfl, rfl, rfl, rfl⟩
    · rw [if_neg hij]
      exact ⟨rfl, rfl, rfl, rfl⟩

/-- An entry that moves a shard. -/
def moveE (id server : Int) : En := { En.zero with kind := 2, shard := id, server := server }
theorem move_there {s : ShSt} {n : Nat} (h : Inv s n) (i : Nat) (hi : i < s.xs.length) (sv at' : Int) (h1 : 1 ≤ sv) (h2 : sv ≤ 4) (ha0 : 0 ≤ at') (ha1 : at' < 4096) :
    applyB s.xs s.used (moveE (shAt s.xs i).id sv) at' = true ∧ (applyP s (moveE (shAt s.xs i).id sv) at').xs = s.xs.set i ⟨(shAt s.xs i).id, sv, (shAt s.xs i).since, (shAt s.xs i).lo, (shAt s.xs i).hi⟩ := by
  have hf := find_at h.nodup i hi
  obtain ⟨a1, a2, _⟩ := h.ids _ (shAt_mem s.xs i hi)
  have hr : rightB (moveE (shAt s.xs i).id sv) = true := by
    unfold rightB moveE movB
    dsimp only [En.zero]
    simp only [(within_iff _ _).2 ⟨a1, a2⟩, (within_iff _ _).2 ⟨h1, h2⟩]
    rfl
  have hc : countsB s.xs s.used (moveE (shAt s.xs i).id sv) = true := by
    unfold countsB
    rw [if_neg (by rw [hr]; simp)]
    rw [show (moveE (shAt s.xs i).id sv).shard = (shAt s.xs i).id from rfl, show (moveE (shAt s.xs i).id sv).kind = 2 from rfl, hf, if_neg (by omega), if_pos rfl]
  have ha : applyB s.xs s.used (moveE (shAt s.xs i).id sv) at' = true := by
    unfold applyB; rw [hc, decide_eq_true ha0, decide_eq_true ha1]; rfl
  refine ⟨ha, ?_⟩
  unfold applyP
  rw [if_pos ha]
  unfold doneP
  have g4 : iOf s.xs (moveE (shAt s.xs i).id sv) = i := by unfold iOf; rw [show (moveE (shAt s.xs i).id sv).shard = (shAt s.xs i).id from rfl, hf]; rfl
  rw [show (moveE (shAt s.xs i).id sv).kind = 2 from rfl, if_pos rfl, g4]
  rfl
end Go.Proofs.YtajoihpjnnnkeaaDoor.Pl
