/- Plain: the document's map of shards goes along with the program's. No walk here. -/
import Derived.Test.YtajoihpjnnnkeaaDoorLaw20
import Derived.Test.YtajoihpjnnnkeaaDoorA20a
import Derived.Test.YtajoihpjnnnkeaaDoorRef03b
set_option linter.unusedVariables false
set_option linter.unusedSimpArgs false
namespace Go.Proofs.YtajoihpjnnnkeaaDoor.Pl

theorem erase_cons {α : Type} {l : List α} {i : Nat} (hi : i < l.length) : (l[i] :: l.eraseIdx i).Perm l := by
  have e : l = l.take i ++ l[i] :: l.drop (i + 1) := by
    rw [← List.drop_eq_getElem_cons hi, List.take_append_drop]
  rw [List.eraseIdx_eq_take_drop_succ]
  refine List.Perm.trans ?_ (List.Perm.of_eq e.symm)
  exact List.perm_middle.symm
theorem set_cons {α : Type} {l : List α} {i : Nat} (hi : i < l.length) (a : α) : (l.set i a).Perm (a :: l.eraseIdx i) := by
  rw [List.set_eq_take_append_cons_drop, if_pos hi, List.eraseIdx_eq_take_drop_succ]
  exact List.perm_middle
theorem erase_perm {xs ys : List Sh} (hp : ys.Perm xs) {i i' : Nat} (hi' : i' < ys.length) (hi : i < xs.length) (he : shAt ys i' = shAt xs i) : (ys.eraseIdx i').Perm (xs.eraseIdx i) := by
  have h1 := erase_cons hi'
  have h2 := erase_cons hi
  rw [shAt_eq ys i' hi', shAt_eq xs i hi] at he
  rw [he] at h1
  exact ((h1.trans hp).trans h2.symm).cons_inv
theorem set_perm {xs ys : List Sh} (hp : ys.Perm xs) {i i' : Nat} (hi' : i' < ys.length) (hi : i < xs.length) (he : shAt ys i' = shAt xs i) (c : Sh) : (ys.set i' c).Perm (xs.set i c) :=
  (set_cons hi' c).trans (((erase_perm hp hi' hi he).cons c).trans (set_cons hi c).symm)

theorem find_perm {xs ys : List Sh} (hp : ys.Perm xs) (hn : (xs.map Sh.id).Nodup) (id : Int) :
    (findM ys id = -1 ∧ findM xs id = -1) ∨ ∃ i' i : Nat, i' < ys.length ∧ i < xs.length ∧ findM ys id = (i' : Nat) ∧ findM xs id = (i : Nat) ∧ shAt ys i' = shAt xs i ∧ (shAt xs i).id = id := by
  have hn' : (ys.map Sh.id).Nodup := (hp.map Sh.id).nodup_iff.2 hn
  rcases findM_cases ys id with h1 | ⟨i', hi', h1, e1⟩
  · rcases findM_cases xs id with h2 | ⟨i, hi, h2, e2⟩
    · exact .inl ⟨h1, h2⟩
    · have hm : shAt xs i ∈ ys := hp.mem_iff.2 (shAt_mem xs i hi)
      obtain ⟨j, hj, ej⟩ := List.mem_iff_getElem.1 hm
      have := find_at hn' j hj
      rw [shAt_eq ys j hj, ej, e2, h1] at this
      omega
  · have hm : shAt ys i' ∈ xs := hp.mem_iff.1 (shAt_mem ys i' hi')
    obtain ⟨i, hi, ei⟩ := List.mem_iff_getElem.1 hm
    have h2 := find_at hn i hi
    rw [shAt_eq xs i hi, ei, e1] at h2
    exact .inr ⟨i', i, hi', hi, h1, h2, by rw [shAt_eq xs i hi, ei], by rw [shAt_eq xs i hi, ei, e1]⟩

/-- The document's map tells what the program's tells. -/
structure Twin (s : ShSt) (t : MdSt) : Prop where
  live : t.xs.Perm s.xs
  used : ∀ k : Int, 1 ≤ k → k ≤ 12 → (t.us.any fun u => u == k) = s.used k.toNat
  ne : t.ne = s.ne
  evs : t.evs = s.evs
  few : t.us.length ≤ s.ne + 1
theorem twin_init : Twin ShSt.init MdSt.init := by
  refine ⟨List.Perm.refl _, fun k h1 h2 => ?_, rfl, rfl, Nat.le_refl _⟩
  show ([1].any fun u => u == k) = used0 k.toNat
  unfold used0
  rw [Bool.eq_iff_iff]
  simp
  omega

theorem cnt_twin {s : ShSt} {t : MdSt} {n : Nat} (h : Twin s t) (hI : Inv s n) (e : En) : cnt20 t e = countsB s.xs s.used e := by
  unfold cnt20 countsB
  by_cases hr : rightB e = false
  · rw [if_pos hr, if_pos hr]
  · rw [if_neg hr, if_neg hr]
    rcases find_perm h.live hI.nodup e.shard with ⟨a1, a2⟩ | ⟨i', i, hi', hi, a1, a2, a3, a4⟩
    · rw [a1, a2, if_pos (by decide), if_pos (by decide)]
    · have n1 : ¬ ((i' : Nat) : Int) < 0 := by omega
      have n2 : ¬ ((i : Nat) : Int) < 0 := by omega
      rw [a1, a2, if_neg n1, if_neg n2, Int.toNat_natCast, Int.toNat_natCast, a3]
      by_cases k2 : e.kind = 2
      · rw [if_pos k2, if_pos k2]
      · rw [if_neg k2, if_neg k2]
        by_cases k3 : e.kind = 3
        · rw [if_pos k3, if_pos k3]
          obtain ⟨o1, o2⟩ := right_other (by simpa using hr) k3
          rw [h.used _ o1 o2, hasR_eq]
          congr 2
          rw [Bool.eq_iff_iff]
          simp
        · rw [if_neg k3, if_neg k3]
          by_cases k4 : e.kind = 4
          · rw [if_pos k4, if_pos k4]
            rcases find_perm h.live hI.nodup e.other with ⟨b1, b2⟩ | ⟨j', j, hj', hj, b1, b2, b3, b4⟩
            · rw [b1, b2, if_pos (by decide), if_pos (by decide)]
            · have m1 : ¬ ((j' : Nat) : Int) < 0 := by omega
              have m2 : ¬ ((j : Nat) : Int) < 0 := by omega
              rw [b1, b2, if_neg m1, if_neg m2, Int.toNat_natCast, Int.toNat_natCast, b3, rightR_eq, rightR_eq]
          · rw [if_neg k4, if_neg k4]
theorem app_twin {s : ShSt} {t : MdSt} {n : Nat} (h : Twin s t) (hI : Inv s n) (e : En) (at' : Int) : app20 t e at' = applyB s.xs s.used e at' := by
  unfold app20 applyB
  rw [cnt_twin h hI]
  congr 1
  rw [Bool.eq_iff_iff]
  simp
  omega

/-- The document's map behind an entry that is done. -/
def done20 (s : MdSt) (e : En) (at' : Int) : MdSt :=
  if e.kind = 2 then ⟨s.xs.set (iOf s.xs e) ⟨(shAt s.xs (iOf s.xs e)).id, e.server, (shAt s.xs (iOf s.xs e)).since, (shAt s.xs (iOf s.xs e)).lo, (shAt s.xs (iOf s.xs e)).hi⟩, s.us, s.ne, s.evs⟩
  else if e.kind = 3 then ⟨s.xs.set (iOf s.xs e) ⟨(shAt s.xs (iOf s.xs e)).id, (shAt s.xs (iOf s.xs e)).server, at' + 1, (shAt s.xs (iOf s.xs e)).lo, e.key⟩ ++ [⟨e.other, e.server, at' + 1, e.key, (shAt s.xs (iOf s.xs e)).hi⟩], s.us ++ [e.other], s.ne + 1, s.evs ++ evVals at' e⟩
  else ⟨mergeM s.xs (iOf s.xs e) (jOf s.xs e) (joinV (rightR (shAt s.xs (iOf s.xs e)).lo (shAt s.xs (iOf s.xs e)).hi) (rightR (shAt s.xs (jOf s.xs e)).lo (shAt s.xs (jOf s.xs e)).hi) (shAt s.xs (iOf s.xs e)).lo (shAt s.xs (iOf s.xs e)).hi (shAt s.xs (jOf s.xs e)).lo (shAt s.xs (jOf s.xs e)).hi) at', s.us, s.ne + 1, s.evs ++ evVals at' e⟩
def apP20 (s : MdSt) (e : En) (at' : Int) : MdSt := if app20 s e at' = true then done20 s e at' else s

theorem merge_erase (xs : List Sh) (i j : Nat) (v : ByteArray × ByteArray) (at' : Int) : mergeM xs i j v at' = (xs.set i ⟨(shAt xs i).id, (shAt xs i).server, at' + 1, v.1, v.2⟩).eraseIdx j := by
  unfold mergeM
  rw [List.eraseIdx_eq_take_drop_succ]

theorem twin_done {s : ShSt} {t : MdSt} {n : Nat} (h : Twin s t) (hI : Inv s n) {e : En} {at' : Int} (ha : applyB s.xs s.used e at' = true) : Twin (doneP s e at') (done20 t e at') := by
  have hc : countsB s.xs s.used e = true := by unfold applyB at ha; simp only [Bool.and_eq_true] at ha; exact ha.1.1
  obtain ⟨hr, i, hi, hf, hiO, hid1, hk⟩ := counts_kind hc
  rcases find_perm h.live hI.nodup e.shard with ⟨a1, a2⟩ | ⟨i', i2, hi', _, a1, a2, a3, a4⟩
  · omega
  obtain rfl : i2 = i := by omega
  have hiO' : iOf t.xs e = i' := by unfold iOf; rw [a1]; rfl
  obtain ⟨hp, hu, hne, hev, hfew⟩ := h
  have hN := hI.nodup
  obtain ⟨xs, used, ne, evs⟩ := s
  obtain ⟨ys, us, ne', evs'⟩ := t
  dsimp only at *
  subst hne hev
  rcases hk with k2 | ⟨k3, hus, o1, o2, hh, hnk⟩ | ⟨k4, j, hj, hfj, hjO, hid2, hjn⟩
  · unfold doneP done20
    rw [if_pos k2, if_pos k2]
    dsimp only
    rw [hiO, hiO', a3]
    exact ⟨set_perm hp hi' hi a3 _, hu, rfl, rfl, hfew⟩
  · unfold doneP done20
    have n2 : ¬ e.kind = 2 := by omega
    rw [if_neg n2, if_neg n2, if_pos k3, if_pos k3]
    dsimp only
    rw [hiO, hiO', a3]
    refine ⟨?_, fun k h1 h2 => ?_, rfl, rfl, by simp; omega⟩
    · dsimp only
      rw [splitM_eq xs i2 hi]
      have hs := set_perm hp hi' hi a3 ⟨(shAt xs i2).id, (shAt xs i2).server, at' + 1, (shAt xs i2).lo, e.key⟩
      generalize xs.set i2 _ = X at *
      refine (hs.append_right _).trans ?_
      rw [List.append_assoc]
      refine List.Perm.trans ?_ (List.Perm.append_left _ List.perm_append_comm)
      rw [← List.append_assoc, List.take_append_drop]
    · dsimp only
      rw [List.any_append, hu k h1 h2]
      unfold useM
      rw [Bool.eq_iff_iff]
      by_cases hko : k.toNat = e.other.toNat
      · have : e.other = k := by omega
        simp [hko, this]
      · have : ¬ e.other = k := by rintro rfl; exact hko rfl
        simp [hko, this]
  · rcases find_perm hp hN e.other with ⟨b1, b2⟩ | ⟨j', j2, hj', _, b1, b2, b3, b4⟩
    · omega
    obtain rfl : j2 = j := by omega
    have hjO' : jOf ys e = j' := by unfold jOf; rw [b1]; rfl
    have hne2 := (right_merge hr k4).2.2.2.2
    have hij : i2 ≠ j2 := by intro he; subst he; exact hne2 (hid1.symm.trans hid2)
    have hij' : i' ≠ j' := by intro he; subst he; exact hne2 (by rw [← a4, ← b4, ← a3, ← b3])
    unfold doneP done20
    have n2 : ¬ e.kind = 2 := by omega
    have n3 : ¬ e.kind = 3 := by omega
    rw [if_neg n2, if_neg n2, if_neg n3, if_neg n3]
    dsimp only
    rw [hiO, hiO', hjO, hjO', a3, b3, rightR_eq, rightR_eq]
    refine ⟨?_, hu, rfl, rfl, by dsimp only; omega⟩
    dsimp only
    rw [merge_erase, merge_erase, a3]
    refine erase_perm (set_perm hp hi' hi a3 _) (by simpa using hj') (by simpa using hj) ?_
    rw [shAt_set _ _ hi', shAt_set _ _ hi, if_neg (Ne.symm hij'), if_neg (Ne.symm hij), b3]
theorem twin_apply {s : ShSt} {t : MdSt} {n : Nat} (h : Twin s t) (hI : Inv s n) (e : En) (at' : Int) : Twin (applyP s e at') (apP20 t e at') := by
  unfold applyP apP20
  rw [app_twin h hI]
  split
  · next ha => exact twin_done h hI ha
  · exact h

/-- Small ends. -/
def Small (xs : List Sh) : Prop := ∀ c ∈ xs, c.lo.size ≤ 300 ∧ c.hi.size ≤ 300
theorem small_done {s : ShSt} (h : Small s.xs) {e : En} {at' : Int} (hk : e.key.size ≤ 300) (ha : applyB s.xs s.used e at' = true) : Small (doneP s e at').xs := by
  have hc : countsB s.xs s.used e = true := by unfold applyB at ha; simp only [Bool.and_eq_true] at ha; exact ha.1.1
  obtain ⟨hr, i, hi, hf, hiO, hid1, hkk⟩ := counts_kind hc
  have hm := h _ (shAt_mem s.xs i hi)
  have key : ∀ c, c.lo.size ≤ 300 ∧ c.hi.size ≤ 300 → Small (s.xs.set i c) := by
    intro c hc d hd
    rcases mem_set' hd with hd | rfl
    · exact h d hd
    · exact hc
  unfold doneP
  rw [hiO]
  split
  · exact key _ hm
  · split
    · dsimp only
      rw [splitM_eq s.xs i hi]
      have h1 := key ⟨(shAt s.xs i).id, (shAt s.xs i).server, at' + 1, (shAt s.xs i).lo, e.key⟩ ⟨hm.1, hk⟩
      intro c hc
      rcases List.mem_append.1 hc with hc | hc
      · rcases List.mem_append.1 hc with hc | hc
        · exact h1 c (List.mem_of_mem_take hc)
        · rw [List.mem_singleton.1 hc]; exact ⟨hk, hm.2⟩
      · exact h1 c (List.mem_of_mem_drop hc)
    · next n2 n3 =>
      rcases hkk with k2 | ⟨k3, _⟩ | ⟨k4, j, hj, hfj, hjO, hid2, hjn⟩
      · exact absurd k2 n2
      · exact absurd k3 n3
      · dsimp only
        have hm2 := h _ (shAt_mem s.xs j hj)
        rw [hjO]
        have hv := joinV_size (rightS (shAt s.xs i).lo (shAt s.xs i).hi) (rightS (shAt s.xs j).lo (shAt s.xs j).hi) (shAt s.xs i).lo (shAt s.xs i).hi (shAt s.xs j).lo (shAt s.xs j).hi 300 hm.1 hm.2 hm2.1 hm2.2
        generalize joinV _ _ _ _ _ _ = v at *
        rw [merge_erase]
        intro c hc
        exact key _ hv c (List.mem_of_mem_eraseIdx hc)
theorem small_apply {s : ShSt} (h : Small s.xs) {e : En} {at' : Int} (hk : e.key.size ≤ 300) : Small (applyP s e at').xs := by
  unfold applyP
  split
  · next ha => exact small_done h hk ha
  · exact h
theorem small_init : Small ShSt.init.xs := by
  intro c hc
  rw [List.mem_singleton.1 hc]
  decide

/-- The order of texts in the document. -/
def lt20 (a b : ByteArray) : Bool := Op.bytesLess a.toList b.toList
/-- The shards rise. -/
def Rise (xs : List Sh) : Prop := ∀ r q, r < xs.length → q < xs.length → lt20 (shAt xs r).lo (shAt xs q).lo = decide (r < q)
theorem rise_chain {xs : List Sh} (h : Chain xs) : Rise xs := by
  intro r q hr hq
  have o1 := h.okLo r hr
  have o2 := h.okLo q hq
  unfold lt20
  rw [← compare_lt _ _ o1 o2, Bool.eq_iff_iff, decide_eq_true_eq, decide_eq_true_eq]
  rcases Nat.lt_trichotomy r q with h1 | h1 | h1
  · have := h.low r q h1 hq
    omega
  · subst h1
    have := compare_self o1
    omega
  · have := h.low q r h1 hr
    have := compare_swap o1 o2
    omega
/-- The best one of the first m, above a last one. -/
def best20 (ys : List Sh) (last : Option ByteArray) : Nat → Int
  | 0 => -1
  | m + 1 => if (match last with | none => true | some l => lt20 l (shAt ys m).lo) && (decide (best20 ys last m < 0) || lt20 (shAt ys m).lo (shAt ys (best20 ys last m).toNat).lo) then (m : Nat) else best20 ys last m
def last20 (xs : List Sh) (k : Nat) : Option ByteArray := if k = 0 then none else some (shAt xs (k - 1)).lo
theorem best_low {xs ys : List Sh} (hp : ys.Perm xs) (hr : Rise xs) (k : Nat) (hk : k < xs.length) (m : Nat) (hm : m ≤ ys.length) :
    (best20 ys (last20 xs k) m = -1 ∧ ∀ j, j < m → ∀ r, r < xs.length → shAt ys j = shAt xs r → r < k) ∨
    ∃ b r : Nat, b < m ∧ r < xs.length ∧ k ≤ r ∧ best20 ys (last20 xs k) m = (b : Nat) ∧ shAt ys b = shAt xs r ∧ ∀ j, j < m → ∀ q, q < xs.length → shAt ys j = shAt xs q → q < k ∨ r ≤ q := by
  have hrank : ∀ j, j < ys.length → ∃ r, r < xs.length ∧ shAt ys j = shAt xs r := by
    intro j hj
    obtain ⟨r, hr, e⟩ := List.mem_iff_getElem.1 (hp.mem_iff.1 (shAt_mem ys j hj))
    exact ⟨r, hr, by rw [shAt_eq xs r hr, e]⟩
  have hinj : ∀ r q, r < xs.length → q < xs.length → shAt xs r = shAt xs q → r = q := by
    intro r q h1 h2 e
    have e1 := hr r q h1 h2
    have e2 := hr q r h2 h1
    rw [e] at e1 e2
    have e3 := hr q q h2 h2
    rw [e3] at e1 e2
    simp at e1 e2
    omega
  have hlater : ∀ r, r < xs.length → (match last20 xs k with | none => true | some l => lt20 l (shAt xs r).lo) = decide (k ≤ r) := by
    intro r h1
    unfold last20
    by_cases h0 : k = 0
    · rw [if_pos h0]; simp [h0]
    · rw [if_neg h0]
      dsimp only
      rw [hr _ _ (by omega) h1, Bool.eq_iff_iff, decide_eq_true_eq, decide_eq_true_eq]
      omega
  induction m with
  | zero => exact .inl ⟨rfl, fun j hj => absurd hj (Nat.not_lt_zero j)⟩
  | succ m ih =>
    obtain ⟨r0, hr0, e0⟩ := hrank m (by omega)
    unfold best20
    rcases ih (by omega) with ⟨e1, hall⟩ | ⟨b, r, hb, hrl, hkr, e1, e2, hall⟩
    · rw [e1, e0, hlater r0 hr0]
      by_cases hk0 : k ≤ r0
      · refine .inr ⟨m, r0, Nat.lt_succ_self m, hr0, hk0, by simp [hk0], e0, fun j hj q hq eq => ?_⟩
        by_cases hjm : j < m
        · exact .inl (hall j hjm q hq eq)
        · obtain rfl : j = m := by omega
          have := hinj q r0 hq hr0 (eq.symm.trans e0)
          omega
      · refine .inl ⟨by simp [hk0], fun j hj q hq eq => ?_⟩
        by_cases hjm : j < m
        · exact hall j hjm q hq eq
        · obtain rfl : j = m := by omega
          have := hinj q r0 hq hr0 (eq.symm.trans e0)
          omega
    · rw [e1, e0, hlater r0 hr0, Int.toNat_natCast, e2, hr r0 r hr0 hrl]
      have hb0 : decide ((b : Int) < 0) = false := decide_eq_false (by omega)
      rw [hb0, Bool.false_or]
      by_cases hk0 : k ≤ r0 ∧ r0 < r
      · refine .inr ⟨m, r0, Nat.lt_succ_self m, hr0, hk0.1, by simp [hk0.1, hk0.2], e0, fun j hj q hq eq => ?_⟩
        by_cases hjm : j < m
        · rcases hall j hjm q hq eq with h | h
          · exact .inl h
          · exact .inr (by omega)
        · obtain rfl : j = m := by omega
          have := hinj q r0 hq hr0 (eq.symm.trans e0)
          omega
      · refine .inr ⟨b, r, by omega, hrl, hkr, ?_, e2, fun j hj q hq eq => ?_⟩
        · rw [if_neg]
          simp only [Bool.and_eq_true, decide_eq_true_eq]
          exact hk0
        · by_cases hjm : j < m
          · exact hall j hjm q hq eq
          · obtain rfl : j = m := by omega
            have := hinj q r0 hq hr0 (eq.symm.trans e0)
            omega
theorem best_at {xs ys : List Sh} (hp : ys.Perm xs) (hr : Rise xs) (k : Nat) (hk : k < xs.length) :
    ∃ b : Nat, b < ys.length ∧ best20 ys (last20 xs k) ys.length = (b : Nat) ∧ shAt ys b = shAt xs k := by
  obtain ⟨j, hj, e⟩ := List.mem_iff_getElem.1 (hp.mem_iff.2 (shAt_mem xs k hk))
  have e' : shAt ys j = shAt xs k := by rw [shAt_eq ys j hj, e]
  rcases best_low hp hr k hk ys.length (Nat.le_refl _) with ⟨_, hall⟩ | ⟨b, r, hb, hrl, hkr, e1, e2, hall⟩
  · have := hall j hj k hk e'
    omega
  · refine ⟨b, hb, e1, ?_⟩
    rcases hall j hj k hk e' with h | h
    · omega
    · have : r = k := by omega
      rw [e2, this]

/-- The document's Owner. -/
def own20 (ys : List Sh) (key : ByteArray) : Int := if isKey key = true then idxI (fun c => hasR c.lo c.hi key) ys else -1
def own20V (ys : List Sh) (key : ByteArray) : Sh := if own20 ys key < 0 then Sh.none else shAt ys (own20 ys key).toNat
theorem idx_cases {α : Type} (p : α → Bool) (xs : List α) : idxI p xs = -1 ∧ xs.any p = false ∨ ∃ i : Nat, ∃ h : i < xs.length, idxI p xs = (i : Nat) ∧ p xs[i] = true := by
  unfold idxI
  cases h : xs.findIdx? p with
  | none =>
    refine .inl ⟨rfl, ?_⟩
    rw [List.findIdx?_eq_none_iff] at h
    rw [List.any_eq_false]
    intro x hx
    simpa using h x hx
  | some i =>
    obtain ⟨hi, h1, _⟩ := List.findIdx?_eq_some_iff_getElem.1 h
    exact .inr ⟨i, hi, rfl, h1⟩
theorem own_twin {xs ys : List Sh} (hp : ys.Perm xs) (hC : Chain xs) (key : ByteArray) :
    decide (0 ≤ own20 ys key) = decide (0 ≤ ownerI xs key) ∧ own20V ys key = ownerV xs key := by
  unfold own20V ownerV own20 ownerI
  have ef : (fun c : Sh => hasR c.lo c.hi key) = (fun c : Sh => hasS c.lo c.hi key) := by funext c; exact hasR_eq _ _ _
  rw [ef]
  cases hk : isKey key with
  | false => exact ⟨rfl, rfl⟩
  | true =>
    rw [if_pos rfl, if_pos rfl]
    have ha : ys.any (fun c => hasS c.lo c.hi key) = xs.any (fun c => hasS c.lo c.hi key) := hp.any_eq
    rcases idx_cases (fun c : Sh => hasS c.lo c.hi key) ys with ⟨e1, n1⟩ | ⟨i', hi', e1, p1⟩
    · rcases idx_cases (fun c : Sh => hasS c.lo c.hi key) xs with ⟨e2, n2⟩ | ⟨i, hi, e2, p2⟩
      · rw [e1, e2]; exact ⟨rfl, rfl⟩
      · rw [n1] at ha
        have := (List.any_eq_true (l := xs) (p := fun c : Sh => hasS c.lo c.hi key)).2 ⟨xs[i], List.getElem_mem hi, p2⟩
        rw [← ha] at this
        cases this
    · rcases idx_cases (fun c : Sh => hasS c.lo c.hi key) xs with ⟨e2, n2⟩ | ⟨i, hi, e2, p2⟩
      · rw [n2] at ha
        have := (List.any_eq_true (l := ys) (p := fun c : Sh => hasS c.lo c.hi key)).2 ⟨ys[i'], List.getElem_mem hi', p1⟩
        rw [ha] at this
        cases this
      · rw [e1, e2]
        refine ⟨by rw [Bool.eq_iff_iff]; simp, ?_⟩
        rw [if_neg (by omega), if_neg (by omega), Int.toNat_natCast, Int.toNat_natCast]
        obtain ⟨m, hm, em⟩ := List.mem_iff_getElem.1 (hp.mem_iff.1 (List.getElem_mem hi'))
        rw [shAt_eq ys i' hi', shAt_eq xs i hi]
        have : m = i := by
          refine hC.uniq key m i hm hi ?_ ?_
          · show hasS (shAt xs m).lo (shAt xs m).hi key = true
            rw [shAt_eq xs m hm, em]; exact p1
          · show hasS (shAt xs i).lo (shAt xs i).hi key = true
            rw [shAt_eq xs i hi]; exact p2
        subst this
        exact em.symm
theorem mdok_twin {s : ShSt} {t : MdSt} {n : Nat} (h : Twin s t) (hI : Inv s n) (hS : Small s.xs) (hn : n ≤ 900) : MdOk t := by
  have h1 := hI.len
  have h2 := hI.few
  have h3 := h.few
  refine ⟨by rw [h.live.length_eq]; omega, by omega, by rw [h.ne]; omega, fun c hc => ?_⟩
  have := hS c (h.live.mem_iff.1 hc)
  omega

theorem enc_len (c : Nat) : (enc c).length ≤ 4 := by
  unfold enc
  repeat' split
  all_goals simp
theorem runesF_len : ∀ (n : Nat) (l : List UInt8) (r : List Nat), runesF n l = some r → l.length ≤ n → l.length ≤ 4 * r.length
  | 0, l, r, h, hl => by
    have : l = [] := List.eq_nil_of_length_eq_zero (by omega)
    subst this
    exact Nat.zero_le _
  | n + 1, l, r, h, hl => by
    unfold runesF at h
    split at h
    · next e => subst e; exact Nat.zero_le _
    · next hne =>
      rw [Option.bind_eq_some_iff] at h
      obtain ⟨⟨c, w⟩, h1, h2⟩ := h
      rw [Option.map_eq_some_iff] at h2
      obtain ⟨t, h3, rfl⟩ := h2
      obtain ⟨e1, e2, _⟩ := step1_enc l hne c w h1
      obtain ⟨p1, p2⟩ := step1_pos l hne c w h1
      have h4 := runesF_len n _ t h3 (by rw [List.length_drop]; dsimp only; omega)
      have h5 := enc_len c
      rw [List.length_drop] at h4
      rw [List.length_cons]
      dsimp only at h4
      omega
theorem key_size {s : ByteArray} (h : keyN s = 0) : s.size ≤ 96 := by
  unfold keyN at h
  cases hr : runes s.data.toList with
  | none => rw [hr] at h; simp at h
  | some r =>
    rw [hr] at h
    dsimp only at h
    unfold keyL at h
    have h1 := runesF_len _ _ _ hr (Nat.le_refl _)
    have h2 : s.data.toList.length = s.size := by rw [Array.length_toList]; rfl
    split at h
    · omega
    · split at h
      · omega
      · omega

/-- The events of a map: acts that counted, splits and merges. -/
def EvP (acts : List Ac) (s : ShSt) : Prop := ∃ q : List Ac, s.evs = q.flatMap (fun a => evVals a.at' a.e) ∧ q.length = s.ne ∧ ∀ a ∈ q, a ∈ acts ∧ rightB a.e = true ∧ (a.e.kind = 3 ∨ a.e.kind = 4)
theorem ev_init (acts : List Ac) : EvP acts ShSt.init := ⟨[], rfl, rfl, fun a ha => (by cases ha)⟩
theorem ev_apply {acts : List Ac} {s : ShSt} (h : EvP acts s) {a : Ac} (ha : a ∈ acts) : EvP acts (applyP s a.e a.at') := by
  unfold applyP
  split
  · next hap =>
    have hc : countsB s.xs s.used a.e = true := by unfold applyB at hap; simp only [Bool.and_eq_true] at hap; exact hap.1.1
    obtain ⟨hr, i, hi, hf, hiO, hid1, hk⟩ := counts_kind hc
    obtain ⟨q, h1, h2, h3⟩ := h
    have key : ∀ xs used, (a.e.kind = 3 ∨ a.e.kind = 4) → EvP acts ⟨xs, used, s.ne + 1, s.evs ++ evVals a.at' a.e⟩ := by
      intro xs used hk
      refine ⟨q ++ [a], ?_, ?_, fun b hb => ?_⟩
      · dsimp only
        rw [List.flatMap_append, ← h1]
        simp
      · dsimp only
        rw [List.length_append, h2]; rfl
      · rcases List.mem_append.1 hb with hb | hb
        · exact h3 b hb
        · rw [List.mem_singleton.1 hb]; exact ⟨ha, hr, hk⟩
    unfold doneP
    rcases hk with k2 | ⟨k3, _⟩ | ⟨k4, _⟩
    · rw [if_pos k2]; exact ⟨q, h1, h2, h3⟩
    · rw [if_neg (by omega), if_pos k3]; exact key _ _ (.inl k3)
    · rw [if_neg (by omega), if_neg (by omega)]; exact key _ _ (.inr k4)
  · exact h
end Go.Proofs.YtajoihpjnnnkeaaDoor.Pl
