/- Aud3, Aud4, Aud5, Aud6: one text. -/
import Derived.Test.YtbdagllflamabaaGreatDoorFinWatchReplaysQ37
import Derived.Test.YtbdagllflamabaaGreatDoorFinWatchReplaysQ31
import Derived.Test.YtbdagllflamabaaGreatDoorFinWatchReplaysQ28
set_option linter.unusedVariables false
set_option linter.unusedSectionVars false
set_option linter.unusedSimpArgs false
namespace Go.Proofs.YtbdagllflamabaaGreatDoor
namespace Pl
theorem has_wider {lo mid hi key : ByteArray} (h : hasS lo mid key = true) (r : rightS mid hi = true) (hm : none0 mid = false) : hasS lo hi key = true := by
  obtain ⟨h1, h2, h3, h4⟩ := has_right h
  have r2 := right_trans h1 r hm
  have hl : lessB key hi = true := by
    unfold lessB at h4 ⊢
    rw [hm, Bool.false_or, decide_eq_true_eq] at h4
    have h5 := (right_parts r).2.2
    unfold lessB at h5
    rw [Bool.or_eq_true] at h5 ⊢
    rcases h5 with h5 | h5
    · exact .inl h5
    · cases hn : none0 hi with
      | true => exact .inl rfl
      | false =>
        refine .inr (decide_eq_true (compare_trans (ok_isKey h2) (ok_end (right_parts r).1) (ok_end (right_parts r).2.1) h4 (of_decide_eq_true h5)))
  unfold hasS
  rw [r2, h2, hl, decide_eq_true h3]; rfl
theorem has_lower {lo mid hi key : ByteArray} (h : hasS mid hi key = true) (r : rightS lo mid = true) (hm : none0 mid = false) : hasS lo hi key = true := by
  obtain ⟨h1, h2, h3, h4⟩ := has_right h
  have r2 := right_trans r h1 hm
  have hg : 0 ≤ compare key lo := by
    refine Int.not_lt.1 fun hlt => ?_
    have h5 := (right_parts r).2.2
    unfold lessB at h5
    rw [hm, Bool.false_or, decide_eq_true_eq] at h5
    have := compare_trans (ok_isKey h2) (ok_end (right_parts r).1) (ok_end (right_parts r).2.1) hlt h5
    omega
  unfold hasS
  rw [r2, h2, h4, decide_eq_true hg]; rfl
theorem joined_in {lo hi lo' hi' : ByteArray} {P Q : List Pr} (hP : InS lo hi P) (hQ : InS lo' hi' Q) (r1 : rightS lo hi = true) (r2 : rightS lo' hi' = true) (hj : joinE (rightS lo hi) (rightS lo' hi') lo hi lo' hi' = 0) :
    InS (joinV (rightS lo hi) (rightS lo' hi') lo hi lo' hi').1 (joinV (rightS lo hi) (rightS lo' hi') lo hi lo' hi').2 (if none0 hi = false ∧ hi.toList = lo'.toList then P ++ Q else Q ++ P) := by
  unfold joinE at hj
  unfold joinV
  rw [if_neg (by rw [r1, r2]; simp)] at hj ⊢
  by_cases h1 : none0 hi = false ∧ hi.toList = lo'.toList
  · rw [if_pos h1, if_pos h1]
    obtain rfl := toList_inj h1.2
    intro c hc
    rcases List.mem_append.1 hc with q | q
    · exact has_wider (hP c q) r2 h1.1
    · exact has_lower (hQ c q) r1 h1.1
  · rw [if_neg h1] at hj ⊢
    rw [if_neg h1]
    by_cases h2 : none0 hi' = false ∧ hi'.toList = lo.toList
    · rw [if_pos h2]
      obtain rfl := toList_inj h2.2
      intro c hc
      rcases List.mem_append.1 hc with q | q
      · exact has_wider (hQ c q) r1 h2.1
      · exact has_lower (hP c q) r2 h2.1
    · rw [if_neg h2] at hj; cases hj
theorem idx_uniq {xs : List Sh} (hn : (xs.map Sh.id).Nodup) {i k : Nat} (hi : i < xs.length) (hk : k < xs.length) (h : (shAt xs k).id = (shAt xs i).id) : k = i := by
  have h1 := find_at hn k hk
  have h2 := find_at hn i hi
  rw [h, h2] at h1
  omega
theorem mem_take_idx {xs : List Sh} {i : Nat} {c : Sh} (h : c ∈ xs.take i) : ∃ k, k < xs.length ∧ k ≠ i ∧ c = shAt xs k := by
  obtain ⟨k, hk, rfl⟩ := List.mem_take_iff_getElem.1 h
  exact ⟨k, by omega, by omega, by rw [shAt_eq xs k (by omega)]⟩
theorem mem_drop_idx {xs : List Sh} {i : Nat} {c : Sh} (h : c ∈ xs.drop (i + 1)) : ∃ k, k < xs.length ∧ k ≠ i ∧ c = shAt xs k := by
  obtain ⟨k, hk, rfl⟩ := List.mem_drop_iff_getElem.1 h
  exact ⟨i + 1 + k, by omega, by omega, by rw [shAt_eq xs _ (by omega)]⟩
theorem mem_splitM {xs : List Sh} {i : Nat} {key : ByteArray} {other server at' : Int} {c : Sh} (h : c ∈ splitM xs i key other server at') :
    (∃ k, k < xs.length ∧ k ≠ i ∧ c = shAt xs k) ∨ c = ⟨(shAt xs i).id, (shAt xs i).server, at' + 1, (shAt xs i).lo, key⟩ ∨ c = ⟨other, server, at' + 1, key, (shAt xs i).hi⟩ := by
  unfold splitM at h
  simp only [List.mem_append, List.mem_cons, List.not_mem_nil, or_false] at h
  rcases h with (h | h | h) | h
  · exact .inl (mem_take_idx h)
  · exact .inr (.inl h)
  · exact .inr (.inr h)
  · exact .inl (mem_drop_idx h)
theorem mem_at {xs : List Sh} {k : Nat} (hk : k < xs.length) : shAt xs k ∈ xs := by rw [shAt_eq xs k hk]; exact List.getElem_mem hk
theorem mem_idx {xs : List Sh} {c : Sh} (h : c ∈ xs) : ∃ k, k < xs.length ∧ c = shAt xs k := by
  obtain ⟨k, hk, rfl⟩ := List.getElem_of_mem h
  exact ⟨k, hk, (shAt_eq xs k hk).symm⟩
theorem split_mem {xs : List Sh} {i : Nat} {key : ByteArray} {other server at' : Int} {k : Nat} (hk : k < xs.length) (hn : k ≠ i) : shAt xs k ∈ splitM xs i key other server at' := by
  unfold splitM
  simp only [List.mem_append, List.mem_cons, List.not_mem_nil, or_false]
  rw [shAt_eq xs k hk]
  by_cases h : k < i
  · exact .inl (.inl (List.mem_take_iff_getElem.2 ⟨k, by omega, rfl⟩))
  · exact .inr (List.mem_drop_iff_getElem.2 ⟨k - (i + 1), by omega, by congr 1; omega⟩)
theorem mem_merge {xs : List Sh} {i j : Nat} (hi : i < xs.length) {v : ByteArray × ByteArray} {at' : Int} {c : Sh} (h : c ∈ mergeM xs i j v at') :
    (∃ k, k < xs.length ∧ k ≠ i ∧ k ≠ j ∧ c = shAt xs k) ∨ c = ⟨(shAt xs i).id, (shAt xs i).server, at' + 1, v.1, v.2⟩ := by
  unfold mergeM at h
  generalize hc : (⟨(shAt xs i).id, (shAt xs i).server, at' + 1, v.1, v.2⟩ : Sh) = ci at *
  have key : ∃ k, k < (xs.set i ci).length ∧ k ≠ j ∧ c = shAt (xs.set i ci) k := by
    rcases List.mem_append.1 h with h | h
    · exact mem_take_idx h
    · exact mem_drop_idx h
  obtain ⟨k, hk, hkj, rfl⟩ := key
  rw [List.length_set] at hk
  rw [shAt_set xs i hi ci k]
  by_cases e : k = i
  · rw [if_pos e]; exact .inr rfl
  · rw [if_neg e]; exact .inl ⟨k, hk, e, hkj, rfl⟩
theorem merge_mem {xs : List Sh} {i j : Nat} (hi : i < xs.length) {v : ByteArray × ByteArray} {at' : Int} {k : Nat} (hk : k < xs.length) (hkj : k ≠ j) :
    (if k = i then ⟨(shAt xs i).id, (shAt xs i).server, at' + 1, v.1, v.2⟩ else shAt xs k) ∈ mergeM xs i j v at' := by
  unfold mergeM
  generalize hc : (⟨(shAt xs i).id, (shAt xs i).server, at' + 1, v.1, v.2⟩ : Sh) = ci at *
  rw [← shAt_set xs i hi ci k, shAt_eq _ k (by rw [List.length_set]; exact hk)]
  by_cases h : k < j
  · exact List.mem_append_left _ (List.mem_take_iff_getElem.2 ⟨k, by rw [List.length_set]; omega, rfl⟩)
  · exact List.mem_append_right _ (List.mem_drop_iff_getElem.2 ⟨k - (j + 1), by rw [List.length_set]; omega, by congr 1; omega⟩)
end Pl
end Go.Proofs.YtbdagllflamabaaGreatDoor
namespace Go.Proofs.YtbdagllflamabaaGreatDoor
theorem AuOk.more {A : AuP} {m m' : Nat} (h : AuOk A m) (hm : m ≤ m') : AuOk A m' := ⟨h.inv.more hm, h.chain, h.dom, h.back, by have := h.few; omega, h.sz⟩
theorem AuOk.at_ {A : AuP} {m : Nat} (h : AuOk A m) (a : Int) : AuOk ⟨a, A.sh, A.st⟩ m := ⟨h.inv, h.chain, h.dom, h.back, h.few, h.sz⟩
theorem AuOk.lt {A : AuP} {m : Nat} (h : AuOk A m) {i : Nat} (hi : A.st i ≠ none) : 1 ≤ i ∧ i ≤ 12 := by
  obtain ⟨c, hc, e⟩ := h.back i hi
  have := h.inv.ids c hc
  omega
theorem len_none : lenS none = 0 := rfl
namespace Pl
theorem auOk_write {A : AuP} {m : Nat} (h : AuOk A m) (i : Nat) (P : List Pr) (S : Int → Option An) (hi : A.st i = some (P, S)) (P' : List Pr) (S' : Int → Option An) (hin : InS (shOf A i).lo (shOf A i).hi P') (hl : P'.length ≤ P.length + 8) (a : Int) : AuOk ⟨a, A.sh, updS A.st i (some (P', S'))⟩ (m + 1) := by
  have hlt := h.lt (i := i) (by rw [hi]; simp)
  refine ⟨h.inv.more (by omega), h.chain, fun c hc => ?_, fun j hj => ?_, ?_, h.sz⟩
  · dsimp only
    by_cases e : c.id.toNat = i
    · have hid : c.id = (i : Int) := by have := h.inv.ids c hc; omega
      rw [e, updS_same]
      refine ⟨P', S', rfl, ?_⟩
      rw [← sh_uniq h hc hid]; exact hin
    · rw [updS_ne _ _ e]; exact h.dom c hc
  · refine h.back j ?_
    dsimp only at hj
    by_cases e : j = i
    · rw [e, hi]; simp
    · rwa [updS_ne _ _ e] at hj
  · have := tot_upd A.st i (some (P', S')) (by omega)
    have h2 := h.few
    rw [hi] at this
    unfold lenS at this
    dsimp only at this ⊢
    omega
theorem auOk_move {A : AuP} {m : Nat} (h : AuOk A m) {e : En} {at' : Int} (ha : applyB A.sh.xs A.sh.used e at' = true) (k2 : e.kind = 2) (a : Int) : AuOk ⟨a, doneP A.sh e at', A.st⟩ (m + 1) := by
  have hI := inv_done h.inv ha
  have hC := chain_done h.chain ha
  have hc : countsB A.sh.xs A.sh.used e = true := by unfold applyB at ha; simp only [Bool.and_eq_true] at ha; exact ha.1.1
  obtain ⟨hr, i, hi, hf, hiO, hid1, hk⟩ := counts_kind hc
  have ex : (doneP A.sh e at').xs = A.sh.xs.set i ⟨(shAt A.sh.xs i).id, e.server, (shAt A.sh.xs i).since, (shAt A.sh.xs i).lo, (shAt A.sh.xs i).hi⟩ := by
    unfold doneP; rw [if_pos k2, hiO]
  have hm := mem_at hi
  refine ⟨hI, hC, fun c hc => ?_, fun j hj => ?_, by have := h.few; dsimp only; omega, fun c hc => ?_⟩
  · rw [ex] at hc
    rcases mem_set' hc with q | rfl
    · exact h.dom c q
    · exact h.dom (shAt A.sh.xs i) hm
  · obtain ⟨c, hc, e1⟩ := h.back j hj
    obtain ⟨k, hk', rfl⟩ := mem_idx hc
    dsimp only
    rw [ex]
    refine ⟨shAt (A.sh.xs.set i _) k, mem_at (by rw [List.length_set]; exact hk'), ?_⟩
    rw [shAt_set _ _ hi]
    by_cases e2 : k = i
    · rw [if_pos e2, ← e1, e2]
    · rw [if_neg e2]; exact e1
  · rw [ex] at hc
    rcases mem_set' hc with q | rfl
    · exact h.sz c q
    · exact h.sz (shAt A.sh.xs i) hm
theorem auOk_split {A : AuP} {m : Nat} (h : AuOk A m) (hs : ∀ i P S, A.st i = some (P, S) → Srt P) {e : En} {at' : Int} (ha : applyB A.sh.xs A.sh.used e at' = true) (k3 : e.kind = 3) (a : Int) : AuOk ⟨a, doneP A.sh e at', changeS A e⟩ (m + 1) := by
  have hI := inv_done h.inv ha
  have hC := chain_done h.chain ha
  have hc : countsB A.sh.xs A.sh.used e = true := by unfold applyB at ha; simp only [Bool.and_eq_true] at ha; exact ha.1.1
  obtain ⟨hr, i, hi, hf, hiO, hid1, hk⟩ := counts_kind hc
  obtain ⟨hu, o1, o2, hh, hne⟩ : A.sh.used e.other.toNat = false ∧ 1 ≤ e.other ∧ e.other ≤ 12 ∧ hasS (shAt A.sh.xs i).lo (shAt A.sh.xs i).hi e.key = true ∧ e.key.toList ≠ (shAt A.sh.xs i).lo.toList := by
    rcases hk with k2 | ⟨_, q⟩ | ⟨k4, _⟩
    · omega
    · exact q
    · omega
  have ex : (doneP A.sh e at').xs = splitM A.sh.xs i e.key e.other e.server at' := by
    unfold doneP; rw [if_neg (by omega), if_pos k3, hiO]
  have hm := mem_at hi
  have hids := h.inv.ids _ hm
  obtain ⟨P, S, hP, hin⟩ := h.dom _ hm
  rw [hid1] at hP hids
  have hct := cut_cases (hs _ P S hP) hin (cut_zero hh hne)
  have hfresh : A.st e.other.toNat = none := by
    cases hx : A.st e.other.toNat with
    | none => rfl
    | some v =>
      obtain ⟨c, hc, hid⟩ := h.back e.other.toNat (by rw [hx]; simp)
      have := (h.inv.ids c hc).2.2
      rw [hid, Int.toNat_natCast, hu] at this
      cases this
  have hso : e.shard.toNat ≠ e.other.toNat := fun e1 => by rw [e1, hfresh] at hP; cases hP
  have es : changeS A e = updS (updS A.st e.shard.toNat (some (P.take (cutN P e.key), S))) e.other.toNat (some (P.drop (cutN P e.key), S)) := by
    unfold changeS; rw [if_pos k3, hP]
  refine ⟨hI, hC, fun c hc => ?_, fun j hj => ?_, ?_, fun c hc => ?_⟩
  · rw [ex] at hc
    dsimp only
    rw [es]
    rcases mem_splitM hc with ⟨k, hk1, hk2, rfl⟩ | rfl | rfl
    · have hik := h.inv.ids _ (mem_at hk1)
      have n1 : (shAt A.sh.xs k).id.toNat ≠ e.shard.toNat := fun e1 => hk2 (idx_uniq h.inv.nodup hi hk1 (by rw [hid1]; omega))
      have n2 : (shAt A.sh.xs k).id.toNat ≠ e.other.toNat := fun e1 => by
        obtain ⟨P2, S2, h2, _⟩ := h.dom _ (mem_at hk1)
        rw [e1, hfresh] at h2
        cases h2
      rw [updS_ne _ _ n2, updS_ne _ _ n1]
      exact h.dom _ (mem_at hk1)
    · dsimp only
      rw [hid1, updS_ne _ _ hso, updS_same]
      exact ⟨_, _, rfl, hct.2.2.1⟩
    · dsimp only
      rw [updS_same]
      exact ⟨_, _, rfl, hct.2.2.2.1⟩
  · dsimp only at hj ⊢
    rw [es] at hj
    rw [ex]
    by_cases e2 : j = e.other.toNat
    · refine ⟨⟨e.other, e.server, at' + 1, e.key, (shAt A.sh.xs i).hi⟩, by unfold splitM; simp, by dsimp only; omega⟩
    · rw [updS_ne _ _ e2] at hj
      by_cases e1 : j = e.shard.toNat
      · refine ⟨⟨(shAt A.sh.xs i).id, (shAt A.sh.xs i).server, at' + 1, (shAt A.sh.xs i).lo, e.key⟩, by unfold splitM; simp, by dsimp only; rw [hid1]; omega⟩
      · rw [updS_ne _ _ e1] at hj
        obtain ⟨c, hc, hid⟩ := h.back j hj
        obtain ⟨k, hk1, rfl⟩ := mem_idx hc
        have hki : k ≠ i := fun e3 => e1 (by rw [e3, hid1] at hid; omega)
        exact ⟨_, split_mem hk1 hki, hid⟩
  · dsimp only
    rw [es]
    have t1 := tot_upd A.st e.shard.toNat (some (P.take (cutN P e.key), S)) (by omega)
    have t2 := tot_upd (updS A.st e.shard.toNat (some (P.take (cutN P e.key), S))) e.other.toNat (some (P.drop (cutN P e.key), S)) (by omega)
    rw [updS_ne _ _ (Ne.symm hso), hfresh, len_none] at t2
    rw [hP] at t1
    have hl : (P.take (cutN P e.key)).length + (P.drop (cutN P e.key)).length = P.length := by rw [← List.length_append, List.take_append_drop]
    simp only [lenS] at t1 t2
    have := h.few
    omega
  · rw [ex] at hc
    rcases mem_splitM hc with ⟨k, hk1, hk2, rfl⟩ | rfl | rfl
    · exact h.sz _ (mem_at hk1)
    · exact ⟨(h.sz _ hm).1, by have := hct.2.2.2.2; dsimp only; omega⟩
    · exact ⟨by have := hct.2.2.2.2; dsimp only; omega, (h.sz _ hm).2⟩
theorem auOk_merge {A : AuP} {m : Nat} (h : AuOk A m) {e : En} {at' : Int} (ha : applyB A.sh.xs A.sh.used e at' = true) (k4 : e.kind = 4) (a : Int) : AuOk ⟨a, doneP A.sh e at', changeS A e⟩ (m + 1) := by
  have hI := inv_done h.inv ha
  have hC := chain_done h.chain ha
  have hc : countsB A.sh.xs A.sh.used e = true := by unfold applyB at ha; simp only [Bool.and_eq_true] at ha; exact ha.1.1
  obtain ⟨hr, i, hi, hf, hiO, hid1, hk⟩ := counts_kind hc
  obtain ⟨j, hj, hfj, hjO, hid2, hz⟩ : ∃ j, j < A.sh.xs.length ∧ findM A.sh.xs e.other = (j : Nat) ∧ jOf A.sh.xs e = j ∧ (shAt A.sh.xs j).id = e.other ∧ joinE (rightS (shAt A.sh.xs i).lo (shAt A.sh.xs i).hi) (rightS (shAt A.sh.xs j).lo (shAt A.sh.xs j).hi) (shAt A.sh.xs i).lo (shAt A.sh.xs i).hi (shAt A.sh.xs j).lo (shAt A.sh.xs j).hi = 0 := by
    rcases hk with k2 | ⟨k3, _⟩ | ⟨_, q⟩
    · omega
    · omega
    · exact q
  have hrs := (right_merge hr k4).2.2.2.2
  have ex : (doneP A.sh e at').xs = mergeM A.sh.xs i j (joinV (rightS (shAt A.sh.xs i).lo (shAt A.sh.xs i).hi) (rightS (shAt A.sh.xs j).lo (shAt A.sh.xs j).hi) (shAt A.sh.xs i).lo (shAt A.sh.xs i).hi (shAt A.sh.xs j).lo (shAt A.sh.xs j).hi) at' := by
    unfold doneP; rw [if_neg (by omega), if_neg (by omega), hiO, hjO]
  have hmi := mem_at hi
  have hmj := mem_at hj
  have hidi := h.inv.ids _ hmi
  have hidj := h.inv.ids _ hmj
  have hij : i ≠ j := fun e1 => hrs (by rw [← hid1, ← hid2, e1])
  obtain ⟨P, S, hP, hinP⟩ := h.dom _ hmi
  obtain ⟨Q, T, hQ, hinQ⟩ := h.dom _ hmj
  rw [hid1] at hP hidi
  rw [hid2] at hQ hidj
  have hso : e.shard.toNat ≠ e.other.toNat := by omega
  have ri := h.chain.right i hi
  have rj := h.chain.right j hj
  have si : shOf A e.shard.toNat = shAt A.sh.xs i := sh_uniq h hmi (by rw [hid1]; omega)
  have sj : shOf A e.other.toNat = shAt A.sh.xs j := sh_uniq h hmj (by rw [hid2]; omega)
  have hJ := joined_in hinP hinQ ri rj hz
  have es : changeS A e = updS (updS A.st e.shard.toNat (some (if none0 (shAt A.sh.xs i).hi = false ∧ (shAt A.sh.xs i).hi.toList = (shAt A.sh.xs j).lo.toList then P ++ Q else Q ++ P, joinL S (clients T)))) e.other.toNat none := by
    unfold changeS joinP; rw [if_neg (by omega), if_pos k4, hP, hQ, si, sj]
  refine ⟨hI, hC, fun c hc => ?_, fun q hq => ?_, ?_, fun c hc => ?_⟩
  · rw [ex] at hc
    dsimp only
    rw [es]
    rcases mem_merge hi hc with ⟨k, hk1, hk2, hk3, rfl⟩ | rfl
    · have hik := h.inv.ids _ (mem_at hk1)
      have n1 : (shAt A.sh.xs k).id.toNat ≠ e.shard.toNat := fun e1 => hk2 (idx_uniq h.inv.nodup hi hk1 (by rw [hid1]; omega))
      have n2 : (shAt A.sh.xs k).id.toNat ≠ e.other.toNat := fun e1 => hk3 (idx_uniq h.inv.nodup hj hk1 (by rw [hid2]; omega))
      rw [updS_ne _ _ n2, updS_ne _ _ n1]
      exact h.dom _ (mem_at hk1)
    · dsimp only
      rw [hid1, updS_ne _ _ hso, updS_same]
      exact ⟨_, _, rfl, hJ⟩
  · dsimp only at hq ⊢
    rw [es] at hq
    rw [ex]
    by_cases e2 : q = e.other.toNat
    · rw [e2, updS_same] at hq; exact absurd rfl hq
    · rw [updS_ne _ _ e2] at hq
      by_cases e1 : q = e.shard.toNat
      · refine ⟨_, merge_mem hi (k := i) hi hij, ?_⟩
        rw [if_pos rfl]; dsimp only; rw [hid1]; omega
      · rw [updS_ne _ _ e1] at hq
        obtain ⟨c, hc, hid⟩ := h.back q hq
        obtain ⟨k, hk1, rfl⟩ := mem_idx hc
        have hki : k ≠ i := fun e3 => e1 (by rw [e3, hid1] at hid; omega)
        have hkj : k ≠ j := fun e3 => e2 (by rw [e3, hid2] at hid; omega)
        refine ⟨_, merge_mem hi (k := k) hk1 hkj, ?_⟩
        rw [if_neg hki]; exact hid
  · dsimp only
    rw [es]
    generalize hR : (if none0 (shAt A.sh.xs i).hi = false ∧ (shAt A.sh.xs i).hi.toList = (shAt A.sh.xs j).lo.toList then P ++ Q else Q ++ P) = R
    have hl : R.length = P.length + Q.length := by
      rw [← hR]; split
      · rw [List.length_append]
      · rw [List.length_append]; omega
    have t1 := tot_upd A.st e.shard.toNat (some (R, joinL S (clients T))) (by omega)
    have t2 := tot_upd (updS A.st e.shard.toNat (some (R, joinL S (clients T)))) e.other.toNat none (by omega)
    rw [updS_ne _ _ (Ne.symm hso), hQ, len_none] at t2
    rw [hP] at t1
    simp only [lenS] at t1 t2
    have := h.few
    omega
  · rw [ex] at hc
    rcases mem_merge hi hc with ⟨k, hk1, _, _, rfl⟩ | rfl
    · exact h.sz _ (mem_at hk1)
    · exact joinV_size _ _ _ _ _ _ 300 (h.sz _ hmi).1 (h.sz _ hmi).2 (h.sz _ hmj).1 (h.sz _ hmj).2
theorem auOk_apply {A : AuP} {m : Nat} (h : AuOk A m) (hs : ∀ i P S, A.st i = some (P, S) → Srt P) (e : En) (at' : Int) : AuOk (applyA A e at').2 (m + 1) := by
  unfold applyA
  split
  · exact h.more (by omega)
  split
  · exact h.more (by omega)
  split
  · cases hx : A.st e.shard.toNat with
    | none => exact (h.at_ _).more (by omega)
    | some v =>
      obtain ⟨P, S⟩ := v
      dsimp only
      obtain ⟨c, hc, hid⟩ := h.back e.shard.toNat (by rw [hx]; simp)
      have hsu := sh_uniq h hc hid
      obtain ⟨P2, S2, h2, hin⟩ := h.dom c hc
      rw [hid, Int.toNat_natCast, hx] at h2
      cases h2
      rw [hsu]
      exact auOk_write h _ P S hx _ _ (by rw [hsu]; exact writeG_in (hs _ P S hx) hin S e at') (writeG_len _ _ P S e at') _
  split
  · next ha =>
    dsimp only
    by_cases k3 : e.kind = 3
    · exact auOk_split h hs ha k3 _
    by_cases k4 : e.kind = 4
    · exact auOk_merge h ha k4 _
    have hc : countsB A.sh.xs A.sh.used e = true := by unfold applyB at ha; simp only [Bool.and_eq_true] at ha; exact ha.1.1
    obtain ⟨hr, i, hi, hf, hiO, hid1, hk⟩ := counts_kind hc
    have k2 : e.kind = 2 := by
      rcases hk with k2 | ⟨q, _⟩ | ⟨q, _⟩
      · exact k2
      · exact absurd q k3
      · exact absurd q k4
    have es : changeS A e = A.st := by unfold changeS; rw [if_neg k3, if_neg k4]
    rw [es]
    exact auOk_move h ha k2 _
  · exact (h.at_ _).more (by omega)
end Pl
end Go.Proofs.YtbdagllflamabaaGreatDoor
namespace Go.Proofs.YtbdagllflamabaaGreatDoor
open Go.RowKit Go.Maps
attribute [local go_sem] Oper.semAt_some uponV
theorem lset_same (f : Lit → Option Value) (l : Lit) (v : Option Value) : lset f l v l = v := by unfold lset; exact if_pos rfl
theorem lset_ne (f : Lit → Option Value) {l m : Lit} (v : Option Value) (h : m ≠ l) : lset f l v m = f m := by unfold lset; exact if_neg h
theorem clit_inj {i j : Nat} (h : clit (i : Int) = clit (j : Int)) : i = j := by unfold clit at h; injection h with _ h; omega
set_option maxRecDepth 100000 in
set_option maxHeartbeats 4000000 in
theorem newA_any (E : Nat → Addr) (w : World) (hE : Errs stS E w) :
    Calls Tryz.prog 10 #[] w fun e w' => ∃ ab, e = .returned (.pointer (some ⟨ab, 0, none⟩)) ∧ Grew w w' ∧ ∀ (k : Nat) (L : Nat → Nat), ∃ L', (∀ j, j < w.heap.size → L' j = L j) ∧ (∀ j, w.heap.size ≤ j → Kin k (L' j)) ∧ AuAt w' L' k ab 1 AuP.init := by
  have HN := hid (fun W (g : Grew w W) => newS_any stS E ⟨rfl, rfl, rfl, rfl⟩ ⟨#[]⟩ ⟨#[]⟩ W (by decide) (by decide) (hE.grew g) right_nil Pl.good_nil)
  clear hE
  go_enter Tryz.func10, Tryz.ntmps10
  go_wp2_with fail
  refine (newM_any w).mono ?_
  rintro e w1 ⟨sb, rfl, hg1, hsb, F, hS, hF⟩
  have HS := hid (show ShAt w1 F sb ShSt.init ∧ (∀ j, F j → w.heap.size ≤ j) from ⟨hS, hF⟩)
  have HG1 := hid hg1
  clear hg1 hsb hS hF
  have hmm := @run_makeMap Tryz.prog
  go_upto_region 2 with fail
  obtain ⟨Y, hY⟩ : ∃ Y, Y = (((w1.alloc (.map #[] 0)).alloc (.map #[] 0)).alloc (.cells #[.int .i64 0, .pointer (some ⟨sb, 0, none⟩), .map (some w1.heap.size), .map (some (w1.heap.size + 1))] 109)) := ⟨_, rfl⟩
  have gY : Grew w1 Y := by rw [hY]; exact (((Grew.refl w1).alloc _).alloc _).alloc _
  have hM1 : LMap Y Tryz.prog 3 w1.heap.size 0 (fun _ => none) := by rw [hY]; exact (LMap.made w1 Tryz.prog 3).grew (((Grew.refl _).alloc _).alloc _)
  have hM2 : LMap Y Tryz.prog 3 (w1.heap.size + 1) 0 (fun _ => none) := by
    have := (LMap.made (w1.alloc (.map #[] 0)) Tryz.prog 3).grew ((Grew.refl _).alloc (.cells #[.int .i64 0, .pointer (some ⟨sb, 0, none⟩), .map (some w1.heap.size), .map (some (w1.heap.size + 1))] 109))
    rw [hY]
    have e : (w1.alloc (.map #[] 0)).heap.size = w1.heap.size + 1 := by simp
    rw [e] at this
    exact this
  have hcells : Y.heap[w1.heap.size + 1 + 1]? = some (.cells #[.int .i64 0, .pointer (some ⟨sb, 0, none⟩), .map (some w1.heap.size), .map (some (w1.heap.size + 1))] 109 (0, 0)) := by
    rw [hY]
    have := heap_alloc_new ((w1.alloc (.map #[] 0)).alloc (.map #[] 0)) (.cells #[.int .i64 0, .pointer (some ⟨sb, 0, none⟩), .map (some w1.heap.size), .map (some (w1.heap.size + 1))] 109)
    have e : ((w1.alloc (.map #[] 0)).alloc (.map #[] 0)).heap.size = w1.heap.size + 1 + 1 := by simp
    rw [e] at this
    exact this
  rw [← hY]
  clear hY
  obtain ⟨mb, hmb⟩ : ∃ mb, mb = w1.heap.size := ⟨_, rfl⟩
  obtain ⟨nb, hnb⟩ : ∃ nb, nb = w1.heap.size + 1 := ⟨_, rfl⟩
  obtain ⟨ab, hab⟩ : ∃ ab, ab = w1.heap.size + 1 + 1 := ⟨_, rfl⟩
  have HB := hid (show w1.heap.size = mb ∧ nb = mb + 1 ∧ ab = mb + 2 from ⟨hmb.symm, by omega, by omega⟩)
  rw [← hab, ← hnb, ← hmb] at hcells ⊢
  rw [← hmb] at hM1
  rw [← hnb] at hM2
  clear hmb hnb hab hmm
  have habY : ab < Y.heap.size := (Array.getElem?_eq_some_iff.1 hcells).1
  have HY := hid (And.intro (HG1.out.trans gY) (And.intro gY (And.intro hM1 hM2)))
  have d0 : Y.cell? ⟨ab, 0, none⟩ = some (.int .i64 0) := by rw [cell_block hcells]; rfl
  have d1 : Y.cell? ⟨ab, 1, none⟩ = some (.pointer (some ⟨sb, 0, none⟩)) := by rw [cell_block hcells]; rfl
  have d2 : Y.cell? ⟨ab, 2, none⟩ = some (.map (some mb)) := by rw [cell_block hcells]; rfl
  have d3 : Y.cell? ⟨ab, 3, none⟩ = some (.map (some nb)) := by rw [cell_block hcells]; rfl
  have HFZ := hid (show ∀ i, Y.frozen? ⟨ab, i, none⟩ = false from fun i => by simp [World.frozen?, hcells])
  clear hM1 hM2 gY hcells
  go_wp2_with fail
  refine (HN.out Y HY.out.1).mono ?_
  rintro e y ⟨st, Gt, Gs, rfl, hS, h1, h2, h3, hg⟩
  have HSt := hid (And.intro hS (And.intro h1 (And.intro h2 h3)))
  have HGy := hid hg
  have d2 := (hg.cells.1 _ 2 habY).trans d2
  obtain ⟨w2, hrun, r1, r2⟩ := (HY.out.2.2.1.grew hg).store (val := .pointer (some ⟨st, 0, none⟩)) cl_keyed Tryz.underlying107 (by unfold maxLen; omega) (keyOf_int_mk Tryz.underlying3 (clit_wf (c := 1) (by omega) (by omega)))
  have HRUN := hid hrun
  have HR := hid (And.intro r1 r2)
  clear hS h1 h2 h3 hg hrun r1 r2 HN
  go_wp2_with (at_mapUpdate; refine wpList_update_run rfl _ _ _ rfl rfl rfl rfl HRUN.out ?_)
  go_ret
  have hO : Only (fun j => j = mb) y w2 := Only.of_turned HR.out.2
  have z1 := HG1.out.size
  have z2 := HY.out.2.1.size
  have z3 := HGy.out.size
  obtain ⟨b1, b2, b3⟩ := HB.out
  have hnot : ∀ j, j ≠ mb → ¬ (fun j => j = mb) j := fun j hj => hj
  refine ⟨ab, rfl, (((HY.out.1.trans HGy.out).only _).then hO).grew fun j hj => by rw [hj]; omega, fun k L => ⟨fun j => if j < w.heap.size then L j else if j < w1.heap.size then k + 3 else if j = mb then k + 1 else if j = nb then k + 2 else if j = ab then k else k + 21, fun j hj => if_pos hj, fun j hj => ?_, sb, mb, nb, lset (fun _ => none) (clit 1) (some (.pointer (some ⟨st, 0, none⟩))), fun _ => st, ?_⟩⟩
  · dsimp only
    rw [if_neg (by omega)]
    unfold Kin
    repeat' split
    all_goals omega
  · have hS1 := (HS.out.1.grew (HY.out.2.1.trans HGy.out)).kept hO (fun j hj hq => by have := HS.out.1.lt j hj; omega)
    have hSt := HSt.out.1.kept hO (fun j hj hq => by have := HSt.out.2.1 j hj; omega) (fun j hj hq => by have := HSt.out.2.2.1 j hj; omega) (fun hq => by have := HSt.out.2.2.2; omega)
    have aby := Nat.lt_of_lt_of_le habY z3
    refine ⟨(hO.cell aby (hnot _ (by omega)) 0).trans ((HGy.out.cells.1 _ 0 habY).trans d0), (hO.cell aby (hnot _ (by omega)) 1).trans ((HGy.out.cells.1 _ 1 habY).trans d1), (hO.cell aby (hnot _ (by omega)) 2).trans d2, (hO.cell aby (hnot _ (by omega)) 3).trans ((HGy.out.cells.1 _ 3 habY).trans d3), fun i => (hO.frozen aby (hnot _ (by omega)) i).trans ((HGy.out.cells.2 _ i habY).trans (HFZ.out i)), ?_, ?_, ?_, ⟨F, hS1, fun j hj => ?_⟩, ⟨1, Nat.le_refl _, HR.out.1⟩, fun i => ?_, fun l hl => ?_, ⟨_, 0, by omega, (HY.out.2.2.2.grew HGy.out).kept hO (hnot _ (by omega))⟩, fun i P S hi => ?_⟩
    · rw [if_neg (by omega), if_neg (by omega), if_neg (by omega), if_neg (by omega), if_pos rfl]
    · rw [if_neg (by omega), if_neg (by omega), if_pos rfl]
    · rw [if_neg (by omega), if_neg (by omega), if_neg (by omega), if_pos rfl]
    · have h1 := HS.out.2 j hj
      have h2 := HS.out.1.lt j hj
      rw [if_neg (by omega), if_pos h2]
    · by_cases e : i = 1
      · subst e
        exact lset_same _ _ _
      · have e1 : AuP.init.st i = none := if_neg e
        rw [e1, lset_ne (l := clit 1) (m := clit (i : Int)) _ _ (fun h => e (clit_inj (i := i) (j := 1) h))]
        rfl
    · by_cases e : l = clit 1
      · exact ⟨1, e⟩
      · rw [lset_ne _ _ e] at hl
        exact absurd rfl hl
    · by_cases e : i = 1
      · subst e
        have hi2 : some (([] : List Pr), (fun _ => none : Int → Option An)) = some (P, S) := hi
        cases hi2
        refine ⟨by omega, sh0, List.mem_singleton.2 rfl, rfl, Gt, Gs, 0, by omega, hSt, fun j hj => ?_⟩
        have : Y.heap.size ≤ j := by
          rcases hj with q | q | q
          · exact HSt.out.2.1 j q
          · exact HSt.out.2.2.1 j q
          · rw [q]; exact HSt.out.2.2.2
        rw [if_neg (by omega), if_neg (by omega), if_neg (by omega), if_neg (by omega), if_neg (by omega)]
      · have e1 : AuP.init.st i = none := if_neg e
        rw [e1] at hi
        cases hi
end Go.Proofs.YtbdagllflamabaaGreatDoor
namespace Go.Proofs.YtbdagllflamabaaGreatDoor
open Go.RowKit Go.Maps
attribute [local go_sem] Oper.semAt_some uponV
theorem zero_state (w : World) : (zeroValue 43).run Tryz.prog w = .ok (.pointer none) w := by kernel_rfl
def ptrS (A : AuP) (st : Nat → Nat) (i : Nat) : Value := if (A.st i).isSome then .pointer (some ⟨st i, 0, none⟩) else .pointer none
section
variable {W W' : World} {L : Nat → Nat} {k ab sb mb nb n : Nat} {f : Lit → Option Value} {st : Nat → Nat} {A : AuP}
theorem AuIs.look (h : AuIs W L k ab sb mb nb n f st A) (g : Grew W W') (i : Nat) (hi : i < 1000000) : (Instr.lookup 107 (.map (some mb)) (.int .i64 (i : Int)) false).run Tryz.prog W' = .ok (ptrS A st i) W' := by
  obtain ⟨m, _, hl⟩ := h.lm
  have := (hl.grew g).lookup cl_keyed Tryz.underlying107 (zero_state W') (keyOf_int_mk Tryz.underlying3 (clit_wf (c := (i : Int)) (by omega) (by omega)))
  rw [show (Lit.int .i64 (i : Int)) = clit (i : Int) from rfl, h.val] at this
  rw [this]
  unfold ptrS
  cases A.st i <;> rfl
end
end Go.Proofs.YtbdagllflamabaaGreatDoor
