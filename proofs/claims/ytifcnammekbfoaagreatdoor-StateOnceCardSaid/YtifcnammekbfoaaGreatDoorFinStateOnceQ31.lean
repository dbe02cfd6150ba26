/- TwT, PkT: one text. -/
import Derived.Test.YtifcnammekbfoaaGreatDoorFinStateOnceQ30
import Derived.Test.YtifcnammekbfoaaGreatDoorFinStateOnceQ11
import Derived.Test.YtifcnammekbfoaaGreatDoorFinStateOnceQ20
/- The plain law of tables: the table (in order) and the document's table (in any order) hold the same pairs. No program in it. -/
set_option linter.unusedVariables false
set_option linter.unusedSimpArgs false
namespace Go.Proofs.YtifcnammekbfoaaGreatDoor
namespace Pl

structure Tt (P D : List Pr) : Prop where
  srt : Srt P
  ap : D.Pairwise fun a b => a.key ≠ b.key
  mem : ∀ c, c ∈ D ↔ c ∈ P
theorem Tt.nil : Tt [] [] := ⟨srt_nil, by simp, fun c => Iff.rfl⟩
theorem cmp_self {k : ByteArray} : ¬ compare k k < 0 := fun h => compare_asymm h h
theorem srt_ap {P : List Pr} (h : Srt P) : P.Pairwise fun a b => a.key ≠ b.key := h.rise.imp fun {a b} hab e => by rw [e] at hab; exact cmp_self hab
theorem nodup_of_ap {D : List Pr} (h : D.Pairwise fun a b => a.key ≠ b.key) : D.Nodup := h.imp fun {a b} hab e => hab (by rw [e])
theorem Tt.perm {P D : List Pr} (h : Tt P D) : P.Perm D := (List.perm_ext_iff_of_nodup (nodup_of_ap (srt_ap h.srt)) (nodup_of_ap h.ap)).2 fun c => (h.mem c).symm
theorem Tt.len {P D : List Pr} (h : Tt P D) : P.length = D.length := h.perm.length_eq
theorem Tt.key {P D : List Pr} (h : Tt P D) : ∀ c ∈ D, keyN c.key = 0 := fun c hc => h.srt.key c ((h.mem c).1 hc)
theorem Tt.sorted {P D zs : List Pr} (h : Tt P D) (hp : zs.Perm D) (hs : Srt zs) : zs = P :=
  join_self h.srt (hp.trans h.perm.symm) (hs.rise.imp fun hab => compare_asymm hab)
theorem ap_erase {D : List Pr} (h : D.Pairwise fun a b => a.key ≠ b.key) (k : ByteArray) : (D.eraseP (isK k)).Pairwise fun a b => a.key ≠ b.key := h.sublist List.eraseP_sublist
theorem mem_erase {D : List Pr} (h : D.Pairwise fun a b => a.key ≠ b.key) (k : ByteArray) (c : Pr) : c ∈ D.eraseP (isK k) ↔ c ∈ D ∧ c.key ≠ k := by
  induction D with
  | nil => simp
  | cons d D ih =>
    rw [List.pairwise_cons] at h
    by_cases hd : isK k d = true
    · rw [List.eraseP_cons_of_pos hd]
      have hk := (isK_iff k d).1 hd
      constructor
      · intro hc
        exact ⟨List.mem_cons_of_mem _ hc, fun e => h.1 c hc (by rw [hk, e])⟩
      · rintro ⟨hc, hn⟩
        rcases List.mem_cons.1 hc with rfl | hc
        · exact (hn hk).elim
        · exact hc
    · rw [List.eraseP_cons_of_neg hd, List.mem_cons, ih h.2, List.mem_cons]
      have hk : d.key ≠ k := fun e => hd ((isK_iff k d).2 e)
      constructor
      · rintro (rfl | ⟨hc, hn⟩)
        · exact ⟨.inl rfl, hk⟩
        · exact ⟨.inr hc, hn⟩
      · rintro ⟨rfl | hc, hn⟩
        · exact .inl rfl
        · exact .inr ⟨hc, hn⟩
theorem Tt.del {P D : List Pr} (h : Tt P D) (k : ByteArray) : Tt (tdel P k) (D.eraseP (isK k)) :=
  ⟨srt_del h.srt k, ap_erase h.ap k, fun c => by rw [mem_erase h.ap, mem_del h.srt, h.mem]⟩
theorem Tt.put {P D : List Pr} (h : Tt P D) (p : Pr) : Tt (putT P p) (put21 D p) := by
  unfold putT put21
  by_cases hn : putN p = 0
  · rw [if_pos hn, if_pos hn]
    have hp := (putN_zero hn).1
    refine ⟨srt_put h.srt hp, ?_, fun c => ?_⟩
    · rw [List.pairwise_append]
      refine ⟨ap_erase h.ap _, by simp, fun a ha b hb => ?_⟩
      rw [List.mem_singleton] at hb
      subst hb
      exact ((mem_erase h.ap _ a).1 ha).2
    · rw [List.mem_append, List.mem_singleton, mem_erase h.ap, mem_put h.srt hp, h.mem]
      exact Or.comm
  · rw [if_neg hn, if_neg hn]; exact h
theorem find_key {D : List Pr} (h : D.Pairwise fun a b => a.key ≠ b.key) (k : ByteArray) (c : Pr) : D.find? (isK k) = some c ↔ c ∈ D ∧ c.key = k := by
  induction D with
  | nil => simp
  | cons d D ih =>
    rw [List.pairwise_cons] at h
    by_cases hd : isK k d = true
    · rw [List.find?_cons_of_pos hd, Option.some.injEq]
      have hk := (isK_iff k d).1 hd
      constructor
      · rintro rfl; exact ⟨List.mem_cons_self, hk⟩
      · rintro ⟨hc, hn⟩
        rcases List.mem_cons.1 hc with rfl | hc
        · rfl
        · exact (h.1 c hc (by rw [hk, hn])).elim
    · rw [List.find?_cons_of_neg hd, ih h.2, List.mem_cons]
      have hk : d.key ≠ k := fun e => hd ((isK_iff k d).2 e)
      constructor
      · rintro ⟨hc, hn⟩; exact ⟨.inr hc, hn⟩
      · rintro ⟨rfl | hc, hn⟩
        · exact (hk hn).elim
        · exact ⟨hc, hn⟩
theorem Tt.find {P D : List Pr} (h : Tt P D) (k : ByteArray) : P.find? (isK k) = D.find? (isK k) := by
  apply Option.ext
  intro c
  rw [find_key (srt_ap h.srt), find_key h.ap, h.mem]
theorem Tt.get {P D : List Pr} (h : Tt P D) (k : ByteArray) : getT P k = D.find? (isK k) := by
  cases hf : D.find? (isK k) with
  | some c =>
    obtain ⟨hc, rfl⟩ := (find_key h.ap k c).1 hf
    exact getT_mem h.srt ((h.mem c).1 hc)
  | none =>
    refine getT_none h.srt fun c hc e => ?_
    have := (find_key h.ap k c).2 ⟨(h.mem c).2 hc, e⟩
    rw [hf] at this
    cases this
theorem mem_take_pos {P : List Pr} (h : Srt P) {k : ByteArray} (hk : Ok k) (c : Pr) : c ∈ P.take (pos P k) ↔ c ∈ P ∧ compare c.key k < 0 := by
  constructor
  · intro hc
    exact ⟨List.mem_of_mem_take hc, take_pos h hk c hc⟩
  · rintro ⟨hc, hlt⟩
    obtain ⟨j, hj, rfl⟩ := List.getElem_of_mem hc
    have := (pos_iff hk h j hj).1 (by rw [prAt_eq P j hj]; exact hlt)
    rw [List.mem_take_iff_getElem]
    exact ⟨j, by omega, rfl⟩
theorem mem_drop_pos {P : List Pr} (h : Srt P) {k : ByteArray} (hk : Ok k) (c : Pr) : c ∈ P.drop (pos P k) ↔ c ∈ P ∧ ¬ compare c.key k < 0 := by
  constructor
  · intro hc
    obtain ⟨j, hj, rfl⟩ := List.mem_drop_iff_getElem.1 hc
    refine ⟨List.getElem_mem _, fun hlt => ?_⟩
    have := (pos_iff hk h (pos P k + j) (by omega)).1 (by rw [prAt_eq P _ (by omega)]; exact hlt)
    omega
  · rintro ⟨hc, hlt⟩
    obtain ⟨j, hj, rfl⟩ := List.getElem_of_mem hc
    have hge : ¬ j < pos P k := fun hh => hlt (by have := (pos_iff hk h j hj).2 hh; rwa [prAt_eq P j hj] at this)
    rw [List.mem_drop_iff_getElem]
    exact ⟨j - pos P k, by omega, by congr 1; omega⟩
theorem Tt.cut {P D : List Pr} (h : Tt P D) (k : ByteArray) : Tt (P.take (cutN P k)) (D.filter fun p => !cutB k p) ∧ Tt (P.drop (cutN P k)) (D.filter (cutB k)) := by
  by_cases hr : right k = true
  · have hk := right_ok hr
    have hc : ∀ c ∈ D, cutB k c = !decide (compare c.key k < 0) := fun c hc => by
      unfold cutB
      rw [hr, compare_lt c.key k (ok_key (h.key c hc)) hk]; rfl
    have hn : cutN P k = pos P k := by unfold cutN; rw [if_pos hr]
    rw [hn]
    refine ⟨⟨srt_take h.srt _, h.ap.sublist List.filter_sublist, fun c => ?_⟩, ⟨srt_drop h.srt _, h.ap.sublist List.filter_sublist, fun c => ?_⟩⟩
    · rw [List.mem_filter, mem_take_pos h.srt hk, ← h.mem]
      constructor
      · rintro ⟨h1, h2⟩; rw [hc c h1] at h2; exact ⟨h1, by simpa using h2⟩
      · rintro ⟨h1, h2⟩; exact ⟨h1, by rw [hc c h1]; simpa using h2⟩
    · rw [List.mem_filter, mem_drop_pos h.srt hk, ← h.mem]
      constructor
      · rintro ⟨h1, h2⟩; rw [hc c h1] at h2; exact ⟨h1, by simpa using h2⟩
      · rintro ⟨h1, h2⟩; exact ⟨h1, by rw [hc c h1]; simpa using h2⟩
  · have hr' : right k = false := by simpa using hr
    have hc : ∀ c, cutB k c = false := fun c => by unfold cutB; rw [hr']; rfl
    have hn : cutN P k = P.length := by unfold cutN; rw [if_neg hr]
    rw [hn, List.take_length, List.drop_length]
    have e1 : (D.filter fun p => !cutB k p) = D := List.filter_eq_self.2 fun c _ => by rw [hc]; rfl
    have e2 : D.filter (cutB k) = [] := List.filter_eq_nil_iff.2 fun c _ => by rw [hc]; simp
    rw [e1, e2]
    exact ⟨h, Tt.nil⟩
theorem put21_len (xs : List Pr) (p : Pr) : (put21 xs p).length ≤ xs.length + 1 := by
  unfold put21; split
  · have := List.length_eraseP_le (l := xs) (p := isK p.key); simp only [List.length_append, List.length_cons, List.length_nil]; omega
  · omega
end Pl
end Go.Proofs.YtifcnammekbfoaaGreatDoor

/- Plain: a table's bytes; what may stand in a table; a sorted row that is put pair by pair is itself. No program in it. -/
set_option linter.unusedVariables false
set_option linter.unusedSimpArgs false
namespace Go.Proofs.YtifcnammekbfoaaGreatDoor
namespace Pl
theorem enc_le4 (c : Nat) : (enc c).length ≤ 4 := by
  unfold enc
  repeat' split
  all_goals simp
theorem runes_cover : ∀ (n : Nat) (l : List UInt8) (r : List Nat), l.length ≤ n → runes l = some r → l.length ≤ 4 * r.length := by
  intro n
  induction n with
  | zero =>
    intro l r hl h
    omega
  | succ n ih =>
    intro l r hl h
    by_cases e : l = []
    · subst e; simp
    · rw [runes_step l e] at h
      cases hs : step1 l with
      | none => rw [hs] at h; cases h
      | some d =>
        rw [hs] at h
        simp only [Option.bind_some, Option.map_eq_some_iff] at h
        obtain ⟨t, ht, rfl⟩ := h
        obtain ⟨c, w⟩ := d
        have hp := step1_pos l e c w hs
        have h4 : w ≤ 4 := by have := (step1_enc l e c w hs).2.1; rw [this]; exact enc_le4 c
        have := ih (l.drop w) t (by simp; omega) ht
        simp at this ⊢
        omega
theorem key_size {k : ByteArray} (h : keyN k = 0) : k.size ≤ 96 := by
  unfold keyN at h
  split at h
  · cases h
  · next l hl =>
    have := runes_cover _ _ _ (Nat.le_refl _) hl
    have hs : k.size = k.data.toList.length := by rw [Array.length_toList]; rfl
    unfold keyL at h
    split at h
    · cases h
    · split at h
      · cases h
      · omega
/-- A pair's bytes; a table's. -/
def pairB (p : Pr) : List Int := textB p.key ++ textB p.val ++ numB p.ver.toNat
def pairsB (P : List Pr) : List Int := P.flatMap pairB
def tabB (P : List Pr) : List Int := numB P.length ++ pairsB P
/-- What may stand in a table. -/
def Good (P : List Pr) : Prop := ∀ c ∈ P, putN c = 0
theorem good_nil : Good [] := fun c h => by cases h
theorem Good.sub {P Q : List Pr} (h : Good P) (hs : Q.Sublist P) : Good Q := fun c hc => h c (hs.subset hc)
theorem Good.take {P : List Pr} (h : Good P) (k : Nat) : Good (P.take k) := h.sub (List.take_sublist k P)
theorem Good.drop {P : List Pr} (h : Good P) (k : Nat) : Good (P.drop k) := h.sub (List.drop_sublist k P)
theorem tdel_sub (P : List Pr) (k : ByteArray) : (tdel P k).Sublist P := by
  unfold tdel
  split
  · have h1 : (P.take (pos P k) ++ P.drop (pos P k + 1)).Sublist (P.take (pos P k) ++ P.drop (pos P k)) :=
      List.Sublist.append (List.Sublist.refl _) (by rw [← List.drop_drop]; exact List.drop_sublist 1 _)
    rwa [List.take_append_drop] at h1
  · exact List.Sublist.refl _
theorem Good.del {P : List Pr} (h : Good P) (k : ByteArray) : Good (tdel P k) := h.sub (tdel_sub P k)
theorem Good.put {P : List Pr} (h : Good P) (p : Pr) : Good (putT P p) := by
  unfold putT
  split
  · next hp =>
    intro c hc
    unfold tput at hc
    rw [List.mem_append, List.mem_append] at hc
    rcases hc with (hc | hc) | hc
    · exact h c (List.mem_of_mem_take hc)
    · rw [List.mem_singleton.1 hc]; exact hp
    · exact h c (List.mem_of_mem_drop hc)
  · exact h
theorem putT_len (P : List Pr) (p : Pr) : (putT P p).length ≤ P.length + 1 := by
  unfold putT; split
  · exact tput_length P p
  · omega
theorem pairB_byte (p : Pr) : ∀ b ∈ pairB p, 0 ≤ b ∧ b < 256 := by
  intro b hb
  unfold pairB at hb
  rw [List.mem_append, List.mem_append] at hb
  rcases hb with (hb | hb) | hb
  · exact textB_byte _ b hb
  · exact textB_byte _ b hb
  · exact numB_byte _ b hb
theorem tabB_byte (P : List Pr) : ∀ b ∈ tabB P, 0 ≤ b ∧ b < 256 := by
  intro b hb
  unfold tabB pairsB at hb
  rw [List.mem_append, List.mem_flatMap] at hb
  rcases hb with hb | ⟨p, _, hb⟩
  · exact numB_byte _ b hb
  · exact pairB_byte p b hb
theorem pairB_len {p : Pr} (h : putN p = 0) : (pairB p).length ≤ 170 := by
  obtain ⟨h1, h2, h3, h4⟩ := putN_zero h
  have k1 := key_size h1
  have a1 := textB_len p.key (by omega)
  have a2 := textB_len p.val (by omega)
  have a3 := numB_len 1 p.ver.toNat (by omega)
  unfold pairB
  rw [List.length_append, List.length_append]
  omega
theorem pairsB_len {P : List Pr} (h : Good P) : (pairsB P).length ≤ P.length * 170 := by
  unfold pairsB
  induction P with
  | nil => simp
  | cons p P ih =>
    have h1 := pairB_len (h p (by simp))
    have h2 := ih (fun c hc => h c (by simp [hc]))
    simp only [List.flatMap_cons, List.length_append, List.length_cons]
    omega
theorem tabB_len {P : List Pr} (h : Good P) (hl : P.length < 2097152) : (tabB P).length ≤ P.length * 170 + 3 := by
  have h1 := pairsB_len h
  have h2 := numB_len 2 P.length (by simpa using hl)
  unfold tabB
  rw [List.length_append]
  omega
theorem pairsB_drop (P : List Pr) (k : Nat) (hk : k < P.length) : pairsB (P.drop k) = pairB (prAt P k) ++ pairsB (P.drop (k + 1)) := by
  unfold pairsB
  rw [prAt_eq P k hk, List.drop_eq_getElem_cons hk, List.flatMap_cons]
theorem pairsB_take (P : List Pr) (k : Nat) (hk : k < P.length) : pairsB (P.take (k + 1)) = pairsB (P.take k) ++ pairB (prAt P k) := by
  unfold pairsB
  rw [prAt_eq P k hk, List.take_succ_eq_append_getElem hk, List.flatMap_append, List.flatMap_cons, List.flatMap_nil, List.append_nil]
/-- The next pair of a sorted row goes behind all. -/
theorem srt_next {P : List Pr} (h : Srt P) (hg : Good P) (k : Nat) (hk : k < P.length) : putT (P.take k) (prAt P k) = P.take (k + 1) ∧ putN (prAt P k) = 0 ∧ (∀ j, j < k → compare (prAt P j).key (prAt P k).key < 0) := by
  rw [prAt_eq P k hk]
  have hm : P[k] ∈ P := List.getElem_mem hk
  have hp := hg _ hm
  have hlt : ∀ c ∈ P.take k, compare c.key P[k].key < 0 := by
    intro c hc
    obtain ⟨j, hj, rfl⟩ := List.mem_take_iff_getElem.1 hc
    exact List.pairwise_iff_getElem.1 h.rise j k (by omega) hk (by omega)
  have hpos : pos (P.take k) P[k].key = (P.take k).length := by
    unfold pos
    rw [List.countP_eq_length]
    intro c hc
    simpa using hlt c hc
  have hhas : hasB (P.take k) P[k].key = false := by
    unfold hasB
    rw [hpos]
    simp
  refine ⟨?_, hp, fun j hj => ?_⟩
  · unfold putT
    rw [if_pos hp]
    unfold tput
    rw [hhas, hpos, List.take_length, List.take_succ_eq_append_getElem hk]
    simp
  · rw [prAt_eq P j (by omega)]
    exact List.pairwise_iff_getElem.1 h.rise j k (by omega) hk hj
end Pl
end Go.Proofs.YtifcnammekbfoaaGreatDoor
