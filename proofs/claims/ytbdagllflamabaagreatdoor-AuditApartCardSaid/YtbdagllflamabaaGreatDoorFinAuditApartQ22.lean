/- TwT, PkT, BytT, CopyT, PkC, RgnT, St1, Ref22, Ref23, R5: one text. -/
import Derived.Test.YtbdagllflamabaaGreatDoorFinAuditApartQ21
import Derived.Test.YtbdagllflamabaaGreatDoorFinAuditApartQ16
import Derived.Test.YtbdagllflamabaaGreatDoorFinAuditApartQ17
import Derived.Test.YtbdagllflamabaaGreatDoorFinAuditApartQ20
import Derived.Deep.DeepCutAuto
import Derived.Test.YtbdagllflamabaaGreatDoorFinAuditApartQ9
import Derived.Test.YtbdagllflamabaaGreatDoorFinAuditApartQ15
import Derived.BigQuiet
import Derived.Test.YtbdagllflamabaaGreatDoorFinAuditApartQ5
set_option linter.unusedVariables false
set_option linter.unusedSimpArgs false
namespace Go.Proofs.YtbdagllflamabaaGreatDoor
namespace Pl
structure Tt (P D : List Pr) : Prop where
  srt : Srt P
  ap : D.Pairwise fun a b => a.key ≠ b.key
  mem : ∀ c, c ∈ D ↔ c ∈ P
theorem Tt.nil : Tt [] [] := ⟨srt_nil, by simp, fun c => Iff.rfl⟩
theorem cmp_self {k : ByteArray} : ¬ compare k k < 0 := fun h => compare_asymm h h
theorem srt_ap {P : List Pr} (h : Srt P) : P.Pairwise fun a b => a.key ≠ b.key := h.rise.imp fun {a b} hab e => by rw [e] at hab; exact cmp_self hab
theorem nodup_of_ap {D : List Pr} (h : D.Pairwise fun a b => a.key ≠ b.key) : D.Nodup := h.imp fun {a b} hab e => hab (by rw [e])
theorem Tt.perm {P D : List Pr} (h : Tt P D) : P.Perm D := (List.perm_ext_iff_of_nodup (nodup_of_ap (srt_ap h.srt)) (nodup_of_ap h.ap)).2 fun c => (h.mem c).symm
theorem Tt.len {P D : List Pr} (h : Tt P D) : P.length = D.length := h.perm.length_eq
theorem Tt.key {P D : List Pr} (h : Tt P D) : ∀ c ∈ D, keyN c.key = 0 := fun c hc => h.srt.key c ((h.mem c).1 hc)
theorem Tt.sorted {P D zs : List Pr} (h : Tt P D) (hp : zs.Perm D) (hs : Srt zs) : zs = P :=
  join_self h.srt (hp.trans h.perm.symm) (hs.rise.imp fun hab => compare_asymm hab)
theorem ap_erase {D : List Pr} (h : D.Pairwise fun a b => a.key ≠ b.key) (k : ByteArray) : (D.eraseP (isK k)).Pairwise fun a b => a.key ≠ b.key := h.sublist List.eraseP_sublist
theorem mem_erase {D : List Pr} (h : D.Pairwise fun a b => a.key ≠ b.key) (k : ByteArray) (c : Pr) : c ∈ D.eraseP (isK k) ↔ c ∈ D ∧ c.key ≠ k := by
  induction D with
  | nil => simp
  | cons d D ih =>
    rw [List.pairwise_cons] at h
    by_cases hd : isK k d = true
    · rw [List.eraseP_cons_of_pos hd]
      have hk := (isK_iff k d).1 hd
      constructor
      · intro hc
        exact ⟨List.mem_cons_of_mem _ hc, fun e => h.1 c hc (by rw [hk, e])⟩
      · rintro ⟨hc, hn⟩
        rcases List.mem_cons.1 hc with rfl | hc
        · exact (hn hk).elim
        · exact hc
    · rw [List.eraseP_cons_of_neg hd, List.mem_cons, ih h.2, List.mem_cons]
      have hk : d.key ≠ k := fun e => hd ((isK_iff k d).2 e)
      constructor
      · rintro (rfl | ⟨hc, hn⟩)
        · exact ⟨.inl rfl, hk⟩
        · exact ⟨.inr hc, hn⟩
      · rintro ⟨rfl | hc, hn⟩
        · exact .inl rfl
        · exact .inr ⟨hc, hn⟩
theorem Tt.del {P D : List Pr} (h : Tt P D) (k : ByteArray) : Tt (tdel P k) (D.eraseP (isK k)) :=
  ⟨srt_del h.srt k, ap_erase h.ap k, fun c => by rw [mem_erase h.ap, mem_del h.srt, h.mem]⟩
theorem Tt.put {P D : List Pr} (h : Tt P D) (p : Pr) : Tt (putT P p) (put21 D p) := by
  unfold putT put21
  by_cases hn : putN p = 0
  · rw [if_pos hn, if_pos hn]
    have hp := (putN_zero hn).1
    refine ⟨srt_put h.srt hp, ?_, fun c => ?_⟩
    · rw [List.pairwise_append]
      refine ⟨ap_erase h.ap _, by simp, fun a ha b hb => ?_⟩
      rw [List.mem_singleton] at hb
      subst hb
      exact ((mem_erase h.ap _ a).1 ha).2
    · rw [List.mem_append, List.mem_singleton, mem_erase h.ap, mem_put h.srt hp, h.mem]
      exact Or.comm
  · rw [if_neg hn, if_neg hn]; exact h
theorem find_key {D : List Pr} (h : D.Pairwise fun a b => a.key ≠ b.key) (k : ByteArray) (c : Pr) : D.find? (isK k) = some c ↔ c ∈ D ∧ c.key = k := by
  induction D with
  | nil => simp
  | cons d D ih =>
    rw [List.pairwise_cons] at h
    by_cases hd : isK k d = true
    · rw [List.find?_cons_of_pos hd, Option.some.injEq]
      have hk := (isK_iff k d).1 hd
      constructor
      · rintro rfl; exact ⟨List.mem_cons_self, hk⟩
      · rintro ⟨hc, hn⟩
        rcases List.mem_cons.1 hc with rfl | hc
        · rfl
        · exact (h.1 c hc (by rw [hk, hn])).elim
    · rw [List.find?_cons_of_neg hd, ih h.2, List.mem_cons]
      have hk : d.key ≠ k := fun e => hd ((isK_iff k d).2 e)
      constructor
      · rintro ⟨hc, hn⟩; exact ⟨.inr hc, hn⟩
      · rintro ⟨rfl | hc, hn⟩
        · exact (hk hn).elim
        · exact ⟨hc, hn⟩
theorem Tt.find {P D : List Pr} (h : Tt P D) (k : ByteArray) : P.find? (isK k) = D.find? (isK k) := by
  apply Option.ext
  intro c
  rw [find_key (srt_ap h.srt), find_key h.ap, h.mem]
theorem Tt.get {P D : List Pr} (h : Tt P D) (k : ByteArray) : getT P k = D.find? (isK k) := by
  cases hf : D.find? (isK k) with
  | some c =>
    obtain ⟨hc, rfl⟩ := (find_key h.ap k c).1 hf
    exact getT_mem h.srt ((h.mem c).1 hc)
  | none =>
    refine getT_none h.srt fun c hc e => ?_
    have := (find_key h.ap k c).2 ⟨(h.mem c).2 hc, e⟩
    rw [hf] at this
    cases this
theorem mem_take_pos {P : List Pr} (h : Srt P) {k : ByteArray} (hk : Ok k) (c : Pr) : c ∈ P.take (pos P k) ↔ c ∈ P ∧ compare c.key k < 0 := by
  constructor
  · intro hc
    exact ⟨List.mem_of_mem_take hc, take_pos h hk c hc⟩
  · rintro ⟨hc, hlt⟩
    obtain ⟨j, hj, rfl⟩ := List.getElem_of_mem hc
    have := (pos_iff hk h j hj).1 (by rw [prAt_eq P j hj]; exact hlt)
    rw [List.mem_take_iff_getElem]
    exact ⟨j, by omega, rfl⟩
theorem mem_drop_pos {P : List Pr} (h : Srt P) {k : ByteArray} (hk : Ok k) (c : Pr) : c ∈ P.drop (pos P k) ↔ c ∈ P ∧ ¬ compare c.key k < 0 := by
  constructor
  · intro hc
    obtain ⟨j, hj, rfl⟩ := List.mem_drop_iff_getElem.1 hc
    refine ⟨List.getElem_mem _, fun hlt => ?_⟩
    have := (pos_iff hk h (pos P k + j) (by omega)).1 (by rw [prAt_eq P _ (by omega)]; exact hlt)
    omega
  · rintro ⟨hc, hlt⟩
    obtain ⟨j, hj, rfl⟩ := List.getElem_of_mem hc
    have hge : ¬ j < pos P k := fun hh => hlt (by have := (pos_iff hk h j hj).2 hh; rwa [prAt_eq P j hj] at this)
    rw [List.mem_drop_iff_getElem]
    exact ⟨j - pos P k, by omega, by congr 1; omega⟩
theorem Tt.cut {P D : List Pr} (h : Tt P D) (k : ByteArray) : Tt (P.take (cutN P k)) (D.filter fun p => !cutB k p) ∧ Tt (P.drop (cutN P k)) (D.filter (cutB k)) := by
  by_cases hr : right k = true
  · have hk := right_ok hr
    have hc : ∀ c ∈ D, cutB k c = !decide (compare c.key k < 0) := fun c hc => by
      unfold cutB
      rw [hr, compare_lt c.key k (ok_key (h.key c hc)) hk]; rfl
    have hn : cutN P k = pos P k := by unfold cutN; rw [if_pos hr]
    rw [hn]
    refine ⟨⟨srt_take h.srt _, h.ap.sublist List.filter_sublist, fun c => ?_⟩, ⟨srt_drop h.srt _, h.ap.sublist List.filter_sublist, fun c => ?_⟩⟩
    · rw [List.mem_filter, mem_take_pos h.srt hk, ← h.mem]
      constructor
      · rintro ⟨h1, h2⟩; rw [hc c h1] at h2; exact ⟨h1, by simpa using h2⟩
      · rintro ⟨h1, h2⟩; exact ⟨h1, by rw [hc c h1]; simpa using h2⟩
    · rw [List.mem_filter, mem_drop_pos h.srt hk, ← h.mem]
      constructor
      · rintro ⟨h1, h2⟩; rw [hc c h1] at h2; exact ⟨h1, by simpa using h2⟩
      · rintro ⟨h1, h2⟩; exact ⟨h1, by rw [hc c h1]; simpa using h2⟩
  · have hr' : right k = false := by simpa using hr
    have hc : ∀ c, cutB k c = false := fun c => by unfold cutB; rw [hr']; rfl
    have hn : cutN P k = P.length := by unfold cutN; rw [if_neg hr]
    rw [hn, List.take_length, List.drop_length]
    have e1 : (D.filter fun p => !cutB k p) = D := List.filter_eq_self.2 fun c _ => by rw [hc]; rfl
    have e2 : D.filter (cutB k) = [] := List.filter_eq_nil_iff.2 fun c _ => by rw [hc]; simp
    rw [e1, e2]
    exact ⟨h, Tt.nil⟩
end Pl
end Go.Proofs.YtbdagllflamabaaGreatDoor
namespace Go.Proofs.YtbdagllflamabaaGreatDoor
namespace Pl
theorem enc_le4 (c : Nat) : (enc c).length ≤ 4 := by
  unfold enc
  repeat' split
  all_goals simp
theorem runes_cover : ∀ (n : Nat) (l : List UInt8) (r : List Nat), l.length ≤ n → runes l = some r → l.length ≤ 4 * r.length := by
  intro n
  induction n with
  | zero =>
    intro l r hl h
    omega
  | succ n ih =>
    intro l r hl h
    by_cases e : l = []
    · subst e; simp
    · rw [runes_step l e] at h
      cases hs : step1 l with
      | none => rw [hs] at h; cases h
      | some d =>
        rw [hs] at h
        simp only [Option.bind_some, Option.map_eq_some_iff] at h
        obtain ⟨t, ht, rfl⟩ := h
        obtain ⟨c, w⟩ := d
        have hp := step1_pos l e c w hs
        have h4 : w ≤ 4 := by have := (step1_enc l e c w hs).2.1; rw [this]; exact enc_le4 c
        have := ih (l.drop w) t (by simp; omega) ht
        simp at this ⊢
        omega
theorem key_size {k : ByteArray} (h : keyN k = 0) : k.size ≤ 96 := by
  unfold keyN at h
  split at h
  · cases h
  · next l hl =>
    have := runes_cover _ _ _ (Nat.le_refl _) hl
    have hs : k.size = k.data.toList.length := by rw [Array.length_toList]; rfl
    unfold keyL at h
    split at h
    · cases h
    · split at h
      · cases h
      · omega
def Good (P : List Pr) : Prop := ∀ c ∈ P, putN c = 0
theorem good_nil : Good [] := fun c h => by cases h
theorem Good.sub {P Q : List Pr} (h : Good P) (hs : Q.Sublist P) : Good Q := fun c hc => h c (hs.subset hc)
theorem Good.take {P : List Pr} (h : Good P) (k : Nat) : Good (P.take k) := h.sub (List.take_sublist k P)
theorem Good.drop {P : List Pr} (h : Good P) (k : Nat) : Good (P.drop k) := h.sub (List.drop_sublist k P)
theorem tdel_sub (P : List Pr) (k : ByteArray) : (tdel P k).Sublist P := by
  unfold tdel
  split
  · have h1 : (P.take (pos P k) ++ P.drop (pos P k + 1)).Sublist (P.take (pos P k) ++ P.drop (pos P k)) :=
      List.Sublist.append (List.Sublist.refl _) (by rw [← List.drop_drop]; exact List.drop_sublist 1 _)
    rwa [List.take_append_drop] at h1
  · exact List.Sublist.refl _
theorem Good.del {P : List Pr} (h : Good P) (k : ByteArray) : Good (tdel P k) := h.sub (tdel_sub P k)
theorem Good.put {P : List Pr} (h : Good P) (p : Pr) : Good (putT P p) := by
  unfold putT
  split
  · next hp =>
    intro c hc
    unfold tput at hc
    rw [List.mem_append, List.mem_append] at hc
    rcases hc with (hc | hc) | hc
    · exact h c (List.mem_of_mem_take hc)
    · rw [List.mem_singleton.1 hc]; exact hp
    · exact h c (List.mem_of_mem_drop hc)
  · exact h
theorem putT_len (P : List Pr) (p : Pr) : (putT P p).length ≤ P.length + 1 := by
  unfold putT; split
  · exact tput_length P p
  · omega
end Pl
end Go.Proofs.YtbdagllflamabaaGreatDoor
set_option linter.unusedSectionVars false
namespace Go.Proofs.YtbdagllflamabaaGreatDoor
open Go.RowKit Go.Maps
attribute [local go_sem] Oper.semAt_some
end Go.Proofs.YtbdagllflamabaaGreatDoor
namespace Go.Proofs.YtbdagllflamabaaGreatDoor
open Go.RowKit Go.Maps
attribute [local go_sem] Oper.semAt_some
set_option maxRecDepth 100000 in
set_option maxHeartbeats 1000000 in
theorem copyT_any {w : World} {F : Nat → Prop} {tb : Nat} {xs : List Pr} (h : TabAt w F tb xs) (hx : xs.length ≤ 1000000) :
    Calls Tryz.prog 92 #[.pointer (some ⟨tb, 0, none⟩)] w fun e w' => (∃ cb Fc, e = .returned (.pointer (some ⟨cb, 0, none⟩)) ∧ TabAt w' Fc cb xs ∧ ∀ j, Fc j → w.heap.size ≤ j) ∧ Grew w w' := by
  have HS := hid (tabAt_srt h)
  have HZ := hid (tabAt_sz h)
  obtain ⟨v, h⟩ := h
  obtain ⟨a, cap, rfl, hA⟩ := pairsAt_of h.row
  have c0 := h.cell
  have htb := cell_lt c0
  have HCL := hid (cloneP_any w a xs.length cap xs rfl hA (slForm_of h.row) hx)
  clear h hA
  go_enter Tryz.func92, Tryz.ntmps92
  go_wp2_with fail
  refine HCL.out.mono ?_
  rintro e w1 ⟨a', c', rfl, hrow, hg⟩
  have HF : Hid ((∃ Fc, TabAt (w1.alloc (.cells #[.slice a' xs.length c'] 123)) Fc w1.heap.size xs ∧ ∀ j, Fc j → w.heap.size ≤ j) ∧ Grew w (w1.alloc (.cells #[.slice a' xs.length c'] 123))) := by
    have hG : Grew w1 (w1.alloc (.cells #[.slice a' xs.length c'] 123)) := (Grew.refl w1).alloc _
    refine ⟨⟨_, tabAt_mk (by simp [go_sem]) (by simp [go_sem]) (ownsRow_grew hG hrow) (.inr fun g hg' => ?_) HS.out HZ.out, fun j hj => ?_⟩, hg.trans hG⟩
    · have := (hrow.lt g hg').2; omega
    · rcases hj with rfl | ⟨_, hj⟩
      · exact hg.size
      · exact hj
  clear hrow
  go_wp2_with fail
  go_ret
  obtain ⟨⟨Fc, h1, h2⟩, h3⟩ := HF.out
  exact ⟨⟨_, Fc, rfl, h1, h2⟩, h3⟩
end Go.Proofs.YtbdagllflamabaaGreatDoor
namespace Go.Proofs.YtbdagllflamabaaGreatDoor
open Go.RowKit Go.Maps
attribute [local go_sem] Oper.semAt_some
end Go.Proofs.YtbdagllflamabaaGreatDoor
namespace Go.Proofs.YtbdagllflamabaaGreatDoor
open Go.RowKit Go.Maps
structure JT (vs : Nat → Option Value) (od : List (Nat × Nat)) (s : Nat) (R0 R1 : World → Prop) (X : Nat → Option (World → Value → Prop)) (L : Nat → Bool) (f : Nat → Value) (x : World) : Prop where
  val : ∀ i v, L i = true → vs i = some v → f i = v
  ord : ∀ p ∈ od, L p.1 = true → L p.2 = true
  a : L s = false → R0 x
  d : L s = true → R1 x
  ex : ∀ i p, X i = some p → L i = true → p x (f i)
  xo : ∀ i p, X i = some p → L i = true → L s = true
structure StT (R0 R1 : World → Prop) (X : Nat → Option (World → Value → Prop)) : Prop where
  r0 : ∀ x x', Grew x x' → R0 x → R0 x'
  r1 : ∀ x x', Grew x x' → R1 x → R1 x'
  x : ∀ i p, X i = some p → ∀ x x' v, Grew x x' → p x v → p x' v
section
variable {vs : Nat → Option Value} {od : List (Nat × Nat)} {s : Nat} {R0 R1 : World → Prop} {X : Nat → Option (World → Value → Prop)} {L : Nat → Bool} {f : Nat → Value} {x x' : World}
theorem JT.start (h : R0 x) : JT vs od s R0 R1 X (fun _ => false) f x :=
  ⟨fun _ _ h => (by cases h), fun _ _ h => (by cases h), fun _ => h, fun h => (by cases h), fun _ _ _ h => (by cases h), fun _ _ _ h => (by cases h)⟩
theorem JT.more (st : StT R0 R1 X) (h : JT vs od s R0 R1 X L f x) (g : Grew x x') : JT vs od s R0 R1 X L f x' :=
  ⟨h.val, h.ord, fun hl => st.r0 _ _ g (h.a hl), fun hl => st.r1 _ _ g (h.d hl), fun i p hp hl => st.x i p hp _ _ _ g (h.ex i p hp hl), h.xo⟩
theorem plus_ne {L : Nat → Bool} {i j : Nat} (h : j ≠ i) : plus L i j = L j := by simp only [plus, if_neg h]
theorem plus_on {L : Nat → Bool} {i : Nat} : plus L i i = true := by simp [plus]
theorem plus_up {L : Nat → Bool} {i j : Nat} (h : L j = true) : plus L i j = true := by simp only [plus]; split; rfl; exact h
theorem ord_plus {od : List (Nat × Nat)} {L : Nat → Bool} {i : Nat} (h : ∀ p ∈ od, L p.1 = true → L p.2 = true) (ho : ∀ p ∈ od, p.1 = i → L p.2 = true) : ∀ p ∈ od, plus L i p.1 = true → plus L i p.2 = true := by
  intro p hp hl
  by_cases hi : p.1 = i
  · exact plus_up (ho p hp hi)
  · rw [plus_ne hi] at hl; exact plus_up (h p hp hl)
theorem val_plus {vs : Nat → Option Value} {L : Nat → Bool} {f : Nat → Value} {i : Nat} {v : Value} (h : ∀ i v, L i = true → vs i = some v → f i = v) (hv : ∀ u, vs i = some u → v = u) : ∀ j u, plus L i j = true → vs j = some u → updV f i v j = u := by
  intro j u hl hu
  by_cases hj : j = i
  · subst hj; rw [updV_same]; exact hv u hu
  · rw [plus_ne hj] at hl; rw [updV_ne hj]; exact h j u hl hu
theorem JT.put (h : JT vs od s R0 R1 X L f x) (i : Nat) (v : Value) (hv : vs i = some v) (hs : s ≠ i) (hX : X i = none) (ho : ∀ p ∈ od, p.1 = i → L p.2 = true) : JT vs od s R0 R1 X (plus L i) (updV f i v) x := by
  refine ⟨val_plus h.val (fun u hu => by rw [hv] at hu; exact Option.some.inj hu), ord_plus h.ord ho, fun hl => h.a (by rwa [plus_ne hs] at hl), fun hl => h.d (by rwa [plus_ne hs] at hl), fun j p hp hl => ?_, fun j p hp hl => ?_⟩
  · have hj : j ≠ i := fun e => by subst e; rw [hX] at hp; cases hp
    rw [plus_ne hj] at hl
    rw [updV_ne hj]; exact h.ex j p hp hl
  · have hj : j ≠ i := fun e => by subst e; rw [hX] at hp; cases hp
    rw [plus_ne hj] at hl
    exact plus_up (h.xo j p hp hl)
end
end Go.Proofs.YtbdagllflamabaaGreatDoor
namespace Go.Proofs.YtbdagllflamabaaGreatDoor
open Go.RowKit Go.Maps
attribute [local go_sem] Oper.semAt_some uponV
structure StIs (w : World) (Ft Fs : Nat → Prop) (st tb sb n : Nat) (lo hi : ByteArray) (P : List Pr) (S : Int → Option An) : Prop where
  c0 : w.cell? ⟨st, 0, none⟩ = some (.pointer (some ⟨tb, 0, none⟩))
  c1 : w.cell? ⟨st, 1, none⟩ = some (.string lo)
  c2 : w.cell? ⟨st, 2, none⟩ = some (.string hi)
  c3 : w.cell? ⟨st, 3, none⟩ = some (.pointer (some ⟨sb, 0, none⟩))
  f0 : ∀ i, w.frozen? ⟨st, i, none⟩ = false
  tab : TabAt w Ft tb P
  seen : SeenAt w Fs sb n S
  good : Pl.Good P
  apart : ∀ j, Ft j → ¬ Fs j ∧ j ≠ st
  own : ∀ j, Fs j → j ≠ st
def StAt (w : World) (Ft Fs : Nat → Prop) (st n : Nat) (lo hi : ByteArray) (P : List Pr) (S : Int → Option An) : Prop := ∃ tb sb, StIs w Ft Fs st tb sb n lo hi P S
section
variable {w w' : World} {Ft Fs T : Nat → Prop} {st tb sb n : Nat} {lo hi : ByteArray} {P : List Pr} {S : Int → Option An}
theorem StIs.kept (h : StIs w Ft Fs st tb sb n lo hi P S) (g : Only T w w') (h1 : ∀ j, Ft j → ¬ T j) (h2 : ∀ j, Fs j → ¬ T j) (h3 : ¬ T st) : StIs w' Ft Fs st tb sb n lo hi P S where
  c0 := (g.cell (cell_lt h.c0) h3 0).trans h.c0
  c1 := (g.cell (cell_lt h.c0) h3 1).trans h.c1
  c2 := (g.cell (cell_lt h.c0) h3 2).trans h.c2
  c3 := (g.cell (cell_lt h.c0) h3 3).trans h.c3
  f0 := fun i => (g.frozen (cell_lt h.c0) h3 i).trans (h.f0 i)
  tab := h.tab.kept g h1
  seen := h.seen.kept g h2
  good := h.good
  apart := h.apart
  own := h.own
theorem StAt.kept (h : StAt w Ft Fs st n lo hi P S) (g : Only T w w') (h1 : ∀ j, Ft j → ¬ T j) (h2 : ∀ j, Fs j → ¬ T j) (h3 : ¬ T st) : StAt w' Ft Fs st n lo hi P S := by
  obtain ⟨tb, sb, h⟩ := h
  exact ⟨tb, sb, h.kept g h1 h2 h3⟩
theorem StAt.grew (h : StAt w Ft Fs st n lo hi P S) (g : Grew w w') : StAt w' Ft Fs st n lo hi P S := h.kept (g.only fun _ => False) (fun _ _ h => h) (fun _ _ h => h) (fun h => h)
end
structure JCpy (y : World) (n : Nat) (P : List Pr) (S : Int → Option An) (L : Nat → Bool) (f : Nat → Value) (x : World) : Prop where
  grew : Grew y x
  ord : L 13 = true → L 4 = true
  tab : L 4 = true → ∃ cb Fc, f 4 = .pointer (some ⟨cb, 0, none⟩) ∧ TabAt x Fc cb P ∧ (∀ j, Fc j → y.heap.size ≤ j) ∧ (L 13 = true → ∃ db Gs, f 13 = .pointer (some ⟨db, 0, none⟩) ∧ SeenAt x Gs db n S ∧ (∀ j, Gs j → y.heap.size ≤ j) ∧ ∀ j, Fc j → ¬ Gs j)
set_option maxRecDepth 100000 in
set_option maxHeartbeats 4000000 in
theorem copyS_any {w : World} {Ft Fs : Nat → Prop} {st n : Nat} {lo hi : ByteArray} {P : List Pr} {S : Int → Option An} (h : StAt w Ft Fs st n lo hi P S) (hx : P.length ≤ 1000) :
    Calls Tryz.prog 50 #[.pointer (some ⟨st, 0, none⟩)] w fun e w' => ∃ cb Gt Gs, e = .returned (.pointer (some ⟨cb, 0, none⟩)) ∧ StAt w' Gt Gs cb n lo hi P S ∧ w.heap.size ≤ cb ∧ (∀ j, Gt j → w.heap.size ≤ j) ∧ (∀ j, Gs j → w.heap.size ≤ j) ∧ Grew w w' := by
  obtain ⟨tb, sb, h⟩ := h
  have HC := hid (fun W (g : Grew w W) => copyT_any (h.tab.grew g) (by omega))
  have HD := hid (fun W (g : Grew w W) => copyD_any (h.seen.grew g))
  have HG := hid h.good
  have c0 := h.c0
  have hst : st < w.heap.size := cell_lt c0
  have C0 := wd_cell h.c0
  have C1 := wd_cell h.c1
  have C2 := wd_cell h.c2
  have C3 := wd_cell h.c3
  have HC3 := hid h.c3
  clear h c0
  go_enter Tryz.func50, Tryz.ntmps50
  go_wp2_with fail
  refine wp_region_mixS 14 [4, 13] (Grew w) Eq (JCpy w n P S) (fun f a => (a.put (some 7) (f 4)).put (some 16) (f 13)) (by kernel_rfl) (by kernel_rfl) (fun _ _ => rfl) ⟨(Grew.refl w).drew, (fun h => by cases h), (fun h => by cases h)⟩ (fun _ _ _ h => h.grew) (fun _ => rfl) (fun _ _ _ _ h g => g ▸ h) ?_
  repeat (first
    | (refine mixS_loose (by rfl) (by rfl) ?_)
    | (refine mixS_plain (by rfl) (by rfl) (by rfl) (by first | exact Grew.refl | exact fun _ => rfl) (by rfl) ?_; intro K hK; go_big_quiet_op; go_big_quiet_on)
    | (refine mixS_skip (by rfl) (by rfl) (by rfl) ?_; simp only [Act.put, List.setIfInBounds_toArray, List.set_cons_zero, List.set_cons_succ]))
  refine mixS_done (by rfl) ⟨⟨loose_of rfl (fun _ a => a) (fun _ _ => rfl) (fun _ => rfl) ?_, loose_of rfl (fun f a => a.put (some 7) (f 4)) (fun _ _ => rfl) (fun _ => rfl) ?_, trivial⟩, ?_⟩
  · intro L f x hJ hL hd
    have h13 : L 13 = false := bool_no fun h => by rw [hJ.ord h] at hL; cases hL
    have HJ := hid hJ
    have H13 := hid h13
    clear hJ hL hd C0 C1 C2 C3 h13
    go_simp
    refine (HC.out x HJ.out.grew).mono ?_
    rintro e x' ⟨⟨cb, Fc, rfl, hT, hF⟩, hg⟩
    refine ⟨_, rfl, HJ.out.grew.trans hg, fun h => plus_on, fun _ => ⟨cb, Fc, updV_same _ _ _, hT, fun j hj => Nat.le_trans HJ.out.grew.size (hF j hj), fun h => ?_⟩⟩
    rw [plus_ne (by decide), H13.out] at h; cases h
  · intro L f x hJ hL hd
    have l4 := hd 4 rfl (by decide)
    obtain ⟨cb, Fc, e4, hT, hF, _⟩ := hJ.tab l4
    have HJ := hid hJ
    have HT := hid (And.intro e4 (And.intro hT hF))
    have HL4 := hid l4
    clear hJ hL hd C0 C1 C2 C3 hT hF l4
    rw [e4]
    clear e4
    go_simp
    refine (HD.out x HJ.out.grew).mono ?_
    rintro e x' ⟨db, Gs, rfl, hS, hG2, hg⟩
    refine ⟨_, rfl, HJ.out.grew.trans hg, fun h => plus_up HL4.out, fun _ => ⟨cb, Fc, ?_, HT.out.2.1.grew hg, HT.out.2.2, fun _ => ⟨db, Gs, updV_same _ _ _, hS, fun j hj => Nat.le_trans HJ.out.grew.size (hG2 j hj), fun j hj hj2 => ?_⟩⟩⟩
    · rw [updV_ne (by decide)]; exact HT.out.1
    · have h1 := tabAt_lt HT.out.2.1 j hj
      have h2 := hG2 j hj2
      omega
  intro f x hJ
  obtain ⟨cb, Fc, e4, hT, hF, h13⟩ := hJ.tab rfl
  obtain ⟨db, Gs, e13, hS, hG2, hdis⟩ := h13 rfl
  have hgx := hJ.grew
  have HF : Hid (StAt (x.alloc (.cells #[.pointer (some ⟨cb, 0, none⟩), .string lo, .string hi, .pointer (some ⟨db, 0, none⟩)] 51)) Fc Gs x.heap.size n lo hi P S ∧ Grew w (x.alloc (.cells #[.pointer (some ⟨cb, 0, none⟩), .string lo, .string hi, .pointer (some ⟨db, 0, none⟩)] 51)) ∧ w.heap.size ≤ x.heap.size ∧ (∀ j, Fc j → w.heap.size ≤ j) ∧ ∀ j, Gs j → w.heap.size ≤ j) := by
    have gA : Grew x (x.alloc (.cells #[.pointer (some ⟨cb, 0, none⟩), .string lo, .string hi, .pointer (some ⟨db, 0, none⟩)] 51)) := (Grew.refl x).alloc _
    refine ⟨⟨cb, db, by simp [go_sem], by simp [go_sem], by simp [go_sem], by simp [go_sem], fun i => by simp [go_sem], hT.grew gA, hS.grew gA, HG.out, fun j hj => ⟨hdis j hj, fun e => ?_⟩, fun j hj e => ?_⟩, hgx.trans gA, hgx.size, hF, hG2⟩
    · have := tabAt_lt hT j hj; omega
    · have := hS.lt j hj; omega
  clear hT hF h13 hS hG2 hdis hgx hJ C0 C1 C2 C3
  dsimp only [List.drop]
  simp only [Act.put, List.setIfInBounds_toArray, List.set_cons_succ, List.set_cons_zero]
  rw [e4, e13]
  clear e4 e13
  go_wp2_with fail
  go_ret
  exact ⟨_, Fc, Gs, rfl, HF.out.1, HF.out.2.2.1, HF.out.2.2.2.1, HF.out.2.2.2.2, HF.out.2.1⟩
end Go.Proofs.YtbdagllflamabaaGreatDoor
namespace Go.Proofs.YtbdagllflamabaaGreatDoor
open Go.RowKit Go.Maps
attribute [local go_sem] Oper.semAt_some
def seqO (o : Option An) : Int := match o with | none => 0 | some a => a.seq
def codeO (o : Option An) : Int := match o with | none => 0 | some a => a.code
def atO (o : Option An) : Int := match o with | none => 0 | some a => a.at_
structure MSeen (w : World) (rb : Nat) (S : Int → Option An) : Prop where
  seq : ∀ c : Nat, c < 5 → w.cell? ⟨rb, c, none⟩ = some (.int .i64 (seqO (S c)))
  code : ∀ c : Nat, c < 5 → w.cell? ⟨rb, 5 + c * 2, none⟩ = some (.int .i64 (codeO (S c)))
  at_ : ∀ c : Nat, c < 5 → w.cell? ⟨rb, 6 + c * 2, none⟩ = some (.int .i64 (atO (S c)))
  froz : ∀ o, o < 15 → w.frozen? ⟨rb, o, none⟩ = false
  ok : ∀ c a, S c = some a → 1 ≤ c ∧ c ≤ 4 ∧ a.Ok
section
variable {w w' : World} {T : Nat → Prop} {rb : Nat} {S : Int → Option An}
theorem MSeen.lt (h : MSeen w rb S) : rb < w.heap.size := cell_lt (h.seq 0 (by decide))
theorem MSeen.kept (h : MSeen w rb S) (g : Only T w w') (hT : ¬ T rb) : MSeen w' rb S where
  seq := fun c hc => (g.cell h.lt hT _).trans (h.seq c hc)
  code := fun c hc => (g.cell h.lt hT _).trans (h.code c hc)
  at_ := fun c hc => (g.cell h.lt hT _).trans (h.at_ c hc)
  froz := fun o ho => (g.frozen h.lt hT _).trans (h.froz o ho)
  ok := h.ok
theorem MSeen.grew (h : MSeen w rb S) (g : Grew w w') : MSeen w' rb S := h.kept (g.only fun _ => False) (fun h => h)
theorem MSeen.new (w : World) (T : TypeId) : MSeen (w.alloc (.cells #[.int .i64 0, .int .i64 0, .int .i64 0, .int .i64 0, .int .i64 0, .int .i64 0, .int .i64 0, .int .i64 0, .int .i64 0, .int .i64 0, .int .i64 0, .int .i64 0, .int .i64 0, .int .i64 0, .int .i64 0] T)) w.heap.size (fun _ => none) := by
  refine ⟨?_, ?_, ?_, ?_, fun c a h => by cases h⟩
  · intro c hc
    obtain rfl | rfl | rfl | rfl | rfl : c = 0 ∨ c = 1 ∨ c = 2 ∨ c = 3 ∨ c = 4 := by omega
    all_goals simp [go_sem, seqO]
  · intro c hc
    obtain rfl | rfl | rfl | rfl | rfl : c = 0 ∨ c = 1 ∨ c = 2 ∨ c = 3 ∨ c = 4 := by omega
    all_goals simp [go_sem, codeO]
  · intro c hc
    obtain rfl | rfl | rfl | rfl | rfl : c = 0 ∨ c = 1 ∨ c = 2 ∨ c = 3 ∨ c = 4 := by omega
    all_goals simp [go_sem, atO]
  · intro o ho
    simp [go_sem]
end
theorem set_off {w : World} {b o o' : Nat} {v u : Value} (h : w.cell? ⟨b, o', none⟩ = some u) : (w.setCell ⟨b, o, none⟩ v).cell? ⟨b, o', none⟩ = some (if o' = o then v else u) := by
  by_cases e : o' = o
  · subst e
    rw [if_pos rfl]
    exact World.cell?_setCell_same' _ _ _ (by rw [h]; rfl)
  · rw [if_neg e, World.cell?_setCell_other _ _ _ _ (fun q => e (by injection q with q1 q2; exact q2.symm))]
    exact h
theorem MSeen.note {w : World} {rb : Nat} {S : Int → Option An} (h : MSeen w rb S) (c : Nat) (a : An) (h1 : 1 ≤ c) (h2 : c ≤ 4) (h3 : a.Ok) :
    MSeen (((w.setCell ⟨rb, c, none⟩ (.int .i64 a.seq)).setCell ⟨rb, 5 + c * 2, none⟩ (.int .i64 a.code)).setCell ⟨rb, 6 + c * 2, none⟩ (.int .i64 a.at_)) rb (noteS S c a) ∧ Only (fun j => j = rb) w (((w.setCell ⟨rb, c, none⟩ (.int .i64 a.seq)).setCell ⟨rb, 5 + c * 2, none⟩ (.int .i64 a.code)).setCell ⟨rb, 6 + c * 2, none⟩ (.int .i64 a.at_)) := by
  refine ⟨⟨fun j hj => ?_, fun j hj => ?_, fun j hj => ?_, fun o ho => ?_, fun d b hb => ?_⟩, ((Only.setCell w ⟨rb, c, none⟩ _).then (Only.setCell _ ⟨rb, 5 + c * 2, none⟩ _)).then (Only.setCell _ ⟨rb, 6 + c * 2, none⟩ _)⟩
  · rw [set_off (set_off (set_off (h.seq j hj))), if_neg (by omega), if_neg (by omega)]
    unfold noteS
    by_cases e : j = c
    · subst e; rw [if_pos rfl, if_pos rfl]; rfl
    · rw [if_neg e, if_neg (by omega)]
  · rw [set_off (set_off (set_off (h.code j hj))), if_neg (show ¬ 5 + j * 2 = 6 + c * 2 by omega)]
    unfold noteS
    by_cases e : j = c
    · subst e; rw [if_pos rfl, if_pos rfl]; rfl
    · rw [if_neg (show ¬ 5 + j * 2 = 5 + c * 2 by omega), if_neg (show ¬ 5 + j * 2 = c by omega), if_neg (show ¬ (j : Int) = c by omega)]
  · rw [set_off (set_off (set_off (h.at_ j hj)))]
    unfold noteS
    by_cases e : j = c
    · subst e; rw [if_pos rfl, if_pos rfl]; rfl
    · rw [if_neg (show ¬ 6 + j * 2 = 6 + c * 2 by omega), if_neg (show ¬ 6 + j * 2 = 5 + c * 2 by omega), if_neg (show ¬ 6 + j * 2 = c by omega), if_neg (show ¬ (j : Int) = c by omega)]
  · simp only [World.frozen?_setCell]
    exact h.froz o ho
  · unfold noteS at hb
    by_cases e : d = c
    · rw [if_pos e] at hb
      injection hb with hb
      subst hb
      exact ⟨by omega, by omega, h3⟩
    · rw [if_neg e] at hb; exact h.ok d b hb
end Go.Proofs.YtbdagllflamabaaGreatDoor
namespace Go.Proofs.YtbdagllflamabaaGreatDoor
open Go.RowKit Go.Maps
attribute [local go_sem] Oper.semAt_some
structure MsIs (w : World) (G : Nat → Prop) (ms tb sb : Nat) (lo hi : ByteArray) (D : List Pr) (S : Int → Option An) : Prop where
  c0 : w.cell? ⟨ms, 0, none⟩ = some (.string lo)
  c1 : w.cell? ⟨ms, 1, none⟩ = some (.string hi)
  c2 : w.cell? ⟨ms, 2, none⟩ = some (.pointer (some ⟨tb, 0, none⟩))
  c3 : w.cell? ⟨ms, 3, none⟩ = some (.pointer (some ⟨sb, 0, none⟩))
  f0 : w.frozen? ⟨ms, 0, none⟩ = false
  f1 : w.frozen? ⟨ms, 1, none⟩ = false
  f2 : w.frozen? ⟨ms, 2, none⟩ = false
  tab : RtAt w G tb D
  seen : MSeen w sb S
  ne : ms ≠ sb
  apart : ∀ j, G j → j ≠ ms ∧ j ≠ sb
def MsAt (w : World) (G : Nat → Prop) (ms sb : Nat) (lo hi : ByteArray) (D : List Pr) (S : Int → Option An) : Prop := ∃ tb, MsIs w G ms tb sb lo hi D S
section
variable {w w' : World} {G T : Nat → Prop} {ms tb sb : Nat} {lo hi : ByteArray} {D : List Pr} {S : Int → Option An}
theorem MsIs.kept (h : MsIs w G ms tb sb lo hi D S) (g : Only T w w') (h1 : ∀ j, G j → ¬ T j) (h2 : ¬ T ms) (h3 : ¬ T sb) : MsIs w' G ms tb sb lo hi D S where
  c0 := (g.cell (cell_lt h.c0) h2 0).trans h.c0
  c1 := (g.cell (cell_lt h.c0) h2 1).trans h.c1
  c2 := (g.cell (cell_lt h.c0) h2 2).trans h.c2
  c3 := (g.cell (cell_lt h.c0) h2 3).trans h.c3
  f0 := (g.frozen (cell_lt h.c0) h2 0).trans h.f0
  f1 := (g.frozen (cell_lt h.c0) h2 1).trans h.f1
  f2 := (g.frozen (cell_lt h.c0) h2 2).trans h.f2
  tab := h.tab.kept g h1
  seen := h.seen.kept g h3
  ne := h.ne
  apart := h.apart
theorem MsAt.kept (h : MsAt w G ms sb lo hi D S) (g : Only T w w') (h1 : ∀ j, G j → ¬ T j) (h2 : ¬ T ms) (h3 : ¬ T sb) : MsAt w' G ms sb lo hi D S := by
  obtain ⟨tb, h⟩ := h
  exact ⟨tb, h.kept g h1 h2 h3⟩
theorem MsAt.grew (h : MsAt w G ms sb lo hi D S) (g : Grew w w') : MsAt w' G ms sb lo hi D S := h.kept (g.only fun _ => False) (fun _ _ h => h) (fun h => h) (fun h => h)
theorem MsAt.lt (h : MsAt w G ms sb lo hi D S) : ms < w.heap.size ∧ sb < w.heap.size ∧ ∀ j, G j → j < w.heap.size := by
  obtain ⟨tb, h⟩ := h
  exact ⟨cell_lt h.c0, h.seen.lt, h.tab.lt⟩
end
def MsTurn (w : World) (G : Nat → Prop) (ms sb : Nat) (lo hi : ByteArray) (D : List Pr) (S : Int → Option An) (w' : World) : Prop :=
  Only (fun j => j = ms ∨ j = sb ∨ G j) w w' ∧ ∃ G', MsAt w' G' ms sb lo hi D S ∧ ∀ j, G' j → G j ∨ w.heap.size ≤ j
theorem MsTurn.of_grew {w w' : World} {G : Nat → Prop} {ms sb : Nat} {lo hi : ByteArray} {D : List Pr} {S : Int → Option An} (h : MsAt w G ms sb lo hi D S) (g : Grew w w') : MsTurn w G ms sb lo hi D S w' := ⟨g.only _, G, h.grew g, fun _ hj => .inl hj⟩
end Go.Proofs.YtbdagllflamabaaGreatDoor
namespace Go.Proofs.YtbdagllflamabaaGreatDoor
open Go.RowKit
attribute [local go_sem] Oper.semAt_some
structure EnSm (e : En) : Prop where
  key : e.key.size ≤ 16777216
  ops : ∀ o ∈ e.ops, o.key.size ≤ 16777216
end Go.Proofs.YtbdagllflamabaaGreatDoor
