/- TwT, RgnT, SamP: one text. -/
import Derived.Test.YtifcnammekbfoaaGreatDoorFinTablePlaysQ20
import Derived.Test.YtifcnammekbfoaaGreatDoorFinTablePlaysQ21
import Derived.Test.YtifcnammekbfoaaGreatDoorFinTablePlaysQ12
import Derived.Test.YtifcnammekbfoaaGreatDoorFinTablePlaysQ2
import Derived.BigQuiet
/- The plain law of tables: the table (in order) and the document's table (in any order) hold the same pairs. No program in it. -/
set_option linter.unusedVariables false
set_option linter.unusedSimpArgs false
namespace Go.Proofs.YtifcnammekbfoaaGreatDoor
namespace Pl

structure Tt (P D : List Pr) : Prop where
  srt : Srt P
  ap : D.Pairwise fun a b => a.key ≠ b.key
  mem : ∀ c, c ∈ D ↔ c ∈ P
theorem Tt.nil : Tt [] [] := ⟨srt_nil, by simp, fun c => Iff.rfl⟩
theorem cmp_self {k : ByteArray} : ¬ compare k k < 0 := fun h => compare_asymm h h
theorem srt_ap {P : List Pr} (h : Srt P) : P.Pairwise fun a b => a.key ≠ b.key := h.rise.imp fun {a b} hab e => by rw [e] at hab; exact cmp_self hab
theorem nodup_of_ap {D : List Pr} (h : D.Pairwise fun a b => a.key ≠ b.key) : D.Nodup := h.imp fun {a b} hab e => hab (by rw [e])
theorem Tt.perm {P D : List Pr} (h : Tt P D) : P.Perm D := (List.perm_ext_iff_of_nodup (nodup_of_ap (srt_ap h.srt)) (nodup_of_ap h.ap)).2 fun c => (h.mem c).symm
theorem Tt.len {P D : List Pr} (h : Tt P D) : P.length = D.length := h.perm.length_eq
theorem Tt.key {P D : List Pr} (h : Tt P D) : ∀ c ∈ D, keyN c.key = 0 := fun c hc => h.srt.key c ((h.mem c).1 hc)
theorem Tt.sorted {P D zs : List Pr} (h : Tt P D) (hp : zs.Perm D) (hs : Srt zs) : zs = P :=
  join_self h.srt (hp.trans h.perm.symm) (hs.rise.imp fun hab => compare_asymm hab)
theorem ap_erase {D : List Pr} (h : D.Pairwise fun a b => a.key ≠ b.key) (k : ByteArray) : (D.eraseP (isK k)).Pairwise fun a b => a.key ≠ b.key := h.sublist List.eraseP_sublist
theorem mem_erase {D : List Pr} (h : D.Pairwise fun a b => a.key ≠ b.key) (k : ByteArray) (c : Pr) : c ∈ D.eraseP (isK k) ↔ c ∈ D ∧ c.key ≠ k := by
  induction D with
  | nil => simp
  | cons d D ih =>
    rw [List.pairwise_cons] at h
    by_cases hd : isK k d = true
    · rw [List.eraseP_cons_of_pos hd]
      have hk := (isK_iff k d).1 hd
      constructor
      · intro hc
        exact ⟨List.mem_cons_of_mem _ hc, fun e => h.1 c hc (by rw [hk, e])⟩
      · rintro ⟨hc, hn⟩
        rcases List.mem_cons.1 hc with rfl | hc
        · exact (hn hk).elim
        · exact hc
    · rw [List.eraseP_cons_of_neg hd, List.mem_cons, ih h.2, List.mem_cons]
      have hk : d.key ≠ k := fun e => hd ((isK_iff k d).2 e)
      constructor
      · rintro (rfl | ⟨hc, hn⟩)
        · exact ⟨.inl rfl, hk⟩
        · exact ⟨.inr hc, hn⟩
      · rintro ⟨rfl | hc, hn⟩
        · exact .inl rfl
        · exact .inr ⟨hc, hn⟩
theorem Tt.del {P D : List Pr} (h : Tt P D) (k : ByteArray) : Tt (tdel P k) (D.eraseP (isK k)) :=
  ⟨srt_del h.srt k, ap_erase h.ap k, fun c => by rw [mem_erase h.ap, mem_del h.srt, h.mem]⟩
theorem Tt.put {P D : List Pr} (h : Tt P D) (p : Pr) : Tt (putT P p) (put21 D p) := by
  unfold putT put21
  by_cases hn : putN p = 0
  · rw [if_pos hn, if_pos hn]
    have hp := (putN_zero hn).1
    refine ⟨srt_put h.srt hp, ?_, fun c => ?_⟩
    · rw [List.pairwise_append]
      refine ⟨ap_erase h.ap _, by simp, fun a ha b hb => ?_⟩
      rw [List.mem_singleton] at hb
      subst hb
      exact ((mem_erase h.ap _ a).1 ha).2
    · rw [List.mem_append, List.mem_singleton, mem_erase h.ap, mem_put h.srt hp, h.mem]
      exact Or.comm
  · rw [if_neg hn, if_neg hn]; exact h
theorem find_key {D : List Pr} (h : D.Pairwise fun a b => a.key ≠ b.key) (k : ByteArray) (c : Pr) : D.find? (isK k) = some c ↔ c ∈ D ∧ c.key = k := by
  induction D with
  | nil => simp
  | cons d D ih =>
    rw [List.pairwise_cons] at h
    by_cases hd : isK k d = true
    · rw [List.find?_cons_of_pos hd, Option.some.injEq]
      have hk := (isK_iff k d).1 hd
      constructor
      · rintro rfl; exact ⟨List.mem_cons_self, hk⟩
      · rintro ⟨hc, hn⟩
        rcases List.mem_cons.1 hc with rfl | hc
        · rfl
        · exact (h.1 c hc (by rw [hk, hn])).elim
    · rw [List.find?_cons_of_neg hd, ih h.2, List.mem_cons]
      have hk : d.key ≠ k := fun e => hd ((isK_iff k d).2 e)
      constructor
      · rintro ⟨hc, hn⟩; exact ⟨.inr hc, hn⟩
      · rintro ⟨rfl | hc, hn⟩
        · exact (hk hn).elim
        · exact ⟨hc, hn⟩
theorem Tt.find {P D : List Pr} (h : Tt P D) (k : ByteArray) : P.find? (isK k) = D.find? (isK k) := by
  apply Option.ext
  intro c
  rw [find_key (srt_ap h.srt), find_key h.ap, h.mem]
theorem Tt.get {P D : List Pr} (h : Tt P D) (k : ByteArray) : getT P k = D.find? (isK k) := by
  cases hf : D.find? (isK k) with
  | some c =>
    obtain ⟨hc, rfl⟩ := (find_key h.ap k c).1 hf
    exact getT_mem h.srt ((h.mem c).1 hc)
  | none =>
    refine getT_none h.srt fun c hc e => ?_
    have := (find_key h.ap k c).2 ⟨(h.mem c).2 hc, e⟩
    rw [hf] at this
    cases this
theorem mem_take_pos {P : List Pr} (h : Srt P) {k : ByteArray} (hk : Ok k) (c : Pr) : c ∈ P.take (pos P k) ↔ c ∈ P ∧ compare c.key k < 0 := by
  constructor
  · intro hc
    exact ⟨List.mem_of_mem_take hc, take_pos h hk c hc⟩
  · rintro ⟨hc, hlt⟩
    obtain ⟨j, hj, rfl⟩ := List.getElem_of_mem hc
    have := (pos_iff hk h j hj).1 (by rw [prAt_eq P j hj]; exact hlt)
    rw [List.mem_take_iff_getElem]
    exact ⟨j, by omega, rfl⟩
theorem mem_drop_pos {P : List Pr} (h : Srt P) {k : ByteArray} (hk : Ok k) (c : Pr) : c ∈ P.drop (pos P k) ↔ c ∈ P ∧ ¬ compare c.key k < 0 := by
  constructor
  · intro hc
    obtain ⟨j, hj, rfl⟩ := List.mem_drop_iff_getElem.1 hc
    refine ⟨List.getElem_mem _, fun hlt => ?_⟩
    have := (pos_iff hk h (pos P k + j) (by omega)).1 (by rw [prAt_eq P _ (by omega)]; exact hlt)
    omega
  · rintro ⟨hc, hlt⟩
    obtain ⟨j, hj, rfl⟩ := List.getElem_of_mem hc
    have hge : ¬ j < pos P k := fun hh => hlt (by have := (pos_iff hk h j hj).2 hh; rwa [prAt_eq P j hj] at this)
    rw [List.mem_drop_iff_getElem]
    exact ⟨j - pos P k, by omega, by congr 1; omega⟩
theorem Tt.cut {P D : List Pr} (h : Tt P D) (k : ByteArray) : Tt (P.take (cutN P k)) (D.filter fun p => !cutB k p) ∧ Tt (P.drop (cutN P k)) (D.filter (cutB k)) := by
  by_cases hr : right k = true
  · have hk := right_ok hr
    have hc : ∀ c ∈ D, cutB k c = !decide (compare c.key k < 0) := fun c hc => by
      unfold cutB
      rw [hr, compare_lt c.key k (ok_key (h.key c hc)) hk]; rfl
    have hn : cutN P k = pos P k := by unfold cutN; rw [if_pos hr]
    rw [hn]
    refine ⟨⟨srt_take h.srt _, h.ap.sublist List.filter_sublist, fun c => ?_⟩, ⟨srt_drop h.srt _, h.ap.sublist List.filter_sublist, fun c => ?_⟩⟩
    · rw [List.mem_filter, mem_take_pos h.srt hk, ← h.mem]
      constructor
      · rintro ⟨h1, h2⟩; rw [hc c h1] at h2; exact ⟨h1, by simpa using h2⟩
      · rintro ⟨h1, h2⟩; exact ⟨h1, by rw [hc c h1]; simpa using h2⟩
    · rw [List.mem_filter, mem_drop_pos h.srt hk, ← h.mem]
      constructor
      · rintro ⟨h1, h2⟩; rw [hc c h1] at h2; exact ⟨h1, by simpa using h2⟩
      · rintro ⟨h1, h2⟩; exact ⟨h1, by rw [hc c h1]; simpa using h2⟩
  · have hr' : right k = false := by simpa using hr
    have hc : ∀ c, cutB k c = false := fun c => by unfold cutB; rw [hr']; rfl
    have hn : cutN P k = P.length := by unfold cutN; rw [if_neg hr]
    rw [hn, List.take_length, List.drop_length]
    have e1 : (D.filter fun p => !cutB k p) = D := List.filter_eq_self.2 fun c _ => by rw [hc]; rfl
    have e2 : D.filter (cutB k) = [] := List.filter_eq_nil_iff.2 fun c _ => by rw [hc]; simp
    rw [e1, e2]
    exact ⟨h, Tt.nil⟩
theorem put21_len (xs : List Pr) (p : Pr) : (put21 xs p).length ≤ xs.length + 1 := by
  unfold put21; split
  · have := List.length_eraseP_le (l := xs) (p := isK p.key); simp only [List.length_append, List.length_cons, List.length_nil]; omega
  · omega
end Pl
end Go.Proofs.YtifcnammekbfoaaGreatDoor

/- A region that draws, every operation loose: a table of values, an order, one operation that turns the world (R0 ahead of it, R1 behind it), values that hang on the world (X). No program in it. -/
set_option linter.unusedVariables false
namespace Go.Proofs.YtifcnammekbfoaaGreatDoor
open Go.RowKit Go.Maps

theorem loose_of2 {P : Program} {l : List Oper} {Z : List Nat} {J : (Nat → Bool) → (Nat → Value) → World → Prop} {a : Act} {i : Nat} {o : Oper} (ho : l[i]? = some o) (g : (Nat → Value) → Act → Act)
    (hg : ∀ f a, actGo (fun j => Z.contains j && (depsOf o).contains j) f l 0 a = g f a)
    (h : ∀ (L : Nat → Bool) (f : Nat → Value) (w : World), J L f w → L i = false → (∀ j, Z.contains j = true → j ∈ depsOf o → L j = true) → Region.wanted o (yielded l.toArray (g f a).tmps) = true ∧ uponV P (fun v w' => J (plus L i) (updV f i v) w') ((execOp (g f a).eval o).run P w)) : LooseStep P l Z J a i := by
  intro o' ho' L f w hi hL hV
  have : o = o' := Option.some.inj (ho.symm.trans ho')
  subst this
  rw [hg]
  obtain ⟨h1, h2⟩ := h L f w hi hL hV
  rw [if_pos h1]
  exact h2

structure JT (vs : Nat → Option Value) (od : List (Nat × Nat)) (s : Nat) (R0 R1 : World → Prop) (X : Nat → Option (World → Value → Prop)) (L : Nat → Bool) (f : Nat → Value) (x : World) : Prop where
  val : ∀ i v, L i = true → vs i = some v → f i = v
  ord : ∀ p ∈ od, L p.1 = true → L p.2 = true
  a : L s = false → R0 x
  d : L s = true → R1 x
  ex : ∀ i p, X i = some p → L i = true → p x (f i)
  xo : ∀ i p, X i = some p → L i = true → L s = true
/-- What holds of a world holds behind new blocks. -/
structure StT (R0 R1 : World → Prop) (X : Nat → Option (World → Value → Prop)) : Prop where
  r0 : ∀ x x', Grew x x' → R0 x → R0 x'
  r1 : ∀ x x', Grew x x' → R1 x → R1 x'
  x : ∀ i p, X i = some p → ∀ x x' v, Grew x x' → p x v → p x' v
section
variable {vs : Nat → Option Value} {od : List (Nat × Nat)} {s : Nat} {R0 R1 : World → Prop} {X : Nat → Option (World → Value → Prop)} {L : Nat → Bool} {f : Nat → Value} {x x' : World}
theorem JT.start (h : R0 x) : JT vs od s R0 R1 X (fun _ => false) f x :=
  ⟨fun _ _ h => (by cases h), fun _ _ h => (by cases h), fun _ => h, fun h => (by cases h), fun _ _ _ h => (by cases h), fun _ _ _ h => (by cases h)⟩
theorem JT.more (st : StT R0 R1 X) (h : JT vs od s R0 R1 X L f x) (g : Grew x x') : JT vs od s R0 R1 X L f x' :=
  ⟨h.val, h.ord, fun hl => st.r0 _ _ g (h.a hl), fun hl => st.r1 _ _ g (h.d hl), fun i p hp hl => st.x i p hp _ _ _ g (h.ex i p hp hl), h.xo⟩
theorem plus_ne {L : Nat → Bool} {i j : Nat} (h : j ≠ i) : plus L i j = L j := by simp only [plus, if_neg h]
theorem plus_on {L : Nat → Bool} {i : Nat} : plus L i i = true := by simp [plus]
theorem plus_up {L : Nat → Bool} {i j : Nat} (h : L j = true) : plus L i j = true := by simp only [plus]; split; rfl; exact h
theorem ord_plus {od : List (Nat × Nat)} {L : Nat → Bool} {i : Nat} (h : ∀ p ∈ od, L p.1 = true → L p.2 = true) (ho : ∀ p ∈ od, p.1 = i → L p.2 = true) : ∀ p ∈ od, plus L i p.1 = true → plus L i p.2 = true := by
  intro p hp hl
  by_cases hi : p.1 = i
  · exact plus_up (ho p hp hi)
  · rw [plus_ne hi] at hl; exact plus_up (h p hp hl)
theorem val_plus {vs : Nat → Option Value} {L : Nat → Bool} {f : Nat → Value} {i : Nat} {v : Value} (h : ∀ i v, L i = true → vs i = some v → f i = v) (hv : ∀ u, vs i = some u → v = u) : ∀ j u, plus L i j = true → vs j = some u → updV f i v j = u := by
  intro j u hl hu
  by_cases hj : j = i
  · subst hj; rw [updV_same]; exact hv u hu
  · rw [plus_ne hj] at hl; rw [updV_ne hj]; exact h j u hl hu
theorem JT.put (h : JT vs od s R0 R1 X L f x) (i : Nat) (v : Value) (hv : vs i = some v) (hs : s ≠ i) (hX : X i = none) (ho : ∀ p ∈ od, p.1 = i → L p.2 = true) : JT vs od s R0 R1 X (plus L i) (updV f i v) x := by
  refine ⟨val_plus h.val (fun u hu => by rw [hv] at hu; exact Option.some.inj hu), ord_plus h.ord ho, fun hl => h.a (by rwa [plus_ne hs] at hl), fun hl => h.d (by rwa [plus_ne hs] at hl), fun j p hp hl => ?_, fun j p hp hl => ?_⟩
  · have hj : j ≠ i := fun e => by subst e; rw [hX] at hp; cases hp
    rw [plus_ne hj] at hl
    rw [updV_ne hj]; exact h.ex j p hp hl
  · have hj : j ≠ i := fun e => by subst e; rw [hX] at hp; cases hp
    rw [plus_ne hj] at hl
    exact plus_up (h.xo j p hp hl)
theorem JT.putX (h : JT vs od s R0 R1 X L f x) (i : Nat) (v : Value) (p : World → Value → Prop) (hp : X i = some p) (hv : vs i = none) (hs : s ≠ i) (hl : L s = true) (hx : p x v) (ho : ∀ p ∈ od, p.1 = i → L p.2 = true) : JT vs od s R0 R1 X (plus L i) (updV f i v) x := by
  refine ⟨val_plus h.val (fun u hu => by rw [hv] at hu; cases hu), ord_plus h.ord ho, fun hl' => h.a (by rwa [plus_ne hs] at hl'), fun hl' => h.d (by rwa [plus_ne hs] at hl'), fun j q hq hlj => ?_, fun j q hq hlj => plus_up hl⟩
  by_cases hj : j = i
  · subst hj
    rw [hp] at hq; cases hq
    rw [updV_same]; exact hx
  · rw [plus_ne hj] at hlj
    rw [updV_ne hj]; exact h.ex j q hq hlj
theorem JT.switch (h : JT vs od s R0 R1 X L f x) (v : Value) (hv : vs s = some v) (hX : X s = none) (hL : L s = false) (hR : R1 x') (ho : ∀ p ∈ od, p.1 ≠ s) : JT vs od s R0 R1 X (plus L s) (updV f s v) x' := by
  refine ⟨val_plus h.val (fun u hu => by rw [hv] at hu; exact Option.some.inj hu), ord_plus h.ord (fun p hp e => absurd e (ho p hp)), (fun hl => by rw [plus_on] at hl; cases hl), fun _ => hR, fun j p hp hl => ?_, fun j p hp hl => plus_on⟩
  have hj : j ≠ s := fun e => by subst e; rw [hX] at hp; cases hp
  rw [plus_ne hj] at hl
  have := h.xo j p hp hl
  rw [hL] at this; cases this
end
end Go.Proofs.YtifcnammekbfoaaGreatDoor

/- tidewaterref21.SamePairs of two rows of the same pairs: true. -/
namespace Go.Proofs.YtifcnammekbfoaaGreatDoor
open Go.RowKit Go.Maps
attribute [local go_sem] Oper.semAt_some

set_option maxRecDepth 100000 in
set_option maxHeartbeats 1000000 in
theorem samePairs_same (w : World) (a b : Option Addr) (c d : Nat) (xs : List Pr) (hA : PairsAt w a xs) (hB : PairsAt w b xs) (hx : xs.length ≤ 1000000) :
    Calls Tryz.prog 21 #[.slice a xs.length c, .slice b xs.length d] w fun e w' => e = .returned (.bool true) ∧ Grew w w' := by
  have HA := hid hA
  have HB := hid hB
  have hbn : (xs.length : Int) ≤ 1000000 := by omega
  clear hA hB
  go_enter Tryz.func21, Tryz.ntmps21
  go_wp2_with fail
  go_loopw [13] (fun i wr => ∃ k : Nat, k ≤ xs.length ∧ i = .int .i64 k ∧ Grew w wr) (fun i _ => xs.length - (intOf i).toNat)
  case atStart => exact ⟨0, Nat.zero_le _, rfl, Grew.refl w⟩
  case round =>
    obtain ⟨k, hk1, rfl, hG⟩ := hrel
    by_cases hlt : k < xs.length
    · rcases HA.out with h0 | ⟨b1, off1, rfl, hb1, hR1⟩
      · rw [h0] at hlt; simp at hlt
      rcases HB.out with h0 | ⟨b2, off2, rfl, hb2, hR2⟩
      · rw [h0] at hlt; simp at hlt
      have q0 := (hG.cells.1 _ _ hb1).trans (hR1.key k hlt)
      have q1 := (hG.cells.1 _ _ hb1).trans (hR1.val k hlt)
      have q2 := (hG.cells.1 _ _ hb1).trans (hR1.ver k hlt)
      have p0 := (hG.cells.1 _ _ hb2).trans (hR2.key k hlt)
      have p1 := (hG.cells.1 _ _ hb2).trans (hR2.val k hlt)
      have p2 := (hG.cells.1 _ _ hb2).trans (hR2.ver k hlt)
      clear hR1 hR2
      generalize prAt xs k = e at *
      obtain ⟨ek, ev, en⟩ := e
      dsimp only at *
      have hltI : (k : Int) < (xs.length : Int) := by omega
      go_wp2_with fail
      go_quiet (fail)
      all_goals (
        go_wp2_with fail
        go_roundw
        case rel => exact ⟨k + 1, by omega, by go_num, hG.drewN _⟩
        case measure => simp [intOf]; omega)
    · obtain rfl : k = xs.length := by omega
      go_wp2_with fail
      go_ret
      exact ⟨rfl, hG⟩
end Go.Proofs.YtifcnammekbfoaaGreatDoor
