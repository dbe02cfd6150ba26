/- CpyA, RgnD: one text. -/
import Derived.Test.YtbdagllflamabaaGreatDoorFinAuditApartQ27
import Derived.Test.YtbdagllflamabaaGreatDoorFinAuditApartQ6
import Derived.Test.YtbdagllflamabaaGreatDoorFinAuditApartQ9
import Derived.Test.YtbdagllflamabaaGreatDoorFinAuditApartQ14
import Derived.Test.YtbdagllflamabaaGreatDoorFinAuditApartQ22
set_option linter.unusedVariables false
set_option linter.unusedSectionVars false
set_option linter.unusedSimpArgs false
namespace Go.Proofs.YtbdagllflamabaaGreatDoor
open Go.RowKit Go.Maps
attribute [local go_sem] Oper.semAt_some uponV
theorem cloneEv_any (W : World) (ve : Value) (ne : Nat) (evs : List Value) (h : W.ownsRow 0 164 13 ve ne evs) (hnil : ne = 0 → ve = .slice none 0 0) (h1 : ∀ u ∈ evs, u.oneCell' = true) (hb : ne ≤ 1000000) :
    Calls Tryz.prog 90 #[ve] W fun e w' => ∃ ve', e = .returned ve' ∧ w'.ownsRow W.heap.size 164 13 ve' ne evs ∧ (ne = 0 → ve' = .slice none 0 0) ∧ Grew W w' := by
  rcases Nat.eq_zero_or_pos ne with h0 | h0
  · have hv := hnil h0
    subst hv h0
    have he : evs = [] := List.eq_nil_of_length_eq_zero (by have := h.1; omega)
    subst he
    refine (cloneNilEvent W).mono ?_
    rintro e w' ⟨rfl, g⟩
    exact ⟨_, rfl, World.ownsRow_nil _ _ _ _, fun _ => rfl, g⟩
  · obtain ⟨b, cap, rfl, _, _⟩ := h.form h0
    refine (cloneEvent W b 0 ne cap h0 hb evs h.1 (fun j u hj => ?_) h1).mono ?_
    · rw [Nat.zero_add]
      have hjl := (List.getElem?_eq_some_iff.1 hj).1
      rw [h.1] at hjl
      exact (h.cellAt j hjl).trans hj
    · rintro e w' ⟨g, c, rfl, hr, hg⟩
      exact ⟨_, rfl, hr, fun e0 => by omega, hg⟩
structure JCpyM (w : World) (xs : List Sh) (ne : Nat) (evs : List Value) (L : Nat → Bool) (f : Nat → Value) (x : World) : Prop where
  g : Grew w x
  k4 : L 4 = true → ∃ g c, f 4 = .slice (some ⟨g, 0, none⟩) xs.length c ∧ x.ownsRow w.heap.size 118 5 (.slice (some ⟨g, 0, none⟩) xs.length c) xs.length (shFlat xs)
  k13 : L 13 = true → x.ownsRow w.heap.size 164 13 (f 13) ne evs ∧ (ne = 0 → f 13 = .slice none 0 0)
  kne : L 4 = true → L 13 = true → ∀ g, (f 13).ownBlock = some g → (f 4).ownBlock ≠ some g
section
variable {w : World} {F : Nat → Prop} {sb : Nat} {s : ShSt} (h : ShAt w F sb s)
include h
set_option maxRecDepth 100000 in
set_option maxHeartbeats 4000000 in
theorem copyM_any (h0 : 0 < s.xs.length) (hx : s.xs.length ≤ 1000000) (h1 : ∀ u ∈ s.evs, u.oneCell' = true) (hb : s.ne ≤ 1000000) : Calls Tryz.prog 48 #[.pointer (some ⟨sb, 0, none⟩)] w fun e w' => ∃ cb, e = .returned (.pointer (some ⟨cb, 0, none⟩)) ∧ Grew w w' ∧ w.heap.size ≤ cb ∧ ∃ F', ShAt w' F' cb s ∧ ∀ j, F' j → w.heap.size ≤ j := by
  obtain ⟨xs, used, ne, evs⟩ := s
  obtain ⟨v, ve, h⟩ := h
  dsimp only at *
  obtain ⟨b, cap, rfl, _, hbb⟩ := h.row.form h0
  have HC := hid (fun W (g : Grew w W) => cloneShard W b 0 xs.length cap h0 hx (shFlat xs) (shFlat_length xs) (fun j u hj => by
    rw [Nat.zero_add]
    have hjl := (List.getElem?_eq_some_iff.1 hj).1
    rw [shFlat_length] at hjl
    exact ((h.grew g).row.cellAt j hjl).trans hj) (shFlat_one' xs))
  have HE := hid (fun W (g : Grew w W) => cloneEv_any W ve ne evs (h.grew g).erow h.nil h1 hb)
  have C0 := wd_cell h.live
  have CE := wd_cell h.ev
  have U0 := wd_cell (h.used 0 (by omega))
  have U1 := wd_cell (h.used 1 (by omega))
  have U2 := wd_cell (h.used 2 (by omega))
  have U3 := wd_cell (h.used 3 (by omega))
  have U4 := wd_cell (h.used 4 (by omega))
  have U5 := wd_cell (h.used 5 (by omega))
  have U6 := wd_cell (h.used 6 (by omega))
  have U7 := wd_cell (h.used 7 (by omega))
  have U8 := wd_cell (h.used 8 (by omega))
  have U9 := wd_cell (h.used 9 (by omega))
  have U10 := wd_cell (h.used 10 (by omega))
  have U11 := wd_cell (h.used 11 (by omega))
  have U12 := wd_cell (h.used 12 (by omega))
  simp only [Nat.reduceAdd] at U0 U1 U2 U3 U4 U5 U6 U7 U8 U9 U10 U11 U12
  have HSZ := hid h.sz
  have hsbl := h.blt
  clear h h1
  go_enter Tryz.func48, Tryz.ntmps48
  go_wp2_with fail
  refine wp_region_mix 14 [4, 13] (Grew w) Eq (JCpyM w xs ne evs) (fun f a => (a.put (some 7) (f 4)).put (some 16) (f 13)) (by kernel_rfl) (by kernel_rfl) (fun _ _ => rfl) ⟨(Grew.refl w).drew, fun h => (by cases h), fun h => (by cases h), fun h => (by cases h)⟩ (fun _ _ _ h => h.g) (fun _ => rfl) (fun _ _ _ _ h g => g ▸ h) ?_
  repeat (first
    | (refine wpMix_loose (by rfl) (by rfl) ?_)
    | (refine wpMix_plain (by rfl) (by rfl) (by rfl) (by first | exact Grew.refl | exact fun _ => rfl) (by rfl) ?_; intro K hK; go_big_quiet_op; go_big_quiet_on)
    | (refine wpMix_skip (by rfl) (by rfl) (by rfl) ?_; simp only [Act.put, List.setIfInBounds_toArray, List.set_cons_zero, List.set_cons_succ]))
  refine wpMix_done (by rfl) ⟨⟨loose_of rfl (fun _ a => a) (fun _ _ => rfl) (fun _ => rfl) ?_, loose_of rfl (fun f a => a.put (some 7) (f 4)) (fun _ _ => rfl) (fun _ => rfl) ?_, trivial⟩, ?_⟩
  · rintro L f x ⟨hG, k4, k13, kne⟩ hL hd
    clear C0 CE U0 U1 U2 U3 U4 U5 U6 U7 U8 U9 U10 U11 U12
    have HG := hid hG
    have K13 := hid k13
    clear hG k4 k13 kne hd
    go_simp
    refine (HC.out x HG.out).mono ?_
    rintro r x' ⟨g, c, rfl, hr, hg⟩
    refine ⟨_, rfl, HG.out.trans hg, fun _ => ⟨g, c, updV_same _ _ _, ownsRow_base HG.out.size hr⟩, fun h13 => ?_, fun _ h13 g' hg' => ?_⟩
    · have h13' : L 13 = true := by simpa [plus] using h13
      obtain ⟨a1, a2⟩ := K13.out h13'
      rw [updV_ne (by decide)]
      exact ⟨ownsRow_grew hg a1, a2⟩
    · have h13' : L 13 = true := by simpa [plus] using h13
      obtain ⟨a1, a2⟩ := K13.out h13'
      rw [updV_ne (by decide)] at hg'
      rw [updV_same]
      have l1 := (a1.lt g' hg').2
      have l2 := (hr.lt g rfl).1
      intro e
      have : g = g' := Option.some.inj e
      omega
  · rintro L f x ⟨hG, k4, k13, kne⟩ hL hd
    clear C0 CE U0 U1 U2 U3 U4 U5 U6 U7 U8 U9 U10 U11 U12
    have HG := hid hG
    have K4 := hid k4
    clear hG k4 k13 kne hd
    go_simp
    refine (HE.out x HG.out).mono ?_
    rintro r x' ⟨v', rfl, hr, hn, hg⟩
    refine ⟨_, rfl, HG.out.trans hg, fun h4 => ?_, fun _ => ?_, fun h4 _ g' hg' => ?_⟩
    · have h4' : L 4 = true := by simpa [plus] using h4
      obtain ⟨g, c, e1, a1⟩ := K4.out h4'
      rw [updV_ne (by decide)]
      exact ⟨g, c, e1, ownsRow_grew hg a1⟩
    · rw [updV_same]
      exact ⟨ownsRow_base HG.out.size hr, hn⟩
    · have h4' : L 4 = true := by simpa [plus] using h4
      obtain ⟨g, c, e1, a1⟩ := K4.out h4'
      rw [updV_same] at hg'
      rw [updV_ne (by decide), e1]
      have l1 := (hr.lt g' hg').1
      have l2 := (a1.lt g rfl).2
      intro e
      have : g = g' := Option.some.inj e
      omega
  rintro f x ⟨hG, k4, k13, kne⟩
  clear C0 CE U0 U1 U2 U3 U4 U5 U6 U7 U8 U9 U10 U11 U12 HC HE
  obtain ⟨g, c, e4, r4⟩ := k4 rfl
  obtain ⟨r13, n13⟩ := k13 rfl
  have kne' := kne rfl rfl
  rw [e4] at kne' ⊢
  obtain ⟨ea, en, ec, e13⟩ : ∃ ea en ec, f 13 = .slice ea en ec := by
    rcases r13.2 with ⟨e, _⟩ | ⟨g, cp, cur, e, _⟩
    · exact ⟨_, _, _, e⟩
    · exact ⟨_, _, _, e⟩
  rw [e13] at kne' r13 n13 ⊢
  have HX := hid (And.intro hG (And.intro r4 (And.intro r13 (And.intro n13 kne'))))
  clear k4 k13 kne e4 r4 r13 n13 kne' hG e13
  dsimp only [List.drop]
  go_wp2_with fail
  go_ret
  obtain ⟨hG, r4, r13, n13, kne⟩ := HX.out
  have hs := hG.size
  refine ⟨x.heap.size, rfl, hG.alloc _, hs, fun j => j = x.heap.size ∨ j = g ∨ (Value.slice ea en ec).ownBlock = some j, ⟨.slice (some ⟨g, 0, none⟩) xs.length c, .slice ea en ec, ?_⟩, ?_⟩
  · refine ⟨by simp [go_sem], fun i hi => ?_, by simp [go_sem], fun i _ => ?_, ownsRow_base (Nat.zero_le _) (ownsRow_grew ((Grew.refl x).alloc _) r4), ownsRow_base (Nat.zero_le _) (ownsRow_grew ((Grew.refl x).alloc _) r13), HSZ.out, .inl rfl, fun g' hg' => ?_, fun g' hg' => ⟨.inr (.inr hg'), ?_, fun e => kne g' hg' e⟩, fun j hj => ?_, n13⟩
    · rw [cell_of_row _ x.heap.size (1 + i) _ _ _ (heap_alloc_new x _), Nat.add_comm]
      exact match i, hi with
        | 0, _ => rfl
        | 1, _ => rfl
        | 2, _ => rfl
        | 3, _ => rfl
        | 4, _ => rfl
        | 5, _ => rfl
        | 6, _ => rfl
        | 7, _ => rfl
        | 8, _ => rfl
        | 9, _ => rfl
        | 10, _ => rfl
        | 11, _ => rfl
        | 12, _ => rfl
        | n + 13, h => absurd h (by omega)
    · exact frozen_of_row _ x.heap.size i _ _ (heap_alloc_new x _)
    · have : g = g' := Option.some.inj hg'
      subst this
      have := (r4.lt g rfl).2
      exact ⟨.inr (.inl rfl), by omega⟩
    · have := (r13.lt g' hg').2
      omega
    · refine Nat.lt_of_lt_of_le (?_ : j < x.heap.size + 1) (by simp)
      rcases hj with rfl | rfl | hj
      · omega
      · have h2 : j < x.heap.size := (r4.lt _ rfl).2
        omega
      · have h2 : j < x.heap.size := (r13.lt _ hj).2
        omega
  · intro j hj
    rcases hj with rfl | rfl | hj
    · exact hs
    · exact (r4.lt _ rfl).1
    · exact (r13.lt _ hj).1
end
end Go.Proofs.YtbdagllflamabaaGreatDoor
namespace Go.Proofs.YtbdagllflamabaaGreatDoor
open Go.RowKit Go.Maps
def MonoD (R : Nat → Value → (Nat → Prop) → World → Prop) : Prop := ∀ i v F x x', R i v F x → Grew x x' → R i v F x'
structure JDn (R : Nat → Value → (Nat → Prop) → World → Prop) (y : World) (L : Nat → Bool) (f : Nat → Value) (x : World) : Prop where
  grew : Grew y x
  ex : ∃ φ : Nat → Nat → Prop, (∀ i, L i = true → R i (f i) (φ i) x ∧ ∀ j, φ i j → y.heap.size ≤ j ∧ j < x.heap.size) ∧ ∀ i i', L i = true → L i' = true → i ≠ i' → ∀ j, φ i j → ¬ φ i' j
section
variable {R : Nat → Value → (Nat → Prop) → World → Prop} {y x x' : World} {L : Nat → Bool} {f : Nat → Value}
theorem JDn.start (R : Nat → Value → (Nat → Prop) → World → Prop) (y : World) (f : Nat → Value) : JDn R y (fun _ => false) f y.drew := ⟨(Grew.refl y).drew, fun _ _ => False, fun i h => (by cases h), fun i _ h => (by cases h)⟩
theorem JDn.put (hR : MonoD R) (h : JDn R y L f x) (i : Nat) (hL : L i = false) {v : Value} {F : Nat → Prop} (g : Grew x x') (hv : R i v F x') (hF : ∀ j, F j → x.heap.size ≤ j ∧ j < x'.heap.size) : JDn R y (plus L i) (updV f i v) x' := by
  obtain ⟨φ, h1, h2⟩ := h.ex
  have hs := g.size
  have hys := h.grew.size
  have old : ∀ i', plus L i i' = true → i' ≠ i → L i' = true := fun i' hi' hne => by rwa [plus_ne hne] at hi'
  refine ⟨h.grew.trans g, fun i' => if i' = i then F else φ i', fun i' hi' => ?_, fun i1 i2 hi1 hi2 hne j => ?_⟩
  · by_cases e : i' = i
    · subst e
      dsimp only
      rw [updV_same, if_pos rfl]
      exact ⟨hv, fun j hj => ⟨by have := (hF j hj).1; omega, (hF j hj).2⟩⟩
    · dsimp only
      rw [updV_ne e, if_neg e]
      obtain ⟨a, b⟩ := h1 i' (old i' hi' e)
      exact ⟨hR _ _ _ _ _ a g, fun j hj => ⟨(b j hj).1, by have := (b j hj).2; omega⟩⟩
  · dsimp only
    by_cases e1 : i1 = i
    · rw [if_pos e1]
      by_cases e2 : i2 = i
      · exact absurd (e1.trans e2.symm) hne
      · rw [if_neg e2]
        intro hj hj2
        have a := (hF j hj).1
        have b := ((h1 i2 (old i2 hi2 e2)).2 j hj2).2
        omega
    · rw [if_neg e1]
      by_cases e2 : i2 = i
      · rw [if_pos e2]
        intro hj hj2
        have a := (hF j hj2).1
        have b := ((h1 i1 (old i1 hi1 e1)).2 j hj).2
        omega
      · rw [if_neg e2]
        exact h2 i1 i2 (old i1 hi1 e1) (old i2 hi2 e2) hne j
end
end Go.Proofs.YtbdagllflamabaaGreatDoor
