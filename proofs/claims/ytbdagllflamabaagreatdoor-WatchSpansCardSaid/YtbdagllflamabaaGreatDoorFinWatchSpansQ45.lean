/- Two watchers, of a span and of all keys: what they are told; how they lie apart. -/
import Derived.Test.YtbdagllflamabaaGreatDoorFinWatchSpansQ43
set_option linter.unusedVariables false
set_option linter.unusedSectionVars false
set_option linter.unusedSimpArgs false
namespace Go.Proofs.YtbdagllflamabaaGreatDoor
open Go.RowKit Go.Maps
namespace Pl
theorem cmpNumsB_asymm : ∀ (x y : List Nat), cmpNums x y < 0 → ¬ cmpNums y x < 0 := by
  intro x
  induction x with
  | nil => intro y h; cases y <;> simp [cmpNums] at h ⊢
  | cons a x ih =>
    intro y h
    cases y with
    | nil => simp [cmpNums] at h
    | cons b y =>
      unfold cmpNums at h ⊢
      by_cases h1 : a < b
      · have : ¬ (b < a) := by omega
        simp [h1, this]
      · by_cases h2 : b < a
        · simp [h1, h2] at h
        · simp [h1, h2] at h ⊢
          have := ih y h
          omega
theorem cmpB_asymm {a b : ByteArray} (h : compare a b < 0) : ¬ compare b a < 0 := by
  unfold compare at h ⊢
  cases h1 : runes a.data.toList with
  | none => rw [h1] at h; simp at h
  | some x =>
    cases h2 : runes b.data.toList with
    | none => rw [h1, h2] at h; simp at h
    | some y => rw [h1, h2] at h; exact cmpNumsB_asymm x y h
end Pl
theorem rise_eqB {l l' : List ByteArray} (h : l.Pairwise fun a b => Pl.compare a b < 0) (h' : l'.Pairwise fun a b => Pl.compare a b < 0) (hm : ∀ x, x ∈ l ↔ x ∈ l') : l = l' := by
  have nd : ∀ {l : List ByteArray}, (l.Pairwise fun a b => Pl.compare a b < 0) → l.Nodup := fun h => h.imp fun {a b} hab e => by
    subst e
    exact Pl.cmpB_asymm hab hab
  exact List.Perm.eq_of_pairwise (le := fun a b => Pl.compare a b < 0) (fun a b _ _ h1 h2 => absurd h2 (Pl.cmpB_asymm h1)) h h' ((List.perm_ext_iff_of_nodup (nd h) (nd h')).2 hm)
theorem asks_span {lo hi : ByteArray} {e : En} {ks ka : List ByteArray} (h : Pl.Asks lo hi e ks) (g : Pl.Asks ⟨#[]⟩ ⟨#[]⟩ e ka) : ks = ka.filter fun k => Pl.hasS lo hi k := by
  refine rise_eqB h.rise (g.rise.filter _) fun x => ?_
  rw [List.mem_filter, h.mem, g.mem]
  constructor
  · rintro ⟨a, b, c, d⟩
    exact ⟨⟨a, b, c, Pl.hasS_all (of_decide_eq_true (Pl.has_right d).2.1)⟩, d⟩
  · rintro ⟨⟨a, b, c, _⟩, d⟩
    exact ⟨a, b, c, d⟩
theorem changes_span (A B : AuP) (at' : Int) {lo hi : ByteArray} {e : En} {ks ka : List ByteArray} (h : Pl.Asks lo hi e ks) (g : Pl.Asks ⟨#[]⟩ ⟨#[]⟩ e ka) : changesP A B at' ks = (changesP A B at' ka).filter fun c => Pl.hasS lo hi c.key := by
  rw [asks_span h g]
  unfold changesP newC
  rw [List.filter_filter, show (fun a : Cg => (Pl.hasS lo hi a.key && !a.same)) = fun a : Cg => (!a.same && Pl.hasS lo hi a.key) from funext fun a => Bool.and_comm _ _, ← List.filter_filter]
  congr 1
  rw [List.filter_map]
  rfl
theorem filter_at {α : Type} (q : α → Bool) (xs : List α) (j : Nat) (hj : j < xs.length) : ((xs.filter q)[((xs.take j).filter q).length]? = if q xs[j] = true then some xs[j] else ((xs.drop (j + 1)).filter q)[0]?) ∧ ((xs.take (j + 1)).filter q).length = ((xs.take j).filter q).length + (if q xs[j] = true then 1 else 0) := by
  have e : xs = xs.take j ++ xs[j] :: xs.drop (j + 1) := by rw [← List.drop_eq_getElem_cons hj, List.take_append_drop]
  constructor
  · have h2 : xs.filter q = (xs.take j).filter q ++ (xs[j] :: xs.drop (j + 1)).filter q := by rw [← List.filter_append, ← e]
    rw [h2, List.getElem?_append_right (Nat.le_refl _), Nat.sub_self, List.filter_cons]
    split <;> rfl
  · rw [List.take_succ_eq_append_getElem hj, List.filter_append, List.length_append, List.filter_cons]
    split <;> rfl
structure WtR2 (w0 W : World) (wb1 ab1 wb2 ab2 : Nat) (lo hi : ByteArray) (n1 n2 m1 m2 : Nat) (A1 A2 : AuP) (t1 t2 : Int) (a : Option Addr) (xs : List Cg) : Prop where
  grew : Grew w0 W
  c1 : WtC W wb1 ab1 lo hi t1
  c2 : WtC W wb2 ab2 ⟨#[]⟩ ⟨#[]⟩ t2
  ex : ∃ L, (∀ j, j < w0.heap.size → L j = 0) ∧ L wb1 = 150 ∧ L wb2 = 350 ∧ AuAt W L 1 ab1 n1 A1 ∧ AuAt W L 201 ab2 n2 A2 ∧ (xs = [] ∨ ∃ b off, a = some ⟨b, off, none⟩ ∧ b < W.heap.size ∧ (L b = 0 ∨ Kin 1 (L b)) ∧ CgRow W b off xs)
  ok1 : AuOk A1 m1
  ok2 : AuOk A2 m2
section
variable {w0 W U : World} {wb1 ab1 wb2 ab2 : Nat} {lo hi : ByteArray} {n1 n2 m1 m2 : Nat} {A1 A2 : AuP} {t1 t2 : Int} {a : Option Addr} {xs : List Cg}
theorem WtR2.more (h : WtR2 w0 W wb1 ab1 wb2 ab2 lo hi n1 n2 m1 m2 A1 A2 t1 t2 a xs) (g : Grew W U) : WtR2 w0 U wb1 ab1 wb2 ab2 lo hi n1 n2 m1 m2 A1 A2 t1 t2 a xs := by
  obtain ⟨L, h1, h2, h3, h4, h5, h6⟩ := h.ex
  refine ⟨h.grew.trans g, h.c1.grew g, h.c2.grew g, ⟨L, h1, h2, h3, h4.grew g, h5.grew g, ?_⟩, h.ok1, h.ok2⟩
  rcases h6 with h6 | ⟨b, off, e, hb, hl, hr⟩
  · exact .inl h6
  · exact .inr ⟨b, off, e, Nat.lt_of_lt_of_le hb g.size, hl, hr.grew g hb⟩
theorem WtR2.less (h : WtR2 w0 W wb1 ab1 wb2 ab2 lo hi n1 n2 m1 m2 A1 A2 t1 t2 a xs) (a' : Option Addr) : WtR2 w0 W wb1 ab1 wb2 ab2 lo hi n1 n2 m1 m2 A1 A2 t1 t2 a' [] := by
  obtain ⟨L, h1, h2, h3, h4, h5, _⟩ := h.ex
  exact ⟨h.grew, h.c1, h.c2, ⟨L, h1, h2, h3, h4, h5, .inl rfl⟩, h.ok1, h.ok2⟩
theorem WtR2.row (h : WtR2 w0 W wb1 ab1 wb2 ab2 lo hi n1 n2 m1 m2 A1 A2 t1 t2 a xs) : CgsAt W a xs := by
  obtain ⟨L, h1, h2, h3, h4, h5, h6⟩ := h.ex
  rcases h6 with h6 | ⟨b, off, e, hb, hl, hr⟩
  · exact .inl h6
  · exact .inr ⟨b, off, e, hb, hr⟩
theorem WtR2.over (h : WtR2 w0 W wb1 ab1 wb2 ab2 lo hi n1 n2 m1 m2 A1 A2 t1 t2 a xs) (gU : Grew W U) : ∃ L, (∀ j, j < w0.heap.size → L j = 0) ∧ L wb1 = 150 ∧ L wb2 = 350 ∧ AuAt U L 1 ab1 n1 A1 ∧ AuAt U L 201 ab2 n2 A2 ∧ ∀ q, W.heap.size ≤ q → L q = 0 := by
  obtain ⟨L, h1, h2, h3, h4, h5, _⟩ := h.ex
  have s0 := h.grew.size
  have hb1 := cell_lt h.c1.c0
  have hb2 := cell_lt h.c2.c0
  refine ⟨fun j => if j < W.heap.size then L j else 0, fun j hj => ?_, ?_, ?_, h4.kept (gU.only fun _ => False) (fun _ _ h => h.elim) (fun j hj => if_pos hj), h5.kept (gU.only fun _ => False) (fun _ _ h => h.elim) (fun j hj => if_pos hj), fun q hq => if_neg (by omega)⟩
  · dsimp only; rw [if_pos (by omega)]; exact h1 j hj
  · exact (if_pos hb1).trans h2
  · exact (if_pos hb2).trans h3
theorem WtR2.step1 (E : Nat → Addr) (hE : Errs auS E w0) (h : WtR2 w0 W wb1 ab1 wb2 ab2 lo hi n1 n2 m1 m2 A1 A2 t1 t2 a xs) (gU : Grew W U) (hm : m1 ≤ 119) (hn : n1 ≤ 90000) (e : En) (hA : EnAt w0 e) (hz : EnSz e) (hkz : e.key.size ≤ 300) (at' : Int) (ht0 : 0 ≤ t1) (ht1 : t1 ≤ 1000000) (hl : lo.size ≤ 70368744177664) (hh : hi.size ≤ 70368744177664) :
    Calls Tryz.prog 22 #[.pointer (some ⟨wb1, 0, none⟩), e.agg, .int .i64 at'] U fun r w' => (∀ q, W.heap.size ≤ q → q < U.heap.size → w'.heap[q]? = U.heap[q]?) ∧ ∃ ks, Pl.Asks lo hi e ks ∧ (((Pl.applyA A1 e at').1 ≠ 0 ∧ r = .returned (.tuple #[.slice none 0 0, errOf E (Pl.applyA A1 e at').1]) ∧ WtR2 w0 w' wb1 ab1 wb2 ab2 lo hi (n1 + 5) n2 (m1 + 1) m2 (Pl.applyA A1 e at').2 A2 t1 t2 none []) ∨
      ((Pl.applyA A1 e at').1 = 0 ∧ ∃ a c, r = .returned (.tuple #[.slice a (changesP A1 (Pl.applyA A1 e at').2 at' ks).length c, .nilIface]) ∧ WtR2 w0 w' wb1 ab1 wb2 ab2 lo hi (n1 + 5) n2 (m1 + 1) m2 (Pl.applyA A1 e at').2 A2 (t1 + ((changesP A1 (Pl.applyA A1 e at').2 at' ks).length : Nat)) t2 a (changesP A1 (Pl.applyA A1 e at').2 at' ks))) := by
  obtain ⟨L, h1, h2, h3, h4, h5, hq0⟩ := h.over gU
  have hw1 := cell_lt h.c1.c0
  have h := h.more gU
  have hb1 := cell_lt h.c1.c0
  have hb2 := cell_lt h.c2.c0
  have hne : wb2 ≠ wb1 := fun q => by rw [q, h2] at h3; omega
  refine (stepW_any E hE h.grew h.c1 h2 h4 (Nat.le_refl _) (fun j hj => by rw [h1 j hj]; omega) h.ok1 hm hn e (fun X hO => hA.grew (((h.grew.only (fun j => w0.heap.size ≤ j)).then (hO.mono fun j hj => by
    by_cases q : j < w0.heap.size
    · rw [h1 j q] at hj; unfold Kin at hj; omega
    · exact .inl (by omega))).grew fun j hj => hj)) hz hkz at' ht0 ht1 hl hh).mono ?_
  rintro r w' ⟨q1, q2, ⟨L', l1, l2, l3⟩, ks, hk, q3⟩
  have hT2 : ∀ j, Kin 1 (L j) ∨ j = wb1 → ¬ Kin 201 (L j) := fun j hj => by
    rcases hj with hj | hj
    · unfold Kin at hj ⊢; omega
    · rw [hj, h2]; unfold Kin; omega
  have k2 : AuAt w' L' 201 ab2 n2 A2 := h5.kept q2 (fun j _ hj => hT2 j hj) l1
  have k3 : WtC w' wb2 ab2 ⟨#[]⟩ ⟨#[]⟩ t2 := h.c2.kept q2 fun hj => by
    rcases hj with hj | hj
    · rw [h3] at hj; unfold Kin at hj; omega
    · exact hne hj
  have s0 := h.grew.size
  have base : ∀ j, j < w0.heap.size → L' j = 0 := fun j hj => (l1 j (Nat.lt_of_lt_of_le hj s0)).trans (h1 j hj)
  refine ⟨fun q hq1 hq2 => q2.block q hq2 fun hj => ?_, ks, hk, ?_⟩
  · rcases hj with hj | hj
    · rw [hq0 q hq1] at hj; unfold Kin at hj; omega
    · have := hw1; dsimp only at this; omega
  rcases q3 with ⟨c, hr, hw⟩ | ⟨c, b, cp, hr, hbn, hcg, hw⟩
  · exact .inl ⟨c, hr, q1, hw, k3, ⟨L', base, (l1 _ hb1).trans h2, (l1 _ hb2).trans h3, l3, k2, .inl rfl⟩, Pl.auOk_apply h.ok1 h4.srt e at', h.ok2⟩
  · refine .inr ⟨c, some ⟨b, 0, none⟩, cp, hr, q1, hw, k3, ⟨L', base, (l1 _ hb1).trans h2, (l1 _ hb2).trans h3, l3, k2, ?_⟩, Pl.auOk_apply h.ok1 h4.srt e at', h.ok2⟩
    rcases hcg with hcg | ⟨b', off, e', hb', hr'⟩
    · exact .inl hcg
    · cases e'
      exact .inr ⟨b, 0, rfl, hb', l2 b hbn, hr'⟩
theorem WtR2.step2 (E : Nat → Addr) (hE : Errs auS E w0) (h : WtR2 w0 W wb1 ab1 wb2 ab2 lo hi n1 n2 m1 m2 A1 A2 t1 t2 a xs) (gU : Grew W U) (hm : m2 ≤ 119) (hn : n2 ≤ 90000) (e : En) (hA : EnAt w0 e) (hz : EnSz e) (hkz : e.key.size ≤ 300) (at' : Int) (ht0 : 0 ≤ t2) (ht1 : t2 ≤ 1000000) :
    Calls Tryz.prog 22 #[.pointer (some ⟨wb2, 0, none⟩), e.agg, .int .i64 at'] U fun r w' => ∃ ks, Pl.Asks ⟨#[]⟩ ⟨#[]⟩ e ks ∧ (((Pl.applyA A2 e at').1 ≠ 0 ∧ r = .returned (.tuple #[.slice none 0 0, errOf E (Pl.applyA A2 e at').1]) ∧ WtR2 w0 w' wb1 ab1 wb2 ab2 lo hi n1 (n2 + 5) m1 (m2 + 1) A1 (Pl.applyA A2 e at').2 t1 t2 a xs) ∨
      ((Pl.applyA A2 e at').1 = 0 ∧ ∃ a2 c, r = .returned (.tuple #[.slice a2 (changesP A2 (Pl.applyA A2 e at').2 at' ks).length c, .nilIface]) ∧ CgsAt w' a2 (changesP A2 (Pl.applyA A2 e at').2 at' ks) ∧ WtR2 w0 w' wb1 ab1 wb2 ab2 lo hi n1 (n2 + 5) m1 (m2 + 1) A1 (Pl.applyA A2 e at').2 t1 (t2 + ((changesP A2 (Pl.applyA A2 e at').2 at' ks).length : Nat)) a xs)) := by
  have h := h.more gU
  obtain ⟨L, h1, h2, h3, h4, h5, h6⟩ := h.ex
  have hb1 := cell_lt h.c1.c0
  have hb2 := cell_lt h.c2.c0
  have hne : wb1 ≠ wb2 := fun q => by rw [q, h3] at h2; omega
  refine (stepW_any E hE h.grew h.c2 h3 h5 (by omega) (fun j hj => by rw [h1 j hj]; omega) h.ok2 hm hn e (fun X hO => hA.grew (((h.grew.only (fun j => w0.heap.size ≤ j)).then (hO.mono fun j hj => by
    by_cases q : j < w0.heap.size
    · rw [h1 j q] at hj; unfold Kin at hj; omega
    · exact .inl (by omega))).grew fun j hj => hj)) hz hkz at' ht0 ht1 (by decide) (by decide)).mono ?_
  rintro r w' ⟨q1, q2, ⟨L', l1, l2, l3⟩, ks, hk, q3⟩
  have hT1 : ∀ j, Kin 201 (L j) ∨ j = wb2 → ¬ Kin 1 (L j) := fun j hj => by
    rcases hj with hj | hj
    · unfold Kin at hj ⊢; omega
    · rw [hj, h3]; unfold Kin; omega
  have k2 : AuAt w' L' 1 ab1 n1 A1 := h4.kept q2 (fun j _ hj => hT1 j hj) l1
  have k3 : WtC w' wb1 ab1 lo hi t1 := h.c1.kept q2 fun hj => by
    rcases hj with hj | hj
    · rw [h2] at hj; unfold Kin at hj; omega
    · exact hne hj
  have s0 := h.grew.size
  have base : ∀ j, j < w0.heap.size → L' j = 0 := fun j hj => (l1 j (Nat.lt_of_lt_of_le hj s0)).trans (h1 j hj)
  have hrow : xs = [] ∨ ∃ b off, a = some ⟨b, off, none⟩ ∧ b < w'.heap.size ∧ (L' b = 0 ∨ Kin 1 (L' b)) ∧ CgRow w' b off xs := by
    rcases h6 with h6 | ⟨b, off, ea, hb, hl, hr⟩
    · exact .inl h6
    · have hT : ¬ (Kin 201 (L b) ∨ b = wb2) := fun hj => by
        rcases hj with hj | hj
        · rcases hl with hl | hl
          · rw [hl] at hj; unfold Kin at hj; omega
          · unfold Kin at hj hl; omega
        · rw [hj, h3] at hl; unfold Kin at hl; omega
      refine .inr ⟨b, off, ea, Nat.lt_of_lt_of_le hb q2.size, by rw [l1 b hb]; exact hl, ?_⟩
      exact ⟨fun j hj => (q2.cell hb hT _).trans (hr.at_ j hj), fun j hj => (q2.cell hb hT _).trans (hr.key j hj), fun j hj => (q2.cell hb hT _).trans (hr.wk j hj), fun j hj => (q2.cell hb hT _).trans (hr.wv j hj), fun j hj => (q2.cell hb hT _).trans (hr.wn j hj), fun j hj => (q2.cell hb hT _).trans (hr.nk j hj), fun j hj => (q2.cell hb hT _).trans (hr.nv j hj), fun j hj => (q2.cell hb hT _).trans (hr.nn j hj), fun j hj => (q2.cell hb hT _).trans (hr.had j hj), fun j hj => (q2.cell hb hT _).trans (hr.has j hj)⟩
  refine ⟨ks, hk, ?_⟩
  rcases q3 with ⟨c, hr, hw⟩ | ⟨c, b, cp, hr, hbn, hcg, hw⟩
  · exact .inl ⟨c, hr, q1, k3, hw, ⟨L', base, (l1 _ hb1).trans h2, (l1 _ hb2).trans h3, k2, l3, hrow⟩, h.ok1, Pl.auOk_apply h.ok2 h5.srt e at'⟩
  · exact .inr ⟨c, some ⟨b, 0, none⟩, cp, hr, hcg, q1, k3, hw, ⟨L', base, (l1 _ hb1).trans h2, (l1 _ hb2).trans h3, k2, l3, hrow⟩, h.ok1, Pl.auOk_apply h.ok2 h5.srt e at'⟩
end
end Go.Proofs.YtbdagllflamabaaGreatDoor
