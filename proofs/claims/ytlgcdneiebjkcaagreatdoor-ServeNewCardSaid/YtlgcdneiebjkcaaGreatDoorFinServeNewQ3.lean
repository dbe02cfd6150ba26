/- SlF, Rgn3, RgnS, IntK, RgnT: one text. -/
import Derived.Test.YtlgcdneiebjkcaaGreatDoorFinServeNewQ2
import Derived.Deep.Upon
import Derived.Lib.AppendZeros
import Derived.Deep.AppendLies
import Derived.Test.YtlgcdneiebjkcaaGreatDoorFinServeNewQ1
import Derived.Deep.QuietTactic
import Derived.BigQuiet
namespace Go.Proofs.YtlgcdneiebjkcaaGreatDoor
open Go.RowKit Go.Maps
def SlForm (a : Option Addr) (cap : Nat) : Prop := (a = none ∧ cap = 0) ∨ ∃ b off, a = some ⟨b, off, none⟩
end Go.Proofs.YtlgcdneiebjkcaaGreatDoor
namespace Go.Proofs.YtlgcdneiebjkcaaGreatDoor
open Go.RowKit
theorem wd_cell {w : World} {a : Addr} {v : Value} (h : w.cell? a = some v) (p : Wd (Grew w)) : p.w.cell? a = some v := by
  rw [p.ok.below.cell (World.block_lt_of_cell? w a h)]; exact h
instance wdGrew (w : World) : Nonempty (Wd (Grew w)) := ⟨⟨w, Grew.refl w⟩⟩
instance wdOnly (S : Nat → Prop) (w : World) : Nonempty (Wd (Only S w)) := ⟨⟨w, Only.refl S w⟩⟩
theorem wd_only {S : Nat → Prop} {w : World} {b o : Nat} {v : Value} (h : w.cell? ⟨b, o, none⟩ = some v) (hS : ¬ S b) (p : Wd (Only S w)) : p.w.cell? ⟨b, o, none⟩ = some v := by
  rw [p.ok.cell (World.block_lt_of_cell? w _ h) hS o]; exact h
def Fr2 (N : Nat) (w : World) (x a b : Value) : Prop := ∃ m, x = .pointer (some ⟨m, 0, none⟩) ∧ N ≤ m ∧ w.cell? ⟨m, 0, none⟩ = some a ∧ w.cell? ⟨m, 1, none⟩ = some b ∧ w.frozen? ⟨m, 0, none⟩ = false ∧ w.frozen? ⟨m, 1, none⟩ = false
theorem Fr2.grew {N : Nat} {w w' : World} {x a b : Value} (h : Fr2 N w x a b) (g : Grew w w') : Fr2 N w' x a b := by
  obtain ⟨m, h1, h2, h3, h4, h5, h6⟩ := h
  have hm : m < w.heap.size := World.block_lt_of_cell? w _ h3
  exact ⟨m, h1, h2, (g.cells.1 _ _ hm).trans h3, (g.cells.1 _ _ hm).trans h4, (g.cells.2 _ _ hm).trans h5, (g.cells.2 _ _ hm).trans h6⟩
theorem Fr2.of_alloc {N : Nat} {u : World} (h : N ≤ u.heap.size) (a b : Value) (t : TypeId) : Fr2 N (u.alloc (Obj.cells #[a, b] t)) (.pointer (some ⟨u.heap.size, 0, none⟩)) a b :=
  ⟨_, rfl, h, by simp [go_sem], by simp [go_sem], by simp [go_sem], by simp [go_sem]⟩
end Go.Proofs.YtlgcdneiebjkcaaGreatDoor
set_option linter.unusedVariables false
namespace Go.Proofs.YtlgcdneiebjkcaaGreatDoor
open Go.RowKit
structure FV where
  a : Nat
  s : Nat
  vals : List Value
def FrN (N : Nat) (u : World) (x : Value) (vs : List Value) : Prop := ∃ m, x = .pointer (some ⟨m, 0, none⟩) ∧ N ≤ m ∧ m < u.heap.size ∧ ∀ o v, vs[o]? = some v → u.cell? ⟨m, o, none⟩ = some v ∧ u.frozen? ⟨m, o, none⟩ = false
theorem FrN.grew {N : Nat} {w w' : World} {x : Value} {vs : List Value} (h : FrN N w x vs) (g : Grew w w') : FrN N w' x vs := by
  obtain ⟨m, h1, h2, hm, h3⟩ := h
  exact ⟨m, h1, h2, Nat.lt_of_lt_of_le hm g.size, fun o v hv => ⟨(g.cells.1 _ _ hm).trans (h3 o v hv).1, (g.cells.2 _ _ hm).trans (h3 o v hv).2⟩⟩
theorem FrN.of_alloc {N : Nat} {u : World} (h : N ≤ u.heap.size) (vs : List Value) (t : TypeId) : FrN N (u.alloc (Obj.cells vs.toArray t)) (.pointer (some ⟨u.heap.size, 0, none⟩)) vs := by
  refine ⟨_, rfl, h, by simp, fun o v hv => ?_⟩
  have hb : (u.alloc (Obj.cells vs.toArray t)).heap[u.heap.size]? = some (Obj.cells vs.toArray t) := by
    show (u.heap.push _)[u.heap.size]? = _
    simp
  have ho := (List.getElem?_eq_some_iff.1 hv).1
  constructor
  · simp only [World.cell?, hb]; simpa using hv
  · simp only [World.frozen?, hb]; simp
theorem FrN.two {N : Nat} {u : World} {x a b : Value} (h : FrN N u x [a, b]) : ∃ m, x = .pointer (some ⟨m, 0, none⟩) ∧ N ≤ m ∧ m < u.heap.size ∧ u.cell? ⟨m, 0, none⟩ = some a ∧ u.cell? ⟨m, 1, none⟩ = some b ∧ u.frozen? ⟨m, 0, none⟩ = false ∧ u.frozen? ⟨m, 1, none⟩ = false := by
  obtain ⟨m, h1, h2, hm, h3⟩ := h
  exact ⟨m, h1, h2, hm, (h3 0 a rfl).1, (h3 1 b rfl).1, (h3 0 a rfl).2, (h3 1 b rfl).2⟩
def storeAll (u : World) (m : Nat) : Nat → List Value → World
  | _, [] => u
  | o, v :: vs => storeAll (u.setCell ⟨m, o, none⟩ v) m (o + 1) vs
theorem storeAll_spec (m : Nat) : ∀ (vs : List Value) (u : World) (o : Nat), (∀ j, j < vs.length → (u.cell? ⟨m, o + j, none⟩).isSome = true) →
    (∀ j v, vs[j]? = some v → (storeAll u m o vs).cell? ⟨m, o + j, none⟩ = some v) ∧ (∀ b j, b ≠ m ∨ j < o → (storeAll u m o vs).cell? ⟨b, j, none⟩ = u.cell? ⟨b, j, none⟩) ∧ (∀ a, (storeAll u m o vs).frozen? a = u.frozen? a) ∧ Only (fun j => j = m) u (storeAll u m o vs)
  | [], u, o, _ => ⟨fun j v h => by simp at h, fun _ _ _ => rfl, fun _ => rfl, Only.refl _ _⟩
  | v :: vs, u, o, h => by
    have h0 : (u.cell? ⟨m, o, none⟩).isSome = true := h 0 (by simp)
    obtain ⟨s1, s2, s3, s4⟩ := storeAll_spec m vs (u.setCell ⟨m, o, none⟩ v) (o + 1) (fun j hj => by
      rw [World.cell?_setCell_other _ _ _ _ (by intro e; injection e with _ e2; omega)]
      have := h (j + 1) (by simp; omega)
      rwa [show o + (j + 1) = o + 1 + j by omega] at this)
    refine ⟨fun j x hj => ?_, fun b j hb => ?_, fun a => ?_, ?_⟩
    · match j, hj with
      | 0, hj =>
        cases (show v = x by simpa using hj)
        rw [Nat.add_zero]
        refine (s2 m o (.inr (by omega))).trans ?_
        exact World.cell?_setCell_same' _ _ _ h0
      | j + 1, hj =>
        rw [show o + (j + 1) = o + 1 + j by omega]
        exact s1 j x (by simpa using hj)
    · refine (s2 b j (by rcases hb with hb | hb; exact .inl hb; exact .inr (by omega))).trans ?_
      exact World.cell?_setCell_other _ _ _ _ (by intro e; injection e with e1 e2; rcases hb with hb | hb; exact hb e1.symm; omega)
    · refine (s3 a).trans ?_
      rw [World.frozen?_setCell]
    · exact (Only.setCell u ⟨m, o, none⟩ v).then s4
structure JV (vars : List FV) (w : World) (L : Nat → Bool) (f : Nat → Value) (u : World) : Prop where
  grew : Grew w u
  first : ∀ V ∈ vars, L V.s = true → L V.a = true
  made : ∀ V ∈ vars, L V.a = true → ∃ vs, vs.length = V.vals.length ∧ FrN w.heap.size u (f V.a) vs ∧ (L V.s = true → vs = V.vals)
  apart : ∀ V ∈ vars, ∀ V' ∈ vars, V.a ≠ V'.a → L V.a = true → L V'.a = true → f V.a ≠ f V'.a
def varsB (vars : List FV) : Bool := decide ((vars.map FV.a).Nodup) && decide ((vars.map FV.s).Nodup) && vars.all fun V => vars.all fun V' => V.a != V'.s
theorem inj_of_nodup {α : Type} (g : α → Nat) : ∀ (l : List α), (l.map g).Nodup → ∀ x ∈ l, ∀ y ∈ l, g x = g y → x = y
  | [], _, _, hx, _, _, _ => by cases hx
  | z :: l, h, x, hx, y, hy, e => by
    rw [List.map_cons, List.nodup_cons] at h
    rcases List.mem_cons.1 hx with hx1 | hx1
    · rcases List.mem_cons.1 hy with hy1 | hy1
      · rw [hx1, hy1]
      · exact absurd (by rw [← hx1, e]; exact List.mem_map_of_mem hy1) h.1
    · rcases List.mem_cons.1 hy with hy1 | hy1
      · exact absurd (by rw [← hy1, ← e]; exact List.mem_map_of_mem hx1) h.1
      · exact inj_of_nodup g l h.2 x hx1 y hy1 e
theorem vars_of {vars : List FV} (h : varsB vars = true) : ∀ V ∈ vars, ∀ V' ∈ vars, V.a ≠ V'.s ∧ (V.s = V'.s → V = V') ∧ (V.a = V'.a → V = V') := by
  intro V hV V' hV'
  unfold varsB at h
  rw [Bool.and_eq_true, Bool.and_eq_true] at h
  obtain ⟨⟨ha, hs⟩, hn⟩ := h
  refine ⟨?_, inj_of_nodup _ vars (of_decide_eq_true hs) V hV V' hV', inj_of_nodup _ vars (of_decide_eq_true ha) V hV V' hV'⟩
  have h1 := List.all_eq_true.1 (List.all_eq_true.1 hn V hV) V' hV'
  simpa using h1
theorem JV.start (vars : List FV) (w : World) (f : Nat → Value) : JV vars w (fun _ => false) f w.drew :=
  ⟨(Grew.refl w).drew, fun _ _ h => (by cases h), fun _ _ h => (by cases h), fun _ _ _ _ _ h => (by cases h)⟩
theorem JV.more {vars : List FV} {w u u' : World} {L : Nat → Bool} {f : Nat → Value} (h : JV vars w L f u) (g : Grew u u') : JV vars w L f u' :=
  ⟨h.grew.trans g, h.first, fun V hV hl => by obtain ⟨vs, h1, h2, h3⟩ := h.made V hV hl; exact ⟨vs, h1, h2.grew g, h3⟩, h.apart⟩
theorem JV.alloc {vars : List FV} (hB : varsB vars = true) {w u : World} {L : Nat → Bool} {f : Nat → Value} (h : JV vars w L f u) {V : FV} (hV : V ∈ vars) (hL : L V.a = false) (zs : List Value) (hz : zs.length = V.vals.length) (t : TypeId) :
    JV vars w (plus L V.a) (updV f V.a (.pointer (some ⟨u.heap.size, 0, none⟩))) (u.alloc (Obj.cells zs.toArray t)) := by
  have hG : Grew u (u.alloc (Obj.cells zs.toArray t)) := (Grew.refl u).alloc _
  have hs : ∀ V' ∈ vars, plus L V.a V'.s = L V'.s := fun V' hV' => if_neg (Ne.symm ((vars_of hB V hV V' hV').1))
  refine ⟨h.grew.trans hG, fun V' hV' hl => ?_, fun V' hV' hl => ?_, fun V1 h1 V2 h2 hne hl1 hl2 => ?_⟩
  · rw [hs V' hV'] at hl
    have := h.first V' hV' hl
    simp [plus, this]
  · rw [hs V' hV']
    by_cases he : V'.a = V.a
    · refine ⟨zs, ?_, ?_, fun hl2 => ?_⟩
      · rw [(vars_of hB V' hV' V hV).2.2 he]; exact hz
      · rw [he, updV_same]; exact FrN.of_alloc h.grew.size zs t
      · have := h.first V' hV' hl2; rw [he, hL] at this; cases this
    · simp only [plus, if_neg he] at hl
      obtain ⟨vs, h1, h2, h3⟩ := h.made V' hV' hl
      exact ⟨vs, h1, by rw [updV_ne he]; exact h2.grew hG, h3⟩
  · have old : ∀ V' ∈ vars, V'.a ≠ V.a → L V'.a = true → f V'.a ≠ .pointer (some ⟨u.heap.size, 0, none⟩) := by
      intro V' hV' _ hl he
      obtain ⟨vs, _, ⟨m, hm, _, hlt, _⟩, _⟩ := h.made V' hV' hl
      rw [hm] at he
      injection he with e1
      injection e1 with e2
      injection e2 with e3
      omega
    by_cases e1 : V1.a = V.a
    · have e2 : V2.a ≠ V.a := fun e => hne (e1.trans e.symm)
      rw [e1, updV_same, updV_ne e2]
      simp only [plus, if_neg e2] at hl2
      exact (old V2 h2 e2 hl2).symm
    · simp only [plus, if_neg e1] at hl1
      rw [updV_ne e1]
      by_cases e2 : V2.a = V.a
      · rw [e2, updV_same]; exact old V1 h1 e1 hl1
      · simp only [plus, if_neg e2] at hl2
        rw [updV_ne e2]; exact h.apart V1 h1 V2 h2 hne hl1 hl2
theorem JV.store {vars : List FV} (hB : varsB vars = true) {w u : World} {L : Nat → Bool} {f : Nat → Value} (h : JV vars w L f u) {V : FV} (hV : V ∈ vars) (hL : L V.a = true) {m : Nat} (hm : f V.a = .pointer (some ⟨m, 0, none⟩)) :
    JV vars w (plus L V.s) (updV f V.s undef) (storeAll u m 0 V.vals) := by
  obtain ⟨vs0, hl0, ⟨m', hm', hN, hlt, hc⟩, _⟩ := h.made V hV hL
  rw [hm] at hm'
  cases hm'
  obtain ⟨s1, s2, s3, s4⟩ := storeAll_spec m V.vals u 0 (fun j hj => by
    rw [Nat.zero_add]
    have := (hc j vs0[j] (List.getElem?_eq_getElem (by omega))).1
    rw [this]; rfl)
  have ha : ∀ V' ∈ vars, plus L V.s V'.a = L V'.a := fun V' hV' => if_neg (vars_of hB V' hV' V hV).1
  have hf : ∀ V' ∈ vars, updV f V.s undef V'.a = f V'.a := fun V' hV' => updV_ne (vars_of hB V' hV' V hV).1
  refine ⟨(((h.grew.only fun j => j = m).then s4).grew fun j hj => (by subst hj; exact hN)), fun V' hV' hl => ?_, fun V' hV' hl => ?_, fun V1 h1 V2 h2 hne hl1 hl2 => ?_⟩
  · rw [ha V' hV']
    by_cases e : V'.s = V.s
    · rw [(vars_of hB V' hV' V hV).2.1 e]; exact hL
    · simp only [plus, if_neg e] at hl
      exact h.first V' hV' hl
  · rw [ha V' hV'] at hl
    rw [hf V' hV']
    by_cases e : V'.a = V.a
    · have hVV := (vars_of hB V' hV' V hV).2.2 e
      subst hVV
      refine ⟨V'.vals, rfl, ⟨m, hm, hN, Nat.lt_of_lt_of_le hlt s4.size, fun o v hv => ⟨?_, ?_⟩⟩, fun _ => rfl⟩
      · have := s1 o v hv; rwa [Nat.zero_add] at this
      · have hol := (List.getElem?_eq_some_iff.1 hv).1
        exact (s3 _).trans (hc o vs0[o] (List.getElem?_eq_getElem (by omega))).2
    · obtain ⟨vs, h1, ⟨m2, hm2, hN2, hlt2, hc2⟩, h3⟩ := h.made V' hV' hl
      have hne2 : m2 ≠ m := by
        intro e2
        subst e2
        exact h.apart V' hV' V hV e hl hL (hm2.trans hm.symm)
      refine ⟨vs, h1, ⟨m2, hm2, hN2, Nat.lt_of_lt_of_le hlt2 s4.size, fun o v hv => ⟨(s2 m2 o (.inl hne2)).trans (hc2 o v hv).1, (s3 _).trans (hc2 o v hv).2⟩⟩, fun hl2 => ?_⟩
      have e3 : V'.s ≠ V.s := fun e4 => e (congrArg FV.a ((vars_of hB V' hV' V hV).2.1 e4))
      simp only [plus, if_neg e3] at hl2
      exact h3 hl2
  · rw [ha V1 h1] at hl1
    rw [ha V2 h2] at hl2
    rw [hf V1 h1, hf V2 h2]
    exact h.apart V1 h1 V2 h2 hne hl1 hl2
theorem len_two {vs : List Value} (h : vs.length = 2) : ∃ a b, vs = [a, b] := by
  match vs, h with
  | [a, b], _ => exact ⟨a, b, rfl⟩
theorem JV.two {vars : List FV} {w u : World} {L : Nat → Bool} {f : Nat → Value} (h : JV vars w L f u) {V : FV} (hV : V ∈ vars) (hL : L V.a = true) (h2 : V.vals.length = 2) :
    ∃ m a b, f V.a = .pointer (some ⟨m, 0, none⟩) ∧ u.cell? ⟨m, 0, none⟩ = some a ∧ u.cell? ⟨m, 1, none⟩ = some b ∧ u.frozen? ⟨m, 0, none⟩ = false ∧ u.frozen? ⟨m, 1, none⟩ = false := by
  obtain ⟨vs, hl, hF, _⟩ := h.made V hV hL
  obtain ⟨a, b, rfl⟩ := len_two (hl.trans h2)
  obtain ⟨m, h1, _, _, h4, h5, h6, h7⟩ := hF.two
  exact ⟨m, a, b, h1, h4, h5, h6, h7⟩
theorem JV.full {vars : List FV} {w u : World} {L : Nat → Bool} {f : Nat → Value} (h : JV vars w L f u) {V : FV} (hV : V ∈ vars) (hL : L V.s = true) : FrN w.heap.size u (f V.a) V.vals := by
  obtain ⟨vs, hl, hF, h3⟩ := h.made V hV (h.first V hV hL)
  rw [← h3 hL]; exact hF
end Go.Proofs.YtlgcdneiebjkcaaGreatDoor
namespace Go.Proofs.YtlgcdneiebjkcaaGreatDoor
open Go.RowKit Go.Maps
structure JOne (e : TypeId) (i j : Nat) (y : World) (news : List Value) (D : World → Value → World → Prop) (L : Nat → Bool) (f : Nat → Value) (x : World) : Prop where
  ord : L j = true → L i = true
  grew : L j = false → Grew y x
  made : L i = true → L j = false → ∃ vb, f i = .slice (some ⟨vb, 0, none⟩) 1 1 ∧ y.heap.size ≤ vb ∧ x.heap[vb]? = some (.cells news.toArray e (0, 0))
  done : L j = true → ∃ x0, Grew y x0 ∧ D x0 (f j) x
section
variable {e : TypeId} {i j : Nat} {y x : World} {news : List Value} {D : World → Value → World → Prop} {L : Nat → Bool} {f : Nat → Value}
theorem JOne.start (y : World) : JOne e i j y news D (fun _ => false) f y.drew :=
  ⟨fun h => (by cases h), fun _ => (Grew.refl y).drew, fun h => (by cases h), fun h => (by cases h)⟩
theorem JOne.make (hij : j ≠ i) (h : JOne e i j y news D L f x) (hL : L i = false) : JOne e i j y news D (plus L i) (updV f i (.slice (some ⟨x.heap.size, 0, none⟩) 1 1)) (x.alloc (.cells news.toArray e)) := by
  have hj : L j = false := by
    cases hl : L j with
    | false => rfl
    | true => rw [h.ord hl] at hL; cases hL
  have hp : plus L i j = false := by simp only [plus, if_neg hij]; exact hj
  refine ⟨fun hl => ?_, fun _ => (h.grew hj).alloc _, fun _ _ => ⟨x.heap.size, updV_same _ _ _, (h.grew hj).size, ?_⟩, fun hl => ?_⟩
  · rw [hp] at hl; cases hl
  · show (x.heap.push _)[x.heap.size]? = _
    simp
  · rw [hp] at hl; cases hl
theorem JOne.call (hij : j ≠ i) (h : JOne e i j y news D L f x) (hL : L j = false) (hi : L i = true) {r : Value} {w' : World} (hD : D x r w') : JOne e i j y news D (plus L j) (updV f j r) w' := by
  have hp : plus L j j = true := by simp [plus]
  refine ⟨fun _ => ?_, fun hl => ?_, fun _ hl => ?_, fun _ => ⟨x, h.grew hL, by rw [updV_same]; exact hD⟩⟩
  · simp only [plus, if_neg (Ne.symm hij)]; exact hi
  · rw [hp] at hl; cases hl
  · rw [hp] at hl; cases hl
theorem JOne.only {S : Nat → Prop} (hD : ∀ x0 r x', D x0 r x' → Only S x0 x') (h : JOne e i j y news D L f x) : Only S y x := by
  cases hL : L j with
  | false => exact (h.grew hL).only S
  | true =>
    obtain ⟨x0, g0, hd⟩ := h.done hL
    exact (g0.only S).then (hD _ _ _ hd)
theorem JOne.more (h : JOne e i j y news D L f x) {x' : World} (g : Grew x x') (hD : ∀ x0 r x1 x2, D x0 r x1 → Grew x1 x2 → D x0 r x2) : JOne e i j y news D L f x' :=
  ⟨h.ord, fun hl => (h.grew hl).trans g, fun h1 h2 => by obtain ⟨vb, a, b, c⟩ := h.made h1 h2; exact ⟨vb, a, b, (g.below.block vb (Array.getElem?_eq_some_iff.1 c).1).trans c⟩, fun hl => by obtain ⟨x0, g0, hd⟩ := h.done hl; exact ⟨x0, g0, hD _ _ _ _ hd g⟩⟩
end
def AppD (e : TypeId) (k : Nat) (v : Value) (n : Nat) (xs news : List Value) (x0 : World) (r : Value) (x : World) : Prop :=
  ∃ g cap, r = .slice (some ⟨g, 0, none⟩) (n + 1) cap ∧ x.ownsRow 0 e k (.slice (some ⟨g, 0, none⟩) (n + 1) cap) (n + 1) (xs ++ news) ∧ x0.grownBy x v.ownBlock ∧ (v.ownBlock = some g ∨ g = x0.heap.size)
theorem AppD.only {e : TypeId} {k : Nat} {v : Value} {n : Nat} {xs news : List Value} {x0 : World} {r : Value} {x : World} (h : AppD e k v n xs news x0 r x) : Only (fun j => some j = v.ownBlock) x0 x := by
  obtain ⟨_, _, _, _, hg, _⟩ := h
  exact Only.of_grownBy hg
section
variable {P : Program}
theorem uponV_append {o : Oper} {a : Act} {w : World} {K : Value → World → Prop} (s x : Operand) (t : TypeId)
    (ho : o.op = .call { callee := .builtin .append, args := #[s, x], argTypes := #[t, t] })
    (e : TypeId) (i : TypeInfo) (z : Value) (size bytes : Nat) (ht : P.underlying t = some (.slice e)) (hi : P.info? e = some i) (hz : i.zero = some z)
    (hsize : i.size = size) (hby : i.bytes = bytes) (hzs : z.cells.size = size) (hsz : 0 < size)
    (v : Value) (n : Nat) (xs : List Value) (hs : a.eval s = v) (hown : w.ownsRow 0 e size v n xs)
    (vb c : Nat) (news : List Value) (hx : a.eval x = .slice (some ⟨vb, 0, none⟩) 1 c) (hl : news.length = size) (hnews : w.heap[vb]? = some (.cells news.toArray e (0, 0))) (h1 : ∀ u ∈ news, u.oneCell' = true)
    (h63 : n + 1 ≤ maxLen) (hbytes : (n + 1) * bytes ≤ 140737488355328)
    (h : ∀ r w', AppD e size v n xs news w r w' → K r w') : uponV P K ((execOp a.eval o).run P w) := by
  obtain ⟨g, cap, w', hr, h2, h3, h4, h5⟩ := run_append_lies (P := P) (w := w) t o.type 0 e i z size bytes ht hi hz hsize hby hzs hsz v n xs hown ⟨vb, 0, none⟩ 1 c news (by rw [hl, Nat.one_mul]) (World.news_of_block (cs := news.toArray) (by simpa using hnews)) h1 (by omega) h63 hbytes (Nat.zero_le _) w.heap.size rfl
  unfold execOp
  simp only [ho, resolve, invoke, builtin, Sem.run_bind, Sem.run_pure, Result.andThen_ok, List.map_toArray, List.map_cons, List.map_nil, hs, hx, hr]
  exact h _ _ ⟨g, cap, rfl, h2, h3, h4⟩
end
end Go.Proofs.YtlgcdneiebjkcaaGreatDoor
namespace Go.Proofs.YtlgcdneiebjkcaaGreatDoor
open Go.RowKit Go.Maps
structure MixS (P : Program) (ops : Array Oper) (n : Nat) (Z : List Nat) (I : World → Prop) (T : World → World → Prop) (K : Act → Prop) (l : List Oper) (k : Nat) (a : Act) : Prop where
  out : wpMix P ops n Z I T K l k a
section
variable {P : Program} {ops : Array Oper} {n k : Nat} {Z : List Nat} {I : World → Prop} {T : World → World → Prop} {K : Act → Prop} {o : Oper} {l : List Oper} {a : Act}
theorem mixS_nil (h : K a) : MixS P ops n Z I T K [] k a := ⟨wpMix_nil h⟩
theorem mixS_done (hk : decide (k < n) = false) (h : K a) : MixS P ops n Z I T K (o :: l) k a := ⟨wpMix_done hk h⟩
theorem mixS_loose (hk : decide (k < n) = true) (hz : Z.contains k = true) (h : MixS P ops n Z I T K l (k + 1) a) : MixS P ops n Z I T K (o :: l) k a := ⟨wpMix_loose hk hz h.out⟩
theorem mixS_skip (hk : decide (k < n) = true) (hz : Z.contains k = false) (hw : Region.wanted o (yielded ops a.tmps) = false) (h : MixS P ops n Z I T K l (k + 1) (a.put o.dst undef)) : MixS P ops n Z I T K (o :: l) k a := ⟨wpMix_skip hk hz hw h.out⟩
theorem mixS_call (hcall : callB o.op = true) (hk : decide (k < n) = true) (hz : Z.contains k = false) (hw : Region.wanted o (yielded ops a.tmps) = true) {fn : FuncId} {args : Array Value} {v : Value} (hx : ∀ w, (execOp a.eval o).run P w = .ok (.enter fn args) w)
    (hc : ∀ w, I w → Calls P fn args w fun e w' => e = .returned v ∧ T w w') (h : MixS P ops n Z I T K l (k + 1) (a.put o.dst v)) : MixS P ops n Z I T K (o :: l) k a := ⟨wpMix_call hcall hk hz hw hx hc h.out⟩
theorem mixS_plain (hk : decide (k < n) = true) (hz : Z.contains k = false) (hp : plainB o.op = true) (hT : ∀ w, T w w) (hw : Region.wanted o (yielded ops a.tmps) = true)
    (h : ∀ K' : Act → Prop, (∀ a, MixS P ops n Z I T K l (k + 1) a → K' a) → o.quiet P a (fun w => ∃ p : Wd I, w = p.w) K') : MixS P ops n Z I T K (o :: l) k a :=
  ⟨wpMix_plain hk hz hp hT hw fun K' hK => h K' fun a h => hK a h.out⟩
theorem mxL (h : MixS P ops n Z I T K l (k + 1) a) (hk : decide (k < n) = true := by rfl) (hz : Z.contains k = true := by rfl) : MixS P ops n Z I T K (o :: l) k a := mixS_loose hk hz h
theorem mxK (h : MixS P ops n Z I T K l (k + 1) (a.put o.dst undef)) (hk : decide (k < n) = true := by rfl) (hz : Z.contains k = false := by rfl) (hw : Region.wanted o (yielded ops a.tmps) = false := by rfl) : MixS P ops n Z I T K (o :: l) k a := mixS_skip hk hz hw h
theorem mxC {fn : FuncId} {args : Array Value} {v : Value} (hx : ∀ w, (execOp a.eval o).run P w = .ok (.enter fn args) w) (hc : ∀ w, I w → Calls P fn args w fun e w' => e = .returned v ∧ T w w') (h : MixS P ops n Z I T K l (k + 1) (a.put o.dst v)) (hcall : callB o.op = true := by rfl) (hk : decide (k < n) = true := by rfl) (hz : Z.contains k = false := by rfl) (hw : Region.wanted o (yielded ops a.tmps) = true := by rfl) : MixS P ops n Z I T K (o :: l) k a := mixS_call hcall hk hz hw hx hc h
theorem mxP (h : ∀ K' : Act → Prop, (∀ a, MixS P ops n Z I T K l (k + 1) a → K' a) → o.quiet P a (fun w => ∃ p : Wd I, w = p.w) K') (hk : decide (k < n) = true := by rfl) (hz : Z.contains k = false := by rfl) (hp : plainB o.op = true := by rfl) (hT : ∀ w, T w w := by first | exact Grew.refl | exact fun _ => rfl) (hw : Region.wanted o (yielded ops a.tmps) = true := by rfl) : MixS P ops n Z I T K (o :: l) k a := mixS_plain hk hz hp hT hw h
theorem wp_region_mixS {id : Nat} {Q : Exit → Act → World → Prop} {a0 : Act} {w : World} {l : List Oper} (n : Nat) (Z : List Nat) (I : World → Prop) (T : World → World → Prop) (J : (Nat → Bool) → (Nat → Value) → World → Prop) (g : (Nat → Value) → Act → Act)
    (hm : P.follows .mixedOrders = true) (hB : mixB l.toArray n Z = true) (hg : ∀ f a, actGo (fun j => Z.contains j) f l 0 a = g f a)
    (h0 : J (fun _ => false) (fun _ => undef) w.drew) (hI : ∀ L f w, J L f w → I w) (hT : ∀ w, T w w) (hmono : ∀ L f w w', J L f w → T w w' → J L f w')
    (h : MixS P l.toArray n Z I T (fun a => AllZ (LooseStep P l Z J a) Z ∧ ∀ (f : Nat → Value) (w : World), J (fun j => Z.contains j) f w → wpList P l.toArray Q (l.drop n) (g f a) w) l 0 a0) :
    (Code.region id l.toArray true).wp P Q a0 w := wp_region_mix n Z I T J g hm hB hg h0 hI hT hmono h.out
end
theorem wp_region_still {P : Program} {id : Nat} {Q : Exit → Act → World → Prop} {a0 : Act} {w : World} {l : List Oper} (n : Nat) (hm : P.follows .mixedOrders = true) (hB : mixB l.toArray n [] = true) (hg : ∀ f a, actGo (fun j => ([] : List Nat).contains j) f l 0 a = a)
    (h : MixS P l.toArray n [] (Grew w) Grew (fun a => ∀ (w' : World), Grew w w' → wpList P l.toArray Q (l.drop n) a w') l 0 a0) : (Code.region id l.toArray true).wp P Q a0 w :=
  wp_region_mix n [] (Grew w) Grew (fun _ _ x => Grew w x) (fun _ a => a) hm hB hg (Grew.refl w).drew (fun _ _ _ h => h) Grew.refl (fun _ _ _ _ h g => h.trans g) (by
    have h2 := h.out
    have e : (fun a => ∀ (w' : World), Grew w w' → wpList P l.toArray Q (l.drop n) a w') = (fun a => AllZ (LooseStep P l [] (fun _ _ x => Grew w x) a) [] ∧ ∀ (f : Nat → Value) (w' : World), Grew w w' → wpList P l.toArray Q (l.drop n) a w') := by
      funext a
      exact propext ⟨fun h => ⟨trivial, fun _ => h⟩, fun h => h.2 fun _ => undef⟩
    rw [e] at h2
    exact h2)
theorem raS {P : Program} {id : Nat} {Q : Exit → Act → World → Prop} {a0 : Act} {w : World} {l : List Oper} (n : Nat) (Z : List Nat) (I : World → Prop) (T : World → World → Prop) (J : (Nat → Bool) → (Nat → Value) → World → Prop) (g : (Nat → Value) → Act → Act)
    (h0 : J (fun _ => false) (fun _ => undef) w.drew) (hI : ∀ L f w, J L f w → I w) (hT : ∀ w, T w w) (hmono : ∀ L f w w', J L f w → T w w' → J L f w')
    (h : MixS P l.toArray n Z I T (fun a => AllZ (LooseStep P l Z J a) Z ∧ ∀ (f : Nat → Value) (w : World), J (fun j => Z.contains j) f w → wpList P l.toArray Q (l.drop n) (g f a) w) l 0 a0)
    (hm : P.follows .mixedOrders = true := by kernel_rfl) (hB : mixB l.toArray n Z = true := by kernel_rfl) (hg : ∀ f a, actGo (fun j => Z.contains j) f l 0 a = g f a := by exact fun _ _ => rfl) :
    (Code.region id l.toArray true).wp P Q a0 w := wp_region_mixS n Z I T J g hm hB hg h0 hI hT hmono h
theorem raT {P : Program} {id : Nat} {Q : Exit → Act → World → Prop} {a0 : Act} {w : World} {l : List Oper} (n : Nat)
    (h : MixS P l.toArray n [] (Grew w) Grew (fun a => ∀ (w' : World), Grew w w' → wpList P l.toArray Q (l.drop n) a w') l 0 a0)
    (hm : P.follows .mixedOrders = true := by kernel_rfl) (hB : mixB l.toArray n [] = true := by kernel_rfl) (hg : ∀ f a, actGo (fun j => ([] : List Nat).contains j) f l 0 a = a := by exact fun _ _ => rfl) : (Code.region id l.toArray true).wp P Q a0 w :=
  wp_region_still n hm hB hg h
end Go.Proofs.YtlgcdneiebjkcaaGreatDoor
set_option linter.unusedSectionVars false
set_option linter.unusedSimpArgs false
namespace Go.Proofs.YtlgcdneiebjkcaaGreatDoor
open Go.RowKit Go.Maps
attribute [local go_sem] Oper.semAt_some
theorem intFlat_get (us : List Int) (j : Nat) (hj : j < us.length) : (intFlat us)[j]? = some (.int .i64 (us[j]?.getD 0)) := by
  unfold intFlat
  rw [List.getElem?_map, List.getElem?_eq_getElem hj]; rfl
theorem cloneI_any (w : World) (a : Option Addr) (n cap : Nat) (us : List Int) (hn : n = us.length) (hA : IntsAt w a us) (hf : SlForm a cap) (hx : us.length ≤ 1000000) :
    Calls Tryz.prog 39 #[.slice a n cap] w fun e w' => ∃ a' c', e = .returned (.slice a' n c') ∧ w'.ownsRow w.heap.size 3 1 (.slice a' n c') us.length (intFlat us) ∧ Grew w w' := by
  subst hn
  rcases Nat.eq_zero_or_pos us.length with h0 | h0
  · have e := List.eq_nil_of_length_eq_zero h0
    subst e
    rcases hf with ⟨rfl, rfl⟩ | ⟨b, off, rfl⟩
    · exact (cloneNilI64 w).mono fun e w' ⟨he, hg⟩ => ⟨_, _, he, World.ownsRow_nil _ _ _ _, hg⟩
    · exact (cloneZeroI64 w b off cap).mono fun e w' ⟨he, hr, hg⟩ => ⟨_, _, he, hr, hg⟩
  · rcases hA with h1 | ⟨b, off, rfl, hb, hR⟩
    · rw [h1] at h0; simp at h0
    · refine (cloneI64 w b off us.length cap h0 hx (intFlat us) (by rw [intFlat_length]; omega) (fun j u hj => ?_) (intFlat_one us)).mono fun e w' ⟨g, cap, he, hr, hg⟩ => ⟨_, _, he, hr, hg⟩
      have hjl : j < us.length := by have := (List.getElem?_eq_some_iff.1 hj).1; rwa [intFlat_length] at this
      rw [intFlat_get us j hjl] at hj
      cases hj
      exact hR j hjl
end Go.Proofs.YtlgcdneiebjkcaaGreatDoor
namespace Go.Proofs.YtlgcdneiebjkcaaGreatDoor
open Go.RowKit Go.Maps
theorem loose_of2 {P : Program} {l : List Oper} {Z : List Nat} {J : (Nat → Bool) → (Nat → Value) → World → Prop} {a : Act} {i : Nat} {o : Oper} (ho : l[i]? = some o) (g : (Nat → Value) → Act → Act)
    (hg : ∀ f a, actGo (fun j => Z.contains j && (depsOf o).contains j) f l 0 a = g f a)
    (h : ∀ (L : Nat → Bool) (f : Nat → Value) (w : World), J L f w → L i = false → (∀ j, Z.contains j = true → j ∈ depsOf o → L j = true) → Region.wanted o (yielded l.toArray (g f a).tmps) = true ∧ uponV P (fun v w' => J (plus L i) (updV f i v) w') ((execOp (g f a).eval o).run P w)) : LooseStep P l Z J a i := by
  intro o' ho' L f w hi hL hV
  have : o = o' := Option.some.inj (ho.symm.trans ho')
  subst this
  rw [hg]
  obtain ⟨h1, h2⟩ := h L f w hi hL hV
  rw [if_pos h1]
  exact h2
theorem la2 {P : Program} {l : List Oper} {Z : List Nat} {J : (Nat → Bool) → (Nat → Value) → World → Prop} {a : Act} {i : Nat} {o : Oper} (ho : l[i]? = some o) (g : (Nat → Value) → Act → Act)
    (h : ∀ (L : Nat → Bool) (f : Nat → Value) (w : World), J L f w → L i = false → (∀ j, Z.contains j = true → j ∈ depsOf o → L j = true) → Region.wanted o (yielded l.toArray (g f a).tmps) = true ∧ uponV P (fun v w' => J (plus L i) (updV f i v) w') ((execOp (g f a).eval o).run P w))
    (hg : ∀ f a, actGo (fun j => Z.contains j && (depsOf o).contains j) f l 0 a = g f a := by exact fun _ _ => rfl) : LooseStep P l Z J a i := loose_of2 ho g hg h
structure JT (vs : Nat → Option Value) (od : List (Nat × Nat)) (s : Nat) (R0 R1 : World → Prop) (X : Nat → Option (World → Value → Prop)) (L : Nat → Bool) (f : Nat → Value) (x : World) : Prop where
  val : ∀ i v, L i = true → vs i = some v → f i = v
  ord : ∀ p ∈ od, L p.1 = true → L p.2 = true
  a : L s = false → R0 x
  d : L s = true → R1 x
  ex : ∀ i p, X i = some p → L i = true → p x (f i)
  xo : ∀ i p, X i = some p → L i = true → L s = true
structure StT (R0 R1 : World → Prop) (X : Nat → Option (World → Value → Prop)) : Prop where
  r0 : ∀ x x', Grew x x' → R0 x → R0 x'
  r1 : ∀ x x', Grew x x' → R1 x → R1 x'
  x : ∀ i p, X i = some p → ∀ x x' v, Grew x x' → p x v → p x' v
section
variable {vs : Nat → Option Value} {od : List (Nat × Nat)} {s : Nat} {R0 R1 : World → Prop} {X : Nat → Option (World → Value → Prop)} {L : Nat → Bool} {f : Nat → Value} {x x' : World}
theorem JT.start (h : R0 x) : JT vs od s R0 R1 X (fun _ => false) f x :=
  ⟨fun _ _ h => (by cases h), fun _ _ h => (by cases h), fun _ => h, fun h => (by cases h), fun _ _ _ h => (by cases h), fun _ _ _ h => (by cases h)⟩
theorem JT.more (st : StT R0 R1 X) (h : JT vs od s R0 R1 X L f x) (g : Grew x x') : JT vs od s R0 R1 X L f x' :=
  ⟨h.val, h.ord, fun hl => st.r0 _ _ g (h.a hl), fun hl => st.r1 _ _ g (h.d hl), fun i p hp hl => st.x i p hp _ _ _ g (h.ex i p hp hl), h.xo⟩
theorem plus_ne {L : Nat → Bool} {i j : Nat} (h : j ≠ i) : plus L i j = L j := by simp only [plus, if_neg h]
theorem plus_on {L : Nat → Bool} {i : Nat} : plus L i i = true := by simp [plus]
theorem plus_up {L : Nat → Bool} {i j : Nat} (h : L j = true) : plus L i j = true := by simp only [plus]; split; rfl; exact h
theorem ord_plus {od : List (Nat × Nat)} {L : Nat → Bool} {i : Nat} (h : ∀ p ∈ od, L p.1 = true → L p.2 = true) (ho : ∀ p ∈ od, p.1 = i → L p.2 = true) : ∀ p ∈ od, plus L i p.1 = true → plus L i p.2 = true := by
  intro p hp hl
  by_cases hi : p.1 = i
  · exact plus_up (ho p hp hi)
  · rw [plus_ne hi] at hl; exact plus_up (h p hp hl)
theorem val_plus {vs : Nat → Option Value} {L : Nat → Bool} {f : Nat → Value} {i : Nat} {v : Value} (h : ∀ i v, L i = true → vs i = some v → f i = v) (hv : ∀ u, vs i = some u → v = u) : ∀ j u, plus L i j = true → vs j = some u → updV f i v j = u := by
  intro j u hl hu
  by_cases hj : j = i
  · subst hj; rw [updV_same]; exact hv u hu
  · rw [plus_ne hj] at hl; rw [updV_ne hj]; exact h j u hl hu
theorem JT.put (h : JT vs od s R0 R1 X L f x) (i : Nat) (v : Value) (hv : vs i = some v) (hs : s ≠ i) (hX : X i = none) (ho : ∀ p ∈ od, p.1 = i → L p.2 = true) : JT vs od s R0 R1 X (plus L i) (updV f i v) x := by
  refine ⟨val_plus h.val (fun u hu => by rw [hv] at hu; exact Option.some.inj hu), ord_plus h.ord ho, fun hl => h.a (by rwa [plus_ne hs] at hl), fun hl => h.d (by rwa [plus_ne hs] at hl), fun j p hp hl => ?_, fun j p hp hl => ?_⟩
  · have hj : j ≠ i := fun e => by subst e; rw [hX] at hp; cases hp
    rw [plus_ne hj] at hl
    rw [updV_ne hj]; exact h.ex j p hp hl
  · have hj : j ≠ i := fun e => by subst e; rw [hX] at hp; cases hp
    rw [plus_ne hj] at hl
    exact plus_up (h.xo j p hp hl)
end
end Go.Proofs.YtlgcdneiebjkcaaGreatDoor
