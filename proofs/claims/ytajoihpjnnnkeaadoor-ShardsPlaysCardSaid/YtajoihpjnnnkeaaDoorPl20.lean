/- tidewaterlaw20.ShardsPlays: the map, the document's map, and a copy of the map: what stays of them, call by call. Then: tidewaterlaw20.ShardsPlays: what holds inside the region that counts and applies. -/
import Derived.Test.YtajoihpjnnnkeaaDoorP20
import Derived.Test.YtajoihpjnnnkeaaDoorA20c
import Derived.Test.YtajoihpjnnnkeaaDoorCpy20
import Derived.Test.YtajoihpjnnnkeaaDoorRgn3
set_option linter.unusedVariables false
set_option linter.unusedSectionVars false
set_option linter.unusedSimpArgs false
namespace Go.Proofs.YtajoihpjnnnkeaaDoor
open Go.RowKit Go.Maps

/-- The map (state s), the document's (state t), a copy of the map (state c), the box bb of an act; base: the size of the heap at first. -/
structure TriB (w0 W : World) (sb : Nat) (s : ShSt) (mb : Nat) (t : MdSt) (cb : Nat) (c : ShSt) (bb : Nat) (A : Ac) : Prop where
  ex : ∃ Fs Fm Fc, StAt W Fs sb s ∧ MdAt W Fm mb t ∧ StAt W Fc cb c ∧ (∀ j, Fs j → w0.heap.size ≤ j) ∧ (∀ j, Fm j → w0.heap.size ≤ j) ∧ (∀ j, Fc j → w0.heap.size ≤ j) ∧ (∀ j, Fs j → ¬ Fm j) ∧ (∀ j, Fs j → ¬ Fc j) ∧ (∀ j, Fm j → ¬ Fc j) ∧ ¬ Fs bb ∧ ¬ Fm bb ∧ ¬ Fc bb
  grew : Grew w0 W
  cells : ∀ i v, A.vals[i]? = some v → W.cell? ⟨bb, i, none⟩ = some v
  blt : bb < W.heap.size
/-- The two maps. -/
structure Duo (w0 W : World) (sb : Nat) (s : ShSt) (mb : Nat) (t : MdSt) : Prop where
  ex : ∃ Fs Fm, StAt W Fs sb s ∧ MdAt W Fm mb t ∧ (∀ j, Fs j → w0.heap.size ≤ j) ∧ (∀ j, Fm j → w0.heap.size ≤ j) ∧ (∀ j, Fs j → ¬ Fm j)
  grew : Grew w0 W
theorem StAt.lt {w : World} {F : Nat → Prop} {sb : Nat} {s : ShSt} (h : StAt w F sb s) : ∀ j, F j → j < w.heap.size := by obtain ⟨_, _, h⟩ := h; exact h.lt
theorem MdAt.lt {w : World} {F : Nat → Prop} {mb : Nat} {s : MdSt} (h : MdAt w F mb s) : ∀ j, F j → j < w.heap.size := by obtain ⟨_, _, _, h⟩ := h; exact h.lt
theorem StAt.kept {w w' : World} {F S : Nat → Prop} {sb : Nat} {s : ShSt} (h : StAt w F sb s) (g : Only S w w') (hS : ∀ j, F j → ¬ S j) : StAt w' F sb s := by
  obtain ⟨v, ve, h⟩ := h
  exact ⟨v, ve, h.kept g hS⟩
section
variable {w0 W W' : World} {sb mb cb bb : Nat} {s s' c c' : ShSt} {t t' : MdSt} {A : Ac}
theorem TriB.more (h : TriB w0 W sb s mb t cb c bb A) (g : Grew W W') : TriB w0 W' sb s mb t cb c bb A := by
  obtain ⟨⟨Fs, Fm, Fc, h1, h2, h3, r⟩, hg, hc, hb⟩ := h
  exact ⟨⟨Fs, Fm, Fc, h1.grew g, h2.grew g, h3.grew g, r⟩, hg.trans g, fun i v hv => (g.cells.1 _ _ hb).trans (hc i v hv), Nat.lt_of_lt_of_le hb g.size⟩
theorem Duo.more (h : Duo w0 W sb s mb t) (g : Grew W W') : Duo w0 W' sb s mb t := by
  obtain ⟨⟨Fs, Fm, h1, h2, r⟩, hg⟩ := h
  exact ⟨⟨Fs, Fm, h1.grew g, h2.grew g, r⟩, hg.trans g⟩
theorem TriB.duo (h : TriB w0 W sb s mb t cb c bb A) : Duo w0 W sb s mb t := by
  obtain ⟨⟨Fs, Fm, Fc, h1, h2, h3, r1, r2, r3, r4, r5, r6, _⟩, hg, _⟩ := h
  exact ⟨⟨Fs, Fm, h1, h2, r1, r2, r4⟩, hg⟩
/-- The copy and the document's map. -/
theorem TriB.duoC (h : TriB w0 W sb s mb t cb c bb A) : Duo w0 W cb c mb t := by
  obtain ⟨⟨Fs, Fm, Fc, h1, h2, h3, r1, r2, r3, r4, r5, r6, _⟩, hg, _⟩ := h
  exact ⟨⟨Fc, Fm, h3, h2, r3, r2, fun j hj hm => r6 j hm hj⟩, hg⟩
/-- An act in a box, and a copy of the map. -/
theorem Duo.box (h : Duo w0 W sb s mb t) (A : Ac) (T : TypeId) {W2 : World} (g : Grew (W.alloc (.cells A.vals.toArray T)) W2) {Fc : Nat → Prop} (hc : StAt W2 Fc cb s) (hF : ∀ j, Fc j → (W.alloc (.cells A.vals.toArray T)).heap.size ≤ j) : TriB w0 W2 sb s mb t cb s W.heap.size A := by
  obtain ⟨⟨Fs, Fm, h1, h2, r1, r2, r3⟩, hg⟩ := h
  have l1 := h1.lt
  have l2 := h2.lt
  have hs : (W.alloc (.cells A.vals.toArray T)).heap.size = W.heap.size + 1 := by simp
  have hgw := hg.size
  have gg := ((Grew.refl W).alloc (.cells A.vals.toArray T)).trans g
  have hbb : W.heap.size < (W.alloc (.cells A.vals.toArray T)).heap.size := by omega
  refine ⟨⟨Fs, Fm, Fc, h1.grew gg, h2.grew gg, hc, r1, r2, fun j hj => ?_, r3, fun j hj hc' => ?_, fun j hj hc' => ?_, fun h => ?_, fun h => ?_, fun h => ?_⟩, hg.trans gg, fun i v hv => ?_, Nat.lt_of_lt_of_le hbb g.size⟩
  · have := hF j hj; omega
  · have := hF j hc'; have := l1 j hj; omega
  · have := hF j hc'; have := l2 j hj; omega
  · have := l1 _ h; omega
  · have := l2 _ h; omega
  · have := hF _ h; omega
  · exact (g.cells.1 _ _ hbb).trans ((cell_of_row _ _ _ _ _ _ (heap_alloc_new W _)).trans (by simpa using hv))
theorem TriB.callS (h : TriB w0 W sb s mb t cb c bb A) {P : Program} {fn : FuncId} {args : Array Value} {r0 : Value} (hT : ∀ Fs, StAt W Fs sb s → Calls P fn args W fun r w' => r = .returned r0 ∧ Only Fs W w' ∧ ∃ F', StAt w' F' sb s' ∧ ∀ j, F' j → Fs j ∨ W.heap.size ≤ j) :
    Calls P fn args W fun r w' => r = .returned r0 ∧ TriB w0 w' sb s' mb t cb c bb A := by
  obtain ⟨⟨Fs, Fm, Fc, h1, h2, h3, r1, r2, r3, r4, r5, r6, n1, n2, n3⟩, hg, hcl, hb⟩ := h
  refine (hT Fs h1).mono ?_
  rintro r w' ⟨rfl, ho, F', h', hF'⟩
  have l2 := h2.lt
  have l3 := h3.lt
  refine ⟨rfl, ⟨⟨F', Fm, Fc, h', h2.kept ho (fun j hj hs => r4 j hs hj), h3.kept ho (fun j hj hs => r5 j hs hj), fun j hj => ?_, r2, r3, fun j hj hm => ?_, fun j hj hm => ?_, r6, fun h => ?_, n2, n3⟩, ((hg.only Fs).then ho).grew r1, fun i v hv => (ho.cell hb n1 i).trans (hcl i v hv), Nat.lt_of_lt_of_le hb ho.size⟩⟩
  · rcases hF' j hj with a | a
    · exact r1 j a
    · exact Nat.le_trans hg.size a
  · rcases hF' j hj with a | a
    · exact r4 j a hm
    · have := l2 j hm; omega
  · rcases hF' j hj with a | a
    · exact r5 j a hm
    · have := l3 j hm; omega
  · rcases hF' _ h with a | a
    · exact n1 a
    · omega
theorem TriB.callC (h : TriB w0 W sb s mb t cb c bb A) {P : Program} {fn : FuncId} {args : Array Value} {r0 : Value} (hT : ∀ Fc, StAt W Fc cb c → Calls P fn args W fun r w' => r = .returned r0 ∧ Only Fc W w' ∧ ∃ F', StAt w' F' cb c' ∧ ∀ j, F' j → Fc j ∨ W.heap.size ≤ j) :
    Calls P fn args W fun r w' => r = .returned r0 ∧ TriB w0 w' sb s mb t cb c' bb A := by
  obtain ⟨⟨Fs, Fm, Fc, h1, h2, h3, r1, r2, r3, r4, r5, r6, n1, n2, n3⟩, hg, hcl, hb⟩ := h
  refine (hT Fc h3).mono ?_
  rintro r w' ⟨rfl, ho, F', h', hF'⟩
  have l1 := h1.lt
  have l2 := h2.lt
  refine ⟨rfl, ⟨⟨Fs, Fm, F', h1.kept ho (fun j hj hc => r5 j hj hc), h2.kept ho (fun j hj hc => r6 j hj hc), h', r1, r2, fun j hj => ?_, r4, fun j hj hc => ?_, fun j hj hm => ?_, n1, n2, fun h => ?_⟩, ((hg.only Fc).then ho).grew r3, fun i v hv => (ho.cell hb n3 i).trans (hcl i v hv), Nat.lt_of_lt_of_le hb ho.size⟩⟩
  · rcases hF' j hj with a | a
    · exact r3 j a
    · exact Nat.le_trans hg.size a
  · rcases hF' j hc with a | a
    · exact r5 j hj a
    · have := l1 j hj; omega
  · rcases hF' j hm with a | a
    · exact r6 j hj a
    · have := l2 j hj; omega
  · rcases hF' _ h with a | a
    · exact n3 a
    · omega
theorem TriB.callM (h : TriB w0 W sb s mb t cb c bb A) {P : Program} {fn : FuncId} {args : Array Value} {r0 : Value} (hT : ∀ Fm, MdAt W Fm mb t → Calls P fn args W fun r w' => r = .returned r0 ∧ Only Fm W w' ∧ ∃ F', MdAt w' F' mb t' ∧ ∀ j, F' j → Fm j ∨ W.heap.size ≤ j) :
    Calls P fn args W fun r w' => r = .returned r0 ∧ TriB w0 w' sb s mb t' cb c bb A := by
  obtain ⟨⟨Fs, Fm, Fc, h1, h2, h3, r1, r2, r3, r4, r5, r6, n1, n2, n3⟩, hg, hcl, hb⟩ := h
  refine (hT Fm h2).mono ?_
  rintro r w' ⟨rfl, ho, F', h', hF'⟩
  have l1 := h1.lt
  have l3 := h3.lt
  refine ⟨rfl, ⟨⟨Fs, F', Fc, h1.kept ho (fun j hj hm => r4 j hj hm), h', h3.kept ho (fun j hj hm => r6 j hm hj), r1, fun j hj => ?_, r3, fun j hj hm => ?_, r5, fun j hj hm => ?_, n1, fun h => ?_, n3⟩, ((hg.only Fm).then ho).grew r2, fun i v hv => (ho.cell hb n2 i).trans (hcl i v hv), Nat.lt_of_lt_of_le hb ho.size⟩⟩
  · rcases hF' j hj with a | a
    · exact r2 j a
    · exact Nat.le_trans hg.size a
  · rcases hF' j hm with a | a
    · exact r4 j hj a
    · have := l1 j hj; omega
  · rcases hF' j hj with a | a
    · exact r6 j a hm
    · have := l3 j hm; omega
  · rcases hF' _ h with a | a
    · exact n2 a
    · omega
end

namespace Pl
def playT (l : List Ac) : MdSt := l.foldl (fun s a => apP20 s a.e a.at') MdSt.init
theorem playT_snoc (l : List Ac) (k : Nat) (hk : k < l.length) : playT (l.take (k + 1)) = apP20 (playT (l.take k)) (acAt l k).e (acAt l k).at' := by
  unfold playT
  rw [List.take_succ_eq_append_getElem hk, List.foldl_append, acAt_eq l k hk]; rfl
theorem twin_play (l : List Ac) : Twin (playP l) (playT l) := by
  have key : ∀ (l : List Ac) (s : ShSt) (t : MdSt) (n : Nat), Inv s n → Twin s t → Twin (l.foldl (fun s a => applyP s a.e a.at') s) (l.foldl (fun s a => apP20 s a.e a.at') t) := by
    intro l
    induction l with
    | nil => intro s t n _ h; exact h
    | cons a l ih => intro s t n hI h; exact ih _ _ _ (inv_apply hI a.e a.at') (twin_apply h hI a.e a.at')
  exact key l _ _ 0 inv_init twin_init
theorem small_play (l : List Ac) (hl : ∀ a ∈ l, a.e.key.size ≤ 300) : Small (playP l).xs := by
  have key : ∀ (l : List Ac) (s : ShSt), (∀ a ∈ l, a.e.key.size ≤ 300) → Small s.xs → Small (l.foldl (fun s a => applyP s a.e a.at') s).xs := by
    intro l
    induction l with
    | nil => intro s _ h; exact h
    | cons a l ih => intro s hl h; exact ih _ (fun b hb => hl b (List.mem_cons_of_mem _ hb)) (small_apply h (hl a List.mem_cons_self))
  exact key l _ hl small_init
theorem ev_play (acts l : List Ac) (hl : ∀ a ∈ l, a ∈ acts) : EvP acts (playP l) := by
  have key : ∀ (l : List Ac) (s : ShSt), (∀ a ∈ l, a ∈ acts) → EvP acts s → EvP acts (l.foldl (fun s a => applyP s a.e a.at') s) := by
    intro l
    induction l with
    | nil => intro s _ h; exact h
    | cons a l ih => intro s hl h; exact ih _ (fun b hb => hl b (List.mem_cons_of_mem _ hb)) (ev_apply h (hl a List.mem_cons_self))
  exact key l _ hl (ev_init acts)
end Pl
end Go.Proofs.YtajoihpjnnnkeaaDoor

set_option linter.unusedVariables false
set_option linter.unusedSectionVars false
set_option linter.unusedSimpArgs false
namespace Go.Proofs.YtajoihpjnnnkeaaDoor
open Go.RowKit Go.Maps

/-- A loose operation, of which J tells that it is wanted. -/
theorem loose_of' {P : Program} {l : List Oper} {Z : List Nat} {J : (Nat → Bool) → (Nat → Value) → World → Prop} {a : Act} {i : Nat} {o : Oper} (ho : l[i]? = some o) (g : (Nat → Value) → Act → Act)
    (hg : ∀ f a, actGo (fun j => Z.contains j && (depsOf o).contains j) f l 0 a = g f a)
    (h : ∀ (L : Nat → Bool) (f : Nat → Value) (w : World), J L f w → L i = false → (∀ j, Z.contains j = true → j ∈ depsOf o → L j = true) → Region.wanted o (yielded l.toArray (g f a).tmps) = true ∧ uponV P (fun v w' => J (plus L i) (updV f i v) w') ((execOp (g f a).eval o).run P w)) : LooseStep P l Z J a i := by
  intro o' ho' L f w hi hL hV
  have : o = o' := Option.some.inj (ho.symm.trans ho')
  subst this
  rw [hg]
  obtain ⟨h1, h2⟩ := h L f w hi hL hV
  rw [if_pos h1]
  exact h2

def ordP : List (Nat × Nat) := [(7, 3), (8, 7), (9, 8), (15, 9), (21, 15)]
structure JP (w0 : World) (sb mb cb bb : Nat) (s s' : ShSt) (t t' : MdSt) (c : ShSt) (A : Ac) (vs : List Value) (L : Nat → Bool) (f : Nat → Value) (x : World) : Prop where
  val : ∀ i v, L i = true → vs[i]? = some v → f i = v
  ord : ∀ p ∈ ordP, L p.1 = true → L p.2 = true
  a : L 15 = false → TriB w0 x sb s mb t cb c bb A
  b : L 15 = true → L 21 = false → TriB w0 x sb s' mb t cb c bb A
  d : L 21 = true → TriB w0 x sb s' mb t' cb c bb A
section
variable {w0 x x' : World} {sb mb cb bb : Nat} {s s' c : ShSt} {t t' : MdSt} {A : Ac} {vs : List Value} {L : Nat → Bool} {f : Nat → Value}
theorem JP.start (h : TriB w0 x sb s mb t cb c bb A) : JP w0 sb mb cb bb s s' t t' c A vs (fun _ => false) f x.drew :=
  ⟨fun _ _ h => (by cases h), fun _ _ h => (by cases h), fun _ => h.more (Grew.refl x).drew, fun h => (by cases h), fun h => (by cases h)⟩
theorem JP.any (h : JP w0 sb mb cb bb s s' t t' c A vs L f x) : Grew w0 x ∧ ∀ i v, A.vals[i]? = some v → x.cell? ⟨bb, i, none⟩ = some v := by
  cases h15 : L 15 with
  | false => have := h.a h15; exact ⟨this.grew, this.cells⟩
  | true =>
    cases h21 : L 21 with
    | false => have := h.b h15 h21; exact ⟨this.grew, this.cells⟩
    | true => have := h.d h21; exact ⟨this.grew, this.cells⟩
theorem JP.more (h : JP w0 sb mb cb bb s s' t t' c A vs L f x) (g : Grew x x') : JP w0 sb mb cb bb s s' t t' c A vs L f x' :=
  ⟨h.val, h.ord, fun a => (h.a a).more g, fun a b => (h.b a b).more g, fun a => (h.d a).more g⟩
theorem JP.pre7 (h : JP w0 sb mb cb bb s s' t t' c A vs L f x) (hL : L 7 = false) : L 15 = false := by
  cases h15 : L 15 with
  | false => rfl
  | true =>
    have h9 := h.ord (15, 9) (by decide) h15
    have h8 := h.ord (9, 8) (by decide) h9
    have h7 := h.ord (8, 7) (by decide) h8
    dsimp only at h7
    rw [hL] at h7; cases h7
theorem JP.pre3 (h : JP w0 sb mb cb bb s s' t t' c A vs L f x) (hL : L 3 = false) : L 15 = false := by
  cases h7 : L 7 with
  | false => exact h.pre7 h7
  | true =>
    have h3 := h.ord (7, 3) (by decide) h7
    dsimp only at h3
    rw [hL] at h3; cases h3
theorem JP.put (h : JP w0 sb mb cb bb s s' t t' c A vs L f x) (i : Nat) (v : Value) (hv : vs[i]? = some v) (h15 : 15 ≠ i) (h21 : 21 ≠ i) (ho : ∀ p ∈ ordP, p.1 = i → L p.2 = true) : JP w0 sb mb cb bb s s' t t' c A vs (plus L i) (updV f i v) x := by
  have e15 : plus L i 15 = L 15 := if_neg h15
  have e21 : plus L i 21 = L 21 := if_neg h21
  refine ⟨fun j u hj hu => ?_, fun p hp hj => ?_, by rw [e15]; exact h.a, by rw [e15, e21]; exact h.b, by rw [e21]; exact h.d⟩
  · by_cases e : j = i
    · subst e
      rw [updV_same]
      exact Option.some.inj (hv.symm.trans hu)
    · rw [updV_ne e]
      exact h.val j u (by simpa [plus, e] using hj) hu
  · have h2 : L p.2 = true := by
      by_cases e : p.1 = i
      · exact ho p hp e
      · exact h.ord p hp (by simpa [plus, e] using hj)
    unfold plus
    split
    · rfl
    · exact h2
theorem JP.putN (h : JP w0 sb mb cb bb s s' t t' c A vs L f x) (i : Nat) (v : Value) (hv : vs[i]? = some v) (hi : ∀ p ∈ ordP, p.1 ≠ i) : JP w0 sb mb cb bb s s' t t' c A vs (plus L i) (updV f i v) x :=
  h.put i v hv (hi (15, 9) (by decide)) (hi (21, 15) (by decide)) (fun p hp e => absurd e (hi p hp))
theorem JP.putO (h : JP w0 sb mb cb bb s s' t t' c A vs L f x) (i j : Nat) (v : Value) (hv : vs[i]? = some v) (h15 : 15 ≠ i) (h21 : 21 ≠ i) (hu : ∀ p ∈ ordP, p.1 = i → p.2 = j) (hj : L j = true) : JP w0 sb mb cb bb s s' t t' c A vs (plus L i) (updV f i v) x :=
  h.put i v hv h15 h21 (fun p hp e => by rw [hu p hp e]; exact hj)
theorem JP.put15 (h : JP w0 sb mb cb bb s s' t t' c A vs L f x) (hL : L 15 = false) (h9 : L 9 = true) (v : Value) (hv : vs[15]? = some v) (hT : TriB w0 x' sb s' mb t cb c bb A) : JP w0 sb mb cb bb s s' t t' c A vs (plus L 15) (updV f 15 v) x' := by
  have h21 : L 21 = false := by
    cases e : L 21 with
    | false => rfl
    | true =>
      have := h.ord (21, 15) (by decide) e
      dsimp only at this
      rw [hL] at this; cases this
  have e21 : plus L 15 21 = false := by unfold plus; rw [if_neg (by decide)]; exact h21
  refine ⟨fun j u hj hu => ?_, fun p hp hj => ?_, fun e => (by simp [plus] at e), fun _ _ => hT, fun e => (by rw [e21] at e; cases e)⟩
  · by_cases e : j = 15
    · subst e
      rw [updV_same]
      exact Option.some.inj (hv.symm.trans hu)
    · rw [updV_ne e]
      exact h.val j u (by simpa [plus, e] using hj) hu
  · have h2 : L p.2 = true := by
      by_cases e : p.1 = 15
      · have : ∀ p ∈ ordP, p.1 = 15 → p.2 = 9 := by decide
        rw [this p hp e]; exact h9
      · exact h.ord p hp (by simpa [plus, e] using hj)
    unfold plus
    split
    · rfl
    · exact h2
theorem JP.put21 (h : JP w0 sb mb cb bb s s' t t' c A vs L f x) (h15 : L 15 = true) (v : Value) (hv : vs[21]? = some v) (hT : TriB w0 x' sb s' mb t' cb c bb A) : JP w0 sb mb cb bb s s' t t' c A vs (plus L 21) (updV f 21 v) x' := by
  have e15 : plus L 21 15 = true := by unfold plus; rw [if_neg (by decide)]; exact h15
  refine ⟨fun j u hj hu => ?_, fun p hp hj => ?_, fun e => (by rw [e15] at e; cases e), fun _ e => (by simp [plus] at e), fun _ => hT⟩
  · by_cases e : j = 21
    · subst e
      rw [updV_same]
      exact Option.some.inj (hv.symm.trans hu)
    · rw [updV_ne e]
      exact h.val j u (by simpa [plus, e] using hj) hu
  · have h2 : L p.2 = true := by
      by_cases e : p.1 = 21
      · have : ∀ p ∈ ordP, p.1 = 21 → p.2 = 15 := by decide
        rw [this p hp e]; exact h15
      · exact h.ord p hp (by simpa [plus, e] using hj)
    unfold plus
    split
    · rfl
    · exact h2
end
end Go.Proofs.YtajoihpjnnnkeaaDoor
