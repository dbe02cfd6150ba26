/- A past in memory behind a store of a key's new row, behind a removal of a key. -/
import Derived.Test.YtapchoppcaacdaaGreatDoorPast5
set_option linter.unusedVariables false
namespace Go.Proofs.YtapchoppcaacdaaGreatDoor
open Go.RowKit Go.Maps Go.Sort
namespace Pl
noncomputable def setK (K : ByteArray → List Ch) (k : ByteArray) (ys : List Ch) (s : ByteArray) : List Ch := open Classical in if s = k then ys else K s
theorem setK_same (K : ByteArray → List Ch) (k : ByteArray) (ys : List Ch) : setK K k ys k = ys := by unfold setK; rw [if_pos rfl]
theorem setK_other (K : ByteArray → List Ch) (k : ByteArray) (ys : List Ch) (s : ByteArray) (h : s ≠ k) : setK K k ys s = K s := by unfold setK; rw [if_neg h]
end Pl

theorem past_sv {w : World} {F : Nat → Prop} {pb mb n : Nat} {f : Lit → Option Value} {K : ByteArray → List Ch} {fl : Int} (h : PastIs w F pb mb f n K fl) {k : ByteArray} {sv : Value} (hsv : (f (slit k)).getD nilS = sv) : ∀ g, sv.ownBlock = some g → F g ∧ g ≠ pb ∧ g ≠ mb := by
  intro g hg
  cases hf : f (slit k) with
  | none => rw [hf] at hsv; subst hsv; cases hg
  | some v => rw [hf] at hsv; subst hsv; exact h.foot _ _ _ hf hg

theorem past_put {w w2 w3 : World} {F : Nat → Prop} {pb mb n m : Nat} {f : Lit → Option Value} {K : ByteArray → List Ch} {fl : Int} (h : PastIs w F pb mb f n K fl) (hF : ∀ j, F j → j < w.heap.size) (k : ByteArray) (sv : Value) (hsv : (f (slit k)).getD nilS = sv) (ys : List Ch) (hys : ys ≠ []) (hlen : ys.length ≤ m) (hnm : n ≤ m)
    (gg capg : Nat) (hown : w2.ownsRow 0 104 4 (.slice (some ⟨gg, 0, none⟩) ys.length capg) ys.length (chFlat ys)) (g2 : Only (fun j => some j = sv.ownBlock) w w2) (hat : sv.ownBlock = some gg ∨ w.heap.size ≤ gg) (hlt : gg < w2.heap.size)
    (hlm3 : LMap w3 Tryz.prog 9 mb m (lset f (slit k) (some (.slice (some ⟨gg, 0, none⟩) ys.length capg)))) (htn3 : Only (fun j => j = mb) w2 w3) :
    Only F w w3 ∧ ∃ F', PastIs w3 F' pb mb (lset f (slit k) (some (.slice (some ⟨gg, 0, none⟩) ys.length capg))) m (Pl.setK K k ys) fl ∧ ∀ j, F' j → F j ∨ w.heap.size ≤ j ∧ j < w3.heap.size := by
  have hsF := past_sv h hsv
  have hmbF : F mb := h.foot1
  have hmb : mb < w.heap.size := h.lm.lt
  have g3 : Only (fun j => some j = sv.ownBlock ∨ j = mb) w w3 := (g2.mono fun j hj => .inl (.inl hj)).then (htn3.mono fun j hj => .inl (.inr hj))
  have hgg : F gg ∧ gg ≠ pb ∧ gg ≠ mb ∨ w.heap.size ≤ gg := by
    rcases hat with e | e
    · exact .inl (hsF gg e)
    · exact .inr e
  have hpb : pb < w.heap.size := cell_lt h.map0
  have hggpb : gg ≠ pb := by rcases hgg with ⟨_, e, _⟩ | e; exact e; omega
  have hggmb : gg ≠ mb := by rcases hgg with ⟨_, _, e⟩ | e; exact e; omega
  have hsz3 : w2.heap.size ≤ w3.heap.size := htn3.size
  have nS : ¬ (some pb = sv.ownBlock ∨ pb = mb) := by
    rintro (e | e)
    · exact (hsF pb e.symm).2.1 rfl
    · exact h.ne e
  refine ⟨g3.mono fun j hj => .inl ?_, fun j => F j ∨ j = gg, ⟨?_, ?_, ?_, hlm3, .inl h.foot0, .inl hmbF, ?_, ?_, ?_, h.ne, ?_, ?_⟩, ?_⟩
  · rcases hj with e | rfl
    · exact (hsF j e.symm).1
    · exact hmbF
  · exact (g3.cell (cell_lt h.map0) nS 0).trans h.map0
  · exact (g3.cell (cell_lt h.map0) nS 1).trans h.flr
  · exact (g3.frozen (cell_lt h.map0) nS 1).trans h.fz
  · intro s
    by_cases hs : s = k
    · subst hs
      rw [lset_same, Pl.setK_same]
      exact ownsRow_only htn3 hown (fun b hb e => hggmb (by cases hb; exact e))
    · rw [lset_other _ _ _ _ (fun e => hs (slit_inj e)), Pl.setK_other _ _ _ _ hs]
      refine ownsRow_only g3 (h.row s) ?_
      intro b hb
      cases hf : f (slit s) with
      | none => rw [hf] at hb; cases hb
      | some v =>
        rw [hf] at hb
        rintro (e | e)
        · cases hc : f (slit k) with
          | none => rw [hc] at hsv; subst hsv; cases e
          | some u => rw [hc] at hsv; subst hsv; exact hs (h.apart s k v u b hf hc hb e.symm)
        · exact (h.foot _ _ _ hf hb).2.2 e
  · intro s
    by_cases hs : s = k
    · subst hs; rw [lset_same, Pl.setK_same]; cases ys with | nil => exact absurd rfl hys | cons a l => rfl
    · rw [lset_other _ _ _ _ (fun e => hs (slit_inj e)), Pl.setK_other _ _ _ _ hs]; exact h.pres s
  · intro s
    by_cases hs : s = k
    · subst hs; rw [Pl.setK_same]; exact hlen
    · rw [Pl.setK_other _ _ _ _ hs]; have := h.len s; omega
  · intro s v g hf hg
    by_cases hs : s = k
    · subst hs; rw [lset_same] at hf; cases hf; cases hg; exact ⟨.inr rfl, hggpb, hggmb⟩
    · rw [lset_other _ _ _ _ (fun e => hs (slit_inj e))] at hf
      obtain ⟨q1, q2⟩ := h.foot s v g hf hg
      exact ⟨.inl q1, q2⟩
  · intro s t u v g hu hv hgu hgv
    have key : ∀ s v, s ≠ k → f (slit s) = some v → v.ownBlock = some gg → False := by
      intro s v hs hv hg
      rcases hat with e | e
      · cases hc : f (slit k) with
        | none => rw [hc] at hsv; subst hsv; cases e
        | some u => rw [hc] at hsv; subst hsv; exact hs (h.apart s k v u gg hv hc hg e)
      · have := hF _ (h.foot s v gg hv hg).1
        omega
    by_cases hs : s = k
    · by_cases ht : t = k
      · rw [hs, ht]
      · subst hs
        rw [lset_same] at hu; cases hu; cases hgu
        rw [lset_other _ _ _ _ (fun e => ht (slit_inj e))] at hv
        exact (key t v ht hv hgv).elim
    · by_cases ht : t = k
      · subst ht
        rw [lset_same] at hv; cases hv; cases hgv
        rw [lset_other _ _ _ _ (fun e => hs (slit_inj e))] at hu
        exact (key s u hs hu hgu).elim
      · rw [lset_other _ _ _ _ (fun e => hs (slit_inj e))] at hu
        rw [lset_other _ _ _ _ (fun e => ht (slit_inj e))] at hv
        exact h.apart s t u v g hu hv hgu hgv
  · intro j hj
    rcases hj with hj | rfl
    · exact .inl hj
    · rcases hgg with hgg | hgg
      · exact .inl hgg.1
      · exact .inr ⟨hgg, by omega⟩

theorem past_drop {w w2 w3 : World} {F : Nat → Prop} {pb mb n m : Nat} {f g : Lit → Option Value} {K : ByteArray → List Ch} {fl : Int} (h : PastIs w F pb mb f n K fl) (k : ByteArray) (sv : Value) (hsv : (f (slit k)).getD nilS = sv) (hnm : n ≤ m)
    (g2 : Only (fun j => some j = sv.ownBlock) w w2) (hg1 : g (slit k) = none) (hg2 : ∀ s, s ≠ k → g (slit s) = f (slit s))
    (hlm3 : LMap w3 Tryz.prog 9 mb m g) (htn3 : Only (fun j => j = mb) w2 w3) :
    Only F w w3 ∧ PastIs w3 F pb mb g m (Pl.setK K k []) fl := by
  have hsF := past_sv h hsv
  have g3 : Only (fun j => some j = sv.ownBlock ∨ j = mb) w w3 := (g2.mono fun j hj => .inl (.inl hj)).then (htn3.mono fun j hj => .inl (.inr hj))
  have nS : ¬ (some pb = sv.ownBlock ∨ pb = mb) := by
    rintro (e | e)
    · exact (hsF pb e.symm).2.1 rfl
    · exact h.ne e
  refine ⟨g3.mono fun j hj => .inl ?_, ⟨?_, ?_, ?_, hlm3, h.foot0, h.foot1, ?_, ?_, ?_, h.ne, ?_, ?_⟩⟩
  · rcases hj with e | rfl
    · exact (hsF j e.symm).1
    · exact h.foot1
  · exact (g3.cell (cell_lt h.map0) nS 0).trans h.map0
  · exact (g3.cell (cell_lt h.map0) nS 1).trans h.flr
  · exact (g3.frozen (cell_lt h.map0) nS 1).trans h.fz
  · intro s
    by_cases hs : s = k
    · subst hs
      rw [hg1, Pl.setK_same]
      exact World.ownsRow_nil _ _ _ _
    · rw [hg2 s hs, Pl.setK_other _ _ _ _ hs]
      refine ownsRow_only g3 (h.row s) ?_
      intro b hb
      cases hf : f (slit s) with
      | none => rw [hf] at hb; cases hb
      | some v =>
        rw [hf] at hb
        rintro (e | e)
        · cases hc : f (slit k) with
          | none => rw [hc] at hsv; subst hsv; cases e
          | some u => rw [hc] at hsv; subst hsv; exact hs (h.apart s k v u b hf hc hb e.symm)
        · exact (h.foot _ _ _ hf hb).2.2 e
  · intro s
    by_cases hs : s = k
    · subst hs; rw [hg1, Pl.setK_same]; rfl
    · rw [hg2 s hs, Pl.setK_other _ _ _ _ hs]; exact h.pres s
  · intro s
    by_cases hs : s = k
    · subst hs; rw [Pl.setK_same]; exact Nat.zero_le _
    · rw [Pl.setK_other _ _ _ _ hs]; have := h.len s; omega
  · intro s v g' hf hg
    by_cases hs : s = k
    · subst hs; rw [hg1] at hf; cases hf
    · rw [hg2 s hs] at hf; exact h.foot s v g' hf hg
  · intro s t u v g' hu hv hgu hgv
    by_cases hs : s = k
    · subst hs; rw [hg1] at hu; cases hu
    · by_cases ht : t = k
      · subst ht; rw [hg1] at hv; cases hv
      · rw [hg2 s hs] at hu
        rw [hg2 t ht] at hv
        exact h.apart s t u v g' hu hv hgu hgv
end Go.Proofs.YtapchoppcaacdaaGreatDoor
