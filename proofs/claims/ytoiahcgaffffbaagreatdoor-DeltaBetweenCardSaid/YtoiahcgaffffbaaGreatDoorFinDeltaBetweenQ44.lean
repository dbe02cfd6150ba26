/- RgnC, RdL: one text. -/
import Derived.Test.YtoiahcgaffffbaaGreatDoorFinDeltaBetweenQ4
import Derived.Test.YtoiahcgaffffbaaGreatDoorFinDeltaBetweenQ26
import Derived.Test.YtoiahcgaffffbaaGreatDoorFinDeltaBetweenQ39
namespace Go.Proofs.YtoiahcgaffffbaaGreatDoor
open Go.RowKit Go.Maps
structure JC (idx : List Nat) (M : Nat → (Nat → Value) → World → Prop) (L : Nat → Bool) (f : Nat → Value) (u : World) : Prop where
  ex : ∃ s, s ≤ idx.length ∧ (∀ j i, idx[j]? = some i → L i = decide (j < s)) ∧ M s f u
section
variable {idx : List Nat} {M : Nat → (Nat → Value) → World → Prop} {L : Nat → Bool} {f : Nat → Value} {u u' : World}
theorem JC.start (h : M 0 f u) : JC idx M (fun _ => false) f u := ⟨0, Nat.zero_le _, fun j i _ => by simp, h⟩
theorem JC.stage (h : JC idx M L f u) (j i : Nat) (hi : idx[j]? = some i) (hL : L i = false) (hp : ∀ k, j = k + 1 → ∃ i', idx[k]? = some i' ∧ L i' = true) : (∀ j' i', idx[j']? = some i' → L i' = decide (j' < j)) ∧ M j f u := by
  obtain ⟨s, hs, h1, h2⟩ := h.ex
  have e1 := h1 j i hi
  rw [hL] at e1
  have hsj : s ≤ j := by
    have := decide_eq_false_iff_not.1 e1.symm
    omega
  have hjs : j ≤ s := by
    cases j with
    | zero => exact Nat.zero_le _
    | succ k =>
      obtain ⟨i', hk, hLk⟩ := hp k rfl
      have e2 := h1 k i' hk
      rw [hLk] at e2
      have := decide_eq_true_iff.1 e2.symm
      omega
  obtain rfl : s = j := by omega
  exact ⟨h1, h2⟩
theorem JC.put (hn : idx.Nodup) (h : JC idx M L f u) (j i : Nat) (hi : idx[j]? = some i) (hL : L i = false) (hp : ∀ k, j = k + 1 → ∃ i', idx[k]? = some i' ∧ L i' = true) {v : Value} (hM : M (j + 1) (updV f i v) u') : JC idx M (plus L i) (updV f i v) u' := by
  obtain ⟨h1, _⟩ := h.stage j i hi hL hp
  obtain ⟨hj, hij⟩ := List.getElem?_eq_some_iff.1 hi
  refine ⟨j + 1, by omega, fun j' i' hi' => ?_, hM⟩
  by_cases e : i' = i
  · subst e
    obtain ⟨hj', hij'⟩ := List.getElem?_eq_some_iff.1 hi'
    have : j' = j := by
      rcases Nat.lt_trichotomy j' j with q | q | q
      · exact absurd (hij'.trans hij.symm) (List.pairwise_iff_getElem.1 hn j' j hj' hj q)
      · exact q
      · exact absurd (hij.trans hij'.symm) (List.pairwise_iff_getElem.1 hn j j' hj hj' q)
    subst this
    simp [plus]
  · rw [plus_ne e, h1 j' i' hi']
    have : j' ≠ j := fun q => e (by subst q; rw [hi] at hi'; exact (Option.some.inj hi').symm)
    exact decide_eq_decide.2 (by omega)
theorem JC.done (h : JC idx M L f u) (ha : ∀ i ∈ idx, L i = true) : M idx.length f u := by
  obtain ⟨s, hs, h1, h2⟩ := h.ex
  by_cases e : s = idx.length
  · exact e ▸ h2
  · have hlt : s < idx.length := by omega
    have q := h1 s _ (List.getElem?_eq_getElem hlt)
    rw [ha _ (List.getElem_mem hlt)] at q
    simp at q
end
end Go.Proofs.YtoiahcgaffffbaaGreatDoor
set_option linter.unusedVariables false
set_option linter.unusedSectionVars false
set_option linter.unusedSimpArgs false
namespace Go.Proofs.YtoiahcgaffffbaaGreatDoor
open Go.RowKit Go.Maps
theorem BtD.kept {w W X : World} {TC : TypeId} {db : Nat} {lo hi : ByteArray} {A : List Pr} {K : List ByteArray} {C : List (Int × An)} {vp vk vc : Value} (h : BtD w W TC db lo hi A K C vp vk vc) {S : Nat → Prop} (g : Only S W X) (hS : ∀ j, S j → w.heap.size ≤ j) (h1 : ¬ S db) (h2 : ∀ b, vp.ownBlock = some b → ¬ S b) (h3 : ∀ b, vk.ownBlock = some b → ¬ S b) (h4 : ∀ b, vc.ownBlock = some b → ¬ S b) : BtD w X TC db lo hi A K C vp vk vc :=
  have l : db < W.heap.size := cell_lt h.c0
  ⟨((h.grew.only _).then g).grew hS, h.new, (g.cell l h1 0).trans h.c0, (g.cell l h1 1).trans h.c1, h.p.kept g h1 h2, h.k.kept g h1 h3, h.c.kept g h1 h4, h.pk, h.pc, h.kc⟩
structure RdL (w W : World) (ib nb db : Nat) (lo hi : ByteArray) (A : List Pr) (K : List ByteArray) (C : List (Int × An)) (vp vk vc : Value) (rest : List Int) : Prop where
  d : BtD w W 137 db lo hi A K C vp vk vc
  inp : InAt W ib nb rest
  ib0 : w.heap.size ≤ ib
  ne : ib ≠ db ∧ nb ≠ db
  op : ∀ g, vp.ownBlock = some g → g ≠ ib ∧ g ≠ nb
  ok : ∀ g, vk.ownBlock = some g → g ≠ ib ∧ g ≠ nb
  oc : ∀ g, vc.ownBlock = some g → g ≠ ib ∧ g ≠ nb
section
variable {w W X X2 : World} {ib nb db : Nat} {lo hi : ByteArray} {A A' : List Pr} {K K' : List ByteArray} {C C' : List (Int × An)} {vp vk vc v' : Value} {rest rest' : List Int}
theorem RdL.turn (h : RdL w W ib nb db lo hi A K C vp vk vc rest) (g : Only (fun j => j = ib) W X) (hi' : InAt X ib nb rest') : RdL w X ib nb db lo hi A K C vp vk vc rest' :=
  ⟨h.d.kept g (fun j hj => by rw [hj]; exact h.ib0) (fun e => h.ne.1 e.symm) (fun b hb e => (h.op b hb).1 e) (fun b hb e => (h.ok b hb).1 e) (fun b hb e => (h.oc b hb).1 e), hi', h.ib0, h.ne, h.op, h.ok, h.oc⟩
theorem RdL.more (h : RdL w W ib nb db lo hi A K C vp vk vc rest) (g : Grew W X) : RdL w X ib nb db lo hi A K C vp vk vc rest := h.turn (g.only _) (h.inp.grew g)
theorem RdL.inKept (h : RdL w W ib nb db lo hi A K C vp vk vc rest) (g : Grew W X) {v : Value} (hg : X.grownBy X2 v.ownBlock) (i : Nat) (u : Value) (hv : ∀ b, v.ownBlock = some b → b ≠ ib ∧ b ≠ nb) : InAt (X2.setCell ⟨db, i, none⟩ u) ib nb rest :=
  ((h.inp.grew g).kept (Only.of_grownBy hg) (fun e => (hv _ e.symm).1 rfl) (fun e => (hv _ e.symm).2 rfl)).kept (Only.setCell X2 ⟨db, i, none⟩ u) (fun e => h.ne.1 e) (fun e => h.ne.2 e)
theorem RdL.fresh (h : RdL w W ib nb db lo hi A K C vp vk vc rest) (g : Grew W X) {v : Value} (how : ∀ b, v'.ownBlock = some b → v.ownBlock = some b ∨ b = X.heap.size) (hv : ∀ b, v.ownBlock = some b → b ≠ ib ∧ b ≠ nb) : ∀ b, v'.ownBlock = some b → b ≠ ib ∧ b ≠ nb := fun b hb => by
  rcases how b hb with q | q
  · exact hv b q
  · have := h.inp.lt
    have := g.size
    omega
theorem RdL.addP (h : RdL w W ib nb db lo hi A K C vp vk vc rest) (g : Grew W X) (hr : X2.ownsRow w.heap.size 83 3 v' A'.length (prFlat A')) (hg : X.grownBy X2 vp.ownBlock) (how : ∀ b, v'.ownBlock = some b → vp.ownBlock = some b ∨ b = X.heap.size) :
    RdL w (X2.setCell ⟨db, 2, none⟩ v') ib nb db lo hi A' K C v' vk vc rest ∧ X2.cell? ⟨db, 2, none⟩ = some vp ∧ X2.frozen? ⟨db, 2, none⟩ = false := by
  obtain ⟨h1, h2, h3⟩ := h.d.addP g hr hg how
  exact ⟨⟨h1, h.inKept g hg 2 v' h.op, h.ib0, h.ne, h.fresh g how h.op, h.ok, h.oc⟩, h2, h3⟩
theorem RdL.addK (h : RdL w W ib nb db lo hi A K C vp vk vc rest) (g : Grew W X) (hr : X2.ownsRow w.heap.size 9 1 v' K'.length (strFlat K')) (hg : X.grownBy X2 vk.ownBlock) (how : ∀ b, v'.ownBlock = some b → vk.ownBlock = some b ∨ b = X.heap.size) :
    RdL w (X2.setCell ⟨db, 3, none⟩ v') ib nb db lo hi A K' C vp v' vc rest ∧ X2.cell? ⟨db, 3, none⟩ = some vk ∧ X2.frozen? ⟨db, 3, none⟩ = false := by
  obtain ⟨h1, h2, h3⟩ := h.d.addK g hr hg how
  exact ⟨⟨h1, h.inKept g hg 3 v' h.ok, h.ib0, h.ne, h.op, h.fresh g how h.ok, h.oc⟩, h2, h3⟩
theorem RdL.addC (h : RdL w W ib nb db lo hi A K C vp vk vc rest) (g : Grew W X) (hr : X2.ownsRow w.heap.size 137 4 v' C'.length (clFlat C')) (hg : X.grownBy X2 vc.ownBlock) (how : ∀ b, v'.ownBlock = some b → vc.ownBlock = some b ∨ b = X.heap.size) :
    RdL w (X2.setCell ⟨db, 4, none⟩ v') ib nb db lo hi A K C' vp vk v' rest ∧ X2.cell? ⟨db, 4, none⟩ = some vc ∧ X2.frozen? ⟨db, 4, none⟩ = false := by
  obtain ⟨h1, h2, h3⟩ := h.d.addC g hr hg how
  exact ⟨⟨h1, h.inKept g hg 4 v' h.oc, h.ib0, h.ne, h.op, h.ok, h.fresh g how h.oc⟩, h2, h3⟩
end
structure MP37 (y : World) (ib nb : Nat) (ck cv : ByteArray) (vn : Nat) (rest : List Int) (s : Nat) (f : Nat → Value) (u : World) : Prop where
  only : Only (fun j => j = ib) y u
  i0 : s = 0 → InAt u ib nb (Pl.textB ck ++ (Pl.textB cv ++ (Pl.numB vn ++ rest)))
  i1 : s = 1 → InAt u ib nb (Pl.textB cv ++ (Pl.numB vn ++ rest))
  i2 : s = 2 → InAt u ib nb (Pl.numB vn ++ rest)
  i3 : 3 ≤ s → InAt u ib nb rest
  v3 : 1 ≤ s → f 3 = .string ck
  v5 : 2 ≤ s → f 5 = .string cv
  v7 : 3 ≤ s → f 7 = .int .i64 vn
  v8 : 4 ≤ s → f 8 = .agg #[.string ck, .string cv, .int .i64 vn]
  v9 : 5 ≤ s → ∃ b, f 9 = .slice (some ⟨b, 0, none⟩) 1 1 ∧ u.heap[b]? = some (.cells #[.string ck, .string cv, .int .i64 vn] 83 (0, 0))
structure MK37 (y : World) (ib nb : Nat) (ck : ByteArray) (rest : List Int) (s : Nat) (f : Nat → Value) (u : World) : Prop where
  only : Only (fun j => j = ib) y u
  i0 : s = 0 → InAt u ib nb (Pl.textB ck ++ rest)
  i1 : 1 ≤ s → InAt u ib nb rest
  v3 : 1 ≤ s → f 3 = .string ck
  v4 : 2 ≤ s → ∃ b, f 4 = .slice (some ⟨b, 0, none⟩) 1 1 ∧ u.heap[b]? = some (.cells #[.string ck] 9 (0, 0))
namespace Pl
theorem keysB_drop (K : List ByteArray) (k : Nat) (h : k < K.length) : keysB (K.drop k) = textB K[k] ++ keysB (K.drop (k + 1)) := by
  rw [List.drop_eq_getElem_cons h]; rfl
theorem pairsB_drople (A : List Pr) (k : Nat) : (pairsB (A.drop k)).length ≤ (pairsB A).length := by
  have h := congrArg List.length (show pairsB (A.take k) ++ pairsB (A.drop k) = pairsB A by unfold pairsB; rw [← List.flatMap_append, List.take_append_drop])
  rw [List.length_append] at h
  omega
theorem keysB_drople (K : List ByteArray) (k : Nat) : (keysB (K.drop k)).length ≤ (keysB K).length := by
  have h := congrArg List.length (show keysB (K.take k) ++ keysB (K.drop k) = keysB K by unfold keysB; rw [← List.flatMap_append, List.take_append_drop])
  rw [List.length_append] at h
  omega
theorem clsB_drople (C : List (Int × An)) (k : Nat) : (clsB (C.drop k)).length ≤ (clsB C).length := by
  have h := congrArg List.length (show clsB (C.take k) ++ clsB (C.drop k) = clsB C by unfold clsB; rw [← List.flatMap_append, List.take_append_drop])
  rw [List.length_append] at h
  omega
end Pl
end Go.Proofs.YtoiahcgaffffbaaGreatDoor
