/- The walks of watch.New, Told; a watcher's list of changes in memory. -/
import Derived.Test.YtbdagllflamabaaGreatDoorFinWatchReplaysQ45
import Derived.Test.YtbdagllflamabaaGreatDoorFinWatchReplaysQ46
set_option linter.unusedVariables false
set_option linter.unusedSectionVars false
set_option linter.unusedSimpArgs false
namespace Go.Proofs.YtbdagllflamabaaGreatDoor
open Go.RowKit Go.Maps
attribute [local go_sem] Oper.semAt_some uponV
def NewV (y : World) (v : Value) (u : World) : Prop := Grew y u ∧ ∃ ab, v = .pointer (some ⟨ab, 0, none⟩) ∧ ∀ (k : Nat) (L : Nat → Nat), ∃ L', (∀ j, j < y.heap.size → L' j = L j) ∧ (∀ j, y.heap.size ≤ j → Kin k (L' j)) ∧ AuAt u L' k ab 1 AuP.init
set_option maxRecDepth 100000 in
set_option maxHeartbeats 4000000 in
theorem newW_any (E : Nat → Addr) {w : World} (hE : Errs auS E w) (lo hi : ByteArray) (hl : lo.size ≤ 70368744177664) (hh : hi.size ≤ 70368744177664) (hr : Pl.rightS lo hi = true) :
    Calls Tryz.prog 21 #[.agg #[.string lo, .string hi]] w fun e w' => ∃ wb ab, e = .returned (.tuple #[.pointer (some ⟨wb, 0, none⟩), .nilIface]) ∧ Grew w w' ∧ WtC w' wb ab lo hi 0 ∧ ∀ (k : Nat) (L : Nat → Nat), ∃ L', (∀ j, j < w.heap.size → L' j = L j) ∧ (∀ j, w.heap.size ≤ j → j ≠ wb → Kin k (L' j)) ∧ L' wb = k + 149 ∧ AuAt w' L' k ab 1 AuP.init := by
  have HR := hid (fun X (g : Grew w X) => right_span auS E ⟨rfl, rfl, rfl, rfl⟩ lo hi X hl hh (hE.grew g))
  rw [hr] at HR
  have HE := hid hE
  clear hE hr
  go_enter Tryz.func21, Tryz.ntmps21
  go_wp2_with fail
  obtain ⟨Y, hY⟩ : ∃ Y, Y = w.alloc (.cells #[.string lo, .string hi] 39) := ⟨_, rfl⟩
  have gY : Grew w Y := by rw [hY]; exact (Grew.refl w).alloc _
  obtain ⟨xb, hxb⟩ : ∃ xb, xb = w.heap.size := ⟨_, rfl⟩
  have x0 : Y.cell? ⟨xb, 0, none⟩ = some (.string lo) := by rw [hY, hxb]; simp [go_sem]
  have x1 : Y.cell? ⟨xb, 1, none⟩ = some (.string hi) := by rw [hY, hxb]; simp [go_sem]
  rw [← hY, ← hxb]
  clear hY hxb
  have hxY := cell_lt x0
  refine (HR.out Y gY).mono ?_
  rintro e w1 ⟨rfl, hg1⟩
  have x0 := (hg1.cells.1 _ 0 hxY).trans x0
  have x1 := (hg1.cells.1 _ 1 hxY).trans x1
  have HG1 := hid (gY.trans hg1)
  have hx1 := Nat.lt_of_lt_of_le hxY hg1.size
  clear hg1 gY HR hxY
  go_upto_region 3 with fail
  have HN := hid (fun X (g : Grew w1 X) => newA_any E X (auS_st (HE.out.grew (HG1.out.trans g))))
  have X0 := wd_cell x0
  have X1 := wd_cell x1
  refine wp_region_mixS 2 [0] (Grew w1) Eq (JE 0 (Grew w1) (NewV w1) (fun _ => none)) (fun f a => a.put (some 8) (f 0)) (by kernel_rfl) (by kernel_rfl) (fun _ _ => rfl) (JE.start (Grew.refl w1).drew _) (fun L0 _ _ h => ?_) (fun _ => rfl) (fun _ _ _ _ h g => g ▸ h) ?_
  · cases hL : L0 0 with
    | false => exact h.pre hL
    | true => exact (h.post hL).1
  repeat (first
    | (refine mixS_loose (by rfl) (by rfl) ?_)
    | (refine mixS_plain (by rfl) (by rfl) (by rfl) (by first | exact Grew.refl | exact fun _ => rfl) (by rfl) ?_; intro K hK; go_big_quiet_op; go_big_quiet_on)
    | (refine mixS_skip (by rfl) (by rfl) (by rfl) ?_; simp only [Act.put, List.setIfInBounds_toArray, List.set_cons_zero, List.set_cons_succ]))
  refine mixS_done (by rfl) ⟨⟨loose_of rfl (fun _ a => a) (fun _ _ => rfl) (fun _ => rfl) ?_, trivial⟩, ?_⟩
  · intro L0 f0 u hJ hL hd
    have HJ := hid hJ
    have HL := hid hL
    clear hJ hL hd X0 X1
    go_simp
    have hg := HJ.out.pre HL.out
    refine (HN.out u hg).mono ?_
    rintro e u' ⟨ab, rfl, hg2, h⟩
    have hs := hg.size
    refine ⟨_, rfl, HJ.out.call HL.out rfl ⟨hg.trans hg2, ab, rfl, fun k L => ?_⟩⟩
    obtain ⟨L', h1, h2, h3⟩ := h k (fun j => if j < w1.heap.size then L j else k)
    refine ⟨L', fun j hj => (h1 j (by omega)).trans (if_pos hj), fun j hj => ?_, h3⟩
    rcases Nat.lt_or_ge j u.heap.size with q | q
    · rw [h1 j q, if_neg (by omega)]; unfold Kin; omega
    · exact h2 j q
  intro f0 u hJ
  obtain ⟨gu, ab, e0, hA⟩ := hJ.post rfl
  have HGU := hid gu
  have HA := hid hA
  clear hJ gu hA X0 X1 HN
  dsimp only [List.drop]
  simp only [Act.put, List.setIfInBounds_toArray, List.set_cons_succ, List.set_cons_zero]
  rw [e0]
  clear e0
  go_wp2_with fail
  have HF : Hid (Grew w (u.alloc (.cells #[.pointer (some ⟨ab, 0, none⟩), .string lo, .string hi, .int .i64 0] 76)) ∧ WtC (u.alloc (.cells #[.pointer (some ⟨ab, 0, none⟩), .string lo, .string hi, .int .i64 0] 76)) u.heap.size ab lo hi 0 ∧ ∀ (k : Nat) (L : Nat → Nat), ∃ L', (∀ j, j < w.heap.size → L' j = L j) ∧ (∀ j, w.heap.size ≤ j → j ≠ u.heap.size → Kin k (L' j)) ∧ L' u.heap.size = k + 149 ∧ AuAt (u.alloc (.cells #[.pointer (some ⟨ab, 0, none⟩), .string lo, .string hi, .int .i64 0] 76)) L' k ab 1 AuP.init) := by
    have gA : Grew u (u.alloc (.cells #[.pointer (some ⟨ab, 0, none⟩), .string lo, .string hi, .int .i64 0] 76)) := (Grew.refl u).alloc _
    have s1 := HG1.out.size
    have s2 := HGU.out.size
    refine ⟨(HG1.out.trans HGU.out).trans gA, ⟨by simp [go_sem], by simp [go_sem], by simp [go_sem], by simp [go_sem], fun i => by simp [go_sem]⟩, fun k L => ?_⟩
    obtain ⟨L', h1, h2, h3⟩ := HA.out k (fun j => if j < w.heap.size then L j else k)
    refine ⟨fun j => if j = u.heap.size then k + 149 else L' j, fun j hj => ?_, fun j hj hne => ?_, if_pos rfl, h3.kept (gA.only fun _ => False) (fun _ _ h => h.elim) fun j hj => if_neg (by omega)⟩
    · dsimp only
      rw [if_neg (by omega), h1 j (by omega), if_pos hj]
    · dsimp only
      rw [if_neg hne]
      rcases Nat.lt_or_ge j w1.heap.size with q | q
      · rw [h1 j q, if_neg (by omega)]; unfold Kin; omega
      · exact h2 j q
  go_ret2
  exact ⟨_, ab, rfl, HF.out.1, HF.out.2.1, HF.out.2.2⟩
set_option maxRecDepth 100000 in
theorem told_any {w : World} {wb ab : Nat} {lo hi : ByteArray} {told : Int} (h : WtC w wb ab lo hi told) :
    Calls Tryz.prog 24 #[.pointer (some ⟨wb, 0, none⟩)] w fun e w' => e = .returned (.int .i64 told) ∧ Grew w w' := by
  have c3 := h.c3
  have hb := cell_lt c3
  clear h
  go_enter Tryz.func24, Tryz.ntmps24
  go_wp2_with fail
  go_ret
  exact ⟨rfl, Grew.refl _⟩
def cg0 (A : AuP) (at' : Int) (k : ByteArray) : Cg := ⟨at', k, ((Pl.getAP A k).getD Pr.none).key, ((Pl.getAP A k).getD Pr.none).val, ((Pl.getAP A k).getD Pr.none).ver, ⟨#[]⟩, ⟨#[]⟩, 0, (Pl.getAP A k).isSome, false⟩
def cg1 (A B : AuP) (at' : Int) (k : ByteArray) : Cg := ⟨at', k, ((Pl.getAP A k).getD Pr.none).key, ((Pl.getAP A k).getD Pr.none).val, ((Pl.getAP A k).getD Pr.none).ver, ((Pl.getAP B k).getD Pr.none).key, ((Pl.getAP B k).getD Pr.none).val, ((Pl.getAP B k).getD Pr.none).ver, (Pl.getAP A k).isSome, (Pl.getAP B k).isSome⟩
def changesP (A B : AuP) (at' : Int) (ks : List ByteArray) : List Cg := newC (ks.map (cg1 A B at'))
def midL (A B : AuP) (at' : Int) (ks : List ByteArray) (i : Nat) : List Cg := (ks.take i).map (cg1 A B at') ++ (ks.drop i).map (cg0 A at')
theorem midL_len (A B : AuP) (at' : Int) (ks : List ByteArray) (i : Nat) : (midL A B at' ks i).length = ks.length := by
  unfold midL
  rw [List.length_append, List.length_map, List.length_map, ← List.length_append, List.take_append_drop]
theorem midL_at (A B : AuP) (at' : Int) (ks : List ByteArray) (i : Nat) (h : i < ks.length) : cgAt (midL A B at' ks i) i = cg0 A at' ks[i] := by
  unfold cgAt midL
  rw [List.getElem?_append_right (by rw [List.length_map, List.length_take]; omega), List.length_map, List.length_take, Nat.min_eq_left (by omega), Nat.sub_self, List.getElem?_map, List.getElem?_drop, Nat.add_zero, List.getElem?_eq_getElem h]
  rfl
theorem midL_succ (A B : AuP) (at' : Int) (ks : List ByteArray) (i : Nat) (h : i < ks.length) : midL A B at' ks (i + 1) = (midL A B at' ks i).set i (cg1 A B at' ks[i]) := by
  unfold midL
  rw [List.set_append_right _ _ (by rw [List.length_map, List.length_take]; omega), List.length_map, List.length_take, Nat.min_eq_left (by omega), Nat.sub_self, List.drop_eq_getElem_cons h, List.map_cons, List.set_cons_zero, List.take_succ_eq_append_getElem h, List.map_append, List.append_assoc]
  rfl
end Go.Proofs.YtbdagllflamabaaGreatDoor
