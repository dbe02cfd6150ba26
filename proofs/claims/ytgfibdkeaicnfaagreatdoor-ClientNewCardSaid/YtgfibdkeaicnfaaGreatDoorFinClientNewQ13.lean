/- Cli, Runes3: one text. -/
import Derived.Test.YtgfibdkeaicnfaaGreatDoorFinClientNewQ12
import Derived.Test.YtgfibdkeaicnfaaGreatDoorFinClientNewQ3
import Derived.Test.YtgfibdkeaicnfaaGreatDoorFinClientNewQ11
import Derived.Laws.IdiomStrings
set_option linter.unusedVariables false
set_option linter.unusedSectionVars false
set_option linter.unusedSimpArgs false
namespace Go.Proofs.YtgfibdkeaicnfaaGreatDoor
open Go.RowKit Go.Maps
attribute [local go_sem] Oper.semAt_some
def enCl (id : Int) (a : Option Addr) (c : Nat) (ops : List OpR) : En := ⟨1, 1, 0, 0, id, 1, ⟨#[]⟩, 0, 0, 0, ops, a, c, none, 0, 0⟩
theorem right_cl (id : Int) (h1 : 1 ≤ id) (h2 : id ≤ 4) (a a' : Option Addr) (c c' : Nat) (ops : List OpR) : Pl.rightB (enCl id a c ops) = Pl.rightB (enCl 1 a' c' ops) := by
  simp only [Pl.rightB, enCl, if_true, Pl.wriB]
  rw [show Pl.withinB id 4 = true by simp [Pl.withinB, h1, h2], show Pl.withinB 1 4 = true by rfl]
theorem allS_key : KeyT allS := ⟨rfl, rfl, rfl, rfl⟩
theorem opRs_cells {W : World} {a : Option Addr} {xs : List OpR} (h : OpRsAt W a xs) (hx : 0 < xs.length) : ∃ b off, a = some ⟨b, off, none⟩ ∧ b < W.heap.size ∧ ∀ j u, (opRFlat xs)[j]? = some u → W.cell? ⟨b, off + j, none⟩ = some u := by
  rcases h with h | ⟨b, off, rfl, hb, hR⟩
  · rw [h] at hx; simp at hx
  · refine ⟨b, off, rfl, hb, fun j u hj => ?_⟩
    have hlt : j < xs.length * 5 := by have := (List.getElem?_eq_some_iff.1 hj).1; rwa [opRFlat_length] at this
    have h2 := opRFlat_get (j % 5) (Nat.mod_lt _ (by decide)) xs (j / 5) (by omega)
    rw [show j / 5 * 5 + j % 5 = j by omega, hj] at h2
    have q0 := hR.kind (j / 5) (by omega)
    have q1 := hR.key (j / 5) (by omega)
    have q2 := hR.val (j / 5) (by omega)
    have q3 := hR.old (j / 5) (by omega)
    have q4 := hR.ver (j / 5) (by omega)
    have hm : j % 5 = 0 ∨ j % 5 = 1 ∨ j % 5 = 2 ∨ j % 5 = 3 ∨ j % 5 = 4 := by omega
    rcases hm with hm | hm | hm | hm | hm <;> rw [hm] at h2 <;> simp [OpR.vals] at h2 <;> subst h2
    · rw [show off + j = off + j / 5 * 5 by omega]; exact q0
    · rw [show off + j = off + j / 5 * 5 + 1 by omega]; exact q1
    · rw [show off + j = off + j / 5 * 5 + 2 by omega]; exact q2
    · rw [show off + j = off + j / 5 * 5 + 3 by omega]; exact q3
    · rw [show off + j = off + j / 5 * 5 + 4 by omega]; exact q4
theorem cloneOps_any (w : World) (a : Option Addr) (cap : Nat) (xs : List OpR) (hA : OpRsAt w a xs) (hf : SlForm a cap) (hx : xs.length ≤ 1000000) :
    Calls Tryz.prog 15 #[.slice a xs.length cap] w fun e w' => (∃ a' c', e = .returned (.slice a' xs.length c')) ∧ Grew w w' := by
  rcases Nat.eq_zero_or_pos xs.length with h0 | h0
  · have e := List.eq_nil_of_length_eq_zero h0
    subst e
    rcases hf with ⟨rfl, rfl⟩ | ⟨b, off, rfl⟩
    · exact (cloneNilOp w).mono fun e w' ⟨he, hg⟩ => ⟨⟨_, _, he⟩, hg⟩
    · exact (cloneZeroOp w b off cap).mono fun e w' ⟨he, hr, hg⟩ => ⟨⟨_, _, he⟩, hg⟩
  · obtain ⟨b, off, rfl, hb, hR⟩ := opRs_cells hA h0
    refine (cloneOp w b off xs.length cap h0 hx (opRFlat xs) (by rw [opRFlat_length]) hR ?_).mono fun e w' ⟨g, c, he, hr, hg⟩ => ⟨⟨_, _, he⟩, hg⟩
    intro u hu
    unfold opRFlat at hu
    obtain ⟨x, _, hx⟩ := List.mem_flatMap.1 hu
    simp [OpR.vals] at hx
    rcases hx with rfl | rfl | rfl | rfl | rfl <;> rfl
theorem OpRsAt.kept {S : Nat → Prop} {W W' : World} {a : Option Addr} {xs : List OpR} (h : OpRsAt W a xs) (g : Only S W W') (hS : ∀ b off, a = some ⟨b, off, none⟩ → ¬ S b) : OpRsAt W' a xs := by
  rcases h with h | ⟨b, off, e, hb, h⟩
  · exact .inl h
  · have hs := hS b off e
    exact .inr ⟨b, off, e, Nat.lt_of_lt_of_le hb g.size, fun j hj => (g.cell hb hs _).trans (h.kind j hj), fun j hj => (g.cell hb hs _).trans (h.key j hj), fun j hj => (g.cell hb hs _).trans (h.val j hj), fun j hj => (g.cell hb hs _).trans (h.old j hj), fun j hj => (g.cell hb hs _).trans (h.ver j hj)⟩
structure CliC (w : World) (cb : Nat) (id seq st : Int) : Prop where
  c0 : w.cell? ⟨cb, 0, none⟩ = some (.int .i64 id)
  c1 : w.cell? ⟨cb, 1, none⟩ = some (.int .i64 seq)
  c2 : w.cell? ⟨cb, 2, none⟩ = some (.int .i64 st)
  all : ∀ i, i < 9 → (w.cell? ⟨cb, i, none⟩).isSome = true
  fz : ∀ i, w.frozen? ⟨cb, i, none⟩ = false
theorem CliC.grew {w w' : World} {cb : Nat} {id seq st : Int} (h : CliC w cb id seq st) (g : Grew w w') : CliC w' cb id seq st :=
  ⟨(g.cells.1 _ _ (cell_lt h.c0)).trans h.c0, (g.cells.1 _ _ (cell_lt h.c0)).trans h.c1, (g.cells.1 _ _ (cell_lt h.c0)).trans h.c2, fun i hi => (by rw [g.cells.1 _ i (cell_lt h.c0)]; exact h.all i hi), fun i => (g.cells.2 _ i (cell_lt h.c0)).trans (h.fz i)⟩
def CliNewV (E : Nat → Addr) (w : World) (id : Int) (e : Ending) (w' : World) : Prop := Grew w w' ∧ (((id < 1 ∨ 4 < id) ∧ e = .returned (.tuple #[.pointer none, errOf E 1])) ∨ (1 ≤ id ∧ id ≤ 4 ∧ ∃ cb, e = .returned (.tuple #[.pointer (some ⟨cb, 0, none⟩), .nilIface]) ∧ w.heap.size ≤ cb ∧ CliC w' cb id 0 1))
set_option maxRecDepth 100000 in
set_option maxHeartbeats 4000000 in
theorem cliNew_any (E : Nat → Addr) {w : World} (hE : Errs allS E w) (id : Int) : Calls Tryz.prog 5 #[.int .i64 id] w (CliNewV E w id) := by
  have g1 : w.cell? ⟨0, 0, none⟩ = some (.iface 501 (.pointer (some (E 1)))) := hE.cell 1 rfl
  clear hE
  generalize hQ : CliNewV E w id = QQ
  have HQ := hid hQ
  clear hQ
  by_cases h1 : id < 1
  · go_enter Tryz.func5, Tryz.ntmps5
    go_wp2_with fail
    go_region
    go_wp2_with fail
    rw [← HQ.out]
    exact ⟨(Grew.refl w).drew, .inl ⟨.inl h1, rfl⟩⟩
  by_cases h2 : 4 < id
  · go_enter Tryz.func5, Tryz.ntmps5
    go_wp2_with fail
    go_region
    go_wp2_with fail
    rw [← HQ.out]
    exact ⟨(Grew.refl w).drew, .inl ⟨.inr h2, rfl⟩⟩
  go_enter Tryz.func5, Tryz.ntmps5
  go_wp2_with fail
  rw [← HQ.out]
  refine ⟨(Grew.refl w).alloc _, .inr ⟨by omega, by omega, w.heap.size, rfl, Nat.le_refl _, by simp [go_sem], by simp [go_sem], by simp [go_sem], fun i hi => ?_, fun i => by simp [go_sem]⟩⟩
  rcases (by omega : i = 0 ∨ i = 1 ∨ i = 2 ∨ i = 3 ∨ i = 4 ∨ i = 5 ∨ i = 6 ∨ i = 7 ∨ i = 8) with rfl | rfl | rfl | rfl | rfl | rfl | rfl | rfl | rfl <;> simp [go_sem]
set_option maxRecDepth 100000 in
theorem cliState_any {w : World} {cb : Nat} {id seq st : Int} (h : CliC w cb id seq st) : Calls Tryz.prog 7 #[.pointer (some ⟨cb, 0, none⟩)] w fun e w' => e = .returned (.int .i64 st) ∧ w' = w := by
  have c2 := h.c2
  clear h
  go_enter Tryz.func7, Tryz.ntmps7
  go_wp2
  go_ret
  exact ⟨rfl, rfl⟩
set_option maxRecDepth 100000 in
theorem cliSeq_any {w : World} {cb : Nat} {id seq st : Int} (h : CliC w cb id seq st) : Calls Tryz.prog 8 #[.pointer (some ⟨cb, 0, none⟩)] w fun e w' => e = .returned (.int .i64 seq) ∧ w' = w := by
  have c1 := h.c1
  clear h
  go_enter Tryz.func8, Tryz.ntmps8
  go_wp2
  go_ret
  exact ⟨rfl, rfl⟩
set_option maxRecDepth 100000 in
set_option maxHeartbeats 4000000 in
theorem cliBegin_again (E : Nat → Addr) {w : World} (hE : Errs allS E w) {cb : Nat} {id seq : Int} (h : CliC w cb id seq 2) (a : Option Addr) (n cap : Nat) : Calls Tryz.prog 9 #[.pointer (some ⟨cb, 0, none⟩), .slice a n cap] w fun e w' => e = .returned (.tuple #[.int .i64 0, errOf E 17]) ∧ Grew w w' := by
  have g17 : w.cell? ⟨16, 0, none⟩ = some (.iface 501 (.pointer (some (E 17)))) := hE.cell 17 rfl
  have c2 := h.c2
  clear hE h
  go_enter Tryz.func9, Tryz.ntmps9
  go_wp2_with fail
  go_region
  go_wp2_with fail
  go_ret2
  exact ⟨rfl, (Grew.refl w).drew⟩
def CliBegV (E : Nat → Addr) (w : World) (cb : Nat) (id : Int) (r : Bool) (e : Ending) (w' : World) : Prop :=
  (r = false ∧ e = .returned (.tuple #[.int .i64 0, errOf E 4]) ∧ Grew w w') ∨ (r = true ∧ e = .returned (.tuple #[.int .i64 1, .nilIface]) ∧ Only (fun j => j = cb) w w' ∧ CliC w' cb id 1 2)
set_option maxRecDepth 100000 in
set_option maxHeartbeats 8000000 in
theorem cliBegin_any (E : Nat → Addr) {w : World} (hE : Errs allS E w) {cb : Nat} {id : Int} (h : CliC w cb id 0 1) (a : Option Addr) (cap : Nat) (ops : List OpR) (hA : OpRsAt w a ops) (hf : SlForm a cap) (hx : ops.length ≤ 1000000) (hok : ∀ o ∈ ops, OpOk o) (hne : ∀ b off, a = some ⟨b, off, none⟩ → b ≠ cb) :
    Calls Tryz.prog 9 #[.pointer (some ⟨cb, 0, none⟩), .slice a ops.length cap] w (CliBegV E w cb id (Pl.rightB (enCl id a cap ops))) := by
  have HR := hid (rightE_any allS_key E (enCl id a cap ops) w hE ⟨hA, hx, hok, fun h => by cases h⟩)
  unfold En.agg En.vals enCl at HR
  dsimp only at HR
  obtain ⟨r, hr⟩ : ∃ r, r = Pl.rightB (enCl id a cap ops) := ⟨_, rfl⟩
  unfold enCl at hr
  rw [← hr] at HR
  rw [show Pl.rightB (enCl id a cap ops) = r from hr.symm]
  clear hr
  have HE := hid hE
  have HC := hid h
  have HA := hid hA
  have HF := hid hf
  have c0 := h.c0
  have c1 := h.c1
  have c2 := h.c2
  have hcb := cell_lt c0
  clear hE h hA hf hok
  generalize hQ : CliBegV E w cb id r = QQ
  have HQ := hid hQ
  clear hQ
  go_enter Tryz.func9, Tryz.ntmps9
  go_wp2_with fail
  refine HR.out.mono ?_
  rintro e w1 ⟨rfl, hg⟩
  have HG := hid hg
  have HC1 := hid (HC.out.grew hg)
  cases r with
  | false =>
    have g4 : w1.cell? ⟨3, 0, none⟩ = some (.iface 501 (.pointer (some (E 4)))) := (HE.out.grew hg).cell 4 rfl
    clear hg HR
    go_wp2_with fail
    go_region
    go_wp2_with fail
    rw [← HQ.out]
    exact .inl ⟨rfl, rfl, HG.out.drew⟩
  | true =>
    have x1 := (hg.cells.1 _ 1 hcb).trans c1
    have xf := HC1.out.fz
    have xa := HC1.out.all
    clear hg HR c1 c2
    go_wp2_with fail
    obtain ⟨X, hX⟩ : ∃ X, X = w1.setCell ⟨cb, 1, none⟩ (.int .i64 1) := ⟨_, rfl⟩
    have oX : Only (fun j => j = cb) w1 X := by rw [hX]; exact Only.setCell w1 ⟨cb, 1, none⟩ _
    have q1 : X.cell? ⟨cb, 1, none⟩ = some (.int .i64 1) := by rw [hX]; exact World.cell?_setCell_same' _ _ _ (by rw [x1]; rfl)
    have qo : ∀ i v, i ≠ 1 → w1.cell? ⟨cb, i, none⟩ = some v → X.cell? ⟨cb, i, none⟩ = some v := fun i v hi h => by rw [hX]; exact (World.cell?_setCell_other w1 ⟨cb, 1, none⟩ ⟨cb, i, none⟩ _ (fun e => hi (by cases e; rfl))).trans h
    have q0 := qo 0 _ (by omega) HC1.out.c0
    have qa : ∀ i, i < 9 → ∃ v, X.cell? ⟨cb, i, none⟩ = some v := fun i hi => by
      by_cases h1 : i = 1
      · exact ⟨_, by rw [h1]; exact q1⟩
      · obtain ⟨v, hv⟩ := Option.isSome_iff_exists.1 (xa i hi)
        exact ⟨v, qo i v h1 hv⟩
    have qf : ∀ i, X.frozen? ⟨cb, i, none⟩ = false := fun i => by rw [hX, World.frozen?_setCell]; exact xf i
    have hcl := hid (cloneOps_any X a cap ops ((HA.out.grew HG.out).kept oX hne) HF.out hx)
    rw [← hX]
    have HOX := hid ((HG.out.only _).then oX)
    clear hX oX qo x1 xf xa
    refine hcl.out.mono ?_
    rintro e w2 ⟨⟨a', c', rfl⟩, hg2⟩
    have hcX : cb < X.heap.size := cell_lt q0
    have p0 := (hg2.cells.1 _ 0 hcX).trans q0
    have p1 := (hg2.cells.1 _ 1 hcX).trans q1
    have pa : ∀ i, i < 9 → ∃ v, w2.cell? ⟨cb, i, none⟩ = some v := fun i hi => by obtain ⟨v, hv⟩ := qa i hi; exact ⟨v, (hg2.cells.1 _ i hcX).trans hv⟩
    have pf : ∀ i, w2.frozen? ⟨cb, i, none⟩ = false := fun i => (hg2.cells.2 _ i hcX).trans (qf i)
    obtain ⟨v2, p2⟩ := pa 2 (by omega)
    obtain ⟨v3, p3⟩ := pa 3 (by omega)
    obtain ⟨v4, p4⟩ := pa 4 (by omega)
    obtain ⟨v5, p5⟩ := pa 5 (by omega)
    obtain ⟨v6, p6⟩ := pa 6 (by omega)
    obtain ⟨v7, p7⟩ := pa 7 (by omega)
    obtain ⟨v8, p8⟩ := pa 8 (by omega)
    have f2 := pf 2
    have f3 := pf 3
    have f4 := pf 4
    have f5 := pf 5
    have f6 := pf 6
    have f7 := pf 7
    have f8 := pf 8
    have HO2 := hid (HOX.out.then (hg2.only _))
    have HPF := hid pf
    clear hcl q0 q1 qa qf hg2 pa pf HOX
    go_wp2_with fail
    rw [← HQ.out]
    refine .inr ⟨rfl, rfl, ?_, ?_⟩
    · have S := fun (W : World) (i : Nat) (v : Value) => Only.setCell W ⟨cb, i, none⟩ v
      exact HO2.out.then ((S _ 2 _).then ((S _ 3 _).then ((S _ 8 _).then ((S _ 4 _).then ((S _ 5 _).then ((S _ 6 _).then (S _ 7 _)))))))
    · refine ⟨by simp [go_sem, p0, p2, p3, p4, p5, p6, p7, p8], by simp [go_sem, p1, p2, p3, p4, p5, p6, p7, p8], by simp [go_sem, p2, p3, p4, p5, p6, p7, p8], fun i hi => ?_, fun i => ?_⟩
      · rcases (by omega : i = 0 ∨ i = 1 ∨ i = 2 ∨ i = 3 ∨ i = 4 ∨ i = 5 ∨ i = 6 ∨ i = 7 ∨ i = 8) with rfl | rfl | rfl | rfl | rfl | rfl | rfl | rfl | rfl <;> simp [go_sem, p0, p1, p2, p3, p4, p5, p6, p7, p8]
      · simp only [World.frozen?_setCell]; exact HPF.out i
set_option maxRecDepth 100000 in
set_option maxHeartbeats 4000000 in
theorem cliRoute_nil (E : Nat → Addr) {w : World} (hE : Errs allS E w) (cb : Nat) (l : Value) : Calls Tryz.prog 24 #[.pointer (some ⟨cb, 0, none⟩), l, .pointer none] w fun e w' => e = .returned (errOf E 12) ∧ w' = w := by
  have g12 : w.cell? ⟨11, 0, none⟩ = some (.iface 501 (.pointer (some (E 12)))) := hE.cell 12 rfl
  clear hE
  go_enter Tryz.func24, Tryz.ntmps24
  go_wp2
  go_ret
  exact ⟨rfl, rfl⟩
set_option maxRecDepth 100000 in
set_option maxHeartbeats 4000000 in
theorem cliStep_nil (E : Nat → Addr) {w : World} (hE : Errs allS E w) {cb : Nat} {id seq : Int} (h : CliC w cb id seq 2) (lb : Nat) (ua : Option Addr) (un uc : Nat) (e0 : Int) (ca : Option Addr) (cl cc sq : Nat) :
    Calls Tryz.prog 12 #[.pointer (some ⟨cb, 0, none⟩), .pointer (some ⟨lb, 0, none⟩), .slice ua un uc, .agg #[.int .i64 e0, .slice ca cl cc], .pointer (some ⟨sq, 0, none⟩), .pointer none] w fun e w' => e = .returned (.tuple #[.int .i64 2, errOf E 12]) ∧ Grew w w' := by
  have c2 := h.c2
  have hcb := cell_lt c2
  have HR := hid (fun W (g : Grew w W) => cliRoute_nil E (hE.grew g) cb (.pointer (some ⟨lb, 0, none⟩)))
  obtain ⟨ev, hev⟩ : ∃ ev, ev = errOf E 12 := ⟨_, rfl⟩
  rw [← hev] at HR ⊢
  have gA : Grew w (w.alloc (.cells #[.int .i64 e0, .slice ca cl cc] 45)) := (Grew.refl w).alloc _
  have x2 := (gA.cells.1 _ 2 hcb).trans c2
  have HGA := hid gA
  clear hE h hev gA
  go_enter Tryz.func12, Tryz.ntmps12
  go_wp2_with fail
  refine (HR.out _ HGA.out).mono ?_
  rintro e w1 ⟨rfl, rfl⟩
  go_wp2_with fail
  try go_region
  go_wp2_with fail
  go_ret2
  exact ⟨rfl, by first | exact HGA.out | exact HGA.out.drew⟩
end Go.Proofs.YtgfibdkeaicnfaaGreatDoor
namespace Go.Proofs.YtgfibdkeaicnfaaGreatDoor
open Go.RowKit
namespace Pl
def cmpNums : List Nat → List Nat → Int
  | [], [] => 0
  | [], _ :: _ => -1
  | _ :: _, [] => 1
  | a :: x, b :: y => if a < b then -1 else if b < a then 1 else cmpNums x y
def compare (a b : ByteArray) : Int := match runes a.data.toList, runes b.data.toList with | some x, some y => cmpNums x y | _, _ => 0
end Pl
def RuneRow (w : World) (v : Value) (l : List Nat) : Prop :=
  ∃ b cap, v = .slice (some ⟨b, 0, none⟩) l.length cap ∧ ∀ i, i < l.length → w.cell? ⟨b, i, none⟩ = some (.int .i32 (l.getD i 0 : Nat))
theorem RuneRow.grew {w w' : World} {v : Value} {l : List Nat} (h : RuneRow w v l) (g : Grew w w') : RuneRow w' v l := by
  obtain ⟨b, cap, rfl, hc⟩ := h
  refine ⟨b, cap, rfl, fun i hi => ?_⟩
  rw [← hc i hi]
  exact g.below.cell (p := ⟨b, i, none⟩) (cell_lt (hc i hi))
namespace Pl
end Pl
end Go.Proofs.YtgfibdkeaicnfaaGreatDoor
