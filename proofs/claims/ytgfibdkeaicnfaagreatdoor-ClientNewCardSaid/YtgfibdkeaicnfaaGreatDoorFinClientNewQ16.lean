/- Law28, OpenI, OpenOp, Laid, Fin19cl, Fin19clc: one text. -/
import Derived.Test.YtgfibdkeaicnfaaGreatDoorFinClientNewQ9
import Derived.Test.YtgfibdkeaicnfaaGreatDoorFinClientNewQ13
import Derived.Test.YtgfibdkeaicnfaaGreatDoorFinClientNewQ15
import Derived.Test.YtgfibdkeaicnfaaGreatDoorFinClientNewQ3
import Derived.ChangeSlices
import Derived.Deep.Slices
import Derived.ChangeSame
import Derived.ProofKit
import Derived.OpenShut
import Derived.SizedLaws
import Derived.Test.YtgfibdkeaicnfaaGreatDoorFinClientNewQ12
import Derived.Test.YtgfibdkeaicnfaaGreatDoorFinClientNewQ4
import Derived.Stop.LaidErr
import Derived.Test.YtgfibdkeaicnfaaGreatDoorCards
import Derived.Test.YtgfibdkeaicnfaaGreatDoorTie
import Derived.ShutString
import Derived.LaidMore
import Derived.Stop.Joined
import Derived.Lib.SmallJoins
set_option linter.unusedVariables false
set_option linter.unusedSectionVars false
set_option linter.unusedSimpArgs false
namespace Go.Proofs.YtgfibdkeaicnfaaGreatDoor
open Go.RowKit Go.Maps
attribute [local go_sem] Oper.semAt_some
def opCl : OpR := ⟨1, ⟨#[97]⟩, ⟨#[120]⟩, ⟨#[]⟩, 0⟩
theorem ops_cl (w : World) : OpRsAt (w.alloc (.cells #[.int .i64 1, .string ⟨#[97]⟩, .string ⟨#[120]⟩, .string ⟨#[]⟩, .int .i64 0] 25)) (some ⟨w.heap.size, 0, none⟩) [opCl] := by
  have hb := heap_alloc_new w (.cells #[.int .i64 1, .string ⟨#[97]⟩, .string ⟨#[120]⟩, .string ⟨#[]⟩, .int .i64 0] 25)
  refine .inr ⟨w.heap.size, 0, rfl, by simp, ?_, ?_, ?_, ?_, ?_⟩ <;> intro j hj <;> have : j = 0 := (by simpa using hj) <;> subst this <;> rw [cell_of_row _ _ _ _ _ _ hb] <;> rfl
set_option maxRecDepth 100000 in
set_option maxHeartbeats 8000000 in
theorem alive28 (E : Nat → Addr) (w : World) (hE : Errs allS E w) : Calls Tryz.prog 4 #[] w fun e w' => e = .returned (.bool true) ∧ Grew w w' := by
  have HE := hid hE
  have HB := hid (begin17_any _ _ 0 [[0]] (plan_al w) (by omega) (by omega))
  clear hE
  go_enter Tryz.func4, Tryz.ntmps4
  go_wp2_with fail
  refine HB.out.mono ?_
  rintro r w1 ⟨xb, lb, sq, ua, un, uc, ca, cl, cc, rfl, hg1, _, _, _, x0, x1, x2, x3, x4, _⟩
  have hg1 : Grew w w1 := (((Grew.refl w).alloc _).alloc _).trans hg1
  have hxb := cell_lt x4
  have HX := hid (And.intro x0 (And.intro x1 (And.intro x2 (And.intro x3 x4))))
  have HG1 := hid hg1
  clear x0 x1 x2 x3 x4 hg1 HB
  go_wp2_with fail
  refine (cliNew_any E (HE.out.grew HG1.out) 1).mono ?_
  rintro r w2 ⟨hg2, hV⟩
  have hV : ∃ cb, r = .returned (.tuple #[.pointer (some ⟨cb, 0, none⟩), .nilIface]) ∧ w1.heap.size ≤ cb ∧ CliC w2 cb 1 0 1 := by
    rcases hV with ⟨h, _⟩ | ⟨_, _, h⟩
    · omega
    · exact h
  obtain ⟨cb, rfl, hcb1, hC⟩ := hV
  have HC := hid hC
  have HG2 := hid hg2
  have hcb2 : cb < w2.heap.size := cell_lt hC.c0
  clear hg2 hC
  go_wp2_with fail
  have gA : Grew w2 (w2.alloc (.cells #[.int .i64 1, .string ⟨#[97]⟩, .string ⟨#[120]⟩, .string ⟨#[]⟩, .int .i64 0] 25)) := (Grew.refl w2).alloc _
  refine (cliBegin_any E (HE.out.grew (HG1.out.trans (HG2.out.trans gA))) (HC.out.grew gA) (some ⟨w2.heap.size, 0, none⟩) 1 [opCl] (ops_cl w2) (.inr ⟨_, _, rfl⟩) (by decide) (fun o ho => by rw [List.mem_singleton.1 ho]; exact ⟨by decide, by decide, by decide⟩) (fun b off e => by injection e with e; injection e with e _; omega)).mono ?_
  have hrt : Pl.rightB (enCl 1 (some ⟨w2.heap.size, 0, none⟩) 1 [opCl]) = true := by
    rw [right_cl 1 (by omega) (by omega) _ none _ 0]; kernel_rfl
  rw [hrt]
  rintro r w3 (⟨h, _⟩ | ⟨_, rfl, hO3, hC3⟩)
  · cases h
  have HC3 := hid hC3
  have hO3' : Only (fun j => j = cb) w1 w3 := ((HG2.out.trans gA).only _).then hO3
  obtain ⟨x0, x1, x2, x3, x4⟩ := HX.out
  have hne : ¬ xb = cb := by have : xb < w1.heap.size := hxb; omega
  have y0 := (hO3'.cell hxb hne 0).trans x0
  have y1 := (hO3'.cell hxb hne 1).trans x1
  have y2 := (hO3'.cell hxb hne 2).trans x2
  have y3 := (hO3'.cell hxb hne 3).trans x3
  have y4 := (hO3'.cell hxb hne 4).trans x4
  have D0 := wd_cell y0
  have D1 := wd_cell y1
  have D2 := wd_cell y2
  have D3 := wd_cell y3
  have D4 := wd_cell y4
  have hG3 : Grew w w3 := ((HG1.out.only _).then hO3').grew (fun j (hj : j = cb) => by have := HG1.out.size; omega)
  have HG3 := hid hG3
  have HST := hid (fun u (g : Grew w3 u) => cliStep_nil E (HE.out.grew (hG3.trans g)) (hC3.grew g) lb ua un uc 0 ca cl cc sq)
  have HN := hid (fun u (g : Grew w3 u) => num_all E 12 (by omega) u (HE.out.grew (hG3.trans g)))
  obtain ⟨ev, hev⟩ : ∃ ev, ev = errOf E 12 := ⟨_, rfl⟩
  rw [← hev] at HST HN
  clear hev gA hrt hO3 hC3 hO3' x0 x1 x2 x3 x4 y0 y1 y2 y3 y4 hG3 HX HC
  go_wp2_with fail
  refine wp_region_still 23 (by kernel_rfl) (by kernel_rfl) (fun _ _ => rfl) ?_
  repeat (first
    | (refine mxP ?_; intros; go_big_quiet_op; go_big_quiet_on)
    | (refine mxC (fun _ => by kernel_rfl) (fun u hu => HST.out u hu) ?_; simp only [Act.put, List.setIfInBounds_toArray, List.set_cons_zero, List.set_cons_succ])
    | (refine mxK ?_; simp only [Act.put, List.setIfInBounds_toArray, List.set_cons_zero, List.set_cons_succ]))
  refine mixS_nil ?_
  intro x hx
  have HX := hid hx
  clear D0 D1 D2 D3 D4 HST hx
  dsimp only [List.drop]
  go_wp2_with fail
  refine (HN.out _ HX.out).mono ?_
  rintro r w4 ⟨rfl, hg4⟩
  have HG4 := hid (HG3.out.trans (HX.out.trans hg4))
  clear hg4
  go_wp2_with fail
  go_ret
  exact ⟨by simp, HG4.out⟩
def OpsSm (ops : List OpR) (k : Nat) : Prop := ∀ j, j < k → (opRAt ops j).key.size ≤ 300 ∧ (opRAt ops j).val.size ≤ 300 ∧ (opRAt ops j).old.size ≤ 300
theorem opsSm_all {ops : List OpR} (h : OpsSm ops ops.length) : ∀ o ∈ ops, o.key.size ≤ 300 ∧ o.val.size ≤ 300 ∧ o.old.size ≤ 300 := by
  intro o ho
  obtain ⟨i, hi, rfl⟩ := List.getElem_of_mem ho
  have := h i hi
  have e : opRAt ops i = ops[i] := by unfold opRAt; rw [List.getElem?_eq_getElem hi]; rfl
  rwa [e] at this
set_option maxRecDepth 100000 in
set_option maxHeartbeats 8000000 in
theorem clientNew_walk (E : Nat → Addr) (id : Int) (a : Option Addr) (cap : Nat) (ops : List OpR) (w : World) (hE : Errs allS E w) (hA : OpRsAt w a ops) (hf : SlForm a cap) (hw : ∀ b off, a = some ⟨b, off, none⟩ → b < w.heap.size) (hfit : ∀ o ∈ ops, OpOk o) :
    Calls Tryz.prog 3 #[.int .i64 id, .slice a ops.length cap] w fun e w' => e = .returned (.bool true) ∧ Grew w w' := by
  have HE := hid hE
  have HA := hid hA
  have HF := hid hf
  have HW := hid hw
  have HFIT := hid (fun j (hj : j < ops.length) => show OpOk (opRAt ops j) from by
    have e : opRAt ops j = ops[j] := by unfold opRAt; rw [List.getElem?_eq_getElem hj]; rfl
    rw [e]; exact hfit _ (List.getElem_mem hj))
  have HAL := hid (alive28 E w hE)
  clear hE hA hf hw hfit
  go_enter Tryz.func3, Tryz.ntmps3
  go_wp2_with fail
  refine HAL.out.mono ?_
  rintro r w0 ⟨rfl, hg0⟩
  have HG0 := hid hg0
  clear hg0 HAL
  by_cases hn : (20 : Int) < (ops.length : Int)
  · go_wp2_with fail
    go_ret
    exact ⟨rfl, HG0.out⟩
  go_wp2_with fail
  go_loopw [6, 19] (fun _ i wr => ∃ k : Nat, i = .int .i64 k ∧ k ≤ ops.length ∧ Hid (OpsSm ops k) ∧ Hid (Grew w wr)) (fun _ i _ => ops.length - (intOf i).toNat)
  case atStart => exact ⟨0, rfl, Nat.zero_le _, fun j hj => absurd hj (Nat.not_lt_zero j), HG0.out⟩
  case round =>
    obtain ⟨k, rfl, hk, HS, HG⟩ := hrel
    by_cases hlt : k < ops.length
    · rcases HA.out with h0 | ⟨b, off, rfl, hb, hR⟩
      · rw [h0] at hlt; simp at hlt
      have q0 := (HG.out.cells.1 b (off + k * 5) hb).trans (hR.kind k hlt)
      have q1 := (HG.out.cells.1 b (off + k * 5 + 1) hb).trans (hR.key k hlt)
      have q2 := (HG.out.cells.1 b (off + k * 5 + 2) hb).trans (hR.val k hlt)
      have q3 := (HG.out.cells.1 b (off + k * 5 + 3) hb).trans (hR.old k hlt)
      have q4 := (HG.out.cells.1 b (off + k * 5 + 4) hb).trans (hR.ver k hlt)
      have HNX := hid (fun (h : (opRAt ops k).key.size ≤ 300 ∧ (opRAt ops k).val.size ≤ 300 ∧ (opRAt ops k).old.size ≤ 300) => show OpsSm ops (k + 1) from fun j hj => by
        rcases Nat.lt_or_ge j k with h1 | h1
        · exact HS.out j h1
        · obtain rfl : j = k := by omega
          exact h)
      have hok := HFIT.out k hlt
      generalize opRAt ops k = o at *
      obtain ⟨o0, o1, o2, o3, o4⟩ := o
      obtain ⟨k1, k2, k3⟩ := hok
      dsimp only at *
      clear hR
      by_cases z1 : (300 : Int) < (o1.size : Int)
      · go_wp2_with fail
        go_ret
        exact ⟨rfl, HG.out.alloc _⟩
      by_cases z2 : (300 : Int) < (o2.size : Int)
      · go_wp2_with fail
        go_ret
        exact ⟨rfl, HG.out.alloc _⟩
      by_cases z3 : (300 : Int) < (o3.size : Int)
      · go_wp2_with fail
        go_ret
        exact ⟨rfl, HG.out.alloc _⟩
      have HX := hid (HNX.out ⟨by omega, by omega, by omega⟩)
      have HGA := hid (HG.out.alloc (.cells #[.int .i64 o0, .string o1, .string o2, .string o3, .int .i64 o4] 25))
      clear HNX
      go_wp2_with fail
      go_roundw
      case rel => exact ⟨k + 1, by go_num, by omega, HX, HGA⟩
      case measure => simp [intOf]; omega
    · obtain rfl : k = ops.length := by omega
      have HSM := hid (opsSm_all HS.out)
      have gww := HG.out
      go_wp2_with fail
      refine (cliNew_any E (HE.out.grew HG.out) id).mono ?_
      rintro r w1 ⟨hg1, hV⟩
      rcases hV with ⟨hid1, rfl⟩ | ⟨hi1, hi2, cb, rfl, hcb, hC⟩
      · have HN := hid (num_all E 1 (by omega) w1 (HE.out.grew (HG.out.trans hg1)))
        obtain ⟨ev, hev⟩ : ∃ ev, ev = errOf E 1 := ⟨_, rfl⟩
        rw [← hev] at HN ⊢
        have HG1 := hid (HG.out.trans hg1)
        clear hev hg1 gww
        have hid2 : id < 1 ∨ (¬ id < 1 ∧ 4 < id) := by omega
        rcases hid2 with z1 | ⟨z1, z2⟩
        · clear hid1
          go_wp2_with fail
          refine HN.out.mono ?_
          rintro r w2 ⟨rfl, hg2⟩
          have HG2 := hid (HG1.out.trans hg2)
          clear hg2
          go_wp2_with fail
          go_ret
          exact ⟨by simp, HG2.out⟩
        · clear hid1
          go_wp2_with fail
          refine HN.out.mono ?_
          rintro r w2 ⟨rfl, hg2⟩
          have HG2 := hid (HG1.out.trans hg2)
          clear hg2
          go_wp2_with fail
          go_ret
          exact ⟨by simp, HG2.out⟩
      · have z1 : ¬ id < 1 := by omega
        have z2 : ¬ 4 < id := by omega
        have HG1 := hid (HG.out.trans hg1)
        have HC := hid hC
        have HCB := hid (And.intro hcb HG.out.size)
        clear hg1 hC gww hcb
        go_wp2_with fail
        refine (cliState_any HC.out).mono ?_
        rintro r w2 ⟨rfl, rfl⟩
        go_wp2_with fail
        refine (cliSeq_any HC.out).mono ?_
        rintro r w3 ⟨rfl, rfl⟩
        go_wp2_with fail
        obtain ⟨rb, hrb⟩ : ∃ rb, rb = Pl.rightB (enCl id a cap ops) := ⟨_, rfl⟩
        have HRB := hid ((right_cl id hi1 hi2 a a cap cap ops).symm.trans hrb.symm)
        have HBEG := hid (cliBegin_any E (HE.out.grew HG1.out) HC.out a cap ops (HA.out.grew HG1.out) HF.out (by omega) (fun o ho => by have := HSM.out o ho; exact ⟨by omega, by omega, by omega⟩) (fun b off e q => by have := HW.out b off e; have := HCB.out.1; have := HCB.out.2; omega))
        rw [← hrb] at HBEG
        clear hrb
        refine HBEG.out.mono ?_
        have hsz3 := HG1.out.size
        rintro r w4 (⟨rfl, rfl, hg4⟩ | ⟨rfl, rfl, hO4, hC4⟩)
        · have HG4 := hid (HG1.out.trans hg4)
          have HC4 := hid (HC.out.grew hg4)
          have HRT := hid (right5_kind (enCl 1 a cap ops) w4 ⟨HA.out.grew HG4.out, by show ops.length ≤ 1000000; omega, fun o ho => by have := HSM.out o ho; exact ⟨by omega, by omega, by omega⟩, fun h => by cases h⟩ (fun h => by cases h) (fun o ho => by have := (HSM.out o ho).1; omega))
          rw [HRB.out] at HRT
          unfold En.agg En.vals enCl at HRT
          dsimp only at HRT
          have HN := hid (fun u (g : Grew w u) => num_all E 4 (by omega) u (HE.out.grew g))
          obtain ⟨ev, hev⟩ : ∃ ev, ev = errOf E 4 := ⟨_, rfl⟩
          rw [← hev] at HN ⊢
          clear hev hg4 HBEG
          go_wp2_with fail
          refine HRT.out.mono ?_
          rintro r w5 ⟨rfl, hg5⟩
          have HG5 := hid (HG4.out.trans hg5)
          have HC5 := hid (HC4.out.grew hg5)
          clear hg5 HRT
          go_wp2_with fail
          refine (HN.out _ HG5.out).mono ?_
          rintro r w6 ⟨rfl, hg6⟩
          have HG6 := hid (HG5.out.trans hg6)
          have HC6 := hid (HC5.out.grew hg6)
          clear hg6
          go_wp2_with fail
          refine (cliState_any HC6.out).mono ?_
          rintro r w7 ⟨rfl, rfl⟩
          go_wp2_with fail
          go_ret
          exact ⟨by simp, HG6.out⟩
        · have HG4 : Hid (Grew w w4) := ((HG1.out.only _).then hO4).grew (fun j (hj : j = cb) => by have := HCB.out.1; have := HCB.out.2; omega)
          have HC4 := hid hC4
          have HRT := hid (right5_kind (enCl 1 a cap ops) w4 ⟨HA.out.grew HG4.out, by show ops.length ≤ 1000000; omega, fun o ho => by have := HSM.out o ho; exact ⟨by omega, by omega, by omega⟩, fun h => by cases h⟩ (fun h => by cases h) (fun o ho => by have := (HSM.out o ho).1; omega))
          rw [HRB.out] at HRT
          unfold En.agg En.vals enCl at HRT
          dsimp only at HRT
          have HN := hid (fun u (g : Grew w u) => num_all E 17 (by omega) u (HE.out.grew g))
          have HAG := hid (fun u (g : Grew w4 u) => cliBegin_again E (HE.out.grew (HG4.out.trans g)) (HC4.out.grew g) a ops.length cap)
          obtain ⟨ev, hev⟩ : ∃ ev, ev = errOf E 17 := ⟨_, rfl⟩
          rw [← hev] at HN HAG
          clear hev hO4 hC4 HBEG
          go_wp2_with fail
          refine HRT.out.mono ?_
          rintro r w5 ⟨rfl, hg5⟩
          have HG5 := hid (HG4.out.trans hg5)
          have HC5 := hid (HC4.out.grew hg5)
          have HG45 := hid hg5
          clear hg5 HRT
          go_wp2_with fail
          refine (HAG.out _ HG45.out).mono ?_
          rintro r w6 ⟨rfl, hg6⟩
          have HG6 := hid (HG5.out.trans hg6)
          have HC6 := hid (HC5.out.grew hg6)
          clear hg6
          go_wp2_with fail
          refine (cliState_any HC6.out).mono ?_
          rintro r w7 ⟨rfl, rfl⟩
          go_wp2_with fail
          refine (HN.out _ HG6.out).mono ?_
          rintro r w8 ⟨rfl, hg8⟩
          have HG8 := hid (HG6.out.trans hg8)
          clear hg8
          go_wp2_with fail
          go_ret
          exact ⟨by simp, HG8.out⟩
end Go.Proofs.YtgfibdkeaicnfaaGreatDoor
namespace Go.Proofs.YtgfibdkeaicnfaaGreatDoor
open Go.RowKit Go.ChangeShapes Go.WideShapes Go.Deep
end Go.Proofs.YtgfibdkeaicnfaaGreatDoor
namespace Go.Proofs.YtgfibdkeaicnfaaGreatDoor
open Go.RowKit Go.ChangeShapes Go.WideShapes Go.Deep
theorem cells_opA : Tryz.prog.cellsOf 25 = 5 := by kernel_rfl
theorem cells_intA : Tryz.prog.cellsOf 3 = 1 := by kernel_rfl
theorem cells_strA : Tryz.prog.cellsOf 9 = 1 := by kernel_rfl
section
variable {H : Type} {enc : TypeId × Value → H} {W : World} {base : Nat} {spare : Nat → Bool} {held : Bool} {n : Nat} {cs : List Value} {y : DataW H × List MemPlace}
set_option maxRecDepth 100000 in
theorem open_opA (hl : cs.length = 5) (h : DataW.trod enc Tryz.prog W base spare held n 25 cs = some y) :
    ∃ x : OpR, cs = x.vals ∧ (x.key.size ≤ 9223372036854775807 ∧ x.val.size ≤ 9223372036854775807 ∧ x.old.size ≤ 9223372036854775807) ∧ x.key.size ∈ y.1.weights Tryz.prog 25 := by
  match cs, hl with
  | [c0, c1, c2, c3, c4], _ =>
    obtain ⟨xs, n', _, hx, _, hlen, hg⟩ := DataW.trod_struct Tryz.underlying25 h
    have g0 := hg 0 _ rfl
    have g1 := hg 1 _ rfl
    have g2 := hg 2 _ rfl
    have g3 := hg 3 _ rfl
    have g4 := hg 4 _ rfl
    match xs, hlen with
    | [y0, y1, y2, y3, y4], _ =>
      simp [cells_intA, cells_strA] at g0 g1 g2 g3 g4
      obtain ⟨k, e0, e0d, _⟩ := DataW.trod_int Tryz.underlying3 g0
      obtain ⟨s1, e1, e1d, w1⟩ := DataW.trod_string Tryz.underlying9 g1
      obtain ⟨s2, e2, e2d, w2⟩ := DataW.trod_string Tryz.underlying9 g2
      obtain ⟨s3, e3, e3d, w3⟩ := DataW.trod_string Tryz.underlying9 g3
      obtain ⟨v, e4, e4d, _⟩ := DataW.trod_int Tryz.underlying3 g4
      simp at e0 e1 e2 e3 e4
      subst e0 e1 e2 e3 e4
      unfold maxLen at w1 w2 w3
      refine ⟨⟨k, s1, s2, s3, v⟩, rfl, ⟨by dsimp only; omega, by dsimp only; omega, by dsimp only; omega⟩, ?_⟩
      rw [hx, e0d, e1d, e2d, e3d, e4d]
      simp only [List.map_cons, List.map_nil, DataW.weights, Tryz.underlying25, DataW.weightsEach, List.cons_append, List.nil_append, List.mem_cons]
      exact Or.inl Array.length_toList.symm
end
theorem weightsAll_mem {H : Type} {P : Program} {e : TypeId} : ∀ (ds : List (DataW H)) (d : DataW H), d ∈ ds → ∀ n ∈ d.weights P e, n ∈ DataW.weightsAll P e ds
  | d0 :: ds, d, hd, n, hn => by
    simp only [DataW.weightsAll, List.mem_append]
    rcases List.mem_cons.1 hd with rfl | hd
    · exact Or.inl hn
    · exact Or.inr (weightsAll_mem ds d hd n hn)
  | [], _, hd, _, _ => by simp at hd
set_option maxRecDepth 100000 in
theorem slForm_argO {W : World} {base0 : Nat} {a : Option Addr} {n cap : Nat} (hv : Value.okWide Tryz.prog W .any base0 22 (.slice a n cap)) : SlForm a cap := by
  unfold Value.okWide Cell.okWide Cell.ok at hv
  simp only [Tryz.underlying22] at hv
  cases a with
  | none =>
    left
    cases n with
    | zero =>
      cases cap with
      | zero => exact ⟨rfl, rfl⟩
      | succ c => simp at hv
    | succ c => simp at hv
  | some a =>
    right
    obtain ⟨b, off, spot⟩ := a
    obtain ⟨_, _, h⟩ := hv
    have : spot = none := h.2.1
    subst this
    exact ⟨b, off, rfl⟩
set_option maxRecDepth 100000 in
theorem block_argO {W : World} {base0 : Nat} {a : Option Addr} {n cap : Nat} (hv : Value.okWide Tryz.prog W .any base0 22 (.slice a n cap)) : ∀ b off, a = some ⟨b, off, none⟩ → b < W.heap.size := by
  intro b off e
  subst e
  unfold Value.okWide Cell.okWide Cell.ok at hv
  simp only [Tryz.underlying22] at hv
  obtain ⟨_, _, _, _, row, cells, hs, _⟩ := hv
  unfold World.shape? at hs
  by_cases h : b < W.heap.size
  · exact h
  · rw [Array.getElem?_eq_none (Nat.le_of_not_lt h)] at hs
    cases hs
set_option maxRecDepth 100000 in
theorem open_opsA {H : Type} {enc : TypeId × Value → H} {W : World} {held : Bool} {base0 : Nat} {v : Value} {d : DataW H} {p : List MemPlace} (hv : Value.okWide Tryz.prog W .any base0 22 v)
    (h : DataW.Trod enc Tryz.prog W 0 (fun _ => true) held 22 v d p) (hsz : ∀ n ∈ d.weights Tryz.prog 22, n ≤ reachBytes) :
    ∃ a cap xs, v = .slice a xs.length cap ∧ OpRsAt W a xs ∧ SlForm a cap ∧ (∀ b off, a = some ⟨b, off, none⟩ → b < W.heap.size) ∧ ∀ o ∈ xs, OpOk o := by
  obtain ⟨a0, l0, c0, rfl⟩ := okWide_slice Tryz.underlying22 hv
  have hF := slForm_argO hv
  have hB := block_argO hv
  obtain ⟨fuel, hf⟩ := h
  rcases open_slice Tryz.underlying22 hf with ⟨hcs, _⟩ | ⟨a, len, cap, m, n, D, Pl, hcs, _, hl, hm, hmm, hx, hi⟩
  · simp [Value.cells] at hcs
    obtain ⟨rfl, rfl, rfl⟩ := hcs
    exact ⟨none, 0, [], rfl, .inl rfl, hF, hB, by simp⟩
  · simp [Value.cells] at hcs
    obtain ⟨rfl, rfl, rfl⟩ := hcs
    have hlm : l0 ≤ m := by rw [hmm]; split <;> omega
    have each : ∀ i, i < l0 → ∃ x : OpR, (W.cell? (a.add (i * 5)) = some (.int .i64 x.kind) ∧ W.cell? (a.add (i * 5 + 1)) = some (.string x.key) ∧ W.cell? (a.add (i * 5 + 2)) = some (.string x.val) ∧ W.cell? (a.add (i * 5 + 3)) = some (.string x.old) ∧ W.cell? (a.add (i * 5 + 4)) = some (.int .i64 x.ver)) ∧ OpOk x := by
      intro i hil
      obtain ⟨cs', hc, ht⟩ := hi i (by omega)
      rw [cells_opA] at hc
      obtain ⟨_, hlen, hat⟩ := World.cells?_some hc
      obtain ⟨x, rfl, hx1, hx2⟩ := open_opA hlen ht
      have hk : x.key.size ≤ reachBytes := hsz _ (by rw [(Prod.mk.inj hx).1]; simp only [DataW.weights, Tryz.underlying22]; exact List.mem_cons_of_mem _ (List.mem_append_left _ (weightsAll_mem _ (D i) (List.mem_map.2 ⟨i, List.mem_range.2 hil, rfl⟩) _ hx2)))
      refine ⟨x, ⟨?_, ?_, ?_, ?_, ?_⟩, ⟨hk, hx1.2.1, hx1.2.2⟩⟩
      · have := hat 0 (by omega); rw [add_add] at this; exact this
      · have := hat 1 (by omega); rw [add_add] at this; exact this
      · have := hat 2 (by omega); rw [add_add] at this; exact this
      · have := hat 3 (by omega); rw [add_add] at this; exact this
      · have := hat 4 (by omega); rw [add_add] at this; exact this
    obtain ⟨X, hX⟩ := choose_lt each
    have hlenX : ((List.range l0).map X).length = l0 := by simp
    have hatX : ∀ j, j < l0 → opRAt ((List.range l0).map X) j = X j := fun j hj => by unfold opRAt; simp [hj]
    refine ⟨some a, c0, (List.range l0).map X, by rw [hlenX], ?_, hF, hB, ?_⟩
    · by_cases h0 : l0 = 0
      · left; rw [h0]; rfl
      · right
        obtain ⟨b, off, spot⟩ := a
        have hs : spot = none := by
          have := (hX 0 (by omega)).1.1
          simpa [Addr.add] using World.cell?_spot this
        subst hs
        refine ⟨b, off, rfl, block_lt_of_cell (by have := (hX 0 (by omega)).1.1; simpa [Addr.add] using this), ?_, ?_, ?_, ?_, ?_⟩ <;> intro j hj <;> rw [hlenX] at hj <;> rw [hatX j hj]
        · have := (hX j hj).1.1; rwa [Addr.add_lit] at this
        · have := (hX j hj).1.2.1; rwa [Addr.add_lit, ← Nat.add_assoc] at this
        · have := (hX j hj).1.2.2.1; rwa [Addr.add_lit, ← Nat.add_assoc] at this
        · have := (hX j hj).1.2.2.2.1; rwa [Addr.add_lit, ← Nat.add_assoc] at this
        · have := (hX j hj).1.2.2.2.2; rwa [Addr.add_lit, ← Nat.add_assoc] at this
    · intro o ho
      obtain ⟨j, hj, rfl⟩ := List.mem_map.1 ho
      exact (hX j (List.mem_range.1 hj)).2
end Go.Proofs.YtgfibdkeaicnfaaGreatDoor
namespace Go.Proofs.YtgfibdkeaicnfaaGreatDoor
open Go.RowKit
theorem laid_sents {P : Program} {W : World} {nm : String} {ti tp te ts : TypeId} {ms : Array (String × TypeId)} {f : Field}
    (hi : P.underlying ti = some (.interface ms)) (hrow : ∀ u, P.typeName? 3 u = some nm → u = tp)
    (hp : P.underlying tp = some (.pointer te)) (he : P.underlying te = some (.struct #[f])) (hft : f.type = ts) (hfo : f.offset = 0) (hs : P.underlying ts = some .string) (hc : P.cellsOf te = 1) (hcs : P.cellsOf ts = 1) :
    ∀ (L : List (String × DataW Unit)) (gs : List Nat) (ps : List MemPlace), (∀ x ∈ L, ∃ text, x.2 = .iface nm (.ptr (.agg [.lit (.string text)]))) → L.map (fun x => P.globalNamed x.1) = gs.map some →
      (∀ g ∈ gs, (P.globals[g]?).map (·.type) = some ti) → DataW.LaidVars P W L ps → ps.Nodup →
      (∀ b off, MemPlace.cell b off ∈ ps → (∃ c t, W.heap[b]? = some (.cells c t (0, 0))) ∧ ∀ u v, W.cell? ⟨b, off, none⟩ = some (.iface u v) → Value.okWide P W .any 0 u v) →
      ∃ ads : List Addr, ads.length = gs.length ∧ (∀ (i g : Nat) (a : Addr), gs[i]? = some g → ads[i]? = some a → W.cell? ⟨g, 0, none⟩ = some (.iface tp (.pointer (some a))) ∧ ∃ c t, W.heap[a.block]? = some (.cells c t (0, 0))) ∧
        (∀ a ∈ ads, MemPlace.cell a.block a.off ∈ ps) ∧ ads.Nodup := by
  intro L
  induction L with
  | nil =>
    intro gs ps _ hg _ _ _ _
    cases gs with
    | nil => exact ⟨[], rfl, by simp, by simp, List.nodup_nil⟩
    | cons g r => simp at hg
  | cons x L ih =>
    intro gs ps hsh hg ht hL hnd hrows
    obtain ⟨n, d⟩ := x
    cases gs with
    | nil => simp at hg
    | cons g gs =>
      simp only [List.map_cons, List.cons.injEq] at hg
      obtain ⟨hg0, hg1⟩ := hg
      obtain ⟨g0, t0, cs0, f0, p0, q0, hg0', ht0', hv0, hd0, hrest, rfl⟩ := hL
      obtain rfl := Option.some.inj (hg0.symm.trans hg0')
      obtain rfl := Option.some.inj ((ht g (by simp)).symm.trans ht0')
      obtain ⟨text, htext⟩ := hsh (n, d) (by simp)
      simp only at htext
      subst htext
      obtain ⟨l0⟩ := cs0
      have ok0 : ∀ u v, l0 = [.iface u v] → Value.okWide P W .any 0 u v := fun u v e => by
        subst e
        exact (hrows g 0 (by simp [MemPlace.row])).2 u v (by simpa using World.var?_cell hg0' hv0 0)
      obtain ⟨a0, s0, rfl, hc0, hs0, hz0, rfl⟩ := errorString_of_trod hi hrow hp he hft hfo hs hc hcs hd0 ok0
      have hnd2 : q0.Nodup := List.Nodup.sublist (List.sublist_append_right _ _) hnd
      obtain ⟨ads, h1, h2, h3, h4⟩ := ih gs q0 (fun x hx => hsh x (List.mem_cons_of_mem _ hx)) hg1 (fun g' hg' => ht g' (List.mem_cons_of_mem _ hg')) hrest hnd2
        (fun b off hm => hrows b off (List.mem_append_right _ hm))
      refine ⟨a0 :: ads, by simp [h1], ?_, ?_, ?_⟩
      · intro i g' a hgi hai
        cases i with
        | zero =>
          simp at hgi hai
          subst hgi hai
          exact ⟨by simpa using World.var?_cell hg0' hv0 0, (hrows a0.block a0.off (by simp [MemPlace.row])).1⟩
        | succ i => exact h2 i g' a (by simpa using hgi) (by simpa using hai)
      · intro a ha
        rcases List.mem_cons.1 ha with rfl | ha
        · simp [MemPlace.row]
        · exact List.mem_append_right _ (h3 a ha)
      · refine List.nodup_cons.2 ⟨fun hm => ?_, h4⟩
        have hd := (List.nodup_append.1 hnd).2.2 (MemPlace.cell a0.block a0.off) (by simp [MemPlace.row]) (MemPlace.cell a0.block a0.off) (h3 a0 hm)
        exact hd rfl
theorem star_name : "*" ++ "errors.errorString" = "*errors.errorString" := by decide +kernel
theorem row_error (u : TypeId) (h : Tryz.prog.typeName? 3 u = some "*errors.errorString") : u = 501 :=
  typeName_ptr_named (nm := "errors.errorString") (by rw [star_name]; kernel_rfl) (by kernel_rfl) (by decide) u (by rw [star_name]; exact h)
theorem cells_errorString : Tryz.prog.cellsOf 533 = 1 := by kernel_rfl
theorem cells_string : Tryz.prog.cellsOf 9 = 1 := by kernel_rfl
theorem errs_of_laid (L : List (String × DataW Unit)) (ks : List Nat) (S : Nat → Bool) (hS : ∀ k, S k = true → k ∈ ks) (h0 : S 0 = false) {W : World}
    (hsh : ∀ x ∈ L, ∃ text, x.2 = .iface "*errors.errorString" (.ptr (.agg [.lit (.string text)]))) (hg : L.map (fun x => Tryz.prog.globalNamed x.1) = (ks.map gvar).map some)
    (ht : ∀ g ∈ ks.map gvar, (Tryz.prog.globals[g]?).map (·.type) = some 28) (h : laidMet Tryz.prog L W) : ∃ E, Errs S E W := by
  obtain ⟨ps, hL, hnd, hrows⟩ := h
  obtain ⟨ads, h1, h2, _, h4⟩ := laid_sents (P := Tryz.prog) (W := W) Tryz.underlying28 row_error Tryz.underlying501 Tryz.underlying533 rfl rfl Tryz.underlying9 cells_errorString cells_string L (ks.map gvar) ps hsh hg ht hL hnd hrows
  have get : ∀ k, k ∈ ks → ∃ a, ads[ks.idxOf k]? = some a ∧ (ks.map gvar)[ks.idxOf k]? = some (gvar k) ∧ ads.getD (ks.idxOf k) default = a := by
    intro k hk
    have hlt : ks.idxOf k < ks.length := List.idxOf_lt_length_iff.2 hk
    have hl : ks.idxOf k < ads.length := by rw [h1]; simpa using hlt
    refine ⟨ads[ks.idxOf k], List.getElem?_eq_getElem hl, ?_, ?_⟩
    · rw [List.getElem?_map, List.getElem?_eq_getElem hlt, List.getElem_idxOf hlt]; rfl
    · rw [List.getD_eq_getElem?_getD, List.getElem?_eq_getElem hl]; rfl
  refine ⟨fun k => ads.getD (ks.idxOf k) default, h0, ?_, ?_, ?_⟩
  · intro k hk
    obtain ⟨a, ha, hgv, e⟩ := get k (hS k hk)
    rw [e]
    exact (h2 _ _ _ hgv ha).1
  · intro k hk
    obtain ⟨a, ha, hgv, e⟩ := get k (hS k hk)
    rw [e]
    exact (h2 _ _ _ hgv ha).2
  · intro j k hj hk hne
    obtain ⟨a, ha, _, e⟩ := get j (hS j hj)
    obtain ⟨b, hb, _, e'⟩ := get k (hS k hk)
    show ads.getD (ks.idxOf j) default ≠ ads.getD (ks.idxOf k) default
    rw [e, e']
    rintro rfl
    obtain ⟨hl1, g1⟩ := List.getElem?_eq_some_iff.1 ha
    obtain ⟨hl2, g2⟩ := List.getElem?_eq_some_iff.1 hb
    have hi := List.pairwise_iff_getElem.1 h4
    have hij : ks.idxOf j = ks.idxOf k := by
      refine Classical.byContradiction fun hn => ?_
      rcases Nat.lt_or_gt_of_ne hn with hlt2 | hlt2
      · exact hi _ _ hl1 hl2 hlt2 (g1.trans g2.symm)
      · exact hi _ _ hl2 hl1 hlt2 (g2.trans g1.symm)
    have hj' : ks.idxOf j < ks.length := List.idxOf_lt_length_iff.2 (hS j hj)
    have hk' : ks.idxOf k < ks.length := List.idxOf_lt_length_iff.2 (hS k hk)
    have e1 := List.getElem_idxOf hj'
    have e2 := List.getElem_idxOf hk'
    simp only [hij] at e1
    exact hne (e1.symm.trans e2)
end Go.Proofs.YtgfibdkeaicnfaaGreatDoor
namespace Go.Proofs.YtgfibdkeaicnfaaGreatDoor.fincli
open Go.ChangeShapes Go.WideShapes Go.ChangeAt Go.RowKit
theorem own : ownKnob Tryz.prog.godebug = none := by kernel_rfl
theorem laidOut : laidOutB Tryz.prog = true := by kernel_rfl
theorem laid_met (os : Os) (args : Array Value) : laidMetH Tryz.prog Rows.clientNewRow.laid ((World.doorLaid Tryz.prog 400 os).forCall (fun _ _ => 0) ⟨#[], args, []⟩).memory :=
  laidMet_of_run' 8 (by kernel_rfl) (by kernel_rfl)
theorem errs {W : World} (h : laidMetH Tryz.prog Rows.clientNewRow.laid W) : ∃ E, Errs allS E W := by
  have h' : laidMet Tryz.prog Rows.clientNewRow.laid W := h
  exact errs_of_laid Rows.clientNewRow.laid [1, 2, 3, 4, 5, 6, 7, 8, 9, 10, 11, 12, 13, 14, 15, 16, 17, 18, 19] allS
    (fun k hk => by simp only [allS, Bool.and_eq_true, decide_eq_true_eq] at hk; simp only [List.mem_cons, List.not_mem_nil, or_false]; omega) rfl
    (by simp only [Rows.clientNewRow, List.forall_mem_cons]; exact ⟨⟨_, rfl⟩, ⟨_, rfl⟩, ⟨_, rfl⟩, ⟨_, rfl⟩, ⟨_, rfl⟩, ⟨_, rfl⟩, ⟨_, rfl⟩, ⟨_, rfl⟩, ⟨_, rfl⟩, ⟨_, rfl⟩, ⟨_, rfl⟩, ⟨_, rfl⟩, ⟨_, rfl⟩, ⟨_, rfl⟩, ⟨_, rfl⟩, ⟨_, rfl⟩, ⟨_, rfl⟩, ⟨_, rfl⟩, ⟨_, rfl⟩, by simp⟩)
    (by kernel_rfl) (by simp only [List.map_cons, List.map_nil, List.forall_mem_cons]; refine ⟨?_, ?_, ?_, ?_, ?_, ?_, ?_, ?_, ?_, ?_, ?_, ?_, ?_, ?_, ?_, ?_, ?_, ?_, ?_, by simp⟩ <;> kernel_rfl) h'
end Go.Proofs.YtgfibdkeaicnfaaGreatDoor.fincli
namespace Go.Proofs.YtgfibdkeaicnfaaGreatDoor.fincli
open Go
theorem and_split {a b : Bool} (h1 : a = true) (h2 : b = true) : (a && b) = true := by rw [h1, h2]; rfl
set_option maxHeartbeats 4000000 in
theorem closed : joinedFacts Tryz.pinned.checked.prog 3 Tryz.f3 Rows.clientNewSpec Rows.clientNewRow = true := by
  unfold joinedFacts
  iterate 31 (refine and_split ?_ (by as_aux_lemma => kernel_rfl))
  kernel_rfl
end Go.Proofs.YtgfibdkeaicnfaaGreatDoor.fincli
