/- Srv1, IntS, Num19, Law27: one text. -/
import Derived.Test.YtlgcdneiebjkcaaGreatDoorFinServeNewQ16
import Derived.Test.YtlgcdneiebjkcaaGreatDoorFinServeNewQ3
import Derived.Test.YtlgcdneiebjkcaaGreatDoorFinServeNewQ4
import Derived.Test.YtlgcdneiebjkcaaGreatDoorFinServeNewQ11
import Derived.Test.YtlgcdneiebjkcaaGreatDoorFinServeNewQ9
set_option linter.unusedVariables false
set_option linter.unusedSectionVars false
set_option linter.unusedSimpArgs false
namespace Go.Proofs.YtlgcdneiebjkcaaGreatDoor
open Go.Shelf
def Tryz.keysSt_ren : Go.Shelf.Ren := ⟨fun | 7 => 16 | 10 => 31 | n => n, fun | 23 => 52 | 26 => 3 | 3 => 61 | 28 => 59 | 0 => 0 | 27 => 58 | 33 => 34 | 4 => 4 | n => n, fun | n => n⟩
theorem Tryz.keysSt : Go.Proofs.SlLaysZI.n7 Tryz.prog Tryz.keysSt_ren := {
  mixed := by kernel_rfl
  f7 := ⟨Tryz.f16.name, by decide, Tryz.func16.trans (congrArg some (by kernel_rfl))⟩
  f10 := ⟨Tryz.f31.name, by decide, Tryz.func31.trans (congrArg some (by kernel_rfl))⟩
  t0 := Tryz.underlying0
  a0 := Tryz.isAgg0
  z0 := Tryz.sizeOf0
  v0 := Tryz.zeroValue0
  t4 := Tryz.underlying4
  a4 := Tryz.isAgg4
  z4 := Tryz.sizeOf4
  v4 := Tryz.zeroValue4
  t23 := Tryz.underlying52
  a23 := Tryz.isAgg52
  z23 := Tryz.sizeOf52
  v23 := Tryz.zeroValue52
  t26 := Tryz.underlying3
  a26 := Tryz.isAgg3
  z26 := Tryz.sizeOf3
  v26 := Tryz.zeroValue3
  t27 := Tryz.underlying58
  a27 := Tryz.isAgg58
  z27 := Tryz.sizeOf58
  v27 := Tryz.zeroValue58
  t28 := Tryz.underlying59
  a28 := Tryz.isAgg59
  z28 := Tryz.sizeOf59
  v28 := Tryz.zeroValue59
  t33 := Tryz.underlying34
  a33 := Tryz.isAgg34
  z33 := Tryz.sizeOf34
  v33 := Tryz.zeroValue34 }
end Go.Proofs.YtlgcdneiebjkcaaGreatDoor
namespace Go.Proofs.YtlgcdneiebjkcaaGreatDoor
open Go.RowKit Go.Maps Go.Sort Go.Shelf
attribute [local go_sem] Oper.semAt_some
set_option maxRecDepth 100000 in
set_option maxHeartbeats 2000000 in
theorem sortedSt_any (w : World) (mb n : Nat) (f : Lit → Option Value) (h : LMap w Tryz.prog 3 mb n f) (hn : n ≤ 1000000) (Bm : Nat) (hBm : w.cell? ⟨Bm, 0, none⟩ = some (.map (some mb))) :
    CallsIn Fence.wide 5 Tryz.prog 15 #[.func (.func 31) #[] #[.pointer (some ⟨Bm, 0, none⟩)]] w fun e w' => ∃ (v : Value) (ks : List Int), e = .returned v ∧ (ks.Pairwise fun a b => a < b) ∧ (∀ c, c ∈ ks ↔ f (clit c) ≠ none) ∧ ks.length ≤ n ∧ w'.ownsRow w.heap.size 3 1 v ks.length (ks.map encZ) ∧ Below w.heap.size w w' := by
  obtain ⟨D, hown, hf⟩ := h
  obtain ⟨hnd, hmem, hlen, hsz⟩ := ownsMap_ints hown cl_keyed Tryz.underlying3
  have hBlt : Bm < w.heap.size := cell_lt hBm
  have hseq : SeqGives Fence.wide 2 Tryz.prog 31 #[.pointer (some ⟨Bm, 0, none⟩)] encZ (fun ss => ss.Perm (intKeys D)) (Maps.size D) w :=
    AnyZI.keys_gives (ρ := Tryz.keysSt_ren) { Tryz.keysSt with } Fence.wide _ trivial rfl (by omega) Bm mb n D w hBlt hBm hown
  have cS := AnyZI.sorted_in Tryz.sortedCl Fence.wide 5 trivial trivial trivial trivial rfl (by omega) (sortsCl _) (enters_of Tryz.func30 (by kernel_rfl) rfl) 31 #[.pointer (some ⟨Bm, 0, none⟩)] trivial (enters_of Tryz.func31 (by kernel_rfl) rfl) _ _ (by unfold maxLen; omega) (by omega) _ hseq
  change CallsIn _ _ Tryz.prog 15 _ _ _ at cS
  refine cS.mono ?_
  rintro e w' ⟨v, ss, rfl, hp, hrow, _, hb⟩
  have hm : (ss.mergeSort (fun x y => decide (x ≤ y))).Perm ss := List.mergeSort_perm _ _
  have hpp := hm.trans hp
  refine ⟨v, _, rfl, ?_, fun c => by rw [hpp.mem_iff, hmem, hf], by rw [hpp.length_eq]; exact hlen, by rw [hm.length_eq]; exact hrow, hb⟩
  have tr : ∀ a b c : Int, decide (a ≤ b) = true → decide (b ≤ c) = true → decide (a ≤ c) = true := fun a b c h1 h2 => by simp only [decide_eq_true_eq] at *; omega
  have tot : ∀ a b : Int, (decide (a ≤ b) || decide (b ≤ a)) = true := fun a b => by simp only [Bool.or_eq_true, decide_eq_true_eq]; omega
  have h1 := List.pairwise_mergeSort tr tot ss
  have h2 : (ss.mergeSort (fun x y => decide (x ≤ y))).Nodup := hpp.nodup_iff.2 hnd
  exact List.Pairwise.imp₂ (fun a b h3 h4 => by simp only [decide_eq_true_eq] at h3; omega) h1 h2
namespace Pl
theorem rise_one {ks : List Int} (h : ks.Pairwise fun a b => a < b) (hm : ∀ c, c ∈ ks ↔ c = 1) : ks = [1] := by
  match ks, h, hm with
  | [], _, hm => exact absurd ((hm 1).2 rfl) (by simp)
  | [a], _, hm => rw [(hm a).1 (by simp)]
  | a :: b :: r, h, hm =>
    have h1 := (hm a).1 (by simp)
    have h2 := (hm b).1 (by simp)
    have := (List.pairwise_cons.1 h).1 b (by simp)
    omega
end Pl
theorem stm_mem (st : Nat) (c : Int) : stm st (clit c) ≠ none ↔ c = 1 := by
  unfold stm lset clit
  by_cases h : c = 1
  · subst h; simp
  · rw [if_neg (fun e => h (by injection e))]; simp [h]
abbrev aK : ByteArray := ⟨#[97]⟩
theorem keyN_aK : Pl.keyN aK = 0 := by decide +kernel
theorem own_aK : Pl.ownerI [sh0] aK = 0 := by decide +kernel
theorem ownV_aK : Pl.ownerV [sh0] aK = sh0 := by unfold Pl.ownerV; rw [own_aK]; rfl
theorem zero_st (w : World) : (zeroValue 61).run Tryz.prog w = .ok (.pointer none) w := by kernel_rfl
set_option maxRecDepth 100000 in
set_option maxHeartbeats 4000000 in
theorem sync0 {S : Nat → Bool} (hS : KeyS S) (E : Nat → Addr) {w w0 : World} {lb sq vb mb : Nat} {e : Int} (hL : LogC w lb sq e 0) (hE : Errs S E w) (hV : SvNew w0 w vb mb 1) : Calls Tryz.prog 43 #[.pointer (some ⟨vb, 0, none⟩), .pointer (some ⟨lb, 0, none⟩)] w fun r w' => r = .returned .nilIface ∧ Only (fun j => j = vb) w w' ∧ ∃ sb m st cb, SvAt w.heap.size w' vb sb m st cb := by
  have HL := hid hL
  have HE := hid hE
  have HV := hid hV
  have HT := hid (logTail_any hL)
  clear hL hE hV
  go_enter Tryz.func43, Tryz.ntmps43
  go_wp2_with fail
  refine HT.out.mono ?_
  rintro r w1 ⟨rfl, hg1⟩
  have HG1 := hid hg1
  clear hg1
  go_wp2_with fail
  refine (logBegin0 (HL.out.grew HG1.out)).mono ?_
  rintro r w2 ⟨rfl, hg2⟩
  have HG2 := hid (HG1.out.trans hg2)
  clear hg2
  have c2 := (HG2.out.cells.1 _ 2 (cell_lt HV.out.1)).trans HV.out.2.2.1
  go_wp2_with fail
  refine (logPages0 (HL.out.grew HG2.out)).mono ?_
  rintro r w3 ⟨rfl, hg3⟩
  have HG3 := hid (HG2.out.trans hg3)
  clear hg3 c2
  have hV3 : SvNew w0 w3 vb mb 1 := by
    obtain ⟨v0, v1, v2, v3, vf, hvb, hgv⟩ := HV.out
    have hl : vb < w.heap.size := cell_lt v0
    exact ⟨(HG3.out.cells.1 _ 0 hl).trans v0, (HG3.out.cells.1 _ 1 hl).trans v1, (HG3.out.cells.1 _ 2 hl).trans v2, (HG3.out.cells.1 _ 3 hl).trans v3, fun i => (HG3.out.cells.2 _ i hl).trans (vf i), hvb, hgv.trans HG3.out⟩
  have HA := hid (anew0 hS E (HL.out.grew HG3.out) (HE.out.grew HG3.out) hV3)
  clear hV3
  go_wp2_with fail
  refine HA.out.mono ?_
  rintro r w4 ⟨rfl, ho, hx⟩
  have HX := hid (And.intro ho hx)
  clear ho hx
  go_wp2_with fail
  go_ret
  obtain ⟨ho, sb, m, st, cb, hs⟩ := HX.out
  exact ⟨rfl, (HG3.out.only _).then ho, sb, m, st, cb, hs.le HG3.out.size⟩
set_option maxRecDepth 100000 in
set_option maxHeartbeats 4000000 in
theorem owned0 {S : Nat → Bool} (hS : ShdS S) (E : Nat → Addr) {w w0 : World} {lb sq vb mb : Nat} {e : Int} (hL : LogC w lb sq e 0) (hE : Errs S E w0) (hV : SvNew w0 w vb mb 1) : Calls Tryz.prog 23 #[.pointer (some ⟨vb, 0, none⟩), .pointer (some ⟨lb, 0, none⟩), .string aK] w fun r w' => Only (fun j => j = vb) w w' ∧ ∃ sb m st cb, r = .returned (.tuple #[.pointer (some ⟨st, 0, none⟩), .nilIface]) ∧ SvAt w.heap.size w' vb sb m st cb := by
  have HE := hid hE
  have HV := hid hV
  have hgw := hV.2.2.2.2.2.2
  have hvb := hV.2.2.2.2.2.1
  have HSY := hid (sync0 hS.keyS E hL (hE.grew hgw) hV)
  clear hL hE hV
  go_enter Tryz.func23, Tryz.ntmps23
  go_wp2_with fail
  refine HSY.out.mono ?_
  rintro r w1 ⟨rfl, ho, sb, m, st, cb, hX⟩
  have HX := hid hX
  have HO := hid ho
  have hg01 : Grew w0 w1 := ((hgw.only (fun j => j = vb)).then ho).grew fun j (e : j = vb) => by omega
  have HG01 := hid hg01
  have HE1 := hid (HE.out.grew hg01)
  clear hX ho hg01 hgw hvb
  go_wp2_with fail
  obtain ⟨s2, s3, s6, s7⟩ := id hS.keyS
  have HK := hid (key_any S E s2 s3 s6 s7 aK w1 (by decide) HE1.out)
  rw [keyN_aK, show errOf E 0 = Value.nilIface from rfl] at HK
  refine HK.out.mono ?_
  rintro r w2 ⟨rfl, hg2⟩
  have HG2 := hid hg2
  clear hg2
  obtain ⟨F, Fc, v1, v2, v3, hM, hlm, hc, hT, _⟩ := HX.out
  have hvl : vb < w1.heap.size := cell_lt v1
  have c2 := (HG2.out.cells.1 _ 2 hvl).trans v2
  have HOW := hid (owner_any hS E (HE1.out.grew HG2.out) (hM.grew HG2.out) (by decide) aK (by decide))
  rw [own_aK, ownV_aK, show decide ((0 : Int) ≤ 0) = true from rfl, show sh0.aggOf = .agg #[.int .i64 1, .int .i64 1, .int .i64 0, .string ⟨#[]⟩, .string ⟨#[]⟩] from rfl] at HOW
  have c3 := (HG2.out.cells.1 _ 3 hvl).trans v3
  have HLM := hid (hlm.grew HG2.out)
  clear hM hlm v1 v2 v3 hT hc
  go_wp2_with fail
  refine HOW.out.mono ?_
  rintro r w3 ⟨rfl, hg3⟩
  have d3 := (hg3.cells.1 _ 3 (cell_lt c3)).trans c3
  have hvl3 : vb < w3.heap.size := cell_lt d3
  have HG3 := hid (HG2.out.trans hg3)
  have HL3 := hid (HLM.out.grew hg3)
  obtain ⟨Y, hY⟩ : ∃ Y, Y = w3.alloc (.cells #[.int .i64 1, .int .i64 1, .int .i64 0, .string ⟨#[]⟩, .string ⟨#[]⟩] 91) := ⟨_, rfl⟩
  have gY : Grew w3 Y := by rw [hY]; exact (Grew.refl w3).alloc _
  have b0 : Y.cell? ⟨w3.heap.size, 0, none⟩ = some (.int .i64 1) := by rw [hY]; simp [go_sem]
  have e3 := (gY.cells.1 _ 3 hvl3).trans d3
  have HY := hid hY
  have B0 := wd_cell b0
  have E3 := wd_cell e3
  have HLY := hid (HL3.out.grew gY)
  have HGY := hid (HG3.out.trans gY)
  have hlk : ∀ p : Wd (Grew Y), (Instr.lookup 52 (.map (some m)) (.int .i64 1) false).run Tryz.prog p.w = .ok (.pointer (some ⟨st, 0, none⟩)) p.w := fun p => by
    have q := (HLY.out.grew p.ok).lookup cl_keyed Tryz.underlying52 (zero_st p.w) (keyOf_int_mk Tryz.underlying3 (clit_wf (c := 1) (by omega) (by omega)))
    have e : stm st (Lit.int .i64 1) = some (.pointer (some ⟨st, 0, none⟩)) := by unfold stm lset clit; simp
    rw [e] at q
    exact q
  clear hg3 hY gY c3 c2 HOW d3 HK HSY
  go_wp2_with fail
  rw [← HY.out]
  clear HY
  refine wp_region_still 8 (by kernel_rfl) (by kernel_rfl) (fun _ _ => rfl) ?_
  repeat (first
    | (refine mxP ?_; intros; go_big_quiet_op; go_big_quiet_on)
    | (refine mxK ?_; simp only [Act.put, List.setIfInBounds_toArray, List.set_cons_zero, List.set_cons_succ]))
  refine mixS_nil ?_
  intro x hx
  have HGX := hid (HGY.out.trans hx)
  clear B0 E3 hlk hx b0 e3
  dsimp only [List.drop]
  go_wp2_with fail
  go_ret2
  refine ⟨HO.out.then (HGX.out.only _), sb, m, st, cb, rfl, ?_⟩
  exact HX.out.grew HGX.out
theorem getT_nil (k : ByteArray) : Pl.getT [] k = none := by
  cases h : Pl.getT [] k with
  | none => rfl
  | some c => unfold Pl.getT at h; split at h <;> simp_all [Pl.hasB]
set_option maxRecDepth 100000 in
set_option maxHeartbeats 4000000 in
theorem get0 {S : Nat → Bool} (hS : ShdS S) (hT : TabS S) (E : Nat → Addr) {w w0 : World} {lb sq vb mb : Nat} {e : Int} (hL : LogC w lb sq e 0) (hE : Errs S E w0) (hV : SvNew w0 w vb mb 1) : Calls Tryz.prog 11 #[.pointer (some ⟨vb, 0, none⟩), .pointer (some ⟨lb, 0, none⟩), .string aK] w fun r w' => Only (fun j => j = vb) w w' ∧ ∃ sb m st cb, r = .returned (.tuple #[.agg #[.string ⟨#[]⟩, .string ⟨#[]⟩, .int .i64 0], .bool false, .nilIface]) ∧ SvAt w.heap.size w' vb sb m st cb := by
  obtain ⟨Y, hY⟩ : ∃ Y, Y = w.alloc (.cells #[.string ⟨#[]⟩, .string ⟨#[]⟩, .int .i64 0] 41) := ⟨_, rfl⟩
  have gY : Grew w Y := by rw [hY]; exact (Grew.refl w).alloc _
  have hvl : vb < w.heap.size := cell_lt hV.1
  have hV2 : SvNew w0 Y vb mb 1 := by
    obtain ⟨v0, v1, v2, v3, vf, hvb, hgv⟩ := hV
    exact ⟨(gY.cells.1 _ 0 hvl).trans v0, (gY.cells.1 _ 1 hvl).trans v1, (gY.cells.1 _ 2 hvl).trans v2, (gY.cells.1 _ 3 hvl).trans v3, fun i => (gY.cells.2 _ i hvl).trans (vf i), hvb, hgv.trans gY⟩
  have q0 : Y.cell? ⟨w.heap.size, 0, none⟩ = some (.string ⟨#[]⟩) := by rw [hY]; simp [go_sem]
  have q1 : Y.cell? ⟨w.heap.size, 1, none⟩ = some (.string ⟨#[]⟩) := by rw [hY]; simp [go_sem]
  have q2 : Y.cell? ⟨w.heap.size, 2, none⟩ = some (.int .i64 0) := by rw [hY]; simp [go_sem]
  have qf : ∀ i, Y.frozen? ⟨w.heap.size, i, none⟩ = false := fun i => by rw [hY]; simp [go_sem]
  have HW := hid (owned0 hS E (hL.grew gY) hE hV2)
  have hvb := hV2.2.2.2.2.2.1
  have hgv := hV2.2.2.2.2.2.2
  have HE := hid hE
  have HTS := hid hT
  have HGY := hid gY
  have HY := hid hY
  clear hL hE hV hV2 hT gY hY
  go_enter Tryz.func11, Tryz.ntmps11
  go_wp2_with fail
  rw [← HY.out]
  clear HY
  refine HW.out.mono ?_
  rintro r w1 ⟨ho, sb, m, st, cb, rfl, hX⟩
  have hg01 : Grew w0 w1 := ((hgv.only (fun j => j = vb)).then ho).grew fun j (e : j = vb) => by omega
  have HX := hid hX
  have HO := hid ho
  obtain ⟨F, Fc, v1, v2, v3, hM, hlm, hc, hTb, _⟩ := hX
  have HGT := hid (getTab_any HTS.out E (HE.out.grew hg01) hTb (by decide) aK (by decide))
  rw [getT_nil, show ((none : Option Pr).getD Pr.none).agg = .agg #[.string ⟨#[]⟩, .string ⟨#[]⟩, .int .i64 0] from rfl, show (none : Option Pr).isSome = false from rfl] at HGT
  have hwY : w.heap.size < Y.heap.size := cell_lt q0
  have hne : ¬ w.heap.size = vb := by omega
  have r0 := (ho.cell hwY hne 0).trans q0
  have r1 := (ho.cell hwY hne 1).trans q1
  have r2 := (ho.cell hwY hne 2).trans q2
  have rf : ∀ i, w1.frozen? ⟨w.heap.size, i, none⟩ = false := fun i => (ho.frozen hwY hne i).trans (qf i)
  have hw1 := ho.size
  clear ho hM hlm hTb v1 v2 v3 q0 q1 q2 qf HW
  go_wp2_with fail
  refine HGT.out.mono ?_
  rintro r w2 ⟨rfl, hg2⟩
  have s0 := (hg2.cells.1 _ 0 (cell_lt r0)).trans r0
  have s1 := (hg2.cells.1 _ 1 (cell_lt r1)).trans r1
  have s2 := (hg2.cells.1 _ 2 (cell_lt r2)).trans r2
  have sf : ∀ i, w2.frozen? ⟨w.heap.size, i, none⟩ = false := fun i => (hg2.cells.2 _ i (cell_lt r0)).trans (rf i)
  have f0 := sf 0
  have f1 := sf 1
  have f2 := sf 2
  have HG2 := hid hg2
  have hw2l : w.heap.size < w2.heap.size := cell_lt s0
  clear r0 r1 r2 rf hg2 HGT hc sf
  have hn2 : w.heap.size ≠ w2.heap.size := by omega
  go_wp2_with fail
  obtain ⟨Z, hZ⟩ : ∃ Z, Z = ((((w2.setCell ⟨w.heap.size, 0, none⟩ (.string ⟨#[]⟩)).setCell ⟨w.heap.size, 1, none⟩ (.string ⟨#[]⟩)).setCell ⟨w.heap.size, 2, none⟩ (.int .i64 0)).alloc (.cells #[.string ⟨#[]⟩, .string ⟨#[]⟩, .int .i64 0] 41)) := ⟨_, rfl⟩
  have oZ : Only (fun j => j = w.heap.size) w2 Z := by
    rw [hZ]
    exact (((Only.setCell w2 ⟨w.heap.size, 0, none⟩ _).then (Only.setCell _ ⟨w.heap.size, 1, none⟩ _)).then (Only.setCell _ ⟨w.heap.size, 2, none⟩ _)).alloc _
  have zz : Z.cell? ⟨w.heap.size, 0, none⟩ = some (.string ⟨#[]⟩) ∧ Z.cell? ⟨w.heap.size, 1, none⟩ = some (.string ⟨#[]⟩) ∧ Z.cell? ⟨w.heap.size, 2, none⟩ = some (.int .i64 0) := by
    rw [hZ]
    have x0 : (((w2.setCell ⟨w.heap.size, 0, none⟩ (.string ⟨#[]⟩)).setCell ⟨w.heap.size, 1, none⟩ (.string ⟨#[]⟩)).setCell ⟨w.heap.size, 2, none⟩ (.int .i64 0)).cell? ⟨w.heap.size, 0, none⟩ = some (.string ⟨#[]⟩) := by simp [go_sem, s0, s1, s2]
    have x1 : (((w2.setCell ⟨w.heap.size, 0, none⟩ (.string ⟨#[]⟩)).setCell ⟨w.heap.size, 1, none⟩ (.string ⟨#[]⟩)).setCell ⟨w.heap.size, 2, none⟩ (.int .i64 0)).cell? ⟨w.heap.size, 1, none⟩ = some (.string ⟨#[]⟩) := by simp [go_sem, s0, s1, s2]
    have x2 : (((w2.setCell ⟨w.heap.size, 0, none⟩ (.string ⟨#[]⟩)).setCell ⟨w.heap.size, 1, none⟩ (.string ⟨#[]⟩)).setCell ⟨w.heap.size, 2, none⟩ (.int .i64 0)).cell? ⟨w.heap.size, 2, none⟩ = some (.int .i64 0) := by simp [go_sem, s0, s1, s2]
    have g := (Grew.refl (((w2.setCell ⟨w.heap.size, 0, none⟩ (.string ⟨#[]⟩)).setCell ⟨w.heap.size, 1, none⟩ (.string ⟨#[]⟩)).setCell ⟨w.heap.size, 2, none⟩ (.int .i64 0))).alloc (.cells #[.string ⟨#[]⟩, .string ⟨#[]⟩, .int .i64 0] 41)
    exact ⟨(g.cells.1 _ 0 (cell_lt x0)).trans x0, (g.cells.1 _ 1 (cell_lt x1)).trans x1, (g.cells.1 _ 2 (cell_lt x2)).trans x2⟩
  obtain ⟨z0, z1, z2⟩ := zz
  rw [← hZ]
  clear hZ
  refine bodyPost_ret (v := .tuple #[.agg #[.string ⟨#[]⟩, .string ⟨#[]⟩, .int .i64 0], .bool false, .nilIface]) (by simp [results, Tryz.f11, go_sem, z0, z1, z2]) rfl ?_
  have hv1 : vb < w1.heap.size := by have := HO.out.size; have := HGY.out.size; omega
  have hwv : ¬ vb = w.heap.size := by omega
  have g := HG2.out
  have hYs := HGY.out.size
  refine ⟨((((HGY.out.only (fun j => j = vb ∨ j = w.heap.size)).then (HO.out.mono fun j (e : j = vb) => .inl (.inl e))).then (g.only _)).then (oZ.mono fun j (e : j = w.heap.size) => .inl (.inr e))).mono fun j e => ?_, sb, m, st, cb, rfl, ?_⟩
  · rcases e with e | e
    · exact .inl e
    · exact .inr (by omega)
  · exact ((HX.out.grew g).kept oZ hwv (fun j hj (e : j = w.heap.size) => by omega)).le hYs
set_option maxRecDepth 100000 in
theorem at0 {w : World} {vb : Nat} {n : Int} (h : w.cell? ⟨vb, 1, none⟩ = some (.int .i64 n)) : Calls Tryz.prog 8 #[.pointer (some ⟨vb, 0, none⟩)] w fun r w' => r = .returned (.int .i64 n) ∧ w' = w := by
  go_enter Tryz.func8, Tryz.ntmps8
  go_wp2
  go_ret
  exact ⟨rfl, rfl⟩
set_option maxRecDepth 100000 in
theorem mapNil {w : World} {vb : Nat} (h : w.cell? ⟨vb, 2, none⟩ = some (.pointer none)) : Calls Tryz.prog 7 #[.pointer (some ⟨vb, 0, none⟩)] w fun r w' => r = .returned (.pointer none) ∧ w' = w := by
  go_enter Tryz.func7, Tryz.ntmps7
  go_wp2_with fail
  go_ret
  exact ⟨rfl, rfl⟩
set_option maxRecDepth 100000 in
theorem servesNil {w : World} {vb : Nat} (h : w.cell? ⟨vb, 2, none⟩ = some (.pointer none)) : Calls Tryz.prog 9 #[.pointer (some ⟨vb, 0, none⟩)] w fun r w' => r = .returned (.slice none 0 0) ∧ w' = w := by
  go_enter Tryz.func9, Tryz.ntmps9
  go_wp2_with fail
  go_ret
  exact ⟨rfl, rfl⟩
set_option maxRecDepth 100000 in
set_option maxHeartbeats 4000000 in
theorem serves0 {n : Nat} {w : World} {vb sb m st cb : Nat} (h : SvAt n w vb sb m st cb) : Calls Tryz.prog 9 #[.pointer (some ⟨vb, 0, none⟩)] w fun r w' => ∃ a c, r = .returned (.slice a 1 c) ∧ IntsAt w' a [1] ∧ Grew w w' := by
  obtain ⟨F, Fc, v1, v2, v3, _, hlm, _⟩ := h
  have HKY := hid (fun mb W => callsIn_wide.1 (AnyZI.keys_in Tryz.keysSt Fence.wide 5 trivial rfl mb W))
  change Hid (∀ (mb' : Option Nat) (W : World), Calls Tryz.prog 16 #[.map mb'] W fun e w' => e = .returned (.func (.func 31) #[] #[.pointer (some ⟨W.heap.size, 0, none⟩)]) ∧ w' = W.alloc (.cells #[.map mb'] 52)) at HKY
  have gA : Grew w (w.alloc (.cells #[.map (some m)] 52)) := (Grew.refl w).alloc _
  have HSO := hid (callsIn_wide.1 (sortedSt_any (w.alloc (.cells #[.map (some m)] 52)) m 1 (stm st) (hlm.grew gA) (by omega) w.heap.size (by simp [go_sem])))
  have HGA := hid gA
  clear hlm v1 gA
  go_enter Tryz.func9, Tryz.ntmps9
  go_wp2_with fail
  refine (HKY.out _ _).mono ?_
  rintro r w1 ⟨rfl, rfl⟩
  go_wp2_with fail
  refine HSO.out.mono ?_
  rintro r w2 ⟨v, ks, rfl, hr, hm, hl, hrow, hb⟩
  have hks : ks = [1] := Pl.rise_one hr fun c => (hm c).trans (stm_mem st c)
  subst hks
  have hg : Grew (w.alloc (.cells #[.map (some m)] 52)) w2 := hb
  obtain ⟨a, c, rfl, hA⟩ := intsAt_of (us := [1]) (W := w2) (v := v) hrow
  have HA := hid (And.intro hA (HGA.out.trans hg))
  clear hrow hA hg hm hr hb
  go_wp2_with fail
  go_ret
  exact ⟨a, c, rfl, HA.out⟩
end Go.Proofs.YtlgcdneiebjkcaaGreatDoor
namespace Go.Proofs.YtlgcdneiebjkcaaGreatDoor
open Go.RowKit Go.Maps
attribute [local go_sem] Oper.semAt_some
set_option maxRecDepth 100000 in
set_option maxHeartbeats 4000000 in
theorem sameInts_any (a1 a2 : Option Addr) (c1 c2 : Nat) (us vs : List Int) (w : World) (h1 : IntsAt w a1 us) (h2 : IntsAt w a2 vs) (hx : us.length ≤ 1000000) (hy : vs.length ≤ 1000000) :
    Calls Tryz.prog 12 #[.slice a1 us.length c1, .slice a2 vs.length c2] w fun e w' => e = .returned (.bool (decide (us = vs))) ∧ Grew w w' := by
  have H1 := hid h1
  have H2 := hid h2
  clear h1 h2
  by_cases hl : us.length = vs.length
  · have HE := hid hl
    obtain ⟨n, hn⟩ : ∃ n, n = us.length := ⟨_, rfl⟩
    rw [← hl, ← hn]
    rw [← hn] at hx
    have HN := hid (And.intro hn (hn.trans hl))
    clear hn hl hy
    have HQ := hid (fun (h : ∀ j, j < n → us[j]?.getD 0 = vs[j]?.getD 0) => show us = vs from by
      apply List.ext_getElem (HN.out.1.symm.trans HN.out.2)
      intro i i1 i2
      have := h i (by have := HN.out.1; omega)
      rwa [List.getElem?_eq_getElem i1, List.getElem?_eq_getElem i2] at this)
    go_enter Tryz.func12, Tryz.ntmps12
    go_wp2_with fail
    go_loopw [5, 13] (fun _ i wr => ∃ k : Nat, k ≤ n ∧ i = .int .i64 k ∧ Hid (∀ j, j < k → us[j]?.getD 0 = vs[j]?.getD 0) ∧ Grew w wr) (fun _ i _ => n - (intOf i).toNat)
    case atStart => exact ⟨0, Nat.zero_le _, rfl, fun j hj => absurd hj (Nat.not_lt_zero j), Grew.refl w⟩
    case round =>
      obtain ⟨k, hk, rfl, HS, hG⟩ := hrel
      by_cases hlt : k < n
      · rcases H1.out with h0 | ⟨b1, o1, rfl, hb1, hR1⟩
        · have := HN.out.1; rw [h0] at this; simp at this; omega
        rcases H2.out with h0 | ⟨b2, o2, rfl, hb2, hR2⟩
        · have := HN.out.2; rw [h0] at this; simp at this; omega
        have q1 := (hG.cells.1 b1 (o1 + k) hb1).trans (hR1 k (by have := HN.out.1; omega))
        have q2 := (hG.cells.1 b2 (o2 + k) hb2).trans (hR2 k (by have := HN.out.2; omega))
        have HNX := hid (fun (h : us[k]?.getD 0 = vs[k]?.getD 0) => show ∀ j, j < k + 1 → us[j]?.getD 0 = vs[j]?.getD 0 from fun j hj => by
          rcases Nat.lt_or_ge j k with h1 | h1
          · exact HS.out j h1
          · obtain rfl : j = k := by omega
            exact h)
        have HNO := hid (fun (h : us[k]?.getD 0 ≠ vs[k]?.getD 0) => show us ≠ vs from fun e => h (by rw [e]))
        clear hR1 hR2
        generalize us[k]?.getD 0 = u at *
        generalize vs[k]?.getD 0 = v at *
        have hkn : (k : Int) < (n : Int) := by omega
        cases huv : (u == v) with
        | true =>
          have hne : (u != v) = false := by simp [bne, huv]
          have HX := hid (HNX.out (by simpa using huv))
          have Q1 := wd_cell q1
          have Q2 := wd_cell q2
          clear HNX HNO q1 q2
          go_wp2_with fail
          refine wp_region_still 9 (by kernel_rfl) (by kernel_rfl) (fun _ _ => rfl) ?_
          repeat (first
    | (refine mxP ?_; intros; go_big_quiet_op; go_big_quiet_on)
    | (refine mxK ?_; simp only [Act.put, List.setIfInBounds_toArray, List.set_cons_zero, List.set_cons_succ]))
          refine mixS_nil ?_
          intro x hx2
          have hG := hG.trans hx2
          clear Q1 Q2 hx2
          dsimp only [List.drop]
          go_wp2_with fail
          go_roundw
          case rel => exact ⟨k + 1, by omega, by go_num, HX, hG⟩
          case measure => simp [intOf]; omega
        | false =>
          have hne : (u != v) = true := by simp [bne, huv]
          have HX := hid (HNO.out (by simpa using huv))
          have Q1 := wd_cell q1
          have Q2 := wd_cell q2
          clear HNX HNO q1 q2
          go_wp2_with fail
          refine wp_region_still 9 (by kernel_rfl) (by kernel_rfl) (fun _ _ => rfl) ?_
          repeat (first
    | (refine mxP ?_; intros; go_big_quiet_op; go_big_quiet_on)
    | (refine mxK ?_; simp only [Act.put, List.setIfInBounds_toArray, List.set_cons_zero, List.set_cons_succ]))
          refine mixS_nil ?_
          intro x hx2
          have hG := hG.trans hx2
          clear Q1 Q2 hx2
          dsimp only [List.drop]
          go_wp2_with fail
          go_ret
          exact ⟨ret_bool (decide_eq_false HX.out).symm, hG⟩
      · obtain rfl : k = n := by omega
        have HX := hid (HQ.out HS.out)
        go_wp2_with fail
        go_ret
        exact ⟨ret_bool (decide_eq_true HX.out).symm, hG⟩
  · have h3 : ((us.length : Int) == (vs.length : Int)) = false := by simp; omega
    have h4 : ((us.length : Int) != (vs.length : Int)) = true := by simp; omega
    have HX : Hid (decide (us = vs) = false) := decide_eq_false fun e => hl (by rw [e])
    go_enter Tryz.func12, Tryz.ntmps12
    go_wp2_with fail
    go_ret
    exact ⟨ret_bool HX.out.symm, Grew.refl w⟩
end Go.Proofs.YtlgcdneiebjkcaaGreatDoor
namespace Go.Proofs.YtlgcdneiebjkcaaGreatDoor
open Go.RowKit
theorem num_all (E : Nat → Addr) (k : Nat) (hk : k ≤ 19) (w : World) (hE : Errs allS E w) :
    Calls Tryz.prog 6 #[errOf E k] w fun e w' => e = .returned (.int .i64 (k : Nat)) ∧ Grew w w' := by
  by_cases h0 : k = 0
  · subst h0
    exact (num_nil w).mono fun e w' ⟨he, hw⟩ => ⟨he, by rw [← hw]; exact Grew.refl _⟩
  · rw [errOf_pos E k h0]
    exact num_err E k (by omega) hk w hE
end Go.Proofs.YtlgcdneiebjkcaaGreatDoor
namespace Go.Proofs.YtlgcdneiebjkcaaGreatDoor
open Go.RowKit Go.Maps
attribute [local go_sem] Oper.semAt_some
set_option maxRecDepth 100000 in
set_option maxHeartbeats 8000000 in
theorem alive27 (E : Nat → Addr) (w : World) (hE : Errs allS E w) : Calls Tryz.prog 4 #[] w fun e w' => e = .returned (.bool true) ∧ Grew w w' := by
  have hS : ShdS allS := ⟨rfl, rfl, rfl, rfl, rfl, rfl⟩
  have hT : TabS allS := ⟨rfl, rfl, rfl, rfl, rfl⟩
  have HE := hid hE
  have HB := hid (begin17_any _ _ 0 [[0]] (plan_al w) (by omega) (by omega))
  clear hE
  go_enter Tryz.func4, Tryz.ntmps4
  go_wp2_with fail
  refine HB.out.mono ?_
  rintro r w1 ⟨xb, lb, sq, ua, un, uc, ca, cl, cc, rfl, hg1, _, _, _, x0, x1, x2, x3, x4, hL⟩
  have hg1 : Grew w w1 := (((Grew.refl w).alloc _).alloc _).trans hg1
  have HL := hid hL
  have HX3 := hid x3
  have HX4 := hid x4
  have HG1 := hid hg1
  clear x0 x1 x2 x3 x4 hg1 HB hL
  go_wp2_with fail
  refine (srvNew_any E rfl 1 (HE.out.grew HG1.out)).mono ?_
  rintro r w2 hV0
  have hV : ∃ vb mb, r = .returned (.tuple #[.pointer (some ⟨vb, 0, none⟩), .nilIface]) ∧ SvNew w1 w2 vb mb 1 := by
    rcases hV0 with ⟨h, _⟩ | ⟨_, h⟩
    · omega
    · exact h
  clear hV0
  obtain ⟨vb, mb, rfl, hV⟩ := hV
  have HV := hid hV
  obtain ⟨v0, v1, v2, v3, vf, hvb, hgv⟩ := hV
  have hx1 : xb < w1.heap.size := cell_lt HX4.out
  have x4 := (hgv.cells.1 _ 4 hx1).trans HX4.out
  have x3 := (hgv.cells.1 _ 3 hx1).trans HX3.out
  have HGT := hid (get0 hS hT E (HL.out.grew hgv) (HE.out.grew HG1.out) HV.out)
  have HG2 := hid hgv
  clear v0 v1 v2 v3 vf hgv
  go_wp2_with fail
  refine HGT.out.mono ?_
  rintro r w3 ⟨ho, sb, m, st, cb, rfl, hX⟩
  have hg3 : Grew w1 w3 := ((HG2.out.only (fun j => j = vb)).then ho).grew fun j (e : j = vb) => by omega
  have gA : Grew w3 (w3.alloc (.cells #[.string ⟨#[]⟩, .string ⟨#[]⟩, .int .i64 0] 41)) := (Grew.refl w3).alloc _
  have HX := hid (hX.grew gA)
  have HG3 := hid ((HG1.out.trans hg3).trans gA)
  have HSV := hid (serves0 HX.out)
  clear ho hX hg3 gA x3 x4 HGT
  go_wp2_with fail
  refine HSV.out.mono ?_
  rintro r w4 ⟨a, c, rfl, hA, hg4⟩
  have gB : Grew w4 (w4.alloc (.cells #[.int .i64 1] 3)) := (Grew.refl w4).alloc _
  have HSI := hid (sameInts_any a (some ⟨w4.heap.size, 0, none⟩) c 1 [1] [1] _ (hA.grew gB) (ints_one w4 1) (by decide) (by decide))
  have HX4' := hid ((HX.out.grew hg4).grew gB)
  have HG4 := hid ((HG3.out.trans hg4).trans gB)
  clear hA hg4 gB HSV
  go_wp2_with fail
  refine HSI.out.mono ?_
  rintro r w5 ⟨rfl, hg5⟩
  have HG5 := hid (HG4.out.trans hg5)
  have hv1 : w5.cell? ⟨vb, 1, none⟩ = some (.int .i64 0) := by
    obtain ⟨F, Fc, h1, _⟩ := HX4'.out.grew hg5
    exact h1
  have HAT := hid (at0 hv1)
  rw [show decide True = true from rfl]
  clear hg5 hv1 HSI
  go_wp2_with fail
  refine HAT.out.mono ?_
  rintro r w6 ⟨rfl, rfl⟩
  go_wp2_with fail
  go_ret
  exact ⟨rfl, HG5.out⟩
set_option maxRecDepth 100000 in
set_option maxHeartbeats 8000000 in
theorem serveNew_walk (E : Nat → Addr) (id : Int) (w : World) (hE : Errs allS E w) :
    Calls Tryz.prog 3 #[.int .i64 id] w fun e w' => e = .returned (.bool true) ∧ Grew w w' := by
  have HE := hid hE
  have HAL := hid (alive27 E w hE)
  clear hE
  go_enter Tryz.func3, Tryz.ntmps3
  go_wp2_with fail
  refine HAL.out.mono ?_
  rintro r w0 ⟨rfl, hg0⟩
  have HG0 := hid hg0
  clear hg0 HAL
  go_wp2_with fail
  refine (srvNew_any E rfl id (HE.out.grew HG0.out)).mono ?_
  rintro r w1 hV
  rcases hV with ⟨hi, rfl, hg⟩ | ⟨⟨h1, h2⟩, vb, mb, rfl, hV⟩
  · have HN := hid (num_all E 1 (by omega) w1 (HE.out.grew (HG0.out.trans hg)))
    obtain ⟨ev, hev⟩ : ∃ ev, ev = errOf E 1 := ⟨_, rfl⟩
    rw [← hev] at HN ⊢
    have HG1 := hid (HG0.out.trans hg)
    clear hev hg
    have hi2 : id < 1 ∨ (¬ id < 1 ∧ 4 < id) := by omega
    clear hi
    rcases hi2 with z1 | ⟨z1, z2⟩
    · go_wp2_with fail
      refine HN.out.mono ?_
      rintro r w2 ⟨rfl, hg2⟩
      have HG2 := hid (HG1.out.trans hg2)
      clear hg2
      go_wp2_with fail
      go_ret
      exact ⟨by simp, HG2.out⟩
    · go_wp2_with fail
      refine HN.out.mono ?_
      rintro r w2 ⟨rfl, hg2⟩
      have HG2 := hid (HG1.out.trans hg2)
      clear hg2
      go_wp2_with fail
      go_ret
      exact ⟨by simp, HG2.out⟩
  · obtain ⟨v0, v1, v2, v3, vf, hvb, hgv⟩ := hV
    have z1 : ¬ id < 1 := by omega
    have z2 : ¬ 4 < id := by omega
    have HM := hid (mapNil v2)
    have HAT := hid (at0 v1)
    have HSV := hid (servesNil v2)
    have HG1 := hid (HG0.out.trans hgv)
    clear h1 h2 v0 v1 v2 v3 vf hvb hgv
    go_wp2_with fail
    refine HM.out.mono ?_
    rintro r w2 ⟨rfl, rfl⟩
    go_wp2_with fail
    refine HAT.out.mono ?_
    rintro r w2 ⟨rfl, rfl⟩
    go_wp2_with fail
    refine HSV.out.mono ?_
    rintro r w2 ⟨rfl, rfl⟩
    go_wp2_with fail
    go_ret
    exact ⟨by simp, HG1.out⟩
end Go.Proofs.YtlgcdneiebjkcaaGreatDoor
