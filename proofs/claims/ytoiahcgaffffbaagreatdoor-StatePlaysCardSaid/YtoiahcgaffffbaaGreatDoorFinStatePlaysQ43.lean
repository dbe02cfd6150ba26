/- Do23g, Do23: one text. -/
import Derived.Test.YtoiahcgaffffbaaGreatDoorFinStatePlaysQ36
import Derived.Test.YtoiahcgaffffbaaGreatDoorFinStatePlaysQ42
import Derived.Test.YtoiahcgaffffbaaGreatDoorFinStatePlaysQ28
set_option linter.unusedVariables false
set_option linter.unusedSectionVars false
set_option linter.unusedSimpArgs false
namespace Go.Proofs.YtoiahcgaffffbaaGreatDoor
open Go.RowKit Go.Maps
attribute [local go_sem] Oper.semAt_some uponV
theorem inS_all {P : List Pr} (h : Pl.Good P) : Pl.InS ⟨#[]⟩ ⟨#[]⟩ P := fun c hc => Pl.hasS_all (Pl.putN_zero (h c hc)).1
theorem isSome_seq {S : Int → Option An} (h : ∀ c a, S c = some a → 1 ≤ c ∧ c ≤ 4 ∧ a.Ok) : (S 1).isSome = decide (0 < seqO (S 1)) := by
  cases e : S 1 with
  | none => rfl
  | some a =>
    have := (h 1 a e).2.2.s1
    exact (decide_eq_true (show 0 < a.seq by omega)).symm
def PsV (Z : List Pr) (v : Value) (u : World) : Prop := ∃ a c, v = .slice a Z.length c ∧ PairsAt u a Z
theorem PsV.grew {Z : List Pr} {v : Value} {u u' : World} (h : PsV Z v u) (g : Grew u u') : PsV Z v u' := by
  obtain ⟨a, c, e, h⟩ := h
  exact ⟨a, c, e, h.grew g⟩
set_option maxRecDepth 100000 in
set_option maxHeartbeats 8000000 in
theorem do23_get (E : Nat → Addr) {w0 U : World} (hE : Errs allS E w0) {st ms n : Nat} {lo hi : ByteArray} {P : List Pr} {S : Int → Option An} (hU : TwS w0 U st ms n lo hi P S) (at' : Int) (ky : ByteArray) (e : En) (hky : ky.size ≤ 70368744177664) (hx : P.length ≤ 240) :
    Calls Tryz.prog 29 #[.pointer (some ⟨st, 0, none⟩), .pointer (some ⟨ms, 0, none⟩), .agg (Ac.vals ⟨1, at', ky, e⟩).toArray] U fun r W => r = .returned (.bool true) ∧ TwS w0 W st ms n lo hi P S := by
  have HU := hid hU
  have hE' := hE.grew hU.grew
  obtain ⟨Ft, Fs, G, sb, D, u1, u2, h3, h4, h5⟩ := hU.ex
  have hTS : TabS stS := ⟨rfl, rfl, rfl, rfl, rfl⟩
  have HLS := hid (fun W (g : Grew U W) => lastS_any (u1.grew g) 1 (by omega) (by omega))
  obtain ⟨tb, yb, v1⟩ := u1
  obtain ⟨rb, v2⟩ := u2
  have hDl : D.length ≤ 240 := by rw [← h3.len]; exact hx
  have HGA := hid (fun W (g : Grew U W) => getTab_any hTS E ((stS_all hE').grew g) (v1.tab.grew g) (by omega) ky hky)
  have HGB := hid (fun W (g : Grew U W) => get21_any (v2.tab.grew g).read (by omega) ky)
  rw [← h3.get] at HGB
  have HSC := hid (fun W (g : Grew U W) => scanT_any hTS E ((stS_all hE').grew g) (v1.tab.grew g) (by omega) ⟨#[]⟩ ⟨#[]⟩ 1000 (by decide) (by decide))
  rw [scan_inS (inS_all v1.good) 1000 (by omega)] at HSC
  have HSO := hid (fun W (g : Grew U W) => sortedT_any (v2.tab.grew g).read h3 (by omega))
  have hIs := isSome_seq v1.seen.ok
  rw [hIs] at HLS
  have ca := v1.c0
  have m2 := v2.c2
  have m3 := v2.c3
  have n1 := v2.seen.seq 1 (by omega)
  have n7 := v2.seen.code 1 (by omega)
  have n8 := v2.seen.at_ 1 (by omega)
  have hst := cell_lt ca
  have hms := cell_lt m2
  have hsb := cell_lt n1
  obtain ⟨ek, es, eo, ev, ec, eq, eky, eup, ep, eps, eops, eoA, eoC, edA, edL, edC⟩ := e
  clear hU hE hE' h3 h4 h5 v1 v2 hIs hTS
  unfold Ac.vals En.vals
  dsimp only [List.cons_append, List.nil_append] at *
  generalize (Pl.getT P ky).isSome = is' at *
  generalize (Pl.getT P ky).getD Pr.none = o at *
  obtain ⟨ok, ov, on⟩ := o
  unfold Pr.agg at HGA HGB
  unfold ansAgg at HLS
  dsimp only [Nat.reduceMul, Nat.reduceAdd] at *
  simp only [show (((1:Nat):Int)) = 1 from rfl] at *
  generalize seqO (S 1) = q at *
  generalize codeO (S 1) = k at *
  generalize atO (S 1) = t at *
  go_enter Tryz.func29, Tryz.ntmps29
  go_upto_region 1 with fail
  obtain ⟨X, hX⟩ : ∃ X, X = U.alloc (.cells #[.int .i64 1, .int .i64 at', .string ky, .int .i64 ek, .int .i64 es, .int .i64 eo, .int .i64 ev, .int .i64 ec, .int .i64 eq, .slice eoA eops.length eoC, .string eky, .int .i64 eup, .int .i64 ep, .int .i64 eps, .slice edA edL edC] 68) := ⟨_, rfl⟩
  have gX : Grew U X := by rw [hX]; exact (Grew.refl U).alloc _
  obtain ⟨kb, hkb⟩ : ∃ kb, kb = U.heap.size := ⟨_, rfl⟩
  have d0 : X.cell? ⟨kb, 0, none⟩ = some (.int .i64 1) := by rw [hX, hkb]; simp [go_sem]
  have d2 : X.cell? ⟨kb, 2, none⟩ = some (.string ky) := by rw [hX, hkb]; simp [go_sem]
  have hxs : kb < X.heap.size := by rw [hX, hkb]; simp
  have HGX := hid gX
  rw [← hX, ← hkb]
  have C0 := wd_cell ((gX.cells.1 _ 0 hst).trans ca)
  have C1 := wd_cell d2
  have HG7 := hid (fun W (g : Grew X W) => HGA.out W (HGX.out.trans g))
  clear hX gX hkb
  go_upto_region 7 with fail
  refine wp_region_mixS 12 [10, 11] (Grew X) Grew (JV [⟨10, 11, [.string ok, .string ov, .int .i64 on]⟩] X) (fun f a => a.put (some 11) (f 10)) (by kernel_rfl) (by kernel_rfl) (fun _ _ => rfl) (JV.start _ X _) (fun _ _ _ h => h.grew) Grew.refl (fun _ _ _ _ h g => h.more g) ?_
  repeat (first
    | (refine mixS_loose (by rfl) (by rfl) ?_)
    | (refine mixS_plain (by rfl) (by rfl) (by rfl) (by first | exact Grew.refl | exact fun _ => rfl) (by rfl) ?_; intro K hK; go_big_quiet_op; go_big_quiet_on)
    | (refine mixS_call (by rfl) (by rfl) (by rfl) (by rfl) (fun _ => by kernel_rfl) (fun u hu => HG7.out u hu) ?_; simp only [Act.put, List.setIfInBounds_toArray, List.set_cons_zero, List.set_cons_succ])
    | (refine mixS_skip (by rfl) (by rfl) (by rfl) ?_; simp only [Act.put, List.setIfInBounds_toArray, List.set_cons_zero, List.set_cons_succ]))
  refine mixS_done (by rfl) ⟨⟨loose_of rfl (fun _ a => a) (fun _ _ => rfl) (fun _ => rfl) ?_, loose_of rfl (fun f a => a.put (some 11) (f 10)) (fun _ _ => rfl) (fun _ => rfl) ?_, trivial⟩, ?_⟩
  · intro L f u hJ hL hd
    clear HG7 C0 C1
    go_simp
    exact hJ.alloc (by rfl) (V := ⟨10, 11, [.string ok, .string ov, .int .i64 on]⟩) (by simp) hL [.string ⟨#[]⟩, .string ⟨#[]⟩, .int .i64 0] rfl _
  · intro L f u hJ hL hd
    clear HG7 C0 C1
    obtain ⟨m, x, y, z, hm, k0, k1, k2, f0, f1, f2⟩ := hJ.three (V := ⟨10, 11, [.string ok, .string ov, .int .i64 on]⟩) (by simp) (hd 10 rfl (by decide)) rfl
    dsimp only at hm
    rw [hm]
    go_simp
    exact hJ.store (by rfl) (V := ⟨10, 11, [.string ok, .string ov, .int .i64 on]⟩) (by simp) (hd 10 rfl (by decide)) hm
  intro f u hJ
  obtain ⟨ma, qa, na, la, hca⟩ := hJ.full (V := ⟨10, 11, [.string ok, .string ov, .int .i64 on]⟩) (by simp) rfl
  dsimp only at qa
  have oa0 := (hca 0 _ rfl).1
  have oa1 := (hca 1 _ rfl).1
  have oa2 := (hca 2 _ rfl).1
  have HGu := hid (HGX.out.trans hJ.grew)
  have d2 := (hJ.grew.cells.1 _ 2 hxs).trans d2
  have hxs := Nat.lt_of_lt_of_le hxs hJ.grew.size
  clear hJ hca na HG7 C0 C1 HGX d0
  dsimp only [List.drop]
  simp only [Act.put, List.setIfInBounds_toArray, List.set_cons_succ, List.set_cons_zero]
  rw [qa]
  clear qa
  go_upto_region 8 with fail
  have C0 := wd_cell ((HGu.out.cells.1 _ 2 hms).trans m2)
  have C1 := wd_cell d2
  have HG8 := hid (fun W (g : Grew u W) => HGB.out W (HGu.out.trans g))
  refine wp_region_mixS 12 [10, 11] (Grew u) Grew (JV [⟨10, 11, [.string ok, .string ov, .int .i64 on]⟩] u) (fun f a => a.put (some 13) (f 10)) (by kernel_rfl) (by kernel_rfl) (fun _ _ => rfl) (JV.start _ u _) (fun _ _ _ h => h.grew) Grew.refl (fun _ _ _ _ h g => h.more g) ?_
  repeat (first
    | (refine mixS_loose (by rfl) (by rfl) ?_)
    | (refine mixS_plain (by rfl) (by rfl) (by rfl) (by first | exact Grew.refl | exact fun _ => rfl) (by rfl) ?_; intro K hK; go_big_quiet_op; go_big_quiet_on)
    | (refine mixS_call (by rfl) (by rfl) (by rfl) (by rfl) (fun _ => by kernel_rfl) (fun u hu => HG8.out u hu) ?_; simp only [Act.put, List.setIfInBounds_toArray, List.set_cons_zero, List.set_cons_succ])
    | (refine mixS_skip (by rfl) (by rfl) (by rfl) ?_; simp only [Act.put, List.setIfInBounds_toArray, List.set_cons_zero, List.set_cons_succ]))
  refine mixS_done (by rfl) ⟨⟨loose_of rfl (fun _ a => a) (fun _ _ => rfl) (fun _ => rfl) ?_, loose_of rfl (fun f a => a.put (some 13) (f 10)) (fun _ _ => rfl) (fun _ => rfl) ?_, trivial⟩, ?_⟩
  · intro L f u hJ hL hd
    clear HG8 C0 C1
    go_simp
    exact hJ.alloc (by rfl) (V := ⟨10, 11, [.string ok, .string ov, .int .i64 on]⟩) (by simp) hL [.string ⟨#[]⟩, .string ⟨#[]⟩, .int .i64 0] rfl _
  · intro L f u hJ hL hd
    clear HG8 C0 C1
    obtain ⟨m, x, y, z, hm, k0, k1, k2, f0, f1, f2⟩ := hJ.three (V := ⟨10, 11, [.string ok, .string ov, .int .i64 on]⟩) (by simp) (hd 10 rfl (by decide)) rfl
    dsimp only at hm
    rw [hm]
    go_simp
    exact hJ.store (by rfl) (V := ⟨10, 11, [.string ok, .string ov, .int .i64 on]⟩) (by simp) (hd 10 rfl (by decide)) hm
  intro f x hJ
  obtain ⟨mb, qb, nb, lb, hcb⟩ := hJ.full (V := ⟨10, 11, [.string ok, .string ov, .int .i64 on]⟩) (by simp) rfl
  dsimp only at qb
  have ob0 := (hcb 0 _ rfl).1
  have ob1 := (hcb 1 _ rfl).1
  have ob2 := (hcb 2 _ rfl).1
  have HGx := hid (HGu.out.trans hJ.grew)
  have oa0 := (hJ.grew.cells.1 _ 0 la).trans oa0
  have oa1 := (hJ.grew.cells.1 _ 1 la).trans oa1
  have oa2 := (hJ.grew.cells.1 _ 2 la).trans oa2
  have la := Nat.lt_of_lt_of_le la hJ.grew.size
  have lb := cell_lt ob0
  clear hJ hcb nb HG8 C0 C1 HGu d2 hxs
  dsimp only [List.drop]
  simp only [Act.put, List.setIfInBounds_toArray, List.set_cons_succ, List.set_cons_zero]
  rw [qb]
  clear qb
  go_wp2_with fail
  refine (HLS.out x HGx.out).mono ?_
  rintro r y ⟨rfl, hg⟩
  have HGy := hid (HGx.out.trans hg)
  have oa0 := (hg.cells.1 _ 0 la).trans oa0
  have oa1 := (hg.cells.1 _ 1 la).trans oa1
  have oa2 := (hg.cells.1 _ 2 la).trans oa2
  have ob0 := (hg.cells.1 _ 0 lb).trans ob0
  have ob1 := (hg.cells.1 _ 1 lb).trans ob1
  have ob2 := (hg.cells.1 _ 2 lb).trans ob2
  have la := Nat.lt_of_lt_of_le la hg.size
  have lb := Nat.lt_of_lt_of_le lb hg.size
  clear hg HGx HLS HGA HGB
  go_upto_region 10 with fail
  obtain ⟨Z, hZ⟩ : ∃ Z, Z = y.alloc (.cells #[.int .i64 k, .int .i64 t] 127) := ⟨_, rfl⟩
  have gZ : Grew y Z := by rw [hZ]; exact (Grew.refl y).alloc _
  obtain ⟨xb, hxb⟩ : ∃ xb, xb = y.heap.size := ⟨_, rfl⟩
  have C1 := wd_cell (show Z.cell? ⟨xb, 0, none⟩ = some (.int .i64 k) from by rw [hZ, hxb]; simp [go_sem])
  have C2 := wd_cell (show Z.cell? ⟨xb, 1, none⟩ = some (.int .i64 t) from by rw [hZ, hxb]; simp [go_sem])
  have HGZ := hid (HGy.out.trans gZ)
  rw [← hZ, ← hxb]
  have A0 := wd_cell ((gZ.cells.1 _ 0 la).trans oa0)
  have A1 := wd_cell ((gZ.cells.1 _ 1 la).trans oa1)
  have A2 := wd_cell ((gZ.cells.1 _ 2 la).trans oa2)
  have B0 := wd_cell ((gZ.cells.1 _ 0 lb).trans ob0)
  have B1 := wd_cell ((gZ.cells.1 _ 1 lb).trans ob1)
  have B2 := wd_cell ((gZ.cells.1 _ 2 lb).trans ob2)
  have M0 := wd_cell ((HGZ.out.cells.1 _ 0 hst).trans ca)
  have M2 := wd_cell ((HGZ.out.cells.1 _ 2 hms).trans m2)
  have M3 := wd_cell ((HGZ.out.cells.1 _ 3 hms).trans m3)
  have N1 := wd_cell ((HGZ.out.cells.1 _ 1 hsb).trans n1)
  have N7 := wd_cell ((HGZ.out.cells.1 _ 7 hsb).trans n7)
  have N8 := wd_cell ((HGZ.out.cells.1 _ 8 hsb).trans n8)
  clear hZ gZ hxb oa0 oa1 oa2 ob0 ob1 ob2 la lb
  have HRM := hid (show MonoQ (fun (i : Nat) v u => i = 44 → PsV P v u) from fun i v u u' h g e => (h e).grew g)
  refine wp_region_mixS 49 [44] (Grew Z) Grew (JQ (fun (i : Nat) v u => i = 44 → PsV P v u) Z) (fun f a => a.put (some 128) (f 44)) (by kernel_rfl) (by kernel_rfl) (fun _ _ => rfl) (JQ.start ..) (fun _ _ _ h => h.grew) Grew.refl (fun _ _ _ _ h g => h.more HRM.out g) ?_
  repeat (first
    | (refine mixS_loose (by rfl) (by rfl) ?_)
    | (refine mixS_plain (by rfl) (by rfl) (by rfl) (by first | exact Grew.refl | exact fun _ => rfl) (by rfl) ?_; intro K hK; go_big_quiet_op; go_big_quiet_on)
    | (refine mixS_skip (by rfl) (by rfl) (by rfl) ?_; simp only [Act.put, List.setIfInBounds_toArray, List.set_cons_zero, List.set_cons_succ]))
  refine mixS_done (by rfl) ⟨⟨loose_of rfl (fun _ a => a) (fun _ _ => rfl) (fun _ => rfl) ?_, trivial⟩, ?_⟩
  · intro L f u hJ hL hd
    have HJ := hid hJ
    clear hJ hL hd C1 C2 A0 A1 A2 B0 B1 B2 M0 M2 M3 N1 N7 N8
    go_simp
    refine (HSC.out u (HGZ.out.trans HJ.out.grew)).mono ?_
    rintro e u' ⟨⟨v, rfl, hr⟩, hg⟩
    refine ⟨v, rfl, HJ.out.put HRM.out 44 hg fun _ => pairsAt_of hr⟩
  intro f u hJ
  obtain ⟨a1, c1, e1, hA1⟩ := hJ.at_ 44 rfl rfl
  have HA1 := hid hA1
  have HGu := hid (HGZ.out.trans hJ.grew)
  have m2 := (HGu.out.cells.1 _ 2 hms).trans m2
  have hms := Nat.lt_of_lt_of_le hms HGu.out.size
  clear hA1 hJ HRM C1 C2 A0 A1 A2 B0 B1 B2 M0 M2 M3 N1 N7 N8 HSC
  dsimp only [List.drop]
  simp only [Act.put, List.setIfInBounds_toArray, List.set_cons_succ, List.set_cons_zero]
  rw [e1]
  clear e1
  go_wp2_with fail
  refine (HSO.out u HGu.out).mono ?_
  rintro r x2 ⟨⟨v, rfl, hr⟩, hg⟩
  obtain ⟨a2, c2, rfl, hA2⟩ := pairsAt_of hr
  have HF := hid (HGu.out.trans hg)
  have HA1' := hid (HA1.out.grew hg)
  have HA2 := hid hA2
  clear hr hA2 hg HSO HA1
  go_wp2_with fail
  refine (samePairs_same _ _ _ _ _ P HA1'.out HA2.out (by omega)).mono ?_
  rintro r x3 ⟨rfl, hg⟩
  have HF2 := hid (HU.out.more (HF.out.trans hg))
  clear hg
  go_wp2_with fail
  go_ret
  exact ⟨rfl, HF2.out⟩
end Go.Proofs.YtoiahcgaffffbaaGreatDoor
namespace Go.Proofs.YtoiahcgaffffbaaGreatDoor
open Go.RowKit Go.Maps
attribute [local go_sem] Oper.semAt_some uponV
set_option maxRecDepth 100000 in
set_option maxHeartbeats 2000000 in
theorem newS_no (E : Nat → Addr) (lo hi : ByteArray) (w : World) (hl : lo.size ≤ 70368744177664) (hh : hi.size ≤ 70368744177664) (hE : Errs allS E w) (hr : Pl.rightS lo hi = false) :
    Calls Tryz.prog 25 #[.agg #[.string lo, .string hi]] w fun e w' => e = .returned (.tuple #[.pointer none, errOf E 4]) ∧ Grew w w' := by
  have HE := hid hE
  have HR := hid (fun W (g : Grew w W) => right_span allS E spanS_all.1 lo hi W hl hh (hE.grew g))
  rw [hr] at HR
  have b4 : 0 < w.heap.size := cell_lt (hE.cell 4 rfl)
  clear hE hr
  go_enter Tryz.func25, Tryz.ntmps25
  go_wp2_with fail
  refine (HR.out _ ((Grew.refl w).alloc _)).mono ?_
  rintro e w1 ⟨rfl, hg⟩
  have hG : Grew w w1 := ((Grew.refl w).alloc _).trans hg
  have HG := hid hG
  have cw4 : w.cell? ⟨0, 0, none⟩ = some (.iface 388 (.pointer (some (E 4)))) := HE.out.cell 4 rfl
  have c4 : w1.cell? ⟨0, 0, none⟩ = some (.iface 388 (.pointer (some (E 4)))) := (HE.out.grew hG).cell 4 rfl
  clear hg hG
  go_wp2_with fail
  go_region
  go_wp2_with fail
  exact bodyPost_ret (v := .tuple #[.pointer none, errOf E 4]) (by simp [results, Tryz.results25, go_sem]; rfl) rfl ⟨rfl, HG.out.drew⟩
theorem do23_any (E : Nat → Addr) {w0 U : World} (hE : Errs allS E w0) {st ms n : Nat} {lo hi : ByteArray} {P : List Pr} {S : Int → Option An} (hU : TwS w0 U st ms n lo hi P S) (hsp : SpR lo hi) (a : Ac) (hA : a.e.kind = 1 → EnAt w0 a.e) (hz : EnSz a.e) (hs : ∀ o ∈ a.e.ops, o.key.size ≤ 16777216) (hky : a.ky.size ≤ 300) (hx : P.length ≤ 240) (hn : n ≤ 900) :
    Calls Tryz.prog 29 #[.pointer (some ⟨st, 0, none⟩), .pointer (some ⟨ms, 0, none⟩), .agg a.vals.toArray] U fun r W => r = .returned (.bool true) ∧ ∃ m lo' hi' P' S', m ≤ n + 1 ∧ P'.length ≤ P.length + 8 ∧ SpR lo' hi' ∧ TwS w0 W st ms m lo' hi' P' S' := by
  obtain ⟨kd, at', ky, e⟩ := a
  dsimp only at *
  by_cases k0 : kd = 0
  · subst k0
    refine (do23_write E hE hU at' ky e hA hz hs hsp.lsz hsp.hsz hx (by omega)).mono ?_
    rintro r W ⟨rfl, m, P', S', h1, h2, h3⟩
    exact ⟨rfl, m, lo, hi, P', S', h1, h2, hsp, h3⟩
  by_cases k1 : kd = 1
  · subst k1
    refine (do23_get E hE hU at' ky e (by omega) hx).mono ?_
    rintro r W ⟨rfl, h3⟩
    exact ⟨rfl, n, lo, hi, P, S, by omega, by omega, hsp, h3⟩
  by_cases k2 : kd = 2
  · subst k2
    refine (do23_split E hE hU hsp at' ky e hky hx (by omega)).mono ?_
    rintro r W ⟨rfl, lo', hi', P', h1, h2, h3⟩
    exact ⟨rfl, n, lo', hi', P', S, by omega, by omega, h2, h3⟩
  refine (do23_merge E hE hU hsp kd at' k0 k1 k2 ky e hky hx (by omega)).mono ?_
  rintro r W ⟨rfl, h3⟩
  exact ⟨rfl, n, lo, hi, P, S, by omega, by omega, hsp, h3⟩
theorem entry_ok {W : World} {e : En} (h1 : OpRsAt W e.opsA e.ops) (h2 : e.ops.length ≤ 20 ∧ e.key.size ≤ 300 ∧ ∀ o ∈ e.ops, o.key.size ≤ 300 ∧ o.val.size ≤ 300 ∧ o.old.size ≤ 300) : EnAt W e ∧ EnSz e ∧ ∀ o ∈ e.ops, o.key.size ≤ 16777216 := by
  obtain ⟨a, b, c⟩ := h2
  refine ⟨⟨h1, by omega, fun o ho => ?_, fun _ => by omega⟩, fun o ho => ?_, fun o ho => ?_⟩
  · obtain ⟨q1, q2, q3⟩ := c o ho
    exact ⟨by omega, by omega, by omega⟩
  · obtain ⟨q1, q2, q3⟩ := c o ho
    exact ⟨by omega, by omega⟩
  · obtain ⟨q1, q2, q3⟩ := c o ho
    omega
theorem TwS.stg {w0 W : World} {st ms n : Nat} {lo hi : ByteArray} {P : List Pr} {S : Int → Option An} (h : TwS w0 W st ms n lo hi P S) (hsp : SpR lo hi) (hx : P.length ≤ 250) (hn : n ≤ 1000) : StG W st lo hi P S ∧ ∃ D, MsR W ms lo hi D S ∧ Pl.Tt P D := by
  obtain ⟨Ft, Fs, G, sb, D, u1, u2, h3, _, _⟩ := h.ex
  exact ⟨⟨⟨Ft, Fs, n, hn, u1⟩, h.ins, hx, hsp.lsz, hsp.hsz, hsp.span⟩, D, u2.r, h3⟩
end Go.Proofs.YtoiahcgaffffbaaGreatDoor
