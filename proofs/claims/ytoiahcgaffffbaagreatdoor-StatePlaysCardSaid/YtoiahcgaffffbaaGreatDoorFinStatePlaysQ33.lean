/- RdS, Md37, Lst, Apl, Btw, St3, StG: one text. -/
import Derived.Test.YtoiahcgaffffbaaGreatDoorFinStatePlaysQ31
import Derived.Test.YtoiahcgaffffbaaGreatDoorFinStatePlaysQ32
import Derived.Test.YtoiahcgaffffbaaGreatDoorFinStatePlaysQ30
import Derived.Test.YtoiahcgaffffbaaGreatDoorFinStatePlaysQ8
import Derived.Test.YtoiahcgaffffbaaGreatDoorFinStatePlaysQ28
set_option linter.unusedVariables false
set_option linter.unusedSectionVars false
set_option linter.unusedSimpArgs false
namespace Go.Proofs.YtoiahcgaffffbaaGreatDoor
open Go.RowKit Go.Maps Go.Sort
attribute [local go_sem] Oper.semAt_some uponV
theorem scan_inS {lo hi : ByteArray} {P : List Pr} (h : Pl.InS lo hi P) (n : Int) (hn : (P.length : Int) ≤ n) : Pl.scanT P lo hi n = P := by
  unfold Pl.scanT
  have e : (P.filter fun c => Pl.hasS lo hi c.key) = P := List.filter_eq_self.2 h
  rw [e]
  exact List.take_of_length_le (by omega)
theorem seenB_byte (S : Int → Option An) : ∀ b ∈ seenB S, 0 ≤ b ∧ b < 256 := by
  intro b hb
  unfold seenB at hb
  rw [List.mem_append] at hb
  rcases hb with hb | hb
  · exact Pl.numB_byte _ b hb
  · unfold clsB at hb
    rw [List.mem_flatMap] at hb
    obtain ⟨x, _, hb⟩ := hb
    unfold clB at hb
    simp only [List.mem_append] at hb
    rcases hb with ((hb | hb) | hb) | hb <;> exact Pl.numB_byte _ b hb
structure BxS (W : World) (st : Nat) (v0 v3 : Value) (lo hi : ByteArray) : Prop where
  c0 : W.cell? ⟨st, 0, none⟩ = some v0
  c1 : W.cell? ⟨st, 1, none⟩ = some (.string lo)
  c2 : W.cell? ⟨st, 2, none⟩ = some (.string hi)
  c3 : W.cell? ⟨st, 3, none⟩ = some v3
  f0 : ∀ i, W.frozen? ⟨st, i, none⟩ = false
  f3 : W.frozen? ⟨st, 3, none⟩ = false
theorem BxS.kept {W W' : World} {T : Nat → Prop} {st : Nat} {v0 v3 : Value} {lo hi : ByteArray} (h : BxS W st v0 v3 lo hi) (g : Only T W W') (hT : ¬ T st) : BxS W' st v0 v3 lo hi :=
  have l := cell_lt h.c0
  ⟨(g.cell l hT 0).trans h.c0, (g.cell l hT 1).trans h.c1, (g.cell l hT 2).trans h.c2, (g.cell l hT 3).trans h.c3, fun i => (g.frozen l hT i).trans (h.f0 i), (g.frozen l hT 3).trans h.f3⟩
theorem BxS.grew {W W' : World} {st : Nat} {v0 v3 : Value} {lo hi : ByteArray} (h : BxS W st v0 v3 lo hi) (g : Grew W W') : BxS W' st v0 v3 lo hi := h.kept (g.only fun _ => False) fun h => h
theorem BxS.set0 {W : World} {st : Nat} {v0 v3 : Value} {lo hi : ByteArray} (h : BxS W st v0 v3 lo hi) (v : Value) : BxS (W.setCell ⟨st, 0, none⟩ v) st v v3 lo hi :=
  ⟨World.cell?_setCell_same' _ _ _ (by rw [h.c0]; rfl), (World.cell?_setCell_other _ _ _ _ (by intro e; injection e with _ e2; cases e2)).trans h.c1, (World.cell?_setCell_other _ _ _ _ (by intro e; injection e with _ e2; cases e2)).trans h.c2, (World.cell?_setCell_other _ _ _ _ (by intro e; injection e with _ e2; cases e2)).trans h.c3, fun i => by rw [World.frozen?_setCell]; exact h.f0 i, by rw [World.frozen?_setCell]; exact h.f3⟩
theorem BxS.set3 {W : World} {st : Nat} {v0 v3 : Value} {lo hi : ByteArray} (h : BxS W st v0 v3 lo hi) (v : Value) : BxS (W.setCell ⟨st, 3, none⟩ v) st v0 v lo hi :=
  ⟨(World.cell?_setCell_other _ _ _ _ (by intro e; injection e with _ e2; cases e2)).trans h.c0, (World.cell?_setCell_other _ _ _ _ (by intro e; injection e with _ e2; cases e2)).trans h.c1, (World.cell?_setCell_other _ _ _ _ (by intro e; injection e with _ e2; cases e2)).trans h.c2, World.cell?_setCell_same' _ _ _ (by rw [h.c3]; rfl), fun i => by rw [World.frozen?_setCell]; exact h.f0 i, by rw [World.frozen?_setCell]; exact h.f3⟩
structure JSc (y : World) (n : Nat) (L : Nat → Bool) (f : Nat → Value) (x : World) : Prop where
  grew : Grew y x
  ord : L 14 = true → L 13 = true
  row : L 13 = true → ∃ a c, f 13 = .slice a n c
  len : L 14 = true → f 14 = .int .i64 (n : Nat)
set_option maxRecDepth 100000 in
set_option maxHeartbeats 8000000 in
theorem readS_any (E : Nat → Addr) {w : World} (hE : Errs stS E w) {a : Option Addr} {cap : Nat} {lo hi : ByteArray} {P : List Pr} {S : Int → Option An} (hA : BytesAt w a (stB lo hi P S)) (hf : SlForm a cap) (hl : lo.size ≤ 300) (hh : hi.size ≤ 300) (hr : Pl.rightS lo hi = true) (hs : Pl.Srt P) (hg : Pl.Good P) (hin : Pl.InS lo hi P) (hx : P.length ≤ 300) (hok : ∀ c a, S c = some a → 1 ≤ c ∧ c ≤ 4 ∧ a.Ok) :
    Calls Tryz.prog 32 #[.slice a (stB lo hi P S).length cap] w fun e w' => ∃ st Ft Fs, e = .returned (.tuple #[.pointer (some ⟨st, 0, none⟩), .nilIface]) ∧ StAt w' Ft Fs st (clients S).length lo hi P S ∧ (∀ j, BlS Ft Fs st j → w.heap.size ≤ j) ∧ Grew w w' := by
  have hTS : TabS stS := ⟨rfl, rfl, rfl, rfl, rfl⟩
  have htl := Pl.tabB_len hg (by omega)
  have hsl := Pl.seenB_len hok
  have hbl := stB_len hl hh (show (Pl.tabB P).length ≤ 60000 by omega) hsl
  have HIR := hid (inRead_any w a _ cap (stB lo hi P S) rfl hA hf (by omega) (by unfold stB Pl.textB; simp only [List.length_append]; have := Pl.numB_pos lo.size; omega))
  have HE := hid hE
  have HGD := hid (And.intro hs (And.intro hg hin))
  have HOK := hid hok
  have HTE := hid (strNums_strOf (Pl.tabB_byte P))
  have HSE := hid (strNums_strOf (seenB_byte S))
  have hts : (strOfNums (Pl.tabB P)).size = (Pl.tabB P).length := strOfNums_size _
  have hss : (strOfNums (seenB S)).size = (seenB S).length := strOfNums_size _
  have HZB := hid (show lo.size ≤ 800000 ∧ hi.size ≤ 800000 ∧ (strOfNums (Pl.tabB P)).size ≤ 60000 ∧ (strOfNums (seenB S)).size ≤ 1000 from ⟨by omega, by omega, by omega, by omega⟩)
  have HTL := hid (show (Pl.textB hi).length ≤ 400 ∧ (Pl.textB (strOfNums (Pl.tabB P))).length ≤ 60010 ∧ (Pl.textB (strOfNums (seenB S))).length ≤ 1010 from ⟨by have := Pl.textB_len hi (by omega); omega, by have := Pl.textB_len (strOfNums (Pl.tabB P)) (by omega); omega, by have := Pl.textB_len (strOfNums (seenB S)) (by omega); omega⟩)
  have hsb : stB lo hi P S = Pl.textB lo ++ (Pl.textB hi ++ (Pl.textB (strOfNums (Pl.tabB P)) ++ (Pl.textB (strOfNums (seenB S)) ++ []))) := by unfold stB; simp [List.append_assoc]
  have HSB := hid hsb
  have HR := hid (fun W (g : Grew w W) => right_span stS E ⟨rfl, rfl, rfl, rfl⟩ lo hi W (by omega) (by omega) (hE.grew g))
  rw [hr] at HR
  have HTN := hid (show seenB S = Pl.numB (clients S).length ++ clsB (clients S) from rfl)
  have HSC := hid (scan_inS hin (P.length : Int) (Int.le_refl _))
  have HTZ := hid hts
  have HSZ := hid hss
  generalize hz : (stB lo hi P S).length = z at *
  generalize hT : strOfNums (Pl.tabB P) = tt at *
  generalize hU : strOfNums (seenB S) = uu at *
  clear htl hsl hbl hA hf hE hs hg hin hok hts hss hsb hr hz hT hU
  go_enter Tryz.func32, Tryz.ntmps32
  go_wp2_with fail
  refine HIR.out.mono ?_
  rintro e w1 ⟨ib, nb, rfl, hib, hnb, hI, hg1⟩
  rw [HSB.out] at hI
  have HI := hid hI
  have HG1 := hid hg1
  have HIB := hid hib
  clear hI hg1 hib hnb HIR HSB
  go_wp2_with fail
  refine (inText_any lo 65536 HZB.out.1 (by omega) HI.out (by have := HTL.out; simp only [List.length_append, List.length_nil]; omega)).mono ?_
  rintro e w2 ⟨rfl, hO2, hI2⟩
  have HI2 := hid hI2
  have HG2 := hid (show Grew w w2 from ((HG1.out.only _).then hO2).grew (fun j (hj : j = ib) => by rw [hj]; exact HIB.out))
  clear hI2 hO2 HI HG1
  go_wp2_with fail
  refine (inText_any hi 65536 HZB.out.2.1 (by omega) HI2.out (by have := HTL.out; simp only [List.length_append, List.length_nil]; omega)).mono ?_
  rintro e w3 ⟨rfl, hO3, hI3⟩
  have HI3 := hid hI3
  have HG3 := hid (show Grew w w3 from ((HG2.out.only _).then hO3).grew (fun j (hj : j = ib) => by rw [hj]; exact HIB.out))
  clear hI3 hO3 HI2 HG2
  go_upto_region 3 with fail
  obtain ⟨st, hst⟩ : ∃ st, st = w3.heap.size := ⟨_, rfl⟩
  obtain ⟨Y, hY⟩ : ∃ Y, Y = w3.alloc (.cells #[.pointer none, .string lo, .string hi, .pointer none] 91) := ⟨_, rfl⟩
  have gY : Grew w3 Y := by rw [hY]; exact (Grew.refl w3).alloc _
  have HBX := hid (show BxS Y st (.pointer none) (.pointer none) lo hi from by
    rw [hY, hst]; exact ⟨by simp [go_sem], by simp [go_sem], by simp [go_sem], by simp [go_sem], fun i => by simp [go_sem], by simp [go_sem]⟩)
  have HIY := hid (HI3.out.grew gY)
  have HNE := hid (show st ≠ ib ∧ st ≠ nb ∧ w.heap.size ≤ st from by have := HI3.out.lt; have := HG3.out.size; exact ⟨by omega, by omega, by omega⟩)
  have HGY := hid (HG3.out.trans gY)
  rw [← hY, ← hst]
  clear hY hst gY HI3 HG3
  go_wp2_with fail
  refine (inText_any tt 65536 (by have := HZB.out.2.2.1; omega) (by have := HZB.out.2.2.1; omega) HIY.out (by have := HTL.out; simp only [List.length_append, List.length_nil]; omega)).mono ?_
  rintro e w4 ⟨rfl, hO4, hI4⟩
  have HI4 := hid hI4
  have HB4 := hid (HBX.out.kept hO4 HNE.out.1)
  have HG4 := hid (show Grew w w4 from ((HGY.out.only _).then hO4).grew (fun j (hj : j = ib) => by rw [hj]; exact HIB.out))
  clear hI4 hO4 HIY HBX HGY
  go_wp2_with fail
  refine (inText_any uu 65536 (by have := HZB.out.2.2.2; omega) (by have := HZB.out.2.2.2; omega) HI4.out (by simp)).mono ?_
  rintro e w5 ⟨rfl, hO5, hI5⟩
  have HI5 := hid hI5
  have HB5 := hid (HB4.out.kept hO5 HNE.out.1)
  have HG5 := hid (show Grew w w5 from ((HG4.out.only _).then hO5).grew (fun j (hj : j = ib) => by rw [hj]; exact HIB.out))
  clear hI5 hO5 HI4 HB4 HG4
  go_wp2_with fail
  refine (inEnd_any HI5.out).mono ?_
  rintro e w6 ⟨rfl, hw6⟩
  subst hw6
  clear HI5
  go_upto_region 8 with fail
  obtain ⟨a7, cap7, w7, hrun7, hg7, hA7, hf7⟩ := conv_text w6 tt
  rw [HTE.out] at hA7
  rw [HTZ.out] at hrun7
  have HRUN7 := hid hrun7
  have HB7 := hid (HB5.out.grew hg7)
  have HG7 := hid (HG5.out.trans hg7)
  have HRT := hid (readT_any hTS E (HE.out.grew HG7.out) hA7 hf7 HGD.out.1 HGD.out.2.1 (by omega))
  clear hrun7 hg7 hA7 hf7 HB5 HG5
  go_wp2_with (refine wpList_convert_run rfl _ rfl rfl HRUN7.out ?_)
  refine HRT.out.mono ?_
  rintro e w8 ⟨tb, F, rfl, hT8, hF8, hg8⟩
  have HB8 := hid (HB7.out.grew hg8)
  have HG8 := hid (HG7.out.trans hg8)
  have hs7 := HB7.out.c0
  have HF8 := hid (show (∀ j, F j → w7.heap.size ≤ j) ∧ st < w7.heap.size from ⟨hF8, cell_lt hs7⟩)
  have HT8 := hid hT8
  have b0 := HB8.out.c0
  have r0 := HB8.out.f0 0
  have hst8 := cell_lt b0
  clear hT8 hF8 hg8 HB7 HG7 HRT HRUN7 hs7
  go_upto_region 9 with fail
  obtain ⟨V1, hV1⟩ : ∃ V1, V1 = w8.setCell ⟨st, 0, none⟩ (.pointer (some ⟨tb, 0, none⟩)) := ⟨_, rfl⟩
  have hO1 : Only (fun j => j = st) w8 V1 := by rw [hV1]; exact Only.setCell w8 ⟨st, 0, none⟩ _
  have HB1 := hid (show BxS V1 st (.pointer (some ⟨tb, 0, none⟩)) (.pointer none) lo hi from by rw [hV1]; exact HB8.out.set0 _)
  have HT1 := hid (HT8.out.kept hO1 (fun j hj (e : j = st) => by have := HF8.out.1 j hj; have := HF8.out.2; omega))
  have HG1 := hid (((HG8.out.only _).then hO1).grew (fun j (hj : j = st) => by rw [hj]; exact HNE.out.2.2))
  rw [← hV1]
  obtain ⟨a9, cap9, w9, hrun9, hg9, hA9, hf9⟩ := conv_text V1 uu
  rw [HSE.out, HTN.out] at hA9
  rw [HSZ.out, HTN.out] at hrun9
  obtain ⟨zl, hzl⟩ : ∃ zl, zl = (Pl.numB (clients S).length ++ clsB (clients S)).length := ⟨_, rfl⟩
  rw [← hzl] at hrun9
  have HRUN9 := hid hrun9
  have HB9 := hid (HB1.out.grew hg9)
  have HT9 := hid (HT1.out.grew hg9)
  have HG9 := hid (HG1.out.trans hg9)
  have HRD := hid (readD_any hA9 hf9 (clRow_of HOK.out))
  rw [seenL_clients HOK.out, ← hzl] at HRD
  clear hzl hV1 hO1 b0 r0 hst8 hrun9 hg9 hA9 hf9 HB8 HT8 HG8 HB1 HG1
  go_wp2_with (refine wpList_convert_run rfl _ rfl rfl HRUN9.out ?_)
  refine HRD.out.mono ?_
  rintro e w10 ⟨sb, F2, rfl, hS10, hF10, hg10⟩
  have HB10 := hid (HB9.out.grew hg10)
  have HT10 := hid (HT9.out.grew hg10)
  have HG10 := hid (HG9.out.trans hg10)
  have HF10 := hid (show (∀ j, F2 j → w9.heap.size ≤ j) ∧ (∀ j, F j → j < w9.heap.size) ∧ st < w9.heap.size from ⟨hF10, fun j hj => tabAt_lt HT9.out j hj, cell_lt HB9.out.c0⟩)
  have HS10 := hid hS10
  have b3 := HB10.out.c3
  have r3 := HB10.out.f3
  have hst10 := cell_lt b3
  clear hS10 hF10 hg10 HB9 HT9 HG9 HRD HRUN9 HT1
  go_upto_region 10 with fail
  obtain ⟨V, hV⟩ : ∃ V, V = w10.setCell ⟨st, 3, none⟩ (.pointer (some ⟨sb, 0, none⟩)) := ⟨_, rfl⟩
  have hO2 : Only (fun j => j = st) w10 V := by rw [hV]; exact Only.setCell w10 ⟨st, 3, none⟩ _
  have HBV := hid (show BxS V st (.pointer (some ⟨tb, 0, none⟩)) (.pointer (some ⟨sb, 0, none⟩)) lo hi from by rw [hV]; exact HB10.out.set3 _)
  have HTV := hid (HT10.out.kept hO2 (fun j hj (e : j = st) => by have := HF8.out.1 j hj; have := HF8.out.2; omega))
  have HSV := hid (HS10.out.kept hO2 (fun j hj (e : j = st) => by have := HF10.out.1 j hj; have := HF10.out.2.2; omega))
  have HGV := hid (((HG10.out.only _).then hO2).grew (fun j (hj : j = st) => by rw [hj]; exact HNE.out.2.2))
  rw [← hV]
  have c1 := HBV.out.c1
  have c2 := HBV.out.c2
  have hstV := cell_lt c1
  clear hV hO2 b3 r3 hst10 HB10 HT10 HG10 HS10
  go_wp2_with fail
  refine (HR.out V HGV.out).mono ?_
  rintro e w11 ⟨rfl, hg11⟩
  have HBx := hid (HBV.out.grew hg11)
  have HTx := hid (HTV.out.grew hg11)
  have HSx := hid (HSV.out.grew hg11)
  have HGx := hid (HGV.out.trans hg11)
  clear c1 c2 hstV hg11 HBV HTV HSV HGV HR
  go_upto_region 12 with fail
  have C0 := wd_cell HBx.out.c0
  have C1 := wd_cell HBx.out.c1
  have C2 := wd_cell HBx.out.c2
  have hst11 := cell_lt HBx.out.c0
  have HLN := hid (fun W (g : Grew w11 W) => show Calls Tryz.prog 94 #[.pointer (some ⟨tb, 0, none⟩)] W fun e w' => e = .returned (.int .i64 (P.length : Nat)) ∧ Grew W w' from (lenT_any (HTx.out.grew g)).mono fun e w' h => ⟨h.1, h.2 ▸ Grew.refl _⟩)
  have HSCAN := hid (fun W (g : Grew w11 W) => scanT_any hTS E (HE.out.grew (HGx.out.trans g)) (HTx.out.grew g) (by omega) lo hi (P.length : Int) (by omega) (by omega))
  rw [HSC.out] at HSCAN
  refine wp_region_mixS 20 [13, 14] (Grew w11) Grew (JSc w11 P.length) (fun f a => (a.put (some 75) (f 13)).put (some 76) (f 14)) (by kernel_rfl) (by kernel_rfl) (fun _ _ => rfl) ⟨(Grew.refl w11).drew, (fun h => by cases h), (fun h => by cases h), (fun h => by cases h)⟩ (fun _ _ _ h => h.grew) Grew.refl (fun _ _ _ _ h g => ⟨h.grew.trans g, h.ord, h.row, h.len⟩) ?_
  repeat (first
    | (refine mixS_loose (by rfl) (by rfl) ?_)
    | (refine mixS_plain (by rfl) (by rfl) (by rfl) (by first | exact Grew.refl | exact fun _ => rfl) (by rfl) ?_; intro K hK; go_big_quiet_op; go_big_quiet_on)
    | (refine mixS_call (by rfl) (by rfl) (by rfl) (by rfl) (fun _ => by kernel_rfl) (fun u hu => HLN.out u hu) ?_; simp only [Act.put, List.setIfInBounds_toArray, List.set_cons_zero, List.set_cons_succ])
    | (refine mixS_skip (by rfl) (by rfl) (by rfl) ?_; simp only [Act.put, List.setIfInBounds_toArray, List.set_cons_zero, List.set_cons_succ]))
  refine mixS_done (by rfl) ⟨⟨loose_of rfl (fun _ a => a) (fun _ _ => rfl) (fun _ => rfl) ?_, loose_of rfl (fun f a => a.put (some 75) (f 13)) (fun _ _ => rfl) (fun _ => rfl) ?_, trivial⟩, ?_⟩
  · intro L f x hJ hL hd
    have h14 : L 14 = false := bool_no fun h => by rw [hJ.ord h] at hL; cases hL
    have HJ := hid hJ
    have H14 := hid h14
    clear hJ hL hd C0 C1 C2 h14
    go_simp
    refine (HSCAN.out x HJ.out.grew).mono ?_
    rintro e x' ⟨⟨v, rfl, hrow⟩, hg⟩
    obtain ⟨a', c', rfl, _⟩ := pairsAt_of hrow
    refine ⟨_, rfl, HJ.out.grew.trans hg, fun h => plus_on, fun _ => ⟨a', c', updV_same _ _ _⟩, fun h => ?_⟩
    rw [plus_ne (by decide), H14.out] at h; cases h
  · intro L f x hJ hL hd
    have l13 := hd 13 rfl (by decide)
    obtain ⟨a', c', e13⟩ := hJ.row l13
    have HJ := hid hJ
    have HL13 := hid l13
    have HE13 := hid e13
    clear hJ hL hd C0 C1 C2 l13
    rw [e13]
    clear e13
    go_simp
    refine ⟨HJ.out.grew, fun h => plus_up HL13.out, fun _ => ⟨a', c', ?_⟩, fun _ => updV_same _ _ _⟩
    rw [updV_ne (by decide)]; exact HE13.out
  intro f x hJ
  obtain ⟨a', c', e13⟩ := hJ.row rfl
  have e14 := hJ.len rfl
  have HGX := hid hJ.grew
  have HFIN := hid (show StAt x F F2 st (clients S).length lo hi P S ∧ (∀ j, BlS F F2 st j → w.heap.size ≤ j) ∧ Grew w x from by
    have g := hJ.grew
    have hB := HBx.out.grew g
    refine ⟨⟨tb, sb, hB.c0, hB.c1, hB.c2, hB.c3, hB.f0, HTx.out.grew g, HSx.out.grew g, HGD.out.2.1, fun j hj => ⟨fun h2 => by have := HF10.out.2.1 j hj; have := HF10.out.1 j h2; omega, fun e => by have := HF8.out.1 j hj; have := HF8.out.2; omega⟩, fun j hj e => by have := HF10.out.1 j hj; have := HF10.out.2.2; omega⟩, ?_, HGx.out.trans g⟩
    have hn := HNE.out.2.2
    have h7 := HF8.out.2
    rintro j (hj | hj | rfl)
    · have := HF8.out.1 j hj; omega
    · have := HF10.out.1 j hj; have := HF10.out.2.2; omega
    · exact hn)
  clear hJ C0 C1 C2 HSCAN HLN HBx HTx HSx HGx
  dsimp only [List.drop]
  simp only [Act.put, List.setIfInBounds_toArray, List.set_cons_succ, List.set_cons_zero]
  rw [e13, e14]
  clear e13 e14
  go_wp2_with fail
  go_ret2
  exact ⟨st, rfl, F, F2, HFIN.out⟩
end Go.Proofs.YtoiahcgaffffbaaGreatDoor
namespace Go.Proofs.YtoiahcgaffffbaaGreatDoor
open Go.RowKit Go.Maps Go.Sort
attribute [local go_sem] Oper.semAt_some uponV
end Go.Proofs.YtoiahcgaffffbaaGreatDoor
namespace Go.Proofs.YtoiahcgaffffbaaGreatDoor
open Go.RowKit Go.Maps
attribute [local go_sem] Oper.semAt_some uponV
set_option maxRecDepth 100000 in
set_option maxHeartbeats 2000000 in
theorem lastD_any {w : World} {F : Nat → Prop} {sb n : Nat} {S : Int → Option An} (h : SeenAt w F sb n S) (c : Int) (h1 : -9223372036854775808 ≤ c) (h2 : c < 9223372036854775808) :
    Calls Tryz.prog 130 #[.pointer (some ⟨sb, 0, none⟩), .int .i64 c] w fun e w' => e = .returned (.tuple #[.int .i64 (seqO (S c)), ansAgg (codeO (S c)) (atO (S c)), .bool (S c).isSome]) ∧ Grew w w' := by
  obtain ⟨mb, f, h⟩ := h
  have c0 := h.c0
  have hsb : sb < w.heap.size := cell_lt c0
  have hlk := h.look ((Grew.refl w).alloc (.cells #[.int .i64 0, .int .i64 0] 127)) c h1 h2
  clear h
  have hv : ((S c).map An.agg).getD (.agg #[.int .i64 0, .int .i64 0, .int .i64 0]) = .agg #[.int .i64 (seqO (S c)), .int .i64 (codeO (S c)), .int .i64 (atO (S c))] := by
    cases S c <;> rfl
  rw [hv] at hlk
  clear hv
  have HG := hid (fun (a b x y z : Int) => show Grew w ((w.alloc (.cells #[.int .i64 a, .int .i64 b] 127)).alloc (.cells #[.int .i64 x, .int .i64 y, .int .i64 z] 253)) from ((Grew.refl w).alloc _).alloc _)
  generalize (S c).isSome = is at *
  generalize seqO (S c) = q at *
  generalize codeO (S c) = k at *
  generalize atO (S c) = t at *
  unfold ansAgg
  go_enter Tryz.func130, Tryz.ntmps130
  go_wp2_with fail
  go_region
  go_wp2_with fail
  exact bodyPost_ret (v := .tuple #[.int .i64 q, .agg #[.int .i64 k, .int .i64 t], .bool is]) (by simp [results, Tryz.results130, go_sem]) rfl ⟨rfl, (HG.out _ _ _ _ _).drew⟩
set_option maxRecDepth 100000 in
set_option maxHeartbeats 2000000 in
theorem lastS_any {w : World} {Ft Fs : Nat → Prop} {st n : Nat} {lo hi : ByteArray} {P : List Pr} {S : Int → Option An} (h : StAt w Ft Fs st n lo hi P S) (c : Int) (h1 : -9223372036854775808 ≤ c) (h2 : c < 9223372036854775808) :
    Calls Tryz.prog 61 #[.pointer (some ⟨st, 0, none⟩), .int .i64 c] w fun e w' => e = .returned (.tuple #[.int .i64 (seqO (S c)), ansAgg (codeO (S c)) (atO (S c)), .bool (S c).isSome]) ∧ Grew w w' := by
  obtain ⟨tb, sb, h⟩ := h
  have HL := hid (fun W (g : Grew w W) => lastD_any (h.seen.grew g) c h1 h2)
  have c3 := h.c3
  have hst := cell_lt c3
  clear h
  generalize (S c).isSome = is at *
  generalize seqO (S c) = q at *
  generalize codeO (S c) = k at *
  generalize atO (S c) = t at *
  unfold ansAgg at *
  go_enter Tryz.func61, Tryz.ntmps61
  go_wp2_with fail
  refine (HL.out _ ((Grew.refl w).alloc _)).mono ?_
  rintro e w1 ⟨rfl, hg1⟩
  have HG := hid (show Grew w w1 from ((Grew.refl w).alloc _).trans hg1)
  have f0 : w1.frozen? ⟨w.heap.size, 0, none⟩ = false := (hg1.cells.2 _ _ (by simp)).trans (by simp [go_sem])
  have f1 : w1.frozen? ⟨w.heap.size, 1, none⟩ = false := (hg1.cells.2 _ _ (by simp)).trans (by simp [go_sem])
  have d0 : w1.cell? ⟨w.heap.size, 0, none⟩ = some (.int .i64 0) := (hg1.cells.1 _ _ (by simp)).trans (by simp [go_sem])
  have d1 : w1.cell? ⟨w.heap.size, 1, none⟩ = some (.int .i64 0) := (hg1.cells.1 _ _ (by simp)).trans (by simp [go_sem])
  have hz : w.heap.size < w1.heap.size := Nat.lt_of_lt_of_le (by simp) hg1.size
  clear hg1 HL c3 hst
  go_wp2_with fail
  refine bodyPost_ret (v := .tuple #[.int .i64 q, .agg #[.int .i64 k, .int .i64 t], .bool is]) (by simp [results, Tryz.results61, go_sem, d0, d1, f0, f1]) rfl ⟨rfl, ?_⟩
  exact (HG.out.setCell (show w.heap.size ≤ w.heap.size by omega) _).setCell (show w.heap.size ≤ w.heap.size by omega) _
set_option maxRecDepth 100000 in
set_option maxHeartbeats 2000000 in
theorem spanS_any {w : World} {Ft Fs : Nat → Prop} {st n : Nat} {lo hi : ByteArray} {P : List Pr} {S : Int → Option An} (h : StAt w Ft Fs st n lo hi P S) :
    Calls Tryz.prog 59 #[.pointer (some ⟨st, 0, none⟩)] w fun e w' => e = .returned (.agg #[.string lo, .string hi]) ∧ Grew w w' := by
  obtain ⟨tb, sb, h⟩ := h
  have c1 := h.c1
  have c2 := h.c2
  have hst := cell_lt c1
  have HG := hid (fun (a b : ByteArray) => show Grew w (w.alloc (.cells #[.string a, .string b] 23)) from (Grew.refl w).alloc _)
  clear h
  go_enter Tryz.func59, Tryz.ntmps59
  go_wp2_with fail
  exact bodyPost_ret (v := .agg #[.string lo, .string hi]) (by simp [results, Tryz.results59, go_sem]) rfl ⟨rfl, HG.out _ _⟩
end Go.Proofs.YtoiahcgaffffbaaGreatDoor
namespace Go.Proofs.YtoiahcgaffffbaaGreatDoor
open Go.RowKit Go.Maps Go.Sort
attribute [local go_sem] Oper.semAt_some uponV
namespace Pl
end Pl
structure ApK (Y W : World) (tb : Nat) (T : List Pr) (a : Option Addr) (P : List Pr) : Prop where
  grew : Grew Y W
  row : PairsAt W a P
  tab : ∃ F, TabAt W F tb T ∧ (∀ j, F j → Y.heap.size ≤ j) ∧ ∀ b off, 0 < P.length → a = some ⟨b, off, none⟩ → b < W.heap.size ∧ ¬ F b
theorem ApK.more {Y W W' : World} {tb : Nat} {T P : List Pr} {a : Option Addr} (h : ApK Y W tb T a P) (g : Grew W W') : ApK Y W' tb T a P := by
  obtain ⟨F, h1, h2, h3⟩ := h.tab
  exact ⟨h.grew.trans g, h.row.grew g, F, h1.grew g, h2, fun b off hp e => ⟨Nat.lt_of_lt_of_le (h3 b off hp e).1 g.size, (h3 b off hp e).2⟩⟩
theorem ApK.step {Y W W' : World} {tb : Nat} {T T' P : List Pr} {a : Option Addr} (h : ApK Y W tb T a P) {F : Nat → Prop} (h2 : ∀ j, F j → Y.heap.size ≤ j) (h3 : ∀ b off, 0 < P.length → a = some ⟨b, off, none⟩ → b < W.heap.size ∧ ¬ F b) (t : TabTurn W F tb T' W') : ApK Y W' tb T' a P := by
  obtain ⟨t1, F', t2, t3⟩ := t
  refine ⟨((h.grew.only F).then t1).grew h2, ?_, F', t2, fun j hj => ?_, fun b off hp e => ⟨Nat.lt_of_lt_of_le (h3 b off hp e).1 t1.size, fun q => ?_⟩⟩
  · rcases h.row with h0 | ⟨b, off, e, hb, hr⟩
    · exact .inl h0
    · rcases Nat.eq_zero_or_pos P.length with h0 | h0
      · exact .inl (List.eq_nil_of_length_eq_zero h0)
      · have hn := (h3 b off h0 e).2
        exact .inr ⟨b, off, e, Nat.lt_of_lt_of_le hb t1.size, fun j hj => (t1.cell hb hn _).trans (hr.key j hj), fun j hj => (t1.cell hb hn _).trans (hr.val j hj), fun j hj => (t1.cell hb hn _).trans (hr.ver j hj)⟩
  · rcases t3 j hj with q | q
    · exact h2 j q
    · exact Nat.le_trans h.grew.size q
  · rcases t3 b q with q | q
    · exact (h3 b off hp e).2 q
    · have := (h3 b off hp e).1; omega
end Go.Proofs.YtoiahcgaffffbaaGreatDoor
namespace Go.Proofs.YtoiahcgaffffbaaGreatDoor
open Go.RowKit Go.Maps
attribute [local go_sem] Oper.semAt_some uponV
namespace Pl
end Pl
def clTo (S : Int → Option An) (k : Nat) : List (Int × An) := (([1, 2, 3, 4] : List Int).take (k - 1)).filterMap fun c => (S c).map fun a => (c, a)
theorem clTo_all (S : Int → Option An) : clTo S 5 = clients S := rfl
theorem clTo_next (S : Int → Option An) (k : Nat) (h1 : 1 ≤ k) (h2 : k ≤ 4) : clTo S (k + 1) = clTo S k ++ match S (k : Int) with | none => [] | some a => [((k : Int), a)] := by
  have e : ([1, 2, 3, 4] : List Int).take (k + 1 - 1) = ([1, 2, 3, 4] : List Int).take (k - 1) ++ [(k : Int)] := by
    obtain rfl | rfl | rfl | rfl : k = 1 ∨ k = 2 ∨ k = 3 ∨ k = 4 := by omega
    all_goals rfl
  unfold clTo
  rw [e, List.filterMap_append]
  congr 1
  cases h : S (k : Int) with
  | none => simp [h]
  | some a => simp [h]
theorem clTo_len (S : Int → Option An) (k : Nat) : (clTo S k).length ≤ 4 := by
  unfold clTo
  have h1 := List.length_filterMap_le (fun c => (S c).map fun a => (c, a)) (([1, 2, 3, 4] : List Int).take (k - 1))
  rw [List.length_take] at h1
  simp only [List.length_cons, List.length_nil] at h1
  omega
end Go.Proofs.YtoiahcgaffffbaaGreatDoor
namespace Go.Proofs.YtoiahcgaffffbaaGreatDoor
open Go.RowKit Go.Maps
attribute [local go_sem] Oper.semAt_some uponV
theorem bytes_fields {w : World} {a : Option Addr} {ns : List Int} (h : BytesAt w a ns) (k : Nat) (hk : k < ns.length) : ∃ b off, a = some ⟨b, off, none⟩ ∧ b < w.heap.size ∧ w.cell? ⟨b, off + k, none⟩ = some (.int .u8 (ns[k]'hk)) := by
  rcases h with h | ⟨b, off, e, hb, hc⟩
  · rw [h] at hk; cases hk
  · exact ⟨b, off, e, hb, hc k _ (List.getElem?_eq_getElem hk)⟩
set_option maxRecDepth 100000 in
set_option maxHeartbeats 4000000 in
theorem equalB_any (w : World) (a b : Option Addr) (c d : Nat) (ns : List Int) (hA : BytesAt w a ns) (hB : BytesAt w b ns) (hn : ns.length ≤ 1000000) :
    Calls Tryz.prog 80 #[.slice a ns.length c, .slice b ns.length d] w fun e w' => e = .returned (.bool true) ∧ Grew w w' := by
  have HA := hid hA
  have HB := hid hB
  obtain ⟨m, hm⟩ : ∃ m, m = ns.length := ⟨_, rfl⟩
  have HM := hid hm
  rw [← hm] at hn ⊢
  clear hA hB hm
  go_enter Tryz.func80, Tryz.ntmps80
  go_wp2_with fail
  go_loopw [5, 13] (fun u i wr => ∃ k : Nat, k ≤ m ∧ i = .int .i64 k ∧ Hid (Grew w wr)) (fun _ i _ => m - (intOf i).toNat)
  case atStart => exact ⟨0, Nat.zero_le _, rfl, Grew.refl w⟩
  case round =>
    obtain ⟨k, hk, rfl, HG⟩ := hrel
    by_cases hlt : k < m
    · have hk' : k < ns.length := by rw [← HM.out]; exact hlt
      obtain ⟨b1, o1, rfl, hb1, hc1⟩ := bytes_fields HA.out k hk'
      obtain ⟨b2, o2, rfl, hb2, hc2⟩ := bytes_fields HB.out k hk'
      have C1 := wd_cell ((HG.out.cells.1 _ _ hb1).trans hc1)
      have C2 := wd_cell ((HG.out.cells.1 _ _ hb2).trans hc2)
      generalize ns[k] = q at *
      have hkI : (k : Int) < (m : Int) := by omega
      clear hc1 hc2 hk'
      go_wp2_with fail
      refine wp_region_still 9 (by kernel_rfl) (by kernel_rfl) (fun _ _ => rfl) ?_
      repeat (first
    | (refine mixS_plain (by rfl) (by rfl) (by rfl) (by first | exact Grew.refl | exact fun _ => rfl) (by rfl) ?_; intro K hK; go_big_quiet_op; go_big_quiet_on)
    | (refine mixS_skip (by rfl) (by rfl) (by rfl) ?_; simp only [Act.put, List.setIfInBounds_toArray, List.set_cons_zero, List.set_cons_succ]))
      refine mixS_nil ?_
      intro x hG
      have HGX := hid (HG.out.trans hG)
      clear C1 C2 hG
      dsimp only [List.drop]
      go_wp2_with fail
      go_roundw
      case rel => exact ⟨k + 1, by omega, by go_num, HGX⟩
      case measure => simp [intOf]; omega
    · have hkm : k = m := by omega
      subst hkm
      go_wp2_with fail
      go_ret
      exact ⟨rfl, HG.out⟩
set_option maxRecDepth 100000 in
set_option maxHeartbeats 4000000 in
theorem sameS_any {w : World} {Ft Fs Gt Gs : Nat → Prop} {st su n m : Nat} {lo hi : ByteArray} {P : List Pr} {S : Int → Option An} (h : StAt w Ft Fs st n lo hi P S) (k : StAt w Gt Gs su m lo hi P S) (hx : P.length ≤ 1000) (hn : n ≤ 1000000) (hm : m ≤ 1000000) (hl : lo.size ≤ 300) (hh : hi.size ≤ 300) (hP : (Pl.tabB P).length ≤ 60000) (hS : (seenB S).length ≤ 1000) :
    Calls Tryz.prog 20 #[.pointer (some ⟨st, 0, none⟩), .pointer (some ⟨su, 0, none⟩)] w fun e w' => e = .returned (.bool true) ∧ Grew w w' := by
  have HL := hid (stB_len hl hh hP hS)
  have H1 := hid (bytesS_any h hx hn hl hh hP hS)
  have H2 := hid (fun W (g : Grew w W) => bytesS_any (k.grew g) hx hm hl hh hP hS)
  clear h k
  generalize stB lo hi P S = bs at *
  go_enter Tryz.func20, Tryz.ntmps20
  go_wp2_with fail
  refine H1.out.mono ?_
  rintro e w1 ⟨a1, c1, rfl, hr1, hg1⟩
  obtain ⟨a1', c1', e1, hA1, _, _⟩ := bytesAt_of hr1
  cases e1
  have HA1 := hid hA1
  have HG1 := hid hg1
  clear hr1 hA1 hg1
  go_wp2_with fail
  refine (H2.out w1 HG1.out).mono ?_
  rintro e w2 ⟨a2, c2, rfl, hr2, hg2⟩
  obtain ⟨a2', c2', e2, hA2, _, _⟩ := bytesAt_of hr2
  cases e2
  have HEQ := hid (equalB_any w2 a1 a2 c1 c2 bs (HA1.out.grew hg2) hA2 (by have := HL.out; omega))
  have HG2 := hid (HG1.out.trans hg2)
  clear hr2 hA2 hg2
  go_wp2_with fail
  refine HEQ.out.mono ?_
  rintro e w3 ⟨rfl, hg3⟩
  have HG3 := hid (HG2.out.trans hg3)
  clear hg3
  go_wp2_with fail
  go_ret
  exact ⟨rfl, HG3.out⟩
end Go.Proofs.YtoiahcgaffffbaaGreatDoor
namespace Go.Proofs.YtoiahcgaffffbaaGreatDoor
open Go.RowKit Go.Maps Go.Sort
attribute [local go_sem] Oper.semAt_some uponV
structure StG (W : World) (st : Nat) (lo hi : ByteArray) (P : List Pr) (S : Int → Option An) : Prop where
  ex : ∃ Ft Fs n, n ≤ 1000 ∧ StAt W Ft Fs st n lo hi P S
  ins : Pl.InS lo hi P
  few : P.length ≤ 250
  lsz : lo.size ≤ 300
  hsz : hi.size ≤ 300
  span : Pl.rightS lo hi = true
section
variable {W W' : World} {st : Nat} {lo hi : ByteArray} {P : List Pr} {S : Int → Option An}
theorem StG.grew (h : StG W st lo hi P S) (g : Grew W W') : StG W' st lo hi P S := by
  obtain ⟨Ft, Fs, n, h1, h2⟩ := h.ex
  exact ⟨⟨Ft, Fs, n, h1, h2.grew g⟩, h.ins, h.few, h.lsz, h.hsz, h.span⟩
theorem StG.srt (h : StG W st lo hi P S) : Pl.Srt P := by
  obtain ⟨Ft, Fs, n, h1, tb, sb, h2⟩ := h.ex
  exact tabAt_srt h2.tab
theorem StG.good (h : StG W st lo hi P S) : Pl.Good P := by
  obtain ⟨Ft, Fs, n, h1, tb, sb, h2⟩ := h.ex
  exact h2.good
theorem StG.ok (h : StG W st lo hi P S) : ∀ c a, S c = some a → 1 ≤ c ∧ c ≤ 4 ∧ a.Ok := by
  obtain ⟨Ft, Fs, n, h1, tb, sb, h2⟩ := h.ex
  exact h2.seen.ok
theorem StG.lt (h : StG W st lo hi P S) : st < W.heap.size := by
  obtain ⟨Ft, Fs, n, h1, tb, sb, h2⟩ := h.ex
  exact cell_lt h2.c0
end
structure DlV (W : World) (v : Value) (lob hib : ByteArray) (P Q : List Pr) (SB : Int → Option An) : Prop where
  ex : ∃ ap cp ak kc ac cc, v = .agg #[.string lob, .string hib, .slice ap (Pl.pairsD P Q).length cp, .slice ak (Pl.keysD P Q).length kc, .slice ac (clients SB).length cc] ∧ DlM W ap ak ac (Pl.pairsD P Q) (Pl.keysD P Q) (clients SB)
theorem DlV.grew {W W' : World} {v : Value} {lob hib : ByteArray} {P Q : List Pr} {SB : Int → Option An} (h : DlV W v lob hib P Q SB) (g : Grew W W') : DlV W' v lob hib P Q SB := by
  obtain ⟨ap, cp, ak, kc, ac, cc, h1, h2⟩ := h.ex
  exact ⟨⟨ap, cp, ak, kc, ac, cc, h1, h2.grew g⟩⟩
theorem sameG_any {w : World} {sa sb : Nat} {lo hi : ByteArray} {P : List Pr} {S : Int → Option An} (ha : StG w sa lo hi P S) (hb : StG w sb lo hi P S) :
    Calls Tryz.prog 20 #[.pointer (some ⟨sa, 0, none⟩), .pointer (some ⟨sb, 0, none⟩)] w fun e w' => e = .returned (.bool true) ∧ Grew w w' := by
  obtain ⟨Fa, Ga, na, ha1, ha2⟩ := ha.ex
  obtain ⟨Fb, Gb, nb, hb1, hb2⟩ := hb.ex
  exact sameS_any ha2 hb2 (by have := ha.few; omega) (by omega) (by omega) ha.lsz ha.hsz (by have := Pl.tabB_len ha.good (by have := ha.few; omega); have := ha.few; omega) (Pl.seenB_len ha.ok)
end Go.Proofs.YtoiahcgaffffbaaGreatDoor
