/- RdS, Md37, Lst: one text. -/
import Derived.Test.YtoiahcgaffffbaaGreatDoorFinDeltaBetweenQ32
import Derived.Test.YtoiahcgaffffbaaGreatDoorFinDeltaBetweenQ35
import Derived.Test.YtoiahcgaffffbaaGreatDoorFinDeltaBetweenQ34
set_option linter.unusedVariables false
set_option linter.unusedSectionVars false
set_option linter.unusedSimpArgs false
namespace Go.Proofs.YtoiahcgaffffbaaGreatDoor
open Go.RowKit Go.Maps Go.Sort
attribute [local go_sem] Oper.semAt_some uponV
theorem scan_inS {lo hi : ByteArray} {P : List Pr} (h : Pl.InS lo hi P) (n : Int) (hn : (P.length : Int) ≤ n) : Pl.scanT P lo hi n = P := by
  unfold Pl.scanT
  have e : (P.filter fun c => Pl.hasS lo hi c.key) = P := List.filter_eq_self.2 h
  rw [e]
  exact List.take_of_length_le (by omega)
theorem seenB_byte (S : Int → Option An) : ∀ b ∈ seenB S, 0 ≤ b ∧ b < 256 := by
  intro b hb
  unfold seenB at hb
  rw [List.mem_append] at hb
  rcases hb with hb | hb
  · exact Pl.numB_byte _ b hb
  · unfold clsB at hb
    rw [List.mem_flatMap] at hb
    obtain ⟨x, _, hb⟩ := hb
    unfold clB at hb
    simp only [List.mem_append] at hb
    rcases hb with ((hb | hb) | hb) | hb <;> exact Pl.numB_byte _ b hb
structure BxS (W : World) (st : Nat) (v0 v3 : Value) (lo hi : ByteArray) : Prop where
  c0 : W.cell? ⟨st, 0, none⟩ = some v0
  c1 : W.cell? ⟨st, 1, none⟩ = some (.string lo)
  c2 : W.cell? ⟨st, 2, none⟩ = some (.string hi)
  c3 : W.cell? ⟨st, 3, none⟩ = some v3
  f0 : W.frozen? ⟨st, 0, none⟩ = false
  f3 : W.frozen? ⟨st, 3, none⟩ = false
theorem BxS.kept {W W' : World} {T : Nat → Prop} {st : Nat} {v0 v3 : Value} {lo hi : ByteArray} (h : BxS W st v0 v3 lo hi) (g : Only T W W') (hT : ¬ T st) : BxS W' st v0 v3 lo hi :=
  have l := cell_lt h.c0
  ⟨(g.cell l hT 0).trans h.c0, (g.cell l hT 1).trans h.c1, (g.cell l hT 2).trans h.c2, (g.cell l hT 3).trans h.c3, (g.frozen l hT 0).trans h.f0, (g.frozen l hT 3).trans h.f3⟩
theorem BxS.grew {W W' : World} {st : Nat} {v0 v3 : Value} {lo hi : ByteArray} (h : BxS W st v0 v3 lo hi) (g : Grew W W') : BxS W' st v0 v3 lo hi := h.kept (g.only fun _ => False) fun h => h
theorem BxS.set0 {W : World} {st : Nat} {v0 v3 : Value} {lo hi : ByteArray} (h : BxS W st v0 v3 lo hi) (v : Value) : BxS (W.setCell ⟨st, 0, none⟩ v) st v v3 lo hi :=
  ⟨World.cell?_setCell_same' _ _ _ (by rw [h.c0]; rfl), (World.cell?_setCell_other _ _ _ _ (by intro e; injection e with _ e2; cases e2)).trans h.c1, (World.cell?_setCell_other _ _ _ _ (by intro e; injection e with _ e2; cases e2)).trans h.c2, (World.cell?_setCell_other _ _ _ _ (by intro e; injection e with _ e2; cases e2)).trans h.c3, by rw [World.frozen?_setCell]; exact h.f0, by rw [World.frozen?_setCell]; exact h.f3⟩
theorem BxS.set3 {W : World} {st : Nat} {v0 v3 : Value} {lo hi : ByteArray} (h : BxS W st v0 v3 lo hi) (v : Value) : BxS (W.setCell ⟨st, 3, none⟩ v) st v0 v lo hi :=
  ⟨(World.cell?_setCell_other _ _ _ _ (by intro e; injection e with _ e2; cases e2)).trans h.c0, (World.cell?_setCell_other _ _ _ _ (by intro e; injection e with _ e2; cases e2)).trans h.c1, (World.cell?_setCell_other _ _ _ _ (by intro e; injection e with _ e2; cases e2)).trans h.c2, World.cell?_setCell_same' _ _ _ (by rw [h.c3]; rfl), by rw [World.frozen?_setCell]; exact h.f0, by rw [World.frozen?_setCell]; exact h.f3⟩
structure JSc (y : World) (n : Nat) (L : Nat → Bool) (f : Nat → Value) (x : World) : Prop where
  grew : Grew y x
  ord : L 14 = true → L 13 = true
  row : L 13 = true → ∃ a c, f 13 = .slice a n c
  len : L 14 = true → f 14 = .int .i64 (n : Nat)
set_option maxRecDepth 100000 in
set_option maxHeartbeats 8000000 in
theorem readS_any (E : Nat → Addr) {w : World} (hE : Errs stS E w) {a : Option Addr} {cap : Nat} {lo hi : ByteArray} {P : List Pr} {S : Int → Option An} (hA : BytesAt w a (stB lo hi P S)) (hf : SlForm a cap) (hl : lo.size ≤ 300) (hh : hi.size ≤ 300) (hr : Pl.rightS lo hi = true) (hs : Pl.Srt P) (hg : Pl.Good P) (hin : Pl.InS lo hi P) (hx : P.length ≤ 300) (hok : ∀ c a, S c = some a → 1 ≤ c ∧ c ≤ 4 ∧ a.Ok) :
    Calls Tryz.prog 32 #[.slice a (stB lo hi P S).length cap] w fun e w' => ∃ st Ft Fs, e = .returned (.tuple #[.pointer (some ⟨st, 0, none⟩), .nilIface]) ∧ StAt w' Ft Fs st (clients S).length lo hi P S ∧ (∀ j, BlS Ft Fs st j → w.heap.size ≤ j) ∧ Grew w w' := by
  have hTS : TabS stS := ⟨rfl, rfl, rfl, rfl, rfl⟩
  have htl := Pl.tabB_len hg (by omega)
  have hsl := Pl.seenB_len hok
  have hbl := stB_len hl hh (show (Pl.tabB P).length ≤ 60000 by omega) hsl
  have HIR := hid (inRead_any w a _ cap (stB lo hi P S) rfl hA hf (by omega) (by unfold stB Pl.textB; simp only [List.length_append]; have := Pl.numB_pos lo.size; omega))
  have HE := hid hE
  have HGD := hid (And.intro hs (And.intro hg hin))
  have HOK := hid hok
  have HTE := hid (strNums_strOf (Pl.tabB_byte P))
  have HSE := hid (strNums_strOf (seenB_byte S))
  have hts : (strOfNums (Pl.tabB P)).size = (Pl.tabB P).length := strOfNums_size _
  have hss : (strOfNums (seenB S)).size = (seenB S).length := strOfNums_size _
  have HZB := hid (show lo.size ≤ 800000 ∧ hi.size ≤ 800000 ∧ (strOfNums (Pl.tabB P)).size ≤ 60000 ∧ (strOfNums (seenB S)).size ≤ 1000 from ⟨by omega, by omega, by omega, by omega⟩)
  have HTL := hid (show (Pl.textB hi).length ≤ 400 ∧ (Pl.textB (strOfNums (Pl.tabB P))).length ≤ 60010 ∧ (Pl.textB (strOfNums (seenB S))).length ≤ 1010 from ⟨by have := Pl.textB_len hi (by omega); omega, by have := Pl.textB_len (strOfNums (Pl.tabB P)) (by omega); omega, by have := Pl.textB_len (strOfNums (seenB S)) (by omega); omega⟩)
  have hsb : stB lo hi P S = Pl.textB lo ++ (Pl.textB hi ++ (Pl.textB (strOfNums (Pl.tabB P)) ++ (Pl.textB (strOfNums (seenB S)) ++ []))) := by unfold stB; simp [List.append_assoc]
  have HSB := hid hsb
  have HR := hid (fun W (g : Grew w W) => right_span stS E ⟨rfl, rfl, rfl, rfl⟩ lo hi W (by omega) (by omega) (hE.grew g))
  rw [hr] at HR
  have HTN := hid (show seenB S = Pl.numB (clients S).length ++ clsB (clients S) from rfl)
  have HSC := hid (scan_inS hin (P.length : Int) (Int.le_refl _))
  have HTZ := hid hts
  have HSZ := hid hss
  generalize hz : (stB lo hi P S).length = z at *
  generalize hT : strOfNums (Pl.tabB P) = tt at *
  generalize hU : strOfNums (seenB S) = uu at *
  clear htl hsl hbl hA hf hE hs hg hin hok hts hss hsb hr hz hT hU
  go_enter Tryz.func32, Tryz.ntmps32
  go_wp2_with fail
  refine HIR.out.mono ?_
  rintro e w1 ⟨ib, nb, rfl, hib, hnb, hI, hg1⟩
  rw [HSB.out] at hI
  have HI := hid hI
  have HG1 := hid hg1
  have HIB := hid hib
  clear hI hg1 hib hnb HIR HSB
  go_wp2_with fail
  refine (inText_any lo 65536 HZB.out.1 (by omega) HI.out (by have := HTL.out; simp only [List.length_append, List.length_nil]; omega)).mono ?_
  rintro e w2 ⟨rfl, hO2, hI2⟩
  have HI2 := hid hI2
  have HG2 := hid (show Grew w w2 from ((HG1.out.only _).then hO2).grew (fun j (hj : j = ib) => by rw [hj]; exact HIB.out))
  clear hI2 hO2 HI HG1
  go_wp2_with fail
  refine (inText_any hi 65536 HZB.out.2.1 (by omega) HI2.out (by have := HTL.out; simp only [List.length_append, List.length_nil]; omega)).mono ?_
  rintro e w3 ⟨rfl, hO3, hI3⟩
  have HI3 := hid hI3
  have HG3 := hid (show Grew w w3 from ((HG2.out.only _).then hO3).grew (fun j (hj : j = ib) => by rw [hj]; exact HIB.out))
  clear hI3 hO3 HI2 HG2
  go_upto_region 3 with fail
  obtain ⟨st, hst⟩ : ∃ st, st = w3.heap.size := ⟨_, rfl⟩
  obtain ⟨Y, hY⟩ : ∃ Y, Y = w3.alloc (.cells #[.pointer none, .string lo, .string hi, .pointer none] 91) := ⟨_, rfl⟩
  have gY : Grew w3 Y := by rw [hY]; exact (Grew.refl w3).alloc _
  have HBX := hid (show BxS Y st (.pointer none) (.pointer none) lo hi from by
    rw [hY, hst]; exact ⟨by simp [go_sem], by simp [go_sem], by simp [go_sem], by simp [go_sem], by simp [go_sem], by simp [go_sem]⟩)
  have HIY := hid (HI3.out.grew gY)
  have HNE := hid (show st ≠ ib ∧ st ≠ nb ∧ w.heap.size ≤ st from by have := HI3.out.lt; have := HG3.out.size; exact ⟨by omega, by omega, by omega⟩)
  have HGY := hid (HG3.out.trans gY)
  rw [← hY, ← hst]
  clear hY hst gY HI3 HG3
  go_wp2_with fail
  refine (inText_any tt 65536 (by have := HZB.out.2.2.1; omega) (by have := HZB.out.2.2.1; omega) HIY.out (by have := HTL.out; simp only [List.length_append, List.length_nil]; omega)).mono ?_
  rintro e w4 ⟨rfl, hO4, hI4⟩
  have HI4 := hid hI4
  have HB4 := hid (HBX.out.kept hO4 HNE.out.1)
  have HG4 := hid (show Grew w w4 from ((HGY.out.only _).then hO4).grew (fun j (hj : j = ib) => by rw [hj]; exact HIB.out))
  clear hI4 hO4 HIY HBX HGY
  go_wp2_with fail
  refine (inText_any uu 65536 (by have := HZB.out.2.2.2; omega) (by have := HZB.out.2.2.2; omega) HI4.out (by simp)).mono ?_
  rintro e w5 ⟨rfl, hO5, hI5⟩
  have HI5 := hid hI5
  have HB5 := hid (HB4.out.kept hO5 HNE.out.1)
  have HG5 := hid (show Grew w w5 from ((HG4.out.only _).then hO5).grew (fun j (hj : j = ib) => by rw [hj]; exact HIB.out))
  clear hI5 hO5 HI4 HB4 HG4
  go_wp2_with fail
  refine (inEnd_any HI5.out).mono ?_
  rintro e w6 ⟨rfl, hw6⟩
  subst hw6
  clear HI5
  go_upto_region 8 with fail
  obtain ⟨a7, cap7, w7, hrun7, hg7, hA7, hf7⟩ := conv_text w6 tt
  rw [HTE.out] at hA7
  rw [HTZ.out] at hrun7
  have HRUN7 := hid hrun7
  have HB7 := hid (HB5.out.grew hg7)
  have HG7 := hid (HG5.out.trans hg7)
  have HRT := hid (readT_any hTS E (HE.out.grew HG7.out) hA7 hf7 HGD.out.1 HGD.out.2.1 (by omega))
  clear hrun7 hg7 hA7 hf7 HB5 HG5
  go_wp2_with (refine wpList_convert_run rfl _ rfl rfl HRUN7.out ?_)
  refine HRT.out.mono ?_
  rintro e w8 ⟨tb, F, rfl, hT8, hF8, hg8⟩
  have HB8 := hid (HB7.out.grew hg8)
  have HG8 := hid (HG7.out.trans hg8)
  have hs7 := HB7.out.c0
  have HF8 := hid (show (∀ j, F j → w7.heap.size ≤ j) ∧ st < w7.heap.size from ⟨hF8, cell_lt hs7⟩)
  have HT8 := hid hT8
  have b0 := HB8.out.c0
  have r0 := HB8.out.f0
  have hst8 := cell_lt b0
  clear hT8 hF8 hg8 HB7 HG7 HRT HRUN7 hs7
  go_upto_region 9 with fail
  obtain ⟨V1, hV1⟩ : ∃ V1, V1 = w8.setCell ⟨st, 0, none⟩ (.pointer (some ⟨tb, 0, none⟩)) := ⟨_, rfl⟩
  have hO1 : Only (fun j => j = st) w8 V1 := by rw [hV1]; exact Only.setCell w8 ⟨st, 0, none⟩ _
  have HB1 := hid (show BxS V1 st (.pointer (some ⟨tb, 0, none⟩)) (.pointer none) lo hi from by rw [hV1]; exact HB8.out.set0 _)
  have HT1 := hid (HT8.out.kept hO1 (fun j hj (e : j = st) => by have := HF8.out.1 j hj; have := HF8.out.2; omega))
  have HG1 := hid (((HG8.out.only _).then hO1).grew (fun j (hj : j = st) => by rw [hj]; exact HNE.out.2.2))
  rw [← hV1]
  obtain ⟨a9, cap9, w9, hrun9, hg9, hA9, hf9⟩ := conv_text V1 uu
  rw [HSE.out, HTN.out] at hA9
  rw [HSZ.out, HTN.out] at hrun9
  obtain ⟨zl, hzl⟩ : ∃ zl, zl = (Pl.numB (clients S).length ++ clsB (clients S)).length := ⟨_, rfl⟩
  rw [← hzl] at hrun9
  have HRUN9 := hid hrun9
  have HB9 := hid (HB1.out.grew hg9)
  have HT9 := hid (HT1.out.grew hg9)
  have HG9 := hid (HG1.out.trans hg9)
  have HRD := hid (readD_any hA9 hf9 (clRow_of HOK.out))
  rw [seenL_clients HOK.out, ← hzl] at HRD
  clear hzl hV1 hO1 b0 r0 hst8 hrun9 hg9 hA9 hf9 HB8 HT8 HG8 HB1 HG1
  go_wp2_with (refine wpList_convert_run rfl _ rfl rfl HRUN9.out ?_)
  refine HRD.out.mono ?_
  rintro e w10 ⟨sb, F2, rfl, hS10, hF10, hg10⟩
  have HB10 := hid (HB9.out.grew hg10)
  have HT10 := hid (HT9.out.grew hg10)
  have HG10 := hid (HG9.out.trans hg10)
  have HF10 := hid (show (∀ j, F2 j → w9.heap.size ≤ j) ∧ (∀ j, F j → j < w9.heap.size) ∧ st < w9.heap.size from ⟨hF10, fun j hj => tabAt_lt HT9.out j hj, cell_lt HB9.out.c0⟩)
  have HS10 := hid hS10
  have b3 := HB10.out.c3
  have r3 := HB10.out.f3
  have hst10 := cell_lt b3
  clear hS10 hF10 hg10 HB9 HT9 HG9 HRD HRUN9 HT1
  go_upto_region 10 with fail
  obtain ⟨V, hV⟩ : ∃ V, V = w10.setCell ⟨st, 3, none⟩ (.pointer (some ⟨sb, 0, none⟩)) := ⟨_, rfl⟩
  have hO2 : Only (fun j => j = st) w10 V := by rw [hV]; exact Only.setCell w10 ⟨st, 3, none⟩ _
  have HBV := hid (show BxS V st (.pointer (some ⟨tb, 0, none⟩)) (.pointer (some ⟨sb, 0, none⟩)) lo hi from by rw [hV]; exact HB10.out.set3 _)
  have HTV := hid (HT10.out.kept hO2 (fun j hj (e : j = st) => by have := HF8.out.1 j hj; have := HF8.out.2; omega))
  have HSV := hid (HS10.out.kept hO2 (fun j hj (e : j = st) => by have := HF10.out.1 j hj; have := HF10.out.2.2; omega))
  have HGV := hid (((HG10.out.only _).then hO2).grew (fun j (hj : j = st) => by rw [hj]; exact HNE.out.2.2))
  rw [← hV]
  have c1 := HBV.out.c1
  have c2 := HBV.out.c2
  have hstV := cell_lt c1
  clear hV hO2 b3 r3 hst10 HB10 HT10 HG10 HS10
  go_wp2_with fail
  refine (HR.out V HGV.out).mono ?_
  rintro e w11 ⟨rfl, hg11⟩
  have HBx := hid (HBV.out.grew hg11)
  have HTx := hid (HTV.out.grew hg11)
  have HSx := hid (HSV.out.grew hg11)
  have HGx := hid (HGV.out.trans hg11)
  clear c1 c2 hstV hg11 HBV HTV HSV HGV HR
  go_upto_region 12 with fail
  have C0 := wd_cell HBx.out.c0
  have C1 := wd_cell HBx.out.c1
  have C2 := wd_cell HBx.out.c2
  have hst11 := cell_lt HBx.out.c0
  have HLN := hid (fun W (g : Grew w11 W) => show Calls Tryz.prog 94 #[.pointer (some ⟨tb, 0, none⟩)] W fun e w' => e = .returned (.int .i64 (P.length : Nat)) ∧ Grew W w' from (lenT_any (HTx.out.grew g)).mono fun e w' h => ⟨h.1, h.2 ▸ Grew.refl _⟩)
  have HSCAN := hid (fun W (g : Grew w11 W) => scanT_any hTS E (HE.out.grew (HGx.out.trans g)) (HTx.out.grew g) (by omega) lo hi (P.length : Int) (by omega) (by omega))
  rw [HSC.out] at HSCAN
  refine wp_region_mixS 20 [13, 14] (Grew w11) Grew (JSc w11 P.length) (fun f a => (a.put (some 75) (f 13)).put (some 76) (f 14)) (by kernel_rfl) (by kernel_rfl) (fun _ _ => rfl) ⟨(Grew.refl w11).drew, (fun h => by cases h), (fun h => by cases h), (fun h => by cases h)⟩ (fun _ _ _ h => h.grew) Grew.refl (fun _ _ _ _ h g => ⟨h.grew.trans g, h.ord, h.row, h.len⟩) ?_
  repeat (first
    | (refine mixS_loose (by rfl) (by rfl) ?_)
    | (refine mixS_plain (by rfl) (by rfl) (by rfl) (by first | exact Grew.refl | exact fun _ => rfl) (by rfl) ?_; intro K hK; go_big_quiet_op; go_big_quiet_on)
    | (refine mixS_call (by rfl) (by rfl) (by rfl) (by rfl) (fun _ => by kernel_rfl) (fun u hu => HLN.out u hu) ?_; simp only [Act.put, List.setIfInBounds_toArray, List.set_cons_zero, List.set_cons_succ])
    | (refine mixS_skip (by rfl) (by rfl) (by rfl) ?_; simp only [Act.put, List.setIfInBounds_toArray, List.set_cons_zero, List.set_cons_succ]))
  refine mixS_done (by rfl) ⟨⟨loose_of rfl (fun _ a => a) (fun _ _ => rfl) (fun _ => rfl) ?_, loose_of rfl (fun f a => a.put (some 75) (f 13)) (fun _ _ => rfl) (fun _ => rfl) ?_, trivial⟩, ?_⟩
  · intro L f x hJ hL hd
    have h14 : L 14 = false := bool_no fun h => by rw [hJ.ord h] at hL; cases hL
    have HJ := hid hJ
    have H14 := hid h14
    clear hJ hL hd C0 C1 C2 h14
    go_simp
    refine (HSCAN.out x HJ.out.grew).mono ?_
    rintro e x' ⟨⟨v, rfl, hrow⟩, hg⟩
    obtain ⟨a', c', rfl, _⟩ := pairsAt_of hrow
    refine ⟨_, rfl, HJ.out.grew.trans hg, fun h => plus_on, fun _ => ⟨a', c', updV_same _ _ _⟩, fun h => ?_⟩
    rw [plus_ne (by decide), H14.out] at h; cases h
  · intro L f x hJ hL hd
    have l13 := hd 13 rfl (by decide)
    obtain ⟨a', c', e13⟩ := hJ.row l13
    have HJ := hid hJ
    have HL13 := hid l13
    have HE13 := hid e13
    clear hJ hL hd C0 C1 C2 l13
    rw [e13]
    clear e13
    go_simp
    refine ⟨HJ.out.grew, fun h => plus_up HL13.out, fun _ => ⟨a', c', ?_⟩, fun _ => updV_same _ _ _⟩
    rw [updV_ne (by decide)]; exact HE13.out
  intro f x hJ
  obtain ⟨a', c', e13⟩ := hJ.row rfl
  have e14 := hJ.len rfl
  have HGX := hid hJ.grew
  have HFIN := hid (show StAt x F F2 st (clients S).length lo hi P S ∧ (∀ j, BlS F F2 st j → w.heap.size ≤ j) ∧ Grew w x from by
    have g := hJ.grew
    have hB := HBx.out.grew g
    refine ⟨⟨tb, sb, hB.c0, hB.c1, hB.c2, hB.c3, hB.f0, HTx.out.grew g, HSx.out.grew g, HGD.out.2.1, fun j hj => ⟨fun h2 => by have := HF10.out.2.1 j hj; have := HF10.out.1 j h2; omega, fun e => by have := HF8.out.1 j hj; have := HF8.out.2; omega⟩, fun j hj e => by have := HF10.out.1 j hj; have := HF10.out.2.2; omega⟩, ?_, HGx.out.trans g⟩
    have hn := HNE.out.2.2
    have h7 := HF8.out.2
    rintro j (hj | hj | rfl)
    · have := HF8.out.1 j hj; omega
    · have := HF10.out.1 j hj; have := HF10.out.2.2; omega
    · exact hn)
  clear hJ C0 C1 C2 HSCAN HLN HBx HTx HSx HGx
  dsimp only [List.drop]
  simp only [Act.put, List.setIfInBounds_toArray, List.set_cons_succ, List.set_cons_zero]
  rw [e13, e14]
  clear e13 e14
  go_wp2_with fail
  go_ret2
  exact ⟨st, rfl, F, F2, HFIN.out⟩
end Go.Proofs.YtoiahcgaffffbaaGreatDoor
namespace Go.Proofs.YtoiahcgaffffbaaGreatDoor
open Go.RowKit Go.Maps Go.Sort
attribute [local go_sem] Oper.semAt_some uponV
set_option maxRecDepth 100000 in
set_option maxHeartbeats 8000000 in
theorem made37_any (E : Nat → Addr) {w : World} (hE : Errs stS E w) {lo hi : ByteArray} {C : List (Int × An)} {ac : Option Addr} {cc : Nat} (hC : ClsAt w ac C) (hcr : ClRow C) (v2 v3 : Value) {F : Nat → Prop} {tb : Nat} {P : List Pr} (hT : TabAt w F tb P) (hs : Pl.Srt P) (hg : Pl.Good P) (hin : Pl.InS lo hi P) (hx : P.length ≤ 300) (hl : lo.size ≤ 300) (hh : hi.size ≤ 300) (hr : Pl.rightS lo hi = true) :
    Calls Tryz.prog 79 #[.agg #[.string lo, .string hi, v2, v3, .slice ac C.length cc], .pointer (some ⟨tb, 0, none⟩)] w fun e w' => ∃ st n Ft Fs, e = .returned (.tuple #[.pointer (some ⟨st, 0, none⟩), .nilIface]) ∧ n ≤ 4 ∧ StAt w' Ft Fs st n lo hi P (seenL C) ∧ (∀ j, BlS Ft Fs st j → w.heap.size ≤ j) ∧ Grew w w' := by
  have hok : ∀ c a, seenL C c = some a → 1 ≤ c ∧ c ≤ 4 ∧ a.Ok := by
    intro c a h
    unfold seenL at h
    cases hf : C.find? fun x => decide (x.1 = c) with
    | none => rw [hf] at h; cases h
    | some y =>
      rw [hf] at h
      have h1 := List.mem_of_find?_eq_some hf
      have h2 := List.find?_some hf
      simp only [decide_eq_true_eq] at h2
      have h3 := hcr.ok y h1
      rw [h2] at h3
      cases h
      exact h3
  have htl := Pl.tabB_len hg (by omega)
  have hsl := Pl.seenB_len hok
  have hlen := stB_len hl hh (show (Pl.tabB P).length ≤ 60000 by omega) hsl
  have HT := hid (fun W (g : Grew w W) => bytesT_any (hT.grew g) hg (by omega) (by omega))
  have HRD := hid (fun W (g : Grew w W) a cap (hA : BytesAt W a (stB lo hi P (seenL C))) (hf : SlForm a cap) => readS_any E (hE.grew g) hA hf hl hh hr hs hg hin hx hok)
  have HC := hid hC
  have HCR := hid hcr
  have HC4 := hid (show (clients (seenL C)).length ≤ 4 from clients_len _)
  have HLEN := hid hlen
  have HNL := hid (show (Pl.tabB P).length ≤ 60000 ∧ (seenB (seenL C)).length ≤ 60000 from ⟨by omega, by omega⟩)
  have HEQ : Hid (stB lo hi P (seenL C) = Pl.textB lo ++ Pl.textB hi ++ Pl.textB (strOfNums (Pl.tabB P)) ++ Pl.textB (strOfNums (seenB (seenL C)))) := rfl
  have HSD := hid (show ∀ W (sb n : Nat) (F : Nat → Prop), SeenAt W F sb n (seenL C) → n ≤ 1000000 → _ from fun W sb n F h hn => bytesD_any h hn)
  clear hE hC hT hs hg hin hr hok htl hsl hlen hcr
  generalize stB lo hi P (seenL C) = bs at *
  generalize Pl.tabB P = ns at *
  generalize seenB (seenL C) = ms at *
  go_enter Tryz.func79, Tryz.ntmps79
  go_wp2_with fail
  obtain ⟨Y, hY⟩ : ∃ Y, Y = w.alloc (.cells #[.string lo, .string hi, v2, v3, .slice ac C.length cc] 36) := ⟨_, rfl⟩
  have gY : Grew w Y := by rw [hY]; exact (Grew.refl w).alloc _
  have HD := hid (show Y.cell? ⟨w.heap.size, 0, none⟩ = some (.string lo) ∧ Y.cell? ⟨w.heap.size, 1, none⟩ = some (.string hi) ∧ w.heap.size < Y.heap.size from by rw [hY]; exact ⟨by simp [go_sem], by simp [go_sem], by simp⟩)
  have HGY := hid gY
  rw [← hY]
  obtain ⟨dx, hdx⟩ : ∃ dx, dx = w.heap.size := ⟨_, rfl⟩
  rw [← hdx] at HD ⊢
  clear hY gY hdx
  refine (seen37_any (HC.out.grew HGY.out) HCR.out _ _ _ _).mono ?_
  rintro e w1 ⟨sb, F1, rfl, hS1, hF1, hg1⟩
  have HS1 := hid hS1
  have HG1 := hid (HGY.out.trans hg1)
  have HC4' := hid (clRow_len HCR.out)
  have HGD1 := hid hg1
  clear hS1 hF1 hg1
  go_wp2_with fail
  refine (HT.out w1 HG1.out).mono ?_
  rintro e w2 ⟨a1, c1, rfl, hr1, hg2⟩
  obtain ⟨a1', c1', e1, hA1, hf1, _⟩ := bytesAt_of hr1
  cases e1
  have HA1 := hid (And.intro hA1 hf1)
  have HG2 := hid (HG1.out.trans hg2)
  have HGD2 := hid (HGD1.out.trans hg2)
  have HS2 := hid (HS1.out.grew hg2)
  clear hr1 hA1 hf1 hg2
  go_wp2_with fail
  refine (HSD.out w2 sb _ F1 HS2.out (by have := HC4'.out; omega)).mono ?_
  rintro e w3 ⟨a2, c2, rfl, hr2, hg3⟩
  obtain ⟨a2', c2', e2, hA2, hf2, _⟩ := bytesAt_of hr2
  cases e2
  have HA2 := hid (And.intro hA2 hf2)
  have HG3 := hid (HG2.out.trans hg3)
  have HGD3 := hid (HGD2.out.trans hg3)
  have HA12 := hid (HA1.out.1.grew hg3)
  clear hr2 hA2 hf2 hg3
  go_upto_region 11 with fail
  obtain ⟨ob, hob⟩ : ∃ ob, ob = w3.heap.size := ⟨_, rfl⟩
  obtain ⟨Z, hZ⟩ : ∃ Z, Z = w3.alloc (.cells #[.slice none 0 0, .nilIface] 151) := ⟨_, rfl⟩
  have hOZ : OutAt Z (fun j => j = ob) ob [] := by rw [hZ, hob]; exact OutAt.new w3 _
  have gZ : Grew w3 Z := by rw [hZ]; exact (Grew.refl w3).alloc _
  have HGZ := hid (HG3.out.trans gZ)
  have hDZ := HGD3.out.trans gZ
  have d0 := (hDZ.cells.1 _ 0 HD.out.2.2).trans HD.out.1
  have d1 := (hDZ.cells.1 _ 1 HD.out.2.2).trans HD.out.2.1
  have hdl := Nat.lt_of_lt_of_le HD.out.2.2 hDZ.size
  have K1 := hid (run_conv_bytes (w := Z) (a := a1) (n := ns.length) (cap := c1) (ns := ns) rfl (HA12.out.grew gZ) HA1.out.2)
  have K2 := hid (run_conv_bytes (w := Z) (a := a2) (n := ms.length) (cap := c2) (ns := ms) rfl (HA2.out.1.grew gZ) HA2.out.2)
  have hobZ : ob < Z.heap.size := by rw [hZ, hob]; simp
  have HOZ := hid hOZ
  have HOB := hid (show w.heap.size ≤ ob from by rw [hob]; exact HG3.out.size)
  have HSN := hid (strOfNums_size ns)
  have HSM := hid (strOfNums_size ms)
  rw [← hZ, ← hob]
  clear hZ hob hOZ gZ hDZ
  generalize strOfNums ns = t2 at *
  generalize strOfNums ms = t3 at *
  go_wp2_with (first | refine wpList_convert_run rfl _ rfl rfl K1.out ?_ | refine wpList_convert_run rfl _ rfl rfl K2.out ?_)
  obtain ⟨x, hxx⟩ : ∃ x, x = Z.alloc (.cells #[.string lo, .string hi, .string t2, .string t3] 9) := ⟨_, rfl⟩
  obtain ⟨b, hbb⟩ : ∃ b, b = Z.heap.size := ⟨_, rfl⟩
  have gx : Grew Z x := by rw [hxx]; exact (Grew.refl Z).alloc _
  have HBB := hid (show b ≠ ob ∧ b < x.heap.size from ⟨by omega, by rw [hxx, hbb]; simp⟩)
  obtain ⟨ts, hts⟩ : ∃ ts : List ByteArray, ts = [lo, hi, t2, t3] := ⟨_, rfl⟩
  have HSL := hid (fun (j : Nat) (hj : j < 4) => show ∃ u, ts[j]? = some u ∧ x.cell? ⟨b, j, none⟩ = some (.string u) ∧ u.size ≤ 60000 from by
    rw [hts, hxx, hbb]
    have e2 := HSN.out
    have e3 := HSM.out
    have hl2 := HNL.out
    match j, hj with
    | 0, _ => exact ⟨lo, rfl, by simp [go_sem], by omega⟩
    | 1, _ => exact ⟨hi, rfl, by simp [go_sem], by omega⟩
    | 2, _ => exact ⟨t2, rfl, by simp [go_sem], by omega⟩
    | 3, _ => exact ⟨t3, rfl, by simp [go_sem], by omega⟩)
  have HLT := hid (fun (j : Nat) (hj : j ≤ 4) => show ((ts.take j).flatMap Pl.textB).length ≤ 65000 from by
    have h4 : bs = ts.flatMap Pl.textB := by rw [HEQ.out, hts]; simp [List.append_assoc]
    have h5 : (ts.take j).flatMap Pl.textB ++ (ts.drop j).flatMap Pl.textB = bs := by rw [h4, ← List.flatMap_append, List.take_append_drop]
    have h6 := congrArg List.length h5
    rw [List.length_append] at h6
    have := HLEN.out
    omega)
  have HBS : Hid ((ts.take 4).flatMap Pl.textB = bs) := by
    unfold Hid
    rw [HEQ.out, hts]
    simp [List.append_assoc]
  have HOX := hid (HOZ.out.grew gx)
  have HGX := hid (HGZ.out.trans gx)
  have hobx := Nat.lt_of_lt_of_le hobZ gx.size
  rw [← hxx, ← hbb]
  clear hxx hbb gx hts d0 d1 hdl K1 K2 HA1 HA2 HA12 HS1 HS2 HGD1 HGD2 HGD3 HG1 HG2 HG3 HGZ HOZ
  go_loopw [12, 52] (fun u i wr => ∃ j : Nat, j ≤ 4 ∧ i = .int .i64 j ∧ Hid (OutTurn x (fun j => j = ob) ob ((ts.take j).flatMap Pl.textB) wr)) (fun _ i _ => 4 - (intOf i).toNat)
  case atStart => exact ⟨0, by omega, rfl, by unfold Hid; simpa using OutTurn.refl HOX.out⟩
  case round =>
    obtain ⟨j, hj, rfl, HT2⟩ := hrel
    obtain ⟨gO, G1, hO, hG1⟩ := HT2.out
    have HOA := hid hO
    have HGO := hid gO
    have HGG := hid hG1
    clear hO gO hG1
    by_cases hlt4 : j < 4
    · obtain ⟨u, hu1, hu2, hu3⟩ := HSL.out j hlt4
      have hc := (HGO.out.cell HBB.out.2 HBB.out.1 j).trans hu2
      have hcl : b < wr.heap.size := cell_lt hc
      have hlen2 := HLT.out j hj
      have htk : (ts.take (j + 1)).flatMap Pl.textB = (ts.take j).flatMap Pl.textB ++ Pl.textB u := by
        obtain ⟨hjl, hju⟩ := List.getElem?_eq_some_iff.1 hu1
        rw [List.take_succ_eq_append_getElem hjl, List.flatMap_append, hju]
        simp
      have HTK := hid htk
      have HN := hid (outText_any HOA.out u (by omega) (by omega))
      clear hu1 hu2 htk hlen2
      go_wp2_with fail
      refine HN.out.mono ?_
      rintro e w5 ⟨rfl, hT⟩
      have HT5 := hid (OutTurn.step HGO.out HGG.out hT)
      clear hT hc
      go_wp2_with fail
      go_roundw
      case rel => exact ⟨j + 1, by omega, by go_num, by unfold Hid; rw [HTK.out]; exact HT5.out⟩
      case measure => simp [intOf]; omega
    · have hj4 : j = 4 := by omega
      subst hj4
      rw [HBS.out] at HOA
      have HDN := hid (outDone_any HOA.out (by have := HLEN.out; omega))
      have hGr : Grew w wr := ((HGX.out.only (fun j => j = ob)).then HGO.out).grew (fun j (hj : j = ob) => by rw [hj]; exact HOB.out)
      have HGR := hid hGr
      clear hGr
      go_wp2_with fail
      refine HDN.out.mono ?_
      rintro e w5 ⟨a5, c5, rfl, hr5, hg5⟩
      obtain ⟨a5', c5', e5, hA5, hf5, _⟩ := bytesAt_of hr5
      cases e5
      have HG5 := hid (HGR.out.trans hg5)
      have HRS := hid (HRD.out w5 HG5.out a5 c5 hA5 hf5)
      clear hr5 hA5 hf5 hg5
      go_wp2_with fail
      refine HRS.out.mono ?_
      rintro e w6 ⟨st, Ft, Fs, rfl, hS6, hB6, hg6⟩
      have HF := hid (show (∃ n Ft Fs, n ≤ 4 ∧ StAt w6 Ft Fs st n lo hi P (seenL C) ∧ (∀ j, BlS Ft Fs st j → w.heap.size ≤ j)) ∧ Grew w w6 from ⟨⟨_, Ft, Fs, HC4.out, hS6, fun j hj => Nat.le_trans HG5.out.size (hB6 j hj)⟩, HG5.out.trans hg6⟩)
      clear hS6 hB6 hg6 HRS
      go_wp2_with fail
      go_ret2
      obtain ⟨⟨n, Ft, Fs, h1, h2, h3⟩, h4⟩ := HF.out
      exact ⟨st, n, Ft, Fs, rfl, h1, h2, h3, h4⟩
end Go.Proofs.YtoiahcgaffffbaaGreatDoor
namespace Go.Proofs.YtoiahcgaffffbaaGreatDoor
open Go.RowKit Go.Maps
attribute [local go_sem] Oper.semAt_some uponV
set_option maxRecDepth 100000 in
set_option maxHeartbeats 2000000 in
theorem lastD_any {w : World} {F : Nat → Prop} {sb n : Nat} {S : Int → Option An} (h : SeenAt w F sb n S) (c : Int) (h1 : -9223372036854775808 ≤ c) (h2 : c < 9223372036854775808) :
    Calls Tryz.prog 130 #[.pointer (some ⟨sb, 0, none⟩), .int .i64 c] w fun e w' => e = .returned (.tuple #[.int .i64 (seqO (S c)), ansAgg (codeO (S c)) (atO (S c)), .bool (S c).isSome]) ∧ Grew w w' := by
  obtain ⟨mb, f, h⟩ := h
  have c0 := h.c0
  have hsb : sb < w.heap.size := cell_lt c0
  have hlk := h.look ((Grew.refl w).alloc (.cells #[.int .i64 0, .int .i64 0] 127)) c h1 h2
  clear h
  have hv : ((S c).map An.agg).getD (.agg #[.int .i64 0, .int .i64 0, .int .i64 0]) = .agg #[.int .i64 (seqO (S c)), .int .i64 (codeO (S c)), .int .i64 (atO (S c))] := by
    cases S c <;> rfl
  rw [hv] at hlk
  clear hv
  have HG := hid (fun (a b x y z : Int) => show Grew w ((w.alloc (.cells #[.int .i64 a, .int .i64 b] 127)).alloc (.cells #[.int .i64 x, .int .i64 y, .int .i64 z] 253)) from ((Grew.refl w).alloc _).alloc _)
  generalize (S c).isSome = is at *
  generalize seqO (S c) = q at *
  generalize codeO (S c) = k at *
  generalize atO (S c) = t at *
  unfold ansAgg
  go_enter Tryz.func130, Tryz.ntmps130
  go_wp2_with fail
  go_region
  go_wp2_with fail
  exact bodyPost_ret (v := .tuple #[.int .i64 q, .agg #[.int .i64 k, .int .i64 t], .bool is]) (by simp [results, Tryz.results130, go_sem]) rfl ⟨rfl, (HG.out _ _ _ _ _).drew⟩
set_option maxRecDepth 100000 in
set_option maxHeartbeats 2000000 in
theorem lastS_any {w : World} {Ft Fs : Nat → Prop} {st n : Nat} {lo hi : ByteArray} {P : List Pr} {S : Int → Option An} (h : StAt w Ft Fs st n lo hi P S) (c : Int) (h1 : -9223372036854775808 ≤ c) (h2 : c < 9223372036854775808) :
    Calls Tryz.prog 61 #[.pointer (some ⟨st, 0, none⟩), .int .i64 c] w fun e w' => e = .returned (.tuple #[.int .i64 (seqO (S c)), ansAgg (codeO (S c)) (atO (S c)), .bool (S c).isSome]) ∧ Grew w w' := by
  obtain ⟨tb, sb, h⟩ := h
  have HL := hid (fun W (g : Grew w W) => lastD_any (h.seen.grew g) c h1 h2)
  have c3 := h.c3
  have hst := cell_lt c3
  clear h
  generalize (S c).isSome = is at *
  generalize seqO (S c) = q at *
  generalize codeO (S c) = k at *
  generalize atO (S c) = t at *
  unfold ansAgg at *
  go_enter Tryz.func61, Tryz.ntmps61
  go_wp2_with fail
  refine (HL.out _ ((Grew.refl w).alloc _)).mono ?_
  rintro e w1 ⟨rfl, hg1⟩
  have HG := hid (show Grew w w1 from ((Grew.refl w).alloc _).trans hg1)
  have f0 : w1.frozen? ⟨w.heap.size, 0, none⟩ = false := (hg1.cells.2 _ _ (by simp)).trans (by simp [go_sem])
  have f1 : w1.frozen? ⟨w.heap.size, 1, none⟩ = false := (hg1.cells.2 _ _ (by simp)).trans (by simp [go_sem])
  have d0 : w1.cell? ⟨w.heap.size, 0, none⟩ = some (.int .i64 0) := (hg1.cells.1 _ _ (by simp)).trans (by simp [go_sem])
  have d1 : w1.cell? ⟨w.heap.size, 1, none⟩ = some (.int .i64 0) := (hg1.cells.1 _ _ (by simp)).trans (by simp [go_sem])
  have hz : w.heap.size < w1.heap.size := Nat.lt_of_lt_of_le (by simp) hg1.size
  clear hg1 HL c3 hst
  go_wp2_with fail
  refine bodyPost_ret (v := .tuple #[.int .i64 q, .agg #[.int .i64 k, .int .i64 t], .bool is]) (by simp [results, Tryz.results61, go_sem, d0, d1, f0, f1]) rfl ⟨rfl, ?_⟩
  exact (HG.out.setCell (show w.heap.size ≤ w.heap.size by omega) _).setCell (show w.heap.size ≤ w.heap.size by omega) _
set_option maxRecDepth 100000 in
set_option maxHeartbeats 2000000 in
theorem spanS_any {w : World} {Ft Fs : Nat → Prop} {st n : Nat} {lo hi : ByteArray} {P : List Pr} {S : Int → Option An} (h : StAt w Ft Fs st n lo hi P S) :
    Calls Tryz.prog 59 #[.pointer (some ⟨st, 0, none⟩)] w fun e w' => e = .returned (.agg #[.string lo, .string hi]) ∧ Grew w w' := by
  obtain ⟨tb, sb, h⟩ := h
  have c1 := h.c1
  have c2 := h.c2
  have hst := cell_lt c1
  have HG := hid (fun (a b : ByteArray) => show Grew w (w.alloc (.cells #[.string a, .string b] 23)) from (Grew.refl w).alloc _)
  clear h
  go_enter Tryz.func59, Tryz.ntmps59
  go_wp2_with fail
  exact bodyPost_ret (v := .agg #[.string lo, .string hi]) (by simp [results, Tryz.results59, go_sem]) rfl ⟨rfl, HG.out _ _⟩
set_option maxRecDepth 100000 in
set_option maxHeartbeats 2000000 in
theorem allD_any (E : Nat → Addr) {w : World} (hE : Errs stS E w) {Ft Fs : Nat → Prop} {st n : Nat} {lo hi : ByteArray} {P : List Pr} {S : Int → Option An} (h : StAt w Ft Fs st n lo hi P S) (hin : Pl.InS lo hi P) (hx : P.length ≤ 1000) (hl : lo.size ≤ 300) (hh : hi.size ≤ 300) :
    Calls Tryz.prog 60 #[.pointer (some ⟨st, 0, none⟩)] w fun e w' => (∃ v, e = .returned v ∧ w'.ownsRow w.heap.size 83 3 v P.length (prFlat P)) ∧ Grew w w' := by
  have HSP := hid (fun W (g : Grew w W) => spanS_any (h.grew g))
  obtain ⟨tb, sb, h⟩ := h
  have HSC := hid (fun W (g : Grew w W) => scanT_any (show TabS stS from ⟨rfl, rfl, rfl, rfl, rfl⟩) E (hE.grew g) (h.tab.grew g) (by omega) lo hi 65536 (by omega) (by omega))
  rw [scan_inS hin 65536 (by omega)] at HSC
  have C0 := wd_cell h.c0
  have hst := cell_lt h.c0
  clear h hE hin
  go_enter Tryz.func60, Tryz.ntmps60
  go_wp2_with fail
  refine wp_region_still 6 (by kernel_rfl) (by kernel_rfl) (fun _ _ => rfl) ?_
  repeat (first
    | (refine mixS_plain (by rfl) (by rfl) (by rfl) (by first | exact Grew.refl | exact fun _ => rfl) (by rfl) ?_; intro K hK; go_big_quiet_op; go_big_quiet_on)
    | (refine mixS_call (by rfl) (by rfl) (by rfl) (by rfl) (fun _ => by kernel_rfl) (fun u hu => HSP.out u hu) ?_; simp only [Act.put, List.setIfInBounds_toArray, List.set_cons_zero, List.set_cons_succ])
    | (refine mixS_skip (by rfl) (by rfl) (by rfl) ?_; simp only [Act.put, List.setIfInBounds_toArray, List.set_cons_zero, List.set_cons_succ]))
  refine mixS_done (by rfl) ?_
  intro x hG
  have HG := hid hG
  clear C0 hG HSP
  dsimp only [List.drop]
  go_wp2_with fail
  refine (HSC.out x HG.out).mono ?_
  rintro e x' ⟨⟨v, rfl, hrow⟩, hg⟩
  have HR := hid (ownsRow_base HG.out.size hrow)
  clear hrow
  go_wp2_with fail
  go_ret
  exact ⟨⟨v, rfl, HR.out⟩, HG.out.trans hg⟩
end Go.Proofs.YtoiahcgaffffbaaGreatDoor
