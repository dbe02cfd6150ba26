/- The walks of delta.right and what it asks; slices.Contains at texts. -/
import Derived.Test.YtoiahcgaffffbaaGreatDoorFinDeltaBetweenQ33
set_option linter.unusedVariables false
set_option linter.unusedSectionVars false
set_option linter.unusedSimpArgs false
namespace Go.Proofs.YtoiahcgaffffbaaGreatDoor
open Go.RowKit Go.Maps Go.Sort
attribute [local go_sem] Oper.semAt_some uponV
set_option maxRecDepth 100000 in
set_option maxHeartbeats 2000000 in
theorem index_str {w : World} {a : Option Addr} {cap : Nat} {K : List ByteArray} (hA : StrsAt w a K) (hx : K.length ≤ 1000000) (key : ByteArray) :
    Calls Tryz.prog 142 #[.slice a K.length cap, .string key] w fun e w' => e = .returned (.int .i64 (idxI (fun k => decide (k = key)) K)) ∧ Grew w w' := by
  have HA := hid hA
  obtain ⟨p, hp⟩ : ∃ p : ByteArray → Bool, p = fun k => decide (k = key) := ⟨_, rfl⟩
  have HP := hid (show ∀ k, p k = decide (k = key) from fun k => by rw [hp])
  rw [← hp]
  clear hA hp
  go_enter Tryz.func142, Tryz.ntmps142
  go_wp2_with fail
  go_loopw [8] (fun i wr => ∃ k : Nat, k ≤ K.length ∧ i = .int .i64 k ∧ Hid ((K.take k).all (fun c => !p c) = true) ∧ Grew w wr) (fun i _ => K.length - (intOf i).toNat)
  case atStart => exact ⟨0, Nat.zero_le _, rfl, rfl, Grew.refl w⟩
  case round =>
    obtain ⟨k, hk1, rfl, HN, hG⟩ := hrel
    by_cases hlt : k < K.length
    · rcases HA.out with h0 | ⟨b, off, rfl, hb, hR⟩
      · rw [h0] at hlt; simp at hlt
      have q0 := (hG.cells.1 b (off + k) hb).trans (hR k _ (List.getElem?_eq_getElem hlt))
      have hbr := Nat.lt_of_lt_of_le hb hG.size
      have hk9 : k < 1000000 := by omega
      clear hR
      have HS := hid (idx_some p K k hlt HN.out)
      have HN2 := hid (idx_next p K k hlt HN.out)
      generalize K[k] = c at *
      by_cases he : key.toList = c.toList
      · have hpc : p c = true := by rw [HP.out, decide_eq_true (toList_inj21 he.symm)]
        have HS2 := hid (HS.out hpc)
        have hb1 : (key.toList == c.toList) = true := by rw [he]; simp
        clear hpc HS HN2 he
        go_wp2_with fail
        go_ret
        exact ⟨ret_int HS2.out.symm, hG⟩
      · have hpc : p c = false := by rw [HP.out, decide_eq_false (fun e => he (by rw [e]))]
        have HS2 := hid (HN2.out hpc)
        have hb1 : (key.toList == c.toList) = false := beq_eq_false_iff_ne.2 he
        clear hpc HS HN2 he
        go_wp2_with fail
        go_roundw
        case rel => exact ⟨k + 1, by omega, by go_num, HS2, hG⟩
        case measure => simp [intOf]; omega
    · obtain rfl : k = K.length := by omega
      have HE := hid (idx_none p K (by have := HN.out; rwa [List.take_length] at this))
      go_wp2_with fail
      go_ret
      exact ⟨ret_int HE.out.symm, hG⟩
set_option maxHeartbeats 1000000 in
theorem contains_str {w : World} {a : Option Addr} {cap : Nat} {K : List ByteArray} (hA : StrsAt w a K) (hx : K.length ≤ 1000000) (key : ByteArray) :
    Calls Tryz.prog 77 #[.slice a K.length cap, .string key] w fun e w' => e = .returned (.bool (K.any fun k => decide (k = key))) ∧ Grew w w' := by
  have HI := hid (index_str (cap := cap) hA hx key)
  have HG := hid (idx_ge (fun k => decide (k = key)) K)
  clear hA
  generalize idxI (fun k => decide (k = key)) K = n at *
  go_enter Tryz.func77, Tryz.ntmps77
  go_wp2_with fail
  refine HI.out.mono ?_
  rintro e w1 ⟨rfl, hg⟩
  go_wp2_with fail
  go_ret
  exact ⟨ret_bool HG.out, hg⟩
set_option maxRecDepth 100000 in
set_option maxHeartbeats 1000000 in
theorem right2_any (E : Nat → Addr) {w : World} (hE : Errs stS E w) (key : ByteArray) (hz : key.size ≤ 140737488351232) (hk : Pl.keyN key = 0) :
    Calls Tryz.prog 134 #[.string key] w fun e w' => e = .returned (.bool false) ∧ Grew w w' := by
  have HK := hid (key_any stS E rfl rfl rfl rfl key w hz hE)
  rw [hk] at HK
  clear hE
  go_enter Tryz.func134, Tryz.ntmps134
  go_wp2_with fail
  refine HK.out.mono ?_
  rintro e w1 ⟨rfl, hg⟩
  rw [errOf_zero]
  go_wp2_with fail
  go_ret
  exact ⟨rfl, hg⟩
set_option maxRecDepth 100000 in
set_option maxHeartbeats 4000000 in
theorem idxRight2 (E : Nat → Addr) {w : World} (hE : Errs stS E w) {a : Option Addr} {cap : Nat} {K : List ByteArray} (hA : StrsAt w a K) (hx : K.length ≤ 1000000) (hk : ∀ k ∈ K, k.size ≤ 140737488351232 ∧ Pl.keyN k = 0) :
    Calls Tryz.prog 186 #[.slice a K.length cap, .func (.func 134) #[] #[]] w fun e w' => e = .returned (.int .i64 (-1)) ∧ Grew w w' := by
  have HA := hid hA
  have HP := hid (fun W (g : Grew w W) k (hm : k ∈ K) => right2_any E (hE.grew g) k (hk k hm).1 (hk k hm).2)
  clear hA hE hk
  go_enter Tryz.func186, Tryz.ntmps186
  go_wp2_with fail
  go_loopw [8] (fun i wr => ∃ k : Nat, k ≤ K.length ∧ i = .int .i64 k ∧ Grew w wr) (fun i _ => K.length - (intOf i).toNat)
  case atStart => exact ⟨0, Nat.zero_le _, rfl, Grew.refl w⟩
  case round =>
    obtain ⟨k, hk1, rfl, hG⟩ := hrel
    by_cases hlt : k < K.length
    · rcases HA.out with h0 | ⟨b, off, rfl, hb, hR⟩
      · rw [h0] at hlt; simp at hlt
      have q0 := (hG.cells.1 b (off + k) hb).trans (hR k _ (List.getElem?_eq_getElem hlt))
      have HC := hid (fun W g => HP.out W g K[k] (List.getElem_mem hlt))
      have hk9 : k < 1000000 := by omega
      clear hR
      generalize K[k] = c at *
      go_wp2_with fail
      refine (HC.out _ hG).mono ?_
      rintro e w1 ⟨rfl, hg1⟩
      go_wp2_with fail
      go_roundw
      case rel => exact ⟨k + 1, by omega, by go_num, hG.trans hg1⟩
      case measure => simp [intOf]; omega
    · obtain rfl : k = K.length := by omega
      go_wp2_with fail
      go_ret
      exact ⟨rfl, hG⟩
set_option maxHeartbeats 1000000 in
theorem anyRight2 (E : Nat → Addr) {w : World} (hE : Errs stS E w) {a : Option Addr} {cap : Nat} {K : List ByteArray} (hA : StrsAt w a K) (hx : K.length ≤ 1000000) (hk : ∀ k ∈ K, k.size ≤ 140737488351232 ∧ Pl.keyN k = 0) :
    Calls Tryz.prog 120 #[.slice a K.length cap, .func (.func 134) #[] #[]] w fun e w' => e = .returned (.bool false) ∧ Grew w w' := by
  have HI := hid (idxRight2 E (cap := cap) hE hA hx hk)
  clear hA hE
  go_enter Tryz.func120, Tryz.ntmps120
  go_wp2_with fail
  refine HI.out.mono ?_
  rintro e w1 ⟨rfl, hg⟩
  go_wp2_with fail
  go_ret
  exact ⟨rfl, hg⟩
structure BxR (W : World) (tx dx tb : Nat) (lo hi : ByteArray) : Prop where
  t0 : W.cell? ⟨tx, 0, none⟩ = some (.pointer (some ⟨tb, 0, none⟩))
  d0 : W.cell? ⟨dx, 0, none⟩ = some (.string lo)
  d1 : W.cell? ⟨dx, 1, none⟩ = some (.string hi)
theorem BxR.kept {W W' : World} {T : Nat → Prop} {tx dx tb : Nat} {lo hi : ByteArray} (h : BxR W tx dx tb lo hi) (g : Only T W W') (h1 : ¬ T tx) (h2 : ¬ T dx) : BxR W' tx dx tb lo hi :=
  ⟨(g.cell (cell_lt h.t0) h1 0).trans h.t0, (g.cell (cell_lt h.d0) h2 0).trans h.d0, (g.cell (cell_lt h.d0) h2 1).trans h.d1⟩
set_option maxRecDepth 100000 in
set_option maxHeartbeats 2000000 in
theorem right1_any (E : Nat → Addr) {w : World} (hE : Errs stS E w) {F : Nat → Prop} {tx dx tb : Nat} {lo hi : ByteArray} {T : List Pr} (hB : BxR w tx dx tb lo hi) (hF : ¬ F tx ∧ ¬ F dx) (hT : TabAt w F tb T) (hx : T.length ≤ 1000) (p : Pr) (hp : Pl.putN p = 0) (hh : Pl.hasS lo hi p.key = true) (hz : p.key.size ≤ 96 ∧ p.val.size ≤ 64) (hl : lo.size ≤ 300) (hhi : hi.size ≤ 300) (w0 : World) (g0 : Grew w0 w) (hF0 : ∀ j, F j → w0.heap.size ≤ j) (hE0 : Errs stS E w0) :
    Calls Tryz.prog 133 #[p.agg, .pointer (some ⟨tx, 0, none⟩), .pointer (some ⟨dx, 0, none⟩)] w fun e w' => e = .returned (.bool false) ∧ TabTurn w F tb (Pl.putT T p) w' := by
  have HPUT := hid (fun W (g : Grew w W) => putT_any (show TabS stS from ⟨rfl, rfl, rfl, rfl, rfl⟩) E (hE.grew g) (hT.grew g) (by omega) p.key p.val p.ver (by omega) (by omega))
  obtain ⟨pk, pv, pn⟩ := p
  dsimp only at *
  rw [hp] at HPUT
  have HHAS := hid (fun W (g : Grew w0 W) => has_span stS E ⟨rfl, rfl, rfl, rfl⟩ lo hi pk W (by omega) (by omega) (by omega) (hE0.grew g))
  rw [hh] at HHAS
  have HBX := hid hB
  have HFF := hid hF
  have HF0 := hid hF0
  have HG0 := hid g0
  have HFL := hid (show ∀ j, F j → j < w.heap.size from fun j hj => tabAt_lt hT j hj)
  have t0 := hB.t0
  have ht0 := cell_lt t0
  clear hB hF hT hE hE0 hp hh hF0 g0
  unfold Pr.agg
  dsimp only
  go_enter Tryz.func133, Tryz.ntmps133
  go_wp2_with fail
  obtain ⟨Y, hY⟩ : ∃ Y, Y = w.alloc (.cells #[.string pk, .string pv, .int .i64 pn] 83) := ⟨_, rfl⟩
  have gY : Grew w Y := by rw [hY]; exact (Grew.refl w).alloc _
  have y0 : Y.cell? ⟨w.heap.size, 0, none⟩ = some (.string pk) := by rw [hY]; simp [go_sem]
  have hys : w.heap.size < Y.heap.size := by rw [hY]; simp
  rw [← hY]
  have HGY := hid gY
  have HBY := hid (HBX.out.kept (gY.only fun _ => False) (fun h => h) (fun h => h))
  clear hY gY t0 ht0
  refine (HPUT.out Y HGY.out).mono ?_
  rintro e w2 ⟨rfl, hT2⟩
  have HT2 := hid (hT2.pre HGY.out)
  have HB2 := hid (HBY.out.kept hT2.1 HFF.out.1 HFF.out.2)
  have HG2 := hid (((HG0.out.trans HGY.out).only _ |>.then hT2.1).grew HF0.out)
  have y0 := (hT2.1.cell hys (fun h => by have := HFL.out _ h; omega) 0).trans y0
  have hys := Nat.lt_of_lt_of_le hys hT2.1.size
  have d0 := HB2.out.d0
  have d1 := HB2.out.d1
  have hd := cell_lt d0
  have HHX := hid (HHAS.out w2 HG2.out)
  rw [errOf_zero]
  clear hT2 HPUT HHAS HBX HBY HGY HG0
  go_wp2_with fail
  refine HHX.out.mono ?_
  rintro e w3 ⟨rfl, hg3⟩
  have HT3 := hid (show TabTurn w F tb (Pl.putT T ⟨pk, pv, pn⟩) w3 from by
    obtain ⟨h1, F', h2, h3⟩ := HT2.out
    exact ⟨h1.grewT hg3, F', h2.grew hg3, h3⟩)
  clear hg3 HHX y0 d0 d1 hd hys
  go_wp2_with fail
  go_ret
  exact ⟨rfl, HT3.out⟩
structure RkR (w0 W : World) (tx dx tb : Nat) (lo hi : ByteArray) (T : List Pr) : Prop where
  grew : Grew w0 W
  box : BxR W tx dx tb lo hi
  tab : ∃ F, TabAt W F tb T ∧ (¬ F tx ∧ ¬ F dx) ∧ ∀ j, F j → w0.heap.size ≤ j
theorem RkR.more {w0 W W' : World} {tx dx tb : Nat} {lo hi : ByteArray} {T : List Pr} (h : RkR w0 W tx dx tb lo hi T) (g : Grew W W') : RkR w0 W' tx dx tb lo hi T := by
  obtain ⟨F, h1, h2, h3⟩ := h.tab
  exact ⟨h.grew.trans g, h.box.kept (g.only fun _ => False) (fun h => h) (fun h => h), F, h1.grew g, h2, h3⟩
theorem RkR.step {w0 W W' : World} {tx dx tb : Nat} {lo hi : ByteArray} {T T' : List Pr} (h : RkR w0 W tx dx tb lo hi T) {F : Nat → Prop} (h2 : ¬ F tx ∧ ¬ F dx) (h3 : ∀ j, F j → w0.heap.size ≤ j) (t : TabTurn W F tb T' W') : RkR w0 W' tx dx tb lo hi T' := by
  obtain ⟨t1, F', t2, t3⟩ := t
  have l1 : tx < W.heap.size := cell_lt h.box.t0
  have l2 : dx < W.heap.size := cell_lt h.box.d0
  refine ⟨((h.grew.only F).then t1).grew h3, h.box.kept t1 h2.1 h2.2, F', t2, ⟨fun q => ?_, fun q => ?_⟩, fun j hj => ?_⟩
  · rcases t3 _ q with q | q
    · exact h2.1 q
    · omega
  · rcases t3 _ q with q | q
    · exact h2.2 q
    · omega
  · rcases t3 j hj with q | q
    · exact h3 j q
    · exact Nat.le_trans h.grew.size q
set_option maxRecDepth 100000 in
set_option maxHeartbeats 4000000 in
theorem idxRight1 (E : Nat → Addr) {w0 w : World} (hE : Errs stS E w0) {tx dx tb : Nat} {lo hi : ByteArray} {a : Option Addr} {cap : Nat} {A : List Pr} (h : RkR w0 w tx dx tb lo hi []) (hA : PairsAt w0 a A) (hs : Pl.Srt A) (hg : Pl.Good A) (hin : Pl.InS lo hi A) (hx : A.length ≤ 1000) (hl : lo.size ≤ 300) (hhi : hi.size ≤ 300) :
    Calls Tryz.prog 192 #[.slice a A.length cap, .func (.func 133) #[] #[.pointer (some ⟨tx, 0, none⟩), .pointer (some ⟨dx, 0, none⟩)]] w fun e w' => e = .returned (.int .i64 (-1)) ∧ RkR w0 w' tx dx tb lo hi A := by
  have HA := hid hA
  have HR := hid h
  have HE := hid hE
  have HS := hid (And.intro hs (And.intro hg hin))
  clear hA h hE hs hg hin
  go_enter Tryz.func192, Tryz.ntmps192
  go_wp2_with fail
  go_loopw [8] (fun i wr => ∃ k : Nat, k ≤ A.length ∧ i = .int .i64 k ∧ Hid (RkR w0 wr tx dx tb lo hi (A.take k))) (fun i _ => A.length - (intOf i).toNat)
  case atStart => exact ⟨0, Nat.zero_le _, rfl, HR.out⟩
  case round =>
    obtain ⟨k, hk1, rfl, HRk⟩ := hrel
    by_cases hlt : k < A.length
    · rcases HA.out with h0 | ⟨b, off, rfl, hb, hR⟩
      · rw [h0] at hlt; simp at hlt
      have hG := HRk.out.grew
      have q0 := (hG.cells.1 b (off + k * 3) hb).trans (hR.key k hlt)
      have q1 := (hG.cells.1 b (off + k * 3 + 1) hb).trans (hR.val k hlt)
      have q2 := (hG.cells.1 b (off + k * 3 + 2) hb).trans (hR.ver k hlt)
      have hbr := Nat.lt_of_lt_of_le hb hG.size
      obtain ⟨x1, x2, x3⟩ := Pl.srt_next HS.out.1 HS.out.2.1 k hlt
      have hm := Pl.prAt_mem A k hlt
      have hz := Pl.key_sizes HS.out.2.1 _ hm
      obtain ⟨F, hT, hF, hF0⟩ := HRk.out.tab
      have HC := hid (right1_any E (HE.out.grew hG) HRk.out.box hF hT (by rw [List.length_take]; omega) (prAt A k) x2 (HS.out.2.2 _ hm) ⟨hz.1, hz.2.1⟩ hl hhi w0 hG hF0 HE.out)
      rw [x1] at HC
      have HST := hid (fun W' (t : TabTurn wr F tb (A.take (k + 1)) W') => HRk.out.step hF hF0 t)
      have hk9 : k < 1000000 := by omega
      clear hR hG x1 x2 x3 hm hz hT hF hF0
      generalize prAt A k = c at *
      obtain ⟨ck, cv, cn⟩ := c
      unfold Pr.agg at HC
      dsimp only at *
      go_wp2_with fail
      refine HC.out.mono ?_
      rintro e w1 ⟨rfl, ht⟩
      have HR1 := hid (HST.out w1 ht)
      clear ht HST HC q0 q1 q2
      go_wp2_with fail
      go_roundw
      case rel => exact ⟨k + 1, by omega, by go_num, HR1.out⟩
      case measure => simp [intOf]; omega
    · obtain rfl : k = A.length := by omega
      have hr := HRk.out
      rw [List.take_length] at hr
      have HF := hid hr
      clear hr
      go_wp2_with fail
      go_ret
      exact ⟨rfl, HF.out⟩
set_option maxHeartbeats 1000000 in
theorem anyRight1 (E : Nat → Addr) {w0 w : World} (hE : Errs stS E w0) {tx dx tb : Nat} {lo hi : ByteArray} {a : Option Addr} {cap : Nat} {A : List Pr} (h : RkR w0 w tx dx tb lo hi []) (hA : PairsAt w0 a A) (hs : Pl.Srt A) (hg : Pl.Good A) (hin : Pl.InS lo hi A) (hx : A.length ≤ 1000) (hl : lo.size ≤ 300) (hhi : hi.size ≤ 300) :
    Calls Tryz.prog 132 #[.slice a A.length cap, .func (.func 133) #[] #[.pointer (some ⟨tx, 0, none⟩), .pointer (some ⟨dx, 0, none⟩)]] w fun e w' => e = .returned (.bool false) ∧ Grew w0 w' := by
  have HI := hid (idxRight1 E (cap := cap) hE h hA hs hg hin hx hl hhi)
  clear h hA hE
  go_enter Tryz.func132, Tryz.ntmps132
  go_wp2_with fail
  refine HI.out.mono ?_
  rintro e w1 ⟨rfl, hr⟩
  have HF := hid hr.grew
  clear hr
  go_wp2_with fail
  go_ret
  exact ⟨rfl, HF.out⟩
structure DlR (lo hi : ByteArray) (A : List Pr) (K : List ByteArray) (C : List (Int × An)) : Prop where
  span : Pl.rightS lo hi = true
  lsz : lo.size ≤ 300
  hsz : hi.size ≤ 300
  srt : Pl.Srt A
  good : Pl.Good A
  ins : Pl.InS lo hi A
  few : A.length ≤ 1000
  keys : ∀ k ∈ K, k.size ≤ 96 ∧ Pl.keyN k = 0
  kfew : K.length ≤ 1000
  rise : RiseK K
  cls : ClRow C
structure DlM (W : World) (ap ak ac : Option Addr) (A : List Pr) (K : List ByteArray) (C : List (Int × An)) : Prop where
  p : PairsAt W ap A
  k : StrsAt W ak K
  c : ClsAt W ac C
theorem DlM.grew {W W' : World} {ap ak ac : Option Addr} {A : List Pr} {K : List ByteArray} {C : List (Int × An)} (h : DlM W ap ak ac A K C) (g : Grew W W') : DlM W' ap ak ac A K C := ⟨h.p.grew g, h.k.grew g, h.c.grew g⟩
set_option maxRecDepth 100000 in
set_option maxHeartbeats 8000000 in
theorem right37_any (E : Nat → Addr) {w : World} (hE : Errs stS E w) {lo hi : ByteArray} {A : List Pr} {K : List ByteArray} {C : List (Int × An)} (hR : DlR lo hi A K C) {ap ak ac : Option Addr} {cp ck cc : Nat} (hM : DlM w ap ak ac A K C) :
    Calls Tryz.prog 65 #[.agg #[.string lo, .string hi, .slice ap A.length cp, .slice ak K.length ck, .slice ac C.length cc]] w fun e w' => e = .returned (.bool true) ∧ Grew w w' := by
  have HE := hid hE
  have HR := hid hR
  have HM := hid hM
  clear hE hR hM
  go_enter Tryz.func65, Tryz.ntmps65
  go_wp2_with fail
  obtain ⟨Y, hY⟩ : ∃ Y, Y = w.alloc (.cells #[.string lo, .string hi, .slice ap A.length cp, .slice ak K.length ck, .slice ac C.length cc] 36) := ⟨_, rfl⟩
  have gY : Grew w Y := by rw [hY]; exact (Grew.refl w).alloc _
  have HD := hid (show Y.cell? ⟨w.heap.size, 0, none⟩ = some (.string lo) ∧ Y.cell? ⟨w.heap.size, 1, none⟩ = some (.string hi) ∧ Y.cell? ⟨w.heap.size, 2, none⟩ = some (.slice ap A.length cp) ∧ Y.cell? ⟨w.heap.size, 3, none⟩ = some (.slice ak K.length ck) ∧ Y.cell? ⟨w.heap.size, 4, none⟩ = some (.slice ac C.length cc) ∧ w.heap.size < Y.heap.size from by rw [hY]; exact ⟨by simp [go_sem], by simp [go_sem], by simp [go_sem], by simp [go_sem], by simp [go_sem], by simp⟩)
  have HGY := hid gY
  have HEY := hid (HE.out.grew gY)
  have HMY := hid (HM.out.grew gY)
  rw [← hY]
  obtain ⟨dx, hdx⟩ : ∃ dx, dx = w.heap.size := ⟨_, rfl⟩
  rw [← hdx] at HD ⊢
  clear hY gY hdx HE HM
  refine (newT_any Y).mono ?_
  rintro e w2 ⟨rfl, hg2, hT2⟩
  have HG2 := hid hg2
  have HT2 := hid hT2
  clear hg2 hT2
  obtain ⟨tb, htb⟩ : ∃ tb, tb = Y.heap.size := ⟨_, rfl⟩
  rw [← htb] at HT2 ⊢
  have HTB := hid (show Y.heap.size ≤ tb ∧ dx < tb from ⟨by omega, by have := HD.out.2.2.2.2.2; omega⟩)
  clear htb
  go_upto_region 2 with fail
  obtain ⟨V, hV⟩ : ∃ V, V = w2.alloc (.cells #[.pointer (some ⟨tb, 0, none⟩)] 88) := ⟨_, rfl⟩
  have gV : Grew w2 V := by rw [hV]; exact (Grew.refl w2).alloc _
  have hGV : Grew Y V := HG2.out.trans gV
  obtain ⟨tx, htx⟩ : ∃ tx, tx = w2.heap.size := ⟨_, rfl⟩
  have HRK := hid (show RkR Y V tx dx tb lo hi [] from by
    have hl := HD.out.2.2.2.2.2
    refine ⟨hGV, ⟨by rw [hV, htx]; simp [go_sem], (hGV.cells.1 _ 0 hl).trans HD.out.1, (hGV.cells.1 _ 1 hl).trans HD.out.2.1⟩, _, HT2.out.grew gV, ⟨fun (e : tx = tb) => ?_, fun (e : dx = tb) => by have := HTB.out.2; omega⟩, fun j (hj : j = tb) => by rw [hj]; exact HTB.out.1⟩
    have h2 := tabAt_lt HT2.out tb rfl
    omega)
  have d2 := (hGV.cells.1 _ 2 HD.out.2.2.2.2.2).trans HD.out.2.2.1
  have hdl := Nat.lt_of_lt_of_le HD.out.2.2.2.2.2 hGV.size
  have htl : tx < V.heap.size := cell_lt HRK.out.box.t0
  rw [← hV, ← htx]
  clear hV gV htx HG2 HT2
  have HGV := hid hGV
  clear hGV
  go_wp2_with fail
  refine (anyRight1 E HEY.out HRK.out HMY.out.p HR.out.srt HR.out.good HR.out.ins HR.out.few HR.out.lsz HR.out.hsz).mono ?_
  rintro e w3 ⟨rfl, hg3⟩
  have d3 := (hg3.cells.1 _ 3 HD.out.2.2.2.2.2).trans HD.out.2.2.2.1
  have hdl3 := Nat.lt_of_lt_of_le HD.out.2.2.2.2.2 hg3.size
  have HG3 := hid hg3
  clear hg3 d2 HRK HGV hdl htl
  go_wp2_with fail
  refine (anyRight2 E (HEY.out.grew HG3.out) (HMY.out.k.grew HG3.out) (by have := HR.out.kfew; omega) (fun k hk => ⟨by have := (HR.out.keys k hk).1; omega, (HR.out.keys k hk).2⟩)).mono ?_
  rintro e w4 ⟨rfl, hg4⟩
  have HG4 := hid (HG3.out.trans hg4)
  have f0 := (HG4.out.cells.1 _ 0 HD.out.2.2.2.2.2).trans HD.out.1
  have f1 := (HG4.out.cells.1 _ 1 HD.out.2.2.2.2.2).trans HD.out.2.1
  have f2 := (HG4.out.cells.1 _ 2 HD.out.2.2.2.2.2).trans HD.out.2.2.1
  have f3 := (HG4.out.cells.1 _ 3 HD.out.2.2.2.2.2).trans HD.out.2.2.2.1
  have f4 := (HG4.out.cells.1 _ 4 HD.out.2.2.2.2.2).trans HD.out.2.2.2.2.1
  have hdl4 := Nat.lt_of_lt_of_le HD.out.2.2.2.2.2 HG4.out.size
  clear hg4 d3 HG3 hdl3
  go_wp2_with fail
  refine (seen37_any (HMY.out.c.grew HG4.out) HR.out.cls _ _ _ _).mono ?_
  rintro e w5 ⟨sb, F5, rfl, _, _, hg5⟩
  have HG5 := hid (HG4.out.trans hg5)
  have d0 := (HG5.out.cells.1 _ 0 HD.out.2.2.2.2.2).trans HD.out.1
  have d1 := (HG5.out.cells.1 _ 1 HD.out.2.2.2.2.2).trans HD.out.2.1
  have hdl5 := Nat.lt_of_lt_of_le HD.out.2.2.2.2.2 HG5.out.size
  have HRS := hid (right_span stS E ⟨rfl, rfl, rfl, rfl⟩ lo hi w5 (by have := HR.out.lsz; omega) (by have := HR.out.hsz; omega) (HEY.out.grew HG5.out))
  rw [HR.out.span] at HRS
  clear hg5 f0 f1 f2 f3 f4 hdl4 HG4
  go_wp2_with fail
  refine HRS.out.mono ?_
  rintro e w6 ⟨rfl, hg6⟩
  have HG6 := hid (HG5.out.trans hg6)
  have d2 := (HG6.out.cells.1 _ 2 HD.out.2.2.2.2.2).trans HD.out.2.2.1
  have hdl6 := Nat.lt_of_lt_of_le HD.out.2.2.2.2.2 HG6.out.size
  clear hg6 d0 d1 hdl5 HG5 HRS
  go_wp2_with fail
  refine (keyed_any (HMY.out.p.grew HG6.out) HR.out.few).mono ?_
  rintro e w7 ⟨⟨v7, rfl, hr7⟩, hg7⟩
  obtain ⟨a7, c7, e7, hs7⟩ := strsAt_of hr7
  subst e7
  have HS7 := hid hs7
  have HG7 := hid (HG6.out.trans hg7)
  have HKZ := hid (fun k (hk : k ∈ A.map Pr.key) => show k.size ≤ 70368744177664 from by
    obtain ⟨c, hc, rfl⟩ := List.mem_map.1 hk
    have := (Pl.key_sizes HR.out.good c hc).1; omega)
  have HKL := hid (show (A.map Pr.key).length ≤ 1000 from by rw [List.length_map]; exact HR.out.few)
  have HKR := hid (riseK_of HR.out.srt)
  generalize A.map Pr.key = KA at *
  clear hr7 hs7 hg7 d2 hdl6 HG6
  go_wp2_with fail
  refine (rises_any HS7.out HKR.out HKL.out HKZ.out).mono ?_
  rintro e w8 ⟨rfl, hg8⟩
  have HG8 := hid (HG7.out.trans hg8)
  have d3 := (HG8.out.cells.1 _ 3 HD.out.2.2.2.2.2).trans HD.out.2.2.2.1
  have hdl8 := Nat.lt_of_lt_of_le HD.out.2.2.2.2.2 HG8.out.size
  clear hg8 HG7 HS7
  go_wp2_with fail
  refine (rises_any (HMY.out.k.grew HG8.out) HR.out.rise HR.out.kfew (fun k hk => by have := (HR.out.keys k hk).1; omega)).mono ?_
  rintro e w9 ⟨rfl, hg9⟩
  have HG9 := hid (HGY.out.trans (HG8.out.trans hg9))
  clear hg9 d3 hdl8 HG8
  go_wp2_with fail
  go_ret
  exact ⟨rfl, HG9.out⟩
end Go.Proofs.YtoiahcgaffffbaaGreatDoor
