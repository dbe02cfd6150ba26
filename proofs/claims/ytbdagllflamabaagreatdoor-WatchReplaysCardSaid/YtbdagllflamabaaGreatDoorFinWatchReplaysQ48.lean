/- Wt3, LawAu: one text. -/
import Derived.Test.YtbdagllflamabaaGreatDoorFinWatchReplaysQ47
import Derived.Test.YtbdagllflamabaaGreatDoorFinWatchReplaysQ44
set_option linter.unusedVariables false
set_option linter.unusedSectionVars false
set_option linter.unusedSimpArgs false
namespace Go.Proofs.YtbdagllflamabaaGreatDoor
open Go.RowKit Go.Maps
attribute [local go_sem] Oper.semAt_some uponV
structure StepV (w0 W : World) (E : Nat → Addr) (L : Nat → Nat) (k wb ab n : Nat) (A : AuP) (lo hi : ByteArray) (told : Int) (e : En) (at' : Int) (r : Ending) (w' : World) : Prop where
  grew : Grew w0 w'
  only : Only (fun j => Kin k (L j) ∨ j = wb) W w'
  ex : ∃ L', (∀ j, j < W.heap.size → L' j = L j) ∧ (∀ j, W.heap.size ≤ j → L' j = 0 ∨ Kin k (L' j)) ∧ AuAt w' L' k ab (n + 5) (Pl.applyA A e at').2
  res : ∃ ks, Pl.Asks lo hi e ks ∧ (((Pl.applyA A e at').1 ≠ 0 ∧ r = .returned (.tuple #[.slice none 0 0, errOf E (Pl.applyA A e at').1]) ∧ WtC w' wb ab lo hi told) ∨
    ((Pl.applyA A e at').1 = 0 ∧ ∃ b c, r = .returned (.tuple #[.slice (some ⟨b, 0, none⟩) (changesP A (Pl.applyA A e at').2 at' ks).length c, .nilIface]) ∧ W.heap.size ≤ b ∧ CgsAt w' (some ⟨b, 0, none⟩) (changesP A (Pl.applyA A e at').2 at' ks) ∧ WtC w' wb ab lo hi (told + ((changesP A (Pl.applyA A e at').2 at' ks).length : Nat))))
structure JNow (wv : World) (R : World → Prop) (L : Nat → Bool) (f : Nat → Value) (x : World) : Prop where
  pre : L 19 = false → Grew wv x
  post : L 19 = true → R x
theorem midL_all (A B : AuP) (at' : Int) (ks : List ByteArray) : midL A B at' ks ks.length = ks.map (cg1 A B at') := by
  unfold midL
  rw [List.take_length, List.drop_length, List.map_nil, List.append_nil]
theorem AuAt.apply' (E : Nat → Addr) {w0 W U : World} (hE : Errs auS E w0) (g0 : Grew w0 W) (gU : Grew W U) {L : Nat → Nat} {k ab n m0 : Nat} {A : AuP} (h : AuAt W L k ab n A) (hL : ∀ j, j < w0.heap.size → L j < k) (hOk : AuOk A m0) (hm0 : m0 ≤ 120) (hn : n ≤ 90000) (e : En) (hA : ∀ X, Only (fun j => Kin k (L j)) W X → EnAt X e) (hz : EnSz e) (hkz : e.key.size ≤ 300) (at' : Int) :
    Calls Tryz.prog 11 #[.pointer (some ⟨ab, 0, none⟩), e.agg, .int .i64 at'] U fun r w' => r = .returned (errOf E (Pl.applyA A e at').1) ∧ Grew w0 w' ∧ Only (fun j => Kin k (L j)) W w' ∧ ∃ L', (∀ j, j < W.heap.size → L' j = L j) ∧ (∀ j, W.heap.size ≤ j → Kin k (L' j)) ∧ AuAt w' L' k ab (n + 5) (Pl.applyA A e at').2 := by
  have hWU := gU.size
  have h0W := g0.size
  have h1 : AuAt U (fun j => if j < W.heap.size then L j else k + 50) k ab n A := h.kept (gU.only fun _ => False) (fun _ _ h => h.elim) fun j hj => if_pos hj
  have gX : ∀ X, Only (fun j => Kin k (if j < W.heap.size then L j else k + 50)) U X → Grew w0 X := fun X hO => (((g0.trans gU).only (fun j => w0.heap.size ≤ j)).then (hO.mono fun j hj => by
    by_cases q : j < w0.heap.size
    · rw [if_pos (by omega)] at hj
      have := hL j q
      unfold Kin at hj
      omega
    · exact .inl (by omega))).grew fun j hj => hj
  have oX : ∀ X, Only (fun j => Kin k (if j < W.heap.size then L j else k + 50)) U X → Only (fun j => Kin k (L j)) W X := fun X hO => (gU.only _).trans hO (fun j hj => by
    by_cases q : j < W.heap.size
    · rw [if_pos q] at hj; exact .inl hj
    · exact .inr (by omega))
  refine (applyA_any E (fun X hO => hE.grew (gX X hO)) h1 hOk hm0 hn e (fun X hO => hA X (oX X hO)) hz hkz at').mono ?_
  rintro r w' ⟨rfl, hO, L', h2, h3, h4⟩
  dsimp only at hO h2
  refine ⟨rfl, gX w' hO, oX w' hO, L', fun j hj => ?_, fun j hj => ?_, h4⟩
  · rw [h2 j (by omega), if_pos hj]
  · by_cases q : j < U.heap.size
    · rw [h2 j q, if_neg (by omega)]; unfold Kin; omega
    · exact h3 j (by omega)
set_option maxRecDepth 100000 in
set_option maxHeartbeats 8000000 in
theorem stepW_any (E : Nat → Addr) {w0 W : World} (hE : Errs auS E w0) (g0 : Grew w0 W) {L : Nat → Nat} {k wb ab n m0 : Nat} {A : AuP} {lo hi : ByteArray} {told : Int} (hW : WtC W wb ab lo hi told) (hwb : L wb = k + 149) (h : AuAt W L k ab n A) (hk1 : 1 ≤ k) (hL : ∀ j, j < w0.heap.size → L j < k) (hOk : AuOk A m0) (hm0 : m0 ≤ 119) (hn : n ≤ 90000) (e : En) (hA : ∀ X, Only (fun j => Kin k (L j)) W X → EnAt X e) (hz : EnSz e) (hkz : e.key.size ≤ 300) (at' : Int) (ht0 : 0 ≤ told) (ht1 : told ≤ 1000000) (hl : lo.size ≤ 70368744177664) (hh : hi.size ≤ 70368744177664) :
    Calls Tryz.prog 22 #[.pointer (some ⟨wb, 0, none⟩), e.agg, .int .i64 at'] W (StepV w0 W E L k wb ab n A lo hi told e at') := by
  have c0 := hW.c0
  have hwbl := cell_lt c0
  have HASK := hid (fun X (g : Grew W X) => asked_any E e (hE.grew (g0.trans g)) (hA X (g.only _)) (fun o ho => (hz o ho).1) (hW.grew g) hl hh)
  have HE := hid hE
  have HG0 := hid g0
  have HW := hid hW
  have HAU := hid (And.intro h (And.intro hwb (And.intro hL hOk)))
  have HEN := hid (And.intro hA (And.intro hz hkz))
  obtain ⟨e0, he0⟩ : ∃ e0, e0 = e := ⟨_, rfl⟩
  clear hE hW h hwb hL hOk hA hz hkz g0
  rw [← he0] at HEN
  obtain ⟨v0, hv0⟩ : ∃ v0, v0 = e0.agg := ⟨_, rfl⟩
  have HV0 := hid hv0
  have HAG := hid (show v0 = e.agg from by rw [hv0, he0])
  clear hv0
  have HPQ := hid (show StepV w0 W E L k wb ab n A lo hi told e at' = StepV w0 W E L k wb ab n A lo hi told e0 at' from by rw [he0])
  rw [HPQ.out]
  have HAS := hid (show ∀ ks, Pl.Asks lo hi e ks → Pl.Asks lo hi e0 ks from fun ks q => by rw [he0]; exact q)
  clear HPQ he0
  obtain ⟨kind, shard, other, server, client, seq, key, upto, part, parts, ops, opsA, opsC, dataA, dataL, dataC⟩ := e
  unfold En.agg En.vals at HAG HASK ⊢
  dsimp only at *
  generalize hQ : StepV w0 W E L k wb ab n A lo hi told e0 at' = QQ
  have HQ := hid hQ
  clear hQ
  go_enter Tryz.func22, Tryz.ntmps22
  go_wp2_with fail
  obtain ⟨Y, hY⟩ : ∃ Y, Y = W.alloc (.cells #[.int .i64 kind, .int .i64 shard, .int .i64 other, .int .i64 server, .int .i64 client, .int .i64 seq, .slice opsA ops.length opsC, .string key, .int .i64 upto, .int .i64 part, .int .i64 parts, .slice dataA dataL dataC] 26) := ⟨_, rfl⟩
  have gY : Grew W Y := by rw [hY]; exact (Grew.refl W).alloc _
  obtain ⟨xb, hxb⟩ : ∃ xb, xb = W.heap.size := ⟨_, rfl⟩
  have HX := hid (show ∀ q v, (#[.int .i64 kind, .int .i64 shard, .int .i64 other, .int .i64 server, .int .i64 client, .int .i64 seq, .slice opsA ops.length opsC, .string key, .int .i64 upto, .int .i64 part, .int .i64 parts, .slice dataA dataL dataC] : Array Value)[q]? = some v → Y.cell? ⟨xb, q, none⟩ = some v from fun q v hv => by
    rw [hY, hxb, cell_of_row _ _ q _ _ _ (heap_alloc_new W _)]; simpa using hv)
  have hxY : xb < Y.heap.size := by rw [hY, hxb]; simp
  have hxW : W.heap.size ≤ xb := by omega
  rw [← hY, ← hxb]
  refine (HASK.out Y gY).mono ?_
  rintro r w1 ⟨hg1, ka, kc, ks, rfl, hst, hask⟩
  have HG1 := hid (gY.trans hg1)
  have HKS := hid hst
  have HAK := hid (HAS.out ks hask)
  have hkf := hask.few
  have HX1 := hid (fun q v hv => (hg1.cells.1 _ q hxY).trans (HX.out q v hv))
  have hx1 := Nat.lt_of_lt_of_le hxY hg1.size
  clear hY hxb gY hg1 hst hask HASK HX hxY HAS
  obtain ⟨kl, hkl⟩ : ∃ kl, kl = ks.length := ⟨_, rfl⟩
  have HKL := hid hkl
  rw [← hkl] at hkf ⊢
  clear hkl
  obtain ⟨i0, hi0, hz0, hz1, hz2⟩ := info_parts infoCgW
  obtain ⟨w2, hmk, hrow2, hg2⟩ := run_make_own (P := Tryz.prog) (w := w1) w1.heap.size 60 64 i0 _ 10 Tryz.underlying60 hi0 hz0 hz1 .i64 .i64 kl (by rw [hz2]; omega) (by unfold maxLen; omega) (Nat.le_refl _)
  have HR2 := hid hrow2
  have HG2 := hid (show Grew w1 w2 from (Only.of_grownBy hg2).grew fun j hj => by cases hj)
  clear hrow2 hg2 hi0 hz0 hz1 hz2
  go_wp2_with fail
  clear hmk
  obtain ⟨wo, rfl⟩ : ∃ wo : World, wo = w2 := ⟨_, rfl⟩
  go_loopw [9, 24] (fun v i wr => ∃ j : Nat, j ≤ kl ∧ i = .int .i64 j ∧ Hid (∃ b c, v = .slice (some ⟨b, 0, none⟩) j c ∧ wr.ownsRow w1.heap.size 64 10 v j (cgFlat ((ks.take j).map (cg0 A at')))) ∧ Hid (Grew w1 wr)) (fun _ i _ => kl - (intOf i).toNat)
  case atStart => exact ⟨0, Nat.zero_le _, rfl, ⟨_, _, rfl, HR2.out⟩, HG2.out⟩
  case round =>
    obtain ⟨j, hj1, rfl, HV, HG⟩ := hrel
    obtain ⟨wp, rfl⟩ : ∃ wp : World, wp = wr := ⟨_, rfl⟩
    obtain ⟨b, c, rfl, hrow⟩ := HV.out
    have HROW := hid hrow
    clear hrow HV
    by_cases hlt : j < kl
    · have hjl : j < ks.length := by rw [← HKL.out]; exact hlt
      rcases HKS.out with h0 | ⟨kb, ko, rfl, hkb, hkr⟩
      · rw [h0] at hjl; simp at hjl
      have q0 := (HG.out.cells.1 kb (ko + j) hkb).trans (hkr j _ (List.getElem?_eq_getElem hjl))
      have hkbp := Nat.lt_of_lt_of_le hkb HG.out.size
      have c0p := (HG.out.cells.1 _ 0 (Nat.lt_of_lt_of_le hwbl HG1.out.size)).trans ((HG1.out.cells.1 _ 0 hwbl).trans c0)
      have hwbp := cell_lt c0p
      have hks8 : ks[j].size ≤ 70368744177664 := by
        obtain ⟨_, _, ⟨o, ho, e1⟩, _⟩ := (HAK.out.mem ks[j]).1 (List.getElem_mem hjl)
        rw [← e1]
        exact (HEN.out.2.1 o ho).1
      have HGET := hid (fun X (g : Grew wp X) => getA_any E (HE.out.grew (HG0.out.trans (HG1.out.trans (HG.out.trans g)))) (HAU.out.1.grew (HG1.out.trans (HG.out.trans g))) HAU.out.2.2.2 (by omega) ks[j] hks8)
      have HNX := hid (show (ks.take (j + 1)).map (cg0 A at') = (ks.take j).map (cg0 A at') ++ [cg0 A at' ks[j]] from by rw [List.take_succ_eq_append_getElem hjl, List.map_append]; rfl)
      have HCG := hid (show cg0 A at' ks[j] = ⟨at', ks[j], ((Pl.getAP A ks[j]).getD Pr.none).key, ((Pl.getAP A ks[j]).getD Pr.none).val, ((Pl.getAP A ks[j]).getD Pr.none).ver, ⟨#[]⟩, ⟨#[]⟩, 0, (Pl.getAP A ks[j]).isSome, false⟩ from rfl)
      clear hkr hks8
      generalize (Pl.getAP A ks[j]).isSome = is' at *
      generalize (Pl.getAP A ks[j]).getD Pr.none = o at *
      generalize cg0 A at' ks[j] = cg at *
      generalize ks[j] = kk at *
      obtain ⟨ok, ov, on⟩ := o
      unfold Pr.agg at HGET
      dsimp only at *
      go_wp2_with fail
      refine (HGET.out _ (Grew.refl _)).mono ?_
      rintro r w3 ⟨rfl, hg3⟩
      obtain ⟨Z, hZ⟩ : ∃ Z, Z = (w3.alloc (.cells #[.string ok, .string ov, .int .i64 on] 42)).alloc (.cells #[.int .i64 at', .string kk, .string ok, .string ov, .int .i64 on, .string ⟨#[]⟩, .string ⟨#[]⟩, .int .i64 0, .bool is', .bool false] 64) := ⟨_, rfl⟩
      have gZ : Grew wp Z := by rw [hZ]; exact (hg3.alloc _).alloc _
      have hblk : Z.heap[w3.heap.size + 1]? = some (.cells (Cg.vals ⟨at', kk, ok, ov, on, ⟨#[]⟩, ⟨#[]⟩, 0, is', false⟩).toArray 64 (0, 0)) := by
        have := heap_alloc_new (w3.alloc (.cells #[.string ok, .string ov, .int .i64 on] 42)) (.cells #[.int .i64 at', .string kk, .string ok, .string ov, .int .i64 on, .string ⟨#[]⟩, .string ⟨#[]⟩, .int .i64 0, .bool is', .bool false] 64)
        rw [show (w3.alloc (.cells #[.string ok, .string ov, .int .i64 on] 42)).heap.size = w3.heap.size + 1 by simp] at this
        rw [hZ]; exact this
      obtain ⟨g, cp, W2, hrun, hown, hgb⟩ := run_append_cgW (ownsRow_grew gZ HROW.out) _ (cg_block hblk) (by omega) (HG.out.trans gZ).size 60
      rw [← HCG.out, ← HNX.out] at hown
      have HRUN := hid hrun
      have HOWN := hid hown
      have HGN := hid (show Grew w1 W2 from (((HG.out.trans gZ).only (fun j => w1.heap.size ≤ j)).then ((Only.of_grownBy hgb).mono fun j hj => .inl ((HROW.out.lt j hj.symm).1))).grew fun j hj => hj)
      have HZ := hid hZ
      clear hrun hown hgb hblk HNX gZ hZ hg3 HGET
      go_wp2_with (at_builtin; rw [← HZ.out]; refine Lib.wpList_append_run _ rfl _ _ _ _ rfl _ _ rfl rfl _ _ HRUN.out ?_)
      clear q0 HRUN
      go_wp2_with fail
      go_roundw
      case rel => exact ⟨j + 1, by omega, by go_num, ⟨_, _, rfl, HOWN.out⟩, HGN⟩
      case measure => simp [intOf]; omega
    · obtain rfl : j = kl := by omega
      have HLST := hid (show wp.ownsRow w1.heap.size 64 10 (.slice (some ⟨b, 0, none⟩) j c) j (cgFlat (midL A (Pl.applyA A e0 at').2 at' ks 0)) from by
        have e1 : (ks.take j).map (cg0 A at') = midL A (Pl.applyA A e0 at').2 at' ks 0 := by
          unfold midL
          rw [HKL.out, List.take_length]; rfl
        have e3 := HROW.out
        rw [e1] at e3
        exact e3)
      have hbB := (HROW.out.lt b rfl)
      clear HROW HKS
      have HGWp := hid (HG1.out.trans HG.out)
      -- Apply
      have HAP := hid (show ∀ U, Grew wp U → Calls Tryz.prog 11 #[.pointer (some ⟨ab, 0, none⟩), e0.agg, .int .i64 at'] U fun r w' => r = .returned (errOf E (Pl.applyA A e0 at').1) ∧ Grew w0 w' ∧ Only (fun j => Kin k (if j < W.heap.size then L j else 0)) wp w' ∧ ∃ L', (∀ j, j < wp.heap.size → L' j = if j < W.heap.size then L j else 0) ∧ (∀ j, wp.heap.size ≤ j → Kin k (L' j)) ∧ AuAt w' L' k ab (n + 5) (Pl.applyA A e0 at').2 from fun U gU =>
        AuAt.apply' E HE.out (HG0.out.trans HGWp.out) gU (HAU.out.1.kept (L' := fun j => if j < W.heap.size then L j else 0) (HGWp.out.only fun _ => False) (fun _ _ h => h.elim) fun j hj => if_pos hj) (fun j hj => by
          have := HG0.out.size
          rw [if_pos (by omega)]
          exact HAU.out.2.2.1 j hj) HAU.out.2.2.2 (by omega) hn e0 (fun X hO => HEN.out.1 X ((HGWp.out.only _).trans hO fun q hq => by
          by_cases t : q < W.heap.size
          · rw [if_pos t] at hq; exact .inl hq
          · exact .inr (by omega))) HEN.out.2.1 HEN.out.2.2 at')
      rw [← HV0.out, HAG.out] at HAP
      have c0p := (HGWp.out.cells.1 _ 0 hwbl).trans c0
      have hwbp := cell_lt c0p
      have hxp := Nat.lt_of_lt_of_le hx1 HG.out.size
      have HXP := hid (fun q v hv => (HG.out.cells.1 _ q hx1).trans (HX1.out q v hv))
      have HOKB := hid (Pl.auOk_apply HAU.out.2.2.2 HAU.out.1.srt e0 at')
      generalize hB : (Pl.applyA A e0 at').2 = B at *
      generalize hC : (Pl.applyA A e0 at').1 = cd at *
      have HBC := hid (And.intro hB hC)
      clear hB hC
      go_upto_region 9 with fail
      have C0 := wd_cell c0p
      have D0 := wd_cell (HXP.out 0 _ rfl)
      have D1 := wd_cell (HXP.out 1 _ rfl)
      have D2 := wd_cell (HXP.out 2 _ rfl)
      have D3 := wd_cell (HXP.out 3 _ rfl)
      have D4 := wd_cell (HXP.out 4 _ rfl)
      have D5 := wd_cell (HXP.out 5 _ rfl)
      have D6 := wd_cell (HXP.out 6 _ rfl)
      have D7 := wd_cell (HXP.out 7 _ rfl)
      have D8 := wd_cell (HXP.out 8 _ rfl)
      have D9 := wd_cell (HXP.out 9 _ rfl)
      have D10 := wd_cell (HXP.out 10 _ rfl)
      have D11 := wd_cell (HXP.out 11 _ rfl)
      refine wp_region_still 6 (by kernel_rfl) (by kernel_rfl) (fun _ _ => rfl) ?_
      repeat (first
    | (refine mixS_plain (by rfl) (by rfl) (by rfl) (by first | exact Grew.refl | exact fun _ => rfl) (by rfl) ?_; intro K hK; go_big_quiet_op; go_big_quiet_on)
    | (refine mixS_skip (by rfl) (by rfl) (by rfl) ?_; simp only [Act.put, List.setIfInBounds_toArray, List.set_cons_zero, List.set_cons_succ]))
      refine mixS_done (by rfl) fun w4 g4 => ?_
      clear C0 D0 D1 D2 D3 D4 D5 D6 D7 D8 D9 D10 D11
      dsimp only [List.drop]
      go_wp2_with fail
      refine (HAP.out _ g4).mono ?_
      rintro r w5 ⟨rfl, hg5, ho5, L5, h5a, h5b, h5c⟩
      have hbW : W.heap.size ≤ b := by have := HG1.out.size; omega
      have hwp5 := ho5.size
      have HL5 := hid (show L5 b = 0 from by rw [h5a b hbB.2, if_neg (by omega)])
      have ho5' : Only (fun j => Kin k (L j) ∨ j = wb) W w5 := (HGWp.out.only _).trans ho5 fun q hq => by
        by_cases t : q < W.heap.size
        · rw [if_pos t] at hq; exact .inl (.inl hq)
        · exact .inr (by omega)
      have hWt5 : WtC w5 wb ab lo hi told := (HW.out.grew HGWp.out).kept ho5 (by rw [if_pos hwbl, HAU.out.2.1]; unfold Kin; omega)
      have hex5 : (∀ q, q < W.heap.size → L5 q = L q) ∧ (∀ q, W.heap.size ≤ q → L5 q = 0 ∨ Kin k (L5 q)) := ⟨fun q hq => by rw [h5a q (Nat.lt_of_lt_of_le hq HGWp.out.size), if_pos hq], fun q hq => by
        by_cases t : q < wp.heap.size
        · rw [h5a q t, if_neg (by omega)]; exact .inl rfl
        · exact .inr (h5b q (by omega))⟩
      have hrow5 : w5.ownsRow w1.heap.size 64 10 (.slice (some ⟨b, 0, none⟩) j c) j (cgFlat (midL A B at' ks 0)) := ownsRow_kept HLST.out ho5 fun g hg => by
        have e : b = g := Option.some.inj hg
        rw [if_neg (by omega)]
        unfold Kin; omega
      have HG5 := hid hg5
      have HO5 := hid ho5'
      have HW5 := hid hWt5
      have HX5 := hid hex5
      have HA5 := hid h5c
      have HR5 := hid hrow5
      have hb5 : b < w5.heap.size := Nat.lt_of_lt_of_le hbB.2 hwp5
      have hwb5 : wb < w5.heap.size := by omega
      have hwbb : wb ≠ b := by omega
      clear hg5 ho5 h5a h5b h5c ho5' hWt5 hex5 hrow5 g4 HAP HXP HLST HX1
      by_cases hcd : cd = 0
      · subst hcd
        rw [errOf_zero]
        go_wp2_with fail
        clear c0p hwbp hxp
        go_loopw [58] (fun i wr => ∃ m : Nat, m ≤ j ∧ i = .int .i64 m ∧ Hid (wr.ownsRow w1.heap.size 64 10 (.slice (some ⟨b, 0, none⟩) j c) j (cgFlat (midL A B at' ks m)) ∧ Only (fun q => q = b) w5 wr)) (fun i _ => j - (intOf i).toNat)
        case atStart => exact ⟨0, Nat.zero_le _, rfl, ⟨HR5.out, (Grew.refl w5).only _⟩⟩
        case round =>
          obtain ⟨m, hm1, rfl, HV⟩ := hrel
          obtain ⟨wv, rfl⟩ : ∃ wv : World, wv = wr := ⟨_, rfl⟩
          have hbv := Nat.lt_of_lt_of_le hb5 HV.out.2.size
          by_cases hlt : m < j
          · have hmI : (m : Int) < (j : Int) := by omega
            have hml : m < ks.length := by rw [← HKL.out]; exact hlt
            have hlen : (midL A B at' ks m).length = j := by rw [midL_len]; exact HKL.out.symm
            have hR' : wv.ownsRow w1.heap.size 64 10 (.slice (some ⟨b, 0, none⟩) (midL A B at' ks m).length c) (midL A B at' ks m).length (cgFlat (midL A B at' ks m)) := by rw [hlen]; exact HV.out.1
            obtain ⟨_, r1, _, _, _, r5, r6, r7, _, _⟩ := cg_cells hR' m (by omega)
            rw [midL_at _ _ _ _ _ hml] at r1
            have r1 : wv.cell? ⟨b, m * 10 + 1, none⟩ = some (.string ks[m]) := r1
            have hks8 : ks[m].size ≤ 70368744177664 := by
              obtain ⟨_, _, ⟨o, ho, e1⟩, _⟩ := (HAK.out.mem ks[m]).1 (List.getElem_mem hml)
              rw [← e1]
              exact (HEN.out.2.1 o ho).1
            have hw0 := HG0.out.size
            have HGETB := hid (fun X (hX : Only (fun q => q = b) w5 X) => getA_any E (HE.out.grew (((HG5.out.only (fun q => q = b)).then hX).grew fun q hq => by rw [hq]; omega)) (HA5.out.kept hX (fun q _ hq => by rw [hq, HL5.out]; unfold Kin; omega) fun _ _ => rfl) HOKB.out (by omega) ks[m] hks8)
            have HSET := hid (show cgFlat (midL A B at' ks (m + 1)) = ((((cgFlat (midL A B at' ks m)).set (m * 10 + 5) (.string ((Pl.getAP B ks[m]).getD Pr.none).key)).set (m * 10 + 6) (.string ((Pl.getAP B ks[m]).getD Pr.none).val)).set (m * 10 + 7) (.int .i64 ((Pl.getAP B ks[m]).getD Pr.none).ver)).set (m * 10 + 9) (.bool (Pl.getAP B ks[m]).isSome) from by
              rw [midL_succ _ _ _ _ _ hml, ← cgFlat_now _ m (by omega) ((Pl.getAP B ks[m]).getD Pr.none) (Pl.getAP B ks[m]).isSome, midL_at _ _ _ _ _ hml]; rfl)
            have HF1 := hid (show (cgFlat (midL A B at' ks m)).length = j * 10 from by rw [cgFlat_length, hlen])
            have HF2 := hid (show (cgFlat (midL A B at' ks m))[m * 10 + 1]? = some (.string ks[m]) from by
              rw [cgFlat_get 1 (by omega) _ m (by omega), midL_at _ _ _ _ _ hml]; rfl)
            have HWv := hid ((HW5.out.kept HV.out.2 hwbb).c0)
            have hwbv : wb < wv.heap.size := Nat.lt_of_lt_of_le hwb5 HV.out.2.size
            clear hR' hks8 hlen
            generalize (Pl.getAP B ks[m]).isSome = is' at *
            generalize (Pl.getAP B ks[m]).getD Pr.none = o at *
            generalize ks[m] = kk at *
            generalize cgFlat (midL A B at' ks m) = FL at *
            obtain ⟨ok, ov, on⟩ := o
            unfold Pr.agg at HGETB
            dsimp only at HGETB HSET
            go_upto_region 15 with fail
            obtain ⟨I, hI⟩ : ∃ I : World → Prop, I = fun x => Only (fun q => q = b) wv x ∧ x.cell? ⟨b, m * 10 + 1, none⟩ = some (.string kk) := ⟨_, rfl⟩
            have hIO : ∀ x, I x → Only (fun q => q = b) wv x ∧ x.cell? ⟨b, m * 10 + 1, none⟩ = some (.string kk) := fun x h => by rw [hI] at h; exact h
            have hIW : ∀ x, Only (fun q => q = b) wv x → x.cell? ⟨b, m * 10 + 1, none⟩ = some (.string kk) → I x := fun x h k => by rw [hI]; exact ⟨h, k⟩
            clear hI
            have C0 : ∀ p : Wd I, p.w.cell? ⟨wb, 0, none⟩ = some (.pointer (some ⟨ab, 0, none⟩)) := fun p => ((hIO p.w p.ok).1.cell hwbv hwbb 0).trans HWv.out
            have K1 : ∀ p : Wd I, p.w.cell? ⟨b, m * 10 + 1, none⟩ = some (.string kk) := fun p => (hIO p.w p.ok).2
            have HNE : Nonempty (Wd I) := ⟨⟨wv, hIW wv ((Grew.refl wv).only _) r1⟩⟩
            have HGET := hid (fun x hx => HGETB.out x (HV.out.2.then (hIO x hx).1))
            obtain ⟨QN, hQN⟩ : ∃ QN : World → Prop, QN = fun x => x.ownsRow w1.heap.size 64 10 (.slice (some ⟨b, 0, none⟩) j c) j (((FL.set (m * 10 + 5) (.string ok)).set (m * 10 + 6) (.string ov)).set (m * 10 + 7) (.int .i64 on)) ∧ Only (fun q => q = b) wv x := ⟨_, rfl⟩
            have HQO := hid (show ∀ x, QN x → x.ownsRow w1.heap.size 64 10 (.slice (some ⟨b, 0, none⟩) j c) j (((FL.set (m * 10 + 5) (.string ok)).set (m * 10 + 6) (.string ov)).set (m * 10 + 7) (.int .i64 on)) ∧ Only (fun q => q = b) wv x from fun x h => by rw [hQN] at h; exact h)
            have HQW := hid (show ∀ x : World, x.ownsRow w1.heap.size 64 10 (.slice (some ⟨b, 0, none⟩) j c) j (((FL.set (m * 10 + 5) (.string ok)).set (m * 10 + 6) (.string ov)).set (m * 10 + 7) (.int .i64 on)) → Only (fun q => q = b) wv x → QN x from fun x h k => by rw [hQN]; exact ⟨h, k⟩)
            clear hQN
            have HIW := hid hIW
            clear hIO hIW HGETB
            refine wp_region_mixS 20 [19] I Grew (JNow wv QN) (fun _ a => a) (by kernel_rfl) (by kernel_rfl) (fun _ _ => rfl) ⟨fun _ => (Grew.refl wv).drew, fun h => (by cases h)⟩ (fun L0 f x h => ?_) Grew.refl (fun L0 f x x' h g => ?_) ?_
            · cases q : L0 19 with
              | false =>
                have := h.pre q
                exact HIW.out x (this.only _) ((this.cells.1 _ _ hbv).trans r1)
              | true =>
                obtain ⟨q1, q2⟩ := HQO.out x (h.post q)
                refine HIW.out x q2 ((q1.cellAt (m * 10 + 1) (by omega)).trans ?_)
                rw [List.getElem?_set_ne (by omega), List.getElem?_set_ne (by omega), List.getElem?_set_ne (by omega)]
                exact HF2.out
            · refine ⟨fun q => (h.pre q).trans g, fun q => ?_⟩
              obtain ⟨q1, q2⟩ := HQO.out x (h.post q)
              exact HQW.out x' (ownsRow_grew g q1) (q2.grewT g)
            repeat (first
    | (refine mixS_loose (by rfl) (by rfl) ?_)
    | (refine mixS_plain (by rfl) (by rfl) (by rfl) (by first | exact Grew.refl | exact fun _ => rfl) (by rfl) ?_; intro K hK; go_big_quiet_op; go_big_quiet_on)
    | (refine mixS_call (by rfl) (by rfl) (by rfl) (by rfl) (fun _ => by kernel_rfl) (HGET.out) ?_; simp only [Act.put, List.setIfInBounds_toArray, List.set_cons_zero, List.set_cons_succ])
    | (refine mixS_skip (by rfl) (by rfl) (by rfl) ?_; simp only [Act.put, List.setIfInBounds_toArray, List.set_cons_zero, List.set_cons_succ]))
            refine mixS_done (by rfl) ⟨⟨loose_of rfl (fun _ a => a) (fun _ _ => rfl) (fun _ => rfl) ?_, trivial⟩, ?_⟩
            · intro L0 f x hJ hL hd
              have hG := hJ.pre hL
              have hrx := ownsRow_grew hG HV.out.1
              have s5 := (hG.cells.1 _ _ hbv).trans r5
              have s6 := (hG.cells.1 _ _ hbv).trans r6
              have s7 := (hG.cells.1 _ _ hbv).trans r7
              have f5 : x.frozen? ⟨b, m * 10 + 5, none⟩ = false := hrx.frozenAt _
              have f6 : x.frozen? ⟨b, m * 10 + 6, none⟩ = false := hrx.frozenAt _
              have f7 : x.frozen? ⟨b, m * 10 + 7, none⟩ = false := hrx.frozenAt _
              have HRX := hid hrx
              have HGX := hid hG
              clear hJ hL hd C0 K1 hrx hG
              go_simp
              obtain ⟨t1, g1⟩ := HRX.out.stored (m * 10 + 5) (.string ok)
              obtain ⟨t2, g2⟩ := t1.stored (m * 10 + 6) (.string ov)
              obtain ⟨t3, g3⟩ := t2.stored (m * 10 + 7) (.int .i64 on)
              exact ⟨fun h => (by rw [plus_on] at h; cases h), fun _ => HQW.out _ t3 ((HGX.out.only _).then ((Only.of_grownBy (g1.trans (g2.trans g3))).mono fun q hq => .inl (Option.some.inj hq)))⟩
            intro f x hJ
            obtain ⟨q1, q2⟩ := HQO.out x (hJ.post rfl)
            have r9 : ∃ v, x.cell? ⟨b, m * 10 + 9, none⟩ = some v := ⟨_, (q1.cellAt (m * 10 + 9) (by omega)).trans (List.getElem?_eq_getElem (by simp only [List.length_set]; rw [HF1.out]; omega))⟩
            obtain ⟨v9, r9⟩ := r9
            have f9 : x.frozen? ⟨b, m * 10 + 9, none⟩ = false := q1.frozenAt _
            have HQ1 := hid q1
            have HQ2 := hid q2
            clear q1 q2 hJ C0 K1 HNE
            dsimp only [List.drop]
            go_wp2_with fail
            go_roundw
            case rel =>
              obtain ⟨t1, t2⟩ := HQ1.out.stored (m * 10 + 9) (.bool is')
              refine ⟨m + 1, by omega, by go_num, ⟨?_, (HV.out.2.then HQ2.out).then ((Only.of_grownBy t2).mono fun q hq => .inl (Option.some.inj hq))⟩⟩
              rw [HSET.out]; exact t1
            case measure => simp [intOf]; omega
          · obtain rfl : m = j := by omega
            have hdel : Calls Tryz.prog 56 #[.slice (some ⟨b, 0, none⟩) m c, .func (.func 57) #[] #[]] wv fun e w' => e = .returned (.slice (some ⟨b, 0, none⟩) (changesP A B at' ks).length c) ∧ w'.ownsRow w1.heap.size 64 10 (.slice (some ⟨b, 0, none⟩) (changesP A B at' ks).length c) (changesP A B at' ks).length (cgFlat (changesP A B at' ks)) ∧ Only (fun j => j = b) wv w' := by
              have e2 := HV.out.1
              rw [HKL.out, midL_all] at e2
              have e1 := delFCg w1.heap.size b c (ks.map (cg1 A B at')) wv (by rw [List.length_map]; exact e2) (by rw [List.length_map, ← HKL.out]; omega)
              rw [List.length_map, ← HKL.out] at e1
              exact e1
            have hfew : (changesP A B at' ks).length ≤ 8 := by
              have e1 : (changesP A B at' ks).length ≤ (ks.map (cg1 A B at')).length := List.length_filter_le _ _
              rw [List.length_map, ← HKL.out] at e1
              omega
            obtain ⟨CH, hCH⟩ : ∃ CH, CH = changesP A B at' ks := ⟨_, rfl⟩
            rw [← hCH] at hdel hfew
            have HCH := hid hCH
            have HDEL := hid hdel
            clear hCH hdel
            go_wp2_with fail
            refine HDEL.out.mono ?_
            rintro r w7 ⟨rfl, hr7, ho7⟩
            have ho57 := HV.out.2.then ho7
            have hW7 := HW5.out.kept ho57 hwbb
            have t3 := hW7.c3
            have f3 := hW7.fz 3
            have HR7 := hid hr7
            have HO57 := hid ho57
            have HW7 := hid hW7
            obtain ⟨nn, hnn⟩ : ∃ nn, nn = CH.length := ⟨_, rfl⟩
            have HNN := hid hnn
            rw [← hnn] at hfew ⊢
            have z0 : 0 ≤ told + (nn : Int) := by omega
            have z1 : told + (nn : Int) ≤ 1000008 := by omega
            clear hr7 ho7 ho57 hW7 hnn HDEL
            go_wp2_with fail
            rw [← HQ.out]
            have hw0 := HG0.out.size
            have hw7 := HO57.out.size
            have hwb0 : w0.heap.size ≤ wb := by
              rcases Nat.lt_or_ge wb w0.heap.size with q | q
              · have := HAU.out.2.2.1 wb q
                rw [HAU.out.2.1] at this; omega
              · exact q
            have HS := Only.setCell w7 ⟨wb, 3, none⟩ (.int .i64 (told + (nn : Int)))
            have hA7 : AuAt w7 L5 k ab (n + 5) B := HA5.out.kept HO57.out (fun q _ hq => by rw [hq, HL5.out]; unfold Kin; omega) fun _ _ => rfl
            have hL5w : L5 wb = k + 149 := (HX5.out.1 wb hwbl).trans HAU.out.2.1
            have hrow8 : (w7.setCell ⟨wb, 3, none⟩ (.int .i64 (told + (nn : Int)))).ownsRow w1.heap.size 64 10 (.slice (some ⟨b, 0, none⟩) CH.length c) CH.length (cgFlat CH) := ownsRow_kept HR7.out HS fun g hg => fun (e : g = wb) => by
              have e2 : b = g := Option.some.inj hg
              omega
            obtain ⟨a8, c8, e8, hC8⟩ := cgsAt_of hrow8
            have hW8 : WtC (w7.setCell ⟨wb, 3, none⟩ (.int .i64 (told + (nn : Int)))) wb ab lo hi (told + (nn : Int)) := by
              obtain ⟨x0, x1, x2, x3, xf⟩ := HW7.out
              exact ⟨by simp [go_sem, x0], by simp [go_sem, x1], by simp [go_sem, x2], by simp [go_sem, x3], fun i => by simp [go_sem, xf]⟩
            refine ⟨(((HG5.out.only (fun q => w0.heap.size ≤ q)).then (HO57.out.mono fun q hq => .inl (by rw [hq]; omega))).then (HS.mono fun q (hq : q = wb) => .inl (by rw [hq]; exact hwb0))).grew fun q hq => hq, ((HO5.out.trans HO57.out fun q hq => .inr (by rw [hq]; exact hbW))).trans HS fun q hq => .inl (.inr hq), ⟨L5, HX5.out.1, HX5.out.2, ?_⟩, ks, HAK.out, .inr ⟨HBC.out.2, b, c, ?_⟩⟩
            · rw [HBC.out.1]
              exact hA7.kept HS (fun q _ (hq : q = wb) => by rw [hq, hL5w]; unfold Kin; omega) fun _ _ => rfl
            · rw [HBC.out.1, ← HCH.out, ← HNN.out]
              rw [← HNN.out] at e8
              obtain ⟨e8a, e8b⟩ : some ⟨b, 0, none⟩ = a8 ∧ c = c8 := by cases e8; exact ⟨rfl, rfl⟩
              rw [← e8a] at hC8
              exact ⟨rfl, hbW, hC8, hW8⟩
      · have hee : Hid (errOf E cd = .iface 343 (.pointer (some (E cd)))) := errOf_pos E cd hcd
        rw [hee.out]
        go_wp2_with fail
        rw [← HQ.out]
        refine ⟨HG5.out, HO5.out, ⟨L5, HX5.out.1, HX5.out.2, by rw [HBC.out.1]; exact HA5.out⟩, ks, HAK.out, .inl ⟨by rw [HBC.out.2]; exact hcd, by rw [HBC.out.2, hee.out]; rfl, HW5.out⟩⟩
end Go.Proofs.YtbdagllflamabaaGreatDoor
namespace Go.Proofs.YtbdagllflamabaaGreatDoor
open Go.RowKit Go.Maps
attribute [local go_sem] Oper.semAt_some uponV
def opAu : OpR := ⟨1, ⟨#[97]⟩, ⟨#[120]⟩, ⟨#[]⟩, 0⟩
def enAu (a : Option Addr) : En := ⟨1, 1, 0, 0, 1, 1, ⟨#[]⟩, 0, 0, 0, [opAu], a, 1, none, 0, 0⟩
theorem au_err (a : Option Addr) : (Pl.applyA AuP.init (enAu a) 0).1 = 0 := by kernel_rfl
theorem ops_au {W : World} {ob : Nat} (h : W.heap[ob]? = some (.cells #[.int .i64 1, .string ⟨#[97]⟩, .string ⟨#[120]⟩, .string ⟨#[]⟩, .int .i64 0] 104 (0, 0))) : EnAt W (enAu (some ⟨ob, 0, none⟩)) := by
  have hlt := (Array.getElem?_eq_some_iff.1 h).1
  have hc : ∀ (i : Nat) v, (#[.int .i64 1, .string ⟨#[97]⟩, .string ⟨#[120]⟩, .string ⟨#[]⟩, .int .i64 0] : Array Value)[i]? = some v → W.cell? ⟨ob, i, none⟩ = some v := fun i v hv => by rw [cell_of_row _ ob i _ _ _ h]; simpa using hv
  refine ⟨.inr ⟨ob, 0, rfl, hlt, ?_, ?_, ?_, ?_, ?_⟩, by simp [enAu], fun o ho => ?_, fun e => by cases e⟩
  · intro j hj; obtain rfl : j = 0 := by simpa [enAu] using hj
    exact hc 0 _ rfl
  · intro j hj; obtain rfl : j = 0 := by simpa [enAu] using hj
    exact hc 1 _ rfl
  · intro j hj; obtain rfl : j = 0 := by simpa [enAu] using hj
    exact hc 2 _ rfl
  · intro j hj; obtain rfl : j = 0 := by simpa [enAu] using hj
    exact hc 3 _ rfl
  · intro j hj; obtain rfl : j = 0 := by simpa [enAu] using hj
    exact hc 4 _ rfl
  · simp [enAu] at ho; subst ho; exact ⟨by decide, by decide, by decide⟩
theorem sz_au (a : Option Addr) : EnSz (enAu a) := fun o ho => by simp [enAu] at ho; subst ho; exact ⟨by decide, by decide⟩
end Go.Proofs.YtbdagllflamabaaGreatDoor
