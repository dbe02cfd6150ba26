/- The walk of tidewaterref23.Write. -/
import Derived.Test.YtoiahcgaffffbaaGreatDoorFinStatePlaysQ15
import Derived.Test.YtoiahcgaffffbaaGreatDoorFinStatePlaysQ17
import Derived.Test.YtoiahcgaffffbaaGreatDoorFinStatePlaysQ28
import Derived.Test.YtoiahcgaffffbaaGreatDoorFinStatePlaysQ10
set_option linter.unusedVariables false
set_option linter.unusedSectionVars false
set_option linter.unusedSimpArgs false
namespace Go.Proofs.YtoiahcgaffffbaaGreatDoor
open Go.RowKit Go.Maps
attribute [local go_sem] Oper.semAt_some uponV
structure WrM (w W : World) (e : En) : Prop where
  grew : Grew w W
  lt : w.heap.size + 2 < W.heap.size
  ent : ∀ j u, e.vals[j]? = some u → W.cell? ⟨w.heap.size, j, none⟩ = some u
  a0 : W.cell? ⟨w.heap.size + 1, 0, none⟩ = some (.int .i64 0)
  a1 : W.cell? ⟨w.heap.size + 1, 1, none⟩ = some (.int .i64 0)
  f0 : W.frozen? ⟨w.heap.size + 1, 0, none⟩ = false
  f1 : W.frozen? ⟨w.heap.size + 1, 1, none⟩ = false
  n0 : W.cell? ⟨w.heap.size + 2, 0, none⟩ = some (.int .i64 0)
  n1 : W.cell? ⟨w.heap.size + 2, 1, none⟩ = some (.int .i64 0)
theorem WrM.more {w W W' : World} {e : En} (h : WrM w W e) (g : Grew W W') : WrM w W' e :=
  have l := h.lt
  ⟨h.grew.trans g, Nat.lt_of_lt_of_le h.lt g.size, fun j u hj => (g.cells.1 _ _ (by omega)).trans (h.ent j u hj), (g.cells.1 _ _ (by omega)).trans h.a0, (g.cells.1 _ _ (by omega)).trans h.a1, (g.cells.2 _ _ (by omega)).trans h.f0, (g.cells.2 _ _ (by omega)).trans h.f1, (g.cells.1 _ _ (by omega)).trans h.n0, (g.cells.1 _ _ (by omega)).trans h.n1⟩
theorem WrM.start (w : World) (e : En) : WrM w (((w.alloc (.cells e.vals.toArray 66)).alloc (.cells #[.int .i64 0, .int .i64 0] 127)).alloc (.cells #[.int .i64 0, .int .i64 0] 127)) e := by
  refine ⟨(((Grew.refl w).alloc _).alloc _).alloc _, by simp, fun j u hj => ?_, by simp [go_sem], by simp [go_sem], by simp [go_sem], by simp [go_sem], by simp [go_sem], by simp [go_sem]⟩
  have h1 := ((Grew.refl (w.alloc (.cells e.vals.toArray 66))).alloc (.cells #[.int .i64 0, .int .i64 0] 127)).alloc (.cells #[.int .i64 0, .int .i64 0] 127)
  rw [h1.cells.1 w.heap.size j (by simp), cell_block (heap_alloc_new w _)]
  simpa using hj
theorem WrM.only {w W W' : World} {e : En} {T : Nat → Prop} (h : WrM w W e) (g : Only T W W') (hT : ∀ j, T j → j < w.heap.size ∨ w.heap.size + 2 < j) (hG : Grew w W') : WrM w W' e :=
  have l := h.lt
  have n : ∀ i, i ≤ 2 → ¬ T (w.heap.size + i) := fun i hi q => by have := hT _ q; omega
  ⟨hG, Nat.lt_of_lt_of_le h.lt g.size, fun j u hj => (g.cell (by omega) (n 0 (by omega)) _).trans (h.ent j u hj), (g.cell (by omega) (n 1 (by omega)) _).trans h.a0, (g.cell (by omega) (n 1 (by omega)) _).trans h.a1, (g.frozen (by omega) (n 1 (by omega)) _).trans h.f0, (g.frozen (by omega) (n 1 (by omega)) _).trans h.f1, (g.cell (by omega) (n 2 (by omega)) _).trans h.n0, (g.cell (by omega) (n 2 (by omega)) _).trans h.n1⟩
structure WrMC (w W : World) (e : En) : Prop where
  lt : w.heap.size + 2 < W.heap.size
  ent : ∀ j u, e.vals[j]? = some u → W.cell? ⟨w.heap.size, j, none⟩ = some u
  a0 : W.cell? ⟨w.heap.size + 1, 0, none⟩ = some (.int .i64 0)
  a1 : W.cell? ⟨w.heap.size + 1, 1, none⟩ = some (.int .i64 0)
  f0 : W.frozen? ⟨w.heap.size + 1, 0, none⟩ = false
  f1 : W.frozen? ⟨w.heap.size + 1, 1, none⟩ = false
theorem WrM.c {w W : World} {e : En} (h : WrM w W e) : WrMC w W e := ⟨h.lt, h.ent, h.a0, h.a1, h.f0, h.f1⟩
theorem WrMC.only {w W W' : World} {e : En} {T : Nat → Prop} (h : WrMC w W e) (g : Only T W W') (hT : ∀ j, T j → j < w.heap.size ∨ w.heap.size + 2 < j) : WrMC w W' e :=
  have l := h.lt
  have n : ∀ i, i ≤ 2 → ¬ T (w.heap.size + i) := fun i hi q => by have := hT _ q; omega
  ⟨Nat.lt_of_lt_of_le h.lt g.size, fun j u hj => (g.cell (by omega) (n 0 (by omega)) _).trans (h.ent j u hj), (g.cell (by omega) (n 1 (by omega)) _).trans h.a0, (g.cell (by omega) (n 1 (by omega)) _).trans h.a1, (g.frozen (by omega) (n 1 (by omega)) _).trans h.f0, (g.frozen (by omega) (n 1 (by omega)) _).trans h.f1⟩
theorem WrMC.more {w W W' : World} {e : En} (h : WrMC w W e) (g : Grew W W') : WrMC w W' e := h.only (g.only fun _ => False) (fun _ h => h.elim)
structure WrL (u W : World) (cb : Nat) (D : List Pr) : Prop where
  grew : Grew u W
  tab : ∃ G, RtAt W G cb D ∧ ∀ j, G j → u.heap.size ≤ j
theorem WrL.more {u W W' : World} {cb : Nat} {D : List Pr} (h : WrL u W cb D) (g : Grew W W') : WrL u W' cb D := by
  obtain ⟨G, h1, h2⟩ := h.tab
  exact ⟨h.grew.trans g, G, h1.grew g, h2⟩
theorem WrL.step {u W W' : World} {cb : Nat} {D D' : List Pr} (h : WrL u W cb D) {G : Nat → Prop} (h2 : ∀ j, G j → u.heap.size ≤ j) (t : RtTurn W G cb D' W') : WrL u W' cb D' := by
  obtain ⟨t1, G', t2, t3⟩ := t
  refine ⟨((h.grew.only _).then t1).grew h2, G', t2, fun j hj => ?_⟩
  rcases t3 j hj with q | q
  · exact h2 j q
  · exact Nat.le_trans h.grew.size q
theorem MsIs.note {w w' : World} {G : Nat → Prop} {ms tb sb : Nat} {lo hi : ByteArray} {D : List Pr} {S S' : Int → Option An} (h : MsIs w G ms tb sb lo hi D S) (g : Only (fun j => j = sb) w w') (hs : MSeen w' sb S') : MsIs w' G ms tb sb lo hi D S' where
  c0 := (g.cell (cell_lt h.c0) h.ne 0).trans h.c0
  c1 := (g.cell (cell_lt h.c0) h.ne 1).trans h.c1
  c2 := (g.cell (cell_lt h.c0) h.ne 2).trans h.c2
  c3 := (g.cell (cell_lt h.c0) h.ne 3).trans h.c3
  f0 := (g.frozen (cell_lt h.c0) h.ne 0).trans h.f0
  f1 := (g.frozen (cell_lt h.c0) h.ne 1).trans h.f1
  f2 := (g.frozen (cell_lt h.c0) h.ne 2).trans h.f2
  tab := h.tab.kept g fun j hj => (h.apart j hj).2
  seen := hs
  ne := h.ne
  apart := h.apart
theorem MsIs.lay {w : World} {G G' : Nat → Prop} {ms tb cb sb : Nat} {lo hi : ByteArray} {D D' : List Pr} {S : Int → Option An} (h : MsIs w G ms tb sb lo hi D S) (ht : RtAt w G' cb D') (hG : ∀ j, G' j → j ≠ ms ∧ j ≠ sb) : MsIs (w.setCell ⟨ms, 2, none⟩ (.pointer (some ⟨cb, 0, none⟩))) G' ms cb sb lo hi D' S where
  c0 := (World.cell?_setCell_other _ _ _ _ (by intro e; injection e with _ e2; cases e2)).trans h.c0
  c1 := (World.cell?_setCell_other _ _ _ _ (by intro e; injection e with _ e2; cases e2)).trans h.c1
  c2 := World.cell?_setCell_same' _ _ _ (by rw [h.c2]; rfl)
  c3 := (World.cell?_setCell_other _ _ _ _ (by intro e; injection e with _ e2; cases e2)).trans h.c3
  f0 := by rw [World.frozen?_setCell]; exact h.f0
  f1 := by rw [World.frozen?_setCell]; exact h.f1
  f2 := by rw [World.frozen?_setCell]; exact h.f2
  tab := ht.kept (Only.setCell w ⟨ms, 2, none⟩ _) fun j hj => (hG j hj).1
  seen := h.seen.kept (Only.setCell w ⟨ms, 2, none⟩ _) fun e => h.ne e.symm
  ne := h.ne
  apart := hG
theorem Pl.opRight_kind {o : OpR} (h : Pl.opRightB o = true) : o.kind = 1 ∨ o.kind = 2 ∨ o.kind = 3 ∨ o.kind = 4 := by
  unfold Pl.opRightB at h
  by_cases h1 : o.kind = 1
  · exact .inl h1
  · by_cases h2 : o.kind = 2
    · exact .inr (.inl h2)
    · by_cases h3 : o.kind = 3
      · exact .inr (.inr (.inl h3))
      · by_cases h4 : o.kind = 4
        · exact .inr (.inr (.inr h4))
        · rw [if_neg h1, if_neg h2, if_neg h3, if_neg h4, ite_self] at h; cases h
set_option maxRecDepth 100000 in
set_option maxHeartbeats 8000000 in
theorem write23_range (e : En) (w : World) (hA : EnAt w e) (hs : ∀ o ∈ e.ops, o.key.size ≤ 16777216) (at_ : Int) (ms : Nat) (hk : e.kind = 1) (hr : Pl.rightB e = true) (hat : at_ < 0 ∨ 4096 ≤ at_) :
    Calls Tryz.prog 58 #[.pointer (some ⟨ms, 0, none⟩), e.agg, .int .i64 at_] w fun r w' => r = .returned (.tuple #[ansAgg 0 0, .int .i64 1]) ∧ Grew w w' := by
  have hR := fun W (g : Grew w W) => right5_kind e W (hA.grew g) (fun h3 => by omega) hs
  rw [hr] at hR
  have HR := hid hR
  have HW := hid (WrM.start w e)
  obtain ⟨Y, hY⟩ : ∃ Y, Y = (((w.alloc (.cells e.vals.toArray 66)).alloc (.cells #[.int .i64 0, .int .i64 0] 127)).alloc (.cells #[.int .i64 0, .int .i64 0] 127)) := ⟨_, rfl⟩
  rw [← hY] at HW
  have HYE := hid hY
  clear hY hA hs hr hR
  unfold En.agg at *
  obtain ⟨kind, shard, other, server, client, seq, key, upto, part, parts, ops, opsA, opsC, dataA, dataL, dataC⟩ := e
  unfold En.vals at HR HYE ⊢
  dsimp only at *
  unfold ansAgg
  subst hk
  go_enter Tryz.func58, Tryz.ntmps58
  go_wp2_with fail
  rw [← HYE.out]
  refine (HR.out Y HW.out.grew).mono ?_
  rintro e w1 ⟨rfl, hg1⟩
  have HW1 := hid (HW.out.more hg1)
  have hl1 := HW1.out.lt
  have a0 := HW1.out.a0
  have a1 := HW1.out.a1
  have f0 := HW1.out.f0
  have f1 := HW1.out.f1
  have n0 := HW1.out.n0
  have n1 := HW1.out.n1
  clear hg1 HW HR
  rcases hat with ha | ha
  · go_wp2_with fail
    refine bodyPost_ret (v := .tuple #[.agg #[.int .i64 0, .int .i64 0], .int .i64 1]) (by simp [results, Tryz.results58, go_sem, a0, a1, f0, f1]) rfl ⟨rfl, ?_⟩
    exact (HW1.out.grew.setCell (show w.heap.size ≤ w.heap.size + 1 by omega) _).setCell (show w.heap.size ≤ w.heap.size + 1 by omega) _
  · have ha2 : ¬ at_ < 0 := by omega
    have ha3 : 4095 < at_ := by omega
    go_wp2_with fail
    refine bodyPost_ret (v := .tuple #[.agg #[.int .i64 0, .int .i64 0], .int .i64 1]) (by simp [results, Tryz.results58, go_sem, a0, a1, f0, f1]) rfl ⟨rfl, ?_⟩
    exact (HW1.out.grew.setCell (show w.heap.size ≤ w.heap.size + 1 by omega) _).setCell (show w.heap.size ≤ w.heap.size + 1 by omega) _
set_option maxRecDepth 100000 in
set_option maxHeartbeats 8000000 in
theorem write23_in (e : En) {w : World} (hA : EnAt w e) (hs : ∀ o ∈ e.ops, o.key.size ≤ 16777216) (hsv : ∀ o ∈ e.ops, o.val.size ≤ 140737488351232) (at_ : Int) {G : Nat → Prop} {ms sb : Nat} {lo hi : ByteArray} {D P : List Pr} {S : Int → Option An} (h : MsAt w G ms sb lo hi D S) (hTT : Pl.Tt P D) (hk : e.kind = 1) (hr : Pl.rightB e = true) (h0 : 0 ≤ at_) (h1 : at_ < 4096) (hl : lo.size ≤ 16777216) (hh : hi.size ≤ 16777216) (hx : D.length ≤ 1000) :
    Calls Tryz.prog 58 #[.pointer (some ⟨ms, 0, none⟩), e.agg, .int .i64 at_] w fun r w' => r = .returned (.tuple #[ansAgg (Pl.writeG lo hi P S e at_).code (Pl.writeG lo hi P S e at_).at_, .int .i64 0]) ∧ ∃ D', MsTurn w G ms sb lo hi D' (Pl.writeG lo hi P S e at_).S w' ∧ Pl.Tt (Pl.writeG lo hi P S e at_).P D' := by
  have hR := fun W (g : Grew w W) => right5_kind e W (hA.grew g) (fun h3 => by omega) hs
  rw [hr] at hR
  have HR := hid hR
  have hcl := Pl.right_client hk hr
  have hsq := Pl.right_seq hk hr
  have HOPR := hid (Pl.right_ops hk hr)
  have HTW := hid (Pl.tt_write hTT hk hr h0 h1)
  have HRES : Hid (Pl.writeG lo hi P S e at_ = if (e.ops.any fun o => !Pl.hasS lo hi o.key) = true then ⟨3, 0, 0, P, S⟩
    else if askN (S e.client) e.seq = 1 then ⟨Pl.codeW P e.ops at_, at_, 0, Pl.tabW P e.ops at_, noteS S e.client ⟨e.seq, Pl.codeW P e.ops at_, at_⟩⟩
    else if askN (S e.client) e.seq = 2 then ⟨(askA (S e.client) e.seq).1, (askA (S e.client) e.seq).2, 0, P, S⟩
    else ⟨4, 0, 0, P, S⟩) := by
    unfold Hid Pl.writeG
    rw [if_neg (not_not_intro ⟨hk, hr⟩), if_neg (by omega)]
  generalize Pl.writeG lo hi P S e at_ = R at *
  have hcwo := Pl.codeW_or P e.ops at_
  generalize Pl.codeW P e.ops at_ = cw at *
  generalize Pl.tabW P e.ops at_ = tw at *
  have HCW := hid hcwo
  clear hcwo
  have HAS := hid (fun W (g : Grew w W) (o : OpR) (ho : o ∈ e.ops) => ref_has lo hi o.key W hl hh (hs o ho))
  have HMS := hid h
  have HOPS := hid hA.ops
  have HTT := hid hTT
  have HSZ := hid (And.intro hs hsv)
  have HW := hid (WrM.start w e)
  obtain ⟨Y, hY⟩ : ∃ Y, Y = (((w.alloc (.cells e.vals.toArray 66)).alloc (.cells #[.int .i64 0, .int .i64 0] 127)).alloc (.cells #[.int .i64 0, .int .i64 0] 127)) := ⟨_, rfl⟩
  rw [← hY] at HW
  have HYE := hid hY
  clear hY hA hs hsv hr hR h hTT
  unfold En.agg at *
  obtain ⟨kind, shard, other, server, client, seq, key, upto, part, parts, ops, opsA, opsC, dataA, dataL, dataC⟩ := e
  unfold En.vals at HR HYE ⊢
  dsimp only at *
  subst hk
  unfold ansAgg
  go_enter Tryz.func58, Tryz.ntmps58
  go_wp2_with fail
  rw [← HYE.out]
  refine (HR.out Y HW.out.grew).mono ?_
  rintro e w1 ⟨rfl, hg1⟩
  have HW1 := hid (HW.out.more hg1)
  have hl1 := HW1.out.lt
  have a0 := HW1.out.a0
  have a1 := HW1.out.a1
  have f0 := HW1.out.f0
  have f1 := HW1.out.f1
  have n0 := HW1.out.n0
  have n1 := HW1.out.n1
  have d0 : w1.cell? ⟨w.heap.size, 0, none⟩ = some (.int .i64 1) := HW1.out.ent 0 _ rfl
  have d1 : w1.cell? ⟨w.heap.size, 1, none⟩ = some (.int .i64 shard) := HW1.out.ent 1 _ rfl
  have d2 : w1.cell? ⟨w.heap.size, 2, none⟩ = some (.int .i64 other) := HW1.out.ent 2 _ rfl
  have d3 : w1.cell? ⟨w.heap.size, 3, none⟩ = some (.int .i64 server) := HW1.out.ent 3 _ rfl
  have d4 : w1.cell? ⟨w.heap.size, 4, none⟩ = some (.int .i64 client) := HW1.out.ent 4 _ rfl
  have d5 : w1.cell? ⟨w.heap.size, 5, none⟩ = some (.int .i64 seq) := HW1.out.ent 5 _ rfl
  have d6 : w1.cell? ⟨w.heap.size, 6, none⟩ = some (.slice opsA ops.length opsC) := HW1.out.ent 6 _ rfl
  have d7 : w1.cell? ⟨w.heap.size, 7, none⟩ = some (.string key) := HW1.out.ent 7 _ rfl
  have d8 : w1.cell? ⟨w.heap.size, 8, none⟩ = some (.int .i64 upto) := HW1.out.ent 8 _ rfl
  have d9 : w1.cell? ⟨w.heap.size, 9, none⟩ = some (.int .i64 part) := HW1.out.ent 9 _ rfl
  have d10 : w1.cell? ⟨w.heap.size, 10, none⟩ = some (.int .i64 parts) := HW1.out.ent 10 _ rfl
  have d11 : w1.cell? ⟨w.heap.size, 11, none⟩ = some (.slice dataA dataL dataC) := HW1.out.ent 11 _ rfl
  have k0 : ¬ at_ < 0 := by omega
  have k1 : ¬ 4095 < at_ := by omega
  clear hg1 HW HR a0 a1 f0 f1 n0 n1
  go_upto_region 6 with fail
  go_wp2_with fail
  obtain ⟨tb, hI⟩ := HMS.out
  have HI := hid hI
  have hms := cell_lt hI.c0
  have hms2 : ms < w.heap.size := hms
  clear hI hms
  clear d0 d1 d2 d3 d4 d5 d7 d8 d9 d10 d11
  go_loopw [40] (fun i wr => ∃ k : Nat, k ≤ ops.length ∧ i = .int .i64 k ∧ Hid (WrM w wr ⟨1, shard, other, server, client, seq, key, upto, part, parts, ops, opsA, opsC, dataA, dataL, dataC⟩) ∧ Hid (∀ j, j < k → Pl.hasS lo hi (opRAt ops j).key = true)) (fun i _ => ops.length - (intOf i).toNat)
  case atStart => exact ⟨0, Nat.zero_le _, rfl, HW1.out, fun j hj => absurd hj (Nat.not_lt_zero j)⟩
  case round =>
    obtain ⟨k, hk1, rfl, HWr, HAll⟩ := hrel
    by_cases hlt : k < ops.length
    · rcases HOPS.out with h0' | ⟨b, off, rfl, hb, hRow⟩
      · rw [h0'] at hlt; simp at hlt
      have hG := HWr.out.grew
      have q0 := (hG.cells.1 b (off + k * 5) hb).trans (hRow.kind k hlt)
      have q1 := (hG.cells.1 b (off + k * 5 + 1) hb).trans (hRow.key k hlt)
      have q2 := (hG.cells.1 b (off + k * 5 + 2) hb).trans (hRow.val k hlt)
      have q3 := (hG.cells.1 b (off + k * 5 + 3) hb).trans (hRow.old k hlt)
      have q4 := (hG.cells.1 b (off + k * 5 + 4) hb).trans (hRow.ver k hlt)
      have hbr := Nat.lt_of_lt_of_le hb hG.size
      have HM := hid (opRAt_mem ops k hlt)
      have HHK := hid (fun W (g : Grew w W) => HAS.out W g _ (opRAt_mem ops k hlt))
      have HNX := hid (show Pl.hasS lo hi (opRAt ops k).key = true → ∀ j, j < k + 1 → Pl.hasS lo hi (opRAt ops j).key = true from fun h j hj => by
        by_cases hjk : j < k
        · exact HAll.out j hjk
        · obtain rfl : j = k := by omega
          exact h)
      have HNO := hid (show Pl.hasS lo hi (opRAt ops k).key = false → (ops.any fun o => !Pl.hasS lo hi o.key) = true from fun h => List.any_eq_true.2 ⟨_, opRAt_mem ops k hlt, by rw [h]; rfl⟩)
      rw [Pl.hasR_eq] at HHK
      have hk9 : k < 1000000 := by omega
      clear hRow hG HAll
      generalize opRAt ops k = c at *
      obtain ⟨c0, c1, c2, c3, c4⟩ := c
      dsimp only at *
      generalize Pl.hasS lo hi c1 = hv at *
      go_upto_region 9 with fail
      obtain ⟨X, hX⟩ : ∃ X, X = wr.alloc (.cells #[.int .i64 c0, .string c1, .string c2, .string c3, .int .i64 c4] 125) := ⟨_, rfl⟩
      have gX : Grew wr X := by rw [hX]; exact (Grew.refl wr).alloc _
      have x1 : X.cell? ⟨wr.heap.size, 1, none⟩ = some (.string c1) := by rw [hX]; simp [go_sem]
      have hxs : wr.heap.size < X.heap.size := by rw [hX]; simp
      have HWX := hid (HWr.out.more gX)
      rw [← hX]
      have X1 := wd_cell x1
      have M0 := wd_cell ((HWX.out.grew.cells.1 _ 0 hms2).trans HI.out.c0)
      have M1 := wd_cell ((HWX.out.grew.cells.1 _ 1 hms2).trans HI.out.c1)
      have HHX := hid (fun W (g : Grew X W) => HHK.out W (HWX.out.grew.trans g))
      have hmsX := Nat.lt_of_lt_of_le hms2 HWX.out.grew.size
      clear hX gX x1 q0 q1 q2 q3 q4 HHK
      refine wp_region_still 8 (by kernel_rfl) (by kernel_rfl) (fun _ _ => rfl) ?_
      repeat (first
    | (refine mixS_plain (by rfl) (by rfl) (by rfl) (by first | exact Grew.refl | exact fun _ => rfl) (by rfl) ?_; intro K hK; go_big_quiet_op; go_big_quiet_on)
    | (refine mixS_call (by rfl) (by rfl) (by rfl) (by rfl) (fun _ => by kernel_rfl) (fun u hu => HHX.out u hu) ?_; simp only [Act.put, List.setIfInBounds_toArray, List.set_cons_zero, List.set_cons_succ])
    | (refine mixS_skip (by rfl) (by rfl) (by rfl) ?_; simp only [Act.put, List.setIfInBounds_toArray, List.set_cons_zero, List.set_cons_succ]))
      refine mixS_nil ?_
      intro x hgx
      have HWx := hid (HWX.out.more hgx)
      clear X1 M0 M1 HHX hgx
      dsimp only [List.drop]
      cases hv with
      | true =>
        go_wp2_with fail
        go_roundw
        case rel => exact ⟨k + 1, by omega, by go_num, HWx.out, HNX.out rfl⟩
        case measure => simp [intOf]; omega
      | false =>
        obtain rfl : R = ⟨3, 0, 0, P, S⟩ := HRES.out.trans (if_pos (HNO.out rfl))
        have a0 := HWx.out.a0
        have a1 := HWx.out.a1
        have f0 := HWx.out.f0
        have f1 := HWx.out.f1
        clear HRES HNO HNX
        go_wp2_with fail
        refine bodyPost_ret (v := .tuple #[.agg #[.int .i64 3, .int .i64 0], .int .i64 0]) (by simp [results, Tryz.results58, go_sem, a0, a1, f0, f1]) rfl ⟨rfl, ?_⟩
        exact ⟨D, MsTurn.of_grew HMS.out ((HWx.out.grew.setCell (show w.heap.size ≤ w.heap.size + 1 by omega) _).setCell (show w.heap.size ≤ w.heap.size + 1 by omega) _), HTT.out⟩
    · have hkn : k = ops.length := by omega
      subst hkn
      have hnn : ¬ (ops.any fun o => !Pl.hasS lo hi o.key) = true := fun h => by
        obtain ⟨o, ho, hq⟩ := List.any_eq_true.1 h
        obtain ⟨j, hj, rfl⟩ := List.getElem_of_mem ho
        have := HAll.out j hj
        rw [opRAt_eq ops j hj] at this
        rw [this] at hq; cases hq
      have HR2 := hid (HRES.out.trans (if_neg hnn))
      have HASK := hid (fun W (g : Grew wr W) => ask22_any (HI.out.seen.grew (HWr.out.grew.trans g)) client seq hcl.1 hcl.2)
      have B0 := wd_cell ((HWr.out.grew.cells.1 _ 3 hms2).trans HI.out.c3)
      have B1 := wd_cell (HWr.out.ent 4 _ rfl)
      have B2 := wd_cell (HWr.out.ent 5 _ rfl)
      have hlr := HWr.out.lt
      have hmsr := Nat.lt_of_lt_of_le hms2 HWr.out.grew.size
      have HAN : Hid (askN (S client) seq = 1 ∨ askN (S client) seq = 2 ∨ askN (S client) seq = 3) := by
        unfold Hid askN
        cases S client with
        | none => exact .inl rfl
        | some a => dsimp only; split; exact .inl rfl; split; exact .inr (.inl rfl); exact .inr (.inr rfl)
      have HNT := hid (show askN (S client) seq = 1 → askN (S client) seq = 1 from id)
      clear hnn HAll HRES
      generalize hgn : askN (S client) seq = an at HASK HR2 HAN
      have HGN := hid hgn
      generalize (askA (S client) seq).1 = ac at *
      generalize (askA (S client) seq).2 = aa at *
      clear hgn HNT
      unfold ansAgg at HASK
      go_wp2_with fail
      refine wp_region_mixS 14 [12, 13] (Grew wr) Grew (JV [⟨12, 13, [.int .i64 ac, .int .i64 aa]⟩] wr) (fun f a => a.put (some 11) (f 12)) (by kernel_rfl) (by kernel_rfl) (fun _ _ => rfl) (JV.start _ wr _) (fun _ _ _ h => h.grew) Grew.refl (fun _ _ _ _ h g => h.more g) ?_
      repeat (first
    | (refine mixS_loose (by rfl) (by rfl) ?_)
    | (refine mixS_plain (by rfl) (by rfl) (by rfl) (by first | exact Grew.refl | exact fun _ => rfl) (by rfl) ?_; intro K hK; go_big_quiet_op; go_big_quiet_on)
    | (refine mixS_call (by rfl) (by rfl) (by rfl) (by rfl) (fun _ => by kernel_rfl) (fun u hu => HASK.out u hu) ?_; simp only [Act.put, List.setIfInBounds_toArray, List.set_cons_zero, List.set_cons_succ])
    | (refine mixS_skip (by rfl) (by rfl) (by rfl) ?_; simp only [Act.put, List.setIfInBounds_toArray, List.set_cons_zero, List.set_cons_succ]))
      refine mixS_done (by rfl) ⟨⟨loose_of rfl (fun _ a => a) (fun _ _ => rfl) (fun _ => rfl) ?_, loose_of rfl (fun f a => a.put (some 11) (f 12)) (fun _ _ => rfl) (fun _ => rfl) ?_, trivial⟩, ?_⟩
      · intro L f u hJ hL hd
        clear HASK B0 B1 B2
        go_simp
        exact hJ.alloc (by rfl) (V := ⟨12, 13, [.int .i64 ac, .int .i64 aa]⟩) (by simp) hL [.int .i64 0, .int .i64 0] rfl _
      · intro L f u hJ hL hd
        clear HASK B0 B1 B2
        obtain ⟨m, x, y, hm, k0, k1, f0, f1⟩ := hJ.two (V := ⟨12, 13, [.int .i64 ac, .int .i64 aa]⟩) (by simp) (hd 12 rfl (by decide)) rfl
        dsimp only at hm
        rw [hm]
        go_simp
        exact hJ.store (by rfl) (V := ⟨12, 13, [.int .i64 ac, .int .i64 aa]⟩) (by simp) (hd 12 rfl (by decide)) hm
      intro f u hJ
      clear HASK B0 B1 B2
      obtain ⟨m8, q8, n8, l8, v0, v1, _, _⟩ := (hJ.full (V := ⟨12, 13, [.int .i64 ac, .int .i64 aa]⟩) (by simp) rfl).two
      dsimp only at q8
      have HW4 := hid (HWr.out.more hJ.grew)
      clear hJ HWr hlr
      dsimp only [List.drop]
      simp only [Act.put, List.setIfInBounds_toArray, List.set_cons_succ, List.set_cons_zero]
      rw [q8]
      clear q8
      have a0 := HW4.out.a0
      have a1 := HW4.out.a1
      have f0 := HW4.out.f0
      have f1 := HW4.out.f1
      rcases HAN.out with rfl | rfl | rfl
      · clear HAN a0 a1 f0 f1
        obtain rfl := HR2.out.trans (if_pos rfl)
        clear HR2
        have HC := hid (fun W (g : Grew w W) => copy21_any (HI.out.tab.grew g) (by omega))
        have t2 := (HW4.out.grew.cells.1 _ 2 hms2).trans HI.out.c2
        go_wp2_with fail
        refine (HC.out u HW4.out.grew).mono ?_
        rintro e w5 ⟨⟨cb, G5, rfl, hC5, hG5⟩, hg5⟩
        have HW5 := hid (HW4.out.more hg5)
        have HL5 := hid (show WrL u w5 cb D from ⟨hg5, G5, hC5, hG5⟩)
        have hl5 := HW5.out.lt
        have e6 : w5.cell? ⟨w.heap.size, 6, none⟩ = some (.slice opsA ops.length opsC) := HW5.out.ent 6 _ rfl
        clear HC t2 hC5 hG5 hg5
        go_wp2_with fail
        go_loopw [14, 80] (fun c i wr => ∃ (k : Nat) (Dk : List Pr) (ck : Int), k ≤ ops.length ∧ i = .int .i64 k ∧ c = .int .i64 ck ∧ Hid (WrM w wr ⟨1, shard, other, server, client, seq, key, upto, part, parts, ops, opsA, opsC, dataA, dataL, dataC⟩) ∧ Hid (WrL u wr cb Dk) ∧ Hid (Pl.refRun (ops.take k) (at_ + 1) (D, 1) = (Dk, ck))) (fun _ i _ => ops.length - (intOf i).toNat)
        case atStart => exact ⟨0, D, 1, Nat.zero_le _, rfl, rfl, HW5.out, HL5.out, rfl⟩
        case round =>
          obtain ⟨k, Dk, ck, hk1, rfl, rfl, HWr, HLr, HRUN⟩ := hrel
          by_cases hlt : k < ops.length
          · rcases HOPS.out with h0' | ⟨b, off, rfl, hb, hRow⟩
            · rw [h0'] at hlt; simp at hlt
            have hG := HWr.out.grew
            have q0 := (hG.cells.1 b (off + k * 5) hb).trans (hRow.kind k hlt)
            have q1 := (hG.cells.1 b (off + k * 5 + 1) hb).trans (hRow.key k hlt)
            have q2 := (hG.cells.1 b (off + k * 5 + 2) hb).trans (hRow.val k hlt)
            have q3 := (hG.cells.1 b (off + k * 5 + 3) hb).trans (hRow.old k hlt)
            have q4 := (hG.cells.1 b (off + k * 5 + 4) hb).trans (hRow.ver k hlt)
            have hbr := Nat.lt_of_lt_of_le hb hG.size
            have HKD := hid (Pl.opRight_kind (HOPR.out _ (opRAt_mem ops k hlt)))
            have HZ := hid (show (opRAt ops k).key.size ≤ 16777216 ∧ (opRAt ops k).val.size ≤ 140737488351232 from ⟨HSZ.out.1 _ (opRAt_mem ops k hlt), HSZ.out.2 _ (opRAt_mem ops k hlt)⟩)
            have hsn := Pl.refRun_snoc ops (at_ + 1) (D, 1) k hlt
            rw [HRUN.out] at hsn
            have hdl : Dk.length ≤ 1000000 := by
              have := Pl.refRun_len (ops.take k) (at_ + 1) (D, 1)
              rw [HRUN.out, List.length_take] at this
              dsimp only at this; omega
            have HSN := hid hsn
            have HDL := hid hdl
            have hk9 : k < 1000000 := by omega
            clear hRow hG hsn hdl HRUN
            generalize opRAt ops k = c at *
            obtain ⟨c0, c1, c2, c3, c4⟩ := c
            dsimp only at *
            go_upto_region 22 with fail
            obtain ⟨X, hX⟩ : ∃ X, X = wr.alloc (.cells #[.int .i64 c0, .string c1, .string c2, .string c3, .int .i64 c4] 125) := ⟨_, rfl⟩
            have gX : Grew wr X := by rw [hX]; exact (Grew.refl wr).alloc _
            have x0 : X.cell? ⟨wr.heap.size, 0, none⟩ = some (.int .i64 c0) := by rw [hX]; simp [go_sem]
            have x1 : X.cell? ⟨wr.heap.size, 1, none⟩ = some (.string c1) := by rw [hX]; simp [go_sem]
            have x2 : X.cell? ⟨wr.heap.size, 2, none⟩ = some (.string c2) := by rw [hX]; simp [go_sem]
            have x3 : X.cell? ⟨wr.heap.size, 3, none⟩ = some (.string c3) := by rw [hX]; simp [go_sem]
            have x4 : X.cell? ⟨wr.heap.size, 4, none⟩ = some (.int .i64 c4) := by rw [hX]; simp [go_sem]
            have hxs : wr.heap.size < X.heap.size := by rw [hX]; simp
            rw [← hX]
            have HWX := hid (HWr.out.more gX)
            have HLX := hid (HLr.out.more gX)
            obtain ⟨ob, hob⟩ : ∃ ob, ob = wr.heap.size := ⟨_, rfl⟩
            rw [← hob] at x0 x1 x2 x3 x4 hxs ⊢
            clear hX gX hob q0 q1 q2 q3 q4 HWr HLr
            obtain ⟨GX, hTX, hGX⟩ := HLX.out.tab
            have HGT := hid (get21_any hTX.read HDL.out c1)
            clear hTX hGX
            go_wp2_with fail
            refine HGT.out.mono ?_
            rintro e w6 ⟨rfl, hg6⟩
            have y0 := (hg6.cells.1 _ 0 hxs).trans x0
            have y1 := (hg6.cells.1 _ 1 hxs).trans x1
            have y2 := (hg6.cells.1 _ 2 hxs).trans x2
            have y3 := (hg6.cells.1 _ 3 hxs).trans x3
            have y4 := (hg6.cells.1 _ 4 hxs).trans x4
            have hys := Nat.lt_of_lt_of_le hxs hg6.size
            have HW6 := hid (HWX.out.more hg6)
            have HL6 := hid (HLX.out.more hg6)
            have HBD : Hid (Pl.refBad Dk ⟨c0, c1, c2, c3, c4⟩ = if c0 = 3 then !((Dk.find? (Pl.isK c1)).isSome && decide (((Dk.find? (Pl.isK c1)).getD Pr.none).val.toList = c3.toList)) else if c0 = 4 then !decide (((Dk.find? (Pl.isK c1)).getD Pr.none).ver = c4) else false) := rfl
            have HOP : Hid (Pl.refOp Dk ⟨c0, c1, c2, c3, c4⟩ (at_ + 1) = if c0 = 1 then Pl.put21 Dk ⟨c1, c2, at_ + 1⟩ else if c0 = 2 then Dk.eraseP (Pl.isK c1) else if c0 = 3 then Pl.put21 Dk ⟨c1, c2, at_ + 1⟩ else Dk) := rfl
            clear hg6 HGT x0 x1 x2 x3 x4 hxs HWX HLX
            generalize (Dk.find? (Pl.isK c1)).isSome = th at *
            generalize (Dk.find? (Pl.isK c1)).getD Pr.none = p at *
            obtain ⟨pk, pv, pn⟩ := p
            generalize Pl.refBad Dk ⟨c0, c1, c2, c3, c4⟩ = bd at *
            generalize Pl.refOp Dk ⟨c0, c1, c2, c3, c4⟩ (at_ + 1) = D1 at *
            unfold Pr.agg
            dsimp only at *
            go_upto_region 23 with fail
            obtain ⟨Z, hZ⟩ : ∃ Z, Z = w6.alloc (.cells #[.string pk, .string pv, .int .i64 pn] 83) := ⟨_, rfl⟩
            have gZ : Grew w6 Z := by rw [hZ]; exact (Grew.refl w6).alloc _
            have p1 : Z.cell? ⟨w6.heap.size, 1, none⟩ = some (.string pv) := by rw [hZ]; simp [go_sem]
            have p2 : Z.cell? ⟨w6.heap.size, 2, none⟩ = some (.int .i64 pn) := by rw [hZ]; simp [go_sem]
            have hps : w6.heap.size < Z.heap.size := by rw [hZ]; simp
            have z0 := (gZ.cells.1 _ 0 hys).trans y0
            have z1 := (gZ.cells.1 _ 1 hys).trans y1
            have z2 := (gZ.cells.1 _ 2 hys).trans y2
            have z3 := (gZ.cells.1 _ 3 hys).trans y3
            have z4 := (gZ.cells.1 _ 4 hys).trans y4
            have hzs := Nat.lt_of_lt_of_le hys gZ.size
            have HWZ := hid (HW6.out.more gZ)
            have HLZ := hid (HL6.out.more gZ)
            rw [← hZ]
            clear hZ gZ y0 y1 y2 y3 y4 hys HW6 HL6
            obtain ⟨GZ, hTZ, hGZ⟩ := HLZ.out.tab
            have HPUT := hid (put21_any hTZ HDL.out c1 c2 (at_ + 1) HZ.out.1 HZ.out.2)
            have HDEL := hid (del21_any hTZ HDL.out c1)
            have HGZ := hid hGZ
            have hl : w.heap.size + 2 < u.heap.size := HW4.out.lt
            have HTURN := hid (fun (W' : World) (D' : List Pr) (t : RtTurn Z GZ cb D' W') => show WrM w W' ⟨1, shard, other, server, client, seq, key, upto, part, parts, ops, some ⟨b, off, none⟩, opsC, dataA, dataL, dataC⟩ ∧ WrL u W' cb D' from
              have h1 := HLZ.out.step HGZ.out t
              ⟨HWZ.out.only t.1 (fun j hj => .inr (by have := HGZ.out j hj; omega)) (HW4.out.grew.trans h1.grew), h1⟩)
            have hwr : IntKind.i64.wrap (at_ + 1) = at_ + 1 := IntWalk.i64_in _ (by omega)
            clear hTZ hGZ
            rcases HKD.out with rfl | rfl | rfl | rfl
            · obtain rfl := HOP.out.trans (if_pos rfl)
              obtain rfl : bd = false := HBD.out.trans ((if_neg (by decide)).trans (if_neg (by decide)))
              have HS2 := hid (HSN.out.trans (show _ = (_, ck) from by rw [if_neg (by decide)]))
              clear HBD HOP HKD HSN
              go_wp2_with fail
              refine HPUT.out.mono ?_
              rintro e w8 ⟨rfl, ht⟩
              obtain ⟨hw8, hl8⟩ := HTURN.out w8 _ ht
              have HW8 := hid hw8
              have HL8 := hid hl8
              clear hw8 hl8 ht HTURN HPUT HDEL z0 z1 z2 z3 z4 p1 p2
              go_wp2_with fail
              go_roundw
              case rel => exact ⟨k + 1, _, ck, by omega, by go_num, rfl, HW8.out, HL8.out, HS2.out⟩
              case measure => simp [intOf]; omega
            · obtain rfl := HOP.out.trans ((if_neg (by decide)).trans (if_pos rfl))
              obtain rfl : bd = false := HBD.out.trans ((if_neg (by decide)).trans (if_neg (by decide)))
              have HS2 := hid (HSN.out.trans (show _ = (_, ck) from by rw [if_neg (by decide)]))
              clear HBD HOP HKD HSN
              go_wp2_with fail
              refine HDEL.out.mono ?_
              rintro e w8 ⟨rfl, ht⟩
              obtain ⟨hw8, hl8⟩ := HTURN.out w8 _ ht
              have HW8 := hid hw8
              have HL8 := hid hl8
              clear hw8 hl8 ht HTURN HPUT HDEL z0 z1 z2 z3 z4 p1 p2
              go_wp2_with fail
              go_roundw
              case rel => exact ⟨k + 1, _, ck, by omega, by go_num, rfl, HW8.out, HL8.out, HS2.out⟩
              case measure => simp [intOf]; omega
            · obtain rfl := HOP.out.trans ((if_neg (by decide)).trans ((if_neg (by decide)).trans (if_pos rfl)))
              have HB3 := hid (HBD.out.trans (if_pos rfl))
              clear HBD HOP HKD
              by_cases heq : pv.toList = c3.toList
              · have hb1 : (pv.toList == c3.toList) = true := by rw [heq]; simp
                have hb2 : (pv.toList != c3.toList) = false := by rw [heq]; simp
                rw [decide_eq_true heq] at HB3
                clear heq
                cases th with
                | true =>
                  obtain rfl : bd = false := HB3.out
                  have HS2 := hid (HSN.out.trans (show _ = (_, ck) from by rw [if_neg (by decide)]))
                  clear HB3 HSN
                  go_wp2_with fail
                  refine HPUT.out.mono ?_
                  rintro e w8 ⟨rfl, ht⟩
                  obtain ⟨hw8, hl8⟩ := HTURN.out w8 _ ht
                  have HW8 := hid hw8
                  have HL8 := hid hl8
                  clear hw8 hl8 ht HTURN HPUT HDEL z0 z1 z2 z3 z4 p1 p2
                  go_wp2_with fail
                  go_roundw
                  case rel => exact ⟨k + 1, _, ck, by omega, by go_num, rfl, HW8.out, HL8.out, HS2.out⟩
                  case measure => simp [intOf]; omega
                | false =>
                  obtain rfl : bd = true := HB3.out
                  have HS2 := hid (HSN.out.trans (show _ = (_, (2 : Int)) from by rw [if_pos rfl]))
                  clear HB3 HSN
                  go_wp2_with fail
                  refine HPUT.out.mono ?_
                  rintro e w8 ⟨rfl, ht⟩
                  obtain ⟨hw8, hl8⟩ := HTURN.out w8 _ ht
                  have HW8 := hid hw8
                  have HL8 := hid hl8
                  clear hw8 hl8 ht HTURN HPUT HDEL z0 z1 z2 z3 z4 p1 p2
                  go_wp2_with fail
                  go_roundw
                  case rel => exact ⟨k + 1, _, 2, by omega, by go_num, rfl, HW8.out, HL8.out, HS2.out⟩
                  case measure => simp [intOf]; omega
              · have hb1 : (pv.toList == c3.toList) = false := beq_eq_false_iff_ne.2 heq
                have hb2 : (pv.toList != c3.toList) = true := by rw [bne, hb1]; rfl
                rw [decide_eq_false heq, Bool.and_false] at HB3
                clear heq
                obtain rfl : bd = true := HB3.out
                have HS2 := hid (HSN.out.trans (show _ = (_, (2 : Int)) from by rw [if_pos rfl]))
                clear HB3 HSN
                cases th with
                | true =>
                  go_wp2_with fail
                  refine HPUT.out.mono ?_
                  rintro e w8 ⟨rfl, ht⟩
                  obtain ⟨hw8, hl8⟩ := HTURN.out w8 _ ht
                  have HW8 := hid hw8
                  have HL8 := hid hl8
                  clear hw8 hl8 ht HTURN HPUT HDEL z0 z1 z2 z3 z4 p1 p2
                  go_wp2_with fail
                  go_roundw
                  case rel => exact ⟨k + 1, _, 2, by omega, by go_num, rfl, HW8.out, HL8.out, HS2.out⟩
                  case measure => simp [intOf]; omega
                | false =>
                  go_wp2_with fail
                  refine HPUT.out.mono ?_
                  rintro e w8 ⟨rfl, ht⟩
                  obtain ⟨hw8, hl8⟩ := HTURN.out w8 _ ht
                  have HW8 := hid hw8
                  have HL8 := hid hl8
                  clear hw8 hl8 ht HTURN HPUT HDEL z0 z1 z2 z3 z4 p1 p2
                  go_wp2_with fail
                  go_roundw
                  case rel => exact ⟨k + 1, _, 2, by omega, by go_num, rfl, HW8.out, HL8.out, HS2.out⟩
                  case measure => simp [intOf]; omega
            · obtain rfl := HOP.out.trans ((if_neg (by decide)).trans ((if_neg (by decide)).trans (if_neg (by decide))))
              have HB3 := hid (HBD.out.trans ((if_neg (by decide)).trans (if_pos rfl)))
              clear HBD HOP HKD HPUT HDEL HTURN
              by_cases heq : pn = c4
              · rw [decide_eq_true heq] at HB3
                subst heq
                obtain rfl : bd = false := HB3.out
                have HS2 := hid (HSN.out.trans (show _ = (_, ck) from by rw [if_neg (by decide)]))
                clear HB3 HSN
                have HS2W := hid (HWZ.out)
                have HW8 := HWZ
                have HL8 := HLZ
                go_wp2_with fail
                go_roundw
                case rel => exact ⟨k + 1, _, ck, by omega, by go_num, rfl, HW8.out, HL8.out, HS2.out⟩
                case measure => simp [intOf]; omega
              · rw [decide_eq_false heq] at HB3
                have hb1 : (pn == c4) = false := beq_eq_false_iff_ne.2 heq
                obtain rfl : bd = true := HB3.out
                have HS2 := hid (HSN.out.trans (show _ = (_, (2 : Int)) from by rw [if_pos rfl]))
                clear HB3 HSN
                have HS2W := hid (HWZ.out)
                have HW8 := HWZ
                have HL8 := HLZ
                go_wp2_with fail
                go_roundw
                case rel => exact ⟨k + 1, _, 2, by omega, by go_num, rfl, HW8.out, HL8.out, HS2.out⟩
                case measure => simp [intOf]; omega
          · have hkn : k = ops.length := by omega
            subst hkn
            have hr := HRUN.out
            rw [List.take_length] at hr
            have htw := HTW.out
            have htab : Pl.refTab D ops at_ = if ck = 1 then Dk else D := by unfold Pl.refTab; rw [hr]
            rw [htab, hr] at htw
            obtain ⟨hc1, hc2⟩ := htw
            dsimp only at hc1
            subst hc1
            have HC2 := hid hc2
            have HRT := hid HLr.out.tab
            have HUW := hid (And.intro HW4.out.lt HLr.out.grew.size)
            have t2 := (HWr.out.grew.cells.1 _ 2 hms2).trans HI.out.c2
            have r2 := (HWr.out.grew.cells.2 _ 2 hms2).trans HI.out.f2
            have hmr := Nat.lt_of_lt_of_le hms2 HWr.out.grew.size
            have HIr := hid (HI.out.kept (HWr.out.grew.only fun _ => False) (fun _ _ h => h) (fun h => h) (fun h => h))
            clear hr htab hc2
            rcases HCW.out with rfl | rfl
            · rw [if_pos rfl] at HC2
              have HT7 := HC2
              obtain ⟨Gk, hTk, hGk⟩ := HRT.out
              go_upto_region 39 with fail
              obtain ⟨V, hV⟩ : ∃ V, V = wr.setCell ⟨ms, 2, none⟩ (.pointer (some ⟨cb, 0, none⟩)) := ⟨_, rfl⟩
              have HO7 := hid (show Only (fun j => j = ms) w V from by rw [hV]; exact (HWr.out.grew.only _).then (Only.setCell wr ⟨ms, 2, none⟩ _))
              have HM7 := hid (show MsIs V Gk ms cb sb lo hi Dk S from by
                rw [hV]
                have hsb : sb < w.heap.size := HI.out.seen.lt
                exact HIr.out.lay hTk (fun j hj => ⟨by have := hGk j hj; have := HUW.out.1; omega, by have := hGk j hj; have := HUW.out.1; omega⟩))
              have HW7 := hid (show WrMC w V ⟨1, shard, other, server, client, seq, key, upto, part, parts, ops, opsA, opsC, dataA, dataL, dataC⟩ from by
                have hs : Only (fun j => j = ms) wr V := by rw [hV]; exact Only.setCell wr ⟨ms, 2, none⟩ _
                exact HWr.out.c.only hs (fun j (hj : j = ms) => .inl (by omega)))
              have HG7 := hid (show ∀ j, Gk j → (G j ∧ j < w.heap.size) ∨ u.heap.size ≤ j from fun j hj => .inr (hGk j hj))
              have hvs : wr.heap.size = V.heap.size := by rw [hV]; simp
              rw [← hV, hvs]
              clear hvs hV t2 r2 hmr hTk hGk HRT HIr
              obtain ⟨X8, hX8⟩ : ∃ X8, X8 = V.alloc (.cells #[.int .i64 1, .int .i64 at_] 127) := ⟨_, rfl⟩
              have g8 : Grew V X8 := by rw [hX8]; exact (Grew.refl V).alloc _
              have b0 : X8.cell? ⟨V.heap.size, 0, none⟩ = some (.int .i64 1) := by rw [hX8]; simp [go_sem]
              have b1 : X8.cell? ⟨V.heap.size, 1, none⟩ = some (.int .i64 at_) := by rw [hX8]; simp [go_sem]
              have hb8 : V.heap.size < X8.heap.size := by rw [hX8]; simp
              rw [← hX8]
              have HMX := hid (HM7.out.kept (g8.only fun _ => False) (fun _ _ h => h) (fun h => h) (fun h => h))
              have HWX := hid (HW7.out.more g8)
              have HOX := hid (((HO7.out.mono (T := fun j => j = ms ∨ j = sb ∨ G j) (fun j hj => .inl (.inl hj)))).grewT g8)
              have HNT := hid (fun W (g : Grew X8 W) => note22_any (HMX.out.seen.grew g) client ⟨seq, 1, at_⟩ hcl.1 hcl.2 ⟨hsq.1, hsq.2.1, by simp, h0, h1⟩ HGN.out)
              have C0 := wd_cell HMX.out.c3
              have C1 := wd_cell (HWX.out.ent 4 _ rfl)
              have C2 := wd_cell (HWX.out.ent 5 _ rfl)
              have C3 := wd_cell b0
              have C4 := wd_cell b1
              have hmX := cell_lt HMX.out.c0
              have hlX := HWX.out.lt
              obtain ⟨vb, hvb⟩ : ∃ vb, vb = V.heap.size := ⟨_, rfl⟩
              rw [← hvb] at b0 b1 hb8 C3 C4 ⊢
              have HVB := hid (show w.heap.size + 2 < vb from by rw [hvb]; exact HW7.out.lt)
              unfold ansAgg at HNT
              clear hX8 g8 hvb HM7 HW7 HO7
              refine wp_region_still 9 (by kernel_rfl) (by kernel_rfl) (fun _ _ => rfl) ?_
              repeat (first
    | (refine mixS_plain (by rfl) (by rfl) (by rfl) (by first | exact Grew.refl | exact fun _ => rfl) (by rfl) ?_; intro K hK; go_big_quiet_op; go_big_quiet_on)
    | (refine mixS_skip (by rfl) (by rfl) (by rfl) ?_; simp only [Act.put, List.setIfInBounds_toArray, List.set_cons_zero, List.set_cons_succ]))
              refine mixS_done (by rfl) ?_
              intro x hgx
              have HMx := hid (HMX.out.kept (hgx.only fun _ => False) (fun _ _ h => h) (fun h => h) (fun h => h))
              have HWx := hid (HWX.out.more hgx)
              have HOx := hid (HOX.out.grewT hgx)
              have HNx := hid (HNT.out x hgx)
              have b0 := (hgx.cells.1 _ 0 hb8).trans b0
              have b1 := (hgx.cells.1 _ 1 hb8).trans b1
              have hbx := Nat.lt_of_lt_of_le hb8 hgx.size
              clear C0 C1 C2 C3 C4 hgx HMX HWX HOX HNT hb8 hmX hlX
              dsimp only [List.drop]
              go_wp2_with fail
              refine HNx.out.mono ?_
              rintro e w9 ⟨rfl, hO9, hS9⟩
              have hsb : sb < w.heap.size := HI.out.seen.lt
              have hlx := HWx.out.lt
              have n1 : w.heap.size + 1 ≠ sb := by omega
              have n2 : vb ≠ sb := by have := HVB.out; omega
              have a0 := (hO9.cell (by omega) n1 0).trans HWx.out.a0
              have a1 := (hO9.cell (by omega) n1 1).trans HWx.out.a1
              have f0 := (hO9.frozen (by omega) n1 0).trans HWx.out.f0
              have f1 := (hO9.frozen (by omega) n1 1).trans HWx.out.f1
              have b0 := (hO9.cell hbx n2 0).trans b0
              have b1 := (hO9.cell hbx n2 1).trans b1
              have HM9 := hid (HMx.out.note hO9 hS9)
              have HO9 := hid (HOx.out.trans hO9 (fun j hj => .inl (.inr (.inl hj))))
              have hz9 := hO9.size
              have hb9 : vb < w9.heap.size := by omega
              have hl9 : w.heap.size + 2 < w9.heap.size := by omega
              clear hO9 hS9 HNx HMx HWx HOx n1 n2 hlx hbx hz9
              go_wp2_with fail
              refine bodyPost_ret (v := .tuple #[.agg #[.int .i64 1, .int .i64 at_], .int .i64 0]) (by simp [results, Tryz.results58, go_sem, a0, a1, f0, f1]) rfl ⟨rfl, ?_⟩
              have hset : Only (fun j => j = w.heap.size + 1) w9 ((w9.setCell ⟨w.heap.size + 1, 0, none⟩ (.int .i64 1)).setCell ⟨w.heap.size + 1, 1, none⟩ (.int .i64 at_)) := (Only.setCell w9 ⟨w.heap.size + 1, 0, none⟩ _).then (Only.setCell _ ⟨w.heap.size + 1, 1, none⟩ _)
              exact ⟨_, ⟨HO9.out.trans hset (fun j (hj : j = w.heap.size + 1) => .inr (by omega)), _, ⟨_, HM9.out.kept hset (fun j hj (e : j = w.heap.size + 1) => by have := HG7.out j hj; have := HUW.out.1; omega) (fun (e : ms = w.heap.size + 1) => by omega) (fun (e : sb = w.heap.size + 1) => by omega)⟩, fun j hj => by
                rcases HG7.out j hj with q | q
                · exact .inl q.1
                · exact .inr (by have := HUW.out.1; omega)⟩, HT7.out⟩
            · rw [if_neg (by decide)] at HC2
              have HT7 := HC2
              have HO7 := hid (HWr.out.grew.only fun j => j = ms)
              have HM7 := HIr
              have HW7 := hid HWr.out.c
              have HG7 := hid (show ∀ j, G j → (G j ∧ j < w.heap.size) ∨ u.heap.size ≤ j from fun j hj => .inl ⟨hj, HI.out.tab.lt j hj⟩)
              clear t2 r2 hmr HRT HIr
              go_upto_region 39 with fail
              obtain ⟨X8, hX8⟩ : ∃ X8, X8 = wr.alloc (.cells #[.int .i64 2, .int .i64 at_] 127) := ⟨_, rfl⟩
              have g8 : Grew wr X8 := by rw [hX8]; exact (Grew.refl wr).alloc _
              have b0 : X8.cell? ⟨wr.heap.size, 0, none⟩ = some (.int .i64 2) := by rw [hX8]; simp [go_sem]
              have b1 : X8.cell? ⟨wr.heap.size, 1, none⟩ = some (.int .i64 at_) := by rw [hX8]; simp [go_sem]
              have hb8 : wr.heap.size < X8.heap.size := by rw [hX8]; simp
              rw [← hX8]
              have HMX := hid (HM7.out.kept (g8.only fun _ => False) (fun _ _ h => h) (fun h => h) (fun h => h))
              have HWX := hid (HW7.out.more g8)
              have HOX := hid (((HO7.out.mono (T := fun j => j = ms ∨ j = sb ∨ G j) (fun j hj => .inl (.inl hj)))).grewT g8)
              have HNT := hid (fun W (g : Grew X8 W) => note22_any (HMX.out.seen.grew g) client ⟨seq, 2, at_⟩ hcl.1 hcl.2 ⟨hsq.1, hsq.2.1, by simp, h0, h1⟩ HGN.out)
              have C0 := wd_cell HMX.out.c3
              have C1 := wd_cell (HWX.out.ent 4 _ rfl)
              have C2 := wd_cell (HWX.out.ent 5 _ rfl)
              have C3 := wd_cell b0
              have C4 := wd_cell b1
              have hmX := cell_lt HMX.out.c0
              have hlX := HWX.out.lt
              obtain ⟨vb, hvb⟩ : ∃ vb, vb = wr.heap.size := ⟨_, rfl⟩
              rw [← hvb] at b0 b1 hb8 C3 C4 ⊢
              have HVB := hid (show w.heap.size + 2 < vb from by rw [hvb]; exact HW7.out.lt)
              unfold ansAgg at HNT
              clear hX8 g8 hvb HM7 HW7 HO7
              refine wp_region_still 9 (by kernel_rfl) (by kernel_rfl) (fun _ _ => rfl) ?_
              repeat (first
    | (refine mixS_plain (by rfl) (by rfl) (by rfl) (by first | exact Grew.refl | exact fun _ => rfl) (by rfl) ?_; intro K hK; go_big_quiet_op; go_big_quiet_on)
    | (refine mixS_skip (by rfl) (by rfl) (by rfl) ?_; simp only [Act.put, List.setIfInBounds_toArray, List.set_cons_zero, List.set_cons_succ]))
              refine mixS_done (by rfl) ?_
              intro x hgx
              have HMx := hid (HMX.out.kept (hgx.only fun _ => False) (fun _ _ h => h) (fun h => h) (fun h => h))
              have HWx := hid (HWX.out.more hgx)
              have HOx := hid (HOX.out.grewT hgx)
              have HNx := hid (HNT.out x hgx)
              have b0 := (hgx.cells.1 _ 0 hb8).trans b0
              have b1 := (hgx.cells.1 _ 1 hb8).trans b1
              have hbx := Nat.lt_of_lt_of_le hb8 hgx.size
              clear C0 C1 C2 C3 C4 hgx HMX HWX HOX HNT hb8 hmX hlX
              dsimp only [List.drop]
              go_wp2_with fail
              refine HNx.out.mono ?_
              rintro e w9 ⟨rfl, hO9, hS9⟩
              have hsb : sb < w.heap.size := HI.out.seen.lt
              have hlx := HWx.out.lt
              have n1 : w.heap.size + 1 ≠ sb := by omega
              have n2 : vb ≠ sb := by have := HVB.out; omega
              have a0 := (hO9.cell (by omega) n1 0).trans HWx.out.a0
              have a1 := (hO9.cell (by omega) n1 1).trans HWx.out.a1
              have f0 := (hO9.frozen (by omega) n1 0).trans HWx.out.f0
              have f1 := (hO9.frozen (by omega) n1 1).trans HWx.out.f1
              have b0 := (hO9.cell hbx n2 0).trans b0
              have b1 := (hO9.cell hbx n2 1).trans b1
              have HM9 := hid (HMx.out.note hO9 hS9)
              have HO9 := hid (HOx.out.trans hO9 (fun j hj => .inl (.inr (.inl hj))))
              have hz9 := hO9.size
              have hb9 : vb < w9.heap.size := by omega
              have hl9 : w.heap.size + 2 < w9.heap.size := by omega
              clear hO9 hS9 HNx HMx HWx HOx n1 n2 hlx hbx hz9
              go_wp2_with fail
              refine bodyPost_ret (v := .tuple #[.agg #[.int .i64 2, .int .i64 at_], .int .i64 0]) (by simp [results, Tryz.results58, go_sem, a0, a1, f0, f1]) rfl ⟨rfl, ?_⟩
              have hset : Only (fun j => j = w.heap.size + 1) w9 ((w9.setCell ⟨w.heap.size + 1, 0, none⟩ (.int .i64 2)).setCell ⟨w.heap.size + 1, 1, none⟩ (.int .i64 at_)) := (Only.setCell w9 ⟨w.heap.size + 1, 0, none⟩ _).then (Only.setCell _ ⟨w.heap.size + 1, 1, none⟩ _)
              exact ⟨_, ⟨HO9.out.trans hset (fun j (hj : j = w.heap.size + 1) => .inr (by omega)), _, ⟨_, HM9.out.kept hset (fun j hj (e : j = w.heap.size + 1) => by have := HG7.out j hj; have := HUW.out.1; omega) (fun (e : ms = w.heap.size + 1) => by omega) (fun (e : sb = w.heap.size + 1) => by omega)⟩, fun j hj => by
                rcases HG7.out j hj with q | q
                · exact .inl q.1
                · exact .inr (by have := HUW.out.1; omega)⟩, HT7.out⟩
      · clear HAN
        obtain rfl : R = ⟨ac, aa, 0, P, S⟩ := HR2.out.trans ((if_neg (by decide)).trans (if_pos rfl))
        clear HR2
        go_wp2_with fail
        refine bodyPost_ret (v := .tuple #[.agg #[.int .i64 ac, .int .i64 aa], .int .i64 0]) (by simp [results, Tryz.results58, go_sem, a0, a1, f0, f1]) rfl ⟨rfl, ?_⟩
        exact ⟨D, MsTurn.of_grew HMS.out ((HW4.out.grew.setCell (show w.heap.size ≤ w.heap.size + 1 by omega) _).setCell (show w.heap.size ≤ w.heap.size + 1 by omega) _), HTT.out⟩
      · clear HAN
        obtain rfl : R = ⟨4, 0, 0, P, S⟩ := HR2.out.trans ((if_neg (by decide)).trans (if_neg (by decide)))
        clear HR2
        go_wp2_with fail
        refine bodyPost_ret (v := .tuple #[.agg #[.int .i64 4, .int .i64 0], .int .i64 0]) (by simp [results, Tryz.results58, go_sem, a0, a1, f0, f1]) rfl ⟨rfl, ?_⟩
        exact ⟨D, MsTurn.of_grew HMS.out ((HW4.out.grew.setCell (show w.heap.size ≤ w.heap.size + 1 by omega) _).setCell (show w.heap.size ≤ w.heap.size + 1 by omega) _), HTT.out⟩
end Go.Proofs.YtoiahcgaffffbaaGreatDoor
