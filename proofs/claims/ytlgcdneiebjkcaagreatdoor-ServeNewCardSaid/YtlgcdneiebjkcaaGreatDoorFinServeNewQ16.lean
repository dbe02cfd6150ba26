/- A server over an empty log: New, Sync, Get, Serves, At. -/
import Derived.Test.YtlgcdneiebjkcaaGreatDoorFinServeNewQ15
set_option linter.unusedVariables false
set_option linter.unusedSectionVars false
set_option linter.unusedSimpArgs false
namespace Go.Proofs.YtlgcdneiebjkcaaGreatDoor
open Go.RowKit Go.Maps
attribute [local go_sem] Oper.semAt_some uponV
def SvNew (w w' : World) (vb mb : Nat) (id : Int) : Prop :=
  w'.cell? ⟨vb, 0, none⟩ = some (.int .i64 id) ∧ w'.cell? ⟨vb, 1, none⟩ = some (.int .i64 0) ∧ w'.cell? ⟨vb, 2, none⟩ = some (.pointer none) ∧ w'.cell? ⟨vb, 3, none⟩ = some (.map (some mb)) ∧ (∀ i, w'.frozen? ⟨vb, i, none⟩ = false) ∧ w.heap.size ≤ vb ∧ Grew w w'
def SrvV (E : Nat → Addr) (w : World) (id : Int) (r : Ending) (w' : World) : Prop :=
  ((id < 1 ∨ 4 < id) ∧ r = .returned (.tuple #[.pointer none, errOf E 1]) ∧ Grew w w') ∨ ((1 ≤ id ∧ id ≤ 4) ∧ ∃ vb mb, r = .returned (.tuple #[.pointer (some ⟨vb, 0, none⟩), .nilIface]) ∧ SvNew w w' vb mb id)
set_option maxRecDepth 100000 in
theorem srvNew_any {S : Nat → Bool} (E : Nat → Addr) (hS : S 1 = true) (id : Int) {w : World} (hE : Errs S E w) : Calls Tryz.prog 5 #[.int .i64 id] w (SrvV E w id) := by
  have hmm := @run_makeMap Tryz.prog
  have g1 : w.cell? ⟨0, 0, none⟩ = some (.iface 476 (.pointer (some (E 1)))) := hE.cell 1 hS
  clear hE
  generalize hQ : SrvV E w id = QQ
  have HQ := hid hQ
  clear hQ
  by_cases h1 : id < 1
  · go_enter Tryz.func5, Tryz.ntmps5
    go_wp2_with fail
    go_region
    go_wp2_with fail
    rw [← HQ.out]
    exact .inl ⟨.inl h1, rfl, (Grew.refl w).drew⟩
  by_cases h2 : 4 < id
  · go_enter Tryz.func5, Tryz.ntmps5
    go_wp2_with fail
    go_region
    go_wp2_with fail
    rw [← HQ.out]
    exact .inl ⟨.inr h2, rfl, (Grew.refl w).drew⟩
  go_enter Tryz.func5, Tryz.ntmps5
  go_wp2_with fail
  rw [← HQ.out]
  exact .inr ⟨⟨by omega, by omega⟩, w.heap.size + 1, w.heap.size, rfl, by simp [go_sem], by simp [go_sem], by simp [go_sem], by simp [go_sem], fun i => by simp [go_sem], by omega, ((Grew.refl w).alloc _).alloc _⟩
noncomputable def stm (st : Nat) : Lit → Option Value := lset (fun _ => none) (clit 1) (some (.pointer (some ⟨st, 0, none⟩)))
def SvAt (n : Nat) (w : World) (vb sb mb st cb : Nat) : Prop := ∃ F Fc,
  w.cell? ⟨vb, 1, none⟩ = some (.int .i64 0) ∧ w.cell? ⟨vb, 2, none⟩ = some (.pointer (some ⟨sb, 0, none⟩)) ∧ w.cell? ⟨vb, 3, none⟩ = some (.map (some mb)) ∧ SmAt w F sb [sh0] used0 0 [] ∧ LMap w Tryz.prog 3 mb 1 (stm st) ∧ w.cell? ⟨st, 0, none⟩ = some (.pointer (some ⟨cb, 0, none⟩)) ∧ TabAt w Fc cb [] ∧ (∀ j, F j → n ≤ j) ∧ (∀ j, Fc j → n ≤ j) ∧ n ≤ st ∧ n ≤ mb
theorem SvAt.le {n n' : Nat} {w : World} {vb sb mb st cb : Nat} (h : SvAt n w vb sb mb st cb) (hn : n' ≤ n) : SvAt n' w vb sb mb st cb := by
  obtain ⟨F, Fc, h1, h2, h3, h4, h5, h6, h7, b1, b2, b3, b4⟩ := h
  exact ⟨F, Fc, h1, h2, h3, h4, h5, h6, h7, fun j hj => Nat.le_trans hn (b1 j hj), fun j hj => Nat.le_trans hn (b2 j hj), Nat.le_trans hn b3, Nat.le_trans hn b4⟩
theorem SvAt.kept {S : Nat → Prop} {n : Nat} {w w' : World} {vb sb mb st cb : Nat} (h : SvAt n w vb sb mb st cb) (g : Only S w w') (hv : ¬ S vb) (hS : ∀ j, n ≤ j → ¬ S j) : SvAt n w' vb sb mb st cb := by
  obtain ⟨F, Fc, h1, h2, h3, h4, h5, h6, h7, b1, b2, b3, b4⟩ := h
  exact ⟨F, Fc, (g.cell (cell_lt h1) hv 1).trans h1, (g.cell (cell_lt h1) hv 2).trans h2, (g.cell (cell_lt h1) hv 3).trans h3, h4.kept g (fun j hj => hS j (b1 j hj)), h5.kept g (hS _ b4), (g.cell (cell_lt h6) (hS _ b3) 0).trans h6, h7.kept g (fun j hj => hS j (b2 j hj)), b1, b2, b3, b4⟩
theorem SvAt.grew {n : Nat} {w w' : World} {vb sb mb st cb : Nat} (h : SvAt n w vb sb mb st cb) (g : Grew w w') : SvAt n w' vb sb mb st cb := h.kept (g.only fun _ => False) (fun h => h) (fun _ _ h => h)
def SvR (n : Nat) (v : Value) (u : World) : Prop := ∃ st cb Fc, v = .tuple #[.pointer (some ⟨st, 0, none⟩), .nilIface] ∧ u.cell? ⟨st, 0, none⟩ = some (.pointer (some ⟨cb, 0, none⟩)) ∧ TabAt u Fc cb [] ∧ (∀ j, Fc j → n ≤ j) ∧ n ≤ st
def SvU (mb : Nat) (v : Value) (x0 u : World) : Prop := ∀ st, v = .tuple #[.pointer (some ⟨st, 0, none⟩), .nilIface] → LMap u Tryz.prog 3 mb 1 (stm st) ∧ Only (fun j => j = mb) x0 u
def svDs (j : Nat) : Option (Value → Value) := if j = 9 then some (fun v => v) else if j = 10 then some fstT else if j = 11 then some sndT else none
set_option maxRecDepth 100000 in
set_option maxHeartbeats 4000000 in
theorem anew0 {S : Nat → Bool} (hS : KeyS S) (E : Nat → Addr) {w w0 : World} {lb sq vb mb : Nat} {e : Int} (hL : LogC w lb sq e 0) (hE : Errs S E w) (hV : SvNew w0 w vb mb 1) : Calls Tryz.prog 68 #[.pointer (some ⟨vb, 0, none⟩), .pointer (some ⟨lb, 0, none⟩), .int .i64 0] w fun r w' => r = .returned .nilIface ∧ Only (fun j => j = vb) w w' ∧ ∃ sb m st cb, SvAt w.heap.size w' vb sb m st cb := by
  have hmm := @run_makeMap Tryz.prog
  have HL := hid hL
  have HE := hid hE
  have HV := hid hV
  have HMAP := hid (map0 hL)
  clear hL hE hV
  go_enter Tryz.func68, Tryz.ntmps68
  go_wp2_with fail
  refine HMAP.out.mono ?_
  rintro r w1 ⟨sb, F, rfl, hM, hFl, hg1⟩
  have HM := hid hM
  have HG1 := hid hg1
  have HFl := hid (And.intro hFl (show ∀ j, F j → j < w1.heap.size from by obtain ⟨v, ve, h⟩ := hM; exact h.lt))
  clear hM hg1 hFl
  go_wp2_with fail
  have HLM := hid (LMap.made w1 Tryz.prog 3)
  have gm : Grew w1 (w1.alloc (.map #[] 0)) := (Grew.refl w1).alloc _
  have HGm := hid (HG1.out.trans gm)
  have HM1 := hid (HM.out.grew gm)
  clear gm
  obtain ⟨w2, hw2⟩ : ∃ w2, w2 = w1.alloc (.map #[] 0) := ⟨_, rfl⟩
  rw [← hw2] at HLM HGm HM1 ⊢
  have hmb : w1.heap.size < w2.heap.size := by rw [hw2]; simp
  clear hw2
  have HSH := hid (shards_any HM1.out (by decide) (by decide))
  refine HSH.out.mono ?_
  rintro r w3 ⟨g, cap, rfl, hrow, hg3⟩
  have q0 : w3.cell? ⟨g, 0, none⟩ = some (.int .i64 1) := hrow.cellAt 0 (by decide)
  have q1 : w3.cell? ⟨g, 1, none⟩ = some (.int .i64 1) := hrow.cellAt 1 (by decide)
  have q2 : w3.cell? ⟨g, 2, none⟩ = some (.int .i64 0) := hrow.cellAt 2 (by decide)
  have q3 : w3.cell? ⟨g, 3, none⟩ = some (.string ⟨#[]⟩) := hrow.cellAt 3 (by decide)
  have q4 : w3.cell? ⟨g, 4, none⟩ = some (.string ⟨#[]⟩) := hrow.cellAt 4 (by decide)
  obtain ⟨v0, v1, v2, v3, vf, hvb, hgv⟩ := HV.out
  have hvl : vb < w.heap.size := cell_lt v0
  have HG3 := hid (HGm.out.trans hg3)
  have HM3 := hid (HM1.out.grew hg3)
  have HLM3 := hid (HLM.out.grew hg3)
  have hmb3 : w1.heap.size < w3.heap.size := by have := hg3.size; omega
  have hmv : vb < w1.heap.size := by have := HG1.out.size; omega
  have hen : [sh0].length = 1 := rfl
  rw [hen]
  clear hrow hg3 HSH HMAP HLM HM1
  have gB : Grew w3 (w3.alloc (.cells #[.int .i64 1, .int .i64 1, .int .i64 0, .string ⟨#[]⟩, .string ⟨#[]⟩] 91)) := (Grew.refl w3).alloc _
  have HGB := hid gB
  have b0 : (w3.alloc (.cells #[.int .i64 1, .int .i64 1, .int .i64 0, .string ⟨#[]⟩, .string ⟨#[]⟩] 91)).cell? ⟨w3.heap.size, 0, none⟩ = some (.int .i64 1) := by simp [go_sem]
  have b1 : (w3.alloc (.cells #[.int .i64 1, .int .i64 1, .int .i64 0, .string ⟨#[]⟩, .string ⟨#[]⟩] 91)).cell? ⟨w3.heap.size, 1, none⟩ = some (.int .i64 1) := by simp [go_sem]
  have cv0 : (w3.alloc (.cells #[.int .i64 1, .int .i64 1, .int .i64 0, .string ⟨#[]⟩, .string ⟨#[]⟩] 91)).cell? ⟨vb, 0, none⟩ = some (.int .i64 1) := (gB.cells.1 _ 0 (by omega)).trans ((HG3.out.cells.1 _ 0 hvl).trans v0)
  clear gB
  obtain ⟨y, hy⟩ : ∃ y, y = (w3.alloc (.cells #[.int .i64 1, .int .i64 1, .int .i64 0, .string ⟨#[]⟩, .string ⟨#[]⟩] 91)) := ⟨_, rfl⟩
  have HY := hid hy
  go_wp2_with fail
  refine wp_loop_rounds 2 ?_
  rw [rounds_succ]
  go_wp2_with fail
  rw [← HY.out]
  rw [← HY.out] at HGB b0 b1 cv0
  have B0 := wd_cell b0
  have B1 := wd_cell b1
  have CV0 := wd_cell cv0
  refine wp_region_still 7 (by kernel_rfl) (by kernel_rfl) (fun _ _ => rfl) ?_
  repeat (first
    | (refine mxP ?_; intros; go_big_quiet_op; go_big_quiet_on)
    | (refine mxK ?_; simp only [Act.put, List.setIfInBounds_toArray, List.set_cons_zero, List.set_cons_succ]))
  refine mixS_nil ?_
  intro x hx
  have x0 := (hx.cells.1 _ 0 (cell_lt b0)).trans b0
  have HX := hid ((HG3.out.trans HGB.out).trans hx)
  have HBLK := hid (HGB.out.trans hx)
  have hw3x : w3.heap.size < x.heap.size := cell_lt x0
  clear B0 B1 CV0 hx hy HY b0 b1 cv0
  dsimp only [List.drop]
  go_wp2_with fail
  have gxw : Grew w3 x := HBLK.out
  have HLMx := hid (HLM3.out.grew gxw)
  have HMx := hid (HM3.out.grew gxw)
  have HEx := hid (HE.out.grew HX.out)
  have HLx := hid (HL.out.grew HX.out)
  clear gxw
  have X0 := wd_only (S := fun j => j = w1.heap.size) x0 (fun e : w3.heap.size = w1.heap.size => by omega)
  have hmbx : w1.heap.size < x.heap.size := by omega
  refine wp_region_mixS 13 [8, 9, 10, 11, 12] (Only (fun j => j = w1.heap.size) x) Eq (JM 8 12 svDs x (fun j => j = w1.heap.size) (SvR x.heap.size) (SvU w1.heap.size)) (fun f a => (((a.put (some 45) (f 8)).put (some 36) (f 9)).put (some 46) (f 10)).put (some 47) (f 11)) (by kernel_rfl) (by kernel_rfl) (fun _ _ => rfl) (JM.start _) (fun _ _ _ h => h.only) (fun _ => rfl) (fun _ _ _ _ h g => g ▸ h) ?_
  repeat (first
    | refine mxL ?_
    | (refine mxP ?_; intros; go_big_quiet_op; go_big_quiet_on)
    | (refine mxK ?_; simp only [Act.put, List.setIfInBounds_toArray, List.set_cons_zero, List.set_cons_succ]))
  refine mixS_done (by rfl) ⟨⟨loose_of rfl (fun _ a => a) (fun _ _ => rfl) (fun _ => rfl) ?_, loose_of rfl (fun f a => a.put (some 45) (f 8)) (fun _ _ => rfl) (fun _ => rfl) ?_, loose_of rfl (fun f a => a.put (some 36) (f 9)) (fun _ _ => rfl) (fun _ => rfl) ?_, loose_of rfl (fun f a => a.put (some 36) (f 9)) (fun _ _ => rfl) (fun _ => rfl) ?_, loose_of rfl (fun f a => ((a.put (some 45) (f 8)).put (some 36) (f 9)).put (some 46) (f 10)) (fun _ _ => rfl) (fun _ => rfl) ?_, trivial⟩, ?_⟩
  · intro L f u hJ hL hd
    obtain ⟨hg, hp⟩ := hJ.atCall hL
    have HP := hid hp
    clear hJ hL hd hp X0 x0
    go_simp
    refine (state0 hS E sb (HLx.out.grew hg) (HEx.out.grew hg)).mono ?_
    rintro r u' ⟨st, cb, Fc, rfl, h1, h2, h3, h4, hg2⟩
    exact ⟨_, rfl, HP.out _ _ hg2 ⟨st, cb, Fc, rfl, h1, h2, fun j hj => Nat.le_trans hg.size (h3 j hj), Nat.le_trans hg.size h4⟩⟩
  · intro L f u hJ hL hd
    have hc : L 8 = true := hd 8 rfl (by decide)
    have hp := hJ.atRead 9 (g := fun v => v) rfl hc
    clear hJ hL hd X0 x0
    go_simp
    all_goals exact hp
  · intro L f u hJ hL hd
    have h9 : L 9 = true := hd 9 rfl (by decide)
    obtain ⟨hc, e9⟩ := hJ.od 9 _ rfl h9
    have hp := hJ.atRead 10 (g := fstT) rfl hc
    obtain ⟨_, st, cb, Fc, e8, _⟩ := hJ.ex hc
    rw [e8] at hp e9
    rw [e9]
    have HP := hid hp
    clear hJ hL hd hp X0 x0 e8 e9
    go_simp
    exact HP.out
  · intro L f u hJ hL hd
    have h9 : L 9 = true := hd 9 rfl (by decide)
    obtain ⟨hc, e9⟩ := hJ.od 9 _ rfl h9
    have hp := hJ.atRead 11 (g := sndT) rfl hc
    obtain ⟨_, st, cb, Fc, e8, _⟩ := hJ.ex hc
    rw [e8] at hp e9
    rw [e9]
    have HP := hid hp
    clear hJ hL hd hp X0 x0 e8 e9
    go_simp
    exact HP.out
  · intro L f u hJ hL hd
    have h10 : L 10 = true := hd 10 rfl (by decide)
    obtain ⟨hc, e10⟩ := hJ.od 10 _ rfl h10
    obtain ⟨hg, ⟨st, cb, Fc, e8, _⟩, hp⟩ := hJ.atTurn hL hc
    rw [e8] at e10 hp
    rw [e10]
    have e11 : fstT (.tuple #[.pointer (some ⟨st, 0, none⟩), .nilIface]) = .pointer (some ⟨st, 0, none⟩) := rfl
    rw [e11]
    obtain ⟨u', hrun, r1, r2⟩ := (HLMx.out.grew hg).store (val := .pointer (some ⟨st, 0, none⟩)) cl_keyed Tryz.underlying52 (by unfold maxLen; omega) (keyOf_int_mk Tryz.underlying3 (clit_wf (c := 1) (by omega) (by omega)))
    have hO : Only (fun j => j = w1.heap.size) u u' := Only.of_turned r2
    have HP := hid (hp (undef) u' hO (fun st' e => by cases e; exact ⟨r1, hO⟩))
    have HRUN := hid hrun
    clear hJ hL hd hp X0 x0 e8 e10 e11 hrun r1 r2 hO
    exact uponV_update _ _ _ rfl rfl rfl rfl HRUN.out HP.out
  intro f u hJ
  obtain ⟨x1, gx1, ⟨st, cb, Fc, e8, c0, hT, hF, hst⟩, hU⟩ := hJ.ha rfl
  obtain ⟨hlm, hO⟩ := hU st e8
  have e9 := (hJ.od 9 _ rfl rfl).2
  have e10 := (hJ.od 10 _ rfl rfl).2
  have e11 := (hJ.od 11 _ rfl rfl).2
  rw [e9, e10, e11, e8]
  have f1 : fstT (.tuple #[.pointer (some ⟨st, 0, none⟩), .nilIface]) = .pointer (some ⟨st, 0, none⟩) := rfl
  have f2 : sndT (.tuple #[.pointer (some ⟨st, 0, none⟩), .nilIface]) = .nilIface := rfl
  rw [f1, f2]
  have hsx := gx1.size
  have HF := hid (And.intro ((hO.cell (cell_lt c0) (fun e : st = w1.heap.size => by omega) 0).trans c0) (And.intro (hT.kept hO (fun j hj (e : j = w1.heap.size) => by have := hF j hj; omega)) (And.intro hlm (And.intro (And.intro hF hst) hJ.only))))
  clear hJ gx1 e8 e9 e10 e11 f1 f2 c0 hT hF hst hU hlm hO X0 x0
  dsimp only [List.drop]
  simp only [Act.put, List.setIfInBounds_toArray, List.set_cons_succ, List.set_cons_zero]
  have ho := HF.out.2.2.2.2
  have hux := ho.size
  have hvx : vb < x.heap.size := by have := HX.out.size; omega
  have u1 := (ho.cell hvx (fun e : vb = w1.heap.size => by omega) 1).trans ((HX.out.cells.1 _ 1 hvl).trans v1)
  have u2 := (ho.cell hvx (fun e : vb = w1.heap.size => by omega) 2).trans ((HX.out.cells.1 _ 2 hvl).trans v2)
  have u3 := (ho.cell hvx (fun e : vb = w1.heap.size => by omega) 3).trans ((HX.out.cells.1 _ 3 hvl).trans v3)
  have uf : ∀ i, u.frozen? ⟨vb, i, none⟩ = false := fun i => (ho.frozen hvx (fun e : vb = w1.heap.size => by omega) i).trans ((HX.out.cells.2 _ i hvl).trans (vf i))
  have uf1 := uf 1
  have uf2 := uf 2
  have uf3 := uf 3
  clear ho uf v0 v1 v2 v3 vf
  go_wp2_with fail
  rw [rounds_succ]
  go_wp2_with fail
  obtain ⟨Z, hZ⟩ : ∃ Z, Z = (((u.setCell ⟨vb, 1, none⟩ (.int .i64 0)).setCell ⟨vb, 2, none⟩ (.pointer (some ⟨sb, 0, none⟩))).setCell ⟨vb, 3, none⟩ (.map (some w1.heap.size))) := ⟨_, rfl⟩
  have oZ : Only (fun j => j = vb) u Z := by
    rw [hZ]
    exact ((Only.setCell u ⟨vb, 1, none⟩ _).then (Only.setCell _ ⟨vb, 2, none⟩ _)).then (Only.setCell _ ⟨vb, 3, none⟩ _)
  have z1 : Z.cell? ⟨vb, 1, none⟩ = some (.int .i64 0) := by rw [hZ]; simp [go_sem, u1, u2, u3]
  have z2 : Z.cell? ⟨vb, 2, none⟩ = some (.pointer (some ⟨sb, 0, none⟩)) := by rw [hZ]; simp [go_sem, u1, u2, u3]
  have z3 : Z.cell? ⟨vb, 3, none⟩ = some (.map (some w1.heap.size)) := by rw [hZ]; simp [go_sem, u1, u2, u3]
  rw [← hZ]
  clear hZ u1 u2 u3 uf1 uf2 uf3
  obtain ⟨c0, hT, hlm, ⟨hF, hst⟩, ho⟩ := HF.out
  have hxw := HX.out.size
  have hw1w := HG1.out.size
  go_ret
  refine ⟨rfl, ?_, sb, w1.heap.size, st, cb, F, Fc, z1, z2, z3, ?_, ?_, ?_, ?_, HFl.out.1, fun j hj => Nat.le_trans hxw (hF j hj), Nat.le_trans hxw hst, by omega⟩
  · exact (((HX.out.only (fun j => j = vb ∨ j = w1.heap.size)).then (ho.mono fun j (e : j = w1.heap.size) => .inl (.inr e))).then (oZ.mono fun j (e : j = vb) => .inl (.inl e))).mono fun j e => by
      rcases e with e | e
      · exact .inl e
      · exact .inr (by omega)
  · refine (HMx.out.kept ho fun j hj (e : j = w1.heap.size) => ?_).kept oZ fun j hj (e : j = vb) => ?_
    · have := HFl.out.2 j hj; omega
    · have := HFl.out.1 j hj; omega
  · exact hlm.kept oZ (fun e : w1.heap.size = vb => by omega)
  · exact (oZ.cell (cell_lt c0) (fun e : st = vb => by omega) 0).trans c0
  · exact hT.kept oZ fun j hj (e : j = vb) => by have := hF j hj; omega
end Go.Proofs.YtlgcdneiebjkcaaGreatDoor
