/- Aud7, Wr0, Aud8, AudK, Aud9, RgnE: one text. -/
import Derived.Test.YtbdagllflamabaaGreatDoorFinWatchReplaysQ38
import Derived.Test.YtbdagllflamabaaGreatDoorFinWatchReplaysQ24
import Derived.Test.YtbdagllflamabaaGreatDoorFinWatchReplaysQ31
import Derived.Test.YtbdagllflamabaaGreatDoorFinWatchReplaysQ17
import Derived.Test.YtbdagllflamabaaGreatDoorFinWatchReplaysQ27
set_option linter.unusedVariables false
set_option linter.unusedSectionVars false
set_option linter.unusedSimpArgs false
namespace Go.Proofs.YtbdagllflamabaaGreatDoor
open Go.RowKit Go.Maps
attribute [local go_sem] Oper.semAt_some uponV
theorem shdS_st : ShdS stS := ⟨rfl, rfl, rfl, rfl, rfl, rfl⟩
namespace Pl
def getAP (A : AuP) (key : ByteArray) : Option Pr := if ownerI A.sh.xs key < 0 then none else match A.st (ownerV A.sh.xs key).id.toNat with | none => none | some v => getT v.1 key
end Pl
set_option maxRecDepth 100000 in
set_option maxHeartbeats 4000000 in
theorem getA_none (E : Nat → Addr) {W : World} (hE : Errs stS E W) {L : Nat → Nat} {k ab n : Nat} {A : AuP} (h : AuAt W L k ab n A) (hl : A.sh.xs.length ≤ 1000) (key : ByteArray) (hk : key.size ≤ 70368744177664) (hn : Pl.ownerI A.sh.xs key < 0) :
    Calls Tryz.prog 17 #[.pointer (some ⟨ab, 0, none⟩), .string key] W fun e w' => e = .returned (.tuple #[Pr.none.agg, .bool false]) ∧ Grew W w' := by
  obtain ⟨sb, mb, nb, f, st, h⟩ := h
  obtain ⟨F, hS, _⟩ := h.sh
  have c1 := h.c1
  have hab := cell_lt c1
  have HO := hid (fun X (g : Grew W X) => owner_any shdS_st E (hE.grew g) (hS.grew g) hl key hk)
  have e1 : Pl.ownerV A.sh.xs key = Sh.none := by unfold Pl.ownerV; rw [if_pos hn]
  have e2 : decide (0 ≤ Pl.ownerI A.sh.xs key) = false := decide_eq_false (by omega)
  rw [e1, e2] at HO
  clear h hE hS e1 e2
  unfold Sh.none Sh.aggOf Sh.vals at HO
  dsimp only at HO
  go_enter Tryz.func17, Tryz.ntmps17
  go_wp2_with fail
  refine (HO.out _ ((Grew.refl W).alloc _)).mono ?_
  rintro e w1 ⟨rfl, hg1⟩
  have HG1 := hid (show Grew W w1 from ((Grew.refl W).alloc _).trans hg1)
  have hz : W.heap.size < w1.heap.size := Nat.lt_of_lt_of_le (by simp) hg1.size
  have q : (∀ i, i < 3 → ∃ u, w1.cell? ⟨W.heap.size, i, none⟩ = some u) ∧ ∀ i, w1.frozen? ⟨W.heap.size, i, none⟩ = false := ⟨fun i hi => by
    obtain rfl | rfl | rfl : i = 0 ∨ i = 1 ∨ i = 2 := by omega
    all_goals exact ⟨_, (hg1.cells.1 _ _ (by simp)).trans (by simp [go_sem]; rfl)⟩, fun i => (hg1.cells.2 _ i (by simp)).trans (by simp [go_sem])⟩
  obtain ⟨u0, k0⟩ := q.1 0 (by omega)
  obtain ⟨u1, k1⟩ := q.1 1 (by omega)
  obtain ⟨u2, k2⟩ := q.1 2 (by omega)
  have f0 := q.2 0
  have f1 := q.2 1
  have f2 := q.2 2
  clear hg1 q HO
  go_wp2_with fail
  refine bodyPost_ret (v := .tuple #[.agg #[.string ⟨#[]⟩, .string ⟨#[]⟩, .int .i64 0], .bool false]) (by simp [results, Tryz.results17, go_sem, f0, f1, f2, k0, k1, k2, hz]) rfl ⟨rfl, ?_⟩
  refine (Grew.setCell (Grew.setCell (Grew.setCell HG1.out ?_ _) ?_ _) ?_ _).alloc _
  all_goals exact Nat.le_refl W.heap.size
set_option maxRecDepth 100000 in
set_option maxHeartbeats 4000000 in
theorem getA_some (E : Nat → Addr) {W : World} (hE : Errs stS E W) {L : Nat → Nat} {k ab n : Nat} {A : AuP} (h : AuAt W L k ab n A) (hl : A.sh.xs.length ≤ 1000) (key : ByteArray) (hk : key.size ≤ 70368744177664) (hn : ¬ Pl.ownerI A.sh.xs key < 0) (i : Nat) (hi9 : i < 1000000) (hid' : (Pl.ownerV A.sh.xs key).id = (i : Int)) {P : List Pr} {S : Int → Option An} (hst : A.st i = some (P, S)) (hx : P.length ≤ 1000) :
    Calls Tryz.prog 17 #[.pointer (some ⟨ab, 0, none⟩), .string key] W fun e w' => e = .returned (.tuple #[((Pl.getT P key).getD Pr.none).agg, .bool (Pl.getT P key).isSome]) ∧ Grew W w' := by
  obtain ⟨sb, mb, nb, f, st, h⟩ := h
  obtain ⟨F, hS, _⟩ := h.sh
  have c1 := h.c1
  have c2 := h.c2
  have hab := cell_lt c1
  have HO := hid (fun X (g : Grew W X) => owner_any shdS_st E (hE.grew g) (hS.grew g) hl key hk)
  rw [show decide (0 ≤ Pl.ownerI A.sh.xs key) = true from decide_eq_true (by omega)] at HO
  obtain ⟨_, c, _, _, Ft, Fs, m, _, ⟨tb, yb, hT⟩, _⟩ := h.states i P S hst
  have e1 : ptrS A st i = .pointer (some ⟨st i, 0, none⟩) := by unfold ptrS; rw [hst]; rfl
  have HLK := hid (fun X (g : Grew W X) => h.look g i hi9)
  rw [e1] at HLK
  have s0 := hT.c0
  have hsl := cell_lt s0
  have HGT := hid (fun X (g : Grew W X) => getTab_any (show TabS stS from ⟨rfl, rfl, rfl, rfl, rfl⟩) E (hE.grew g) (hT.tab.grew g) (by omega) key hk)
  clear h hE hS hT e1 hst
  generalize st i = sp at *
  generalize (Pl.getT P key).isSome = is' at *
  generalize (Pl.getT P key).getD Pr.none = o at *
  obtain ⟨ok, ov, on⟩ := o
  unfold Pr.agg at HGT ⊢
  generalize Pl.ownerV A.sh.xs key = cc at *
  obtain ⟨x0, x1, x2, x3, x4⟩ := cc
  dsimp only at *
  subst hid'
  unfold Sh.aggOf Sh.vals at HO
  dsimp only at HO
  go_enter Tryz.func17, Tryz.ntmps17
  go_wp2_with fail
  refine (HO.out _ ((Grew.refl W).alloc _)).mono ?_
  rintro e w1 ⟨rfl, hg1⟩
  have HG1 := hid (show Grew W w1 from ((Grew.refl W).alloc _).trans hg1)
  have hz : W.heap.size < w1.heap.size := Nat.lt_of_lt_of_le (by simp) hg1.size
  have q : (∀ j, j < 3 → ∃ u, w1.cell? ⟨W.heap.size, j, none⟩ = some u) ∧ ∀ j, w1.frozen? ⟨W.heap.size, j, none⟩ = false := ⟨fun j hj => by
    obtain rfl | rfl | rfl : j = 0 ∨ j = 1 ∨ j = 2 := by omega
    all_goals exact ⟨_, (hg1.cells.1 _ _ (by simp)).trans (by simp [go_sem]; rfl)⟩, fun j => (hg1.cells.2 _ j (by simp)).trans (by simp [go_sem])⟩
  have HQ := hid q
  clear hg1 q HO
  go_upto_region 4 with fail
  obtain ⟨Y, hY⟩ : ∃ Y, Y = w1.alloc (.cells #[.int .i64 (i : Int), .int .i64 x1, .int .i64 x2, .string x3, .string x4] 118) := ⟨_, rfl⟩
  have gY : Grew w1 Y := by rw [hY]; exact (Grew.refl w1).alloc _
  obtain ⟨xb, hxb⟩ : ∃ xb, xb = w1.heap.size := ⟨_, rfl⟩
  have X0 := wd_cell (show Y.cell? ⟨xb, 0, none⟩ = some (.int .i64 (i : Int)) from by rw [hY, hxb]; simp [go_sem])
  have HGY := hid (HG1.out.trans gY)
  have HGZ := hid gY
  rw [← hY, ← hxb]
  have hlk : ∀ p : Wd (Grew Y), (Instr.lookup 107 (.map (some mb)) (.int .i64 (i : Int)) false).run Tryz.prog p.w = .ok (.pointer (some ⟨sp, 0, none⟩)) p.w := fun p => HLK.out p.w (HGY.out.trans p.ok)
  have A2 := wd_cell ((HGY.out.cells.1 _ 2 hab).trans c2)
  have S0 := wd_cell ((HGY.out.cells.1 _ 0 hsl).trans s0)
  have HGT2 := hid (fun X (g : Grew Y X) => HGT.out X (HGY.out.trans g))
  clear hY gY hxb HLK
  refine wp_region_still 14 (by kernel_rfl) (by kernel_rfl) (fun _ _ => rfl) ?_
  repeat (first
    | (refine mixS_plain (by rfl) (by rfl) (by rfl) (by first | exact Grew.refl | exact fun _ => rfl) (by rfl) ?_; intro K hK; go_big_quiet_op; go_big_quiet_on)
    | (refine mixS_call (by rfl) (by rfl) (by rfl) (by rfl) (fun _ => by kernel_rfl) (fun u hu => HGT2.out u hu) ?_; simp only [Act.put, List.setIfInBounds_toArray, List.set_cons_zero, List.set_cons_succ])
    | (refine mixS_skip (by rfl) (by rfl) (by rfl) ?_; simp only [Act.put, List.setIfInBounds_toArray, List.set_cons_zero, List.set_cons_succ]))
  refine mixS_done (by rfl) ?_
  intro u hGu
  have HU := hid (HGY.out.trans hGu)
  have HV := hid (HGZ.out.trans hGu)
  obtain ⟨u0, k0⟩ := HQ.out.1 0 (by omega)
  obtain ⟨u1, k1⟩ := HQ.out.1 1 (by omega)
  obtain ⟨u2, k2⟩ := HQ.out.1 2 (by omega)
  have k0 := (HV.out.cells.1 _ 0 hz).trans k0
  have k1 := (HV.out.cells.1 _ 1 hz).trans k1
  have k2 := (HV.out.cells.1 _ 2 hz).trans k2
  have f0 := (HV.out.cells.2 _ 0 hz).trans (HQ.out.2 0)
  have f1 := (HV.out.cells.2 _ 1 hz).trans (HQ.out.2 1)
  have f2 := (HV.out.cells.2 _ 2 hz).trans (HQ.out.2 2)
  have hzu := Nat.lt_of_lt_of_le hz HV.out.size
  clear hGu X0 hlk A2 S0 HGT2 HGT HQ
  dsimp only [List.drop]
  go_wp2_with fail
  refine bodyPost_ret (v := .tuple #[.agg #[.string ok, .string ov, .int .i64 on], .bool is']) (by simp [results, Tryz.results17, go_sem, f0, f1, f2, k0, k1, k2, hzu]) rfl ⟨rfl, ?_⟩
  refine Grew.setCell (Grew.setCell (Grew.setCell HU.out ?_ _) ?_ _) ?_ _
  all_goals exact Nat.le_refl W.heap.size
end Go.Proofs.YtbdagllflamabaaGreatDoor
namespace Go.Proofs.YtbdagllflamabaaGreatDoor
open Go.RowKit Go.Maps
attribute [local go_sem] Oper.semAt_some
end Go.Proofs.YtbdagllflamabaaGreatDoor
namespace Go.Proofs.YtbdagllflamabaaGreatDoor
open Go.RowKit Go.Maps
attribute [local go_sem] Oper.semAt_some uponV
def AuTurn (W : World) (L : Nat → Nat) (k ab n : Nat) (A : AuP) (W' : World) : Prop := Only (fun j => Kin k (L j)) W W' ∧ ∃ L', (∀ j, j < W.heap.size → L' j = L j) ∧ (∀ j, W.heap.size ≤ j → Kin k (L' j)) ∧ AuAt W' L' k ab n A
section
variable {W W' : World} {L L' : Nat → Nat} {k ab sb mb nb n n' : Nat} {f : Lit → Option Value} {st : Nat → Nat} {A : AuP}
theorem AuIs.answered (h : AuIs W L k ab sb mb nb n f st A) (hO : Only (fun j => j = nb) W W') (hL : ∀ j, j < W.heap.size → L' j = L j) {fa : Lit → Option Value} {m : Nat} (hm : m ≤ n + 1) (hl : LMap W' Tryz.prog 3 nb m fa) : AuIs W' L' k ab sb mb nb (n + 1) f st A := by
  obtain ⟨F, h3, h4⟩ := h.sh
  obtain ⟨m1, e1, h1⟩ := h.lm
  obtain ⟨_, _, _, h2⟩ := h.la
  have tab : ¬ ab = nb := fun e => by have := h.lab; have := h.lnb; rw [e] at *; omega
  have tmb : ¬ mb = nb := fun e => by have := h.lmb; have := h.lnb; rw [e] at *; omega
  have hab := h.ablt
  refine ⟨(hO.cell hab tab 0).trans h.c0, (hO.cell hab tab 1).trans h.c1, (hO.cell hab tab 2).trans h.c2, (hO.cell hab tab 3).trans h.c3, fun i => (hO.frozen hab tab i).trans (h.fz i), (hL ab hab).trans h.lab, (hL mb h1.lt).trans h.lmb, (hL nb h2.lt).trans h.lnb, ⟨F, h3.kept hO fun j hj e => by have a := h4 j hj; have b := h.lnb; rw [e, b] at a; omega, fun j hj => (hL j (h3.lt j hj)).trans (h4 j hj)⟩, ⟨m1, by omega, h1.kept hO tmb⟩, h.val, h.lit, ⟨fa, m, hm, hl⟩, fun i P S hi => ?_⟩
  obtain ⟨i12, c, hc, hcid, Ft, Fs, q, hq, hS, hB⟩ := h.states i P S hi
  have ha := hS.all
  have hn : ∀ j, BlS Ft Fs (st i) j → ¬ j = nb := fun j hj e => by have a := hB j hj; have b := h.lnb; rw [e, b] at a; omega
  exact ⟨i12, c, hc, hcid, Ft, Fs, q, by omega, hS.kept hO (fun j hj => hn j (.inl hj)) (fun j hj => hn j (.inr (.inl hj))) (hn _ (.inr (.inr rfl))), fun j hj => (hL j (ha j hj)).trans (hB j hj)⟩
theorem AuIs.turned (h : AuIs W L k ab sb mb nb n f st A) {T : Nat → Prop} {i : Nat} {P : List Pr} {S : Int → Option An} (hi : A.st i = some (P, S)) (hO : Only T W W') (hT : ∀ j, j < W.heap.size → T j → L j = k + 20 + i) (hn : n ≤ n') (hL : ∀ j, j < W.heap.size → L' j = L j) {P' : List Pr} {S' : Int → Option An}
    (hS : ∃ c ∈ A.sh.xs, c.id = (i : Int) ∧ ∃ Gt Gs m, m ≤ n' ∧ StAt W' Gt Gs (st i) m c.lo c.hi P' S' ∧ ∀ j, BlS Gt Gs (st i) j → L' j = k + 20 + i) : AuIs W' L' k ab sb mb nb n' f st ⟨A.at_, A.sh, updS A.st i (some (P', S'))⟩ := by
  have hab := h.ablt
  have nT : ∀ j, j < W.heap.size → L j ≠ k + 20 + i → ¬ T j := fun j hj hl ht => hl (hT j hj ht)
  have i12 := (h.states i P S hi).1
  obtain ⟨F, h3, h4⟩ := h.sh
  obtain ⟨m1, e1, h1⟩ := h.lm
  obtain ⟨fa, m2, e2, h2⟩ := h.la
  have tab := nT ab hab (by rw [h.lab]; omega)
  refine ⟨(hO.cell hab tab 0).trans h.c0, (hO.cell hab tab 1).trans h.c1, (hO.cell hab tab 2).trans h.c2, (hO.cell hab tab 3).trans h.c3, fun q => (hO.frozen hab tab q).trans (h.fz q), (hL ab hab).trans h.lab, (hL mb h1.lt).trans h.lmb, (hL nb h2.lt).trans h.lnb, ⟨F, h3.kept hO fun j hj => nT j (h3.lt j hj) (by rw [h4 j hj]; omega), fun j hj => (hL j (h3.lt j hj)).trans (h4 j hj)⟩, ⟨m1, by omega, h1.kept hO (nT mb h1.lt (by rw [h.lmb]; omega))⟩, fun j => ?_, h.lit, ⟨fa, m2, by omega, h2.kept hO (nT nb h2.lt (by rw [h.lnb]; omega))⟩, fun j Q U hj => ?_⟩
  · dsimp only
    by_cases e : j = i
    · rw [e, updS_same, h.val, hi]; rfl
    · rw [updS_ne _ _ e]; exact h.val j
  · dsimp only at hj ⊢
    by_cases e : j = i
    · subst e
      rw [updS_same] at hj
      cases hj
      exact ⟨i12, hS⟩
    · rw [updS_ne _ _ e] at hj
      obtain ⟨j12, c, hc, hcid', Ft, Fs, m, hm, hSt, hB⟩ := h.states j Q U hj
      have ha := hSt.all
      have hn' : ∀ x, BlS Ft Fs (st j) x → ¬ T x := fun x hx => nT x (ha x hx) (by rw [hB x hx]; omega)
      exact ⟨j12, c, hc, hcid', Ft, Fs, m, by omega, hSt.kept hO (fun x hx => hn' x (.inl hx)) (fun x hx => hn' x (.inr (.inl hx))) (hn' _ (.inr (.inr rfl))), fun x hx => (hL x (ha x hx)).trans (hB x hx)⟩
theorem AuIs.gone (h : AuIs W L k ab sb mb nb n f st A) (a : Int) : AuIs (W.setCell ⟨ab, 0, none⟩ (.int .i64 a)) L k ab sb mb nb n f st ⟨a, A.sh, A.st⟩ := by
  have hO : Only (fun j => j = ab) W (W.setCell ⟨ab, 0, none⟩ (.int .i64 a)) := Only.setCell W ⟨ab, 0, none⟩ _
  obtain ⟨F, h3, h4⟩ := h.sh
  obtain ⟨m1, e1, h1⟩ := h.lm
  obtain ⟨fa, m2, e2, h2⟩ := h.la
  have nT : ∀ j, L j ≠ k → ¬ j = ab := fun j hl e => hl (by rw [e]; exact h.lab)
  refine ⟨by simp [go_sem, h.c0], by simp [go_sem, h.c1], by simp [go_sem, h.c2], by simp [go_sem, h.c3], fun q => by rw [World.frozen?_setCell]; exact h.fz q, h.lab, h.lmb, h.lnb, ⟨F, h3.kept hO fun j hj => nT j (by rw [h4 j hj]; omega), h4⟩, ⟨m1, e1, h1.kept hO (nT mb (by rw [h.lmb]; omega))⟩, h.val, h.lit, ⟨fa, m2, e2, h2.kept hO (nT nb (by rw [h.lnb]; omega))⟩, fun i P S hi => ?_⟩
  obtain ⟨i12, c, hc, hcid, Ft, Fs, q, hq, hS, hB⟩ := h.states i P S hi
  have hn : ∀ j, BlS Ft Fs (st i) j → ¬ j = ab := fun j hj => nT j (by rw [hB j hj]; omega)
  exact ⟨i12, c, hc, hcid, Ft, Fs, q, hq, hS.kept hO (fun j hj => hn j (.inl hj)) (fun j hj => hn j (.inr (.inl hj))) (hn _ (.inr (.inr rfl))), hB⟩
end
end Go.Proofs.YtbdagllflamabaaGreatDoor
namespace Go.Proofs.YtbdagllflamabaaGreatDoor
namespace Pl
theorem owner_has {xs : List Sh} {key : ByteArray} (hn : ¬ ownerI xs key < 0) : ∃ k, k < xs.length ∧ ownerI xs key = (k : Int) ∧ hasS (shAt xs k).lo (shAt xs k).hi key = true ∧ ownerV xs key = shAt xs k := by
  unfold ownerV
  rw [if_neg hn]
  unfold ownerI at *
  cases hk : isKey key with
  | false => rw [hk] at hn; simp at hn
  | true =>
    rw [hk, if_pos rfl] at hn
    rw [if_pos rfl]
    unfold idxI at *
    cases hf : xs.findIdx? (fun c => hasS c.lo c.hi key) with
    | none => rw [hf] at hn; simp at hn
    | some i =>
      obtain ⟨hi, hp, _⟩ := List.findIdx?_eq_some_iff_getElem.1 hf
      rw [← shAt_eq xs i hi] at hp
      exact ⟨i, hi, rfl, hp, by simp⟩
theorem getAP_has {A : AuP} {m : Nat} (h : AuOk A m) {key : ByteArray} (hn : ¬ ownerI A.sh.xs key < 0) : ∃ i : Nat, i < 13 ∧ (ownerV A.sh.xs key).id = (i : Int) ∧ ∃ P S, A.st i = some (P, S) ∧ getAP A key = getT P key := by
  obtain ⟨k, hk, e, hh, ev⟩ := owner_has hn
  have hm := mem_at hk
  have hid := h.inv.ids _ hm
  obtain ⟨P, S, hP, hin⟩ := h.dom _ hm
  refine ⟨(shAt A.sh.xs k).id.toNat, by omega, by rw [ev]; omega, P, S, hP, ?_⟩
  unfold getAP
  rw [if_neg hn, ev, hP]
theorem getAP_none {A : AuP} {key : ByteArray} (hn : ownerI A.sh.xs key < 0) : getAP A key = none := by
  unfold getAP; rw [if_pos hn]
theorem evs_done {s : ShSt} (h : ∀ u ∈ s.evs, u.oneCell' = true) (e : En) (at' : Int) : ∀ u ∈ (doneP s e at').evs, u.oneCell' = true := by
  unfold doneP
  split
  · exact h
  split
  · intro u hu
    rcases List.mem_append.1 hu with q | q
    · exact h u q
    · exact evVals_one at' e u q
  · intro u hu
    rcases List.mem_append.1 hu with q | q
    · exact h u q
    · exact evVals_one at' e u q
theorem evs_apply {A : AuP} (h : ∀ u ∈ A.sh.evs, u.oneCell' = true) (e : En) (at' : Int) : ∀ u ∈ (applyA A e at').2.sh.evs, u.oneCell' = true := by
  unfold applyA
  split
  · exact h
  split
  · exact h
  split
  · cases A.st e.shard.toNat with
    | none => exact h
    | some v => exact h
  split
  · exact evs_done h e at'
  · exact h
end Pl
end Go.Proofs.YtbdagllflamabaaGreatDoor
namespace Go.Proofs.YtbdagllflamabaaGreatDoor
open Go.RowKit Go.Maps
attribute [local go_sem] Oper.semAt_some uponV
theorem AuIs.relab {W W' : World} {L L' : Nat → Nat} {k ab sb mb nb n : Nat} {f : Lit → Option Value} {st : Nat → Nat} {A : AuP} (h : AuIs W L k ab sb mb nb n f st A) (g : Grew W W') (hL : ∀ j, j < W.heap.size → L' j = L j) : AuIs W' L' k ab sb mb nb n f st A := h.kept (g.only fun _ => False) (fun _ _ h => h.elim) hL
set_option maxRecDepth 100000 in
set_option maxHeartbeats 4000000 in
theorem writeA_none {W : World} {L : Nat → Nat} {k ab n : Nat} {A : AuP} (h : AuAt W L k ab n A) (e : En) (hs0 : 0 ≤ e.shard) (hs1 : e.shard < 1000000) (hst : A.st e.shard.toNat = none) (at' : Int) (h0 : 0 ≤ at') (h1 : at' < 4096) (hn : n ≤ 1000000) :
    Calls Tryz.prog 43 #[.pointer (some ⟨ab, 0, none⟩), e.agg, .int .i64 at'] W fun r w' => r = .returned .nilIface ∧ AuTurn W L k ab (n + 1) A w' := by
  obtain ⟨sb, mb, nb, f, st, h⟩ := h
  have c2 := h.c2
  have c3 := h.c3
  have hab := cell_lt c2
  have HLK := hid (fun X (g : Grew W X) => h.look g e.shard.toNat (by omega))
  have e1 : ptrS A st e.shard.toNat = .pointer none := by unfold ptrS; rw [hst]; rfl
  rw [e1, Int.toNat_of_nonneg hs0] at HLK
  have HH := hid h
  clear h e1 hst
  obtain ⟨kind, shard, other, server, client, seq, key, upto, part, parts, ops, opsA, opsC, dataA, dataL, dataC⟩ := e
  unfold En.agg En.vals
  dsimp only at *
  go_enter Tryz.func43, Tryz.ntmps43
  go_upto_region 1 with fail
  obtain ⟨Y, hY⟩ : ∃ Y, Y = W.alloc (.cells #[.int .i64 kind, .int .i64 shard, .int .i64 other, .int .i64 server, .int .i64 client, .int .i64 seq, .slice opsA ops.length opsC, .string key, .int .i64 upto, .int .i64 part, .int .i64 parts, .slice dataA dataL dataC] 26) := ⟨_, rfl⟩
  have gY : Grew W Y := by rw [hY]; exact (Grew.refl W).alloc _
  obtain ⟨xb, hxb⟩ : ∃ xb, xb = W.heap.size := ⟨_, rfl⟩
  have X1 := wd_cell (show Y.cell? ⟨xb, 1, none⟩ = some (.int .i64 shard) from by rw [hY, hxb]; simp [go_sem])
  have A2 := wd_cell ((gY.cells.1 _ 2 hab).trans c2)
  have hlk : ∀ p : Wd (Grew Y), (Instr.lookup 107 (.map (some mb)) (.int .i64 shard) false).run Tryz.prog p.w = .ok (.pointer none) p.w := fun p => HLK.out p.w (gY.trans p.ok)
  have HGY := hid gY
  rw [← hY, ← hxb]
  clear hY gY hxb HLK
  refine wp_region_still 7 (by kernel_rfl) (by kernel_rfl) (fun _ _ => rfl) ?_
  repeat (first
    | (refine mixS_plain (by rfl) (by rfl) (by rfl) (by first | exact Grew.refl | exact fun _ => rfl) (by rfl) ?_; intro K hK; go_big_quiet_op; go_big_quiet_on)
    | (refine mixS_skip (by rfl) (by rfl) (by rfl) ?_; simp only [Act.put, List.setIfInBounds_toArray, List.set_cons_zero, List.set_cons_succ]))
  refine mixS_done (by rfl) ?_
  intro u hGu
  have HU := hid (HGY.out.trans hGu)
  have d3 := (HU.out.cells.1 _ 3 hab).trans c3
  have habu := Nat.lt_of_lt_of_le hab HU.out.size
  obtain ⟨fa, m, hm, hla⟩ := HH.out.la
  obtain ⟨w2, hrun, r1, r2⟩ := (hla.grew HU.out).store (val := .agg #[.int .i64 3, .int .i64 0]) cl_keyed Tryz.underlying97 (by unfold maxLen; omega) (keyOf_int_mk Tryz.underlying3 (clit_wf (c := at') (by omega) (by omega)))
  have HRUN := hid hrun
  have HR := hid (And.intro r1 (And.intro r2 hm))
  clear hGu X1 A2 hlk hrun r1 r2 hla hm
  dsimp only [List.drop]
  go_wp2_with (at_mapUpdate; refine wpList_update_run rfl _ _ _ rfl rfl rfl rfl HRUN.out ?_)
  go_ret
  have hO : Only (fun j => j = nb) u w2 := Only.of_turned HR.out.2.1
  refine ⟨rfl, ((HU.out.only _).then (hO.mono fun j hj => .inl (by rw [hj]; unfold Kin; have := HH.out.lnb; omega))), fun j => if j < W.heap.size then L j else k + 50, fun j hj => if_pos hj, fun j hj => ?_, sb, mb, nb, f, st, ?_⟩
  · dsimp only
    rw [if_neg (by omega)]
    unfold Kin; omega
  · exact (HH.out.relab HU.out (fun j hj => if_pos hj)).answered hO (fun _ _ => rfl) (by have := HR.out.2.2; omega) HR.out.1
set_option maxRecDepth 100000 in
set_option maxHeartbeats 4000000 in
theorem writeA_some (E : Nat → Addr) {W : World} (hE : Errs stS E W) {L : Nat → Nat} {k ab n m0 : Nat} {A : AuP} (h : AuAt W L k ab n A) (hOk : AuOk A m0) (hm0 : m0 ≤ 120) (e : En) (hA : EnAt W e) (hz : EnSz e) (hs0 : 0 ≤ e.shard) (hs1 : e.shard < 1000000) {P : List Pr} {S : Int → Option An} (hst : A.st e.shard.toNat = some (P, S)) (at' : Int) (h0 : 0 ≤ at') (h1 : at' < 4096) (hn : n ≤ 100000) :
    Calls Tryz.prog 43 #[.pointer (some ⟨ab, 0, none⟩), e.agg, .int .i64 at'] W fun r w' => r = .returned (errOf E (Pl.writeG (Pl.shOf A e.shard.toNat).lo (Pl.shOf A e.shard.toNat).hi P S e at').err) ∧ AuTurn W L k ab (n + 2) ⟨A.at_, A.sh, updS A.st e.shard.toNat (some ((Pl.writeG (Pl.shOf A e.shard.toNat).lo (Pl.shOf A e.shard.toNat).hi P S e at').P, (Pl.writeG (Pl.shOf A e.shard.toNat).lo (Pl.shOf A e.shard.toNat).hi P S e at').S))⟩ w' := by
  obtain ⟨sb, mb, nb, f, st, h⟩ := h
  have c2 := h.c2
  have c3 := h.c3
  have hab := cell_lt c2
  have HLK := hid (fun X (g : Grew W X) => h.look g e.shard.toNat (by omega))
  have e1 : ptrS A st e.shard.toNat = .pointer (some ⟨st e.shard.toNat, 0, none⟩) := by unfold ptrS; rw [hst]; rfl
  rw [e1, Int.toNat_of_nonneg hs0] at HLK
  obtain ⟨i12, c, hc, hcid, Ft, Fs, m, hm, hS, hB⟩ := h.states _ P S hst
  have hsh := Pl.sh_uniq hOk hc hcid
  rw [hsh]
  have hsz := hOk.sz c hc
  have hPl : P.length ≤ 1000 := by
    have a := len_tot A.st e.shard.toNat (by omega)
    have b := hOk.few
    rw [hst] at a
    unfold lenS at a
    dsimp only at a
    omega
  have HWR := hid (fun X (g : Grew W X) => writeG_any E e (hE.grew g) (hA.grew g) hz at' (hS.grew g) (by omega) (by omega) hPl (by omega))
  have HH := hid h
  have HC := hid (And.intro hc hcid)
  have HB := hid (And.intro hst (And.intro hB hS.all))
  have HM := hid (show m ≤ n from hm)
  clear h e1 hst hsh hsz hPl hE hA hz hS hB hm hOk hc hcid
  unfold ansAgg at HWR
  generalize Pl.writeG c.lo c.hi P S e at' = wr at *
  obtain ⟨wc, wa, we, wP, wS⟩ := wr
  dsimp only at *
  generalize errOf E we = ev at *
  generalize e.shard.toNat = i at *
  obtain ⟨sp, hsp⟩ : ∃ sp, st i = sp := ⟨_, rfl⟩
  rw [hsp] at HLK HWR HB
  obtain ⟨kind, shard, other, server, client, seq, key, upto, part, parts, ops, opsA, opsC, dataA, dataL, dataC⟩ := e
  unfold En.agg En.vals at *
  dsimp only at *
  go_enter Tryz.func43, Tryz.ntmps43
  go_upto_region 1 with fail
  obtain ⟨Y, hY⟩ : ∃ Y, Y = W.alloc (.cells #[.int .i64 kind, .int .i64 shard, .int .i64 other, .int .i64 server, .int .i64 client, .int .i64 seq, .slice opsA ops.length opsC, .string key, .int .i64 upto, .int .i64 part, .int .i64 parts, .slice dataA dataL dataC] 26) := ⟨_, rfl⟩
  have gY : Grew W Y := by rw [hY]; exact (Grew.refl W).alloc _
  obtain ⟨xb, hxb⟩ : ∃ xb, xb = W.heap.size := ⟨_, rfl⟩
  have HX := hid (show ∀ q v, (#[.int .i64 kind, .int .i64 shard, .int .i64 other, .int .i64 server, .int .i64 client, .int .i64 seq, .slice opsA ops.length opsC, .string key, .int .i64 upto, .int .i64 part, .int .i64 parts, .slice dataA dataL dataC] : Array Value)[q]? = some v → Y.cell? ⟨xb, q, none⟩ = some v from fun q v hv => by
    rw [hY, hxb, cell_of_row _ _ q _ _ _ (heap_alloc_new W _)]; simpa using hv)
  have X1 := wd_cell (HX.out 1 _ rfl)
  have A2 := wd_cell ((gY.cells.1 _ 2 hab).trans c2)
  have hlk : ∀ p : Wd (Grew Y), (Instr.lookup 107 (.map (some mb)) (.int .i64 shard) false).run Tryz.prog p.w = .ok (.pointer (some ⟨sp, 0, none⟩)) p.w := fun p => HLK.out p.w (gY.trans p.ok)
  have HGY := hid gY
  have hxY : xb < Y.heap.size := by rw [hY, hxb]; simp
  rw [← hY, ← hxb]
  clear hY gY hxb HLK
  refine wp_region_still 7 (by kernel_rfl) (by kernel_rfl) (fun _ _ => rfl) ?_
  repeat (first
    | (refine mixS_plain (by rfl) (by rfl) (by rfl) (by first | exact Grew.refl | exact fun _ => rfl) (by rfl) ?_; intro K hK; go_big_quiet_op; go_big_quiet_on)
    | (refine mixS_skip (by rfl) (by rfl) (by rfl) ?_; simp only [Act.put, List.setIfInBounds_toArray, List.set_cons_zero, List.set_cons_succ]))
  refine mixS_done (by rfl) ?_
  intro u hGu
  have HU := hid (HGY.out.trans hGu)
  have x0 := (hGu.cells.1 _ 0 hxY).trans (HX.out 0 _ rfl)
  have x1 := (hGu.cells.1 _ 1 hxY).trans (HX.out 1 _ rfl)
  have x2 := (hGu.cells.1 _ 2 hxY).trans (HX.out 2 _ rfl)
  have x3 := (hGu.cells.1 _ 3 hxY).trans (HX.out 3 _ rfl)
  have x4 := (hGu.cells.1 _ 4 hxY).trans (HX.out 4 _ rfl)
  have x5 := (hGu.cells.1 _ 5 hxY).trans (HX.out 5 _ rfl)
  have x6 := (hGu.cells.1 _ 6 hxY).trans (HX.out 6 _ rfl)
  have x7 := (hGu.cells.1 _ 7 hxY).trans (HX.out 7 _ rfl)
  have x8 := (hGu.cells.1 _ 8 hxY).trans (HX.out 8 _ rfl)
  have x9 := (hGu.cells.1 _ 9 hxY).trans (HX.out 9 _ rfl)
  have x10 := (hGu.cells.1 _ 10 hxY).trans (HX.out 10 _ rfl)
  have x11 := (hGu.cells.1 _ 11 hxY).trans (HX.out 11 _ rfl)
  have hxu := Nat.lt_of_lt_of_le hxY hGu.size
  have habu := Nat.lt_of_lt_of_le hab HU.out.size
  clear hGu X1 A2 hlk
  dsimp only [List.drop]
  go_wp2_with fail
  refine (HWR.out u HU.out).mono ?_
  rintro r w1 ⟨rfl, q, hq, hW⟩
  obtain ⟨hO1, Gt, hS1, hG1⟩ := hW
  have hTl : ∀ j, (j = sp ∨ Fs j) → L j = k + 20 + i := fun j hj => HB.out.2.1 j (by rcases hj with e | e; exact .inr (.inr e); exact .inr (.inl e))
  have hnab : ¬ (ab = sp ∨ Fs ab) := fun hj => by have := hTl ab hj; have := HH.out.lab; omega
  have d3 := (hO1.cell habu hnab 3).trans ((HU.out.cells.1 _ 3 hab).trans c3)
  have hab1 := Nat.lt_of_lt_of_le habu hO1.size
  have HO1 := hid (show Only (fun j => j = sp ∨ Fs j) W w1 from (HU.out.only _).then hO1)
  have HI1 := hid (show AuIs w1 (fun j => if j < W.heap.size then L j else k + 20 + i) k ab sb mb nb (n + 1) f st ⟨A.at_, A.sh, updS A.st i (some (wP, wS))⟩ from by
    refine HH.out.turned HB.out.1 HO1.out (fun j _ hj => hTl j hj) (by omega) (fun j hj => if_pos hj) ⟨c, HC.out.1, HC.out.2, Gt, Fs, q, by have := HM.out; omega, by rw [hsp]; exact hS1, fun j hj => ?_⟩
    rw [hsp] at hj
    have hall := HB.out.2.2
    rcases hj with z | z | z
    · rcases hG1 j z with y | y
      · rw [if_pos (hall j (.inl y))]; exact HB.out.2.1 j (.inl y)
      · have := HU.out.size; rw [if_neg (by omega)]
    · rw [if_pos (hall j (.inr (.inl z)))]; exact HB.out.2.1 j (.inr (.inl z))
    · rw [if_pos (hall j (.inr (.inr z)))]; exact HB.out.2.1 j (.inr (.inr z)))
  clear x0 x1 x2 x3 x4 x5 x6 x7 x8 x9 x10 x11 hxu hO1 hS1 hG1 hTl hnab HWR HX hxY
  go_upto_region 6 with fail
  obtain ⟨Z, hZ⟩ : ∃ Z, Z = w1.alloc (.cells #[.int .i64 wc, .int .i64 wa] 91) := ⟨_, rfl⟩
  have gZ : Grew w1 Z := by rw [hZ]; exact (Grew.refl w1).alloc _
  obtain ⟨zb, hzb⟩ : ∃ zb, zb = w1.heap.size := ⟨_, rfl⟩
  have z0 : Z.cell? ⟨zb, 0, none⟩ = some (.int .i64 wc) := by rw [hZ, hzb]; simp [go_sem]
  have z1 : Z.cell? ⟨zb, 1, none⟩ = some (.int .i64 wa) := by rw [hZ, hzb]; simp [go_sem]
  have A3 := wd_cell ((gZ.cells.1 _ 3 hab1).trans d3)
  have Z0 := wd_cell z0
  have Z1 := wd_cell z1
  have HGZ := hid gZ
  rw [← hZ, ← hzb]
  clear hZ hzb gZ z0 z1
  refine wp_region_still 6 (by kernel_rfl) (by kernel_rfl) (fun _ _ => rfl) ?_
  repeat (first
    | (refine mixS_plain (by rfl) (by rfl) (by rfl) (by first | exact Grew.refl | exact fun _ => rfl) (by rfl) ?_; intro K hK; go_big_quiet_op; go_big_quiet_on)
    | (refine mixS_skip (by rfl) (by rfl) (by rfl) ?_; simp only [Act.put, List.setIfInBounds_toArray, List.set_cons_zero, List.set_cons_succ]))
  refine mixS_done (by rfl) ?_
  intro v hGv
  have HV := hid (HGZ.out.trans hGv)
  obtain ⟨fa, ma, hma, hla⟩ := HI1.out.la
  obtain ⟨w2, hrun, r1, r2⟩ := (hla.grew HV.out).store (val := .agg #[.int .i64 wc, .int .i64 wa]) cl_keyed Tryz.underlying97 (by unfold maxLen; omega) (keyOf_int_mk Tryz.underlying3 (clit_wf (c := at') (by omega) (by omega)))
  have HRUN := hid hrun
  have HR := hid (And.intro r1 (And.intro r2 hma))
  clear hGv A3 Z0 Z1 hrun r1 r2 hla hma
  dsimp only [List.drop]
  go_wp2_with (at_mapUpdate; refine wpList_update_run rfl _ _ _ rfl rfl rfl rfl HRUN.out ?_)
  go_ret
  have hO2 : Only (fun j => j = nb) v w2 := Only.of_turned HR.out.2.1
  have hWs := HO1.out.size
  refine ⟨rfl, ((HO1.out.mono fun j hj => .inl ?_).then (HV.out.only _)).then (hO2.mono fun j hj => .inl (by rw [hj]; unfold Kin; have := HH.out.lnb; omega)), fun j => if j < w1.heap.size then (if j < W.heap.size then L j else k + 20 + i) else k + 50, fun j hj => ?_, fun j hj => ?_, sb, mb, nb, f, st, ?_⟩
  · have : L j = k + 20 + i := HB.out.2.1 j (by rcases hj with e | e; exact .inr (.inr e); exact .inr (.inl e))
    unfold Kin; omega
  · dsimp only
    rw [if_pos (by omega), if_pos hj]
  · dsimp only
    unfold Kin
    repeat' split
    all_goals omega
  · exact (HI1.out.relab HV.out (fun j hj => if_pos hj)).answered hO2 (fun _ _ => rfl) (by have := HR.out.2.2; omega) HR.out.1
end Go.Proofs.YtbdagllflamabaaGreatDoor
namespace Go.Proofs.YtbdagllflamabaaGreatDoor
open Go.RowKit Go.Maps
def tupAt (i : Nat) (v : Value) : Value := match v with | .tuple a => a[i]?.getD undef | _ => undef
structure JE (c : Nat) (G : World → Prop) (R : Value → World → Prop) (ds : Nat → Option (Value → Value)) (L : Nat → Bool) (f : Nat → Value) (u : World) : Prop where
  pre : L c = false → G u
  post : L c = true → R (f c) u
  ord : ∀ i g, ds i = some g → L i = true → L c = true
  val : ∀ i g, ds i = some g → L i = true → f i = g (f c)
section
variable {c : Nat} {G : World → Prop} {R : Value → World → Prop} {ds : Nat → Option (Value → Value)} {L : Nat → Bool} {f : Nat → Value} {u u' : World}
theorem JE.start (h : G u) (f : Nat → Value) : JE c G R ds (fun _ => false) f u := ⟨fun _ => h, fun h => (by cases h), fun _ _ _ h => (by cases h), fun _ _ _ h => (by cases h)⟩
theorem JE.call (h : JE c G R ds L f u) (hL : L c = false) (hds : ds c = none) {v : Value} (hv : R v u') : JE c G R ds (plus L c) (updV f c v) u' := by
  refine ⟨fun h => (by rw [plus_on] at h; cases h), fun _ => (by rw [updV_same]; exact hv), fun _ _ _ _ => plus_on, fun i g hd hl => ?_⟩
  have hi : i ≠ c := fun e => by rw [e, hds] at hd; cases hd
  rw [plus_ne hi] at hl
  have := h.ord i g hd hl
  rw [hL] at this
  cases this
theorem JE.put (h : JE c G R ds L f u) (i : Nat) (hc : L c = true) (hi : i ≠ c) {v : Value} (hv : ∀ g, ds i = some g → v = g (f c)) : JE c G R ds (plus L i) (updV f i v) u := by
  have e : plus L i c = L c := plus_ne (fun e => hi e.symm)
  have e2 : updV f i v c = f c := updV_ne (fun e => hi e.symm)
  refine ⟨fun h' => (by rw [e, hc] at h'; cases h'), fun _ => (by rw [e2]; exact h.post hc), fun _ _ _ _ => (by rw [e]; exact hc), fun j g hd hl => ?_⟩
  rw [e2]
  by_cases q : j = i
  · subst q
    rw [updV_same]; exact hv g hd
  · rw [updV_ne q]
    rw [plus_ne q] at hl
    exact h.val j g hd hl
end
end Go.Proofs.YtbdagllflamabaaGreatDoor
