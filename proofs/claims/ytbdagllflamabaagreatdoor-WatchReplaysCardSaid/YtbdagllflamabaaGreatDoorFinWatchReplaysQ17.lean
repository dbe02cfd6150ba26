/- Shd7, RgnS: one text. -/
import Derived.Test.YtbdagllflamabaaGreatDoorFinWatchReplaysQ16
import Derived.Test.YtbdagllflamabaaGreatDoorFinWatchReplaysQ12
import Derived.Deep.QuietTactic
import Derived.BigQuiet
set_option linter.unusedVariables false
set_option linter.unusedSectionVars false
set_option linter.unusedSimpArgs false
namespace Go.Proofs.YtbdagllflamabaaGreatDoor
open Go.RowKit Go.Maps
attribute [local go_sem] Oper.semAt_some uponV
section
variable {S : Nat → Bool} (hS : ShdS S) (E : Nat → Addr) {w : World} (hE : Errs S E w) {F : Nat → Prop} {sb : Nat} {xs : List Sh} {used : Nat → Bool} {ne : Nat} {evs : List Value} (h : SmAt w F sb xs used ne evs) (hx : xs.length ≤ 1000) (e : En) (hA : EnAt w e) (hkey : e.key.size ≤ 70368744177664)
include hS hE h hx hA hkey
set_option maxRecDepth 100000 in
set_option maxHeartbeats 4000000 in
theorem apply_split (hne : ne ≤ 1000000) (at' : Int) (hyes : Pl.applyB xs used e at' = true) (k2 : e.kind = 3) (i : Nat) (hi : i < xs.length) (hf : Pl.findM xs e.shard = (i : Nat)) (o1 : 1 ≤ e.other) (o2 : e.other ≤ 12) (hcut : Pl.cutE (Pl.rightS (shAt xs i).lo (shAt xs i).hi) (Pl.keyN e.key) (Pl.hasS (shAt xs i).lo (shAt xs i).hi e.key) (shAt xs i).lo e.key = 0) :
    Calls Tryz.prog 44 #[.pointer (some ⟨sb, 0, none⟩), e.agg, .int .i64 at'] w fun r w' => r = .returned (.bool true) ∧ ShTurn w F sb (Pl.splitM xs i e.key e.other e.server at') (Pl.useM used e.other.toNat) (ne + 1) (evs ++ evVals at' e) w' := by
  have HC := hid (fun W (g : Grew w W) => counts_any hS E (hE.grew g) (h.grew g) (by omega : xs.length ≤ 1000000) e (hA.grew g) hkey)
  have hap := hyes
  unfold Pl.applyB at hap
  simp only [Bool.and_eq_true, decide_eq_true_eq] at hap
  obtain ⟨⟨hc, ha0⟩, ha1⟩ := hap
  have HP := hid (fun W (g : Grew w W) => split_any hS E (hE.grew g) (h.grew g) hx e hkey at' ha0 (by omega) i hi hf o1 o2 hcut)
  have hFlt : Hid (∀ j, F j → j < w.heap.size) := by obtain ⟨_, _, h⟩ := h; exact h.lt
  have hbw : sb < w.heap.size := by obtain ⟨_, _, h⟩ := h; exact h.blt
  have ha0' : ¬ at' < 0 := by omega
  have ha1' : ¬ 4096 ≤ at' := by omega
  rw [hc] at HC
  have HW := hid (EnBox.of_alloc w e 26)
  have HV := hid (evVals_one at' e)
  have hvl : (evVals at' e).length = 13 := rfl
  have hve : Hid (evVals at' e = .int .i64 at' :: e.vals) := rfl
  clear hyes hc hA hE h hi hf o1 o2 hcut
  generalize (Pl.splitM xs i e.key e.other e.server at') = XS at *
  have b2 : (e.kind == 2) = false := by rw [k2]; rfl
  have b3 : (e.kind == 3) = true := by rw [k2]; rfl
  clear k2
  unfold En.agg at *
  go_enter Tryz.func44, Tryz.ntmps44
  unfold En.vals at HC HP ⊢
  go_wp2_with fail
  refine (HC.out _ ((Grew.refl w).alloc _)).mono ?_
  rintro r w1 ⟨rfl, hg⟩
  have hz : w.heap.size < w1.heap.size := by have := hg.size; simp at this; omega
  have HG := hid (((Grew.refl w).alloc _).trans hg)
  have HW1 := hid (HW.out.grew hg (by simp))
  obtain ⟨d0, d1, d2, d3, d4, d5, d6, d7, d8, d9, d10, d11⟩ := HW1.out.cells
  clear hg HC
  go_wp2_with fail
  refine (HP.out w1 HG.out).mono ?_
  rintro r w2 ⟨rfl, o2, F2, ⟨v2, ve2, h2⟩, hF2⟩
  have hnF : ¬ F w.heap.size := fun h => Nat.lt_irrefl _ (hFlt.out _ h)
  have HW2 := hid (HW1.out.only o2 hz hnF)
  have hz2 : w.heap.size < w2.heap.size := Nat.lt_of_lt_of_le hz o2.size
  have hown : ∀ g, ve2.ownBlock = some g → g ≠ w.heap.size := by
    intro g hg e0
    rcases hF2 g (h2.foot2 g hg).1 with h | h
    · exact hnF (e0 ▸ h)
    · omega
  have hS2 := hid h2
  have HF2 := hid hF2
  have HO2 := hid o2
  have hbox : ¬ some w.heap.size = ve2.ownBlock := fun e0 => hown _ e0.symm rfl
  have hsb : ¬ some sb = ve2.ownBlock := fun e0 => (h2.foot2 sb e0.symm).2.1 rfl
  have hsb2 : sb < w2.heap.size := h2.blt
  clear d0 d1 d2 d3 d4 d5 d6 d7 d8 d9 d10 d11 HP o2 hF2 h2 hown
  obtain ⟨d0, d1, d2, d3, d4, d5, d6, d7, d8, d9, d10, d11⟩ := HW2.out.cells
  go_wp2_with fail
  have C0 := wd_only (S := fun j => some j = ve2.ownBlock) hS2.out.ev hsb
  have D0 := wd_only (S := fun j => some j = ve2.ownBlock) d0 hbox
  have D1 := wd_only (S := fun j => some j = ve2.ownBlock) d1 hbox
  have D2 := wd_only (S := fun j => some j = ve2.ownBlock) d2 hbox
  have D3 := wd_only (S := fun j => some j = ve2.ownBlock) d3 hbox
  have D4 := wd_only (S := fun j => some j = ve2.ownBlock) d4 hbox
  have D5 := wd_only (S := fun j => some j = ve2.ownBlock) d5 hbox
  have D6 := wd_only (S := fun j => some j = ve2.ownBlock) d6 hbox
  have D7 := wd_only (S := fun j => some j = ve2.ownBlock) d7 hbox
  have D8 := wd_only (S := fun j => some j = ve2.ownBlock) d8 hbox
  have D9 := wd_only (S := fun j => some j = ve2.ownBlock) d9 hbox
  have D10 := wd_only (S := fun j => some j = ve2.ownBlock) d10 hbox
  have D11 := wd_only (S := fun j => some j = ve2.ownBlock) d11 hbox
  clear d0 d1 d2 d3 d4 d5 d6 d7 d8 d9 d10 d11
  obtain ⟨i0, hi0, hz0, hz1, hz3⟩ := info_parts info_ev
  refine wp_region_mix 10 [8, 9] (Only (fun j => some j = ve2.ownBlock) w2) Eq (JOne 164 8 9 w2 (evVals at' e) (AppD 164 13 ve2 ne evs (evVals at' e))) (fun f a => (a.put (some 55) (f 8)).put (some 56) (f 9)) (by kernel_rfl) (by kernel_rfl) (fun _ _ => rfl) (JOne.start w2) (fun L f x h => h.only fun _ _ _ h => h.only) (fun _ => rfl) (fun _ _ _ _ h g => g ▸ h) ?_
  repeat (first
    | (refine wpMix_loose (by rfl) (by rfl) ?_)
    | (refine wpMix_plain (by rfl) (by rfl) (by rfl) (by first | exact Grew.refl | exact fun _ => rfl) (by rfl) ?_; intro K hK; go_big_quiet_op; go_big_quiet_on)
    | (refine wpMix_skip (by rfl) (by rfl) (by rfl) ?_; simp only [Act.put, List.setIfInBounds_toArray, List.set_cons_zero, List.set_cons_succ]))
  refine wpMix_done (by rfl) ⟨⟨loose_of rfl (fun _ a => a) (fun _ _ => rfl) (fun _ => rfl) ?_, loose_of rfl (fun f a => a.put (some 55) (f 8)) (fun _ _ => rfl) (fun _ => rfl) ?_, trivial⟩, ?_⟩
  · intro L f x hJ hL hd
    clear C0 D0 D1 D2 D3 D4 D5 D6 D7 D8 D9 D10 D11
    have hm := hJ.make (by decide) hL
    have hm2 := hid hm
    clear hm hJ
    rw [hve.out] at hm2
    unfold En.vals at hm2
    go_simp
    exact hm2.out
  · intro L f x hJ hL hd
    clear C0 D0 D1 D2 D3 D4 D5 D6 D7 D8 D9 D10 D11
    have h8 := hd 8 rfl (by decide)
    obtain ⟨vb, q8, hvN, hvb⟩ := hJ.made h8 hL
    refine uponV_append (.tmp 51) (.tmp 55) _ rfl 164 i0 _ 13 144 Tryz.underlying153 hi0 hz0 hz1 hz3 evz_size (by omega) ve2 ne evs rfl ?_ vb 1 (evVals at' e) ?_ hvl hvb HV.out (by unfold maxLen; omega) (by omega) ?_
    · exact ownsRow_grew (hJ.grew hL) hS2.out.erow
    · exact q8
    · intro r w' hD
      exact hJ.call (by decide) hL h8 hD
  rintro f x hJ
  clear C0 D0 D1 D2 D3 D4 D5 D6 D7 D8 D9 D10 D11
  obtain ⟨x0, g0, g3, c3, q9, hrow, hgr, hat⟩ := hJ.done rfl
  rw [q9]
  have ho1 : Only (fun j => some j = ve2.ownBlock) w2 x := (g0.only _).then (Only.of_grownBy hgr)
  have C3 : x.cell? ⟨sb, 14, none⟩ = some ve2 := (ho1.cell hsb2 hsb 14).trans hS2.out.ev
  have F3 : x.frozen? ⟨sb, 14, none⟩ = false := (ho1.frozen hsb2 hsb 14).trans (hS2.out.fz 14 (by omega))
  have HT := hid (hS2.out.ev_set ho1 (r := .slice (some ⟨g3, 0, none⟩) (ne + 1) c3) (fun g hg => by
    cases hg
    rcases hat with h | h
    · exact .inl h
    · exact .inr (by rw [h]; exact g0.size)) hrow (Nat.succ_pos _))
  clear hJ q9 hrow hgr hat ho1 g0
  dsimp only [List.drop]
  go_wp2_with fail
  go_ret
  refine ⟨rfl, ShTurn.trans ((HG.out.only F).then HO2.out) (fun j hj => ?_) HT.out⟩
  rcases HF2.out j hj with h | h
  · exact .inl h
  · exact .inr (Nat.le_trans HG.out.size h)
end
end Go.Proofs.YtbdagllflamabaaGreatDoor
namespace Go.Proofs.YtbdagllflamabaaGreatDoor
open Go.RowKit Go.Maps
attribute [local go_sem] Oper.semAt_some uponV
section
variable {S : Nat → Bool} (hS : ShdS S) (E : Nat → Addr) {w : World} (hE : Errs S E w) {F : Nat → Prop} {sb : Nat} {xs : List Sh} {used : Nat → Bool} {ne : Nat} {evs : List Value} (h : SmAt w F sb xs used ne evs) (hx : xs.length ≤ 1000) (e : En) (hA : EnAt w e) (hkey : e.key.size ≤ 70368744177664)
include hS hE h hx hA hkey
set_option maxRecDepth 100000 in
set_option maxHeartbeats 4000000 in
theorem apply_merge (hne : ne ≤ 1000000) (at' : Int) (hyes : Pl.applyB xs used e at' = true) (k2 : e.kind = 4) (i : Nat) (hi : i < xs.length) (hf : Pl.findM xs e.shard = (i : Nat)) (j : Nat) (hj : j < xs.length) (hfj : Pl.findM xs e.other = (j : Nat)) (hjoin : Pl.joinE (Pl.rightS (shAt xs i).lo (shAt xs i).hi) (Pl.rightS (shAt xs j).lo (shAt xs j).hi) (shAt xs i).lo (shAt xs i).hi (shAt xs j).lo (shAt xs j).hi = 0) :
    Calls Tryz.prog 44 #[.pointer (some ⟨sb, 0, none⟩), e.agg, .int .i64 at'] w fun r w' => r = .returned (.bool true) ∧ ShTurn w F sb (Pl.mergeM xs i j (Pl.joinV (Pl.rightS (shAt xs i).lo (shAt xs i).hi) (Pl.rightS (shAt xs j).lo (shAt xs j).hi) (shAt xs i).lo (shAt xs i).hi (shAt xs j).lo (shAt xs j).hi) at') used (ne + 1) (evs ++ evVals at' e) w' := by
  have HC := hid (fun W (g : Grew w W) => counts_any hS E (hE.grew g) (h.grew g) (by omega : xs.length ≤ 1000000) e (hA.grew g) hkey)
  have hap := hyes
  unfold Pl.applyB at hap
  simp only [Bool.and_eq_true, decide_eq_true_eq] at hap
  obtain ⟨⟨hc, ha0⟩, ha1⟩ := hap
  have HP := hid (fun W (g : Grew w W) => merge_any hS E (hE.grew g) (h.grew g) hx e at' ha0 (by omega) i hi hf j hj hfj hjoin)
  have hFlt : Hid (∀ j, F j → j < w.heap.size) := by obtain ⟨_, _, h⟩ := h; exact h.lt
  have hbw : sb < w.heap.size := by obtain ⟨_, _, h⟩ := h; exact h.blt
  have ha0' : ¬ at' < 0 := by omega
  have ha1' : ¬ 4096 ≤ at' := by omega
  rw [hc] at HC
  have HW := hid (EnBox.of_alloc w e 26)
  have HV := hid (evVals_one at' e)
  have hvl : (evVals at' e).length = 13 := rfl
  have hve : Hid (evVals at' e = .int .i64 at' :: e.vals) := rfl
  clear hyes hc hA hE h hi hf hj hfj hjoin
  generalize (Pl.mergeM xs i j (Pl.joinV (Pl.rightS (shAt xs i).lo (shAt xs i).hi) (Pl.rightS (shAt xs j).lo (shAt xs j).hi) (shAt xs i).lo (shAt xs i).hi (shAt xs j).lo (shAt xs j).hi) at') = XS at *
  have b2 : (e.kind == 2) = false := by rw [k2]; rfl
  have b3 : (e.kind == 3) = false := by rw [k2]; rfl
  have b4 : (e.kind == 4) = true := by rw [k2]; rfl
  clear k2
  unfold En.agg at *
  go_enter Tryz.func44, Tryz.ntmps44
  unfold En.vals at HC HP ⊢
  go_wp2_with fail
  refine (HC.out _ ((Grew.refl w).alloc _)).mono ?_
  rintro r w1 ⟨rfl, hg⟩
  have hz : w.heap.size < w1.heap.size := by have := hg.size; simp at this; omega
  have HG := hid (((Grew.refl w).alloc _).trans hg)
  have HW1 := hid (HW.out.grew hg (by simp))
  obtain ⟨d0, d1, d2, d3, d4, d5, d6, d7, d8, d9, d10, d11⟩ := HW1.out.cells
  clear hg HC
  go_wp2_with fail
  refine (HP.out w1 HG.out).mono ?_
  rintro r w2 ⟨rfl, o2, F2, ⟨v2, ve2, h2⟩, hF2⟩
  have hnF : ¬ F w.heap.size := fun h => Nat.lt_irrefl _ (hFlt.out _ h)
  have HW2 := hid (HW1.out.only o2 hz hnF)
  have hz2 : w.heap.size < w2.heap.size := Nat.lt_of_lt_of_le hz o2.size
  have hown : ∀ g, ve2.ownBlock = some g → g ≠ w.heap.size := by
    intro g hg e0
    rcases hF2 g (h2.foot2 g hg).1 with h | h
    · exact hnF (e0 ▸ h)
    · omega
  have hS2 := hid h2
  have HF2 := hid hF2
  have HO2 := hid o2
  have hbox : ¬ some w.heap.size = ve2.ownBlock := fun e0 => hown _ e0.symm rfl
  have hsb : ¬ some sb = ve2.ownBlock := fun e0 => (h2.foot2 sb e0.symm).2.1 rfl
  have hsb2 : sb < w2.heap.size := h2.blt
  clear d0 d1 d2 d3 d4 d5 d6 d7 d8 d9 d10 d11 HP o2 hF2 h2 hown
  obtain ⟨d0, d1, d2, d3, d4, d5, d6, d7, d8, d9, d10, d11⟩ := HW2.out.cells
  go_wp2_with fail
  have C0 := wd_only (S := fun j => some j = ve2.ownBlock) hS2.out.ev hsb
  have D0 := wd_only (S := fun j => some j = ve2.ownBlock) d0 hbox
  have D1 := wd_only (S := fun j => some j = ve2.ownBlock) d1 hbox
  have D2 := wd_only (S := fun j => some j = ve2.ownBlock) d2 hbox
  have D3 := wd_only (S := fun j => some j = ve2.ownBlock) d3 hbox
  have D4 := wd_only (S := fun j => some j = ve2.ownBlock) d4 hbox
  have D5 := wd_only (S := fun j => some j = ve2.ownBlock) d5 hbox
  have D6 := wd_only (S := fun j => some j = ve2.ownBlock) d6 hbox
  have D7 := wd_only (S := fun j => some j = ve2.ownBlock) d7 hbox
  have D8 := wd_only (S := fun j => some j = ve2.ownBlock) d8 hbox
  have D9 := wd_only (S := fun j => some j = ve2.ownBlock) d9 hbox
  have D10 := wd_only (S := fun j => some j = ve2.ownBlock) d10 hbox
  have D11 := wd_only (S := fun j => some j = ve2.ownBlock) d11 hbox
  clear d0 d1 d2 d3 d4 d5 d6 d7 d8 d9 d10 d11
  obtain ⟨i0, hi0, hz0, hz1, hz3⟩ := info_parts info_ev
  refine wp_region_mix 10 [8, 9] (Only (fun j => some j = ve2.ownBlock) w2) Eq (JOne 164 8 9 w2 (evVals at' e) (AppD 164 13 ve2 ne evs (evVals at' e))) (fun f a => (a.put (some 55) (f 8)).put (some 56) (f 9)) (by kernel_rfl) (by kernel_rfl) (fun _ _ => rfl) (JOne.start w2) (fun L f x h => h.only fun _ _ _ h => h.only) (fun _ => rfl) (fun _ _ _ _ h g => g ▸ h) ?_
  repeat (first
    | (refine wpMix_loose (by rfl) (by rfl) ?_)
    | (refine wpMix_plain (by rfl) (by rfl) (by rfl) (by first | exact Grew.refl | exact fun _ => rfl) (by rfl) ?_; intro K hK; go_big_quiet_op; go_big_quiet_on)
    | (refine wpMix_skip (by rfl) (by rfl) (by rfl) ?_; simp only [Act.put, List.setIfInBounds_toArray, List.set_cons_zero, List.set_cons_succ]))
  refine wpMix_done (by rfl) ⟨⟨loose_of rfl (fun _ a => a) (fun _ _ => rfl) (fun _ => rfl) ?_, loose_of rfl (fun f a => a.put (some 55) (f 8)) (fun _ _ => rfl) (fun _ => rfl) ?_, trivial⟩, ?_⟩
  · intro L f x hJ hL hd
    clear C0 D0 D1 D2 D3 D4 D5 D6 D7 D8 D9 D10 D11
    have hm := hJ.make (by decide) hL
    have hm2 := hid hm
    clear hm hJ
    rw [hve.out] at hm2
    unfold En.vals at hm2
    go_simp
    exact hm2.out
  · intro L f x hJ hL hd
    clear C0 D0 D1 D2 D3 D4 D5 D6 D7 D8 D9 D10 D11
    have h8 := hd 8 rfl (by decide)
    obtain ⟨vb, q8, hvN, hvb⟩ := hJ.made h8 hL
    refine uponV_append (.tmp 51) (.tmp 55) _ rfl 164 i0 _ 13 144 Tryz.underlying153 hi0 hz0 hz1 hz3 evz_size (by omega) ve2 ne evs rfl ?_ vb 1 (evVals at' e) ?_ hvl hvb HV.out (by unfold maxLen; omega) (by omega) ?_
    · exact ownsRow_grew (hJ.grew hL) hS2.out.erow
    · exact q8
    · intro r w' hD
      exact hJ.call (by decide) hL h8 hD
  rintro f x hJ
  clear C0 D0 D1 D2 D3 D4 D5 D6 D7 D8 D9 D10 D11
  obtain ⟨x0, g0, g3, c3, q9, hrow, hgr, hat⟩ := hJ.done rfl
  rw [q9]
  have ho1 : Only (fun j => some j = ve2.ownBlock) w2 x := (g0.only _).then (Only.of_grownBy hgr)
  have C3 : x.cell? ⟨sb, 14, none⟩ = some ve2 := (ho1.cell hsb2 hsb 14).trans hS2.out.ev
  have F3 : x.frozen? ⟨sb, 14, none⟩ = false := (ho1.frozen hsb2 hsb 14).trans (hS2.out.fz 14 (by omega))
  have HT := hid (hS2.out.ev_set ho1 (r := .slice (some ⟨g3, 0, none⟩) (ne + 1) c3) (fun g hg => by
    cases hg
    rcases hat with h | h
    · exact .inl h
    · exact .inr (by rw [h]; exact g0.size)) hrow (Nat.succ_pos _))
  clear hJ q9 hrow hgr hat ho1 g0
  dsimp only [List.drop]
  go_wp2_with fail
  go_ret
  refine ⟨rfl, ShTurn.trans ((HG.out.only F).then HO2.out) (fun j hj => ?_) HT.out⟩
  rcases HF2.out j hj with h | h
  · exact .inl h
  · exact .inr (Nat.le_trans HG.out.size h)
end
end Go.Proofs.YtbdagllflamabaaGreatDoor
namespace Go.Proofs.YtbdagllflamabaaGreatDoor
open Go.RowKit Go.Maps
structure MixS (P : Program) (ops : Array Oper) (n : Nat) (Z : List Nat) (I : World → Prop) (T : World → World → Prop) (K : Act → Prop) (l : List Oper) (k : Nat) (a : Act) : Prop where
  out : wpMix P ops n Z I T K l k a
section
variable {P : Program} {ops : Array Oper} {n k : Nat} {Z : List Nat} {I : World → Prop} {T : World → World → Prop} {K : Act → Prop} {o : Oper} {l : List Oper} {a : Act}
theorem mixS_done (hk : decide (k < n) = false) (h : K a) : MixS P ops n Z I T K (o :: l) k a := ⟨wpMix_done hk h⟩
theorem mixS_loose (hk : decide (k < n) = true) (hz : Z.contains k = true) (h : MixS P ops n Z I T K l (k + 1) a) : MixS P ops n Z I T K (o :: l) k a := ⟨wpMix_loose hk hz h.out⟩
theorem mixS_skip (hk : decide (k < n) = true) (hz : Z.contains k = false) (hw : Region.wanted o (yielded ops a.tmps) = false) (h : MixS P ops n Z I T K l (k + 1) (a.put o.dst undef)) : MixS P ops n Z I T K (o :: l) k a := ⟨wpMix_skip hk hz hw h.out⟩
theorem mixS_call (hcall : callB o.op = true) (hk : decide (k < n) = true) (hz : Z.contains k = false) (hw : Region.wanted o (yielded ops a.tmps) = true) {fn : FuncId} {args : Array Value} {v : Value} (hx : ∀ w, (execOp a.eval o).run P w = .ok (.enter fn args) w)
    (hc : ∀ w, I w → Calls P fn args w fun e w' => e = .returned v ∧ T w w') (h : MixS P ops n Z I T K l (k + 1) (a.put o.dst v)) : MixS P ops n Z I T K (o :: l) k a := ⟨wpMix_call hcall hk hz hw hx hc h.out⟩
theorem mixS_plain (hk : decide (k < n) = true) (hz : Z.contains k = false) (hp : plainB o.op = true) (hT : ∀ w, T w w) (hw : Region.wanted o (yielded ops a.tmps) = true)
    (h : ∀ K' : Act → Prop, (∀ a, MixS P ops n Z I T K l (k + 1) a → K' a) → o.quiet P a (fun w => ∃ p : Wd I, w = p.w) K') : MixS P ops n Z I T K (o :: l) k a :=
  ⟨wpMix_plain hk hz hp hT hw fun K' hK => h K' fun a h => hK a h.out⟩
theorem wp_region_mixS {id : Nat} {Q : Exit → Act → World → Prop} {a0 : Act} {w : World} {l : List Oper} (n : Nat) (Z : List Nat) (I : World → Prop) (T : World → World → Prop) (J : (Nat → Bool) → (Nat → Value) → World → Prop) (g : (Nat → Value) → Act → Act)
    (hm : P.follows .mixedOrders = true) (hB : mixB l.toArray n Z = true) (hg : ∀ f a, actGo (fun j => Z.contains j) f l 0 a = g f a)
    (h0 : J (fun _ => false) (fun _ => undef) w.drew) (hI : ∀ L f w, J L f w → I w) (hT : ∀ w, T w w) (hmono : ∀ L f w w', J L f w → T w w' → J L f w')
    (h : MixS P l.toArray n Z I T (fun a => AllZ (LooseStep P l Z J a) Z ∧ ∀ (f : Nat → Value) (w : World), J (fun j => Z.contains j) f w → wpList P l.toArray Q (l.drop n) (g f a) w) l 0 a0) :
    (Code.region id l.toArray true).wp P Q a0 w := wp_region_mix n Z I T J g hm hB hg h0 hI hT hmono h.out
end
theorem wp_region_still {P : Program} {id : Nat} {Q : Exit → Act → World → Prop} {a0 : Act} {w : World} {l : List Oper} (n : Nat) (hm : P.follows .mixedOrders = true) (hB : mixB l.toArray n [] = true) (hg : ∀ f a, actGo (fun j => ([] : List Nat).contains j) f l 0 a = a)
    (h : MixS P l.toArray n [] (Grew w) Grew (fun a => ∀ (w' : World), Grew w w' → wpList P l.toArray Q (l.drop n) a w') l 0 a0) : (Code.region id l.toArray true).wp P Q a0 w :=
  wp_region_mix n [] (Grew w) Grew (fun _ _ x => Grew w x) (fun _ a => a) hm hB hg (Grew.refl w).drew (fun _ _ _ h => h) Grew.refl (fun _ _ _ _ h g => h.trans g) (by
    have h2 := h.out
    have e : (fun a => ∀ (w' : World), Grew w w' → wpList P l.toArray Q (l.drop n) a w') = (fun a => AllZ (LooseStep P l [] (fun _ _ x => Grew w x) a) [] ∧ ∀ (f : Nat → Value) (w' : World), Grew w w' → wpList P l.toArray Q (l.drop n) a w') := by
      funext a
      exact propext ⟨fun h => ⟨trivial, fun _ => h⟩, fun h => h.2 fun _ => undef⟩
    rw [e] at h2
    exact h2)
theorem wpList_update_run {P : Program} {ops : Array Oper} {rest : List Oper} {o : Oper} {a : Act} {w w' : World} {Q : Exit → Act → World → Prop} {t : TypeId} (hg : o.guard = none) (m x v : Operand) (hop : o.op = Op.mapUpdate t m x v) {vm vx vv : Value} (hm : a.eval m = vm) (hx : a.eval x = vx) (hv : a.eval v = vv)
    (hrun : (Instr.mapUpdate t vm vx vv).run P w = .ok () w') (hK : wpList P ops Q rest (a.put o.dst undef) w') : wpList P ops Q (o :: rest) a w := by
  refine wpList_plain hg fun K' hK' => ?_
  unfold Oper.wp
  simp [execOp, hop, hm, hx, hv, hrun, Result.andThen]
  exact hK' _ _ hK
end Go.Proofs.YtbdagllflamabaaGreatDoor
