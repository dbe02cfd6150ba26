/- ShdA, Shd8A: one text. -/
import Derived.Test.YtbdagllflamabaaGreatDoorFinWatchReplaysQ17
import Derived.Test.YtbdagllflamabaaGreatDoorFinWatchReplaysQ31
import Derived.Test.YtbdagllflamabaaGreatDoorFinWatchReplaysQ8
import Derived.Test.YtbdagllflamabaaGreatDoorFinWatchReplaysQ14
import Derived.Test.YtbdagllflamabaaGreatDoorFinWatchReplaysQ9
import Derived.Test.YtbdagllflamabaaGreatDoorFinWatchReplaysQ4
set_option linter.unusedVariables false
set_option linter.unusedSectionVars false
set_option linter.unusedSimpArgs false
namespace Go.Proofs.YtbdagllflamabaaGreatDoor
open Go.RowKit Go.Maps
structure ShSt where
  xs : List Sh
  used : Nat → Bool
  ne : Nat
  evs : List Value
def ShSt.init : ShSt := ⟨[sh0], used0, 0, []⟩
def ShAt (w : World) (F : Nat → Prop) (sb : Nat) (s : ShSt) : Prop := SmAt w F sb s.xs s.used s.ne s.evs
theorem ShAt.grew {w w' : World} {F : Nat → Prop} {sb : Nat} {s : ShSt} (h : ShAt w F sb s) (g : Grew w w') : ShAt w' F sb s := SmAt.grew h g
namespace Pl
def iOf (xs : List Sh) (e : En) : Nat := (findM xs e.shard).toNat
def jOf (xs : List Sh) (e : En) : Nat := (findM xs e.other).toNat
def doneP (s : ShSt) (e : En) (at' : Int) : ShSt :=
  if e.kind = 2 then ⟨s.xs.set (iOf s.xs e) ⟨(shAt s.xs (iOf s.xs e)).id, e.server, (shAt s.xs (iOf s.xs e)).since, (shAt s.xs (iOf s.xs e)).lo, (shAt s.xs (iOf s.xs e)).hi⟩, s.used, s.ne, s.evs⟩
  else if e.kind = 3 then ⟨splitM s.xs (iOf s.xs e) e.key e.other e.server at', useM s.used e.other.toNat, s.ne + 1, s.evs ++ evVals at' e⟩
  else ⟨mergeM s.xs (iOf s.xs e) (jOf s.xs e) (joinV (rightS (shAt s.xs (iOf s.xs e)).lo (shAt s.xs (iOf s.xs e)).hi) (rightS (shAt s.xs (jOf s.xs e)).lo (shAt s.xs (jOf s.xs e)).hi) (shAt s.xs (iOf s.xs e)).lo (shAt s.xs (iOf s.xs e)).hi (shAt s.xs (jOf s.xs e)).lo (shAt s.xs (jOf s.xs e)).hi) at', s.used, s.ne + 1, s.evs ++ evVals at' e⟩
def applyP (s : ShSt) (e : En) (at' : Int) : ShSt := if applyB s.xs s.used e at' = true then doneP s e at' else s
theorem counts_kind {xs : List Sh} {used : Nat → Bool} {e : En} (h : countsB xs used e = true) :
    rightB e = true ∧ ∃ i, i < xs.length ∧ findM xs e.shard = (i : Nat) ∧ iOf xs e = i ∧ (shAt xs i).id = e.shard ∧
      (e.kind = 2 ∨
       (e.kind = 3 ∧ used e.other.toNat = false ∧ 1 ≤ e.other ∧ e.other ≤ 12 ∧ hasS (shAt xs i).lo (shAt xs i).hi e.key = true ∧ e.key.toList ≠ (shAt xs i).lo.toList) ∨
       (e.kind = 4 ∧ ∃ j, j < xs.length ∧ findM xs e.other = (j : Nat) ∧ jOf xs e = j ∧ (shAt xs j).id = e.other ∧ joinE (rightS (shAt xs i).lo (shAt xs i).hi) (rightS (shAt xs j).lo (shAt xs j).hi) (shAt xs i).lo (shAt xs i).hi (shAt xs j).lo (shAt xs j).hi = 0)) := by
  unfold countsB at h
  by_cases hr : rightB e = true
  · refine ⟨hr, ?_⟩
    rw [if_neg (by rw [hr]; simp)] at h
    rcases findM_cases xs e.shard with hf | ⟨i, hi, hf, hid1⟩
    · rw [hf] at h; simp at h
    · refine ⟨i, hi, hf, by unfold iOf; rw [hf]; rfl, hid1, ?_⟩
      rw [hf, if_neg (by omega), Int.toNat_natCast] at h
      by_cases k2 : e.kind = 2
      · exact .inl k2
      · rw [if_neg k2] at h
        by_cases k3 : e.kind = 3
        · rw [if_pos k3] at h
          simp only [Bool.and_eq_true, Bool.not_eq_true', decide_eq_false_iff_not] at h
          obtain ⟨o1, o2⟩ := right_other hr k3
          exact .inr (.inl ⟨k3, h.1.1, o1, o2, h.1.2, h.2⟩)
        · rw [if_neg k3] at h
          by_cases k4 : e.kind = 4
          · rw [if_pos k4] at h
            rcases findM_cases xs e.other with hj | ⟨j, hjl, hj, hid2⟩
            · rw [hj] at h; simp at h
            · rw [hj, if_neg (by omega), Int.toNat_natCast] at h
              exact .inr (.inr ⟨k4, j, hjl, hj, by unfold jOf; rw [hj]; rfl, hid2, by simpa using h⟩)
          · rw [if_neg k4] at h; cases h
  · rw [if_pos (by simpa using hr)] at h; cases h
theorem cut_zero {lo hi key : ByteArray} (h : hasS lo hi key = true) (hne : key.toList ≠ lo.toList) : cutE (rightS lo hi) (keyN key) (hasS lo hi key) lo key = 0 := by
  obtain ⟨h1, h2, _, _⟩ := has_right h
  have h3 : keyN key = 0 := by unfold isKey at h2; simpa using h2
  unfold cutE
  simp [h1, h3, h, hne]
end Pl
theorem apply_any {S : Nat → Bool} (hS : ShdS S) (E : Nat → Addr) {w : World} (hE : Errs S E w) {F : Nat → Prop} {sb : Nat} {s : ShSt} (h : ShAt w F sb s) (hx : s.xs.length ≤ 1000) (hne : s.ne ≤ 1000000) (e : En) (hA : EnAt w e) (hkey : e.key.size ≤ 70368744177664) (at' : Int) :
    Calls Tryz.prog 44 #[.pointer (some ⟨sb, 0, none⟩), e.agg, .int .i64 at'] w fun r w' => r = .returned (.bool (Pl.applyB s.xs s.used e at')) ∧ Only F w w' ∧ ∃ F', ShAt w' F' sb (Pl.applyP s e at') ∧ ∀ j, F' j → F j ∨ w.heap.size ≤ j := by
  obtain ⟨xs, used, ne, evs⟩ := s
  unfold ShAt at *
  dsimp only at *
  cases hap : Pl.applyB xs used e at' with
  | false =>
    refine (apply_no hS E hE h hx e hA hkey at' hap).mono ?_
    rintro r w' ⟨rfl, g⟩
    have e0 : Pl.applyP ⟨xs, used, ne, evs⟩ e at' = ⟨xs, used, ne, evs⟩ := by unfold Pl.applyP; rw [if_neg (by rw [hap]; simp)]
    rw [e0]
    exact ⟨rfl, g.only F, F, h.grew g, fun _ => .inl⟩
  | true =>
    have e0 : Pl.applyP ⟨xs, used, ne, evs⟩ e at' = Pl.doneP ⟨xs, used, ne, evs⟩ e at' := by unfold Pl.applyP; rw [if_pos hap]
    rw [e0]
    have hc : Pl.countsB xs used e = true := by
      unfold Pl.applyB at hap
      simp only [Bool.and_eq_true] at hap
      exact hap.1.1
    obtain ⟨hr, i, hi, hf, hiO, hid1, hk⟩ := Pl.counts_kind hc
    rcases hk with k2 | ⟨k3, hu, o1, o2, hh, hnk⟩ | ⟨k4, j, hj, hfj, hjO, hid2, hjn⟩
    · refine (apply_move hS E hE h hx e hA hkey at' hap k2 i hi hf).mono ?_
      rintro r w' ⟨rfl, ho, F', h', hF'⟩
      refine ⟨rfl, ho, F', ?_, hF'⟩
      unfold Pl.doneP
      rw [if_pos k2, hiO]
      exact h'
    · refine (apply_split hS E hE h hx e hA hkey hne at' hap k3 i hi hf o1 o2 (Pl.cut_zero hh hnk)).mono ?_
      rintro r w' ⟨rfl, ho, F', h', hF'⟩
      refine ⟨rfl, ho, F', ?_, hF'⟩
      unfold Pl.doneP
      rw [if_neg (by omega), if_pos k3, hiO]
      exact h'
    · refine (apply_merge hS E hE h hx e hA hkey hne at' hap k4 i hi hf j hj hfj hjn).mono ?_
      rintro r w' ⟨rfl, ho, F', h', hF'⟩
      refine ⟨rfl, ho, F', ?_, hF'⟩
      unfold Pl.doneP
      rw [if_neg (by omega), if_neg (by omega), hiO, hjO]
      exact h'
end Go.Proofs.YtbdagllflamabaaGreatDoor
namespace Go.Proofs.YtbdagllflamabaaGreatDoor
open Go.RowKit Go.Maps
attribute [local go_sem] Oper.semAt_some
section
variable {w : World} {F : Nat → Prop} {sb : Nat} {xs : List Sh} {used : Nat → Bool} {ne : Nat} {evs : List Value} (h : SmAt w F sb xs used ne evs) (hx : xs.length ≤ 1000)
include h hx
end
theorem owner1_any {S : Nat → Bool} (hS : ShdS S) (E : Nat → Addr) (c : Sh) (cb : Nat) (key : ByteArray) (w : World) (hE : Errs S E w) (hl : c.lo.size ≤ 70368744177664) (hh : c.hi.size ≤ 70368744177664) (hk : key.size ≤ 70368744177664) (hc : w.cell? ⟨cb, 0, none⟩ = some (.string key)) :
    Calls Tryz.prog 96 #[c.aggOf, .pointer (some ⟨cb, 0, none⟩)] w fun e w' => e = .returned (.bool (Pl.hasS c.lo c.hi key)) ∧ Grew w w' := by
  obtain ⟨i, s, n, lo, hi⟩ := c
  have HH := hid (fun W (g : Grew w W) => has_span S E hS.keyS lo hi key W hl hh hk (hE.grew g))
  unfold Sh.aggOf Sh.vals
  dsimp only at *
  have hb : cb < w.heap.size := cell_lt hc
  clear hE
  go_enter Tryz.func96, Tryz.ntmps96
  go_wp2_with fail
  refine (HH.out _ ((Grew.refl w).alloc _)).mono ?_
  rintro e w1 ⟨rfl, hg⟩
  go_wp2_with fail
  go_ret
  exact ⟨rfl, ((Grew.refl w).alloc _).trans hg⟩
namespace Pl
def ownerI (xs : List Sh) (key : ByteArray) : Int := if isKey key = true then idxI (fun c => hasS c.lo c.hi key) xs else -1
def ownerV (xs : List Sh) (key : ByteArray) : Sh := if ownerI xs key < 0 then Sh.none else shAt xs (ownerI xs key).toNat
end Pl
section
variable {S : Nat → Bool} (hS : ShdS S) (E : Nat → Addr) {w : World} (hE : Errs S E w) {F : Nat → Prop} {sb : Nat} {xs : List Sh} {used : Nat → Bool} {ne : Nat} {evs : List Value} (h : SmAt w F sb xs used ne evs) (hx : xs.length ≤ 1000)
include hS hE h hx
set_option maxRecDepth 100000 in
set_option maxHeartbeats 2000000 in
theorem owner_any (key : ByteArray) (hk : key.size ≤ 70368744177664) : Calls Tryz.prog 52 #[.pointer (some ⟨sb, 0, none⟩), .string key] w fun e w' => e = .returned (.tuple #[(Pl.ownerV xs key).aggOf, .bool (decide (0 ≤ Pl.ownerI xs key))]) ∧ Grew w w' := by
  obtain ⟨s2, s3, s6, s7⟩ := id hS.keyS
  have HK := hid (fun W (g : Grew w W) => key_any S E s2 s3 s6 s7 key W (by omega) (hE.grew g))
  cases hik : Pl.isKey key with
  | false =>
    have e0 : Pl.ownerI xs key = -1 := by unfold Pl.ownerI; rw [if_neg (by rw [hik]; simp)]
    have e1 : Pl.ownerV xs key = Sh.none := by unfold Pl.ownerV; rw [e0]; rfl
    rw [e0, e1]
    have HN := hid (errOf_nokey E key hik)
    rw [HN.out] at HK
    unfold Sh.aggOf Sh.vals Sh.none
    clear e0 e1 h hE hik
    go_enter Tryz.func52, Tryz.ntmps52
    go_wp2_with fail
    refine (HK.out _ (((Grew.refl w).alloc _).alloc _)).mono ?_
    rintro r w1 ⟨rfl, hg⟩
    have hc := hg.cells.1
    have hfz := hg.cells.2
    have hz : w.heap.size + 1 < w1.heap.size := by have := hg.size; simp at this; omega
    have hG := (((Grew.refl w).alloc _).alloc _).trans hg
    clear hg
    go_wp2_with fail
    refine bodyPost_ret (v := .tuple #[.agg #[.int .i64 0, .int .i64 0, .int .i64 0, .string ⟨#[]⟩, .string ⟨#[]⟩], .bool false]) (by simp [results, Tryz.results52, go_sem, hc, hz]) rfl ⟨rfl, ?_⟩
    exact (((((hG.setCell (by simp) _).setCell (by simp) _).setCell (by simp) _).setCell (by simp) _).setCell (by simp) _)
  | true =>
    have HN := hid (errOf_key E key hik)
    rw [HN.out] at HK
    have e0 : Pl.ownerI xs key = idxI (fun c => Pl.hasS c.lo c.hi key) xs := by unfold Pl.ownerI; rw [if_pos hik]
    have HI : Hid (∀ W cb, Grew w W → W.cell? ⟨cb, 0, none⟩ = some (.string key) → ∀ a cap, ShsAt W a xs → Calls Tryz.prog 95 #[.slice a xs.length cap, .func (.func 96) #[] #[.pointer (some ⟨cb, 0, none⟩)]] W fun e w' => e = .returned (.int .i64 (Pl.ownerI xs key)) ∧ Grew W w') := by
      intro W cb g hc a cap hA
      rw [e0]
      refine idxShardOwner (fun c => Pl.hasS c.lo c.hi key) cb a cap xs W hA (by omega) (fun j hj W' g' => ?_)
      obtain ⟨v, ve, h⟩ := h
      have hz := h.sz _ (shAt_mem xs j hj)
      exact owner1_any hS E (shAt xs j) cb key W' (hE.grew (g.trans g')) hz.1 hz.2 hk ((g'.cells.1 _ _ (cell_lt hc)).trans hc)
    have hcases : Pl.ownerI xs key = -1 ∨ ∃ i, i < xs.length ∧ Pl.ownerI xs key = (i : Nat) := by
      rw [e0]
      unfold idxI
      cases hf : xs.findIdx? (fun c => Pl.hasS c.lo c.hi key) with
      | none => exact .inl rfl
      | some i => exact .inr ⟨i, (List.findIdx?_eq_some_iff_getElem.1 hf).1, rfl⟩
    obtain ⟨v, ve, h⟩ := h
    have hb := h.blt
    have HS := hid h
    clear e0 hE hik h
    obtain ⟨a, cap, rfl, _⟩ := shsAt_of HS.out.row
    rcases hcases with hf | ⟨i, hi, hf⟩
    · have e1 : Pl.ownerV xs key = Sh.none := by unfold Pl.ownerV; rw [hf]; rfl
      rw [hf] at HI
      rw [e1, hf]
      unfold Sh.aggOf Sh.vals Sh.none
      clear e1 hf
      go_enter Tryz.func52, Tryz.ntmps52
      go_wp2_with fail
      refine (HK.out _ (((Grew.refl w).alloc _).alloc _)).mono ?_
      rintro r w1 ⟨rfl, hg⟩
      have hc := hg.cells.1
      have hfz := hg.cells.2
      have hz : w.heap.size + 1 < w1.heap.size := by have := hg.size; simp at this; omega
      have hG := (((Grew.refl w).alloc _).alloc _).trans hg
      have c0 := (hG.cells.1 _ _ hb).trans HS.out.live
      have HCB := hid (show w1.cell? ⟨w.heap.size, 0, none⟩ = some (.string key) from (hc _ _ (by simp; omega)).trans (by simp [go_sem]))
      have HA1 : Hid (ShsAt w1 a xs) := by
        obtain ⟨a', cap', e', hA'⟩ := shsAt_of (HS.out.grew hG).row
        cases e'; exact hA'
      clear hg
      go_wp2_with fail
      refine (HI.out w1 w.heap.size hG HCB.out a cap HA1.out).mono ?_
      rintro r w2 ⟨rfl, hg2⟩
      have hc2 := hg2.cells.1
      have hfz2 := hg2.cells.2
      have hz2 : w.heap.size + 1 < w2.heap.size := Nat.lt_of_lt_of_le hz hg2.size
      have hG2 := hG.trans hg2
      clear hg2
      go_wp2_with fail
      refine bodyPost_ret (v := .tuple #[.agg #[.int .i64 0, .int .i64 0, .int .i64 0, .string ⟨#[]⟩, .string ⟨#[]⟩], .bool false]) (by simp [results, Tryz.results52, go_sem, hc, hc2, hz, hz2]) rfl ⟨rfl, ?_⟩
      exact (((((hG2.setCell (by simp) _).setCell (by simp) _).setCell (by simp) _).setCell (by simp) _).setCell (by simp) _)
    · have e1 : Pl.ownerV xs key = shAt xs i := by unfold Pl.ownerV; rw [hf, if_neg (by omega), Int.toNat_natCast]
      have hd : decide (0 ≤ (i : Int)) = true := by simp
      rw [hf] at HI
      rw [e1, hf, hd]
      obtain ⟨b, cap', e', _, hbb⟩ := HS.out.row.form (by omega)
      cases e'
      have hiI : ¬ ((i : Int) < 0) := by omega
      have hiL : (i : Int) < (xs.length : Int) := by omega
      have HII := hid hi
      clear e1 hf hd hi
      obtain ⟨x0, x1, x2, x3, x4, hxe⟩ : ∃ x0 x1 x2 x3 x4, shAt xs i = ⟨x0, x1, x2, x3, x4⟩ := ⟨_, _, _, _, _, rfl⟩
      have HXE := hid hxe
      rw [hxe]
      clear hxe
      unfold Sh.aggOf Sh.vals
      go_enter Tryz.func52, Tryz.ntmps52
      go_wp2_with fail
      refine (HK.out _ (((Grew.refl w).alloc _).alloc _)).mono ?_
      rintro r w1 ⟨rfl, hg⟩
      have hc := hg.cells.1
      have hfz := hg.cells.2
      have hz : w.heap.size + 1 < w1.heap.size := by have := hg.size; simp at this; omega
      have hG := (((Grew.refl w).alloc _).alloc _).trans hg
      have c0 := (hG.cells.1 _ _ hb).trans HS.out.live
      have HCB := hid (show w1.cell? ⟨w.heap.size, 0, none⟩ = some (.string key) from (hc _ _ (by simp; omega)).trans (by simp [go_sem]))
      have HA1 : Hid (ShsAt w1 (some ⟨b, 0, none⟩) xs) := by
        obtain ⟨a', cap', e', hA'⟩ := shsAt_of (HS.out.grew hG).row
        cases e'; exact hA'
      clear hg
      go_wp2_with fail
      refine (HI.out w1 w.heap.size hG HCB.out _ cap HA1.out).mono ?_
      rintro r w2 ⟨rfl, hg2⟩
      have hc2 := hg2.cells.1
      have hfz2 := hg2.cells.2
      have hz2 : w.heap.size + 1 < w2.heap.size := Nat.lt_of_lt_of_le hz hg2.size
      have hG2 := hG.trans hg2
      have HSu := hid (HS.out.grew hG2)
      have c0 := HSu.out.live
      have s0 := sh_cell HSu.out rfl i HII.out 0 (by omega)
      have s1 := sh_cell HSu.out rfl i HII.out 1 (by omega)
      have s2 := sh_cell HSu.out rfl i HII.out 2 (by omega)
      have s3 := sh_cell HSu.out rfl i HII.out 3 (by omega)
      have s4 := sh_cell HSu.out rfl i HII.out 4 (by omega)
      rw [HXE.out] at s0 s1 s2 s3 s4
      simp only [Sh.vals, List.getElem?_cons_zero, List.getElem?_cons_succ, Nat.add_zero] at s0 s1 s2 s3 s4
      clear hg2 HI HK
      go_wp2_with fail
      refine bodyPost_ret (v := .tuple #[.agg #[.int .i64 x0, .int .i64 x1, .int .i64 x2, .string x3, .string x4], .bool true]) (by simp [results, Tryz.results52, go_sem, hc, hc2, hz, hz2]) rfl ⟨rfl, ?_⟩
      exact (((((hG2.setCell (by simp) _).setCell (by simp) _).setCell (by simp) _).setCell (by simp) _).setCell (by simp) _)
end
end Go.Proofs.YtbdagllflamabaaGreatDoor
