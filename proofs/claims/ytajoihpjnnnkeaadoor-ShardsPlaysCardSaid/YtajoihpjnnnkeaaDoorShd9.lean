/- shards.Apply, whole: the state behind an entry. -/
import Derived.Test.YtajoihpjnnnkeaaDoorShd7
import Derived.Test.YtajoihpjnnnkeaaDoorActs20
set_option linter.unusedVariables false
set_option linter.unusedSectionVars false
set_option linter.unusedSimpArgs false
namespace Go.Proofs.YtajoihpjnnnkeaaDoor
open Go.RowKit Go.Maps

/-- What a map of shards holds. -/
structure ShSt where
  xs : List Sh
  used : Nat → Bool
  ne : Nat
  evs : List Value
def ShSt.init : ShSt := ⟨[sh0], used0, 0, []⟩
/-- A map of shards in memory, by its state. -/
def StAt (w : World) (F : Nat → Prop) (sb : Nat) (s : ShSt) : Prop := SmAt w F sb s.xs s.used s.ne s.evs
theorem StAt.grew {w w' : World} {F : Nat → Prop} {sb : Nat} {s : ShSt} (h : StAt w F sb s) (g : Grew w w') : StAt w' F sb s := SmAt.grew h g

namespace Pl
/-- The indexes that an entry speaks of. -/
def iOf (xs : List Sh) (e : En) : Nat := (findM xs e.shard).toNat
def jOf (xs : List Sh) (e : En) : Nat := (findM xs e.other).toNat
/-- The state behind an entry that is done. -/
def doneP (s : ShSt) (e : En) (at' : Int) : ShSt :=
  if e.kind = 2 then ⟨s.xs.set (iOf s.xs e) ⟨(shAt s.xs (iOf s.xs e)).id, e.server, (shAt s.xs (iOf s.xs e)).since, (shAt s.xs (iOf s.xs e)).lo, (shAt s.xs (iOf s.xs e)).hi⟩, s.used, s.ne, s.evs⟩
  else if e.kind = 3 then ⟨splitM s.xs (iOf s.xs e) e.key e.other e.server at', useM s.used e.other.toNat, s.ne + 1, s.evs ++ evVals at' e⟩
  else ⟨mergeM s.xs (iOf s.xs e) (jOf s.xs e) (joinV (rightS (shAt s.xs (iOf s.xs e)).lo (shAt s.xs (iOf s.xs e)).hi) (rightS (shAt s.xs (jOf s.xs e)).lo (shAt s.xs (jOf s.xs e)).hi) (shAt s.xs (iOf s.xs e)).lo (shAt s.xs (iOf s.xs e)).hi (shAt s.xs (jOf s.xs e)).lo (shAt s.xs (jOf s.xs e)).hi) at', s.used, s.ne + 1, s.evs ++ evVals at' e⟩
def applyP (s : ShSt) (e : En) (at' : Int) : ShSt := if applyB s.xs s.used e at' = true then doneP s e at' else s
def playP (l : List Ac) : ShSt := l.foldl (fun s a => applyP s a.e a.at') ShSt.init

/-- What is known of an entry that counts. -/
theorem counts_kind {xs : List Sh} {used : Nat → Bool} {e : En} (h : countsB xs used e = true) :
    rightB e = true ∧ ∃ i, i < xs.length ∧ findM xs e.shard = (i : Nat) ∧ iOf xs e = i ∧ (shAt xs i).id = e.shard ∧
      (e.kind = 2 ∨
       (e.kind = 3 ∧ used e.other.toNat = false ∧ 1 ≤ e.other ∧ e.other ≤ 12 ∧ hasS (shAt xs i).lo (shAt xs i).hi e.key = true ∧ e.key.toList ≠ (shAt xs i).lo.toList) ∨
       (e.kind = 4 ∧ ∃ j, j < xs.length ∧ findM xs e.other = (j : Nat) ∧ jOf xs e = j ∧ (shAt xs j).id = e.other ∧ joinE (rightS (shAt xs i).lo (shAt xs i).hi) (rightS (shAt xs j).lo (shAt xs j).hi) (shAt xs i).lo (shAt xs i).hi (shAt xs j).lo (shAt xs j).hi = 0)) := by
  unfold countsB at h
  by_cases hr : rightB e = true
  · refine ⟨hr, ?_⟩
    rw [if_neg (by rw [hr]; simp)] at h
    rcases findM_cases xs e.shard with hf | ⟨i, hi, hf, hid1⟩
    · rw [hf] at h; simp at h
    · refine ⟨i, hi, hf, by unfold iOf; rw [hf]; rfl, hid1, ?_⟩
      rw [hf, if_neg (by omega), Int.toNat_natCast] at h
      by_cases k2 : e.kind = 2
      · exact .inl k2
      · rw [if_neg k2] at h
        by_cases k3 : e.kind = 3
        · rw [if_pos k3] at h
          simp only [Bool.and_eq_true, Bool.not_eq_true', decide_eq_false_iff_not] at h
          obtain ⟨o1, o2⟩ := right_other hr k3
          exact .inr (.inl ⟨k3, h.1.1, o1, o2, h.1.2, h.2⟩)
        · rw [if_neg k3] at h
          by_cases k4 : e.kind = 4
          · rw [if_pos k4] at h
            rcases findM_cases xs e.other with hj | ⟨j, hjl, hj, hid2⟩
            · rw [hj] at h; simp at h
            · rw [hj, if_neg (by omega), Int.toNat_natCast] at h
              exact .inr (.inr ⟨k4, j, hjl, hj, by unfold jOf; rw [hj]; rfl, hid2, by simpa using h⟩)
          · rw [if_neg k4] at h; cases h
  · rw [if_pos (by simpa using hr)] at h; cases h
theorem has_right {lo hi key : ByteArray} (h : hasS lo hi key = true) : rightS lo hi = true ∧ isKey key = true ∧ 0 ≤ compare key lo ∧ lessB key hi = true := by
  unfold hasS at h
  simp only [Bool.and_eq_true, decide_eq_true_eq] at h
  exact ⟨h.1.1.1, h.1.1.2, h.1.2, h.2⟩
theorem cut_zero {lo hi key : ByteArray} (h : hasS lo hi key = true) (hne : key.toList ≠ lo.toList) : cutE (rightS lo hi) (keyN key) (hasS lo hi key) lo key = 0 := by
  obtain ⟨h1, h2, _, _⟩ := has_right h
  have h3 : keyN key = 0 := by unfold isKey at h2; simpa using h2
  unfold cutE
  simp [h1, h3, h, hne]
end Pl

theorem apply_any {S : Nat → Bool} (hS : ShdS S) (E : Nat → Addr) {w : World} (hE : Errs S E w) {F : Nat → Prop} {sb : Nat} {s : ShSt} (h : StAt w F sb s) (hx : s.xs.length ≤ 1000) (hne : s.ne ≤ 1000000) (e : En) (hA : EnAt w e) (hkey : e.key.size ≤ 70368744177664) (at' : Int) :
    Calls Tryd.prog 11 #[.pointer (some ⟨sb, 0, none⟩), e.agg, .int .i64 at'] w fun r w' => r = .returned (.bool (Pl.applyB s.xs s.used e at')) ∧ Only F w w' ∧ ∃ F', StAt w' F' sb (Pl.applyP s e at') ∧ ∀ j, F' j → F j ∨ w.heap.size ≤ j := by
  obtain ⟨xs, used, ne, evs⟩ := s
  unfold StAt at *
  dsimp only at *
  cases hap : Pl.applyB xs used e at' with
  | false =>
    refine (apply_no hS E hE h hx e hA hkey at' hap).mono ?_
    rintro r w' ⟨rfl, g⟩
    have e0 : Pl.applyP ⟨xs, used, ne, evs⟩ e at' = ⟨xs, used, ne, evs⟩ := by unfold Pl.applyP; rw [if_neg (by rw [hap]; simp)]
    rw [e0]
    exact ⟨rfl, g.only F, F, h.grew g, fun _ => .inl⟩
  | true =>
    have e0 : Pl.applyP ⟨xs, used, ne, evs⟩ e at' = Pl.doneP ⟨xs, used, ne, evs⟩ e at' := by unfold Pl.applyP; rw [if_pos hap]
    rw [e0]
    have hc : Pl.countsB xs used e = true := by
      unfold Pl.applyB at hap
      simp only [Bool.and_eq_true] at hap
      exact hap.1.1
    obtain ⟨hr, i, hi, hf, hiO, hid1, hk⟩ := Pl.counts_kind hc
    rcases hk with k2 | ⟨k3, hu, o1, o2, hh, hnk⟩ | ⟨k4, j, hj, hfj, hjO, hid2, hjn⟩
    · refine (apply_move hS E hE h hx e hA hkey at' hap k2 i hi hf).mono ?_
      rintro r w' ⟨rfl, ho, F', h', hF'⟩
      refine ⟨rfl, ho, F', ?_, hF'⟩
      unfold Pl.doneP
      rw [if_pos k2, hiO]
      exact h'
    · refine (apply_split hS E hE h hx e hA hkey hne at' hap k3 i hi hf o1 o2 (Pl.cut_zero hh hnk)).mono ?_
      rintro r w' ⟨rfl, ho, F', h', hF'⟩
      refine ⟨rfl, ho, F', ?_, hF'⟩
      unfold Pl.doneP
      rw [if_neg (by omega), if_pos k3, hiO]
      exact h'
    · refine (apply_merge hS E hE h hx e hA hkey hne at' hap k4 i hi hf j hj hfj hjn).mono ?_
      rintro r w' ⟨rfl, ho, F', h', hF'⟩
      refine ⟨rfl, ho, F', ?_, hF'⟩
      unfold Pl.doneP
      rw [if_neg (by omega), if_neg (by omega), hiO, hjO]
      exact h'
end Go.Proofs.YtajoihpjnnnkeaaDoor
