/- The walk of shards.Counts: whole. -/
import Derived.Test.YtajoihpjnnnkeaaDoorShd2a
import Derived.Test.YtajoihpjnnnkeaaDoorShd2c
set_option linter.unusedVariables false
set_option linter.unusedSectionVars false
set_option linter.unusedSimpArgs false
namespace Go.Proofs.YtajoihpjnnnkeaaDoor
open Go.RowKit Go.Maps Go.Sort
attribute [local go_sem] Oper.semAt_some

section
variable {S : Nat → Bool} (hS : ShdS S) (E : Nat → Addr) {w : World} (hE : Errs S E w) {F : Nat → Prop} {sb : Nat} {xs : List Sh} {used : Nat → Bool} {ne : Nat} {evs : List Value} (h : SmAt w F sb xs used ne evs) (hx : xs.length ≤ 1000000) (e : En) (hA : EnAt w e) (hkey : e.key.size ≤ 70368744177664)
include hS hE h hx hA hkey
set_option maxRecDepth 100000 in
set_option maxHeartbeats 4000000 in
theorem counts_other (hr : Pl.rightB e = true) (k2 : e.kind ≠ 2) (k3 : e.kind ≠ 3) (k4 : e.kind ≠ 4) (i : Nat) (hi : i < xs.length) (hf : Pl.findM xs e.shard = (i : Nat)) :
    Calls Tryd.prog 13 #[.pointer (some ⟨sb, 0, none⟩), e.agg] w fun r w' => r = .returned (.bool false) ∧ Grew w w' := by
  have HE := hid hE
  have HA := hid hA
  have HF1 := hid (fun W (g : Grew w W) => findM_any (h.grew g) hx e.shard)
  have HR := hid (fun W (g : Grew w W) => rightE_any hS.key E e W (HE.out.grew g) (HA.out.grew g))
  rw [hr] at HR
  rw [hf] at HF1
  have b2 : (e.kind == 2) = false := beq_false_of_ne k2
  have b3 : (e.kind == 3) = false := beq_false_of_ne k3
  have b4 : (e.kind == 4) = false := beq_false_of_ne k4
  have hiI : ¬ ((i : Int) < 0) := by omega
  clear hE h hA hf hr hi hx
  unfold En.agg En.vals at *
  go_enter Tryd.func13, Tryd.ntmps13
  go_wp2_with fail
  refine (HF1.out _ ((Grew.refl w).alloc _)).mono ?_
  rintro r w1 ⟨rfl, hg⟩
  have hc := hg.cells.1
  have hz : w.heap.size < w1.heap.size := by have := hg.size; simp at this; omega
  have hG := ((Grew.refl w).alloc _).trans hg
  go_wp2_with fail
  refine (HR.out _ hG).mono ?_
  rintro r w2 ⟨rfl, hg2⟩
  have hG2 := hG.trans hg2
  have hc2 := hg2.cells.1
  have hz2 : w.heap.size < w2.heap.size := Nat.lt_of_lt_of_le hz hg2.size
  clear hg hg2
  go_wp2_with fail
  go_ret
  exact ⟨rfl, hG2⟩

/-- shards.Counts. -/
theorem counts_any : Calls Tryd.prog 13 #[.pointer (some ⟨sb, 0, none⟩), e.agg] w fun r w' => r = .returned (.bool (Pl.countsB xs used e)) ∧ Grew w w' := by
  by_cases hr : Pl.rightB e = true
  · rcases Pl.findM_cases xs e.shard with hf | ⟨i, hi, hf, hid1⟩
    · exact counts_pre hS E hE h hx e hA hkey (.inr (.inl hf))
    · have hiI : ¬ ((i : Int) < 0) := by omega
      have hnat : (i : Int).toNat = i := Int.toNat_natCast i
      by_cases k2 : e.kind = 2
      · exact counts_pre hS E hE h hx e hA hkey (.inr (.inr k2))
      have e0 : Pl.countsB xs used e = (if e.kind = 3 then !used e.other.toNat && Pl.hasS (shAt xs i).lo (shAt xs i).hi e.key && !decide (e.key.toList = (shAt xs i).lo.toList)
          else if e.kind = 4 then
            if Pl.findM xs e.other < 0 then false
            else decide (Pl.joinE (Pl.rightS (shAt xs i).lo (shAt xs i).hi) (Pl.rightS (shAt xs (Pl.findM xs e.other).toNat).lo (shAt xs (Pl.findM xs e.other).toNat).hi) (shAt xs i).lo (shAt xs i).hi (shAt xs (Pl.findM xs e.other).toNat).lo (shAt xs (Pl.findM xs e.other).toNat).hi = 0)
          else false) := by
        unfold Pl.countsB
        rw [if_neg (by rw [hr]; simp), hf, if_neg hiI, if_neg k2, hnat]
      rw [e0]
      by_cases k3 : e.kind = 3
      · rw [if_pos k3]
        exact counts_split hS E hE h hx e hA hkey hr k3 i hi hf
      · rw [if_neg k3]
        by_cases k4 : e.kind = 4
        · rw [if_pos k4]
          rcases Pl.findM_cases xs e.other with hj | ⟨j, hjl, hj, hid2⟩
          · rw [hj, if_pos (by decide)]
            exact counts_merge0 hS E hE h hx e hA hkey hr k4 i hi hf hj
          · rw [hj, if_neg (by omega), Int.toNat_natCast]
            exact counts_merge1 hS E hE h hx e hA hkey hr k4 i hi hf j hjl hj
        · rw [if_neg k4]
          exact counts_other hS E hE h hx e hA hkey hr k2 k3 k4 i hi hf
  · exact counts_pre hS E hE h hx e hA hkey (.inl (by simpa using hr))
end
end Go.Proofs.YtajoihpjnnnkeaaDoor
