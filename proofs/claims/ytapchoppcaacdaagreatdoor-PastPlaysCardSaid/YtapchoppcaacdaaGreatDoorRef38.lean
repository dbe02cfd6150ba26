/- Ref38, Ref38b, Ref38c, Ref38d, Ref38e: one text. -/
import Derived.Test.YtapchoppcaacdaaGreatDoorPast6
import Derived.Test.YtapchoppcaacdaaGreatDoorRgn3
import Derived.Test.YtapchoppcaacdaaGreatDoorPr0
import Derived.Test.YtapchoppcaacdaaGreatDoorRowK
import Derived.BigQuiet
import Derived.Test.YtapchoppcaacdaaGreatDoorChPr
import Derived.Test.YtapchoppcaacdaaGreatDoorScan21
import Derived.Test.YtapchoppcaacdaaGreatDoorPastS
import Derived.IntWalk
import Derived.Test.YtapchoppcaacdaaGreatDoorTrm2
/- The document's past (tidewaterref38) in memory; the walks of newest, Kept, History, Len. -/
set_option linter.unusedVariables false
set_option linter.unusedSimpArgs false
namespace Go.Proofs.YtapchoppcaacdaaGreatDoor
open Go.RowKit Go.Maps Go.Sort
attribute [local go_sem] Oper.semAt_some

/-- A slice of changes: empty, or a row from its block's start. -/
def ChsAt (W : World) (a : Option Addr) (xs : List Ch) : Prop := xs = [] ∨ ∃ b, a = some ⟨b, 0, none⟩ ∧ b < W.heap.size ∧ ChRow W b xs
theorem ChRow.grew {W W' : World} {b : Nat} {xs : List Ch} (h : ChRow W b xs) (g : Grew W W') (hb : b < W.heap.size) : ChRow W' b xs :=
  ⟨fun j hj => (g.cells.1 _ _ hb).trans (h.key j hj), fun j hj => (g.cells.1 _ _ hb).trans (h.val j hj), fun j hj => (g.cells.1 _ _ hb).trans (h.ver j hj), fun j hj => (g.cells.1 _ _ hb).trans (h.there j hj)⟩
theorem ChsAt.grew {W W' : World} {a : Option Addr} {xs : List Ch} (h : ChsAt W a xs) (g : Grew W W') : ChsAt W' a xs := by
  rcases h with h | ⟨b, e, hb, h⟩
  · exact .inl h
  · exact .inr ⟨b, e, Nat.lt_of_lt_of_le hb g.size, h.grew g hb⟩
theorem chsAt_of {W : World} {B : Nat} {e : TypeId} {v : Value} {xs : List Ch} (h : W.ownsRow B e 4 v xs.length (chFlat xs)) : ∃ a cap, v = .slice a xs.length cap ∧ ChsAt W a xs := by
  rcases Nat.eq_zero_or_pos xs.length with h0 | h0
  · have hx : xs = [] := List.eq_nil_of_length_eq_zero h0
    rcases h.2 with ⟨rfl, _⟩ | ⟨g, cap, cur, rfl, _, hg, _⟩
    · exact ⟨none, 0, by rw [h0], .inl hx⟩
    · exact ⟨_, _, rfl, .inl hx⟩
  · obtain ⟨g, cap, rfl, _, hlt⟩ := h.form h0
    refine ⟨_, _, rfl, .inr ⟨g, rfl, hlt, ?_, ?_, ?_, ?_⟩⟩ <;> intro j hj
    · have := h.cellAt (j * 4 + 0) (by omega); rw [chFlat_get 0 (by omega) xs j hj] at this; exact this
    · have := h.cellAt (j * 4 + 1) (by omega); rw [chFlat_get 1 (by omega) xs j hj] at this; exact this
    · have := h.cellAt (j * 4 + 2) (by omega); rw [chFlat_get 2 (by omega) xs j hj] at this; exact this
    · have := h.cellAt (j * 4 + 3) (by omega); rw [chFlat_get 3 (by omega) xs j hj] at this; exact this

/-- The document's past in memory, read alone. -/
def RefR (w : World) (wb : Nat) (A : List Ch) (fl : Int) : Prop := ∃ a cap, w.cell? ⟨wb, 0, none⟩ = some (.slice a A.length cap) ∧ w.cell? ⟨wb, 1, none⟩ = some (.int .i64 fl) ∧ ChsAt w a A
theorem RefR.grew {w w' : World} {wb : Nat} {A : List Ch} {fl : Int} (h : RefR w wb A fl) (g : Grew w w') : RefR w' wb A fl := by
  obtain ⟨a, cap, h1, h2, h3⟩ := h
  exact ⟨a, cap, (g.cells.1 _ _ (cell_lt h1)).trans h1, (g.cells.1 _ _ (cell_lt h2)).trans h2, h3.grew g⟩

namespace Pl
def sameK (k : ByteArray) (c : Ch) : Bool := c.key.toList == k.toList
/-- ref38.newest: one step; all. -/
def newB (k : ByteArray) (v n : Int) (c : Ch) : Bool := sameK k c && (decide (c.ver ≤ v) && decide (n < c.ver))
def newestN (A : List Ch) (k : ByteArray) (v : Int) : Int := A.foldl (fun n c => if newB k v n c = true then c.ver else n) 0
theorem newest_step (A : List Ch) (k : ByteArray) (v : Int) (i : Nat) (hi : i < A.length) : newestN (A.take (i + 1)) k v = if newB k v (newestN (A.take i) k v) (chAt A i) = true then (chAt A i).ver else newestN (A.take i) k v := by
  unfold newestN
  rw [List.take_succ_eq_append_getElem hi, List.foldl_append, chAt_eq A i hi]; rfl
/-- ref38.Kept. -/
def keptB (A : List Ch) (fl : Int) (c : Ch) : Bool := decide (fl < c.ver) || (c.there && (c.ver == newestN A c.key fl))
end Pl

set_option maxRecDepth 100000 in
set_option maxHeartbeats 2000000 in
theorem newest_any {w : World} {wb : Nat} {A : List Ch} {fl : Int} (h : RefR w wb A fl) (hx : A.length ≤ 1000000) (key : ByteArray) (v : Int) :
    Calls Tryz.prog 91 #[.pointer (some ⟨wb, 0, none⟩), .string key, .int .i64 v] w fun e w' => e = .returned (.int .i64 (Pl.newestN A key v)) ∧ Grew w w' := by
  obtain ⟨a, cap, c0, c1, hA⟩ := h
  have hwb := cell_lt c0
  have HA := hid hA
  clear hA
  go_enter Tryz.func91, Tryz.ntmps91
  go_wp2_with fail
  go_loopw [7, 15] (fun n i wr => ∃ (k : Nat) (m : Int), k ≤ A.length ∧ n = .int .i64 m ∧ i = .int .i64 k ∧ Hid (m = Pl.newestN (A.take k) key v) ∧ Grew w wr) (fun _ i _ => A.length - (intOf i).toNat)
  case atStart => exact ⟨0, 0, Nat.zero_le _, rfl, rfl, rfl, Grew.refl w⟩
  case round =>
    obtain ⟨k, m, hk1, rfl, rfl, HM, hG⟩ := hrel
    by_cases hlt : k < A.length
    · rcases HA.out with h0 | ⟨b, rfl, hb, hR⟩
      · rw [h0] at hlt; simp at hlt
      have q0 := (hG.cells.1 b (k * 4) hb).trans (hR.key k hlt)
      have q1 := (hG.cells.1 b (k * 4 + 1) hb).trans (hR.val k hlt)
      have q2 := (hG.cells.1 b (k * 4 + 2) hb).trans (hR.ver k hlt)
      have q3 := (hG.cells.1 b (k * 4 + 3) hb).trans (hR.there k hlt)
      have HN := hid (Pl.newest_step A key v k hlt)
      clear hR
      generalize chAt A k = c at *
      obtain ⟨ck, cv, cn, ct⟩ := c
      dsimp only at *
      cases hb0 : (ck.toList == key.toList) with
      | false =>
        have HN2 : Hid (m = Pl.newestN (A.take (k + 1)) key v) := by
          unfold Hid; rw [HN.out, ← HM.out, if_neg (by unfold Pl.newB Pl.sameK; rw [hb0]; simp)]
        clear HN HM
        go_wp2_with fail
        go_roundw
        case rel => exact ⟨k + 1, m, by omega, rfl, by go_num, HN2, hG.alloc _⟩
        case measure => simp [intOf]; omega
      | true =>
        by_cases hv : cn ≤ v
        · by_cases hn : m < cn
          · have HN2 : Hid (cn = Pl.newestN (A.take (k + 1)) key v) := by
              unfold Hid; rw [HN.out, ← HM.out, if_pos (by unfold Pl.newB Pl.sameK; rw [hb0]; simp [hv, hn])]
            clear HN HM
            go_wp2_with fail
            go_roundw
            case rel => exact ⟨k + 1, cn, by omega, rfl, by go_num, HN2, hG.alloc _⟩
            case measure => simp [intOf]; omega
          · have HN2 : Hid (m = Pl.newestN (A.take (k + 1)) key v) := by
              unfold Hid; rw [HN.out, ← HM.out, if_neg (by unfold Pl.newB Pl.sameK; rw [hb0]; simp; omega)]
            clear HN HM
            go_wp2_with fail
            go_roundw
            case rel => exact ⟨k + 1, m, by omega, rfl, by go_num, HN2, hG.alloc _⟩
            case measure => simp [intOf]; omega
        · have HN2 : Hid (m = Pl.newestN (A.take (k + 1)) key v) := by
            unfold Hid; rw [HN.out, ← HM.out, if_neg (by unfold Pl.newB Pl.sameK; rw [hb0]; simp; omega)]
          clear HN HM
          go_wp2_with fail
          go_roundw
          case rel => exact ⟨k + 1, m, by omega, rfl, by go_num, HN2, hG.alloc _⟩
          case measure => simp [intOf]; omega
    · obtain rfl : k = A.length := by omega
      rw [List.take_length] at HM
      go_wp2_with fail
      go_ret
      exact ⟨ret_int HM.out, hG⟩

set_option maxRecDepth 100000 in
set_option maxHeartbeats 2000000 in
theorem kept_any {w : World} {wb : Nat} {A : List Ch} {fl : Int} (h : RefR w wb A fl) (hx : A.length ≤ 1000000) (c : Ch) :
    Calls Tryz.prog 41 #[.pointer (some ⟨wb, 0, none⟩), c.agg] w fun e w' => e = .returned (.bool (Pl.keptB A fl c)) ∧ Grew w w' := by
  have HNW := hid (fun W (g : Grew w W) => newest_any (h.grew g) hx c.key fl)
  obtain ⟨a, cap, c0, c1, hA⟩ := h
  have hwb := cell_lt c0
  clear hA
  have HK : Hid (Pl.keptB A fl c = (decide (fl < c.ver) || (c.there && (c.ver == Pl.newestN A c.key fl)))) := rfl
  generalize Pl.newestN A c.key fl = nn at HNW HK
  generalize Pl.keptB A fl c = kb at HK ⊢
  obtain ⟨ck, cv, cn, ct⟩ := c
  unfold Ch.agg
  dsimp only at *
  by_cases hf : fl < cn
  · have HK2 : Hid (kb = true) := by unfold Hid; rw [HK.out, decide_eq_true hf]; rfl
    clear HK
    go_enter Tryz.func41, Tryz.ntmps41
    go_wp2_with fail
    go_region
    go_wp2_with fail
    go_ret
    exact ⟨ret_bool HK2.out.symm, ((Grew.refl w).alloc _).drew⟩
  · cases ct with
    | false =>
      have HK2 : Hid (kb = false) := by unfold Hid; rw [HK.out, decide_eq_false hf]; rfl
      clear HK
      go_enter Tryz.func41, Tryz.ntmps41
      go_wp2_with fail
      go_region
      go_wp2_with fail
      go_quiet (fail)
      go_wp2_with fail
      go_ret
      exact ⟨ret_bool HK2.out.symm, (((Grew.refl w).alloc _).drew).drewN _⟩
    | true =>
      have HK2 : Hid (kb = (cn == nn)) := by unfold Hid; rw [HK.out, decide_eq_false hf]; simp
      clear HK
      go_enter Tryz.func41, Tryz.ntmps41
      go_wp2_with fail
      go_region
      go_wp2_with fail
      generalize hY : World.drew _ = Y
      have gY : Grew w Y := by rw [← hY]; exact ((Grew.refl w).alloc _).drew
      have k0 : Y.cell? ⟨w.heap.size, 0, none⟩ = some (.string ck) := by rw [← hY]; simp [go_sem]
      have k2 : Y.cell? ⟨w.heap.size, 2, none⟩ = some (.int .i64 cn) := by rw [← hY]; simp [go_sem]
      have k3 : Y.cell? ⟨w.heap.size, 3, none⟩ = some (.bool true) := by rw [← hY]; simp [go_sem]
      clear hY
      have K0 := wd_cell k0
      have K2 := wd_cell k2
      have K3 := wd_cell k3
      have C1 := wd_cell ((gY.cells.1 _ _ hwb).trans c1)
      have HG := hid gY
      refine wp_region_mix 18 [] (Grew Y) Grew (fun _ _ x => Grew Y x) (fun _ a => a) (by kernel_rfl) (by kernel_rfl) (fun _ _ => rfl) (Grew.refl Y).drew (fun _ _ _ h => h) Grew.refl (fun _ _ _ _ h g => h.trans g) ?_
      repeat (first
    | (refine wpMix_loose (by rfl) (by rfl) ?_)
    | (refine wpMix_plain (by rfl) (by rfl) (by rfl) (by first | exact Grew.refl | exact fun _ => rfl) (by rfl) ?_; intro K hK; go_big_quiet_op; go_big_quiet_on)
    | (refine wpMix_call (by rfl) (by rfl) (by rfl) (by rfl) (fun _ => by kernel_rfl) (fun u hu => HNW.out u (HG.out.trans hu)) ?_; simp only [Act.put, List.setIfInBounds_toArray, List.set_cons_zero, List.set_cons_succ])
    | (refine wpMix_skip (by rfl) (by rfl) (by rfl) ?_; simp only [Act.put, List.setIfInBounds_toArray, List.set_cons_zero, List.set_cons_succ]))
      refine wpMix_nil ⟨trivial, ?_⟩
      rintro f x hJ
      clear K0 K2 K3 C1
      dsimp only [List.drop]
      go_wp2_with fail
      go_ret
      exact ⟨ret_bool HK2.out.symm, HG.out.trans hJ⟩
end Go.Proofs.YtapchoppcaacdaaGreatDoor

/- The walks of tidewaterref38: History, Len. -/
set_option linter.unusedVariables false
set_option linter.unusedSimpArgs false
namespace Go.Proofs.YtapchoppcaacdaaGreatDoor
open Go.RowKit Go.Maps Go.Sort
attribute [local go_sem] Oper.semAt_some

namespace Pl
/-- ref38.History. -/
def histL (A : List Ch) (fl : Int) (k : ByteArray) : List Ch := A.filter fun c => sameK k c && keptB A fl c
theorem filter_step {α : Type} (p : α → Bool) (A : List α) (i : Nat) (hi : i < A.length) : (A.take (i + 1)).filter p = (A.take i).filter p ++ if p A[i] = true then [A[i]] else [] := by
  rw [List.take_succ_eq_append_getElem hi, List.filter_append]
  congr 1
  by_cases h : p A[i] = true
  · rw [if_pos h, List.filter_cons_of_pos h, List.filter_nil]
  · rw [if_neg h, List.filter_cons_of_neg h, List.filter_nil]
end Pl

set_option maxRecDepth 100000 in
set_option maxHeartbeats 4000000 in
theorem hist38_any {w : World} {wb : Nat} {A : List Ch} {fl : Int} (h : RefR w wb A fl) (hx : A.length ≤ 1000000) (key : ByteArray) :
    Calls Tryz.prog 15 #[.pointer (some ⟨wb, 0, none⟩), .string key] w fun e w' => (∃ v, e = .returned v ∧ w'.ownsRow w.heap.size 82 3 v (Pl.histL A fl key).length (pFlat (Pl.histL A fl key))) ∧ Grew w w' := by
  have HKE := hid (fun W (g : Grew w W) (c : Ch) => kept_any (h.grew g) hx c)
  obtain ⟨a, cap, c0, c1, hA⟩ := h
  have hwb := cell_lt c0
  have HA := hid hA
  obtain ⟨i0, hi0, hz0, hz1, hz2⟩ := info_parts info_pair
  clear hA c1
  go_enter Tryz.func15, Tryz.ntmps15
  go_wp2_with fail
  go_loopw [5, 14] (fun v i wr => ∃ (k m : Nat) (ys : List Ch) (a2 : Option Addr) (cap2 : Nat), k ≤ A.length ∧ v = .slice a2 m cap2 ∧ i = .int .i64 k ∧ Hid (ys = (A.take k).filter fun c => Pl.sameK key c && Pl.keptB A fl c) ∧ Hid (m = ys.length) ∧ m ≤ k ∧ wr.ownsRow w.heap.size 82 3 (.slice a2 m cap2) m (pFlat ys) ∧ Grew w wr) (fun _ i _ => A.length - (intOf i).toNat)
  case atStart => exact ⟨0, 0, [], _, _, Nat.zero_le _, rfl, rfl, by unfold Hid; simp, by unfold Hid; rfl, Nat.zero_le _, ⟨rfl, .inr ⟨w.heap.size, 0, #[], rfl, Nat.le_refl _, heap_alloc_new w _, Nat.le_refl _, Nat.zero_le _, rfl, rfl⟩⟩, (Grew.refl w).alloc _⟩
  case round =>
    obtain ⟨k, m, ys, a2, cap2, hk1, rfl, rfl, HY, HM, hmk, hown, hG⟩ := hrel
    by_cases hlt : k < A.length
    · rcases HA.out with h0 | ⟨b, rfl, hb, hR⟩
      · rw [h0] at hlt; simp at hlt
      have q0 := (hG.cells.1 b (k * 4) hb).trans (hR.key k hlt)
      have q1 := (hG.cells.1 b (k * 4 + 1) hb).trans (hR.val k hlt)
      have q2 := (hG.cells.1 b (k * 4 + 2) hb).trans (hR.ver k hlt)
      have q3 := (hG.cells.1 b (k * 4 + 3) hb).trans (hR.there k hlt)
      have HN := hid (Pl.filter_step (fun c => Pl.sameK key c && Pl.keptB A fl c) A k hlt)
      rw [← Pl.chAt_eq A k hlt] at HN
      clear hR
      generalize chAt A k = c at *
      have HKC := hid (fun W (g : Grew w W) => HKE.out W g c)
      generalize hkb : Pl.keptB A fl c = kb at HKC
      have HKB := hid hkb
      obtain ⟨ck, cv, cn, ct⟩ := c
      unfold Ch.agg at HKC
      dsimp only at *
      clear hkb
      cases hb0 : (ck.toList == key.toList) with
      | false =>
        have HN2 : Hid (ys = (A.take (k + 1)).filter fun c => Pl.sameK key c && Pl.keptB A fl c) := by
          unfold Hid; rw [HN.out, ← HY.out, if_neg (by unfold Pl.sameK; rw [hb0]; simp), List.append_nil]
        have hown1 := ownsRow_grew ((Grew.refl wr).alloc (.cells #[.string ck, .string cv, .int .i64 cn, .bool ct] 91)) hown
        clear HN HY hown
        go_wp2_with fail
        go_roundw
        case rel => exact ⟨k + 1, m, ys, a2, cap2, by omega, rfl, by go_num, HN2, HM, by omega, hown1, hG.alloc _⟩
        case measure => simp [intOf]; omega
      | true =>
        cases kb with
        | false =>
          have HN2 : Hid (ys = (A.take (k + 1)).filter fun c => Pl.sameK key c && Pl.keptB A fl c) := by
            unfold Hid; rw [HN.out, ← HY.out, if_neg (by rw [HKB.out]; simp), List.append_nil]
          clear HN HY
          go_wp2_with fail
          refine (HKC.out _ (hG.alloc _)).mono ?_
          rintro e w1 ⟨rfl, hg1⟩
          have o1 := ((Grew.refl wr).alloc (.cells #[.string ck, .string cv, .int .i64 cn, .bool ct] 91)).trans hg1
          have hown1 := ownsRow_grew o1 hown
          have hG1 := hG.trans o1
          clear hown
          go_wp2_with fail
          go_roundw
          case rel => exact ⟨k + 1, m, ys, a2, cap2, by omega, rfl, by go_num, HN2, HM, by omega, hown1, hG1⟩
          case measure => simp [intOf]; omega
        | true =>
          have HN2 : Hid (ys ++ [⟨ck, cv, cn, ct⟩] = (A.take (k + 1)).filter fun c => Pl.sameK key c && Pl.keptB A fl c) := by
            unfold Hid; rw [HN.out, ← HY.out, if_pos (by rw [HKB.out]; unfold Pl.sameK; rw [hb0]; rfl)]
          have HR2 : Hid (pFlat ys ++ [.string ck, .string cv, .int .i64 cn] = pFlat (ys ++ [⟨ck, cv, cn, ct⟩])) := by unfold Hid; rw [pFlat_snoc]; rfl
          have HM2 : Hid (m + 1 = (ys ++ [(⟨ck, cv, cn, ct⟩ : Ch)]).length) := by unfold Hid; rw [List.length_append, ← HM.out]; rfl
          clear HN HY
          go_wp2_with fail
          refine (HKC.out _ (hG.alloc _)).mono ?_
          rintro e w1 ⟨rfl, hg1⟩
          have o1 := ((Grew.refl wr).alloc (.cells #[.string ck, .string cv, .int .i64 cn, .bool ct] 91)).trans hg1
          have hown1 := ownsRow_grew o1 hown
          have hG1 := hG.trans o1
          have k0 : w1.cell? ⟨wr.heap.size, 0, none⟩ = some (.string ck) := by rw [hg1.cells.1 _ _ (by simp)]; simp [go_sem]
          have k1 : w1.cell? ⟨wr.heap.size, 1, none⟩ = some (.string cv) := by rw [hg1.cells.1 _ _ (by simp)]; simp [go_sem]
          have k2 : w1.cell? ⟨wr.heap.size, 2, none⟩ = some (.int .i64 cn) := by rw [hg1.cells.1 _ _ (by simp)]; simp [go_sem]
          have hz1' : wr.heap.size < w1.heap.size := by have := hg1.size; simp at this; omega
          have hle1 := hG1.size
          clear hown o1 hg1
          go_wp2_with (at_builtin; refine wpList_append_lies _ rfl _ _ 38 rfl w.heap.size 82 i0 _ 3 40 Tryz.underlying38 hi0 hz0 hz1 hz2 rfl (by omega) _ m (pFlat ys) rfl (hown1.alloc _) ⟨w1.heap.size, 0, none⟩ 1 1 [.string ck, .string cv, .int .i64 cn] rfl rfl (World.news_of_block (cs := #[.string ck, .string cv, .int .i64 cn]) (t := 82) (fr := (0, 0)) (heap_alloc_new w1 _)) (by simp [Value.oneCell']) (by omega) (by unfold maxLen; omega) (by omega) ?_ _ rfl ?_)
          · simp; omega
          · intro g capg w5 hown5 hgrow hat hlt5
            have hS' : ∀ j, some j = Value.ownBlock (.slice a2 m cap2) → w.heap.size ≤ j := fun j hj => (hown1.lt j hj.symm).1
            have o5 : Only (fun j => some j = Value.ownBlock (.slice a2 m cap2)) w1 w5 := (((Grew.refl w1).alloc _).only _).then (Only.of_grownBy hgrow)
            have hG5 : Grew w w5 := ((hG1.only _).then o5).grew hS'
            rw [HR2.out] at hown5
            clear o5 hgrow hat hown1 hS' k0 k1 k2 hG1
            go_wp2_with fail
            go_roundw
            case rel => exact ⟨k + 1, m + 1, ys ++ [⟨ck, cv, cn, ct⟩], _, capg, by omega, rfl, by go_num, HN2, HM2, by omega, hown5, hG5⟩
            case measure => simp [intOf]; omega
    · obtain rfl : k = A.length := by omega
      rw [List.take_length] at HY
      have HZ := hid hown
      clear hown
      go_wp2_with fail
      go_ret
      refine ⟨⟨_, rfl, ?_⟩, hG⟩
      unfold Pl.histL
      rw [← HY.out, ← HM.out]
      exact HZ.out

set_option maxRecDepth 100000 in
set_option maxHeartbeats 4000000 in
theorem len38_any {w : World} {wb : Nat} {A : List Ch} {fl : Int} (h : RefR w wb A fl) (hx : A.length ≤ 1000000) :
    Calls Tryz.prog 12 #[.pointer (some ⟨wb, 0, none⟩)] w fun e w' => e = .returned (.int .i64 ((A.filter (Pl.keptB A fl)).length : Nat)) ∧ Grew w w' := by
  have HKE := hid (fun W (g : Grew w W) (c : Ch) => kept_any (h.grew g) hx c)
  obtain ⟨a, cap, c0, c1, hA⟩ := h
  have hwb := cell_lt c0
  have HA := hid hA
  clear hA c1
  go_enter Tryz.func12, Tryz.ntmps12
  go_wp2_with fail
  go_loopw [3, 11] (fun v i wr => ∃ (k m : Nat), k ≤ A.length ∧ v = .int .i64 m ∧ i = .int .i64 k ∧ Hid (m = ((A.take k).filter (Pl.keptB A fl)).length) ∧ m ≤ k ∧ Grew w wr) (fun _ i _ => A.length - (intOf i).toNat)
  case atStart => exact ⟨0, 0, Nat.zero_le _, rfl, rfl, by unfold Hid; simp, Nat.zero_le _, Grew.refl w⟩
  case round =>
    obtain ⟨k, m, hk1, rfl, rfl, HM, hmk, hG⟩ := hrel
    by_cases hlt : k < A.length
    · rcases HA.out with h0 | ⟨b, rfl, hb, hR⟩
      · rw [h0] at hlt; simp at hlt
      have q0 := (hG.cells.1 b (k * 4) hb).trans (hR.key k hlt)
      have q1 := (hG.cells.1 b (k * 4 + 1) hb).trans (hR.val k hlt)
      have q2 := (hG.cells.1 b (k * 4 + 2) hb).trans (hR.ver k hlt)
      have q3 := (hG.cells.1 b (k * 4 + 3) hb).trans (hR.there k hlt)
      have HN := hid (Pl.filter_step (Pl.keptB A fl) A k hlt)
      rw [← Pl.chAt_eq A k hlt] at HN
      clear hR
      generalize chAt A k = c at *
      have HKC := hid (fun W (g : Grew w W) => HKE.out W g c)
      generalize hkb : Pl.keptB A fl c = kb at HKC HN
      obtain ⟨ck, cv, cn, ct⟩ := c
      unfold Ch.agg at HKC
      dsimp only at *
      clear hkb
      cases kb with
      | false =>
        have HN2 : Hid (m = ((A.take (k + 1)).filter (Pl.keptB A fl)).length) := by
          unfold Hid; rw [HN.out, HM.out]; simp
        clear HN HM
        go_wp2_with fail
        refine (HKC.out _ (hG.alloc _)).mono ?_
        rintro e w1 ⟨rfl, hg1⟩
        have hG1 := (hG.alloc _).trans hg1
        go_wp2_with fail
        go_roundw
        case rel => exact ⟨k + 1, m, by omega, rfl, by go_num, HN2, by omega, hG1⟩
        case measure => simp [intOf]; omega
      | true =>
        have HN2 : Hid (m + 1 = ((A.take (k + 1)).filter (Pl.keptB A fl)).length) := by
          unfold Hid; rw [HN.out, HM.out]; simp
        clear HN HM
        go_wp2_with fail
        refine (HKC.out _ (hG.alloc _)).mono ?_
        rintro e w1 ⟨rfl, hg1⟩
        have hG1 := (hG.alloc _).trans hg1
        go_wp2_with fail
        go_roundw
        case rel => exact ⟨k + 1, m + 1, by omega, by go_num, by go_num, HN2, by omega, hG1⟩
        case measure => simp [intOf]; omega
    · obtain rfl : k = A.length := by omega
      rw [List.take_length] at HM
      go_wp2_with fail
      go_ret
      exact ⟨by rw [HM.out]; rfl, hG⟩
end Go.Proofs.YtapchoppcaacdaaGreatDoor

/- The walks of tidewaterref38: Table, Get, Scan. -/
set_option linter.unusedVariables false
set_option linter.unusedSimpArgs false
namespace Go.Proofs.YtapchoppcaacdaaGreatDoor
open Go.RowKit Go.Maps Go.Sort
attribute [local go_sem] Oper.semAt_some

namespace Pl
/-- ref38.Table. -/
def tabB (A : List Ch) (v : Int) (c : Ch) : Bool := decide (c.ver ≤ v) && ((c.ver == newestN A c.key v) && c.there)
def tableL (A : List Ch) (v : Int) : List Ch := A.filter (tabB A v)
end Pl
theorem sizePr : (Value.cells (.agg #[.string ⟨#[]⟩, .string ⟨#[]⟩, .int .i64 0])).size = 3 := by kernel_rfl

set_option maxRecDepth 100000 in
set_option maxHeartbeats 4000000 in
theorem table38_any {w : World} {wb : Nat} {A : List Ch} {fl : Int} (h : RefR w wb A fl) (hx : A.length ≤ 1000000) (v : Int) :
    Calls Tryz.prog 88 #[.pointer (some ⟨wb, 0, none⟩), .int .i64 v] w fun e w' => (∃ tb, e = .returned (.pointer (some ⟨tb, 0, none⟩)) ∧ MTab w' tb ((Pl.tableL A v).map toPr)) ∧ Grew w w' := by
  have HNW := hid (fun W (g : Grew w W) (k : ByteArray) => newest_any (h.grew g) hx k v)
  obtain ⟨a, cap, c0, c1, hA⟩ := h
  have hwb := cell_lt c0
  have HA := hid hA
  obtain ⟨i0, hi0, hz0, hz1, hz2⟩ := info_parts infoPr
  clear hA c1
  go_enter Tryz.func88, Tryz.ntmps88
  go_wp2_with fail
  go_loopw [15] (fun i wr => ∃ (k m : Nat) (ys : List Ch) (a2 : Option Addr) (cap2 : Nat), k ≤ A.length ∧ i = .int .i64 k ∧ Hid (ys = (A.take k).filter (Pl.tabB A v)) ∧ Hid (m = ys.length) ∧ m ≤ k ∧ wr.cell? ⟨w.heap.size, 0, none⟩ = some (.slice a2 m cap2) ∧ wr.frozen? ⟨w.heap.size, 0, none⟩ = false ∧ wr.ownsRow 0 82 3 (.slice a2 m cap2) m (pFlat ys) ∧ (∀ j, Value.ownBlock (.slice a2 m cap2) = some j → w.heap.size + 1 ≤ j) ∧ Grew w wr) (fun i _ => A.length - (intOf i).toNat)
  case atStart => exact ⟨0, 0, [], none, 0, Nat.zero_le _, rfl, by unfold Hid; simp, by unfold Hid; rfl, Nat.zero_le _, by simp [go_sem], by simp [go_sem], World.ownsRow_nil _ _ _ _, (by intro j h; cases h), (Grew.refl w).alloc _⟩
  case round =>
    obtain ⟨k, m, ys, a2, cap2, hk1, rfl, HY, HM, hmk, hc, hf, hown, hob, hG⟩ := hrel
    by_cases hlt : k < A.length
    · rcases HA.out with h0 | ⟨b, rfl, hb, hR⟩
      · rw [h0] at hlt; simp at hlt
      have q0 := (hG.cells.1 b (k * 4) hb).trans (hR.key k hlt)
      have q1 := (hG.cells.1 b (k * 4 + 1) hb).trans (hR.val k hlt)
      have q2 := (hG.cells.1 b (k * 4 + 2) hb).trans (hR.ver k hlt)
      have q3 := (hG.cells.1 b (k * 4 + 3) hb).trans (hR.there k hlt)
      have HN := hid (Pl.filter_step (Pl.tabB A v) A k hlt)
      rw [← Pl.chAt_eq A k hlt] at HN
      clear hR
      generalize chAt A k = c at *
      have HTB : Hid (Pl.tabB A v c = (decide (c.ver ≤ v) && ((c.ver == Pl.newestN A c.key v) && c.there))) := rfl
      have HNC := hid (fun W (g : Grew w W) => HNW.out W g c.key)
      generalize Pl.newestN A c.key v = nn at HTB HNC
      generalize Pl.tabB A v c = tbb at HTB HN
      obtain ⟨ck, cv, cn, ct⟩ := c
      dsimp only at *
      have hzc : w.heap.size < wr.heap.size := cell_lt hc
      have HOWN := hid hown
      have HOB := hid hob
      have HOLT : Hid (∀ j, Value.ownBlock (.slice a2 m cap2) = some j → j < wr.heap.size) := fun j hj => (HOWN.out.lt j hj).2
      clear hown hob
      by_cases hv : cn ≤ v
      · have hdv : decide (cn ≤ v) = true := decide_eq_true hv
        go_wp2_with fail
        generalize hY : World.alloc wr _ = Y
        have gY : Grew wr Y := by rw [← hY]; exact (Grew.refl wr).alloc _
        have k0 : Y.cell? ⟨wr.heap.size, 0, none⟩ = some (.string ck) := by rw [← hY]; simp [go_sem]
        have k1 : Y.cell? ⟨wr.heap.size, 1, none⟩ = some (.string cv) := by rw [← hY]; simp [go_sem]
        have k2 : Y.cell? ⟨wr.heap.size, 2, none⟩ = some (.int .i64 cn) := by rw [← hY]; simp [go_sem]
        have k3 : Y.cell? ⟨wr.heap.size, 3, none⟩ = some (.bool ct) := by rw [← hY]; simp [go_sem]
        have hzY : wr.heap.size < Y.heap.size := by rw [← hY]; simp
        clear hY q0 q1 q2 q3
        have K0 := wd_cell k0
        have K2 := wd_cell k2
        have K3 := wd_cell k3
        have HGY := hid (hG.trans gY)
        have HgY := hid gY
        have hcY := (gY.cells.1 _ _ hzc).trans hc
        have hfY := (gY.cells.2 _ _ hzc).trans hf
        have HOY := hid (ownsRow_grew gY HOWN.out)
        clear gY hc hf HOWN
        cases hbn : (cn == nn) with
        | false =>
          have HN2 : Hid (ys = (A.take (k + 1)).filter (Pl.tabB A v)) := by
            unfold Hid; rw [HN.out, ← HY.out, HTB.out, hdv, hbn]; simp
          clear HN HY HTB

          refine wp_region_mix 21 [] (Grew Y) Grew (fun _ _ x => Grew Y x) (fun _ a => a) (by kernel_rfl) (by kernel_rfl) (fun _ _ => rfl) (Grew.refl Y).drew (fun _ _ _ h => h) Grew.refl (fun _ _ _ _ h g => h.trans g) ?_
          repeat (first
    | (refine wpMix_loose (by rfl) (by rfl) ?_)
    | (refine wpMix_plain (by rfl) (by rfl) (by rfl) (by first | exact Grew.refl | exact fun _ => rfl) (by rfl) ?_; intro K hK; go_big_quiet_op; go_big_quiet_on)
    | (refine wpMix_call (by rfl) (by rfl) (by rfl) (by rfl) (fun _ => by kernel_rfl) (fun u hu => HNC.out u (HGY.out.trans hu)) ?_; simp only [Act.put, List.setIfInBounds_toArray, List.set_cons_zero, List.set_cons_succ])
    | (refine wpMix_skip (by rfl) (by rfl) (by rfl) ?_; simp only [Act.put, List.setIfInBounds_toArray, List.set_cons_zero, List.set_cons_succ]))
          refine wpMix_nil ⟨trivial, ?_⟩
          rintro f x hJ
          clear K0 K2 K3
          dsimp only [List.drop]

          have hcx := (hJ.cells.1 _ _ (Nat.lt_trans hzc hzY)).trans hcY
          have hfx := (hJ.cells.2 _ _ (Nat.lt_trans hzc hzY)).trans hfY
          go_wp2_with fail
          go_roundw
          case rel => exact ⟨k + 1, m, ys, a2, cap2, by omega, by go_num, HN2, HM, by omega, hcx, hfx, ownsRow_grew hJ HOY.out, HOB.out, HGY.out.trans hJ⟩
          case measure => simp [intOf]; omega
        | true =>
          cases ct with
          | false =>
            have HN2 : Hid (ys = (A.take (k + 1)).filter (Pl.tabB A v)) := by
              unfold Hid; rw [HN.out, ← HY.out, HTB.out, hdv, hbn]; simp
            clear HN HY HTB

            refine wp_region_mix 21 [] (Grew Y) Grew (fun _ _ x => Grew Y x) (fun _ a => a) (by kernel_rfl) (by kernel_rfl) (fun _ _ => rfl) (Grew.refl Y).drew (fun _ _ _ h => h) Grew.refl (fun _ _ _ _ h g => h.trans g) ?_
            repeat (first
    | (refine wpMix_loose (by rfl) (by rfl) ?_)
    | (refine wpMix_plain (by rfl) (by rfl) (by rfl) (by first | exact Grew.refl | exact fun _ => rfl) (by rfl) ?_; intro K hK; go_big_quiet_op; go_big_quiet_on)
    | (refine wpMix_call (by rfl) (by rfl) (by rfl) (by rfl) (fun _ => by kernel_rfl) (fun u hu => HNC.out u (HGY.out.trans hu)) ?_; simp only [Act.put, List.setIfInBounds_toArray, List.set_cons_zero, List.set_cons_succ])
    | (refine wpMix_skip (by rfl) (by rfl) (by rfl) ?_; simp only [Act.put, List.setIfInBounds_toArray, List.set_cons_zero, List.set_cons_succ]))
            refine wpMix_nil ⟨trivial, ?_⟩
            rintro f x hJ
            clear K0 K2 K3
            dsimp only [List.drop]

            have hcx := (hJ.cells.1 _ _ (Nat.lt_trans hzc hzY)).trans hcY
            have hfx := (hJ.cells.2 _ _ (Nat.lt_trans hzc hzY)).trans hfY
            go_wp2_with fail
            go_roundw
            case rel => exact ⟨k + 1, m, ys, a2, cap2, by omega, by go_num, HN2, HM, by omega, hcx, hfx, ownsRow_grew hJ HOY.out, HOB.out, HGY.out.trans hJ⟩
            case measure => simp [intOf]; omega
          | true =>
            have HN2 : Hid (ys ++ [⟨ck, cv, cn, true⟩] = (A.take (k + 1)).filter (Pl.tabB A v)) := by
              unfold Hid; rw [HN.out, ← HY.out, HTB.out, hdv, hbn]; simp
            have HR2 : Hid (pFlat ys ++ [.string ck, .string cv, .int .i64 cn] = pFlat (ys ++ [⟨ck, cv, cn, true⟩])) := by unfold Hid; rw [pFlat_snoc]; rfl
            have HM2 : Hid (m + 1 = (ys ++ [(⟨ck, cv, cn, true⟩ : Ch)]).length) := by unfold Hid; rw [List.length_append, ← HM.out]; rfl
            clear HN HY HTB

            refine wp_region_mix 21 [] (Grew Y) Grew (fun _ _ x => Grew Y x) (fun _ a => a) (by kernel_rfl) (by kernel_rfl) (fun _ _ => rfl) (Grew.refl Y).drew (fun _ _ _ h => h) Grew.refl (fun _ _ _ _ h g => h.trans g) ?_
            repeat (first
    | (refine wpMix_loose (by rfl) (by rfl) ?_)
    | (refine wpMix_plain (by rfl) (by rfl) (by rfl) (by first | exact Grew.refl | exact fun _ => rfl) (by rfl) ?_; intro K hK; go_big_quiet_op; go_big_quiet_on)
    | (refine wpMix_call (by rfl) (by rfl) (by rfl) (by rfl) (fun _ => by kernel_rfl) (fun u hu => HNC.out u (HGY.out.trans hu)) ?_; simp only [Act.put, List.setIfInBounds_toArray, List.set_cons_zero, List.set_cons_succ])
    | (refine wpMix_skip (by rfl) (by rfl) (by rfl) ?_; simp only [Act.put, List.setIfInBounds_toArray, List.set_cons_zero, List.set_cons_succ]))
            refine wpMix_nil ⟨trivial, ?_⟩
            rintro f x hJ
            clear K0 K2 K3
            dsimp only [List.drop]

            have hcx := (hJ.cells.1 _ _ (Nat.lt_trans hzc hzY)).trans hcY
            have hfx := (hJ.cells.2 _ _ (Nat.lt_trans hzc hzY)).trans hfY
            have x0 := (hJ.cells.1 _ _ hzY).trans k0
            have x1 := (hJ.cells.1 _ _ hzY).trans k1
            have x2 := (hJ.cells.1 _ _ hzY).trans k2
            have HOX := hid (ownsRow_grew hJ HOY.out)
            have HGX := hid (HGY.out.trans hJ)
            have hzx : w.heap.size < x.heap.size := cell_lt hcx
            have hz5 : wr.heap.size < x.heap.size := cell_lt x0
            go_wp2_with fail
            have hb1 : ¬ some w.heap.size = Value.ownBlock (.slice a2 m cap2) := fun e => by have := HOB.out _ e.symm; omega
            have hb2 : ¬ some wr.heap.size = Value.ownBlock (.slice a2 m cap2) := fun e => by have := HOLT.out _ e.symm; omega
            have C0 := wd_only (S := fun j => some j = Value.ownBlock (.slice a2 m cap2)) hcx hb1
            have X0 := wd_only (S := fun j => some j = Value.ownBlock (.slice a2 m cap2)) x0 hb2
            have X1 := wd_only (S := fun j => some j = Value.ownBlock (.slice a2 m cap2)) x1 hb2
            have X2 := wd_only (S := fun j => some j = Value.ownBlock (.slice a2 m cap2)) x2 hb2
            refine wp_region_mix 9 [7, 8] (Only (fun j => some j = Value.ownBlock (.slice a2 m cap2)) x) Eq (JOne 82 7 8 x [.string ck, .string cv, .int .i64 cn] (AppD 82 3 (.slice a2 m cap2) m (pFlat ys) [.string ck, .string cv, .int .i64 cn])) (fun f a => (a.put (some 47) (f 7)).put (some 48) (f 8)) (by kernel_rfl) (by kernel_rfl) (fun _ _ => rfl) (JOne.start x) (fun L f x h => h.only fun _ _ _ h => h.only) (fun _ => rfl) (fun _ _ _ _ h g => g ▸ h) ?_
            repeat (first
    | (refine wpMix_loose (by rfl) (by rfl) ?_)
    | (refine wpMix_plain (by rfl) (by rfl) (by rfl) (by first | exact Grew.refl | exact fun _ => rfl) (by rfl) ?_; intro K hK; go_big_quiet_op; go_big_quiet_on)
    | (refine wpMix_skip (by rfl) (by rfl) (by rfl) ?_; simp only [Act.put, List.setIfInBounds_toArray, List.set_cons_zero, List.set_cons_succ]))
            refine wpMix_done (by rfl) ⟨⟨loose_of rfl (fun _ a => a) (fun _ _ => rfl) (fun _ => rfl) ?_, loose_of rfl (fun f a => a.put (some 47) (f 7)) (fun _ _ => rfl) (fun _ => rfl) ?_, trivial⟩, ?_⟩
            · intro L f y hJ hL hd
              clear C0 X0 X1 X2
              have hm := hid (hJ.make (by decide) hL)
              clear hJ
              go_simp
              exact hm.out
            · intro L f y hJ hL hd
              clear C0 X0 X1 X2
              have h7 := hd 7 rfl (by decide)
              obtain ⟨vb, q7, hvN, hvb⟩ := hJ.made h7 hL
              refine uponV_append _ _ _ rfl 82 i0 _ 3 40 Tryz.underlying38 hi0 hz0 hz1 hz2 sizePr (by omega) (.slice a2 m cap2) m (pFlat ys) rfl ?_ vb 1 [.string ck, .string cv, .int .i64 cn] ?_ rfl hvb (by intro u hu; simp at hu; rcases hu with rfl | rfl | rfl <;> rfl) (by unfold maxLen; omega) (by omega) ?_
              · exact ownsRow_grew (hJ.grew hL) HOX.out
              · exact q7
              · intro r w' hD
                exact hJ.call (by decide) hL h7 hD
            rintro f y hJ
            clear C0 X0 X1 X2
            obtain ⟨x0', gx0, g4, c4, q8, hrow, hgr, hat⟩ := hJ.done rfl
            rw [q8]
            have ho1 : Only (fun j => some j = Value.ownBlock (.slice a2 m cap2)) x y := (gx0.only _).then (Only.of_grownBy hgr)
            have hcy := (ho1.cell hzx hb1 0).trans hcx
            have hfy := (ho1.frozen hzx hb1 0).trans hfx
            have hzy : w.heap.size < y.heap.size := cell_lt hcy
            have HOB2 : Hid (∀ j, Value.ownBlock (.slice (some ⟨g4, 0, none⟩) (m + 1) c4) = some j → w.heap.size + 1 ≤ j) := fun j hj => by
              have e : g4 = j := by simpa [Value.ownBlock] using hj
              subst e
              rcases hat with h | h
              · exact HOB.out _ h
              · have := gx0.size; omega
            rw [HR2.out] at hrow
            have hrow2 : (y.setCell ⟨w.heap.size, 0, none⟩ (.slice (some ⟨g4, 0, none⟩) (m + 1) c4)).ownsRow 0 82 3 (.slice (some ⟨g4, 0, none⟩) (m + 1) c4) (m + 1) (pFlat (ys ++ [⟨ck, cv, cn, true⟩])) :=
              ownsRow_only (Only.setCell y ⟨w.heap.size, 0, none⟩ _) hrow fun b hb (e : b = w.heap.size) => by have := HOB2.out b hb; omega
            have HROW2 := hid hrow2
            have hGy : Grew w (y.setCell ⟨w.heap.size, 0, none⟩ (.slice (some ⟨g4, 0, none⟩) (m + 1) c4)) := (((HGX.out.only _).then ho1).grew fun j (hj : some j = Value.ownBlock (.slice a2 m cap2)) => by have := HOB.out j hj.symm; omega).setCell (by simp) _
            have HGY2 := hid hGy
            have hc2 : (y.setCell ⟨w.heap.size, 0, none⟩ (.slice (some ⟨g4, 0, none⟩) (m + 1) c4)).cell? ⟨w.heap.size, 0, none⟩ = some (.slice (some ⟨g4, 0, none⟩) (m + 1) c4) := by simp [go_sem, hcy]
            have hf2 : (y.setCell ⟨w.heap.size, 0, none⟩ (.slice (some ⟨g4, 0, none⟩) (m + 1) c4)).frozen? ⟨w.heap.size, 0, none⟩ = false := by simp [go_sem, hfy]
            have HC2 := hid (And.intro hc2 hf2)
            clear hJ q8 hrow hgr hat ho1 gx0 hrow2 hGy hc2 hf2 HOY HgY
            dsimp only [List.drop]
            go_wp2_with fail
            go_roundw
            case rel => exact ⟨k + 1, m + 1, ys ++ [⟨ck, cv, cn, true⟩], _, c4, by omega, by go_num, HN2, HM2, by omega, HC2.out.1, HC2.out.2, HROW2.out, HOB2.out, HGY2.out⟩
            case measure => simp [intOf]; omega
      · have hdv : decide (cn ≤ v) = false := decide_eq_false hv
        have HN2 : Hid (ys = (A.take (k + 1)).filter (Pl.tabB A v)) := by
          unfold Hid; rw [HN.out, ← HY.out, HTB.out, hdv]; simp
        clear HN HY HTB HNC
        go_wp2_with fail
        go_quiet (fail)
        go_wp2_with fail
        go_roundw
        case rel =>
          have g1 : Grew wr ((wr.alloc (.cells #[.string ck, .string cv, .int .i64 cn, .bool ct] 91)).drewN nq) := ((Grew.refl wr).alloc _).drewN _
          exact ⟨k + 1, m, ys, a2, cap2, by omega, by go_num, HN2, HM, by omega, (g1.cells.1 _ _ hzc).trans hc, (g1.cells.2 _ _ hzc).trans hf, ownsRow_grew g1 HOWN.out, HOB.out, hG.trans g1⟩
        case measure => simp [intOf]; omega
    · obtain rfl : k = A.length := by omega
      rw [List.take_length] at HY
      have HZ := hid hown
      clear hown
      go_wp2_with fail
      go_ret
      refine ⟨⟨_, rfl, a2, cap2, ?_, ?_⟩, hG⟩
      · rw [hc]; unfold Pl.tableL; rw [← HY.out, List.length_map, ← HM.out]
      · unfold Pl.tableL; rw [← HY.out]
        have h1 := HZ.out
        rw [HM.out] at h1
        obtain ⟨a', cap', e', hP⟩ := pairs_of_p h1
        rw [List.length_map] at e'
        cases e'; exact hP
end Go.Proofs.YtapchoppcaacdaaGreatDoor

/- The walks of tidewaterref38: Get, Scan; the document's past that is written: Trim, Note. -/
set_option linter.unusedVariables false
set_option linter.unusedSimpArgs false
namespace Go.Proofs.YtapchoppcaacdaaGreatDoor
open Go.RowKit Go.Maps Go.Sort
attribute [local go_sem] Oper.semAt_some

namespace Pl
def get38 (A : List Ch) (fl : Int) (key : ByteArray) (v : Int) : Option Pr := if getE key fl v = 0 then ((tableL A v).map toPr).find? (isK key) else none
end Pl

set_option maxRecDepth 100000 in
set_option maxHeartbeats 2000000 in
theorem get38_any {w : World} {wb : Nat} {A : List Ch} {fl : Int} (h : RefR w wb A fl) (hx : A.length ≤ 1000000) (key : ByteArray) (hk : key.size ≤ 16777216) (v : Int) :
    Calls Tryz.prog 38 #[.pointer (some ⟨wb, 0, none⟩), .string key, .int .i64 v] w fun e w' => e = .returned (.tuple #[((Pl.get38 A fl key v).getD Pr.none).agg, .bool (Pl.get38 A fl key v).isSome, .int .i64 (Pl.getE key fl v : Nat)]) ∧ Grew w w' := by
  have HR := hid h
  obtain ⟨a, cap, c0, c1, hA⟩ := h
  have hwb := cell_lt c0
  have HKY := hid (fun W => ref_key key W hk)
  clear hA c0
  by_cases hkn : Pl.keyN key = 0
  · rw [hkn] at HKY
    by_cases hv : v < fl
    · have e1 : Pl.getE key fl v = 11 := by unfold Pl.getE; rw [if_neg (by simp [hkn]), if_pos hv]
      have e2 : Pl.get38 A fl key v = none := by unfold Pl.get38; rw [e1]; rfl
      rw [e1, e2]
      clear e1 e2 hkn
      go_enter Tryz.func38, Tryz.ntmps38
      go_wp2_with fail
      refine (HKY.out _).mono ?_
      rintro e w1 ⟨rfl, hg⟩
      have hz : w.heap.size < w1.heap.size := by have := hg.size; simp at this; omega
      have hG : Grew w w1 := ((Grew.refl w).alloc _).trans hg
      obtain ⟨hc, hf⟩ := hg.cells
      have p1 := (hG.cells.1 _ _ hwb).trans c1
      go_wp2_with fail
      refine bodyPost_ret (v := .tuple #[Pr.none.agg, .bool false, .int .i64 11]) (by simp [results, Tryz.results38, go_sem, hc, hz, Pr.agg, Pr.none]) rfl ⟨rfl, ?_⟩
      refine ((hG.setCell ?_ _).setCell ?_ _).setCell ?_ _ <;> exact Nat.le_refl _
    · have e1 : Pl.getE key fl v = 0 := by unfold Pl.getE; rw [if_neg (by simp [hkn]), if_neg hv]
      have e2 : Pl.get38 A fl key v = ((Pl.tableL A v).map toPr).find? (Pl.isK key) := by unfold Pl.get38; rw [if_pos e1]
      rw [e1, e2]
      have hlen : ((Pl.tableL A v).map toPr).length ≤ 1000000 := by rw [List.length_map]; have := List.length_filter_le (Pl.tabB A v) A; unfold Pl.tableL; omega
      have HTB := hid (fun W (g : Grew w W) => table38_any (HR.out.grew g) hx v)
      have HGT := hid (fun W tb (h : MTab W tb ((Pl.tableL A v).map toPr)) => get21_any h hlen key)
      clear e1 e2 hkn
      generalize ((Pl.tableL A v).map toPr) = T at *
      generalize (T.find? (Pl.isK key)).getD Pr.none = c at HGT ⊢
      generalize (T.find? (Pl.isK key)).isSome = bb at HGT ⊢
      obtain ⟨ck, cv, cn⟩ := c
      unfold Pr.agg at HGT ⊢
      dsimp only at HGT ⊢
      go_enter Tryz.func38, Tryz.ntmps38
      go_wp2_with fail
      refine (HKY.out _).mono ?_
      rintro e w1 ⟨rfl, hg⟩
      have hG : Grew w w1 := ((Grew.refl w).alloc _).trans hg
      have p1 := (hG.cells.1 _ _ hwb).trans c1
      have hwb1 := Nat.lt_of_lt_of_le hwb hG.size
      go_wp2_with fail
      refine (HTB.out _ hG).mono ?_
      rintro e w2 ⟨⟨tb, rfl, hT⟩, hg2⟩
      go_wp2_with fail
      refine (HGT.out _ tb hT).mono ?_
      rintro e w3 ⟨rfl, hg3⟩
      have hg13 := hg.trans (hg2.trans hg3)
      have hz : w.heap.size < w3.heap.size := by have := hg13.size; simp at this; omega
      obtain ⟨hc, hf⟩ := hg13.cells
      have hG3 : Grew w w3 := ((Grew.refl w).alloc _).trans hg13
      clear hg hg2 hg3 hT
      go_wp2_with fail
      refine bodyPost_ret (v := .tuple #[.agg #[.string ck, .string cv, .int .i64 cn], .bool bb, .int .i64 0]) (by simp [results, Tryz.results38, go_sem, hc, hz]) rfl ⟨rfl, ?_⟩
      refine (((hG3.setCell ?_ _).setCell ?_ _).setCell ?_ _).alloc _ <;> exact Nat.le_refl _
  · have e1 : Pl.getE key fl v = Pl.keyN key := by unfold Pl.getE; rw [if_pos hkn]
    have e2 : Pl.get38 A fl key v = none := by unfold Pl.get38; rw [e1, if_neg hkn]
    rw [e1, e2]
    have hne : ¬ ((Pl.keyN key : Nat) : Int) = 0 := by omega
    have hnb : (((Pl.keyN key : Nat) : Int) != 0) = true := by rw [bne_iff_ne]; exact hne
    clear e1 e2 hkn
    generalize Pl.keyN key = kn at *
    go_enter Tryz.func38, Tryz.ntmps38
    go_wp2_with fail
    refine (HKY.out _).mono ?_
    rintro e w1 ⟨rfl, hg⟩
    have hz : w.heap.size < w1.heap.size := by have := hg.size; simp at this; omega
    have hG : Grew w w1 := ((Grew.refl w).alloc _).trans hg
    obtain ⟨hc, hf⟩ := hg.cells
    go_wp2_with fail
    refine bodyPost_ret (v := .tuple #[Pr.none.agg, .bool false, .int .i64 (kn : Nat)]) (by simp [results, Tryz.results38, go_sem, hc, hz, Pr.agg, Pr.none]) rfl ⟨rfl, ?_⟩
    refine ((hG.setCell ?_ _).setCell ?_ _).setCell ?_ _ <;> exact Nat.le_refl _

set_option maxRecDepth 100000 in
set_option maxHeartbeats 2000000 in
theorem scan38_any {w : World} {wb : Nat} {A : List Ch} {fl : Int} (h : RefR w wb A fl) (hx : A.length ≤ 1000000) (lo hi : ByteArray) (v : Int) (hlo : lo.size ≤ 16777216) (hhi : hi.size ≤ 16777216) (hk : ∀ c ∈ Pl.tableL A v, Pl.keyN c.key = 0) (hd : (Pl.tableL A v).Pairwise fun a b => a.key ≠ b.key) (hsz : ∀ c ∈ Pl.tableL A v, c.key.size ≤ 16777216) :
    Calls Tryz.prog 40 #[.pointer (some ⟨wb, 0, none⟩), .agg #[.string lo, .string hi], .int .i64 v] w fun e w' => (∃ u L, e = .returned (.tuple #[u, .int .i64 (Pl.scanE lo hi fl v : Nat)]) ∧ (Pl.scanE lo hi fl v = 0 → ∃ zs, zs.Perm ((Pl.tableL A v).map toPr) ∧ Pl.Srt zs ∧ L = Pl.scanT zs lo hi 1000000) ∧ (Pl.scanE lo hi fl v ≠ 0 → L = []) ∧ w'.ownsRow w.heap.size 82 3 u L.length (prFlat L)) ∧ Grew w w' := by
  have HR := hid h
  obtain ⟨a, cap, c0, c1, hA⟩ := h
  have hwb := cell_lt c0
  have HRT := hid (fun W => ref_right lo hi W hlo hhi)
  rw [Pl.rightR_eq] at HRT
  have hlen : ((Pl.tableL A v).map toPr).length ≤ 1000000 := by rw [List.length_map]; have := List.length_filter_le (Pl.tabB A v) A; unfold Pl.tableL; omega
  have HTB := hid (fun W (g : Grew w W) => table38_any (HR.out.grew g) hx v)
  have HSC := hid (fun W tb (h : MTab W tb ((Pl.tableL A v).map toPr)) => scan21_any h hlen (fun c hc => by obtain ⟨d, hd', rfl⟩ := List.mem_map.1 hc; exact hk d hd') (by rw [List.pairwise_map]; exact hd) (fun c hc => by obtain ⟨d, hd', rfl⟩ := List.mem_map.1 hc; exact hsz d hd') lo hi 1000000 hlo hhi)
  clear hA c0 hk hd hsz
  cases hr : Pl.rightS lo hi with
  | false =>
    have he : Pl.scanE lo hi fl v = 4 := by unfold Pl.scanE; rw [if_pos hr]
    rw [hr] at HRT
    rw [he]
    clear he hr
    go_enter Tryz.func40, Tryz.ntmps40
    go_wp2_with fail
    refine (HRT.out _).mono ?_
    rintro e w1 ⟨rfl, hg⟩
    have hG : Grew w w1 := ((Grew.refl w).alloc _).trans hg
    go_wp2_with fail
    go_ret2
    exact ⟨⟨_, [], rfl, (fun h => by cases h), fun _ => rfl, World.ownsRow_nil _ _ _ _⟩, hG⟩
  | true =>
    rw [hr] at HRT
    by_cases hv : v < fl
    · have he : Pl.scanE lo hi fl v = 11 := by unfold Pl.scanE; rw [if_neg (by simp [hr]), if_pos hv]
      rw [he]
      clear he hr
      go_enter Tryz.func40, Tryz.ntmps40
      go_wp2_with fail
      refine (HRT.out _).mono ?_
      rintro e w1 ⟨rfl, hg⟩
      have hG : Grew w w1 := ((Grew.refl w).alloc _).trans hg
      have p1 := (hG.cells.1 _ _ hwb).trans c1
      go_wp2_with fail
      go_ret2
      exact ⟨⟨_, [], rfl, (fun h => by cases h), fun _ => rfl, World.ownsRow_nil _ _ _ _⟩, hG⟩
    · have he : Pl.scanE lo hi fl v = 0 := by unfold Pl.scanE; rw [if_neg (by simp [hr]), if_neg hv]
      rw [he]
      clear he hr
      go_enter Tryz.func40, Tryz.ntmps40
      go_wp2_with fail
      refine (HRT.out _).mono ?_
      rintro e w1 ⟨rfl, hg⟩
      have hG : Grew w w1 := ((Grew.refl w).alloc _).trans hg
      have p1 := (hG.cells.1 _ _ hwb).trans c1
      have l0 : w1.cell? ⟨w.heap.size, 0, none⟩ = some (.string lo) := by rw [hg.cells.1 _ _ (by simp)]; simp [go_sem]
      have l1 : w1.cell? ⟨w.heap.size, 1, none⟩ = some (.string hi) := by rw [hg.cells.1 _ _ (by simp)]; simp [go_sem]
      have hz1 : w.heap.size < w1.heap.size := by have := hg.size; simp at this; omega
      have HG1 := hid hG
      go_wp2_with fail
      have L0 := wd_cell l0
      have L1 := wd_cell l1
      refine wp_region_mix 4 [2] (Grew w1) Eq (fun L f x => Grew w1 x ∧ (L 2 = true → ∃ tb, f 2 = .pointer (some ⟨tb, 0, none⟩) ∧ MTab x tb ((Pl.tableL A v).map toPr))) (fun f a => a.put (some 19) (f 2)) (by kernel_rfl) (by kernel_rfl) (fun _ _ => rfl) ⟨(Grew.refl w1).drew, fun h => by cases h⟩ (fun L f x h => h.1) (fun _ => rfl) (fun _ _ _ _ h g => g ▸ h) ?_
      repeat (first
    | (refine wpMix_loose (by rfl) (by rfl) ?_)
    | (refine wpMix_plain (by rfl) (by rfl) (by rfl) (by first | exact Grew.refl | exact fun _ => rfl) (by rfl) ?_; intro K hK; go_big_quiet_op; go_big_quiet_on)
    | (refine wpMix_skip (by rfl) (by rfl) (by rfl) ?_; simp only [Act.put, List.setIfInBounds_toArray, List.set_cons_zero, List.set_cons_succ]))
      refine wpMix_done (by rfl) ⟨⟨loose_of rfl (fun _ a => a) (fun _ _ => rfl) (fun _ => rfl) ?_, trivial⟩, ?_⟩
      · intro L f x hJ hL hd
        clear L0 L1
        go_simp
        refine (HTB.out _ (HG1.out.trans hJ.1)).mono ?_
        rintro e w2 ⟨⟨tb, rfl, hT⟩, hg2⟩
        exact ⟨_, rfl, hJ.1.trans hg2, ⟨tb, updV_same _ _ _, hT⟩⟩
      rintro f x ⟨hJ, hT⟩
      clear L0 L1
      obtain ⟨tb, e2, hTb⟩ := hT rfl
      rw [e2]
      have HT := hid hTb
      have m0 := (hJ.cells.1 _ _ hz1).trans l0
      have m1 := (hJ.cells.1 _ _ hz1).trans l1
      clear hT hTb
      dsimp only [List.drop]
      go_wp2_with fail
      refine (HSC.out _ tb HT.out).mono ?_
      rintro e w3 ⟨⟨u, zs, rfl, hp, hs, hrow⟩, hg3⟩
      have HX := hid (And.intro hp (And.intro hs hrow))
      have hG3 := (HG1.out.trans hJ).trans hg3
      clear hp hs hrow
      go_wp2_with fail
      go_ret2
      refine ⟨⟨_, _, rfl, fun _ => ⟨zs, HX.out.1, HX.out.2.1, rfl⟩, fun h => absurd rfl h, ownsRow_base ?_ HX.out.2.2⟩, hG3⟩
      have := (HG1.out.trans hJ).size
      first | exact this | (simp; omega)
end Go.Proofs.YtapchoppcaacdaaGreatDoor

/- The document's past that is written: its blocks; the walks of tidewaterref38: Trim, Note. -/
set_option linter.unusedVariables false
set_option linter.unusedSimpArgs false
namespace Go.Proofs.YtapchoppcaacdaaGreatDoor
open Go.RowKit Go.Maps Go.Sort
attribute [local go_sem] Oper.semAt_some

/-- The document's past, with the blocks it owns. -/
structure RefIs (w : World) (G : Nat → Prop) (wb : Nat) (v : Value) (A : List Ch) (fl : Int) : Prop where
  c0 : w.cell? ⟨wb, 0, none⟩ = some v
  c1 : w.cell? ⟨wb, 1, none⟩ = some (.int .i64 fl)
  f0 : w.frozen? ⟨wb, 0, none⟩ = false
  f1 : w.frozen? ⟨wb, 1, none⟩ = false
  row : w.ownsRow 0 91 4 v A.length (chFlat A)
  foot : G wb
  own : ∀ g, v.ownBlock = some g → G g ∧ g ≠ wb
  lt : ∀ j, G j → j < w.heap.size
def RefAt (w : World) (G : Nat → Prop) (wb : Nat) (A : List Ch) (fl : Int) : Prop := ∃ v, RefIs w G wb v A fl
def RefTurn (w : World) (G : Nat → Prop) (wb : Nat) (A : List Ch) (fl : Int) (w' : World) : Prop := Only G w w' ∧ ∃ G', RefAt w' G' wb A fl ∧ ∀ j, G' j → G j ∨ w.heap.size ≤ j
theorem RefIs.kept {w w' : World} {G S : Nat → Prop} {wb : Nat} {v : Value} {A : List Ch} {fl : Int} (h : RefIs w G wb v A fl) (g : Only S w w') (hS : ∀ j, G j → ¬ S j) : RefIs w' G wb v A fl where
  c0 := (g.cell (cell_lt h.c0) (hS _ h.foot) 0).trans h.c0
  c1 := (g.cell (cell_lt h.c1) (hS _ h.foot) 1).trans h.c1
  f0 := (g.frozen (cell_lt h.c0) (hS _ h.foot) 0).trans h.f0
  f1 := (g.frozen (cell_lt h.c1) (hS _ h.foot) 1).trans h.f1
  row := ownsRow_only g h.row fun b hb => hS b (h.own b hb).1
  foot := h.foot
  own := h.own
  lt := fun j hj => Nat.lt_of_lt_of_le (h.lt j hj) g.size
theorem RefAt.kept {w w' : World} {G S : Nat → Prop} {wb : Nat} {A : List Ch} {fl : Int} (h : RefAt w G wb A fl) (g : Only S w w') (hS : ∀ j, G j → ¬ S j) : RefAt w' G wb A fl := by obtain ⟨v, h⟩ := h; exact ⟨v, h.kept g hS⟩
theorem RefAt.grew {w w' : World} {G : Nat → Prop} {wb : Nat} {A : List Ch} {fl : Int} (h : RefAt w G wb A fl) (g : Grew w w') : RefAt w' G wb A fl := h.kept (g.only fun _ => False) (fun _ _ h => h)
theorem RefAt.lt {w : World} {G : Nat → Prop} {wb : Nat} {A : List Ch} {fl : Int} (h : RefAt w G wb A fl) : ∀ j, G j → j < w.heap.size := by obtain ⟨v, h⟩ := h; exact h.lt
theorem RefIs.read {w : World} {G : Nat → Prop} {wb : Nat} {v : Value} {A : List Ch} {fl : Int} (h : RefIs w G wb v A fl) : RefR w wb A fl := by
  obtain ⟨a, cap, e, hA⟩ := chsAt_of h.row
  exact ⟨a, cap, by rw [← e]; exact h.c0, h.c1, hA⟩
theorem RefAt.read {w : World} {G : Nat → Prop} {wb : Nat} {A : List Ch} {fl : Int} (h : RefAt w G wb A fl) : RefR w wb A fl := by obtain ⟨v, h⟩ := h; exact h.read
theorem RefTurn.of_grew {w w' : World} {G : Nat → Prop} {wb : Nat} {A : List Ch} {fl : Int} (h : RefAt w G wb A fl) (g : Grew w w') : RefTurn w G wb A fl w' := ⟨g.only _, G, h.grew g, fun j hj => .inl hj⟩

set_option maxRecDepth 100000 in
set_option maxHeartbeats 1000000 in
theorem trim38_any {w : World} {G : Nat → Prop} {wb : Nat} {A : List Ch} {fl : Int} (h : RefAt w G wb A fl) (to : Int) :
    Calls Tryz.prog 37 #[.pointer (some ⟨wb, 0, none⟩), .int .i64 to] w fun e w' => e = .returned (.int .i64 (Pl.trimE to : Nat)) ∧ RefTurn w G wb A (Pl.trimF fl to) w' := by
  obtain ⟨v, h⟩ := h
  have HH := hid h
  have c1 := h.c1
  have cf := h.f1
  have hwb := cell_lt c1
  clear h
  by_cases hto : to < 0 ∨ 4096 < to
  · have e1 : Pl.trimE to = 1 := by unfold Pl.trimE; rw [if_pos hto]
    have e3 : Pl.trimF fl to = fl := by unfold Pl.trimF; rw [e1]; rfl
    rw [e1, e3]
    clear e1 e3
    by_cases h0 : to < 0
    · go_enter Tryz.func37, Tryz.ntmps37
      go_wp2_with fail
      go_ret
      exact ⟨rfl, RefTurn.of_grew ⟨v, HH.out⟩ (Grew.refl w)⟩
    · have h4 : 4096 < to := by omega
      go_enter Tryz.func37, Tryz.ntmps37
      go_wp2_with fail
      go_ret
      exact ⟨rfl, RefTurn.of_grew ⟨v, HH.out⟩ (Grew.refl w)⟩
  · have e1 : Pl.trimE to = 0 := by unfold Pl.trimE; rw [if_neg hto]
    have t0 : 0 ≤ to := by omega
    have t1 : to ≤ 4096 := by omega
    by_cases hfl : fl < to
    · have e3 : Pl.trimF fl to = to := by unfold Pl.trimF; rw [if_pos ⟨e1, hfl⟩]
      rw [e1, e3]
      clear e1 e3 hto
      have HT : Hid (RefTurn w G wb A to (w.setCell ⟨wb, 1, none⟩ (.int .i64 to))) := by
        have h := HH.out
        have ho : Only (fun j => j = wb) w (w.setCell ⟨wb, 1, none⟩ (.int .i64 to)) := Only.setCell w ⟨wb, 1, none⟩ _
        refine ⟨ho.mono fun j (hj : j = wb) => .inl (by rw [hj]; exact h.foot), G, ⟨v, ?_⟩, fun j hj => .inl hj⟩
        have k0 := h.c0
        have k1 := h.c1
        have k2 := h.f0
        have k3 := h.f1
        exact ⟨by simp [go_sem, k0], by simp [go_sem, k1], by simp [go_sem, k2], by simp [go_sem, k3], ownsRow_only ho h.row fun b hb (e : b = wb) => (h.own b hb).2 e, h.foot, h.own, fun j hj => Nat.lt_of_lt_of_le (h.lt j hj) ho.size⟩
      go_enter Tryz.func37, Tryz.ntmps37
      go_wp2_with fail
      go_ret
      exact ⟨rfl, HT.out⟩
    · have e3 : Pl.trimF fl to = fl := by unfold Pl.trimF; rw [if_neg (fun h => hfl h.2)]
      rw [e1, e3]
      clear e1 e3 hto
      go_enter Tryz.func37, Tryz.ntmps37
      go_wp2_with fail
      go_ret
      exact ⟨rfl, RefTurn.of_grew ⟨v, HH.out⟩ (Grew.refl w)⟩

theorem info_rch : (Tryz.prog.info? 91).map (fun i => (i.zero, i.size, i.bytes)) = some (some (.agg #[.string ⟨#[]⟩, .string ⟨#[]⟩, .int .i64 0, .bool false]), 4, 48) := by kernel_rfl
theorem sizeRch : (Value.cells (.agg #[.string ⟨#[]⟩, .string ⟨#[]⟩, .int .i64 0, .bool false])).size = 4 := by kernel_rfl

set_option maxRecDepth 100000 in
set_option maxHeartbeats 4000000 in
theorem note38_any {w : World} {G : Nat → Prop} {wb : Nat} {A : List Ch} {fl : Int} (h : RefAt w G wb A fl) (hx : A.length ≤ 100000) (c : Ch) (hk : c.key.size ≤ 16777216) (hv : c.val.size ≤ 140737488351232) :
    Calls Tryz.prog 34 #[.pointer (some ⟨wb, 0, none⟩), c.agg] w fun e w' => e = .returned (.int .i64 (Pl.noteE (Pl.histL A fl) fl c : Nat)) ∧ RefTurn w G wb (if Pl.noteE (Pl.histL A fl) fl c = 0 then A ++ [c] else A) fl w' := by
  have HR := hid h
  have HKY := hid (fun W => ref_key c.key W hk)
  have HHI := hid (fun W (g : Grew w W) => hist38_any (h.read.grew g) (by omega) c.key)
  have hhl : (Pl.histL A fl c.key).length ≤ 100000 := by have := List.length_filter_le (fun d => Pl.sameK c.key d && Pl.keptB A fl d) A; unfold Pl.histL; omega
  obtain ⟨u, h⟩ := h
  have c0 := h.c0
  have c1 := h.c1
  have hwb := cell_lt c1
  obtain ⟨i0, hi0, hz0, hz1, hz2⟩ := info_parts info_rch
  have HH := hid h
  clear h
  have HNE : Hid (Pl.noteE (Pl.histL A fl) fl c = if Pl.keyN c.key ≠ 0 then Pl.keyN c.key else if 64 < c.val.size then 3 else if c.ver < 1 ∨ 4096 < c.ver then 1 else if Pl.staleB (Pl.histL A fl c.key) fl c.ver = true then 19 else 0) := rfl
  generalize Pl.noteE (Pl.histL A fl) fl c = ne at HNE ⊢
  generalize Pl.histL A fl c.key = K at *
  obtain ⟨ck, cv, cn, ct⟩ := c
  unfold Ch.agg
  dsimp only at *
  by_cases hkn : Pl.keyN ck = 0
  · rw [hkn] at HKY
    by_cases h64 : 64 < cv.size
    · have e1 : ne = 3 := by rw [HNE.out, if_neg (by simp [hkn]), if_pos h64]
      subst e1
      rw [if_neg (by decide)]
      have h64' : (64 : Int) < (cv.size : Int) := by omega
      clear HNE hkn
      go_enter Tryz.func34, Tryz.ntmps34
      go_wp2_with fail
      refine (HKY.out _).mono ?_
      rintro e w1 ⟨rfl, hg⟩
      have hz : w.heap.size < w1.heap.size := by have := hg.size; simp at this; omega
      have hG : Grew w w1 := ((Grew.refl w).alloc _).trans hg
      have k1 : w1.cell? ⟨w.heap.size, 1, none⟩ = some (.string cv) := by rw [hg.cells.1 _ _ (by simp)]; simp [go_sem]
      go_wp2_with fail
      go_ret
      exact ⟨rfl, RefTurn.of_grew HR.out hG⟩
    · have h64' : (cv.size : Int) ≤ 64 := by omega
      by_cases hr : cn < 1 ∨ 4096 < cn
      · have e1 : ne = 1 := by rw [HNE.out, if_neg (by simp [hkn]), if_neg h64, if_pos hr]
        subst e1
        rw [if_neg (by decide)]
        clear HNE hkn
        by_cases hr1 : cn < 1
        · go_enter Tryz.func34, Tryz.ntmps34
          go_wp2_with fail
          refine (HKY.out _).mono ?_
          rintro e w1 ⟨rfl, hg⟩
          have hz : w.heap.size < w1.heap.size := by have := hg.size; simp at this; omega
          have hG : Grew w w1 := ((Grew.refl w).alloc _).trans hg
          have k1 : w1.cell? ⟨w.heap.size, 1, none⟩ = some (.string cv) := by rw [hg.cells.1 _ _ (by simp)]; simp [go_sem]
          have k2 : w1.cell? ⟨w.heap.size, 2, none⟩ = some (.int .i64 cn) := by rw [hg.cells.1 _ _ (by simp)]; simp [go_sem]
          go_wp2_with fail
          go_ret
          exact ⟨rfl, RefTurn.of_grew HR.out hG⟩
        · have hr2 : 4096 < cn := by omega
          go_enter Tryz.func34, Tryz.ntmps34
          go_wp2_with fail
          refine (HKY.out _).mono ?_
          rintro e w1 ⟨rfl, hg⟩
          have hz : w.heap.size < w1.heap.size := by have := hg.size; simp at this; omega
          have hG : Grew w w1 := ((Grew.refl w).alloc _).trans hg
          have k1 : w1.cell? ⟨w.heap.size, 1, none⟩ = some (.string cv) := by rw [hg.cells.1 _ _ (by simp)]; simp [go_sem]
          have k2 : w1.cell? ⟨w.heap.size, 2, none⟩ = some (.int .i64 cn) := by rw [hg.cells.1 _ _ (by simp)]; simp [go_sem]
          go_wp2_with fail
          go_ret
          exact ⟨rfl, RefTurn.of_grew HR.out hG⟩
      · have hr1 : 1 ≤ cn := by omega
        have hr2 : cn ≤ 4096 := by omega
        have e0 : ne = if Pl.staleB K fl cn = true then 19 else 0 := by rw [HNE.out, if_neg (by simp [hkn]), if_neg h64, if_neg hr]
        clear HNE hkn h64 hr
        go_enter Tryz.func34, Tryz.ntmps34
        go_wp2_with fail
        refine (HKY.out _).mono ?_
        rintro e w1 ⟨rfl, hg⟩
        have hz : w.heap.size < w1.heap.size := by have := hg.size; simp at this; omega
        have hG : Grew w w1 := ((Grew.refl w).alloc _).trans hg
        have k0 : w1.cell? ⟨w.heap.size, 0, none⟩ = some (.string ck) := by rw [hg.cells.1 _ _ (by simp)]; simp [go_sem]
        have k1 : w1.cell? ⟨w.heap.size, 1, none⟩ = some (.string cv) := by rw [hg.cells.1 _ _ (by simp)]; simp [go_sem]
        have k2 : w1.cell? ⟨w.heap.size, 2, none⟩ = some (.int .i64 cn) := by rw [hg.cells.1 _ _ (by simp)]; simp [go_sem]
        have k3 : w1.cell? ⟨w.heap.size, 3, none⟩ = some (.bool ct) := by rw [hg.cells.1 _ _ (by simp)]; simp [go_sem]
        go_wp2_with fail
        refine (HHI.out _ hG).mono ?_
        rintro e w2 ⟨⟨hv2, rfl, hrow⟩, hg2⟩
        have hG2 := hG.trans hg2
        obtain ⟨ha, hcap, rfl, hPA⟩ := pairs_of_p hrow
        rw [List.length_map]
        have m0 := (hg2.cells.1 _ _ hz).trans k0
        have m1 := (hg2.cells.1 _ _ hz).trans k1
        have m2 := (hg2.cells.1 _ _ hz).trans k2
        have m3 := (hg2.cells.1 _ _ hz).trans k3
        have hz2' := Nat.lt_of_lt_of_le hz hg2.size
        have hwb2 := Nat.lt_of_lt_of_le hwb hG2.size
        have p1 := (hG2.cells.1 _ _ hwb).trans c1
        have HPA := hid hPA
        clear hrow hPA k0 k1 k2 k3 hg
        by_cases hfl : cn ≤ fl
        · have hd : decide (cn ≤ fl) = true := decide_eq_true hfl
          have e1 : ne = 19 := by rw [e0, if_pos (by unfold Pl.staleB; rw [hd]; rfl)]
          subst e1
          clear e0 HKY HHI
          go_wp2_with fail
          go_quiet (fail)
          go_wp2_with fail
          go_ret
          exact ⟨rfl, RefTurn.of_grew HR.out (hG2.drewN _)⟩
        · have hd : decide (cn ≤ fl) = false := decide_eq_false hfl
          rcases Nat.eq_zero_or_pos K.length with hK | hK
          · have e1 : ne = 0 := by rw [e0, if_neg (by unfold Pl.staleB; rw [hd, hK]; simp)]
            subst e1
            rw [hK]
            clear e0 HKY HHI hK hhl
            go_wp2_with fail
            go_quiet (fail)
            go_wp2_with fail
            generalize hY : World.drewN w2 _ = Y
            have gY : Grew w2 Y := by rw [← hY]; exact (Grew.refl w2).drewN _
            clear hY
            have HGY := hid (hG2.trans gY)
            have HIY := hid (HH.out.kept (HGY.out.only fun _ => False) (fun _ _ h => h))
            have hbu : ∀ j, u.ownBlock = some j → j < w.heap.size := fun j hj => HH.out.lt j (HH.out.own j hj).1
            have hn1 : ¬ some w.heap.size = u.ownBlock := fun e => by have := hbu _ e.symm; omega
            have hn2 : ¬ some wb = u.ownBlock := fun e => (HH.out.own _ e.symm).2 rfl
            have y0 := (gY.cells.1 _ _ hz2').trans m0
            have y1 := (gY.cells.1 _ _ hz2').trans m1
            have y2 := (gY.cells.1 _ _ hz2').trans m2
            have y3 := (gY.cells.1 _ _ hz2').trans m3
            have Y0 := wd_only (S := fun j => some j = u.ownBlock) y0 hn1
            have Y1 := wd_only (S := fun j => some j = u.ownBlock) y1 hn1
            have Y2 := wd_only (S := fun j => some j = u.ownBlock) y2 hn1
            have Y3 := wd_only (S := fun j => some j = u.ownBlock) y3 hn1
            have C0 := wd_only (S := fun j => some j = u.ownBlock) HIY.out.c0 hn2
            have hwbY : wb < Y.heap.size := cell_lt HIY.out.c0
            refine wp_region_mix 8 [6, 7] (Only (fun j => some j = u.ownBlock) Y) Eq (JOne 91 6 7 Y [.string ck, .string cv, .int .i64 cn, .bool ct] (AppD 91 4 u A.length (chFlat A) [.string ck, .string cv, .int .i64 cn, .bool ct])) (fun f a => (a.put (some 66) (f 6)).put (some 67) (f 7)) (by kernel_rfl) (by kernel_rfl) (fun _ _ => rfl) (JOne.start Y) (fun L f x h => h.only fun _ _ _ h => h.only) (fun _ => rfl) (fun _ _ _ _ h g => g ▸ h) ?_
            repeat (first
    | (refine wpMix_loose (by rfl) (by rfl) ?_)
    | (refine wpMix_plain (by rfl) (by rfl) (by rfl) (by first | exact Grew.refl | exact fun _ => rfl) (by rfl) ?_; intro K hK; go_big_quiet_op; go_big_quiet_on)
    | (refine wpMix_skip (by rfl) (by rfl) (by rfl) ?_; simp only [Act.put, List.setIfInBounds_toArray, List.set_cons_zero, List.set_cons_succ]))
            refine wpMix_done (by rfl) ⟨⟨loose_of rfl (fun _ a => a) (fun _ _ => rfl) (fun _ => rfl) ?_, loose_of rfl (fun f a => a.put (some 66) (f 6)) (fun _ _ => rfl) (fun _ => rfl) ?_, trivial⟩, ?_⟩
            · intro L f y hJ hL hd
              clear Y0 Y1 Y2 Y3 C0
              have hm := hid (hJ.make (by decide) hL)
              clear hJ
              go_simp
              exact hm.out
            · intro L f y hJ hL hd
              clear Y0 Y1 Y2 Y3 C0
              have h6 := hd 6 rfl (by decide)
              obtain ⟨vb, q7, hvN, hvb⟩ := hJ.made h6 hL
              refine uponV_append _ _ _ rfl 91 i0 _ 4 48 Tryz.underlying28 hi0 hz0 hz1 hz2 sizeRch (by omega) u A.length (chFlat A) rfl ?_ vb 1 [.string ck, .string cv, .int .i64 cn, .bool ct] ?_ rfl hvb (by intro u hu; simp at hu; rcases hu with rfl | rfl | rfl | rfl <;> rfl) (by unfold maxLen; omega) (by omega) ?_
              · exact ownsRow_grew (hJ.grew hL) HIY.out.row
              · exact q7
              · intro r w' hD
                exact hJ.call (by decide) hL h6 hD
            rintro f y hJ
            clear Y0 Y1 Y2 Y3 C0
            obtain ⟨x0', gx0, g4, c4, q8, hrow, hgr, hat⟩ := hJ.done rfl
            rw [q8]
            have ho1 : Only (fun j => some j = u.ownBlock) Y y := (gx0.only _).then (Only.of_grownBy hgr)
            have hcy := (ho1.cell hwbY hn2 0).trans HIY.out.c0
            have hfy := (ho1.frozen hwbY hn2 0).trans HIY.out.f0
            have hcy1 := (ho1.cell hwbY hn2 1).trans HIY.out.c1
            have hfy1 := (ho1.frozen hwbY hn2 1).trans HIY.out.f1
            have hwby : wb < y.heap.size := cell_lt hcy
            have hgw : g4 ≠ wb ∧ (G g4 ∨ w.heap.size ≤ g4) := by
              rcases hat with h | h
              · exact ⟨(HH.out.own _ h).2, .inl (HH.out.own _ h).1⟩
              · have := gx0.size; have := HGY.out.size; omega
            have hg4 : g4 < y.heap.size := by
              obtain ⟨g', cap', e', _, h⟩ := hrow.form (Nat.succ_pos _)
              cases e'; exact h
            have HFIN : Hid (RefTurn w G wb (A ++ [⟨ck, cv, cn, ct⟩]) fl (y.setCell ⟨wb, 0, none⟩ (.slice (some ⟨g4, 0, none⟩) (A.length + 1) c4))) := by
              have hset : Only (fun j => j = wb) y (y.setCell ⟨wb, 0, none⟩ (.slice (some ⟨g4, 0, none⟩) (A.length + 1) c4)) := Only.setCell y ⟨wb, 0, none⟩ _
              have hlen : (A ++ [(⟨ck, cv, cn, ct⟩ : Ch)]).length = A.length + 1 := by simp
              refine ⟨?_, fun j => G j ∨ j = g4, ⟨.slice (some ⟨g4, 0, none⟩) (A.length + 1) c4, ⟨by simp [go_sem, hcy], by simp [go_sem, hcy1], by simp [go_sem, hfy], by simp [go_sem, hfy1], ?_, .inl HH.out.foot, ?_, ?_⟩⟩, ?_⟩
              · refine (((HGY.out.only _).then (ho1.mono fun j (hj : some j = u.ownBlock) => .inl (HH.out.own j hj.symm).1)).then (hset.mono fun j (hj : j = wb) => .inl (by rw [hj]; exact HH.out.foot)))
              · rw [hlen, chFlat_snoc]
                exact ownsRow_only hset hrow fun b hb (e : b = wb) => hgw.1 (by
                  have : g4 = b := by simpa [Value.ownBlock] using hb
                  rw [this, e])
              · intro g hg
                have : g4 = g := by simpa [Value.ownBlock] using hg
                subst this
                exact ⟨.inr rfl, hgw.1⟩
              · intro j hj
                have h1 := hset.size
                rcases hj with hj | rfl
                · have := HH.out.lt j hj; have h2 := HGY.out.size; have h3 := ho1.size; omega
                · omega
              · intro j hj
                rcases hj with hj | rfl
                · exact .inl hj
                · exact hgw.2
            clear hJ q8 hrow hgr hat ho1 gx0
            dsimp only [List.drop]
            go_wp2_with fail
            go_ret
            exact ⟨rfl, HFIN.out⟩
          · obtain ⟨n, hn⟩ : ∃ n, K.length = n + 1 := ⟨K.length - 1, by omega⟩
            have hlast : Pl.lastV K = (chAt K n).ver := by unfold Pl.lastV; rw [hn]; rfl
            have hq : ∃ b off, ha = some ⟨b, off, none⟩ ∧ b < w2.heap.size ∧ w2.cell? ⟨b, off + n * 3 + 2, none⟩ = some (.int .i64 (chAt K n).ver) := by
              rcases HPA.out with h | ⟨b, off, e, hb, hR⟩
              · have := congrArg List.length h; simp at this; rw [this] at hn; simp at hn
              · refine ⟨b, off, e, hb, ?_⟩
                have h1 := hR.ver n (by rw [List.length_map]; omega)
                rw [h1, prAt_eq _ _ (by rw [List.length_map]; omega), List.getElem_map, Pl.chAt_eq K n (by omega)]; rfl
            obtain ⟨b, off, rfl, hbb, hq⟩ := hq
            rw [hn]
            have i2 : ((n : Int) + 1) - 1 = (n : Int) := by omega
            have i0' : (0 : Int) ≤ (n : Int) := by omega
            have i1 : (n : Int) < (n : Int) + 1 := by omega
            have hnB : n < 1000000 := by omega
            have i6 : IntKind.i64.wrap (n : Int) = (n : Int) := IntWalk.i64_in _ (by omega)
            have hd3 : decide ((0 : Int) < (n : Int) + 1) = true := decide_eq_true (by omega)
            have hd4 : decide ((0 : Int) < ((n + 1 : Nat) : Int)) = true := decide_eq_true (by omega)
            by_cases hl : cn ≤ (chAt K n).ver
            · have hd5 : decide (cn ≤ (chAt K n).ver) = true := decide_eq_true hl
              have e1 : ne = 19 := by rw [e0, if_pos (by unfold Pl.staleB; rw [hd, hlast, hd5, hn]; simp)]
              subst e1
              clear e0 HKY HHI hlast HPA hn hK hhl
              go_wp2_with fail
              go_quiet (fail)
              go_wp2_with fail
              go_ret
              exact ⟨rfl, RefTurn.of_grew HR.out (hG2.drewN _)⟩
            · have hd5 : decide (cn ≤ (chAt K n).ver) = false := decide_eq_false hl
              have e1 : ne = 0 := by rw [e0, if_neg (by unfold Pl.staleB; rw [hd, hlast, hd5]; simp)]
              subst e1
              clear e0 HKY HHI hlast HPA hn hK hhl
              go_wp2_with fail
              go_quiet (fail)
              go_wp2_with fail
              generalize hY : World.drewN w2 _ = Y
              have gY : Grew w2 Y := by rw [← hY]; exact (Grew.refl w2).drewN _
              clear hY
              have HGY := hid (hG2.trans gY)
              have HIY := hid (HH.out.kept (HGY.out.only fun _ => False) (fun _ _ h => h))
              have hbu : ∀ j, u.ownBlock = some j → j < w.heap.size := fun j hj => HH.out.lt j (HH.out.own j hj).1
              have hn1 : ¬ some w.heap.size = u.ownBlock := fun e => by have := hbu _ e.symm; omega
              have hn2 : ¬ some wb = u.ownBlock := fun e => (HH.out.own _ e.symm).2 rfl
              have y0 := (gY.cells.1 _ _ hz2').trans m0
              have y1 := (gY.cells.1 _ _ hz2').trans m1
              have y2 := (gY.cells.1 _ _ hz2').trans m2
              have y3 := (gY.cells.1 _ _ hz2').trans m3
              have Y0 := wd_only (S := fun j => some j = u.ownBlock) y0 hn1
              have Y1 := wd_only (S := fun j => some j = u.ownBlock) y1 hn1
              have Y2 := wd_only (S := fun j => some j = u.ownBlock) y2 hn1
              have Y3 := wd_only (S := fun j => some j = u.ownBlock) y3 hn1
              have C0 := wd_only (S := fun j => some j = u.ownBlock) HIY.out.c0 hn2
              have hwbY : wb < Y.heap.size := cell_lt HIY.out.c0
              refine wp_region_mix 8 [6, 7] (Only (fun j => some j = u.ownBlock) Y) Eq (JOne 91 6 7 Y [.string ck, .string cv, .int .i64 cn, .bool ct] (AppD 91 4 u A.length (chFlat A) [.string ck, .string cv, .int .i64 cn, .bool ct])) (fun f a => (a.put (some 66) (f 6)).put (some 67) (f 7)) (by kernel_rfl) (by kernel_rfl) (fun _ _ => rfl) (JOne.start Y) (fun L f x h => h.only fun _ _ _ h => h.only) (fun _ => rfl) (fun _ _ _ _ h g => g ▸ h) ?_
              repeat (first
    | (refine wpMix_loose (by rfl) (by rfl) ?_)
    | (refine wpMix_plain (by rfl) (by rfl) (by rfl) (by first | exact Grew.refl | exact fun _ => rfl) (by rfl) ?_; intro K hK; go_big_quiet_op; go_big_quiet_on)
    | (refine wpMix_skip (by rfl) (by rfl) (by rfl) ?_; simp only [Act.put, List.setIfInBounds_toArray, List.set_cons_zero, List.set_cons_succ]))
              refine wpMix_done (by rfl) ⟨⟨loose_of rfl (fun _ a => a) (fun _ _ => rfl) (fun _ => rfl) ?_, loose_of rfl (fun f a => a.put (some 66) (f 6)) (fun _ _ => rfl) (fun _ => rfl) ?_, trivial⟩, ?_⟩
              · intro L f y hJ hL hd
                clear Y0 Y1 Y2 Y3 C0
                have hm := hid (hJ.make (by decide) hL)
                clear hJ
                go_simp
                exact hm.out
              · intro L f y hJ hL hd
                clear Y0 Y1 Y2 Y3 C0
                have h6 := hd 6 rfl (by decide)
                obtain ⟨vb, q7, hvN, hvb⟩ := hJ.made h6 hL
                refine uponV_append _ _ _ rfl 91 i0 _ 4 48 Tryz.underlying28 hi0 hz0 hz1 hz2 sizeRch (by omega) u A.length (chFlat A) rfl ?_ vb 1 [.string ck, .string cv, .int .i64 cn, .bool ct] ?_ rfl hvb (by intro u hu; simp at hu; rcases hu with rfl | rfl | rfl | rfl <;> rfl) (by unfold maxLen; omega) (by omega) ?_
                · exact ownsRow_grew (hJ.grew hL) HIY.out.row
                · exact q7
                · intro r w' hD
                  exact hJ.call (by decide) hL h6 hD
              rintro f y hJ
              clear Y0 Y1 Y2 Y3 C0
              obtain ⟨x0', gx0, g4, c4, q8, hrow, hgr, hat⟩ := hJ.done rfl
              rw [q8]
              have ho1 : Only (fun j => some j = u.ownBlock) Y y := (gx0.only _).then (Only.of_grownBy hgr)
              have hcy := (ho1.cell hwbY hn2 0).trans HIY.out.c0
              have hfy := (ho1.frozen hwbY hn2 0).trans HIY.out.f0
              have hcy1 := (ho1.cell hwbY hn2 1).trans HIY.out.c1
              have hfy1 := (ho1.frozen hwbY hn2 1).trans HIY.out.f1
              have hwby : wb < y.heap.size := cell_lt hcy
              have hgw : g4 ≠ wb ∧ (G g4 ∨ w.heap.size ≤ g4) := by
                rcases hat with h | h
                · exact ⟨(HH.out.own _ h).2, .inl (HH.out.own _ h).1⟩
                · have := gx0.size; have := HGY.out.size; omega
              have hg4 : g4 < y.heap.size := by
                obtain ⟨g', cap', e', _, h⟩ := hrow.form (Nat.succ_pos _)
                cases e'; exact h
              have HFIN : Hid (RefTurn w G wb (A ++ [⟨ck, cv, cn, ct⟩]) fl (y.setCell ⟨wb, 0, none⟩ (.slice (some ⟨g4, 0, none⟩) (A.length + 1) c4))) := by
                have hset : Only (fun j => j = wb) y (y.setCell ⟨wb, 0, none⟩ (.slice (some ⟨g4, 0, none⟩) (A.length + 1) c4)) := Only.setCell y ⟨wb, 0, none⟩ _
                have hlen : (A ++ [(⟨ck, cv, cn, ct⟩ : Ch)]).length = A.length + 1 := by simp
                refine ⟨?_, fun j => G j ∨ j = g4, ⟨.slice (some ⟨g4, 0, none⟩) (A.length + 1) c4, ⟨by simp [go_sem, hcy], by simp [go_sem, hcy1], by simp [go_sem, hfy], by simp [go_sem, hfy1], ?_, .inl HH.out.foot, ?_, ?_⟩⟩, ?_⟩
                · refine (((HGY.out.only _).then (ho1.mono fun j (hj : some j = u.ownBlock) => .inl (HH.out.own j hj.symm).1)).then (hset.mono fun j (hj : j = wb) => .inl (by rw [hj]; exact HH.out.foot)))
                · rw [hlen, chFlat_snoc]
                  exact ownsRow_only hset hrow fun b hb (e : b = wb) => hgw.1 (by
                    have : g4 = b := by simpa [Value.ownBlock] using hb
                    rw [this, e])
                · intro g hg
                  have : g4 = g := by simpa [Value.ownBlock] using hg
                  subst this
                  exact ⟨.inr rfl, hgw.1⟩
                · intro j hj
                  have h1 := hset.size
                  rcases hj with hj | rfl
                  · have := HH.out.lt j hj; have h2 := HGY.out.size; have h3 := ho1.size; omega
                  · omega
                · intro j hj
                  rcases hj with hj | rfl
                  · exact .inl hj
                  · exact hgw.2
              clear hJ q8 hrow hgr hat ho1 gx0
              dsimp only [List.drop]
              go_wp2_with fail
              go_ret
              exact ⟨rfl, HFIN.out⟩
  · have e1 : ne = Pl.keyN ck := by rw [HNE.out, if_pos hkn]
    subst e1
    rw [if_neg hkn]
    have hne : ¬ ((Pl.keyN ck : Nat) : Int) = 0 := by omega
    have hnb : (((Pl.keyN ck : Nat) : Int) != 0) = true := by rw [bne_iff_ne]; exact hne
    clear HNE hkn
    generalize Pl.keyN ck = kn at *
    go_enter Tryz.func34, Tryz.ntmps34
    go_wp2_with fail
    refine (HKY.out _).mono ?_
    rintro e w1 ⟨rfl, hg⟩
    have hG : Grew w w1 := ((Grew.refl w).alloc _).trans hg
    go_wp2_with fail
    go_ret
    exact ⟨rfl, RefTurn.of_grew HR.out hG⟩
end Go.Proofs.YtapchoppcaacdaaGreatDoor
