/- The walks of table.Put (all ways), Scan. -/
import Derived.Test.YtajoihpjnnnkeaaDoorTab3
import Derived.Test.YtajoihpjnnnkeaaDoorSpan2
namespace Go.Proofs.YtajoihpjnnnkeaaDoor
open Go.RowKit Go.Maps
attribute [local go_sem] Oper.semAt_some

theorem putT_any {S : Nat → Bool} (hS : TabS S) (E : Nat → Addr) {w : World} (hE : Errs S E w) {F : Nat → Prop} {tb : Nat} {xs : List Pr} (h : TabAt w F tb xs) (hx : xs.length ≤ 1000000) (key val : ByteArray) (v : Int) (hy : key.size ≤ 70368744177664) (hv : val.size ≤ 140737488351232) :
    Calls Tryd.prog 25 #[.pointer (some ⟨tb, 0, none⟩), .string key, .string val, .int .i64 v] w fun e w' => e = .returned (errOf E (Pl.putN ⟨key, val, v⟩)) ∧ TabTurn w F tb (Pl.putT xs ⟨key, val, v⟩) w' := by
  by_cases hn : Pl.putN ⟨key, val, v⟩ = 0
  · have e : Pl.putT xs ⟨key, val, v⟩ = Pl.tput xs ⟨key, val, v⟩ := by unfold Pl.putT; rw [if_pos hn]
    rw [hn, e]
    cases hb : Pl.hasB xs key with
    | true => exact putT_over hS E hE h hx key val v hy hv hn hb
    | false => exact putT_new hS E hE h hx key val v hy hv hn hb
  · have e : Pl.putT xs ⟨key, val, v⟩ = xs := by unfold Pl.putT; rw [if_neg hn]
    rw [e]
    exact (putT_err hS E hE tb key val v hy hv hn).mono fun e w' ⟨he, hg⟩ => ⟨he, TabTurn.of_grew h hg⟩

namespace Pl
/-- table.Scan. -/
def scanT (xs : List Pr) (lo hi : ByteArray) (limit : Int) : List Pr := (xs.filter fun c => hasS lo hi c.key).take limit.toNat
/-- .. behind k pairs. -/
theorem scan_snoc (xs : List Pr) (lo hi : ByteArray) (limit : Int) (k : Nat) (hk : k < xs.length) :
    scanT (xs.take (k + 1)) lo hi limit = scanT (xs.take k) lo hi limit ++ if ((scanT (xs.take k) lo hi limit).length : Int) < limit ∧ hasS lo hi (prAt xs k).key = true then [prAt xs k] else [] := by
  unfold scanT
  rw [List.take_succ_eq_append_getElem hk, ← prAt_eq xs k hk, List.filter_append]
  by_cases hh : hasS lo hi (prAt xs k).key = true
  · rw [List.filter_cons_of_pos (by simpa using hh), List.filter_nil]
    generalize (xs.take k).filter _ = L
    by_cases hlt : ((L.take limit.toNat).length : Int) < limit
    · rw [if_pos ⟨hlt, hh⟩]
      rw [List.length_take] at hlt
      rw [List.take_of_length_le (show L.length ≤ limit.toNat by omega), List.take_of_length_le (by simp; omega)]
    · rw [if_neg (fun h => hlt h.1), List.append_nil]
      rw [List.length_take] at hlt
      rw [List.take_append_of_le_length (by omega)]
  · rw [List.filter_cons_of_neg (by simpa using hh), List.filter_nil, List.append_nil, if_neg (fun h => hh h.2), List.append_nil]
end Pl

set_option maxRecDepth 100000 in
set_option maxHeartbeats 4000000 in
theorem scanT_any {S : Nat → Bool} (hS : TabS S) (E : Nat → Addr) {w : World} (hE : Errs S E w) {F : Nat → Prop} {tb : Nat} {xs : List Pr} (h : TabAt w F tb xs) (hx : xs.length ≤ 1000000) (lo hi : ByteArray) (limit : Int) (hlo : lo.size ≤ 70368744177664) (hhi : hi.size ≤ 70368744177664) :
    Calls Tryd.prog 26 #[.pointer (some ⟨tb, 0, none⟩), .agg #[.string lo, .string hi], .int .i64 limit] w fun e w' => (∃ v, e = .returned v ∧ w'.ownsRow w.heap.size 64 3 v (Pl.scanT xs lo hi limit).length (prFlat (Pl.scanT xs lo hi limit))) ∧ Grew w w' := by
  have HE := hid hE
  obtain ⟨vv, h⟩ := h
  obtain ⟨a, cap, rfl, hA⟩ := pairsAt_of h.row
  have c0 := h.cell
  have htb : tb < w.heap.size := cell_lt c0
  have HS := hid h.szAt
  have HA := hid hA
  obtain ⟨i0, hi0, hz0, hz1, hz2⟩ := info_parts infoPair
  clear hE h hA
  go_enter Tryd.func26, Tryd.ntmps26
  go_wp2_with fail
  go_loopw [7, 15] (fun v i wr => ∃ (k m : Nat) (ys : List Pr) (a2 : Option Addr) (cap2 : Nat), k ≤ xs.length ∧ v = .slice a2 m cap2 ∧ i = .int .i64 k ∧ Hid (ys = Pl.scanT (xs.take k) lo hi limit) ∧ Hid (m = ys.length) ∧ m ≤ k ∧ wr.ownsRow (w.heap.size + 1) 64 3 (.slice a2 m cap2) m (prFlat ys) ∧ Grew w wr ∧ wr.cell? ⟨w.heap.size, 0, none⟩ = some (.string lo) ∧ wr.cell? ⟨w.heap.size, 1, none⟩ = some (.string hi) ∧ w.heap.size < wr.heap.size) (fun _ i _ => xs.length - (intOf i).toNat)
  case atStart => exact ⟨0, 0, [], none, 0, Nat.zero_le _, rfl, rfl, by unfold Hid Pl.scanT; simp, by unfold Hid; rfl, Nat.zero_le _, World.ownsRow_nil _ _ _ _, (Grew.refl w).alloc _, by simp [go_sem], by simp [go_sem], by simp⟩
  case round =>
    obtain ⟨k, m, ys, a2, cap2, hk1, rfl, rfl, HY, HM, hmk, hown, hG, l0, l1, hzr⟩ := hrel
    by_cases hlt : k < xs.length
    · rcases HA.out with h0 | ⟨b, off, rfl, hb, hR⟩
      · rw [h0] at hlt; simp at hlt
      have q0 := (hG.cells.1 b (off + k * 3) hb).trans (hR.key k hlt)
      have q1 := (hG.cells.1 b (off + k * 3 + 1) hb).trans (hR.val k hlt)
      have q2 := (hG.cells.1 b (off + k * 3 + 2) hb).trans (hR.ver k hlt)
      have HN := hid (Pl.scan_snoc xs lo hi limit k hlt)
      have HHAS := hid (fun W (g : Grew w W) => has_span S E ⟨hS.h2, hS.h3, hS.h6, hS.h7⟩ lo hi (prAt xs k).key W hlo hhi (HS.out k hlt) (HE.out.grew g))
      clear hR
      generalize prAt xs k = c at *
      obtain ⟨ck, cv, cn⟩ := c
      dsimp only at *
      by_cases hlm : (m : Int) < limit
      · cases hb2 : Pl.hasS lo hi ck with
        | true =>
          have HN2 : Hid (ys ++ [⟨ck, cv, cn⟩] = Pl.scanT (xs.take (k + 1)) lo hi limit) := by
            unfold Hid; rw [HN.out, ← HY.out, if_pos ⟨by rw [← HM.out]; exact hlm, hb2⟩]
          rw [hb2] at HHAS
          have HR2 : Hid (prFlat ys ++ [.string ck, .string cv, .int .i64 cn] = prFlat (ys ++ [⟨ck, cv, cn⟩])) := by unfold Hid; rw [prFlat_append, prFlat_one]; rfl
          have HM2 : Hid (m + 1 = (ys ++ [(⟨ck, cv, cn⟩ : Pr)]).length) := by unfold Hid; rw [List.length_append, ← HM.out]; rfl
          clear hb2 HN
          go_wp2_with fail
          refine (HHAS.out _ (hG.alloc _)).mono ?_
          rintro e w1 ⟨rfl, hg1⟩
          have hG1 := (hG.alloc _).trans hg1
          have sz1 := hg1.size
          have o1 := (Grew.refl wr).alloc (.cells #[.string ck, .string cv, .int .i64 cn] 64) |>.trans hg1
          have l0' := (o1.cells.1 _ _ hzr).trans l0
          have l1' := (o1.cells.1 _ _ hzr).trans l1
          have k0 : w1.cell? ⟨wr.heap.size, 0, none⟩ = some (.string ck) := by rw [hg1.cells.1 _ _ (by simp)]; simp [go_sem]
          have k1 : w1.cell? ⟨wr.heap.size, 1, none⟩ = some (.string cv) := by rw [hg1.cells.1 _ _ (by simp)]; simp [go_sem]
          have k2 : w1.cell? ⟨wr.heap.size, 2, none⟩ = some (.int .i64 cn) := by rw [hg1.cells.1 _ _ (by simp)]; simp [go_sem]
          have hown1 := ownsRow_grew o1 hown
          have hz1' : w.heap.size < w1.heap.size := by have := o1.size; omega
          clear l0 l1 hown o1
          go_wp2_with (at_builtin; refine wpList_append_lies _ rfl _ _ 61 rfl (w.heap.size + 1) 64 i0 _ 3 40 Tryd.underlying61 hi0 hz0 hz1 hz2 rfl (by omega) _ m (prFlat ys) rfl (hown1.alloc _) ⟨w1.heap.size, 0, none⟩ 1 1 [.string ck, .string cv, .int .i64 cn] rfl rfl (World.news_of_block (cs := #[.string ck, .string cv, .int .i64 cn]) (t := 64) (fr := (0, 0)) (heap_alloc_new w1 _)) (by simp [Value.oneCell']) (by omega) (by unfold maxLen; omega) (by omega) ?_ _ rfl ?_)
          · simp; omega
          · intro g capg w2 hown2 hgrow hat hlt2
            have hS : ∀ j, some j = Value.ownBlock (.slice a2 m cap2) → w.heap.size + 1 ≤ j := fun j hj => (hown1.lt j hj.symm).1
            have o2 : Only (fun j => some j = Value.ownBlock (.slice a2 m cap2)) w1 w2 := (((Grew.refl w1).alloc _).only _).then (Only.of_grownBy hgrow)
            have hG2 : Grew w w2 := ((hG1.only _).then o2).grew (fun j hj => Nat.le_of_succ_le (hS j hj))
            have n1 : ¬ some w.heap.size = Value.ownBlock (.slice a2 m cap2) := fun e => by have := hS _ e; omega
            have l0'' := (o2.cell hz1' n1 0).trans l0'
            have l1'' := (o2.cell hz1' n1 1).trans l1'
            have hz2' : w.heap.size < w2.heap.size := Nat.lt_of_lt_of_le hz1' o2.size
            rw [HR2.out] at hown2
            clear o2 hgrow hat hown1 l0' l1' hS n1 k0 k1 k2 hG1 sz1 hz1'
            go_wp2_with fail
            go_roundw
            case rel => exact ⟨k + 1, m + 1, ys ++ [⟨ck, cv, cn⟩], _, capg, by omega, rfl, by go_num, HN2, HM2, by omega, hown2, hG2, l0'', l1'', hz2'⟩
            case measure => simp [intOf]; omega
        | false =>
          have HN2 : Hid (ys = Pl.scanT (xs.take (k + 1)) lo hi limit) := by
            unfold Hid; rw [HN.out, ← HY.out, if_neg (fun h => by rw [hb2] at h; cases h.2), List.append_nil]
          rw [hb2] at HHAS
          clear hb2 HN
          go_wp2_with fail
          refine (HHAS.out _ (hG.alloc _)).mono ?_
          rintro e w1 ⟨rfl, hg1⟩
          have hG1 := (hG.alloc _).trans hg1
          have o1 := (Grew.refl wr).alloc (.cells #[.string ck, .string cv, .int .i64 cn] 64) |>.trans hg1
          have l0' := (o1.cells.1 _ _ hzr).trans l0
          have l1' := (o1.cells.1 _ _ hzr).trans l1
          have hown1 := ownsRow_grew o1 hown
          have hz1' : w.heap.size < w1.heap.size := by have := o1.size; omega
          clear l0 l1 hown o1
          go_wp2_with fail
          go_roundw
          case rel => exact ⟨k + 1, m, ys, a2, cap2, by omega, rfl, by go_num, HN2, HM, by omega, hown1, hG1, l0', l1', hz1'⟩
          case measure => simp [intOf]; omega
      · have HN2 : Hid (ys = Pl.scanT (xs.take (k + 1)) lo hi limit) := by
          unfold Hid; rw [HN.out, ← HY.out, if_neg (fun h => hlm (by rw [HM.out]; exact h.1)), List.append_nil]
        have hown1 := ownsRow_grew ((Grew.refl wr).alloc (.cells #[.string ck, .string cv, .int .i64 cn] 64)) hown
        have hG1 := hG.alloc (.cells #[.string ck, .string cv, .int .i64 cn] 64)
        have o1 := (Grew.refl wr).alloc (.cells #[.string ck, .string cv, .int .i64 cn] 64)
        have l0' := (o1.cells.1 _ _ hzr).trans l0
        have l1' := (o1.cells.1 _ _ hzr).trans l1
        clear HN hown o1
        go_wp2_with fail
        go_roundw
        case rel => exact ⟨k + 1, m, ys, a2, cap2, by omega, rfl, by go_num, HN2, HM, by omega, hown1, hG1, l0', l1', by simp; omega⟩
        case measure => simp [intOf]; omega
    · obtain rfl : k = xs.length := by omega
      rw [List.take_length] at HY
      go_wp2_with fail
      go_ret
      exact ⟨⟨_, rfl, by rw [← HY.out, ← HM.out]; exact ownsRow_base (Nat.le_succ _) hown⟩, hG⟩
end Go.Proofs.YtajoihpjnnnkeaaDoor
