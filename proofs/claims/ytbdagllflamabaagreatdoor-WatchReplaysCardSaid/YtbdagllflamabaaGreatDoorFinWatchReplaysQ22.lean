/- Ref03, Ref03b, Ref21: one text. -/
import Derived.Test.YtbdagllflamabaaGreatDoorFinWatchReplaysQ21
import Derived.Test.YtbdagllflamabaaGreatDoorFinWatchReplaysQ7
import Derived.Test.YtbdagllflamabaaGreatDoorFinWatchReplaysQ20
import Derived.Test.YtbdagllflamabaaGreatDoorFinWatchReplaysQ19
import Derived.BigQuiet
namespace Go.Proofs.YtbdagllflamabaaGreatDoor
open Go.RowKit
theorem own_cell {w : World} {base : Nat} {v : Value} {l : List Nat} (h : w.ownsRow base 3 1 v l.length (l.map fun c => Value.int .i64 (c : Nat))) (hl : l ≠ []) :
    ∃ g cap, v = .slice (some ⟨g, 0, none⟩) l.length cap ∧ ∀ i, i < l.length → w.cell? ⟨g, i, none⟩ = some (.int .i64 (l.getD i 0 : Nat)) := by
  rcases h.2 with ⟨_, h0⟩ | ⟨g, cap, cur, rfl, _, hg, _, _, _, ht⟩
  · exact absurd (List.eq_nil_of_length_eq_zero h0) hl
  · refine ⟨g, cap, rfl, fun i hi => ?_⟩
    rw [cell_of_row _ _ _ _ _ _ hg]
    have : (cur.toList.take (l.length * 1))[i]? = some (.int .i64 (l.getD i 0 : Nat)) := by rw [ht]; simp [hi]
    rw [List.getElem?_take] at this
    split at this
    · simpa using this
    · cases this
set_option maxHeartbeats 400000 in
theorem ref_key (s : ByteArray) (w : World) (hs : s.size ≤ 16777216) :
    Calls Tryz.prog 110 #[.string s] w fun e w' => e = .returned (.int .i64 (Pl.keyN s : Nat)) ∧ Grew w w' := by
  go_enter Tryz.func110, Tryz.ntmps110
  go_wp2_with fail
  refine (ref_runes s _ hs).mono ?_
  rintro e w1 ⟨hg, ⟨hr, rfl⟩ | ⟨l, v, hr, rfl, hown⟩⟩
  · have hk : Pl.keyN s = 6 := by unfold Pl.keyN; rw [hr]
    have HK := hid hk
    clear hk hr
    go_wp2
    go_ret
    exact ⟨ret_int (by rw [HK.out]; rfl), hg⟩
  · have hk : Pl.keyN s = Pl.keyL l := by unfold Pl.keyN; rw [hr]
    have hl := Pl.runes_len _ _ l (Nat.le_refl _) hr
    have hl2 : l.length ≤ s.size := by simpa using hl
    have HK := hid hk
    clear hk hr hl
    by_cases l0 : l = []
    · subst l0
      have e2 := HK.out
      have hv : ∃ a cap, v = .slice a 0 cap := by
        rcases hown.2 with ⟨rfl, _⟩ | ⟨g, cap, cur, rfl, _⟩
        · exact ⟨_, _, rfl⟩
        · exact ⟨_, _, rfl⟩
      obtain ⟨a, cap, rfl⟩ := hv
      clear e2 hown
      go_wp2
      go_ret
      exact ⟨ret_int (by rw [HK.out]; rfl), hg⟩
    · have lp : 0 < l.length := List.length_pos_iff.2 l0
      obtain ⟨g, cap, rfl, hc⟩ := own_cell hown l0
      have b0 : ((l.length : Int) == 0) = false := beq_eq_false_iff_ne.2 (by omega)
      clear hown
      have HC := hid hc
      clear hc l0
      by_cases l24 : 24 < l.length
      · have hk2 : Pl.keyL l = 3 := by unfold Pl.keyL; rw [if_neg (by omega), if_pos l24]
        have HK2 := hid hk2
        clear hk2
        go_wp2
        go_ret
        exact ⟨ret_int (by rw [HK.out, HK2.out]; rfl), hg⟩
      · have hk2 : Pl.keyL l = if l.any Pl.badRune then 7 else 0 := by unfold Pl.keyL; rw [if_neg (by omega), if_neg l24]
        have HK2 := hid hk2
        have b2 : decide ((24 : Int) < (l.length : Int)) = false := by simp; omega
        clear hk2
        go_wp2
        go_loop [6, 25] (fun _ i => ∃ n : Nat, i = .int .i64 n ∧ n ≤ l.length ∧ Hid ((l.drop n).any Pl.badRune = l.any Pl.badRune)) (fun _ i => l.length - (intOf i).toNat)
        case atStart => exact ⟨0, rfl, Nat.zero_le _, rfl⟩
        case round =>
          obtain ⟨n, rfl, hn, HN⟩ := hrel
          by_cases hlt : n < l.length
          · have hcell := HC.out n hlt
            have hst : (l.drop n).any Pl.badRune = (Pl.badRune (l.getD n 0) || (l.drop (n + 1)).any Pl.badRune) := by
              rw [List.drop_eq_getElem_cons hlt, List.any_cons, List.getD_eq_getElem?_getD, List.getElem?_eq_getElem hlt]; rfl
            obtain ⟨c, hcc⟩ : ∃ c, c = l.getD n 0 := ⟨_, rfl⟩
            rw [← hcc] at hcell hst
            have HS := hid hst
            clear hst hcc
            by_cases q1 : (c : Int) < 32
            · have hb : l.any Pl.badRune = true := by
                have g3 : Pl.badRune c = true := by simp [Pl.badRune]; omega
                rw [← HN.out, HS.out, g3]; rfl
              have HB := hid hb
              clear hb
              go_wp2
              go_ret
              exact ⟨ret_int (by rw [HK.out, HK2.out, if_pos HB.out]; rfl), hg⟩
            · by_cases q2 : c = 127
              · have hb : l.any Pl.badRune = true := by
                  have g3 : Pl.badRune c = true := by simp [Pl.badRune, q2]
                  rw [← HN.out, HS.out, g3]; rfl
                have HB := hid hb
                clear hb
                have q3 : ((c : Int) == 127) = true := beq_iff_eq.2 (by omega)
                clear q2
                go_wp2
                go_ret
                exact ⟨ret_int (by rw [HK.out, HK2.out, if_pos HB.out]; rfl), hg⟩
              · have hb : (l.drop (n + 1)).any Pl.badRune = l.any Pl.badRune := by
                  have g3 : Pl.badRune c = false := by simp [Pl.badRune]; omega
                  rw [← HN.out, HS.out, g3]; rfl
                have HB := hid hb
                clear hb
                have q3 : ((c : Int) == 127) = false := beq_eq_false_iff_ne.2 (by omega)
                clear q2
                go_wp2
                go_round
                case rel => exact ⟨n + 1, by go_num, by omega, HB⟩
                case measure => simp [intOf]; omega
          · have hb : l.any Pl.badRune = false := by rw [← HN.out, List.drop_of_length_le (by omega)]; rfl
            have HB := hid hb
            clear hb
            go_wp2
            go_ret
            exact ⟨ret_int (by rw [HK.out, HK2.out, HB.out]; rfl), hg⟩
end Go.Proofs.YtbdagllflamabaaGreatDoor
namespace Go.Proofs.YtbdagllflamabaaGreatDoor
open Go.RowKit
namespace Pl
end Pl
end Go.Proofs.YtbdagllflamabaaGreatDoor
set_option linter.unusedVariables false
namespace Go.Proofs.YtbdagllflamabaaGreatDoor.Pl
theorem cmp_lt : ∀ (x y : List Nat), (cmpNums x y < 0) = (numLess x y = true)
  | [], [] => by simp [cmpNums, numLess]
  | [], _ :: _ => by simp [cmpNums, numLess]
  | _ :: _, [] => by simp [cmpNums, numLess]
  | a :: x, b :: y => by
    unfold cmpNums numLess
    by_cases h1 : a < b
    · simp [h1]
    · by_cases h2 : b < a
      · have : a ≠ b := by omega
        simp [h1, h2, this]
      · have : a = b := by omega
        subst this
        simp [cmp_lt x y]
theorem compare_lt (a b : ByteArray) (ha : ∃ l, runes a.data.toList = some l) (hb : ∃ l, runes b.data.toList = some l) : decide (compare a b < 0) = Op.bytesLess a.toList b.toList := by
  obtain ⟨x, hx⟩ := ha
  obtain ⟨y, hy⟩ := hb
  have e : compare a b = cmpNums x y := by unfold compare; rw [hx, hy]
  rw [e, ByteArray.toList_eq, ByteArray.toList_eq, less_runes _ _ _ x y (Nat.le_refl _) hx hy, Bool.eq_iff_iff, decide_eq_true_iff, cmp_lt]
end Go.Proofs.YtbdagllflamabaaGreatDoor.Pl
set_option linter.unusedSimpArgs false
namespace Go.Proofs.YtbdagllflamabaaGreatDoor
open Go.RowKit Go.Maps
attribute [local go_sem] Oper.semAt_some
def MTab (w : World) (tb : Nat) (xs : List Pr) : Prop := ∃ a cap, w.cell? ⟨tb, 0, none⟩ = some (.slice a xs.length cap) ∧ PairsAt w a xs
theorem MTab.grew {w w' : World} {tb : Nat} {xs : List Pr} (h : MTab w tb xs) (g : Grew w w') : MTab w' tb xs := by
  obtain ⟨a, cap, h1, h2⟩ := h
  exact ⟨a, cap, (g.cells.1 _ _ (cell_lt h1)).trans h1, h2.grew g⟩
theorem toList_inj21 {a b : ByteArray} (h : a.toList = b.toList) : a = b := by
  rw [ByteArray.toList_eq, ByteArray.toList_eq] at h
  obtain ⟨⟨a⟩⟩ := a
  obtain ⟨⟨b⟩⟩ := b
  exact congrArg (fun l : List UInt8 => (⟨⟨l⟩⟩ : ByteArray)) h
def Pl.isK (k : ByteArray) (c : Pr) : Bool := c.key.toList == k.toList
theorem Pl.isK_iff (k : ByteArray) (c : Pr) : Pl.isK k c = true ↔ c.key = k := by
  unfold Pl.isK
  rw [beq_iff_eq]
  exact ⟨toList_inj21, fun h => by rw [h]⟩
set_option maxRecDepth 100000 in
set_option maxHeartbeats 1000000 in
theorem find21_any {w : World} {tb : Nat} {xs : List Pr} (h : MTab w tb xs) (hx : xs.length ≤ 1000000) (key : ByteArray) :
    Calls Tryz.prog 79 #[.pointer (some ⟨tb, 0, none⟩), .string key] w fun e w' => e = .returned (.int .i64 (idxI (Pl.isK key) xs)) ∧ Grew w w' := by
  obtain ⟨a, cap, c0, hA⟩ := h
  have htb := cell_lt c0
  have HA := hid hA
  clear hA
  go_enter Tryz.func79, Tryz.ntmps79
  go_wp2_with fail
  go_loopw [12] (fun i wr => ∃ k : Nat, k ≤ xs.length ∧ i = .int .i64 k ∧ Hid ((xs.take k).all (fun c => !Pl.isK key c) = true) ∧ Grew w wr) (fun i _ => xs.length - (intOf i).toNat)
  case atStart => exact ⟨0, Nat.zero_le _, rfl, rfl, Grew.refl w⟩
  case round =>
    obtain ⟨k, hk1, rfl, HN, hG⟩ := hrel
    by_cases hlt : k < xs.length
    · rcases HA.out with h0 | ⟨b, off, rfl, hb, hR⟩
      · rw [h0] at hlt; simp at hlt
      have q0 := (hG.cells.1 b (off + k * 3) hb).trans (hR.key k hlt)
      have q1 := (hG.cells.1 b (off + k * 3 + 1) hb).trans (hR.val k hlt)
      have q2 := (hG.cells.1 b (off + k * 3 + 2) hb).trans (hR.ver k hlt)
      have hat : prAt xs k = xs[k] := prAt_eq xs k hlt
      have HS := hid (idx_some (Pl.isK key) xs k hlt HN.out)
      have HN2 := hid (idx_next (Pl.isK key) xs k hlt HN.out)
      rw [← hat] at HS HN2
      clear hat hR
      generalize prAt xs k = c at *
      obtain ⟨ck, cv, cn⟩ := c
      dsimp only at *
      cases hpc : (ck.toList == key.toList) with
      | true =>
        have HS2 := hid (HS.out hpc)
        clear HS HN2
        go_wp2_with fail
        go_ret
        exact ⟨ret_int HS2.out.symm, hG.alloc _⟩
      | false =>
        have HS2 := hid (HN2.out hpc)
        clear HS HN2
        go_wp2_with fail
        go_roundw
        case rel => exact ⟨k + 1, by omega, by go_num, HS2, hG.alloc _⟩
        case measure => simp [intOf]; omega
    · obtain rfl : k = xs.length := by omega
      have HE := hid (idx_none (Pl.isK key) xs (by have := HN.out; rwa [List.take_length] at this))
      go_wp2_with fail
      go_ret
      exact ⟨ret_int HE.out.symm, hG⟩
theorem idx_find {α : Type} (p : α → Bool) (xs : List α) : (idxI p xs = -1 ∧ xs.find? p = none) ∨ ∃ i : Nat, ∃ h : i < xs.length, idxI p xs = (i : Nat) ∧ xs.find? p = some xs[i] := by
  unfold idxI
  cases h : xs.findIdx? p with
  | none =>
    refine .inl ⟨rfl, ?_⟩
    rw [List.findIdx?_eq_none_iff] at h
    rw [List.find?_eq_none]
    intro x hx; simpa using h x hx
  | some i =>
    obtain ⟨hi, h1, h2⟩ := List.findIdx?_eq_some_iff_getElem.1 h
    refine .inr ⟨i, hi, rfl, ?_⟩
    rw [List.find?_eq_some_iff_getElem]
    exact ⟨h1, i, hi, rfl, fun j hj => by simpa using h2 j hj⟩
set_option maxRecDepth 100000 in
set_option maxHeartbeats 1000000 in
theorem get21_any {w : World} {tb : Nat} {xs : List Pr} (h : MTab w tb xs) (hx : xs.length ≤ 1000000) (key : ByteArray) :
    Calls Tryz.prog 38 #[.pointer (some ⟨tb, 0, none⟩), .string key] w fun e w' => e = .returned (.tuple #[((xs.find? (Pl.isK key)).getD Pr.none).agg, .bool (xs.find? (Pl.isK key)).isSome]) ∧ Grew w w' := by
  have HF := hid (fun W (g : Grew w W) => find21_any (h.grew g) hx key)
  obtain ⟨a, cap, c0, hA⟩ := h
  have htb := cell_lt c0
  have HA := hid hA
  clear hA
  rcases idx_find (Pl.isK key) xs with ⟨e1, e2⟩ | ⟨i, hi, e1, e2⟩
  · rw [e1] at HF
    rw [e2]
    clear e1 e2
    go_enter Tryz.func38, Tryz.ntmps38
    go_wp2_with fail
    refine (HF.out _ ((Grew.refl w).alloc _)).mono ?_
    rintro e w1 ⟨rfl, hg⟩
    have hz : w.heap.size < w1.heap.size := by have := hg.size; simp at this; omega
    obtain ⟨hc, hf⟩ := hg.cells
    go_wp2_with fail
    refine bodyPost_ret (v := .tuple #[Pr.none.agg, .bool false]) (by simp [results, Tryz.results38, go_sem, hc, hz, Pr.agg, Pr.none]) rfl ⟨rfl, ?_⟩
    have hG := ((Grew.refl w).alloc _).trans hg
    refine ((hG.setCell ?_ _).setCell ?_ _).setCell ?_ _ <;> exact Nat.le_refl _
  · rw [e1] at HF
    rw [e2]
    rcases HA.out with h0 | ⟨b, off, rfl, hb, hR⟩
    · rw [h0] at hi; simp at hi
    have hat : prAt xs i = xs[i] := prAt_eq xs i hi
    have q0 := hR.key i hi
    have q1 := hR.val i hi
    have q2 := hR.ver i hi
    rw [← hat]
    clear hat hR e1 e2
    generalize prAt xs i = c at *
    obtain ⟨ck, cv, cn⟩ := c
    dsimp only at *
    have hneg : ¬ (i : Int) < 0 := by omega
    have hilt : (i : Int) < (xs.length : Int) := by omega
    go_enter Tryz.func38, Tryz.ntmps38
    go_wp2_with fail
    refine (HF.out _ ((Grew.refl w).alloc _)).mono ?_
    rintro e w1 ⟨rfl, hg⟩
    have hz : w.heap.size < w1.heap.size := by have := hg.size; simp at this; omega
    obtain ⟨hc, hf⟩ := hg.cells
    have hG := ((Grew.refl w).alloc (Obj.cells #[.string ⟨#[]⟩, .string ⟨#[]⟩, .int .i64 0] 42)).trans hg
    have c1 := (hG.cells.1 _ _ htb).trans c0
    have r0 := (hG.cells.1 _ _ hb).trans q0
    have r1 := (hG.cells.1 _ _ hb).trans q1
    have r2 := (hG.cells.1 _ _ hb).trans q2
    have htb1 := Nat.lt_of_lt_of_le htb hG.size
    have hb1 := Nat.lt_of_lt_of_le hb hG.size
    go_wp2_with fail
    refine bodyPost_ret (v := .tuple #[.agg #[.string ck, .string cv, .int .i64 cn], .bool true]) (by simp [results, Tryz.results38, go_sem, hc, hz]) rfl ⟨rfl, ?_⟩
    refine ((hG.setCell ?_ _).setCell ?_ _).setCell ?_ _ <;> exact Nat.le_refl _
end Go.Proofs.YtbdagllflamabaaGreatDoor
