/- Ref03, Ref03b, ConP0, Ref21: one text. -/
import Derived.Test.YtoiahcgaffffbaaGreatDoorFinStatePlaysQ9
import Derived.Test.YtoiahcgaffffbaaGreatDoorFinStatePlaysQ8
import Derived.Test.YtoiahcgaffffbaaGreatDoorFinStatePlaysQ6
import Derived.Test.YtoiahcgaffffbaaGreatDoorFinStatePlaysQ3
import Derived.Deep.Upon
import Derived.Lib.AppendZeros
import Derived.Deep.AppendLies
import Derived.BigQuiet
namespace Go.Proofs.YtoiahcgaffffbaaGreatDoor
open Go.RowKit
theorem own_cell {w : World} {base : Nat} {v : Value} {l : List Nat} (h : w.ownsRow base 3 1 v l.length (l.map fun c => Value.int .i64 (c : Nat))) (hl : l ≠ []) :
    ∃ g cap, v = .slice (some ⟨g, 0, none⟩) l.length cap ∧ ∀ i, i < l.length → w.cell? ⟨g, i, none⟩ = some (.int .i64 (l.getD i 0 : Nat)) := by
  rcases h.2 with ⟨_, h0⟩ | ⟨g, cap, cur, rfl, _, hg, _, _, _, ht⟩
  · exact absurd (List.eq_nil_of_length_eq_zero h0) hl
  · refine ⟨g, cap, rfl, fun i hi => ?_⟩
    rw [cell_of_row _ _ _ _ _ _ hg]
    have : (cur.toList.take (l.length * 1))[i]? = some (.int .i64 (l.getD i 0 : Nat)) := by rw [ht]; simp [hi]
    rw [List.getElem?_take] at this
    split at this
    · simpa using this
    · cases this
set_option maxHeartbeats 400000 in
theorem ref_key (s : ByteArray) (w : World) (hs : s.size ≤ 16777216) :
    Calls Tryz.prog 147 #[.string s] w fun e w' => e = .returned (.int .i64 (Pl.keyN s : Nat)) ∧ Grew w w' := by
  go_enter Tryz.func147, Tryz.ntmps147
  go_wp2_with fail
  refine (ref_runes s _ hs).mono ?_
  rintro e w1 ⟨hg, ⟨hr, rfl⟩ | ⟨l, v, hr, rfl, hown⟩⟩
  · have hk : Pl.keyN s = 6 := by unfold Pl.keyN; rw [hr]
    have HK := hid hk
    clear hk hr
    go_wp2
    go_ret
    exact ⟨ret_int (by rw [HK.out]; rfl), hg⟩
  · have hk : Pl.keyN s = Pl.keyL l := by unfold Pl.keyN; rw [hr]
    have hl := Pl.runes_len _ _ l (Nat.le_refl _) hr
    have hl2 : l.length ≤ s.size := by simpa using hl
    have HK := hid hk
    clear hk hr hl
    by_cases l0 : l = []
    · subst l0
      have e2 := HK.out
      have hv : ∃ a cap, v = .slice a 0 cap := by
        rcases hown.2 with ⟨rfl, _⟩ | ⟨g, cap, cur, rfl, _⟩
        · exact ⟨_, _, rfl⟩
        · exact ⟨_, _, rfl⟩
      obtain ⟨a, cap, rfl⟩ := hv
      clear e2 hown
      go_wp2
      go_ret
      exact ⟨ret_int (by rw [HK.out]; rfl), hg⟩
    · have lp : 0 < l.length := List.length_pos_iff.2 l0
      obtain ⟨g, cap, rfl, hc⟩ := own_cell hown l0
      have b0 : ((l.length : Int) == 0) = false := beq_eq_false_iff_ne.2 (by omega)
      clear hown
      have HC := hid hc
      clear hc l0
      by_cases l24 : 24 < l.length
      · have hk2 : Pl.keyL l = 3 := by unfold Pl.keyL; rw [if_neg (by omega), if_pos l24]
        have HK2 := hid hk2
        clear hk2
        go_wp2
        go_ret
        exact ⟨ret_int (by rw [HK.out, HK2.out]; rfl), hg⟩
      · have hk2 : Pl.keyL l = if l.any Pl.badRune then 7 else 0 := by unfold Pl.keyL; rw [if_neg (by omega), if_neg l24]
        have HK2 := hid hk2
        have b2 : decide ((24 : Int) < (l.length : Int)) = false := by simp; omega
        clear hk2
        go_wp2
        go_loop [6, 25] (fun _ i => ∃ n : Nat, i = .int .i64 n ∧ n ≤ l.length ∧ Hid ((l.drop n).any Pl.badRune = l.any Pl.badRune)) (fun _ i => l.length - (intOf i).toNat)
        case atStart => exact ⟨0, rfl, Nat.zero_le _, rfl⟩
        case round =>
          obtain ⟨n, rfl, hn, HN⟩ := hrel
          by_cases hlt : n < l.length
          · have hcell := HC.out n hlt
            have hst : (l.drop n).any Pl.badRune = (Pl.badRune (l.getD n 0) || (l.drop (n + 1)).any Pl.badRune) := by
              rw [List.drop_eq_getElem_cons hlt, List.any_cons, List.getD_eq_getElem?_getD, List.getElem?_eq_getElem hlt]; rfl
            obtain ⟨c, hcc⟩ : ∃ c, c = l.getD n 0 := ⟨_, rfl⟩
            rw [← hcc] at hcell hst
            have HS := hid hst
            clear hst hcc
            by_cases q1 : (c : Int) < 32
            · have hb : l.any Pl.badRune = true := by
                have g3 : Pl.badRune c = true := by simp [Pl.badRune]; omega
                rw [← HN.out, HS.out, g3]; rfl
              have HB := hid hb
              clear hb
              go_wp2
              go_ret
              exact ⟨ret_int (by rw [HK.out, HK2.out, if_pos HB.out]; rfl), hg⟩
            · by_cases q2 : c = 127
              · have hb : l.any Pl.badRune = true := by
                  have g3 : Pl.badRune c = true := by simp [Pl.badRune, q2]
                  rw [← HN.out, HS.out, g3]; rfl
                have HB := hid hb
                clear hb
                have q3 : ((c : Int) == 127) = true := beq_iff_eq.2 (by omega)
                clear q2
                go_wp2
                go_ret
                exact ⟨ret_int (by rw [HK.out, HK2.out, if_pos HB.out]; rfl), hg⟩
              · have hb : (l.drop (n + 1)).any Pl.badRune = l.any Pl.badRune := by
                  have g3 : Pl.badRune c = false := by simp [Pl.badRune]; omega
                  rw [← HN.out, HS.out, g3]; rfl
                have HB := hid hb
                clear hb
                have q3 : ((c : Int) == 127) = false := beq_eq_false_iff_ne.2 (by omega)
                clear q2
                go_wp2
                go_round
                case rel => exact ⟨n + 1, by go_num, by omega, HB⟩
                case measure => simp [intOf]; omega
          · have hb : l.any Pl.badRune = false := by rw [← HN.out, List.drop_of_length_le (by omega)]; rfl
            have HB := hid hb
            clear hb
            go_wp2
            go_ret
            exact ⟨ret_int (by rw [HK.out, HK2.out, HB.out]; rfl), hg⟩
end Go.Proofs.YtoiahcgaffffbaaGreatDoor
namespace Go.Proofs.YtoiahcgaffffbaaGreatDoor
open Go.RowKit
namespace Pl
def rightR (lo hi : ByteArray) : Bool := endB lo && endB hi && (none0 hi || Op.bytesLess lo.toList hi.toList)
def hasR (lo hi key : ByteArray) : Bool := rightR lo hi && isKey key && !Op.bytesLess key.toList lo.toList && (none0 hi || Op.bytesLess key.toList hi.toList)
end Pl
theorem key_zero (s : ByteArray) (h : Pl.isKey s = true) : ((Pl.keyN s : Nat) : Int) = 0 := by
  unfold Pl.isKey at h; rw [of_decide_eq_true h]; rfl
set_option maxHeartbeats 400000 in
theorem ref_end (s : ByteArray) (w : World) (hs : s.size ≤ 16777216) :
    Calls Tryz.prog 83 #[.string s] w fun e w' => e = .returned (.bool (Pl.endB s)) ∧ Grew w w' := by
  cases he : s.toList.isEmpty with
  | true =>
    have e : Pl.endB s = true := by unfold Pl.endB Pl.none0; rw [he]; rfl
    have e2 : s.toList = [] := by simpa using he
    have HE := hid e
    clear e
    go_enter Tryz.func83, Tryz.ntmps83
    go_wp2
    go_ret
    exact ⟨ret_bool HE.out.symm, Grew.refl _⟩
  | false =>
    have e2 : (!s.toList.isEmpty) = true := by rw [he]; rfl
    have e3 : ¬ s.toList = [] := by simpa using he
    have e : Pl.endB s = (((Pl.keyN s : Nat) : Int) == 0) := by
      unfold Pl.endB Pl.none0 Pl.isKey; rw [he, Bool.false_or, Bool.eq_iff_iff]; simp
    have HE := hid e
    clear e
    go_enter Tryz.func83, Tryz.ntmps83
    go_wp2_with (go_at_call 147; refine (ref_key s _ hs).mono ?_; rintro e w' ⟨rfl, hg⟩)
    go_ret
    exact ⟨ret_bool HE.out.symm, by assumption⟩
set_option maxHeartbeats 400000 in
theorem ref_right (lo hi : ByteArray) (w : World) (hl : lo.size ≤ 16777216) (hh : hi.size ≤ 16777216) :
    Calls Tryz.prog 26 #[.agg #[.string lo, .string hi]] w fun e w' => e = .returned (.bool (Pl.rightR lo hi)) ∧ Grew w w' := by
  cases h1 : Pl.endB lo with
  | false =>
    have hr : Pl.rightR lo hi = false := by unfold Pl.rightR; rw [h1]; rfl
    have HR := hid hr
    clear hr
    go_enter Tryz.func26, Tryz.ntmps26
    go_wp2_with fail
    refine (ref_end lo _ hl).mono ?_
    rintro e w1 ⟨rfl, hg⟩
    go_wp2_with fail
    go_ret
    exact ⟨ret_bool HR.out.symm, ((Grew.refl w).alloc _).trans hg⟩
  | true =>
    cases h2 : Pl.endB hi with
    | false =>
      have hr : Pl.rightR lo hi = false := by unfold Pl.rightR; rw [h1, h2]; rfl
      have HR := hid hr
      clear hr
      go_enter Tryz.func26, Tryz.ntmps26
      go_wp2_with fail
      refine (ref_end lo _ hl).mono ?_
      rintro e w1 ⟨rfl, hg⟩
      have hG : Grew w w1 := ((Grew.refl w).alloc _).trans hg
      obtain ⟨hc, _⟩ := hg.cells
      go_wp2_with fail
      refine (ref_end hi _ hh).mono ?_
      rintro e w2 ⟨rfl, hg2⟩
      go_wp2_with fail
      go_ret
      exact ⟨ret_bool HR.out.symm, hG.trans hg2⟩
    | true =>
      cases h3 : hi.toList.isEmpty with
      | true =>
        have hr : Pl.rightR lo hi = true := by unfold Pl.rightR Pl.none0; rw [h1, h2, h3]; rfl
        have h4 : hi.toList = [] := by simpa using h3
        have HR := hid hr
        clear hr
        go_enter Tryz.func26, Tryz.ntmps26
        go_wp2_with fail
        refine (ref_end lo _ hl).mono ?_
        rintro e w1 ⟨rfl, hg⟩
        have hG : Grew w w1 := ((Grew.refl w).alloc _).trans hg
        have hz : w.heap.size < w1.heap.size := by have := hg.size; simp at this; omega
        obtain ⟨hc, _⟩ := hg.cells
        go_wp2_with fail
        refine (ref_end hi _ hh).mono ?_
        rintro e w2 ⟨rfl, hg2⟩
        obtain ⟨hc2, _⟩ := hg2.cells
        go_wp2_with fail
        go_ret
        exact ⟨ret_bool HR.out.symm, hG.trans hg2⟩
      | false =>
        have hr : Pl.rightR lo hi = Op.bytesLess lo.toList hi.toList := by unfold Pl.rightR Pl.none0; rw [h1, h2, h3]; rfl
        have h4 : ¬ hi.toList = [] := by simpa using h3
        have h5 : (!hi.toList.isEmpty) = true := by rw [h3]; rfl
        have HR := hid hr
        clear hr
        go_enter Tryz.func26, Tryz.ntmps26
        go_wp2_with fail
        refine (ref_end lo _ hl).mono ?_
        rintro e w1 ⟨rfl, hg⟩
        have hG : Grew w w1 := ((Grew.refl w).alloc _).trans hg
        have hz : w.heap.size < w1.heap.size := by have := hg.size; simp at this; omega
        obtain ⟨hc, _⟩ := hg.cells
        go_wp2_with fail
        refine (ref_end hi _ hh).mono ?_
        rintro e w2 ⟨rfl, hg2⟩
        obtain ⟨hc2, _⟩ := hg2.cells
        go_wp2_with fail
        go_ret
        exact ⟨ret_bool HR.out.symm, hG.trans hg2⟩
set_option maxHeartbeats 800000 in
theorem ref_has (lo hi key : ByteArray) (w : World) (hl : lo.size ≤ 16777216) (hh : hi.size ≤ 16777216) (hk : key.size ≤ 16777216) :
    Calls Tryz.prog 116 #[.agg #[.string lo, .string hi], .string key] w fun e w' => e = .returned (.bool (Pl.hasR lo hi key)) ∧ Grew w w' := by
  cases h1 : Pl.rightR lo hi with
  | false =>
    have hr : Pl.hasR lo hi key = false := by unfold Pl.hasR; rw [h1]; rfl
    have HR := hid hr
    clear hr
    go_enter Tryz.func116, Tryz.ntmps116
    go_wp2_with fail
    refine (ref_right lo hi _ hl hh).mono ?_
    rintro e w1 ⟨rfl, hg⟩
    go_wp2_with fail
    go_ret
    exact ⟨ret_bool HR.out.symm, ((Grew.refl w).alloc _).trans hg⟩
  | true =>
    cases h2 : Pl.isKey key with
    | false =>
      have hr : Pl.hasR lo hi key = false := by unfold Pl.hasR; rw [h1, h2]; rfl
      have HR := hid hr
      have hk0 : (((Pl.keyN key : Nat) : Int) == 0) = false := by rw [beq_eq_false_iff_ne]; have := of_decide_eq_false h2; omega
      clear hr
      go_enter Tryz.func116, Tryz.ntmps116
      go_wp2_with fail
      refine (ref_right lo hi _ hl hh).mono ?_
      rintro e w1 ⟨rfl, hg⟩
      go_wp2_with fail
      refine (ref_key key _ hk).mono ?_
      rintro e w2 ⟨rfl, hg2⟩
      go_wp2_with fail
      go_ret
      exact ⟨ret_bool HR.out.symm, ((Grew.refl w).alloc _).trans (hg.trans hg2)⟩
    | true =>
      have HK := hid (key_zero key h2)
      cases h3 : Op.bytesLess key.toList lo.toList with
      | true =>
        have hr : Pl.hasR lo hi key = false := by unfold Pl.hasR; rw [h1, h2, h3]; rfl
        have HR := hid hr
        clear hr
        go_enter Tryz.func116, Tryz.ntmps116
        go_wp2_with fail
        refine (ref_right lo hi _ hl hh).mono ?_
        rintro e w1 ⟨rfl, hg⟩
        have hz : w.heap.size < w1.heap.size := by have := hg.size; simp at this; omega
        obtain ⟨hc, _⟩ := hg.cells
        go_wp2_with fail
        refine (ref_key key _ hk).mono ?_
        rw [HK.out]
        rintro e w2 ⟨rfl, hg2⟩
        obtain ⟨hc2, _⟩ := hg2.cells
        go_wp2_with fail
        go_ret
        exact ⟨ret_bool HR.out.symm, ((Grew.refl w).alloc _).trans (hg.trans hg2)⟩
      | false =>
        cases h4 : hi.toList.isEmpty with
        | true =>
          have hr : Pl.hasR lo hi key = true := by unfold Pl.hasR Pl.none0; rw [h1, h2, h3, h4]; rfl
          have h5 : hi.toList = [] := by simpa using h4
          have HR := hid hr
          clear hr
          go_enter Tryz.func116, Tryz.ntmps116
          go_wp2_with fail
          refine (ref_right lo hi _ hl hh).mono ?_
          rintro e w1 ⟨rfl, hg⟩
          have hz : w.heap.size < w1.heap.size := by have := hg.size; simp at this; omega
          obtain ⟨hc, _⟩ := hg.cells
          go_wp2_with fail
          refine (ref_key key _ hk).mono ?_
          rw [HK.out]
          rintro e w2 ⟨rfl, hg2⟩
          obtain ⟨hc2, _⟩ := hg2.cells
          go_wp2_with fail
          go_ret
          exact ⟨ret_bool HR.out.symm, ((Grew.refl w).alloc _).trans (hg.trans hg2)⟩
        | false =>
          have hr : Pl.hasR lo hi key = Op.bytesLess key.toList hi.toList := by unfold Pl.hasR Pl.none0; rw [h1, h2, h3, h4]; rfl
          have h5 : ¬ hi.toList = [] := by simpa using h4
          have h6 : (!hi.toList.isEmpty) = true := by rw [h4]; rfl
          have HR := hid hr
          clear hr
          go_enter Tryz.func116, Tryz.ntmps116
          go_wp2_with fail
          refine (ref_right lo hi _ hl hh).mono ?_
          rintro e w1 ⟨rfl, hg⟩
          have hz : w.heap.size < w1.heap.size := by have := hg.size; simp at this; omega
          obtain ⟨hc, _⟩ := hg.cells
          go_wp2_with fail
          refine (ref_key key _ hk).mono ?_
          rw [HK.out]
          rintro e w2 ⟨rfl, hg2⟩
          obtain ⟨hc2, _⟩ := hg2.cells
          go_wp2_with fail
          go_ret
          exact ⟨ret_bool HR.out.symm, ((Grew.refl w).alloc _).trans (hg.trans hg2)⟩
end Go.Proofs.YtoiahcgaffffbaaGreatDoor
set_option linter.unusedVariables false
namespace Go.Proofs.YtoiahcgaffffbaaGreatDoor.Pl
theorem cmp_lt : ∀ (x y : List Nat), (cmpNums x y < 0) = (numLess x y = true)
  | [], [] => by simp [cmpNums, numLess]
  | [], _ :: _ => by simp [cmpNums, numLess]
  | _ :: _, [] => by simp [cmpNums, numLess]
  | a :: x, b :: y => by
    unfold cmpNums numLess
    by_cases h1 : a < b
    · simp [h1]
    · by_cases h2 : b < a
      · have : a ≠ b := by omega
        simp [h1, h2, this]
      · have : a = b := by omega
        subst this
        simp [cmp_lt x y]
theorem isKey_runes (s : ByteArray) (h : isKey s = true) : ∃ l, runes s.data.toList = some l := by
  unfold isKey keyN at h
  cases hr : runes s.data.toList with
  | none => rw [hr] at h; simp at h
  | some l => exact ⟨l, rfl⟩
theorem none0_runes (s : ByteArray) (h : none0 s = true) : runes s.data.toList = some [] := by
  unfold none0 at h
  rw [ByteArray.toList_eq] at h
  have : s.data.toList = [] := List.isEmpty_iff.1 h
  rw [this]; rfl
theorem endB_runes (s : ByteArray) (h : endB s = true) : ∃ l, runes s.data.toList = some l := by
  unfold endB at h
  rw [Bool.or_eq_true] at h
  rcases h with h | h
  · exact ⟨_, none0_runes s h⟩
  · exact isKey_runes s h
theorem compare_lt (a b : ByteArray) (ha : ∃ l, runes a.data.toList = some l) (hb : ∃ l, runes b.data.toList = some l) : decide (compare a b < 0) = Op.bytesLess a.toList b.toList := by
  obtain ⟨x, hx⟩ := ha
  obtain ⟨y, hy⟩ := hb
  have e : compare a b = cmpNums x y := by unfold compare; rw [hx, hy]
  rw [e, ByteArray.toList_eq, ByteArray.toList_eq, less_runes _ _ _ x y (Nat.le_refl _) hx hy, Bool.eq_iff_iff, decide_eq_true_iff, cmp_lt]
theorem compare_ge (a b : ByteArray) (ha : ∃ l, runes a.data.toList = some l) (hb : ∃ l, runes b.data.toList = some l) : decide (0 ≤ compare a b) = !Op.bytesLess a.toList b.toList := by
  rw [← compare_lt a b ha hb, Bool.eq_iff_iff]
  simp
theorem lessB_eq (a b : ByteArray) (ha : ∃ l, runes a.data.toList = some l) (hb : endB b = true) : lessB a b = (none0 b || Op.bytesLess a.toList b.toList) := by
  unfold lessB
  rw [compare_lt a b ha (endB_runes b hb)]
theorem rightR_eq (lo hi : ByteArray) : rightR lo hi = rightS lo hi := by
  unfold rightR rightS
  cases h1 : endB lo with
  | false => rfl
  | true =>
    cases h2 : endB hi with
    | false => rfl
    | true => rw [lessB_eq lo hi (endB_runes lo h1) h2]
theorem rightS_ends (lo hi : ByteArray) (h : rightS lo hi = true) : endB lo = true ∧ endB hi = true := by
  unfold rightS at h
  rw [Bool.and_eq_true, Bool.and_eq_true] at h
  exact h.1
theorem hasR_eq (lo hi key : ByteArray) : hasR lo hi key = hasS lo hi key := by
  unfold hasR hasS
  rw [rightR_eq]
  cases h1 : rightS lo hi with
  | false => rfl
  | true =>
    obtain ⟨e1, e2⟩ := rightS_ends lo hi h1
    cases h2 : isKey key with
    | false => rfl
    | true =>
      have hk := isKey_runes key h2
      rw [lessB_eq key hi hk e2, compare_ge key lo hk (endB_runes lo e1)]
end Go.Proofs.YtoiahcgaffffbaaGreatDoor.Pl
namespace Go.Proofs.YtoiahcgaffffbaaGreatDoor
open Go.RowKit Go.Maps
attribute [local go_sem] Oper.semAt_some
theorem infoPr : (Tryz.prog.info? 83).map (fun i => (i.zero, i.size, i.bytes)) = some (some (.agg #[.string ⟨#[]⟩, .string ⟨#[]⟩, .int .i64 0]), 3, 40) := by kernel_rfl
def SlForm (a : Option Addr) (cap : Nat) : Prop := (a = none ∧ cap = 0) ∨ ∃ b off, a = some ⟨b, off, none⟩
theorem slForm_of {w : World} {B k : Nat} {e : TypeId} {a : Option Addr} {m n cap : Nat} {L : List Value} (h : w.ownsRow B e k (.slice a m cap) n L) : SlForm a cap := by
  rcases h.2 with ⟨h2, _⟩ | ⟨b, c, cur, e1, _⟩
  · cases h2; exact .inl ⟨rfl, rfl⟩
  · cases e1; exact .inr ⟨_, _, rfl⟩
theorem PairRow.cells {W : World} {b off : Nat} {xs : List Pr} (h : PairRow W b off xs) : ∀ j u, (prFlat xs)[j]? = some u → W.cell? ⟨b, off + j, none⟩ = some u := by
  intro j u hj
  have hlt : j < xs.length * 3 := by have := (List.getElem?_eq_some_iff.1 hj).1; rwa [prFlat_length] at this
  have h2 := prFlat_get (j % 3) (Nat.mod_lt _ (by decide)) xs (j / 3) (by omega)
  rw [show j / 3 * 3 + j % 3 = j by omega, hj] at h2
  have q0 := h.key (j / 3) (by omega)
  have q1 := h.val (j / 3) (by omega)
  have q2 := h.ver (j / 3) (by omega)
  have e : off + j = off + j / 3 * 3 + j % 3 := by omega
  have h4 : j % 3 < 3 := Nat.mod_lt _ (by decide)
  rw [e]
  generalize j % 3 = r at *
  unfold Pr.vals at h2
  match r, h4 with
  | 0, _ => simp at h2; rw [h2]; exact q0
  | 1, _ => simp at h2; rw [h2]; exact q1
  | 2, _ => simp at h2; rw [h2]; exact q2
theorem wpList_append_pairs {ops : Array Oper} {rest : List Oper} {o : Oper} {a : Act} {Q : Exit → Act → World → Prop} (hgd : o.guard = none) (s x : Operand)
    (ho : o.op = .call { callee := .builtin .append, args := #[s, x], argTypes := #[32, 32] }) {w : World} {B : Nat} {v : Value} {m : Nat} {ys xs : List Pr} (hs : a.eval s = v) (hown : w.ownsRow B 83 3 v m (prFlat ys))
    {ao : Option Addr} {n cap : Nat} (hx : a.eval x = .slice ao n cap) (hn : n = xs.length) (hA : PairsAt w ao xs) (hf : SlForm ao cap) (hbig : m + n ≤ 2000000) (hB : B ≤ w.heap.size)
    (h : ∀ a' cap' w', w'.ownsRow B 83 3 (.slice a' (m + n) cap') (m + n) (prFlat (ys ++ xs)) → w.grownBy w' v.ownBlock → wpList Tryz.prog ops Q rest (a.put o.dst (.slice a' (m + n) cap')) w') : wpList Tryz.prog ops Q (o :: rest) a w := by
  obtain ⟨i0, hi0, hz0, hz1, hz2⟩ := info_parts infoPr
  subst hn
  rcases Nat.eq_zero_or_pos xs.length with h0 | h0
  · have e := List.eq_nil_of_length_eq_zero h0
    subst e
    have hsrc : Src Tryz.prog i0.size 32 (.slice ao 0 cap) 0 [] w := by
      rcases hf with ⟨rfl, rfl⟩ | ⟨b, off, rfl⟩
      · exact Src.ofNil w Tryz.underlying32 0
      · exact Src.ofSlice w Tryz.underlying32 ⟨b, off, none⟩ 0 cap [] (by simp) (fun j u hj => by simp at hj) (fun u hu => by cases hu)
    have hb : ∃ a' cap', v = .slice a' m cap' ∧ m ≤ cap' := by
      rcases hown.2 with ⟨rfl, h2⟩ | ⟨b, c, cur, rfl, _, _, h4, _⟩
      · subst h2; exact ⟨_, _, rfl, Nat.le_refl _⟩
      · exact ⟨_, _, rfl, h4⟩
    obtain ⟨a', cap', rfl, hc⟩ := hb
    exact Lib.wpList_append_run w hgd s x _ _ ho _ _ hs hx _ _ (run_append_nothing w _ _ _ 83 i0 Tryz.underlying32 hi0 a' m cap' hc _ hsrc) (h a' cap' w (by simpa using hown) ⟨rfl, rfl, rfl, Nat.le_refl _, fun _ _ _ => rfl⟩)
  · rcases hA with h1 | ⟨b, off, rfl, hb, hR⟩
    · rw [h1] at h0; simp at h0
    · refine wpList_append_lies w hgd s x 32 ho B 83 i0 _ 3 40 Tryz.underlying32 hi0 hz0 hz1 hz2 rfl (by omega) v m (prFlat ys) hs hown ⟨b, off, none⟩ xs.length cap (prFlat xs) hx (prFlat_length xs) (fun j u hj => by rw [Addr.add_lit]; exact hR.cells j u hj) (prFlat_one' xs) h0 (by unfold maxLen; omega) (by omega) hB _ rfl ?_
      intro g cap2 w2 hown2 hgrow _ _
      rw [← prFlat_append] at hown2
      exact h _ _ _ hown2 hgrow
theorem run_append_pairs {w : World} {B : Nat} {v : Value} {m : Nat} {ys xs : List Pr} (hown : w.ownsRow B 83 3 v m (prFlat ys)) {ao : Option Addr} {n cap : Nat} (hn : n = xs.length) (hA : PairsAt w ao xs) (hf : SlForm ao cap) (hbig : m + n ≤ 2000000) (hB : B ≤ w.heap.size) (ty : TypeId) :
    ∃ a' cap' w', (Builtin.append_ #[32, 32] ty #[v, .slice ao n cap]).run Tryz.prog w = .ok (.slice a' (m + n) cap') w' ∧ w'.ownsRow B 83 3 (.slice a' (m + n) cap') (m + n) (prFlat (ys ++ xs)) ∧ w.grownBy w' v.ownBlock ∧ ∀ g, Value.ownBlock (.slice a' (m + n) cap') = some g → v.ownBlock = some g ∨ g = w.heap.size := by
  obtain ⟨i0, hi0, hz0, hz1, hz2⟩ := info_parts infoPr
  subst hn
  rcases Nat.eq_zero_or_pos xs.length with h0 | h0
  · have e := List.eq_nil_of_length_eq_zero h0
    subst e
    have hsrc : Src Tryz.prog i0.size 32 (.slice ao 0 cap) 0 [] w := by
      rcases hf with ⟨rfl, rfl⟩ | ⟨b, off, rfl⟩
      · exact Src.ofNil w Tryz.underlying32 0
      · exact Src.ofSlice w Tryz.underlying32 ⟨b, off, none⟩ 0 cap [] (by simp) (fun j u hj => by simp at hj) (fun u hu => by cases hu)
    have hb : ∃ a' cap', v = .slice a' m cap' ∧ m ≤ cap' := by
      rcases hown.2 with ⟨rfl, h2⟩ | ⟨b, c, cur, rfl, _, _, h4, _⟩
      · subst h2; exact ⟨_, _, rfl, Nat.le_refl _⟩
      · exact ⟨_, _, rfl, h4⟩
    obtain ⟨a', cap', rfl, hc⟩ := hb
    exact ⟨a', cap', w, run_append_nothing w _ _ _ 83 i0 Tryz.underlying32 hi0 a' m cap' hc _ hsrc, by simpa using hown, ⟨rfl, rfl, rfl, Nat.le_refl _, fun _ _ _ => rfl⟩, fun g h => .inl h⟩
  · rcases hA with h1 | ⟨b, off, rfl, hb, hR⟩
    · rw [h1] at h0; simp at h0
    · obtain ⟨g, cap2, w2, h1, h2, h3, h4, h5⟩ := run_append_lies (P := Tryz.prog) (w := w) 32 ty B 83 i0 _ 3 40 Tryz.underlying32 hi0 hz0 hz1 hz2 rfl (by omega) v m (prFlat ys) hown ⟨b, off, none⟩ xs.length cap (prFlat xs) (prFlat_length xs) (fun j u hj => by rw [Addr.add_lit]; exact hR.cells j u hj) (prFlat_one' xs) h0 (by unfold maxLen; omega) (by omega) hB _ rfl
      rw [← prFlat_append] at h2
      exact ⟨_, _, w2, h1, h2, h3, fun g' hg' => by
        have : g' = g := by simpa [Value.ownBlock] using hg'.symm
        subst this; exact h4⟩
theorem uponV_append_pairs {o : Oper} {a : Act} {w : World} {K : Value → World → Prop} (s x : Operand) (ho : o.op = .call { callee := .builtin .append, args := #[s, x], argTypes := #[32, 32] })
    {B : Nat} {v : Value} {m : Nat} {ys xs : List Pr} (hs : a.eval s = v) (hown : w.ownsRow B 83 3 v m (prFlat ys)) {ao : Option Addr} {n cap : Nat} (hx : a.eval x = .slice ao n cap) (hn : n = xs.length) (hA : PairsAt w ao xs) (hf : SlForm ao cap) (hbig : m + n ≤ 2000000) (hB : B ≤ w.heap.size)
    (h : ∀ r w', w'.ownsRow B 83 3 r (m + n) (prFlat (ys ++ xs)) → w.grownBy w' v.ownBlock → (∀ g, r.ownBlock = some g → v.ownBlock = some g ∨ g = w.heap.size) → K r w') : uponV Tryz.prog K ((execOp a.eval o).run Tryz.prog w) := by
  obtain ⟨a', cap', w', hr, h2, h3, h4⟩ := run_append_pairs hown hn hA hf hbig hB o.type
  unfold execOp
  simp only [ho, resolve, invoke, builtin, Sem.run_bind, Sem.run_pure, Result.andThen_ok, List.map_toArray, List.map_cons, List.map_nil, hs, hx, hr]
  exact h _ _ h2 h3 h4
end Go.Proofs.YtoiahcgaffffbaaGreatDoor
set_option linter.unusedSimpArgs false
namespace Go.Proofs.YtoiahcgaffffbaaGreatDoor
open Go.RowKit Go.Maps
attribute [local go_sem] Oper.semAt_some
def MTab (w : World) (tb : Nat) (xs : List Pr) : Prop := ∃ a cap, w.cell? ⟨tb, 0, none⟩ = some (.slice a xs.length cap) ∧ PairsAt w a xs
theorem MTab.grew {w w' : World} {tb : Nat} {xs : List Pr} (h : MTab w tb xs) (g : Grew w w') : MTab w' tb xs := by
  obtain ⟨a, cap, h1, h2⟩ := h
  exact ⟨a, cap, (g.cells.1 _ _ (cell_lt h1)).trans h1, h2.grew g⟩
theorem toList_inj21 {a b : ByteArray} (h : a.toList = b.toList) : a = b := by
  rw [ByteArray.toList_eq, ByteArray.toList_eq] at h
  obtain ⟨⟨a⟩⟩ := a
  obtain ⟨⟨b⟩⟩ := b
  exact congrArg (fun l : List UInt8 => (⟨⟨l⟩⟩ : ByteArray)) h
def Pl.isK (k : ByteArray) (c : Pr) : Bool := c.key.toList == k.toList
theorem Pl.isK_iff (k : ByteArray) (c : Pr) : Pl.isK k c = true ↔ c.key = k := by
  unfold Pl.isK
  rw [beq_iff_eq]
  exact ⟨toList_inj21, fun h => by rw [h]⟩
set_option maxRecDepth 100000 in
set_option maxHeartbeats 1000000 in
theorem find21_any {w : World} {tb : Nat} {xs : List Pr} (h : MTab w tb xs) (hx : xs.length ≤ 1000000) (key : ByteArray) :
    Calls Tryz.prog 131 #[.pointer (some ⟨tb, 0, none⟩), .string key] w fun e w' => e = .returned (.int .i64 (idxI (Pl.isK key) xs)) ∧ Grew w w' := by
  obtain ⟨a, cap, c0, hA⟩ := h
  have htb := cell_lt c0
  have HA := hid hA
  clear hA
  go_enter Tryz.func131, Tryz.ntmps131
  go_wp2_with fail
  go_loopw [12] (fun i wr => ∃ k : Nat, k ≤ xs.length ∧ i = .int .i64 k ∧ Hid ((xs.take k).all (fun c => !Pl.isK key c) = true) ∧ Grew w wr) (fun i _ => xs.length - (intOf i).toNat)
  case atStart => exact ⟨0, Nat.zero_le _, rfl, rfl, Grew.refl w⟩
  case round =>
    obtain ⟨k, hk1, rfl, HN, hG⟩ := hrel
    by_cases hlt : k < xs.length
    · rcases HA.out with h0 | ⟨b, off, rfl, hb, hR⟩
      · rw [h0] at hlt; simp at hlt
      have q0 := (hG.cells.1 b (off + k * 3) hb).trans (hR.key k hlt)
      have q1 := (hG.cells.1 b (off + k * 3 + 1) hb).trans (hR.val k hlt)
      have q2 := (hG.cells.1 b (off + k * 3 + 2) hb).trans (hR.ver k hlt)
      have hat : prAt xs k = xs[k] := prAt_eq xs k hlt
      have HS := hid (idx_some (Pl.isK key) xs k hlt HN.out)
      have HN2 := hid (idx_next (Pl.isK key) xs k hlt HN.out)
      rw [← hat] at HS HN2
      clear hat hR
      generalize prAt xs k = c at *
      obtain ⟨ck, cv, cn⟩ := c
      dsimp only at *
      cases hpc : (ck.toList == key.toList) with
      | true =>
        have HS2 := hid (HS.out hpc)
        clear HS HN2
        go_wp2_with fail
        go_ret
        exact ⟨ret_int HS2.out.symm, hG.alloc _⟩
      | false =>
        have HS2 := hid (HN2.out hpc)
        clear HS HN2
        go_wp2_with fail
        go_roundw
        case rel => exact ⟨k + 1, by omega, by go_num, HS2, hG.alloc _⟩
        case measure => simp [intOf]; omega
    · obtain rfl : k = xs.length := by omega
      have HE := hid (idx_none (Pl.isK key) xs (by have := HN.out; rwa [List.take_length] at this))
      go_wp2_with fail
      go_ret
      exact ⟨ret_int HE.out.symm, hG⟩
theorem idx_find {α : Type} (p : α → Bool) (xs : List α) : (idxI p xs = -1 ∧ xs.find? p = none) ∨ ∃ i : Nat, ∃ h : i < xs.length, idxI p xs = (i : Nat) ∧ xs.find? p = some xs[i] := by
  unfold idxI
  cases h : xs.findIdx? p with
  | none =>
    refine .inl ⟨rfl, ?_⟩
    rw [List.findIdx?_eq_none_iff] at h
    rw [List.find?_eq_none]
    intro x hx; simpa using h x hx
  | some i =>
    obtain ⟨hi, h1, h2⟩ := List.findIdx?_eq_some_iff_getElem.1 h
    refine .inr ⟨i, hi, rfl, ?_⟩
    rw [List.find?_eq_some_iff_getElem]
    exact ⟨h1, i, hi, rfl, fun j hj => by simpa using h2 j hj⟩
set_option maxRecDepth 100000 in
set_option maxHeartbeats 1000000 in
theorem get21_any {w : World} {tb : Nat} {xs : List Pr} (h : MTab w tb xs) (hx : xs.length ≤ 1000000) (key : ByteArray) :
    Calls Tryz.prog 63 #[.pointer (some ⟨tb, 0, none⟩), .string key] w fun e w' => e = .returned (.tuple #[((xs.find? (Pl.isK key)).getD Pr.none).agg, .bool (xs.find? (Pl.isK key)).isSome]) ∧ Grew w w' := by
  have HF := hid (fun W (g : Grew w W) => find21_any (h.grew g) hx key)
  obtain ⟨a, cap, c0, hA⟩ := h
  have htb := cell_lt c0
  have HA := hid hA
  clear hA
  rcases idx_find (Pl.isK key) xs with ⟨e1, e2⟩ | ⟨i, hi, e1, e2⟩
  · rw [e1] at HF
    rw [e2]
    clear e1 e2
    go_enter Tryz.func63, Tryz.ntmps63
    go_wp2_with fail
    refine (HF.out _ ((Grew.refl w).alloc _)).mono ?_
    rintro e w1 ⟨rfl, hg⟩
    have hz : w.heap.size < w1.heap.size := by have := hg.size; simp at this; omega
    obtain ⟨hc, hf⟩ := hg.cells
    go_wp2_with fail
    refine bodyPost_ret (v := .tuple #[Pr.none.agg, .bool false]) (by simp [results, Tryz.results63, go_sem, hc, hz, Pr.agg, Pr.none]) rfl ⟨rfl, ?_⟩
    have hG := ((Grew.refl w).alloc _).trans hg
    refine ((hG.setCell ?_ _).setCell ?_ _).setCell ?_ _ <;> exact Nat.le_refl _
  · rw [e1] at HF
    rw [e2]
    rcases HA.out with h0 | ⟨b, off, rfl, hb, hR⟩
    · rw [h0] at hi; simp at hi
    have hat : prAt xs i = xs[i] := prAt_eq xs i hi
    have q0 := hR.key i hi
    have q1 := hR.val i hi
    have q2 := hR.ver i hi
    rw [← hat]
    clear hat hR e1 e2
    generalize prAt xs i = c at *
    obtain ⟨ck, cv, cn⟩ := c
    dsimp only at *
    have hneg : ¬ (i : Int) < 0 := by omega
    have hilt : (i : Int) < (xs.length : Int) := by omega
    go_enter Tryz.func63, Tryz.ntmps63
    go_wp2_with fail
    refine (HF.out _ ((Grew.refl w).alloc _)).mono ?_
    rintro e w1 ⟨rfl, hg⟩
    have hz : w.heap.size < w1.heap.size := by have := hg.size; simp at this; omega
    obtain ⟨hc, hf⟩ := hg.cells
    have hG := ((Grew.refl w).alloc (Obj.cells #[.string ⟨#[]⟩, .string ⟨#[]⟩, .int .i64 0] 83)).trans hg
    have c1 := (hG.cells.1 _ _ htb).trans c0
    have r0 := (hG.cells.1 _ _ hb).trans q0
    have r1 := (hG.cells.1 _ _ hb).trans q1
    have r2 := (hG.cells.1 _ _ hb).trans q2
    have htb1 := Nat.lt_of_lt_of_le htb hG.size
    have hb1 := Nat.lt_of_lt_of_le hb hG.size
    go_wp2_with fail
    refine bodyPost_ret (v := .tuple #[.agg #[.string ck, .string cv, .int .i64 cn], .bool true]) (by simp [results, Tryz.results63, go_sem, hc, hz]) rfl ⟨rfl, ?_⟩
    refine ((hG.setCell ?_ _).setCell ?_ _).setCell ?_ _ <;> exact Nat.le_refl _
end Go.Proofs.YtoiahcgaffffbaaGreatDoor
