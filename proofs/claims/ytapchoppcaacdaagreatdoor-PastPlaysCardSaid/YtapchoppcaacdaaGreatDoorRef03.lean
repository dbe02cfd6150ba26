/- The walks of the document's packages 02 (Key) and 03 (end, Right, Has, Cut). -/
import Derived.Test.YtapchoppcaacdaaGreatDoorRef02P
import Derived.Test.YtapchoppcaacdaaGreatDoorSpan1
namespace Go.Proofs.YtapchoppcaacdaaGreatDoor
open Go.RowKit

theorem own_cell {w : World} {base : Nat} {v : Value} {l : List Nat} (h : w.ownsRow base 3 1 v l.length (l.map fun c => Value.int .i64 (c : Nat))) (hl : l ≠ []) :
    ∃ g cap, v = .slice (some ⟨g, 0, none⟩) l.length cap ∧ ∀ i, i < l.length → w.cell? ⟨g, i, none⟩ = some (.int .i64 (l.getD i 0 : Nat)) := by
  rcases h.2 with ⟨_, h0⟩ | ⟨g, cap, cur, rfl, _, hg, _, _, _, ht⟩
  · exact absurd (List.eq_nil_of_length_eq_zero h0) hl
  · refine ⟨g, cap, rfl, fun i hi => ?_⟩
    rw [cell_of_row _ _ _ _ _ _ hg]
    have : (cur.toList.take (l.length * 1))[i]? = some (.int .i64 (l.getD i 0 : Nat)) := by rw [ht]; simp [hi]
    rw [List.getElem?_take] at this
    split at this
    · simpa using this
    · cases this

set_option maxHeartbeats 400000 in
theorem ref_key (s : ByteArray) (w : World) (hs : s.size ≤ 16777216) :
    Calls Tryz.prog 83 #[.string s] w fun e w' => e = .returned (.int .i64 (Pl.keyN s : Nat)) ∧ Grew w w' := by
  go_enter Tryz.func83, Tryz.ntmps83
  go_wp2_with fail
  refine (ref_runes s _ hs).mono ?_
  rintro e w1 ⟨hg, ⟨hr, rfl⟩ | ⟨l, v, hr, rfl, hown⟩⟩
  · have hk : Pl.keyN s = 6 := by unfold Pl.keyN; rw [hr]
    have HK := hid hk
    clear hk hr
    go_wp2
    go_ret
    exact ⟨ret_int (by rw [HK.out]; rfl), hg⟩
  · have hk : Pl.keyN s = Pl.keyL l := by unfold Pl.keyN; rw [hr]
    have hl := Pl.runes_len _ _ l (Nat.le_refl _) hr
    have hl2 : l.length ≤ s.size := by simpa using hl
    have HK := hid hk
    clear hk hr hl
    by_cases l0 : l = []
    · subst l0
      have e2 := HK.out
      have hv : ∃ a cap, v = .slice a 0 cap := by
        rcases hown.2 with ⟨rfl, _⟩ | ⟨g, cap, cur, rfl, _⟩
        · exact ⟨_, _, rfl⟩
        · exact ⟨_, _, rfl⟩
      obtain ⟨a, cap, rfl⟩ := hv
      clear e2 hown
      go_wp2
      go_ret
      exact ⟨ret_int (by rw [HK.out]; rfl), hg⟩
    · have lp : 0 < l.length := List.length_pos_iff.2 l0
      obtain ⟨g, cap, rfl, hc⟩ := own_cell hown l0
      have b0 : ((l.length : Int) == 0) = false := beq_eq_false_iff_ne.2 (by omega)
      clear hown
      have HC := hid hc
      clear hc l0
      by_cases l24 : 24 < l.length
      · have hk2 : Pl.keyL l = 3 := by unfold Pl.keyL; rw [if_neg (by omega), if_pos l24]
        have HK2 := hid hk2
        clear hk2
        go_wp2
        go_ret
        exact ⟨ret_int (by rw [HK.out, HK2.out]; rfl), hg⟩
      · have hk2 : Pl.keyL l = if l.any Pl.badRune then 7 else 0 := by unfold Pl.keyL; rw [if_neg (by omega), if_neg l24]
        have HK2 := hid hk2
        have b2 : decide ((24 : Int) < (l.length : Int)) = false := by simp; omega
        clear hk2
        go_wp2
        go_loop [6, 25] (fun _ i => ∃ n : Nat, i = .int .i64 n ∧ n ≤ l.length ∧ Hid ((l.drop n).any Pl.badRune = l.any Pl.badRune)) (fun _ i => l.length - (intOf i).toNat)
        case atStart => exact ⟨0, rfl, Nat.zero_le _, rfl⟩
        case round =>
          obtain ⟨n, rfl, hn, HN⟩ := hrel
          by_cases hlt : n < l.length
          · have hcell := HC.out n hlt
            have hst : (l.drop n).any Pl.badRune = (Pl.badRune (l.getD n 0) || (l.drop (n + 1)).any Pl.badRune) := by
              rw [List.drop_eq_getElem_cons hlt, List.any_cons, List.getD_eq_getElem?_getD, List.getElem?_eq_getElem hlt]; rfl
            obtain ⟨c, hcc⟩ : ∃ c, c = l.getD n 0 := ⟨_, rfl⟩
            rw [← hcc] at hcell hst
            have HS := hid hst
            clear hst hcc
            by_cases q1 : (c : Int) < 32
            · have hb : l.any Pl.badRune = true := by
                have g3 : Pl.badRune c = true := by simp [Pl.badRune]; omega
                rw [← HN.out, HS.out, g3]; rfl
              have HB := hid hb
              clear hb
              go_wp2
              go_ret
              exact ⟨ret_int (by rw [HK.out, HK2.out, if_pos HB.out]; rfl), hg⟩
            · by_cases q2 : c = 127
              · have hb : l.any Pl.badRune = true := by
                  have g3 : Pl.badRune c = true := by simp [Pl.badRune, q2]
                  rw [← HN.out, HS.out, g3]; rfl
                have HB := hid hb
                clear hb
                have q3 : ((c : Int) == 127) = true := beq_iff_eq.2 (by omega)
                clear q2
                go_wp2
                go_ret
                exact ⟨ret_int (by rw [HK.out, HK2.out, if_pos HB.out]; rfl), hg⟩
              · have hb : (l.drop (n + 1)).any Pl.badRune = l.any Pl.badRune := by
                  have g3 : Pl.badRune c = false := by simp [Pl.badRune]; omega
                  rw [← HN.out, HS.out, g3]; rfl
                have HB := hid hb
                clear hb
                have q3 : ((c : Int) == 127) = false := beq_eq_false_iff_ne.2 (by omega)
                clear q2
                go_wp2
                go_round
                case rel => exact ⟨n + 1, by go_num, by omega, HB⟩
                case measure => simp [intOf]; omega
          · have hb : l.any Pl.badRune = false := by rw [← HN.out, List.drop_of_length_le (by omega)]; rfl
            have HB := hid hb
            clear hb
            go_wp2
            go_ret
            exact ⟨ret_int (by rw [HK.out, HK2.out, HB.out]; rfl), hg⟩
end Go.Proofs.YtapchoppcaacdaaGreatDoor
