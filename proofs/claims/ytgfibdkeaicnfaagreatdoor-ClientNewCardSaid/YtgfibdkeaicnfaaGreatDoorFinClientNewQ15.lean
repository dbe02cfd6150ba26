/- Span1, Ref03, R5: one text. -/
import Derived.Test.YtgfibdkeaicnfaaGreatDoorFinClientNewQ13
import Derived.Test.YtgfibdkeaicnfaaGreatDoorFinClientNewQ14
import Derived.Test.YtgfibdkeaicnfaaGreatDoorFinClientNewQ12
import Derived.Deep.DeepCutAuto
namespace Go.Proofs.YtgfibdkeaicnfaaGreatDoor
open Go.RowKit
namespace Pl
end Pl
end Go.Proofs.YtgfibdkeaicnfaaGreatDoor
namespace Go.Proofs.YtgfibdkeaicnfaaGreatDoor
open Go.RowKit
end Go.Proofs.YtgfibdkeaicnfaaGreatDoor
namespace Go.Proofs.YtgfibdkeaicnfaaGreatDoor
open Go.RowKit
theorem own_cell {w : World} {base : Nat} {v : Value} {l : List Nat} (h : w.ownsRow base 3 1 v l.length (l.map fun c => Value.int .i64 (c : Nat))) (hl : l ≠ []) :
    ∃ g cap, v = .slice (some ⟨g, 0, none⟩) l.length cap ∧ ∀ i, i < l.length → w.cell? ⟨g, i, none⟩ = some (.int .i64 (l.getD i 0 : Nat)) := by
  rcases h.2 with ⟨_, h0⟩ | ⟨g, cap, cur, rfl, _, hg, _, _, _, ht⟩
  · exact absurd (List.eq_nil_of_length_eq_zero h0) hl
  · refine ⟨g, cap, rfl, fun i hi => ?_⟩
    rw [cell_of_row _ _ _ _ _ _ hg]
    have : (cur.toList.take (l.length * 1))[i]? = some (.int .i64 (l.getD i 0 : Nat)) := by rw [ht]; simp [hi]
    rw [List.getElem?_take] at this
    split at this
    · simpa using this
    · cases this
set_option maxHeartbeats 400000 in
theorem ref_key (s : ByteArray) (w : World) (hs : s.size ≤ 16777216) :
    Calls Tryz.prog 30 #[.string s] w fun e w' => e = .returned (.int .i64 (Pl.keyN s : Nat)) ∧ Grew w w' := by
  go_enter Tryz.func30, Tryz.ntmps30
  go_wp2_with fail
  refine (ref_runes s _ hs).mono ?_
  rintro e w1 ⟨hg, ⟨hr, rfl⟩ | ⟨l, v, hr, rfl, hown⟩⟩
  · have hk : Pl.keyN s = 6 := by unfold Pl.keyN; rw [hr]
    have HK := hid hk
    clear hk hr
    go_wp2
    go_ret
    exact ⟨ret_int (by rw [HK.out]; rfl), hg⟩
  · have hk : Pl.keyN s = Pl.keyL l := by unfold Pl.keyN; rw [hr]
    have hl := Pl.runes_len _ _ l (Nat.le_refl _) hr
    have hl2 : l.length ≤ s.size := by simpa using hl
    have HK := hid hk
    clear hk hr hl
    by_cases l0 : l = []
    · subst l0
      have e2 := HK.out
      have hv : ∃ a cap, v = .slice a 0 cap := by
        rcases hown.2 with ⟨rfl, _⟩ | ⟨g, cap, cur, rfl, _⟩
        · exact ⟨_, _, rfl⟩
        · exact ⟨_, _, rfl⟩
      obtain ⟨a, cap, rfl⟩ := hv
      clear e2 hown
      go_wp2
      go_ret
      exact ⟨ret_int (by rw [HK.out]; rfl), hg⟩
    · have lp : 0 < l.length := List.length_pos_iff.2 l0
      obtain ⟨g, cap, rfl, hc⟩ := own_cell hown l0
      have b0 : ((l.length : Int) == 0) = false := beq_eq_false_iff_ne.2 (by omega)
      clear hown
      have HC := hid hc
      clear hc l0
      by_cases l24 : 24 < l.length
      · have hk2 : Pl.keyL l = 3 := by unfold Pl.keyL; rw [if_neg (by omega), if_pos l24]
        have HK2 := hid hk2
        clear hk2
        go_wp2
        go_ret
        exact ⟨ret_int (by rw [HK.out, HK2.out]; rfl), hg⟩
      · have hk2 : Pl.keyL l = if l.any Pl.badRune then 7 else 0 := by unfold Pl.keyL; rw [if_neg (by omega), if_neg l24]
        have HK2 := hid hk2
        have b2 : decide ((24 : Int) < (l.length : Int)) = false := by simp; omega
        clear hk2
        go_wp2
        go_loop [6, 25] (fun _ i => ∃ n : Nat, i = .int .i64 n ∧ n ≤ l.length ∧ Hid ((l.drop n).any Pl.badRune = l.any Pl.badRune)) (fun _ i => l.length - (intOf i).toNat)
        case atStart => exact ⟨0, rfl, Nat.zero_le _, rfl⟩
        case round =>
          obtain ⟨n, rfl, hn, HN⟩ := hrel
          by_cases hlt : n < l.length
          · have hcell := HC.out n hlt
            have hst : (l.drop n).any Pl.badRune = (Pl.badRune (l.getD n 0) || (l.drop (n + 1)).any Pl.badRune) := by
              rw [List.drop_eq_getElem_cons hlt, List.any_cons, List.getD_eq_getElem?_getD, List.getElem?_eq_getElem hlt]; rfl
            obtain ⟨c, hcc⟩ : ∃ c, c = l.getD n 0 := ⟨_, rfl⟩
            rw [← hcc] at hcell hst
            have HS := hid hst
            clear hst hcc
            by_cases q1 : (c : Int) < 32
            · have hb : l.any Pl.badRune = true := by
                have g3 : Pl.badRune c = true := by simp [Pl.badRune]; omega
                rw [← HN.out, HS.out, g3]; rfl
              have HB := hid hb
              clear hb
              go_wp2
              go_ret
              exact ⟨ret_int (by rw [HK.out, HK2.out, if_pos HB.out]; rfl), hg⟩
            · by_cases q2 : c = 127
              · have hb : l.any Pl.badRune = true := by
                  have g3 : Pl.badRune c = true := by simp [Pl.badRune, q2]
                  rw [← HN.out, HS.out, g3]; rfl
                have HB := hid hb
                clear hb
                have q3 : ((c : Int) == 127) = true := beq_iff_eq.2 (by omega)
                clear q2
                go_wp2
                go_ret
                exact ⟨ret_int (by rw [HK.out, HK2.out, if_pos HB.out]; rfl), hg⟩
              · have hb : (l.drop (n + 1)).any Pl.badRune = l.any Pl.badRune := by
                  have g3 : Pl.badRune c = false := by simp [Pl.badRune]; omega
                  rw [← HN.out, HS.out, g3]; rfl
                have HB := hid hb
                clear hb
                have q3 : ((c : Int) == 127) = false := beq_eq_false_iff_ne.2 (by omega)
                clear q2
                go_wp2
                go_round
                case rel => exact ⟨n + 1, by go_num, by omega, HB⟩
                case measure => simp [intOf]; omega
          · have hb : l.any Pl.badRune = false := by rw [← HN.out, List.drop_of_length_le (by omega)]; rfl
            have HB := hid hb
            clear hb
            go_wp2
            go_ret
            exact ⟨ret_int (by rw [HK.out, HK2.out, HB.out]; rfl), hg⟩
end Go.Proofs.YtgfibdkeaicnfaaGreatDoor
namespace Go.Proofs.YtgfibdkeaicnfaaGreatDoor
open Go.RowKit
attribute [local go_sem] Oper.semAt_some
theorem upto_any (n most : Int) (w : World) : Calls Tryz.prog 16 #[.int .i64 n, .int .i64 most] w fun e w' => e = .returned (.bool (Pl.withinB n most)) ∧ w = w' := by
  by_cases h1 : 1 ≤ n
  · by_cases h2 : n ≤ most
    · have e : Pl.withinB n most = true := by unfold Pl.withinB; rw [decide_eq_true h1, decide_eq_true h2]; rfl
      rw [e]; clear e
      go_enter Tryz.func16, Tryz.ntmps16
      go_wp2_with fail
      go_ret
      exact ⟨rfl, rfl⟩
    · have e : Pl.withinB n most = false := by unfold Pl.withinB; rw [decide_eq_true h1, decide_eq_false h2]; rfl
      rw [e]; clear e
      go_enter Tryz.func16, Tryz.ntmps16
      go_wp2_with fail
      go_ret
      exact ⟨rfl, rfl⟩
  · have e : Pl.withinB n most = false := by unfold Pl.withinB; rw [decide_eq_false h1]; rfl
    rw [e]; clear e
    go_enter Tryz.func16, Tryz.ntmps16
    go_wp2_with fail
    go_ret
    exact ⟨rfl, rfl⟩
theorem key5_any (s : ByteArray) (w : World) (hs : s.size ≤ 16777216) : Calls Tryz.prog 17 #[.string s] w fun e w' => e = .returned (.bool (decide (Pl.keyN s = 0))) ∧ Grew w w' := by
  have H := hid (ref_key s w hs)
  have HZ : Hid ((((Pl.keyN s : Nat) : Int) == 0) = decide (Pl.keyN s = 0)) := by unfold Hid; by_cases h : Pl.keyN s = 0 <;> simp [h]
  generalize Pl.keyN s = k at *
  go_enter Tryz.func17, Tryz.ntmps17
  go_wp2_with fail
  refine H.out.mono ?_
  rintro e w1 ⟨rfl, hg⟩
  go_wp2_with fail
  go_ret
  exact ⟨ret_bool HZ.out, hg⟩
structure EnSm (e : En) : Prop where
  key : e.key.size ≤ 16777216
  ops : ∀ o ∈ e.ops, o.key.size ≤ 16777216
theorem any_snoc5 (p : OpR → Bool) (xs : List OpR) (k : Nat) (h : k < xs.length) : (xs.take (k + 1)).any p = ((xs.take k).any p || p (opRAt xs k)) := by
  rw [List.take_succ_eq_append_getElem h, opRAt_eq xs k h, List.any_append]; simp
theorem any_at5 (p : OpR → Bool) (xs : List OpR) (k : Nat) (h : k < xs.length) (hp : p (opRAt xs k) = true) : xs.any p = true := by
  rw [opRAt_eq xs k h] at hp
  exact List.any_eq_true.2 ⟨xs[k], List.getElem_mem h, hp⟩
set_option maxRecDepth 100000 in
set_option maxHeartbeats 8000000 in
theorem right5_kind (e : En) (w : World) (hA : EnAt w e) (hs1 : e.kind = 3 → e.key.size ≤ 16777216) (hs2 : ∀ o ∈ e.ops, o.key.size ≤ 16777216) :
    Calls Tryz.prog 10 #[e.agg] w fun r w' => r = .returned (.bool (Pl.rightB e)) ∧ Grew w w' := by
  obtain ⟨kind, shard, other, server, client, seq, key, upto, part, parts, ops, opsA, opsC, dataA, dataL, dataC⟩ := e
  obtain ⟨hA, hfew, hok, hk⟩ := hA
  dsimp only at hA hfew hok hk hs1 hs2
  have HK := hid (fun (h : kind = 3) W => key5_any key W (hs1 h))
  clear hs1
  have HR : Hid (Pl.rightB ⟨kind, shard, other, server, client, seq, key, upto, part, parts, ops, opsA, opsC, dataA, dataL, dataC⟩ = (if kind = 1 then Pl.wriB shard client seq ops else if kind = 2 then Pl.withinB shard 12 && Pl.withinB server 4 else if kind = 3 then (Pl.withinB shard 12 && Pl.withinB other 12 && (shard != other)) && Pl.withinB server 4 && decide (Pl.keyN key = 0) else if kind = 4 then (Pl.withinB shard 12 && Pl.withinB other 12 && (shard != other)) else if kind = 5 then Pl.chkB shard upto parts part dataL else false)) := by
    unfold Hid Pl.rightB Pl.movB Pl.splB Pl.merB; rfl
  generalize Pl.rightB ⟨kind, shard, other, server, client, seq, key, upto, part, parts, ops, opsA, opsC, dataA, dataL, dataC⟩ = rb at HR ⊢
  unfold En.agg En.vals
  dsimp only
  go_enter Tryz.func10, Tryz.ntmps10
  go_upto_region 1 with fail
  go_cut [3] (fun s3 wx => s3 = .bool (Pl.withinB shard 12 && Pl.withinB other 12 && (shard != other)) ∧ wx = w.alloc (.cells #[.int .i64 kind, .int .i64 shard, .int .i64 other, .int .i64 server, .int .i64 client, .int .i64 seq, .slice opsA ops.length opsC, .string key, .int .i64 upto, .int .i64 part, .int .i64 parts, .slice dataA dataL dataC] 38))
  case first =>
    go_wp2_with fail
    refine (upto_any _ _ _).mono ?_
    rintro r w1 ⟨rfl, rfl⟩
    cases h0 : Pl.withinB shard 12 with
    | false =>
      go_wp2_with fail
      go_meet
      exact ⟨by simp [h0], rfl⟩
    | true =>
      go_wp2_with fail
      refine (upto_any _ _ _).mono ?_
      rintro r w1 ⟨rfl, rfl⟩
      cases h1 : Pl.withinB other 12 with
      | false =>
        go_wp2_with fail
        go_meet
        exact ⟨by simp [h0, h1], rfl⟩
      | true =>
        go_wp2_with fail
        go_meet
        exact ⟨by simp [h0, h1], rfl⟩
  case rest =>
    obtain ⟨rfl, rfl⟩ := hcut
    have HA := hid (hA.grew ((Grew.refl w).alloc (.cells #[.int .i64 kind, .int .i64 shard, .int .i64 other, .int .i64 server, .int .i64 client, .int .i64 seq, .slice opsA ops.length opsC, .string key, .int .i64 upto, .int .i64 part, .int .i64 parts, .slice dataA dataL dataC] 38)))
    have HG : Hid (Grew w (w.alloc (.cells #[.int .i64 kind, .int .i64 shard, .int .i64 other, .int .i64 server, .int .i64 client, .int .i64 seq, .slice opsA ops.length opsC, .string key, .int .i64 upto, .int .i64 part, .int .i64 parts, .slice dataA dataL dataC] 38))) := (Grew.refl w).alloc _
    clear hA
    generalize (Pl.withinB shard 12 && Pl.withinB other 12 && (shard != other)) = two at *
    by_cases k1 : kind = 1
    · subst k1
      have HR2 : Hid (rb = Pl.wriB shard client seq ops) := HR.out
      clear HR
      have HF : Hid ((Pl.withinB shard 12 && Pl.withinB client 4 && Pl.withinB seq 1073741824 && Pl.withinB ops.length 8) = false → rb = false) := fun h => by rw [HR2.out]; unfold Pl.wriB; rw [h]; rfl
      go_wp2_with fail
      refine (upto_any _ _ _).mono ?_
      rintro r w1 ⟨rfl, rfl⟩
      cases h0 : Pl.withinB shard 12 with
      | false =>
        go_wp2_with fail
        go_ret
        exact ⟨ret_bool (HF.out (by simp [h0])).symm, HG.out⟩
      | true =>
        go_wp2_with fail
        refine (upto_any _ _ _).mono ?_
        rintro r w1 ⟨rfl, rfl⟩
        cases h1 : Pl.withinB client 4 with
        | false =>
          go_wp2_with fail
          go_ret
          exact ⟨ret_bool (HF.out (by simp [h1])).symm, HG.out⟩
        | true =>
          go_wp2_with fail
          refine (upto_any _ _ _).mono ?_
          rintro r w1 ⟨rfl, rfl⟩
          cases h2 : Pl.withinB seq 1073741824 with
          | false =>
            go_wp2_with fail
            go_ret
            exact ⟨ret_bool (HF.out (by simp [h2])).symm, HG.out⟩
          | true =>
            go_wp2_with fail
            refine (upto_any _ _ _).mono ?_
            rintro r w1 ⟨rfl, rfl⟩
            cases h3 : Pl.withinB (ops.length : Int) 8 with
            | false =>
              go_wp2_with fail
              go_ret
              exact ⟨ret_bool (HF.out (by simp [h3])).symm, HG.out⟩
            | true =>
              have HR3 : Hid (rb = !(ops.any fun o => !Pl.opRightB o)) := by rw [HR2.out]; unfold Hid Pl.wriB; rw [h0, h1, h2, h3]; rfl
              clear HR2 HF h0 h1 h2 h3
              have hops : ops.length ≤ 1000000 := hfew
              have hopsI : (ops.length : Int) ≤ 1000000 := by omega
              have HSM := hid (And.intro hok hs2)
              clear hok hs2 hfew
              have hw0 : w.heap.size < (w.alloc (.cells #[.int .i64 1, .int .i64 shard, .int .i64 other, .int .i64 server, .int .i64 client, .int .i64 seq, .slice opsA ops.length opsC, .string key, .int .i64 upto, .int .i64 part, .int .i64 parts, .slice dataA dataL dataC] 38)).heap.size := by simp
              have c6 : (w.alloc (.cells #[.int .i64 1, .int .i64 shard, .int .i64 other, .int .i64 server, .int .i64 client, .int .i64 seq, .slice opsA ops.length opsC, .string key, .int .i64 upto, .int .i64 part, .int .i64 parts, .slice dataA dataL dataC] 38)).cell? ⟨w.heap.size, 6, none⟩ = some (.slice opsA ops.length opsC) := by simp [go_sem]
              generalize hW : w.alloc _ = W0 at *
              clear hW
              go_wp2_with fail
              go_loopw [52] (fun i wr => ∃ k : Nat, k ≤ ops.length ∧ i = .int .i64 k ∧ Hid ((ops.take k).any (fun o => !Pl.opRightB o) = false) ∧ Grew W0 wr) (fun i _ => ops.length - (intOf i).toNat)
              case atStart => exact ⟨0, Nat.zero_le _, rfl, rfl, Grew.refl _⟩
              case round =>
                obtain ⟨k, hk1, rfl, HN, hG⟩ := hrel
                by_cases hlt : k < ops.length
                rotate_left
                · obtain rfl : k = ops.length := by omega
                  have HE : Hid (true = rb) := by have := HN.out; rw [List.take_length] at this; rw [HR3.out, this]; rfl
                  go_wp2_with fail
                  go_ret
                  exact ⟨ret_bool HE.out, HG.out.trans hG⟩
                rcases HA.out with h0 | ⟨b, off, rfl, hb, hR⟩
                · rw [h0] at hlt; simp at hlt
                have q0 := (hG.cells.1 b (off + k * 5) hb).trans (hR.kind k hlt)
                have q1 := (hG.cells.1 b (off + k * 5 + 1) hb).trans (hR.key k hlt)
                have q2 := (hG.cells.1 b (off + k * 5 + 2) hb).trans (hR.val k hlt)
                have q3 := (hG.cells.1 b (off + k * 5 + 3) hb).trans (hR.old k hlt)
                have q4 := (hG.cells.1 b (off + k * 5 + 4) hb).trans (hR.ver k hlt)
                have HB := hid (fun (h : Pl.opRightB (opRAt ops k) = false) => show false = rb by rw [HR3.out, any_at5 _ ops k hlt (by rw [h]; rfl)]; rfl)
                have HC : Hid (Pl.opRightB (opRAt ops k) = true → (ops.take (k + 1)).any (fun o => !Pl.opRightB o) = false) := fun h => by rw [any_snoc5 _ ops k hlt, HN.out, h]; rfl
                have HKO := hid (fun W => key5_any (opRAt ops k).key W (HSM.out.2 _ (opRAt_mem ops k hlt)))
                obtain ⟨_, z2, z3⟩ := HSM.out.1 _ (opRAt_mem ops k hlt)
                clear hR
                generalize opRAt ops k = o at *
                obtain ⟨on, ok, ov, od, or'⟩ := o
                dsimp only at *
                unfold Pl.opRightB at HB HC
                dsimp only at HB HC
                go_wp2_with fail
                refine (HKO.out _).mono ?_
                rintro r w1 ⟨rfl, hg1⟩
                have hz : wr.heap.size < w1.heap.size := by have := hg1.size; simp at this; omega
                have p0 : w1.cell? ⟨wr.heap.size, 0, none⟩ = some (.int .i64 on) := by rw [hg1.cells.1 _ _ (by simp)]; simp [go_sem]
                have p1 : w1.cell? ⟨wr.heap.size, 1, none⟩ = some (.string ok) := by rw [hg1.cells.1 _ _ (by simp)]; simp [go_sem]
                have p2 : w1.cell? ⟨wr.heap.size, 2, none⟩ = some (.string ov) := by rw [hg1.cells.1 _ _ (by simp)]; simp [go_sem]
                have p3 : w1.cell? ⟨wr.heap.size, 3, none⟩ = some (.string od) := by rw [hg1.cells.1 _ _ (by simp)]; simp [go_sem]
                have p4 : w1.cell? ⟨wr.heap.size, 4, none⟩ = some (.int .i64 or') := by rw [hg1.cells.1 _ _ (by simp)]; simp [go_sem]
                have HG1 := hid ((hG.alloc _).trans hg1)
                clear hg1 q0 q1 q2 q3 q4
                by_cases hkn : Pl.keyN ok = 0
                · have hkd : decide (Pl.keyN ok = 0) = true := decide_eq_true hkn
                  by_cases n1 : on = 1
                  · subst n1
                    by_cases v1 : (ov.size : Int) ≤ 64
                    · have dv1 : decide ((ov.size : Int) ≤ 64) = true := decide_eq_true v1
                      have HCC := hid (HC.out (by simp [hkn, show ov.size ≤ 64 by omega]))
                      go_wp2_with fail
                      go_roundw
                      case rel => exact ⟨k + 1, by omega, by go_num, HCC, HG1.out⟩
                      case measure => simp [intOf]; omega
                    · have dv1 : decide ((ov.size : Int) ≤ 64) = false := decide_eq_false v1
                      go_wp2_with fail
                      go_ret
                      exact ⟨ret_bool (HB.out (by simp [hkn, show 64 < ov.size by omega])), HG.out.trans HG1.out⟩
                  by_cases n2 : on = 2
                  · subst n2
                    · have HCC := hid (HC.out (by simp [hkn]))
                      go_wp2_with fail
                      go_roundw
                      case rel => exact ⟨k + 1, by omega, by go_num, HCC, HG1.out⟩
                      case measure => simp [intOf]; omega
                  by_cases n3 : on = 3
                  · subst n3
                    by_cases v1 : (ov.size : Int) ≤ 64
                    rotate_left
                    · have dv1 : decide ((ov.size : Int) ≤ 64) = false := decide_eq_false v1
                      go_wp2_with fail
                      go_ret
                      exact ⟨ret_bool (HB.out (by simp [hkn]; omega)), HG.out.trans HG1.out⟩
                    have dv1 : decide ((ov.size : Int) ≤ 64) = true := decide_eq_true v1
                    by_cases v2 : (od.size : Int) ≤ 64
                    · have dv2 : decide ((od.size : Int) ≤ 64) = true := decide_eq_true v2
                      have HCC := hid (HC.out (by simp [hkn, show ov.size ≤ 64 by omega, show od.size ≤ 64 by omega]))
                      go_wp2_with fail
                      go_roundw
                      case rel => exact ⟨k + 1, by omega, by go_num, HCC, HG1.out⟩
                      case measure => simp [intOf]; omega
                    · have dv2 : decide ((od.size : Int) ≤ 64) = false := decide_eq_false v2
                      go_wp2_with fail
                      go_ret
                      exact ⟨ret_bool (HB.out (by simp [hkn]; omega)), HG.out.trans HG1.out⟩
                  by_cases n4 : on = 4
                  · subst n4
                    by_cases v1 : 0 ≤ or'
                    rotate_left
                    · have dv1 : decide (0 ≤ or') = false := decide_eq_false v1
                      go_wp2_with fail
                      go_ret
                      exact ⟨ret_bool (HB.out (by simp [hkn]; omega)), HG.out.trans HG1.out⟩
                    have dv1 : decide (0 ≤ or') = true := decide_eq_true v1
                    by_cases v2 : or' ≤ 4096
                    · have dv2 : decide (or' ≤ 4096) = true := decide_eq_true v2
                      have HCC := hid (HC.out (by simp [hkn, v1, v2]))
                      go_wp2_with fail
                      go_roundw
                      case rel => exact ⟨k + 1, by omega, by go_num, HCC, HG1.out⟩
                      case measure => simp [intOf]; omega
                    · have dv2 : decide (or' ≤ 4096) = false := decide_eq_false v2
                      go_wp2_with fail
                      go_ret
                      exact ⟨ret_bool (HB.out (by simp [hkn]; omega)), HG.out.trans HG1.out⟩
                  have e1 : (on == 1) = false := beq_eq_false_iff_ne.2 n1
                  have e2 : (on == 2) = false := beq_eq_false_iff_ne.2 n2
                  have e3 : (on == 3) = false := beq_eq_false_iff_ne.2 n3
                  have e4 : (on == 4) = false := beq_eq_false_iff_ne.2 n4
                  have HBB := hid (HB.out (by simp [n1, n2, n3, n4]))
                  clear HC HB n1 n2 n3 n4
                  go_wp2_with fail
                  go_ret
                  exact ⟨ret_bool HBB.out, HG.out.trans HG1.out⟩
                · have hkd : decide (Pl.keyN ok = 0) = false := decide_eq_false hkn
                  by_cases n1 : on = 1
                  · subst n1
                    clear HC
                    · go_wp2_with fail
                      go_ret
                      exact ⟨ret_bool (HB.out (by simp [hkn])), HG.out.trans HG1.out⟩
                  by_cases n2 : on = 2
                  · subst n2
                    clear HC
                    · go_wp2_with fail
                      go_ret
                      exact ⟨ret_bool (HB.out (by simp [hkn])), HG.out.trans HG1.out⟩
                  by_cases n3 : on = 3
                  · subst n3
                    clear HC
                    · go_wp2_with fail
                      go_ret
                      exact ⟨ret_bool (HB.out (by simp [hkn])), HG.out.trans HG1.out⟩
                  by_cases n4 : on = 4
                  · subst n4
                    clear HC
                    · go_wp2_with fail
                      go_ret
                      exact ⟨ret_bool (HB.out (by simp [hkn])), HG.out.trans HG1.out⟩
                  have e1 : (on == 1) = false := beq_eq_false_iff_ne.2 n1
                  have e2 : (on == 2) = false := beq_eq_false_iff_ne.2 n2
                  have e3 : (on == 3) = false := beq_eq_false_iff_ne.2 n3
                  have e4 : (on == 4) = false := beq_eq_false_iff_ne.2 n4
                  have HBB := hid (HB.out (by simp [n1, n2, n3, n4]))
                  clear HC HB n1 n2 n3 n4
                  go_wp2_with fail
                  go_ret
                  exact ⟨ret_bool HBB.out, HG.out.trans HG1.out⟩
    by_cases k2 : kind = 2
    · subst k2
      have HR2 : Hid (rb = (Pl.withinB shard 12 && Pl.withinB server 4)) := HR.out
      clear HR k1
      go_wp2_with fail
      refine (upto_any _ _ _).mono ?_
      rintro r w1 ⟨rfl, rfl⟩
      cases h0 : Pl.withinB shard 12 with
      | false =>
        go_wp2_with fail
        go_ret
        exact ⟨ret_bool (by rw [HR2.out]; simp [h0]), HG.out⟩
      | true =>
        go_wp2_with fail
        refine (upto_any _ _ _).mono ?_
        rintro r w1 ⟨rfl, rfl⟩
        go_wp2_with fail
        go_ret
        exact ⟨ret_bool (by rw [HR2.out]; simp [h0]), HG.out⟩
    by_cases k3 : kind = 3
    · subst k3
      have HR2 : Hid (rb = (two && Pl.withinB server 4 && decide (Pl.keyN key = 0))) := HR.out
      clear HR k1 k2
      cases two with
      | false =>
        go_wp2_with fail
        go_ret
        exact ⟨ret_bool (by rw [HR2.out]; simp), HG.out⟩
      | true =>
        go_wp2_with fail
        refine (upto_any _ _ _).mono ?_
        rintro r w1 ⟨rfl, rfl⟩
        cases h0 : Pl.withinB server 4 with
        | false =>
          go_wp2_with fail
          go_ret
          exact ⟨ret_bool (by rw [HR2.out]; simp [h0]), HG.out⟩
        | true =>
          go_wp2_with fail
          refine (HK.out (by trivial) _).mono ?_
          rintro r w1 ⟨rfl, hg⟩
          go_wp2_with fail
          go_ret
          exact ⟨ret_bool (by rw [HR2.out]; simp [h0]), HG.out.trans hg⟩
    by_cases k4 : kind = 4
    · subst k4
      have HR2 : Hid (rb = two) := HR.out
      clear HR k1 k2 k3
      go_wp2_with fail
      go_ret
      exact ⟨ret_bool HR2.out.symm, HG.out⟩
    by_cases k5 : kind = 5
    · subst k5
      have HR2 : Hid (rb = Pl.chkB shard upto parts part dataL) := HR.out
      clear HR k1 k2 k3 k4
      have HF : Hid (∀ b, (b = true ↔ (0 ≤ shard ∧ shard ≤ 12 ∧ 0 ≤ upto ∧ upto ≤ 4096 ∧ Pl.withinB parts 64 = true ∧ 0 ≤ part ∧ part < parts ∧ (dataL : Int) ≤ 256)) → b = rb) := fun b hb => by
        rw [HR2.out, Bool.eq_iff_iff, hb]
        unfold Pl.chkB Pl.withinB
        simp only [Bool.and_eq_true, Bool.or_eq_true, beq_iff_eq, decide_eq_true_eq]
        omega
      have HF0 : Hid (¬ (0 ≤ shard ∧ shard ≤ 12 ∧ 0 ≤ upto ∧ upto ≤ 4096 ∧ Pl.withinB parts 64 = true ∧ 0 ≤ part ∧ part < parts) → false = rb) := fun h => HF.out false ⟨fun h => (by cases h), fun k => absurd ⟨k.1, k.2.1, k.2.2.1, k.2.2.2.1, k.2.2.2.2.1, k.2.2.2.2.2.1, k.2.2.2.2.2.2.1⟩ h⟩
      by_cases h1 : 0 ≤ shard
      rotate_left
      · go_wp2_with fail
        go_ret
        exact ⟨ret_bool (HF0.out (by omega)), HG.out⟩
      by_cases h2 : shard ≤ 12
      rotate_left
      · go_wp2_with fail
        go_ret
        exact ⟨ret_bool (HF0.out (by omega)), HG.out⟩
      by_cases h3 : 0 ≤ upto
      rotate_left
      · go_wp2_with fail
        go_ret
        exact ⟨ret_bool (HF0.out (by omega)), HG.out⟩
      by_cases h4 : upto ≤ 4096
      rotate_left
      · go_wp2_with fail
        go_ret
        exact ⟨ret_bool (HF0.out (by omega)), HG.out⟩
      go_wp2_with fail
      refine (upto_any _ _ _).mono ?_
      rintro r w1 ⟨rfl, rfl⟩
      cases h5 : Pl.withinB parts 64 with
      | false =>
        go_wp2_with fail
        go_ret
        exact ⟨ret_bool (HF0.out (by rw [h5]; simp)), HG.out⟩
      | true =>
        by_cases h6 : 0 ≤ part
        rotate_left
        · go_wp2_with fail
          go_ret
          exact ⟨ret_bool (HF0.out (by omega)), HG.out⟩
        by_cases h7 : part < parts
        rotate_left
        · go_wp2_with fail
          go_ret
          exact ⟨ret_bool (HF0.out (by omega)), HG.out⟩
        go_wp2_with fail
        go_ret
        exact ⟨ret_bool (HF.out _ (by simp [h1, h2, h3, h4, h5, h6, h7])), HG.out⟩
    have HR2 : Hid (rb = false) := by have := HR.out; rw [if_neg k1, if_neg k2, if_neg k3, if_neg k4, if_neg k5] at this; exact this
    have e1 : (kind == 1) = false := beq_eq_false_iff_ne.2 k1
    have e2 : (kind == 2) = false := beq_eq_false_iff_ne.2 k2
    have e3 : (kind == 3) = false := beq_eq_false_iff_ne.2 k3
    have e4 : (kind == 4) = false := beq_eq_false_iff_ne.2 k4
    have e5 : (kind == 5) = false := beq_eq_false_iff_ne.2 k5
    clear HR k1 k2 k3 k4 k5
    go_wp2_with fail
    go_ret
    exact ⟨ret_bool HR2.out.symm, HG.out⟩
end Go.Proofs.YtgfibdkeaicnfaaGreatDoor
