/- R5, Tab4: one text. -/
import Derived.Test.YtoiahcgaffffbaaGreatDoorFinStatePlaysQ16
import Derived.Test.YtoiahcgaffffbaaGreatDoorFinStatePlaysQ10
import Derived.Deep.DeepCutAuto
import Derived.Test.YtoiahcgaffffbaaGreatDoorFinStatePlaysQ8
import Derived.Test.YtoiahcgaffffbaaGreatDoorFinStatePlaysQ14
namespace Go.Proofs.YtoiahcgaffffbaaGreatDoor
open Go.RowKit
attribute [local go_sem] Oper.semAt_some
theorem upto_any (n most : Int) (w : World) : Calls Tryz.prog 189 #[.int .i64 n, .int .i64 most] w fun e w' => e = .returned (.bool (Pl.withinB n most)) ∧ w = w' := by
  by_cases h1 : 1 ≤ n
  · by_cases h2 : n ≤ most
    · have e : Pl.withinB n most = true := by unfold Pl.withinB; rw [decide_eq_true h1, decide_eq_true h2]; rfl
      rw [e]; clear e
      go_enter Tryz.func189, Tryz.ntmps189
      go_wp2_with fail
      go_ret
      exact ⟨rfl, rfl⟩
    · have e : Pl.withinB n most = false := by unfold Pl.withinB; rw [decide_eq_true h1, decide_eq_false h2]; rfl
      rw [e]; clear e
      go_enter Tryz.func189, Tryz.ntmps189
      go_wp2_with fail
      go_ret
      exact ⟨rfl, rfl⟩
  · have e : Pl.withinB n most = false := by unfold Pl.withinB; rw [decide_eq_false h1]; rfl
    rw [e]; clear e
    go_enter Tryz.func189, Tryz.ntmps189
    go_wp2_with fail
    go_ret
    exact ⟨rfl, rfl⟩
theorem key5_any (s : ByteArray) (w : World) (hs : s.size ≤ 16777216) : Calls Tryz.prog 190 #[.string s] w fun e w' => e = .returned (.bool (decide (Pl.keyN s = 0))) ∧ Grew w w' := by
  have H := hid (ref_key s w hs)
  have HZ : Hid ((((Pl.keyN s : Nat) : Int) == 0) = decide (Pl.keyN s = 0)) := by unfold Hid; by_cases h : Pl.keyN s = 0 <;> simp [h]
  generalize Pl.keyN s = k at *
  go_enter Tryz.func190, Tryz.ntmps190
  go_wp2_with fail
  refine H.out.mono ?_
  rintro e w1 ⟨rfl, hg⟩
  go_wp2_with fail
  go_ret
  exact ⟨ret_bool HZ.out, hg⟩
structure EnSm (e : En) : Prop where
  key : e.key.size ≤ 16777216
  ops : ∀ o ∈ e.ops, o.key.size ≤ 16777216
theorem any_snoc5 (p : OpR → Bool) (xs : List OpR) (k : Nat) (h : k < xs.length) : (xs.take (k + 1)).any p = ((xs.take k).any p || p (opRAt xs k)) := by
  rw [List.take_succ_eq_append_getElem h, opRAt_eq xs k h, List.any_append]; simp
theorem any_at5 (p : OpR → Bool) (xs : List OpR) (k : Nat) (h : k < xs.length) (hp : p (opRAt xs k) = true) : xs.any p = true := by
  rw [opRAt_eq xs k h] at hp
  exact List.any_eq_true.2 ⟨xs[k], List.getElem_mem h, hp⟩
set_option maxRecDepth 100000 in
set_option maxHeartbeats 8000000 in
theorem right5_kind (e : En) (w : World) (hA : EnAt w e) (hs1 : e.kind = 3 → e.key.size ≤ 16777216) (hs2 : ∀ o ∈ e.ops, o.key.size ≤ 16777216) :
    Calls Tryz.prog 127 #[e.agg] w fun r w' => r = .returned (.bool (Pl.rightB e)) ∧ Grew w w' := by
  obtain ⟨kind, shard, other, server, client, seq, key, upto, part, parts, ops, opsA, opsC, dataA, dataL, dataC⟩ := e
  obtain ⟨hA, hfew, hok, hk⟩ := hA
  dsimp only at hA hfew hok hk hs1 hs2
  have HK := hid (fun (h : kind = 3) W => key5_any key W (hs1 h))
  clear hs1
  have HR : Hid (Pl.rightB ⟨kind, shard, other, server, client, seq, key, upto, part, parts, ops, opsA, opsC, dataA, dataL, dataC⟩ = (if kind = 1 then Pl.wriB shard client seq ops else if kind = 2 then Pl.withinB shard 12 && Pl.withinB server 4 else if kind = 3 then (Pl.withinB shard 12 && Pl.withinB other 12 && (shard != other)) && Pl.withinB server 4 && decide (Pl.keyN key = 0) else if kind = 4 then (Pl.withinB shard 12 && Pl.withinB other 12 && (shard != other)) else if kind = 5 then Pl.chkB shard upto parts part dataL else false)) := by
    unfold Hid Pl.rightB Pl.movB Pl.splB Pl.merB; rfl
  generalize Pl.rightB ⟨kind, shard, other, server, client, seq, key, upto, part, parts, ops, opsA, opsC, dataA, dataL, dataC⟩ = rb at HR ⊢
  unfold En.agg En.vals
  dsimp only
  go_enter Tryz.func127, Tryz.ntmps127
  go_upto_region 1 with fail
  go_cut [3] (fun s3 wx => s3 = .bool (Pl.withinB shard 12 && Pl.withinB other 12 && (shard != other)) ∧ wx = w.alloc (.cells #[.int .i64 kind, .int .i64 shard, .int .i64 other, .int .i64 server, .int .i64 client, .int .i64 seq, .slice opsA ops.length opsC, .string key, .int .i64 upto, .int .i64 part, .int .i64 parts, .slice dataA dataL dataC] 66))
  case first =>
    go_wp2_with fail
    refine (upto_any _ _ _).mono ?_
    rintro r w1 ⟨rfl, rfl⟩
    cases h0 : Pl.withinB shard 12 with
    | false =>
      go_wp2_with fail
      go_meet
      exact ⟨by simp [h0], rfl⟩
    | true =>
      go_wp2_with fail
      refine (upto_any _ _ _).mono ?_
      rintro r w1 ⟨rfl, rfl⟩
      cases h1 : Pl.withinB other 12 with
      | false =>
        go_wp2_with fail
        go_meet
        exact ⟨by simp [h0, h1], rfl⟩
      | true =>
        go_wp2_with fail
        go_meet
        exact ⟨by simp [h0, h1], rfl⟩
  case rest =>
    obtain ⟨rfl, rfl⟩ := hcut
    have HA := hid (hA.grew ((Grew.refl w).alloc (.cells #[.int .i64 kind, .int .i64 shard, .int .i64 other, .int .i64 server, .int .i64 client, .int .i64 seq, .slice opsA ops.length opsC, .string key, .int .i64 upto, .int .i64 part, .int .i64 parts, .slice dataA dataL dataC] 66)))
    have HG : Hid (Grew w (w.alloc (.cells #[.int .i64 kind, .int .i64 shard, .int .i64 other, .int .i64 server, .int .i64 client, .int .i64 seq, .slice opsA ops.length opsC, .string key, .int .i64 upto, .int .i64 part, .int .i64 parts, .slice dataA dataL dataC] 66))) := (Grew.refl w).alloc _
    clear hA
    generalize (Pl.withinB shard 12 && Pl.withinB other 12 && (shard != other)) = two at *
    by_cases k1 : kind = 1
    · subst k1
      have HR2 : Hid (rb = Pl.wriB shard client seq ops) := HR.out
      clear HR
      have HF : Hid ((Pl.withinB shard 12 && Pl.withinB client 4 && Pl.withinB seq 1073741824 && Pl.withinB ops.length 8) = false → rb = false) := fun h => by rw [HR2.out]; unfold Pl.wriB; rw [h]; rfl
      go_wp2_with fail
      refine (upto_any _ _ _).mono ?_
      rintro r w1 ⟨rfl, rfl⟩
      cases h0 : Pl.withinB shard 12 with
      | false =>
        go_wp2_with fail
        go_ret
        exact ⟨ret_bool (HF.out (by simp [h0])).symm, HG.out⟩
      | true =>
        go_wp2_with fail
        refine (upto_any _ _ _).mono ?_
        rintro r w1 ⟨rfl, rfl⟩
        cases h1 : Pl.withinB client 4 with
        | false =>
          go_wp2_with fail
          go_ret
          exact ⟨ret_bool (HF.out (by simp [h1])).symm, HG.out⟩
        | true =>
          go_wp2_with fail
          refine (upto_any _ _ _).mono ?_
          rintro r w1 ⟨rfl, rfl⟩
          cases h2 : Pl.withinB seq 1073741824 with
          | false =>
            go_wp2_with fail
            go_ret
            exact ⟨ret_bool (HF.out (by simp [h2])).symm, HG.out⟩
          | true =>
            go_wp2_with fail
            refine (upto_any _ _ _).mono ?_
            rintro r w1 ⟨rfl, rfl⟩
            cases h3 : Pl.withinB (ops.length : Int) 8 with
            | false =>
              go_wp2_with fail
              go_ret
              exact ⟨ret_bool (HF.out (by simp [h3])).symm, HG.out⟩
            | true =>
              have HR3 : Hid (rb = !(ops.any fun o => !Pl.opRightB o)) := by rw [HR2.out]; unfold Hid Pl.wriB; rw [h0, h1, h2, h3]; rfl
              clear HR2 HF h0 h1 h2 h3
              have hops : ops.length ≤ 1000000 := hfew
              have hopsI : (ops.length : Int) ≤ 1000000 := by omega
              have HSM := hid (And.intro hok hs2)
              clear hok hs2 hfew
              have hw0 : w.heap.size < (w.alloc (.cells #[.int .i64 1, .int .i64 shard, .int .i64 other, .int .i64 server, .int .i64 client, .int .i64 seq, .slice opsA ops.length opsC, .string key, .int .i64 upto, .int .i64 part, .int .i64 parts, .slice dataA dataL dataC] 66)).heap.size := by simp
              have c6 : (w.alloc (.cells #[.int .i64 1, .int .i64 shard, .int .i64 other, .int .i64 server, .int .i64 client, .int .i64 seq, .slice opsA ops.length opsC, .string key, .int .i64 upto, .int .i64 part, .int .i64 parts, .slice dataA dataL dataC] 66)).cell? ⟨w.heap.size, 6, none⟩ = some (.slice opsA ops.length opsC) := by simp [go_sem]
              generalize hW : w.alloc _ = W0 at *
              clear hW
              go_wp2_with fail
              go_loopw [52] (fun i wr => ∃ k : Nat, k ≤ ops.length ∧ i = .int .i64 k ∧ Hid ((ops.take k).any (fun o => !Pl.opRightB o) = false) ∧ Grew W0 wr) (fun i _ => ops.length - (intOf i).toNat)
              case atStart => exact ⟨0, Nat.zero_le _, rfl, rfl, Grew.refl _⟩
              case round =>
                obtain ⟨k, hk1, rfl, HN, hG⟩ := hrel
                by_cases hlt : k < ops.length
                rotate_left
                · obtain rfl : k = ops.length := by omega
                  have HE : Hid (true = rb) := by have := HN.out; rw [List.take_length] at this; rw [HR3.out, this]; rfl
                  go_wp2_with fail
                  go_ret
                  exact ⟨ret_bool HE.out, HG.out.trans hG⟩
                rcases HA.out with h0 | ⟨b, off, rfl, hb, hR⟩
                · rw [h0] at hlt; simp at hlt
                have q0 := (hG.cells.1 b (off + k * 5) hb).trans (hR.kind k hlt)
                have q1 := (hG.cells.1 b (off + k * 5 + 1) hb).trans (hR.key k hlt)
                have q2 := (hG.cells.1 b (off + k * 5 + 2) hb).trans (hR.val k hlt)
                have q3 := (hG.cells.1 b (off + k * 5 + 3) hb).trans (hR.old k hlt)
                have q4 := (hG.cells.1 b (off + k * 5 + 4) hb).trans (hR.ver k hlt)
                have HB := hid (fun (h : Pl.opRightB (opRAt ops k) = false) => show false = rb by rw [HR3.out, any_at5 _ ops k hlt (by rw [h]; rfl)]; rfl)
                have HC : Hid (Pl.opRightB (opRAt ops k) = true → (ops.take (k + 1)).any (fun o => !Pl.opRightB o) = false) := fun h => by rw [any_snoc5 _ ops k hlt, HN.out, h]; rfl
                have HKO := hid (fun W => key5_any (opRAt ops k).key W (HSM.out.2 _ (opRAt_mem ops k hlt)))
                obtain ⟨_, z2, z3⟩ := HSM.out.1 _ (opRAt_mem ops k hlt)
                clear hR
                generalize opRAt ops k = o at *
                obtain ⟨on, ok, ov, od, or'⟩ := o
                dsimp only at *
                unfold Pl.opRightB at HB HC
                dsimp only at HB HC
                go_wp2_with fail
                refine (HKO.out _).mono ?_
                rintro r w1 ⟨rfl, hg1⟩
                have hz : wr.heap.size < w1.heap.size := by have := hg1.size; simp at this; omega
                have p0 : w1.cell? ⟨wr.heap.size, 0, none⟩ = some (.int .i64 on) := by rw [hg1.cells.1 _ _ (by simp)]; simp [go_sem]
                have p1 : w1.cell? ⟨wr.heap.size, 1, none⟩ = some (.string ok) := by rw [hg1.cells.1 _ _ (by simp)]; simp [go_sem]
                have p2 : w1.cell? ⟨wr.heap.size, 2, none⟩ = some (.string ov) := by rw [hg1.cells.1 _ _ (by simp)]; simp [go_sem]
                have p3 : w1.cell? ⟨wr.heap.size, 3, none⟩ = some (.string od) := by rw [hg1.cells.1 _ _ (by simp)]; simp [go_sem]
                have p4 : w1.cell? ⟨wr.heap.size, 4, none⟩ = some (.int .i64 or') := by rw [hg1.cells.1 _ _ (by simp)]; simp [go_sem]
                have HG1 := hid ((hG.alloc _).trans hg1)
                clear hg1 q0 q1 q2 q3 q4
                by_cases hkn : Pl.keyN ok = 0
                · have hkd : decide (Pl.keyN ok = 0) = true := decide_eq_true hkn
                  by_cases n1 : on = 1
                  · subst n1
                    by_cases v1 : (ov.size : Int) ≤ 64
                    · have dv1 : decide ((ov.size : Int) ≤ 64) = true := decide_eq_true v1
                      have HCC := hid (HC.out (by simp [hkn, show ov.size ≤ 64 by omega]))
                      go_wp2_with fail
                      go_roundw
                      case rel => exact ⟨k + 1, by omega, by go_num, HCC, HG1.out⟩
                      case measure => simp [intOf]; omega
                    · have dv1 : decide ((ov.size : Int) ≤ 64) = false := decide_eq_false v1
                      go_wp2_with fail
                      go_ret
                      exact ⟨ret_bool (HB.out (by simp [hkn, show 64 < ov.size by omega])), HG.out.trans HG1.out⟩
                  by_cases n2 : on = 2
                  · subst n2
                    · have HCC := hid (HC.out (by simp [hkn]))
                      go_wp2_with fail
                      go_roundw
                      case rel => exact ⟨k + 1, by omega, by go_num, HCC, HG1.out⟩
                      case measure => simp [intOf]; omega
                  by_cases n3 : on = 3
                  · subst n3
                    by_cases v1 : (ov.size : Int) ≤ 64
                    rotate_left
                    · have dv1 : decide ((ov.size : Int) ≤ 64) = false := decide_eq_false v1
                      go_wp2_with fail
                      go_ret
                      exact ⟨ret_bool (HB.out (by simp [hkn]; omega)), HG.out.trans HG1.out⟩
                    have dv1 : decide ((ov.size : Int) ≤ 64) = true := decide_eq_true v1
                    by_cases v2 : (od.size : Int) ≤ 64
                    · have dv2 : decide ((od.size : Int) ≤ 64) = true := decide_eq_true v2
                      have HCC := hid (HC.out (by simp [hkn, show ov.size ≤ 64 by omega, show od.size ≤ 64 by omega]))
                      go_wp2_with fail
                      go_roundw
                      case rel => exact ⟨k + 1, by omega, by go_num, HCC, HG1.out⟩
                      case measure => simp [intOf]; omega
                    · have dv2 : decide ((od.size : Int) ≤ 64) = false := decide_eq_false v2
                      go_wp2_with fail
                      go_ret
                      exact ⟨ret_bool (HB.out (by simp [hkn]; omega)), HG.out.trans HG1.out⟩
                  by_cases n4 : on = 4
                  · subst n4
                    by_cases v1 : 0 ≤ or'
                    rotate_left
                    · have dv1 : decide (0 ≤ or') = false := decide_eq_false v1
                      go_wp2_with fail
                      go_ret
                      exact ⟨ret_bool (HB.out (by simp [hkn]; omega)), HG.out.trans HG1.out⟩
                    have dv1 : decide (0 ≤ or') = true := decide_eq_true v1
                    by_cases v2 : or' ≤ 4096
                    · have dv2 : decide (or' ≤ 4096) = true := decide_eq_true v2
                      have HCC := hid (HC.out (by simp [hkn, v1, v2]))
                      go_wp2_with fail
                      go_roundw
                      case rel => exact ⟨k + 1, by omega, by go_num, HCC, HG1.out⟩
                      case measure => simp [intOf]; omega
                    · have dv2 : decide (or' ≤ 4096) = false := decide_eq_false v2
                      go_wp2_with fail
                      go_ret
                      exact ⟨ret_bool (HB.out (by simp [hkn]; omega)), HG.out.trans HG1.out⟩
                  have e1 : (on == 1) = false := beq_eq_false_iff_ne.2 n1
                  have e2 : (on == 2) = false := beq_eq_false_iff_ne.2 n2
                  have e3 : (on == 3) = false := beq_eq_false_iff_ne.2 n3
                  have e4 : (on == 4) = false := beq_eq_false_iff_ne.2 n4
                  have HBB := hid (HB.out (by simp [n1, n2, n3, n4]))
                  clear HC HB n1 n2 n3 n4
                  go_wp2_with fail
                  go_ret
                  exact ⟨ret_bool HBB.out, HG.out.trans HG1.out⟩
                · have hkd : decide (Pl.keyN ok = 0) = false := decide_eq_false hkn
                  by_cases n1 : on = 1
                  · subst n1
                    clear HC
                    · go_wp2_with fail
                      go_ret
                      exact ⟨ret_bool (HB.out (by simp [hkn])), HG.out.trans HG1.out⟩
                  by_cases n2 : on = 2
                  · subst n2
                    clear HC
                    · go_wp2_with fail
                      go_ret
                      exact ⟨ret_bool (HB.out (by simp [hkn])), HG.out.trans HG1.out⟩
                  by_cases n3 : on = 3
                  · subst n3
                    clear HC
                    · go_wp2_with fail
                      go_ret
                      exact ⟨ret_bool (HB.out (by simp [hkn])), HG.out.trans HG1.out⟩
                  by_cases n4 : on = 4
                  · subst n4
                    clear HC
                    · go_wp2_with fail
                      go_ret
                      exact ⟨ret_bool (HB.out (by simp [hkn])), HG.out.trans HG1.out⟩
                  have e1 : (on == 1) = false := beq_eq_false_iff_ne.2 n1
                  have e2 : (on == 2) = false := beq_eq_false_iff_ne.2 n2
                  have e3 : (on == 3) = false := beq_eq_false_iff_ne.2 n3
                  have e4 : (on == 4) = false := beq_eq_false_iff_ne.2 n4
                  have HBB := hid (HB.out (by simp [n1, n2, n3, n4]))
                  clear HC HB n1 n2 n3 n4
                  go_wp2_with fail
                  go_ret
                  exact ⟨ret_bool HBB.out, HG.out.trans HG1.out⟩
    by_cases k2 : kind = 2
    · subst k2
      have HR2 : Hid (rb = (Pl.withinB shard 12 && Pl.withinB server 4)) := HR.out
      clear HR k1
      go_wp2_with fail
      refine (upto_any _ _ _).mono ?_
      rintro r w1 ⟨rfl, rfl⟩
      cases h0 : Pl.withinB shard 12 with
      | false =>
        go_wp2_with fail
        go_ret
        exact ⟨ret_bool (by rw [HR2.out]; simp [h0]), HG.out⟩
      | true =>
        go_wp2_with fail
        refine (upto_any _ _ _).mono ?_
        rintro r w1 ⟨rfl, rfl⟩
        go_wp2_with fail
        go_ret
        exact ⟨ret_bool (by rw [HR2.out]; simp [h0]), HG.out⟩
    by_cases k3 : kind = 3
    · subst k3
      have HR2 : Hid (rb = (two && Pl.withinB server 4 && decide (Pl.keyN key = 0))) := HR.out
      clear HR k1 k2
      cases two with
      | false =>
        go_wp2_with fail
        go_ret
        exact ⟨ret_bool (by rw [HR2.out]; simp), HG.out⟩
      | true =>
        go_wp2_with fail
        refine (upto_any _ _ _).mono ?_
        rintro r w1 ⟨rfl, rfl⟩
        cases h0 : Pl.withinB server 4 with
        | false =>
          go_wp2_with fail
          go_ret
          exact ⟨ret_bool (by rw [HR2.out]; simp [h0]), HG.out⟩
        | true =>
          go_wp2_with fail
          refine (HK.out (by trivial) _).mono ?_
          rintro r w1 ⟨rfl, hg⟩
          go_wp2_with fail
          go_ret
          exact ⟨ret_bool (by rw [HR2.out]; simp [h0]), HG.out.trans hg⟩
    by_cases k4 : kind = 4
    · subst k4
      have HR2 : Hid (rb = two) := HR.out
      clear HR k1 k2 k3
      go_wp2_with fail
      go_ret
      exact ⟨ret_bool HR2.out.symm, HG.out⟩
    by_cases k5 : kind = 5
    · subst k5
      have HR2 : Hid (rb = Pl.chkB shard upto parts part dataL) := HR.out
      clear HR k1 k2 k3 k4
      have HF : Hid (∀ b, (b = true ↔ (0 ≤ shard ∧ shard ≤ 12 ∧ 0 ≤ upto ∧ upto ≤ 4096 ∧ Pl.withinB parts 64 = true ∧ 0 ≤ part ∧ part < parts ∧ (dataL : Int) ≤ 256)) → b = rb) := fun b hb => by
        rw [HR2.out, Bool.eq_iff_iff, hb]
        unfold Pl.chkB Pl.withinB
        simp only [Bool.and_eq_true, Bool.or_eq_true, beq_iff_eq, decide_eq_true_eq]
        omega
      have HF0 : Hid (¬ (0 ≤ shard ∧ shard ≤ 12 ∧ 0 ≤ upto ∧ upto ≤ 4096 ∧ Pl.withinB parts 64 = true ∧ 0 ≤ part ∧ part < parts) → false = rb) := fun h => HF.out false ⟨fun h => (by cases h), fun k => absurd ⟨k.1, k.2.1, k.2.2.1, k.2.2.2.1, k.2.2.2.2.1, k.2.2.2.2.2.1, k.2.2.2.2.2.2.1⟩ h⟩
      by_cases h1 : 0 ≤ shard
      rotate_left
      · go_wp2_with fail
        go_ret
        exact ⟨ret_bool (HF0.out (by omega)), HG.out⟩
      by_cases h2 : shard ≤ 12
      rotate_left
      · go_wp2_with fail
        go_ret
        exact ⟨ret_bool (HF0.out (by omega)), HG.out⟩
      by_cases h3 : 0 ≤ upto
      rotate_left
      · go_wp2_with fail
        go_ret
        exact ⟨ret_bool (HF0.out (by omega)), HG.out⟩
      by_cases h4 : upto ≤ 4096
      rotate_left
      · go_wp2_with fail
        go_ret
        exact ⟨ret_bool (HF0.out (by omega)), HG.out⟩
      go_wp2_with fail
      refine (upto_any _ _ _).mono ?_
      rintro r w1 ⟨rfl, rfl⟩
      cases h5 : Pl.withinB parts 64 with
      | false =>
        go_wp2_with fail
        go_ret
        exact ⟨ret_bool (HF0.out (by rw [h5]; simp)), HG.out⟩
      | true =>
        by_cases h6 : 0 ≤ part
        rotate_left
        · go_wp2_with fail
          go_ret
          exact ⟨ret_bool (HF0.out (by omega)), HG.out⟩
        by_cases h7 : part < parts
        rotate_left
        · go_wp2_with fail
          go_ret
          exact ⟨ret_bool (HF0.out (by omega)), HG.out⟩
        go_wp2_with fail
        go_ret
        exact ⟨ret_bool (HF.out _ (by simp [h1, h2, h3, h4, h5, h6, h7])), HG.out⟩
    have HR2 : Hid (rb = false) := by have := HR.out; rw [if_neg k1, if_neg k2, if_neg k3, if_neg k4, if_neg k5] at this; exact this
    have e1 : (kind == 1) = false := beq_eq_false_iff_ne.2 k1
    have e2 : (kind == 2) = false := beq_eq_false_iff_ne.2 k2
    have e3 : (kind == 3) = false := beq_eq_false_iff_ne.2 k3
    have e4 : (kind == 4) = false := beq_eq_false_iff_ne.2 k4
    have e5 : (kind == 5) = false := beq_eq_false_iff_ne.2 k5
    clear HR k1 k2 k3 k4 k5
    go_wp2_with fail
    go_ret
    exact ⟨ret_bool HR2.out.symm, HG.out⟩
end Go.Proofs.YtoiahcgaffffbaaGreatDoor
namespace Go.Proofs.YtoiahcgaffffbaaGreatDoor
open Go.RowKit Go.Maps
attribute [local go_sem] Oper.semAt_some
theorem putT_any {S : Nat → Bool} (hS : TabS S) (E : Nat → Addr) {w : World} (hE : Errs S E w) {F : Nat → Prop} {tb : Nat} {xs : List Pr} (h : TabAt w F tb xs) (hx : xs.length ≤ 1000000) (key val : ByteArray) (v : Int) (hy : key.size ≤ 70368744177664) (hv : val.size ≤ 140737488351232) :
    Calls Tryz.prog 78 #[.pointer (some ⟨tb, 0, none⟩), .string key, .string val, .int .i64 v] w fun e w' => e = .returned (errOf E (Pl.putN ⟨key, val, v⟩)) ∧ TabTurn w F tb (Pl.putT xs ⟨key, val, v⟩) w' := by
  by_cases hn : Pl.putN ⟨key, val, v⟩ = 0
  · have e : Pl.putT xs ⟨key, val, v⟩ = Pl.tput xs ⟨key, val, v⟩ := by unfold Pl.putT; rw [if_pos hn]
    rw [hn, e]
    cases hb : Pl.hasB xs key with
    | true => exact putT_over hS E hE h hx key val v hy hv hn hb
    | false => exact putT_new hS E hE h hx key val v hy hv hn hb
  · have e : Pl.putT xs ⟨key, val, v⟩ = xs := by unfold Pl.putT; rw [if_neg hn]
    rw [e]
    exact (putT_err hS E hE tb key val v hy hv hn).mono fun e w' ⟨he, hg⟩ => ⟨he, TabTurn.of_grew h hg⟩
set_option maxRecDepth 100000 in
set_option maxHeartbeats 4000000 in
theorem scanT_any {S : Nat → Bool} (hS : TabS S) (E : Nat → Addr) {w : World} (hE : Errs S E w) {F : Nat → Prop} {tb : Nat} {xs : List Pr} (h : TabAt w F tb xs) (hx : xs.length ≤ 1000000) (lo hi : ByteArray) (limit : Int) (hlo : lo.size ≤ 70368744177664) (hhi : hi.size ≤ 70368744177664) :
    Calls Tryz.prog 85 #[.pointer (some ⟨tb, 0, none⟩), .agg #[.string lo, .string hi], .int .i64 limit] w fun e w' => (∃ v, e = .returned v ∧ w'.ownsRow w.heap.size 83 3 v (Pl.scanT xs lo hi limit).length (prFlat (Pl.scanT xs lo hi limit))) ∧ Grew w w' := by
  have HE := hid hE
  obtain ⟨vv, h⟩ := h
  obtain ⟨a, cap, rfl, hA⟩ := pairsAt_of h.row
  have c0 := h.cell
  have htb : tb < w.heap.size := cell_lt c0
  have HS := hid h.szAt
  have HA := hid hA
  obtain ⟨i0, hi0, hz0, hz1, hz2⟩ := info_parts infoPair
  clear hE h hA
  go_enter Tryz.func85, Tryz.ntmps85
  go_wp2_with fail
  go_loopw [7, 15] (fun v i wr => ∃ (k m : Nat) (ys : List Pr) (a2 : Option Addr) (cap2 : Nat), k ≤ xs.length ∧ v = .slice a2 m cap2 ∧ i = .int .i64 k ∧ Hid (ys = Pl.scanT (xs.take k) lo hi limit) ∧ Hid (m = ys.length) ∧ m ≤ k ∧ wr.ownsRow (w.heap.size + 1) 83 3 (.slice a2 m cap2) m (prFlat ys) ∧ Grew w wr ∧ wr.cell? ⟨w.heap.size, 0, none⟩ = some (.string lo) ∧ wr.cell? ⟨w.heap.size, 1, none⟩ = some (.string hi) ∧ w.heap.size < wr.heap.size) (fun _ i _ => xs.length - (intOf i).toNat)
  case atStart => exact ⟨0, 0, [], none, 0, Nat.zero_le _, rfl, rfl, by unfold Hid Pl.scanT; simp, by unfold Hid; rfl, Nat.zero_le _, World.ownsRow_nil _ _ _ _, (Grew.refl w).alloc _, by simp [go_sem], by simp [go_sem], by simp⟩
  case round =>
    obtain ⟨k, m, ys, a2, cap2, hk1, rfl, rfl, HY, HM, hmk, hown, hG, l0, l1, hzr⟩ := hrel
    by_cases hlt : k < xs.length
    · rcases HA.out with h0 | ⟨b, off, rfl, hb, hR⟩
      · rw [h0] at hlt; simp at hlt
      have q0 := (hG.cells.1 b (off + k * 3) hb).trans (hR.key k hlt)
      have q1 := (hG.cells.1 b (off + k * 3 + 1) hb).trans (hR.val k hlt)
      have q2 := (hG.cells.1 b (off + k * 3 + 2) hb).trans (hR.ver k hlt)
      have HN := hid (Pl.scan_snoc xs lo hi limit k hlt)
      have HHAS := hid (fun W (g : Grew w W) => has_span S E ⟨hS.h2, hS.h3, hS.h6, hS.h7⟩ lo hi (prAt xs k).key W hlo hhi (HS.out k hlt) (HE.out.grew g))
      clear hR
      generalize prAt xs k = c at *
      obtain ⟨ck, cv, cn⟩ := c
      dsimp only at *
      by_cases hlm : (m : Int) < limit
      · cases hb2 : Pl.hasS lo hi ck with
        | true =>
          have HN2 : Hid (ys ++ [⟨ck, cv, cn⟩] = Pl.scanT (xs.take (k + 1)) lo hi limit) := by
            unfold Hid; rw [HN.out, ← HY.out, if_pos ⟨by rw [← HM.out]; exact hlm, hb2⟩]
          rw [hb2] at HHAS
          have HR2 : Hid (prFlat ys ++ [.string ck, .string cv, .int .i64 cn] = prFlat (ys ++ [⟨ck, cv, cn⟩])) := by unfold Hid; rw [prFlat_append, prFlat_one]; rfl
          have HM2 : Hid (m + 1 = (ys ++ [(⟨ck, cv, cn⟩ : Pr)]).length) := by unfold Hid; rw [List.length_append, ← HM.out]; rfl
          clear hb2 HN
          go_wp2_with fail
          refine (HHAS.out _ (hG.alloc _)).mono ?_
          rintro e w1 ⟨rfl, hg1⟩
          have hG1 := (hG.alloc _).trans hg1
          have sz1 := hg1.size
          have o1 := (Grew.refl wr).alloc (.cells #[.string ck, .string cv, .int .i64 cn] 83) |>.trans hg1
          have l0' := (o1.cells.1 _ _ hzr).trans l0
          have l1' := (o1.cells.1 _ _ hzr).trans l1
          have k0 : w1.cell? ⟨wr.heap.size, 0, none⟩ = some (.string ck) := by rw [hg1.cells.1 _ _ (by simp)]; simp [go_sem]
          have k1 : w1.cell? ⟨wr.heap.size, 1, none⟩ = some (.string cv) := by rw [hg1.cells.1 _ _ (by simp)]; simp [go_sem]
          have k2 : w1.cell? ⟨wr.heap.size, 2, none⟩ = some (.int .i64 cn) := by rw [hg1.cells.1 _ _ (by simp)]; simp [go_sem]
          have hown1 := ownsRow_grew o1 hown
          have hz1' : w.heap.size < w1.heap.size := by have := o1.size; omega
          clear l0 l1 hown o1
          go_wp2_with (at_builtin; refine wpList_append_lies _ rfl _ _ 32 rfl (w.heap.size + 1) 83 i0 _ 3 40 Tryz.underlying32 hi0 hz0 hz1 hz2 rfl (by omega) _ m (prFlat ys) rfl (hown1.alloc _) ⟨w1.heap.size, 0, none⟩ 1 1 [.string ck, .string cv, .int .i64 cn] rfl rfl (World.news_of_block (cs := #[.string ck, .string cv, .int .i64 cn]) (t := 83) (fr := (0, 0)) (heap_alloc_new w1 _)) (by simp [Value.oneCell']) (by omega) (by unfold maxLen; omega) (by omega) ?_ _ rfl ?_)
          · simp; omega
          · intro g capg w2 hown2 hgrow hat hlt2
            have hS : ∀ j, some j = Value.ownBlock (.slice a2 m cap2) → w.heap.size + 1 ≤ j := fun j hj => (hown1.lt j hj.symm).1
            have o2 : Only (fun j => some j = Value.ownBlock (.slice a2 m cap2)) w1 w2 := (((Grew.refl w1).alloc _).only _).then (Only.of_grownBy hgrow)
            have hG2 : Grew w w2 := ((hG1.only _).then o2).grew (fun j hj => Nat.le_of_succ_le (hS j hj))
            have n1 : ¬ some w.heap.size = Value.ownBlock (.slice a2 m cap2) := fun e => by have := hS _ e; omega
            have l0'' := (o2.cell hz1' n1 0).trans l0'
            have l1'' := (o2.cell hz1' n1 1).trans l1'
            have hz2' : w.heap.size < w2.heap.size := Nat.lt_of_lt_of_le hz1' o2.size
            rw [HR2.out] at hown2
            clear o2 hgrow hat hown1 l0' l1' hS n1 k0 k1 k2 hG1 sz1 hz1'
            go_wp2_with fail
            go_roundw
            case rel => exact ⟨k + 1, m + 1, ys ++ [⟨ck, cv, cn⟩], _, capg, by omega, rfl, by go_num, HN2, HM2, by omega, hown2, hG2, l0'', l1'', hz2'⟩
            case measure => simp [intOf]; omega
        | false =>
          have HN2 : Hid (ys = Pl.scanT (xs.take (k + 1)) lo hi limit) := by
            unfold Hid; rw [HN.out, ← HY.out, if_neg (fun h => by rw [hb2] at h; cases h.2), List.append_nil]
          rw [hb2] at HHAS
          clear hb2 HN
          go_wp2_with fail
          refine (HHAS.out _ (hG.alloc _)).mono ?_
          rintro e w1 ⟨rfl, hg1⟩
          have hG1 := (hG.alloc _).trans hg1
          have o1 := (Grew.refl wr).alloc (.cells #[.string ck, .string cv, .int .i64 cn] 83) |>.trans hg1
          have l0' := (o1.cells.1 _ _ hzr).trans l0
          have l1' := (o1.cells.1 _ _ hzr).trans l1
          have hown1 := ownsRow_grew o1 hown
          have hz1' : w.heap.size < w1.heap.size := by have := o1.size; omega
          clear l0 l1 hown o1
          go_wp2_with fail
          go_roundw
          case rel => exact ⟨k + 1, m, ys, a2, cap2, by omega, rfl, by go_num, HN2, HM, by omega, hown1, hG1, l0', l1', hz1'⟩
          case measure => simp [intOf]; omega
      · have HN2 : Hid (ys = Pl.scanT (xs.take (k + 1)) lo hi limit) := by
          unfold Hid; rw [HN.out, ← HY.out, if_neg (fun h => hlm (by rw [HM.out]; exact h.1)), List.append_nil]
        have hown1 := ownsRow_grew ((Grew.refl wr).alloc (.cells #[.string ck, .string cv, .int .i64 cn] 83)) hown
        have hG1 := hG.alloc (.cells #[.string ck, .string cv, .int .i64 cn] 83)
        have o1 := (Grew.refl wr).alloc (.cells #[.string ck, .string cv, .int .i64 cn] 83)
        have l0' := (o1.cells.1 _ _ hzr).trans l0
        have l1' := (o1.cells.1 _ _ hzr).trans l1
        clear HN hown o1
        go_wp2_with fail
        go_roundw
        case rel => exact ⟨k + 1, m, ys, a2, cap2, by omega, rfl, by go_num, HN2, HM, by omega, hown1, hG1, l0', l1', by simp; omega⟩
        case measure => simp [intOf]; omega
    · obtain rfl : k = xs.length := by omega
      rw [List.take_length] at HY
      go_wp2_with fail
      go_ret
      exact ⟨⟨_, rfl, by rw [← HY.out, ← HM.out]; exact ownsRow_base (Nat.le_succ _) hown⟩, hG⟩
end Go.Proofs.YtoiahcgaffffbaaGreatDoor
