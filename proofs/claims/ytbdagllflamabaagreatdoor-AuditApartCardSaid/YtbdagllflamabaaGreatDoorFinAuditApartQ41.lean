/- LawAu2, Open30: one text. -/
import Derived.Test.YtbdagllflamabaaGreatDoorFinAuditApartQ40
import Derived.Deep.Slices
import Derived.ChangeSame
import Derived.ProofKit
import Derived.OpenShut
import Derived.SizedLaws
set_option linter.unusedVariables false
set_option linter.unusedSectionVars false
set_option linter.unusedSimpArgs false
namespace Go.Proofs.YtbdagllflamabaaGreatDoor
open Go.RowKit Go.Maps
attribute [local go_sem] Oper.semAt_some uponV
def playA (l : List Ac) : AuP := l.foldl (fun A a => (Pl.applyA A a.e a.at').2) AuP.init
theorem playA_snoc (xs : List Ac) (k : Nat) (h : k < xs.length) : playA (xs.take (k + 1)) = (Pl.applyA (playA (xs.take k)) (acAt xs k).e (acAt xs k).at').2 := by
  unfold playA
  rw [List.take_succ_eq_append_getElem h, List.foldl_append, acAt_eq xs k h]
  rfl
theorem en_of30 {W : World} {e : En} (h1 : OpRsAt W e.opsA e.ops) (h2 : e.ops.length ≤ 20 ∧ e.key.size ≤ 300 ∧ e.dataL ≤ 600 ∧ ∀ o ∈ e.ops, o.key.size ≤ 300 ∧ o.val.size ≤ 300 ∧ o.old.size ≤ 300) : EnAt W e ∧ EnSz e ∧ e.key.size ≤ 300 := by
  obtain ⟨a, b, c, d⟩ := h2
  exact ⟨⟨h1, by omega, fun o ho => by obtain ⟨x, y, z⟩ := d o ho; exact ⟨by omega, by omega, by omega⟩, fun _ => by omega⟩, fun o ho => by obtain ⟨x, y, z⟩ := d o ho; exact ⟨by omega, by omega⟩, b⟩
theorem manyA_bound {w0 w1 W : World} {ab cb n n2 m m2 : Nat} {A C : AuP} (h : AuR2 w0 w1 W ab cb n n2 m m2 A C) (k : Nat) (key : ByteArray) : Pl.manyA A key k ≤ 1 := by
  obtain ⟨L, hA, _⟩ := h.two
  exact Pl.manyA_le h.ok hA.srt key k
set_option maxRecDepth 100000 in
set_option maxHeartbeats 8000000 in
theorem auditApart_walk (E : Nat → Addr) (a : Option Addr) (cap : Nat) (xs : List Ac) (x : Ac) (key : ByteArray) (w : World) (hE : Errs auS E w) (hA : AcsAt w a xs) (hbig : xs.length * 144 ≤ 140737488351232) (hk : ∀ j, j < xs.length → AcFits (acAt xs j)) (hxA : OpRsAt w x.e.opsA x.e.ops) (hxf : AcFits x) (hkey : key.size ≤ 9223372036854775807) :
    Calls Tryz.prog 3 #[.slice a xs.length cap, .agg x.vals.toArray, .string key] w fun e w' => e = .returned (.bool true) ∧ Grew w w' := by
  have HE := hid hE
  have HA := hid hA
  have HK := hid hk
  have HXA := hid hxA
  have HXF := hid hxf
  obtain ⟨x', hx'⟩ : ∃ x', x' = x := ⟨_, rfl⟩
  have HBX := hid (show ∀ q v, x.vals[q]? = some v → (w.alloc (.cells x.vals.toArray 28)).cell? ⟨w.heap.size, q, none⟩ = some v from fun q v hv => by
    rw [cell_of_row _ _ q _ _ _ (heap_alloc_new w _)]; simpa using hv)
  rw [← hx'] at HXA HXF
  clear hE hA hk hxA hxf
  obtain ⟨⟨kind, shard, other, server, client, seq, xkey, upto, part, parts, ops, opsA, opsC, dataA, dataL, dataC⟩, xat⟩ := x
  have HAG := hid (show x'.e.agg = .agg #[.int .i64 kind, .int .i64 shard, .int .i64 other, .int .i64 server, .int .i64 client, .int .i64 seq, .slice opsA ops.length opsC, .string xkey, .int .i64 upto, .int .i64 part, .int .i64 parts, .slice dataA dataL dataC] ∧ x'.at' = xat ∧ x'.vals.toArray = #[.int .i64 kind, .int .i64 shard, .int .i64 other, .int .i64 server, .int .i64 client, .int .i64 seq, .slice opsA ops.length opsC, .string xkey, .int .i64 upto, .int .i64 part, .int .i64 parts, .slice dataA dataL dataC, .int .i64 xat] from by rw [hx']; exact ⟨rfl, rfl, rfl⟩)
  unfold Ac.vals En.vals at HBX ⊢
  dsimp only [List.cons_append, List.nil_append] at HBX ⊢
  clear hx'
  go_enter Tryz.func3, Tryz.ntmps3
  go_wp2_with fail
  refine (alive30 E _ (HE.out.grew ((Grew.refl w).alloc _))).mono ?_
  rintro r w1 ⟨rfl, hg⟩
  have hz : w.heap.size < w1.heap.size := by have := hg.size; simp at this; omega
  have HG := hid (((Grew.refl w).alloc _).trans hg)
  have HB1 := hid (fun q v hv => (hg.cells.1 _ q (by simp)).trans (HBX.out q v hv))
  clear hg HBX
  have d0 := HB1.out 0 _ rfl
  have d1 := HB1.out 1 _ rfl
  have d2 := HB1.out 2 _ rfl
  have d3 := HB1.out 3 _ rfl
  have d4 := HB1.out 4 _ rfl
  have d5 := HB1.out 5 _ rfl
  have d6 := HB1.out 6 _ rfl
  have d7 := HB1.out 7 _ rfl
  have d8 := HB1.out 8 _ rfl
  have d9 := HB1.out 9 _ rfl
  have d10 := HB1.out 10 _ rfl
  have d11 := HB1.out 11 _ rfl
  have d12 := HB1.out 12 _ rfl
  obtain ⟨g2, c2, w2, hrun, hA2, hG2⟩ := app_acts w1 a cap xs (HA.out.grew HG.out) (by omega) x' (HXA.out.grew HG.out)
  rw [HAG.out.2.2] at hrun
  have HR := hid hrun
  have HA2 := hid hA2
  have HG2 := hid hG2
  clear hrun hA2 hG2
  go_wp2_with (at_builtin; refine wpList_append_run _ rfl _ _ _ _ rfl _ _ HR.out ?_)
  have HL := hid (long30_any (some ⟨g2, 0, none⟩) c2 (x' :: xs) w2 HA2.out (by simp; omega) (fun j hj => by
    cases j with
    | zero => exact HXF.out
    | succ j => exact HK.out j (by simpa using hj)))
  rw [show ((x' :: xs).length) = 1 + xs.length from Nat.add_comm _ _] at HL
  clear HR
  go_wp2_with fail
  refine HL.out.mono ?_
  rintro r w3 ⟨rfl, hg3⟩
  have HG3 := hid (HG2.out.trans hg3)
  cases hlong : long30B (x' :: xs) with
  | true =>
    clear HL d0 d1 d2 d3 d4 d5 d6 d7 d8 d9 d10 d11 d12
    go_wp2_with fail
    go_ret
    exact ⟨rfl, HG.out.trans HG3.out⟩
  | false =>
    by_cases hkz : 300 < key.size
    · have hkz' : (300 : Int) < (key.size : Int) := by omega
      clear HL d0 d1 d2 d3 d4 d5 d6 d7 d8 d9 d10 d11 d12
      go_wp2_with fail
      go_ret
      exact ⟨rfl, HG.out.trans HG3.out⟩
    have hkz' : (key.size : Int) ≤ 300 := by omega
    obtain ⟨hl30, hshort⟩ := long30_short hlong
    have HSH := hid hshort
    have hxl : xs.length ≤ 29 := by simp at hl30; omega
    clear HL hlong hl30 hshort d0 d1 d2 d3 d4 d5 d6 d7 d8 d9 d10 d11 d12 hg3 hkz
    go_wp2_with fail
    have HE3 := hid (HE.out.grew (HG.out.trans HG3.out))
    refine (newR_any E w3 HE3.out).mono ?_
    rintro r w4 ⟨ab, rfl, hM⟩
    have HM0 := hid hM
    have HGW := hid (HG.out.trans HG3.out)
    have HB3 := hid (fun q v hv => (HG3.out.cells.1 _ q hz).trans (HB1.out q v hv))
    have hz3 : w.heap.size < w3.heap.size := Nat.lt_of_lt_of_le hz HG3.out.size
    clear hM HA2 HG2 HG HG3 HB1 hz
    go_wp2_with fail
    go_loopw [38] (fun i wr => ∃ k : Nat, k ≤ xs.length ∧ i = .int .i64 k ∧ Hid (AuR w3 wr ab (1 + 5 * k) k (playA (xs.take k)))) (fun i _ => xs.length - (intOf i).toNat)
    case atStart => exact ⟨0, Nat.zero_le _, rfl, HM0⟩
    case round =>
      obtain ⟨k, hk1, rfl, HP⟩ := hrel
      obtain ⟨wo, rfl⟩ : ∃ wo : World, wo = wr := ⟨_, rfl⟩
      by_cases hlt : k < xs.length
      · rcases HA.out.row with h0 | ⟨b, off, rfl, hb, hR⟩
        · rw [h0] at hlt; simp at hlt
        have hGw := HGW.out.trans HP.out.grew
        obtain ⟨q0, q1, q2, q3, q4, q5, q6, q7, q8, q9, q10, q11, q12⟩ := ac_cells (W := wo) (b := b) (off := off + k * 13) (a := acAt xs k) (fun i v hv => (hGw.cells.1 _ _ hb).trans (hR k hlt i v hv))
        have hsh := HSH.out (k + 1) (by simp; omega)
        rw [show acAt (x' :: xs) (k + 1) = acAt xs k from rfl] at hsh
        obtain ⟨hEn, hSz, hKz⟩ := en_of30 ((HA.out.ops k hlt).grew HGW.out) hsh
        have HAP := hid (fun U (g : Grew wo U) => HP.out.apply E HE3.out g (by omega) (by omega) (acAt xs k).e hEn hSz hKz (acAt xs k).at')
        have HPS := hid (playA_snoc xs k hlt)
        clear hGw hR hsh hEn hSz hKz
        rw [← HPS.out] at HAP
        generalize (Pl.applyA (playA (xs.take k)) (acAt xs k).e (acAt xs k).at').1 = rn at *
        generalize acAt xs k = A at *
        obtain ⟨⟨ykind, yshard, yother, yserver, yclient, yseq, ykey, yupto, ypart, yparts, yops, yopsA, yopsC, ydataA, ydataL, ydataC⟩, yat⟩ := A
        unfold En.agg En.vals at HAP
        dsimp only at *
        go_wp2_with fail
        refine (HAP.out _ ((Grew.refl wo).alloc _)).mono ?_
        rintro r w6 ⟨rfl, h6⟩
        have HP6 := hid h6
        clear h6 q0 q1 q2 q3 q4 q5 q6 q7 q8 q9 q10 q11 q12 HAP
        go_wp2_with fail
        go_roundw
        case rel => exact ⟨k + 1, by omega, by go_num, HP6⟩
        case measure => simp [intOf]; omega
      · obtain rfl : k = xs.length := by omega
        go_wp2_with fail
        have hTlen := HP.out.ok.inv.len
        obtain ⟨T, hT⟩ : ∃ T, T = playA (xs.take xs.length) := ⟨_, rfl⟩
        rw [← hT] at HP hTlen
        clear hT
        have h1 := HP.out
        obtain ⟨L1, _, _, hA1⟩ := h1.ex
        have HSC := hid (scanA_any E (HE3.out.grew h1.grew) hA1 h1.ok (by omega) ⟨#[]⟩ ⟨#[]⟩ 1000 (by decide) (by decide) (by decide))
        have HSL := hid (show (Pl.scanAP T ⟨#[]⟩ ⟨#[]⟩ 1000).length ≤ 200000 from by
          have := Pl.scanK_len (h1.ok.len (by omega)) ⟨#[]⟩ ⟨#[]⟩ 1000 T.sh.xs.length (Nat.le_refl _)
          unfold Pl.scanK at this
          rw [List.take_length] at this
          unfold Pl.scanAP
          omega)
        clear h1 hA1
        obtain ⟨zs, hzs⟩ : ∃ zs, zs = Pl.scanAP T ⟨#[]⟩ ⟨#[]⟩ 1000 := ⟨_, rfl⟩
        have HZS := hid hzs
        rw [← hzs] at HSC HSL
        clear hzs
        refine HSC.out.mono ?_
        rintro r w5 ⟨hg5, a5, c5, rfl, hrow5⟩
        obtain ⟨a5', c5', e5, hp5⟩ := pairsAt_of hrow5
        cases e5
        have HP5 := hid hp5
        have HR5 := hid (HP.out.more hg5)
        clear hg5 hrow5 hp5 HSC HP
        generalize hzl : zs.length = zl at *
        have HZL := hid hzl
        clear hzl
        go_wp2_with fail
        obtain ⟨L1, _, _, hA1⟩ := HR5.out.ex
        refine (atA_any hA1).mono ?_
        rintro r w6 ⟨rfl, hg6⟩
        have HR6 := hid (HR5.out.more hg6)
        have HP6 := hid (HP5.out.grew hg6)
        clear hg6 hA1 HR5 HP5
        go_wp2_with fail
        refine (HR6.out.copy (Grew.refl _) (by omega) (by omega)).mono ?_
        rintro r w7 ⟨cb, rfl, hg7, hR7⟩
        have HR7 := hid hR7
        have hxs := Nat.lt_of_lt_of_le hz3 hR7.grew.size
        have HB7 := hid (fun q v hv => (hR7.grew.cells.1 _ q hz3).trans (HB3.out q v hv))
        have HG7 := hid hg7
        have HEN := hid (en_of30 (HXA.out.grew HGW.out) (HSH.out 0 (by simp)))
        have HC := hid (HR7.out.apply2 E HE3.out (Grew.refl _) (by omega) (by omega) x'.e HEN.out.1 HEN.out.2.1 HEN.out.2.2 x'.at')
        have d0 := HB7.out 0 _ rfl
        have d1 := HB7.out 1 _ rfl
        have d2 := HB7.out 2 _ rfl
        have d3 := HB7.out 3 _ rfl
        have d4 := HB7.out 4 _ rfl
        have d5 := HB7.out 5 _ rfl
        have d6 := HB7.out 6 _ rfl
        have d7 := HB7.out 7 _ rfl
        have d8 := HB7.out 8 _ rfl
        have d9 := HB7.out 9 _ rfl
        have d10 := HB7.out 10 _ rfl
        have d11 := HB7.out 11 _ rfl
        have d12 := HB7.out 12 _ rfl
        clear hg7 hR7 HR6 HR7
        generalize (Pl.applyA T x'.e x'.at').1 = cn at *
        generalize (Pl.applyA T x'.e x'.at').2 = C at *
        rw [HAG.out.1, HAG.out.2.1] at HC
        go_wp2_with fail
        refine HC.out.mono ?_
        rintro r w8 ⟨rfl, hO8, hR8⟩
        have HG8 := hid (((HG7.out.only _).then hO8).grew fun j hj => hj)
        have HR8 := hid hR8
        have HP8 := hid (HP6.out.grew HG8.out)
        clear hO8 hR8 d0 d1 d2 d3 d4 d5 d6 d7 d8 d9 d10 d11 d12 HC HG7 HP6 HB7
        go_wp2_with fail
        obtain ⟨L8, hA8, _⟩ := HR8.out.two
        have HSC2 := hid (scanA_any E (HE3.out.grew HR8.out.grew) hA8 HR8.out.ok (by omega) ⟨#[]⟩ ⟨#[]⟩ 1000 (by decide) (by decide) (by decide))
        rw [← HZS.out] at HSC2
        refine HSC2.out.mono ?_
        rintro r w9 ⟨hg9, a9, c9, rfl, hrow9⟩
        obtain ⟨a9', c9', e9, hp9⟩ := pairsAt_of hrow9
        cases e9
        have HP9 := hid (And.intro (HP8.out.grew hg9) hp9)
        have HR9 := hid (HR8.out.more hg9)
        clear hg9 hrow9 hp9 HSC2 hA8 HR8 HP8
        rw [HZL.out]
        go_wp2_with fail
        obtain ⟨L9, hA9, _⟩ := HR9.out.two
        refine (atA_any hA9).mono ?_
        rintro r w10 ⟨rfl, hg10⟩
        have HR10 := hid (HR9.out.more hg10)
        have HP10 := hid (And.intro (HP9.out.1.grew hg10) (HP9.out.2.grew hg10))
        clear hg10 hA9 HR9 HP9
        go_wp2_with fail
        obtain ⟨wb, rfl⟩ : ∃ wb : World, wb = w10 := ⟨_, rfl⟩
        go_loopw [78] (fun i wr => ∃ k : Nat, k ≤ zl ∧ i = .int .i64 k ∧ Hid (Grew wb wr)) (fun i _ => zl - (intOf i).toNat)
        case atStart => exact ⟨0, Nat.zero_le _, rfl, Grew.refl _⟩
        case round =>
          obtain ⟨k, hk1, rfl, HG⟩ := hrel
          obtain ⟨wo, rfl⟩ : ∃ wo : World, wo = wr := ⟨_, rfl⟩
          by_cases hlt : k < zl
          · have hzl : zs.length = zl := HZL.out
            obtain ⟨p1, p2⟩ := HP10.out
            rcases p1 with h0 | ⟨b1, o1, rfl, hb1, hR1⟩
            · rw [h0] at hzl; simp at hzl; omega
            rcases p2 with h0 | ⟨b2, o2, rfl, hb2, hR2⟩
            · rw [h0] at hzl; simp at hzl; omega
            have q0 := (HG.out.cells.1 b1 (o1 + k * 3) hb1).trans (hR1.key k (by omega))
            have q1 := (HG.out.cells.1 b1 (o1 + k * 3 + 1) hb1).trans (hR1.val k (by omega))
            have q2 := (HG.out.cells.1 b1 (o1 + k * 3 + 2) hb1).trans (hR1.ver k (by omega))
            have r0 := (HG.out.cells.1 b2 (o2 + k * 3) hb2).trans (hR2.key k (by omega))
            have r1 := (HG.out.cells.1 b2 (o2 + k * 3 + 1) hb2).trans (hR2.val k (by omega))
            have r2 := (HG.out.cells.1 b2 (o2 + k * 3 + 2) hb2).trans (hR2.ver k (by omega))
            have hbo1 := Nat.lt_of_lt_of_le hb1 HG.out.size
            have hbo2 := Nat.lt_of_lt_of_le hb2 HG.out.size
            clear hR1 hR2 hzl
            generalize prAt zs k = c at *
            obtain ⟨ck, cv, cn⟩ := c
            dsimp only at *
            have hzk : zl ≤ 200000 := HSL.out
            go_upto_region 21 with fail
            have Q0 := wd_cell q0
            have Q1 := wd_cell q1
            have Q2 := wd_cell q2
            have R0 := wd_cell r0
            have R1 := wd_cell r1
            have R2 := wd_cell r2
            refine wp_region_still 9 (by kernel_rfl) (by kernel_rfl) (fun _ _ => rfl) ?_
            repeat (first
    | (refine mixS_plain (by rfl) (by rfl) (by rfl) (by first | exact Grew.refl | exact fun _ => rfl) (by rfl) ?_; intro K hK; go_big_quiet_op; go_big_quiet_on)
    | (refine mixS_skip (by rfl) (by rfl) (by rfl) ?_; simp only [Act.put, List.setIfInBounds_toArray, List.set_cons_zero, List.set_cons_succ]))
            refine mixS_nil ?_
            intro u hGu
            have HU := hid (HG.out.trans hGu)
            clear Q0 Q1 Q2 R0 R1 R2 hGu
            dsimp only [List.drop]
            go_wp2_with fail
            go_roundw
            case rel => exact ⟨k + 1, by omega, by go_num, HU⟩
            case measure => simp [intOf]; omega
          · obtain rfl : k = zl := by omega
            go_wp2_with fail
            have HR11 := hid (HR10.out.more HG.out)
            have HMANY := hid (fun n => manyA_bound HR11.out n key)
            clear HP10 HG HSL HZS HR10
            obtain ⟨wc, rfl⟩ : ∃ wc : World, wc = wo := ⟨_, rfl⟩
            go_loopw [15, 91] (fun m i wr => ∃ k : Nat, k ≤ 13 ∧ i = .int .i64 k ∧ m = .int .i64 (Pl.manyA T key k : Nat) ∧ Hid (Grew wc wr)) (fun _ i _ => 13 - (intOf i).toNat)
            case atStart => exact ⟨0, by omega, rfl, rfl, Grew.refl _⟩
            case round =>
              obtain ⟨k, hk1, rfl, rfl, HG⟩ := hrel
              obtain ⟨wo, rfl⟩ : ∃ wo : World, wo = wr := ⟨_, rfl⟩
              have HRo := hid (HR11.out.more HG.out)
              have hmk := HMANY.out k
              by_cases hlt : k < 13
              · have hlt' : (k : Int) < 13 := by omega
                obtain ⟨Lo, hAo, _⟩ := HRo.out.two
                have HST := hid (stateA_any hAo k (by omega) (HRo.out.ok.len (by omega) k))
                have HN := hid (Pl.manyA_succ T key k)
                clear hAo
                go_wp2_with fail
                refine HST.out.mono ?_
                rintro r w11 ⟨hg11, ⟨hno, rfl⟩ | ⟨P, S, hst, c, hc, hcid, yb, Gt, Gs, m, hm, rfl, hS⟩⟩
                · have HG11 := hid (HG.out.trans hg11)
                  have HH : Hid (Pl.manyA T key (k + 1) = Pl.manyA T key k) := by
                    unfold Hid
                    rw [HN.out]
                    unfold Pl.hasA
                    rw [hno]
                    simp
                  clear hg11 HST
                  go_wp2_with fail
                  go_roundw
                  case rel => exact ⟨k + 1, by omega, by go_num, by rw [HH.out], HG11⟩
                  case measure => simp [intOf]; omega
                · have HG11 := hid (HG.out.trans hg11)
                  obtain ⟨tb, sb, hS⟩ := hS
                  have s0 := hS.c0
                  have hyb := cell_lt s0
                  have HGT := hid (fun X (g : Grew w11 X) => getTab_any (show TabS stS from ⟨rfl, rfl, rfl, rfl, rfl⟩) E (auS_st (HE3.out.grew (HR11.out.grew.trans (HG11.out.trans g)))) (hS.tab.grew g) (by have := HRo.out.ok.len (by omega) k P S hst; omega) key (by omega))
                  have HH : Hid (Pl.manyA T key (k + 1) = Pl.manyA T key k + if (Pl.getT P key).isSome = true then 1 else 0) := by
                    unfold Hid
                    rw [HN.out]
                    unfold Pl.hasA
                    rw [hst]
                  generalize (Pl.getT P key).isSome = is' at *
                  generalize (Pl.getT P key).getD Pr.none = o at *
                  obtain ⟨ok, ov, on⟩ := o
                  unfold Pr.agg at HGT
                  dsimp only at HGT
                  clear hg11 hS HST hst hc hcid hm
                  go_wp2_with fail
                  refine (HGT.out _ (Grew.refl _)).mono ?_
                  rintro r w12 ⟨rfl, hg12⟩
                  have HG12 := hid ((HG11.out.trans hg12).alloc (.cells #[.string ok, .string ov, .int .i64 on] 42))
                  clear hg12 HGT
                  cases is' with
                  | true =>
                    go_wp2_with fail
                    go_roundw
                    case rel => exact ⟨k + 1, by omega, by go_num, by rw [HH.out]; simp, HG12⟩
                    case measure => simp [intOf]; omega
                  | false =>
                    go_wp2_with fail
                    go_roundw
                    case rel => exact ⟨k + 1, by omega, by go_num, by rw [HH.out]; simp, HG12⟩
                    case measure => simp [intOf]; omega
              · obtain rfl : k = 13 := by omega
                obtain ⟨Lo, hAo, _⟩ := HRo.out.two
                have HGET := hid (getA_any E (HE3.out.grew HRo.out.grew) hAo HRo.out.ok (by omega) key (by omega))
                rw [Pl.manyA_get HRo.out.ok hAo.srt key] at HGET
                have HGR := hid (HGW.out.trans HRo.out.grew)
                generalize Pl.manyA T key 13 = M at *
                generalize (Pl.getAP T key).getD Pr.none = o at *
                obtain ⟨ok, ov, on⟩ := o
                unfold Pr.agg at HGET
                dsimp only at HGET
                clear hAo hlt
                go_wp2_with fail
                refine HGET.out.mono ?_
                rintro r w13 ⟨rfl, hg13⟩
                have HGF := hid ((HGR.out.trans hg13).alloc (.cells #[.string ok, .string ov, .int .i64 on] 42))
                clear hg13 HGET
                obtain rfl | rfl : M = 0 ∨ M = 1 := by omega
                · go_wp2_with fail
                  go_ret
                  exact ⟨rfl, HGF.out⟩
                · go_wp2_with fail
                  go_ret
                  exact ⟨rfl, HGF.out⟩
end Go.Proofs.YtbdagllflamabaaGreatDoor
namespace Go.Proofs.YtbdagllflamabaaGreatDoor
open Go.RowKit Go.ChangeShapes Go.WideShapes Go.Deep
theorem cells_op30 : Tryz.prog.cellsOf 104 = 5 := by kernel_rfl
theorem cells_act30 : Tryz.prog.cellsOf 28 = 13 := by kernel_rfl
theorem cells_entry30 : Tryz.prog.cellsOf 26 = 12 := by kernel_rfl
theorem cells_ops30 : Tryz.prog.cellsOf 23 = 1 := by kernel_rfl
theorem cells_bytes30 : Tryz.prog.cellsOf 24 = 1 := by kernel_rfl
theorem cells_int30 : Tryz.prog.cellsOf 3 = 1 := by kernel_rfl
theorem cells_str30 : Tryz.prog.cellsOf 9 = 1 := by kernel_rfl
theorem bytes_act30 : Tryz.prog.bytesOf 28 = 144 := by kernel_rfl
section
variable {H : Type} {enc : TypeId × Value → H} {W : World} {base : Nat} {spare : Nat → Bool} {held : Bool} {n : Nat} {cs : List Value} {y : DataW H × List MemPlace}
theorem open_op30 (hl : cs.length = 5) (h : DataW.trod enc Tryz.prog W base spare held n 104 cs = some y) :
    ∃ x : OpR, cs = x.vals ∧ x.key.size ≤ 9223372036854775807 ∧ x.val.size ≤ 9223372036854775807 ∧ x.old.size ≤ 9223372036854775807 := by
  match cs, hl with
  | [c0, c1, c2, c3, c4], _ =>
    obtain ⟨xs, n', _, hx, _, hlen, hg⟩ := DataW.trod_struct Tryz.underlying104 h
    have g0 := hg 0 _ rfl
    have g1 := hg 1 _ rfl
    have g2 := hg 2 _ rfl
    have g3 := hg 3 _ rfl
    have g4 := hg 4 _ rfl
    match xs, hlen with
    | [y0, y1, y2, y3, y4], _ =>
      simp [cells_int30, cells_str30] at g0 g1 g2 g3 g4
      obtain ⟨k, e0, _⟩ := DataW.trod_int Tryz.underlying3 g0
      obtain ⟨s1, e1, _, w1⟩ := DataW.trod_string Tryz.underlying9 g1
      obtain ⟨s2, e2, _, w2⟩ := DataW.trod_string Tryz.underlying9 g2
      obtain ⟨s3, e3, _, w3⟩ := DataW.trod_string Tryz.underlying9 g3
      obtain ⟨v, e4, _⟩ := DataW.trod_int Tryz.underlying3 g4
      simp at e0 e1 e2 e3 e4
      subst e0 e1 e2 e3 e4
      unfold maxLen at w1 w2 w3
      exact ⟨⟨k, s1, s2, s3, v⟩, rfl, by dsimp only; omega, by dsimp only; omega, by dsimp only; omega⟩
set_option maxRecDepth 100000 in
theorem open_ops30 {c : Value} (h : DataW.trod enc Tryz.prog W base spare held n 23 [c] = some y) :
    ∃ a cap xs, c = .slice a xs.length cap ∧ OpRsAt W a xs ∧ xs.length ≤ 9223372036854775807 ∧ ∀ j, j < xs.length → (opRAt xs j).key.size ≤ 9223372036854775807 ∧ (opRAt xs j).val.size ≤ 9223372036854775807 ∧ (opRAt xs j).old.size ≤ 9223372036854775807 := by
  rcases open_slice Tryz.underlying23 h with ⟨hcs, _⟩ | ⟨a, len, cap, m, n, D, Pl, hcs, _, hl, hm, hmm, _, hi⟩
  · simp at hcs
    subst hcs
    exact ⟨none, 0, [], rfl, .inl rfl, by simp, fun j hj => absurd hj (Nat.not_lt_zero j)⟩
  · simp at hcs
    subst hcs
    have hlm : len ≤ m := by rw [hmm]; split <;> omega
    have each : ∀ i, i < len → ∃ x : OpR, (W.cell? (a.add (i * 5)) = some (.int .i64 x.kind) ∧ W.cell? (a.add (i * 5 + 1)) = some (.string x.key) ∧ W.cell? (a.add (i * 5 + 2)) = some (.string x.val) ∧ W.cell? (a.add (i * 5 + 3)) = some (.string x.old) ∧ W.cell? (a.add (i * 5 + 4)) = some (.int .i64 x.ver)) ∧ x.key.size ≤ 9223372036854775807 ∧ x.val.size ≤ 9223372036854775807 ∧ x.old.size ≤ 9223372036854775807 := by
      intro i hil
      obtain ⟨cs', hc, ht⟩ := hi i (by omega)
      rw [cells_op30] at hc
      obtain ⟨_, hlen, hat⟩ := World.cells?_some hc
      obtain ⟨x, rfl, hx⟩ := open_op30 hlen ht
      refine ⟨x, ⟨?_, ?_, ?_, ?_, ?_⟩, hx⟩
      · have := hat 0 (by omega); rw [add_add] at this; exact this
      · have := hat 1 (by omega); rw [add_add] at this; exact this
      · have := hat 2 (by omega); rw [add_add] at this; exact this
      · have := hat 3 (by omega); rw [add_add] at this; exact this
      · have := hat 4 (by omega); rw [add_add] at this; exact this
    obtain ⟨X, hX⟩ := choose_lt each
    have hlenX : ((List.range len).map X).length = len := by simp
    have hatX : ∀ j, j < len → opRAt ((List.range len).map X) j = X j := fun j hj => by unfold opRAt; simp [hj]
    refine ⟨some a, cap, (List.range len).map X, by rw [hlenX], ?_, by rw [hlenX]; unfold maxLen at hm; omega, ?_⟩
    · by_cases h0 : len = 0
      · left; rw [h0]; rfl
      · right
        obtain ⟨b, off, spot⟩ := a
        have hs : spot = none := by
          have := (hX 0 (by omega)).1.1
          simpa [Addr.add] using World.cell?_spot this
        subst hs
        refine ⟨b, off, rfl, block_lt_of_cell (by have := (hX 0 (by omega)).1.1; simpa [Addr.add] using this), ?_, ?_, ?_, ?_, ?_⟩ <;> intro j hj <;> rw [hlenX] at hj <;> rw [hatX j hj]
        · have := (hX j hj).1.1; rwa [Addr.add_lit] at this
        · have := (hX j hj).1.2.1; rwa [Addr.add_lit, ← Nat.add_assoc] at this
        · have := (hX j hj).1.2.2.1; rwa [Addr.add_lit, ← Nat.add_assoc] at this
        · have := (hX j hj).1.2.2.2.1; rwa [Addr.add_lit, ← Nat.add_assoc] at this
        · have := (hX j hj).1.2.2.2.2; rwa [Addr.add_lit, ← Nat.add_assoc] at this
    · intro j hj
      rw [hlenX] at hj
      rw [hatX j hj]
      exact (hX j hj).2
theorem open_bytes30 {c : Value} (h : DataW.trod enc Tryz.prog W base spare held n 24 [c] = some y) : ∃ a l cap, c = .slice a l cap ∧ l ≤ 9223372036854775807 := by
  rcases open_slice Tryz.underlying24 h with ⟨hcs, _⟩ | ⟨a, len, cap, m, n, D, Pl, hcs, _, hl, hm, _, _, _⟩
  · simp at hcs; exact ⟨none, 0, 0, hcs, Nat.zero_le _⟩
  · simp at hcs; unfold maxLen at hm; exact ⟨some a, len, cap, hcs, by omega⟩
theorem open_entry30 (hl : cs.length = 12) (h : DataW.trod enc Tryz.prog W base spare held n 26 cs = some y) :
    ∃ e : En, cs = e.vals ∧ OpRsAt W e.opsA e.ops ∧ AcFits ⟨e, 0⟩ := by
  match cs, hl with
  | [c0, c1, c2, c3, c4, c5, c6, c7, c8, c9, c10, c11], _ =>
    obtain ⟨xs, n', _, hx, _, hlen, hg⟩ := DataW.trod_struct Tryz.underlying26 h
    have g0 := hg 0 _ rfl
    have g1 := hg 1 _ rfl
    have g2 := hg 2 _ rfl
    have g3 := hg 3 _ rfl
    have g4 := hg 4 _ rfl
    have g5 := hg 5 _ rfl
    have g6 := hg 6 _ rfl
    have g7 := hg 7 _ rfl
    have g8 := hg 8 _ rfl
    have g9 := hg 9 _ rfl
    have g10 := hg 10 _ rfl
    have g11 := hg 11 _ rfl
    match xs, hlen with
    | [y0, y1, y2, y3, y4, y5, y6, y7, y8, y9, y10, y11], _ =>
      simp [cells_int30, cells_str30, cells_ops30, cells_bytes30] at g0 g1 g2 g3 g4 g5 g6 g7 g8 g9 g10 g11
      obtain ⟨k0, e0, _⟩ := DataW.trod_int Tryz.underlying3 g0
      obtain ⟨k1, e1, _⟩ := DataW.trod_int Tryz.underlying3 g1
      obtain ⟨k2, e2, _⟩ := DataW.trod_int Tryz.underlying3 g2
      obtain ⟨k3, e3, _⟩ := DataW.trod_int Tryz.underlying3 g3
      obtain ⟨k4, e4, _⟩ := DataW.trod_int Tryz.underlying3 g4
      obtain ⟨k5, e5, _⟩ := DataW.trod_int Tryz.underlying3 g5
      obtain ⟨oa, oc, os, e6, hops, hol, hos⟩ := open_ops30 g6
      obtain ⟨s7, e7, _, w7⟩ := DataW.trod_string Tryz.underlying9 g7
      obtain ⟨k8, e8, _⟩ := DataW.trod_int Tryz.underlying3 g8
      obtain ⟨k9, e9, _⟩ := DataW.trod_int Tryz.underlying3 g9
      obtain ⟨k10, e10, _⟩ := DataW.trod_int Tryz.underlying3 g10
      obtain ⟨da, dl, dc, e11, hdl⟩ := open_bytes30 g11
      simp at e0 e1 e2 e3 e4 e5 e7 e8 e9 e10
      subst e0 e1 e2 e3 e4 e5 e6 e7 e8 e9 e10 e11
      unfold maxLen at w7
      exact ⟨⟨k0, k1, k2, k3, k4, k5, s7, k8, k9, k10, os, oa, oc, da, dl, dc⟩, rfl, hops, hol, by dsimp only; omega, hdl, hos⟩
theorem open_act30 (hl : cs.length = 13) (h : DataW.trod enc Tryz.prog W base spare held n 28 cs = some y) :
    ∃ x : Ac, cs = x.vals ∧ OpRsAt W x.e.opsA x.e.ops ∧ AcFits x := by
  obtain ⟨xs, n', _, hx, _, hlen, hg⟩ := DataW.trod_struct Tryz.underlying28 h
  have g0 := hg 0 _ rfl
  have g1 := hg 1 _ rfl
  match xs, hlen with
  | [y0, y1], _ =>
    change DataW.trod enc Tryz.prog W base spare held n' 26 ((cs.drop 0).take (Tryz.prog.cellsOf 26)) = some y0 at g0
    change DataW.trod enc Tryz.prog W base spare held n' 3 ((cs.drop 12).take (Tryz.prog.cellsOf 3)) = some y1 at g1
    rw [cells_entry30, List.drop_zero] at g0
    rw [cells_int30] at g1
    obtain ⟨e, he, hops, hfit⟩ := open_entry30 (by rw [List.length_take]; omega) g0
    obtain ⟨k, hk, _⟩ := DataW.trod_int Tryz.underlying3 g1
    refine ⟨⟨e, k⟩, ?_, hops, hfit⟩
    have e1 : cs = cs.take 12 ++ cs.drop 12 := (List.take_append_drop 12 cs).symm
    have e2 : cs.drop 12 = (cs.drop 12).take 1 := (List.take_of_length_le (by rw [List.length_drop]; omega)).symm
    rw [e1, he, e2, hk]
    rfl
end
set_option maxRecDepth 100000 in
theorem open_acts30 {H : Type} {enc : TypeId × Value → H} {W : World} {held : Bool} {base0 : Nat} {v : Value} {d : DataW H} {p : List MemPlace} (hv : Value.okWide Tryz.prog W .any base0 22 v)
    (h : DataW.Trod enc Tryz.prog W 0 (fun _ => true) held 22 v d p) :
    ∃ a cap xs, v = .slice a xs.length cap ∧ AcsAt W a xs ∧ (∀ j, j < xs.length → AcFits (acAt xs j)) ∧ (xs = [] ∨ ∃ es sp, d = .slice es sp ∧ es.length = xs.length) := by
  obtain ⟨a0, l0, c0, rfl⟩ := okWide_slice Tryz.underlying22 hv
  obtain ⟨fuel, hf⟩ := h
  rcases open_slice Tryz.underlying22 hf with ⟨hcs, _⟩ | ⟨a, len, cap, m, n, D, Pl, hcs, _, hl, hm, hmm, hx, hi⟩
  · simp [Value.cells] at hcs
    obtain ⟨rfl, rfl, rfl⟩ := hcs
    refine ⟨none, 0, [], rfl, ⟨.inl rfl, fun j hj => absurd hj (Nat.not_lt_zero j)⟩, fun j hj => absurd hj (Nat.not_lt_zero j), .inl rfl⟩
  · simp [Value.cells] at hcs
    obtain ⟨rfl, rfl, rfl⟩ := hcs
    simp only [if_true] at hmm
    subst hmm
    have each : ∀ i, i < l0 → ∃ x : Ac, (∀ k v, x.vals[k]? = some v → W.cell? (a.add (i * 13 + k)) = some v) ∧ OpRsAt W x.e.opsA x.e.ops ∧ AcFits x := by
      intro i hil
      obtain ⟨cs', hc, ht⟩ := hi i (by omega)
      rw [cells_act30] at hc
      obtain ⟨_, hlen, hat⟩ := World.cells?_some hc
      obtain ⟨x, rfl, hx1, hx2⟩ := open_act30 hlen ht
      refine ⟨x, fun k v hk => ?_, hx1, hx2⟩
      have hkl := (List.getElem?_eq_some_iff.1 hk).1
      have := hat k (by omega)
      rw [add_add] at this
      rw [this, hk]
    obtain ⟨X, hX⟩ := choose_lt each
    have hlenX : ((List.range l0).map X).length = l0 := by simp
    have hatX : ∀ j, j < l0 → acAt ((List.range l0).map X) j = X j := fun j hj => by unfold acAt; simp [hj]
    refine ⟨some a, m, (List.range l0).map X, by rw [hlenX], ⟨?_, ?_⟩, ?_, .inr ⟨(List.range l0).map D, _, (Prod.mk.inj hx).1, by simp⟩⟩
    · by_cases h0 : l0 = 0
      · left; rw [h0]; rfl
      · right
        obtain ⟨b, off, spot⟩ := a
        have hcell0 := (hX 0 (by omega)).1 0 _ rfl
        have hs : spot = none := by simpa [Addr.add] using World.cell?_spot hcell0
        subst hs
        refine ⟨b, off, rfl, block_lt_of_cell (by simpa [Addr.add] using hcell0), ?_⟩
        intro j hj k v hk
        rw [hlenX] at hj
        rw [hatX j hj] at hk
        have := (hX j hj).1 k v hk
        rwa [Addr.add_lit, ← Nat.add_assoc] at this
    · intro j hj
      rw [hlenX] at hj
      rw [hatX j hj]
      exact (hX j hj).2.1
    · intro j hj
      rw [hlenX] at hj
      rw [hatX j hj]
      exact (hX j hj).2.2
end Go.Proofs.YtbdagllflamabaaGreatDoor
