/- The walk of tidewaterlaw20.ShardsAgain. -/
import Derived.Test.YtajoihpjnnnkeaaDoorLaw20c
set_option linter.unusedVariables false
set_option linter.unusedSectionVars false
set_option linter.unusedSimpArgs false
namespace Go.Proofs.YtajoihpjnnnkeaaDoor
open Go.RowKit Go.Maps
attribute [local go_sem] Oper.semAt_some uponV

/-- The map behind the first k acts. -/
def PlayAt (w3 : World) (sb : Nat) (xs : List Ac) (k : Nat) (wr : World) : Prop := ∃ Fk, StAt wr Fk sb (Pl.playP (xs.take k)) ∧ (∀ j, Fk j → w3.heap.size ≤ j) ∧ Grew w3 wr

/-- The same shards, but since when. -/
def Same20 (xs ys : List Sh) : Prop := xs.length = ys.length ∧ ∀ j, j < ys.length → (shAt xs j).id = (shAt ys j).id ∧ (shAt xs j).server = (shAt ys j).server ∧ (shAt xs j).lo = (shAt ys j).lo ∧ (shAt xs j).hi = (shAt ys j).hi
theorem Same20.refl (xs : List Sh) : Same20 xs xs := ⟨rfl, fun _ _ => ⟨rfl, rfl, rfl, rfl⟩⟩

theorem enAt_short {W : World} {A : Ac} (h : OpRsAt W A.e.opsA A.e.ops) (hs : A.e.ops.length ≤ 20 ∧ A.e.key.size ≤ 300 ∧ A.e.dataL ≤ 600 ∧ ∀ o ∈ A.e.ops, o.key.size ≤ 300 ∧ o.val.size ≤ 300 ∧ o.old.size ≤ 300) : EnAt W A.e :=
  ⟨h, by omega, fun o ho => by obtain ⟨a, b, c⟩ := hs.2.2.2 o ho; exact ⟨by omega, by omega, by omega⟩, by omega⟩

set_option maxRecDepth 100000 in
set_option maxHeartbeats 8000000 in
theorem shardsAgain_walk {S : Nat → Bool} (hS : ShdS S) (E : Nat → Addr) (a : Option Addr) (cap : Nat) (xs : List Ac) (e : En) (w : World) (hE : Errs S E w) (hA : AcsAt w a xs) (hbig : xs.length * 144 ≤ 140737488351232) (hk : ∀ j, j < xs.length → AcFits (acAt xs j)) (heA : OpRsAt w e.opsA e.ops) (hef : AcFits ⟨e, 0⟩) :
    Calls Tryd.prog 3 #[.slice a xs.length cap, e.agg] w fun e w' => e = .returned (.bool true) ∧ Grew w w' := by
  have HE := hid hE
  have HA := hid hA
  have HK := hid hk
  have HEA := hid heA
  have HEF := hid hef
  have HBX := hid (EnBox.of_alloc w e 26)
  clear hE hA hk heA hef
  unfold En.agg at *
  unfold En.vals at HBX ⊢
  go_enter Tryd.func3, Tryd.ntmps3
  go_wp2_with fail
  refine (alive20 hS E _ (HE.out.grew ((Grew.refl w).alloc _))).mono ?_
  rintro r w1 ⟨rfl, hg⟩
  have hz : w.heap.size < w1.heap.size := by have := hg.size; simp at this; omega
  have HG := hid (((Grew.refl w).alloc _).trans hg)
  have HB1 := hid (HBX.out.grew hg (by simp))
  have HFZ1 := hid (show w1.frozen? ⟨w.heap.size, 0, none⟩ = false from (hg.cells.2 _ _ (by simp)).trans (by simp [go_sem]))
  clear hg HBX
  obtain ⟨d0, d1, d2, d3, d4, d5, d6, d7, d8, d9, d10, d11⟩ := HB1.out.cells
  obtain ⟨g2, c2, w2, hrun, hA2, hG2⟩ := app_acts w1 a cap xs (HA.out.grew HG.out) (by omega) ⟨e, 0⟩ (HEA.out.grew HG.out)
  have HR := hid hrun
  have HA2 := hid hA2
  have HG2 := hid hG2
  clear hrun hA2 hG2
  go_wp2_with (at_builtin; refine wpList_append_run _ rfl _ _ _ _ rfl _ _ HR.out ?_)
  have HL := hid (long20_any (some ⟨g2, 0, none⟩) c2 (⟨e, 0⟩ :: xs) w2 HA2.out (by simp; omega) (fun j hj => by
    cases j with
    | zero => exact HEF.out
    | succ j => exact HK.out j (by simpa using hj)))
  rw [show (((⟨e, 0⟩ : Ac) :: xs).length) = 1 + xs.length from Nat.add_comm _ _] at HL
  clear HR
  go_wp2_with fail
  refine HL.out.mono ?_
  rintro r w3 ⟨rfl, hg3⟩
  have HG3 := hid (HG2.out.trans hg3)
  cases hlong : long20B (⟨e, 0⟩ :: xs) with
  | true =>
    clear HL d0 d1 d2 d3 d4 d5 d6 d7 d8 d9 d10 d11
    go_wp2_with fail
    go_ret
    exact ⟨rfl, HG.out.trans HG3.out⟩
  | false =>
    obtain ⟨hl60, hshort⟩ := long20_short hlong
    have HSH := hid hshort
    have hxl : xs.length ≤ 59 := by simp at hl60; omega
    clear HL hlong hl60 hshort d0 d1 d2 d3 d4 d5 d6 d7 d8 d9 d10 d11 hg3
    go_wp2_with fail
    refine (newM_any w3).mono ?_
    rintro r w4 ⟨sb, rfl, hg4, hsb, F, hM, hF⟩
    have HM0 := hid hM
    have HF0 := hid hF
    have HG4 := hid (HG.out.trans (HG3.out.trans hg4))
    have HB4 := hid (HB1.out.grew (HG3.out.trans hg4) hz)
    clear hM hF
    go_wp2_with fail
    have HINV := hid (fun k => Pl.inv_play (xs.take k))
    have HK2 := hid (fun k => show (Pl.playP (xs.take k)).xs.length ≤ 1000 ∧ (Pl.playP (xs.take k)).ne ≤ 1000000 from by
      have h1 := (HINV.out k).len
      have h2 := (HINV.out k).few
      rw [List.length_take] at h1 h2
      omega)
    have HP0 : Hid (PlayAt w3 sb xs 0 w4) := by
      refine ⟨F, ?_, HF0.out, hg4⟩
      exact HM0.out
    have HG3' := hid (HG.out.trans HG3.out)
    have HB3 := hid (HB1.out.grew HG3.out hz)
    have HFZ := hid (show w3.frozen? ⟨w.heap.size, 0, none⟩ = false from (HG3.out.cells.2 _ _ hz).trans HFZ1.out)
    have hz3 : w.heap.size < w3.heap.size := Nat.lt_of_lt_of_le hz HG3.out.size
    clear HM0 HF0 HG4 HB4 hg4 HB1 HA2 HG2 HG HG3
    go_loopw [27] (fun i wr => ∃ k : Nat, k ≤ xs.length ∧ i = .int .i64 k ∧ Hid (PlayAt w3 sb xs k wr)) (fun i _ => xs.length - (intOf i).toNat)
    case atStart => exact ⟨0, Nat.zero_le _, rfl, HP0⟩
    case round =>
      obtain ⟨k, hk1, rfl, HP⟩ := hrel
      obtain ⟨wo, rfl⟩ : ∃ wo : World, wo = wr := ⟨_, rfl⟩
      by_cases hlt : k < xs.length
      · rcases HA.out.row with h0 | ⟨b, off, rfl, hb, hR⟩
        · rw [h0] at hlt; simp at hlt
        obtain ⟨Fk, hst, hFk, hGk⟩ := HP.out
        have hGw := HG3'.out.trans hGk
        obtain ⟨q0, q1, q2, q3, q4, q5, q6, q7, q8, q9, q10, q11, q12⟩ := ac_cells (W := wo) (b := b) (off := off + k * 13) (a := acAt xs k) (fun i v hv => (hGw.cells.1 _ _ hb).trans (hR k hlt i v hv))
        have hsh := HSH.out (k + 1) (by simp; omega)
        rw [show acAt (⟨e, 0⟩ :: xs) (k + 1) = acAt xs k from rfl] at hsh
        have HAP := hid (fun W (g : Grew w W) (h : StAt W Fk sb (Pl.playP (xs.take k))) => apply_any hS E (HE.out.grew g) h (HK2.out k).1 (HK2.out k).2 (acAt xs k).e (enAt_short ((HA.out.ops k hlt).grew g) hsh) (by omega) (acAt xs k).at')
        have HPS := hid (Pl.play_snoc xs k hlt)
        have HST := hid hst
        have HFk := hid hFk
        have HGk := hid hGk
        have HGw := hid hGw
        clear hst hFk hGk hGw hR hsh
        generalize acAt xs k = A at *
        obtain ⟨⟨kind, shard, other, server, client, seq, key, upto, part, parts, ops, opsA, opsC, dataA, dataL, dataC⟩, at'⟩ := A
        unfold En.agg En.vals at HAP
        dsimp only at *
        go_wp2_with fail
        refine (HAP.out _ (HGw.out.alloc _) (HST.out.grew ((Grew.refl wo).alloc _))).mono ?_
        rintro r w6 ⟨rfl, ho, F6, h6, hF6⟩
        have HP6 : Hid (PlayAt w3 sb xs (k + 1) w6) := by
          refine ⟨F6, by rw [HPS.out]; exact h6, fun j hj => ?_, (((HGk.out.alloc _).only Fk).then ho).grew HFk.out⟩
          rcases hF6 j hj with h | h
          · exact HFk.out j h
          · have := HGk.out.size; simp at h; omega
        clear ho h6 hF6 q0 q1 q2 q3 q4 q5 q6 q7 q8 q9 q10 q11 q12 HAP HST
        go_wp2_with fail
        go_roundw
        case rel => exact ⟨k + 1, by omega, by go_num, HP6⟩
        case measure => simp [intOf]; omega
      · obtain rfl : k = xs.length := by omega
        go_wp2_with fail
        obtain ⟨F5, hst, hF5, hG5⟩ := HP.out
        have HTK := hid (HK2.out xs.length)
        have HTI := hid (HINV.out xs.length)
        have HHE := hid (HSH.out 0 (by simp))
        rw [show acAt (⟨e, 0⟩ :: xs) 0 = ⟨e, 0⟩ from rfl] at HHE
        generalize Pl.playP (xs.take xs.length) = T at *
        have HF5 := hid hF5
        have HST5 : Hid (∀ j, F5 j → j < wo.heap.size) := by obtain ⟨_, _, h⟩ := hst; exact h.lt
        have HG5 := hid (HG3'.out.trans hG5)
        have HG5' := hid hG5
        have HST := hid hst
        refine (shards_any hst HTK.out.1 HTI.out.pos).mono ?_
        rintro r w7 ⟨g7, c7, rfl, hrow, hg7⟩
        have hg7l : wo.heap.size ≤ g7 := by
          obtain ⟨g', c', e', hb, _⟩ := hrow.form HTI.out.pos
          cases e'; exact hb
        have HROW := hid (ownsRow_base (Nat.zero_le _) hrow)
        have HG7 := hid (HG5'.out.trans hg7)
        have HB7 := hid (HB3.out.grew HG7.out hz3)
        obtain ⟨d0, d1, d2, d3, d4, d5, d6, d7, d8, d9, d10, d11⟩ := HB7.out.cells
        have hfz : w7.frozen? ⟨w.heap.size, 0, none⟩ = false := (HG7.out.cells.2 _ _ hz3).trans (HFZ.out)
        have HST7 := hid (HST.out.grew hg7)
        have HG07 := hid (HG5.out.trans hg7)
        have hz7 : w.heap.size < w7.heap.size := Nat.lt_of_lt_of_le hz3 HG7.out.size
        have hzo : w.heap.size < wo.heap.size := Nat.lt_of_lt_of_le hz3 HG5'.out.size
        have hg7s : g7 < w7.heap.size := by
          obtain ⟨g', c', e', _, hlt⟩ := hrow.form HTI.out.pos
          cases e'; exact hlt
        clear hrow hg7 hst hF5 hG5 HP HST
        go_wp2_with fail
        -- e.Kind = api.Split
        have HAG : Hid (AgAt w (w7.setCell ⟨w.heap.size, 0, none⟩ (.int .i64 3)) F5 sb T g7 c7 T.xs { e with kind := 3 }) := by
          have ho := Only.setCell w7 ⟨w.heap.size, 0, none⟩ (.int .i64 3)
          have hlow : ∀ j, F5 j → w.heap.size < j := fun j hj => Nat.lt_of_lt_of_le hz3 (HF5.out j hj)
          refine ⟨SmAt.kept HST7.out ho (fun j hj e0 => ?_), hlow, fun hg => ?_, ownsRow_keep ho HROW.out (fun b hb e0 => ?_), by simpa using hg7s, by omega, fun k v hv => ?_, by simpa using hz7, ?_⟩
          · have e1 : j = w.heap.size := e0
            have := hlow j hj; omega
          · obtain ⟨_, _, h5⟩ := HST7.out
            have hsz := HST5.out g7 hg
            omega
          · have e1 : b = w.heap.size := e0
            have : g7 = b := Option.some.inj hb
            omega
          · by_cases hk0 : k = 0
            · subst hk0
              have : v = .int .i64 3 := by simpa [En.vals] using hv.symm
              rw [this]
              exact World.cell?_setCell_same' _ _ _ (by rw [d0]; rfl)
            · rw [World.cell?_setCell_other _ _ _ _ (by intro e0; injection e0 with _ e0; exact hk0 e0.symm)]
              refine HB7.out k v ?_
              rw [← hv]
              match k, hk0 with
              | k + 1, _ => rfl
          · exact HG07.out.setCell (p := ⟨w.heap.size, 0, none⟩) (Nat.le_refl _) _
        generalize w7.setCell ⟨w.heap.size, 0, none⟩ (.int .i64 3) = w8 at *
        have HEN := hid (fun W (g : Grew w W) => (⟨HEA.out.grew g, (show e.ops.length ≤ 1000000 from by have := HHE.out.1; omega), fun o ho => by obtain ⟨a1, a2, a3⟩ := HHE.out.2.2.2 o ho; exact ⟨by omega, by omega, by omega⟩, (show e.key.size ≤ 140737488351232 from by have := HHE.out.2.1; omega)⟩ : EnAt W { e with kind := 3 }))
        have HKY := hid (show e.key.size ≤ 70368744177664 from by have := HHE.out.2.1; omega)
        have HCT := hid (ag_counts hS E HE.out HAG.out HTK.out.1 { e with kind := 3 } (HEN.out _ HAG.out.grew) HKY.out)
        unfold En.agg En.vals at HCT
        dsimp only at HCT
        clear d0 d1 d2 d3 d4 d5 d6 d7 d8 d9 d10 d11 hfz HST7 HB7 HROW HG07 HG7
        refine HCT.out.mono ?_
        rintro r w9 ⟨rfl, h9⟩
        have HAG9 := hid h9
        clear h9 HCT HAG HG5 HG5' HK2 HINV HP0 HB3 HG3' HFZ HFZ1 HF5 HST5
        have hnI : ((T.xs.length + 1 : Nat) : Int) = (T.xs.length : Int) + 1 := by omega
        have hwn : IntKind.i64.wrap ((T.xs.length : Int) + 1) = (T.xs.length : Int) + 1 := IntWalk.i64_in _ (by have := HTK.out.1; omega)
        cases hc : Pl.countsB T.xs T.used { e with kind := 3 } with
        | false =>
          have HAGX := hid (show ∃ FX TX, AgAt w w9 FX sb TX g7 c7 T.xs { e with kind := 3 } ∧ Pl.Inv TX 70 ∧ Same20 TX.xs T.xs from ⟨F5, T, HAG9.out, HTI.out.more (by have := HTI.out.len; rw [List.length_take]; omega), Same20.refl _⟩)
          clear HAG9
          go_wp2_with fail
          clear hwn hnI
          have hTl : T.xs.length ≤ 1000 := HTK.out.1
          obtain ⟨FX, TX, hX, hXI, hXS⟩ := HAGX.out
          have HXI := hid hXI
          have HXS := hid hXS
          have hXl : TX.xs.length ≤ 71 := by have := hXI.len; omega
          have hXn : TX.ne ≤ 70 := hXI.few
          have hXe : TX.xs.length = T.xs.length := hXS.1
          have hTp := HTI.out.pos
          have HXE := hid hXe
          have HSN := hid (ag_shards hX (by omega) hXI.pos)
          rw [hXe] at HSN
          clear hX hXI hXS hXe HAGX
          refine HSN.out.mono ?_
          rintro r wa ⟨gn, cn, rfl, hrn, hAa, _⟩
          have HA1 := hid hAa
          have HRN := hid hrn
          have hgnl : gn < wa.heap.size := by
            obtain ⟨g', c', e', _, hlt⟩ := hrn.form (by omega)
            cases e'; exact hlt
          clear hAa hrn HSN
          go_wp2_with fail
          -- for i := range now
          go_loopw [81] (fun i wr => ∃ k : Nat, k ≤ T.xs.length ∧ i = .int .i64 k ∧ Hid (Grew wa wr)) (fun i _ => T.xs.length - (intOf i).toNat)
          case atStart => exact ⟨0, Nat.zero_le _, rfl, Grew.refl wa⟩
          case round =>
            obtain ⟨k, hk1, rfl, hGr⟩ := hrel
            obtain ⟨wo2, rfl⟩ : ∃ wo2 : World, wo2 = wr := ⟨_, rfl⟩
            by_cases hlt2 : k < T.xs.length
            · obtain ⟨s0, s1, s2, s3⟩ := HXS.out.2 k hlt2
              have nc : ∀ q, q < 5 → wo2.cell? ⟨gn, k * 5 + q, none⟩ = (shAt TX.xs k).vals[q]? := fun q hq => by
                have hk5 : k * 5 + q < T.xs.length * 5 := by omega
                rw [hGr.out.cells.1 _ _ hgnl, ← shFlat_get q hq TX.xs k (by rw [HXE.out]; exact hlt2)]
                exact HRN.out.cellAt _ hk5
              have wc : ∀ q, q < 5 → wo2.cell? ⟨g7, k * 5 + q, none⟩ = (shAt T.xs k).vals[q]? := fun q hq => by
                have hk5 : k * 5 + q < T.xs.length * 5 := by omega
                rw [hGr.out.cells.1 _ _ HA1.out.rlt, ← shFlat_get q hq T.xs k hlt2]
                exact HA1.out.row.cellAt _ hk5
              have n0 := nc 0 (by omega)
              have n1 := nc 1 (by omega)
              have n3 := nc 3 (by omega)
              have n4 := nc 4 (by omega)
              have m0 := wc 0 (by omega)
              have m1 := wc 1 (by omega)
              have m3 := wc 3 (by omega)
              have m4 := wc 4 (by omega)
              simp only [Sh.vals, List.getElem?_cons_zero, List.getElem?_cons_succ, Nat.add_zero, s0, s1, s2, s3] at n0 n1 n3 n4 m0 m1 m3 m4
              have hkI : (k : Int) < (T.xs.length : Int) := by omega
              generalize (shAt T.xs k).id = x0 at *
              generalize (shAt T.xs k).server = x1 at *
              generalize (shAt T.xs k).lo = x3 at *
              generalize (shAt T.xs k).hi = x4 at *
              clear nc wc s0 s1 s2 s3
              go_wp2_with fail
              go_quiet (fail)
              go_wp2_with fail
              go_roundw
              case rel => exact ⟨k + 1, by omega, by go_num, (hGr.out.drewN _)⟩
              case measure => simp [intOf]; omega
            · obtain rfl : k = T.xs.length := by omega
              have HA2 := hid (HA1.out.more hGr.out)
              clear HA1 HRN hGr
              have wc : ∀ q, q < 5 → wo2.cell? ⟨g7, q, none⟩ = (shAt T.xs 0).vals[q]? := fun q hq => by
                rw [← shFlat_get q hq T.xs 0 hTp]
                have := HA2.out.row.cellAt q (by omega)
                rw [this, Nat.zero_mul, Nat.zero_add]
              have m0 := wc 0 (by omega)
              have m1 := wc 1 (by omega)
              have m2 := wc 2 (by omega)
              have m3 := wc 3 (by omega)
              have m4 := wc 4 (by omega)
              have hsv := HTI.out.srv _ (shAt_mem T.xs 0 hTp)
              have hid0 := HXS.out.2 0 hTp
              obtain ⟨y0, y1, y2, y3, y4, hye⟩ : ∃ y0 y1 y2 y3 y4, shAt T.xs 0 = ⟨y0, y1, y2, y3, y4⟩ := ⟨_, _, _, _, _, rfl⟩
              rw [hye] at m0 m1 m2 m3 m4 hsv hid0
              simp only [Sh.vals, List.getElem?_cons_zero, List.getElem?_cons_succ] at m0 m1 m2 m3 m4
              dsimp only at hsv hid0
              obtain ⟨hsv1, hsv2⟩ := hsv
              have HID := hid hid0
              have h0I : (0 : Int) < (T.xs.length : Int) := by omega
              clear wc hye hid0
              go_wp2_with fail
              have B0 := wd_cell (w := wo2.alloc (Obj.cells #[.int .i64 y0, .int .i64 y1, .int .i64 y2, .string y3, .string y4] 40)) (a := ⟨wo2.heap.size, 0, none⟩) (v := .int .i64 y0) (by simp [go_sem])
              have B1 := wd_cell (w := wo2.alloc (Obj.cells #[.int .i64 y0, .int .i64 y1, .int .i64 y2, .string y3, .string y4] 40)) (a := ⟨wo2.heap.size, 1, none⟩) (v := .int .i64 y1) (by simp [go_sem])
              have HAb := hid (HA2.out.more ((Grew.refl wo2).alloc (Obj.cells #[.int .i64 y0, .int .i64 y1, .int .i64 y2, .string y3, .string y4] 40)))
              have hbk : wo2.heap.size < (wo2.alloc (Obj.cells #[.int .i64 y0, .int .i64 y1, .int .i64 y2, .string y3, .string y4] 40)).heap.size := by simp
              generalize World.alloc wo2 _ = wb at *
              refine wp_region_mix 16 [12, 13, 14, 15] (Grew wb) Eq (JV [⟨12, 14, Pl.moveE y0 (1 + y1 % 4) |>.vals⟩, ⟨13, 15, Pl.moveE y0 y1 |>.vals⟩] wb) (fun f a => (a.put (some 12) (f 12)).put (some 13) (f 13)) (by kernel_rfl) (by kernel_rfl) (fun _ _ => rfl) (JV.start _ wb _) (fun _ _ _ h => h.grew) (fun _ => rfl) (fun _ _ _ _ h g => g ▸ h) ?_
              repeat (first
    | (refine wpMix_loose (by rfl) (by rfl) ?_)
    | (refine wpMix_plain (by rfl) (by rfl) (by rfl) (by first | exact Grew.refl | exact fun _ => rfl) (by rfl) ?_; intro K hK; go_big_quiet_op; go_big_quiet_on)
    | (refine wpMix_skip (by rfl) (by rfl) (by rfl) ?_; simp only [Act.put, List.setIfInBounds_toArray, List.set_cons_zero, List.set_cons_succ]))
              refine wpMix_nil ⟨⟨loose_of rfl (fun _ a => a) (fun _ _ => rfl) (fun _ => rfl) ?_, loose_of rfl (fun _ a => a) (fun _ _ => rfl) (fun _ => rfl) ?_, loose_of rfl (fun f a => (a.put (some 12) (f 12)).put (some 13) (f 13)) (fun _ _ => rfl) (fun _ => rfl) ?_, loose_of rfl (fun f a => (a.put (some 12) (f 12)).put (some 13) (f 13)) (fun _ _ => rfl) (fun _ => rfl) ?_, trivial⟩, ?_⟩
              · intro L f u hJ hL hd
                clear B0 B1
                have hm := hid (hJ.alloc (by rfl) (V := ⟨12, 14, Pl.moveE y0 (1 + y1 % 4) |>.vals⟩) (by simp) hL [.int .i64 0, .int .i64 0, .int .i64 0, .int .i64 0, .int .i64 0, .int .i64 0, .slice none 0 0, .string ⟨#[]⟩, .int .i64 0, .int .i64 0, .int .i64 0, .slice none 0 0] rfl 26)
                clear hJ
                go_simp
                exact hm.out
              · intro L f u hJ hL hd
                clear B0 B1
                have hm := hid (hJ.alloc (by rfl) (V := ⟨13, 15, Pl.moveE y0 y1 |>.vals⟩) (by simp) hL [.int .i64 0, .int .i64 0, .int .i64 0, .int .i64 0, .int .i64 0, .int .i64 0, .slice none 0 0, .string ⟨#[]⟩, .int .i64 0, .int .i64 0, .int .i64 0, .slice none 0 0] rfl 26)
                clear hJ
                go_simp
                exact hm.out
              · intro L f u hJ hL hd
                clear B0 B1
                have h12 := hd 12 rfl (by decide)
                obtain ⟨m, hm, hfz, k0, k1, k2, k3, k4, k5, k6, k7, k8, k9, k10, k11, j0, j1, j2, j3, j4, j5, j6, j7, j8, j9, j10, j11⟩ := hJ.twelve (V := ⟨12, 14, Pl.moveE y0 (1 + y1 % 4) |>.vals⟩) (by simp) h12 rfl
                dsimp only at hm
                have hs := hid (hJ.store (by rfl) (V := ⟨12, 14, Pl.moveE y0 (1 + y1 % 4) |>.vals⟩) (by simp) h12 hm)
                rw [hm]
                clear hJ hm
                go_simp
                exact hs.out
              · intro L f u hJ hL hd
                clear B0 B1
                have h13 := hd 13 rfl (by decide)
                obtain ⟨m, hm, hfz, k0, k1, k2, k3, k4, k5, k6, k7, k8, k9, k10, k11, j0, j1, j2, j3, j4, j5, j6, j7, j8, j9, j10, j11⟩ := hJ.twelve (V := ⟨13, 15, Pl.moveE y0 y1 |>.vals⟩) (by simp) h13 rfl
                dsimp only at hm
                have hs := hid (hJ.store (by rfl) (V := ⟨13, 15, Pl.moveE y0 y1 |>.vals⟩) (by simp) h13 hm)
                rw [hm]
                clear hJ hm
                go_simp
                exact hs.out
              · intro f u hJ
                obtain ⟨m12, q12, n12, l12, c12⟩ := hJ.full (V := ⟨12, 14, Pl.moveE y0 (1 + y1 % 4) |>.vals⟩) (by simp) rfl
                obtain ⟨m13, q13, n13, l13, c13⟩ := hJ.full (V := ⟨13, 15, Pl.moveE y0 y1 |>.vals⟩) (by simp) rfl
                dsimp only at q12 q13 c12 c13
                have HX0 := hid (HAb.out.more hJ.grew)
                have HFX : Hid (∀ j, FX j → j < wo2.heap.size) := by obtain ⟨_, _, h⟩ := HA2.out.st; exact h.lt
                have HM12 := hid (show EnBox u m12 (Pl.moveE y0 (1 + y1 % 4)) from fun k v hv => (c12 k v hv).1)
                have HM13 := hid (show EnBox u m13 (Pl.moveE y0 y1) from fun k v hv => (c13 k v hv).1)
                have S0 := B0 ⟨u, hJ.grew⟩
                have S1 := B1 ⟨u, hJ.grew⟩
                dsimp only at S0 S1
                have hbu : wo2.heap.size < u.heap.size := Nat.lt_of_lt_of_le hbk hJ.grew.size
                -- what the entries do
                have hid0 := HID.out
                obtain ⟨a1, a2⟩ := Pl.move_there HXI.out 0 HXI.out.pos (1 + y1 % 4) 11 (by omega) (by omega) (by omega) (by omega)
                rw [hid0.1] at a1 a2
                have HI1 := hid (Pl.inv_apply HXI.out (Pl.moveE y0 (1 + y1 % 4)) 11)
                have HI2 := hid (Pl.inv_apply HI1.out (Pl.moveE y0 y1) 12)
                have e10 : shAt (Pl.applyP TX (Pl.moveE y0 (1 + y1 % 4)) 11).xs 0 = ⟨y0, 1 + y1 % 4, (shAt TX.xs 0).since, (shAt TX.xs 0).lo, (shAt TX.xs 0).hi⟩ := by
                  rw [a2]; unfold shAt; rw [List.getElem?_set_self (by have := HXI.out.pos; omega)]; rfl
                have l1 : (Pl.applyP TX (Pl.moveE y0 (1 + y1 % 4)) 11).xs.length = T.xs.length := by rw [a2, List.length_set]; exact HXE.out
                obtain ⟨b1, b2⟩ := Pl.move_there HI1.out 0 HI1.out.pos y1 12 hsv1 hsv2 (by omega) (by omega)
                rw [e10] at b1 b2
                dsimp only at b1 b2
                have e20 : shAt (Pl.applyP (Pl.applyP TX (Pl.moveE y0 (1 + y1 % 4)) 11) (Pl.moveE y0 y1) 12).xs 0 = ⟨y0, y1, (shAt TX.xs 0).since, (shAt TX.xs 0).lo, (shAt TX.xs 0).hi⟩ := by
                  rw [b2]; unfold shAt; rw [List.getElem?_set_self (by have := HI1.out.pos; omega)]; rfl
                have l2 : (Pl.applyP (Pl.applyP TX (Pl.moveE y0 (1 + y1 % 4)) 11) (Pl.moveE y0 y1) 12).xs.length = T.xs.length := by rw [b2, List.length_set]; exact l1
                have hfind := Pl.find_at HI2.out.nodup 0 HI2.out.pos
                rw [e20] at hfind
                dsimp only at hfind
                have HAP := hid (apply_any hS E (HE.out.grew HX0.out.grew) HX0.out.st (by omega) (by omega) (Pl.moveE y0 (1 + y1 % 4)) ⟨.inl rfl, Nat.zero_le _, fun o ho => (by cases ho), Nat.zero_le _⟩ (Nat.zero_le _) 11)
                rw [a1] at HAP
                generalize Pl.applyP TX (Pl.moveE y0 (1 + y1 % 4)) 11 = T1 at *
                have hT1n : T1.ne ≤ 71 := HI1.out.few
                generalize hT2 : Pl.applyP T1 (Pl.moveE y0 y1) 12 = T2 at *
                have HT2 := hid hT2
                have HB1' := hid b1
                have HL2 := hid l2
                have HFD := hid hfind
                have HE20 := hid e20
                unfold En.agg En.vals Pl.moveE En.zero at HAP
                dsimp only [List.length_nil] at HAP
                obtain ⟨d0, d1, d2, d3, d4, d5, d6, d7, d8, d9, d10, d11⟩ := HM12.out.cells
                dsimp only [Pl.moveE, En.zero, List.length_nil] at d0 d1 d2 d3 d4 d5 d6 d7 d8 d9 d10 d11
                rw [q12, q13]
                clear hJ c12 c13 q12 q13 B0 B1 hT2 b1 l2 hfind e20 e10 a1 a2 b2 hid0 HM12
                dsimp only [List.drop, Act.put]
                go_wp2_with fail
                refine HAP.out.mono ?_
                rintro r u1 ⟨rfl, ho1, F1, h1, hF1⟩
                have hnb : ¬ FX wo2.heap.size := fun h => Nat.lt_irrefl _ (HFX.out _ h)
                have hn13 : ¬ FX m13 := fun h => by have := HFX.out _ h; omega
                have HX1 := hid (HX0.out.turn ho1 h1 hF1)
                have HM13a := hid (HM13.out.only ho1 l13 hn13)
                have S0a := (ho1.cell hbu hnb 0).trans S0
                have S1a := (ho1.cell hbu hnb 1).trans S1
                have hbu1 : wo2.heap.size < u1.heap.size := Nat.lt_of_lt_of_le hbu ho1.size
                have hnb1 : ¬ F1 wo2.heap.size := fun h => by
                  rcases hF1 _ h with h2 | h2
                  · exact hnb h2
                  · omega
                have HNB1 := hid hnb1
                have HAP2 := hid (apply_any hS E (HE.out.grew HX1.out.grew) HX1.out.st (by omega) (by omega) (Pl.moveE y0 y1) ⟨.inl rfl, Nat.zero_le _, fun o ho => (by cases ho), Nat.zero_le _⟩ (Nat.zero_le _) 12)
                rw [HB1'.out, HT2.out] at HAP2
                unfold En.agg En.vals Pl.moveE En.zero at HAP2
                dsimp only [List.length_nil] at HAP2
                clear d0 d1 d2 d3 d4 d5 d6 d7 d8 d9 d10 d11 HAP ho1 h1 hF1 S0 S1 HM13 HX0 HFX hnb hn13 hnb1
                obtain ⟨d0, d1, d2, d3, d4, d5, d6, d7, d8, d9, d10, d11⟩ := HM13a.out.cells
                dsimp only [Pl.moveE, En.zero, List.length_nil] at d0 d1 d2 d3 d4 d5 d6 d7 d8 d9 d10 d11
                go_wp2_with fail
                refine HAP2.out.mono ?_
                rintro r u2 ⟨rfl, ho2, F2, h2, hF2⟩
                have HX2 := hid (HX1.out.turn ho2 h2 hF2)
                have S0b := (ho2.cell hbu1 HNB1.out 0).trans S0a
                have S1b := (ho2.cell hbu1 HNB1.out 1).trans S1a
                have hbu2 : wo2.heap.size < u2.heap.size := Nat.lt_of_lt_of_le hbu1 ho2.size
                have HSH2 := hid (shardM_any HX2.out.st (by rw [HL2.out]; omega) y0)
                have hv : (Pl.shardV T2.xs y0) = ⟨y0, y1, (shAt TX.xs 0).since, (shAt TX.xs 0).lo, (shAt TX.xs 0).hi⟩ := by
                  unfold Pl.shardV; rw [HFD.out]; exact HE20.out
                rw [hv, HFD.out, show decide (0 ≤ ((0 : Nat) : Int)) = true from rfl] at HSH2
                have HX2' := hid HX2.out
                clear hv d0 d1 d2 d3 d4 d5 d6 d7 d8 d9 d10 d11 HAP2 ho2 h2 hF2 S0a S1a HM13a HX1 HNB1 HX2
                unfold Sh.aggOf Sh.vals at HSH2
                dsimp only at HSH2
                go_wp2_with fail
                refine HSH2.out.mono ?_
                rintro r u3 ⟨rfl, hg3⟩
                have S1c := (hg3.cells.1 _ _ hbu2).trans S1b
                have S0c := (hg3.cells.1 _ _ hbu2).trans S0b
                have hbu3 : wo2.heap.size < u3.heap.size := Nat.lt_of_lt_of_le hbu2 hg3.size
                have HX3 := hid (HX2'.out.more hg3)
                generalize (shAt TX.xs 0).since = t2 at *
                generalize (shAt TX.xs 0).lo = t3 at *
                generalize (shAt TX.xs 0).hi = t4 at *
                have HSS := hid (fun o => ag_shards (HX3.out.more ((Grew.refl u3).alloc o)) (by rw [HL2.out]; omega) (by rw [HL2.out]; exact hTp))
                rw [HL2.out] at HSS
                clear HSH2 hg3 S0b S1b HX2' HX3
                go_wp2_with fail
                refine (HSS.out _).mono ?_
                rintro r u4 ⟨gz, cz, rfl, _, h4, _⟩
                have hfin := h4.grew
                clear h4 HSS
                go_wp2_with fail
                go_ret
                exact ⟨rfl, hfin⟩
        | true =>
          obtain ⟨p1, p2, p3, p4, p5, p6⟩ := Pl.again HTI.out (e := { e with kind := 3 }) rfl hc
          have HI1 := hid (Pl.inv_apply HTI.out { e with kind := 3 } 9)
          have HI2 := hid (Pl.inv_apply HI1.out (Pl.backE { e with kind := 3 }) 10)
          have HP5 := hid p5
          have HP6 := hid p6
          have HAP := hid (ag_apply hS E HE.out HAG9.out HTK.out.1 HTK.out.2 { e with kind := 3 } (HEN.out _ HAG9.out.grew) HKY.out 9)
          rw [p1] at HAP
          generalize hT1 : Pl.applyP T { e with kind := 3 } 9 = T1 at *
          generalize hT2 : Pl.applyP T1 (Pl.backE { e with kind := 3 }) 10 = T2 at *
          have HT1 := hid hT1
          have HT2 := hid hT2
          have HP2 := hid p2
          have HP3 := hid p3
          have HP4 := hid p4
          have hT1l : T1.xs.length ≤ 100 := by have := HI1.out.len; rw [List.length_take] at this; omega
          have hT1n : T1.ne ≤ 100 := by have := HI1.out.few; rw [List.length_take] at this; omega
          have hT2l : T2.xs.length ≤ 100 := by have := HI2.out.len; rw [List.length_take] at this; omega
          obtain ⟨d0, d1, d2, d3, d4, d5, d6, d7, d8, d9, d10, d11⟩ := HAG9.out.box.cells
          dsimp only at d0 d1 d2 d3 d4 d5 d6 d7 d8 d9 d10 d11
          unfold En.agg En.vals at HAP
          dsimp only at HAP
          clear hT1 hT2 p1 p2 p3 p4 p5 p6
          go_wp2_with fail
          refine HAP.out.mono ?_
          rintro r w10 ⟨rfl, F10, h10⟩
          have H10 := hid h10
          have HSS := hid (ag_shards H10.out (by omega) HI1.out.pos)
          rw [HP2.out] at HSS
          clear d0 d1 d2 d3 d4 d5 d6 d7 d8 d9 d10 d11 h10 HAP HAG9
          go_wp2_with fail
          refine HSS.out.mono ?_
          rintro r w11 ⟨gs, cs, rfl, _, h11, _⟩
          have H11 := hid h11
          have HAP := hid (ag_apply hS E HE.out H11.out (by omega) (by omega) (Pl.backE { e with kind := 3 }) ⟨.inl rfl, Nat.zero_le _, fun o ho => (by cases ho), Nat.zero_le _⟩ (Nat.zero_le _) 10)
          rw [HP3.out, HT2.out] at HAP
          unfold En.agg En.vals Pl.backE En.zero at HAP
          dsimp only [List.length_nil] at HAP
          obtain ⟨d0, d1, d2, d3, d4, d5, d6, d7, d8, d9, d10, d11⟩ := H11.out.box.cells
          dsimp only at d0 d1 d2 d3 d4 d5 d6 d7 d8 d9 d10 d11
          clear h11 HSS H10
          go_wp2_with fail
          refine HAP.out.mono ?_
          rintro r w12 ⟨rfl, F12, h12⟩
          have H12 := hid h12
          have HCT := hid (ag_counts hS E HE.out H12.out (by omega) { e with kind := 3 } (HEN.out _ H12.out.grew) HKY.out)
          rw [HP4.out] at HCT
          unfold En.agg En.vals at HCT
          dsimp only at HCT
          clear d0 d1 d2 d3 d4 d5 d6 d7 d8 d9 d10 d11 h12 HAP H11
          obtain ⟨d0, d1, d2, d3, d4, d5, d6, d7, d8, d9, d10, d11⟩ := H12.out.box.cells
          dsimp only at d0 d1 d2 d3 d4 d5 d6 d7 d8 d9 d10 d11
          go_wp2_with fail
          refine HCT.out.mono ?_
          rintro r w13 ⟨rfl, h13⟩
          have HAGX := hid (show ∃ FX TX, AgAt w w13 FX sb TX g7 c7 T.xs { e with kind := 3 } ∧ Pl.Inv TX 70 ∧ Same20 TX.xs T.xs from ⟨F12, T2, h13, HI2.out.more (by rw [List.length_take]; omega), HP5.out, HP6.out⟩)
          clear d0 d1 d2 d3 d4 d5 d6 d7 d8 d9 d10 d11 h13 HCT H12 HI1 HI2 HP2 HP3 HP4 HP5 HP6 HT1 HT2
          go_wp2_with fail
          clear hwn hnI
          have hTl : T.xs.length ≤ 1000 := HTK.out.1
          obtain ⟨FX, TX, hX, hXI, hXS⟩ := HAGX.out
          have HXI := hid hXI
          have HXS := hid hXS
          have hXl : TX.xs.length ≤ 71 := by have := hXI.len; omega
          have hXn : TX.ne ≤ 70 := hXI.few
          have hXe : TX.xs.length = T.xs.length := hXS.1
          have hTp := HTI.out.pos
          have HXE := hid hXe
          have HSN := hid (ag_shards hX (by omega) hXI.pos)
          rw [hXe] at HSN
          clear hX hXI hXS hXe HAGX
          refine HSN.out.mono ?_
          rintro r wa ⟨gn, cn, rfl, hrn, hAa, _⟩
          have HA1 := hid hAa
          have HRN := hid hrn
          have hgnl : gn < wa.heap.size := by
            obtain ⟨g', c', e', _, hlt⟩ := hrn.form (by omega)
            cases e'; exact hlt
          clear hAa hrn HSN
          go_wp2_with fail
          -- for i := range now
          go_loopw [81] (fun i wr => ∃ k : Nat, k ≤ T.xs.length ∧ i = .int .i64 k ∧ Hid (Grew wa wr)) (fun i _ => T.xs.length - (intOf i).toNat)
          case atStart => exact ⟨0, Nat.zero_le _, rfl, Grew.refl wa⟩
          case round =>
            obtain ⟨k, hk1, rfl, hGr⟩ := hrel
            obtain ⟨wo2, rfl⟩ : ∃ wo2 : World, wo2 = wr := ⟨_, rfl⟩
            by_cases hlt2 : k < T.xs.length
            · obtain ⟨s0, s1, s2, s3⟩ := HXS.out.2 k hlt2
              have nc : ∀ q, q < 5 → wo2.cell? ⟨gn, k * 5 + q, none⟩ = (shAt TX.xs k).vals[q]? := fun q hq => by
                have hk5 : k * 5 + q < T.xs.length * 5 := by omega
                rw [hGr.out.cells.1 _ _ hgnl, ← shFlat_get q hq TX.xs k (by rw [HXE.out]; exact hlt2)]
                exact HRN.out.cellAt _ hk5
              have wc : ∀ q, q < 5 → wo2.cell? ⟨g7, k * 5 + q, none⟩ = (shAt T.xs k).vals[q]? := fun q hq => by
                have hk5 : k * 5 + q < T.xs.length * 5 := by omega
                rw [hGr.out.cells.1 _ _ HA1.out.rlt, ← shFlat_get q hq T.xs k hlt2]
                exact HA1.out.row.cellAt _ hk5
              have n0 := nc 0 (by omega)
              have n1 := nc 1 (by omega)
              have n3 := nc 3 (by omega)
              have n4 := nc 4 (by omega)
              have m0 := wc 0 (by omega)
              have m1 := wc 1 (by omega)
              have m3 := wc 3 (by omega)
              have m4 := wc 4 (by omega)
              simp only [Sh.vals, List.getElem?_cons_zero, List.getElem?_cons_succ, Nat.add_zero, s0, s1, s2, s3] at n0 n1 n3 n4 m0 m1 m3 m4
              have hkI : (k : Int) < (T.xs.length : Int) := by omega
              generalize (shAt T.xs k).id = x0 at *
              generalize (shAt T.xs k).server = x1 at *
              generalize (shAt T.xs k).lo = x3 at *
              generalize (shAt T.xs k).hi = x4 at *
              clear nc wc s0 s1 s2 s3
              go_wp2_with fail
              go_quiet (fail)
              go_wp2_with fail
              go_roundw
              case rel => exact ⟨k + 1, by omega, by go_num, (hGr.out.drewN _)⟩
              case measure => simp [intOf]; omega
            · obtain rfl : k = T.xs.length := by omega
              have HA2 := hid (HA1.out.more hGr.out)
              clear HA1 HRN hGr
              have wc : ∀ q, q < 5 → wo2.cell? ⟨g7, q, none⟩ = (shAt T.xs 0).vals[q]? := fun q hq => by
                rw [← shFlat_get q hq T.xs 0 hTp]
                have := HA2.out.row.cellAt q (by omega)
                rw [this, Nat.zero_mul, Nat.zero_add]
              have m0 := wc 0 (by omega)
              have m1 := wc 1 (by omega)
              have m2 := wc 2 (by omega)
              have m3 := wc 3 (by omega)
              have m4 := wc 4 (by omega)
              have hsv := HTI.out.srv _ (shAt_mem T.xs 0 hTp)
              have hid0 := HXS.out.2 0 hTp
              obtain ⟨y0, y1, y2, y3, y4, hye⟩ : ∃ y0 y1 y2 y3 y4, shAt T.xs 0 = ⟨y0, y1, y2, y3, y4⟩ := ⟨_, _, _, _, _, rfl⟩
              rw [hye] at m0 m1 m2 m3 m4 hsv hid0
              simp only [Sh.vals, List.getElem?_cons_zero, List.getElem?_cons_succ] at m0 m1 m2 m3 m4
              dsimp only at hsv hid0
              obtain ⟨hsv1, hsv2⟩ := hsv
              have HID := hid hid0
              have h0I : (0 : Int) < (T.xs.length : Int) := by omega
              clear wc hye hid0
              go_wp2_with fail
              have B0 := wd_cell (w := wo2.alloc (Obj.cells #[.int .i64 y0, .int .i64 y1, .int .i64 y2, .string y3, .string y4] 40)) (a := ⟨wo2.heap.size, 0, none⟩) (v := .int .i64 y0) (by simp [go_sem])
              have B1 := wd_cell (w := wo2.alloc (Obj.cells #[.int .i64 y0, .int .i64 y1, .int .i64 y2, .string y3, .string y4] 40)) (a := ⟨wo2.heap.size, 1, none⟩) (v := .int .i64 y1) (by simp [go_sem])
              have HAb := hid (HA2.out.more ((Grew.refl wo2).alloc (Obj.cells #[.int .i64 y0, .int .i64 y1, .int .i64 y2, .string y3, .string y4] 40)))
              have hbk : wo2.heap.size < (wo2.alloc (Obj.cells #[.int .i64 y0, .int .i64 y1, .int .i64 y2, .string y3, .string y4] 40)).heap.size := by simp
              generalize World.alloc wo2 _ = wb at *
              refine wp_region_mix 16 [12, 13, 14, 15] (Grew wb) Eq (JV [⟨12, 14, Pl.moveE y0 (1 + y1 % 4) |>.vals⟩, ⟨13, 15, Pl.moveE y0 y1 |>.vals⟩] wb) (fun f a => (a.put (some 12) (f 12)).put (some 13) (f 13)) (by kernel_rfl) (by kernel_rfl) (fun _ _ => rfl) (JV.start _ wb _) (fun _ _ _ h => h.grew) (fun _ => rfl) (fun _ _ _ _ h g => g ▸ h) ?_
              repeat (first
    | (refine wpMix_loose (by rfl) (by rfl) ?_)
    | (refine wpMix_plain (by rfl) (by rfl) (by rfl) (by first | exact Grew.refl | exact fun _ => rfl) (by rfl) ?_; intro K hK; go_big_quiet_op; go_big_quiet_on)
    | (refine wpMix_skip (by rfl) (by rfl) (by rfl) ?_; simp only [Act.put, List.setIfInBounds_toArray, List.set_cons_zero, List.set_cons_succ]))
              refine wpMix_nil ⟨⟨loose_of rfl (fun _ a => a) (fun _ _ => rfl) (fun _ => rfl) ?_, loose_of rfl (fun _ a => a) (fun _ _ => rfl) (fun _ => rfl) ?_, loose_of rfl (fun f a => (a.put (some 12) (f 12)).put (some 13) (f 13)) (fun _ _ => rfl) (fun _ => rfl) ?_, loose_of rfl (fun f a => (a.put (some 12) (f 12)).put (some 13) (f 13)) (fun _ _ => rfl) (fun _ => rfl) ?_, trivial⟩, ?_⟩
              · intro L f u hJ hL hd
                clear B0 B1
                have hm := hid (hJ.alloc (by rfl) (V := ⟨12, 14, Pl.moveE y0 (1 + y1 % 4) |>.vals⟩) (by simp) hL [.int .i64 0, .int .i64 0, .int .i64 0, .int .i64 0, .int .i64 0, .int .i64 0, .slice none 0 0, .string ⟨#[]⟩, .int .i64 0, .int .i64 0, .int .i64 0, .slice none 0 0] rfl 26)
                clear hJ
                go_simp
                exact hm.out
              · intro L f u hJ hL hd
                clear B0 B1
                have hm := hid (hJ.alloc (by rfl) (V := ⟨13, 15, Pl.moveE y0 y1 |>.vals⟩) (by simp) hL [.int .i64 0, .int .i64 0, .int .i64 0, .int .i64 0, .int .i64 0, .int .i64 0, .slice none 0 0, .string ⟨#[]⟩, .int .i64 0, .int .i64 0, .int .i64 0, .slice none 0 0] rfl 26)
                clear hJ
                go_simp
                exact hm.out
              · intro L f u hJ hL hd
                clear B0 B1
                have h12 := hd 12 rfl (by decide)
                obtain ⟨m, hm, hfz, k0, k1, k2, k3, k4, k5, k6, k7, k8, k9, k10, k11, j0, j1, j2, j3, j4, j5, j6, j7, j8, j9, j10, j11⟩ := hJ.twelve (V := ⟨12, 14, Pl.moveE y0 (1 + y1 % 4) |>.vals⟩) (by simp) h12 rfl
                dsimp only at hm
                have hs := hid (hJ.store (by rfl) (V := ⟨12, 14, Pl.moveE y0 (1 + y1 % 4) |>.vals⟩) (by simp) h12 hm)
                rw [hm]
                clear hJ hm
                go_simp
                exact hs.out
              · intro L f u hJ hL hd
                clear B0 B1
                have h13 := hd 13 rfl (by decide)
                obtain ⟨m, hm, hfz, k0, k1, k2, k3, k4, k5, k6, k7, k8, k9, k10, k11, j0, j1, j2, j3, j4, j5, j6, j7, j8, j9, j10, j11⟩ := hJ.twelve (V := ⟨13, 15, Pl.moveE y0 y1 |>.vals⟩) (by simp) h13 rfl
                dsimp only at hm
                have hs := hid (hJ.store (by rfl) (V := ⟨13, 15, Pl.moveE y0 y1 |>.vals⟩) (by simp) h13 hm)
                rw [hm]
                clear hJ hm
                go_simp
                exact hs.out
              · intro f u hJ
                obtain ⟨m12, q12, n12, l12, c12⟩ := hJ.full (V := ⟨12, 14, Pl.moveE y0 (1 + y1 % 4) |>.vals⟩) (by simp) rfl
                obtain ⟨m13, q13, n13, l13, c13⟩ := hJ.full (V := ⟨13, 15, Pl.moveE y0 y1 |>.vals⟩) (by simp) rfl
                dsimp only at q12 q13 c12 c13
                have HX0 := hid (HAb.out.more hJ.grew)
                have HFX : Hid (∀ j, FX j → j < wo2.heap.size) := by obtain ⟨_, _, h⟩ := HA2.out.st; exact h.lt
                have HM12 := hid (show EnBox u m12 (Pl.moveE y0 (1 + y1 % 4)) from fun k v hv => (c12 k v hv).1)
                have HM13 := hid (show EnBox u m13 (Pl.moveE y0 y1) from fun k v hv => (c13 k v hv).1)
                have S0 := B0 ⟨u, hJ.grew⟩
                have S1 := B1 ⟨u, hJ.grew⟩
                dsimp only at S0 S1
                have hbu : wo2.heap.size < u.heap.size := Nat.lt_of_lt_of_le hbk hJ.grew.size
                -- what the entries do
                have hid0 := HID.out
                obtain ⟨a1, a2⟩ := Pl.move_there HXI.out 0 HXI.out.pos (1 + y1 % 4) 11 (by omega) (by omega) (by omega) (by omega)
                rw [hid0.1] at a1 a2
                have HI1 := hid (Pl.inv_apply HXI.out (Pl.moveE y0 (1 + y1 % 4)) 11)
                have HI2 := hid (Pl.inv_apply HI1.out (Pl.moveE y0 y1) 12)
                have e10 : shAt (Pl.applyP TX (Pl.moveE y0 (1 + y1 % 4)) 11).xs 0 = ⟨y0, 1 + y1 % 4, (shAt TX.xs 0).since, (shAt TX.xs 0).lo, (shAt TX.xs 0).hi⟩ := by
                  rw [a2]; unfold shAt; rw [List.getElem?_set_self (by have := HXI.out.pos; omega)]; rfl
                have l1 : (Pl.applyP TX (Pl.moveE y0 (1 + y1 % 4)) 11).xs.length = T.xs.length := by rw [a2, List.length_set]; exact HXE.out
                obtain ⟨b1, b2⟩ := Pl.move_there HI1.out 0 HI1.out.pos y1 12 hsv1 hsv2 (by omega) (by omega)
                rw [e10] at b1 b2
                dsimp only at b1 b2
                have e20 : shAt (Pl.applyP (Pl.applyP TX (Pl.moveE y0 (1 + y1 % 4)) 11) (Pl.moveE y0 y1) 12).xs 0 = ⟨y0, y1, (shAt TX.xs 0).since, (shAt TX.xs 0).lo, (shAt TX.xs 0).hi⟩ := by
                  rw [b2]; unfold shAt; rw [List.getElem?_set_self (by have := HI1.out.pos; omega)]; rfl
                have l2 : (Pl.applyP (Pl.applyP TX (Pl.moveE y0 (1 + y1 % 4)) 11) (Pl.moveE y0 y1) 12).xs.length = T.xs.length := by rw [b2, List.length_set]; exact l1
                have hfind := Pl.find_at HI2.out.nodup 0 HI2.out.pos
                rw [e20] at hfind
                dsimp only at hfind
                have HAP := hid (apply_any hS E (HE.out.grew HX0.out.grew) HX0.out.st (by omega) (by omega) (Pl.moveE y0 (1 + y1 % 4)) ⟨.inl rfl, Nat.zero_le _, fun o ho => (by cases ho), Nat.zero_le _⟩ (Nat.zero_le _) 11)
                rw [a1] at HAP
                generalize Pl.applyP TX (Pl.moveE y0 (1 + y1 % 4)) 11 = T1 at *
                have hT1n : T1.ne ≤ 71 := HI1.out.few
                generalize hT2 : Pl.applyP T1 (Pl.moveE y0 y1) 12 = T2 at *
                have HT2 := hid hT2
                have HB1' := hid b1
                have HL2 := hid l2
                have HFD := hid hfind
                have HE20 := hid e20
                unfold En.agg En.vals Pl.moveE En.zero at HAP
                dsimp only [List.length_nil] at HAP
                obtain ⟨d0, d1, d2, d3, d4, d5, d6, d7, d8, d9, d10, d11⟩ := HM12.out.cells
                dsimp only [Pl.moveE, En.zero, List.length_nil] at d0 d1 d2 d3 d4 d5 d6 d7 d8 d9 d10 d11
                rw [q12, q13]
                clear hJ c12 c13 q12 q13 B0 B1 hT2 b1 l2 hfind e20 e10 a1 a2 b2 hid0 HM12
                dsimp only [List.drop, Act.put]
                go_wp2_with fail
                refine HAP.out.mono ?_
                rintro r u1 ⟨rfl, ho1, F1, h1, hF1⟩
                have hnb : ¬ FX wo2.heap.size := fun h => Nat.lt_irrefl _ (HFX.out _ h)
                have hn13 : ¬ FX m13 := fun h => by have := HFX.out _ h; omega
                have HX1 := hid (HX0.out.turn ho1 h1 hF1)
                have HM13a := hid (HM13.out.only ho1 l13 hn13)
                have S0a := (ho1.cell hbu hnb 0).trans S0
                have S1a := (ho1.cell hbu hnb 1).trans S1
                have hbu1 : wo2.heap.size < u1.heap.size := Nat.lt_of_lt_of_le hbu ho1.size
                have hnb1 : ¬ F1 wo2.heap.size := fun h => by
                  rcases hF1 _ h with h2 | h2
                  · exact hnb h2
                  · omega
                have HNB1 := hid hnb1
                have HAP2 := hid (apply_any hS E (HE.out.grew HX1.out.grew) HX1.out.st (by omega) (by omega) (Pl.moveE y0 y1) ⟨.inl rfl, Nat.zero_le _, fun o ho => (by cases ho), Nat.zero_le _⟩ (Nat.zero_le _) 12)
                rw [HB1'.out, HT2.out] at HAP2
                unfold En.agg En.vals Pl.moveE En.zero at HAP2
                dsimp only [List.length_nil] at HAP2
                clear d0 d1 d2 d3 d4 d5 d6 d7 d8 d9 d10 d11 HAP ho1 h1 hF1 S0 S1 HM13 HX0 HFX hnb hn13 hnb1
                obtain ⟨d0, d1, d2, d3, d4, d5, d6, d7, d8, d9, d10, d11⟩ := HM13a.out.cells
                dsimp only [Pl.moveE, En.zero, List.length_nil] at d0 d1 d2 d3 d4 d5 d6 d7 d8 d9 d10 d11
                go_wp2_with fail
                refine HAP2.out.mono ?_
                rintro r u2 ⟨rfl, ho2, F2, h2, hF2⟩
                have HX2 := hid (HX1.out.turn ho2 h2 hF2)
                have S0b := (ho2.cell hbu1 HNB1.out 0).trans S0a
                have S1b := (ho2.cell hbu1 HNB1.out 1).trans S1a
                have hbu2 : wo2.heap.size < u2.heap.size := Nat.lt_of_lt_of_le hbu1 ho2.size
                have HSH2 := hid (shardM_any HX2.out.st (by rw [HL2.out]; omega) y0)
                have hv : (Pl.shardV T2.xs y0) = ⟨y0, y1, (shAt TX.xs 0).since, (shAt TX.xs 0).lo, (shAt TX.xs 0).hi⟩ := by
                  unfold Pl.shardV; rw [HFD.out]; exact HE20.out
                rw [hv, HFD.out, show decide (0 ≤ ((0 : Nat) : Int)) = true from rfl] at HSH2
                have HX2' := hid HX2.out
                clear hv d0 d1 d2 d3 d4 d5 d6 d7 d8 d9 d10 d11 HAP2 ho2 h2 hF2 S0a S1a HM13a HX1 HNB1 HX2
                unfold Sh.aggOf Sh.vals at HSH2
                dsimp only at HSH2
                go_wp2_with fail
                refine HSH2.out.mono ?_
                rintro r u3 ⟨rfl, hg3⟩
                have S1c := (hg3.cells.1 _ _ hbu2).trans S1b
                have S0c := (hg3.cells.1 _ _ hbu2).trans S0b
                have hbu3 : wo2.heap.size < u3.heap.size := Nat.lt_of_lt_of_le hbu2 hg3.size
                have HX3 := hid (HX2'.out.more hg3)
                generalize (shAt TX.xs 0).since = t2 at *
                generalize (shAt TX.xs 0).lo = t3 at *
                generalize (shAt TX.xs 0).hi = t4 at *
                have HSS := hid (fun o => ag_shards (HX3.out.more ((Grew.refl u3).alloc o)) (by rw [HL2.out]; omega) (by rw [HL2.out]; exact hTp))
                rw [HL2.out] at HSS
                clear HSH2 hg3 S0b S1b HX2' HX3
                go_wp2_with fail
                refine (HSS.out _).mono ?_
                rintro r u4 ⟨gz, cz, rfl, _, h4, _⟩
                have hfin := h4.grew
                clear h4 HSS
                go_wp2_with fail
                go_ret
                exact ⟨rfl, hfin⟩
end Go.Proofs.YtajoihpjnnnkeaaDoor
