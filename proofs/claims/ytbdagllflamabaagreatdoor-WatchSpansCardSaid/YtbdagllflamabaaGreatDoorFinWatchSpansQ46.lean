/- Law39s, Open30: one text. -/
import Derived.Test.YtbdagllflamabaaGreatDoorFinWatchSpansQ44
import Derived.Test.YtbdagllflamabaaGreatDoorFinWatchSpansQ45
import Derived.Deep.Slices
import Derived.ChangeSame
import Derived.ProofKit
import Derived.OpenShut
import Derived.SizedLaws
set_option linter.unusedVariables false
set_option linter.unusedSectionVars false
set_option linter.unusedSimpArgs false
namespace Go.Proofs.YtbdagllflamabaaGreatDoor
open Go.RowKit Go.Maps
attribute [local go_sem] Oper.semAt_some uponV
section
variable {P : Program} {ops : Array Oper} {n k : Nat} {Z : List Nat} {I : World → Prop} {T : World → World → Prop} {K : Act → Prop} {o : Oper} {l : List Oper} {a : Act}
theorem mixS_pure (hk : decide (k < n) = true) (hz : Z.contains k = false) (hT : ∀ w, T w w) (hw : Region.wanted o (yielded ops a.tmps) = true) {v : Value} (hx : ∀ w, (execOp a.eval o).run P w = .ok (.value v) w) (h : MixS P ops n Z I T K l (k + 1) (a.put o.dst v)) : MixS P ops n Z I T K (o :: l) k a := by
  refine ⟨?_⟩
  have h := h.out
  unfold wpMix; rw [if_pos hk, if_neg (by rw [hz]; simp), if_pos hw]
  refine ⟨v, fun w hi => ?_, h⟩
  rw [hx]
  exact ⟨hT w, rfl⟩
end
def playW (l : List Ac) : AuP := l.foldl (fun A a => (Pl.applyA A a.e a.at').2) AuP.init
theorem playW_snoc (xs : List Ac) (k : Nat) (h : k < xs.length) : playW (xs.take (k + 1)) = (Pl.applyA (playW (xs.take k)) (acAt xs k).e (acAt xs k).at').2 := by
  unfold playW
  rw [List.take_succ_eq_append_getElem h, List.foldl_append, acAt_eq xs k h]
  rfl
theorem en_of39 {W : World} {e : En} (h1 : OpRsAt W e.opsA e.ops) (h2 : e.ops.length ≤ 20 ∧ e.key.size ≤ 300 ∧ e.dataL ≤ 600 ∧ ∀ o ∈ e.ops, o.key.size ≤ 300 ∧ o.val.size ≤ 300 ∧ o.old.size ≤ 300) : EnAt W e ∧ EnSz e ∧ e.key.size ≤ 300 := by
  obtain ⟨a, b, c, d⟩ := h2
  exact ⟨⟨h1, by omega, fun o ho => by obtain ⟨x, y, z⟩ := d o ho; exact ⟨by omega, by omega, by omega⟩, fun _ => by omega⟩, fun o ho => by obtain ⟨x, y, z⟩ := d o ho; exact ⟨by omega, by omega⟩, b⟩
theorem changes_key {A B : AuP} {at' : Int} {ks : List ByteArray} {c : Cg} (h : c ∈ changesP A B at' ks) : c.key ∈ ks := by
  unfold changesP newC at h
  obtain ⟨k, hk, rfl⟩ := List.mem_map.1 (List.mem_filter.1 h).1
  exact hk
theorem changes_len (A B : AuP) (at' : Int) (ks : List ByteArray) : (changesP A B at' ks).length ≤ ks.length := by
  have h : (changesP A B at' ks).length ≤ (ks.map (cg1 A B at')).length := List.length_filter_le _ _
  rwa [List.length_map] at h
structure SpR (w0 W : World) (wb1 ab1 wb2 ab2 : Nat) (lo hi : ByteArray) (k : Nat) (A : AuP) : Prop where
  ex : ∃ t1 t2 : Int, WtR2 w0 W wb1 ab1 wb2 ab2 lo hi (1 + 5 * k) (1 + 5 * k) k k A A t1 t2 none [] ∧ 0 ≤ t1 ∧ t1 ≤ t2 ∧ t2 ≤ 8 * (k : Int)
set_option maxRecDepth 100000 in
set_option maxHeartbeats 8000000 in
theorem watchSpans_walk (E : Nat → Addr) (lo hi : ByteArray) (hlo : lo.size ≤ 9223372036854775807) (hhi : hi.size ≤ 9223372036854775807) (a : Option Addr) (cap : Nat) (xs : List Ac) (w : World) (hE : Errs auS E w) (hA : AcsAt w a xs) (hxl : xs.length ≤ 9223372036854775807) (hk : ∀ j, j < xs.length → AcFits (acAt xs j)) :
    Calls Tryz.prog 4 #[.agg #[.string lo, .string hi], .slice a xs.length cap] w fun e w' => e = .returned (.bool true) ∧ Grew w w' := by
  have HE := hid hE
  have HA := hid hA
  have HK := hid hk
  clear hE hA hk
  go_enter Tryz.func4, Tryz.ntmps4
  go_wp2_with fail
  obtain ⟨Y, hY⟩ : ∃ Y, Y = w.alloc (.cells #[.string lo, .string hi] 39) := ⟨_, rfl⟩
  have gY : Grew w Y := by rw [hY]; exact (Grew.refl w).alloc _
  obtain ⟨sb, hsb⟩ : ∃ sb, sb = w.heap.size := ⟨_, rfl⟩
  have x0 : Y.cell? ⟨sb, 0, none⟩ = some (.string lo) := by rw [hY, hsb]; simp [go_sem]
  have x1 : Y.cell? ⟨sb, 1, none⟩ = some (.string hi) := by rw [hY, hsb]; simp [go_sem]
  rw [← hY, ← hsb]
  clear hY hsb
  have hsY := cell_lt x0
  refine (alive39 E _ (HE.out.grew gY)).mono ?_
  rintro r w1 ⟨rfl, hg1⟩
  have x0 := (hg1.cells.1 _ _ hsY).trans x0
  have x1 := (hg1.cells.1 _ _ hsY).trans x1
  have HG1 := hid (gY.trans hg1)
  have hs1 := Nat.lt_of_lt_of_le hsY hg1.size
  clear hg1 gY hsY
  have HL := hid (long39_any a cap xs lo hi hlo hhi w1 (HA.out.grew HG1.out) hxl HK.out)
  go_wp2_with fail
  refine HL.out.mono ?_
  rintro r w2 ⟨rfl, hg2⟩
  have x0 := (hg2.cells.1 _ _ hs1).trans x0
  have x1 := (hg2.cells.1 _ _ hs1).trans x1
  have HG2 := hid (HG1.out.trans hg2)
  have hs2 := Nat.lt_of_lt_of_le hs1 hg2.size
  clear hg2 HG1 hs1 HL
  cases hlong : long39B lo hi xs with
  | true =>
    go_wp2_with fail
    go_ret
    exact ⟨rfl, HG2.out⟩
  | false =>
    obtain ⟨hx60, hlo3, hhi3, hshort⟩ := long39_short hlong
    have HSH := hid hshort
    clear hlong hshort
    have HR := hid (right_span auS E ⟨rfl, rfl, rfl, rfl⟩ lo hi w2 (by omega) (by omega) (HE.out.grew HG2.out))
    go_wp2_with fail
    refine HR.out.mono ?_
    rintro r w3 ⟨rfl, hg3⟩
    have x0 := (hg3.cells.1 _ _ hs2).trans x0
    have x1 := (hg3.cells.1 _ _ hs2).trans x1
    have HG3 := hid (HG2.out.trans hg3)
    have hs3 := Nat.lt_of_lt_of_le hs2 hg3.size
    clear hg3 HG2 hs2 HR
    cases hright : Pl.rightS lo hi with
    | false =>
      go_wp2_with fail
      go_ret
      exact ⟨rfl, HG3.out⟩
    | true =>
      go_wp2_with fail
      have HE3 := hid (HE.out.grew HG3.out)
      refine (newW_any E HE3.out lo hi (by omega) (by omega) hright).mono ?_
      rintro r w4 ⟨wb1, ab1, rfl, hg4, hW1, hL1⟩
      have HG4 := hid hg4
      have HW1 := hid hW1
      have HL1 := hid hL1
      clear hg4 hW1 hL1
      go_wp2_with fail
      refine (newW_any E (HE3.out.grew HG4.out) ⟨#[]⟩ ⟨#[]⟩ (by decide) (by decide) (by kernel_rfl)).mono ?_
      rintro r w5 ⟨wb2, ab2, rfl, hg5, hW2, hL2⟩
      have HP0 : Hid (SpR w3 w5 wb1 ab1 wb2 ab2 lo hi 0 AuP.init) := by
        obtain ⟨La, a1, a2, a3, a4⟩ := HL1.out 1 (fun _ => 0)
        obtain ⟨Lb, b1, b2, b3, b4⟩ := hL2 201 La
        have s4 := HG4.out.size
        have l1 := cell_lt HW1.out.c0
        exact ⟨0, 0, ⟨HG4.out.trans hg5, HW1.out.grew hg5, hW2, ⟨Lb, fun j hj => (b1 j (by omega)).trans (a1 j hj), (b1 _ l1).trans a3, b3, a4.kept (hg5.only fun _ => False) (fun _ _ h => h.elim) b1, b4, .inl rfl⟩, auOk_init, auOk_init⟩, by omega, by omega, by omega⟩
      clear HG4 HW1 HL1 hg5 hW2 hL2
      go_wp2_with fail
      go_loopw [46] (fun i wr => ∃ k : Nat, k ≤ xs.length ∧ i = .int .i64 k ∧ Hid (SpR w3 wr wb1 ab1 wb2 ab2 lo hi k (playW (xs.take k)))) (fun i _ => xs.length - (intOf i).toNat)
      case atStart => exact ⟨0, Nat.zero_le _, rfl, HP0⟩
      case round =>
        obtain ⟨k, hk1, rfl, HP⟩ := hrel
        obtain ⟨wo, rfl⟩ : ∃ wo : World, wo = wr := ⟨_, rfl⟩
        obtain ⟨t1, t2, hP, ht0, ht1, ht2⟩ := HP.out.ex
        have HPP := hid hP
        clear HP hP
        by_cases hlt : k < xs.length
        · rcases HA.out.row with h0 | ⟨b, off, rfl, hb, hR⟩
          · rw [h0] at hlt; simp at hlt
          have hGw := HG3.out.trans HPP.out.grew
          obtain ⟨q0, q1, q2, q3, q4, q5, q6, q7, q8, q9, q10, q11, q12⟩ := ac_cells (W := wo) (b := b) (off := off + k * 13) (a := acAt xs k) (fun i v hv => (hGw.cells.1 _ _ hb).trans (hR k hlt i v hv))
          obtain ⟨hEn, hSz, hKz⟩ := en_of39 ((HA.out.ops k hlt).grew HG3.out) (HSH.out k hlt)
          have HPS := hid (playW_snoc xs k hlt)
          have HS1 := hid (fun U (g : Grew wo U) => HPP.out.step1 E HE3.out g (by omega) (by omega) (acAt xs k).e hEn hSz hKz (acAt xs k).at' ht0 (by omega) (by omega) (by omega))
          have HS2 := hid (fun (V : World) (B : AuP) (n1 m1 : Nat) (u1 : Int) (a' : Option Addr) (ys : List Cg) (hV : WtR2 w3 V wb1 ab1 wb2 ab2 lo hi n1 (1 + 5 * k) m1 k B (playW (xs.take k)) u1 t2 a' ys) => hV.step2 E HE3.out (Grew.refl V) (by omega) (by omega) (acAt xs k).e hEn hSz hKz (acAt xs k).at' (by omega) (by omega))
          have HCH := hid (fun ks ka (p : Pl.Asks lo hi (acAt xs k).e ks) (q : Pl.Asks ⟨#[]⟩ ⟨#[]⟩ (acAt xs k).e ka) => changes_span (playW (xs.take k)) (Pl.applyA (playW (xs.take k)) (acAt xs k).e (acAt xs k).at').2 (acAt xs k).at' p q)
          have HCK := hid (fun ka (q : Pl.Asks ⟨#[]⟩ ⟨#[]⟩ (acAt xs k).e ka) => show (changesP (playW (xs.take k)) (Pl.applyA (playW (xs.take k)) (acAt xs k).e (acAt xs k).at').2 (acAt xs k).at' ka).length ≤ 8 ∧ ∀ c ∈ changesP (playW (xs.take k)) (Pl.applyA (playW (xs.take k)) (acAt xs k).e (acAt xs k).at').2 (acAt xs k).at' ka, c.key.size ≤ 70368744177664 from ⟨Nat.le_trans (changes_len _ _ _ _) q.few, fun c hc => by
            obtain ⟨_, _, ⟨o, ho, e1⟩, _⟩ := (q.mem c.key).1 (changes_key hc)
            rw [← e1]
            exact (hSz o ho).1⟩)
          have hk60 : k ≤ 60 := by omega
          clear hGw hR hEn hSz hKz
          rw [← HPS.out] at HS1 HS2 HCH HCK
          clear HPS
          generalize hPB : playW (xs.take (k + 1)) = PB at *
          have HPB := hid hPB
          clear hPB
          generalize (Pl.applyA (playW (xs.take k)) (acAt xs k).e (acAt xs k).at').1 = cd at *
          generalize playW (xs.take k) = PA at *
          generalize Pl.Asks lo hi (acAt xs k).e = QW at *
          generalize Pl.Asks ⟨#[]⟩ ⟨#[]⟩ (acAt xs k).e = QA at *
          generalize acAt xs k = A at *
          obtain ⟨⟨ykind, yshard, yother, yserver, yclient, yseq, ykey, yupto, ypart, yparts, yops, yopsA, yopsC, ydataA, ydataL, ydataC⟩, yat⟩ := A
          unfold En.agg En.vals at HS1 HS2
          dsimp only at *
          go_wp2_with fail
          obtain ⟨Z, hZ⟩ : ∃ Z, Z = wo.alloc (.cells #[.int .i64 ykind, .int .i64 yshard, .int .i64 yother, .int .i64 yserver, .int .i64 yclient, .int .i64 yseq, .slice yopsA yops.length yopsC, .string ykey, .int .i64 yupto, .int .i64 ypart, .int .i64 yparts, .slice ydataA ydataL ydataC, .int .i64 yat] 59) := ⟨_, rfl⟩
          have gZ : Grew wo Z := by rw [hZ]; exact (Grew.refl wo).alloc _
          have hzb : Z.heap[wo.heap.size]? = some (.cells #[.int .i64 ykind, .int .i64 yshard, .int .i64 yother, .int .i64 yserver, .int .i64 yclient, .int .i64 yseq, .slice yopsA yops.length yopsC, .string ykey, .int .i64 yupto, .int .i64 ypart, .int .i64 yparts, .slice ydataA ydataL ydataC, .int .i64 yat] 59 (0, 0)) := by rw [hZ]; exact heap_alloc_new wo _
          rw [← hZ]
          clear hZ q0 q1 q2 q3 q4 q5 q6 q7 q8 q9 q10 q11 q12
          refine (HS1.out Z gZ).mono ?_
          rintro r w6 ⟨hkeep, ks, hks, hcase⟩
          have hzb := (hkeep _ (Nat.le_refl _) (Array.getElem?_eq_some_iff.1 hzb).1).trans hzb
          have hdc : ∀ (i : Nat) v, (#[.int .i64 ykind, .int .i64 yshard, .int .i64 yother, .int .i64 yserver, .int .i64 yclient, .int .i64 yseq, .slice yopsA yops.length yopsC, .string ykey, .int .i64 yupto, .int .i64 ypart, .int .i64 yparts, .slice ydataA ydataL ydataC, .int .i64 yat] : Array Value)[i]? = some v → w6.cell? ⟨wo.heap.size, i, none⟩ = some v := fun i v hv => by rw [cell_of_row _ _ i _ _ _ hzb]; simpa using hv
          have d0 := hdc 0 _ rfl
          have d1 := hdc 1 _ rfl
          have d2 := hdc 2 _ rfl
          have d3 := hdc 3 _ rfl
          have d4 := hdc 4 _ rfl
          have d5 := hdc 5 _ rfl
          have d6 := hdc 6 _ rfl
          have d7 := hdc 7 _ rfl
          have d8 := hdc 8 _ rfl
          have d9 := hdc 9 _ rfl
          have d10 := hdc 10 _ rfl
          have d11 := hdc 11 _ rfl
          have d12 := hdc 12 _ rfl
          clear hdc hzb hkeep HS1 gZ
          by_cases hcd : cd = 0
          · subst hcd
            rcases hcase with ⟨h, _⟩ | ⟨_, a1, c1, rfl, h6⟩
            · exact absurd rfl h
            have HS2 := hid (HS2.out _ _ _ _ _ _ _ h6)
            clear h6
            go_wp2_with fail
            refine HS2.out.mono ?_
            rintro r w7 ⟨ka, hka, hcase⟩
            rcases hcase with ⟨h, _⟩ | ⟨_, a2, c2, rfl, hcg2, h7⟩
            · exact absurd rfl h
            have hch := HCH.out ks ka hks hka
            obtain ⟨hfew, hkeys⟩ := HCK.out ka hka
            generalize changesP PA PB yat ks = CW at *
            generalize changesP PA PB yat ka = CA at *
            have H7 := hid h7
            have HC2 := hid hcg2
            have HCC := hid hch
            have HKY := hid hkeys
            have hxw0 := (h7.grew.cells.1 _ 0 hs3).trans x0
            have hxw1 := (h7.grew.cells.1 _ 1 hs3).trans x1
            have hs7 := Nat.lt_of_lt_of_le hs3 h7.grew.size
            clear HS2 HCH HCK hka hks h7 hcg2 hch hkeys d0 d1 d2 d3 d4 d5 d6 d7 d8 d9 d10 d11 d12
            go_wp2_with fail
            go_region
            go_wp2_with fail
            go_loopw [15, 75] (fun kv iv wr => ∃ j : Nat, j ≤ CA.length ∧ iv = .int .i64 j ∧ kv = .int .i64 ((CA.take j).filter fun c => Pl.hasS lo hi c.key).length ∧ Hid (Grew w7 wr)) (fun _ iv _ => CA.length - (intOf iv).toNat)
            case atStart => exact ⟨0, Nat.zero_le _, rfl, rfl, (Grew.refl _).drew⟩
            case round =>
              obtain ⟨j, hj1, rfl, rfl, HGI⟩ := hrel
              obtain ⟨wi, rfl⟩ : ∃ wi : World, wi = wr := ⟨_, rfl⟩
              by_cases hjl : j < CA.length
              · rcases HC2.out with h0 | ⟨b2, o2, rfl, hb2, hR2⟩
                · rw [h0] at hjl; simp at hjl
                have hgi := HGI.out
                have r0 := (hgi.cells.1 b2 (o2 + j * 10) hb2).trans (hR2.at_ j hjl)
                have r1 := (hgi.cells.1 b2 (o2 + j * 10 + 1) hb2).trans (hR2.key j hjl)
                have r2 := (hgi.cells.1 b2 (o2 + j * 10 + 2) hb2).trans (hR2.wk j hjl)
                have r3 := (hgi.cells.1 b2 (o2 + j * 10 + 3) hb2).trans (hR2.wv j hjl)
                have r4 := (hgi.cells.1 b2 (o2 + j * 10 + 4) hb2).trans (hR2.wn j hjl)
                have r5 := (hgi.cells.1 b2 (o2 + j * 10 + 5) hb2).trans (hR2.nk j hjl)
                have r6 := (hgi.cells.1 b2 (o2 + j * 10 + 6) hb2).trans (hR2.nv j hjl)
                have r7 := (hgi.cells.1 b2 (o2 + j * 10 + 7) hb2).trans (hR2.nn j hjl)
                have r8 := (hgi.cells.1 b2 (o2 + j * 10 + 8) hb2).trans (hR2.had j hjl)
                have r9 := (hgi.cells.1 b2 (o2 + j * 10 + 9) hb2).trans (hR2.has j hjl)
                obtain ⟨hF1, hF2⟩ := filter_at (fun c => Pl.hasS lo hi c.key) CA j hjl
                rw [← HCC.out, ← cgAt_eq CA j hjl] at hF1
                rw [← cgAt_eq CA j hjl] at hF2
                have HF1 := hid hF1
                have HF2 := hid hF2
                have hkey := HKY.out _ (cgAt_mem CA j hjl)
                clear hR2 hF1 hF2
                generalize ((CA.take j).filter fun c => Pl.hasS lo hi c.key).length = kk at *
                generalize cgAt CA j = c at *
                obtain ⟨c0, c1, c2v, c3, c4, c5, c6, c7, c8, c9⟩ := c
                dsimp only at *
                have HHAS := hid (fun X (g : Grew w7 X) => has_span auS E ⟨rfl, rfl, rfl, rfl⟩ lo hi c1 X (by omega) (by omega) hkey (HE3.out.grew (H7.out.grew.trans g)))
                have y0 := (hgi.cells.1 _ _ hs7).trans hxw0
                have y1 := (hgi.cells.1 _ _ hs7).trans hxw1
                have hsi := Nat.lt_of_lt_of_le hs7 hgi.size
                clear hkey
                go_wp2_with fail
                refine (HHAS.out _ (hgi.alloc _)).mono ?_
                rintro r w8 ⟨rfl, hg8⟩
                have HG8 := hid ((hgi.alloc _).trans hg8)
                have HH8 := hid hg8
                clear hg8 HHAS r0 r1 r2 r3 r4 r5 r6 r7 r8 r9 y0 y1
                cases hq : Pl.hasS lo hi c1 with
                | false =>
                  go_wp2_with fail
                  go_roundw
                  case rel => exact ⟨j + 1, by omega, by go_num, by rw [HF2.out, hq]; rfl, HG8.out⟩
                  case measure => simp [intOf]; omega
                | true =>
                  have hF1 := HF1.out
                  rw [if_pos hq] at hF1
                  have hkk : kk < CW.length := (List.getElem?_eq_some_iff.1 hF1).1
                  have hce : cgAt CW kk = ⟨c0, c1, c2v, c3, c4, c5, c6, c7, c8, c9⟩ := by unfold cgAt; rw [hF1]; rfl
                  rcases H7.out.row with h0 | ⟨b1, o1, rfl, hb1, hR1⟩
                  · rw [h0] at hkk; simp at hkk
                  have hg8 := HH8.out
                  have hz8 : wi.heap.size < (wi.alloc (.cells #[.int .i64 c0, .string c1, .string c2v, .string c3, .int .i64 c4, .string c5, .string c6, .int .i64 c7, .bool c8, .bool c9] 64)).heap.size := by simp
                  have p0 : w8.cell? ⟨wi.heap.size, 0, none⟩ = some (.int .i64 c0) := (hg8.cells.1 _ _ hz8).trans (by simp [go_sem])
                  have p1 : w8.cell? ⟨wi.heap.size, 1, none⟩ = some (.string c1) := (hg8.cells.1 _ _ hz8).trans (by simp [go_sem])
                  have p2 : w8.cell? ⟨wi.heap.size, 2, none⟩ = some (.string c2v) := (hg8.cells.1 _ _ hz8).trans (by simp [go_sem])
                  have p3 : w8.cell? ⟨wi.heap.size, 3, none⟩ = some (.string c3) := (hg8.cells.1 _ _ hz8).trans (by simp [go_sem])
                  have p4 : w8.cell? ⟨wi.heap.size, 4, none⟩ = some (.int .i64 c4) := (hg8.cells.1 _ _ hz8).trans (by simp [go_sem])
                  have p5 : w8.cell? ⟨wi.heap.size, 5, none⟩ = some (.string c5) := (hg8.cells.1 _ _ hz8).trans (by simp [go_sem])
                  have p6 : w8.cell? ⟨wi.heap.size, 6, none⟩ = some (.string c6) := (hg8.cells.1 _ _ hz8).trans (by simp [go_sem])
                  have p7 : w8.cell? ⟨wi.heap.size, 7, none⟩ = some (.int .i64 c7) := (hg8.cells.1 _ _ hz8).trans (by simp [go_sem])
                  have p8 : w8.cell? ⟨wi.heap.size, 8, none⟩ = some (.bool c8) := (hg8.cells.1 _ _ hz8).trans (by simp [go_sem])
                  have p9 : w8.cell? ⟨wi.heap.size, 9, none⟩ = some (.bool c9) := (hg8.cells.1 _ _ hz8).trans (by simp [go_sem])
                  have s0 : w8.cell? ⟨b1, o1 + kk * 10, none⟩ = some (.int .i64 c0) := (HG8.out.cells.1 b1 _ hb1).trans ((hR1.at_ kk hkk).trans (by rw [hce]))
                  have s1 : w8.cell? ⟨b1, o1 + kk * 10 + 1, none⟩ = some (.string c1) := (HG8.out.cells.1 b1 _ hb1).trans ((hR1.key kk hkk).trans (by rw [hce]))
                  have s2 : w8.cell? ⟨b1, o1 + kk * 10 + 2, none⟩ = some (.string c2v) := (HG8.out.cells.1 b1 _ hb1).trans ((hR1.wk kk hkk).trans (by rw [hce]))
                  have s3 : w8.cell? ⟨b1, o1 + kk * 10 + 3, none⟩ = some (.string c3) := (HG8.out.cells.1 b1 _ hb1).trans ((hR1.wv kk hkk).trans (by rw [hce]))
                  have s4 : w8.cell? ⟨b1, o1 + kk * 10 + 4, none⟩ = some (.int .i64 c4) := (HG8.out.cells.1 b1 _ hb1).trans ((hR1.wn kk hkk).trans (by rw [hce]))
                  have s5 : w8.cell? ⟨b1, o1 + kk * 10 + 5, none⟩ = some (.string c5) := (HG8.out.cells.1 b1 _ hb1).trans ((hR1.nk kk hkk).trans (by rw [hce]))
                  have s6 : w8.cell? ⟨b1, o1 + kk * 10 + 6, none⟩ = some (.string c6) := (HG8.out.cells.1 b1 _ hb1).trans ((hR1.nv kk hkk).trans (by rw [hce]))
                  have s7 : w8.cell? ⟨b1, o1 + kk * 10 + 7, none⟩ = some (.int .i64 c7) := (HG8.out.cells.1 b1 _ hb1).trans ((hR1.nn kk hkk).trans (by rw [hce]))
                  have s8 : w8.cell? ⟨b1, o1 + kk * 10 + 8, none⟩ = some (.bool c8) := (HG8.out.cells.1 b1 _ hb1).trans ((hR1.had kk hkk).trans (by rw [hce]))
                  have s9 : w8.cell? ⟨b1, o1 + kk * 10 + 9, none⟩ = some (.bool c9) := (HG8.out.cells.1 b1 _ hb1).trans ((hR1.has kk hkk).trans (by rw [hce]))
                  have hkk2 : ¬ (CW.length : Int) ≤ (kk : Int) := by omega
                  have hkkI : (kk : Int) < (CW.length : Int) := by omega
                  have hwl : CW.length ≤ 8 := Nat.le_trans (by rw [HCC.out]; exact List.length_filter_le _ _) hfew
                  have P0 := wd_cell p0
                  have S0 := wd_cell s0
                  have P1 := wd_cell p1
                  have S1 := wd_cell s1
                  have P2 := wd_cell p2
                  have S2 := wd_cell s2
                  have P3 := wd_cell p3
                  have S3 := wd_cell s3
                  have P4 := wd_cell p4
                  have S4 := wd_cell s4
                  have P5 := wd_cell p5
                  have S5 := wd_cell s5
                  have P6 := wd_cell p6
                  have S6 := wd_cell s6
                  have P7 := wd_cell p7
                  have S7 := wd_cell s7
                  have P8 := wd_cell p8
                  have S8 := wd_cell s8
                  have P9 := wd_cell p9
                  have S9 := wd_cell s9
                  clear hF1 hce hR1 hg8 hz8 HH8 p0 s0 p1 s1 p2 s2 p3 s3 p4 s4 p5 s5 p6 s6 p7 s7 p8 s8 p9 s9
                  go_wp2_with fail
                  refine wp_region_still 12 (by kernel_rfl) (by kernel_rfl) (fun _ _ => rfl) ?_
                  repeat (first
    | (refine mixS_plain (by rfl) (by rfl) (by rfl) (by first | exact Grew.refl | exact fun _ => rfl) (by rfl) ?_; intro K hK; go_big_quiet_op; go_big_quiet_on)
    | (refine mixS_skip (by rfl) (by rfl) (by rfl) ?_; simp only [Act.put, List.setIfInBounds_toArray, List.set_cons_zero, List.set_cons_succ]))
                  refine mixS_pure (v := .int .i64 (CW.length : Nat)) (by rfl) (by rfl) Grew.refl (by rfl) (fun _ => by kernel_rfl) ?_
                  simp only [Act.put, List.setIfInBounds_toArray, List.set_cons_zero, List.set_cons_succ]
                  repeat (first
    | (refine mixS_plain (by rfl) (by rfl) (by rfl) (by first | exact Grew.refl | exact fun _ => rfl) (by rfl) ?_; intro K hK; go_big_quiet_op; go_big_quiet_on)
    | (refine mixS_skip (by rfl) (by rfl) (by rfl) ?_; simp only [Act.put, List.setIfInBounds_toArray, List.set_cons_zero, List.set_cons_succ]))
                  rw [show decide (CW.length ≤ kk) = false from decide_eq_false (by omega)]
                  repeat (first
    | (refine mixS_plain (by rfl) (by rfl) (by rfl) (by first | exact Grew.refl | exact fun _ => rfl) (by rfl) ?_; intro K hK; go_big_quiet_op; go_big_quiet_on)
    | (refine mixS_skip (by rfl) (by rfl) (by rfl) ?_; simp only [Act.put, List.setIfInBounds_toArray, List.set_cons_zero, List.set_cons_succ]))
                  refine mixS_nil ?_
                  intro x hG
                  have HGX := hid (HG8.out.trans hG)
                  clear P0 S0 P1 S1 P2 S2 P3 S3 P4 S4 P5 S5 P6 S6 P7 S7 P8 S8 P9 S9 hG
                  dsimp only [List.drop]
                  go_wp2_with fail
                  go_roundw
                  case rel => exact ⟨j + 1, by omega, by go_num, by rw [HF2.out, hq]; go_num, HGX⟩
                  case measure => simp [intOf]; omega
              · obtain rfl : j = CA.length := by omega
                rw [List.take_length, ← HCC.out]
                go_wp2_with fail
                go_roundw
                case rel =>
                  refine ⟨k + 1, by omega, by go_num, ⟨t1 + (CW.length : Nat), t2 + (CA.length : Nat), ?_, by omega, ?_, by omega⟩⟩
                  · rw [HPB.out, show 1 + 5 * (k + 1) = 1 + 5 * k + 5 from by omega]
                    exact (H7.out.less none).more HGI.out
                  · have hle : CW.length ≤ CA.length := by rw [HCC.out]; exact List.length_filter_le _ _
                    omega
                case measure => simp [intOf]; omega
          · rcases hcase with ⟨_, rfl, h6⟩ | ⟨h, _⟩
            case inr => exact absurd h hcd
            have hee : Hid (errOf E cd = .iface 343 (.pointer (some (E cd)))) := errOf_pos E cd hcd
            rw [hee.out] at HS2 ⊢
            have HS2 := hid (HS2.out _ _ _ _ _ _ _ h6)
            clear h6
            go_wp2_with fail
            refine HS2.out.mono ?_
            rintro r w7 ⟨ka, hka, hcase⟩
            rcases hcase with ⟨_, rfl, h7⟩ | ⟨h, _⟩
            case inr => exact absurd h hcd
            have H7 := hid h7
            clear HS2 HCH HCK hka hks h7 d0 d1 d2 d3 d4 d5 d6 d7 d8 d9 d10 d11 d12
            go_wp2_with fail
            go_region
            go_wp2_with fail
            go_loopw [15, 75] (fun kv iv wr => iv = .int .i64 0 ∧ kv = .int .i64 0 ∧ Hid (Grew w7 wr)) (fun _ iv _ => 0)
            case atStart => exact ⟨rfl, rfl, (Grew.refl _).drew⟩
            case round =>
              obtain ⟨rfl, rfl, HGI⟩ := hrel
              obtain ⟨wi, rfl⟩ : ∃ wi : World, wi = wr := ⟨_, rfl⟩
              go_wp2_with fail
              go_roundw
              case rel =>
                refine ⟨k + 1, by omega, by go_num, ⟨t1, t2, ?_, by omega, by omega, by omega⟩⟩
                rw [HPB.out, show 1 + 5 * (k + 1) = 1 + 5 * k + 5 from by omega]
                exact H7.out.more HGI.out
              case measure => simp [intOf]; omega
        · obtain rfl : k = xs.length := by omega
          have HT1 := hid (told_any HPP.out.c1)
          have HT2 := hid (fun W (g : Grew wo W) => told_any (HPP.out.c2.grew g))
          go_wp2_with fail
          refine HT1.out.mono ?_
          rintro r w6 ⟨rfl, hg6⟩
          have HG6 := hid hg6
          clear hg6
          go_wp2_with fail
          refine (HT2.out _ HG6.out).mono ?_
          rintro r w7 ⟨rfl, hg7⟩
          have HG7 := hid (HG6.out.trans hg7)
          clear hg7
          go_wp2_with fail
          go_ret
          exact ⟨rfl, HG3.out.trans (HPP.out.grew.trans HG7.out)⟩
end Go.Proofs.YtbdagllflamabaaGreatDoor
namespace Go.Proofs.YtbdagllflamabaaGreatDoor
open Go.RowKit Go.ChangeShapes Go.WideShapes Go.Deep
theorem cells_op30 : Tryz.prog.cellsOf 104 = 5 := by kernel_rfl
theorem cells_entry30 : Tryz.prog.cellsOf 26 = 12 := by kernel_rfl
theorem cells_ops30 : Tryz.prog.cellsOf 23 = 1 := by kernel_rfl
theorem cells_bytes30 : Tryz.prog.cellsOf 24 = 1 := by kernel_rfl
theorem cells_int30 : Tryz.prog.cellsOf 3 = 1 := by kernel_rfl
theorem cells_str30 : Tryz.prog.cellsOf 9 = 1 := by kernel_rfl
section
variable {H : Type} {enc : TypeId × Value → H} {W : World} {base : Nat} {spare : Nat → Bool} {held : Bool} {n : Nat} {cs : List Value} {y : DataW H × List MemPlace}
theorem open_op30 (hl : cs.length = 5) (h : DataW.trod enc Tryz.prog W base spare held n 104 cs = some y) :
    ∃ x : OpR, cs = x.vals ∧ x.key.size ≤ 9223372036854775807 ∧ x.val.size ≤ 9223372036854775807 ∧ x.old.size ≤ 9223372036854775807 := by
  match cs, hl with
  | [c0, c1, c2, c3, c4], _ =>
    obtain ⟨xs, n', _, hx, _, hlen, hg⟩ := DataW.trod_struct Tryz.underlying104 h
    have g0 := hg 0 _ rfl
    have g1 := hg 1 _ rfl
    have g2 := hg 2 _ rfl
    have g3 := hg 3 _ rfl
    have g4 := hg 4 _ rfl
    match xs, hlen with
    | [y0, y1, y2, y3, y4], _ =>
      simp [cells_int30, cells_str30] at g0 g1 g2 g3 g4
      obtain ⟨k, e0, _⟩ := DataW.trod_int Tryz.underlying3 g0
      obtain ⟨s1, e1, _, w1⟩ := DataW.trod_string Tryz.underlying9 g1
      obtain ⟨s2, e2, _, w2⟩ := DataW.trod_string Tryz.underlying9 g2
      obtain ⟨s3, e3, _, w3⟩ := DataW.trod_string Tryz.underlying9 g3
      obtain ⟨v, e4, _⟩ := DataW.trod_int Tryz.underlying3 g4
      simp at e0 e1 e2 e3 e4
      subst e0 e1 e2 e3 e4
      unfold maxLen at w1 w2 w3
      exact ⟨⟨k, s1, s2, s3, v⟩, rfl, by dsimp only; omega, by dsimp only; omega, by dsimp only; omega⟩
set_option maxRecDepth 100000 in
theorem open_ops30 {c : Value} (h : DataW.trod enc Tryz.prog W base spare held n 23 [c] = some y) :
    ∃ a cap xs, c = .slice a xs.length cap ∧ OpRsAt W a xs ∧ xs.length ≤ 9223372036854775807 ∧ ∀ j, j < xs.length → (opRAt xs j).key.size ≤ 9223372036854775807 ∧ (opRAt xs j).val.size ≤ 9223372036854775807 ∧ (opRAt xs j).old.size ≤ 9223372036854775807 := by
  rcases open_slice Tryz.underlying23 h with ⟨hcs, _⟩ | ⟨a, len, cap, m, n, D, Pl, hcs, _, hl, hm, hmm, _, hi⟩
  · simp at hcs
    subst hcs
    exact ⟨none, 0, [], rfl, .inl rfl, by simp, fun j hj => absurd hj (Nat.not_lt_zero j)⟩
  · simp at hcs
    subst hcs
    have hlm : len ≤ m := by rw [hmm]; split <;> omega
    have each : ∀ i, i < len → ∃ x : OpR, (W.cell? (a.add (i * 5)) = some (.int .i64 x.kind) ∧ W.cell? (a.add (i * 5 + 1)) = some (.string x.key) ∧ W.cell? (a.add (i * 5 + 2)) = some (.string x.val) ∧ W.cell? (a.add (i * 5 + 3)) = some (.string x.old) ∧ W.cell? (a.add (i * 5 + 4)) = some (.int .i64 x.ver)) ∧ x.key.size ≤ 9223372036854775807 ∧ x.val.size ≤ 9223372036854775807 ∧ x.old.size ≤ 9223372036854775807 := by
      intro i hil
      obtain ⟨cs', hc, ht⟩ := hi i (by omega)
      rw [cells_op30] at hc
      obtain ⟨_, hlen, hat⟩ := World.cells?_some hc
      obtain ⟨x, rfl, hx⟩ := open_op30 hlen ht
      refine ⟨x, ⟨?_, ?_, ?_, ?_, ?_⟩, hx⟩
      · have := hat 0 (by omega); rw [add_add] at this; exact this
      · have := hat 1 (by omega); rw [add_add] at this; exact this
      · have := hat 2 (by omega); rw [add_add] at this; exact this
      · have := hat 3 (by omega); rw [add_add] at this; exact this
      · have := hat 4 (by omega); rw [add_add] at this; exact this
    obtain ⟨X, hX⟩ := choose_lt each
    have hlenX : ((List.range len).map X).length = len := by simp
    have hatX : ∀ j, j < len → opRAt ((List.range len).map X) j = X j := fun j hj => by unfold opRAt; simp [hj]
    refine ⟨some a, cap, (List.range len).map X, by rw [hlenX], ?_, by rw [hlenX]; unfold maxLen at hm; omega, ?_⟩
    · by_cases h0 : len = 0
      · left; rw [h0]; rfl
      · right
        obtain ⟨b, off, spot⟩ := a
        have hs : spot = none := by
          have := (hX 0 (by omega)).1.1
          simpa [Addr.add] using World.cell?_spot this
        subst hs
        refine ⟨b, off, rfl, block_lt_of_cell (by have := (hX 0 (by omega)).1.1; simpa [Addr.add] using this), ?_, ?_, ?_, ?_, ?_⟩ <;> intro j hj <;> rw [hlenX] at hj <;> rw [hatX j hj]
        · have := (hX j hj).1.1; rwa [Addr.add_lit] at this
        · have := (hX j hj).1.2.1; rwa [Addr.add_lit, ← Nat.add_assoc] at this
        · have := (hX j hj).1.2.2.1; rwa [Addr.add_lit, ← Nat.add_assoc] at this
        · have := (hX j hj).1.2.2.2.1; rwa [Addr.add_lit, ← Nat.add_assoc] at this
        · have := (hX j hj).1.2.2.2.2; rwa [Addr.add_lit, ← Nat.add_assoc] at this
    · intro j hj
      rw [hlenX] at hj
      rw [hatX j hj]
      exact (hX j hj).2
theorem open_bytes30 {c : Value} (h : DataW.trod enc Tryz.prog W base spare held n 24 [c] = some y) : ∃ a l cap, c = .slice a l cap ∧ l ≤ 9223372036854775807 := by
  rcases open_slice Tryz.underlying24 h with ⟨hcs, _⟩ | ⟨a, len, cap, m, n, D, Pl, hcs, _, hl, hm, _, _, _⟩
  · simp at hcs; exact ⟨none, 0, 0, hcs, Nat.zero_le _⟩
  · simp at hcs; unfold maxLen at hm; exact ⟨some a, len, cap, hcs, by omega⟩
theorem open_entry30 (hl : cs.length = 12) (h : DataW.trod enc Tryz.prog W base spare held n 26 cs = some y) :
    ∃ e : En, cs = e.vals ∧ OpRsAt W e.opsA e.ops ∧ AcFits ⟨e, 0⟩ := by
  match cs, hl with
  | [c0, c1, c2, c3, c4, c5, c6, c7, c8, c9, c10, c11], _ =>
    obtain ⟨xs, n', _, hx, _, hlen, hg⟩ := DataW.trod_struct Tryz.underlying26 h
    have g0 := hg 0 _ rfl
    have g1 := hg 1 _ rfl
    have g2 := hg 2 _ rfl
    have g3 := hg 3 _ rfl
    have g4 := hg 4 _ rfl
    have g5 := hg 5 _ rfl
    have g6 := hg 6 _ rfl
    have g7 := hg 7 _ rfl
    have g8 := hg 8 _ rfl
    have g9 := hg 9 _ rfl
    have g10 := hg 10 _ rfl
    have g11 := hg 11 _ rfl
    match xs, hlen with
    | [y0, y1, y2, y3, y4, y5, y6, y7, y8, y9, y10, y11], _ =>
      simp [cells_int30, cells_str30, cells_ops30, cells_bytes30] at g0 g1 g2 g3 g4 g5 g6 g7 g8 g9 g10 g11
      obtain ⟨k0, e0, _⟩ := DataW.trod_int Tryz.underlying3 g0
      obtain ⟨k1, e1, _⟩ := DataW.trod_int Tryz.underlying3 g1
      obtain ⟨k2, e2, _⟩ := DataW.trod_int Tryz.underlying3 g2
      obtain ⟨k3, e3, _⟩ := DataW.trod_int Tryz.underlying3 g3
      obtain ⟨k4, e4, _⟩ := DataW.trod_int Tryz.underlying3 g4
      obtain ⟨k5, e5, _⟩ := DataW.trod_int Tryz.underlying3 g5
      obtain ⟨oa, oc, os, e6, hops, hol, hos⟩ := open_ops30 g6
      obtain ⟨s7, e7, _, w7⟩ := DataW.trod_string Tryz.underlying9 g7
      obtain ⟨k8, e8, _⟩ := DataW.trod_int Tryz.underlying3 g8
      obtain ⟨k9, e9, _⟩ := DataW.trod_int Tryz.underlying3 g9
      obtain ⟨k10, e10, _⟩ := DataW.trod_int Tryz.underlying3 g10
      obtain ⟨da, dl, dc, e11, hdl⟩ := open_bytes30 g11
      simp at e0 e1 e2 e3 e4 e5 e7 e8 e9 e10
      subst e0 e1 e2 e3 e4 e5 e6 e7 e8 e9 e10 e11
      unfold maxLen at w7
      exact ⟨⟨k0, k1, k2, k3, k4, k5, s7, k8, k9, k10, os, oa, oc, da, dl, dc⟩, rfl, hops, hol, by dsimp only; omega, hdl, hos⟩
end
end Go.Proofs.YtbdagllflamabaaGreatDoor
