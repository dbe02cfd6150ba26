/- The walk of tidewaterlaw21.TableRises. -/
import Derived.Test.YtbkombicbgjlnaaDoorLaw21b
import Derived.Lib.QuietBelow
import Derived.BigQuiet
namespace Go.Proofs.YtbkombicbgjlnaaDoor
open Go.RowKit Go.Maps Go.Sort
attribute [local go_sem] Oper.semAt_some

namespace Pl
theorem scan_mem {T : List Pr} {lo hi : ByteArray} {limit : Int} {c : Pr} (h : c ∈ scanT T lo hi limit) : c ∈ T ∧ hasS lo hi c.key = true := by
  unfold scanT at h
  have := List.mem_filter.1 (List.mem_of_mem_take h)
  exact this
theorem scan_srt {T : List Pr} (h : Srt T) (lo hi : ByteArray) (limit : Int) : Srt (scanT T lo hi limit) := srt_sub h ((List.take_sublist _ _).trans List.filter_sublist)
theorem srt_step {T : List Pr} (h : Srt T) (m : Nat) (hm : m + 1 < T.length) : compare (prAt T m).key (prAt T (m + 1)).key = -1 := by
  have h1 : compare (prAt T m).key (prAt T (m + 1)).key < 0 := by
    rw [prAt_eq T m (by omega), prAt_eq T (m + 1) hm]
    exact List.pairwise_iff_getElem.1 h.rise m (m + 1) (by omega) hm (by omega)
  have := compare_vals (prAt T m).key (prAt T (m + 1)).key
  omega
theorem has_lo {lo hi key : ByteArray} (h : hasS lo hi key = true) : 0 ≤ compare key lo := by
  unfold hasS at h
  simp only [Bool.and_eq_true, decide_eq_true_eq] at h
  exact h.1.2
theorem has_hi {lo hi key : ByteArray} (h : hasS lo hi key = true) (hh : hi.toList.isEmpty = false) : compare key hi < 0 := by
  unfold hasS lessB none0 at h
  simp only [Bool.and_eq_true, Bool.or_eq_true, decide_eq_true_eq] at h
  rcases h.2 with h2 | h2
  · rw [hh] at h2; cases h2
  · exact h2
end Pl

set_option maxRecDepth 100000 in
set_option maxHeartbeats 8000000 in
theorem tableRises_walk {S : Nat → Bool} (hS : TabS S) (E : Nat → Addr) (a : Option Addr) (cap : Nat) (xs : List Act21) (lo hi : ByteArray) (w : World) (hE : Errs S E w) (hA : ActsAt21 w a xs) (hx : xs.length ≤ 9223372036854775807)
    (hk : ∀ j, j < xs.length → (actAt21 xs j).key.size ≤ 9223372036854775807 ∧ (actAt21 xs j).val.size ≤ 9223372036854775807 ∧ (actAt21 xs j).lo.size ≤ 9223372036854775807 ∧ (actAt21 xs j).hi.size ≤ 9223372036854775807) (hlo : lo.size ≤ 140737488351232) (hhi : hi.size ≤ 140737488351232) :
    Calls Tryd.prog 6 #[.slice a xs.length cap, .agg #[.string lo, .string hi]] w fun e w' => e = .returned (.bool true) ∧ Grew w w' := by
  have HE := hid hE
  have HA := hid hA
  have HK := hid hk
  clear hE hA hk
  go_enter Tryd.func6, Tryd.ntmps6
  go_wp2_with fail
  refine (alive21 hS E _ (HE.out.grew ((Grew.refl w).alloc _))).mono ?_
  rintro e w1 ⟨rfl, hg1⟩
  obtain ⟨B, hB⟩ : ∃ B, B = w.alloc (.cells #[.string lo, .string hi] 28) := ⟨_, rfl⟩
  rw [← hB] at hg1
  have hwB : Grew w B := by rw [hB]; exact (Grew.refl w).alloc _
  have bl : B.cell? ⟨w.heap.size, 0, none⟩ = some (.string lo) := by rw [hB]; simp [go_sem]
  have bh : B.cell? ⟨w.heap.size, 1, none⟩ = some (.string hi) := by rw [hB]; simp [go_sem]
  have bz : w.heap.size < B.heap.size := by rw [hB]; simp
  have l0 := (hg1.cells.1 _ _ bz).trans bl
  have l1 := (hg1.cells.1 _ _ bz).trans bh
  have HBL := hid (And.intro bl (And.intro bh bz))
  clear hB bl bh bz
  have hAB := HA.out.grew hwB
  have HAB := hid hAB
  have HEB := hid (HE.out.grew hwB)
  clear HA HE hAB
  go_wp2_with fail
  refine (long21_any a cap xs _ (HAB.out.grew hg1) hx HK.out).mono ?_
  rintro e w2 ⟨rfl, hg2⟩
  have hG2 := hg1.trans hg2
  have l0 := (hG2.cells.1 _ _ HBL.out.2.2).trans HBL.out.1
  have l1 := (hG2.cells.1 _ _ HBL.out.2.2).trans HBL.out.2.1
  clear hg1 hg2
  cases hl : long21B xs with
  | true =>
    go_wp2_with fail
    go_ret
    exact ⟨rfl, hwB.trans hG2⟩
  | false =>
    by_cases h2 : 300 < lo.size
    · have h3 : (300 : Int) < (lo.size : Int) := by omega
      go_wp2_with fail
      go_ret
      exact ⟨rfl, hwB.trans hG2⟩
    by_cases h2' : 300 < hi.size
    · have h3 : ¬ (300 : Int) < (lo.size : Int) := by omega
      have h3' : (300 : Int) < (hi.size : Int) := by omega
      go_wp2_with fail
      go_ret
      exact ⟨rfl, hwB.trans hG2⟩
    have h3 : ¬ (300 : Int) < (lo.size : Int) := by omega
    have h3' : ¬ (300 : Int) < (hi.size : Int) := by omega
    obtain ⟨hx80, hsh⟩ := long21_short hl
    have HSH := hid hsh
    clear hl hsh h2 h2' hx
    have hmm := @run_makeMap Tryd.prog
    go_wp2_with fail
    refine (newT_any _).mono ?_
    rintro e w3 ⟨rfl, hg3, hT⟩
    have hG3 := hG2.trans hg3
    have htb : B.heap.size ≤ w2.heap.size := hG2.size
    generalize w2.heap.size = tb at *
    have HB0 := hid (show BothAt B (w3.alloc (.map #[] 0)) tb w3.heap.size 0 (Pl.play21 (xs.take 0)) from
      ⟨fun j => j = tb, fun _ => none, hT.grew ((Grew.refl w3).alloc _), fun j hj => by subst hj; exact htb, LMap.made w3 _ _, fis_nil, fun e => by have := hT; obtain ⟨v, h⟩ := this; have h9 : tb < w3.heap.size := cell_lt h.cell; omega, hG3.size, hG3.alloc _⟩)
    clear hT hg3 hG2 l0 l1 htb
    go_wp2_with fail
    generalize w3.heap.size = mb at *
    clear hmm
    go_loopw [38] (fun i wr => ∃ k : Nat, k ≤ xs.length ∧ i = .int .i64 k ∧ Hid (BothAt B wr tb mb k (Pl.play21 (xs.take k))) ∧ Hid ((Pl.play21 (xs.take k)).length ≤ k)) (fun i _ => xs.length - (intOf i).toNat)
    case atStart => exact ⟨0, Nat.zero_le _, rfl, HB0, by unfold Hid Pl.play21; simp⟩
    case round =>
      obtain ⟨k, hk1, rfl, HB, HLEN⟩ := hrel
      by_cases hlt : k < xs.length
      · have hG : Grew B wr := by obtain ⟨F, f, _, _, _, _, _, _, h⟩ := HB.out; exact h
        rcases HAB.out with h0 | ⟨b, off, rfl, hb, hR⟩
        · rw [h0] at hlt; simp at hlt
        have q0 := (hG.cells.1 b (off + k * 6) hb).trans (hR.kind k hlt)
        have q1 := (hG.cells.1 b (off + k * 6 + 1) hb).trans (hR.ver k hlt)
        have q2 := (hG.cells.1 b (off + k * 6 + 2) hb).trans (hR.key k hlt)
        have q3 := (hG.cells.1 b (off + k * 6 + 3) hb).trans (hR.val k hlt)
        have q4 := (hG.cells.1 b (off + k * 6 + 4) hb).trans (hR.lo k hlt)
        have q5 := (hG.cells.1 b (off + k * 6 + 5) hb).trans (hR.hi k hlt)
        have HN := hid (Pl.play21_snoc xs k hlt)
        obtain ⟨s1, s2, s3, s4⟩ := HSH.out k hlt
        clear hR
        have hTl : (Pl.play21 (xs.take k)).length ≤ 1000000 := by have := HLEN.out; omega
        have HLEN2 := hid (show (Pl.step21 (Pl.play21 (xs.take k)) (actAt21 xs k)).length ≤ k + 1 by
          have := HLEN.out
          unfold Pl.step21
          split
          · have := Pl.tdel_length (Pl.play21 (xs.take k)) (actAt21 xs k).key; omega
          · have := Pl.putT_length (Pl.play21 (xs.take k)) ⟨(actAt21 xs k).key, (actAt21 xs k).val, (actAt21 xs k).ver⟩; omega)
        rw [← HN.out] at HLEN2
        generalize hT0 : Pl.play21 (xs.take k) = T at *
        clear hT0
        have hG' := hG.alloc (.cells #[.int .i64 (actAt21 xs k).kind, .int .i64 (actAt21 xs k).ver, .string (actAt21 xs k).key, .string (actAt21 xs k).val, .string (actAt21 xs k).lo, .string (actAt21 xs k).hi] 61)
        by_cases h0 : (actAt21 xs k).kind = 1
        · have hC := hid (show Pl.step21 T (actAt21 xs k) = Pl.tdel T (actAt21 xs k).key by unfold Pl.step21; rw [if_pos h0])
          have hb0 : ((actAt21 xs k).kind == 1) = true := beq_iff_eq.2 h0
          clear h0
          have hlook := (HB.out.grew ((Grew.refl wr).alloc (.cells #[.int .i64 (actAt21 xs k).kind, .int .i64 (actAt21 xs k).ver, .string (actAt21 xs k).key, .string (actAt21 xs k).val, .string (actAt21 xs k).lo, .string (actAt21 xs k).hi] 61))).look (actAt21 xs k).key s1
          have HD := hid (fun W (g : Grew wr W) => act_del hS E B tb mb (HEB.out.grew hG) HB.out g hTl (actAt21 xs k).key s1)
          generalize hg : Pl.getT T (actAt21 xs k).key = gt at *
          have HGT := hid hg
          clear hg
          unfold Pr.agg at hlook
          generalize (gt.getD Pr.none).key = gk at *
          generalize (gt.getD Pr.none).val = gv at *
          generalize (gt.getD Pr.none).ver = gn at *
          generalize gt.isSome = gb at *
          have hbb : (gb != gb) = false := by cases gb <;> rfl
          go_wp2_with fail
          refine (HD.out _ (((Grew.refl wr).alloc _).alloc _)).mono ?_
          rintro e w4 ⟨rfl, hcell, hsz, hG4, F4, f4, m1, m2, m3, m4, m5, m6, m7⟩
          have k2 : w4.cell? ⟨wr.heap.size, 2, none⟩ = some (.string (actAt21 xs k).key) := by rw [hcell _ _ (Nat.le_refl _) (by simp; omega)]; simp [go_sem]
          clear hcell hG' hlook
          have M := hid (And.intro m2 (And.intro m3 (And.intro m4 (And.intro m5 (And.intro m6 m7)))))
          clear m2 m3 m4 m5 m6 m7
          go_wp2_with (at_delete; refine wpList_delete_L rfl _ _ rfl str_key Tryd.underlying60 rfl m1 _ _ rfl (keyOf_str s1) ?_)
          intro w5 hm5 ho5
          obtain ⟨m2, m3, m4, m5, m6, m7⟩ := M.out
          have HB5 : Hid (BothAt B w5 tb mb (k + 1) (Pl.play21 (xs.take (k + 1)))) := by
            unfold Hid
            rw [HN.out, hC.out]
            exact ⟨F4, _, m5.kept ho5 (fun j hj e => m7 (by rw [← e]; exact hj)), m6, hm5.mono (Nat.le_succ k), m2.del m3 _, m7, m4, ((hG4.only _).then ho5).grew (fun j hj => by subst hj; exact m4)⟩
          clear m1 m2 m3 m4 m5 m6 m7 M hm5 ho5
          go_wp2_with fail
          go_roundw
          case rel => exact ⟨k + 1, by omega, by go_num, HB5, HLEN2⟩
          case measure => simp [intOf]; omega
        · have hC := hid (show Pl.step21 T (actAt21 xs k) = Pl.putT T ⟨(actAt21 xs k).key, (actAt21 xs k).val, (actAt21 xs k).ver⟩ by unfold Pl.step21; rw [if_neg h0])
          have hb0 : ((actAt21 xs k).kind == 1) = false := beq_eq_false_iff_ne.2 h0
          clear h0
          have HP := hid (fun W (g : Grew wr W) => act_put hS E B tb mb (HEB.out.grew hG) HB.out g hTl (actAt21 xs k).key (actAt21 xs k).val (actAt21 xs k).ver s1 s2)
          by_cases hn : Pl.putN ⟨(actAt21 xs k).key, (actAt21 xs k).val, (actAt21 xs k).ver⟩ = 0
          · have hpt : Pl.putT T ⟨(actAt21 xs k).key, (actAt21 xs k).val, (actAt21 xs k).ver⟩ = Pl.tput T ⟨(actAt21 xs k).key, (actAt21 xs k).val, (actAt21 xs k).ver⟩ := by unfold Pl.putT; rw [if_pos hn]
            have hkz := (Pl.putN_zero hn).1
            have HZ : Hid (errOf E (Pl.putN ⟨(actAt21 xs k).key, (actAt21 xs k).val, (actAt21 xs k).ver⟩) = .nilIface) := by unfold Hid; rw [hn]; rfl
            rw [hpt] at HP hC
            have HKZ := hid hkz
            clear hn hpt hkz
            go_wp2_with fail
            refine (HP.out _ ((Grew.refl wr).alloc _)).mono ?_
            rw [HZ.out]
            rintro e w4 ⟨rfl, hcell, hsz, hG4, F4, f4, m1, m2, m3, m4, m5, m6, m7⟩
            have k1 : w4.cell? ⟨wr.heap.size, 1, none⟩ = some (.int .i64 (actAt21 xs k).ver) := by rw [hcell _ _ (Nat.le_refl _) (by simp)]; simp [go_sem]
            have k2 : w4.cell? ⟨wr.heap.size, 2, none⟩ = some (.string (actAt21 xs k).key) := by rw [hcell _ _ (Nat.le_refl _) (by simp)]; simp [go_sem]
            have k3 : w4.cell? ⟨wr.heap.size, 3, none⟩ = some (.string (actAt21 xs k).val) := by rw [hcell _ _ (Nat.le_refl _) (by simp)]; simp [go_sem]
            clear hcell hG'
            have M := hid (And.intro m2 (And.intro m3 (And.intro m4 (And.intro m5 (And.intro m6 m7)))))
            clear m2 m3 m4 m5 m6 m7
            go_wp2_with (at_mapUpdate; refine wpList_update_L rfl _ _ _ rfl str_key Tryd.underlying60 rfl m1 (by unfold maxLen; omega) _ _ _ rfl rfl (keyOf_str s1) ?_)
            intro w5 hm5 ho5
            obtain ⟨m2, m3, m4, m5, m6, m7⟩ := M.out
            have HB5 : Hid (BothAt B w5 tb mb (k + 1) (Pl.play21 (xs.take (k + 1)))) := by
              unfold Hid
              rw [HN.out, hC.out]
              exact ⟨F4, _, m5.kept ho5 (fun j hj e => m7 (by rw [← e]; exact hj)), m6, hm5, m2.put m3 (p := ⟨(actAt21 xs k).key, (actAt21 xs k).val, (actAt21 xs k).ver⟩) HKZ.out, m7, m4, ((hG4.only _).then ho5).grew (fun j hj => by subst hj; exact m4)⟩
            clear m1 m2 m3 m4 m5 m6 m7 M hm5 ho5
            go_wp2_with fail
            go_roundw
            case rel => exact ⟨k + 1, by omega, by go_num, HB5, HLEN2⟩
            case measure => simp [intOf]; omega
          · have hpt : Pl.putT T ⟨(actAt21 xs k).key, (actAt21 xs k).val, (actAt21 xs k).ver⟩ = T := by unfold Pl.putT; rw [if_neg hn]
            have HZ := hid (show errOf E (Pl.putN ⟨(actAt21 xs k).key, (actAt21 xs k).val, (actAt21 xs k).ver⟩) = .iface 273 (.pointer (some (E (Pl.putN ⟨(actAt21 xs k).key, (actAt21 xs k).val, (actAt21 xs k).ver⟩)))) from errOf_pos E _ hn)
            rw [hpt] at HP hC
            clear hn hpt
            go_wp2_with fail
            refine (HP.out _ ((Grew.refl wr).alloc _)).mono ?_
            rw [HZ.out]
            rintro e w4 ⟨rfl, hcell, hsz, hG4, F4, f4, m1, m2, m3, m4, m5, m6, m7⟩
            have HB5 : Hid (BothAt B w4 tb mb (k + 1) (Pl.play21 (xs.take (k + 1)))) := by
              unfold Hid
              rw [HN.out, hC.out]
              exact ⟨F4, f4, m5, m6, m1.mono (Nat.le_succ k), m2, m7, m4, hG4⟩
            clear hcell hG' m1 m2 m3 m4 m5 m6 m7
            go_wp2_with fail
            go_roundw
            case rel => exact ⟨k + 1, by omega, by go_num, HB5, HLEN2⟩
            case measure => simp [intOf]; omega
      · obtain rfl : k = xs.length := by omega
        have hTl : (Pl.play21 (xs.take xs.length)).length ≤ 80 := by have := HLEN.out; omega
        obtain ⟨wo, rfl⟩ : ∃ wo : World, wo = wr := ⟨_, rfl⟩
        generalize Pl.play21 (xs.take xs.length) = T at *
        obtain ⟨F, f, hTab, hF, hm, hfis, hnF, hmb, hG⟩ := HB.out
        have HT := hid hTab
        have HFI := hid hfis
        have HS := hid hTab.srt
        have hEr := hid (HEB.out.grew hG)
        have l0 := (hG.cells.1 _ _ HBL.out.2.2).trans HBL.out.1
        have l1 := (hG.cells.1 _ _ HBL.out.2.2).trans HBL.out.2.1
        have lz : w.heap.size < wo.heap.size := Nat.lt_of_lt_of_le HBL.out.2.2 hG.size
        clear hTab hfis hF hnF HB HLEN
        go_wp2_with (at_range; refine wpList_range_L rfl _ rfl str_key Tryd.underlying60 rfl hm ?_)
        intro w5 left5 cnt5 hr5 hg5 hs5
        have HR5 := hid hr5
        obtain ⟨r, hr⟩ : ∃ r, r = wo.heap.size := ⟨_, rfl⟩
        rw [← hr] at HR5 ⊢
        have hrB : B.heap.size ≤ r := by rw [hr]; exact hG.size
        have HRr := hid hr
        clear hr5 hs5 hr
        go_wp2_with fail
        go_loopw [11] (fun _ wx => ∃ left cnt, Hid (LRange wx Tryd.prog 9 mb r xs.length f left cnt) ∧ Grew wo wx) (fun _ wx => wx.rangeLeft mb r)
        case atStart => exact ⟨left5, cnt5, HR5, hg5⟩
        case round =>
          obtain ⟨left, cnt, HR, hGx⟩ := hrel
          have hrange := HR.out
          have hmeas := hrange.left_eq
          have HMEAS := hid hmeas
          have HGET := hid (fun (W : World) (g : Grew wo W) (c : Pr) (hc : c ∈ T) => getTab_any hS E (hEr.out.grew g) (HT.out.grew g) (by omega) c.key (TabAt.sz HT.out c hc))
          have l0' := (hGx.cells.1 _ _ lz).trans l0
          have l1' := (hGx.cells.1 _ _ lz).trans l1
          clear hmeas
          go_wp2_with (at_next; refine wpList_next_L rfl _ rfl Tryd.underlying9 str_key HFI.out r left cnt rfl hrange ?_ ?_)
          · have HSC := hid (scanT_any hS E (hEr.out.grew hGx) (HT.out.grew hGx) (by omega) lo hi 1000 (by omega) (by omega))
            have HLM := hid HR.out.lmap
            have hzx : w.heap.size < wr.heap.size := Nat.lt_of_lt_of_le lz hGx.size
            clear hrange HMEAS HGET l0 l1
            refine HSC.out.mono ?_
            rintro e w8 ⟨⟨v8, rfl, hrow8⟩, hg8⟩
            obtain ⟨a8, cap8, rfl, hP8⟩ := pairsAt_of hrow8
            have HP8 := hid hP8
            have hG8 := hGx.trans hg8
            have hGB8 := hG.trans hG8
            have l0'' := (hg8.cells.1 _ _ hzx).trans l0'
            have l1'' := (hg8.cells.1 _ _ hzx).trans l1'
            have hz8 : w.heap.size < w8.heap.size := Nat.lt_of_lt_of_le hzx hg8.size
            have HS8 := hid (Pl.scan_srt HS.out lo hi 1000)
            have HM8 := hid (fun c (hc : c ∈ Pl.scanT T lo hi 1000) => Pl.scan_mem hc)
            have hlen8 : (Pl.scanT T lo hi 1000).length ≤ 80 := by
              have : (Pl.scanT T lo hi 1000).length ≤ T.length := by
                unfold Pl.scanT
                rw [List.length_take]
                have := List.length_filter_le (fun c : Pr => Pl.hasS lo hi c.key) T
                omega
              omega
            have HLM8 := hid (HLM.out.grew hg8)
            clear hrow8 hP8 hg8 l0' l1' HSC HR HR5 HLM
            generalize Pl.scanT T lo hi 1000 = ys at *
            obtain ⟨wp, rfl⟩ : ∃ wp : World, wp = w8 := ⟨_, rfl⟩
            go_wp2_with fail
            go_loopw [106] (fun i wx => ∃ k : Nat, k ≤ ys.length ∧ i = .int .i64 k ∧ Grew wp wx) (fun i _ => ys.length - (intOf i).toNat)
            case atStart => exact ⟨0, Nat.zero_le _, rfl, Grew.refl _⟩
            case round =>
              obtain ⟨k, hk1, rfl, hGk⟩ := hrel
              by_cases hlt : k < ys.length
              · rcases HP8.out with h0 | ⟨b8, off8, rfl, hb8, hR8⟩
                · rw [h0] at hlt; simp at hlt
                have hmem := HM8.out _ (Pl.prAt_mem ys k hlt)
                have q0 := (hGk.cells.1 b8 (off8 + k * 3) hb8).trans (hR8.key k hlt)
                have q1 := (hGk.cells.1 b8 (off8 + k * 3 + 1) hb8).trans (hR8.val k hlt)
                have q2 := (hGk.cells.1 b8 (off8 + k * 3 + 2) hb8).trans (hR8.ver k hlt)
                have l0k := (hGk.cells.1 _ _ hz8).trans l0''
                have l1k := (hGk.cells.1 _ _ hz8).trans l1''
                have hglr : b8 < _ := Nat.lt_of_lt_of_le hb8 hGk.size
                have hzk := Nat.lt_of_lt_of_le hz8 hGk.size
                have hsz := TabAt.sz HT.out _ hmem.1
                have f2 : decide (Pl.compare (prAt ys k).key lo < 0) = false := decide_eq_false (by have := Pl.has_lo hmem.2; omega)
                have hhas := fun h => Pl.has_hi hmem.2 h
                cases k with
                | zero =>
                  simp only [Nat.zero_mul, Nat.add_zero] at q0 q1 q2
                  generalize prAt ys 0 = c at *
                  obtain ⟨ck, cv, cn⟩ := c
                  dsimp only at *
                  clear hR8 hmem
                  obtain ⟨W5, hW5⟩ : ∃ W5, W5 = wr.alloc (.cells #[.string ck, .string cv, .int .i64 cn] 38) := ⟨_, rfl⟩
                  have e0 : W5.cell? ⟨wr.heap.size, 0, none⟩ = some (.string ck) := by rw [hW5]; simp [go_sem]
                  have g5 : Grew wr W5 := by rw [hW5]; exact (Grew.refl wr).alloc _
                  have hzk' : w.heap.size < wr.heap.size := hzk
                  have E0 := cell_regrown e0
                  have L0 := cell_regrown ((g5.cells.1 _ _ hzk').trans l0k)
                  have L1 := cell_regrown ((g5.cells.1 _ _ hzk').trans l1k)
                  have cmp : ∀ (a b : ByteArray) (ha : a.size ≤ 70368744177664) (hb : b.size ≤ 70368744177664) d os, Calls Tryd.prog 39 #[.string a, .string b] (grow (redrawn W5 d) os) fun e w'' => e = .returned (.int .i64 (Pl.compare a b)) ∧ ∃ p : Regrown, w'' = grow (redrawn W5 p.d) p.os := fun a b ha hb d os => Calls.regrown_of (compare_any a b _ ha hb)
                  have hW5e : wr.alloc (.cells #[.string ck, .string cv, .int .i64 cn] 38) = W5 := hW5.symm
                  have hGr : ∀ d os, Grew wr (grow (redrawn W5 d) os) := fun d os => g5.trans (below_regrown W5 d os)
                  have hlo2 : lo.size ≤ 70368744177664 := by omega
                  have hhi2 : hi.size ≤ 70368744177664 := by omega
                  cases hemp : hi.toList.isEmpty with
                  | true =>
                    have e2 : hi.toList = [] := by simpa using hemp
                    have e4 : (!hi.toList.isEmpty) = false := by rw [hemp]; rfl
                    have HGr := hid hGr
                    clear hhas hW5 g5 hGr
                    go_wp2_with fail
                    clear hW5e
                    refine wp_region_quiet_below (by kernel_rfl) (by kernel_rfl) ?_
                    repeat (go_big_quiet_step (exact cmp _ _ (by assumption) (by assumption) _ _))
                    refine wpQuiet_nil ?_
                    intro _ hw'
                    obtain ⟨⟨dq, osq⟩, hw''⟩ := hw'
                    subst hw''
                    go_wp2_with fail
                    go_roundw
                    case rel => exact ⟨0 + 1, by omega, by go_num, hGk.trans (HGr.out dq osq)⟩
                    case measure => simp [intOf]; omega
                  | false =>
                    have e2 : (!hi.toList.isEmpty) = true := by rw [hemp]; rfl
                    have e3 : ¬ hi.toList = [] := by simpa using hemp
                    have f3 : decide (0 ≤ Pl.compare ck hi) = false := decide_eq_false (by have := hhas hemp; omega)
                    have HGr := hid hGr
                    clear hhas hW5 g5 hGr
                    go_wp2_with fail
                    clear hW5e
                    refine wp_region_quiet_below (by kernel_rfl) (by kernel_rfl) ?_
                    repeat (go_big_quiet_step (exact cmp _ _ (by assumption) (by assumption) _ _))
                    refine wpQuiet_nil ?_
                    intro _ hw'
                    obtain ⟨⟨dq, osq⟩, hw''⟩ := hw'
                    subst hw''
                    go_wp2_with fail
                    go_roundw
                    case rel => exact ⟨0 + 1, by omega, by go_num, hGk.trans (HGr.out dq osq)⟩
                    case measure => simp [intOf]; omega
                | succ m =>
                  have hm1 : m < ys.length := by omega
                  have p0 := (hGk.cells.1 b8 (off8 + m * 3) hb8).trans (hR8.key m hm1)
                  have hpsz := TabAt.sz HT.out _ (HM8.out _ (Pl.prAt_mem ys m hm1)).1
                  have f1 : (Pl.compare (prAt ys m).key (prAt ys (m + 1)).key != -1) = false := by rw [Pl.srt_step HS8.out m hlt]; rfl
                  generalize (prAt ys m).key = pk at *
                  generalize prAt ys (m + 1) = c at *
                  obtain ⟨ck, cv, cn⟩ := c
                  dsimp only at *
                  clear hR8 hmem
                  obtain ⟨W5, hW5⟩ : ∃ W5, W5 = wr.alloc (.cells #[.string ck, .string cv, .int .i64 cn] 38) := ⟨_, rfl⟩
                  have e0 : W5.cell? ⟨wr.heap.size, 0, none⟩ = some (.string ck) := by rw [hW5]; simp [go_sem]
                  have g5 : Grew wr W5 := by rw [hW5]; exact (Grew.refl wr).alloc _
                  have hzk' : w.heap.size < wr.heap.size := hzk
                  have E0 := cell_regrown e0
                  have L0 := cell_regrown ((g5.cells.1 _ _ hzk').trans l0k)
                  have L1 := cell_regrown ((g5.cells.1 _ _ hzk').trans l1k)
                  have P0 := cell_regrown ((g5.cells.1 b8 (off8 + m * 3) hglr).trans p0)
                  have i0 : (0 : Int) ≤ (m : Int) := by omega
                  have i2 : ((m : Int) + 1) - 1 = (m : Int) := by omega
                  have i3 : (m : Int) < (ys.length : Int) := by omega
                  have i5 : m < ys.length := by omega
                  have hmB : m < 1000000 := by omega
                  have i6 : IntKind.i64.wrap (m : Int) = (m : Int) := IntWalk.i64_in _ (by omega)
                  have hd2 : decide ((0 : Int) < (m : Int) + 1) = true := decide_eq_true (by omega)
                  have cmp : ∀ (a b : ByteArray) (ha : a.size ≤ 70368744177664) (hb : b.size ≤ 70368744177664) d os, Calls Tryd.prog 39 #[.string a, .string b] (grow (redrawn W5 d) os) fun e w'' => e = .returned (.int .i64 (Pl.compare a b)) ∧ ∃ p : Regrown, w'' = grow (redrawn W5 p.d) p.os := fun a b ha hb d os => Calls.regrown_of (compare_any a b _ ha hb)
                  have hW5e : wr.alloc (.cells #[.string ck, .string cv, .int .i64 cn] 38) = W5 := hW5.symm
                  have hGr : ∀ d os, Grew wr (grow (redrawn W5 d) os) := fun d os => g5.trans (below_regrown W5 d os)
                  have hlo2 : lo.size ≤ 70368744177664 := by omega
                  have hhi2 : hi.size ≤ 70368744177664 := by omega
                  cases hemp : hi.toList.isEmpty with
                  | true =>
                    have e2 : hi.toList = [] := by simpa using hemp
                    have e4 : (!hi.toList.isEmpty) = false := by rw [hemp]; rfl
                    have HGr := hid hGr
                    clear hhas hW5 g5 p0 hGr
                    go_wp2_with fail
                    clear hW5e
                    refine wp_region_quiet_below (by kernel_rfl) (by kernel_rfl) ?_
                    repeat (go_big_quiet_step (exact cmp _ _ (by assumption) (by assumption) _ _))
                    refine wpQuiet_nil ?_
                    intro _ hw'
                    obtain ⟨⟨dq, osq⟩, hw''⟩ := hw'
                    subst hw''
                    go_wp2_with fail
                    go_roundw
                    case rel => exact ⟨m + 1 + 1, by omega, by go_num, hGk.trans (HGr.out dq osq)⟩
                    case measure => simp [intOf]; omega
                  | false =>
                    have e2 : (!hi.toList.isEmpty) = true := by rw [hemp]; rfl
                    have e3 : ¬ hi.toList = [] := by simpa using hemp
                    have f3 : decide (0 ≤ Pl.compare ck hi) = false := decide_eq_false (by have := hhas hemp; omega)
                    have HGr := hid hGr
                    clear hhas hW5 g5 p0 hGr
                    go_wp2_with fail
                    clear hW5e
                    refine wp_region_quiet_below (by kernel_rfl) (by kernel_rfl) ?_
                    repeat (go_big_quiet_step (exact cmp _ _ (by assumption) (by assumption) _ _))
                    refine wpQuiet_nil ?_
                    intro _ hw'
                    obtain ⟨⟨dq, osq⟩, hw''⟩ := hw'
                    subst hw''
                    go_wp2_with fail
                    go_roundw
                    case rel => exact ⟨m + 1 + 1, by omega, by go_num, hGk.trans (HGr.out dq osq)⟩
                    case measure => simp [intOf]; omega
              · obtain rfl : k = ys.length := by omega
                have HLEN := hid (lenT_any ((HT.out.grew hG8).grew hGk))
                have hlm9 := HLM8.out.grew hGk
                go_wp2_with fail
                refine HLEN.out.mono ?_
                rintro e w9 ⟨rfl, rfl⟩
                go_wp2_with (at_len; refine wpList_len_L rfl _ rfl str_key Tryd.underlying60 (zero_pair _) rfl hlm9 HFI.out HS.out ?_)
                go_ret
                exact ⟨rfl, hwB.trans (hGB8.trans hGk)⟩
          · intro c w6 left6 cnt6 hc hr6 hlt6 ho6 hs6 hen
            have hG6 : Grew wo w6 := ((hGx.only _).then ho6).grew (fun j hj => by subst hj; rw [HRr.out]; exact Nat.le_refl _)
            have HR6 := hid hr6
            have HG := hid (fun (W : World) (g : Grew wo W) => HGET.out W g c hc)
            have hgc := Pl.getT_mem HS.out hc
            rw [hgc] at HG
            obtain ⟨ck, cv, cn⟩ := c
            dsimp only [Pr.agg, Option.getD, Option.isSome] at HG hen ⊢
            clear hr6 hgc ho6 HGET hrange hs6
            go_wp2_with fail
            refine (HG.out _ (hG6.alloc _)).mono ?_
            rintro e w7 ⟨rfl, hg7⟩
            have hz6 : w6.heap.size < w7.heap.size := by have := hg7.size; simp at this; omega
            have k0 : w7.cell? ⟨w6.heap.size, 0, none⟩ = some (.string ck) := by rw [hg7.cells.1 _ _ (by simp)]; simp [go_sem]
            have k1 : w7.cell? ⟨w6.heap.size, 1, none⟩ = some (.string cv) := by rw [hg7.cells.1 _ _ (by simp)]; simp [go_sem]
            have k2 : w7.cell? ⟨w6.heap.size, 2, none⟩ = some (.int .i64 cn) := by rw [hg7.cells.1 _ _ (by simp)]; simp [go_sem]
            have hG7 := (hG6.alloc _).trans hg7
            have HR7 := hid ((HR6.out.kept ((Grew.refl w6).alloc (.cells #[.string ck, .string cv, .int .i64 cn] 38))).kept hg7)
            have HR8 := hid (HR7.out.kept ((Grew.refl w7).alloc (.cells #[.string ck, .string cv, .int .i64 cn] 38)))
            have hm8 := hid (HR8.out.left_eq)
            clear hg7
            go_wp2_with fail
            go_roundw
            case rel => exact ⟨left6, cnt6, HR8, hG7.alloc _⟩
            case measure => rw [hm8.out, HMEAS.out]; exact hlt6
end Go.Proofs.YtbkombicbgjlnaaDoor
