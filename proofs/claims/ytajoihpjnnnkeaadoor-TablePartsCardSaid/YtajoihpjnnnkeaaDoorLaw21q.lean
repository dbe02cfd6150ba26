/- The walk of tidewaterlaw21.TableParts. -/
import Derived.Test.YtajoihpjnnnkeaaDoorLaw21p
namespace Go.Proofs.YtajoihpjnnnkeaaDoor
open Go.RowKit Go.Maps
attribute [local go_sem] Oper.semAt_some

theorem pairsAt_take {W : World} {a : Option Addr} {xs : List Pr} (h : PairsAt W a xs) (n : Nat) : PairsAt W a (xs.take n) := by
  rcases h with rfl | ⟨b, off, e, hb, hR⟩
  · exact .inl (by simp)
  · exact .inr ⟨b, off, e, hb, hR.take n⟩

set_option maxRecDepth 100000 in
set_option maxHeartbeats 8000000 in
theorem tableParts_walk {S : Nat → Bool} (hS : TabS S) (hS18 : S 18 = true) (E : Nat → Addr) (a : Option Addr) (cap : Nat) (xs : List Act21) (key : ByteArray) (limit : Int) (w : World) (hE : Errs S E w) (hA : ActsAt21 w a xs) (hx : xs.length ≤ 9223372036854775807)
    (hk : ∀ j, j < xs.length → (actAt21 xs j).key.size ≤ 9223372036854775807 ∧ (actAt21 xs j).val.size ≤ 9223372036854775807 ∧ (actAt21 xs j).lo.size ≤ 9223372036854775807 ∧ (actAt21 xs j).hi.size ≤ 9223372036854775807) (hkey : key.size ≤ maxLen) :
    Calls Tryd.prog 5 #[.slice a xs.length cap, .string key, .int .i64 limit] w fun e w' => e = .returned (.bool true) ∧ Grew w w' := by
  have hkey2 : key.size ≤ 9223372036854775807 := by unfold maxLen at hkey; omega
  have HE := hid hE
  have HA := hid hA
  have HK := hid hk
  clear hE hA hk
  go_enter Tryd.func5, Tryd.ntmps5
  go_wp2_with fail
  refine (alive21 hS E _ HE.out).mono ?_
  rintro e w1 ⟨rfl, hg1⟩
  have HG1 := hid hg1
  clear hg1
  go_wp2_with fail
  refine (long21_any a cap xs _ (HA.out.grew HG1.out) hx HK.out).mono ?_
  rintro e w2 ⟨rfl, hg2⟩
  have HG2 : Hid (Grew w w2) := HG1.out.trans hg2
  clear hg2 HG1
  cases hl : long21B xs with
  | true =>
    go_wp2_with fail
    go_ret
    exact ⟨rfl, HG2.out⟩
  | false =>
    by_cases h2 : 300 < key.size
    · have h3 : (300 : Int) < (key.size : Int) := by omega
      go_wp2_with fail
      go_ret
      exact ⟨rfl, HG2.out⟩
    have h3 : ¬ (300 : Int) < (key.size : Int) := by omega
    obtain ⟨hx80, hsh⟩ := long21_short hl
    have HSH := hid hsh
    have hky : key.size ≤ 300 := by omega
    have hx80I : (xs.length : Int) ≤ 80 := by omega
    clear hl hsh h2 hx
    go_wp2_with fail
    refine (newT_any _).mono ?_
    rintro e w3 ⟨rfl, hg3, hT⟩
    have HB0 := hid (show OneT w2 w3 w2.heap.size (Pl.puts21 (xs.take 0)) from ⟨_, hT, fun j hj => by subst hj; exact Nat.le_refl _, hg3⟩)
    have HEB := hid (HE.out.grew HG2.out)
    have HAB := hid (HA.out.grew HG2.out)
    clear hT hg3 HE HA
    obtain ⟨tb, htb⟩ : ∃ tb, tb = w2.heap.size := ⟨_, rfl⟩
    rw [← htb] at HB0 ⊢
    have HTB := hid htb
    clear htb
    go_wp2_with fail
    go_loopw [30] (fun i wr => ∃ k : Nat, k ≤ xs.length ∧ i = .int .i64 k ∧ Hid (OneT w2 wr tb (Pl.puts21 (xs.take k))) ∧ Hid ((Pl.puts21 (xs.take k)).length ≤ k)) (fun i _ => xs.length - (intOf i).toNat)
    case atStart => exact ⟨0, Nat.zero_le _, rfl, HB0, by unfold Hid Pl.puts21; simp⟩
    case round =>
      obtain ⟨k, hk1, rfl, HB, HLEN⟩ := hrel
      by_cases hlt : k < xs.length
      · have hG : Grew w2 wr := by obtain ⟨F, _, _, h⟩ := HB.out; exact h
        rcases HAB.out with h0 | ⟨b, off, rfl, hb, hR⟩
        · rw [h0] at hlt; simp at hlt
        have q0 := (hG.cells.1 b (off + k * 6) hb).trans (hR.kind k hlt)
        have q1 := (hG.cells.1 b (off + k * 6 + 1) hb).trans (hR.ver k hlt)
        have q2 := (hG.cells.1 b (off + k * 6 + 2) hb).trans (hR.key k hlt)
        have q3 := (hG.cells.1 b (off + k * 6 + 3) hb).trans (hR.val k hlt)
        have q4 := (hG.cells.1 b (off + k * 6 + 4) hb).trans (hR.lo k hlt)
        have q5 := (hG.cells.1 b (off + k * 6 + 5) hb).trans (hR.hi k hlt)
        obtain ⟨s1, s2, s3, s4⟩ := HSH.out k hlt
        have hTl : (Pl.puts21 (xs.take k)).length ≤ 1000000 := by have := HLEN.out; omega
        have HP := hid (fun W (g : Grew wr W) => one_put hS E HB.out HEB.out hTl (actAt21 xs k).key (actAt21 xs k).val (actAt21 xs k).ver s1 s2 W g)
        have HLEN2 := hid (show (Pl.puts21 (xs.take (k + 1))).length ≤ k + 1 by
          rw [Pl.puts21_snoc xs k hlt]
          have := HLEN.out
          have := Pl.putT_len (Pl.puts21 (xs.take k)) ⟨(actAt21 xs k).key, (actAt21 xs k).val, (actAt21 xs k).ver⟩
          omega)
        have HN := hid (Pl.puts21_snoc xs k hlt)
        rw [← HN.out] at HP
        clear hR hG HN
        go_wp2_with fail
        refine (HP.out _ ((Grew.refl wr).alloc _)).mono ?_
        rintro e w4 ⟨⟨u, rfl⟩, hB4⟩
        have HB4 := hid hB4
        clear hB4
        go_wp2_with fail
        go_roundw
        case rel => exact ⟨k + 1, by omega, by go_num, HB4, HLEN2⟩
        case measure => simp [intOf]; omega
      · obtain rfl : k = xs.length := by omega
        have hTl : (Pl.puts21 (xs.take xs.length)).length ≤ 80 := by have := HLEN.out; omega
        obtain ⟨wo, hwo⟩ : ∃ wo : World, wo = wr := ⟨_, rfl⟩
        subst hwo
        generalize Pl.puts21 (xs.take xs.length) = T at *
        have hTI : (T.length : Int) ≤ 80 := by omega
        have hSrt : Hid (Pl.Srt T) := by obtain ⟨F, h, _⟩ := HB.out; exact tabAt_srt h
        have HSC := hid (fun (lm : Int) (W : World) (g : Grew wo W) => one_scan hS E HB.out HEB.out (by omega) lm W g)
        have HGB : Hid (Grew w2 wo) := by obtain ⟨F, _, _, h⟩ := HB.out; exact h
        clear HLEN HAB HB0
        go_wp2_with fail
        refine (HSC.out 1000 _ (Grew.refl wo)).mono ?_
        rintro e w5 ⟨a5, cap5, rfl, hr5, hg5⟩
        have e5 : T.take (1000 : Int).toNat = T := List.take_of_length_le (by simp; omega)
        rw [e5] at hr5 ⊢
        have HR5 := hid hr5
        have HG5 := hid hg5
        have HP5 : Hid (PairsAt w5 a5 T) := by
          obtain ⟨a', c', e', h⟩ := pairsAt_of hr5
          cases e'; exact h
        have HF5 := hid (slForm_of hr5)
        have HC5 : Hid (T.length ≤ cap5) := by
          show T.length ≤ cap5
          rcases hr5.2 with ⟨e, h0⟩ | ⟨b, c, cur, e1, h2, h3, h4, _⟩
          · injection e with e1 e2 e3; omega
          · injection e1 with e1 e2 e3; omega
        clear hr5 hg5 e5
        go_wp2_with fail
        go_loopw [48] (fun i wr => ∃ k : Nat, k ≤ T.length ∧ i = .int .i64 k ∧ Grew w5 wr) (fun i _ => T.length - (intOf i).toNat)
        case atStart => exact ⟨0, Nat.zero_le _, rfl, Grew.refl _⟩
        case round =>
          obtain ⟨k, hk1, rfl, hGk⟩ := hrel
          by_cases hlt : k < T.length
          · rcases HP5.out with h0 | ⟨b, off, rfl, hb, hR⟩
            · rw [h0] at hlt; simp at hlt
            have q0 := (hGk.cells.1 _ _ hb).trans (hR.key k hlt)
            have q1 := (hGk.cells.1 _ _ hb).trans (hR.val k hlt)
            have q2 := (hGk.cells.1 _ _ hb).trans (hR.ver k hlt)
            have HGET := hid (fun (W : World) (g : Grew wo W) => one_get hS E HB.out HEB.out (by omega) (prAt T k) (Pl.prAt_mem T k hlt) W g)
            have HGo := hid (HG5.out.trans hGk)
            clear hR
            unfold Pr.agg at HGET
            generalize prAt T k = c at *
            obtain ⟨ck, cv, cn⟩ := c
            dsimp only at *
            go_wp2_with fail
            refine (HGET.out _ (HGo.out.alloc _)).mono ?_
            rintro e w6 ⟨rfl, hg6⟩
            have hz : wr.heap.size < w6.heap.size := by have := hg6.size; simp at this; omega
            have k0 : w6.cell? ⟨wr.heap.size, 0, none⟩ = some (.string ck) := by rw [hg6.cells.1 _ _ (by simp)]; simp [go_sem]
            have k1 : w6.cell? ⟨wr.heap.size, 1, none⟩ = some (.string cv) := by rw [hg6.cells.1 _ _ (by simp)]; simp [go_sem]
            have k2 : w6.cell? ⟨wr.heap.size, 2, none⟩ = some (.int .i64 cn) := by rw [hg6.cells.1 _ _ (by simp)]; simp [go_sem]
            have HG6 := hid ((hGk.alloc _).trans hg6)
            clear hg6
            go_wp2_with fail
            go_roundw
            case rel => exact ⟨k + 1, by omega, by go_num, HG6.out.alloc _⟩
            case measure => simp [intOf]; omega
          · obtain rfl : k = T.length := by omega
            have HGo := hid (HG5.out.trans hGk)
            have HGk := hid hGk
            clear hGk
            go_wp2_with fail
            refine (HSC.out limit _ HGo.out).mono ?_
            rintro e w6 ⟨a6, cap6, rfl, hr6, hg6⟩
            have HP6 : Hid (PairsAt w6 a6 (T.take limit.toNat)) := by
              obtain ⟨a', c', e', h⟩ := pairsAt_of hr6
              cases e'; exact h
            have HG6 := hid hg6
            have hn6 : ((T.take limit.toNat).length : Int) = max 0 (min limit (T.length : Int)) := by
              rw [List.length_take]; omega
            have hn6b : (T.take limit.toNat).length ≤ T.length := by rw [List.length_take]; omega
            have hY5 : (T.take limit.toNat).length ≤ cap5 := by have := HC5.out; omega
            have HS6 := hid (fun W (g : Grew w6 W) => samePairs_same W a6 a5 cap6 cap5 (T.take limit.toNat) (HP6.out.grew g) ((pairsAt_take HP5.out limit.toNat).grew (HGk.out.trans (HG6.out.trans g))) (by omega))
            have hmx := hn6.symm
            have HGo6 := hid (HGo.out.trans HG6.out)
            have HCUT := hid (fun W' (g : Grew w6 W') => one_cut HB.out HG5.out HR5.out (by omega) key (by omega) W' (HGk.out.trans (HG6.out.trans g)))
            clear hr6 hg6 hn6 HP6 HG6
            generalize (T.take limit.toNat).length = m6 at *
            go_wp2_with fail
            refine (HS6.out _ (Grew.refl _)).mono ?_
            rintro e w7 ⟨rfl, hg7⟩
            have HG7 := hid hg7
            clear hg7 HS6
            go_wp2_with fail
            refine (HCUT.out _ HG7.out).mono ?_
            rintro e w8 ⟨ob, rfl, hT2⟩
            have HT2 := hid hT2
            have HL1 := hid (two_len1 hT2)
            have HL2 := hid (two_len2 hT2)
            have HJ := hid (two_join E hS18 HEB.out hSrt.out (by omega) hT2)
            have hlen : (((T.take (Pl.cutN T key)).length : Nat) : Int) + (((T.drop (Pl.cutN T key)).length : Nat) : Int) = (T.length : Int) := by
              rw [← Int.natCast_add, ← List.length_append, List.take_append_drop]
            have hle1 : (((T.take (Pl.cutN T key)).length : Nat) : Int) ≤ 1000 := by rw [List.length_take]; omega
            have hle2 : (((T.drop (Pl.cutN T key)).length : Nat) : Int) ≤ 1000 := by rw [List.length_drop]; omega
            clear hT2 HCUT hmx HG7
            generalize (T.take (Pl.cutN T key)).length = n1 at *
            generalize (T.drop (Pl.cutN T key)).length = n2 at *
            go_wp2_with fail
            refine HL1.out.mono ?_
            rintro e w9 ⟨rfl, rfl⟩
            go_wp2_with fail
            refine HL2.out.mono ?_
            rintro e w9 ⟨rfl, rfl⟩
            go_wp2_with fail
            refine HJ.out.mono ?_
            rintro e w9 ⟨rfl, hB9, hr9⟩
            have HB9 := hid hB9
            have HR9 := hid hr9
            have HSC9 := hid (one_scan hS E hB9 HEB.out (by omega) 1000 w9 (Grew.refl w9))
            clear hB9 hr9
            go_wp2_with fail
            refine HSC9.out.mono ?_
            rintro e wA ⟨aA, capA, rfl, hrA, hgA⟩
            have eA : T.take (1000 : Int).toNat = T := List.take_of_length_le (by simp; omega)
            rw [eA] at hrA ⊢
            have HSA : Hid (Calls Tryd.prog 28 #[.slice aA T.length capA, .slice a5 T.length cap5] wA fun e w' => e = .returned (.bool true) ∧ Grew wA w') := by
              obtain ⟨a', c', e', h⟩ := pairsAt_of hrA
              cases e'
              obtain ⟨a', c', e', h5⟩ := pairsAt_of (ownsRow_grew hgA HR9.out)
              cases e'
              exact samePairs_same wA aA a5 capA cap5 T h h5 (by omega)
            have HGA : Hid (Grew w wA) := by
              obtain ⟨F, _, _, h⟩ := HB9.out
              exact HG2.out.trans (h.trans hgA)
            clear hrA hgA eA
            go_wp2_with fail
            refine HSA.out.mono ?_
            rintro e wB ⟨rfl, hgB⟩
            have HGB' := hid (HGA.out.trans hgB)
            clear hgB
            go_wp2_with fail
            go_ret
            exact ⟨rfl, HGB'.out⟩
end Go.Proofs.YtajoihpjnnnkeaaDoor
