/- The walk of tidewaterlaw38.PastTrims. -/
import Derived.Test.YtapchoppcaacdaaDoorPlay38
import Derived.Test.YtapchoppcaacdaaDoorPastS
import Derived.Test.YtapchoppcaacdaaDoorTrm2
import Derived.Test.YtapchoppcaacdaaDoorSamP
import Derived.IntWalk
set_option linter.unusedVariables false
namespace Go.Proofs.YtapchoppcaacdaaDoor
open Go.RowKit Go.Maps Go.Sort
attribute [local go_sem] Oper.semAt_some

/-- Two pasts, apart from each other and from all that lay in w. -/
def TwoP (w W : World) (pb qb n m : Nat) (K L : ByteArray → List Ch) (fl gl : Int) : Prop :=
  Grew w W ∧ ∃ F G, PastAt W F pb n K fl ∧ PastAt W G qb m L gl ∧ (∀ j, F j → w.heap.size ≤ j) ∧ (∀ j, G j → w.heap.size ≤ j) ∧ ∀ j, F j → ¬ G j
theorem TwoP.grew {w W W' : World} {pb qb n m : Nat} {K L : ByteArray → List Ch} {fl gl : Int} (h : TwoP w W pb qb n m K L fl gl) (g : Grew W W') : TwoP w W' pb qb n m K L fl gl := by
  obtain ⟨h0, F, G, h1, h2, h3⟩ := h
  exact ⟨h0.trans g, F, G, h1.grew g, h2.grew g, h3⟩
theorem TwoP.left {w W : World} {pb qb n m : Nat} {K L : ByteArray → List Ch} {fl gl : Int} (h : TwoP w W pb qb n m K L fl gl) :
    ∃ F, PastAt W F pb n K fl ∧ ∀ (W1 W' : World) (n' : Nat) (K' : ByteArray → List Ch) (fl' : Int), Grew W W1 → PastTurn W1 F pb n' K' fl' W' → TwoP w W' pb qb n' m K' L fl' gl ∧ Only F W1 W' := by
  obtain ⟨h0, F, G, h1, h2, h3, h4, h5⟩ := h
  refine ⟨F, h1, fun W1 W' n' K' fl' g ⟨ho, F', hp, hF'⟩ => ⟨⟨?_, F', G, hp, (h2.grew g).kept ho (fun j hj hf => h5 j hf hj), ?_, h4, ?_⟩, ho⟩⟩
  · exact (((h0.trans g).only _).then ho).grew h3
  · intro j hj
    rcases hF' j hj with h | h
    · exact h3 j h
    · exact Nat.le_trans (h0.trans g).size h
  · intro j hj hG
    rcases hF' j hj with h | h
    · exact h5 j h hG
    · obtain ⟨_, hlt⟩ := h2.grew g
      have := hlt j hG
      omega
theorem TwoP.right {w W : World} {pb qb n m : Nat} {K L : ByteArray → List Ch} {fl gl : Int} (h : TwoP w W pb qb n m K L fl gl) :
    ∃ G, PastAt W G qb m L gl ∧ ∀ (W1 W' : World) (m' : Nat) (L' : ByteArray → List Ch) (gl' : Int), Grew W W1 → PastTurn W1 G qb m' L' gl' W' → TwoP w W' pb qb n m' K L' fl gl' ∧ Only G W1 W' := by
  obtain ⟨h0, F, G, h1, h2, h3, h4, h5⟩ := h
  have h' : TwoP w W qb pb m n L K gl fl := ⟨h0, G, F, h2, h1, h4, h3, fun j hg hf => h5 j hf hg⟩
  refine ⟨G, h2, fun W1 W' m' L' gl' g hT => ?_⟩
  obtain ⟨ho, F', hp, hF'⟩ := hT
  refine ⟨⟨(((h0.trans g).only _).then ho).grew h4, F, F', (h1.grew g).kept ho (fun j hf hg => h5 j hf hg), hp, h3, ?_, ?_⟩, ho⟩
  · intro j hj
    rcases hF' j hj with h | h
    · exact h4 j h
    · exact Nat.le_trans (h0.trans g).size h
  · intro j hF hj
    rcases hF' j hj with h | h
    · exact h5 j hF h
    · obtain ⟨_, hlt⟩ := h1.grew g
      have := hlt j hF
      omega

namespace Pl
/-- The trim's number. -/
def toN (to : Int) : Int := wrap64 ((IntKind.u64.wrap to).tmod 4097)
theorem toN_range (to : Int) : 0 ≤ toN to ∧ toN to ≤ 4096 := by
  unfold toN
  have h0 : 0 ≤ IntKind.u64.wrap to := by unfold IntKind.wrap; simp [IntKind.signed, IntKind.bits]; exact Int.emod_nonneg _ (by decide)
  rw [Int.tmod_eq_emod_of_nonneg h0]
  have h1 : 0 ≤ IntKind.u64.wrap to % 4097 := Int.emod_nonneg _ (by decide)
  have h2 : IntKind.u64.wrap to % 4097 < 4097 := Int.emod_lt_of_pos _ (by decide)
  have h3 : wrap64 (IntKind.u64.wrap to % 4097) = IntKind.u64.wrap to % 4097 := by
    generalize IntKind.u64.wrap to % 4097 = x at h1 h2
    unfold wrap64; omega
  rw [h3]; omega
theorem trimE_toN (to : Int) : trimE (toN to) = 0 := by
  have := toN_range to
  unfold trimE; rw [if_neg (by omega)]
theorem trimF_toN (to : Int) : trimF 0 (toN to) = toN to := by
  have h := toN_range to
  unfold trimF
  rw [trimE_toN]
  by_cases h0 : 0 < toN to
  · rw [if_pos ⟨rfl, h0⟩]
  · rw [if_neg (fun h => h0 h.2)]; omega
theorem good_trimK {K : ByteArray → List Ch} (fl to : Int) (h : GoodK K) : GoodK (trimK K fl to) := by
  unfold trimK; split
  · exact good_trim to h
  · exact h
theorem trimK_sub {K : ByteArray → List Ch} (fl to : Int) (s : ByteArray) (h : trimK K fl to s ≠ []) : K s ≠ [] := by
  unfold trimK at h
  split at h
  · intro e; apply h; show trimL to (K s) = []; rw [e, trim_nil]
  · exact h
theorem scan_trimK {K : ByteArray → List Ch} (hK : GoodK K) {fl to v : Int} (hv : to ≤ v) {lo hi : ByteArray} {ks ls : List ByteArray} (hk : Rising (trimK K fl to) ks) (hl : Rising K ls) : scanL (trimK K fl to) ks v lo hi = scanL K ls v lo hi := by
  unfold trimK at hk ⊢
  split
  · next h =>
    rw [if_pos h] at hk
    rw [rising_same hk (rising_trim hl to)]
    exact scan_trim hK hv lo hi ls
  · next h =>
    rw [if_neg h] at hk
    rw [rising_same hk hl]
theorem len_trimK {K : ByteArray → List Ch} (hK : GoodK K) {fl to : Int} {n m : Nat} (h : LenIs (trimK K fl to) n) (g : LenIs K m) : n ≤ m := by
  refine len_le h g fun s => ?_
  unfold trimK
  split
  · exact trim_length hK to s
  · exact Nat.le_refl _
theorem right_none : rightS ⟨#[]⟩ ⟨#[]⟩ = true := by decide +kernel
theorem scanE_none (fl v : Int) : scanE ⟨#[]⟩ ⟨#[]⟩ fl v = if v < fl then 11 else 0 := by unfold scanE; rw [if_neg (by rw [right_none]; simp)]
end Pl
def toPr (c : Ch) : Pr := ⟨c.key, c.val, c.ver⟩
theorem pFlat_pr (xs : List Ch) : pFlat xs = prFlat (xs.map toPr) := by
  unfold pFlat prFlat
  rw [List.flatMap_map]; rfl

theorem pairs_of_p {W : World} {B : Nat} {v : Value} {xs : List Ch} (h : W.ownsRow B 45 3 v xs.length (pFlat xs)) : ∃ a cap, v = .slice a (xs.map toPr).length cap ∧ PairsAt W a (xs.map toPr) := by
  rw [pFlat_pr] at h
  exact pairsAt_of (by rw [List.length_map]; exact h)

theorem acts38_fields {w : World} {a : Option Addr} {xs : List Act38} (h : ActsAt38 w a xs) (k : Nat) (hk : k < xs.length) : ∃ b off, a = some ⟨b, off, none⟩ ∧ b < w.heap.size ∧ ActRow38 w b off xs := by
  rcases h with h | h
  · rw [h] at hk; simp at hk
  · exact h

set_option maxRecDepth 100000 in
set_option maxHeartbeats 4000000 in
theorem pastTrims_walk (E : Nat → Addr) (a : Option Addr) (cap : Nat) (xs : List Act38) (to at_ : Int) (w : World) (hE : Errs allS E w) (hA : ActsAt38 w a xs) (hx : xs.length ≤ 9223372036854775807)
    (hs : ∀ j, j < xs.length → (actAt38 xs j).key.size ≤ 9223372036854775807 ∧ (actAt38 xs j).val.size ≤ 9223372036854775807 ∧ (actAt38 xs j).lo.size ≤ 9223372036854775807 ∧ (actAt38 xs j).hi.size ≤ 9223372036854775807) :
    Calls Tryd.prog 3 #[.slice a xs.length cap, .int .i64 to, .int .i64 at_] w fun e w' => e = .returned (.bool true) ∧ Grew w w' := by
  have HE := hid hE
  have HA := hid hA
  have HK := hid hs
  clear hE hA hs
  go_enter Tryd.func3, Tryd.ntmps3
  go_wp2_with fail
  refine (alive38 E _ HE.out).mono ?_
  rintro e w1 ⟨rfl, hg1⟩
  go_wp2_with fail
  refine (long38_any a cap xs _ (HA.out.grew hg1) hx HK.out).mono ?_
  rintro e w2 ⟨rfl, hg2⟩
  have hG2 := hg1.trans hg2
  clear hg1 hg2
  cases hl : long38B xs with
  | true =>
    go_wp2_with fail
    go_ret
    exact ⟨rfl, hG2⟩
  | false =>
    obtain ⟨hx60, hsh⟩ := long38_short hl
    have HSH := hid hsh
    clear hl hsh hx
    go_wp2_with fail
    refine (newP_any _).mono ?_
    rintro e w3 ⟨pb, rfl, hpb, hg3, F, hP, hF⟩
    have hG3 := hG2.trans hg3
    have HP3 := hid (And.intro hP hF)
    clear hP hF hg3 hpb
    go_wp2_with fail
    refine (newP_any _).mono ?_
    rintro e w4 ⟨qb, rfl, hqb, hg4, G, hQ, hG'⟩
    have HT0 : Hid (TwoP w w4 pb qb 0 0 (Pl.playK (xs.take 0)) (Pl.playK (xs.take 0)) 0 0) := by
      obtain ⟨hP, hF⟩ := HP3.out
      exact ⟨hG3.trans hg4, F, G, hP.grew hg4, hQ, fun j hj => Nat.le_trans hG2.size (hF j hj), fun j hj => Nat.le_trans hG3.size (hG' j hj), fun j hf hg => by have h1 := hP.2 j hf; have h2 := hG' j hg; omega⟩
    clear hQ hG' hg4 hqb hG3 hG2 HP3
    go_wp2_with fail
    go_loopw [23] (fun i wr => ∃ k : Nat, k ≤ xs.length ∧ i = .int .i64 k ∧ Hid (TwoP w wr pb qb k k (Pl.playK (xs.take k)) (Pl.playK (xs.take k)) 0 0)) (fun i _ => xs.length - (intOf i).toNat)
    case atStart => exact ⟨0, Nat.zero_le _, rfl, HT0⟩
    case round =>
      obtain ⟨k, hk1, rfl, HT⟩ := hrel
      have hG : Grew w wr := HT.out.1
      by_cases hlt : k < xs.length
      · obtain ⟨b, off, rfl, hb, hR⟩ := acts38_fields HA.out k hlt
        have q0 := (hG.cells.1 b (off + k * 6) hb).trans (hR.kind k hlt)
        have q1 := (hG.cells.1 b (off + k * 6 + 1) hb).trans (hR.ver k hlt)
        have q2 := (hG.cells.1 b (off + k * 6 + 2) hb).trans (hR.key k hlt)
        have q3 := (hG.cells.1 b (off + k * 6 + 3) hb).trans (hR.val k hlt)
        have q4 := (hG.cells.1 b (off + k * 6 + 4) hb).trans (hR.lo k hlt)
        have q5 := (hG.cells.1 b (off + k * 6 + 5) hb).trans (hR.hi k hlt)
        have HN := hid (Pl.playK_snoc xs k hlt)
        obtain ⟨s1, s2, s3, s4⟩ := HSH.out k hlt
        obtain ⟨Fk, hPk, hkp⟩ := HT.out.left
        have HPk := hid hPk
        have HKP := hid hkp
        clear hR HT hPk hkp
        generalize actAt38 xs k = c at *
        obtain ⟨ak, av, akey, aval, alo, ahi⟩ := c
        dsimp only at *
        by_cases h0 : ak = 0
        · have hC := hid (show actCh ⟨ak, av, akey, aval, alo, ahi⟩ = ⟨akey, aval, av, true⟩ by unfold actCh; rw [if_pos h0])
          have hb0 : (ak == 0) = true := beq_iff_eq.2 h0
          clear h0
          go_wp2_with fail
          refine (put_any allS E noteS_all (HE.out.grew (hG.alloc _)) (HPk.out.grew ((Grew.refl _).alloc _)) (by omega) _ _ _ (by omega) (by omega)).mono ?_
          rintro e w5 ⟨rfl, hT⟩
          obtain ⟨hT5, ho5⟩ := HKP.out _ _ _ _ _ ((Grew.refl _).alloc _) hT
          have hFz : ¬ Fk wr.heap.size := fun h => by have := HPk.out.2 _ h; omega
          have r1 : w5.cell? ⟨wr.heap.size, 1, none⟩ = some (.int .i64 av) := (ho5.cell (by simp) hFz 1).trans (by simp [go_sem])
          have r2 : w5.cell? ⟨wr.heap.size, 2, none⟩ = some (.string akey) := (ho5.cell (by simp) hFz 2).trans (by simp [go_sem])
          have r3 : w5.cell? ⟨wr.heap.size, 3, none⟩ = some (.string aval) := (ho5.cell (by simp) hFz 3).trans (by simp [go_sem])
          have hz5 : wr.heap.size < w5.heap.size := by have := ho5.size; simp at this; omega
          have HT5 := hid hT5
          clear hT hT5 ho5 hFz q0 q1 q2 q3 q4 q5
          go_wp2_with fail
          obtain ⟨Gk, hQk, hkq⟩ := HT5.out.right
          refine (put_any allS E noteS_all (HE.out.grew HT5.out.1) hQk (by omega) _ _ _ (by omega) (by omega)).mono ?_
          rintro e w6 ⟨rfl, hT⟩
          have HT6 := hid (hkq _ _ _ _ _ (Grew.refl _) hT).1
          clear hT hkq hQk
          go_wp2_with fail
          go_roundw
          case rel => exact ⟨k + 1, by omega, by go_num, by unfold Hid; rw [HN.out, hC.out]; exact HT6.out⟩
          case measure => simp [intOf]; omega
        · have hC := hid (show actCh ⟨ak, av, akey, aval, alo, ahi⟩ = ⟨akey, ⟨#[]⟩, av, false⟩ by unfold actCh; rw [if_neg h0])
          have hb0 : (ak == 0) = false := beq_eq_false_iff_ne.2 h0
          clear h0
          go_wp2_with fail
          refine (del_any allS E noteS_all (HE.out.grew (hG.alloc _)) (HPk.out.grew ((Grew.refl _).alloc _)) (by omega) _ _ (by omega)).mono ?_
          rintro e w5 ⟨rfl, hT⟩
          obtain ⟨hT5, ho5⟩ := HKP.out _ _ _ _ _ ((Grew.refl _).alloc _) hT
          have hFz : ¬ Fk wr.heap.size := fun h => by have := HPk.out.2 _ h; omega
          have r1 : w5.cell? ⟨wr.heap.size, 1, none⟩ = some (.int .i64 av) := (ho5.cell (by simp) hFz 1).trans (by simp [go_sem])
          have r2 : w5.cell? ⟨wr.heap.size, 2, none⟩ = some (.string akey) := (ho5.cell (by simp) hFz 2).trans (by simp [go_sem])
          have hz5 : wr.heap.size < w5.heap.size := by have := ho5.size; simp at this; omega
          have HT5 := hid hT5
          clear hT hT5 ho5 hFz q0 q1 q2 q3 q4 q5
          go_wp2_with fail
          obtain ⟨Gk, hQk, hkq⟩ := HT5.out.right
          refine (del_any allS E noteS_all (HE.out.grew HT5.out.1) hQk (by omega) _ _ (by omega)).mono ?_
          rintro e w6 ⟨rfl, hT⟩
          have HT6 := hid (hkq _ _ _ _ _ (Grew.refl _) hT).1
          clear hT hkq hQk
          go_wp2_with fail
          go_roundw
          case rel => exact ⟨k + 1, by omega, by go_num, by unfold Hid; rw [HN.out, hC.out]; exact HT6.out⟩
          case measure => simp [intOf]; omega
      · obtain rfl : k = xs.length := by omega
        have HGK := hid (Pl.good_play (xs.take xs.length))
        have HSZ : Hid (∀ s, Pl.playK (xs.take xs.length) s ≠ [] → s.size ≤ 300) := by
          rw [List.take_length]
          exact fun s h => Pl.play_size (fun j hj => (HSH.out j hj).1) s h
        generalize Pl.playK (xs.take xs.length) = K at *
        obtain ⟨Fk, hPk, hkp⟩ := HT.out.left
        have HKP := hid hkp
        have HTR := hid (trimP_any allS E rfl (HE.out.grew hG) hPk (by omega) HGK.out (Pl.toN to))
        have HG1 := hid (Pl.good_trimK 0 (Pl.toN to) HGK.out)
        have HZ1 : Hid (∀ s, Pl.trimK K 0 (Pl.toN to) s ≠ [] → s.size ≤ 70368744177664) := fun s h => by have := HSZ.out s (Pl.trimK_sub 0 _ s h); omega
        have HZ2 : Hid (∀ s, K s ≠ [] → s.size ≤ 70368744177664) := fun s h => by have := HSZ.out s h; omega
        have HSC := hid (fun (v : Int) (hv : Pl.toN to ≤ v) (ks ls : List ByteArray) (hk : Pl.Rising (Pl.trimK K 0 (Pl.toN to)) ks) (hl : Pl.Rising K ls) => Pl.scan_trimK HGK.out hv (lo := ⟨#[]⟩) (hi := ⟨#[]⟩) hk hl)
        have HLN := hid (fun (n m : Nat) (h : Pl.LenIs (Pl.trimK K 0 (Pl.toN to)) n) (g : Pl.LenIs K m) => Pl.len_trimK HGK.out h g)
        rw [Pl.trimE_toN, Pl.trimF_toN] at HTR
        obtain ⟨t0, t1⟩ := Pl.toN_range to
        have htn : Pl.toN to = wrap64 ((IntKind.u64.wrap to).tmod 4097) := rfl
        have HTN := hid htn
        generalize Pl.toN to = t at *
        generalize Pl.trimK K 0 t = K1 at *
        have hE0 := errOf_zero E
        rw [hE0] at HTR
        clear hPk hkp htn hE0
        go_wp2_with fail
        rw [← HTN.out]
        refine HTR.out.mono ?_
        rintro e w5 ⟨rfl, hT5⟩
        have H5 := hid (HKP.out _ _ _ _ _ (Grew.refl _) hT5).1
        clear hT5 HTR HKP
        obtain ⟨F5, hP5, _⟩ := H5.out.left
        have HS1 := hid (scanP_any allS E ⟨rfl, rfl, rfl, rfl⟩ rfl rfl (HE.out.grew H5.out.1) hP5 (by omega) HG1.out HZ1.out ⟨#[]⟩ ⟨#[]⟩ at_ (by decide) (by decide))
        have HS2 := hid (fun W (g : Grew w5 W) => by
          obtain ⟨G5, hQ5, _⟩ := (H5.out.grew g).right
          exact scanP_any allS E ⟨rfl, rfl, rfl, rfl⟩ rfl rfl (HE.out.grew (H5.out.1.trans g)) hQ5 (by omega) HGK.out HZ2.out ⟨#[]⟩ ⟨#[]⟩ at_ (by decide) (by decide))
        rw [Pl.scanE_none] at HS1
        simp only [Pl.scanE_none] at HS2
        have HG5 := hid H5.out.1
        clear hP5
        by_cases hneg : at_ < 0
        · rw [if_pos (by omega)] at HS1
          simp only [if_pos hneg] at HS2
          clear HSC HLN
          go_wp2_with fail
          refine HS1.out.mono ?_
          rintro e w6 ⟨⟨v1, L1, rfl, _, _, _, _⟩, hg6⟩
          go_wp2_with fail
          refine (HS2.out _ hg6).mono ?_
          rintro e w7 ⟨⟨v2, L2, rfl, _, _, _, _⟩, hg7⟩
          have hG7 := HG5.out.trans (hg6.trans hg7)
          go_wp2_with fail
          refine (num_all E 11 (by omega) _ (HE.out.grew hG7)).mono ?_
          rintro e w8 ⟨rfl, hg8⟩
          go_wp2_with fail
          refine (num_all E 11 (by omega) _ (HE.out.grew (hG7.trans hg8))).mono ?_
          rintro e w9 ⟨rfl, hg9⟩
          go_wp2_with fail
          go_ret
          exact ⟨rfl, hG7.trans (hg8.trans hg9)⟩
        · by_cases hlt2 : at_ < t
          · rw [if_pos hlt2] at HS1
            simp only [if_neg hneg, errOf_zero] at HS2
            clear HSC HLN
            go_wp2_with fail
            refine HS1.out.mono ?_
            rintro e w6 ⟨⟨v1, L1, rfl, _, hL1, _, hrow1⟩, hg6⟩
            obtain rfl : L1 = [] := hL1 (by decide)
            obtain ⟨a1, cap1, rfl, _⟩ := pairs_of_p hrow1
            clear hrow1
            dsimp only [List.map_nil, List.length_nil]
            go_wp2_with fail
            refine (HS2.out _ hg6).mono ?_
            rintro e w7 ⟨⟨v2, L2, rfl, _, _, _, _⟩, hg7⟩
            have hG7 := HG5.out.trans (hg6.trans hg7)
            go_wp2_with fail
            refine (num_all E 11 (by omega) _ (HE.out.grew hG7)).mono ?_
            rintro e w8 ⟨rfl, hg8⟩
            go_wp2_with fail
            go_ret
            exact ⟨rfl, hG7.trans hg8⟩
          · rw [if_neg hlt2, errOf_zero] at HS1
            simp only [if_neg hneg, errOf_zero] at HS2
            go_wp2_with fail
            refine HS1.out.mono ?_
            rintro e w6 ⟨⟨v1, L1, rfl, hL1, _, hn1, hrow1⟩, hg6⟩
            obtain ⟨ks, hks, hLs⟩ := hL1 (by first | trivial | rfl)
            have HL1 := hid (And.intro hks hLs)
            have HR1 := hid hrow1
            clear hks hLs hL1 hrow1
            go_wp2_with fail
            refine (HS2.out _ hg6).mono ?_
            rintro e w7 ⟨⟨v2, L2, rfl, hL2, _, hn2, hrow2⟩, hg7⟩
            obtain ⟨ls, hls, hLl⟩ := hL2 (by first | trivial | rfl)
            obtain rfl : L1 = L2 := by
              rw [HL1.out.2, hLl]
              exact HSC.out at_ (by omega) ks ls HL1.out.1 hls
            obtain ⟨a1, cap1, rfl, hA1⟩ := pairs_of_p (ownsRow_grew hg7 HR1.out)
            obtain ⟨a2, cap2, rfl, hA2⟩ := pairs_of_p hrow2
            have hz : (L1.map toPr).length ≤ 1000000 := by rw [List.length_map]; omega
            have HA1 := hid hA1
            have HA2 := hid hA2
            have H7 := hid (H5.out.grew (hg6.trans hg7))
            clear hL2 hls hLl HL1 HR1 hA1 hA2 hrow2 HSC H5 hn1 hn2
            generalize L1.map toPr = Z at *
            go_wp2_with fail
            refine (samePairs_same _ _ _ _ _ Z HA1.out HA2.out hz).mono ?_
            rintro e w8 ⟨rfl, hg8⟩
            have H8 := hid (H7.out.grew hg8)
            obtain ⟨F8, hP8, _⟩ := H8.out.left
            go_wp2_with fail
            refine (lenP_any hP8 (by omega)).mono ?_
            rintro e w9 ⟨⟨n1, rfl, hn1⟩, hg9⟩
            obtain ⟨G9, hQ9, _⟩ := (H8.out.grew hg9).right
            go_wp2_with fail
            refine (lenP_any hQ9 (by omega)).mono ?_
            rintro e w10 ⟨⟨n2, rfl, hn2⟩, hg10⟩
            have hle := HLN.out n1 n2 hn1 hn2
            have hG10 := (H8.out.grew (hg9.trans hg10)).1
            have hle2 : (n1 : Int) ≤ (n2 : Int) := by omega
            have hle3 : decide ((n1 : Int) ≤ (n2 : Int)) = true := decide_eq_true hle2
            clear hP8 hQ9 hn1 hn2
            go_wp2_with fail
            go_ret
            exact ⟨by simp, hG10⟩
end Go.Proofs.YtapchoppcaacdaaDoor
