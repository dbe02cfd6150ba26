/- The walk of delta.Apply, where the delta fits. -/
import Derived.Test.YtoiahcgaffffbaaGreatDoorFinDeltaBetweenQ36
set_option linter.unusedVariables false
set_option linter.unusedSectionVars false
set_option linter.unusedSimpArgs false
namespace Go.Proofs.YtoiahcgaffffbaaGreatDoor
open Go.RowKit Go.Maps Go.Sort
attribute [local go_sem] Oper.semAt_some uponV
namespace Pl
def goneK (K : List ByteArray) (p : Pr) : Bool := K.any fun k => decide (k = p.key)
theorem keptD_snoc (P : List Pr) (K : List ByteArray) (k : Nat) (h : k < P.length) : keptD (P.take (k + 1)) K = keptD (P.take k) K ++ if goneK K (prAt P k) = true then [] else [prAt P k] := by
  unfold keptD
  rw [List.take_succ_eq_append_getElem h, List.filter_append, prAt_eq P k h]
  congr 1
  unfold goneK
  cases hb : K.any fun k' => decide (k' = P[k].key) with
  | true => rw [if_pos rfl, List.filter_cons_of_neg (by simp [hb]), List.filter_nil]
  | false => rw [if_neg (by decide), List.filter_cons_of_pos (by simp [hb]), List.filter_nil]
theorem kept_put {P : List Pr} (hP : Srt P) (hg : Good P) (K : List ByteArray) (k : Nat) (h : k < P.length) (hk : goneK K (prAt P k) = false) : putT (keptD (P.take k) K) (prAt P k) = keptD (P.take (k + 1)) K := by
  have hp : putN (prAt P k) = 0 := hg _ (prAt_mem P k h)
  have hk0 := (putN_zero hp).1
  have s1 := keptD_srt (srt_sub hP (List.take_sublist k P)) K
  have s2 := keptD_srt (srt_sub hP (List.take_sublist (k + 1) P)) K
  unfold putT
  rw [if_pos hp]
  refine srt_ext (srt_put s1 hk0) s2 fun c => ?_
  rw [mem_put s1 hk0, keptD_snoc P K k h, if_neg (by rw [hk]; decide), List.mem_append, List.mem_singleton]
  constructor
  · rintro (h | ⟨h, _⟩)
    · exact .inr h
    · exact .inl h
  · rintro (hc | hc)
    · refine .inr ⟨hc, fun e => ?_⟩
      have hc2 : c ∈ P.take k := (List.mem_filter.1 hc).1
      obtain ⟨j, hj, rfl⟩ := List.getElem_of_mem hc2
      rw [List.length_take] at hj
      rw [List.getElem_take] at e
      have := List.pairwise_iff_getElem.1 hP.rise j k (by omega) h (by omega)
      rw [e, prAt_eq P k h] at this
      exact cmp_self this
    · exact .inl hc
end Pl
structure ApK (Y W : World) (tb : Nat) (T : List Pr) (a : Option Addr) (P : List Pr) : Prop where
  grew : Grew Y W
  row : PairsAt W a P
  tab : ∃ F, TabAt W F tb T ∧ (∀ j, F j → Y.heap.size ≤ j) ∧ ∀ b off, 0 < P.length → a = some ⟨b, off, none⟩ → b < W.heap.size ∧ ¬ F b
theorem ApK.more {Y W W' : World} {tb : Nat} {T P : List Pr} {a : Option Addr} (h : ApK Y W tb T a P) (g : Grew W W') : ApK Y W' tb T a P := by
  obtain ⟨F, h1, h2, h3⟩ := h.tab
  exact ⟨h.grew.trans g, h.row.grew g, F, h1.grew g, h2, fun b off hp e => ⟨Nat.lt_of_lt_of_le (h3 b off hp e).1 g.size, (h3 b off hp e).2⟩⟩
theorem ApK.step {Y W W' : World} {tb : Nat} {T T' P : List Pr} {a : Option Addr} (h : ApK Y W tb T a P) {F : Nat → Prop} (h2 : ∀ j, F j → Y.heap.size ≤ j) (h3 : ∀ b off, 0 < P.length → a = some ⟨b, off, none⟩ → b < W.heap.size ∧ ¬ F b) (t : TabTurn W F tb T' W') : ApK Y W' tb T' a P := by
  obtain ⟨t1, F', t2, t3⟩ := t
  refine ⟨((h.grew.only F).then t1).grew h2, ?_, F', t2, fun j hj => ?_, fun b off hp e => ⟨Nat.lt_of_lt_of_le (h3 b off hp e).1 t1.size, fun q => ?_⟩⟩
  · rcases h.row with h0 | ⟨b, off, e, hb, hr⟩
    · exact .inl h0
    · rcases Nat.eq_zero_or_pos P.length with h0 | h0
      · exact .inl (List.eq_nil_of_length_eq_zero h0)
      · have hn := (h3 b off h0 e).2
        exact .inr ⟨b, off, e, Nat.lt_of_lt_of_le hb t1.size, fun j hj => (t1.cell hb hn _).trans (hr.key j hj), fun j hj => (t1.cell hb hn _).trans (hr.val j hj), fun j hj => (t1.cell hb hn _).trans (hr.ver j hj)⟩
  · rcases t3 j hj with q | q
    · exact h2 j q
    · exact Nat.le_trans h.grew.size q
  · rcases t3 b q with q | q
    · exact (h3 b off hp e).2 q
    · have := (h3 b off hp e).1; omega
set_option maxRecDepth 100000 in
set_option maxHeartbeats 8000000 in
theorem applyD_any (E : Nat → Addr) {w : World} (hE : Errs stS E w) {Fa Ga : Nat → Prop} {sa na : Nat} {loa hia lo hi : ByteArray} {P : List Pr} {SA : Int → Option An} (ha : StAt w Fa Ga sa na loa hia P SA) (hia' : Pl.InS loa hia P) (hP : Pl.Srt P) (hxa : P.length ≤ 300) (hla : loa.size ≤ 300) (hha : hia.size ≤ 300)
    {A : List Pr} {K : List ByteArray} {C : List (Int × An)} (hR : DlR lo hi A K C) {ap ak ac : Option Addr} {cp kc cc : Nat} (hM : DlM w ap ak ac A K C) (hK : Pl.InS lo hi (Pl.keptD P K)) (hQ : (Pl.putsT (Pl.keptD P K) A).length ≤ 300) (hQi : Pl.InS lo hi (Pl.putsT (Pl.keptD P K) A)) (hxA : A.length ≤ 300) :
    Calls Tryz.prog 19 #[.pointer (some ⟨sa, 0, none⟩), .agg #[.string lo, .string hi, .slice ap A.length cp, .slice ak K.length kc, .slice ac C.length cc]] w fun e w' => ∃ st n Ft Fs, e = .returned (.tuple #[.pointer (some ⟨st, 0, none⟩), .nilIface]) ∧ n ≤ 4 ∧ StAt w' Ft Fs st n lo hi (Pl.putsT (Pl.keptD P K) A) (seenL C) ∧ (∀ j, BlS Ft Fs st j → w.heap.size ≤ j) ∧ Grew w w' := by
  have hTS : TabS stS := ⟨rfl, rfl, rfl, rfl, rfl⟩
  have hPg : Pl.Good P := by obtain ⟨_, _, h⟩ := ha; exact h.good
  have HALA := hid (fun W (g : Grew w W) => allD_any E (hE.grew g) (ha.grew g) hia' (by omega) hla hha)
  have HE := hid hE
  have HR := hid hR
  have HM := hid hM
  have HP := hid (And.intro hP (And.intro hPg hK))
  have HQ := hid (And.intro hQ hQi)
  have HPY := hid (show ∀ b off, 0 < A.length → ap = some ⟨b, off, none⟩ → b < w.heap.size from fun b off h0 e => by
    rcases hM.p with h | ⟨b', off', e', hb', _⟩
    · rw [h] at h0; simp at h0
    · rw [e] at e'; cases e'; exact hb')
  have HKL := hid (show (Pl.keptD P K).length ≤ 300 from by have := List.length_filter_le (fun p : Pr => !(K.any fun k => decide (k = p.key))) P; unfold Pl.keptD; omega)
  clear ha hE hR hM hia' hP hPg hK hQ hQi hla hha
  go_enter Tryz.func19, Tryz.ntmps19
  go_wp2_with fail
  obtain ⟨Y, hY⟩ : ∃ Y, Y = w.alloc (.cells #[.string lo, .string hi, .slice ap A.length cp, .slice ak K.length kc, .slice ac C.length cc] 36) := ⟨_, rfl⟩
  have gY : Grew w Y := by rw [hY]; exact (Grew.refl w).alloc _
  have HD := hid (show Y.cell? ⟨w.heap.size, 0, none⟩ = some (.string lo) ∧ Y.cell? ⟨w.heap.size, 1, none⟩ = some (.string hi) ∧ Y.cell? ⟨w.heap.size, 2, none⟩ = some (.slice ap A.length cp) ∧ Y.cell? ⟨w.heap.size, 3, none⟩ = some (.slice ak K.length kc) ∧ Y.cell? ⟨w.heap.size, 4, none⟩ = some (.slice ac C.length cc) ∧ w.heap.size < Y.heap.size from by rw [hY]; exact ⟨by simp [go_sem], by simp [go_sem], by simp [go_sem], by simp [go_sem], by simp [go_sem], by simp⟩)
  have HGY := hid gY
  have HEY := hid (HE.out.grew gY)
  have HMY := hid (HM.out.grew gY)
  have HPY := hid (fun b off h0 e => Nat.lt_of_lt_of_le (HPY.out b off h0 e) gY.size)
  rw [← hY]
  obtain ⟨dx, hdx⟩ : ∃ dx, dx = w.heap.size := ⟨_, rfl⟩
  have HDX := hid (show w.heap.size ≤ dx from by omega)
  rw [← hdx] at HD ⊢
  clear hY gY hdx HE HM
  refine (right37_any E HEY.out HR.out HMY.out).mono ?_
  rintro e w2 ⟨rfl, hg2⟩
  have HG2 := hid hg2
  clear hg2
  go_wp2_with fail
  refine (newT_any w2).mono ?_
  rintro e w3 ⟨rfl, hg3, hT3⟩
  obtain ⟨tb, htb⟩ : ∃ tb, tb = w2.heap.size := ⟨_, rfl⟩
  rw [← htb] at hT3 ⊢
  have HT3 := hid (show TabAt w3 (fun j => j = tb) tb [] ∧ Grew Y w3 ∧ Y.heap.size ≤ tb from ⟨hT3, HG2.out.trans hg3, by have := HG2.out.size; omega⟩)
  clear hg3 hT3 htb HG2
  go_wp2_with fail
  refine (HALA.out w3 (HGY.out.trans HT3.out.2.1)).mono ?_
  rintro e w4 ⟨⟨v4, rfl, hr4⟩, hg4⟩
  obtain ⟨a4, c4, e4, hp4, _, hb4⟩ := pairsAt_base hr4
  subst e4
  have HK4 := hid (show ApK Y w4 tb [] a4 P from ⟨HT3.out.2.1.trans hg4, hp4, fun j => j = tb, HT3.out.1.grew hg4, fun j (hj : j = tb) => by rw [hj]; exact HT3.out.2.2, fun b off h0 e => by
    have h1 := hb4 b off h0 e
    have h2 := tabAt_lt HT3.out.1 tb rfl
    refine ⟨?_, fun (q : b = tb) => by omega⟩
    rcases hp4 with h | ⟨b', off', e', hb', _⟩
    · rw [h] at h0; simp at h0
    · rw [e] at e'; cases e'; exact hb'⟩)
  clear hr4 hp4 hb4 hg4 HT3 HALA
  go_wp2_with fail
  go_loopw [21] (fun i wr => ∃ k : Nat, k ≤ P.length ∧ i = .int .i64 k ∧ Hid (ApK Y wr tb (Pl.keptD (P.take k) K) a4 P)) (fun i _ => P.length - (intOf i).toNat)
  case atStart => exact ⟨0, Nat.zero_le _, rfl, HK4.out⟩
  case round =>
    obtain ⟨k, hk1, rfl, HKk⟩ := hrel
    by_cases hlt : k < P.length
    · rcases HKk.out.row with h0 | ⟨b, off, rfl, hb, hRw⟩
      · rw [h0] at hlt; simp at hlt
      have q0 := hRw.key k hlt
      have q1 := hRw.val k hlt
      have q2 := hRw.ver k hlt
      have hm := Pl.prAt_mem P k hlt
      have hz := Pl.key_sizes HP.out.2.1 _ hm
      have HZ := hid hz
      have HPN := hid (show Pl.putN (prAt P k) = 0 from HP.out.2.1 _ hm)
      have HKP := hid (fun hk => Pl.kept_put HP.out.1 HP.out.2.1 K k hlt hk)
      have HSN := hid (Pl.keptD_snoc P K k hlt)
      have HIN := hid (show Pl.goneK K (prAt P k) = false → Pl.hasS lo hi (prAt P k).key = true from fun hk => HP.out.2.2 _ (List.mem_filter.2 ⟨hm, by
        unfold Pl.goneK at hk
        rw [hk]; rfl⟩))
      have hk9 : k < 1000000 := by omega
      have HTL := hid (show (Pl.keptD (P.take k) K).length ≤ 1000000 from by
        have := List.length_filter_le (fun p : Pr => !(K.any fun k => decide (k = p.key))) (P.take k)
        rw [List.length_take] at this
        unfold Pl.keptD; omega)
      have HGK : Hid (Pl.goneK K (prAt P k) = K.any fun k' => decide (k' = (prAt P k).key)) := rfl
      clear hRw hm hz
      generalize prAt P k = c at *
      generalize Pl.goneK K c = gk at *
      obtain ⟨ck, cv, cn⟩ := c
      dsimp only at *
      go_upto_region 7 with fail
      obtain ⟨X, hX⟩ : ∃ X, X = wr.alloc (.cells #[.string ck, .string cv, .int .i64 cn] 83) := ⟨_, rfl⟩
      have gX : Grew wr X := by rw [hX]; exact (Grew.refl wr).alloc _
      have x0 : X.cell? ⟨wr.heap.size, 0, none⟩ = some (.string ck) := by rw [hX]; simp [go_sem]
      have x1 : X.cell? ⟨wr.heap.size, 1, none⟩ = some (.string cv) := by rw [hX]; simp [go_sem]
      have x2 : X.cell? ⟨wr.heap.size, 2, none⟩ = some (.int .i64 cn) := by rw [hX]; simp [go_sem]
      have hxs : wr.heap.size < X.heap.size := by rw [hX]; simp
      have HKX := hid (HKk.out.more gX)
      rw [← hX]
      obtain ⟨kb, hkb⟩ : ∃ kb, kb = wr.heap.size := ⟨_, rfl⟩
      rw [← hkb] at x0 x1 x2 hxs ⊢
      have d3 := (HKX.out.grew.cells.1 _ 3 HD.out.2.2.2.2.2).trans HD.out.2.2.2.1
      have hdX := Nat.lt_of_lt_of_le HD.out.2.2.2.2.2 HKX.out.grew.size
      have HCT := hid (contains_str (cap := kc) (HMY.out.k.grew HKX.out.grew) (by have := HR.out.kfew; omega) ck)
      rw [← HGK.out] at HCT
      clear hX gX hkb q0 q1 q2 HKk HGK
      go_wp2_with fail
      refine HCT.out.mono ?_
      rintro e w5 ⟨rfl, hg5⟩
      have y0 := (hg5.cells.1 _ 0 hxs).trans x0
      have y1 := (hg5.cells.1 _ 1 hxs).trans x1
      have y2 := (hg5.cells.1 _ 2 hxs).trans x2
      have hys := Nat.lt_of_lt_of_le hxs hg5.size
      have HK5 := hid (HKX.out.more hg5)
      clear hg5 x0 x1 x2 hxs HKX d3 hdX HCT
      cases gk with
      | true =>
        go_wp2_with fail
        go_roundw
        case rel =>
          refine ⟨k + 1, by omega, by go_num, ?_⟩
          have e := HSN.out
          rw [if_pos (by trivial), List.append_nil] at e
          unfold Hid
          rw [e]; exact HK5.out
        case measure => simp [intOf]; omega
      | false =>
        have d0 := (HK5.out.grew.cells.1 _ 0 HD.out.2.2.2.2.2).trans HD.out.1
        have d1 := (HK5.out.grew.cells.1 _ 1 HD.out.2.2.2.2.2).trans HD.out.2.1
        have hd5 := Nat.lt_of_lt_of_le HD.out.2.2.2.2.2 HK5.out.grew.size
        have HHS := hid (has_span stS E ⟨rfl, rfl, rfl, rfl⟩ lo hi ck w5 (by have := HR.out.lsz; omega) (by have := HR.out.hsz; omega) (by have := HZ.out.1; omega) (HEY.out.grew HK5.out.grew))
        rw [HIN.out (by trivial)] at HHS
        go_wp2_with fail
        refine HHS.out.mono ?_
        rintro e w6 ⟨rfl, hg6⟩
        have x0 := (hg6.cells.1 _ 0 hys).trans y0
        have x1 := (hg6.cells.1 _ 1 hys).trans y1
        have x2 := (hg6.cells.1 _ 2 hys).trans y2
        have hxs := Nat.lt_of_lt_of_le hys hg6.size
        have HK6 := hid (HK5.out.more hg6)
        clear hg6 y0 y1 y2 hys HK5 d0 d1 hd5 HHS
        obtain ⟨F, hT, hF1, hF2⟩ := HK6.out.tab
        have HPUT := hid (putT_any hTS E (HEY.out.grew HK6.out.grew) hT HTL.out ck cv cn (by have := HZ.out.1; omega) (by have := HZ.out.2.1; omega))
        rw [HPN.out, HKP.out (by trivial)] at HPUT
        have HST := hid (fun W' (t : TabTurn w6 F tb (Pl.keptD (P.take (k + 1)) K) W') => HK6.out.step hF1 hF2 t)
        clear hT hF1 hF2
        go_wp2_with fail
        refine HPUT.out.mono ?_
        rintro e w7 ⟨rfl, ht⟩
        have HK7 := hid (HST.out w7 ht)
        rw [errOf_zero]
        clear ht HST HPUT x0 x1 x2 hxs HK6
        go_wp2_with fail
        go_roundw
        case rel => exact ⟨k + 1, by omega, by go_num, HK7.out⟩
        case measure => simp [intOf]; omega
    · have hkn : k = P.length := by omega
      subst hkn
      have hK := HKk.out
      rw [List.take_length] at hK
      have HKA := hid hK
      clear hK HKk HK4 hlt hk1
      obtain ⟨wo, rfl⟩ : ∃ x : World, x = wr := ⟨_, rfl⟩
      have d2 := (HKA.out.grew.cells.1 _ 2 HD.out.2.2.2.2.2).trans HD.out.2.2.1
      have hdo := Nat.lt_of_lt_of_le HD.out.2.2.2.2.2 HKA.out.grew.size
      have HK0 := hid (show ApK Y wo tb (Pl.putsT (Pl.keptD P K) (A.take 0)) ap A from by
        obtain ⟨F, h1, h2, h3⟩ := HKA.out.tab
        refine ⟨HKA.out.grew, HMY.out.p.grew HKA.out.grew, F, h1, h2, fun b off h0 e => ?_⟩
        rcases HMY.out.p with h | ⟨b', off', e', hb', _⟩
        · rw [h] at h0; simp at h0
        · rw [e] at e'; cases e'
          have := HKA.out.grew.size
          exact ⟨by omega, fun q => by have := h2 _ q; have := HPY.out b off h0 e; omega⟩)
      go_wp2_with fail
      go_loopw [52] (fun i wr => ∃ k : Nat, k ≤ A.length ∧ i = .int .i64 k ∧ Hid (ApK Y wr tb (Pl.putsT (Pl.keptD P K) (A.take k)) ap A)) (fun i _ => A.length - (intOf i).toNat)
      case atStart => exact ⟨0, Nat.zero_le _, rfl, HK0.out⟩
      case round =>
        obtain ⟨k, hk1, rfl, HKk⟩ := hrel
        by_cases hlt : k < A.length
        · rcases HKk.out.row with h0 | ⟨b, off, rfl, hb, hRw⟩
          · rw [h0] at hlt; simp at hlt
          have q0 := hRw.key k hlt
          have q1 := hRw.val k hlt
          have q2 := hRw.ver k hlt
          have hm := Pl.prAt_mem A k hlt
          have HZ := hid (Pl.key_sizes HR.out.good _ hm)
          have HPN := hid (show Pl.putN (prAt A k) = 0 from HR.out.good _ hm)
          have HKP := hid (Pl.putsT_snoc (Pl.keptD P K) A k hlt)
          have hk9 : k < 1000000 := by omega
          have HTL := hid (show (Pl.putsT (Pl.keptD P K) (A.take k)).length ≤ 1000000 from by
            have h1 := Pl.putsT_len (A.take k) (Pl.keptD P K)
            rw [List.length_take] at h1
            have := HKL.out
            omega)
          clear hRw hm
          generalize prAt A k = c at *
          obtain ⟨ck, cv, cn⟩ := c
          dsimp only at *
          go_upto_region 17 with fail
          obtain ⟨X, hX⟩ : ∃ X, X = wr.alloc (.cells #[.string ck, .string cv, .int .i64 cn] 83) := ⟨_, rfl⟩
          have gX : Grew wr X := by rw [hX]; exact (Grew.refl wr).alloc _
          have x0 : X.cell? ⟨wr.heap.size, 0, none⟩ = some (.string ck) := by rw [hX]; simp [go_sem]
          have x1 : X.cell? ⟨wr.heap.size, 1, none⟩ = some (.string cv) := by rw [hX]; simp [go_sem]
          have x2 : X.cell? ⟨wr.heap.size, 2, none⟩ = some (.int .i64 cn) := by rw [hX]; simp [go_sem]
          have hxs : wr.heap.size < X.heap.size := by rw [hX]; simp
          have HKX := hid (HKk.out.more gX)
          rw [← hX]
          clear hX gX q0 q1 q2 HKk
          obtain ⟨F, hT, hF1, hF2⟩ := HKX.out.tab
          have HPUT := hid (putT_any hTS E (HEY.out.grew HKX.out.grew) hT HTL.out ck cv cn (by have := HZ.out.1; omega) (by have := HZ.out.2.1; omega))
          rw [HPN.out, ← HKP.out] at HPUT
          have HST := hid (fun W' (t : TabTurn X F tb (Pl.putsT (Pl.keptD P K) (A.take (k + 1))) W') => HKX.out.step hF1 hF2 t)
          clear hT hF1 hF2
          go_wp2_with fail
          refine HPUT.out.mono ?_
          rintro e w7 ⟨rfl, ht⟩
          have HK7 := hid (HST.out w7 ht)
          rw [errOf_zero]
          clear ht HST HPUT x0 x1 x2 hxs HKX
          go_wp2_with fail
          go_roundw
          case rel => exact ⟨k + 1, by omega, by go_num, HK7.out⟩
          case measure => simp [intOf]; omega
        · have hkn : k = A.length := by omega
          subst hkn
          have hK := HKk.out
          rw [List.take_length] at hK
          have HKB := hid hK
          clear hK HKk hlt hk1
          have f0 := (HKB.out.grew.cells.1 _ 0 HD.out.2.2.2.2.2).trans HD.out.1
          have f1 := (HKB.out.grew.cells.1 _ 1 HD.out.2.2.2.2.2).trans HD.out.2.1
          have f2 := (HKB.out.grew.cells.1 _ 2 HD.out.2.2.2.2.2).trans HD.out.2.2.1
          have f3 := (HKB.out.grew.cells.1 _ 3 HD.out.2.2.2.2.2).trans HD.out.2.2.2.1
          have f4 := (HKB.out.grew.cells.1 _ 4 HD.out.2.2.2.2.2).trans HD.out.2.2.2.2.1
          have hdl4 := Nat.lt_of_lt_of_le HD.out.2.2.2.2.2 HKB.out.grew.size
          obtain ⟨F, hT, _, _⟩ := HKB.out.tab
          have HMD := hid (made37_any E (cc := cc) (HEY.out.grew HKB.out.grew) (HMY.out.c.grew HKB.out.grew) HR.out.cls (.slice ap A.length cp) (.slice ak K.length kc) hT (Pl.putsT_srt A (Pl.keptD_srt HP.out.1 K)) (Pl.putsT_good A (Pl.keptD_good HP.out.2.1 K)) HQ.out.2 HQ.out.1 HR.out.lsz HR.out.hsz HR.out.span)
          have HGF := hid (HGY.out.trans HKB.out.grew)
          clear hT
          go_wp2_with fail
          refine HMD.out.mono ?_
          rintro e w8 ⟨st, n, Ft, Fs, rfl, hn, hS, hB, hg⟩
          have HF := hid (show n ≤ 4 ∧ StAt w8 Ft Fs st n lo hi (Pl.putsT (Pl.keptD P K) A) (seenL C) ∧ (∀ j, BlS Ft Fs st j → w.heap.size ≤ j) ∧ Grew w w8 from ⟨hn, hS, fun j hj => Nat.le_trans HGF.out.size (hB j hj), HGF.out.trans hg⟩)
          clear hn hS hB hg HMD f0 f1 f2 f3 f4 hdl4
          go_wp2_with fail
          go_ret2
          exact ⟨st, n, Ft, Fs, rfl, HF.out⟩
end Go.Proofs.YtoiahcgaffffbaaGreatDoor
