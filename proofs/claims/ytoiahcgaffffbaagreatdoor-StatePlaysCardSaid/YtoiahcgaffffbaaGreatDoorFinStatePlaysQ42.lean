/- Do23s, Do23m, Btw37, SamP: one text. -/
import Derived.Test.YtoiahcgaffffbaaGreatDoorFinStatePlaysQ36
import Derived.Test.YtoiahcgaffffbaaGreatDoorFinStatePlaysQ40
import Derived.Test.YtoiahcgaffffbaaGreatDoorFinStatePlaysQ41
import Derived.Test.YtoiahcgaffffbaaGreatDoorFinStatePlaysQ35
import Derived.Test.YtoiahcgaffffbaaGreatDoorFinStatePlaysQ34
import Derived.Test.YtoiahcgaffffbaaGreatDoorFinStatePlaysQ6
import Derived.BigQuiet
set_option linter.unusedVariables false
set_option linter.unusedSectionVars false
set_option linter.unusedSimpArgs false
namespace Go.Proofs.YtoiahcgaffffbaaGreatDoor
open Go.RowKit Go.Maps
attribute [local go_sem] Oper.semAt_some uponV
theorem spanS_all : SpanS allS := by
  unfold SpanS KeyS
  exact ⟨⟨rfl, rfl, rfl, rfl⟩, rfl, rfl⟩
theorem twS_split (E : Nat → Addr) {w0 U W : World} (hE : Errs allS E w0) {st ms n : Nat} {lo hi : ByteArray} {P : List Pr} {S : Int → Option An} (hU : TwS w0 U st ms n lo hi P S) (gU : Grew U W) (key : ByteArray) (hl : lo.size ≤ 300) (hh : hi.size ≤ 300) (hk : key.size ≤ 300) (hx : P.length ≤ 240) (hn : n ≤ 1000) :
    Calls Tryz.prog 86 #[.pointer (some ⟨st, 0, none⟩), .string key] W fun r W1 => (∀ b, U.heap.size ≤ b → b < W.heap.size → b < W1.heap.size ∧ ∀ o, W1.cell? ⟨b, o, none⟩ = W.cell? ⟨b, o, none⟩) ∧
      ((Pl.cutE (Pl.rightS lo hi) (Pl.keyN key) (Pl.hasS lo hi key) lo key ≠ 0 ∧ r = .returned (.tuple #[.pointer none, errOf E (Pl.cutE (Pl.rightS lo hi) (Pl.keyN key) (Pl.hasS lo hi key) lo key)]) ∧
        ∀ W2, Grew W1 W2 → Calls Tryz.prog 87 #[.pointer (some ⟨ms, 0, none⟩), .string key] W2 fun r W3 => r = .returned (.tuple #[.pointer none, .int .i64 ((Pl.cutE (Pl.rightS lo hi) (Pl.keyN key) (Pl.hasS lo hi key) lo key : Nat))]) ∧ TwS w0 W3 st ms n lo hi P S) ∨
       (Pl.cutE (Pl.rightS lo hi) (Pl.keyN key) (Pl.hasS lo hi key) lo key = 0 ∧ ∃ ob, r = .returned (.tuple #[.pointer (some ⟨ob, 0, none⟩), .nilIface]) ∧
        ∀ W2, Grew W1 W2 → Calls Tryz.prog 87 #[.pointer (some ⟨ms, 0, none⟩), .string key] W2 fun r W3 => ∃ vb D', r = .returned (.tuple #[.pointer (some ⟨vb, 0, none⟩), .int .i64 0]) ∧ TwS w0 W3 st ms n lo key (P.take (Pl.cutN P key)) S ∧ StG W3 ob key hi (P.drop (Pl.cutN P key)) S ∧ MsR W3 vb key hi D' S ∧ Pl.Tt (P.drop (Pl.cutN P key)) D')) := by
  obtain ⟨Ft, Fs, G, sb, D, u1, u2, h3, h4, h5⟩ := hU.ex
  have h := hU.more gU
  have hla := u1.all
  have hlb := u2.all
  have hDl : D.length ≤ 240 := by rw [← h3.len]; exact hx
  refine (splitS_any allS E spanS_all (hE.grew h.grew) (u1.grew gU) key (by omega) hl hh hk).mono ?_
  rintro r W1 hr
  have hps := gU.size
  have HR := fun (W2 : World) (G' : Nat → Prop) (h2 : MsAt W2 G ms sb lo hi D S) => split23_any h2 key (by omega) hl hh hk
  rw [Pl.rightR_eq, Pl.hasR_eq] at HR
  rcases hr with ⟨hc, rfl, hg⟩ | ⟨hc, ob, rfl, hO, Ft', Go, Gs, a1, a2, a3, a4⟩
  · refine ⟨fun b h1 h2 => ⟨Nat.lt_of_lt_of_le h2 hg.size, fun o => hg.cells.1 _ o h2⟩, .inl ⟨hc, rfl, fun W2 g2 => ?_⟩⟩
    refine (HR W2 G (u2.grew ((gU.trans hg).trans g2))).mono ?_
    rintro r W3 (⟨_, rfl, hg3⟩ | ⟨h0, _⟩)
    · exact ⟨rfl, hU.more (((gU.trans hg).trans g2).trans hg3)⟩
    · exact absurd h0 hc
  · have hT1 : ∀ j, (j = st ∨ Ft j) → BlS Ft Fs st j := fun j hj => hj.elim (fun q => .inr (.inr q)) .inl
    refine ⟨fun b h1 h2 => ⟨Nat.lt_of_lt_of_le h2 hO.size, fun o => hO.cell h2 (fun q => by have := hla b (hT1 b q); omega) o⟩, .inr ⟨hc, ob, rfl, fun W2 g2 => ?_⟩⟩
    have hM1 : MsAt W1 G ms sb lo hi D S := (u2.grew gU).kept hO (fun j hj hq => (h4 j (hT1 j hq)).2 (.inl hj)) (fun hq => (h4 ms (hT1 ms hq)).2 (.inr (.inl rfl))) (fun hq => (h4 sb (hT1 sb hq)).2 (.inr (.inr rfl)))
    have hA1 : ∀ j, BlS Ft' Fs st j → w0.heap.size ≤ j ∧ ¬ BlM G ms sb j := by
      rintro j (hj | hj | hj)
      · rcases a3 j hj with q | q
        · exact h4 j (.inl q)
        · have := h.grew.size
          exact ⟨by omega, fun hm => by have := hlb j hm; omega⟩
      · exact h4 j (.inr (.inl hj))
      · exact h4 j (.inr (.inr hj))
    have hA2 : ∀ j, BlS Go Gs ob j → ¬ BlM G ms sb j := fun j hj hm => by have := (a4 j hj).1; have := hlb j hm; omega
    have hla1 := a1.all
    have hg1 : Grew w0 W1 := ((h.grew.only _).then hO).grew fun j hj => (h4 j (hT1 j hj)).1
    refine (HR W2 G (hM1.grew g2)).mono ?_
    rintro r W3 (⟨h0, _⟩ | ⟨_, vb, rfl, hO2, G', b1, b2, b3⟩)
    · exact absurd hc h0
    have hT2 : ∀ j, (j = ms ∨ G j) → BlM G ms sb j := fun j hj => hj.elim (fun q => .inr (.inl q)) .inl
    obtain ⟨t1, t2⟩ := h3.cut key
    obtain ⟨c1, c2, c3, c4, c5⟩ := Pl.cut_cases h3.srt h.ins hc
    refine ⟨vb, _, rfl, ⟨(((hg1.trans g2).only _).then hO2).grew fun j hj => h5 j (hT2 j hj), ⟨Ft', Fs, G', sb, _, ?_, b1, t1, ?_, ?_⟩, c3⟩, ⟨⟨Go, Gs, n, hn, ?_⟩, c4, ?_, by omega, hh, c2⟩, b2, t2⟩
    · exact (a1.grew g2).kept hO2 (fun j hj hq => (hA1 j (.inl hj)).2 (hT2 j hq)) (fun j hj hq => (hA1 j (.inr (.inl hj))).2 (hT2 j hq)) (fun hq => (hA1 st (.inr (.inr rfl))).2 (hT2 st hq))
    · intro j hj
      refine ⟨(hA1 j hj).1, fun hq => ?_⟩
      rcases hq with q | q | q
      · rcases b3 j q with q | q
        · exact (hA1 j hj).2 (.inl q)
        · have := hla1 j hj
          have := g2.size
          omega
      · exact (hA1 j hj).2 (.inr (.inl q))
      · exact (hA1 j hj).2 (.inr (.inr q))
    · intro j hj
      rcases hj with q | q | q
      · rcases b3 j q with q | q
        · exact h5 j (.inl q)
        · have := (hg1.trans g2).size
          omega
      · exact h5 j (.inr (.inl q))
      · exact h5 j (.inr (.inr q))
    · exact (a2.grew g2).kept hO2 (fun j hj hq => hA2 j (.inl hj) (hT2 j hq)) (fun j hj hq => hA2 j (.inr (.inl hj)) (hT2 j hq)) (fun hq => hA2 ob (.inr (.inr rfl)) (hT2 ob hq))
    · have := List.length_drop (i := Pl.cutN P key) (l := P)
      omega
structure SpR (lo hi : ByteArray) : Prop where
  lsz : lo.size ≤ 300
  hsz : hi.size ≤ 300
  span : Pl.rightS lo hi = true
set_option maxRecDepth 100000 in
set_option maxHeartbeats 8000000 in
theorem do23_split (E : Nat → Addr) {w0 U : World} (hE : Errs allS E w0) {st ms n : Nat} {lo hi : ByteArray} {P : List Pr} {S : Int → Option An} (hU : TwS w0 U st ms n lo hi P S) (hsp : SpR lo hi) (at' : Int) (ky : ByteArray) (e : En) (hky : ky.size ≤ 300) (hx : P.length ≤ 240) (hn : n ≤ 1000) :
    Calls Tryz.prog 29 #[.pointer (some ⟨st, 0, none⟩), .pointer (some ⟨ms, 0, none⟩), .agg (Ac.vals ⟨2, at', ky, e⟩).toArray] U fun r W => r = .returned (.bool true) ∧ ∃ lo' hi' P', P'.length ≤ P.length ∧ SpR lo' hi' ∧ TwS w0 W st ms n lo' hi' P' S := by
  have HW := hid (fun X (g : Grew U X) => twS_split E hE hU g ky hsp.lsz hsp.hsz hky hx hn)
  have HC19 := hid (Pl.cutE_le lo hi ky)
  have HCC := hid (Pl.cut_cases (key := ky) (by obtain ⟨_, _, _, _, D, _, _, h3, _⟩ := hU.ex; exact h3.srt) hU.ins)
  have HNUM := hid (fun k (hk : k ≤ 19) W (g : Grew w0 W) => num_all E k hk W (hE.grew g))
  have HSP := hid hsp
  have HG0 := hid hU.grew
  have HTL := hid (show (P.take (Pl.cutN P ky)).length ≤ P.length from by rw [List.length_take]; omega)
  obtain ⟨ek, es, eo, ev, ec, eq, eky, eup, ep, eps, eops, eoA, eoC, edA, edL, edC⟩ := e
  clear hU hE hsp
  unfold Ac.vals En.vals
  dsimp only [List.cons_append, List.nil_append] at *
  generalize Pl.cutE (Pl.rightS lo hi) (Pl.keyN ky) (Pl.hasS lo hi ky) lo ky = c at *
  generalize hPt : P.take (Pl.cutN P ky) = Pt at *
  generalize hPd : P.drop (Pl.cutN P ky) = Pd at *
  go_enter Tryz.func29, Tryz.ntmps29
  go_upto_region 1 with fail
  obtain ⟨X, hX⟩ : ∃ X, X = U.alloc (.cells #[.int .i64 2, .int .i64 at', .string ky, .int .i64 ek, .int .i64 es, .int .i64 eo, .int .i64 ev, .int .i64 ec, .int .i64 eq, .slice eoA eops.length eoC, .string eky, .int .i64 eup, .int .i64 ep, .int .i64 eps, .slice edA edL edC] 68) := ⟨_, rfl⟩
  have gX : Grew U X := by rw [hX]; exact (Grew.refl U).alloc _
  obtain ⟨kb, hkb⟩ : ∃ kb, kb = U.heap.size := ⟨_, rfl⟩
  have d0 : X.cell? ⟨kb, 0, none⟩ = some (.int .i64 2) := by rw [hX, hkb]; simp [go_sem]
  have d2 : X.cell? ⟨kb, 2, none⟩ = some (.string ky) := by rw [hX, hkb]; simp [go_sem]
  have hxs : kb < X.heap.size := by rw [hX, hkb]; simp
  have HWX := hid (HW.out X gX)
  rw [← hX, ← hkb]
  have HKB := hid (show U.heap.size ≤ kb ∧ kb < X.heap.size from ⟨by omega, hxs⟩)
  clear hX gX hkb HW
  go_wp2_with fail
  refine HWX.out.mono ?_
  rintro r W1 ⟨hb1, hr⟩
  obtain ⟨hk1, hc1⟩ := hb1 kb HKB.out.1 HKB.out.2
  have d2 := (hc1 2).trans d2
  clear hb1 hc1 HWX hxs d0 HKB
  rcases hr with ⟨hc, rfl, h2⟩ | ⟨hc, ob, rfl, h2⟩
  · have H2 := hid h2
    have hee : Hid (errOf E c = .iface 388 (.pointer (some (E c)))) := errOf_pos E c hc
    have HEE := hid (HNUM.out c HC19.out)
    have hcz : ((c : Nat) : Int) ≠ 0 := by omega
    clear h2 HNUM
    rw [hee.out] at HEE ⊢
    clear hee
    go_wp2_with fail
    refine (H2.out _ (Grew.refl _)).mono ?_
    rintro r W3 ⟨rfl, hT⟩
    have HT := hid hT
    clear hT H2 d2
    go_wp2_with fail
    refine (HEE.out _ HT.out.grew).mono ?_
    rintro r W4 ⟨rfl, hg⟩
    have HF := hid (HT.out.more hg)
    clear hg HT HEE
    go_wp2_with fail
    go_ret
    exact ⟨by simp; omega, lo, hi, P, Nat.le_refl _, HSP.out, HF.out⟩
  · subst hc
    have H2 := hid h2
    have HEE := hid (HNUM.out 0 (by omega))
    have e0 : errOf E 0 = .nilIface := rfl
    rw [e0] at HEE
    clear h2 HNUM e0
    go_wp2_with fail
    refine (H2.out _ (Grew.refl _)).mono ?_
    rintro r W3 ⟨vb, D', rfl, hT, hS, hM, hTt⟩
    have HT := hid hT
    have HSM := hid (fun W (g : Grew W3 W) => same23L_any (hS.grew g) (hM.grew g) hTt)
    clear hT hS hM hTt H2 d2
    go_wp2_with fail
    refine (HEE.out _ HT.out.grew).mono ?_
    rintro r W4 ⟨rfl, hg⟩
    have HG4 := hid hg
    clear hg HEE
    go_wp2_with fail
    refine (HSM.out _ HG4.out).mono ?_
    rintro r W5 ⟨rfl, hg⟩
    have HF := hid (HT.out.more (HG4.out.trans hg))
    clear hg HT HSM HG4
    go_wp2_with fail
    go_ret
    obtain ⟨c1, c2, c3, c4, c5⟩ := HCC.out (by trivial)
    exact ⟨by simp, lo, ky, Pt, HTL.out, ⟨HSP.out.lsz, by omega, c1⟩, HF.out⟩
end Go.Proofs.YtoiahcgaffffbaaGreatDoor
namespace Go.Proofs.YtoiahcgaffffbaaGreatDoor
open Go.RowKit Go.Maps
attribute [local go_sem] Oper.semAt_some uponV
theorem joinL_self (S : Int → Option An) : joinL S (clients S) = S := by
  have h : ∀ (l : List (Int × An)), (∀ x ∈ l, S x.1 = some x.2) → l.foldl joinC S = S := by
    intro l
    induction l with
    | nil => intro _; rfl
    | cons x l ih =>
      intro hl
      have e : joinC S x = S := by
        unfold joinC
        rw [hl x List.mem_cons_self, if_neg (show ¬ seqO (some x.2) < x.2.seq from by unfold seqO; dsimp only; omega)]
      rw [List.foldl_cons, e]
      exact ih fun y hy => hl y (List.mem_cons_of_mem _ hy)
  refine h _ fun x hx => ?_
  rw [← clTo_all] at hx
  unfold clTo at hx
  obtain ⟨c, _, hc⟩ := List.mem_filterMap.1 hx
  cases e : S c with
  | none => rw [e] at hc; cases hc
  | some a => rw [e] at hc; obtain rfl := Option.some.inj hc; exact e
namespace Pl
theorem join_back {lo hi key : ByteArray} (h : hasS lo hi key = true) (h2 : rightS key hi = true) : joinE (rightS key hi) (rightS lo hi) key hi lo hi = 1 := by
  obtain ⟨r, q2, q3, q4⟩ := has_right h
  have z : ∀ {a b : ByteArray}, rightS a b = true → none0 b = false → ¬ b.toList = a.toList := by
    intro a b hr hn e
    unfold rightS at hr
    simp only [Bool.and_eq_true] at hr
    obtain ⟨⟨e1, e2⟩, e3⟩ := hr
    unfold lessB at e3
    rw [hn, Bool.false_or, decide_eq_true_eq, toList_inj21 e, compare_self (ok_end e1)] at e3
    omega
  unfold joinE
  rw [h2, r]
  rw [if_neg (by simp), if_neg (fun hh => z r hh.1 hh.2), if_neg (fun hh => z h2 hh.1 hh.2)]
end Pl
set_option maxRecDepth 100000 in
set_option maxHeartbeats 8000000 in
theorem do23_merge (E : Nat → Addr) {w0 U : World} (hE : Errs allS E w0) {st ms n : Nat} {lo hi : ByteArray} {P : List Pr} {S : Int → Option An} (hU : TwS w0 U st ms n lo hi P S) (hsp : SpR lo hi) (kd at' : Int) (k0 : kd ≠ 0) (k1 : kd ≠ 1) (k2 : kd ≠ 2) (ky : ByteArray) (e : En) (hky : ky.size ≤ 300) (hx : P.length ≤ 240) (hn : n ≤ 900) :
    Calls Tryz.prog 29 #[.pointer (some ⟨st, 0, none⟩), .pointer (some ⟨ms, 0, none⟩), .agg (Ac.vals ⟨kd, at', ky, e⟩).toArray] U fun r W => r = .returned (.bool true) ∧ TwS w0 W st ms n lo hi P S := by
  have HU := hid hU
  have hE' := hE.grew hU.grew
  have hin := hU.ins
  obtain ⟨Ft, Fs, G, sb, D, u1, u2, h3, h4, h5⟩ := hU.ex
  have HCP := hid (fun W (g : Grew U W) => copyS_any (u1.grew g) (by omega))
  have HST := hid (fun W (g : Grew U W) => show StG W st lo hi P S from ⟨⟨Ft, Fs, n, by omega, u1.grew g⟩, hin, by omega, hsp.lsz, hsp.hsz, hsp.span⟩)
  have HSW := hid (fun W (g : Grew U W) (b : Nat) (h : StG W b lo hi P S) => same23L_any h (u2.r.grew g) h3)
  have hla := u1.all
  have HU1 := hid (fun W (g : Grew U W) => u1.grew g)
  have HLA := hid hla
  have HSR := hid h3.srt
  have HSPL := hid (fun W (g : Grew U W) cb Gt Gs (h : StAt W Gt Gs cb n lo hi P S) => splitS_any allS E spanS_all (hE'.grew g) h ky (by omega) hsp.lsz hsp.hsz hky)
  have HMRG := hid (fun W (g : Grew U W) => hE'.grew g)
  have HC19 := hid (Pl.cutE_le lo hi ky)
  have HCC := hid (fun (hc : Pl.cutE (Pl.rightS lo hi) (Pl.keyN ky) (Pl.hasS lo hi ky) lo ky = 0) => And.intro (Pl.cutE_zero hc) (Pl.cut_cases h3.srt hin hc))
  have HNUM := hid (fun k (hk : k ≤ 19) W (g : Grew U W) => num_all E k hk W (hE'.grew g))
  have HSP := hid hsp
  have HRS := hid (@Pl.cut_join lo hi ky)
  have HRB := hid (@Pl.join_back lo hi ky)
  obtain ⟨ek, es, eo, ev, ec, eq, eky, eup, ep, eps, eops, eoA, eoC, edA, edL, edC⟩ := e
  clear hU hE hE' hsp u1 u2 h3 h4 h5 hin hla
  unfold Ac.vals En.vals
  unfold SplPost at HSPL
  dsimp only [List.cons_append, List.nil_append] at *
  generalize Pl.cutE (Pl.rightS lo hi) (Pl.keyN ky) (Pl.hasS lo hi ky) lo ky = c at *
  generalize hcn : Pl.cutN P ky = cn at *
  go_enter Tryz.func29, Tryz.ntmps29
  go_upto_region 1 with fail
  obtain ⟨X, hX⟩ : ∃ X, X = U.alloc (.cells #[.int .i64 kd, .int .i64 at', .string ky, .int .i64 ek, .int .i64 es, .int .i64 eo, .int .i64 ev, .int .i64 ec, .int .i64 eq, .slice eoA eops.length eoC, .string eky, .int .i64 eup, .int .i64 ep, .int .i64 eps, .slice edA edL edC] 68) := ⟨_, rfl⟩
  have gX : Grew U X := by rw [hX]; exact (Grew.refl U).alloc _
  obtain ⟨kb, hkb⟩ : ∃ kb, kb = U.heap.size := ⟨_, rfl⟩
  have d0 : X.cell? ⟨kb, 0, none⟩ = some (.int .i64 kd) := by rw [hX, hkb]; simp [go_sem]
  have d2 : X.cell? ⟨kb, 2, none⟩ = some (.string ky) := by rw [hX, hkb]; simp [go_sem]
  have hxs : kb < X.heap.size := by rw [hX, hkb]; simp
  have HGX := hid gX
  rw [← hX, ← hkb]
  clear hX gX hkb
  go_wp2_with fail
  refine (HCP.out X HGX.out).mono ?_
  rintro r y ⟨cb, Gt, Gs, rfl, hS1, b1, b2, b3, hg1⟩
  have HGY := hid (HGX.out.trans hg1)
  have d2 := (hg1.cells.1 _ 2 hxs).trans d2
  have HSPL := hid (HSPL.out y HGY.out cb Gt Gs hS1)
  have HCB := hid (show U.heap.size ≤ cb ∧ (∀ j, Gt j → U.heap.size ≤ j) ∧ (∀ j, Gs j → U.heap.size ≤ j) from by
    have := HGX.out.size
    exact ⟨by omega, fun j hj => by have := b2 j hj; omega, fun j hj => by have := b3 j hj; omega⟩)
  have HS1 := hid hS1
  clear hg1 HCP hS1 b1 b2 b3 d0 hxs
  go_wp2_with fail
  refine HSPL.out.mono ?_
  clear HSPL d2
  rintro r z (⟨hc, rfl, hg2⟩ | ⟨hc, ob, rfl, hO, Ft', Go, Gz, a1, a2, a3, a4⟩)
  · have hee : Hid (errOf E c = .iface 388 (.pointer (some (E c)))) := errOf_pos E c hc
    rw [hee.out]
    have HGZ := hid (HGY.out.trans hg2)
    have HSC := hid (HSW.out z HGZ.out cb ⟨⟨Gt, Gs, n, by omega, HS1.out.grew hg2⟩, (HST.out U (Grew.refl U)).ins, by omega, HSP.out.lsz, HSP.out.hsz, HSP.out.span⟩)
    clear hee hg2
    go_wp2_with fail
    refine HSC.out.mono ?_
    rintro r x ⟨rfl, hg⟩
    have HF := hid (HU.out.more (HGZ.out.trans hg))
    clear hg HSC
    go_wp2_with fail
    go_ret
    exact ⟨rfl, HF.out⟩
  · subst hc
    have hgz : Grew U z := ((HGY.out.only _).then hO).grew fun j hj => hj.elim (fun q => q ▸ HCB.out.1) (HCB.out.2.1 j)
    have HGZ := hid hgz
    obtain ⟨⟨_, hhas, hne⟩, r1, r2, i1, i2, hks⟩ := HCC.out rfl
    obtain ⟨_, _, j0, jv⟩ := HRS.out hhas hne
    have HJV := hid (And.intro j0 jv)
    have HJB := hid (HRB.out hhas r2)
    have HKS := hid hks
    have HA := hid (And.intro a1 (And.intro a2 (And.intro a3 a4)))
    clear hO a1 a2 a3 a4 hgz i1 i2 j0 jv r1 r2 hks HRS HRB HCC hhas hne
    go_wp2_with fail
    refine (HSW.out z HGZ.out st (HST.out z HGZ.out)).mono ?_
    rintro r x1 ⟨rfl, hg1⟩
    have HG1 := hid (HGZ.out.trans hg1)
    have HA1 := hid hg1
    clear hg1
    go_wp2_with fail
    refine (mergeS_any (R := P) allS E spanS_all (by rfl) (HMRG.out x1 HG1.out) (HA.out.2.1.grew HA1.out) (HU1.out x1 HG1.out) (fun j hj hq => by have := HLA.out j hj; have := (HA.out.2.2.2 j hq).1; have := HGY.out.size; omega) (fun h0 => by rw [HJB.out] at h0; cases h0) (by rw [List.length_drop]; omega) (by omega) (by omega) (by omega) (by have := HKS.out; omega) HSP.out.hsz HSP.out.lsz HSP.out.hsz).mono ?_
    rw [HJB.out]
    rintro r x2 (⟨_, rfl, hg2⟩ | ⟨h0, _⟩)
    case inr => cases h0
    have HG2 := hid (HG1.out.trans hg2)
    have HA2 := hid (HA1.out.trans hg2)
    clear hg2 HJB HA1 HG1
    go_wp2_with fail
    refine (HNUM.out 1 (by omega) x2 HG2.out).mono ?_
    rintro r x3 ⟨rfl, hg3⟩
    have HG3 := hid (HG2.out.trans hg3)
    have HA3 := hid (HA2.out.trans hg3)
    clear hg3 HG2 HA2
    go_wp2_with fail
    refine (mergeS_any (R := P) allS E spanS_all (by rfl) (HMRG.out x3 HG3.out) (HA.out.1.grew HA3.out) (HA.out.2.1.grew HA3.out) (fun j hj => (HA.out.2.2.2 j hj).2) (fun _ => ⟨HSR.out, by rw [List.take_append_drop]⟩) (by rw [List.length_take]; omega) (by rw [List.length_drop]; omega) (by omega) (by omega) HSP.out.lsz (by have := HKS.out; omega) (by have := HKS.out; omega) HSP.out.hsz).mono ?_
    rw [HJV.out.1, HJV.out.2, joinL_self]
    rintro r x4 (⟨h0, _⟩ | ⟨_, rfl, hO4, Ft4, n4, q1, q2, q3⟩)
    case inl => exact absurd rfl h0
    have hg4 : Grew U x4 := ((HG3.out.only _).then hO4).grew fun j hj => by
      have h1 := HGY.out.size
      rcases hj with q | q | q
      · rcases HA.out.2.2.1 j q with t | t
        · exact HCB.out.2.1 j t
        · omega
      · exact HCB.out.2.2 j q
      · exact q ▸ HCB.out.1
    have HG4 := hid hg4
    have HS4 := hid (show StG x4 cb lo hi P S from ⟨⟨Ft4, Gs, n4, by omega, q2⟩, (HST.out U (Grew.refl U)).ins, by omega, HSP.out.lsz, HSP.out.hsz, HSP.out.span⟩)
    clear hO4 hg4 q1 q2 q3 HG3 HA3 HA HJV
    go_wp2_with fail
    refine (sameG_any HS4.out (HST.out x4 HG4.out)).mono ?_
    rintro r x5 ⟨rfl, hg5⟩
    have HF := hid (HU.out.more (HG4.out.trans hg5))
    clear hg5
    go_wp2_with fail
    go_ret
    exact ⟨by simp, HF.out⟩
end Go.Proofs.YtoiahcgaffffbaaGreatDoor
namespace Go.Proofs.YtoiahcgaffffbaaGreatDoor
open Go.RowKit Go.Maps
attribute [local go_sem] Oper.semAt_some uponV
def RC37 (x : Int × An) (i : Nat) (v : Value) (u : World) : Prop := i = 22 → ∃ vb, v = .slice (some ⟨vb, 0, none⟩) 1 1 ∧ u.heap[vb]? = some (.cells (clVals x).toArray 147 (0, 0))
theorem RC37.mono (x : Int × An) : MonoQ (RC37 x) := fun i v u u' h g e => by
  obtain ⟨vb, h1, h2⟩ := h e
  exact ⟨vb, h1, (g.below.block vb (Array.getElem?_eq_some_iff.1 h2).1).trans h2⟩
theorem sortedT_any {w : World} {tb : Nat} {P D : List Pr} (h : MTab w tb D) (hT : Pl.Tt P D) (hx : P.length ≤ 1000) :
    Calls Tryz.prog 62 #[.pointer (some ⟨tb, 0, none⟩)] w fun e w' => (∃ v, e = .returned v ∧ w'.ownsRow w.heap.size 83 3 v P.length (prFlat P)) ∧ Grew w w' := by
  have hl := hT.len
  refine (sorted21_any h (by omega) hT.key hT.ap).mono ?_
  rintro e w' ⟨⟨v, zs, rfl, hp, hs, hr⟩, hg⟩
  obtain rfl := hT.sorted hp hs
  exact ⟨⟨v, rfl, hr⟩, hg⟩
end Go.Proofs.YtoiahcgaffffbaaGreatDoor
namespace Go.Proofs.YtoiahcgaffffbaaGreatDoor
open Go.RowKit Go.Maps
attribute [local go_sem] Oper.semAt_some
set_option maxRecDepth 100000 in
set_option maxHeartbeats 1000000 in
theorem samePairs_same (w : World) (a b : Option Addr) (c d : Nat) (xs : List Pr) (hA : PairsAt w a xs) (hB : PairsAt w b xs) (hx : xs.length ≤ 1000000) :
    Calls Tryz.prog 56 #[.slice a xs.length c, .slice b xs.length d] w fun e w' => e = .returned (.bool true) ∧ Grew w w' := by
  have HA := hid hA
  have HB := hid hB
  have hbn : (xs.length : Int) ≤ 1000000 := by omega
  clear hA hB
  go_enter Tryz.func56, Tryz.ntmps56
  go_wp2_with fail
  go_loopw [13] (fun i wr => ∃ k : Nat, k ≤ xs.length ∧ i = .int .i64 k ∧ Grew w wr) (fun i _ => xs.length - (intOf i).toNat)
  case atStart => exact ⟨0, Nat.zero_le _, rfl, Grew.refl w⟩
  case round =>
    obtain ⟨k, hk1, rfl, hG⟩ := hrel
    by_cases hlt : k < xs.length
    · rcases HA.out with h0 | ⟨b1, off1, rfl, hb1, hR1⟩
      · rw [h0] at hlt; simp at hlt
      rcases HB.out with h0 | ⟨b2, off2, rfl, hb2, hR2⟩
      · rw [h0] at hlt; simp at hlt
      have q0 := (hG.cells.1 _ _ hb1).trans (hR1.key k hlt)
      have q1 := (hG.cells.1 _ _ hb1).trans (hR1.val k hlt)
      have q2 := (hG.cells.1 _ _ hb1).trans (hR1.ver k hlt)
      have p0 := (hG.cells.1 _ _ hb2).trans (hR2.key k hlt)
      have p1 := (hG.cells.1 _ _ hb2).trans (hR2.val k hlt)
      have p2 := (hG.cells.1 _ _ hb2).trans (hR2.ver k hlt)
      clear hR1 hR2
      generalize prAt xs k = e at *
      obtain ⟨ek, ev, en⟩ := e
      dsimp only at *
      have hltI : (k : Int) < (xs.length : Int) := by omega
      go_wp2_with fail
      go_quiet (fail)
      all_goals (
        go_wp2_with fail
        go_roundw
        case rel => exact ⟨k + 1, by omega, by go_num, hG.drewN _⟩
        case measure => simp [intOf]; omega)
    · obtain rfl : k = xs.length := by omega
      go_wp2_with fail
      go_ret
      exact ⟨rfl, hG⟩
end Go.Proofs.YtoiahcgaffffbaaGreatDoor
