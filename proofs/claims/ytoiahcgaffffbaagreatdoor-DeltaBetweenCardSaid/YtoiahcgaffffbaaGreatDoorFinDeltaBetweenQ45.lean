/- The walk of delta.Read, where the bytes are a delta's. -/
import Derived.Test.YtoiahcgaffffbaaGreatDoorFinDeltaBetweenQ44
import Derived.Test.YtoiahcgaffffbaaGreatDoorFinDeltaBetweenQ40
set_option linter.unusedVariables false
set_option linter.unusedSectionVars false
set_option linter.unusedSimpArgs false
namespace Go.Proofs.YtoiahcgaffffbaaGreatDoor
open Go.RowKit Go.Maps
attribute [local go_sem] Oper.semAt_some uponV
set_option maxRecDepth 100000 in
set_option maxHeartbeats 8000000 in
theorem read37_any (E : Nat → Addr) {w : World} (hE : Errs stS E w) {lo hi : ByteArray} {A : List Pr} {K : List ByteArray} {C : List (Int × An)} (hR : DlR lo hi A K C) (ha : A.length ≤ 240) (hk : K.length ≤ 240) {a : Option Addr} {cap : Nat} (hA : BytesAt w a (Pl.delB lo hi A K C)) (hf : SlForm a cap) :
    Calls Tryz.prog 18 #[.slice a (Pl.delB lo hi A K C).length cap] w fun e w' => ∃ ap cp ak ck ac cc, e = .returned (.tuple #[.agg #[.string lo, .string hi, .slice ap A.length cp, .slice ak K.length ck, .slice ac C.length cc], .nilIface]) ∧ DlM w' ap ak ac A K C ∧ Grew w w' := by
  have hlen := Pl.delB_len hR.lsz hR.hsz hR.good ha (fun k h => (hR.keys k h).1) hk hR.cls
  have HIR := hid (fun W (g : Grew w W) => inRead_any W a _ cap (Pl.delB lo hi A K C) rfl (hA.grew g) hf (by omega) (by unfold Pl.delB; simp only [List.length_append]; have := Pl.numB_pos K.length; omega))
  have HE := hid hE
  have HR := hid hR
  have HC4 := hid (clRow_len hR.cls)
  have hls := hR.lsz
  have hhs := hR.hsz
  have HPL := hid (show (Pl.pairsB A).length ≤ 60000 ∧ (Pl.keysB K).length ≤ 30000 ∧ (clsB C).length ≤ 100 from by
    have h1 := Pl.pairsB_len hR.good
    have h2 := Pl.keysB_len (fun k h => (hR.keys k h).1)
    have h3 := Pl.clsB_len hR.cls.ok
    have h4 := clRow_len hR.cls
    exact ⟨by omega, by omega, by omega⟩)
  obtain ⟨R3, hR3⟩ : ∃ R3, R3 = Pl.numB C.length ++ clsB C := ⟨_, rfl⟩
  obtain ⟨R2, hR2⟩ : ∃ R2, R2 = Pl.numB K.length ++ (Pl.keysB K ++ R3) := ⟨_, rfl⟩
  have HD0 := hid (show Pl.delB lo hi A K C = Pl.textB lo ++ (Pl.textB hi ++ (Pl.numB A.length ++ (Pl.pairsB A ++ R2))) from by rw [hR2, hR3]; unfold Pl.delB Pl.tabB; simp [List.append_assoc])
  have HR3 := hid hR3
  have HR2 := hid hR2
  have HL3 := hid (show R3.length ≤ 200 from by rw [hR3, List.length_append]; have := HPL.out.2.2; have := Pl.numB_len 0 C.length (by have := HC4.out; omega); omega)
  have HL2 := hid (show R2.length ≤ 31000 from by rw [hR2, List.length_append, List.length_append]; have := HPL.out.2.1; have := HL3.out; have := Pl.numB_len 1 K.length (by omega); omega)
  generalize (Pl.delB lo hi A K C).length = z at *
  clear hE hR hA hf hlen hR2 hR3
  go_enter Tryz.func18, Tryz.ntmps18
  go_upto_region 1 with fail
  obtain ⟨w1, hw1⟩ : ∃ w1, w1 = w.alloc (.cells #[.string ⟨#[]⟩, .string ⟨#[]⟩, .slice none 0 0, .slice none 0 0, .slice none 0 0] 36) := ⟨_, rfl⟩
  have HG1 := hid (show Grew w w1 from by rw [hw1]; exact (Grew.refl w).alloc _)
  have hz1 : w.heap.size < w1.heap.size := by rw [hw1]; simp
  have HRB := hid (show (∀ j, j < 5 → ∃ u, w1.cell? ⟨w.heap.size, j, none⟩ = some u) ∧ (∀ j, w1.frozen? ⟨w.heap.size, j, none⟩ = false) from ⟨fun j hj => by
    rw [hw1]
    obtain rfl | rfl | rfl | rfl | rfl : j = 0 ∨ j = 1 ∨ j = 2 ∨ j = 3 ∨ j = 4 := by omega
    all_goals exact ⟨_, by simp [go_sem]; rfl⟩, fun j => by rw [hw1]; simp [go_sem]⟩)
  rw [← hw1]
  clear hw1
  go_wp2_with fail
  refine (HIR.out w1 HG1.out).mono ?_
  rintro e w2 ⟨ib, nb, rfl, hib, hnb, hI2, hg2⟩
  rw [HD0.out] at hI2
  have HI2 := hid hI2
  have HIB := hid (And.intro hib hnb)
  have HG2 := hid hg2
  have lp := HPL.out.1
  have l2 := HL2.out
  have t1 := Pl.textB_len lo (by omega)
  have t2 := Pl.textB_len hi (by omega)
  have n1 := Pl.numB_len 1 A.length (by omega)
  clear hI2 hib hnb hg2 HIR
  go_wp2_with fail
  refine (inText_any lo 65536 (by omega) (by omega) HI2.out (by simp only [List.length_append]; omega)).mono ?_
  rintro e w3 ⟨rfl, hO3, hI3⟩
  have HI3 := hid hI3
  have HO3 := hid hO3
  clear hI3 hO3
  go_wp2_with fail
  refine (inText_any hi 65536 (by omega) (by omega) HI3.out (by simp only [List.length_append]; omega)).mono ?_
  rintro e w4 ⟨rfl, hO4, hI4⟩
  have HI4 := hid hI4
  have HO4 := hid (HO3.out.then hO4)
  clear hI4 hO4
  go_upto_region 3 with fail
  obtain ⟨V, hV⟩ : ∃ V, V = w4.alloc (.cells #[.string lo, .string hi, .slice none 0 0, .slice none 0 0, .slice none 0 0] 36) := ⟨_, rfl⟩
  obtain ⟨db, hdb⟩ : ∃ db, db = w4.heap.size := ⟨_, rfl⟩
  have HB0 := hid (show RdL w1 V ib nb db lo hi [] [] [] (.slice none 0 0) (.slice none 0 0) (.slice none 0 0) (Pl.numB A.length ++ (Pl.pairsB A ++ R2)) from by
    have hl := HI4.out.lt
    have hg4 : Grew w1 w4 := ((HG2.out.only _).then HO4.out).grew fun j (hj : j = ib) => by rw [hj]; exact HIB.out.1
    have hgV : Grew w4 V := by rw [hV]; exact (Grew.refl w4).alloc _
    refine ⟨⟨hg4.trans hgV, by rw [hdb]; exact hg4.size, by rw [hV, hdb]; simp [go_sem], by rw [hV, hdb]; simp [go_sem], ⟨by rw [hV, hdb]; simp [go_sem], by rw [hV, hdb]; simp [go_sem], World.ownsRow_nil _ _ _ _, (fun g h => by cases h)⟩, ⟨by rw [hV, hdb]; simp [go_sem], by rw [hV, hdb]; simp [go_sem], World.ownsRow_nil _ _ _ _, (fun g h => by cases h)⟩, ⟨by rw [hV, hdb]; simp [go_sem], by rw [hV, hdb]; simp [go_sem], World.ownsRow_nil _ _ _ _, (fun g h => by cases h)⟩, (fun g h => by cases h), (fun g h => by cases h), (fun g h => by cases h)⟩, HI4.out.grew hgV, HIB.out.1, ⟨by omega, by omega⟩, (fun g h => by cases h), (fun g h => by cases h), (fun g h => by cases h)⟩)
  rw [← hV, ← hdb]
  clear hV hdb HI2 HI3 HI4 HO3 HO4 HG2 t1 t2
  go_wp2_with fail
  refine (inNum_any A.length 65536 (by omega) (by omega) HB0.out.inp (by simp only [List.length_append]; omega)).mono ?_
  rintro e w5 ⟨rfl, hO5, hI5⟩
  have HB5 := hid (HB0.out.turn hO5 hI5)
  clear hO5 hI5 HB0
  obtain ⟨n, hn⟩ : ∃ n, n = A.length := ⟨_, rfl⟩
  have HN := hid hn
  have hn2 : n ≤ 240 := by omega
  rw [← hn] at n1 ⊢
  clear hn
  go_wp2_with fail
  go_loopw [6] (fun i wr => ∃ k : Nat, k ≤ n ∧ i = .int .i64 ((n - k : Nat) : Int) ∧ Hid (∃ vp, RdL w1 wr ib nb db lo hi (A.take k) [] [] vp (.slice none 0 0) (.slice none 0 0) (Pl.pairsB (A.drop k) ++ R2))) (fun i _ => (intOf i).toNat)
  case atStart => exact ⟨0, by omega, rfl, _, HB5.out⟩
  case round =>
    obtain ⟨k, hk1, rfl, HBk⟩ := hrel
    obtain ⟨vp, hBk⟩ := HBk.out
    have HB := hid hBk
    clear hBk HBk
    by_cases hlt : k < n
    · have hlt' : k < A.length := by rw [← HN.out]; exact hlt
      obtain ⟨v1, v2, v3, v4⟩ := good_ver HR.out.good k hlt'
      have hin := HB.out.inp
      rw [Pl.pairsB_drop A k hlt'] at hin
      unfold Pl.pairB at hin
      have hrl := Pl.pairsB_drople A (k + 1)
      have HNX := hid (show A.take (k + 1) = A.take k ++ [prAt A k] from by rw [List.take_succ_eq_append_getElem hlt', prAt_eq A k hlt'])
      have HTL := hid (show (A.take k).length = k from by rw [List.length_take]; omega)
      clear hlt'
      generalize prAt A k = c at *
      obtain ⟨ck, cv, cn⟩ := c
      dsimp only at *
      obtain ⟨vn, hvn⟩ : ∃ vn : Nat, vn = cn.toNat := ⟨_, rfl⟩
      rw [← hvn] at v1 v2 hin
      subst v1
      clear hvn
      have s1 := Pl.textB_len ck (by omega)
      have s2 := Pl.textB_len cv (by omega)
      have s3 := Pl.numB_len 8 vn (by omega)
      obtain ⟨rest, hrest⟩ : ∃ rest, rest = Pl.pairsB (A.drop (k + 1)) ++ R2 := ⟨_, rfl⟩
      have HREST := hid hrest
      have hrl : rest.length ≤ 100000 := by rw [hrest, List.length_append]; omega
      have HIN : Hid (InAt wr ib nb (Pl.textB ck ++ (Pl.textB cv ++ (Pl.numB vn ++ rest)))) := by unfold Hid; rw [hrest]; simpa [List.append_assoc] using hin
      have HLN := hid (show (Pl.textB ck).length ≤ 200 ∧ (Pl.textB cv).length ≤ 200 ∧ (Pl.numB vn).length ≤ 10 ∧ rest.length ≤ 100000 ∧ ck.size ≤ 96 ∧ cv.size ≤ 64 ∧ vn ≤ 4096 from ⟨by omega, by omega, by omega, hrl, by omega, by omega, by omega⟩)
      have hpos : (0 : Int) < ((n - k : Nat) : Int) := by omega
      have hcast : ((n - k : Nat) : Int) = (n : Int) - (k : Int) := by omega
      have hpos' : (0 : Int) < (n : Int) - (k : Int) := by omega
      clear hin hrest hrl s1 s2 s3 v2 v3 v4
      go_wp2_with fail
      refine (inErr_any HIN.out).mono ?_
      rintro e w6 ⟨rfl, hw6⟩
      have hw6 := hw6.symm
      subst hw6
      have cP := HB.out.d.p.cell
      have hdbl := cell_lt cP
      have CP := wd_only (S := fun j => j = ib) cP (fun e => HB.out.ne.1 e.symm)
      have h0M : MP37 wr ib nb ck cv vn rest 0 (fun _ => undef) wr.drew := ⟨((Grew.refl wr).drew).only _, fun _ => HIN.out.grew ((Grew.refl wr).drew), (fun e => by omega), (fun e => by omega), (fun e => by omega), (fun e => by omega), (fun e => by omega), (fun e => by omega), (fun e => by omega), (fun e => by omega)⟩
      have H0M := hid h0M
      clear cP h0M
      go_upto_region 6 with fail
      refine wp_region_mixS 10 [3, 5, 7, 8, 9] (Only (fun j => j = ib) wr) Eq (JC [3, 5, 7, 8, 9] (MP37 wr ib nb ck cv vn rest)) (fun f a => ((((a.put (some 33) (f 3)).put (some 35) (f 5)).put (some 37) (f 7)).put (some 38) (f 8)).put (some 39) (f 9)) (by kernel_rfl) (by kernel_rfl) (fun _ _ => rfl) (JC.start H0M.out) (fun _ _ _ h => by obtain ⟨s, _, _, h⟩ := h.ex; exact h.only) (fun _ => rfl) (fun _ _ _ _ h g => g ▸ h) ?_
      repeat (first
    | (refine mixS_loose (by rfl) (by rfl) ?_)
    | (refine mixS_plain (by rfl) (by rfl) (by rfl) (by first | exact Grew.refl | exact fun _ => rfl) (by rfl) ?_; intro K hK; go_big_quiet_op; go_big_quiet_on)
    | (refine mixS_skip (by rfl) (by rfl) (by rfl) ?_; simp only [Act.put, List.setIfInBounds_toArray, List.set_cons_zero, List.set_cons_succ]))
      refine mixS_done (by rfl) ⟨⟨loose_of rfl (fun _ a => a) (fun _ _ => rfl) (fun _ => rfl) ?_, loose_of rfl (fun f a => a.put (some 33) (f 3)) (fun _ _ => rfl) (fun _ => rfl) ?_, loose_of rfl (fun f a => a.put (some 35) (f 5)) (fun _ _ => rfl) (fun _ => rfl) ?_, loose_of rfl (fun f a => ((a.put (some 33) (f 3)).put (some 35) (f 5)).put (some 37) (f 7)) (fun _ _ => rfl) (fun _ => rfl) ?_, loose_of rfl (fun f a => a.put (some 38) (f 8)) (fun _ _ => rfl) (fun _ => rfl) ?_, trivial⟩, ?_⟩
      · intro L f u hJ hL hd
        have hp : ∀ k, 0 = k + 1 → ∃ i', ([3, 5, 7, 8, 9] : List Nat)[k]? = some i' ∧ L i' = true := fun k e => by omega
        have HM := hid (hJ.stage 0 3 rfl hL hp).2
        have HPUT := hid (fun u' v (h : MP37 wr ib nb ck cv vn rest 1 (updV f 3 v) u') => hJ.put (by decide) 0 3 rfl hL hp h)
        clear hJ hL hd hp CP
        go_simp
        refine (inText_any ck 65536 (by have := HLN.out; omega) (by have := HLN.out; omega) (HM.out.i0 rfl) (by have := HLN.out; simp only [List.length_append]; omega)).mono ?_
        rintro e u' ⟨rfl, hO, hI⟩
        exact ⟨_, rfl, HPUT.out _ _ ⟨HM.out.only.then hO, (fun e => by omega), (fun _ => hI), (fun e => by omega), (fun e => by omega), (fun _ => updV_same _ _ _), (fun e => by omega), (fun e => by omega), (fun e => by omega), (fun e => by omega)⟩⟩
      · intro L f u hJ hL hd
        have hp : ∀ k, 1 = k + 1 → ∃ i', ([3, 5, 7, 8, 9] : List Nat)[k]? = some i' ∧ L i' = true := fun k e => by obtain rfl : k = 0 := (by omega); exact ⟨3, rfl, hd 3 rfl (by decide)⟩
        have HM := hid (hJ.stage 1 5 rfl hL hp).2
        have HPUT := hid (fun u' v (h : MP37 wr ib nb ck cv vn rest 2 (updV f 5 v) u') => hJ.put (by decide) 1 5 rfl hL hp h)
        clear hJ hL hd hp CP
        go_simp
        refine (inText_any cv 65536 (by have := HLN.out; omega) (by have := HLN.out; omega) (HM.out.i1 rfl) (by have := HLN.out; simp only [List.length_append]; omega)).mono ?_
        rintro e u' ⟨rfl, hO, hI⟩
        exact ⟨_, rfl, HPUT.out _ _ ⟨HM.out.only.then hO, (fun e => by omega), (fun e => by omega), (fun _ => hI), (fun e => by omega), (fun _ => by rw [updV_ne (by decide)]; exact HM.out.v3 (by omega)), (fun _ => updV_same _ _ _), (fun e => by omega), (fun e => by omega), (fun e => by omega)⟩⟩
      · intro L f u hJ hL hd
        have hp : ∀ k, 2 = k + 1 → ∃ i', ([3, 5, 7, 8, 9] : List Nat)[k]? = some i' ∧ L i' = true := fun k e => by obtain rfl : k = 1 := (by omega); exact ⟨5, rfl, hd 5 rfl (by decide)⟩
        have HM := hid (hJ.stage 2 7 rfl hL hp).2
        have HPUT := hid (fun u' v (h : MP37 wr ib nb ck cv vn rest 3 (updV f 7 v) u') => hJ.put (by decide) 2 7 rfl hL hp h)
        clear hJ hL hd hp CP
        go_simp
        refine (inNum_any vn 4096 (by have := HLN.out; omega) (by have := HLN.out; omega) (HM.out.i2 rfl) (by have := HLN.out; omega)).mono ?_
        rintro e u' ⟨rfl, hO, hI⟩
        exact ⟨_, rfl, HPUT.out _ _ ⟨HM.out.only.then hO, (fun e => by omega), (fun e => by omega), (fun e => by omega), (fun _ => hI), (fun _ => by rw [updV_ne (by decide)]; exact HM.out.v3 (by omega)), (fun _ => by rw [updV_ne (by decide)]; exact HM.out.v5 (by omega)), (fun _ => updV_same _ _ _), (fun e => by omega), (fun e => by omega)⟩⟩
      · intro L f u hJ hL hd
        have hp : ∀ k, 3 = k + 1 → ∃ i', ([3, 5, 7, 8, 9] : List Nat)[k]? = some i' ∧ L i' = true := fun k e => by obtain rfl : k = 2 := (by omega); exact ⟨7, rfl, hd 7 rfl (by decide)⟩
        have HM := hid (hJ.stage 3 8 rfl hL hp).2
        have HPUT := hid (fun u' v (h : MP37 wr ib nb ck cv vn rest 4 (updV f 8 v) u') => hJ.put (by decide) 3 8 rfl hL hp h)
        clear hJ hL hd hp CP
        rw [HM.out.v3 (by omega), HM.out.v5 (by omega), HM.out.v7 (by omega)]
        go_simp
        exact HPUT.out _ _ ⟨HM.out.only, (fun e => by omega), (fun e => by omega), (fun e => by omega), (fun _ => HM.out.i3 (by omega)), (fun _ => by rw [updV_ne (by decide)]; exact HM.out.v3 (by omega)), (fun _ => by rw [updV_ne (by decide)]; exact HM.out.v5 (by omega)), (fun _ => by rw [updV_ne (by decide)]; exact HM.out.v7 (by omega)), (fun _ => updV_same _ _ _), (fun e => by omega)⟩
      · intro L f u hJ hL hd
        have hp : ∀ k, 4 = k + 1 → ∃ i', ([3, 5, 7, 8, 9] : List Nat)[k]? = some i' ∧ L i' = true := fun k e => by obtain rfl : k = 3 := (by omega); exact ⟨8, rfl, hd 8 rfl (by decide)⟩
        have HM := hid (hJ.stage 4 9 rfl hL hp).2
        have HPUT := hid (fun u' v (h : MP37 wr ib nb ck cv vn rest 5 (updV f 9 v) u') => hJ.put (by decide) 4 9 rfl hL hp h)
        clear hJ hL hd hp CP
        rw [HM.out.v8 (by omega)]
        go_simp
        exact HPUT.out _ _ ⟨HM.out.only.grewT ((Grew.refl u).alloc _), (fun e => by omega), (fun e => by omega), (fun e => by omega), (fun _ => (HM.out.i3 (by omega)).grew ((Grew.refl u).alloc _)), (fun _ => by rw [updV_ne (by decide)]; exact HM.out.v3 (by omega)), (fun _ => by rw [updV_ne (by decide)]; exact HM.out.v5 (by omega)), (fun _ => by rw [updV_ne (by decide)]; exact HM.out.v7 (by omega)), (fun _ => by rw [updV_ne (by decide)]; exact HM.out.v8 (by omega)), (fun _ => ⟨_, updV_same _ _ _, heap_alloc_new u _⟩)⟩
      intro f u hJ
      have hM := hJ.done (by decide)
      obtain ⟨vb, e9, hvb⟩ := hM.v9 (by decide)
      have HBu := hid (HB.out.turn hM.only (hM.i3 (by decide)))
      have e3 := hM.v3 (by decide)
      have e5 := hM.v5 (by decide)
      have e7 := hM.v7 (by decide)
      have e8 := hM.v8 (by decide)
      have hpZ : PairsAt u (some ⟨vb, 0, none⟩) [⟨ck, cv, vn⟩] := pairs_one (p := ⟨ck, cv, vn⟩) hvb
      obtain ⟨a', cap', e', _⟩ := pairsAt_of HBu.out.d.p.row
      subst e'
      obtain ⟨a3, c3, w3, hrun, hrow, hgr, how⟩ := run_append_pairs (w := u) (B := w1.heap.size) HBu.out.d.p.row (ao := some ⟨vb, 0, none⟩) (n := 1) (cap := 1) (xs := [⟨ck, cv, vn⟩]) rfl hpZ (.inr ⟨_, _, rfl⟩) (by have := HTL.out; omega) (by have := HBu.out.d.grew.size; omega) 32
      have hl3 : (A.take k).length + 1 = (A.take (k + 1)).length := by rw [HNX.out, List.length_append]; rfl
      rw [hl3, ← HNX.out] at hrow
      rw [hl3] at how
      obtain ⟨hB3, q3, f3⟩ := HBu.out.addP (Grew.refl u) hrow hgr how
      rw [hl3] at hrun
      have HRUN := hid hrun
      have HB3 := hid hB3
      have hd3 := cell_lt q3
      rw [HREST.out] at HB3
      generalize (A.take (k + 1)).length = l3 at *
      generalize (A.take k).length = l4 at *
      clear hM hpZ hvb hrow hgr how hl3 hB3 hrun hJ CP H0M HIN hdbl
      dsimp only [List.drop]
      simp only [Act.put, List.setIfInBounds_toArray, List.set_cons_succ, List.set_cons_zero]
      rw [e3, e5, e7, e8, e9]
      clear e3 e5 e7 e8 e9
      go_wp2_with (at_builtin; refine Lib.wpList_append_run _ rfl _ _ _ _ rfl _ _ rfl rfl _ _ HRUN.out ?_)
      go_roundw
      case rel => exact ⟨k + 1, by omega, by go_num, _, HB3.out⟩
      case measure => simp [intOf]; omega
    · have hkn : k = n := by omega
      subst hkn
      obtain ⟨wA, rfl⟩ : ∃ x : World, x = wr := ⟨_, rfl⟩
      have HBA := hid (show RdL w1 wA ib nb db lo hi A [] [] vp (.slice none 0 0) (.slice none 0 0) (Pl.numB K.length ++ (Pl.keysB K ++ R3)) from by
        have h := HB.out
        rw [HN.out, List.take_length, List.drop_length] at h
        rw [← HR2.out]
        simpa [Pl.pairsB] using h)
      have hz0 : ((k - k : Nat) : Int) = 0 := by omega
      rw [hz0]
      clear HB HB5 hlt hk1 hz0
      go_wp2_with fail
      refine (inNum_any K.length 65536 (by omega) (by omega) HBA.out.inp (by simp only [List.length_append]; have := HPL.out.2.1; have := HL3.out; omega)).mono ?_
      rintro e w5 ⟨rfl, hO5, hI5⟩
      have HB5 := hid (HBA.out.turn hO5 hI5)
      clear hO5 hI5 HBA
      obtain ⟨m, hm⟩ : ∃ m, m = K.length := ⟨_, rfl⟩
      have HMK := hid hm
      have hm2 : m ≤ 240 := by omega
      rw [← hm]
      clear hm
      go_wp2_with fail
      go_loopw [7] (fun i wr => ∃ k : Nat, k ≤ m ∧ i = .int .i64 ((m - k : Nat) : Int) ∧ Hid (∃ vk, RdL w1 wr ib nb db lo hi A (K.take k) [] vp vk (.slice none 0 0) (Pl.keysB (K.drop k) ++ R3))) (fun i _ => (intOf i).toNat)
      case atStart => exact ⟨0, by omega, rfl, _, HB5.out⟩
      case round =>
        obtain ⟨k, hk1, rfl, HBk⟩ := hrel
        obtain ⟨vk, hBk⟩ := HBk.out
        have HB := hid hBk
        clear hBk HBk
        by_cases hlt : k < m
        · have hlt' : k < K.length := by rw [← HMK.out]; exact hlt
          have hks := (HR.out.keys _ (List.getElem_mem hlt')).1
          have hin := HB.out.inp
          rw [Pl.keysB_drop K k hlt', List.append_assoc] at hin
          have hrl := Pl.keysB_drople K (k + 1)
          have HNX := hid (show K.take (k + 1) = K.take k ++ [K[k]] from List.take_succ_eq_append_getElem hlt')
          have HTL := hid (show (K.take k).length = k from by rw [List.length_take]; omega)
          generalize K[k] = ck at *
          have s1 := Pl.textB_len ck (by omega)
          obtain ⟨rest, hrest⟩ : ∃ rest, rest = Pl.keysB (K.drop (k + 1)) ++ R3 := ⟨_, rfl⟩
          have HREST := hid hrest
          have hrl : rest.length ≤ 100000 := by rw [hrest, List.length_append]; have := HPL.out.2.1; have := HL3.out; omega
          rw [← hrest] at hin
          have HIN := hid hin
          have HLN := hid (show (Pl.textB ck).length ≤ 200 ∧ rest.length ≤ 100000 ∧ ck.size ≤ 96 from ⟨by omega, hrl, by omega⟩)
          have hpos : (0 : Int) < ((m - k : Nat) : Int) := by omega
          have hcast : ((m - k : Nat) : Int) = (m : Int) - (k : Int) := by omega
          have hpos' : (0 : Int) < (m : Int) - (k : Int) := by omega
          clear hin hrest hrl s1 hks hlt'
          go_wp2_with fail
          refine (inErr_any HIN.out).mono ?_
          rintro e w6 ⟨rfl, hw6⟩
          have hw6 := hw6.symm
          subst hw6
          have cP := HB.out.d.k.cell
          have hdbl := cell_lt cP
          have CP := wd_only (S := fun j => j = ib) cP (fun e => HB.out.ne.1 e.symm)
          have h0M : MK37 wr ib nb ck rest 0 (fun _ => undef) wr.drew := ⟨((Grew.refl wr).drew).only _, fun _ => HIN.out.grew ((Grew.refl wr).drew), (fun e => by omega), (fun e => by omega), (fun e => by omega)⟩
          have H0M := hid h0M
          clear cP h0M
          go_upto_region 10 with fail
          refine wp_region_mixS 5 [3, 4] (Only (fun j => j = ib) wr) Eq (JC [3, 4] (MK37 wr ib nb ck rest)) (fun f a => (a.put (some 56) (f 3)).put (some 57) (f 4)) (by kernel_rfl) (by kernel_rfl) (fun _ _ => rfl) (JC.start H0M.out) (fun _ _ _ h => by obtain ⟨s, _, _, h⟩ := h.ex; exact h.only) (fun _ => rfl) (fun _ _ _ _ h g => g ▸ h) ?_
          repeat (first
    | (refine mixS_loose (by rfl) (by rfl) ?_)
    | (refine mixS_plain (by rfl) (by rfl) (by rfl) (by first | exact Grew.refl | exact fun _ => rfl) (by rfl) ?_; intro K hK; go_big_quiet_op; go_big_quiet_on)
    | (refine mixS_skip (by rfl) (by rfl) (by rfl) ?_; simp only [Act.put, List.setIfInBounds_toArray, List.set_cons_zero, List.set_cons_succ]))
          refine mixS_done (by rfl) ⟨⟨loose_of rfl (fun _ a => a) (fun _ _ => rfl) (fun _ => rfl) ?_, loose_of rfl (fun f a => a.put (some 56) (f 3)) (fun _ _ => rfl) (fun _ => rfl) ?_, trivial⟩, ?_⟩
          · intro L f u hJ hL hd
            have hp : ∀ k, 0 = k + 1 → ∃ i', ([3, 4] : List Nat)[k]? = some i' ∧ L i' = true := fun k e => by omega
            have HM := hid (hJ.stage 0 3 rfl hL hp).2
            have HPUT := hid (fun u' v (h : MK37 wr ib nb ck rest 1 (updV f 3 v) u') => hJ.put (by decide) 0 3 rfl hL hp h)
            clear hJ hL hd hp CP
            go_simp
            refine (inText_any ck 65536 (by have := HLN.out; omega) (by have := HLN.out; omega) (HM.out.i0 rfl) (by have := HLN.out; omega)).mono ?_
            rintro e u' ⟨rfl, hO, hI⟩
            exact ⟨_, rfl, HPUT.out _ _ ⟨HM.out.only.then hO, (fun e => by omega), (fun _ => hI), (fun _ => updV_same _ _ _), (fun e => by omega)⟩⟩
          · intro L f u hJ hL hd
            have hp : ∀ k, 1 = k + 1 → ∃ i', ([3, 4] : List Nat)[k]? = some i' ∧ L i' = true := fun k e => by obtain rfl : k = 0 := (by omega); exact ⟨3, rfl, hd 3 rfl (by decide)⟩
            have HM := hid (hJ.stage 1 4 rfl hL hp).2
            have HPUT := hid (fun u' v (h : MK37 wr ib nb ck rest 2 (updV f 4 v) u') => hJ.put (by decide) 1 4 rfl hL hp h)
            clear hJ hL hd hp CP
            rw [HM.out.v3 (by omega)]
            go_simp
            exact HPUT.out _ _ ⟨HM.out.only.grewT ((Grew.refl u).alloc _), (fun e => by omega), (fun _ => (HM.out.i1 (by omega)).grew ((Grew.refl u).alloc _)), (fun _ => by rw [updV_ne (by decide)]; exact HM.out.v3 (by omega)), (fun _ => ⟨_, updV_same _ _ _, heap_alloc_new u _⟩)⟩
          intro f u hJ
          have hM := hJ.done (by decide)
          obtain ⟨vb, e9, hvb⟩ := hM.v4 (by decide)
          have HBu := hid (HB.out.turn hM.only (hM.i1 (by decide)))
          have e3 := hM.v3 (by decide)
          have hpZ : u.cell? ⟨vb, 0, none⟩ = some (.string ck) := by rw [cell_block hvb]; rfl
          obtain ⟨v3, w3, hrun, hrow, hgr, how⟩ := run_append_str2 (w := u) (B := w1.heap.size) (v := vk) (m := (K.take k).length) (ks := K.take k) HBu.out.d.k.row vb ck hpZ (by have := HTL.out; omega) (by have := HBu.out.d.grew.size; omega) 33
          have hl3 : (K.take k).length + 1 = (K.take (k + 1)).length := by rw [HNX.out, List.length_append]; rfl
          rw [hl3, ← HNX.out] at hrow
          obtain ⟨a3, c3, e5, _⟩ := strsAt_of hrow
          subst e5
          obtain ⟨hB3, q3, f3⟩ := HBu.out.addK (Grew.refl u) hrow hgr how
          have HRUN := hid hrun
          have HB3 := hid hB3
          have hd3 := cell_lt q3
          rw [HREST.out] at HB3
          generalize (K.take (k + 1)).length = l3 at *
          clear hM hpZ hvb hrow hgr how hl3 hB3 hrun hJ CP H0M HIN hdbl
          dsimp only [List.drop]
          simp only [Act.put, List.setIfInBounds_toArray, List.set_cons_succ, List.set_cons_zero]
          rw [e3, e9]
          clear e3 e9
          go_wp2_with (at_builtin; refine Lib.wpList_append_run _ rfl _ _ _ _ rfl _ _ rfl rfl _ _ HRUN.out ?_)
          go_roundw
          case rel => exact ⟨k + 1, by omega, by go_num, _, HB3.out⟩
          case measure => simp [intOf]; omega
        · have hkn : k = m := by omega
          subst hkn
          obtain ⟨wB, rfl⟩ : ∃ x : World, x = wr := ⟨_, rfl⟩
          have HBA := hid (show RdL w1 wB ib nb db lo hi A K [] vp vk (.slice none 0 0) (Pl.numB C.length ++ clsB C) from by
            have h := HB.out
            rw [HMK.out, List.take_length, List.drop_length] at h
            rw [← HR3.out]
            simpa [Pl.keysB] using h)
          have hz0 : ((k - k : Nat) : Int) = 0 := by omega
          rw [hz0]
          clear HB HB5 hlt hk1 hz0
          have hc4 := HC4.out
          go_wp2_with fail
          refine (inNum_any C.length 4 (by omega) (by omega) HBA.out.inp (by have := HPL.out.2.2; omega)).mono ?_
          rintro e w5 ⟨rfl, hO5, hI5⟩
          have HB5 := hid (HBA.out.turn hO5 hI5)
          clear hO5 hI5 HBA
          obtain ⟨q, hq⟩ : ∃ q, q = C.length := ⟨_, rfl⟩
          have HQC := hid hq
          have hq2 : q ≤ 4 := by omega
          rw [← hq]
          clear hq hc4
          go_wp2_with fail
          go_loopw [8] (fun i wr => ∃ k : Nat, k ≤ q ∧ i = .int .i64 ((q - k : Nat) : Int) ∧ Hid (∃ vc, RdL w1 wr ib nb db lo hi A K (C.take k) vp vk vc (clsB (C.drop k)))) (fun i _ => (intOf i).toNat)
          case atStart => exact ⟨0, by omega, rfl, _, HB5.out⟩
          case round =>
            obtain ⟨k, hk1, rfl, HBk⟩ := hrel
            obtain ⟨vc, hBk⟩ := HBk.out
            have HB := hid hBk
            clear hBk HBk
            by_cases hlt : k < q
            · have hlt' : k < C.length := by rw [← HQC.out]; exact hlt
              obtain ⟨r1, r2, r3⟩ := clRow_at HR.out.cls k hlt'
              have hin := HB.out.inp
              rw [clsB_drop C k hlt'] at hin
              unfold clB at hin
              have HNX := hid (show C.take (k + 1) = C.take k ++ [clAt C k] from by rw [List.take_succ_eq_append_getElem hlt', clAt_eq C k hlt'])
              have HTL := hid (show (C.take k).length = k from by rw [List.length_take]; omega)
              have hrl := Pl.clsB_drople C (k + 1)
              generalize clAt C k = x at *
              obtain ⟨xc, xq, xk, xt⟩ := x
              dsimp only at *
              obtain ⟨s1, s2, c1, t1, t2⟩ := r3
              dsimp only at s1 s2 c1 t1 t2
              obtain ⟨xi, rfl⟩ : ∃ v : Nat, xc = v := ⟨xc.toNat, by omega⟩
              obtain ⟨vq, rfl⟩ : ∃ v : Nat, xq = v := ⟨xq.toNat, by omega⟩
              obtain ⟨vd, rfl⟩ : ∃ v : Nat, xk = v := ⟨xk.toNat, by omega⟩
              obtain ⟨vt, rfl⟩ : ∃ v : Nat, xt = v := ⟨xt.toNat, by omega⟩
              simp only [Int.toNat_natCast] at hin
              obtain ⟨rest, hrest⟩ : ∃ rest, rest = clsB (C.drop (k + 1)) := ⟨_, rfl⟩
              rw [← hrest] at hin hrl
              have HREST := hid hrest
              have HIN : Hid (InAt wr ib nb (Pl.numB xi ++ (Pl.numB vq ++ (Pl.numB vd ++ (Pl.numB vt ++ rest))))) := by unfold Hid; simpa [List.append_assoc] using hin
              have l2 := Pl.numB_len 4 vq (by omega)
              have l3 := Pl.numB_len 4 vd (by omega)
              have l4 := Pl.numB_len 4 vt (by omega)
              have hpos : (0 : Int) < ((q - k : Nat) : Int) := by omega
              have hcast : ((q - k : Nat) : Int) = (q : Int) - (k : Int) := by omega
              have hpos' : (0 : Int) < (q : Int) - (k : Int) := by omega
              have HBN := hid (show xi < 4611686018427387904 ∧ vq < 4611686018427387904 ∧ vd < 4611686018427387904 ∧ vt < 4611686018427387904 ∧ (xi : Int) ≤ 4 ∧ (vq : Int) ≤ 1073741824 ∧ (vd : Int) ≤ 2 ∧ (vt : Int) ≤ 4095 from ⟨by omega, by omega, by omega, by omega, by omega, by omega, by omega, by omega⟩)
              have HLN := hid (show (Pl.numB vq).length ≤ 5 ∧ (Pl.numB vd).length ≤ 5 ∧ (Pl.numB vt).length ≤ 5 ∧ rest.length ≤ 100 from ⟨l2, l3, l4, by have := HPL.out.2.2; omega⟩)
              clear hin hrest r1 r2 s1 s2 c1 t1 t2 l2 l3 l4 hrl hlt'
              go_wp2_with fail
              refine (inErr_any HIN.out).mono ?_
              rintro e w6 ⟨rfl, hw6⟩
              have hw6 := hw6.symm
              subst hw6
              go_wp2_with fail
              refine (inNum_any xi 4 HBN.out.1 HBN.out.2.2.2.2.1 HIN.out (by have := HLN.out; simp only [List.length_append]; omega)).mono ?_
              rintro e w4 ⟨rfl, hO4, hI4⟩
              have HI4 := hid hI4
              have HO4 := hid hO4
              clear hI4 hO4
              go_wp2_with fail
              refine (inNum_any vq 1073741824 HBN.out.2.1 HBN.out.2.2.2.2.2.1 HI4.out (by have := HLN.out; simp only [List.length_append]; omega)).mono ?_
              rintro e w5 ⟨rfl, hO5, hI5⟩
              have HI5 := hid hI5
              have HO5 := hid (HO4.out.then hO5)
              clear hI5 hO5
              go_upto_region 15 with fail
              obtain ⟨X, hX⟩ : ∃ X, X = w5.alloc (.cells #[.int .i64 xi, .int .i64 vq, .int .i64 0, .int .i64 0] 137) := ⟨_, rfl⟩
              obtain ⟨cb, hcb⟩ : ∃ cb, cb = w5.heap.size := ⟨_, rfl⟩
              have HX := hid (show X.cell? ⟨cb, 0, none⟩ = some (.int .i64 xi) ∧ X.cell? ⟨cb, 1, none⟩ = some (.int .i64 vq) ∧ X.cell? ⟨cb, 2, none⟩ = some (.int .i64 0) ∧ X.cell? ⟨cb, 3, none⟩ = some (.int .i64 0) ∧ X.frozen? ⟨cb, 2, none⟩ = false ∧ X.frozen? ⟨cb, 3, none⟩ = false ∧ cb < X.heap.size ∧ cb ≠ ib from by
                rw [hX, hcb]
                exact ⟨by simp [go_sem], by simp [go_sem], by simp [go_sem], by simp [go_sem], by simp [go_sem], by simp [go_sem], by simp, fun e => by have := HI5.out.lt; omega⟩)
              have HIX := hid (HI5.out.grew (show Grew w5 X from by rw [hX]; exact (Grew.refl w5).alloc _))
              have HOX := hid (HO5.out.grewT (show Grew w5 X from by rw [hX]; exact (Grew.refl w5).alloc _))
              have HCB := hid (show wr.heap.size ≤ cb from by rw [hcb]; exact HO5.out.size)
              rw [← hX, ← hcb]
              clear hX hcb
              go_wp2_with fail
              refine (inNum_any vd 2 HBN.out.2.2.1 HBN.out.2.2.2.2.2.2.1 HIX.out (by have := HLN.out; simp only [List.length_append]; omega)).mono ?_
              rintro e w6 ⟨rfl, hO6, hI6⟩
              have HI6 := hid hI6
              have HO6 := hid hO6
              clear hI6 hO6
              go_wp2_with fail
              refine (inNum_any vt 4095 HBN.out.2.2.2.1 HBN.out.2.2.2.2.2.2.2 HI6.out (by have := HLN.out; omega)).mono ?_
              rintro e w7 ⟨rfl, hO7, hI7⟩
              have HI7 := hid hI7
              have hO67 := HO6.out.then hO7
              have hcl := HX.out.2.2.2.2.2.2.1
              have hcn := HX.out.2.2.2.2.2.2.2
              have z0 := (hO67.cell hcl hcn 0).trans HX.out.1
              have z1 := (hO67.cell hcl hcn 1).trans HX.out.2.1
              have z2 := (hO67.cell hcl hcn 2).trans HX.out.2.2.1
              have z3 := (hO67.cell hcl hcn 3).trans HX.out.2.2.2.1
              have y2 := (hO67.frozen hcl hcn 2).trans HX.out.2.2.2.2.1
              have y3 := (hO67.frozen hcl hcn 3).trans HX.out.2.2.2.2.2.1
              have hcl7 := Nat.lt_of_lt_of_le hcl hO67.size
              have HO7 := hid (HOX.out.then hO67)
              have HNE := hid hcn
              clear hI7 hO7 hO67 hcl hcn HX
              go_upto_region 16 with fail
              obtain ⟨Z, hZ⟩ : ∃ Z, Z = (w7.setCell ⟨cb, 2, none⟩ (.int .i64 vd)).setCell ⟨cb, 3, none⟩ (.int .i64 vt) := ⟨_, rfl⟩
              have x0 : Z.cell? ⟨cb, 0, none⟩ = some (.int .i64 xi) := by rw [hZ]; simp [go_sem, z0]
              have x1 : Z.cell? ⟨cb, 1, none⟩ = some (.int .i64 vq) := by rw [hZ]; simp [go_sem, z1]
              have x2 : Z.cell? ⟨cb, 2, none⟩ = some (.int .i64 vd) := by rw [hZ]; simp [go_sem, z2]
              have x3 : Z.cell? ⟨cb, 3, none⟩ = some (.int .i64 vt) := by rw [hZ]; simp [go_sem, z3]
              have hcZ := cell_lt x0
              have HRZ := hid (show RdL w1 Z ib nb db lo hi A K (C.take k) vp vk vc rest from by
                have hs : Only (fun j => j = cb) w7 Z := by rw [hZ]; exact (Only.setCell w7 ⟨cb, 2, none⟩ _).then (Only.setCell _ ⟨cb, 3, none⟩ _)
                have h7 := HB.out.turn HO7.out HI7.out
                have hnew : w1.heap.size ≤ cb := Nat.le_trans HB.out.d.grew.size HCB.out
                have hb := HCB.out
                have hol : ∀ b, b < wr.heap.size → b ≠ cb := fun b h => by omega
                exact ⟨h7.d.kept hs (fun j hj => by rw [hj]; exact hnew) (fun e => hol _ (cell_lt HB.out.d.c0) e) (fun b hb e => hol b (HB.out.d.p.lt b hb).2 e) (fun b hb e => hol b (HB.out.d.k.lt b hb).2 e) (fun b hb e => hol b (HB.out.d.c.lt b hb).2 e), h7.inp.kept hs (fun e => HNE.out e.symm) (fun e => hol _ HB.out.inp.lt.2 e), h7.ib0, h7.ne, h7.op, h7.ok, h7.oc⟩)
              rw [← hZ]
              clear hZ z0 z1 z2 z3 y2 y3 hcl7 HI4 HO4 HI5 HO5 HIX HOX HI6 HO6 HI7 HO7 HCB HNE HIN HB
              have cC := HRZ.out.d.c.cell
              have hdbl := cell_lt cC
              obtain ⟨Z2, hZ2⟩ : ∃ Z2, Z2 = Z.alloc (.cells #[.int .i64 xi, .int .i64 vq, .int .i64 vd, .int .i64 vt] 137) := ⟨_, rfl⟩
              have gZ : Grew Z Z2 := by rw [hZ2]; exact (Grew.refl Z).alloc _
              have hpZ : ∀ j u, (clVals ((xi : Int), ⟨(vq : Int), (vd : Int), (vt : Int)⟩))[j]? = some u → Z2.cell? ⟨Z.heap.size, j, none⟩ = some u := by
                intro j u hj
                rw [hZ2, cell_block (heap_alloc_new Z _)]
                exact hj
              obtain ⟨v3, w3, hrun, hrow, hgr, how⟩ := run_append_cl (w := Z2) (B := w1.heap.size) (v := vc) (m := (C.take k).length) (xs := C.take k) (ownsRow_grew gZ HRZ.out.d.c.row) Z.heap.size ((xi : Int), ⟨(vq : Int), (vd : Int), (vt : Int)⟩) hpZ (by have := HTL.out; omega) (by have := HRZ.out.d.grew.size; have := gZ.size; omega) 34
              have hl3 : (C.take k).length + 1 = (C.take (k + 1)).length := by rw [HNX.out, List.length_append]; rfl
              rw [hl3, ← HNX.out] at hrow
              obtain ⟨a3, c3, e5, _⟩ := clsAt_of hrow
              subst e5
              obtain ⟨hB3, q3, f3⟩ := HRZ.out.addC gZ hrow hgr how
              have hd3 := cell_lt q3
              rw [hZ2] at hrun
              have HRUN := hid hrun
              have HB3 := hid hB3
              rw [HREST.out] at HB3
              generalize (C.take (k + 1)).length = l3 at *
              clear hZ2 gZ hpZ hrun hrow hgr how hl3 hB3 HRZ
              go_wp2_with (at_builtin; refine Lib.wpList_append_run _ rfl _ _ _ _ rfl _ _ rfl rfl _ _ HRUN.out ?_)
              go_roundw
              case rel => exact ⟨k + 1, by omega, by go_num, _, HB3.out⟩
              case measure => simp [intOf]; omega
            · have hkn : k = q := by omega
              subst hkn
              have HBA := hid (show RdL w1 wr ib nb db lo hi A K C vp vk vc [] from by
                have h := HB.out
                rw [HQC.out, List.take_length, List.drop_length] at h
                exact h)
              have hz0 : ((k - k : Nat) : Int) = 0 := by omega
              rw [hz0]
              clear HB HB5 hlt hk1 hz0
              go_wp2_with fail
              refine (inEnd_any HBA.out.inp).mono ?_
              rintro e w9 ⟨rfl, hw9⟩
              have hw9 := hw9.symm
              subst hw9
              obtain ⟨xa, xc, e1, hp1⟩ := pairsAt_of HBA.out.d.p.row
              obtain ⟨ya, yc, e2, hk1⟩ := strsAt_of HBA.out.d.k.row
              obtain ⟨za, zc, e3, hc1⟩ := clsAt_of HBA.out.d.c.row
              subst e1 e2 e3
              have HDM := hid (show DlM wr xa ya za A K C from ⟨hp1, hk1, hc1⟩)
              have HDK := hid (fun (W : World) (g : Only (fun j => j = w.heap.size) wr W) => show DlM W xa ya za A K C from by
                obtain ⟨a1, b1, e1, q1⟩ := pairsAt_of (ownsRow_kept HBA.out.d.p.row g (fun b hb (e : b = w.heap.size) => by have := (HBA.out.d.p.lt b hb).1; omega))
                obtain ⟨a2, b2, e2, q2⟩ := strsAt_of (ownsRow_kept HBA.out.d.k.row g (fun b hb (e : b = w.heap.size) => by have := (HBA.out.d.k.lt b hb).1; omega))
                obtain ⟨a3, b3, e3, q3⟩ := clsAt_of (ownsRow_kept HBA.out.d.c.row g (fun b hb (e : b = w.heap.size) => by have := (HBA.out.d.c.lt b hb).1; omega))
                cases e1
                cases e2
                cases e3
                exact ⟨q1, q2, q3⟩)
              have hgw := HG1.out.trans HBA.out.d.grew
              have HRT := hid (right37_any E (HE.out.grew hgw) (cp := xc) (ck := yc) (cc := zc) HR.out HDM.out)
              have c0 := HBA.out.d.c0
              have c1 := HBA.out.d.c1
              have c2 := HBA.out.d.p.cell
              have c3 := HBA.out.d.k.cell
              have c4 := HBA.out.d.c.cell
              have hdbl := cell_lt c0
              clear hp1 hk1 hc1
              generalize hL1 : A.length = l1 at *
              generalize hL2 : K.length = l2 at *
              generalize hL3 : C.length = l3 at *
              go_wp2_with fail
              refine HRT.out.mono ?_
              rintro e u ⟨rfl, hgu⟩
              have hg := HBA.out.d.grew.trans hgu
              have c0 := (hgu.cells.1 _ 0 hdbl).trans c0
              have c1 := (hgu.cells.1 _ 1 hdbl).trans c1
              have c2 := (hgu.cells.1 _ 2 hdbl).trans c2
              have c3 := (hgu.cells.1 _ 3 hdbl).trans c3
              have c4 := (hgu.cells.1 _ 4 hdbl).trans c4
              have hdbu := Nat.lt_of_lt_of_le hdbl hgu.size
              obtain ⟨z0, r0⟩ := HRB.out.1 0 (by decide)
              obtain ⟨z1, r1⟩ := HRB.out.1 1 (by decide)
              obtain ⟨z2, r2⟩ := HRB.out.1 2 (by decide)
              obtain ⟨z3, r3⟩ := HRB.out.1 3 (by decide)
              obtain ⟨z4, r4⟩ := HRB.out.1 4 (by decide)
              have r0 := (hg.cells.1 _ 0 hz1).trans r0
              have r1 := (hg.cells.1 _ 1 hz1).trans r1
              have r2 := (hg.cells.1 _ 2 hz1).trans r2
              have r3 := (hg.cells.1 _ 3 hz1).trans r3
              have r4 := (hg.cells.1 _ 4 hz1).trans r4
              have s0 := (hg.cells.2 _ 0 hz1).trans (HRB.out.2 0)
              have s1 := (hg.cells.2 _ 1 hz1).trans (HRB.out.2 1)
              have s2 := (hg.cells.2 _ 2 hz1).trans (HRB.out.2 2)
              have s3 := (hg.cells.2 _ 3 hz1).trans (HRB.out.2 3)
              have s4 := (hg.cells.2 _ 4 hz1).trans (HRB.out.2 4)
              have hrbw := Nat.lt_of_lt_of_le hz1 hg.size
              have HGU := hid hgu
              have HGF := hid (HG1.out.trans hg)
              clear hgu hg HBA HRT
              go_wp2_with fail
              refine bodyPost_ret (v := .tuple #[.agg #[.string lo, .string hi, .slice xa l1 xc, .slice ya l2 yc, .slice za l3 zc], .nilIface]) (by simp [results, Tryz.results18, go_sem, r0, r1, r2, r3, r4, s0, s1, s2, s3, s4]) rfl ?_
              have hset : Only (fun j => j = w.heap.size) u (((((u.setCell ⟨w.heap.size, 0, none⟩ (.string lo)).setCell ⟨w.heap.size, 1, none⟩ (.string hi)).setCell ⟨w.heap.size, 2, none⟩ (.slice xa l1 xc)).setCell ⟨w.heap.size, 3, none⟩ (.slice ya l2 yc)).setCell ⟨w.heap.size, 4, none⟩ (.slice za l3 zc)) := ((((Only.setCell u ⟨w.heap.size, 0, none⟩ _).then (Only.setCell _ ⟨w.heap.size, 1, none⟩ _)).then (Only.setCell _ ⟨w.heap.size, 2, none⟩ _)).then (Only.setCell _ ⟨w.heap.size, 3, none⟩ _)).then (Only.setCell _ ⟨w.heap.size, 4, none⟩ _)
              subst hL1 hL2 hL3
              exact ⟨xa, xc, ya, yc, za, zc, rfl, HDK.out _ ((HGU.out.only _).then hset), ((HGF.out.only _).then hset).grew fun j (hj : j = w.heap.size) => by omega⟩
end Go.Proofs.YtoiahcgaffffbaaGreatDoor
