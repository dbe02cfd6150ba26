/- DelBy, Wr0: one text. -/
import Derived.Test.YtoiahcgaffffbaaGreatDoorFinDeltaBetweenQ46
import Derived.Test.YtoiahcgaffffbaaGreatDoorFinDeltaBetweenQ32
set_option linter.unusedVariables false
set_option linter.unusedSectionVars false
set_option linter.unusedSimpArgs false
namespace Go.Proofs.YtoiahcgaffffbaaGreatDoor
open Go.RowKit Go.Maps
attribute [local go_sem] Oper.semAt_some uponV
set_option maxRecDepth 100000 in
set_option maxHeartbeats 2000000 in
theorem bytesDel_any (E : Nat → Addr) {w : World} (hE : Errs stS E w) {lo hi : ByteArray} {A : List Pr} {K : List ByteArray} {C : List (Int × An)} (hR : DlR lo hi A K C) {ap ak ac : Option Addr} {cp ck cc : Nat} (hM : DlM w ap ak ac A K C) (ha : A.length ≤ 240) (hk : K.length ≤ 240) :
    Calls Tryz.prog 16 #[.agg #[.string lo, .string hi, .slice ap A.length cp, .slice ak K.length ck, .slice ac C.length cc]] w fun e w' => ∃ a c, e = .returned (.tuple #[.slice a (Pl.delB lo hi A K C).length c, .nilIface]) ∧ BytesAt w' a (Pl.delB lo hi A K C) ∧ SlForm a c ∧ Grew w w' := by
  have HLEN := hid (Pl.delB_len hR.lsz hR.hsz hR.good ha (fun k h => (hR.keys k h).1) hk hR.cls)
  have HR := hid hR
  have HM := hid hM
  have HRT := hid (fun W (g : Grew w W) => right37_any E (hE.grew g) (cp := cp) (ck := ck) (cc := cc) hR (hM.grew g))
  have HAK := hid (And.intro ha hk)
  have hls := hR.lsz
  have hhs := hR.hsz
  clear hE hR hM
  go_enter Tryz.func16, Tryz.ntmps16
  go_wp2_with fail
  obtain ⟨Y, hY⟩ : ∃ Y, Y = w.alloc (.cells #[.string lo, .string hi, .slice ap A.length cp, .slice ak K.length ck, .slice ac C.length cc] 36) := ⟨_, rfl⟩
  have gY : Grew w Y := by rw [hY]; exact (Grew.refl w).alloc _
  have HD := hid (show ∀ (i : Nat) v, [Value.string lo, .string hi, .slice ap A.length cp, .slice ak K.length ck, .slice ac C.length cc][i]? = some v → Y.cell? ⟨w.heap.size, i, none⟩ = some v from by
    intro i v hv
    rw [hY, cell_block (heap_alloc_new w _)]
    exact hv)
  have hxl : w.heap.size < Y.heap.size := by rw [hY]; simp
  have HGY := hid gY
  rw [← hY]
  obtain ⟨x, hx⟩ : ∃ x, x = w.heap.size := ⟨_, rfl⟩
  have HXN := hid (show w.heap.size ≤ x from by omega)
  rw [← hx] at HD hxl ⊢
  clear hY gY hx
  refine (HRT.out Y HGY.out).mono ?_
  rintro e w1 ⟨rfl, hg1⟩
  obtain ⟨Z, hZ⟩ : ∃ Z, Z = w1.alloc (.cells #[.slice none 0 0, .nilIface] 151) := ⟨_, rfl⟩
  have hB0 : ByD w Z [(x, [.string lo, .string hi, .slice ap A.length cp, .slice ak K.length ck, .slice ac C.length cc])] w1.heap.size [] := by
    have gZ : Grew w1 Z := by rw [hZ]; exact (Grew.refl w1).alloc _
    have hx1 := Nat.lt_of_lt_of_le hxl hg1.size
    refine ⟨(HGY.out.trans hg1).trans gZ, fun p hp i v hv => (by obtain rfl := List.mem_singleton.1 hp; exact ((hg1.trans gZ).cells.1 _ _ hxl).trans (HD.out i v hv)), fun p hp => (by obtain rfl := List.mem_singleton.1 hp; exact Nat.lt_of_lt_of_le hx1 gZ.size), fun j => j = w1.heap.size, by rw [hZ]; exact OutAt.new w1 _, fun p hp (h : p.1 = w1.heap.size) => (by obtain rfl := List.mem_singleton.1 hp; dsimp only at h; omega), fun j (hj : j = w1.heap.size) => by rw [hj]; exact (HGY.out.trans hg1).size⟩
  have HB0 := hid hB0
  have c0 := HB0.out.c _ (List.mem_singleton.2 rfl) 0 _ rfl
  have hxz := HB0.out.lt _ (List.mem_singleton.2 rfl)
  clear hB0 hg1 HD HRT
  go_upto_region 4 with fail
  rw [← hZ]
  obtain ⟨ob, hob⟩ : ∃ ob, ob = w1.heap.size := ⟨_, rfl⟩
  rw [← hob] at HB0 ⊢
  clear hZ hob
  have HC0 := hid (HB0.out.text lo (by omega) (by simp))
  go_wp2_with fail
  refine HC0.out.mono ?_
  rintro e w2 ⟨rfl, hB2⟩
  have HB2 := hid hB2
  have c1 := hB2.c _ (List.mem_singleton.2 rfl) 1 _ rfl
  have hx2 := hB2.lt _ (List.mem_singleton.2 rfl)
  have l2 := Pl.textB_len lo (by omega)
  have HC1 := hid (hB2.text hi (by omega) (by rw [List.nil_append]; omega))
  clear c0 hxz hB2 HC0 HB0
  go_wp2_with fail
  refine HC1.out.mono ?_
  rintro e w3 ⟨rfl, hB3⟩
  have l3 := Pl.textB_len hi (by omega)
  have HL12 := hid (And.intro l2 l3)
  obtain ⟨V0, hV0⟩ : ∃ V0, V0 = [(x, [Value.string lo, .string hi, .slice ap A.length cp, .slice ak K.length ck, .slice ac C.length cc])] := ⟨_, rfl⟩
  have HVC := hid (fun (W : World) (cs : List Int) (h : ByD w W V0 ob cs) => show (W.cell? ⟨x, 2, none⟩ = some (.slice ap A.length cp) ∧ W.cell? ⟨x, 3, none⟩ = some (.slice ak K.length ck) ∧ W.cell? ⟨x, 4, none⟩ = some (.slice ac C.length cc)) ∧ x < W.heap.size from by
    rw [hV0] at h
    exact ⟨⟨h.c _ (List.mem_singleton.2 rfl) 2 _ rfl, h.c _ (List.mem_singleton.2 rfl) 3 _ rfl, h.c _ (List.mem_singleton.2 rfl) 4 _ rfl⟩, h.lt _ (List.mem_singleton.2 rfl)⟩)
  rw [← hV0] at hB3
  clear hV0
  have HB3 := hid hB3
  obtain ⟨⟨c2, _, _⟩, hx3⟩ := HVC.out _ _ hB3
  have HC2 := hid (hB3.num A.length (by omega) (by simp only [List.length_append, List.length_nil]; omega))
  clear hB3 HB2 c1 hx2 HC1
  go_wp2_with fail
  refine HC2.out.mono ?_
  rintro e w4 ⟨rfl, hB4⟩
  rw [List.nil_append] at hB4
  obtain ⟨T1, hT1⟩ : ∃ T1, T1 = Pl.textB lo ++ Pl.textB hi ++ Pl.numB A.length := ⟨_, rfl⟩
  rw [← hT1] at hB4
  have HL1 := hid (show T1.length ≤ 700 from by have := Pl.numB_len 1 A.length (by omega); rw [hT1]; simp only [List.length_append]; have := HL12.out; omega)
  have HT1 := hid hT1
  have HB4 := hid (show ByD w w4 V0 ob (T1 ++ Pl.pairsB (A.take 0)) from by simpa [Pl.pairsB] using hB4)
  obtain ⟨⟨c2, _, _⟩, hx4⟩ := HVC.out _ _ hB4
  clear hB4 hT1 HC2 HB3 hx3 l2 l3
  go_wp2_with fail
  clear c2 hx4
  go_loopw [37] (fun i wr => ∃ k : Nat, k ≤ A.length ∧ i = .int .i64 k ∧ Hid (ByD w wr V0 ob (T1 ++ Pl.pairsB (A.take k)))) (fun i _ => A.length - (intOf i).toNat)
  case atStart => exact ⟨0, Nat.zero_le _, rfl, HB4.out⟩
  case round =>
    obtain ⟨k, hk1, rfl, HBk⟩ := hrel
    by_cases hlt : k < A.length
    · obtain ⟨b, off, rfl, hb, hR⟩ := pairs_fields HM.out.p k hlt
      have hB := HBk.out
      have gr := hB.grew
      have q0 := (gr.cells.1 b (off + k * 3) hb).trans (hR.key k hlt)
      have q1 := (gr.cells.1 b (off + k * 3 + 1) hb).trans (hR.val k hlt)
      have q2 := (gr.cells.1 b (off + k * 3 + 2) hb).trans (hR.ver k hlt)
      obtain ⟨v1, v2, v3, v4⟩ := good_ver HR.out.good k hlt
      have hbr := Nat.lt_of_lt_of_le hb gr.size
      have HNX := hid (show T1 ++ Pl.pairsB (A.take (k + 1)) = (T1 ++ Pl.pairsB (A.take k)) ++ Pl.pairB (prAt A k) from by rw [Pl.pairsB_snoc A k hlt, List.append_assoc])
      have HLC := hid (show (T1 ++ Pl.pairsB (A.take k)).length ≤ 200000 from by have := Pl.pairsB_takele A k; have := Pl.pairsB_len HR.out.good; have := HL1.out; rw [List.length_append]; omega)
      have HBr := hid hB
      have hk9 : k < 1000000 := by omega
      clear hR gr hB HBk
      generalize prAt A k = p at *
      obtain ⟨pk, pv, pn⟩ := p
      dsimp only at q0 q1 q2 v1 v2 v3 v4
      obtain ⟨vn, hvn⟩ : ∃ vn : Nat, vn = pn.toNat := ⟨_, rfl⟩
      rw [← hvn] at v1 v2
      subst v1
      clear hvn
      generalize T1 ++ Pl.pairsB (A.take k) = cs at *
      go_upto_region 10 with fail
      clear q0 q1 q2 hbr
      obtain ⟨U, hU⟩ : ∃ U, U = wr.alloc (.cells #[.string pk, .string pv, .int .i64 vn] 83) := ⟨_, rfl⟩
      have gU : Grew wr U := by rw [hU]; exact (Grew.refl wr).alloc _
      obtain ⟨ub, hub⟩ : ∃ ub, ub = wr.heap.size := ⟨_, rfl⟩
      have hBU := HBr.out.add gU ub [.string pk, .string pv, .int .i64 vn] (by omega) (by rw [hU, hub]; simp) (by
        intro i v hv
        rw [hU, hub, cell_block (heap_alloc_new wr _)]
        exact hv)
      rw [← hU, ← hub]
      clear hU gU hub HBr
      have u0 := hBU.c _ (List.mem_cons_self ..) 0 _ rfl
      have hul := hBU.lt _ (List.mem_cons_self ..)
      dsimp only at u0 hul
      have HX0 := hid (hBU.text pk (by omega) (by have := HLC.out; omega))
      clear hBU
      go_wp2_with fail
      refine HX0.out.mono ?_
      rintro e w5 ⟨rfl, hB5⟩
      have u1 := hB5.c _ (List.mem_cons_self ..) 1 _ rfl
      have hul5 := hB5.lt _ (List.mem_cons_self ..)
      dsimp only at u1 hul5
      have t1 := Pl.textB_len pk (by omega)
      have HX1 := hid (hB5.text pv (by omega) (by have := HLC.out; rw [List.length_append]; omega))
      have HT1' := hid t1
      clear hB5 u0 hul HX0 t1
      go_wp2_with fail
      refine HX1.out.mono ?_
      rintro e w6 ⟨rfl, hB6⟩
      have u2 := hB6.c _ (List.mem_cons_self ..) 2 _ rfl
      have hul6 := hB6.lt _ (List.mem_cons_self ..)
      dsimp only at u2 hul6
      have t2 := Pl.textB_len pv (by omega)
      have HX2 := hid (hB6.num vn (by omega) (by have := HLC.out; have := HT1'.out; rw [List.length_append, List.length_append]; omega))
      clear hB6 u1 hul5 HX1 t2
      go_wp2_with fail
      refine HX2.out.mono ?_
      rintro e w7 ⟨rfl, hB7⟩
      have HB7 := hid hB7.tail
      clear hB7 u2 hul6 HX2
      go_wp2_with fail
      go_roundw
      case rel => exact ⟨k + 1, by omega, by go_num, by
        rw [HNX.out]
        have h := HB7.out
        unfold Hid Pl.pairB
        dsimp only
        rw [show (vn : Int).toNat = vn by omega]
        simpa [List.append_assoc] using h⟩
      case measure => simp [intOf]; omega
    · have hkn : k = A.length := by omega
      subst hkn
      rw [List.take_length] at HBk
      obtain ⟨⟨_, c3, _⟩, hx5⟩ := HVC.out _ _ HBk.out
      have HLP := hid (Pl.pairsB_len HR.out.good)
      have HC3 := hid (HBk.out.num K.length (by omega) (by rw [List.length_append]; have := HL1.out; have := HLP.out; omega))
      clear hlt hk1 HB4
      go_wp2_with fail
      refine HC3.out.mono ?_
      rintro e w5 ⟨rfl, hB5⟩
      obtain ⟨T2, hT2⟩ : ∃ T2, T2 = T1 ++ Pl.pairsB A ++ Pl.numB K.length := ⟨_, rfl⟩
      rw [← hT2] at hB5
      have HL2 := hid (show T2.length ≤ 50000 from by have := Pl.numB_len 1 K.length (by omega); rw [hT2]; simp only [List.length_append]; have := HL1.out; have := HLP.out; omega)
      have HT2 := hid hT2
      have HB5 := hid (show ByD w w5 V0 ob (T2 ++ Pl.keysB (K.take 0)) from by simpa [Pl.keysB] using hB5)
      obtain ⟨⟨_, c3, _⟩, hx5⟩ := HVC.out _ _ hB5
      clear hB5 hT2 HC3 HBk
      go_wp2_with fail
      clear c3 hx5
      go_loopw [62] (fun i wr => ∃ k : Nat, k ≤ K.length ∧ i = .int .i64 k ∧ Hid (ByD w wr V0 ob (T2 ++ Pl.keysB (K.take k)))) (fun i _ => K.length - (intOf i).toNat)
      case atStart => exact ⟨0, Nat.zero_le _, rfl, HB5.out⟩
      case round =>
        obtain ⟨k, hk1, rfl, HBk⟩ := hrel
        by_cases hlt : k < K.length
        · rcases HM.out.k with h0 | ⟨b, off, rfl, hb, hR⟩
          · rw [h0] at hlt; simp at hlt
          have hB := HBk.out
          have gr := hB.grew
          have q0 := (gr.cells.1 b (off + k) hb).trans (hR k _ (List.getElem?_eq_getElem hlt))
          have hbr := Nat.lt_of_lt_of_le hb gr.size
          have hks := (HR.out.keys _ (List.getElem_mem hlt)).1
          have HNX := hid (show T2 ++ Pl.keysB (K.take (k + 1)) = (T2 ++ Pl.keysB (K.take k)) ++ Pl.textB K[k] from by rw [Pl.keysB_snoc K k hlt, List.append_assoc])
          have HX0 := hid (hB.text K[k] (by omega) (by have := Pl.keysB_takele K k; have := Pl.keysB_len (fun k h => (HR.out.keys k h).1); have := HL2.out; rw [List.length_append]; omega))
          have hk9 : k < 1000000 := by omega
          clear hR gr hB HBk
          generalize K[k] = kk at *
          go_wp2_with fail
          refine HX0.out.mono ?_
          rintro e w7 ⟨rfl, hB7⟩
          have HB7 := hid hB7
          clear hB7 q0 hbr HX0
          go_wp2_with fail
          go_roundw
          case rel => exact ⟨k + 1, by omega, by go_num, by rw [HNX.out]; exact HB7.out⟩
          case measure => simp [intOf]; omega
        · have hkn : k = K.length := by omega
          subst hkn
          rw [List.take_length] at HBk
          obtain ⟨⟨_, _, c4⟩, hx5⟩ := HVC.out _ _ HBk.out
          have HLK := hid (Pl.keysB_len (fun k h => (HR.out.keys k h).1))
          have HC4 := hid (clRow_len HR.out.cls)
          have HCN := hid (HBk.out.num C.length (by have := HC4.out; omega) (by rw [List.length_append]; have := HL2.out; have := HLK.out; omega))
          clear hlt hk1 HB5
          go_wp2_with fail
          refine HCN.out.mono ?_
          rintro e w6 ⟨rfl, hB6⟩
          obtain ⟨T3, hT3⟩ : ∃ T3, T3 = T2 ++ Pl.keysB K ++ Pl.numB C.length := ⟨_, rfl⟩
          rw [← hT3] at hB6
          have HL3 := hid (show T3.length ≤ 90000 from by have := Pl.numB_len 0 C.length (by have := HC4.out; omega); rw [hT3]; simp only [List.length_append]; have := HL2.out; have := HLK.out; omega)
          have HT3 := hid hT3
          have HB6 := hid (show ByD w w6 V0 ob (T3 ++ clsB (C.take 0)) from by simpa [clsB] using hB6)
          obtain ⟨⟨_, _, c4⟩, hx6⟩ := HVC.out _ _ hB6
          clear hB6 hT3 HCN HBk
          go_wp2_with fail
          clear c4 hx6
          go_loopw [78] (fun i wr => ∃ k : Nat, k ≤ C.length ∧ i = .int .i64 k ∧ Hid (ByD w wr V0 ob (T3 ++ clsB (C.take k)))) (fun i _ => C.length - (intOf i).toNat)
          case atStart => exact ⟨0, Nat.zero_le _, rfl, HB6.out⟩
          case round =>
            obtain ⟨k, hk1, rfl, HBk⟩ := hrel
            by_cases hlt : k < C.length
            · obtain ⟨b, off, rfl, hb, hR⟩ := clsR_of HM.out.c k hlt
              have hB := HBk.out
              have gr := hB.grew
              have q0 := (gr.cells.1 b (off + k * 4) hb).trans (hR.id k hlt)
              have q1 := (gr.cells.1 b (off + k * 4 + 1) hb).trans (hR.seq k hlt)
              have q2 := (gr.cells.1 b (off + k * 4 + 2) hb).trans (hR.code k hlt)
              have q3 := (gr.cells.1 b (off + k * 4 + 3) hb).trans (hR.at_ k hlt)
              have hbr := Nat.lt_of_lt_of_le hb gr.size
              obtain ⟨o1, o2, o3⟩ := clRow_at HR.out.cls k hlt
              obtain ⟨o4, o5, o6, o7, o8⟩ := o3
              have HNX := hid (show T3 ++ clsB (C.take (k + 1)) = (T3 ++ clsB (C.take k)) ++ clB (clAt C k) from by rw [Pl.clsB_snoc C k hlt, List.append_assoc])
              have HLC := hid (show (T3 ++ clsB (C.take k)).length ≤ 91000 from by have := Pl.clsB_takele C k; have := Pl.clsB_len HR.out.cls.ok; have := HL3.out; have := HC4.out; rw [List.length_append]; omega)
              have HBr := hid hB
              have hk9 : k < 1000000 := by have := HC4.out; omega
              clear hR gr hB HBk
              generalize clAt C k = y at *
              obtain ⟨yi, yq, yk, yt⟩ := y
              dsimp only at q0 q1 q2 q3 o1 o2 o4 o5 o6 o7 o8
              obtain ⟨n0, rfl⟩ : ∃ n : Nat, yi = (n : Int) := ⟨yi.toNat, by omega⟩
              obtain ⟨n1, rfl⟩ : ∃ n : Nat, yq = (n : Int) := ⟨yq.toNat, by omega⟩
              obtain ⟨n2, rfl⟩ : ∃ n : Nat, yk = (n : Int) := ⟨yk.toNat, by omega⟩
              obtain ⟨n3, rfl⟩ : ∃ n : Nat, yt = (n : Int) := ⟨yt.toNat, by omega⟩
              have HCB := hid (show clB ((n0 : Int), ⟨(n1 : Int), (n2 : Int), (n3 : Int)⟩) = [n0, n1, n2, n3].flatMap Pl.numB from by simp [clB])
              have HNB := hid (fun j (hj : j < 4) => show ∃ n, [n0, n1, n2, n3][j]? = some n ∧ n < 2000000000 from by
                match j, hj with
                | 0, _ => exact ⟨_, rfl, by omega⟩
                | 1, _ => exact ⟨_, rfl, by omega⟩
                | 2, _ => exact ⟨_, rfl, by omega⟩
                | 3, _ => exact ⟨_, rfl, by omega⟩)
              have HFL := hid (show ([n0, n1, n2, n3].flatMap Pl.numB).length ≤ 40 from by
                have a0 := Pl.numB_len 4 n0 (by omega)
                have a1 := Pl.numB_len 4 n1 (by omega)
                have a2 := Pl.numB_len 4 n2 (by omega)
                have a3 := Pl.numB_len 4 n3 (by omega)
                simp only [List.flatMap_cons, List.flatMap_nil, List.length_append, List.length_nil]
                omega)
              clear o1 o2 o4 o5 o6 o7 o8
              generalize T3 ++ clsB (C.take k) = cs at *
              go_upto_region 24 with fail
              clear q0 q1 q2 q3 hbr
              obtain ⟨U, hU⟩ : ∃ U, U = wr.alloc (.cells #[.int .i64 n0, .int .i64 n1, .int .i64 n2, .int .i64 n3] 137) := ⟨_, rfl⟩
              have gU : Grew wr U := by rw [hU]; exact (Grew.refl wr).alloc _
              obtain ⟨ub, hub⟩ : ∃ ub, ub = wr.heap.size := ⟨_, rfl⟩
              have u0 : U.cell? ⟨ub, 0, none⟩ = some (.int .i64 n0) := by rw [hU, hub]; simp [go_sem]
              have u1 : U.cell? ⟨ub, 1, none⟩ = some (.int .i64 n1) := by rw [hU, hub]; simp [go_sem]
              have u2 : U.cell? ⟨ub, 2, none⟩ = some (.int .i64 n2) := by rw [hU, hub]; simp [go_sem]
              have u3 : U.cell? ⟨ub, 3, none⟩ = some (.int .i64 n3) := by rw [hU, hub]; simp [go_sem]
              have hus := cell_lt u0
              have HBU := hid (HBr.out.more gU)
              rw [← hU, ← hub]
              clear hU gU hub HBr
              go_wp2_with fail
              obtain ⟨Z, hZ⟩ : ∃ Z, Z = U.alloc (.cells #[.int .i64 n0, .int .i64 n1, .int .i64 n2, .int .i64 n3] 3) := ⟨_, rfl⟩
              have gZ : Grew U Z := by rw [hZ]; exact (Grew.refl U).alloc _
              obtain ⟨nb, hnb⟩ : ∃ nb, nb = U.heap.size := ⟨_, rfl⟩
              have HBZ := hid (HBU.out.add gZ nb ([n0, n1, n2, n3].map fun n : Nat => Value.int .i64 (n : Int)) (by omega) (by rw [hZ, hnb]; simp) (by
                intro i v hv
                rw [hZ, hnb, cell_block (heap_alloc_new U _)]
                exact hv))
              rw [← hZ, ← hnb]
              clear hZ gZ hnb u0 u1 u2 u3 hus HBU
              obtain ⟨ns, hns⟩ : ∃ ns, ns = [n0, n1, n2, n3] := ⟨_, rfl⟩
              have HNL := hid (show ns.take 4 = ns from by rw [hns]; rfl)
              rw [← hns] at HCB HNB HBZ HFL
              clear hns
              go_loopw [94] (fun i wr => ∃ j : Nat, j ≤ 4 ∧ i = .int .i64 j ∧ Hid (ByD w wr ((nb, ns.map fun n : Nat => Value.int .i64 (n : Int)) :: V0) ob (cs ++ (ns.take j).flatMap Pl.numB))) (fun i _ => 4 - (intOf i).toNat)
              case atStart => exact ⟨0, by omega, rfl, by unfold Hid; simpa using HBZ.out⟩
              case round =>
                obtain ⟨j, hj, rfl, HBj⟩ := hrel
                by_cases hj4 : j < 4
                · obtain ⟨n, hn1, hn2⟩ := HNB.out j hj4
                  have u := HBj.out.c _ (List.mem_cons_self ..) j (.int .i64 n) (by dsimp only; rw [List.getElem?_map, hn1]; rfl)
                  have hul := HBj.out.lt _ (List.mem_cons_self ..)
                  dsimp only at u hul
                  have htk : (ns.take (j + 1)).flatMap Pl.numB = (ns.take j).flatMap Pl.numB ++ Pl.numB n := by
                    obtain ⟨hjl, hju⟩ := List.getElem?_eq_some_iff.1 hn1
                    rw [List.take_succ_eq_append_getElem hjl, List.flatMap_append, hju]
                    simp
                  have htl : ((ns.take j).flatMap Pl.numB).length ≤ 40 := by
                    have h := congrArg List.length (show (ns.take j).flatMap Pl.numB ++ (ns.drop j).flatMap Pl.numB = ns.flatMap Pl.numB by rw [← List.flatMap_append, List.take_append_drop])
                    rw [List.length_append] at h
                    have := HFL.out
                    omega
                  have HTK := hid (show cs ++ (ns.take (j + 1)).flatMap Pl.numB = cs ++ (ns.take j).flatMap Pl.numB ++ Pl.numB n from by rw [htk, List.append_assoc])
                  have HX := hid (HBj.out.num n (by omega) (by have := HLC.out; rw [List.length_append]; omega))
                  clear htk htl hn1 hn2 HBj
                  go_wp2_with fail
                  refine HX.out.mono ?_
                  rintro e w8 ⟨rfl, hB8⟩
                  have HB8 := hid hB8
                  clear hB8 HX u hul
                  go_wp2_with fail
                  go_roundw
                  case rel => exact ⟨j + 1, by omega, by go_num, by rw [HTK.out]; exact HB8.out⟩
                  case measure => simp [intOf]; omega
                · have hjn : j = 4 := by omega
                  subst hjn
                  rw [HNL.out, ← HCB.out, ← HNX.out] at HBj
                  have HB7 := hid HBj.out.tail
                  go_wp2_with fail
                  go_roundw
                  case rel => exact ⟨k + 1, by omega, by go_num, HB7.out⟩
                  case measure => simp [intOf]; omega
            · have hkn : k = C.length := by omega
              subst hkn
              rw [List.take_length] at HBk
              have HEQ := hid (show T3 ++ clsB C = Pl.delB lo hi A K C from by
                unfold Pl.delB Pl.tabB
                rw [HT3.out, HT2.out, HT1.out]
                simp [List.append_assoc])
              rw [HEQ.out] at HBk
              have HDN := hid (HBk.out.done HLEN.out)
              go_wp2_with fail
              refine HDN.out.mono ?_
              rintro e w9 ⟨a9, c9, rfl, hA9, hf9, _, hg9⟩
              have HF := hid (And.intro hA9 (And.intro hf9 hg9))
              clear hA9 hf9 hg9 HDN
              go_wp2_with fail
              go_ret2
              exact ⟨a9, c9, rfl, HF.out⟩
end Go.Proofs.YtoiahcgaffffbaaGreatDoor
namespace Go.Proofs.YtoiahcgaffffbaaGreatDoor
open Go.RowKit Go.Maps
attribute [local go_sem] Oper.semAt_some
set_option maxRecDepth 100000 in
set_option maxHeartbeats 4000000 in
theorem writeS_form0 (E : Nat → Addr) (e : En) (w : World) (hE : Errs stS E w) (hA : e.kind = 1 → EnAt w e) (at_ : Int) (st : Nat) (h : ¬ (e.kind = 1 ∧ Pl.rightB e = true)) :
    Calls Tryz.prog 57 #[.pointer (some ⟨st, 0, none⟩), e.agg, .int .i64 at_] w fun r w' => r = .returned (.tuple #[ansAgg 0 0, errOf E 4]) ∧ Grew w w' := by
  have hS : KeyT stS := ⟨rfl, rfl, rfl, rfl⟩
  have HR := hid (fun W (g : Grew w W) (h1 : e.kind = 1) => rightE_any hS E e W (hE.grew g) ((hA h1).grew g))
  have HW := hid (WrIn.start w st e)
  have g4 : w.cell? ⟨0, 0, none⟩ = some (.iface 388 (.pointer (some (E 4)))) := hE.cell 4 rfl
  have b4 : 0 < w.heap.size := cell_lt g4
  have HG4 := hid (fun W (g : Grew w W) => (g.cells.1 _ _ b4).trans g4)
  have HK : Hid (Pl.rightB e = false ∨ e.kind ≠ 1) := by
    unfold Hid
    cases hr : Pl.rightB e with
    | false => exact .inl rfl
    | true => exact .inr fun k => h ⟨k, hr⟩
  clear hE hA h g4 b4
  generalize Pl.rightB e = rb at *
  obtain ⟨Y, hY⟩ : ∃ Y, Y = (((w.alloc (.cells #[.pointer (some ⟨st, 0, none⟩)] 28)).alloc (.cells e.vals.toArray 66)).alloc (.cells #[.int .i64 0, .int .i64 0] 127)) := ⟨_, rfl⟩
  rw [← hY] at HW
  obtain ⟨HYE⟩ : Nonempty (Hid (Y = (((w.alloc (.cells #[.pointer (some ⟨st, 0, none⟩)] 28)).alloc (.cells e.vals.toArray 66)).alloc (.cells #[.int .i64 0, .int .i64 0] 127)))) := ⟨hY⟩
  clear hY
  unfold En.agg at *
  obtain ⟨kind, shard, other, server, client, seq, key, upto, part, parts, ops, opsA, opsC, dataA, dataL, dataC⟩ := e
  unfold En.vals at HR HYE ⊢
  dsimp only at *
  unfold ansAgg
  rw [errOf_pos E 4 (by decide)]
  by_cases k1 : kind = 1
  · subst k1
    have HB : rb = false := by rcases HK.out with h | h; exact h; exact absurd rfl h
    subst HB
    clear HK
    go_enter Tryz.func57, Tryz.ntmps57
    go_wp2_with fail
    rw [← HYE.out]
    refine (HR.out Y HW.out.grew (by trivial)).mono ?_
    rintro e w1 ⟨rfl, hg1⟩
    have HW1 := hid (HW.out.more hg1)
    have hl := HW1.out.lt
    have q0 := HG4.out w1 HW1.out.grew
    have a0 := HW1.out.a0
    have a1 := HW1.out.a1
    have f0 := HW1.out.f0
    have f1 := HW1.out.f1
    clear hg1 HW HR HG4
    go_wp2_with fail
    go_region
    go_wp2_with fail
    refine bodyPost_ret (v := .tuple #[.agg #[.int .i64 0, .int .i64 0], .iface 388 (.pointer (some (E 4)))]) (by simp [results, Tryz.results57, go_sem, a0, a1, f0, f1]) rfl ⟨rfl, ?_⟩
    refine ((HW1.out.grew.setCell ?_ _).setCell ?_ _).drew <;> (show w.heap.size ≤ w.heap.size + 2; omega)
  · clear HK HR
    go_enter Tryz.func57, Tryz.ntmps57
    have q0 := HG4.out Y HW.out.grew
    have a0 := HW.out.a0
    have a1 := HW.out.a1
    have f0 := HW.out.f0
    have f1 := HW.out.f1
    have k0 : Y.cell? ⟨w.heap.size + 1, 0, none⟩ = some (.int .i64 kind) := HW.out.ent 0 _ rfl
    have HW1 := hid HW.out
    have hl := HW.out.lt
    clear HG4 HW
    go_wp2_with fail
    rw [← HYE.out]
    go_region
    go_wp2_with fail
    refine bodyPost_ret (v := .tuple #[.agg #[.int .i64 0, .int .i64 0], .iface 388 (.pointer (some (E 4)))]) (by simp [results, Tryz.results57, go_sem, a0, a1, f0, f1]) rfl ⟨rfl, ?_⟩
    refine ((HW1.out.grew.setCell ?_ _).setCell ?_ _).drew <;> (show w.heap.size ≤ w.heap.size + 2; omega)
set_option maxRecDepth 100000 in
set_option maxHeartbeats 8000000 in
theorem write23_form0 (e : En) (w : World) (hA : e.kind = 1 → EnAt w e) (hs : ∀ o ∈ e.ops, o.key.size ≤ 16777216) (at_ : Int) (ms : Nat) (h : ¬ (e.kind = 1 ∧ Pl.rightB e = true)) :
    Calls Tryz.prog 58 #[.pointer (some ⟨ms, 0, none⟩), e.agg, .int .i64 at_] w fun r w' => r = .returned (.tuple #[ansAgg 0 0, .int .i64 4]) ∧ Grew w w' := by
  have HR := hid (fun W (g : Grew w W) (h1 : e.kind = 1) => right5_kind e W ((hA h1).grew g) (fun h3 => by omega) hs)
  have HW := hid (WrM.start w e)
  obtain ⟨Y, hY⟩ : ∃ Y, Y = (((w.alloc (.cells e.vals.toArray 66)).alloc (.cells #[.int .i64 0, .int .i64 0] 127)).alloc (.cells #[.int .i64 0, .int .i64 0] 127)) := ⟨_, rfl⟩
  rw [← hY] at HW
  have HYE := hid hY
  clear hY hA hs
  unfold En.agg at *
  obtain ⟨kind, shard, other, server, client, seq, key, upto, part, parts, ops, opsA, opsC, dataA, dataL, dataC⟩ := e
  unfold En.vals at HR HYE ⊢
  dsimp only at *
  generalize hrb : Pl.rightB ⟨kind, shard, other, server, client, seq, key, upto, part, parts, ops, opsA, opsC, dataA, dataL, dataC⟩ = rb at *
  unfold ansAgg
  by_cases hk : kind = 1
  · subst hk
    obtain rfl : rb = false := by cases rb with | false => rfl | true => exact absurd ⟨rfl, rfl⟩ h
    clear h hrb
    go_enter Tryz.func58, Tryz.ntmps58
    go_upto_region 2 with fail
    go_wp2_with fail
    rw [← HYE.out]
    refine (HR.out Y HW.out.grew (by trivial)).mono ?_
    rintro e w1 ⟨rfl, hg1⟩
    have HW1 := hid (HW.out.more hg1)
    have hl1 := HW1.out.lt
    have a0 := HW1.out.a0
    have a1 := HW1.out.a1
    have f0 := HW1.out.f0
    have f1 := HW1.out.f1
    have n0 := HW1.out.n0
    have n1 := HW1.out.n1
    clear hg1 HW HR
    go_wp2_with fail
    refine bodyPost_ret (v := .tuple #[.agg #[.int .i64 0, .int .i64 0], .int .i64 4]) (by simp [results, Tryz.results58, go_sem, a0, a1, f0, f1]) rfl ⟨rfl, ?_⟩
    exact (HW1.out.grew.setCell (show w.heap.size ≤ w.heap.size + 1 by omega) _).setCell (show w.heap.size ≤ w.heap.size + 1 by omega) _
  · have hkb : (kind == 1) = false := beq_eq_false_iff_ne.2 hk
    clear h hrb HR
    go_enter Tryz.func58, Tryz.ntmps58
    go_upto_region 2 with fail
    have HW1 := HW
    obtain ⟨_⟩ : True := trivial
    rw [← HYE.out]
    have hl1 := HW1.out.lt
    have a0 := HW1.out.a0
    have a1 := HW1.out.a1
    have f0 := HW1.out.f0
    have f1 := HW1.out.f1
    have n0 := HW1.out.n0
    have n1 := HW1.out.n1
    have c0 : Y.cell? ⟨w.heap.size, 0, none⟩ = some (.int .i64 kind) := HW1.out.ent 0 _ rfl
    clear HW
    go_wp2_with fail
    refine bodyPost_ret (v := .tuple #[.agg #[.int .i64 0, .int .i64 0], .int .i64 4]) (by simp [results, Tryz.results58, go_sem, a0, a1, f0, f1]) rfl ⟨rfl, ?_⟩
    exact (HW1.out.grew.setCell (show w.heap.size ≤ w.heap.size + 1 by omega) _).setCell (show w.heap.size ≤ w.heap.size + 1 by omega) _
theorem writeG0_any (E : Nat → Addr) (e : En) {w : World} (hE : Errs stS E w) (hA : e.kind = 1 → EnAt w e) (hz : EnSz e) (at_ : Int) {Ft Fs : Nat → Prop} {st n : Nat} {lo hi : ByteArray} {P : List Pr} {S : Int → Option An} (h : StAt w Ft Fs st n lo hi P S) (hl : lo.size ≤ 70368744177664) (hh : hi.size ≤ 70368744177664) (hx : P.length ≤ 1000) (hn : n ≤ 1000000) :
    Calls Tryz.prog 57 #[.pointer (some ⟨st, 0, none⟩), e.agg, .int .i64 at_] w fun r w' => r = .returned (.tuple #[ansAgg (Pl.writeG lo hi P S e at_).code (Pl.writeG lo hi P S e at_).at_, errOf E (Pl.writeG lo hi P S e at_).err]) ∧ ∃ m, m ≤ n + 1 ∧ Wrote w w' Ft Fs st m lo hi (Pl.writeG lo hi P S e at_).P (Pl.writeG lo hi P S e at_).S := by
  have still : ∀ {w'}, Grew w w' → ∃ m, m ≤ n + 1 ∧ Wrote w w' Ft Fs st m lo hi P S := fun {w'} g => ⟨n, by omega, g.only _, Ft, h.grew g, fun _ hj => .inl hj⟩
  unfold Pl.writeG
  by_cases h1 : e.kind = 1 ∧ Pl.rightB e = true
  · rw [if_neg (not_not_intro h1)]
    by_cases h2 : at_ < 0 ∨ 4096 ≤ at_
    · rw [if_pos h2]
      refine (writeS_range E e w hE (hA h1.1) at_ st h1.1 h1.2 h2).mono ?_
      rintro r w' ⟨hr, hg⟩
      exact ⟨hr, still hg⟩
    · rw [if_neg h2]
      by_cases h5 : (e.ops.any fun o => !Pl.hasS lo hi o.key) = true
      · rw [if_pos h5]
        refine (writeS_moved E e hE (hA h1.1) at_ h h1.1 h1.2 (by omega) (by omega) hl hh (fun o ho => (hz o ho).1) h5).mono ?_
        rintro r w' ⟨hr, hg⟩
        exact ⟨hr, still hg⟩
      · rw [if_neg h5]
        by_cases h3 : askN (S e.client) e.seq = 1
        · rw [if_pos h3]
          refine (writeS_new E e hE (hA h1.1) at_ h h1.1 h1.2 (by omega) (by omega) hl hh (fun o ho => (hz o ho).1) (Pl.any_has h5) (fun o ho => (hz o ho).2) hx hn h3).mono ?_
          rintro r w' ⟨hr, hg⟩
          exact ⟨hr, n + 1, Nat.le_refl _, hg⟩
        · rw [if_neg h3]
          refine (writeS_seen E e hE (hA h1.1) at_ h h1.1 h1.2 (by omega) (by omega) hl hh (fun o ho => (hz o ho).1) (Pl.any_has h5) h3).mono ?_
          rintro r w' ⟨hr, hg⟩
          by_cases h4 : askN (S e.client) e.seq = 2
          · rw [if_pos h4] at hr ⊢
            exact ⟨hr, still hg⟩
          · rw [if_neg h4] at hr ⊢
            exact ⟨hr, still hg⟩
  · rw [if_pos h1]
    refine (writeS_form0 E e w hE hA at_ st h1).mono ?_
    rintro r w' ⟨hr, hg⟩
    exact ⟨hr, still hg⟩
theorem write23_any0 (e : En) {w : World} (hA : e.kind = 1 → EnAt w e) (hs : ∀ o ∈ e.ops, o.key.size ≤ 16777216) (hsv : ∀ o ∈ e.ops, o.val.size ≤ 140737488351232) (at_ : Int) {G : Nat → Prop} {ms sb : Nat} {lo hi : ByteArray} {D P : List Pr} {S : Int → Option An} (h : MsAt w G ms sb lo hi D S) (hTT : Pl.Tt P D) (hl : lo.size ≤ 16777216) (hh : hi.size ≤ 16777216) (hx : D.length ≤ 1000) :
    Calls Tryz.prog 58 #[.pointer (some ⟨ms, 0, none⟩), e.agg, .int .i64 at_] w fun r w' => r = .returned (.tuple #[ansAgg (Pl.writeG lo hi P S e at_).code (Pl.writeG lo hi P S e at_).at_, .int .i64 ((Pl.writeG lo hi P S e at_).err : Nat)]) ∧ ∃ D', MsTurn w G ms sb lo hi D' (Pl.writeG lo hi P S e at_).S w' ∧ Pl.Tt (Pl.writeG lo hi P S e at_).P D' := by
  by_cases h1 : e.kind = 1 ∧ Pl.rightB e = true
  · by_cases h2 : at_ < 0 ∨ 4096 ≤ at_
    · have e1 : Pl.writeG lo hi P S e at_ = ⟨0, 0, 1, P, S⟩ := by unfold Pl.writeG; rw [if_neg (not_not_intro h1), if_pos h2]
      rw [e1]
      refine (write23_range e w (hA h1.1) hs at_ ms h1.1 h1.2 h2).mono ?_
      rintro r w' ⟨hr, hg⟩
      exact ⟨hr, D, MsTurn.of_grew h hg, hTT⟩
    · have e1 : (Pl.writeG lo hi P S e at_).err = 0 := by
        unfold Pl.writeG; rw [if_neg (not_not_intro h1), if_neg h2]
        split
        · rfl
        · split
          · rfl
          · split <;> rfl
      rw [e1]
      exact write23_in e (hA h1.1) hs hsv at_ h hTT h1.1 h1.2 (by omega) (by omega) hl hh hx
  · have e1 : Pl.writeG lo hi P S e at_ = ⟨0, 0, 4, P, S⟩ := by unfold Pl.writeG; rw [if_pos h1]
    rw [e1]
    refine (write23_form0 e w hA hs at_ ms h1).mono ?_
    rintro r w' ⟨hr, hg⟩
    exact ⟨hr, D, MsTurn.of_grew h hg, hTT⟩
end Go.Proofs.YtoiahcgaffffbaaGreatDoor
