/- The walk of tidewaterref37.Between. -/
import Derived.Test.YtoiahcgaffffbaaGreatDoorFinDeltaBetweenQ39
import Derived.Test.YtoiahcgaffffbaaGreatDoorFinDeltaBetweenQ40
set_option linter.unusedVariables false
set_option linter.unusedSectionVars false
set_option linter.unusedSimpArgs false
namespace Go.Proofs.YtoiahcgaffffbaaGreatDoor
open Go.RowKit Go.Maps
attribute [local go_sem] Oper.semAt_some uponV
def RC37 (x : Int × An) (i : Nat) (v : Value) (u : World) : Prop := i = 22 → ∃ vb, v = .slice (some ⟨vb, 0, none⟩) 1 1 ∧ u.heap[vb]? = some (.cells (clVals x).toArray 147 (0, 0))
theorem RC37.mono (x : Int × An) : MonoQ (RC37 x) := fun i v u u' h g e => by
  obtain ⟨vb, h1, h2⟩ := h e
  exact ⟨vb, h1, (g.below.block vb (Array.getElem?_eq_some_iff.1 h2).1).trans h2⟩
theorem ownsRow_up {W : World} {B C : Nat} {e : TypeId} {k n : Nat} {v : Value} {xs : List Value} (h : W.ownsRow B e k v n xs) (hc : ∀ g, v.ownBlock = some g → C ≤ g) : W.ownsRow C e k v n xs :=
  ⟨h.1, h.2.elim .inl fun ⟨g, cap, cur, e1, h1, r⟩ => .inr ⟨g, cap, cur, e1, hc g (by rw [e1]; rfl), r⟩⟩
theorem sortedT_any {w : World} {tb : Nat} {P D : List Pr} (h : MTab w tb D) (hT : Pl.Tt P D) (hx : P.length ≤ 1000) :
    Calls Tryz.prog 62 #[.pointer (some ⟨tb, 0, none⟩)] w fun e w' => (∃ v, e = .returned v ∧ w'.ownsRow w.heap.size 83 3 v P.length (prFlat P)) ∧ Grew w w' := by
  have hl := hT.len
  refine (sorted21_any h (by omega) hT.key hT.ap).mono ?_
  rintro e w' ⟨⟨v, zs, rfl, hp, hs, hr⟩, hg⟩
  obtain rfl := hT.sorted hp hs
  exact ⟨⟨v, rfl, hr⟩, hg⟩
set_option maxRecDepth 100000 in
set_option maxHeartbeats 8000000 in
theorem between37_any {w : World} {Ga Gb : Nat → Prop} {sa ya sb yb : Nat} {loa hia lob hib : ByteArray} {P Q DA DB : List Pr} {SA SB : Int → Option An} (ha : MsAt w Ga sa ya loa hia DA SA) (hb : MsAt w Gb sb yb lob hib DB SB)
    (hTa : Pl.Tt P DA) (hTb : Pl.Tt Q DB) (hxa : P.length ≤ 1000) (hxb : Q.length ≤ 1000) (hgP : Pl.Good P) (hgQ : Pl.Good Q) :
    Calls Tryz.prog 13 #[.pointer (some ⟨sa, 0, none⟩), .pointer (some ⟨sb, 0, none⟩)] w fun e w' => ∃ vp vk vc, e = .returned (.agg #[.string lob, .string hib, vp, vk, vc]) ∧ w'.ownsRow w.heap.size 83 3 vp (Pl.pairsD P Q).length (prFlat (Pl.pairsD P Q)) ∧ w'.ownsRow w.heap.size 9 1 vk (Pl.keysD P Q).length (strFlat (Pl.keysD P Q)) ∧ w'.ownsRow w.heap.size 147 4 vc (clients SB).length (clFlat (clients SB)) ∧ Grew w w' := by
  obtain ⟨ta, hA⟩ := ha
  obtain ⟨tb, hB⟩ := hb
  have hla := hTa.len
  have hlb := hTb.len
  have HALB := hid (fun W (g : Grew w W) => sortedT_any ((hB.tab.read).grew g) hTb hxb)
  have HALA := hid (fun W (g : Grew w W) => sortedT_any ((hA.tab.read).grew g) hTa hxa)
  have HSN := hid (fun W (g : Grew w W) => hB.seen.grew g)
  have HGA := hid (fun W (g : Grew w W) (k : ByteArray) => get21_any ((hA.tab.read).grew g) (by omega) k)
  have HGB := hid (fun W (g : Grew w W) (k : ByteArray) => get21_any ((hB.tab.read).grew g) (by omega) k)
  have HGA := hid (fun W g k => by have := HGA.out W g k; rwa [← hTa.get] at this)
  have HGB := hid (fun W g k => by have := HGB.out W g k; rwa [← hTb.get] at this)
  have HKS := hid (And.intro (Pl.key_sizes hgP) (Pl.key_sizes hgQ))
  have HCL := hid hB.seen.ok
  have ca := hA.c2
  have cb := hB.c2
  have cb3 := hB.c3
  have cb0 := hB.c0
  have cb1 := hB.c1
  have hsa := cell_lt ca
  have hsb := cell_lt cb
  have HYB := hid hB.seen.lt
  clear hA hB hTa hTb hla hlb hgP hgQ
  go_enter Tryz.func13, Tryz.ntmps13
  go_upto_region 1 with fail
  obtain ⟨w1, hw1⟩ : ∃ w1, w1 = w.alloc (.cells #[.string ⟨#[]⟩, .string ⟨#[]⟩, .slice none 0 0, .slice none 0 0, .slice none 0 0] 40) := ⟨_, rfl⟩
  have HG1 := hid (show Grew w w1 from by rw [hw1]; exact (Grew.refl w).alloc _)
  have hz1 : w.heap.size < w1.heap.size := by rw [hw1]; simp
  have HRB := hid (show (∀ j, j < 5 → ∃ u, w1.cell? ⟨w.heap.size, j, none⟩ = some u) ∧ (∀ j, w1.frozen? ⟨w.heap.size, j, none⟩ = false) from ⟨fun j hj => by
    rw [hw1]
    obtain rfl | rfl | rfl | rfl | rfl : j = 0 ∨ j = 1 ∨ j = 2 ∨ j = 3 ∨ j = 4 := by omega
    all_goals exact ⟨_, by simp [go_sem]; rfl⟩, fun j => by rw [hw1]; simp [go_sem]⟩)
  rw [← hw1]
  clear hw1
  have k0 := (HG1.out.cells.1 _ 0 hsb).trans cb0
  have k1 := (HG1.out.cells.1 _ 1 hsb).trans cb1
  have hsb1 := Nat.lt_of_lt_of_le hsb HG1.out.size
  go_upto_region 2 with fail
  clear k0 k1 hsb1
  obtain ⟨V, hV⟩ : ∃ V, V = w1.alloc (.cells #[.string lob, .string hib, .slice none 0 0, .slice none 0 0, .slice none 0 0] 40) := ⟨_, rfl⟩
  obtain ⟨db, hdb⟩ : ∃ db, db = w1.heap.size := ⟨_, rfl⟩
  have HB0 := hid (show BtD w1 V 147 db lob hib [] [] [] (.slice none 0 0) (.slice none 0 0) (.slice none 0 0) from by
    rw [hV, hdb]
    exact ⟨(Grew.refl w1).alloc _, Nat.le_refl _, by simp [go_sem], by simp [go_sem], ⟨by simp [go_sem], by simp [go_sem], World.ownsRow_nil _ _ _ _, (fun g h => by cases h)⟩, ⟨by simp [go_sem], by simp [go_sem], World.ownsRow_nil _ _ _ _, (fun g h => by cases h)⟩, ⟨by simp [go_sem], by simp [go_sem], World.ownsRow_nil _ _ _ _, (fun g h => by cases h)⟩, (fun g h => by cases h), (fun g h => by cases h), (fun g h => by cases h)⟩)
  rw [← hV, ← hdb]
  clear hV hdb
  have k2 := ((HG1.out.trans HB0.out.grew).cells.1 _ 2 hsb).trans cb
  have hsb1 := Nat.lt_of_lt_of_le hsb (HG1.out.trans HB0.out.grew).size
  go_wp2_with fail
  clear k2 hsb1
  refine (HALB.out V (HG1.out.trans HB0.out.grew)).mono ?_
  rintro e w2 ⟨⟨v2, rfl, hr2⟩, hg2⟩
  obtain ⟨a2, cap2, rfl, hp2, _, hb2⟩ := pairsAt_base hr2
  have HP2 := hid hp2
  have HBS := hid hb2
  have HDV := hid (show db < V.heap.size from cell_lt HB0.out.c0)
  have HB2 := hid (HB0.out.more hg2)
  clear hr2 hp2 hb2 hg2 HB0 HALB
  go_wp2_with fail
  go_loopw [26] (fun i wr => ∃ k : Nat, k ≤ Q.length ∧ i = .int .i64 k ∧ Hid (∃ vp, BtD w1 wr 147 db lob hib ((Q.take k).filter (Pl.newB P)) [] [] vp (.slice none 0 0) (.slice none 0 0) ∧ Only (fun j => j = db) w2 wr ∧ ∀ g, vp.ownBlock = some g → w2.heap.size ≤ g)) (fun i _ => Q.length - (intOf i).toNat)
  case atStart => exact ⟨0, Nat.zero_le _, rfl, _, HB2.out, Only.refl _ _, (fun g h => by cases h)⟩
  case round =>
    obtain ⟨k, hk1, rfl, HBk⟩ := hrel
    by_cases hlt : k < Q.length
    · rcases HP2.out with h0 | ⟨b, off, rfl, hb, hR⟩
      · rw [h0] at hlt; simp at hlt
      have hbd : ¬ b = db := fun e => by have := HBS.out b off (by omega) rfl; have := HDV.out; omega
      obtain ⟨vp, hBk, hO, how⟩ := HBk.out
      have q0 := (hO.cell hb hbd (off + k * 3)).trans (hR.key k hlt)
      have q1 := (hO.cell hb hbd (off + k * 3 + 1)).trans (hR.val k hlt)
      have q2 := (hO.cell hb hbd (off + k * 3 + 2)).trans (hR.ver k hlt)
      have hbr := Nat.lt_of_lt_of_le hb hO.size
      have hmem := Pl.prAt_mem Q k hlt
      have HKZ := hid ((HKS.out.2 _ hmem).1)
      have HSN := hid (Pl.filter_snoc (Pl.newB P) Q k hlt)
      rw [← prAt_eq Q k hlt] at HSN
      have hk9 : k < 1000000 := by omega
      have HOk := hid (And.intro hO how)
      clear hR hmem hO how hbd
      generalize prAt Q k = c at *
      obtain ⟨ck, cv, cn⟩ := c
      dsimp only at *
      go_upto_region 5 with fail
      obtain ⟨X, hX⟩ : ∃ X, X = wr.alloc (.cells #[.string ck, .string cv, .int .i64 cn] 83) := ⟨_, rfl⟩
      have gX : Grew wr X := by rw [hX]; exact (Grew.refl wr).alloc _
      have x0 : X.cell? ⟨wr.heap.size, 0, none⟩ = some (.string ck) := by rw [hX]; simp [go_sem]
      have x1 : X.cell? ⟨wr.heap.size, 1, none⟩ = some (.string cv) := by rw [hX]; simp [go_sem]
      have x2 : X.cell? ⟨wr.heap.size, 2, none⟩ = some (.int .i64 cn) := by rw [hX]; simp [go_sem]
      have hxs : wr.heap.size < X.heap.size := by rw [hX]; simp
      have HBX := hid (hBk.more gX)
      have HOX := hid (HOk.out.1.grewT gX)
      have HXW := hid (HG1.out.trans HBX.out.grew)
      have HGET := hid (fun W (g : Grew X W) => HGA.out W (HXW.out.trans g) ck)
      rw [← hX]
      obtain ⟨kb, hkb⟩ : ∃ kb, kb = wr.heap.size := ⟨_, rfl⟩
      rw [← hkb] at x0 x1 x2 hxs ⊢
      have C0 := wd_cell ((HXW.out.cells.1 _ 2 hsa).trans ca)
      have C1 := wd_cell x0
      have hsaX := Nat.lt_of_lt_of_le hsa HXW.out.size
      clear hX gX hkb hBk HBk q0 q1 q2
      have HNB : Hid (Pl.newB P ⟨ck, cv, cn⟩ = match Pl.getT P ck with | none => true | some q => !(decide (q.key = ck) && decide (q.val = cv) && decide (q.ver = cn))) := rfl
      generalize Pl.newB P ⟨ck, cv, cn⟩ = nb' at *
      rw [pair_of_get] at HGET
      have HOP : Hid (Pl.getT P ck = none ∧ (Pl.getT P ck).isSome = false ∨ ∃ q, Pl.getT P ck = some q ∧ (Pl.getT P ck).isSome = true ∧ (Pl.getT P ck).getD Pr.none = q) := by
        unfold Hid
        cases Pl.getT P ck with
        | none => exact .inl ⟨rfl, rfl⟩
        | some q => exact .inr ⟨q, rfl, rfl, rfl⟩
      generalize (Pl.getT P ck).isSome = th at *
      generalize (Pl.getT P ck).getD Pr.none = o at *
      obtain ⟨ok, ov, on⟩ := o
      dsimp only at *
      refine wp_region_mixS 12 [10, 11] (Grew X) Grew (JV [⟨10, 11, [.string ok, .string ov, .int .i64 on]⟩] X) (fun f a => a.put (some 8) (f 10)) (by kernel_rfl) (by kernel_rfl) (fun _ _ => rfl) (JV.start _ X _) (fun _ _ _ h => h.grew) Grew.refl (fun _ _ _ _ h g => h.more g) ?_
      repeat (first
    | (refine mixS_loose (by rfl) (by rfl) ?_)
    | (refine mixS_plain (by rfl) (by rfl) (by rfl) (by first | exact Grew.refl | exact fun _ => rfl) (by rfl) ?_; intro K hK; go_big_quiet_op; go_big_quiet_on)
    | (refine mixS_call (by rfl) (by rfl) (by rfl) (by rfl) (fun _ => by kernel_rfl) (fun u hu => HGET.out u hu) ?_; simp only [Act.put, List.setIfInBounds_toArray, List.set_cons_zero, List.set_cons_succ])
    | (refine mixS_skip (by rfl) (by rfl) (by rfl) ?_; simp only [Act.put, List.setIfInBounds_toArray, List.set_cons_zero, List.set_cons_succ]))
      refine mixS_done (by rfl) ⟨⟨loose_of rfl (fun _ a => a) (fun _ _ => rfl) (fun _ => rfl) ?_, loose_of rfl (fun f a => a.put (some 8) (f 10)) (fun _ _ => rfl) (fun _ => rfl) ?_, trivial⟩, ?_⟩
      · intro L f u hJ hL hd
        clear HGET C0 C1
        go_simp
        exact hJ.alloc (by rfl) (V := ⟨10, 11, [.string ok, .string ov, .int .i64 on]⟩) (by simp) hL [.string ⟨#[]⟩, .string ⟨#[]⟩, .int .i64 0] rfl _
      · intro L f u hJ hL hd
        clear HGET C0 C1
        obtain ⟨m, x, y, z, hm, k0, k1, k2, f0, f1, f2⟩ := hJ.three (V := ⟨10, 11, [.string ok, .string ov, .int .i64 on]⟩) (by simp) (hd 10 rfl (by decide)) rfl
        dsimp only at hm
        rw [hm]
        go_simp
        exact hJ.store (by rfl) (V := ⟨10, 11, [.string ok, .string ov, .int .i64 on]⟩) (by simp) (hd 10 rfl (by decide)) hm
      intro f u hJ
      obtain ⟨m8, q8, n8, l8, hc8⟩ := hJ.full (V := ⟨10, 11, [.string ok, .string ov, .int .i64 on]⟩) (by simp) rfl
      dsimp only at q8
      have o0 := (hc8 0 _ rfl).1
      have o1 := (hc8 1 _ rfl).1
      have o2 := (hc8 2 _ rfl).1
      have x0 := (hJ.grew.cells.1 _ 0 hxs).trans x0
      have x1 := (hJ.grew.cells.1 _ 1 hxs).trans x1
      have x2 := (hJ.grew.cells.1 _ 2 hxs).trans x2
      have hxu := Nat.lt_of_lt_of_le hxs hJ.grew.size
      have HBu := hid (HBX.out.more hJ.grew)
      have HOu := hid (HOX.out.grewT hJ.grew)
      clear hJ hc8 n8 HGET C0 C1 HBX HOX HXW hxs hsaX
      dsimp only [List.drop]
      simp only [Act.put, List.setIfInBounds_toArray, List.set_cons_succ, List.set_cons_zero]
      rw [q8]
      clear q8
      go_upto_region 6 with fail
      go_cut [46] (fun s wx => s = .bool nb' ∧ wx = u)
      case first =>
        rcases HOP.out with ⟨g1, rfl⟩ | ⟨q, g1, rfl, rfl⟩
        · obtain rfl : nb' = true := by have := HNB.out; rw [g1] at this; exact this
          clear HOP HNB g1
          go_wp2_with fail
          go_meet
          exact ⟨rfl, rfl⟩
        · have hnb : nb' = !(decide (ok = ck) && decide (ov = cv) && decide (on = cn)) := by have := HNB.out; rw [g1] at this; exact this
          have t1 : decide (ok = ck) = decide (ok.toList = ck.toList) := decide_eq_decide.2 ⟨fun e => by rw [e], toList_inj21⟩
          have t2 : decide (ov = cv) = decide (ov.toList = cv.toList) := decide_eq_decide.2 ⟨fun e => by rw [e], toList_inj21⟩
          rw [t1, t2] at hnb
          have HNB2 := hid hnb
          clear HOP HNB g1 hnb t1 t2
          go_wp2_with fail
          all_goals (go_meet; refine ⟨?_, rfl⟩)
          all_goals (rw [HNB2.out]; simp [*])
      case rest =>
        obtain ⟨rfl, hwc⟩ := hcut
        have hwc := hwc.symm
        subst hwc
        clear HOP HNB o0 o1 o2 l8
        cases nb' with
        | true =>
          have HBK := hid HBu.out.p
          have cP := HBu.out.p.cell
          have hdbu := cell_lt cP
          go_upto_region 7 with fail
          obtain ⟨a', cap', e'⟩ : ∃ a' cap', vp = .slice a' ((Q.take k).filter (Pl.newB P)).length cap' := by
            obtain ⟨a', cap', h, _⟩ := pairsAt_of HBu.out.p.row
            exact ⟨a', cap', h⟩
          have HLN : Hid (((Q.take k).filter (Pl.newB P)).length ≤ 1000000) := by
            have := List.length_filter_le (Pl.newB P) (Q.take k)
            rw [List.length_take] at this
            unfold Hid; omega
          subst e'
          obtain ⟨Z, hZ⟩ : ∃ Z, Z = u.alloc (.cells #[.string ck, .string cv, .int .i64 cn] 83) := ⟨_, rfl⟩
          have gZ : Grew u Z := by rw [hZ]; exact (Grew.refl u).alloc _
          have hpZ : PairsAt Z (some ⟨u.heap.size, 0, none⟩) [⟨ck, cv, cn⟩] := by rw [hZ]; exact pairs_one (p := ⟨ck, cv, cn⟩) (heap_alloc_new u _)
          obtain ⟨a3, c3, w3, hrun, hrow, hgr, how⟩ := run_append_pairs (w := Z) (B := w1.heap.size) (ownsRow_grew gZ HBu.out.p.row) (ao := some ⟨u.heap.size, 0, none⟩) (n := 1) (cap := 1) (xs := [⟨ck, cv, cn⟩]) rfl hpZ (.inr ⟨_, _, rfl⟩) (by have := HLN.out; omega) (by have := HBu.out.grew.size; have := gZ.size; omega) 32
          have e3 := HSN.out
          rw [if_pos rfl] at e3
          have hl3 : ((Q.take k).filter (Pl.newB P)).length + 1 = ((Q.take (k + 1)).filter (Pl.newB P)).length := by rw [e3, List.length_append]; rfl
          rw [hl3, ← e3] at hrow
          rw [hl3] at how
          obtain ⟨hB3, q3, f3⟩ := HBu.out.addP gZ hrow hgr how
          rw [hl3] at hrun
          rw [hZ] at hrun
          have HRUN := hid hrun
          have HB3 := hid hB3
          have HO3 := hid ((HOu.out.trans ((gZ.only _).then (Only.of_grownBy hgr)) (fun j hj => .inr (HOk.out.2 j hj.symm))).then (Only.setCell w3 ⟨db, 2, none⟩ (.slice a3 ((Q.take (k + 1)).filter (Pl.newB P)).length c3)))
          have HW3 := hid (show ∀ g, Value.ownBlock (.slice a3 ((Q.take (k + 1)).filter (Pl.newB P)).length c3) = some g → w2.heap.size ≤ g from fun g hg => by
            rcases how g hg with q | q
            · exact HOk.out.2 g q
            · have := HOu.out.size; have := gZ.size; omega)
          generalize ((Q.take (k + 1)).filter (Pl.newB P)).length = l3 at *
          clear hZ gZ hpZ hrun hrow hgr how e3 hl3 hB3 HLN
          go_wp2_with (at_builtin; refine Lib.wpList_append_run _ rfl _ _ _ _ rfl _ _ rfl rfl _ _ HRUN.out ?_)
          go_roundw
          case rel =>
            exact ⟨k + 1, by omega, by go_num, _, HB3.out, HO3.out, HW3.out⟩
          case measure => simp [intOf]; omega
        | false =>
          go_wp2_with fail
          go_roundw
          case rel =>
            refine ⟨k + 1, by omega, by go_num, vp, ?_, HOu.out, HOk.out.2⟩
            have e := HSN.out
            rw [if_neg (by decide), List.append_nil] at e
            rw [e]; exact HBu.out
          case measure => simp [intOf]; omega
    · have hkn : k = Q.length := by omega
      subst hkn
      obtain ⟨vp, hBk, _, _⟩ := HBk.out
      rw [List.take_length] at hBk
      obtain ⟨wA, rfl⟩ : ∃ x : World, x = wr := ⟨_, rfl⟩
      have HBA := hid (show BtD w1 wA 147 db lob hib (Pl.pairsD P Q) [] [] vp (.slice none 0 0) (.slice none 0 0) from hBk)
      clear hBk HBk HB2 HP2 HBS HDV HGA hlt hk1
      have ca4 := ((HG1.out.trans HBA.out.grew).cells.1 _ 2 hsa).trans ca
      have hsa4 := Nat.lt_of_lt_of_le hsa (HG1.out.trans HBA.out.grew).size
      go_wp2_with fail
      clear ca4 hsa4
      refine (HALA.out wA (HG1.out.trans HBA.out.grew)).mono ?_
      rintro e w4 ⟨⟨v4, rfl, hr4⟩, hg4⟩
      obtain ⟨a4, cap4, rfl, hp4, _, hb4⟩ := pairsAt_base hr4
      have HP4 := hid hp4
      have HBS := hid hb4
      have HDV := hid (show db < wA.heap.size from cell_lt HBA.out.c0)
      have HB4 := hid (HBA.out.more hg4)
      clear hr4 hp4 hb4 hg4 HBA HALA
      go_wp2_with fail
      go_loopw [60] (fun i wr => ∃ k : Nat, k ≤ P.length ∧ i = .int .i64 k ∧ Hid (∃ vk, BtD w1 wr 147 db lob hib (Pl.pairsD P Q) (((P.take k).filter (Pl.goneB Q)).map Pr.key) [] vp vk (.slice none 0 0) ∧ Only (fun j => j = db) w4 wr ∧ ∀ g, vk.ownBlock = some g → w4.heap.size ≤ g)) (fun i _ => P.length - (intOf i).toNat)
      case atStart => exact ⟨0, Nat.zero_le _, rfl, _, HB4.out, Only.refl _ _, (fun g h => by cases h)⟩
      case round =>
        obtain ⟨k, hk1, rfl, HBk⟩ := hrel
        by_cases hlt : k < P.length
        · rcases HP4.out with h0 | ⟨b, off, rfl, hb, hR⟩
          · rw [h0] at hlt; simp at hlt
          have hbd : ¬ b = db := fun e => by have := HBS.out b off (by omega) rfl; have := HDV.out; omega
          obtain ⟨vk, hBk, hO, how⟩ := HBk.out
          have q0 := (hO.cell hb hbd (off + k * 3)).trans (hR.key k hlt)
          have q1 := (hO.cell hb hbd (off + k * 3 + 1)).trans (hR.val k hlt)
          have q2 := (hO.cell hb hbd (off + k * 3 + 2)).trans (hR.ver k hlt)
          have hbr := Nat.lt_of_lt_of_le hb hO.size
          have hmem := Pl.prAt_mem P k hlt
          have HKZ := hid ((HKS.out.1 _ hmem).1)
          have HSN := hid (Pl.filter_snoc (Pl.goneB Q) P k hlt)
          rw [← prAt_eq P k hlt] at HSN
          have hk9 : k < 1000000 := by omega
          have HOk := hid (And.intro hO how)
          have HLN : Hid (((P.take k).filter (Pl.goneB Q)).length ≤ 1000000) := by
            have := List.length_filter_le (Pl.goneB Q) (P.take k)
            rw [List.length_take] at this
            unfold Hid; omega
          clear hR hmem hO how hbd
          generalize prAt P k = c at *
          obtain ⟨ck, cv, cn⟩ := c
          dsimp only at *
          go_upto_region 12 with fail
          obtain ⟨X, hX⟩ : ∃ X, X = wr.alloc (.cells #[.string ck, .string cv, .int .i64 cn] 83) := ⟨_, rfl⟩
          have gX : Grew wr X := by rw [hX]; exact (Grew.refl wr).alloc _
          have x0 : X.cell? ⟨wr.heap.size, 0, none⟩ = some (.string ck) := by rw [hX]; simp [go_sem]
          have hxs : wr.heap.size < X.heap.size := by rw [hX]; simp
          have HBX := hid (hBk.more gX)
          have HOX := hid (HOk.out.1.grewT gX)
          have HXW := hid (HG1.out.trans HBX.out.grew)
          have HGET := hid (fun W (g : Grew X W) => HGB.out W (HXW.out.trans g) ck)
          rw [← hX]
          obtain ⟨kb, hkb⟩ : ∃ kb, kb = wr.heap.size := ⟨_, rfl⟩
          rw [← hkb] at x0 hxs ⊢
          have C0 := wd_cell ((HXW.out.cells.1 _ 2 hsb).trans cb)
          have C1 := wd_cell x0
          have hsbX := Nat.lt_of_lt_of_le hsb HXW.out.size
          clear hX gX hkb hBk HBk q0 q1 q2
          have HNB : Hid (Pl.goneB Q ⟨ck, cv, cn⟩ = !(Pl.getT Q ck).isSome) := rfl
          generalize Pl.goneB Q ⟨ck, cv, cn⟩ = nb' at *
          rw [pair_of_get] at HGET
          generalize (Pl.getT Q ck).isSome = th at *
          generalize (Pl.getT Q ck).getD Pr.none = o at *
          obtain ⟨ok, ov, on⟩ := o
          dsimp only at *
          refine wp_region_mixS 12 [10, 11] (Grew X) Grew (JV [⟨10, 11, [.string ok, .string ov, .int .i64 on]⟩] X) (fun f a => a.put (some 12) (f 10)) (by kernel_rfl) (by kernel_rfl) (fun _ _ => rfl) (JV.start _ X _) (fun _ _ _ h => h.grew) Grew.refl (fun _ _ _ _ h g => h.more g) ?_
          repeat (first
    | (refine mixS_loose (by rfl) (by rfl) ?_)
    | (refine mixS_plain (by rfl) (by rfl) (by rfl) (by first | exact Grew.refl | exact fun _ => rfl) (by rfl) ?_; intro K hK; go_big_quiet_op; go_big_quiet_on)
    | (refine mixS_call (by rfl) (by rfl) (by rfl) (by rfl) (fun _ => by kernel_rfl) (fun u hu => HGET.out u hu) ?_; simp only [Act.put, List.setIfInBounds_toArray, List.set_cons_zero, List.set_cons_succ])
    | (refine mixS_skip (by rfl) (by rfl) (by rfl) ?_; simp only [Act.put, List.setIfInBounds_toArray, List.set_cons_zero, List.set_cons_succ]))
          refine mixS_done (by rfl) ⟨⟨loose_of rfl (fun _ a => a) (fun _ _ => rfl) (fun _ => rfl) ?_, loose_of rfl (fun f a => a.put (some 12) (f 10)) (fun _ _ => rfl) (fun _ => rfl) ?_, trivial⟩, ?_⟩
          · intro L f u hJ hL hd
            clear HGET C0 C1
            go_simp
            exact hJ.alloc (by rfl) (V := ⟨10, 11, [.string ok, .string ov, .int .i64 on]⟩) (by simp) hL [.string ⟨#[]⟩, .string ⟨#[]⟩, .int .i64 0] rfl _
          · intro L f u hJ hL hd
            clear HGET C0 C1
            obtain ⟨m, x, y, z, hm, k0, k1, k2, f0, f1, f2⟩ := hJ.three (V := ⟨10, 11, [.string ok, .string ov, .int .i64 on]⟩) (by simp) (hd 10 rfl (by decide)) rfl
            dsimp only at hm
            rw [hm]
            go_simp
            exact hJ.store (by rfl) (V := ⟨10, 11, [.string ok, .string ov, .int .i64 on]⟩) (by simp) (hd 10 rfl (by decide)) hm
          intro f u hJ
          obtain ⟨m8, q8, n8, l8, hc8⟩ := hJ.full (V := ⟨10, 11, [.string ok, .string ov, .int .i64 on]⟩) (by simp) rfl
          dsimp only at q8
          have x0 := (hJ.grew.cells.1 _ 0 hxs).trans x0
          have hxu := Nat.lt_of_lt_of_le hxs hJ.grew.size
          have HBu := hid (HBX.out.more hJ.grew)
          have HOu := hid (HOX.out.grewT hJ.grew)
          clear hJ hc8 n8 HGET C0 C1 HBX HOX HXW hxs hsbX l8
          dsimp only [List.drop]
          simp only [Act.put, List.setIfInBounds_toArray, List.set_cons_succ, List.set_cons_zero]
          rw [q8]
          clear q8
          obtain rfl : nb' = !th := HNB.out
          clear HNB
          cases th with
          | true =>
            go_wp2_with fail
            go_roundw
            case rel =>
              refine ⟨k + 1, by omega, by go_num, vk, ?_, HOu.out, HOk.out.2⟩
              have e := HSN.out
              rw [if_neg (by decide), List.append_nil] at e
              rw [e]; exact HBu.out
            case measure => simp [intOf]; omega
          | false =>
            have cK := HBu.out.k.cell
            have hdbu := cell_lt cK
            go_upto_region 14 with fail
            obtain ⟨Z, hZ⟩ : ∃ Z, Z = u.alloc (.cells #[.string ck] 9) := ⟨_, rfl⟩
            have gZ : Grew u Z := by rw [hZ]; exact (Grew.refl u).alloc _
            have hpZ : Z.cell? ⟨u.heap.size, 0, none⟩ = some (.string ck) := by rw [hZ]; simp [go_sem]
            obtain ⟨v3, w3, hrun, hrow, hgr, how⟩ := run_append_str2 (w := Z) (B := w1.heap.size) (v := vk) (m := (((P.take k).filter (Pl.goneB Q)).map Pr.key).length) (ks := ((P.take k).filter (Pl.goneB Q)).map Pr.key) (ownsRow_grew gZ HBu.out.k.row) u.heap.size ck hpZ (by rw [List.length_map]; exact HLN.out) (by have := HBu.out.grew.size; have := gZ.size; omega) 33
            have e3 := HSN.out
            rw [if_pos (show (!false) = true from rfl)] at e3
            have e4 : ((P.take (k + 1)).filter (Pl.goneB Q)).map Pr.key = ((P.take k).filter (Pl.goneB Q)).map Pr.key ++ [ck] := by rw [e3, List.map_append]; rfl
            have hl3 : (((P.take k).filter (Pl.goneB Q)).map Pr.key).length + 1 = (((P.take (k + 1)).filter (Pl.goneB Q)).map Pr.key).length := by rw [e4, List.length_append]; rfl
            rw [hl3, ← e4] at hrow
            obtain ⟨a3, c3, e5, _⟩ := strsAt_of hrow
            subst e5
            obtain ⟨hB3, q3, f3⟩ := HBu.out.addK gZ hrow hgr how
            have hd3 := cell_lt q3
            rw [hZ] at hrun
            have HRUN := hid hrun
            have HB3 := hid hB3
            have HO3 := hid ((HOu.out.trans ((gZ.only _).then (Only.of_grownBy hgr)) (fun j hj => .inr (HOk.out.2 j hj.symm))).then (Only.setCell w3 ⟨db, 3, none⟩ (.slice a3 (((P.take (k + 1)).filter (Pl.goneB Q)).map Pr.key).length c3)))
            have HW3 := hid (show ∀ g, Value.ownBlock (.slice a3 (((P.take (k + 1)).filter (Pl.goneB Q)).map Pr.key).length c3) = some g → w4.heap.size ≤ g from fun g hg => by
              rcases how g hg with q | q
              · exact HOk.out.2 g q
              · have := HOu.out.size; have := gZ.size; omega)
            clear hZ gZ hpZ hrun hrow hgr how e3 e4 hl3 hB3 HLN
            generalize (((P.take (k + 1)).filter (Pl.goneB Q)).map Pr.key).length = l3 at *
            go_wp2_with (at_builtin; refine Lib.wpList_append_run _ rfl _ _ _ _ rfl _ _ rfl rfl _ _ HRUN.out ?_)
            go_roundw
            case rel => exact ⟨k + 1, by omega, by go_num, _, HB3.out, HO3.out, HW3.out⟩
            case measure => simp [intOf]; omega
        · have hkn : k = P.length := by omega
          subst hkn
          obtain ⟨vk, hBk, _, _⟩ := HBk.out
          rw [List.take_length] at hBk
          obtain ⟨wB, rfl⟩ : ∃ x : World, x = wr := ⟨_, rfl⟩
          have HBB := hid (show BtD w1 wB 147 db lob hib (Pl.pairsD P Q) (Pl.keysD P Q) (clTo SB 1) vp vk (.slice none 0 0) from hBk)
          clear hBk HBk HB4 HP4 HBS HDV HGB hlt hk1
          go_wp2_with fail
          go_loopw [14] (fun i wr => ∃ k : Nat, 1 ≤ k ∧ k ≤ 5 ∧ i = .int .i64 k ∧ Hid (∃ vc, BtD w1 wr 147 db lob hib (Pl.pairsD P Q) (Pl.keysD P Q) (clTo SB k) vp vk vc)) (fun i _ => 5 - (intOf i).toNat)
          case atStart => exact ⟨1, by omega, by omega, rfl, _, HBB.out⟩
          case round =>
            obtain ⟨k, hk1, hk5, rfl, HBk⟩ := hrel
            by_cases hlt : k ≤ 4
            · obtain ⟨vc, hBk⟩ := HBk.out
              have HXW := hid (HG1.out.trans hBk.grew)
              have HSW := hid (HSN.out wr HXW.out)
              have HNX := hid (clTo_next SB k hk1 hlt)
              have HBr := hid hBk
              have hcl := clTo_len SB k
              have c3 := (HXW.out.cells.1 _ 3 hsb).trans cb3
              have hsbr := Nat.lt_of_lt_of_le hsb HXW.out.size
              have d0 := HSW.out.seq k (by omega)
              have d1 := HSW.out.code k (by omega)
              have d2 := HSW.out.at_ k (by omega)
              have hybr := HSW.out.lt
              have HCK := hid (fun a (h : SB (k : Int) = some a) => (HCL.out _ a h).2.2.s1)
              clear hBk HBk
              generalize hS : SB (k : Int) = so at *
              cases so with
              | none =>
                have HE6 := hid (show clTo SB (k + 1) = clTo SB k from HNX.out.trans (List.append_nil _))
                clear hS HNX d1 d2 HCK HCL
                unfold seqO at d0
                dsimp only at d0
                have HB6 := HBr
                obtain rfl | rfl | rfl | rfl : k = 1 ∨ k = 2 ∨ k = 3 ∨ k = 4 := by omega
                all_goals
                  go_wp2_with fail
                  go_roundw
                  case rel =>
                    have hB := HB6.out
                    rw [← HE6.out] at hB
                    first
                      | exact ⟨2, by omega, by omega, by go_num, vc, hB⟩
                      | exact ⟨3, by omega, by omega, by go_num, vc, hB⟩
                      | exact ⟨4, by omega, by omega, by go_num, vc, hB⟩
                      | exact ⟨5, by omega, by omega, by go_num, vc, hB⟩
                  case measure => simp [intOf]
              | some a =>
                obtain ⟨xq, xk, xt⟩ := a
                have hq0 := HCK.out _ rfl
                have HE6 := hid (show clTo SB (k + 1) = clTo SB k ++ [((k : Int), ⟨xq, xk, xt⟩)] from HNX.out)
                clear hS HNX HCK HCL
                unfold seqO at d0
                unfold codeO at d1
                unfold atO at d2
                dsimp only at d0 d1 d2 hq0
                have hq1 : 0 < xq := by omega
                have HBX := hid HBr.out
                clear HBr
                have C3 := wd_cell c3
                have D0 := wd_cell d0
                have D1 := wd_cell d1
                have D2 := wd_cell d2
                have cC := HBX.out.c.cell
                have CC := wd_cell cC
                have hdbl := cell_lt cC
                have HRM : Hid (MonoQ (RC37 ((k : Int), ⟨xq, xk, xt⟩))) := RC37.mono _
                have HAPP : Hid (∀ (u : World) (vb : Nat), Grew wr u → (∀ j v, (clVals ((k : Int), ⟨xq, xk, xt⟩))[j]? = some v → u.cell? ⟨vb, j, none⟩ = some v) → ∃ a3 l3 c3 w3, (Builtin.append_ #[38, 38] 38 #[vc, .slice (some ⟨vb, 0, none⟩) 1 1]).run Tryz.prog u = .ok (.slice a3 l3 c3) w3 ∧ BtD w1 (w3.setCell ⟨db, 4, none⟩ (.slice a3 l3 c3)) 147 db lob hib (Pl.pairsD P Q) (Pl.keysD P Q) (clTo SB (k + 1)) vp vk (.slice a3 l3 c3) ∧ w3.cell? ⟨db, 4, none⟩ = some vc ∧ w3.frozen? ⟨db, 4, none⟩ = false) := by
                  intro u vb gu hvb
                  obtain ⟨v3, w3, hrun, hrow, hgr, how⟩ := run_append_cl37 (w := u) (B := w1.heap.size) (v := vc) (m := (clTo SB k).length) (xs := clTo SB k) (ownsRow_grew gu HBX.out.c.row) vb ((k : Int), ⟨xq, xk, xt⟩) hvb (by omega) (by have := HBX.out.grew.size; have := gu.size; omega) 38
                  rw [← HE6.out] at hrow
                  have hl3 : (clTo SB k).length + 1 = (clTo SB (k + 1)).length := by rw [HE6.out, List.length_append]; rfl
                  rw [hl3] at hrow
                  obtain ⟨a3, c3, e5, _⟩ := clsAt_of hrow
                  subst e5
                  obtain ⟨hB3, q3, f3⟩ := HBX.out.addC gu hrow hgr how
                  exact ⟨a3, _, c3, w3, hrun, hB3, q3, f3⟩
                clear d1 d2 cC hcl HE6 HXW HSW HBX
                obtain rfl | rfl | rfl | rfl : k = 1 ∨ k = 2 ∨ k = 3 ∨ k = 4 := by omega
                all_goals
                  simp only [Nat.reduceMul, Nat.reduceAdd] at D0 D1 D2
                  go_upto_region 20 with fail
                  clear c3 d0
                  refine wp_region_mixS 23 [22] (Grew wr) Grew (JQ (RC37 _) wr) (fun f a => a.put (some 120) (f 22)) (by kernel_rfl) (by kernel_rfl) (fun _ _ => rfl) (JQ.start ..) (fun _ _ _ h => h.grew) Grew.refl (fun _ _ _ _ h g => h.more HRM.out g) ?_
                  repeat (first
    | (refine mixS_loose (by rfl) (by rfl) ?_)
    | (refine mixS_plain (by rfl) (by rfl) (by rfl) (by first | exact Grew.refl | exact fun _ => rfl) (by rfl) ?_; intro K hK; go_big_quiet_op; go_big_quiet_on)
    | (refine mixS_skip (by rfl) (by rfl) (by rfl) ?_; simp only [Act.put, List.setIfInBounds_toArray, List.set_cons_zero, List.set_cons_succ]))
                  refine mixS_done (by rfl) ⟨⟨loose_of rfl (fun _ a => a) (fun _ _ => rfl) (fun _ => rfl) ?_, trivial⟩, ?_⟩
                  · intro L f u hJ hL hd
                    have HJ := hid hJ
                    clear hJ hL hd C3 D0 D1 D2 CC
                    go_simp
                    exact HJ.out.put HRM.out 22 ((Grew.refl u).alloc _) fun _ => ⟨_, rfl, heap_alloc_new u _⟩
                  intro f u hJ
                  obtain ⟨vb, e22, hvb⟩ := hJ.at_ 22 rfl rfl
                  obtain ⟨a3, l3, c3, w3, hrun, hB3, q3, f3⟩ := HAPP.out u vb hJ.grew (fun j v hj => by rw [cell_block hvb]; exact hj)
                  have HRUN := hid hrun
                  have HB3 := hid hB3
                  have hd3 := cell_lt q3
                  clear hJ hvb hrun hB3 C3 D0 D1 D2 CC HAPP HRM
                  dsimp only [List.drop]
                  simp only [Act.put, List.setIfInBounds_toArray, List.set_cons_succ, List.set_cons_zero]
                  rw [e22]
                  clear e22
                  go_wp2_with (at_builtin; refine Lib.wpList_append_run _ rfl _ _ _ _ rfl _ _ rfl rfl _ _ HRUN.out ?_)
                  go_roundw
                  case rel =>
                    first
                      | exact ⟨2, by omega, by omega, by go_num, _, HB3.out⟩
                      | exact ⟨3, by omega, by omega, by go_num, _, HB3.out⟩
                      | exact ⟨4, by omega, by omega, by go_num, _, HB3.out⟩
                      | exact ⟨5, by omega, by omega, by go_num, _, HB3.out⟩
                  case measure => simp [intOf]
            · have hk5' : k = 5 := by omega
              subst hk5'
              obtain ⟨vc, hBk⟩ := HBk.out
              obtain ⟨xa, xc, e1, _⟩ := pairsAt_of hBk.p.row
              obtain ⟨ya', yc, e2, _⟩ := strsAt_of hBk.k.row
              obtain ⟨za, zc, e3, _⟩ := clsAt_of hBk.c.row
              subst e1 e2 e3
              generalize hL1 : (Pl.pairsD P Q).length = l1 at *
              generalize hL2 : (Pl.keysD P Q).length = l2 at *
              generalize hL3 : (clTo SB 5).length = l3 at *
              have c0 := hBk.c0
              have c1 := hBk.c1
              have c2 := hBk.p.cell
              have c3 := hBk.k.cell
              have c4 := hBk.c.cell
              have hdbl := cell_lt c0
              have hg := hBk.grew
              obtain ⟨z0, r0⟩ := HRB.out.1 0 (by decide)
              obtain ⟨z1, r1⟩ := HRB.out.1 1 (by decide)
              obtain ⟨z2, r2⟩ := HRB.out.1 2 (by decide)
              obtain ⟨z3, r3⟩ := HRB.out.1 3 (by decide)
              obtain ⟨z4, r4⟩ := HRB.out.1 4 (by decide)
              have r0 := (hg.cells.1 _ 0 hz1).trans r0
              have r1 := (hg.cells.1 _ 1 hz1).trans r1
              have r2 := (hg.cells.1 _ 2 hz1).trans r2
              have r3 := (hg.cells.1 _ 3 hz1).trans r3
              have r4 := (hg.cells.1 _ 4 hz1).trans r4
              have s0 := (hg.cells.2 _ 0 hz1).trans (HRB.out.2 0)
              have s1 := (hg.cells.2 _ 1 hz1).trans (HRB.out.2 1)
              have s2 := (hg.cells.2 _ 2 hz1).trans (HRB.out.2 2)
              have s3 := (hg.cells.2 _ 3 hz1).trans (HRB.out.2 3)
              have s4 := (hg.cells.2 _ 4 hz1).trans (HRB.out.2 4)
              have hrbw := Nat.lt_of_lt_of_le hz1 hg.size
              have HBL := hid hBk
              clear hBk HBk HBB HSN hg hlt hk1 hk5
              go_wp2_with fail
              refine bodyPost_ret (v := .agg #[.string lob, .string hib, (.slice xa l1 xc), (.slice ya' l2 yc), (.slice za l3 zc)]) (by simp [results, Tryz.results13, go_sem, r0, r1, r2, r3, r4, s0, s1, s2, s3, s4]) rfl ?_
              have hset : Only (fun j => j = w.heap.size) wr (((((wr.setCell ⟨w.heap.size, 0, none⟩ (.string lob)).setCell ⟨w.heap.size, 1, none⟩ (.string hib)).setCell ⟨w.heap.size, 2, none⟩ (.slice xa l1 xc)).setCell ⟨w.heap.size, 3, none⟩ (.slice ya' l2 yc)).setCell ⟨w.heap.size, 4, none⟩ (.slice za l3 zc)) := ((((Only.setCell wr ⟨w.heap.size, 0, none⟩ _).then (Only.setCell _ ⟨w.heap.size, 1, none⟩ _)).then (Only.setCell _ ⟨w.heap.size, 2, none⟩ _)).then (Only.setCell _ ⟨w.heap.size, 3, none⟩ _)).then (Only.setCell _ ⟨w.heap.size, 4, none⟩ _)
              have hw1 : w.heap.size ≤ w1.heap.size := by omega
              have hc5 : (clients SB).length = l3 := hL3
              rw [← hL1, ← hL2, ← hL3] at *
              refine ⟨_, _, _, rfl, ownsRow_base hw1 (ownsRow_kept HBL.out.p.row hset fun b hb (e : b = w.heap.size) => by have := (HBL.out.p.lt b hb).1; omega), ownsRow_base hw1 (ownsRow_kept HBL.out.k.row hset fun b hb (e : b = w.heap.size) => by have := (HBL.out.k.lt b hb).1; omega), ownsRow_base hw1 (ownsRow_kept HBL.out.c.row hset fun b hb (e : b = w.heap.size) => by have := (HBL.out.c.lt b hb).1; omega), (((HG1.out.trans HBL.out.grew).only _).then hset).grew fun j (hj : j = w.heap.size) => by omega⟩
end Go.Proofs.YtoiahcgaffffbaaGreatDoor
