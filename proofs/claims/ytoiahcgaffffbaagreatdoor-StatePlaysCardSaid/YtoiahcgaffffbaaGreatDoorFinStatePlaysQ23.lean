/- Cut21, TwT: one text. -/
import Derived.Test.YtoiahcgaffffbaaGreatDoorFinStatePlaysQ15
import Derived.Test.YtoiahcgaffffbaaGreatDoorFinStatePlaysQ18
set_option linter.unusedVariables false
set_option linter.unusedSimpArgs false
namespace Go.Proofs.YtoiahcgaffffbaaGreatDoor
open Go.RowKit Go.Maps
attribute [local go_sem] Oper.semAt_some
theorem RtIs.snoc {Y y : World} {G : Nat → Prop} {tb : Nat} {v r : Value} {xs : List Pr} {p : Pr} (h : RtIs Y G tb v xs) (hD : ∃ x0, Grew Y x0 ∧ AppD 83 3 v xs.length (prFlat xs) p.vals x0 r y) :
    ∃ g c, r = .slice (some ⟨g, 0, none⟩) (xs.length + 1) c ∧ y.cell? ⟨tb, 0, none⟩ = some v ∧ y.frozen? ⟨tb, 0, none⟩ = false ∧ RtTurn Y G tb (xs ++ [p]) (y.setCell ⟨tb, 0, none⟩ (.slice (some ⟨g, 0, none⟩) (xs.length + 1) c)) := by
  obtain ⟨x0, gx0, g4, c4, e, hrow, hgr, hat⟩ := hD
  have ho1 : Only (fun j => some j = v.ownBlock) Y y := (gx0.only _).then (Only.of_grownBy hgr)
  have htb : tb < Y.heap.size := cell_lt h.c0
  have hn2 : ¬ some tb = v.ownBlock := fun e => (h.own _ e.symm).2 rfl
  have c3 := (ho1.cell htb hn2 0).trans h.c0
  have f3 := (ho1.frozen htb hn2 0).trans h.f0
  refine ⟨g4, c4, e, c3, f3, h.store (ho1.mono fun j (hj : some j = _) => .inl (h.own j hj.symm).1) ⟨_, c3⟩ f3 ?_ fun g hg => ?_⟩
  · rw [List.length_append, prFlat_append, prFlat_one]
    exact hrow
  · have hlt := hrow.lt g hg
    have : g4 = g := by simpa [Value.ownBlock] using hg
    subst this
    rcases hat with h1 | h1
    · exact ⟨.inl (h.own _ h1).1, (h.own _ h1).2, hlt.2⟩
    · have := gx0.size
      exact ⟨.inr (by omega), by omega, hlt.2⟩
def Pl.cutB (key : ByteArray) (p : Pr) : Bool := Pl.right key && !(Op.bytesLess p.key.toList key.toList)
structure CutIs (w wr : World) (ab bb : Nat) (ys zs : List Pr) : Prop where
  ex : ∃ Ga Gb, RtAt wr Ga ab ys ∧ RtAt wr Gb bb zs ∧ (∀ j, Ga j → w.heap.size ≤ j ∧ ¬ Gb j) ∧ (∀ j, Gb j → w.heap.size ≤ j)
set_option maxRecDepth 100000 in
set_option maxHeartbeats 4000000 in
theorem cut21_any {w : World} {G : Nat → Prop} {tb : Nat} {xs : List Pr} (h : RtAt w G tb xs) (hx : xs.length ≤ 100000) (key : ByteArray) (hk : key.size ≤ 16777216) :
    Calls Tryz.prog 154 #[.pointer (some ⟨tb, 0, none⟩), .string key] w fun e w' => (∃ bb, e = .returned (.pointer (some ⟨bb, 0, none⟩)) ∧ MTab w' bb (xs.filter (Pl.cutB key))) ∧ RtTurn w G tb (xs.filter fun p => !Pl.cutB key p) w' := by
  have HR := hid h
  have HRU := hid (fun W => ref_runes key W hk)
  obtain ⟨i0, hi0, hz0, hz1, hz2⟩ := info_parts infoPr
  obtain ⟨v, h⟩ := h
  have c0 := h.c0
  have htb := cell_lt c0
  obtain ⟨a, cap, e, hA⟩ := pairsAt_of h.row
  subst e
  have HH := hid h
  have HA := hid hA
  have HCB : Hid (∀ p, Pl.cutB key p = (Pl.right key && !(Op.bytesLess p.key.toList key.toList))) := fun _ => rfl
  generalize Pl.cutB key = pb at *
  clear h hA
  go_enter Tryz.func154, Tryz.ntmps154
  go_wp2_with fail
  refine (HRU.out _).mono ?_
  rintro e w1 ⟨hg, he⟩
  obtain ⟨vv, ok, rfl, hok⟩ : ∃ vv ok, e = .returned (.tuple #[vv, .bool ok]) ∧ Pl.right key = ok := by
    rcases he with ⟨h1, rfl⟩ | ⟨l, v, h1, rfl, _⟩
    · exact ⟨_, _, rfl, by unfold Pl.right; rw [h1]; rfl⟩
    · exact ⟨_, _, rfl, by unfold Pl.right; rw [h1]; rfl⟩
  have hG1 : Grew w w1 := (((Grew.refl w).alloc _).alloc _).trans hg
  have hza : w.heap.size < w1.heap.size := by have := hg.size; simp at this; omega
  have hzb : w.heap.size + 1 < w1.heap.size := by have := hg.size; simp at this; omega
  have HC0 : Hid (CutIs w w1 w.heap.size (w.heap.size + 1) [] []) := by
    refine ⟨fun j => j = w.heap.size, fun j => j = w.heap.size + 1, ⟨.slice none 0 0, ?_, ?_, World.ownsRow_nil _ _ _ _, rfl, (fun g h => by cases h), fun j hj => by rw [hj]; exact hza⟩, ⟨.slice none 0 0, ?_, ?_, World.ownsRow_nil _ _ _ _, rfl, (fun g h => by cases h), fun j hj => by rw [hj]; exact hzb⟩, fun j hj => ⟨by omega, by omega⟩, fun j hj => by omega⟩
    · rw [hg.cells.1 _ _ (by simp; omega)]; simp [go_sem]
    · rw [hg.cells.2 _ _ (by simp; omega)]; simp [go_sem]
    · rw [hg.cells.1 _ _ (by simp)]; simp [go_sem]
    · rw [hg.cells.2 _ _ (by simp)]; simp [go_sem]
  have c1 := (hG1.cells.1 _ _ htb).trans c0
  have htb1 := Nat.lt_of_lt_of_le htb hG1.size
  rw [hok] at HCB
  clear hg he hza hzb hok
  go_wp2_with fail
  obtain ⟨ab, hab⟩ : ∃ ab, ab = w.heap.size := ⟨_, rfl⟩
  obtain ⟨bb, hbb⟩ : ∃ bb, bb = w.heap.size + 1 := ⟨_, rfl⟩
  rw [← hbb, ← hab] at HC0
  rw [← hbb, ← hab]
  have HAB := hid hab
  have HBB := hid hbb
  clear hab hbb
  go_loopw [25] (fun i wr => ∃ (k : Nat) (ys zs : List Pr), k ≤ xs.length ∧ i = .int .i64 k ∧ Hid (ys = (xs.take k).filter (fun p => !pb p)) ∧ Hid (zs = (xs.take k).filter pb) ∧ Hid (CutIs w wr ab bb ys zs) ∧ Hid (Grew w wr)) (fun i _ => xs.length - (intOf i).toNat)
  case atStart => exact ⟨0, [], [], Nat.zero_le _, rfl, rfl, rfl, HC0, hG1⟩
  case round =>
    obtain ⟨k, ys, zs, hk1, rfl, HY, HZ, HC, HG⟩ := hrel
    by_cases hlt : k < xs.length
    · rcases HA.out with h0 | ⟨b, off, rfl, hb, hR⟩
      · rw [h0] at hlt; simp at hlt
      have q0 := (HG.out.cells.1 b (off + k * 3) hb).trans (hR.key k hlt)
      have q1 := (HG.out.cells.1 b (off + k * 3 + 1) hb).trans (hR.val k hlt)
      have q2 := (HG.out.cells.1 b (off + k * 3 + 2) hb).trans (hR.ver k hlt)
      have hT := take_snoc_pr xs k hlt
      have hfa : (xs.take (k + 1)).filter (fun p => !pb p) = ys ++ (if pb (prAt xs k) = true then [] else [prAt xs k]) := by
        rw [hT, List.filter_append, ← HY.out]; cases h : pb (prAt xs k) <;> simp [h]
      have hfb : (xs.take (k + 1)).filter pb = zs ++ (if pb (prAt xs k) = true then [prAt xs k] else []) := by
        rw [hT, List.filter_append, ← HZ.out]; cases h : pb (prAt xs k) <;> simp [h]
      have HFA := hid hfa
      have HFB := hid hfb
      have hly : ys.length ≤ 100000 := by have h1 := List.length_filter_le (fun p => !pb p) (xs.take k); rw [← HY.out, List.length_take] at h1; omega
      have hlz : zs.length ≤ 100000 := by have h1 := List.length_filter_le pb (xs.take k); rw [← HZ.out, List.length_take] at h1; omega
      have hpe := HCB.out (prAt xs k)
      clear hR hfa hfb hT
      generalize prAt xs k = c at *
      obtain ⟨ck, cv, cn⟩ := c
      dsimp only at *
      obtain ⟨Ga, Gb, hGa, hGb, hGG⟩ := HC.out.ex
      have hGw := HG.out
      clear HC HY HZ
      obtain ⟨lb, hlbe⟩ : ∃ lb, lb = wr.heap.size := ⟨_, rfl⟩
      have HLB := hid hlbe
      have gY : Grew wr (wr.alloc (.cells #[.string ck, .string cv, .int .i64 cn] 83)) := (Grew.refl wr).alloc _
      have k0 : (wr.alloc (.cells #[.string ck, .string cv, .int .i64 cn] 83)).cell? ⟨lb, 0, none⟩ = some (.string ck) := by rw [hlbe]; simp [go_sem]
      have k1 : (wr.alloc (.cells #[.string ck, .string cv, .int .i64 cn] 83)).cell? ⟨lb, 1, none⟩ = some (.string cv) := by rw [hlbe]; simp [go_sem]
      have k2 : (wr.alloc (.cells #[.string ck, .string cv, .int .i64 cn] 83)).cell? ⟨lb, 2, none⟩ = some (.int .i64 cn) := by rw [hlbe]; simp [go_sem]
      clear hlbe
      cases hpb : pb ⟨ck, cv, cn⟩ with
      | true =>
        rw [hpb] at hpe
        have ho1 : ok = true := by cases ok; cases hpe; rfl
        subst ho1
        have hl1 : Op.bytesLess ck.toList key.toList = false := by cases h : Op.bytesLess ck.toList key.toList; rfl; rw [h] at hpe; cases hpe
        have HY2 : Hid (ys = (xs.take (k + 1)).filter (fun p => !pb p)) := by unfold Hid; rw [HFA.out, hpb]; simp
        have HZ2 : Hid (zs ++ [⟨ck, cv, cn⟩] = (xs.take (k + 1)).filter pb) := by unfold Hid; rw [HFB.out, hpb]; simp
        clear HFA HFB hpe
        go_wp2_with fail
        rw [← HLB.out]
        generalize hYY : World.alloc wr _ = Y at k0 k1 k2 gY ⊢
        have hoY := gY
        clear hYY gY q0 q1 q2
        obtain ⟨u, hI⟩ := hGb
        have HI := hid hI
        have HOT := hid hGa
        clear hI hGa
        have hn1 : ¬ some lb = u.ownBlock := fun e => by have := HI.out.lt _ (HI.out.own _ e.symm).1; have := HLB.out; omega
        have hn2 : ¬ some bb = u.ownBlock := fun e => (HI.out.own _ e.symm).2 rfl
        have hlb : lb < Y.heap.size := cell_lt k0
        have hGwY := hGw.trans hoY
        have HIY := hid (HI.out.kept (hoY.only fun _ => False) (fun _ _ h => h))
        have K0 := wd_only (S := fun j => some j = u.ownBlock) k0 hn1
        have K1 := wd_only (S := fun j => some j = u.ownBlock) k1 hn1
        have K2 := wd_only (S := fun j => some j = u.ownBlock) k2 hn1
        have C0 := wd_only (S := fun j => some j = u.ownBlock) HIY.out.c0 hn2
        have htY := cell_lt HIY.out.c0
        clear k0 k1 k2
        refine wp_region_mix 8 [6, 7] (Only (fun j => some j = u.ownBlock) Y) Eq (JOne 83 6 7 Y [.string ck, .string cv, .int .i64 cn] (AppD 83 3 u zs.length (prFlat zs) [.string ck, .string cv, .int .i64 cn])) (fun f a => (a.put (some 42) (f 6)).put (some 43) (f 7)) (by kernel_rfl) (by kernel_rfl) (fun _ _ => rfl) (JOne.start Y) (fun L f x h => h.only fun _ _ _ h => h.only) (fun _ => rfl) (fun _ _ _ _ h g => g ▸ h) ?_
        repeat (first
    | (refine wpMix_loose (by rfl) (by rfl) ?_)
    | (refine wpMix_plain (by rfl) (by rfl) (by rfl) (by first | exact Grew.refl | exact fun _ => rfl) (by rfl) ?_; intro K hK; go_big_quiet_op; go_big_quiet_on)
    | (refine wpMix_skip (by rfl) (by rfl) (by rfl) ?_; simp only [Act.put, List.setIfInBounds_toArray, List.set_cons_zero, List.set_cons_succ]))
        refine wpMix_done (by rfl) ⟨⟨loose_of rfl (fun _ a => a) (fun _ _ => rfl) (fun _ => rfl) ?_, loose_of rfl (fun f a => a.put (some 42) (f 6)) (fun _ _ => rfl) (fun _ => rfl) ?_, trivial⟩, ?_⟩
        · intro L f y hJ hL hd
          clear K0 K1 K2 C0
          have hm := hid (hJ.make (by decide) hL)
          clear hJ
          go_simp
          exact hm.out
        · intro L f y hJ hL hd
          clear K0 K1 K2 C0
          have h6 := hd 6 rfl (by decide)
          obtain ⟨vb, q7, hvN, hvb⟩ := hJ.made h6 hL
          refine uponV_append _ _ _ rfl 83 i0 _ 3 40 Tryz.underlying32 hi0 hz0 hz1 hz2 zeroPair (by omega) u zs.length (prFlat zs) rfl ?_ vb 1 [.string ck, .string cv, .int .i64 cn] ?_ rfl hvb (by intro u hu; simp at hu; rcases hu with rfl | rfl | rfl <;> rfl) (by unfold maxLen; omega) (by omega) ?_
          · exact ownsRow_grew (hJ.grew hL) HIY.out.row
          · exact q7
          · intro r w' hD
            exact hJ.call (by decide) hL h6 hD
        rintro f y hJ
        clear K0 K1 K2 C0
        obtain ⟨g4, c4, q8, cy, fy, hT⟩ := HIY.out.snoc (p := ⟨ck, cv, cn⟩) (hJ.done rfl)
        rw [q8]
        have hty := cell_lt cy
        obtain ⟨hTo, G', hT1, hT2⟩ := hT
        have HC : Hid (CutIs w (y.setCell ⟨bb, 0, none⟩ (.slice (some ⟨g4, 0, none⟩) (zs.length + 1) c4)) ab bb ys (zs ++ [⟨ck, cv, cn⟩])) := by
          refine ⟨Ga, G', (HOT.out.grew hoY).kept hTo (fun j h1 h2 => (hGG.1 j h1).2 h2), hT1, fun j hj => ?_, fun j hj => ?_⟩
          · exact ⟨(hGG.1 j hj).1, fun h => by rcases hT2 j h with h | h; exact (hGG.1 j hj).2 h; have := (HOT.out.grew hoY).lt j hj; omega⟩
          · rcases hT2 j hj with h | h; exact hGG.2 j h; have := hGwY.size; omega
        have HGF : Hid (Grew w (y.setCell ⟨bb, 0, none⟩ (.slice (some ⟨g4, 0, none⟩) (zs.length + 1) c4))) := ((hGwY.only _).then hTo).grew (fun j hj => hGG.2 j hj)
        clear hJ q8 hTo hT1 hT2 hGG hGw hGwY hoY hn1 hn2
        dsimp only [List.drop]
        go_wp2_with fail
        go_roundw
        case rel => exact ⟨k + 1, ys, zs ++ [⟨ck, cv, cn⟩], by omega, by go_num, HY2, HZ2, HC, HGF⟩
        case measure => simp [intOf]; omega
      | false =>
        rw [hpb] at hpe
        have HY2 : Hid (ys ++ [⟨ck, cv, cn⟩] = (xs.take (k + 1)).filter (fun p => !pb p)) := by unfold Hid; rw [HFA.out, hpb]; simp
        have HZ2 : Hid (zs = (xs.take (k + 1)).filter pb) := by unfold Hid; rw [HFB.out, hpb]; simp
        cases ok with
        | false =>
          clear HFA HFB hpe
          go_wp2_with fail
          rw [← HLB.out]
          generalize hYY : World.alloc wr _ = Y at k0 k1 k2 gY ⊢
          have hoY := gY
          clear hYY gY q0 q1 q2
          obtain ⟨u, hI⟩ := hGa
          have HI := hid hI
          have HOT := hid hGb
          clear hI hGb
          have hn1 : ¬ some lb = u.ownBlock := fun e => by have := HI.out.lt _ (HI.out.own _ e.symm).1; have := HLB.out; omega
          have hn2 : ¬ some ab = u.ownBlock := fun e => (HI.out.own _ e.symm).2 rfl
          have hlb : lb < Y.heap.size := cell_lt k0
          have hGwY := hGw.trans hoY
          have HIY := hid (HI.out.kept (hoY.only fun _ => False) (fun _ _ h => h))
          have K0 := wd_only (S := fun j => some j = u.ownBlock) k0 hn1
          have K1 := wd_only (S := fun j => some j = u.ownBlock) k1 hn1
          have K2 := wd_only (S := fun j => some j = u.ownBlock) k2 hn1
          have C0 := wd_only (S := fun j => some j = u.ownBlock) HIY.out.c0 hn2
          have htY := cell_lt HIY.out.c0
          clear k0 k1 k2
          refine wp_region_mix 8 [6, 7] (Only (fun j => some j = u.ownBlock) Y) Eq (JOne 83 6 7 Y [.string ck, .string cv, .int .i64 cn] (AppD 83 3 u ys.length (prFlat ys) [.string ck, .string cv, .int .i64 cn])) (fun f a => (a.put (some 52) (f 6)).put (some 53) (f 7)) (by kernel_rfl) (by kernel_rfl) (fun _ _ => rfl) (JOne.start Y) (fun L f x h => h.only fun _ _ _ h => h.only) (fun _ => rfl) (fun _ _ _ _ h g => g ▸ h) ?_
          repeat (first
    | (refine wpMix_loose (by rfl) (by rfl) ?_)
    | (refine wpMix_plain (by rfl) (by rfl) (by rfl) (by first | exact Grew.refl | exact fun _ => rfl) (by rfl) ?_; intro K hK; go_big_quiet_op; go_big_quiet_on)
    | (refine wpMix_skip (by rfl) (by rfl) (by rfl) ?_; simp only [Act.put, List.setIfInBounds_toArray, List.set_cons_zero, List.set_cons_succ]))
          refine wpMix_done (by rfl) ⟨⟨loose_of rfl (fun _ a => a) (fun _ _ => rfl) (fun _ => rfl) ?_, loose_of rfl (fun f a => a.put (some 52) (f 6)) (fun _ _ => rfl) (fun _ => rfl) ?_, trivial⟩, ?_⟩
          · intro L f y hJ hL hd
            clear K0 K1 K2 C0
            have hm := hid (hJ.make (by decide) hL)
            clear hJ
            go_simp
            exact hm.out
          · intro L f y hJ hL hd
            clear K0 K1 K2 C0
            have h6 := hd 6 rfl (by decide)
            obtain ⟨vb, q7, hvN, hvb⟩ := hJ.made h6 hL
            refine uponV_append _ _ _ rfl 83 i0 _ 3 40 Tryz.underlying32 hi0 hz0 hz1 hz2 zeroPair (by omega) u ys.length (prFlat ys) rfl ?_ vb 1 [.string ck, .string cv, .int .i64 cn] ?_ rfl hvb (by intro u hu; simp at hu; rcases hu with rfl | rfl | rfl <;> rfl) (by unfold maxLen; omega) (by omega) ?_
            · exact ownsRow_grew (hJ.grew hL) HIY.out.row
            · exact q7
            · intro r w' hD
              exact hJ.call (by decide) hL h6 hD
          rintro f y hJ
          clear K0 K1 K2 C0
          obtain ⟨g4, c4, q8, cy, fy, hT⟩ := HIY.out.snoc (p := ⟨ck, cv, cn⟩) (hJ.done rfl)
          rw [q8]
          have hty := cell_lt cy
          obtain ⟨hTo, G', hT1, hT2⟩ := hT
          have HC : Hid (CutIs w (y.setCell ⟨ab, 0, none⟩ (.slice (some ⟨g4, 0, none⟩) (ys.length + 1) c4)) ab bb (ys ++ [⟨ck, cv, cn⟩]) zs) := by
            refine ⟨G', Gb, hT1, (HOT.out.grew hoY).kept hTo (fun j h1 h2 => (hGG.1 j h2).2 h1), fun j hj => ?_, fun j hj => ?_⟩
            · rcases hT2 j hj with h | h
              · exact hGG.1 j h
              · refine ⟨by have := hGwY.size; omega, fun hb => ?_⟩
                have := (HOT.out.grew hoY).lt j hb; omega
            · exact hGG.2 j hj
          have HGF : Hid (Grew w (y.setCell ⟨ab, 0, none⟩ (.slice (some ⟨g4, 0, none⟩) (ys.length + 1) c4))) := ((hGwY.only _).then hTo).grew (fun j hj => (hGG.1 j hj).1)
          clear hJ q8 hTo hT1 hT2 hGG hGw hGwY hoY hn1 hn2
          dsimp only [List.drop]
          go_wp2_with fail
          go_roundw
          case rel => exact ⟨k + 1, ys ++ [⟨ck, cv, cn⟩], zs, by omega, by go_num, HY2, HZ2, HC, HGF⟩
          case measure => simp [intOf]; omega
        | true =>
          have hl1 : Op.bytesLess ck.toList key.toList = true := by cases h : Op.bytesLess ck.toList key.toList; rw [h] at hpe; cases hpe; rfl
          clear HFA HFB hpe
          go_wp2_with fail
          rw [← HLB.out]
          generalize hYY : World.alloc wr _ = Y at k0 k1 k2 gY ⊢
          have hoY := gY
          clear hYY gY q0 q1 q2
          obtain ⟨u, hI⟩ := hGa
          have HI := hid hI
          have HOT := hid hGb
          clear hI hGb
          have hn1 : ¬ some lb = u.ownBlock := fun e => by have := HI.out.lt _ (HI.out.own _ e.symm).1; have := HLB.out; omega
          have hn2 : ¬ some ab = u.ownBlock := fun e => (HI.out.own _ e.symm).2 rfl
          have hlb : lb < Y.heap.size := cell_lt k0
          have hGwY := hGw.trans hoY
          have HIY := hid (HI.out.kept (hoY.only fun _ => False) (fun _ _ h => h))
          have K0 := wd_only (S := fun j => some j = u.ownBlock) k0 hn1
          have K1 := wd_only (S := fun j => some j = u.ownBlock) k1 hn1
          have K2 := wd_only (S := fun j => some j = u.ownBlock) k2 hn1
          have C0 := wd_only (S := fun j => some j = u.ownBlock) HIY.out.c0 hn2
          have htY := cell_lt HIY.out.c0
          clear k0 k1 k2
          refine wp_region_mix 8 [6, 7] (Only (fun j => some j = u.ownBlock) Y) Eq (JOne 83 6 7 Y [.string ck, .string cv, .int .i64 cn] (AppD 83 3 u ys.length (prFlat ys) [.string ck, .string cv, .int .i64 cn])) (fun f a => (a.put (some 52) (f 6)).put (some 53) (f 7)) (by kernel_rfl) (by kernel_rfl) (fun _ _ => rfl) (JOne.start Y) (fun L f x h => h.only fun _ _ _ h => h.only) (fun _ => rfl) (fun _ _ _ _ h g => g ▸ h) ?_
          repeat (first
    | (refine wpMix_loose (by rfl) (by rfl) ?_)
    | (refine wpMix_plain (by rfl) (by rfl) (by rfl) (by first | exact Grew.refl | exact fun _ => rfl) (by rfl) ?_; intro K hK; go_big_quiet_op; go_big_quiet_on)
    | (refine wpMix_skip (by rfl) (by rfl) (by rfl) ?_; simp only [Act.put, List.setIfInBounds_toArray, List.set_cons_zero, List.set_cons_succ]))
          refine wpMix_done (by rfl) ⟨⟨loose_of rfl (fun _ a => a) (fun _ _ => rfl) (fun _ => rfl) ?_, loose_of rfl (fun f a => a.put (some 52) (f 6)) (fun _ _ => rfl) (fun _ => rfl) ?_, trivial⟩, ?_⟩
          · intro L f y hJ hL hd
            clear K0 K1 K2 C0
            have hm := hid (hJ.make (by decide) hL)
            clear hJ
            go_simp
            exact hm.out
          · intro L f y hJ hL hd
            clear K0 K1 K2 C0
            have h6 := hd 6 rfl (by decide)
            obtain ⟨vb, q7, hvN, hvb⟩ := hJ.made h6 hL
            refine uponV_append _ _ _ rfl 83 i0 _ 3 40 Tryz.underlying32 hi0 hz0 hz1 hz2 zeroPair (by omega) u ys.length (prFlat ys) rfl ?_ vb 1 [.string ck, .string cv, .int .i64 cn] ?_ rfl hvb (by intro u hu; simp at hu; rcases hu with rfl | rfl | rfl <;> rfl) (by unfold maxLen; omega) (by omega) ?_
            · exact ownsRow_grew (hJ.grew hL) HIY.out.row
            · exact q7
            · intro r w' hD
              exact hJ.call (by decide) hL h6 hD
          rintro f y hJ
          clear K0 K1 K2 C0
          obtain ⟨g4, c4, q8, cy, fy, hT⟩ := HIY.out.snoc (p := ⟨ck, cv, cn⟩) (hJ.done rfl)
          rw [q8]
          have hty := cell_lt cy
          obtain ⟨hTo, G', hT1, hT2⟩ := hT
          have HC : Hid (CutIs w (y.setCell ⟨ab, 0, none⟩ (.slice (some ⟨g4, 0, none⟩) (ys.length + 1) c4)) ab bb (ys ++ [⟨ck, cv, cn⟩]) zs) := by
            refine ⟨G', Gb, hT1, (HOT.out.grew hoY).kept hTo (fun j h1 h2 => (hGG.1 j h2).2 h1), fun j hj => ?_, fun j hj => ?_⟩
            · rcases hT2 j hj with h | h
              · exact hGG.1 j h
              · refine ⟨by have := hGwY.size; omega, fun hb => ?_⟩
                have := (HOT.out.grew hoY).lt j hb; omega
            · exact hGG.2 j hj
          have HGF : Hid (Grew w (y.setCell ⟨ab, 0, none⟩ (.slice (some ⟨g4, 0, none⟩) (ys.length + 1) c4))) := ((hGwY.only _).then hTo).grew (fun j hj => (hGG.1 j hj).1)
          clear hJ q8 hTo hT1 hT2 hGG hGw hGwY hoY hn1 hn2
          dsimp only [List.drop]
          go_wp2_with fail
          go_roundw
          case rel => exact ⟨k + 1, ys ++ [⟨ck, cv, cn⟩], zs, by omega, by go_num, HY2, HZ2, HC, HGF⟩
          case measure => simp [intOf]; omega
    · obtain rfl : k = xs.length := by omega
      obtain ⟨Ga, Gb, ⟨u, hI⟩, hGb, hGG⟩ := HC.out.ex
      obtain ⟨au, capu, rfl, _⟩ := pairsAt_of hI.row
      have cu := hI.c0
      have habx := cell_lt cu
      have hG := HG.out
      have hK := HH.out.kept (hG.only fun _ => False) (fun _ _ h => h)
      have cx := hK.c0
      have fx := hK.f0
      have htbx := cell_lt cx
      have hset : Only (fun j => j = tb) wr (wr.setCell ⟨tb, 0, none⟩ (.slice au ys.length capu)) := Only.setCell wr ⟨tb, 0, none⟩ _
      have HM : Hid (MTab (wr.setCell ⟨tb, 0, none⟩ (.slice au ys.length capu)) bb zs) := (hGb.kept hset fun j hj (e : j = tb) => by have := hGG.2 j hj; omega).read
      have HFIN : Hid (RtTurn w G tb ys (wr.setCell ⟨tb, 0, none⟩ (.slice au ys.length capu))) := by
        refine HH.out.store (hG.only _) ⟨_, cx⟩ fx hI.row fun g hg => ?_
        have h1 := hI.own g hg
        have h2 := hGG.1 g h1.1
        exact ⟨.inr h2.1, by have := h2.1; omega, hI.lt g h1.1⟩
      have HY3 : Hid (ys = xs.filter (fun p => !pb p)) := by have := HY.out; rwa [List.take_length] at this
      have HZ3 : Hid (zs = xs.filter pb) := by have := HZ.out; rwa [List.take_length] at this
      clear hI hGb hGG hG hK hset HC HG HY HZ
      go_wp2_with fail
      go_ret
      exact ⟨⟨bb, rfl, by rw [← HZ3.out]; exact HM.out⟩, by rw [← HY3.out]; exact HFIN.out⟩
end Go.Proofs.YtoiahcgaffffbaaGreatDoor
namespace Go.Proofs.YtoiahcgaffffbaaGreatDoor
namespace Pl
structure Tt (P D : List Pr) : Prop where
  srt : Srt P
  ap : D.Pairwise fun a b => a.key ≠ b.key
  mem : ∀ c, c ∈ D ↔ c ∈ P
theorem Tt.nil : Tt [] [] := ⟨srt_nil, by simp, fun c => Iff.rfl⟩
theorem cmp_self {k : ByteArray} : ¬ compare k k < 0 := fun h => compare_asymm h h
theorem srt_ap {P : List Pr} (h : Srt P) : P.Pairwise fun a b => a.key ≠ b.key := h.rise.imp fun {a b} hab e => by rw [e] at hab; exact cmp_self hab
theorem nodup_of_ap {D : List Pr} (h : D.Pairwise fun a b => a.key ≠ b.key) : D.Nodup := h.imp fun {a b} hab e => hab (by rw [e])
theorem Tt.perm {P D : List Pr} (h : Tt P D) : P.Perm D := (List.perm_ext_iff_of_nodup (nodup_of_ap (srt_ap h.srt)) (nodup_of_ap h.ap)).2 fun c => (h.mem c).symm
theorem Tt.len {P D : List Pr} (h : Tt P D) : P.length = D.length := h.perm.length_eq
theorem Tt.key {P D : List Pr} (h : Tt P D) : ∀ c ∈ D, keyN c.key = 0 := fun c hc => h.srt.key c ((h.mem c).1 hc)
theorem Tt.sorted {P D zs : List Pr} (h : Tt P D) (hp : zs.Perm D) (hs : Srt zs) : zs = P :=
  join_self h.srt (hp.trans h.perm.symm) (hs.rise.imp fun hab => compare_asymm hab)
theorem ap_erase {D : List Pr} (h : D.Pairwise fun a b => a.key ≠ b.key) (k : ByteArray) : (D.eraseP (isK k)).Pairwise fun a b => a.key ≠ b.key := h.sublist List.eraseP_sublist
theorem mem_erase {D : List Pr} (h : D.Pairwise fun a b => a.key ≠ b.key) (k : ByteArray) (c : Pr) : c ∈ D.eraseP (isK k) ↔ c ∈ D ∧ c.key ≠ k := by
  induction D with
  | nil => simp
  | cons d D ih =>
    rw [List.pairwise_cons] at h
    by_cases hd : isK k d = true
    · rw [List.eraseP_cons_of_pos hd]
      have hk := (isK_iff k d).1 hd
      constructor
      · intro hc
        exact ⟨List.mem_cons_of_mem _ hc, fun e => h.1 c hc (by rw [hk, e])⟩
      · rintro ⟨hc, hn⟩
        rcases List.mem_cons.1 hc with rfl | hc
        · exact (hn hk).elim
        · exact hc
    · rw [List.eraseP_cons_of_neg hd, List.mem_cons, ih h.2, List.mem_cons]
      have hk : d.key ≠ k := fun e => hd ((isK_iff k d).2 e)
      constructor
      · rintro (rfl | ⟨hc, hn⟩)
        · exact ⟨.inl rfl, hk⟩
        · exact ⟨.inr hc, hn⟩
      · rintro ⟨rfl | hc, hn⟩
        · exact .inl rfl
        · exact .inr ⟨hc, hn⟩
theorem Tt.del {P D : List Pr} (h : Tt P D) (k : ByteArray) : Tt (tdel P k) (D.eraseP (isK k)) :=
  ⟨srt_del h.srt k, ap_erase h.ap k, fun c => by rw [mem_erase h.ap, mem_del h.srt, h.mem]⟩
theorem Tt.put {P D : List Pr} (h : Tt P D) (p : Pr) : Tt (putT P p) (put21 D p) := by
  unfold putT put21
  by_cases hn : putN p = 0
  · rw [if_pos hn, if_pos hn]
    have hp := (putN_zero hn).1
    refine ⟨srt_put h.srt hp, ?_, fun c => ?_⟩
    · rw [List.pairwise_append]
      refine ⟨ap_erase h.ap _, by simp, fun a ha b hb => ?_⟩
      rw [List.mem_singleton] at hb
      subst hb
      exact ((mem_erase h.ap _ a).1 ha).2
    · rw [List.mem_append, List.mem_singleton, mem_erase h.ap, mem_put h.srt hp, h.mem]
      exact Or.comm
  · rw [if_neg hn, if_neg hn]; exact h
theorem find_key {D : List Pr} (h : D.Pairwise fun a b => a.key ≠ b.key) (k : ByteArray) (c : Pr) : D.find? (isK k) = some c ↔ c ∈ D ∧ c.key = k := by
  induction D with
  | nil => simp
  | cons d D ih =>
    rw [List.pairwise_cons] at h
    by_cases hd : isK k d = true
    · rw [List.find?_cons_of_pos hd, Option.some.injEq]
      have hk := (isK_iff k d).1 hd
      constructor
      · rintro rfl; exact ⟨List.mem_cons_self, hk⟩
      · rintro ⟨hc, hn⟩
        rcases List.mem_cons.1 hc with rfl | hc
        · rfl
        · exact (h.1 c hc (by rw [hk, hn])).elim
    · rw [List.find?_cons_of_neg hd, ih h.2, List.mem_cons]
      have hk : d.key ≠ k := fun e => hd ((isK_iff k d).2 e)
      constructor
      · rintro ⟨hc, hn⟩; exact ⟨.inr hc, hn⟩
      · rintro ⟨rfl | hc, hn⟩
        · exact (hk hn).elim
        · exact ⟨hc, hn⟩
theorem Tt.find {P D : List Pr} (h : Tt P D) (k : ByteArray) : P.find? (isK k) = D.find? (isK k) := by
  apply Option.ext
  intro c
  rw [find_key (srt_ap h.srt), find_key h.ap, h.mem]
theorem Tt.get {P D : List Pr} (h : Tt P D) (k : ByteArray) : getT P k = D.find? (isK k) := by
  cases hf : D.find? (isK k) with
  | some c =>
    obtain ⟨hc, rfl⟩ := (find_key h.ap k c).1 hf
    exact getT_mem h.srt ((h.mem c).1 hc)
  | none =>
    refine getT_none h.srt fun c hc e => ?_
    have := (find_key h.ap k c).2 ⟨(h.mem c).2 hc, e⟩
    rw [hf] at this
    cases this
theorem mem_take_pos {P : List Pr} (h : Srt P) {k : ByteArray} (hk : Ok k) (c : Pr) : c ∈ P.take (pos P k) ↔ c ∈ P ∧ compare c.key k < 0 := by
  constructor
  · intro hc
    exact ⟨List.mem_of_mem_take hc, take_pos h hk c hc⟩
  · rintro ⟨hc, hlt⟩
    obtain ⟨j, hj, rfl⟩ := List.getElem_of_mem hc
    have := (pos_iff hk h j hj).1 (by rw [prAt_eq P j hj]; exact hlt)
    rw [List.mem_take_iff_getElem]
    exact ⟨j, by omega, rfl⟩
theorem mem_drop_pos {P : List Pr} (h : Srt P) {k : ByteArray} (hk : Ok k) (c : Pr) : c ∈ P.drop (pos P k) ↔ c ∈ P ∧ ¬ compare c.key k < 0 := by
  constructor
  · intro hc
    obtain ⟨j, hj, rfl⟩ := List.mem_drop_iff_getElem.1 hc
    refine ⟨List.getElem_mem _, fun hlt => ?_⟩
    have := (pos_iff hk h (pos P k + j) (by omega)).1 (by rw [prAt_eq P _ (by omega)]; exact hlt)
    omega
  · rintro ⟨hc, hlt⟩
    obtain ⟨j, hj, rfl⟩ := List.getElem_of_mem hc
    have hge : ¬ j < pos P k := fun hh => hlt (by have := (pos_iff hk h j hj).2 hh; rwa [prAt_eq P j hj] at this)
    rw [List.mem_drop_iff_getElem]
    exact ⟨j - pos P k, by omega, by congr 1; omega⟩
theorem Tt.cut {P D : List Pr} (h : Tt P D) (k : ByteArray) : Tt (P.take (cutN P k)) (D.filter fun p => !cutB k p) ∧ Tt (P.drop (cutN P k)) (D.filter (cutB k)) := by
  by_cases hr : right k = true
  · have hk := right_ok hr
    have hc : ∀ c ∈ D, cutB k c = !decide (compare c.key k < 0) := fun c hc => by
      unfold cutB
      rw [hr, compare_lt c.key k (ok_key (h.key c hc)) hk]; rfl
    have hn : cutN P k = pos P k := by unfold cutN; rw [if_pos hr]
    rw [hn]
    refine ⟨⟨srt_take h.srt _, h.ap.sublist List.filter_sublist, fun c => ?_⟩, ⟨srt_drop h.srt _, h.ap.sublist List.filter_sublist, fun c => ?_⟩⟩
    · rw [List.mem_filter, mem_take_pos h.srt hk, ← h.mem]
      constructor
      · rintro ⟨h1, h2⟩; rw [hc c h1] at h2; exact ⟨h1, by simpa using h2⟩
      · rintro ⟨h1, h2⟩; exact ⟨h1, by rw [hc c h1]; simpa using h2⟩
    · rw [List.mem_filter, mem_drop_pos h.srt hk, ← h.mem]
      constructor
      · rintro ⟨h1, h2⟩; rw [hc c h1] at h2; exact ⟨h1, by simpa using h2⟩
      · rintro ⟨h1, h2⟩; exact ⟨h1, by rw [hc c h1]; simpa using h2⟩
  · have hr' : right k = false := by simpa using hr
    have hc : ∀ c, cutB k c = false := fun c => by unfold cutB; rw [hr']; rfl
    have hn : cutN P k = P.length := by unfold cutN; rw [if_neg hr]
    rw [hn, List.take_length, List.drop_length]
    have e1 : (D.filter fun p => !cutB k p) = D := List.filter_eq_self.2 fun c _ => by rw [hc]; rfl
    have e2 : D.filter (cutB k) = [] := List.filter_eq_nil_iff.2 fun c _ => by rw [hc]; simp
    rw [e1, e2]
    exact ⟨h, Tt.nil⟩
theorem put21_len (xs : List Pr) (p : Pr) : (put21 xs p).length ≤ xs.length + 1 := by
  unfold put21; split
  · have := List.length_eraseP_le (l := xs) (p := isK p.key); simp only [List.length_append, List.length_cons, List.length_nil]; omega
  · omega
end Pl
end Go.Proofs.YtoiahcgaffffbaaGreatDoor
