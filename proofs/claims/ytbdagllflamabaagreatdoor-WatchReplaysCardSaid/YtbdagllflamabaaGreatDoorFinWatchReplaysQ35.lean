/- Spl, SortP: one text. -/
import Derived.Test.YtbdagllflamabaaGreatDoorFinWatchReplaysQ31
import Derived.Test.YtbdagllflamabaaGreatDoorFinWatchReplaysQ7
import Derived.Test.YtbdagllflamabaaGreatDoorFinWatchReplaysQ34
import Derived.Test.YtbdagllflamabaaGreatDoorFinWatchReplaysQ24
import Derived.Test.YtbdagllflamabaaGreatDoorFinWatchReplaysQ4
import Derived.Test.YtbdagllflamabaaGreatDoorFinWatchReplaysQ20
set_option linter.unusedVariables false
set_option linter.unusedSectionVars false
set_option linter.unusedSimpArgs false
namespace Go.Proofs.YtbdagllflamabaaGreatDoor
open Go.RowKit Go.Maps
attribute [local go_sem] Oper.semAt_some uponV
def SplEnd (w : World) (Ft Fs : Nat → Prop) (st n : Nat) (lo hi lo' hi' : ByteArray) (P P' : List Pr) (S : Int → Option An) (ob : Nat) (w' : World) : Prop :=
  Only (fun j => j = st ∨ Ft j) w w' ∧ ∃ Ft' Go Gs, StAt w' Ft' Fs st n lo hi P S ∧ StAt w' Go Gs ob n lo' hi' P' S ∧ (∀ j, Ft' j → Ft j ∨ w.heap.size ≤ j) ∧ (∀ j, BlS Go Gs ob j → w.heap.size ≤ j ∧ ¬ BlS Ft' Fs st j)
structure MSp (y : World) (Ft : Nat → Prop) (tb n : Nat) (lo' hi' : ByteArray) (P P' : List Pr) (S : Int → Option An) (s : Nat) (f : Nat → Value) (u : World) : Prop where
  only : Only Ft y u
  s0 : s = 0 → Grew y u
  ex : ∃ (ob cb nb : Nat) (F' Fo Gs : Nat → Prop), (1 ≤ s → f 5 = .pointer (some ⟨ob, 0, none⟩) ∧ TabAt u F' tb P ∧ TabAt u Fo ob P' ∧ (∀ j, F' j → Ft j ∨ y.heap.size ≤ j) ∧ (∀ j, Fo j → y.heap.size ≤ j ∧ ¬ F' j)) ∧
    (2 ≤ s → f 11 = .pointer (some ⟨cb, 0, none⟩) ∧ SeenAt u Gs cb n S ∧ (∀ j, Gs j → y.heap.size ≤ j ∧ ¬ F' j ∧ ¬ Fo j)) ∧
    (3 ≤ s → f 12 = .agg #[.pointer (some ⟨ob, 0, none⟩), .string lo', .string hi', .pointer (some ⟨cb, 0, none⟩)]) ∧
    (4 ≤ s → f 13 = .pointer (some ⟨nb, 0, none⟩) ∧ y.heap.size ≤ nb ∧ ¬ F' nb ∧ ¬ Fo nb ∧ ¬ Gs nb ∧ u.heap[nb]? = some (.cells #[.pointer (some ⟨ob, 0, none⟩), .string lo', .string hi', .pointer (some ⟨cb, 0, none⟩)] 51 (0, 0)))
def SplPost (E : Nat → Addr) (w : World) (Ft Fs : Nat → Prop) (st n : Nat) (lo hi key : ByteArray) (P : List Pr) (S : Int → Option An) (c : Nat) (e : Ending) (w' : World) : Prop :=
  (c ≠ 0 ∧ e = .returned (.tuple #[.pointer none, errOf E c]) ∧ Grew w w') ∨
  (c = 0 ∧ ∃ ob, e = .returned (.tuple #[.pointer (some ⟨ob, 0, none⟩), .nilIface]) ∧ SplEnd w Ft Fs st n lo key key hi (P.take (Pl.cutN P key)) (P.drop (Pl.cutN P key)) S ob w')
set_option maxRecDepth 100000 in
set_option maxHeartbeats 8000000 in
theorem splitS_any (S0 : Nat → Bool) (E : Nat → Addr) (hS0 : SpanS S0) {w : World} (hE : Errs S0 E w) {Ft Fs : Nat → Prop} {st n : Nat} {lo hi : ByteArray} {P : List Pr} {S : Int → Option An} (h : StAt w Ft Fs st n lo hi P S) (key : ByteArray) (hx : P.length ≤ 1000) (hl : lo.size ≤ 300) (hh : hi.size ≤ 300) (hk : key.size ≤ 300) :
    Calls Tryz.prog 87 #[.pointer (some ⟨st, 0, none⟩), .string key] w (SplPost E w Ft Fs st n lo hi key P S (Pl.cutE (Pl.rightS lo hi) (Pl.keyN key) (Pl.hasS lo hi key) lo key)) := by
  have HCUT := hid (cut_any S0 E hS0 lo hi key w (by omega) (by omega) (by omega) hE)
  unfold SplPost
  obtain ⟨tb, sb, h⟩ := h
  have HST := hid h
  have c1 := h.c1
  have c2 := h.c2
  have hst : st < w.heap.size := cell_lt c1
  clear h hE
  generalize Pl.cutE (Pl.rightS lo hi) (Pl.keyN key) (Pl.hasS lo hi key) lo key = c at *
  unfold CutPost at HCUT
  by_cases hc : c = 0
  · subst hc
    have e0 : errOf E 0 = .nilIface := rfl
    have e1 : Pl.cutA 0 lo key = (lo, key) := rfl
    have e2 : Pl.cutA 0 key hi = (key, hi) := rfl
    rw [e0, e1, e2] at HCUT
    clear e0 e1 e2
    go_enter Tryz.func87, Tryz.ntmps87
    go_wp2_with fail
    refine HCUT.out.mono ?_
    rintro e w1 ⟨rfl, hg1⟩
    have HG1 := hid hg1
    have k1 := (hg1.cells.1 _ 1 hst).trans c1
    have k2 := (hg1.cells.1 _ 2 hst).trans c2
    have z1 := (hg1.cells.2 _ 1 hst).trans (HST.out.f0 1)
    have z2 := (hg1.cells.2 _ 2 hst).trans (HST.out.f0 2)
    have hst1 := Nat.lt_of_lt_of_le hst hg1.size
    clear hg1 HCUT c1 c2
    go_upto_region 4 with fail
    obtain ⟨Y, hY⟩ : ∃ Y, Y = (w1.alloc (.cells #[.string lo, .string key] 39)).alloc (.cells #[.string key, .string hi] 39) := ⟨_, rfl⟩
    have gY : Grew w1 Y := by rw [hY]; exact ((Grew.refl w1).alloc _).alloc _
    have a0 : Y.cell? ⟨w1.heap.size, 0, none⟩ = some (.string lo) := by rw [hY]; simp [go_sem]
    have a1 : Y.cell? ⟨w1.heap.size, 1, none⟩ = some (.string key) := by rw [hY]; simp [go_sem]
    have b0 : Y.cell? ⟨w1.heap.size + 1, 0, none⟩ = some (.string key) := by rw [hY]; simp [go_sem]
    have b1 : Y.cell? ⟨w1.heap.size + 1, 1, none⟩ = some (.string hi) := by rw [hY]; simp [go_sem]
    rw [← hY]
    obtain ⟨x1, hx1⟩ : ∃ x1, x1 = w1.heap.size := ⟨_, rfl⟩
    obtain ⟨x2, hx2⟩ : ∃ x2, x2 = w1.heap.size + 1 := ⟨_, rfl⟩
    rw [← hx2] at b0 b1 ⊢
    rw [← hx1] at a0 a1 ⊢
    have hxn := hid (show w1.heap.size ≤ x1 ∧ w1.heap.size ≤ x2 from ⟨by omega, by omega⟩)
    have k1 := (gY.cells.1 _ 1 hst1).trans k1
    have k2 := (gY.cells.1 _ 2 hst1).trans k2
    have z1 := (gY.cells.2 _ 1 hst1).trans z1
    have z2 := (gY.cells.2 _ 2 hst1).trans z2
    have HGY := hid (HG1.out.trans gY)
    have hstY := Nat.lt_of_lt_of_le hst1 gY.size
    have hl1 := cell_lt a0
    have hl2 := cell_lt b0
    clear hY gY hx1 hx2
    go_upto_region 5 with fail
    obtain ⟨Z, hZ⟩ : ∃ Z, Z = (Y.setCell ⟨st, 1, none⟩ (.string lo)).setCell ⟨st, 2, none⟩ (.string key) := ⟨_, rfl⟩
    have hO : Only (fun j => j = st) Y Z := by rw [hZ]; exact (Only.setCell Y ⟨st, 1, none⟩ _).then (Only.setCell _ ⟨st, 2, none⟩ _)
    have d1 : Z.cell? ⟨st, 1, none⟩ = some (.string lo) := by rw [hZ]; simp [go_sem, k1]
    have d2 : Z.cell? ⟨st, 2, none⟩ = some (.string key) := by rw [hZ]; simp [go_sem, k2]
    have d0 : Z.cell? ⟨st, 0, none⟩ = some (.pointer (some ⟨tb, 0, none⟩)) := by
      have q := (HGY.out.cells.1 _ 0 hst).trans HST.out.c0
      rw [hZ]; simp [go_sem, q]
    have d3 : Z.cell? ⟨st, 3, none⟩ = some (.pointer (some ⟨sb, 0, none⟩)) := by
      have q := (HGY.out.cells.1 _ 3 hst).trans HST.out.c3
      rw [hZ]; simp [go_sem, q]
    have dz := hid (fun i => show Z.frozen? ⟨st, i, none⟩ = false from by
      have q := (HGY.out.cells.2 _ i hst).trans (HST.out.f0 i)
      rw [hZ, World.frozen?_setCell, World.frozen?_setCell]; exact q)
    have hx2s : ¬ x2 = st := by have := hxn.out; omega
    have b0 := (hO.cell hl2 hx2s 0).trans b0
    have b1 := (hO.cell hl2 hx2s 1).trans b1
    have HZO := hid (show Only (fun j => j = st) w Z from (HGY.out.only _).then hO)
    have HTZ := hid (HST.out.tab.kept HZO.out (fun j hj e => (HST.out.apart j hj).2 e))
    have HSZ := hid (HST.out.seen.kept HZO.out (fun j hj e => HST.out.own j hj e))
    have HAP := hid (fun j (hj : Ft j) => (HST.out.apart j hj).1)
    have HD := hid (And.intro d1 (And.intro d2 (And.intro d0 d3)))
    have hZs := HZO.out.size
    have hn0 : ¬ Ft st := fun h => (HST.out.apart st h).2 rfl
    have hn2 : ¬ Ft x2 := fun h => by have := tabAt_lt HST.out.tab x2 h; have := hxn.out; have := HG1.out.size; omega
    rw [← hZ]
    clear hZ hO a0 a1 k1 k2 z1 z2 hl1 hl2 hx2s
    have hstZ := cell_lt d0
    have hx2Z := cell_lt b0
    have D0 := wd_only (S := Ft) d0 hn0
    have D3 := wd_only (S := Ft) d3 hn0
    have B0 := wd_only (S := Ft) b0 hn2
    have B1 := wd_only (S := Ft) b1 hn2
    have h0M : MSp Z Ft tb n key hi (P.take (Pl.cutN P key)) (P.drop (Pl.cutN P key)) S 0 (fun _ => undef) Z.drew := ⟨((Grew.refl Z).drew).only _, fun _ => (Grew.refl Z).drew, 0, 0, 0, fun _ => False, fun _ => False, fun _ => False, (fun e => by omega), (fun e => by omega), (fun e => by omega), (fun e => by omega)⟩
    have H0M := hid h0M
    clear h0M d0 d1 d2 d3 b0 b1 hn0 hn2
    refine wp_region_mixS 14 [5, 11, 12, 13] (Only Ft Z) Eq (JC [5, 11, 12, 13] (MSp Z Ft tb n key hi (P.take (Pl.cutN P key)) (P.drop (Pl.cutN P key)) S)) (fun f a => (((a.put (some 31) (f 5)).put (some 37) (f 11)).put (some 38) (f 12)).put (some 39) (f 13)) (by kernel_rfl) (by kernel_rfl) (fun _ _ => rfl) (JC.start H0M.out) (fun _ _ _ h => by obtain ⟨s, _, _, h⟩ := h.ex; exact h.only) (fun _ => rfl) (fun _ _ _ _ h g => g ▸ h) ?_
    repeat (first
    | (refine mixS_loose (by rfl) (by rfl) ?_)
    | (refine mixS_plain (by rfl) (by rfl) (by rfl) (by first | exact Grew.refl | exact fun _ => rfl) (by rfl) ?_; intro K hK; go_big_quiet_op; go_big_quiet_on)
    | (refine mixS_skip (by rfl) (by rfl) (by rfl) ?_; simp only [Act.put, List.setIfInBounds_toArray, List.set_cons_zero, List.set_cons_succ]))
    refine mixS_done (by rfl) ⟨⟨loose_of rfl (fun _ a => a) (fun _ _ => rfl) (fun _ => rfl) ?_, loose_of rfl (fun f a => a.put (some 31) (f 5)) (fun _ _ => rfl) (fun _ => rfl) ?_, loose_of rfl (fun f a => (a.put (some 31) (f 5)).put (some 37) (f 11)) (fun _ _ => rfl) (fun _ => rfl) ?_, loose_of rfl (fun f a => a.put (some 38) (f 12)) (fun _ _ => rfl) (fun _ => rfl) ?_, trivial⟩, ?_⟩
    · intro L f u hJ hL hd
      have hp : ∀ k, 0 = k + 1 → ∃ i', ([5, 11, 12, 13] : List Nat)[k]? = some i' ∧ L i' = true := fun k e => by omega
      have HM := hid (hJ.stage 0 5 rfl hL hp).2
      have HPUT := hid (fun u' v (h : MSp Z Ft tb n key hi (P.take (Pl.cutN P key)) (P.drop (Pl.cutN P key)) S 1 (updV f 5 v) u') => hJ.put (by decide) 0 5 rfl hL hp h)
      clear hJ hL hd hp D0 D3 B0 B1
      go_simp
      have hgu := HM.out.s0 rfl
      refine (cutT_any (HTZ.out.grew hgu) (by omega) key (by omega)).mono ?_
      rintro e u' ⟨ob, rfl, hO, F', Fo, h1, h2, h3, h4⟩
      have hus := hgu.size
      exact ⟨_, rfl, HPUT.out _ _ ⟨HM.out.only.then hO, (fun e => by omega), ob, 0, 0, F', Fo, fun _ => False, (fun _ => ⟨updV_same _ _ _, h1, h2, fun j hj => (h3 j hj).imp id fun q => by omega, fun j hj => ⟨by have := (h4 j hj).1; omega, (h4 j hj).2⟩⟩), (fun e => by omega), (fun e => by omega), (fun e => by omega)⟩⟩
    · intro L f u hJ hL hd
      have hp : ∀ k, 1 = k + 1 → ∃ i', ([5, 11, 12, 13] : List Nat)[k]? = some i' ∧ L i' = true := fun k e => by obtain rfl : k = 0 := (by omega); exact ⟨5, rfl, hd 5 rfl (by decide)⟩
      have HM := hid (hJ.stage 1 11 rfl hL hp).2
      have HPUT := hid (fun u' v (h : MSp Z Ft tb n key hi (P.take (Pl.cutN P key)) (P.drop (Pl.cutN P key)) S 2 (updV f 11 v) u') => hJ.put (by decide) 1 11 rfl hL hp h)
      clear hJ hL hd hp D0 D3 B0 B1
      go_simp
      have hus := HM.out.only.size
      obtain ⟨ob, _, _, F', Fo, _, m1, _⟩ := HM.out.ex
      obtain ⟨q1, q2, q3, q4, q5⟩ := m1 (by omega)
      refine (copyD_any (HSZ.out.kept HM.out.only (fun j hj e => HAP.out j e hj))).mono ?_
      rintro e u' ⟨cb, Gs, rfl, h1, h2, hg⟩
      exact ⟨_, rfl, HPUT.out _ _ ⟨HM.out.only.grewT hg, (fun e => by omega), ob, cb, 0, F', Fo, Gs, (fun _ => ⟨by rw [updV_ne (by decide)]; exact q1, q2.grew hg, q3.grew hg, q4, q5⟩), (fun _ => ⟨updV_same _ _ _, h1, fun j hj => ⟨by have := h2 j hj; omega, fun e => by have := h2 j hj; have := tabAt_lt q2 j e; omega, fun e => by have := h2 j hj; have := tabAt_lt q3 j e; omega⟩⟩), (fun e => by omega), (fun e => by omega)⟩⟩
    · intro L f u hJ hL hd
      have hp : ∀ k, 2 = k + 1 → ∃ i', ([5, 11, 12, 13] : List Nat)[k]? = some i' ∧ L i' = true := fun k e => by obtain rfl : k = 1 := (by omega); exact ⟨11, rfl, hd 11 rfl (by decide)⟩
      have HM := hid (hJ.stage 2 12 rfl hL hp).2
      have HPUT := hid (fun u' v (h : MSp Z Ft tb n key hi (P.take (Pl.cutN P key)) (P.drop (Pl.cutN P key)) S 3 (updV f 12 v) u') => hJ.put (by decide) 2 12 rfl hL hp h)
      obtain ⟨ob, cb, _, F', Fo, Gs, m1, m2, _⟩ := HM.out.ex
      have q1 := m1 (by omega)
      have q2 := m2 (by omega)
      have HQ := hid (And.intro q1 q2)
      have e5 := q1.1
      have e11 := q2.1
      clear hJ hL hd hp D0 D3 m1 m2 q1 q2
      rw [e5, e11]
      clear e5 e11
      go_simp
      obtain ⟨q1, q2⟩ := HQ.out
      exact HPUT.out _ _ ⟨HM.out.only, (fun e => by omega), ob, cb, 0, F', Fo, Gs, (fun _ => ⟨by rw [updV_ne (by decide)]; exact q1.1, q1.2⟩), (fun _ => ⟨by rw [updV_ne (by decide)]; exact q2.1, q2.2⟩), (fun _ => updV_same _ _ _), (fun e => by omega)⟩
    · intro L f u hJ hL hd
      have hp : ∀ k, 3 = k + 1 → ∃ i', ([5, 11, 12, 13] : List Nat)[k]? = some i' ∧ L i' = true := fun k e => by obtain rfl : k = 2 := (by omega); exact ⟨12, rfl, hd 12 rfl (by decide)⟩
      have HM := hid (hJ.stage 3 13 rfl hL hp).2
      have HPUT := hid (fun u' v (h : MSp Z Ft tb n key hi (P.take (Pl.cutN P key)) (P.drop (Pl.cutN P key)) S 4 (updV f 13 v) u') => hJ.put (by decide) 3 13 rfl hL hp h)
      obtain ⟨ob, cb, _, F', Fo, Gs, m1, m2, m3, _⟩ := HM.out.ex
      have q1 := m1 (by omega)
      have q2 := m2 (by omega)
      have q3 := m3 (by omega)
      have HQ := hid (And.intro q1 (And.intro q2 q3))
      clear hJ hL hd hp D0 D3 B0 B1 m1 m2 m3 q1 q2
      rw [q3]
      clear q3
      go_simp
      obtain ⟨⟨q1, t1, t2, t3, t4⟩, ⟨q2, s1, s2⟩, q3⟩ := HQ.out
      have gA : Grew u (u.alloc (.cells #[.pointer (some ⟨ob, 0, none⟩), .string key, .string hi, .pointer (some ⟨cb, 0, none⟩)] 51)) := (Grew.refl u).alloc _
      exact HPUT.out _ _ ⟨HM.out.only.grewT gA, (fun e => by omega), ob, cb, u.heap.size, F', Fo, Gs, (fun _ => ⟨by rw [updV_ne (by decide)]; exact q1, t1.grew gA, t2.grew gA, t3, t4⟩), (fun _ => ⟨by rw [updV_ne (by decide)]; exact q2, s1.grew gA, s2⟩), (fun _ => by rw [updV_ne (by decide)]; exact q3), (fun _ => ⟨updV_same _ _ _, HM.out.only.size, fun e => by have := tabAt_lt t1 _ e; omega, fun e => by have := tabAt_lt t2 _ e; omega, fun e => by have := s1.lt _ e; omega, heap_alloc_new u _⟩)⟩
    intro f u hJ
    have hM := hJ.done (by decide)
    obtain ⟨ob, cb, nb, F', Fo, Gs, m1, m2, m3, m4⟩ := hM.ex
    obtain ⟨e5, t1, t2, t3, t4⟩ := m1 (by decide)
    obtain ⟨e11, s1, s2⟩ := m2 (by decide)
    have e12 := m3 (by decide)
    obtain ⟨e13, n0, n1, n2, n3, hnb⟩ := m4 (by decide)
    have HFIN := hid (show SplEnd w Ft Fs st n lo key key hi (P.take (Pl.cutN P key)) (P.drop (Pl.cutN P key)) S nb u from by
      have hou := hM.only
      have hl := tabAt_lt HST.out.tab
      have hs := HST.out.seen.lt
      have hnst : ¬ Ft st := fun h => (HST.out.apart st h).2 rfl
      have hcell : ∀ (i : Nat) v, Z.cell? ⟨st, i, none⟩ = some v → u.cell? ⟨st, i, none⟩ = some v := fun i v hv => (hou.cell hstZ hnst i).trans hv
      refine ⟨(HZO.out.mono fun j hj => .inl (.inl hj)).then (hou.mono fun j hj => .inl (.inr hj)), F', Fo, Gs, ⟨tb, sb, hcell 0 _ HD.out.2.2.1, hcell 1 _ HD.out.1, hcell 2 _ HD.out.2.1, hcell 3 _ HD.out.2.2.2, fun i => (hou.frozen hstZ hnst i).trans (dz.out i), t1, HSZ.out.kept hou (fun j hj e => HAP.out j e hj), HST.out.good.sub (List.take_sublist _ _), fun j hj => ?_, HST.out.own⟩, ⟨ob, cb, ?_, ?_, ?_, ?_, fun i => ?_, t2, s1, HST.out.good.sub (List.drop_sublist _ _), fun j hj => ⟨fun e => (s2 j e).2.2 hj, fun e => n2 (by rw [← e]; exact hj)⟩, fun j hj e => n3 (by rw [← e]; exact hj)⟩, fun j hj => (t3 j hj).imp id fun q => by omega, fun j hj => ?_⟩
      · rcases t3 j hj with q | q
        · exact HST.out.apart j q
        · exact ⟨fun e => by have := hs j e; omega, fun e => by omega⟩
      · rw [cell_block hnb]; rfl
      · rw [cell_block hnb]; rfl
      · rw [cell_block hnb]; rfl
      · rw [cell_block hnb]; rfl
      · simp [World.frozen?, hnb]
      · have hj' : Z.heap.size ≤ j ∧ ¬ F' j := by
          rcases hj with q | q | rfl
          · exact t4 j q
          · exact ⟨(s2 j q).1, (s2 j q).2.1⟩
          · exact ⟨n0, n1⟩
        refine ⟨by omega, ?_⟩
        rintro (q | q | q)
        · exact hj'.2 q
        · have := hs j q; omega
        · omega)
    clear hJ hM m1 m2 m3 m4 t1 t2 t3 t4 s1 s2 n0 n1 n2 n3 hnb D0 D3 B0 B1 H0M
    dsimp only [List.drop]
    simp only [Act.put, List.setIfInBounds_toArray, List.set_cons_succ, List.set_cons_zero]
    rw [e5, e11, e12, e13]
    clear e5 e11 e12 e13
    go_wp2_with fail
    go_ret2
    exact ⟨nb, rfl, HFIN.out⟩
  · have hcN := hid hc
    have e1 : Pl.cutA c lo key = (noText, noText) := by unfold Pl.cutA; rw [if_neg hc]
    have e2 : Pl.cutA c key hi = (noText, noText) := by unfold Pl.cutA; rw [if_neg hc]
    rw [e1, e2] at HCUT
    have HEI : Hid (errOf E c = .iface 343 (.pointer (some (E c)))) := by
      unfold Hid errOf
      rw [if_neg hc]
    rw [HEI.out] at HCUT
    clear e1 e2 hc
    go_enter Tryz.func87, Tryz.ntmps87
    go_wp2_with fail
    refine HCUT.out.mono ?_
    rintro e w1 ⟨rfl, hg1⟩
    have HG2 := hid (show Grew w ((w1.alloc (.cells #[.string noText, .string noText] 39)).alloc (.cells #[.string noText, .string noText] 39)) from (hg1.alloc _).alloc _)
    clear hg1 HCUT
    go_wp2_with fail
    go_ret2
    exact .inl ⟨hcN.out, by rw [HEI.out]; rfl, HG2.out⟩
end Go.Proofs.YtbdagllflamabaaGreatDoor
namespace Go.Proofs.YtbdagllflamabaaGreatDoor
open Go.Shelf
def Tryz.sortPair_ren : Go.Shelf.Ren := ⟨fun | 6 => 177 | 15 => 154 | 14 => 197 | 28 => 187 | 29 => 188 | 20 => 208 | 21 => 209 | 22 => 210 | 23 => 211 | 24 => 212 | 25 => 213 | 26 => 214 | 27 => 215 | 46 => 219 | 47 => 199 | 48 => 200 | 49 => 220 | 50 => 221 | 57 => 231 | n => n, fun | 22 => 36 | 24 => 42 | 25 => 291 | 3 => 3 | 39 => 250 | 0 => 0 | 53 => 300 | 55 => 302 | 4 => 4 | 46 => 294 | 45 => 293 | 50 => 170 | 5 => 5 | 9 => 9 | 66 => 312 | 70 => 316 | 76 => 327 | 77 => 328 | n => n, fun | n => n⟩
theorem Tryz.sortPair : Go.Proofs.SlLaysF0.n6 Tryz.prog Tryz.sortPair_ren := {
  mixed := by kernel_rfl
  f6 := ⟨Tryz.f177.name, by decide, Tryz.func177.trans (congrArg some (by kernel_rfl))⟩
  f14 := ⟨Tryz.f197.name, by decide, Tryz.func197.trans (congrArg some (by kernel_rfl))⟩
  f15 := Tryz.func154.trans (congrArg some (by kernel_rfl))
  f20 := ⟨Tryz.f208.name, by decide, Tryz.func208.trans (congrArg some (by kernel_rfl))⟩
  f21 := ⟨Tryz.f209.name, by decide, Tryz.func209.trans (congrArg some (by kernel_rfl))⟩
  f22 := ⟨Tryz.f210.name, by decide, Tryz.func210.trans (congrArg some (by kernel_rfl))⟩
  f23 := ⟨Tryz.f211.name, by decide, Tryz.func211.trans (congrArg some (by kernel_rfl))⟩
  f24 := ⟨Tryz.f212.name, by decide, Tryz.func212.trans (congrArg some (by kernel_rfl))⟩
  f25 := ⟨Tryz.f213.name, by decide, Tryz.func213.trans (congrArg some (by kernel_rfl))⟩
  f26 := ⟨Tryz.f214.name, by decide, Tryz.func214.trans (congrArg some (by kernel_rfl))⟩
  f27 := ⟨Tryz.f215.name, by decide, Tryz.func215.trans (congrArg some (by kernel_rfl))⟩
  f28 := Tryz.func187.trans (congrArg some (by kernel_rfl))
  f29 := Tryz.func188.trans (congrArg some (by kernel_rfl))
  f46 := ⟨Tryz.f219.name, by decide, Tryz.func219.trans (congrArg some (by kernel_rfl))⟩
  f47 := Tryz.func199.trans (congrArg some (by kernel_rfl))
  f48 := Tryz.func200.trans (congrArg some (by kernel_rfl))
  f49 := ⟨Tryz.f220.name, by decide, Tryz.func220.trans (congrArg some (by kernel_rfl))⟩
  f50 := ⟨Tryz.f221.name, by decide, Tryz.func221.trans (congrArg some (by kernel_rfl))⟩
  f57 := ⟨Tryz.f231.name, by decide, Tryz.func231.trans (congrArg some (by kernel_rfl))⟩
  t0 := Tryz.underlying0
  a0 := Tryz.isAgg0
  z0 := Tryz.sizeOf0
  v0 := Tryz.zeroValue0
  t3 := Tryz.underlying3
  a3 := Tryz.isAgg3
  z3 := Tryz.sizeOf3
  v3 := Tryz.zeroValue3
  t4 := Tryz.underlying4
  a4 := Tryz.isAgg4
  z4 := Tryz.sizeOf4
  v4 := Tryz.zeroValue4
  t5 := Tryz.underlying5
  a5 := Tryz.isAgg5
  z5 := Tryz.sizeOf5
  v5 := Tryz.zeroValue5
  t9 := Tryz.underlying9
  a9 := Tryz.isAgg9
  z9 := Tryz.sizeOf9
  v9 := Tryz.zeroValue9
  t22 := Tryz.underlying36
  a22 := Tryz.isAgg36
  z22 := Tryz.sizeOf36
  v22 := Tryz.zeroValue36
  t25 := Tryz.underlying291
  a25 := Tryz.isAgg291
  z25 := Tryz.sizeOf291
  v25 := Tryz.zeroValue291
  t39 := Tryz.underlying250
  a39 := Tryz.isAgg250
  z39 := Tryz.sizeOf250
  v39 := Tryz.zeroValue250
  t45 := Tryz.underlying293
  a45 := Tryz.isAgg293
  z45 := Tryz.sizeOf293
  v45 := Tryz.zeroValue293
  t46 := Tryz.underlying294
  a46 := Tryz.isAgg294
  z46 := Tryz.sizeOf294
  v46 := Tryz.zeroValue294
  t50 := Tryz.underlying170
  a50 := Tryz.isAgg170
  z50 := Tryz.sizeOf170
  v50 := Tryz.zeroValue170
  t53 := Tryz.underlying300
  a53 := Tryz.isAgg300
  z53 := Tryz.sizeOf300
  v53 := Tryz.zeroValue300
  t55 := Tryz.underlying302
  a55 := Tryz.isAgg302
  z55 := Tryz.sizeOf302
  v55 := Tryz.zeroValue302
  t66 := Tryz.underlying312
  a66 := Tryz.isAgg312
  z66 := Tryz.sizeOf312
  v66 := Tryz.zeroValue312
  t70 := Tryz.underlying316
  a70 := Tryz.isAgg316
  z70 := Tryz.sizeOf316
  v70 := Tryz.zeroValue316
  t76 := Tryz.underlying327
  a76 := Tryz.isAgg327
  z76 := Tryz.sizeOf327
  v76 := Tryz.zeroValue327
  t77 := Tryz.underlying328
  a77 := Tryz.isAgg328
  z77 := Tryz.sizeOf328
  v77 := Tryz.zeroValue328 }
end Go.Proofs.YtbdagllflamabaaGreatDoor
namespace Go.Proofs.YtbdagllflamabaaGreatDoor
open Go.RowKit Go.Shelf Go.Lib Go.Sort
attribute [local go_sem] Oper.semAt_some
theorem swoKey {α : Type} (f : α → ByteArray) (hf : ∀ x, Pl.Ok (f x)) : SWO (ltOf fun x y => Pl.compare (f x) (f y)) where
  irrefl x := by
    simp only [ltOf, Pl.compare_self (hf x)]; decide
  trans x y z h k := by
    simp only [ltOf, decide_eq_true_eq] at *
    exact Pl.compare_trans (hf x) (hf y) (hf z) h k
  ntrans x y z h k := by
    simp only [ltOf, decide_eq_false_iff_not] at *
    intro hz
    have s1 := Pl.compare_swap (hf x) (hf y)
    have s2 := Pl.compare_swap (hf y) (hf z)
    by_cases h1 : Pl.compare (f y) (f x) < 0
    · have := Pl.compare_trans (hf y) (hf x) (hf z) h1 hz
      omega
    · have h2 : Pl.compare (f x) (f y) = 0 := by omega
      have e := Pl.compare_zero (hf x) (hf y) h2
      rw [e] at hz; omega
theorem ownsRow_putRow {w : World} {B : Nat} {e : TypeId} {k g cap n : Nat} {L : List Value} (ho : w.ownsRow B e k (.slice (some ⟨g, 0, none⟩) n cap) n L) (h0 : 0 < n) (F : Array Value) (hF : F.size = n * k) :
    (putRow id w g 0 F).ownsRow B e k (.slice (some ⟨g, 0, none⟩) n cap) n F.toList ∧ Only (fun j => j = g) w (putRow id w g 0 F) := by
  obtain ⟨g', cap', cur, e1, hB, hg, hn, hc, hl, hx⟩ := ownsRow_block ho h0
  cases e1
  have hnk : n * k ≤ cap * k := Nat.mul_le_mul_right k hn
  have hheap : (putRow id w g 0 F).heap[g]? = some (.cells ((putCells id 0 F cur.toArray).toList).toArray e (0, 0)) := by
    unfold putRow mapBlock
    dsimp only
    rw [Array.getElem?_modify, if_pos rfl, hg]
    simp [onCells]
  refine ⟨ownsRow_of_block hB hheap hn hc ?_ ?_, ⟨rfl, rfl, rfl, ?_, ?_⟩⟩
  · unfold putCells; simp [hl]
  · apply List.ext_getElem?
    intro t
    rw [List.getElem?_take]
    by_cases ht : t < n * k
    · rw [if_pos ht]
      have h1 : (putCells id 0 F cur.toArray).toList[t]? = some F[t]! := by
        unfold putCells
        rw [Array.getElem?_toList, Array.getElem?_mapIdx]
        have : cur.toArray[t]? = some cur[t] := by simp [List.getElem?_eq_getElem (show t < cur.length by omega)]
        rw [this]
        simp only [Option.map_some, Nat.zero_le, Nat.zero_add, Nat.sub_zero, true_and, id]
        rw [if_pos (by omega)]
      rw [h1, Array.getElem?_toList, getElem!_pos F t (by omega), Array.getElem?_eq_getElem (by omega)]
    · rw [if_neg ht, Array.getElem?_toList, Array.getElem?_eq_none (by omega)]
  · unfold putRow mapBlock; simp
  · intro j hj hne
    unfold putRow mapBlock
    dsimp only
    rw [Array.getElem?_modify, if_neg (fun h => hne h.symm)]
structure PrK where
  val : Pr
  ok : Pl.Ok val.key ∧ val.key.size ≤ 70368744177664
instance : Inhabited PrK := ⟨⟨Pr.none, ⟨[], rfl⟩, by decide⟩⟩
def encPr (x : PrK) : List Value := x.1.vals
def cfPr (x y : PrK) : Int := Pl.compare x.1.key y.1.key
theorem flat_pr (d : Array PrK) : (flatK encPr 3 d).toList = prFlat (d.toList.map PrK.val) := by
  apply List.ext_getElem?
  intro t
  by_cases ht : t < d.size * 3
  · have h1 : (flatK encPr 3 d).toList[t]? = some (flatK encPr 3 d)[t]! := by
      rw [Array.getElem?_toList, Array.getElem?_eq_getElem (by rw [size_flatK]; exact ht), getElem!_pos _ t (by rw [size_flatK]; exact ht)]
    have h2 := prFlat_get (t % 3) (Nat.mod_lt _ (by decide)) (d.toList.map PrK.val) (t / 3) (by simp; omega)
    rw [show t / 3 * 3 + t % 3 = t by omega] at h2
    rw [h1, h2, get_flatK _ _ _ _ ht, prAt_eq _ _ (by simp; omega)]
    have h3 : (d.toList.map PrK.val)[t / 3]'(by simp; omega) = (d[t / 3]!).1 := by
      rw [getElem!_pos d (t / 3) (by omega)]; simp
    rw [h3]
    unfold encPr
    have h4 : t % 3 < 3 := Nat.mod_lt _ (by decide)
    generalize t % 3 = r at h4
    generalize (d[t / 3]!).1 = c
    unfold Pr.vals
    match r, h4 with
    | 0, _ => rfl
    | 1, _ => rfl
    | 2, _ => rfl
  · rw [List.getElem?_eq_none (by rw [Array.length_toList, size_flatK]; omega), List.getElem?_eq_none (by rw [prFlat_length]; simp; omega)]
theorem joinLess (x y : PrK) (W : World) : Calls Tryz.prog 178 #[.agg #[.string x.1.key, .string x.1.val, .int .i64 x.1.ver], .agg #[.string y.1.key, .string y.1.val, .int .i64 y.1.ver]] W fun e w' => e = .returned (.int .i64 (cfPr x y)) ∧ GrewD W w' := by
  have hc := fun W => compareD_any x.1.key y.1.key W x.2.2 y.2.2
  change ∀ W, Calls Tryz.prog 59 _ W (fun e w' => e = .returned (.int .i64 (cfPr x y)) ∧ _) at hc
  have HC := hid hc
  clear hc
  generalize cfPr x y = r at HC ⊢
  go_enter Tryz.func178, Tryz.ntmps178
  go_wp2_with fail
  refine (HC.out _).mono ?_
  rintro e w1 ⟨rfl, hg⟩
  go_wp2_with fail
  go_ret
  exact ⟨rfl, (((GrewD.refl W).alloc _).alloc _).trans hg⟩
theorem cmpPr (blk off size : Nat) (w : World) : CmpLays Tryz.prog 178 #[] encPr 3 cfPr blk off size w :=
  fun _ _ _ _ x y => (joinLess x y _).mono fun _ _ ⟨he, hg⟩ => ⟨he, hg.grown⟩
def prK (xs : List Pr) (hok : ∀ c ∈ xs, Pl.Ok c.key ∧ c.key.size ≤ 70368744177664) : Array PrK := (xs.attach.map fun c => (⟨c.1, hok c.1 c.2⟩ : PrK)).toArray
theorem prK_val (xs : List Pr) (hok) : (prK xs hok).toList.map PrK.val = xs := by unfold prK; simp
theorem prK_size (xs : List Pr) (hok) : (prK xs hok).size = xs.length := by unfold prK; simp
theorem holds_pr {w : World} {B g cap : Nat} {xs : List Pr} (ho : w.ownsRow B 42 3 (.slice (some ⟨g, 0, none⟩) xs.length cap) xs.length (prFlat xs)) (h0 : 0 < xs.length) (hok : ∀ c ∈ xs, Pl.Ok c.key ∧ c.key.size ≤ 70368744177664) : HoldsK encPr 3 w g 0 (prK xs hok) := by
  obtain ⟨g', cap', cur, e, hB, hg, hn, hc, hl, hx⟩ := ownsRow_block ho h0
  cases e
  intro t ht
  have ht' := ht
  rw [size_flatK, prK_size] at ht'
  refine ⟨?_, ?_⟩
  · rw [Nat.zero_add, cell_block hg t]
    have h1 : cur[t]? = (prFlat xs)[t]? := by rw [← hx, List.getElem?_take, if_pos ht']
    have h2 := flat_pr (prK xs hok)
    rw [prK_val] at h2
    rw [h1, ← h2, Array.getElem?_toList, Array.getElem?_eq_getElem ht, getElem!_pos _ t ht]; rfl
  · unfold World.frozen?
    dsimp only
    rw [hg]
    rfl
theorem sortPairs (w : World) (B g cap : Nat) (xs : List Pr) (ho : w.ownsRow B 42 3 (.slice (some ⟨g, 0, none⟩) xs.length cap) xs.length (prFlat xs)) (h0 : 0 < xs.length) (hbig : xs.length ≤ 1000000) (hok : ∀ c ∈ xs, Pl.Ok c.key ∧ c.key.size ≤ 70368744177664) :
    Calls Tryz.prog 177 #[.slice (some ⟨g, 0, none⟩) xs.length cap, .func (.func 178) #[] #[]] w fun e w' => e = .returned (.tuple #[]) ∧ Only (fun j => j = g) w w' ∧ ∃ zs : List Pr, zs.Perm xs ∧ zs.Pairwise (fun a b => ¬ Pl.compare b.key a.key < 0) ∧ w'.ownsRow B 42 3 (.slice (some ⟨g, 0, none⟩) zs.length cap) zs.length (prFlat zs) := by
  have hH := holds_pr ho h0 hok
  have hlt : g < w.heap.size := by
    obtain ⟨_, _, e, _, hlt⟩ := ho.form h0
    cases e
    exact hlt
  have eg : ∀ args w, (callFunc 178 args).run Tryz.prog w = .ok (.enter 178 args) w := enters_of Tryz.func178 (by kernel_rfl) rfl
  have hcon := AnyQ.slices_SortFunc Tryz.sortPair 3 Tryz.isAgg42 Tryz.sizeOf42 encPr (fun _ => rfl) (fun x v hv => by simp [encPr, Pr.vals] at hv; rcases hv with rfl | rfl | rfl <;> rfl) cfPr (swoKey (fun x : PrK => x.1.key) fun x => x.2.1) 178 #[] g 0 cap (prK xs hok) w eg (cmpPr g 0 _ w) hH hlt (by rw [prK_size]; omega)
  rw [prK_size] at hcon
  refine hcon.mono ?_
  rintro e w' ⟨he, d', n, os, hp, hd, hw⟩
  obtain ⟨hs, _, hperm⟩ := hp
  rw [prK_size] at hs
  have e1 : (prK xs hok).extract 0 xs.length = prK xs hok := by rw [← prK_size xs hok]; simp
  have e2 : d'.extract 0 xs.length = d' := by rw [← hs]; simp
  rw [e1, e2] at hperm
  have hlen : (d'.toList.map PrK.val).length = xs.length := by simp [hs]
  obtain ⟨hr, hO⟩ := ownsRow_putRow (w := Sort.ahead w n) (show (Sort.ahead w n).ownsRow B 42 3 _ _ _ from ho) h0 (flatK encPr 3 d') (by rw [size_flatK, hs])
  have hO1 : Only (fun j => j = g) w (putRow id (Sort.ahead w n) g 0 (flatK encPr 3 d')) := (Only.mono (show Only (fun j => j = g) w (Sort.ahead w n) from ⟨rfl, rfl, rfl, Nat.le_refl _, fun _ _ _ => rfl⟩) (fun _ h => .inl h)).then hO
  have hG : Grew (putRow id (Sort.ahead w n) g 0 (flatK encPr 3 d')) w' := by
    rw [hw]
    refine ⟨rfl, rfl, rfl, ?_, ?_⟩
    · unfold sortWorldK grow putRowK; simp
    · intro k hk
      show (_ ++ os)[k]? = _
      rw [Array.getElem?_append]
      exact if_pos hk
  refine ⟨he, hO1.grewT hG, d'.toList.map PrK.val, ?_, ?_, ?_⟩
  · have := hperm.map PrK.val
    rwa [prK_val] at this
  · rw [List.pairwise_map, List.pairwise_iff_getElem]
    intro i j hi hj hij
    have := hd i j (Nat.zero_le _) hij (by simpa [hs] using hj)
    rw [getElem!_pos d' i (by simpa using hi), getElem!_pos d' j (by simpa using hj)] at this
    unfold ltOf cfPr at this
    simpa using this
  · rw [hlen, ← flat_pr]
    exact ownsRow_grew hG hr
end Go.Proofs.YtbdagllflamabaaGreatDoor
