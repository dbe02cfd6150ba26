/- The walk of tidewaterref20.Map.Apply: a split. -/
import Derived.Test.YtajoihpjnnnkeaaDoorA20a
import Derived.Test.YtajoihpjnnnkeaaDoorShd6
import Derived.Test.YtajoihpjnnnkeaaDoorRef03b
set_option linter.unusedVariables false
set_option linter.unusedSectionVars false
set_option linter.unusedSimpArgs false
namespace Go.Proofs.YtajoihpjnnnkeaaDoor
open Go.RowKit Go.Maps
attribute [local go_sem] Oper.semAt_some uponV

theorem info_sh20 : (Tryd.prog.info? 48).map (fun i => (i.zero, i.size, i.bytes)) = some (some (.agg #[.int .i64 0, .int .i64 0, .int .i64 0, .string ⟨#[]⟩, .string ⟨#[]⟩]), 5, 56) := by kernel_rfl
theorem sh20z_size : (Value.cells (.agg #[.int .i64 0, .int .i64 0, .int .i64 0, .string ⟨#[]⟩, .string ⟨#[]⟩])).size = 5 := by kernel_rfl
theorem info_int20 : (Tryd.prog.info? 3).map (fun i => (i.zero, i.size, i.bytes)) = some (some (.int .i64 0), 1, 8) := by kernel_rfl
theorem int20z_size : (Value.cells (.int .i64 0)).size = 1 := by kernel_rfl
theorem info_ev20 : (Tryd.prog.info? 112).map (fun i => (i.zero, i.size, i.bytes)) = some (some (.agg #[.int .i64 0, .int .i64 0, .int .i64 0, .int .i64 0, .int .i64 0, .int .i64 0, .int .i64 0, .slice none 0 0, .string ⟨#[]⟩, .int .i64 0, .int .i64 0, .int .i64 0, .slice none 0 0]), 13, 144) := by kernel_rfl
theorem shVals_one (c : Sh) : ∀ u ∈ c.vals, u.oneCell' = true := by
  intro u hu
  simp [Sh.vals] at hu
  rcases hu with rfl | rfl | rfl | rfl | rfl <;> rfl

section
variable {w : World} {F : Nat → Prop} {mb : Nat} {s : MdSt} (h : MdAt w F mb s) (hk : MdOk s) (e : En) (hA : EnAt w e) (hs : EnSm e)
include h hk hA hs
set_option maxRecDepth 100000 in
set_option maxHeartbeats 8000000 in
theorem apply20_split (at' : Int) (hyes : Pl.app20 s e at' = true) (k3 : e.kind = 3) (i : Nat) (hi : i < s.xs.length) (hf : Pl.findM s.xs e.shard = (i : Nat)) (hcut : Pl.cutE (Pl.rightR (shAt s.xs i).lo (shAt s.xs i).hi) (Pl.keyN e.key) (Pl.hasR (shAt s.xs i).lo (shAt s.xs i).hi e.key) (shAt s.xs i).lo e.key = 0) :
    Calls Tryd.prog 18 #[.pointer (some ⟨mb, 0, none⟩), e.agg, .int .i64 at'] w fun r w' => r = .returned (.bool true) ∧ MdTurn w F mb ⟨s.xs.set i ⟨(shAt s.xs i).id, (shAt s.xs i).server, at' + 1, (shAt s.xs i).lo, e.key⟩ ++ [⟨e.other, e.server, at' + 1, e.key, (shAt s.xs i).hi⟩], s.us ++ [e.other], s.ne + 1, s.evs ++ evVals at' e⟩ w' := by
  have HC := counts20_ok h hk e hA hs
  have HF1 := hid (fun W (g : Grew w W) => find20_any (h.grew g) (Nat.le_trans hk.few (by decide)) e.shard)
  have hks := hs.key
  have hfew := hk.few
  have hus := hk.us
  have hne := hk.ne
  have hsz := hk.sz _ (shAt_mem s.xs i hi)
  have hap := hyes
  unfold Pl.app20 at hap
  simp only [Bool.and_eq_true, decide_eq_true_eq] at hap
  obtain ⟨⟨hc, ha0⟩, ha1⟩ := hap
  have ha0' : ¬ at' < 0 := by omega
  have ha1' : ¬ 4095 < at' := by omega
  have g0 : decide (at' < 0) = false := decide_eq_false ha0'
  have g1 : decide (4095 < at') = false := decide_eq_false ha1'
  rw [hc] at HC
  obtain ⟨xs, us, ne, evs⟩ := s
  obtain ⟨vl, vu, ve, h⟩ := h
  dsimp only at *
  obtain ⟨b, cap, rfl, _, hbb⟩ := h.row.form (by omega : 0 < xs.length)
  have c0 := h.live
  have hb := h.blt
  have hbmb : b ≠ mb := (h.foot1 b rfl).2
  rw [hf] at HF1
  have hiI : ¬ ((i : Int) < 0) := by omega
  have hiL : (i : Int) < (xs.length : Int) := by omega
  have rl := md_cell h rfl i hi 3 (by omega)
  have rh := md_cell h rfl i hi 4 (by omega)
  simp only [Sh.vals, List.getElem?_cons_zero, List.getElem?_cons_succ] at rl rh
  have HC2 := hid (fun W => ref_cut (shAt xs i).lo (shAt xs i).hi e.key W hsz.1 hsz.2 hks)
  rw [hcut] at HC2
  unfold RefCutPost at HC2
  simp only [Pl.cutA, if_true] at HC2
  have HS := hid h
  have HI := hid hi
  have hFlt : Hid (∀ j, F j → j < w.heap.size) := hid h.lt
  have HW := hid (EnBox.of_alloc w e 26)
  have HV := hid (evVals_one at' e)
  have hvl : (evVals at' e).length = 13 := rfl
  have hve : Hid (evVals at' e = .int .i64 at' :: e.vals) := rfl
  have b2 : (e.kind == 2) = false := by rw [k3]; rfl
  have b3 : (e.kind == 3) = true := by rw [k3]; rfl
  clear hyes hc hA hf h hi hk hs k3 hcut hsz
  generalize hlo : (shAt xs i).lo = lo at *
  generalize hhi : (shAt xs i).hi = hi' at *
  have HLO := hid hlo
  have HHI := hid hhi
  clear hlo hhi
  unfold En.agg at *
  go_enter Tryd.func18, Tryd.ntmps18
  unfold En.vals at HC ⊢
  go_wp2_with fail
  refine (HC.out _ ((Grew.refl w).alloc _)).mono ?_
  rintro r w1 ⟨rfl, hg⟩
  have hz : w.heap.size < w1.heap.size := by have := hg.size; simp at this; omega
  have HG := hid (((Grew.refl w).alloc _).trans hg)
  have HW1 := hid (HW.out.grew hg (by simp))
  obtain ⟨d0, d1, d2, d3, d4, d5, d6, d7, d8, d9, d10, d11⟩ := HW1.out.cells
  clear hg HC
  go_wp2_with fail
  refine (HF1.out _ HG.out).mono ?_
  rintro r w2 ⟨rfl, hg2⟩
  have HG2 := hid (HG.out.trans hg2)
  have HW2 := hid (HW1.out.grew hg2 hz)
  have hz2 : w.heap.size < w2.heap.size := Nat.lt_of_lt_of_le hz hg2.size
  clear d0 d1 d2 d3 d4 d5 d6 d7 d8 d9 d10 d11 HF1 hg2
  obtain ⟨d0, d1, d2, d3, d4, d5, d6, d7, d8, d9, d10, d11⟩ := HW2.out.cells
  have hb2 : mb < w2.heap.size := Nat.lt_of_lt_of_le hb HG2.out.size
  have hbb2 : b < w2.heap.size := Nat.lt_of_lt_of_le hbb HG2.out.size
  go_wp2_with fail
  have C0 := wd_cell ((HG2.out.cells.1 _ _ hb).trans c0)
  have R3 := wd_cell ((HG2.out.cells.1 _ _ hbb).trans rl)
  have R4 := wd_cell ((HG2.out.cells.1 _ _ hbb).trans rh)
  have D7 := wd_cell d7
  clear d0 d1 d2 d3 d4 d5 d6 d7 d8 d9 d10 d11 rl rh c0
  -- a, b, _ := Cut(..)
  refine wp_region_mix 20 [15, 16, 17, 18] (Grew w2) Grew (JV [⟨15, 17, [.string lo, .string e.key]⟩, ⟨16, 18, [.string e.key, .string hi']⟩] w2) (fun f a => (a.put (some 8) (f 15)).put (some 9) (f 16)) (by kernel_rfl) (by kernel_rfl) (fun _ _ => rfl) (JV.start _ w2 _) (fun _ _ _ h => h.grew) Grew.refl (fun _ _ _ _ h g => h.more g) ?_
  repeat (first
    | (refine wpMix_loose (by rfl) (by rfl) ?_)
    | (refine wpMix_plain (by rfl) (by rfl) (by rfl) (by first | exact Grew.refl | exact fun _ => rfl) (by rfl) ?_; intro K hK; go_big_quiet_op; go_big_quiet_on)
    | (refine wpMix_call (by rfl) (by rfl) (by rfl) (by rfl) (fun _ => by kernel_rfl) (fun u hu => HC2.out u) ?_; simp only [Act.put, List.setIfInBounds_toArray, List.set_cons_zero, List.set_cons_succ])
    | (refine wpMix_skip (by rfl) (by rfl) (by rfl) ?_; simp only [Act.put, List.setIfInBounds_toArray, List.set_cons_zero, List.set_cons_succ]))
  refine wpMix_nil ⟨⟨loose_of rfl (fun _ a => a) (fun _ _ => rfl) (fun _ => rfl) ?_, loose_of rfl (fun _ a => a) (fun _ _ => rfl) (fun _ => rfl) ?_, loose_of rfl (fun f a => (a.put (some 8) (f 15)).put (some 9) (f 16)) (fun _ _ => rfl) (fun _ => rfl) ?_, loose_of rfl (fun f a => (a.put (some 8) (f 15)).put (some 9) (f 16)) (fun _ _ => rfl) (fun _ => rfl) ?_, trivial⟩, ?_⟩
  · intro L f u hJ hL hd
    clear HC2 C0 R3 R4 D7
    go_simp
    exact hJ.alloc (by rfl) (V := ⟨15, 17, [.string lo, .string e.key]⟩) (by simp) hL [.string ⟨#[]⟩, .string ⟨#[]⟩] rfl _
  · intro L f u hJ hL hd
    clear HC2 C0 R3 R4 D7
    go_simp
    exact hJ.alloc (by rfl) (V := ⟨16, 18, [.string e.key, .string hi']⟩) (by simp) hL [.string ⟨#[]⟩, .string ⟨#[]⟩] rfl _
  · intro L f u hJ hL hd
    clear HC2 C0 R3 R4 D7
    obtain ⟨m, x, y, hm, k0, k1, f0, f1⟩ := hJ.two (V := ⟨15, 17, [.string lo, .string e.key]⟩) (by simp) (hd 15 rfl (by decide)) rfl
    dsimp only at hm
    rw [hm]
    go_simp
    exact hJ.store (by rfl) (V := ⟨15, 17, [.string lo, .string e.key]⟩) (by simp) (hd 15 rfl (by decide)) hm
  · intro L f u hJ hL hd
    clear HC2 C0 R3 R4 D7
    obtain ⟨m, x, y, hm, k0, k1, f0, f1⟩ := hJ.two (V := ⟨16, 18, [.string e.key, .string hi']⟩) (by simp) (hd 16 rfl (by decide)) rfl
    dsimp only at hm
    rw [hm]
    go_simp
    exact hJ.store (by rfl) (V := ⟨16, 18, [.string e.key, .string hi']⟩) (by simp) (hd 16 rfl (by decide)) hm
  intro f u hJ
  clear HC2 C0 R3 R4 D7
  obtain ⟨m7, q7, n7, l7, a0, a1, _, _⟩ := (hJ.full (V := ⟨15, 17, [.string lo, .string e.key]⟩) (by simp) rfl).two
  obtain ⟨m8, q8, n8, l8, e0, e1, _, _⟩ := (hJ.full (V := ⟨16, 18, [.string e.key, .string hi']⟩) (by simp) rfl).two
  dsimp only at q7 q8
  have HGu := hid (HG2.out.trans hJ.grew)
  have HWu := hid (HW2.out.grew hJ.grew hz2)
  have hzu : w.heap.size < u.heap.size := Nat.lt_of_lt_of_le hz2 hJ.grew.size
  clear hJ
  rw [q7, q8]
  clear q7 q8
  go_wp2_with fail
  -- m.Live[i].Span, m.Live[i].Since = a, at+1
  have HSu := hid (HS.out.grew HGu.out)
  have hmbu : mb < u.heap.size := Nat.lt_of_lt_of_le hb HGu.out.size
  have hbu : b < u.heap.size := Nat.lt_of_lt_of_le hbb HGu.out.size
  have hm7 : b ≠ m7 := by omega
  have hm8 : b ≠ m8 := by omega
  have C0 := wd_only (S := fun j => j = b) HSu.out.live (Ne.symm hbmb)
  have A0 := wd_only (S := fun j => j = b) a0 (Ne.symm hm7)
  have A1 := wd_only (S := fun j => j = b) a1 (Ne.symm hm7)
  have k2 := md_cell HSu.out rfl i HI.out 2 (by omega)
  have k3 := md_cell HSu.out rfl i HI.out 3 (by omega)
  have k4 := md_cell HSu.out rfl i HI.out 4 (by omega)
  simp only [Sh.vals, List.getElem?_cons_zero, List.getElem?_cons_succ] at k2 k3 k4
  have f2 : u.frozen? ⟨b, i * 5 + 2, none⟩ = false := HSu.out.row.frozenAt _
  have f3 : u.frozen? ⟨b, i * 5 + 3, none⟩ = false := HSu.out.row.frozenAt _
  have f4 : u.frozen? ⟨b, i * 5 + 4, none⟩ = false := HSu.out.row.frozenAt _
  have hw1 : IntKind.i64.wrap (at' + 1) = at' + 1 := IntWalk.i64_in _ (by omega)
  refine wp_region_mix 16 [15] (Only (fun j => j = b) u) Eq (fun L _ x => x = if L 15 = true then (u.drew.setCell ⟨b, i * 5 + 3, none⟩ (.string lo)).setCell ⟨b, i * 5 + 4, none⟩ (.string e.key) else u.drew) (fun _ a => a) (by kernel_rfl) (by kernel_rfl) (fun _ _ => rfl) rfl ?_ (fun _ => rfl) (fun _ _ _ _ h g => g ▸ h) ?_
  · rintro L f x rfl
    split
    · exact ((Only.refl _ u).drew.then (Only.setCell _ ⟨b, i * 5 + 3, none⟩ _)).then (Only.setCell _ ⟨b, i * 5 + 4, none⟩ _)
    · exact (Only.refl _ u).drew
  repeat (first
    | (refine wpMix_loose (by rfl) (by rfl) ?_)
    | (refine wpMix_plain (by rfl) (by rfl) (by rfl) (by first | exact Grew.refl | exact fun _ => rfl) (by rfl) ?_; intro K hK; go_big_quiet_op; go_big_quiet_on)
    | (refine wpMix_skip (by rfl) (by rfl) (by rfl) ?_; simp only [Act.put, List.setIfInBounds_toArray, List.set_cons_zero, List.set_cons_succ]))
  refine wpMix_done (by rfl) ⟨⟨loose_of rfl (fun _ a => a) (fun _ _ => rfl) (fun _ => rfl) ?_, trivial⟩, ?_⟩
  · rintro L f x rfl hL hd
    rw [hL]
    clear C0 A0 A1 HSu
    go_simp
  rintro f x hx'
  have hx2 : x = (u.drew.setCell ⟨b, i * 5 + 3, none⟩ (.string lo)).setCell ⟨b, i * 5 + 4, none⟩ (.string e.key) := hx'
  clear hx' A0 A1
  have C1 := C0 ⟨x, by rw [hx2]; exact ((Only.refl _ u).drew.then (Only.setCell _ ⟨b, i * 5 + 3, none⟩ _)).then (Only.setCell _ ⟨b, i * 5 + 4, none⟩ _)⟩
  dsimp only at C1
  have K2 : x.cell? ⟨b, i * 5 + 2, none⟩ = some (.int .i64 (shAt xs i).since) := by
    rw [hx2, World.cell?_setCell_other _ _ _ _ (by intro e; injection e with _ e; omega), World.cell?_setCell_other _ _ _ _ (by intro e; injection e with _ e; omega)]
    exact k2
  have F2 : x.frozen? ⟨b, i * 5 + 2, none⟩ = false := by
    rw [hx2, World.frozen?_setCell, World.frozen?_setCell]; exact f2
  have HX := hid hx2
  clear C0 k2 k3 k4 f2 f3 f4 hx2
  dsimp only [List.drop]
  go_wp2_with fail
  -- m.Live = append(..)
  have HY : Hid (∃ y, y = x.setCell ⟨b, i * 5 + 2, none⟩ (.int .i64 (at' + 1)) ∧ MdIs y F mb (.slice (some ⟨b, 0, none⟩) xs.length cap) vu ve (xs.set i ⟨(shAt xs i).id, (shAt xs i).server, at' + 1, lo, e.key⟩) us ne evs ∧ Only (fun j => j = b) u y) := by
    refine ⟨_, rfl, ?_, ?_⟩
    · rw [HX.out]
      exact (HSu.out.grew (Grew.refl u).drew).cut3 i HI.out lo e.key (at' + 1)
    · rw [HX.out]
      exact (((Only.refl _ u).drew.then (Only.setCell _ ⟨b, i * 5 + 3, none⟩ _)).then (Only.setCell _ ⟨b, i * 5 + 4, none⟩ _)).then (Only.setCell _ ⟨b, i * 5 + 2, none⟩ _)
  obtain ⟨y, hy, hSy, hOy⟩ := HY.out
  rw [← hy]
  have HSy := hid hSy
  have HOy := hid hOy
  have hboxb : w.heap.size ≠ b := by omega
  have hboxF : ¬ F w.heap.size := fun h => Nat.lt_irrefl _ (hFlt.out _ h)
  have HWy := hid (HWu.out.only hOy hzu hboxb)
  have hzy : w.heap.size < y.heap.size := Nat.lt_of_lt_of_le hzu hOy.size
  have hmby : mb < y.heap.size := Nat.lt_of_lt_of_le hmbu hOy.size
  have B0 := wd_only (S := fun j => some j = some b) ((hOy.cell l8 (Ne.symm hm8) 0).trans e0) (fun h => hm8 (Option.some.inj h).symm)
  have B1 := wd_only (S := fun j => some j = some b) ((hOy.cell l8 (Ne.symm hm8) 1).trans e1) (fun h => hm8 (Option.some.inj h).symm)
  have C2 := wd_only (S := fun j => some j = some b) hSy.live (fun h => hbmb (Option.some.inj h).symm)
  obtain ⟨d0, d1, d2, d3, d4, d5, d6, d7, d8, d9, d10, d11⟩ := HWy.out.cells
  have D2 := wd_only (S := fun j => some j = some b) d2 (fun h => hboxb (Option.some.inj h))
  have D3 := wd_only (S := fun j => some j = some b) d3 (fun h => hboxb (Option.some.inj h))
  clear hy HY hSy hOy HX K2 F2 C1 HSu a0 a1 e0 e1 d0 d1 d2 d3 d4 d5 d6 d7 d8 d9 d10 d11 HWu
  have hxl : (xs.set i ⟨(shAt xs i).id, (shAt xs i).server, at' + 1, lo, e.key⟩).length = xs.length := List.length_set
  have HXL := hid hxl
  clear hxl
  obtain ⟨i0, hi0, hz0, hz1, hz3⟩ := info_parts info_sh20
  refine wp_region_mix 15 [13, 14] (Only (fun j => some j = some b) y) Eq (JOne 48 13 14 y (Sh.vals ⟨e.other, e.server, at' + 1, e.key, hi'⟩) (AppD 48 5 (.slice (some ⟨b, 0, none⟩) xs.length cap) xs.length (shFlat (xs.set i ⟨(shAt xs i).id, (shAt xs i).server, at' + 1, lo, e.key⟩)) (Sh.vals ⟨e.other, e.server, at' + 1, e.key, hi'⟩))) (fun f a => (a.put (some 90) (f 13)).put (some 91) (f 14)) (by kernel_rfl) (by kernel_rfl) (fun _ _ => rfl) (JOne.start y) (fun L f x h => h.only fun _ _ _ h => h.only) (fun _ => rfl) (fun _ _ _ _ h g => g ▸ h) ?_
  repeat (first
    | (refine wpMix_loose (by rfl) (by rfl) ?_)
    | (refine wpMix_plain (by rfl) (by rfl) (by rfl) (by first | exact Grew.refl | exact fun _ => rfl) (by rfl) ?_; intro K hK; go_big_quiet_op; go_big_quiet_on)
    | (refine wpMix_skip (by rfl) (by rfl) (by rfl) ?_; simp only [Act.put, List.setIfInBounds_toArray, List.set_cons_zero, List.set_cons_succ]))
  refine wpMix_done (by rfl) ⟨⟨loose_of rfl (fun _ a => a) (fun _ _ => rfl) (fun _ => rfl) ?_, loose_of rfl (fun f a => a.put (some 90) (f 13)) (fun _ _ => rfl) (fun _ => rfl) ?_, trivial⟩, ?_⟩
  · intro L f x hJ hL hd
    clear B0 B1 C2 D2 D3
    have hm := hJ.make (by decide) hL
    have hm2 := hid hm
    clear hm hJ
    unfold Sh.vals at hm2
    go_simp
    exact hm2.out
  · intro L f x hJ hL hd
    clear B0 B1 C2 D2 D3
    have h13 := hd 13 rfl (by decide)
    obtain ⟨vb, q13, hvN, hvb⟩ := hJ.made h13 hL
    refine uponV_append _ _ _ rfl 48 i0 _ 5 56 Tryd.underlying101 hi0 hz0 hz1 hz3 sh20z_size (by omega) (.slice (some ⟨b, 0, none⟩) xs.length cap) xs.length (shFlat (xs.set i ⟨(shAt xs i).id, (shAt xs i).server, at' + 1, lo, e.key⟩)) rfl ?_ vb 1 (Sh.vals ⟨e.other, e.server, at' + 1, e.key, hi'⟩) ?_ rfl hvb (shVals_one _) (by unfold maxLen; omega) (by omega) ?_
    · exact ownsRow_grew (hJ.grew hL) (by have := HSy.out.row; rw [HXL.out] at this; exact this)
    · exact q13
    · intro r w' hD
      exact hJ.call (by decide) hL h13 hD
  rintro f x hJ
  clear B0 B1 C2 D2 D3
  obtain ⟨x0, gx0, g3, c3, q14, hrow, hgr, hat⟩ := hJ.done rfl
  rw [q14]
  have ho1 : Only (fun j => some j = some b) y x := (gx0.only _).then (Only.of_grownBy hgr)
  have C3 : x.cell? ⟨mb, 0, none⟩ = some (.slice (some ⟨b, 0, none⟩) xs.length cap) := (ho1.cell hmby (fun h => hbmb (Option.some.inj h).symm) 0).trans HSy.out.live
  have F3 : x.frozen? ⟨mb, 0, none⟩ = false := (ho1.frozen hmby (fun h => hbmb (Option.some.inj h).symm) 0).trans (HSy.out.fz 0 (by omega))
  have hl1 : (xs.set i ⟨(shAt xs i).id, (shAt xs i).server, at' + 1, lo, e.key⟩ ++ [(⟨e.other, e.server, at' + 1, e.key, hi'⟩ : Sh)]).length = xs.length + 1 := by simp
  have HT := hid (HSy.out.live_set ho1 (r := .slice (some ⟨g3, 0, none⟩) (xs.length + 1) c3) (ys := xs.set i ⟨(shAt xs i).id, (shAt xs i).server, at' + 1, lo, e.key⟩ ++ [⟨e.other, e.server, at' + 1, e.key, hi'⟩]) (fun g hg => by
    cases hg
    rcases hat with h | h
    · exact .inl h
    · exact .inr (by rw [h]; exact gx0.size)) (by rw [hl1, shFlat_append, shFlat_one]; exact hrow))
  have hox := HWy.out.only ho1 hzy (fun h => hboxb (Option.some.inj h))
  have HOx := hid hox
  have hzx : w.heap.size < x.heap.size := Nat.lt_of_lt_of_le hzy ho1.size
  clear hJ q14 hrow hgr hat ho1 gx0 hox hl1
  dsimp only [List.drop]
  go_wp2_with fail
  -- m.Used = append(..)
  obtain ⟨z, hzz⟩ : ∃ z, z = x.setCell ⟨mb, 0, none⟩ (.slice (some ⟨g3, 0, none⟩) (xs.length + 1) c3) := ⟨_, rfl⟩
  rw [← hzz]
  rw [← hzz] at HT
  have HWz := hid (show EnBox z w.heap.size e from by
    rw [hzz]; exact HOx.out.only (Only.setCell x ⟨mb, 0, none⟩ _) hzx (fun h => by subst h; exact absurd hb (Nat.lt_irrefl _)))
  have hzl : w.heap.size < z.heap.size := by rw [hzz]; simpa using hzx
  clear hzz C3 F3
  obtain ⟨oz, F2, ⟨vl2, vu2, ve2, hSz⟩, hF2⟩ := HT.out
  have hF2b : ¬ F2 w.heap.size := fun h => by
    rcases hF2 _ h with h | h
    · exact hboxF h
    · omega
  have HSz := hid hSz
  have HF2 := hid hF2
  have HOz := hid oz
  have hboxu : ¬ some w.heap.size = vu2.ownBlock := fun h => hF2b (hSz.foot2 _ h.symm).1
  have hmbu2 : ¬ some mb = vu2.ownBlock := fun h => (hSz.foot2 _ h.symm).2.1 rfl
  have hmbz : mb < z.heap.size := hSz.blt
  clear hSz hF2 oz HT
  have U1 := wd_only (S := fun j => some j = vu2.ownBlock) HSz.out.used hmbu2
  obtain ⟨d0, d1, d2, d3, d4, d5, d6, d7, d8, d9, d10, d11⟩ := HWz.out.cells
  have D2 := wd_only (S := fun j => some j = vu2.ownBlock) d2 hboxu
  clear d0 d1 d2 d3 d4 d5 d6 d7 d8 d9 d10 d11
  obtain ⟨i1, hi1, hy0, hy1, hy3⟩ := info_parts info_int20
  refine wp_region_mix 9 [7, 8] (Only (fun j => some j = vu2.ownBlock) z) Eq (JOne 3 7 8 z [.int .i64 e.other] (AppD 3 1 vu2 us.length (intFlat us) [.int .i64 e.other])) (fun f a => (a.put (some 101) (f 7)).put (some 102) (f 8)) (by kernel_rfl) (by kernel_rfl) (fun _ _ => rfl) (JOne.start z) (fun L f x h => h.only fun _ _ _ h => h.only) (fun _ => rfl) (fun _ _ _ _ h g => g ▸ h) ?_
  repeat (first
    | (refine wpMix_loose (by rfl) (by rfl) ?_)
    | (refine wpMix_plain (by rfl) (by rfl) (by rfl) (by first | exact Grew.refl | exact fun _ => rfl) (by rfl) ?_; intro K hK; go_big_quiet_op; go_big_quiet_on)
    | (refine wpMix_skip (by rfl) (by rfl) (by rfl) ?_; simp only [Act.put, List.setIfInBounds_toArray, List.set_cons_zero, List.set_cons_succ]))
  refine wpMix_done (by rfl) ⟨⟨loose_of rfl (fun _ a => a) (fun _ _ => rfl) (fun _ => rfl) ?_, loose_of rfl (fun f a => a.put (some 101) (f 7)) (fun _ _ => rfl) (fun _ => rfl) ?_, trivial⟩, ?_⟩
  · intro L f x hJ hL hd
    clear U1 D2
    have hm := hJ.make (by decide) hL
    have hm2 := hid hm
    clear hm hJ
    go_simp
    exact hm2.out
  · intro L f x hJ hL hd
    clear U1 D2
    have h7 := hd 7 rfl (by decide)
    obtain ⟨vb, q7, hvN, hvb⟩ := hJ.made h7 hL
    refine uponV_append _ _ _ rfl 3 i1 _ 1 8 Tryd.underlying102 hi1 hy0 hy1 hy3 int20z_size (by omega) vu2 us.length (intFlat us) rfl ?_ vb 1 [.int .i64 e.other] ?_ rfl hvb (by intro u hu; rw [List.mem_singleton.1 hu]; rfl) (by unfold maxLen; omega) (by omega) ?_
    · exact ownsRow_grew (hJ.grew hL) HSz.out.urow
    · exact q7
    · intro r w' hD
      exact hJ.call (by decide) hL h7 hD
  rintro f x hJ
  clear U1 D2
  obtain ⟨x0, gx0, g4, c4, q8, hrow, hgr, hat⟩ := hJ.done rfl
  rw [q8]
  have ho1 : Only (fun j => some j = vu2.ownBlock) z x := (gx0.only _).then (Only.of_grownBy hgr)
  have C3 : x.cell? ⟨mb, 1, none⟩ = some vu2 := (ho1.cell hmbz hmbu2 1).trans HSz.out.used
  have F3 : x.frozen? ⟨mb, 1, none⟩ = false := (ho1.frozen hmbz hmbu2 1).trans (HSz.out.fz 1 (by omega))
  have hl1 : (us ++ [e.other]).length = us.length + 1 := by simp
  have HT := hid (HSz.out.used_set ho1 (r := .slice (some ⟨g4, 0, none⟩) (us.length + 1) c4) (us' := us ++ [e.other]) (fun g hg => by
    cases hg
    rcases hat with h | h
    · exact .inl h
    · exact .inr (by rw [h]; exact gx0.size)) (by rw [hl1, show intFlat (us ++ [e.other]) = intFlat us ++ [.int .i64 e.other] from by unfold intFlat; rw [List.map_append]; rfl]; exact hrow))
  have hox := HWz.out.only ho1 hzl hboxu
  have HOx := hid hox
  have hzx : w.heap.size < x.heap.size := Nat.lt_of_lt_of_le hzl ho1.size
  clear hJ q8 hrow hgr hat ho1 gx0 hox hl1
  dsimp only [List.drop]
  go_wp2_with fail
  -- m.Events = append(..)
  obtain ⟨v, hvv⟩ : ∃ v, v = x.setCell ⟨mb, 1, none⟩ (.slice (some ⟨g4, 0, none⟩) (us.length + 1) c4) := ⟨_, rfl⟩
  rw [← hvv]
  rw [← hvv] at HT
  have HWv := hid (show EnBox v w.heap.size e from by
    rw [hvv]; exact HOx.out.only (Only.setCell x ⟨mb, 1, none⟩ _) hzx (fun h => by subst h; exact absurd hb (Nat.lt_irrefl _)))
  have hzv : w.heap.size < v.heap.size := by rw [hvv]; simpa using hzx
  clear hvv C3 F3
  obtain ⟨ov, F3, ⟨vl3, vu3, ve3, hSv⟩, hF3⟩ := HT.out
  have hF3b : ¬ F3 w.heap.size := fun h => by
    rcases hF3 _ h with h | h
    · exact hF2b h
    · omega
  have HSv := hid hSv
  have HF3 := hid hF3
  have HOv := hid ov
  have hbox : ¬ some w.heap.size = ve3.ownBlock := fun h => hF3b (hSv.foot3 _ h.symm).1
  have hsb : ¬ some mb = ve3.ownBlock := fun h => (hSv.foot3 _ h.symm).2.1 rfl
  have hsb2 : mb < v.heap.size := hSv.blt
  clear hSv hF3 ov HT
  have HFF : Hid (Only F w y ∧ ∀ j, F2 j → F j ∨ w.heap.size ≤ j) := by
    have o0 : Only F w y := (HGu.out.only F).then (HOy.out.mono fun j hj => .inl (by subst hj; exact (HS.out.foot1 j rfl).1))
    refine ⟨o0, fun j hj => ?_⟩
    rcases HF2.out j hj with h | h
    · exact .inl h
    · exact .inr (Nat.le_trans o0.size h)
  obtain ⟨d0, d1, d2, d3, d4, d5, d6, d7, d8, d9, d10, d11⟩ := HWv.out.cells
  have C0 := wd_only (S := fun j => some j = ve3.ownBlock) HSv.out.ev hsb
  have D0 := wd_only (S := fun j => some j = ve3.ownBlock) d0 hbox
  have D1 := wd_only (S := fun j => some j = ve3.ownBlock) d1 hbox
  have D2 := wd_only (S := fun j => some j = ve3.ownBlock) d2 hbox
  have D3 := wd_only (S := fun j => some j = ve3.ownBlock) d3 hbox
  have D4 := wd_only (S := fun j => some j = ve3.ownBlock) d4 hbox
  have D5 := wd_only (S := fun j => some j = ve3.ownBlock) d5 hbox
  have D6 := wd_only (S := fun j => some j = ve3.ownBlock) d6 hbox
  have D7 := wd_only (S := fun j => some j = ve3.ownBlock) d7 hbox
  have D8 := wd_only (S := fun j => some j = ve3.ownBlock) d8 hbox
  have D9 := wd_only (S := fun j => some j = ve3.ownBlock) d9 hbox
  have D10 := wd_only (S := fun j => some j = ve3.ownBlock) d10 hbox
  have D11 := wd_only (S := fun j => some j = ve3.ownBlock) d11 hbox
  clear d0 d1 d2 d3 d4 d5 d6 d7 d8 d9 d10 d11
  obtain ⟨i2, hi2, hx0, hx1, hx3⟩ := info_parts info_ev20
  refine wp_region_mix 10 [8, 9] (Only (fun j => some j = ve3.ownBlock) v) Eq (JOne 112 8 9 v (evVals at' e) (AppD 112 13 ve3 ne evs (evVals at' e))) (fun f a => (a.put (some 175) (f 8)).put (some 176) (f 9)) (by kernel_rfl) (by kernel_rfl) (fun _ _ => rfl) (JOne.start v) (fun L f x h => h.only fun _ _ _ h => h.only) (fun _ => rfl) (fun _ _ _ _ h g => g ▸ h) ?_
  repeat (first
    | (refine wpMix_loose (by rfl) (by rfl) ?_)
    | (refine wpMix_plain (by rfl) (by rfl) (by rfl) (by first | exact Grew.refl | exact fun _ => rfl) (by rfl) ?_; intro K hK; go_big_quiet_op; go_big_quiet_on)
    | (refine wpMix_skip (by rfl) (by rfl) (by rfl) ?_; simp only [Act.put, List.setIfInBounds_toArray, List.set_cons_zero, List.set_cons_succ]))
  refine wpMix_done (by rfl) ⟨⟨loose_of rfl (fun _ a => a) (fun _ _ => rfl) (fun _ => rfl) ?_, loose_of rfl (fun f a => a.put (some 175) (f 8)) (fun _ _ => rfl) (fun _ => rfl) ?_, trivial⟩, ?_⟩
  · intro L f x hJ hL hd
    clear C0 D0 D1 D2 D3 D4 D5 D6 D7 D8 D9 D10 D11
    have hm := hJ.make (by decide) hL
    have hm2 := hid hm
    clear hm hJ
    rw [hve.out] at hm2
    unfold En.vals at hm2
    go_simp
    exact hm2.out
  · intro L f x hJ hL hd
    clear C0 D0 D1 D2 D3 D4 D5 D6 D7 D8 D9 D10 D11
    have h8 := hd 8 rfl (by decide)
    obtain ⟨vb, q8, hvN, hvb⟩ := hJ.made h8 hL
    refine uponV_append _ _ _ rfl 112 i2 _ 13 144 Tryd.underlying103 hi2 hx0 hx1 hx3 evz_size (by omega) ve3 ne evs rfl ?_ vb 1 (evVals at' e) ?_ hvl hvb HV.out (by unfold maxLen; omega) (by omega) ?_
    · exact ownsRow_grew (hJ.grew hL) HSv.out.erow
    · exact q8
    · intro r w' hD
      exact hJ.call (by decide) hL h8 hD
  rintro f x hJ
  clear C0 D0 D1 D2 D3 D4 D5 D6 D7 D8 D9 D10 D11
  obtain ⟨x0, gx0, g5, c5, q9, hrow, hgr, hat⟩ := hJ.done rfl
  rw [q9]
  have ho1 : Only (fun j => some j = ve3.ownBlock) v x := (gx0.only _).then (Only.of_grownBy hgr)
  have C3 : x.cell? ⟨mb, 2, none⟩ = some ve3 := (ho1.cell hsb2 hsb 2).trans HSv.out.ev
  have F4 : x.frozen? ⟨mb, 2, none⟩ = false := (ho1.frozen hsb2 hsb 2).trans (HSv.out.fz 2 (by omega))
  have HT := hid (HSv.out.ev_set ho1 (r := .slice (some ⟨g5, 0, none⟩) (ne + 1) c5) (fun g hg => by
    cases hg
    rcases hat with h | h
    · exact .inl h
    · exact .inr (by rw [h]; exact gx0.size)) hrow)
  clear hJ q9 hrow hgr hat ho1 gx0
  dsimp only [List.drop]
  go_wp2_with fail
  go_ret
  refine ⟨rfl, ?_⟩
  refine MdTurn.trans (F1 := F3) (w1 := v) ?_ ?_ HT.out
  · exact (HFF.out.1.trans HOz.out (fun _ => .inl)).trans HOv.out HFF.out.2
  · intro j hj
    rcases HF3.out j hj with h | h
    · exact HFF.out.2 j h
    · exact .inr (Nat.le_trans (HFF.out.1.trans HOz.out (fun _ => .inl)).size h)
end
end Go.Proofs.YtajoihpjnnnkeaaDoor
