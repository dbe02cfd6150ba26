/- Shd5, Shd6: one text. -/
import Derived.Test.YtbdagllflamabaaGreatDoorFinWatchReplaysQ15
import Derived.Test.YtbdagllflamabaaGreatDoorFinWatchReplaysQ13
import Derived.Test.YtbdagllflamabaaGreatDoorFinWatchReplaysQ12
set_option linter.unusedVariables false
set_option linter.unusedSectionVars false
set_option linter.unusedSimpArgs false
namespace Go.Proofs.YtbdagllflamabaaGreatDoor
open Go.RowKit Go.Maps
attribute [local go_sem] Oper.semAt_some uponV
namespace Pl
def mergeM (xs : List Sh) (i j : Nat) (v : ByteArray × ByteArray) (at' : Int) : List Sh :=
  (xs.set i ⟨(shAt xs i).id, (shAt xs i).server, at' + 1, v.1, v.2⟩).take j ++ (xs.set i ⟨(shAt xs i).id, (shAt xs i).server, at' + 1, v.1, v.2⟩).drop (j + 1)
theorem mergeM_len (xs : List Sh) (i j : Nat) (hj : j < xs.length) (v : ByteArray × ByteArray) (at' : Int) : (mergeM xs i j v at').length = xs.length - 1 := by
  unfold mergeM
  simp
  omega
theorem joinV_size (ra rb : Bool) (a b c d : ByteArray) (B : Nat) (h1 : a.size ≤ B) (h2 : b.size ≤ B) (h3 : c.size ≤ B) (h4 : d.size ≤ B) : (joinV ra rb a b c d).1.size ≤ B ∧ (joinV ra rb a b c d).2.size ≤ B := by
  have h0 : (⟨#[]⟩ : ByteArray).size ≤ B := Nat.zero_le _
  unfold joinV
  split
  · exact ⟨h0, h0⟩
  · split
    · exact ⟨h1, h4⟩
    · split
      · exact ⟨h3, h2⟩
      · exact ⟨h0, h0⟩
end Pl
section
variable {S : Nat → Bool} (hS : ShdS S) (E : Nat → Addr) {w : World} (hE : Errs S E w) {F : Nat → Prop} {sb : Nat} {xs : List Sh} {used : Nat → Bool} {ne : Nat} {evs : List Value} (h : SmAt w F sb xs used ne evs) (hx : xs.length ≤ 1000) (e : En)
include hS hE h hx
set_option maxRecDepth 100000 in
set_option maxHeartbeats 4000000 in
theorem merge_any (at' : Int) (ha0 : 0 ≤ at') (ha1 : at' < 1000000) (i : Nat) (hi : i < xs.length) (hf : Pl.findM xs e.shard = (i : Nat)) (j : Nat) (hj : j < xs.length) (hfj : Pl.findM xs e.other = (j : Nat)) (hjoin : Pl.joinE (Pl.rightS (shAt xs i).lo (shAt xs i).hi) (Pl.rightS (shAt xs j).lo (shAt xs j).hi) (shAt xs i).lo (shAt xs i).hi (shAt xs j).lo (shAt xs j).hi = 0) :
    Calls Tryz.prog 86 #[.pointer (some ⟨sb, 0, none⟩), e.agg, .int .i64 at'] w fun r w' => r = .returned (.tuple #[]) ∧ ShTurn w F sb (Pl.mergeM xs i j (Pl.joinV (Pl.rightS (shAt xs i).lo (shAt xs i).hi) (Pl.rightS (shAt xs j).lo (shAt xs j).hi) (shAt xs i).lo (shAt xs i).hi (shAt xs j).lo (shAt xs j).hi) at') used ne evs w' := by
  have HE := hid hE
  have HF1 := hid (fun W (g : Grew w W) => findM_any (h.grew g) (by omega : xs.length ≤ 1000000) e.shard)
  have HF2 := hid (fun W (g : Grew w W) => findM_any (h.grew g) (by omega : xs.length ≤ 1000000) e.other)
  obtain ⟨v, ve, h⟩ := h
  obtain ⟨b, cap, rfl, _, hbb⟩ := h.row.form (by omega : 0 < xs.length)
  have c0 := h.live
  have hb := h.blt
  have hbsb : b ≠ sb := (h.foot1 b rfl).2
  obtain ⟨z1, z2⟩ := h.sz _ (shAt_mem xs i hi)
  obtain ⟨y1, y2⟩ := h.sz _ (shAt_mem xs j hj)
  rw [hf] at HF1
  rw [hfj] at HF2
  have hiI : ¬ ((i : Int) < 0) := by omega
  have hiL : (i : Int) < (xs.length : Int) := by omega
  have hjI : ¬ ((j : Int) < 0) := by omega
  have hjL : (j : Int) < (xs.length : Int) := by omega
  have rl := sh_cell h rfl i hi 3 (by omega)
  have rh := sh_cell h rfl i hi 4 (by omega)
  have ql := sh_cell h rfl j hj 3 (by omega)
  have qh := sh_cell h rfl j hj 4 (by omega)
  simp only [Sh.vals, List.getElem?_cons_zero, List.getElem?_cons_succ] at rl rh ql qh
  have HC := hid (fun W (g : Grew w W) => join_any S E hS.span (shAt xs i).lo (shAt xs i).hi (shAt xs j).lo (shAt xs j).hi W z1 z2 y1 y2 (HE.out.grew g))
  rw [hjoin] at HC
  unfold JoinPost at HC
  simp only [errOf_zero] at HC
  have HVS := hid (Pl.joinV_size (Pl.rightS (shAt xs i).lo (shAt xs i).hi) (Pl.rightS (shAt xs j).lo (shAt xs j).hi) (shAt xs i).lo (shAt xs i).hi (shAt xs j).lo (shAt xs j).hi _ z1 z2 y1 y2)
  have HS := hid h
  have HI := hid hi
  have HJI := hid hj
  clear hE HE hf hfj hjoin z1 z2 y1 y2 h hi hj
  generalize Pl.joinV (Pl.rightS (shAt xs i).lo (shAt xs i).hi) (Pl.rightS (shAt xs j).lo (shAt xs j).hi) (shAt xs i).lo (shAt xs i).hi (shAt xs j).lo (shAt xs j).hi = jv at *
  obtain ⟨lo, key⟩ := jv
  dsimp only at HC HVS
  unfold En.agg En.vals at *
  obtain ⟨kind, shard, other, server, client, seq, ekey, upto, part, parts, ops, opsA, opsC, dataA, dataL, dataC⟩ := e
  dsimp only at *
  generalize (shAt xs i).lo = lo0 at *
  generalize (shAt xs i).hi = hi' at *
  generalize (shAt xs j).lo = lo2 at *
  generalize (shAt xs j).hi = hi2 at *
  go_enter Tryz.func86, Tryz.ntmps86
  go_wp2_with fail
  -- i, k := m.find(e.Shard), m.find(e.Other)
  have E1 := wd_cell (w := w.alloc (.cells #[.int .i64 kind, .int .i64 shard, .int .i64 other, .int .i64 server, .int .i64 client, .int .i64 seq, .slice opsA ops.length opsC, .string ekey, .int .i64 upto, .int .i64 part, .int .i64 parts, .slice dataA dataL dataC] 26)) (a := ⟨w.heap.size, 1, none⟩) (v := .int .i64 shard) (by simp [go_sem])
  have E2 := wd_cell (w := w.alloc (.cells #[.int .i64 kind, .int .i64 shard, .int .i64 other, .int .i64 server, .int .i64 client, .int .i64 seq, .slice opsA ops.length opsC, .string ekey, .int .i64 upto, .int .i64 part, .int .i64 parts, .slice dataA dataL dataC] 26)) (a := ⟨w.heap.size, 2, none⟩) (v := .int .i64 other) (by simp [go_sem])
  have GA : Hid (Grew w (w.alloc (.cells #[.int .i64 kind, .int .i64 shard, .int .i64 other, .int .i64 server, .int .i64 client, .int .i64 seq, .slice opsA ops.length opsC, .string ekey, .int .i64 upto, .int .i64 part, .int .i64 parts, .slice dataA dataL dataC] 26))) := (Grew.refl w).alloc _
  generalize w.alloc _ = wa at *
  refine wp_region_mix 7 [] (Grew wa) Grew (fun _ _ x => Grew wa x) (fun _ a => a) (by kernel_rfl) (by kernel_rfl) (fun _ _ => rfl) (Grew.refl wa).drew (fun _ _ _ h => h) Grew.refl (fun _ _ _ _ h g => h.trans g) ?_
  repeat (first
    | (refine wpMix_loose (by rfl) (by rfl) ?_)
    | (refine wpMix_plain (by rfl) (by rfl) (by rfl) (by first | exact Grew.refl | exact fun _ => rfl) (by rfl) ?_; intro K hK; go_big_quiet_op; go_big_quiet_on)
    | (refine wpMix_call (by rfl) (by rfl) (by rfl) (by rfl) (fun _ => by kernel_rfl) (fun u hu => HF1.out u (GA.out.trans hu)) ?_; simp only [Act.put, List.setIfInBounds_toArray, List.set_cons_zero, List.set_cons_succ])
    | (refine wpMix_skip (by rfl) (by rfl) (by rfl) ?_; simp only [Act.put, List.setIfInBounds_toArray, List.set_cons_zero, List.set_cons_succ]))
  refine wpMix_done (by rfl) ⟨trivial, ?_⟩
  rintro f0 wb hgb
  have HGb := hid (GA.out.trans hgb)
  clear E1 E2 hgb GA
  dsimp only [List.drop]
  go_wp2_with fail
  refine (HF2.out wb HGb.out).mono ?_
  rintro r w1 ⟨rfl, hg⟩
  have HG := hid (HGb.out.trans hg)
  have hb1 : sb < w1.heap.size := Nat.lt_of_lt_of_le hb HG.out.size
  have hbb1 : b < w1.heap.size := Nat.lt_of_lt_of_le hbb HG.out.size
  have C0 := wd_cell ((HG.out.cells.1 _ _ hb).trans c0)
  have R3 := wd_cell ((HG.out.cells.1 _ _ hbb).trans rl)
  have R4 := wd_cell ((HG.out.cells.1 _ _ hbb).trans rh)
  have Q3 := wd_cell ((HG.out.cells.1 _ _ hbb).trans ql)
  have Q4 := wd_cell ((HG.out.cells.1 _ _ hbb).trans qh)
  clear hg rl rh ql qh c0 HF1 HF2 HGb
  go_wp2_with fail
  -- both, err := span.Join(..)
  refine wp_region_mix 23 [20, 21] (Grew w1) Grew (JV [⟨20, 21, [.string lo, .string key]⟩] w1) (fun f a => a.put (some 8) (f 20)) (by kernel_rfl) (by kernel_rfl) (fun _ _ => rfl) (JV.start _ w1 _) (fun _ _ _ h => h.grew) Grew.refl (fun _ _ _ _ h g => h.more g) ?_
  repeat (first
    | (refine wpMix_loose (by rfl) (by rfl) ?_)
    | (refine wpMix_plain (by rfl) (by rfl) (by rfl) (by first | exact Grew.refl | exact fun _ => rfl) (by rfl) ?_; intro K hK; go_big_quiet_op; go_big_quiet_on)
    | (refine wpMix_call (by rfl) (by rfl) (by rfl) (by rfl) (fun _ => by kernel_rfl) (fun u hu => HC.out u (HG.out.trans hu)) ?_; simp only [Act.put, List.setIfInBounds_toArray, List.set_cons_zero, List.set_cons_succ])
    | (refine wpMix_skip (by rfl) (by rfl) (by rfl) ?_; simp only [Act.put, List.setIfInBounds_toArray, List.set_cons_zero, List.set_cons_succ]))
  refine wpMix_nil ⟨⟨loose_of rfl (fun _ a => a) (fun _ _ => rfl) (fun _ => rfl) ?_, loose_of rfl (fun f a => a.put (some 8) (f 20)) (fun _ _ => rfl) (fun _ => rfl) ?_, trivial⟩, ?_⟩
  · intro L f u hJ hL hd
    clear HC C0 R3 R4 Q3 Q4
    go_simp
    exact hJ.alloc (by rfl) (V := ⟨20, 21, [.string lo, .string key]⟩) (by simp) hL [.string ⟨#[]⟩, .string ⟨#[]⟩] rfl _
  · intro L f u hJ hL hd
    clear HC C0 R3 R4 Q3 Q4
    obtain ⟨m, x, y, hm, k0, k1, f0, f1⟩ := hJ.two (V := ⟨20, 21, [.string lo, .string key]⟩) (by simp) (hd 20 rfl (by decide)) rfl
    dsimp only at hm
    rw [hm]
    go_simp
    exact hJ.store (by rfl) (V := ⟨20, 21, [.string lo, .string key]⟩) (by simp) (hd 20 rfl (by decide)) hm
  · intro f u hJ
    clear HC C0 R3 R4 Q3 Q4
    have hGu := HG.out.trans hJ.grew
    obtain ⟨m7, q7, n7, l7, a0, a1, _, _⟩ := (hJ.full (V := ⟨20, 21, [.string lo, .string key]⟩) (by simp) rfl).two
    dsimp only at q7
    have HGu := hid hGu
    clear hJ HG hGu
    rw [q7]
    clear q7
    go_wp2_with fail
    -- m.live[i].Span, m.live[i].Since = low, at+1
    have HSu := hid (HS.out.grew HGu.out)
    have hsbu : sb < u.heap.size := Nat.lt_of_lt_of_le hb HGu.out.size
    have hbu : b < u.heap.size := Nat.lt_of_lt_of_le hbb HGu.out.size
    have hm7 : b ≠ m7 := by omega
    have C0 := wd_only (S := fun j => j = b) HSu.out.live (Ne.symm hbsb)
    have A0 := wd_only (S := fun j => j = b) a0 (Ne.symm hm7)
    have A1 := wd_only (S := fun j => j = b) a1 (Ne.symm hm7)
    have k2 := sh_cell HSu.out rfl i HI.out 2 (by omega)
    have k3 := sh_cell HSu.out rfl i HI.out 3 (by omega)
    have k4 := sh_cell HSu.out rfl i HI.out 4 (by omega)
    simp only [Sh.vals, List.getElem?_cons_zero, List.getElem?_cons_succ] at k2 k3 k4
    have f2 : u.frozen? ⟨b, i * 5 + 2, none⟩ = false := HSu.out.row.frozenAt _
    have f3 : u.frozen? ⟨b, i * 5 + 3, none⟩ = false := HSu.out.row.frozenAt _
    have f4 : u.frozen? ⟨b, i * 5 + 4, none⟩ = false := HSu.out.row.frozenAt _
    have hw1 : IntKind.i64.wrap (at' + 1) = at' + 1 := IntWalk.i64_in _ (by omega)
    refine wp_region_mix 16 [15] (Only (fun j => j = b) u) Eq (fun L _ x => x = if L 15 = true then (u.drew.setCell ⟨b, i * 5 + 3, none⟩ (.string lo)).setCell ⟨b, i * 5 + 4, none⟩ (.string key) else u.drew) (fun _ a => a) (by kernel_rfl) (by kernel_rfl) (fun _ _ => rfl) rfl ?_ (fun _ => rfl) (fun _ _ _ _ h g => g ▸ h) ?_
    · rintro L f x rfl
      split
      · exact ((Only.refl _ u).drew.then (Only.setCell _ ⟨b, i * 5 + 3, none⟩ _)).then (Only.setCell _ ⟨b, i * 5 + 4, none⟩ _)
      · exact (Only.refl _ u).drew
    repeat (first
    | (refine wpMix_loose (by rfl) (by rfl) ?_)
    | (refine wpMix_plain (by rfl) (by rfl) (by rfl) (by first | exact Grew.refl | exact fun _ => rfl) (by rfl) ?_; intro K hK; go_big_quiet_op; go_big_quiet_on)
    | (refine wpMix_skip (by rfl) (by rfl) (by rfl) ?_; simp only [Act.put, List.setIfInBounds_toArray, List.set_cons_zero, List.set_cons_succ]))
    refine wpMix_done (by rfl) ⟨⟨loose_of rfl (fun _ a => a) (fun _ _ => rfl) (fun _ => rfl) ?_, trivial⟩, ?_⟩
    · rintro L f x rfl hL hd
      rw [hL]
      clear C0 A0 A1 HSu
      go_simp
    rintro f x hx'
    have hx2 : x = (u.drew.setCell ⟨b, i * 5 + 3, none⟩ (.string lo)).setCell ⟨b, i * 5 + 4, none⟩ (.string key) := hx'
    clear hx' A0 A1
    have C1 := C0 ⟨x, by rw [hx2]; exact ((Only.refl _ u).drew.then (Only.setCell _ ⟨b, i * 5 + 3, none⟩ _)).then (Only.setCell _ ⟨b, i * 5 + 4, none⟩ _)⟩
    dsimp only at C1
    have K2 : x.cell? ⟨b, i * 5 + 2, none⟩ = some (.int .i64 (shAt xs i).since) := by
      rw [hx2, World.cell?_setCell_other _ _ _ _ (by intro e; injection e with _ e; omega), World.cell?_setCell_other _ _ _ _ (by intro e; injection e with _ e; omega)]
      exact k2
    have F2 : x.frozen? ⟨b, i * 5 + 2, none⟩ = false := by
      rw [hx2, World.frozen?_setCell, World.frozen?_setCell]; exact f2
    have HX := hid hx2
    clear C0 k2 k3 k4 f2 f3 f4 hx2
    dsimp only [List.drop]
    go_wp2_with fail
    have HY : Hid (∃ y, y = x.setCell ⟨b, i * 5 + 2, none⟩ (.int .i64 (at' + 1)) ∧ SmIs y F sb (.slice (some ⟨b, 0, none⟩) xs.length cap) ve (xs.set i ⟨(shAt xs i).id, (shAt xs i).server, at' + 1, lo, key⟩) used ne evs ∧ Only (fun j => j = b) u y) := by
      refine ⟨_, rfl, ?_, ?_⟩
      · rw [HX.out]
        exact (HSu.out.grew (Grew.refl u).drew).cut3 i HI.out lo key (at' + 1) HVS.out.1 HVS.out.2
      · rw [HX.out]
        exact (((Only.refl _ u).drew.then (Only.setCell _ ⟨b, i * 5 + 3, none⟩ _)).then (Only.setCell _ ⟨b, i * 5 + 4, none⟩ _)).then (Only.setCell _ ⟨b, i * 5 + 2, none⟩ _)
    obtain ⟨y, hy, hSy, hOy⟩ := HY.out
    rw [← hy]
    have HSy := hid hSy
    have HOy := hid hOy
    have C2 := hSy.live
    have hsby : sb < y.heap.size := Nat.lt_of_lt_of_le hsbu hOy.size
    clear hy HY hSy hOy HX K2 F2 C1 HSu a0 a1
    have hw2 : IntKind.i64.wrap ((j : Int) + 1) = (j : Int) + 1 := IntWalk.i64_in _ (by omega)
    obtain ⟨q, hq⟩ : ∃ q, xs.length = q + 1 := ⟨xs.length - 1, by omega⟩
    have HD := hid (delShard y 0 q j (some ⟨b, 0, none⟩) cap (shFlat (xs.set i ⟨(shAt xs i).id, (shAt xs i).server, at' + 1, lo, key⟩)) (by have := HSy.out.row; rw [List.length_set, hq] at this; exact this) (shFlat_one' _) (by have := HJI.out; omega) (by omega))
    rw [← hq] at HD
    have HQ := hid hq
    clear hq
    -- m.live = slices.Delete(m.live, k, k+1)
    go_wp2_with fail
    refine HD.out.mono ?_
    rintro r z ⟨rfl, hrow, hgr⟩
    have HROW := hid hrow
    have ho1 : Only (fun j => j = b) y z := (Only.of_grownBy hgr).mono fun j hj => .inl (Option.some.inj hj)
    have HO1 := hid ho1
    have C3 : z.cell? ⟨sb, 0, none⟩ = some (.slice (some ⟨b, 0, none⟩) xs.length cap) := (ho1.cell hsby (Ne.symm hbsb) 0).trans C2
    have F3 : z.frozen? ⟨sb, 0, none⟩ = false := (ho1.frozen hsby (Ne.symm hbsb) 0).trans (HSy.out.fz 0 (by omega))
    clear hrow hgr ho1 C2 HD
    go_wp2_with fail
    go_end0
    refine ⟨rfl, ?_⟩
    have o0 : Only F w y := (HGu.out.only F).then (HOy.out.mono fun j hj => .inl (by subst hj; exact (HS.out.foot1 j rfl).1))
    refine ShTurn.trans o0 (fun _ => .inl) (HSy.out.live_set (HO1.out.mono fun j hj => .inl (congrArg some hj)) (fun g hg => .inl hg) ?_ ?_)
    · have := HROW.out
      rw [Pl.mergeM_len xs i j HJI.out, show xs.length - 1 = q from by rw [HQ.out]; rfl]
      unfold Pl.mergeM
      rw [shFlat_append, shFlat_take, shFlat_drop]
      exact this
    · intro c hc
      unfold Pl.mergeM at hc
      rcases List.mem_append.1 hc with hc | hc
      · exact HSy.out.sz c (List.mem_of_mem_take hc)
      · exact HSy.out.sz c (List.mem_of_mem_drop hc)
end
end Go.Proofs.YtbdagllflamabaaGreatDoor
namespace Go.Proofs.YtbdagllflamabaaGreatDoor
open Go.RowKit Go.Maps
attribute [local go_sem] Oper.semAt_some uponV
theorem info_ev : (Tryz.prog.info? 164).map (fun i => (i.zero, i.size, i.bytes)) = some (some (.agg #[.int .i64 0, .int .i64 0, .int .i64 0, .int .i64 0, .int .i64 0, .int .i64 0, .int .i64 0, .slice none 0 0, .string ⟨#[]⟩, .int .i64 0, .int .i64 0, .int .i64 0, .slice none 0 0]), 13, 144) := by kernel_rfl
theorem evz_size : (Value.cells (.agg #[.int .i64 0, .int .i64 0, .int .i64 0, .int .i64 0, .int .i64 0, .int .i64 0, .int .i64 0, .slice none 0 0, .string ⟨#[]⟩, .int .i64 0, .int .i64 0, .int .i64 0, .slice none 0 0])).size = 13 := by kernel_rfl
def evVals (at' : Int) (e : En) : List Value := .int .i64 at' :: e.vals
theorem evVals_one (at' : Int) (e : En) : ∀ u ∈ evVals at' e, u.oneCell' = true := by
  intro u hu
  simp only [evVals, En.vals, List.mem_cons, List.not_mem_nil, or_false] at hu
  rcases hu with rfl | rfl | rfl | rfl | rfl | rfl | rfl | rfl | rfl | rfl | rfl | rfl | rfl <;> rfl
section
variable {w u : World} {F : Nat → Prop} {sb : Nat} {v ve : Value} {xs : List Sh} {used : Nat → Bool} {ne : Nat} {evs : List Value}
theorem SmIs.ev_set {ne' : Nat} {evs' : List Value} (h : SmIs w F sb v ve xs used ne evs) (ho : Only (fun j => some j = ve.ownBlock) w u) {r : Value} (hform : ∀ g, r.ownBlock = some g → ve.ownBlock = some g ∨ w.heap.size ≤ g) (hr : u.ownsRow 0 164 13 r ne' evs') (hpos : 0 < ne') :
    ShTurn w F sb xs used ne' evs' (u.setCell ⟨sb, 14, none⟩ r) := by
  have n0 : ¬ some sb = ve.ownBlock := fun e => (h.foot2 sb e.symm).2.1 rfl
  have hb := h.blt
  have hb2 : sb < u.heap.size := Nat.lt_of_lt_of_le hb ho.size
  have hc : u.cell? ⟨sb, 14, none⟩ = some ve := (ho.cell hb n0 14).trans h.ev
  have o2 := Only.setCell u ⟨sb, 14, none⟩ r
  have hgsb : ∀ g, r.ownBlock = some g → g ≠ sb := by
    intro g hg
    rcases hform g hg with h1 | h1
    · exact (h.foot2 g h1).2.1
    · omega
  have hlt : ∀ g, r.ownBlock = some g → g < u.heap.size := by
    intro g hg
    rcases hr.2 with ⟨e, _⟩ | ⟨b, c, cur, e, _, hh, _⟩
    · rw [e] at hg; cases hg
    · rw [e] at hg; cases hg; exact (Array.getElem?_eq_some_iff.1 hh).1
  have cne : ∀ k, k ≠ 14 → (u.setCell ⟨sb, 14, none⟩ r).cell? ⟨sb, k, none⟩ = u.cell? ⟨sb, k, none⟩ := fun k hk => World.cell?_setCell_other _ _ _ _ (fun e => hk (by injection e with _ e2; exact e2.symm))
  refine ⟨(ho.mono fun j hj => .inl (h.foot2 j hj.symm).1).then (o2.mono fun j hj => .inl (by subst hj; exact h.foot0)), fun j => F j ∨ r.ownBlock = some j, ⟨v, r, ?_⟩, ?_⟩
  · refine ⟨?_, fun i hi => ?_, by simp [World.cell?_setCell_same, hc], fun i hi => ?_, ?_, ?_, h.sz, .inl h.foot0, fun g hg => ⟨.inl (h.foot1 g hg).1, (h.foot1 g hg).2⟩, fun g hg => ⟨.inr hg, hgsb g hg, fun e => ?_⟩, ?_, fun e0 => absurd e0 (Nat.ne_of_gt hpos)⟩
    · rw [cne _ (by omega)]; exact (ho.cell hb n0 _).trans h.live
    · rw [cne _ (by omega)]; exact (ho.cell hb n0 _).trans (h.used i hi)
    · rw [World.frozen?_setCell]; exact (ho.frozen hb n0 _).trans (h.fz i hi)
    · have hl := ownsRow_keep ho h.row (fun b hb e => (h.foot2 b e.symm).2.2 hb)
      exact ownsRow_keep o2 hl (fun b hb e => (h.foot1 b hb).2 e)
    · exact ownsRow_keep o2 hr (fun b hb e => hgsb b hb e)
    · rcases hform g hg with h4 | h4
      · exact (h.foot2 g h4).2.2 e
      · have := h.lt g (h.foot1 g e).1; omega
    · intro j hj
      rcases hj with hj | hj
      · exact Nat.lt_of_lt_of_le (h.lt j hj) (Nat.le_trans ho.size o2.size)
      · exact Nat.lt_of_lt_of_le (hlt j hj) o2.size
  · intro j hj
    rcases hj with hj | hj
    · exact .inl hj
    · rcases hform j hj with h1 | h1
      · exact .inl (h.foot2 j h1).1
      · exact .inr h1
end
def EnBox (w : World) (b : Nat) (e : En) : Prop := ∀ k v, e.vals[k]? = some v → w.cell? ⟨b, k, none⟩ = some v
theorem EnBox.of_alloc (w : World) (e : En) (t : TypeId) : EnBox (w.alloc (.cells e.vals.toArray t)) w.heap.size e := by
  intro k v hv
  have hb : (w.alloc (Obj.cells e.vals.toArray t)).heap[w.heap.size]? = some (Obj.cells e.vals.toArray t) := by
    show (w.heap.push _)[w.heap.size]? = _
    simp
  simp only [World.cell?, hb]; simpa using hv
theorem EnBox.only {w w' : World} {b : Nat} {e : En} {S : Nat → Prop} (h : EnBox w b e) (g : Only S w w') (hb : b < w.heap.size) (hS : ¬ S b) : EnBox w' b e := fun k v hv => (g.cell hb hS k).trans (h k v hv)
theorem EnBox.grew {w w' : World} {b : Nat} {e : En} (h : EnBox w b e) (g : Grew w w') (hb : b < w.heap.size) : EnBox w' b e := h.only (g.only fun _ => False) hb (fun h => h)
theorem EnBox.cells {w : World} {b : Nat} {e : En} (h : EnBox w b e) : w.cell? ⟨b, 0, none⟩ = some (.int .i64 e.kind) ∧ w.cell? ⟨b, 1, none⟩ = some (.int .i64 e.shard) ∧ w.cell? ⟨b, 2, none⟩ = some (.int .i64 e.other) ∧ w.cell? ⟨b, 3, none⟩ = some (.int .i64 e.server) ∧ w.cell? ⟨b, 4, none⟩ = some (.int .i64 e.client) ∧ w.cell? ⟨b, 5, none⟩ = some (.int .i64 e.seq) ∧ w.cell? ⟨b, 6, none⟩ = some (.slice e.opsA e.ops.length e.opsC) ∧ w.cell? ⟨b, 7, none⟩ = some (.string e.key) ∧ w.cell? ⟨b, 8, none⟩ = some (.int .i64 e.upto) ∧ w.cell? ⟨b, 9, none⟩ = some (.int .i64 e.part) ∧ w.cell? ⟨b, 10, none⟩ = some (.int .i64 e.parts) ∧ w.cell? ⟨b, 11, none⟩ = some (.slice e.dataA e.dataL e.dataC) :=
  ⟨h 0 _ rfl, h 1 _ rfl, h 2 _ rfl, h 3 _ rfl, h 4 _ rfl, h 5 _ rfl, h 6 _ rfl, h 7 _ rfl, h 8 _ rfl, h 9 _ rfl, h 10 _ rfl, h 11 _ rfl⟩
namespace Pl
def applyB (xs : List Sh) (used : Nat → Bool) (e : En) (at' : Int) : Bool := countsB xs used e && decide (0 ≤ at') && decide (at' < 4096)
end Pl
section
variable {S : Nat → Bool} (hS : ShdS S) (E : Nat → Addr) {w : World} (hE : Errs S E w) {F : Nat → Prop} {sb : Nat} {xs : List Sh} {used : Nat → Bool} {ne : Nat} {evs : List Value} (h : SmAt w F sb xs used ne evs) (hx : xs.length ≤ 1000) (e : En) (hA : EnAt w e) (hkey : e.key.size ≤ 70368744177664)
include hS hE h hx hA hkey
set_option maxRecDepth 100000 in
set_option maxHeartbeats 4000000 in
theorem apply_no (at' : Int) (hno : Pl.applyB xs used e at' = false) :
    Calls Tryz.prog 44 #[.pointer (some ⟨sb, 0, none⟩), e.agg, .int .i64 at'] w fun r w' => r = .returned (.bool false) ∧ Grew w w' := by
  have HC := hid (fun W (g : Grew w W) => counts_any hS E (hE.grew g) (h.grew g) (by omega : xs.length ≤ 1000000) e (hA.grew g) hkey)
  have hb : sb < w.heap.size := by obtain ⟨_, _, h⟩ := h; exact h.blt
  cases hc : Pl.countsB xs used e with
  | false =>
    rw [hc] at HC
    clear hc hno hA hE h
    unfold En.agg En.vals at *
    go_enter Tryz.func44, Tryz.ntmps44
    go_wp2_with fail
    refine (HC.out _ ((Grew.refl w).alloc _)).mono ?_
    rintro r w1 ⟨rfl, hg⟩
    have hG := ((Grew.refl w).alloc _).trans hg
    clear hg
    go_wp2_with fail
    go_ret
    exact ⟨rfl, hG⟩
  | true =>
    rw [hc] at HC
    have hat : at' < 0 ∨ (0 ≤ at' ∧ 4096 ≤ at') := by
      unfold Pl.applyB at hno
      rw [hc] at hno
      simp at hno
      omega
    clear hc hno hA hE h
    unfold En.agg En.vals at *
    rcases hat with ha | ⟨ha, ha2⟩
    · go_enter Tryz.func44, Tryz.ntmps44
      go_wp2_with fail
      refine (HC.out _ ((Grew.refl w).alloc _)).mono ?_
      rintro r w1 ⟨rfl, hg⟩
      have hG := ((Grew.refl w).alloc _).trans hg
      clear hg
      go_wp2_with fail
      go_ret
      exact ⟨rfl, hG⟩
    · have ha' : ¬ at' < 0 := by omega
      go_enter Tryz.func44, Tryz.ntmps44
      go_wp2_with fail
      refine (HC.out _ ((Grew.refl w).alloc _)).mono ?_
      rintro r w1 ⟨rfl, hg⟩
      have hG := ((Grew.refl w).alloc _).trans hg
      clear hg
      go_wp2_with fail
      go_ret
      exact ⟨rfl, hG⟩
set_option maxRecDepth 100000 in
set_option maxHeartbeats 4000000 in
theorem apply_move (at' : Int) (hyes : Pl.applyB xs used e at' = true) (k2 : e.kind = 2) (i : Nat) (hi : i < xs.length) (hf : Pl.findM xs e.shard = (i : Nat)) :
    Calls Tryz.prog 44 #[.pointer (some ⟨sb, 0, none⟩), e.agg, .int .i64 at'] w fun r w' => r = .returned (.bool true) ∧ ShTurn w F sb (xs.set i ⟨(shAt xs i).id, e.server, (shAt xs i).since, (shAt xs i).lo, (shAt xs i).hi⟩) used ne evs w' := by
  have HC := hid (fun W (g : Grew w W) => counts_any hS E (hE.grew g) (h.grew g) (by omega : xs.length ≤ 1000000) e (hA.grew g) hkey)
  have HF1 := hid (fun W (g : Grew w W) => findM_any (h.grew g) (by omega : xs.length ≤ 1000000) e.shard)
  obtain ⟨v, ve, h⟩ := h
  obtain ⟨b, cap, rfl, _, hbb⟩ := h.row.form (by omega : 0 < xs.length)
  have c0 := h.live
  have hb := h.blt
  have hbsb : b ≠ sb := (h.foot1 b rfl).2
  rw [hf] at HF1
  have hiI : ¬ ((i : Int) < 0) := by omega
  have hiL : (i : Int) < (xs.length : Int) := by omega
  have HS := hid h
  have HI := hid hi
  have hap := hyes
  unfold Pl.applyB at hap
  simp only [Bool.and_eq_true, decide_eq_true_eq] at hap
  obtain ⟨⟨hc, ha0⟩, ha1⟩ := hap
  have ha0' : ¬ at' < 0 := by omega
  have ha1' : ¬ 4096 ≤ at' := by omega
  rw [hc] at HC
  clear hyes hc hA hE hf h hi
  unfold En.agg En.vals at *
  obtain ⟨kind, shard, other, server, client, seq, key, upto, part, parts, ops, opsA, opsC, dataA, dataL, dataC⟩ := e
  dsimp only at *
  subst k2
  go_enter Tryz.func44, Tryz.ntmps44
  go_wp2_with fail
  refine (HC.out _ ((Grew.refl w).alloc _)).mono ?_
  rintro r w1 ⟨rfl, hg⟩
  have hG := ((Grew.refl w).alloc _).trans hg
  have hcc := hg.cells.1
  have hz : w.heap.size < w1.heap.size := by have := hg.size; simp at this; omega
  have HG := hid hG
  have E0 : w1.cell? ⟨w.heap.size, 0, none⟩ = some (.int .i64 2) := (hcc _ _ (by simp)).trans (by simp [go_sem])
  have E1 := wd_cell ((hcc w.heap.size 1 (by simp)).trans (by simp [go_sem] : _ = some (.int .i64 shard)))
  have E3 := wd_cell ((hcc w.heap.size 3 (by simp)).trans (by simp [go_sem] : _ = some (.int .i64 server)))
  clear hg hG hcc
  go_wp2_with fail
  have hb1 : sb < w1.heap.size := Nat.lt_of_lt_of_le hb HG.out.size
  have hbb1 : b < w1.heap.size := Nat.lt_of_lt_of_le hbb HG.out.size
  have C0 := wd_cell ((HG.out.cells.1 _ _ hb).trans c0)
  clear HC c0
  refine wp_region_mix 10 [] (Grew w1) Grew (fun _ _ x => Grew w1 x) (fun _ a => a) (by kernel_rfl) (by kernel_rfl) (fun _ _ => rfl) (Grew.refl w1).drew (fun _ _ _ h => h) Grew.refl (fun _ _ _ _ h g => h.trans g) ?_
  repeat (first
    | (refine wpMix_loose (by rfl) (by rfl) ?_)
    | (refine wpMix_plain (by rfl) (by rfl) (by rfl) (by first | exact Grew.refl | exact fun _ => rfl) (by rfl) ?_; intro K hK; go_big_quiet_op; go_big_quiet_on)
    | (refine wpMix_call (by rfl) (by rfl) (by rfl) (by rfl) (fun _ => by kernel_rfl) (fun u hu => HF1.out u (HG.out.trans hu)) ?_; simp only [Act.put, List.setIfInBounds_toArray, List.set_cons_zero, List.set_cons_succ])
    | (refine wpMix_skip (by rfl) (by rfl) (by rfl) ?_; simp only [Act.put, List.setIfInBounds_toArray, List.set_cons_zero, List.set_cons_succ]))
  refine wpMix_done (by rfl) ⟨trivial, ?_⟩
  rintro f0 x hgx
  have HX := hid (HS.out.grew (HG.out.trans hgx))
  have HGX := hid (HG.out.trans hgx)
  have s1 := sh_cell HX.out rfl i HI.out 1 (by omega)
  simp only [Sh.vals, List.getElem?_cons_zero, List.getElem?_cons_succ] at s1
  have f1 : x.frozen? ⟨b, i * 5 + 1, none⟩ = false := HX.out.row.frozenAt _
  clear E0 E1 E3 C0 hgx HF1
  dsimp only [List.drop]
  go_wp2_with fail
  go_ret
  refine ⟨rfl, ?_⟩
  have hfin := HX.out.serv i HI.out server
  refine ⟨(HGX.out.only F).then ((Only.setCell x ⟨b, i * 5 + 1, none⟩ _).mono fun j hj => .inl (by subst hj; exact (HS.out.foot1 _ rfl).1)), F, ⟨_, _, hfin⟩, fun _ => .inl⟩
end
end Go.Proofs.YtbdagllflamabaaGreatDoor
