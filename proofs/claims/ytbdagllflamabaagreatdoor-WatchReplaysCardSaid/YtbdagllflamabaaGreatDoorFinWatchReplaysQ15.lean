/- The walk of shards.split. -/
import Derived.Test.YtbdagllflamabaaGreatDoorFinWatchReplaysQ14
import Derived.Test.YtbdagllflamabaaGreatDoorFinWatchReplaysQ12
set_option linter.unusedVariables false
set_option linter.unusedSectionVars false
set_option linter.unusedSimpArgs false
namespace Go.Proofs.YtbdagllflamabaaGreatDoor
open Go.RowKit Go.Maps
attribute [local go_sem] Oper.semAt_some uponV
namespace Pl
def splitM (xs : List Sh) (i : Nat) (key : ByteArray) (other server at' : Int) : List Sh :=
  xs.take i ++ [⟨(shAt xs i).id, (shAt xs i).server, at' + 1, (shAt xs i).lo, key⟩, ⟨other, server, at' + 1, key, (shAt xs i).hi⟩] ++ xs.drop (i + 1)
theorem splitM_eq (xs : List Sh) (i : Nat) (hi : i < xs.length) (key : ByteArray) (other server at' : Int) :
    splitM xs i key other server at' = (xs.set i ⟨(shAt xs i).id, (shAt xs i).server, at' + 1, (shAt xs i).lo, key⟩).take (i + 1) ++ [⟨other, server, at' + 1, key, (shAt xs i).hi⟩] ++ (xs.set i ⟨(shAt xs i).id, (shAt xs i).server, at' + 1, (shAt xs i).lo, key⟩).drop (i + 1) := by
  unfold splitM
  rw [List.set_eq_take_append_cons_drop, if_pos hi]
  have e : (xs.take i).length = i := by rw [List.length_take]; omega
  generalize xs.take i = A at *
  generalize xs.drop (i + 1) = B
  have e1 : i + 1 - i = 1 := by omega
  have e2 : A.take (i + 1) = A := List.take_of_length_le (by omega)
  have e3 : A.drop (i + 1) = [] := List.drop_of_length_le (by omega)
  rw [List.take_append, List.drop_append, e, e1, e2, e3]
  simp
theorem splitM_len (xs : List Sh) (i : Nat) (hi : i < xs.length) (key : ByteArray) (other server at' : Int) : (splitM xs i key other server at').length = xs.length + 1 := by
  unfold splitM
  simp
  omega
def useM (used : Nat → Bool) (k : Nat) (j : Nat) : Bool := if j = k then true else used j
end Pl
section
variable {S : Nat → Bool} (hS : ShdS S) (E : Nat → Addr) {w : World} (hE : Errs S E w) {F : Nat → Prop} {sb : Nat} {xs : List Sh} {used : Nat → Bool} {ne : Nat} {evs : List Value} (h : SmAt w F sb xs used ne evs) (hx : xs.length ≤ 1000) (e : En) (hkey : e.key.size ≤ 70368744177664)
include hS hE h hx hkey
set_option maxRecDepth 100000 in
set_option maxHeartbeats 4000000 in
theorem split_any (at' : Int) (ha0 : 0 ≤ at') (ha1 : at' < 1000000) (i : Nat) (hi : i < xs.length) (hf : Pl.findM xs e.shard = (i : Nat)) (o1 : 1 ≤ e.other) (o2 : e.other ≤ 12) (hcut : Pl.cutE (Pl.rightS (shAt xs i).lo (shAt xs i).hi) (Pl.keyN e.key) (Pl.hasS (shAt xs i).lo (shAt xs i).hi e.key) (shAt xs i).lo e.key = 0) :
    Calls Tryz.prog 85 #[.pointer (some ⟨sb, 0, none⟩), e.agg, .int .i64 at'] w fun r w' => r = .returned (.tuple #[]) ∧ ShTurn w F sb (Pl.splitM xs i e.key e.other e.server at') (Pl.useM used e.other.toNat) ne evs w' := by
  have HE := hid hE
  have HF1 := hid (fun W (g : Grew w W) => findM_any (h.grew g) (by omega : xs.length ≤ 1000000) e.shard)
  obtain ⟨v, ve, h⟩ := h
  obtain ⟨b, cap, rfl, _, hbb⟩ := h.row.form (by omega : 0 < xs.length)
  have c0 := h.live
  have hb := h.blt
  have hbsb : b ≠ sb := (h.foot1 b rfl).2
  obtain ⟨z1, z2⟩ := h.sz _ (shAt_mem xs i hi)
  rw [hf] at HF1
  have hiI : ¬ ((i : Int) < 0) := by omega
  have hiL : (i : Int) < (xs.length : Int) := by omega
  have rl := sh_cell h rfl i hi 3 (by omega)
  have rh := sh_cell h rfl i hi 4 (by omega)
  simp only [Sh.vals, List.getElem?_cons_zero, List.getElem?_cons_succ] at rl rh
  have HC := hid (fun W (g : Grew w W) => cut_any S E hS.span (shAt xs i).lo (shAt xs i).hi e.key W z1 z2 hkey (HE.out.grew g))
  rw [hcut] at HC
  unfold CutPost at HC
  simp only [Pl.cutA, if_true, errOf_zero] at HC
  have HS := hid h
  have HI := hid hi
  clear hE HE hf hcut z1 z2 h hi
  unfold En.agg En.vals at *
  obtain ⟨kind, shard, other, server, client, seq, key, upto, part, parts, ops, opsA, opsC, dataA, dataL, dataC⟩ := e
  dsimp only at *
  obtain ⟨on, rfl⟩ : ∃ on : Nat, other = (on : Int) := ⟨other.toNat, by omega⟩
  have ho13 : (on : Int) < 13 := by omega
  have ho13n : on < 13 := by omega
  rw [Int.toNat_natCast]
  generalize hlo : (shAt xs i).lo = lo at *
  generalize hhi : (shAt xs i).hi = hi' at *
  have HLO := hid hlo
  have HHI := hid hhi
  clear hlo hhi
  go_enter Tryz.func85, Tryz.ntmps85
  go_wp2_with fail
  refine (HF1.out _ ((Grew.refl w).alloc _)).mono ?_
  rintro r w1 ⟨rfl, hg⟩
  have hc := hg.cells.1
  have hz : w.heap.size < w1.heap.size := by have := hg.size; simp at this; omega
  have HG := hid (((Grew.refl w).alloc _).trans hg)
  have E7 : w1.cell? ⟨w.heap.size, 7, none⟩ = some (.string key) := (hc _ _ (by simp)).trans (by simp [go_sem])
  have E2 : w1.cell? ⟨w.heap.size, 2, none⟩ = some (.int .i64 on) := (hc _ _ (by simp)).trans (by simp [go_sem])
  have E3 : w1.cell? ⟨w.heap.size, 3, none⟩ = some (.int .i64 server) := (hc _ _ (by simp)).trans (by simp [go_sem])
  have hb1 : sb < w1.heap.size := Nat.lt_of_lt_of_le hb HG.out.size
  have hbb1 : b < w1.heap.size := Nat.lt_of_lt_of_le hbb HG.out.size
  have C0 := wd_cell ((HG.out.cells.1 _ _ hb).trans c0)
  have R3 := wd_cell ((HG.out.cells.1 _ _ hbb).trans rl)
  have R4 := wd_cell ((HG.out.cells.1 _ _ hbb).trans rh)
  have D7 := wd_cell E7
  clear hg hc rl rh c0 HF1
  go_wp2_with fail
  -- low, high, err := span.Cut(..)
  refine wp_region_mix 20 [15, 16, 17, 18] (Grew w1) Grew (JV [⟨15, 17, [.string lo, .string key]⟩, ⟨16, 18, [.string key, .string hi']⟩] w1) (fun f a => (a.put (some 7) (f 15)).put (some 8) (f 16)) (by kernel_rfl) (by kernel_rfl) (fun _ _ => rfl) (JV.start _ w1 _) (fun _ _ _ h => h.grew) Grew.refl (fun _ _ _ _ h g => h.more g) ?_
  repeat (first
    | (refine wpMix_loose (by rfl) (by rfl) ?_)
    | (refine wpMix_plain (by rfl) (by rfl) (by rfl) (by first | exact Grew.refl | exact fun _ => rfl) (by rfl) ?_; intro K hK; go_big_quiet_op; go_big_quiet_on)
    | (refine wpMix_call (by rfl) (by rfl) (by rfl) (by rfl) (fun _ => by kernel_rfl) (fun u hu => HC.out u (HG.out.trans hu)) ?_; simp only [Act.put, List.setIfInBounds_toArray, List.set_cons_zero, List.set_cons_succ])
    | (refine wpMix_skip (by rfl) (by rfl) (by rfl) ?_; simp only [Act.put, List.setIfInBounds_toArray, List.set_cons_zero, List.set_cons_succ]))
  refine wpMix_nil ⟨⟨loose_of rfl (fun _ a => a) (fun _ _ => rfl) (fun _ => rfl) ?_, loose_of rfl (fun _ a => a) (fun _ _ => rfl) (fun _ => rfl) ?_, loose_of rfl (fun f a => (a.put (some 7) (f 15)).put (some 8) (f 16)) (fun _ _ => rfl) (fun _ => rfl) ?_, loose_of rfl (fun f a => (a.put (some 7) (f 15)).put (some 8) (f 16)) (fun _ _ => rfl) (fun _ => rfl) ?_, trivial⟩, ?_⟩
  · intro L f u hJ hL hd
    clear HC C0 R3 R4 D7
    go_simp
    exact hJ.alloc (by rfl) (V := ⟨15, 17, [.string lo, .string key]⟩) (by simp) hL [.string ⟨#[]⟩, .string ⟨#[]⟩] rfl _
  · intro L f u hJ hL hd
    clear HC C0 R3 R4 D7
    go_simp
    exact hJ.alloc (by rfl) (V := ⟨16, 18, [.string key, .string hi']⟩) (by simp) hL [.string ⟨#[]⟩, .string ⟨#[]⟩] rfl _
  · intro L f u hJ hL hd
    clear HC C0 R3 R4 D7
    obtain ⟨m, x, y, hm, k0, k1, f0, f1⟩ := hJ.two (V := ⟨15, 17, [.string lo, .string key]⟩) (by simp) (hd 15 rfl (by decide)) rfl
    dsimp only at hm
    rw [hm]
    go_simp
    exact hJ.store (by rfl) (V := ⟨15, 17, [.string lo, .string key]⟩) (by simp) (hd 15 rfl (by decide)) hm
  · intro L f u hJ hL hd
    clear HC C0 R3 R4 D7
    obtain ⟨m, x, y, hm, k0, k1, f0, f1⟩ := hJ.two (V := ⟨16, 18, [.string key, .string hi']⟩) (by simp) (hd 16 rfl (by decide)) rfl
    dsimp only at hm
    rw [hm]
    go_simp
    exact hJ.store (by rfl) (V := ⟨16, 18, [.string key, .string hi']⟩) (by simp) (hd 16 rfl (by decide)) hm
  · intro f u hJ
    clear HC C0 R3 R4 D7
    have hGu := HG.out.trans hJ.grew
    obtain ⟨m7, q7, n7, l7, a0, a1, _, _⟩ := (hJ.full (V := ⟨15, 17, [.string lo, .string key]⟩) (by simp) rfl).two
    obtain ⟨m8, q8, n8, l8, b0, b1, _, _⟩ := (hJ.full (V := ⟨16, 18, [.string key, .string hi']⟩) (by simp) rfl).two
    dsimp only at q7 q8
    have E2u := (hJ.grew.cells.1 _ _ hz).trans E2
    have E3u := (hJ.grew.cells.1 _ _ hz).trans E3
    have hzu : w.heap.size < u.heap.size := Nat.lt_of_lt_of_le hz hJ.grew.size
    have HGu := hid hGu
    clear hJ HG hGu E2 E3 E7
    rw [q7, q8]
    clear q7 q8
    go_wp2_with fail
    -- m.live[i].Span, m.live[i].Since = low, at+1
    have HSu := hid (HS.out.grew HGu.out)
    have hsbu : sb < u.heap.size := Nat.lt_of_lt_of_le hb HGu.out.size
    have hbu : b < u.heap.size := Nat.lt_of_lt_of_le hbb HGu.out.size
    have hm7 : b ≠ m7 := by omega
    have hm8 : b ≠ m8 := by omega
    have C0 := wd_only (S := fun j => j = b) HSu.out.live (Ne.symm hbsb)
    have A0 := wd_only (S := fun j => j = b) a0 (Ne.symm hm7)
    have A1 := wd_only (S := fun j => j = b) a1 (Ne.symm hm7)
    have k2 := sh_cell HSu.out rfl i HI.out 2 (by omega)
    have k3 := sh_cell HSu.out rfl i HI.out 3 (by omega)
    have k4 := sh_cell HSu.out rfl i HI.out 4 (by omega)
    simp only [Sh.vals, List.getElem?_cons_zero, List.getElem?_cons_succ] at k2 k3 k4
    have f2 : u.frozen? ⟨b, i * 5 + 2, none⟩ = false := HSu.out.row.frozenAt _
    have f3 : u.frozen? ⟨b, i * 5 + 3, none⟩ = false := HSu.out.row.frozenAt _
    have f4 : u.frozen? ⟨b, i * 5 + 4, none⟩ = false := HSu.out.row.frozenAt _
    have hw1 : IntKind.i64.wrap (at' + 1) = at' + 1 := IntWalk.i64_in _ (by omega)
    refine wp_region_mix 16 [15] (Only (fun j => j = b) u) Eq (fun L _ x => x = if L 15 = true then (u.drew.setCell ⟨b, i * 5 + 3, none⟩ (.string lo)).setCell ⟨b, i * 5 + 4, none⟩ (.string key) else u.drew) (fun _ a => a) (by kernel_rfl) (by kernel_rfl) (fun _ _ => rfl) rfl ?_ (fun _ => rfl) (fun _ _ _ _ h g => g ▸ h) ?_
    · rintro L f x rfl
      split
      · exact ((Only.refl _ u).drew.then (Only.setCell _ ⟨b, i * 5 + 3, none⟩ _)).then (Only.setCell _ ⟨b, i * 5 + 4, none⟩ _)
      · exact (Only.refl _ u).drew
    repeat (first
    | (refine wpMix_loose (by rfl) (by rfl) ?_)
    | (refine wpMix_plain (by rfl) (by rfl) (by rfl) (by first | exact Grew.refl | exact fun _ => rfl) (by rfl) ?_; intro K hK; go_big_quiet_op; go_big_quiet_on)
    | (refine wpMix_skip (by rfl) (by rfl) (by rfl) ?_; simp only [Act.put, List.setIfInBounds_toArray, List.set_cons_zero, List.set_cons_succ]))
    refine wpMix_done (by rfl) ⟨⟨loose_of rfl (fun _ a => a) (fun _ _ => rfl) (fun _ => rfl) ?_, trivial⟩, ?_⟩
    · rintro L f x rfl hL hd
      rw [hL]
      clear C0 A0 A1 HSu
      go_simp
    rintro f x hx'
    have hx2 : x = (u.drew.setCell ⟨b, i * 5 + 3, none⟩ (.string lo)).setCell ⟨b, i * 5 + 4, none⟩ (.string key) := hx'
    clear hx' A0 A1
    have C1 := C0 ⟨x, by rw [hx2]; exact ((Only.refl _ u).drew.then (Only.setCell _ ⟨b, i * 5 + 3, none⟩ _)).then (Only.setCell _ ⟨b, i * 5 + 4, none⟩ _)⟩
    dsimp only at C1
    have K2 : x.cell? ⟨b, i * 5 + 2, none⟩ = some (.int .i64 (shAt xs i).since) := by
      rw [hx2, World.cell?_setCell_other _ _ _ _ (by intro e; injection e with _ e; omega), World.cell?_setCell_other _ _ _ _ (by intro e; injection e with _ e; omega)]
      exact k2
    have F2 : x.frozen? ⟨b, i * 5 + 2, none⟩ = false := by
      rw [hx2, World.frozen?_setCell, World.frozen?_setCell]; exact f2
    have HX := hid hx2
    clear C0 k2 k3 k4 f2 f3 f4 hx2
    dsimp only [List.drop]
    go_wp2_with fail
    -- m.live = slices.Insert(..)
    have HY : Hid (∃ y, y = x.setCell ⟨b, i * 5 + 2, none⟩ (.int .i64 (at' + 1)) ∧ SmIs y F sb (.slice (some ⟨b, 0, none⟩) xs.length cap) ve (xs.set i ⟨(shAt xs i).id, (shAt xs i).server, at' + 1, lo, key⟩) used ne evs ∧ Only (fun j => j = b) u y) := by
      refine ⟨_, rfl, ?_, ?_⟩
      · rw [HX.out]
        exact (HSu.out.grew (Grew.refl u).drew).cut3 i HI.out lo key (at' + 1) (by rw [← HLO.out]; exact (HS.out.sz _ (shAt_mem xs i HI.out)).1) hkey
      · rw [HX.out]
        exact (((Only.refl _ u).drew.then (Only.setCell _ ⟨b, i * 5 + 3, none⟩ _)).then (Only.setCell _ ⟨b, i * 5 + 4, none⟩ _)).then (Only.setCell _ ⟨b, i * 5 + 2, none⟩ _)
    obtain ⟨y, hy, hSy, hOy⟩ := HY.out
    rw [← hy]
    have HSy := hid hSy
    have HOy := hid hOy
    have hbox : w.heap.size ≠ b := by omega
    have hbox2 : w.heap.size ≠ sb := by omega
    have C2 := wd_only (S := fun j => j = b) hSy.live (Ne.symm hbsb)
    have B0 := wd_only (S := fun j => j = b) ((hOy.cell l8 (Ne.symm hm8) 0).trans b0) (Ne.symm hm8)
    have B1 := wd_only (S := fun j => j = b) ((hOy.cell l8 (Ne.symm hm8) 1).trans b1) (Ne.symm hm8)
    have E2y := (hOy.cell hzu hbox 2).trans E2u
    have E3y := (hOy.cell hzu hbox 3).trans E3u
    have G2 := wd_only (S := fun j => j = b) E2y hbox
    have G3 := wd_only (S := fun j => j = b) E3y hbox
    have hzy : w.heap.size < y.heap.size := Nat.lt_of_lt_of_le hzu hOy.size
    have hsby : sb < y.heap.size := Nat.lt_of_lt_of_le hsbu hOy.size
    have hby : b < y.heap.size := Nat.lt_of_lt_of_le hbu hOy.size
    clear hy HY hSy hOy HX K2 F2 C1 E2u E3u HSu a0 a1 b0 b1
    have hw2 : IntKind.i64.wrap ((i : Int) + 1) = (i : Int) + 1 := IntWalk.i64_in _ (by omega)
    have HIN := hid (fun W (g : Grew y W) vb hvb hne => insShard W 0 (some ⟨b, 0, none⟩) xs.length cap (shFlat (xs.set i ⟨(shAt xs i).id, (shAt xs i).server, at' + 1, lo, key⟩)) (by have := (HSy.out.grew g).row; rw [List.length_set] at this; exact this) (Nat.zero_le _) (shFlat_one' _) (i + 1) HI.out vb (Sh.vals ⟨on, server, at' + 1, key, hi'⟩) 1 hvb rfl (by intro u hu; simp [Sh.vals] at hu; rcases hu with rfl | rfl | rfl | rfl | rfl <;> rfl) (by omega) hne)
    obtain ⟨RW, hRW⟩ : ∃ RW, RW = (shFlat (xs.set i ⟨(shAt xs i).id, (shAt xs i).server, at' + 1, lo, key⟩)).take ((i + 1) * 5) ++ Sh.vals ⟨on, server, at' + 1, key, hi'⟩ ++ (shFlat (xs.set i ⟨(shAt xs i).id, (shAt xs i).server, at' + 1, lo, key⟩)).drop ((i + 1) * 5) := ⟨_, rfl⟩
    rw [← hRW] at HIN
    have HRW := hid hRW
    clear hRW
    refine wp_region_mix 17 [15, 16] (Only (fun j => j = b) y) Eq (fun L f x => (L 16 = true → L 15 = true) ∧ (L 16 = false → Grew y x) ∧ (L 15 = true → L 16 = false → ∃ vb, f 15 = .slice (some ⟨vb, 0, none⟩) 1 1 ∧ y.heap.size ≤ vb ∧ x.heap[vb]? = some (.cells (Sh.vals ⟨on, server, at' + 1, key, hi'⟩).toArray 118 (0, 0))) ∧
      (L 16 = true → ∃ x0, Grew y x0 ∧ InsShard x0 x (.slice (some ⟨b, 0, none⟩) xs.length cap) (f 16) 0 (xs.length + 1) RW)) (fun f a => (a.put (some 63) (f 15)).put (some 64) (f 16)) (by kernel_rfl) (by kernel_rfl) (fun _ _ => rfl) ⟨fun h => (by cases h), fun _ => (Grew.refl y).drew, fun h => (by cases h), fun h => (by cases h)⟩ ?_ (fun _ => rfl) (fun _ _ _ _ h g => g ▸ h) ?_
    · rintro L f x ⟨_, h1, _, h3⟩
      cases hL : L 16 with
      | false => exact (h1 hL).only _
      | true =>
        obtain ⟨x0, g0, hi0⟩ := h3 hL
        exact (g0.only _).then ((Only.of_grownBy hi0.grown).mono fun j hj => .inl (Option.some.inj hj))
    repeat (first
    | (refine wpMix_loose (by rfl) (by rfl) ?_)
    | (refine wpMix_plain (by rfl) (by rfl) (by rfl) (by first | exact Grew.refl | exact fun _ => rfl) (by rfl) ?_; intro K hK; go_big_quiet_op; go_big_quiet_on)
    | (refine wpMix_skip (by rfl) (by rfl) (by rfl) ?_; simp only [Act.put, List.setIfInBounds_toArray, List.set_cons_zero, List.set_cons_succ]))
    refine wpMix_done (by rfl) ⟨⟨loose_of rfl (fun _ a => a) (fun _ _ => rfl) (fun _ => rfl) ?_, loose_of rfl (fun f a => a.put (some 63) (f 15)) (fun _ _ => rfl) (fun _ => rfl) ?_, trivial⟩, ?_⟩
    · rintro L f x' ⟨h0, h1, h2, h3⟩ hL hd
      clear C2 B0 B1 G2 G3 E2y E3y
      have hL16 : L 16 = false := by
        cases h : L 16 with
        | false => rfl
        | true => rw [h0 h] at hL; cases hL
      have h1' := hid (h1 hL16)
      clear h0 h1 h2 h3 hd
      go_simp
      refine ⟨h1'.out.alloc _, x'.heap.size, updV_same _ _ _, h1'.out.size, ?_⟩
      show (x'.heap.push _)[x'.heap.size]? = _
      simp [Sh.vals]
    · rintro L f x' ⟨h0, h1, h2, h3⟩ hL hd
      clear C2 B0 B1 G2 G3 E2y E3y
      obtain ⟨vb, q15, hvN, hvb⟩ := h2 (hd 15 rfl (by decide)) hL
      have h1' := hid (h1 hL)
      have hvb' := hid hvb
      have hl15 := hid (hd 15 rfl (by decide))
      clear h0 h1 h2 h3 hd hvb
      rw [q15]
      go_simp
      refine (HIN.out x' h1'.out vb hvb'.out (fun e => by have e2 : b = vb := Option.some.inj e; omega)).mono ?_
      rintro r w'' ⟨v, rfl, hIns⟩
      exact ⟨v, rfl, by rw [hl15.out], x', h1'.out, by rw [updV_same]; exact hIns⟩
    rintro f x' ⟨_, _, _, h3⟩
    obtain ⟨x0, g0, hIns⟩ := h3 rfl
    have ho1 : Only (fun j => j = b) y x' := (g0.only _).then ((Only.of_grownBy hIns.grown).mono fun j hj => .inl (Option.some.inj hj))
    have HT : Hid (∀ r, f 16 = r → ShTurn y F sb (Pl.splitM xs i key on server at') used ne evs (x'.setCell ⟨sb, 0, none⟩ r)) := by
      rintro r rfl
      refine HSy.out.live_set (ho1.mono fun j hj => .inl (congrArg some hj)) ?_ ?_ ?_
      · obtain ⟨g, c, hr, hg⟩ := hIns.form
        intro g' hg'
        rw [hr] at hg'
        cases hg'
        rcases hg with hg | hg
        · exact .inl hg
        · exact .inr (Nat.le_trans g0.size hg)
      · have := hIns.row
        rw [HRW.out, ← shFlat_take, ← shFlat_drop, ← shFlat_one, ← shFlat_append, ← shFlat_append] at this
        rw [Pl.splitM_len xs i HI.out, Pl.splitM_eq xs i HI.out, HLO.out, HHI.out]
        exact this
      · intro c hc
        rw [Pl.splitM_eq xs i HI.out, HLO.out, HHI.out] at hc
        rcases List.mem_append.1 hc with hc | hc
        · rcases List.mem_append.1 hc with hc | hc
          · exact HSy.out.sz c (List.mem_of_mem_take hc)
          · rw [List.mem_singleton] at hc
            subst hc
            exact ⟨hkey, by rw [← HHI.out]; exact (HS.out.sz _ (shAt_mem xs i HI.out)).2⟩
        · exact HSy.out.sz c (List.mem_of_mem_drop hc)
    have HO3 := hid ho1
    have C3 : x'.cell? ⟨sb, 0, none⟩ = some (.slice (some ⟨b, 0, none⟩) xs.length cap) := (ho1.cell hsby (Ne.symm hbsb) 0).trans HSy.out.live
    have F3 : x'.frozen? ⟨sb, 0, none⟩ = false := (ho1.frozen hsby (Ne.symm hbsb) 0).trans (HSy.out.fz 0 (by omega))
    have E2x := (ho1.cell hzy hbox 2).trans E2y
    have hzx : w.heap.size < x'.heap.size := Nat.lt_of_lt_of_le hzy ho1.size
    obtain ⟨g3, c3, hrr, _⟩ := hIns.form
    have HT2 := hid (HT.out _ hrr)
    rw [hrr]
    clear hIns ho1 HT C2 B0 B1 G2 G3 E2y E3y hrr HIN h3
    dsimp only [List.drop]
    go_wp2_with fail
    -- m.used[e.Other] = true
    obtain ⟨z, hzz⟩ : ∃ z, z = x'.setCell ⟨sb, 0, none⟩ (.slice (some ⟨g3, 0, none⟩) (xs.length + 1) c3) := ⟨_, rfl⟩
    rw [← hzz]
    rw [← hzz] at HT2
    have E2z : z.cell? ⟨w.heap.size, 2, none⟩ = some (.int .i64 on) := by
      rw [hzz, World.cell?_setCell_other _ _ _ _ (by intro e; injection e with e _; exact hbox2 e.symm)]
      exact E2x
    have hzl : w.heap.size < z.heap.size := by rw [hzz]; simpa using hzx
    have HOz := hid (show Only (fun j => j = b ∨ j = sb) y z from by
      rw [hzz]
      exact (HO3.out.mono fun j hj => .inl (.inl hj)).then ((Only.setCell x' ⟨sb, 0, none⟩ _).mono fun j hj => .inl (.inr hj)))
    obtain ⟨o4, F', hSz, hF'⟩ := HT2.out
    obtain ⟨v', ve', hSz⟩ := hSz
    have U0 := hSz.used on ho13n
    have FU := hSz.fz (1 + on) (by omega)
    have HSz := hid hSz
    have HF' := hid hF'
    have HO4 := hid o4
    have W2 := wd_cell E2z
    clear hzz hSz hF' o4 HT2 C3 F3 E2x
    refine wp_region_mix 5 [] (Grew z) Eq (fun _ _ q => q = z.drew) (fun _ a => a) (by kernel_rfl) (by kernel_rfl) (fun _ _ => rfl) rfl (fun _ _ q h => by rw [h]; exact (Grew.refl z).drew) (fun _ => rfl) (fun _ _ _ _ h g => g ▸ h) ?_
    repeat (first
    | (refine wpMix_loose (by rfl) (by rfl) ?_)
    | (refine wpMix_plain (by rfl) (by rfl) (by rfl) (by first | exact Grew.refl | exact fun _ => rfl) (by rfl) ?_; intro K hK; go_big_quiet_op; go_big_quiet_on)
    | (refine wpMix_skip (by rfl) (by rfl) (by rfl) ?_; simp only [Act.put, List.setIfInBounds_toArray, List.set_cons_zero, List.set_cons_succ]))
    refine wpMix_done (by rfl) ⟨trivial, ?_⟩
    rintro f2 q rfl
    clear W2
    dsimp only [List.drop]
    go_wp2_with fail
    go_end0
    refine ⟨rfl, ?_⟩
    have hfin := (HSz.out.grew (Grew.refl z).drew).used_set on ho13n
    have o0 : Only F w y := (HGu.out.only F).then (HOy.out.mono fun j hj => .inl (by subst hj; exact (HS.out.foot1 j rfl).1))
    have o5 : Only F w z := o0.then HO4.out
    refine ⟨o5.trans (((Only.refl F' z).drew).then ((Only.setCell _ ⟨sb, 1 + on, none⟩ _).mono fun j hj => .inl (by subst hj; exact HSz.out.foot0))) ?_, F', ⟨_, _, hfin⟩, ?_⟩
    · intro j hj
      rcases HF'.out j hj with h | h
      · exact .inl h
      · exact .inr (Nat.le_trans o0.size h)
    · intro j hj
      rcases HF'.out j hj with h | h
      · exact .inl h
      · exact .inr (Nat.le_trans o0.size h)
end
end Go.Proofs.YtbdagllflamabaaGreatDoor
