/- The walk of shards.Counts: an entry that isn't right, an unknown shard, a move. Then: The walk of shards.Counts: a split. Then: The walk of shards.Counts: a merge. Then: The walk of shards.Counts: whole. -/
import Derived.Test.YtbdagllflamabaaGreatDoorFinWatchReplaysQ10
import Derived.Test.YtbdagllflamabaaGreatDoorFinWatchReplaysQ12
import Derived.Deep.RegionHeld3
set_option linter.unusedVariables false
set_option linter.unusedSectionVars false
set_option linter.unusedSimpArgs false
namespace Go.Proofs.YtbdagllflamabaaGreatDoor
open Go.RowKit Go.Maps Go.Sort
attribute [local go_sem] Oper.semAt_some
section
variable {S : Nat → Bool} (hS : ShdS S) (E : Nat → Addr) {w : World} (hE : Errs S E w) {F : Nat → Prop} {sb : Nat} {xs : List Sh} {used : Nat → Bool} {ne : Nat} {evs : List Value} (h : SmAt w F sb xs used ne evs) (hx : xs.length ≤ 1000000) (e : En) (hA : EnAt w e) (hkey : e.key.size ≤ 70368744177664)
include hS hE h hx hA hkey
set_option maxRecDepth 100000 in
set_option maxHeartbeats 4000000 in
theorem counts_pre (hp : Pl.rightB e = false ∨ Pl.findM xs e.shard = -1 ∨ e.kind = 2) : Calls Tryz.prog 83 #[.pointer (some ⟨sb, 0, none⟩), e.agg] w fun r w' => r = .returned (.bool (Pl.countsB xs used e)) ∧ Grew w w' := by
  have HE := hid hE
  have HM := hid h
  have HA := hid hA
  have HF := hid (fun W (g : Grew w W) id => findM_any (HM.out.grew g) hx id)
  have HR := hid (fun W (g : Grew w W) => rightE_any hS.key E e W (HE.out.grew g) (HA.out.grew g))
  obtain ⟨v, ve, h⟩ := h
  obtain ⟨a, cap, rfl, hRows⟩ := shsAt_of h.row
  have c0 := h.live
  have hb := h.blt
  have HU := hid h.used
  have HZ := hid h.sz
  have HROW := hid hRows
  have HW := hid (show True from trivial)
  clear hE h hA hRows
  cases hr : Pl.rightB e with
  | false =>
    have HC : Hid (Pl.countsB xs used e = false) := by unfold Hid Pl.countsB; rw [if_pos hr]
    rw [hr] at HR
    unfold En.agg En.vals at *
    clear hr
    go_enter Tryz.func83, Tryz.ntmps83
    go_wp2_with fail
    refine (HF.out _ ((Grew.refl w).alloc _) _).mono ?_
    rintro r w1 ⟨rfl, hg⟩
    have hc := hg.cells.1
    have hz : w.heap.size < w1.heap.size := by have := hg.size; simp at this; omega
    have hG := ((Grew.refl w).alloc _).trans hg
    clear hg
    go_wp2_with fail
    refine (HR.out _ hG).mono ?_
    rintro r w2 ⟨rfl, hg2⟩
    go_wp2_with fail
    go_ret
    exact ⟨ret_bool HC.out.symm, hG.trans hg2⟩
  | true =>
    have HC0 : Hid (∀ b, (if Pl.findM xs e.shard < 0 then false
  else if e.kind = 2 then true
  else if e.kind = 3 then !used e.other.toNat && Pl.hasS (shAt xs (Pl.findM xs e.shard).toNat).lo (shAt xs (Pl.findM xs e.shard).toNat).hi e.key && !decide (e.key.toList = (shAt xs (Pl.findM xs e.shard).toNat).lo.toList)
  else if e.kind = 4 then
    if Pl.findM xs e.other < 0 then false
    else decide (Pl.joinE (Pl.rightS (shAt xs (Pl.findM xs e.shard).toNat).lo (shAt xs (Pl.findM xs e.shard).toNat).hi) (Pl.rightS (shAt xs (Pl.findM xs e.other).toNat).lo (shAt xs (Pl.findM xs e.other).toNat).hi) (shAt xs (Pl.findM xs e.shard).toNat).lo (shAt xs (Pl.findM xs e.shard).toNat).hi (shAt xs (Pl.findM xs e.other).toNat).lo (shAt xs (Pl.findM xs e.other).toNat).hi = 0)
  else false) = b → Pl.countsB xs used e = b) := by
      unfold Hid; intro b hb'; unfold Pl.countsB; rw [if_neg (by rw [hr]; simp)]; exact hb'
    rw [hr] at HR
    rcases Pl.findM_cases xs e.shard with hf | ⟨i, hi, hf, hid1⟩
    · have HC : Hid (Pl.countsB xs used e = false) := by unfold Hid; refine HC0.out _ ?_; rw [hf]; rfl
      have HF1 := hid (fun W g => HF.out W g e.shard)
      rw [hf] at HF1
      unfold En.agg En.vals at *
      clear hr HC0 hf HF
      go_enter Tryz.func83, Tryz.ntmps83
      go_wp2_with fail
      refine (HF1.out _ ((Grew.refl w).alloc _)).mono ?_
      rintro r w1 ⟨rfl, hg⟩
      have hc := hg.cells.1
      have hz : w.heap.size < w1.heap.size := by have := hg.size; simp at this; omega
      have hG := ((Grew.refl w).alloc _).trans hg
      clear hg
      go_wp2_with fail
      refine (HR.out _ hG).mono ?_
      rintro r w2 ⟨rfl, hg2⟩
      go_wp2_with fail
      go_ret
      exact ⟨ret_bool HC.out.symm, hG.trans hg2⟩
    · have hp2 : e.kind = 2 := by
        rcases hp with hp | hp | hp
        · rw [hr] at hp; cases hp
        · omega
        · exact hp
      rcases HROW.out with h0 | ⟨b, off, rfl, hbb, hRow⟩
      · rw [h0] at hi; simp at hi
      have HF1 := hid (fun W g => HF.out W g e.shard)
      rw [hf] at HF1
      have hiI : ¬ ((i : Int) < 0) := by omega
      have hiL : (i : Int) < (xs.length : Int) := by omega
      have rl := hRow.lo i hi
      have rh := hRow.hi i hi
      obtain ⟨z1, z2⟩ := HZ.out _ (shAt_mem xs i hi)
      rw [hf] at HC0
      have HROW2 := hid hRow
      clear hf hid1 hRow
      have hnat : (i : Int).toNat = i := Int.toNat_natCast i
      rw [if_neg hiI, hnat] at HC0
      clear hnat
      by_cases k2 : e.kind = 2
      case neg => exact absurd hp2 k2
      · have HC : Hid (Pl.countsB xs used e = true) := by unfold Hid; refine HC0.out _ ?_; rw [if_pos k2]
        have b2 : (e.kind == 2) = true := beq_iff_eq.2 k2
        unfold En.agg En.vals at *
        clear hr HC0 HF k2 hp2
        go_enter Tryz.func83, Tryz.ntmps83
        go_wp2_with fail
        refine (HF1.out _ ((Grew.refl w).alloc _)).mono ?_
        rintro r w1 ⟨rfl, hg⟩
        have hc := hg.cells.1
        have hz : w.heap.size < w1.heap.size := by have := hg.size; simp at this; omega
        have hG := ((Grew.refl w).alloc _).trans hg
        go_wp2_with fail
        refine (HR.out _ hG).mono ?_
        rintro r w2 ⟨rfl, hg2⟩
        have hG2 := hG.trans hg2
        have hc2 := hg2.cells.1
        have hz2 : w.heap.size < w2.heap.size := Nat.lt_of_lt_of_le hz hg2.size
        clear hg hg2
        go_wp2_with fail
        go_ret
        exact ⟨ret_bool HC.out.symm, hG2⟩
end
end Go.Proofs.YtbdagllflamabaaGreatDoor
namespace Go.Proofs.YtbdagllflamabaaGreatDoor
open Go.RowKit Go.Maps Go.Sort
attribute [local go_sem] Oper.semAt_some
section
variable {S : Nat → Bool} (hS : ShdS S) (E : Nat → Addr) {w : World} (hE : Errs S E w) {F : Nat → Prop} {sb : Nat} {xs : List Sh} {used : Nat → Bool} {ne : Nat} {evs : List Value} (h : SmAt w F sb xs used ne evs) (hx : xs.length ≤ 1000000) (e : En) (hA : EnAt w e) (hkey : e.key.size ≤ 70368744177664)
include hS hE h hx hA hkey
set_option maxRecDepth 100000 in
set_option maxHeartbeats 4000000 in
theorem counts_split (hr : Pl.rightB e = true) (k3 : e.kind = 3) (i : Nat) (hi : i < xs.length) (hf : Pl.findM xs e.shard = (i : Nat)) :
    Calls Tryz.prog 83 #[.pointer (some ⟨sb, 0, none⟩), e.agg] w fun r w' => r = .returned (.bool (!used e.other.toNat && Pl.hasS (shAt xs i).lo (shAt xs i).hi e.key && !decide (e.key.toList = (shAt xs i).lo.toList))) ∧ Grew w w' := by
  have HE := hid hE
  have HA := hid hA
  have HF1 := hid (fun W (g : Grew w W) => findM_any (h.grew g) hx e.shard)
  have HR := hid (fun W (g : Grew w W) => rightE_any hS.key E e W (HE.out.grew g) (HA.out.grew g))
  obtain ⟨v, ve, h⟩ := h
  obtain ⟨a, cap, rfl, hRows⟩ := shsAt_of h.row
  have c0 := h.live
  have hb := h.blt
  have HU := hid h.used
  have HZ := hid h.sz
  obtain ⟨o1, o2⟩ := Pl.right_other hr k3
  obtain ⟨z1, z2⟩ := HZ.out _ (shAt_mem xs i hi)
  rw [hr] at HR
  rw [hf] at HF1
  rcases hRows with h0 | ⟨b, off, rfl, hbb, hRow⟩
  · rw [h0] at hi; simp at hi
  have rl := hRow.lo i hi
  have rh := hRow.hi i hi
  have HHAS := hid (fun W (g : Grew w W) => has_span S E hS.keyS (shAt xs i).lo (shAt xs i).hi e.key W z1 z2 hkey (HE.out.grew g))
  have hiI : ¬ ((i : Int) < 0) := by omega
  have hiL : (i : Int) < (xs.length : Int) := by omega
  have HU2 := hid (HU.out e.other.toNat (by omega))
  clear HU hE HE h hA HA hf hr HZ z1 z2 hRow
  generalize used e.other.toNat = u at *
  generalize (shAt xs i).lo = lo at *
  generalize (shAt xs i).hi = hi' at *
  unfold En.agg En.vals at *
  obtain ⟨kind, shard, other, server, client, seq, key, upto, part, parts, ops, opsA, opsC, dataA, dataL, dataC⟩ := e
  dsimp only at *
  subst k3
  obtain ⟨o, rfl⟩ : ∃ o : Nat, other = (o : Int) := ⟨other.toNat, by omega⟩
  have huo := HU2.out
  rw [Int.toNat_natCast] at huo
  have ho12 : (o : Int) < 13 := by omega
  have ho12' : o < 13 := by omega
  clear HU2 o1 o2
  generalize Pl.hasS lo hi' key = hs at *
  go_enter Tryz.func83, Tryz.ntmps83
  go_wp2_with fail
  refine (HF1.out _ ((Grew.refl w).alloc _)).mono ?_
  rintro r w1 ⟨rfl, hg⟩
  have hc := hg.cells.1
  have hz : w.heap.size < w1.heap.size := by have := hg.size; simp at this; omega
  have hG := ((Grew.refl w).alloc _).trans hg
  go_wp2_with fail
  refine (HR.out _ hG).mono ?_
  rintro r w2 ⟨rfl, hg2⟩
  have hG2 := hG.trans hg2
  have hc2 := hg2.cells.1
  have hz2 : w.heap.size < w2.heap.size := Nat.lt_of_lt_of_le hz hg2.size
  have HG2 := hid hG2
  clear hg hg2
  go_wp2_with fail
  have hc12 : ∀ o', w2.cell? ⟨w.heap.size, o', none⟩ = (w.alloc (Obj.cells #[.int .i64 3, .int .i64 shard, .int .i64 o, .int .i64 server, .int .i64 client, .int .i64 seq, .slice opsA ops.length opsC, .string key, .int .i64 upto, .int .i64 part, .int .i64 parts, .slice dataA dataL dataC] 26)).cell? ⟨w.heap.size, o', none⟩ := fun o' => (hc2 _ _ hz).trans (hc _ _ (by simp))
  have E2 := cell_regrown (w := w2) (a := ⟨w.heap.size, 2, none⟩) (v := .int .i64 o) ((hc12 2).trans (by simp [go_sem]))
  have E7 := cell_regrown (w := w2) (a := ⟨w.heap.size, 7, none⟩) (v := .string key) ((hc12 7).trans (by simp [go_sem]))
  have C0 := cell_regrown ((hG2.cells.1 _ _ hb).trans c0)
  have CU := cell_regrown ((hG2.cells.1 _ _ hb).trans huo)
  have R3 := cell_regrown ((hG2.cells.1 _ _ hbb).trans rl)
  have R4 := cell_regrown ((hG2.cells.1 _ _ hbb).trans rh)
  have hGr : ∀ d os, Grew w (grow (redrawn w2 d) os) := fun d os => hG2.trans (below_regrown w2 d os)
  have cHas : ∀ d os, Calls Tryz.prog 23 #[.agg #[.string lo, .string hi'], .string key] (grow (redrawn w2 d) os) fun e w'' => e = .returned (.bool hs) ∧ ∃ p : Regrown, w'' = grow (redrawn w2 p.d) p.os := fun d os => Calls.regrown_of (HHAS.out _ (hGr d os))
  have HGr := hid hGr
  clear hc hc2 hc12 hG hG2 HG2 HHAS HR HF1 c0 huo rl rh hGr hz hz2
  cases u with
  | true =>
    refine wp_region_quiet_below (by kernel_rfl) (by kernel_rfl) ?_
    repeat (go_big_quiet_step (exact cHas _ _))
    refine wpQuiet_nil ?_
    intro _ hw'
    obtain ⟨⟨dq, osq⟩, hw''⟩ := hw'
    subst hw''
    go_wp2_with fail
    go_ret
    exact ⟨ret_bool (by simp), HGr.out dq osq⟩
  | false =>
    cases hs with
    | false =>
      refine wp_region_quiet_below (by kernel_rfl) (by kernel_rfl) ?_
      repeat (go_big_quiet_step (exact cHas _ _))
      refine wpQuiet_nil ?_
      intro _ hw'
      obtain ⟨⟨dq, osq⟩, hw''⟩ := hw'
      subst hw''
      go_wp2_with fail
      go_ret
      exact ⟨ret_bool (by simp), HGr.out dq osq⟩
    | true =>
      refine wp_region_quiet_below (by kernel_rfl) (by kernel_rfl) ?_
      repeat (go_big_quiet_step (exact cHas _ _))
      refine wpQuiet_nil ?_
      intro _ hw'
      obtain ⟨⟨dq, osq⟩, hw''⟩ := hw'
      subst hw''
      go_wp2_with fail
      go_ret
      exact ⟨ret_bool (by by_cases q : key.toList = lo.toList <;> simp [q]), HGr.out dq osq⟩
end
end Go.Proofs.YtbdagllflamabaaGreatDoor
namespace Go.Proofs.YtbdagllflamabaaGreatDoor
open Go.RowKit Go.Maps Go.Sort
attribute [local go_sem] Oper.semAt_some
section
variable {S : Nat → Bool} (hS : ShdS S) (E : Nat → Addr) {w : World} (hE : Errs S E w) {F : Nat → Prop} {sb : Nat} {xs : List Sh} {used : Nat → Bool} {ne : Nat} {evs : List Value} (h : SmAt w F sb xs used ne evs) (hx : xs.length ≤ 1000000) (e : En) (hA : EnAt w e) (hkey : e.key.size ≤ 70368744177664)
include hS hE h hx hA hkey
set_option maxRecDepth 100000 in
set_option maxHeartbeats 4000000 in
theorem counts_merge0 (hr : Pl.rightB e = true) (k4 : e.kind = 4) (i : Nat) (hi : i < xs.length) (hf : Pl.findM xs e.shard = (i : Nat)) (hj : Pl.findM xs e.other = -1) :
    Calls Tryz.prog 83 #[.pointer (some ⟨sb, 0, none⟩), e.agg] w fun r w' => r = .returned (.bool false) ∧ Grew w w' := by
  have HE := hid hE
  have HA := hid hA
  have HF1 := hid (fun W (g : Grew w W) => findM_any (h.grew g) hx e.shard)
  have HF2 := hid (fun W (g : Grew w W) => findM_any (h.grew g) hx e.other)
  have HR := hid (fun W (g : Grew w W) => rightE_any hS.key E e W (HE.out.grew g) (HA.out.grew g))
  obtain ⟨v, ve, h⟩ := h
  obtain ⟨a, cap, rfl, hRows⟩ := shsAt_of h.row
  have c0 := h.live
  have hb := h.blt
  have HZ := hid h.sz
  obtain ⟨z1, z2⟩ := HZ.out _ (shAt_mem xs i hi)
  rw [hr] at HR
  rw [hf] at HF1
  rw [hj] at HF2
  rcases hRows with h0 | ⟨b, off, rfl, hbb, hRow⟩
  · rw [h0] at hi; simp at hi
  have hiI : ¬ ((i : Int) < 0) := by omega
  have hiL : (i : Int) < (xs.length : Int) := by omega
  clear hE HE h hA HA hf hr HZ z1 z2 hRow hj
  unfold En.agg En.vals at *
  obtain ⟨kind, shard, other, server, client, seq, key, upto, part, parts, ops, opsA, opsC, dataA, dataL, dataC⟩ := e
  dsimp only at *
  subst k4
  go_enter Tryz.func83, Tryz.ntmps83
  go_wp2_with fail
  refine (HF1.out _ ((Grew.refl w).alloc _)).mono ?_
  rintro r w1 ⟨rfl, hg⟩
  have hc := hg.cells.1
  have hz : w.heap.size < w1.heap.size := by have := hg.size; simp at this; omega
  have hG := ((Grew.refl w).alloc _).trans hg
  go_wp2_with fail
  refine (HR.out _ hG).mono ?_
  rintro r w2 ⟨rfl, hg2⟩
  have hG2 := hG.trans hg2
  have hc2 := hg2.cells.1
  have hz2 : w.heap.size < w2.heap.size := Nat.lt_of_lt_of_le hz hg2.size
  have HG2 := hid hG2
  have E2 : w2.cell? ⟨w.heap.size, 2, none⟩ = some (.int .i64 other) := ((hc2 _ _ hz).trans (hc _ _ (by simp))).trans (by simp [go_sem])
  have E0 : w2.cell? ⟨w.heap.size, 0, none⟩ = some (.int .i64 4) := ((hc2 _ _ hz).trans (hc _ _ (by simp))).trans (by simp [go_sem])
  clear hg hg2 hc hc2 hG hG2
  go_wp2_with fail
  refine (HF2.out _ HG2.out).mono ?_
  rintro r w3 ⟨rfl, hg3⟩
  have HG3 := hid (HG2.out.trans hg3)
  clear hg3 E2 E0
  go_wp2_with fail
  go_ret
  exact ⟨rfl, HG3.out⟩
set_option maxRecDepth 100000 in
set_option maxHeartbeats 4000000 in
theorem counts_merge1 (hr : Pl.rightB e = true) (k4 : e.kind = 4) (i : Nat) (hi : i < xs.length) (hf : Pl.findM xs e.shard = (i : Nat)) (j : Nat) (hjl : j < xs.length) (hj : Pl.findM xs e.other = (j : Nat)) :
    Calls Tryz.prog 83 #[.pointer (some ⟨sb, 0, none⟩), e.agg] w fun r w' => r = .returned (.bool (decide (Pl.joinE (Pl.rightS (shAt xs i).lo (shAt xs i).hi) (Pl.rightS (shAt xs j).lo (shAt xs j).hi) (shAt xs i).lo (shAt xs i).hi (shAt xs j).lo (shAt xs j).hi = 0))) ∧ Grew w w' := by
  have HE := hid hE
  have HA := hid hA
  have HF1 := hid (fun W (g : Grew w W) => findM_any (h.grew g) hx e.shard)
  have HF2 := hid (fun W (g : Grew w W) => findM_any (h.grew g) hx e.other)
  have HR := hid (fun W (g : Grew w W) => rightE_any hS.key E e W (HE.out.grew g) (HA.out.grew g))
  obtain ⟨v, ve, h⟩ := h
  obtain ⟨a, cap, rfl, hRows⟩ := shsAt_of h.row
  have c0 := h.live
  have hb := h.blt
  have HZ := hid h.sz
  obtain ⟨z1, z2⟩ := HZ.out _ (shAt_mem xs i hi)
  rw [hr] at HR
  rw [hf] at HF1
  rw [hj] at HF2
  rcases hRows with h0 | ⟨b, off, rfl, hbb, hRow⟩
  · rw [h0] at hi; simp at hi
  have hiI : ¬ ((i : Int) < 0) := by omega
  have hiL : (i : Int) < (xs.length : Int) := by omega
  have hjI : ¬ ((j : Int) < 0) := by omega
  have hjL : (j : Int) < (xs.length : Int) := by omega
  have rl := hRow.lo i hi
  have rh := hRow.hi i hi
  have ql := hRow.lo j hjl
  have qh := hRow.hi j hjl
  obtain ⟨y1, y2⟩ := HZ.out _ (shAt_mem xs j hjl)
  have HJ := hid (fun W (g : Grew w W) => join_any S E hS.span (shAt xs i).lo (shAt xs i).hi (shAt xs j).lo (shAt xs j).hi W z1 z2 y1 y2 (HE.out.grew g))
  clear hE HE h hA HA hf hr HZ z1 z2 y1 y2 hRow hj
  generalize Pl.joinE (Pl.rightS (shAt xs i).lo (shAt xs i).hi) (Pl.rightS (shAt xs j).lo (shAt xs j).hi) (shAt xs i).lo (shAt xs i).hi (shAt xs j).lo (shAt xs j).hi = jn at *
  generalize Pl.joinV (Pl.rightS (shAt xs i).lo (shAt xs i).hi) (Pl.rightS (shAt xs j).lo (shAt xs j).hi) (shAt xs i).lo (shAt xs i).hi (shAt xs j).lo (shAt xs j).hi = jv at *
  generalize (shAt xs i).lo = lo at *
  generalize (shAt xs i).hi = hi' at *
  generalize (shAt xs j).lo = lo2 at *
  generalize (shAt xs j).hi = hi2 at *
  unfold JoinPost at HJ
  obtain ⟨jv1, jv2⟩ := jv
  have HV : Hid (∃ ev, errOf E jn = ev ∧ decide (jn = 0) = (match ev with | .nilIface => true | _ => false) ∧ (ev = .nilIface ∨ ∃ t p, ev = .iface t (.pointer (some p)))) := by
    unfold Hid
    by_cases q : jn = 0
    · exact ⟨_, rfl, by rw [q]; rfl, by rw [q]; exact .inl rfl⟩
    · rw [errOf_pos E jn q]; exact ⟨_, rfl, by simp [q], .inr ⟨_, _, rfl⟩⟩
  obtain ⟨ev, he, hd, hk⟩ := HV.out
  rw [hd]
  rw [he] at HJ
  clear HV he hd
  have HK := hid hk
  clear hk
  unfold En.agg En.vals at *
  obtain ⟨kind, shard, other, server, client, seq, key, upto, part, parts, ops, opsA, opsC, dataA, dataL, dataC⟩ := e
  dsimp only at *
  subst k4
  go_enter Tryz.func83, Tryz.ntmps83
  go_wp2_with fail
  refine (HF1.out _ ((Grew.refl w).alloc _)).mono ?_
  rintro r w1 ⟨rfl, hg⟩
  have hc := hg.cells.1
  have hz : w.heap.size < w1.heap.size := by have := hg.size; simp at this; omega
  have hG := ((Grew.refl w).alloc _).trans hg
  go_wp2_with fail
  refine (HR.out _ hG).mono ?_
  rintro r w2 ⟨rfl, hg2⟩
  have hG2 := hG.trans hg2
  have hc2 := hg2.cells.1
  have hz2 : w.heap.size < w2.heap.size := Nat.lt_of_lt_of_le hz hg2.size
  have HG2 := hid hG2
  have E2 : w2.cell? ⟨w.heap.size, 2, none⟩ = some (.int .i64 other) := ((hc2 _ _ hz).trans (hc _ _ (by simp))).trans (by simp [go_sem])
  have E0 : w2.cell? ⟨w.heap.size, 0, none⟩ = some (.int .i64 4) := ((hc2 _ _ hz).trans (hc _ _ (by simp))).trans (by simp [go_sem])
  clear hg hg2 hc hc2 hG hG2
  go_wp2_with fail
  refine (HF2.out _ HG2.out).mono ?_
  rintro r w3 ⟨rfl, hg3⟩
  have HG3 := hid (HG2.out.trans hg3)
  clear hg3 E2 E0
  have hb3 : sb < w3.heap.size := Nat.lt_of_lt_of_le hb HG3.out.size
  have hbb3 : b < w3.heap.size := Nat.lt_of_lt_of_le hbb HG3.out.size
  have C0 := wd_cell ((HG3.out.cells.1 _ _ hb).trans c0)
  have R3 := wd_cell ((HG3.out.cells.1 _ _ hbb).trans rl)
  have R4 := wd_cell ((HG3.out.cells.1 _ _ hbb).trans rh)
  have Q3 := wd_cell ((HG3.out.cells.1 _ _ hbb).trans ql)
  have Q4 := wd_cell ((HG3.out.cells.1 _ _ hbb).trans qh)
  clear c0 rl rh ql qh HF1 HF2 HR HG2
  go_wp2_with fail
  refine wp_region_mix 23 [20, 21] (Grew w3) Grew (fun L f w => Grew w3 w ∧ (L 20 = true → ∃ x y, Fr2 w3.heap.size w (f 20) x y)) (fun f a => a.put (some 7) (f 20)) (by kernel_rfl) (by kernel_rfl) (fun _ _ => rfl) ⟨(Grew.refl w3).drew, fun h => (by cases h)⟩ (fun _ _ _ h => h.1) Grew.refl (fun L f u u' h g => ⟨h.1.trans g, fun hl => (h.2 hl).elim fun x hx => hx.elim fun y hy => ⟨x, y, hy.grew g⟩⟩) ?_
  repeat (first
    | (refine wpMix_loose (by rfl) (by rfl) ?_)
    | (refine wpMix_plain (by rfl) (by rfl) (by rfl) Grew.refl (by rfl) ?_; intro K hK; go_big_quiet_op; go_big_quiet_on)
    | (refine wpMix_call (by rfl) (by rfl) (by rfl) (by rfl) (fun _ => by kernel_rfl) (fun u hu => HJ.out u (HG3.out.trans hu)) ?_; simp only [Act.put, List.setIfInBounds_toArray, List.set_cons_zero, List.set_cons_succ]))
  refine wpMix_nil ⟨⟨loose_of rfl (fun _ a => a) (fun _ _ => rfl) (fun _ => rfl) ?_, loose_of rfl (fun f a => a.put (some 7) (f 20)) (fun _ _ => rfl) (fun _ => rfl) ?_, trivial⟩, ?_⟩
  · intro L f u hJ hL hd
    clear HJ HK C0 R3 R4 Q3 Q4
    go_simp
    exact ⟨hJ.1.alloc _, _, _, by rw [updV_same]; exact Fr2.of_alloc hJ.1.size _ _ _⟩
  · intro L f u hJ hL hd
    clear HJ HK C0 R3 R4 Q3 Q4
    obtain ⟨x, y, m, hm, hN, c0, c1, f0, f1⟩ := hJ.2 (hd 20 rfl (by decide))
    rw [hm]
    go_simp
    obtain ⟨g1, g2⟩ := fr2_store hJ.1 hN c0 c1 f0 f1 (.string jv1) (.string jv2)
    exact ⟨g1, fun _ => ⟨_, _, by rw [updV_ne (by decide), hm]; exact g2⟩⟩
  · intro f u hJ
    obtain ⟨hG, hF⟩ := hJ
    have hw := HG3.out.trans hG
    rcases HK.out with rfl | ⟨t, p, rfl⟩
    · go_wp2_with fail
      go_ret
      exact ⟨rfl, hw⟩
    · go_wp2_with fail
      go_ret
      exact ⟨rfl, hw⟩
end
end Go.Proofs.YtbdagllflamabaaGreatDoor
namespace Go.Proofs.YtbdagllflamabaaGreatDoor
open Go.RowKit Go.Maps Go.Sort
attribute [local go_sem] Oper.semAt_some
section
variable {S : Nat → Bool} (hS : ShdS S) (E : Nat → Addr) {w : World} (hE : Errs S E w) {F : Nat → Prop} {sb : Nat} {xs : List Sh} {used : Nat → Bool} {ne : Nat} {evs : List Value} (h : SmAt w F sb xs used ne evs) (hx : xs.length ≤ 1000000) (e : En) (hA : EnAt w e) (hkey : e.key.size ≤ 70368744177664)
include hS hE h hx hA hkey
set_option maxRecDepth 100000 in
set_option maxHeartbeats 4000000 in
theorem counts_other (hr : Pl.rightB e = true) (k2 : e.kind ≠ 2) (k3 : e.kind ≠ 3) (k4 : e.kind ≠ 4) (i : Nat) (hi : i < xs.length) (hf : Pl.findM xs e.shard = (i : Nat)) :
    Calls Tryz.prog 83 #[.pointer (some ⟨sb, 0, none⟩), e.agg] w fun r w' => r = .returned (.bool false) ∧ Grew w w' := by
  have HE := hid hE
  have HA := hid hA
  have HF1 := hid (fun W (g : Grew w W) => findM_any (h.grew g) hx e.shard)
  have HR := hid (fun W (g : Grew w W) => rightE_any hS.key E e W (HE.out.grew g) (HA.out.grew g))
  rw [hr] at HR
  rw [hf] at HF1
  have b2 : (e.kind == 2) = false := beq_false_of_ne k2
  have b3 : (e.kind == 3) = false := beq_false_of_ne k3
  have b4 : (e.kind == 4) = false := beq_false_of_ne k4
  have hiI : ¬ ((i : Int) < 0) := by omega
  clear hE h hA hf hr hi hx
  unfold En.agg En.vals at *
  go_enter Tryz.func83, Tryz.ntmps83
  go_wp2_with fail
  refine (HF1.out _ ((Grew.refl w).alloc _)).mono ?_
  rintro r w1 ⟨rfl, hg⟩
  have hc := hg.cells.1
  have hz : w.heap.size < w1.heap.size := by have := hg.size; simp at this; omega
  have hG := ((Grew.refl w).alloc _).trans hg
  go_wp2_with fail
  refine (HR.out _ hG).mono ?_
  rintro r w2 ⟨rfl, hg2⟩
  have hG2 := hG.trans hg2
  have hc2 := hg2.cells.1
  have hz2 : w.heap.size < w2.heap.size := Nat.lt_of_lt_of_le hz hg2.size
  clear hg hg2
  go_wp2_with fail
  go_ret
  exact ⟨rfl, hG2⟩
theorem counts_any : Calls Tryz.prog 83 #[.pointer (some ⟨sb, 0, none⟩), e.agg] w fun r w' => r = .returned (.bool (Pl.countsB xs used e)) ∧ Grew w w' := by
  by_cases hr : Pl.rightB e = true
  · rcases Pl.findM_cases xs e.shard with hf | ⟨i, hi, hf, hid1⟩
    · exact counts_pre hS E hE h hx e hA hkey (.inr (.inl hf))
    · have hiI : ¬ ((i : Int) < 0) := by omega
      have hnat : (i : Int).toNat = i := Int.toNat_natCast i
      by_cases k2 : e.kind = 2
      · exact counts_pre hS E hE h hx e hA hkey (.inr (.inr k2))
      have e0 : Pl.countsB xs used e = (if e.kind = 3 then !used e.other.toNat && Pl.hasS (shAt xs i).lo (shAt xs i).hi e.key && !decide (e.key.toList = (shAt xs i).lo.toList)
          else if e.kind = 4 then
            if Pl.findM xs e.other < 0 then false
            else decide (Pl.joinE (Pl.rightS (shAt xs i).lo (shAt xs i).hi) (Pl.rightS (shAt xs (Pl.findM xs e.other).toNat).lo (shAt xs (Pl.findM xs e.other).toNat).hi) (shAt xs i).lo (shAt xs i).hi (shAt xs (Pl.findM xs e.other).toNat).lo (shAt xs (Pl.findM xs e.other).toNat).hi = 0)
          else false) := by
        unfold Pl.countsB
        rw [if_neg (by rw [hr]; simp), hf, if_neg hiI, if_neg k2, hnat]
      rw [e0]
      by_cases k3 : e.kind = 3
      · rw [if_pos k3]
        exact counts_split hS E hE h hx e hA hkey hr k3 i hi hf
      · rw [if_neg k3]
        by_cases k4 : e.kind = 4
        · rw [if_pos k4]
          rcases Pl.findM_cases xs e.other with hj | ⟨j, hjl, hj, hid2⟩
          · rw [hj, if_pos (by decide)]
            exact counts_merge0 hS E hE h hx e hA hkey hr k4 i hi hf hj
          · rw [hj, if_neg (by omega), Int.toNat_natCast]
            exact counts_merge1 hS E hE h hx e hA hkey hr k4 i hi hf j hjl hj
        · rw [if_neg k4]
          exact counts_other hS E hE h hx e hA hkey hr k2 k3 k4 i hi hf
  · exact counts_pre hS E hE h hx e hA hkey (.inl (by simpa using hr))
end
end Go.Proofs.YtbdagllflamabaaGreatDoor
