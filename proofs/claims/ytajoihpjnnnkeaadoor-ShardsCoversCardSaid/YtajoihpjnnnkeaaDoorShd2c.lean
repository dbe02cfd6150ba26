/- The walk of shards.Counts: a merge. -/
import Derived.Test.YtajoihpjnnnkeaaDoorShd2
import Derived.Test.YtajoihpjnnnkeaaDoorRgn3
import Derived.Deep.RegionHeld3
set_option linter.unusedVariables false
set_option linter.unusedSectionVars false
set_option linter.unusedSimpArgs false
namespace Go.Proofs.YtajoihpjnnnkeaaDoor
open Go.RowKit Go.Maps Go.Sort
attribute [local go_sem] Oper.semAt_some

section
variable {S : Nat → Bool} (hS : ShdS S) (E : Nat → Addr) {w : World} (hE : Errs S E w) {F : Nat → Prop} {sb : Nat} {xs : List Sh} {used : Nat → Bool} {ne : Nat} {evs : List Value} (h : SmAt w F sb xs used ne evs) (hx : xs.length ≤ 1000000) (e : En) (hA : EnAt w e) (hkey : e.key.size ≤ 70368744177664)
include hS hE h hx hA hkey
set_option maxRecDepth 100000 in
set_option maxHeartbeats 4000000 in
theorem counts_merge0 (hr : Pl.rightB e = true) (k4 : e.kind = 4) (i : Nat) (hi : i < xs.length) (hf : Pl.findM xs e.shard = (i : Nat)) (hj : Pl.findM xs e.other = -1) :
    Calls Tryd.prog 13 #[.pointer (some ⟨sb, 0, none⟩), e.agg] w fun r w' => r = .returned (.bool false) ∧ Grew w w' := by
  have HE := hid hE
  have HA := hid hA
  have HF1 := hid (fun W (g : Grew w W) => findM_any (h.grew g) hx e.shard)
  have HF2 := hid (fun W (g : Grew w W) => findM_any (h.grew g) hx e.other)
  have HR := hid (fun W (g : Grew w W) => rightE_any hS.key E e W (HE.out.grew g) (HA.out.grew g))
  obtain ⟨v, ve, h⟩ := h
  obtain ⟨a, cap, rfl, hRows⟩ := shsAt_of h.row
  have c0 := h.live
  have hb := h.blt
  have HZ := hid h.sz
  obtain ⟨z1, z2⟩ := HZ.out _ (shAt_mem xs i hi)
  rw [hr] at HR
  rw [hf] at HF1
  rw [hj] at HF2
  rcases hRows with h0 | ⟨b, off, rfl, hbb, hRow⟩
  · rw [h0] at hi; simp at hi
  have hiI : ¬ ((i : Int) < 0) := by omega
  have hiL : (i : Int) < (xs.length : Int) := by omega
  clear hE HE h hA HA hf hr HZ z1 z2 hRow hj
  unfold En.agg En.vals at *
  obtain ⟨kind, shard, other, server, client, seq, key, upto, part, parts, ops, opsA, opsC, dataA, dataL, dataC⟩ := e
  dsimp only at *
  subst k4
  go_enter Tryd.func13, Tryd.ntmps13
  go_wp2_with fail
  refine (HF1.out _ ((Grew.refl w).alloc _)).mono ?_
  rintro r w1 ⟨rfl, hg⟩
  have hc := hg.cells.1
  have hz : w.heap.size < w1.heap.size := by have := hg.size; simp at this; omega
  have hG := ((Grew.refl w).alloc _).trans hg
  go_wp2_with fail
  refine (HR.out _ hG).mono ?_
  rintro r w2 ⟨rfl, hg2⟩
  have hG2 := hG.trans hg2
  have hc2 := hg2.cells.1
  have hz2 : w.heap.size < w2.heap.size := Nat.lt_of_lt_of_le hz hg2.size
  have HG2 := hid hG2
  have E2 : w2.cell? ⟨w.heap.size, 2, none⟩ = some (.int .i64 other) := ((hc2 _ _ hz).trans (hc _ _ (by simp))).trans (by simp [go_sem])
  have E0 : w2.cell? ⟨w.heap.size, 0, none⟩ = some (.int .i64 4) := ((hc2 _ _ hz).trans (hc _ _ (by simp))).trans (by simp [go_sem])
  clear hg hg2 hc hc2 hG hG2
  go_wp2_with fail
  refine (HF2.out _ HG2.out).mono ?_
  rintro r w3 ⟨rfl, hg3⟩
  have HG3 := hid (HG2.out.trans hg3)
  clear hg3 E2 E0
  go_wp2_with fail
  go_ret
  exact ⟨rfl, HG3.out⟩
set_option maxRecDepth 100000 in
set_option maxHeartbeats 4000000 in
theorem counts_merge1 (hr : Pl.rightB e = true) (k4 : e.kind = 4) (i : Nat) (hi : i < xs.length) (hf : Pl.findM xs e.shard = (i : Nat)) (j : Nat) (hjl : j < xs.length) (hj : Pl.findM xs e.other = (j : Nat)) :
    Calls Tryd.prog 13 #[.pointer (some ⟨sb, 0, none⟩), e.agg] w fun r w' => r = .returned (.bool (decide (Pl.joinE (Pl.rightS (shAt xs i).lo (shAt xs i).hi) (Pl.rightS (shAt xs j).lo (shAt xs j).hi) (shAt xs i).lo (shAt xs i).hi (shAt xs j).lo (shAt xs j).hi = 0))) ∧ Grew w w' := by
  have HE := hid hE
  have HA := hid hA
  have HF1 := hid (fun W (g : Grew w W) => findM_any (h.grew g) hx e.shard)
  have HF2 := hid (fun W (g : Grew w W) => findM_any (h.grew g) hx e.other)
  have HR := hid (fun W (g : Grew w W) => rightE_any hS.key E e W (HE.out.grew g) (HA.out.grew g))
  obtain ⟨v, ve, h⟩ := h
  obtain ⟨a, cap, rfl, hRows⟩ := shsAt_of h.row
  have c0 := h.live
  have hb := h.blt
  have HZ := hid h.sz
  obtain ⟨z1, z2⟩ := HZ.out _ (shAt_mem xs i hi)
  rw [hr] at HR
  rw [hf] at HF1
  rw [hj] at HF2
  rcases hRows with h0 | ⟨b, off, rfl, hbb, hRow⟩
  · rw [h0] at hi; simp at hi
  have hiI : ¬ ((i : Int) < 0) := by omega
  have hiL : (i : Int) < (xs.length : Int) := by omega
  have hjI : ¬ ((j : Int) < 0) := by omega
  have hjL : (j : Int) < (xs.length : Int) := by omega
  have rl := hRow.lo i hi
  have rh := hRow.hi i hi
  have ql := hRow.lo j hjl
  have qh := hRow.hi j hjl
  obtain ⟨y1, y2⟩ := HZ.out _ (shAt_mem xs j hjl)
  have HJ := hid (fun W (g : Grew w W) => join_any S E hS.span (shAt xs i).lo (shAt xs i).hi (shAt xs j).lo (shAt xs j).hi W z1 z2 y1 y2 (HE.out.grew g))
  clear hE HE h hA HA hf hr HZ z1 z2 y1 y2 hRow hj
  generalize Pl.joinE (Pl.rightS (shAt xs i).lo (shAt xs i).hi) (Pl.rightS (shAt xs j).lo (shAt xs j).hi) (shAt xs i).lo (shAt xs i).hi (shAt xs j).lo (shAt xs j).hi = jn at *
  generalize Pl.joinV (Pl.rightS (shAt xs i).lo (shAt xs i).hi) (Pl.rightS (shAt xs j).lo (shAt xs j).hi) (shAt xs i).lo (shAt xs i).hi (shAt xs j).lo (shAt xs j).hi = jv at *
  generalize (shAt xs i).lo = lo at *
  generalize (shAt xs i).hi = hi' at *
  generalize (shAt xs j).lo = lo2 at *
  generalize (shAt xs j).hi = hi2 at *
  unfold JoinPost at HJ
  obtain ⟨jv1, jv2⟩ := jv
  have HV : Hid (∃ ev, errOf E jn = ev ∧ decide (jn = 0) = (match ev with | .nilIface => true | _ => false) ∧ (ev = .nilIface ∨ ∃ t p, ev = .iface t (.pointer (some p)))) := by
    unfold Hid
    by_cases q : jn = 0
    · exact ⟨_, rfl, by rw [q]; rfl, by rw [q]; exact .inl rfl⟩
    · rw [errOf_pos E jn q]; exact ⟨_, rfl, by simp [q], .inr ⟨_, _, rfl⟩⟩
  obtain ⟨ev, he, hd, hk⟩ := HV.out
  rw [hd]
  rw [he] at HJ
  clear HV he hd
  have HK := hid hk
  clear hk
  unfold En.agg En.vals at *
  obtain ⟨kind, shard, other, server, client, seq, key, upto, part, parts, ops, opsA, opsC, dataA, dataL, dataC⟩ := e
  dsimp only at *
  subst k4
  go_enter Tryd.func13, Tryd.ntmps13
  go_wp2_with fail
  refine (HF1.out _ ((Grew.refl w).alloc _)).mono ?_
  rintro r w1 ⟨rfl, hg⟩
  have hc := hg.cells.1
  have hz : w.heap.size < w1.heap.size := by have := hg.size; simp at this; omega
  have hG := ((Grew.refl w).alloc _).trans hg
  go_wp2_with fail
  refine (HR.out _ hG).mono ?_
  rintro r w2 ⟨rfl, hg2⟩
  have hG2 := hG.trans hg2
  have hc2 := hg2.cells.1
  have hz2 : w.heap.size < w2.heap.size := Nat.lt_of_lt_of_le hz hg2.size
  have HG2 := hid hG2
  have E2 : w2.cell? ⟨w.heap.size, 2, none⟩ = some (.int .i64 other) := ((hc2 _ _ hz).trans (hc _ _ (by simp))).trans (by simp [go_sem])
  have E0 : w2.cell? ⟨w.heap.size, 0, none⟩ = some (.int .i64 4) := ((hc2 _ _ hz).trans (hc _ _ (by simp))).trans (by simp [go_sem])
  clear hg hg2 hc hc2 hG hG2
  go_wp2_with fail
  refine (HF2.out _ HG2.out).mono ?_
  rintro r w3 ⟨rfl, hg3⟩
  have HG3 := hid (HG2.out.trans hg3)
  clear hg3 E2 E0
  have hb3 : sb < w3.heap.size := Nat.lt_of_lt_of_le hb HG3.out.size
  have hbb3 : b < w3.heap.size := Nat.lt_of_lt_of_le hbb HG3.out.size
  have C0 := wd_cell ((HG3.out.cells.1 _ _ hb).trans c0)
  have R3 := wd_cell ((HG3.out.cells.1 _ _ hbb).trans rl)
  have R4 := wd_cell ((HG3.out.cells.1 _ _ hbb).trans rh)
  have Q3 := wd_cell ((HG3.out.cells.1 _ _ hbb).trans ql)
  have Q4 := wd_cell ((HG3.out.cells.1 _ _ hbb).trans qh)
  clear c0 rl rh ql qh HF1 HF2 HR HG2
  go_wp2_with fail
  refine wp_region_mix 23 [20, 21] (Grew w3) Grew (fun L f w => Grew w3 w ∧ (L 20 = true → ∃ x y, Fr2 w3.heap.size w (f 20) x y)) (fun f a => a.put (some 7) (f 20)) (by kernel_rfl) (by kernel_rfl) (fun _ _ => rfl) ⟨(Grew.refl w3).drew, fun h => (by cases h)⟩ (fun _ _ _ h => h.1) Grew.refl (fun L f u u' h g => ⟨h.1.trans g, fun hl => (h.2 hl).elim fun x hx => hx.elim fun y hy => ⟨x, y, hy.grew g⟩⟩) ?_
  repeat (first
    | (refine wpMix_loose (by rfl) (by rfl) ?_)
    | (refine wpMix_plain (by rfl) (by rfl) (by rfl) Grew.refl (by rfl) ?_; intro K hK; go_big_quiet_op; go_big_quiet_on)
    | (refine wpMix_call (by rfl) (by rfl) (by rfl) (by rfl) (fun _ => by kernel_rfl) (fun u hu => HJ.out u (HG3.out.trans hu)) ?_; simp only [Act.put, List.setIfInBounds_toArray, List.set_cons_zero, List.set_cons_succ]))
  refine wpMix_nil ⟨⟨loose_of rfl (fun _ a => a) (fun _ _ => rfl) (fun _ => rfl) ?_, loose_of rfl (fun f a => a.put (some 7) (f 20)) (fun _ _ => rfl) (fun _ => rfl) ?_, trivial⟩, ?_⟩
  · intro L f u hJ hL hd
    clear HJ HK C0 R3 R4 Q3 Q4
    go_simp
    exact ⟨hJ.1.alloc _, _, _, by rw [updV_same]; exact Fr2.of_alloc hJ.1.size _ _ _⟩
  · intro L f u hJ hL hd
    clear HJ HK C0 R3 R4 Q3 Q4
    obtain ⟨x, y, m, hm, hN, c0, c1, f0, f1⟩ := hJ.2 (hd 20 rfl (by decide))
    rw [hm]
    go_simp
    obtain ⟨g1, g2⟩ := fr2_store hJ.1 hN c0 c1 f0 f1 (.string jv1) (.string jv2)
    exact ⟨g1, fun _ => ⟨_, _, by rw [updV_ne (by decide), hm]; exact g2⟩⟩
  · intro f u hJ
    obtain ⟨hG, hF⟩ := hJ
    have hw := HG3.out.trans hG
    rcases HK.out with rfl | ⟨t, p, rfl⟩
    · go_wp2_with fail
      go_ret
      exact ⟨rfl, hw⟩
    · go_wp2_with fail
      go_ret
      exact ⟨rfl, hw⟩
end
end Go.Proofs.YtajoihpjnnnkeaaDoor
