/- The walk of shards.Apply. -/
import Derived.Test.YtajoihpjnnnkeaaDoorShd2a
import Derived.Test.YtajoihpjnnnkeaaDoorShd5
import Derived.Test.YtajoihpjnnnkeaaDoorRgn3
set_option linter.unusedVariables false
set_option linter.unusedSectionVars false
set_option linter.unusedSimpArgs false
namespace Go.Proofs.YtajoihpjnnnkeaaDoor
open Go.RowKit Go.Maps
attribute [local go_sem] Oper.semAt_some uponV

theorem info_ev : (Tryd.prog.info? 97).map (fun i => (i.zero, i.size, i.bytes)) = some (some (.agg #[.int .i64 0, .int .i64 0, .int .i64 0, .int .i64 0, .int .i64 0, .int .i64 0, .int .i64 0, .slice none 0 0, .string ⟨#[]⟩, .int .i64 0, .int .i64 0, .int .i64 0, .slice none 0 0]), 13, 144) := by kernel_rfl
theorem evz_size : (Value.cells (.agg #[.int .i64 0, .int .i64 0, .int .i64 0, .int .i64 0, .int .i64 0, .int .i64 0, .int .i64 0, .slice none 0 0, .string ⟨#[]⟩, .int .i64 0, .int .i64 0, .int .i64 0, .slice none 0 0])).size = 13 := by kernel_rfl
/-- An event's cells. -/
def evVals (at' : Int) (e : En) : List Value := .int .i64 at' :: e.vals
theorem evVals_one (at' : Int) (e : En) : ∀ u ∈ evVals at' e, u.oneCell' = true := by
  intro u hu
  simp only [evVals, En.vals, List.mem_cons, List.not_mem_nil, or_false] at hu
  rcases hu with rfl | rfl | rfl | rfl | rfl | rfl | rfl | rfl | rfl | rfl | rfl | rfl | rfl <;> rfl

section
variable {w u : World} {F : Nat → Prop} {sb : Nat} {v ve : Value} {xs : List Sh} {used : Nat → Bool} {ne : Nat} {evs : List Value}
/-- The slice of events is another: in the old block, or in a new one. -/
theorem SmIs.ev_set {ne' : Nat} {evs' : List Value} (h : SmIs w F sb v ve xs used ne evs) (ho : Only (fun j => some j = ve.ownBlock) w u) {r : Value} (hform : ∀ g, r.ownBlock = some g → ve.ownBlock = some g ∨ w.heap.size ≤ g) (hr : u.ownsRow 0 97 13 r ne' evs') (hpos : 0 < ne') :
    ShTurn w F sb xs used ne' evs' (u.setCell ⟨sb, 14, none⟩ r) := by
  have n0 : ¬ some sb = ve.ownBlock := fun e => (h.foot2 sb e.symm).2.1 rfl
  have hb := h.blt
  have hb2 : sb < u.heap.size := Nat.lt_of_lt_of_le hb ho.size
  have hc : u.cell? ⟨sb, 14, none⟩ = some ve := (ho.cell hb n0 14).trans h.ev
  have o2 := Only.setCell u ⟨sb, 14, none⟩ r
  have hgsb : ∀ g, r.ownBlock = some g → g ≠ sb := by
    intro g hg
    rcases hform g hg with h1 | h1
    · exact (h.foot2 g h1).2.1
    · omega
  have hlt : ∀ g, r.ownBlock = some g → g < u.heap.size := by
    intro g hg
    rcases hr.2 with ⟨e, _⟩ | ⟨b, c, cur, e, _, hh, _⟩
    · rw [e] at hg; cases hg
    · rw [e] at hg; cases hg; exact (Array.getElem?_eq_some_iff.1 hh).1
  have cne : ∀ k, k ≠ 14 → (u.setCell ⟨sb, 14, none⟩ r).cell? ⟨sb, k, none⟩ = u.cell? ⟨sb, k, none⟩ := fun k hk => World.cell?_setCell_other _ _ _ _ (fun e => hk (by injection e with _ e2; exact e2.symm))
  refine ⟨(ho.mono fun j hj => .inl (h.foot2 j hj.symm).1).then (o2.mono fun j hj => .inl (by subst hj; exact h.foot0)), fun j => F j ∨ r.ownBlock = some j, ⟨v, r, ?_⟩, ?_⟩
  · refine ⟨?_, fun i hi => ?_, by simp [World.cell?_setCell_same, hc], fun i hi => ?_, ?_, ?_, h.sz, .inl h.foot0, fun g hg => ⟨.inl (h.foot1 g hg).1, (h.foot1 g hg).2⟩, fun g hg => ⟨.inr hg, hgsb g hg, fun e => ?_⟩, ?_, fun e0 => absurd e0 (Nat.ne_of_gt hpos)⟩
    · rw [cne _ (by omega)]; exact (ho.cell hb n0 _).trans h.live
    · rw [cne _ (by omega)]; exact (ho.cell hb n0 _).trans (h.used i hi)
    · rw [World.frozen?_setCell]; exact (ho.frozen hb n0 _).trans (h.fz i hi)
    · have hl := ownsRow_keep ho h.row (fun b hb e => (h.foot2 b e.symm).2.2 hb)
      exact ownsRow_keep o2 hl (fun b hb e => (h.foot1 b hb).2 e)
    · exact ownsRow_keep o2 hr (fun b hb e => hgsb b hb e)
    · rcases hform g hg with h4 | h4
      · exact (h.foot2 g h4).2.2 e
      · have := h.lt g (h.foot1 g e).1; omega
    · intro j hj
      rcases hj with hj | hj
      · exact Nat.lt_of_lt_of_le (h.lt j hj) (Nat.le_trans ho.size o2.size)
      · exact Nat.lt_of_lt_of_le (hlt j hj) o2.size
  · intro j hj
    rcases hj with hj | hj
    · exact .inl hj
    · rcases hform j hj with h1 | h1
      · exact .inl (h.foot2 j h1).1
      · exact .inr h1
end

/-- An entry in a block. -/
def EnBox (w : World) (b : Nat) (e : En) : Prop := ∀ k v, e.vals[k]? = some v → w.cell? ⟨b, k, none⟩ = some v
theorem EnBox.of_alloc (w : World) (e : En) (t : TypeId) : EnBox (w.alloc (.cells e.vals.toArray t)) w.heap.size e := by
  intro k v hv
  have hb : (w.alloc (Obj.cells e.vals.toArray t)).heap[w.heap.size]? = some (Obj.cells e.vals.toArray t) := by
    show (w.heap.push _)[w.heap.size]? = _
    simp
  simp only [World.cell?, hb]; simpa using hv
theorem EnBox.only {w w' : World} {b : Nat} {e : En} {S : Nat → Prop} (h : EnBox w b e) (g : Only S w w') (hb : b < w.heap.size) (hS : ¬ S b) : EnBox w' b e := fun k v hv => (g.cell hb hS k).trans (h k v hv)
theorem EnBox.grew {w w' : World} {b : Nat} {e : En} (h : EnBox w b e) (g : Grew w w') (hb : b < w.heap.size) : EnBox w' b e := h.only (g.only fun _ => False) hb (fun h => h)
theorem EnBox.cells {w : World} {b : Nat} {e : En} (h : EnBox w b e) : w.cell? ⟨b, 0, none⟩ = some (.int .i64 e.kind) ∧ w.cell? ⟨b, 1, none⟩ = some (.int .i64 e.shard) ∧ w.cell? ⟨b, 2, none⟩ = some (.int .i64 e.other) ∧ w.cell? ⟨b, 3, none⟩ = some (.int .i64 e.server) ∧ w.cell? ⟨b, 4, none⟩ = some (.int .i64 e.client) ∧ w.cell? ⟨b, 5, none⟩ = some (.int .i64 e.seq) ∧ w.cell? ⟨b, 6, none⟩ = some (.slice e.opsA e.ops.length e.opsC) ∧ w.cell? ⟨b, 7, none⟩ = some (.string e.key) ∧ w.cell? ⟨b, 8, none⟩ = some (.int .i64 e.upto) ∧ w.cell? ⟨b, 9, none⟩ = some (.int .i64 e.part) ∧ w.cell? ⟨b, 10, none⟩ = some (.int .i64 e.parts) ∧ w.cell? ⟨b, 11, none⟩ = some (.slice e.dataA e.dataL e.dataC) :=
  ⟨h 0 _ rfl, h 1 _ rfl, h 2 _ rfl, h 3 _ rfl, h 4 _ rfl, h 5 _ rfl, h 6 _ rfl, h 7 _ rfl, h 8 _ rfl, h 9 _ rfl, h 10 _ rfl, h 11 _ rfl⟩

namespace Pl
def applyB (xs : List Sh) (used : Nat → Bool) (e : En) (at' : Int) : Bool := countsB xs used e && decide (0 ≤ at') && decide (at' < 4096)
end Pl

section
variable {S : Nat → Bool} (hS : ShdS S) (E : Nat → Addr) {w : World} (hE : Errs S E w) {F : Nat → Prop} {sb : Nat} {xs : List Sh} {used : Nat → Bool} {ne : Nat} {evs : List Value} (h : SmAt w F sb xs used ne evs) (hx : xs.length ≤ 1000) (e : En) (hA : EnAt w e) (hkey : e.key.size ≤ 70368744177664)
include hS hE h hx hA hkey
set_option maxRecDepth 100000 in
set_option maxHeartbeats 4000000 in
/-- An entry that isn't done. -/
theorem apply_no (at' : Int) (hno : Pl.applyB xs used e at' = false) :
    Calls Tryd.prog 11 #[.pointer (some ⟨sb, 0, none⟩), e.agg, .int .i64 at'] w fun r w' => r = .returned (.bool false) ∧ Grew w w' := by
  have HC := hid (fun W (g : Grew w W) => counts_any hS E (hE.grew g) (h.grew g) (by omega : xs.length ≤ 1000000) e (hA.grew g) hkey)
  have hb : sb < w.heap.size := by obtain ⟨_, _, h⟩ := h; exact h.blt
  cases hc : Pl.countsB xs used e with
  | false =>
    rw [hc] at HC
    clear hc hno hA hE h
    unfold En.agg En.vals at *
    go_enter Tryd.func11, Tryd.ntmps11
    go_wp2_with fail
    refine (HC.out _ ((Grew.refl w).alloc _)).mono ?_
    rintro r w1 ⟨rfl, hg⟩
    have hG := ((Grew.refl w).alloc _).trans hg
    clear hg
    go_wp2_with fail
    go_ret
    exact ⟨rfl, hG⟩
  | true =>
    rw [hc] at HC
    have hat : at' < 0 ∨ (0 ≤ at' ∧ 4096 ≤ at') := by
      unfold Pl.applyB at hno
      rw [hc] at hno
      simp at hno
      omega
    clear hc hno hA hE h
    unfold En.agg En.vals at *
    rcases hat with ha | ⟨ha, ha2⟩
    · go_enter Tryd.func11, Tryd.ntmps11
      go_wp2_with fail
      refine (HC.out _ ((Grew.refl w).alloc _)).mono ?_
      rintro r w1 ⟨rfl, hg⟩
      have hG := ((Grew.refl w).alloc _).trans hg
      clear hg
      go_wp2_with fail
      go_ret
      exact ⟨rfl, hG⟩
    · have ha' : ¬ at' < 0 := by omega
      go_enter Tryd.func11, Tryd.ntmps11
      go_wp2_with fail
      refine (HC.out _ ((Grew.refl w).alloc _)).mono ?_
      rintro r w1 ⟨rfl, hg⟩
      have hG := ((Grew.refl w).alloc _).trans hg
      clear hg
      go_wp2_with fail
      go_ret
      exact ⟨rfl, hG⟩

set_option maxRecDepth 100000 in
set_option maxHeartbeats 4000000 in
/-- A move. -/
theorem apply_move (at' : Int) (hyes : Pl.applyB xs used e at' = true) (k2 : e.kind = 2) (i : Nat) (hi : i < xs.length) (hf : Pl.findM xs e.shard = (i : Nat)) :
    Calls Tryd.prog 11 #[.pointer (some ⟨sb, 0, none⟩), e.agg, .int .i64 at'] w fun r w' => r = .returned (.bool true) ∧ ShTurn w F sb (xs.set i ⟨(shAt xs i).id, e.server, (shAt xs i).since, (shAt xs i).lo, (shAt xs i).hi⟩) used ne evs w' := by
  have HC := hid (fun W (g : Grew w W) => counts_any hS E (hE.grew g) (h.grew g) (by omega : xs.length ≤ 1000000) e (hA.grew g) hkey)
  have HF1 := hid (fun W (g : Grew w W) => findM_any (h.grew g) (by omega : xs.length ≤ 1000000) e.shard)
  obtain ⟨v, ve, h⟩ := h
  obtain ⟨b, cap, rfl, _, hbb⟩ := h.row.form (by omega : 0 < xs.length)
  have c0 := h.live
  have hb := h.blt
  have hbsb : b ≠ sb := (h.foot1 b rfl).2
  rw [hf] at HF1
  have hiI : ¬ ((i : Int) < 0) := by omega
  have hiL : (i : Int) < (xs.length : Int) := by omega
  have HS := hid h
  have HI := hid hi
  have hap := hyes
  unfold Pl.applyB at hap
  simp only [Bool.and_eq_true, decide_eq_true_eq] at hap
  obtain ⟨⟨hc, ha0⟩, ha1⟩ := hap
  have ha0' : ¬ at' < 0 := by omega
  have ha1' : ¬ 4096 ≤ at' := by omega
  rw [hc] at HC
  clear hyes hc hA hE hf h hi
  unfold En.agg En.vals at *
  obtain ⟨kind, shard, other, server, client, seq, key, upto, part, parts, ops, opsA, opsC, dataA, dataL, dataC⟩ := e
  dsimp only at *
  subst k2
  go_enter Tryd.func11, Tryd.ntmps11
  go_wp2_with fail
  refine (HC.out _ ((Grew.refl w).alloc _)).mono ?_
  rintro r w1 ⟨rfl, hg⟩
  have hG := ((Grew.refl w).alloc _).trans hg
  have hcc := hg.cells.1
  have hz : w.heap.size < w1.heap.size := by have := hg.size; simp at this; omega
  have HG := hid hG
  have E0 : w1.cell? ⟨w.heap.size, 0, none⟩ = some (.int .i64 2) := (hcc _ _ (by simp)).trans (by simp [go_sem])
  have E1 := wd_cell ((hcc w.heap.size 1 (by simp)).trans (by simp [go_sem] : _ = some (.int .i64 shard)))
  have E3 := wd_cell ((hcc w.heap.size 3 (by simp)).trans (by simp [go_sem] : _ = some (.int .i64 server)))
  clear hg hG hcc
  go_wp2_with fail
  have hb1 : sb < w1.heap.size := Nat.lt_of_lt_of_le hb HG.out.size
  have hbb1 : b < w1.heap.size := Nat.lt_of_lt_of_le hbb HG.out.size
  have C0 := wd_cell ((HG.out.cells.1 _ _ hb).trans c0)
  clear HC c0
  refine wp_region_mix 10 [] (Grew w1) Grew (fun _ _ x => Grew w1 x) (fun _ a => a) (by kernel_rfl) (by kernel_rfl) (fun _ _ => rfl) (Grew.refl w1).drew (fun _ _ _ h => h) Grew.refl (fun _ _ _ _ h g => h.trans g) ?_
  repeat (first
    | (refine wpMix_loose (by rfl) (by rfl) ?_)
    | (refine wpMix_plain (by rfl) (by rfl) (by rfl) (by first | exact Grew.refl | exact fun _ => rfl) (by rfl) ?_; intro K hK; go_big_quiet_op; go_big_quiet_on)
    | (refine wpMix_call (by rfl) (by rfl) (by rfl) (by rfl) (fun _ => by kernel_rfl) (fun u hu => HF1.out u (HG.out.trans hu)) ?_; simp only [Act.put, List.setIfInBounds_toArray, List.set_cons_zero, List.set_cons_succ])
    | (refine wpMix_skip (by rfl) (by rfl) (by rfl) ?_; simp only [Act.put, List.setIfInBounds_toArray, List.set_cons_zero, List.set_cons_succ]))
  refine wpMix_done (by rfl) ⟨trivial, ?_⟩
  rintro f0 x hgx
  have HX := hid (HS.out.grew (HG.out.trans hgx))
  have HGX := hid (HG.out.trans hgx)
  have s1 := sh_cell HX.out rfl i HI.out 1 (by omega)
  simp only [Sh.vals, List.getElem?_cons_zero, List.getElem?_cons_succ] at s1
  have f1 : x.frozen? ⟨b, i * 5 + 1, none⟩ = false := HX.out.row.frozenAt _
  clear E0 E1 E3 C0 hgx HF1
  dsimp only [List.drop]
  go_wp2_with fail
  go_ret
  refine ⟨rfl, ?_⟩
  have hfin := HX.out.serv i HI.out server
  refine ⟨(HGX.out.only F).then ((Only.setCell x ⟨b, i * 5 + 1, none⟩ _).mono fun j hj => .inl (by subst hj; exact (HS.out.foot1 _ rfl).1)), F, ⟨_, _, hfin⟩, fun _ => .inl⟩

end
end Go.Proofs.YtajoihpjnnnkeaaDoor
