/- The walk of tidewaterref20.Map.Apply: an entry that doesn't count; a move. -/
import Derived.Test.YtajoihpjnnnkeaaDoorC20
import Derived.Test.YtajoihpjnnnkeaaDoorM20
import Derived.Test.YtajoihpjnnnkeaaDoorRgn3
set_option linter.unusedVariables false
set_option linter.unusedSectionVars false
set_option linter.unusedSimpArgs false
namespace Go.Proofs.YtajoihpjnnnkeaaDoor
open Go.RowKit Go.Maps
attribute [local go_sem] Oper.semAt_some

namespace Pl
/-- What the document's Apply tells. -/
def app20 (s : MdSt) (e : En) (at' : Int) : Bool := cnt20 s e && decide (0 ≤ at') && decide (at' ≤ 4095)
end Pl
/-- What the document's walks ask of a map. -/
structure MdOk (s : MdSt) : Prop where
  few : s.xs.length ≤ 1000
  us : s.us.length ≤ 100000
  ne : s.ne ≤ 100000
  sz : ∀ c ∈ s.xs, c.lo.size ≤ 16777216 ∧ c.hi.size ≤ 16777216

section
variable {w : World} {F : Nat → Prop} {mb : Nat} {s : MdSt} (h : MdAt w F mb s) (hk : MdOk s) (e : En) (hA : EnAt w e) (hs : EnSm e)
include h hk hA hs
theorem counts20_ok : Hid (∀ W, Grew w W → Calls Tryd.prog 17 #[.pointer (some ⟨mb, 0, none⟩), e.agg] W fun r w' => r = .returned (.bool (Pl.cnt20 s e)) ∧ Grew W w') :=
  fun W g => counts20_any (h.grew g) hk.few (Nat.le_trans hk.us (by decide)) hk.sz e (hA.grew g) hs

set_option maxRecDepth 100000 in
set_option maxHeartbeats 4000000 in
theorem apply20_no (at' : Int) (hno : Pl.app20 s e at' = false) :
    Calls Tryd.prog 18 #[.pointer (some ⟨mb, 0, none⟩), e.agg, .int .i64 at'] w fun r w' => r = .returned (.bool false) ∧ Grew w w' := by
  have HC := counts20_ok h hk e hA hs
  unfold Pl.app20 at hno
  clear h hk hA hs
  generalize Pl.cnt20 s e = c at *
  unfold En.agg En.vals at *
  obtain ⟨kind, shard, other, server, client, seq, key, upto, part, parts, ops, opsA, opsC, dataA, dataL, dataC⟩ := e
  dsimp only at *
  cases c with
  | false =>
    clear hno
    go_enter Tryd.func18, Tryd.ntmps18
    go_wp2_with fail
    refine (HC.out _ ((Grew.refl w).alloc _)).mono ?_
    rintro r w1 ⟨rfl, hg⟩
    have HG := hid (((Grew.refl w).alloc _).trans hg)
    clear hg
    go_wp2_with fail
    go_ret
    exact ⟨rfl, HG.out⟩
  | true =>
    by_cases h1 : at' < 0
    · have d1 : decide (at' < 0) = true := decide_eq_true h1
      clear hno
      go_enter Tryd.func18, Tryd.ntmps18
      go_wp2_with fail
      refine (HC.out _ ((Grew.refl w).alloc _)).mono ?_
      rintro r w1 ⟨rfl, hg⟩
      have HG := hid (((Grew.refl w).alloc _).trans hg)
      clear hg
      go_wp2_with fail
      go_ret
      exact ⟨rfl, HG.out⟩
    · have h2 : 4095 < at' := by
        simp only [Bool.true_and, Bool.and_eq_false_iff, decide_eq_false_iff_not] at hno
        omega
      have d1 : decide (at' < 0) = false := decide_eq_false h1
      have d2 : decide (4095 < at') = true := decide_eq_true h2
      clear hno
      go_enter Tryd.func18, Tryd.ntmps18
      go_wp2_with fail
      refine (HC.out _ ((Grew.refl w).alloc _)).mono ?_
      rintro r w1 ⟨rfl, hg⟩
      have HG := hid (((Grew.refl w).alloc _).trans hg)
      clear hg
      go_wp2_with fail
      go_ret
      exact ⟨rfl, HG.out⟩

set_option maxRecDepth 100000 in
set_option maxHeartbeats 4000000 in
theorem apply20_move (at' : Int) (hyes : Pl.app20 s e at' = true) (k2 : e.kind = 2) (i : Nat) (hi : i < s.xs.length) (hf : Pl.findM s.xs e.shard = (i : Nat)) :
    Calls Tryd.prog 18 #[.pointer (some ⟨mb, 0, none⟩), e.agg, .int .i64 at'] w fun r w' => r = .returned (.bool true) ∧ MdTurn w F mb ⟨s.xs.set i ⟨(shAt s.xs i).id, e.server, (shAt s.xs i).since, (shAt s.xs i).lo, (shAt s.xs i).hi⟩, s.us, s.ne, s.evs⟩ w' := by
  have HC := counts20_ok h hk e hA hs
  have HF1 := hid (fun W (g : Grew w W) => find20_any (h.grew g) (Nat.le_trans hk.few (by decide)) e.shard)
  have hfew := hk.few
  obtain ⟨xs, us, ne, evs⟩ := s
  obtain ⟨vl, vu, ve, h⟩ := h
  dsimp only at *
  obtain ⟨b, cap, rfl, _, hbb⟩ := h.row.form (by omega : 0 < xs.length)
  have c0 := h.live
  have hb := h.blt
  have hbsb : b ≠ mb := (h.foot1 b rfl).2
  rw [hf] at HF1
  have hiI : ¬ ((i : Int) < 0) := by omega
  have hiL : (i : Int) < (xs.length : Int) := by omega
  have HS := hid h
  have HI := hid hi
  have hap := hyes
  unfold Pl.app20 at hap
  simp only [Bool.and_eq_true, decide_eq_true_eq] at hap
  obtain ⟨⟨hc, ha0⟩, ha1⟩ := hap
  have ha0' : ¬ at' < 0 := by omega
  have ha1' : ¬ 4095 < at' := by omega
  have d0 : decide (at' < 0) = false := decide_eq_false ha0'
  have d1 : decide (4095 < at') = false := decide_eq_false ha1'
  rw [hc] at HC
  clear hyes hc hA hf h hi hk hs
  unfold En.agg En.vals at *
  obtain ⟨kind, shard, other, server, client, seq, key, upto, part, parts, ops, opsA, opsC, dataA, dataL, dataC⟩ := e
  dsimp only at *
  subst k2
  go_enter Tryd.func18, Tryd.ntmps18
  go_wp2_with fail
  refine (HC.out _ ((Grew.refl w).alloc _)).mono ?_
  rintro r w1 ⟨rfl, hg⟩
  have hG := ((Grew.refl w).alloc _).trans hg
  have hcc := hg.cells.1
  have hz : w.heap.size < w1.heap.size := by have := hg.size; simp at this; omega
  have HG := hid hG
  have E0 : w1.cell? ⟨w.heap.size, 0, none⟩ = some (.int .i64 2) := (hcc _ _ (by simp)).trans (by simp [go_sem])
  have E1 : w1.cell? ⟨w.heap.size, 1, none⟩ = some (.int .i64 shard) := (hcc _ _ (by simp)).trans (by simp [go_sem])
  have E3 : w1.cell? ⟨w.heap.size, 3, none⟩ = some (.int .i64 server) := (hcc _ _ (by simp)).trans (by simp [go_sem])
  clear hg hG hcc HC
  go_wp2_with fail
  refine (HF1.out _ HG.out).mono ?_
  rintro r w2 ⟨rfl, hg2⟩
  have E0' := (hg2.cells.1 _ _ hz).trans E0
  have HG2 := hid (HG.out.trans hg2)
  have hz2 : w.heap.size < w2.heap.size := Nat.lt_of_lt_of_le hz hg2.size
  have hb1 : mb < w2.heap.size := Nat.lt_of_lt_of_le hb HG2.out.size
  have hbb1 : b < w2.heap.size := Nat.lt_of_lt_of_le hbb HG2.out.size
  have C0 := wd_cell ((HG2.out.cells.1 _ _ hb).trans c0)
  have X3 := wd_cell ((hg2.cells.1 _ _ hz).trans E3)
  clear hg2 E0 E1 E3 c0 HF1
  go_wp2_with fail
  refine wp_region_mix 9 [] (Grew w2) Eq (fun _ _ x => x = w2.drew) (fun _ a => a) (by kernel_rfl) (by kernel_rfl) (fun _ _ => rfl) rfl (fun _ _ x h => by rw [h]; exact (Grew.refl w2).drew) (fun _ => rfl) (fun _ _ _ _ h g => g ▸ h) ?_
  repeat (first
    | (refine wpMix_loose (by rfl) (by rfl) ?_)
    | (refine wpMix_plain (by rfl) (by rfl) (by rfl) (by first | exact Grew.refl | exact fun _ => rfl) (by rfl) ?_; intro K hK; go_big_quiet_op; go_big_quiet_on)
    | (refine wpMix_skip (by rfl) (by rfl) (by rfl) ?_; simp only [Act.put, List.setIfInBounds_toArray, List.set_cons_zero, List.set_cons_succ]))
  refine wpMix_done (by rfl) ⟨trivial, ?_⟩
  rintro f0 x rfl
  have HX := hid (HS.out.grew HG2.out.drew)
  have s1 := md_cell HX.out rfl i HI.out 1 (by omega)
  simp only [Sh.vals, List.getElem?_cons_zero, List.getElem?_cons_succ] at s1
  have f1 : w2.drew.frozen? ⟨b, i * 5 + 1, none⟩ = false := HX.out.row.frozenAt _
  clear E0' C0 X3
  dsimp only [List.drop]
  go_wp2_with fail
  go_ret
  refine ⟨rfl, ?_⟩
  have hfin := HX.out.serv i HI.out server
  exact ⟨(HG2.out.drew.only F).then ((Only.setCell w2.drew ⟨b, i * 5 + 1, none⟩ _).mono fun j hj => .inl (by subst hj; exact (HS.out.foot1 _ rfl).1)), F, ⟨_, _, _, hfin⟩, fun _ => .inl⟩
end
end Go.Proofs.YtajoihpjnnnkeaaDoor
