/- tidewaterlaw03.SpanBoth returns true, for every two spans; the program's sentinels lie as its own text lays them. -/
import Derived.Test.YtbkombicbgjlnaaDoorLaw03b
import Derived.Test.YtbkombicbgjlnaaDoorFin19
namespace Go.Proofs.YtbkombicbgjlnaaDoor.finSpanBoth
open Go.ChangeShapes Go.WideShapes Go.ChangeAt Go.RowKit
open Go.ChangeMaps (open_string shut_string)

open Go.Proofs.YtbkombicbgjlnaaDoor.fin

set_option maxRecDepth 100000 in
theorem lifted (os : Os) (started : os.Started) (H : Type) (enc : TypeId × Value → H) :
    ReturnsInHanded {} Tryd.checked os 5 .any (fun w args => (Rows.spanBothSpec.pre enc Tryd.prog Tryd.f5 [] false w args ∧ laidMetH Tryd.prog Rows.spanBothRow.laid w) ∧ sizedMet enc Tryd.prog Tryd.f5 (OpenSpec.ofChange Rows.spanBothSpec) false w args)
      (Rows.spanBothSpec.post enc Tryd.prog Tryd.f5 false true false false) := by
  refine returnsInHanded_of_change_and (C := Tryd.checked) (X := fun w _ => laidMetH Tryd.prog Rows.spanBothRow.laid w) (fun _ _ _ hh h => h.of_heap hh) own started (by kernel_rfl) Tryd.func5
    (ChangeSpec.witness_shaped (enc := enc) (C := Tryd.checked) (os := os) (X := fun w _ => laidMetH Tryd.prog Rows.spanBothRow.laid w) false (World.doorLaid Tryd.prog 400 os) #[.agg #[.string ⟨#[]⟩, .string ⟨#[]⟩], .agg #[.string ⟨#[]⟩, .string ⟨#[]⟩]] 8 rfl (World.shaped_of_RefB (by kernel_rfl) (by kernel_rfl)) (by kernel_rfl) (by kernel_rfl) (by kernel_rfl) (laid_met os _)) ?_
  intro W base args ds gs before hval0 hW _ hsz0 hL _
  have hval : ∀ (j : Nat) t v, Tryd.f5.params[j]? = some t → args[j]? = some v → Value.okWide Tryd.prog W .any base t v := hval0
  have hW' := hW
  have hsz : (DataW.weightsEach Tryd.prog (Tryd.f5.params.toList ++ Rows.spanBothSpec.plain.varTypes Tryd.prog) (ds ++ gs)).all (· ≤ reachBytes) = true := hsz0
  obtain ⟨p, q, hA0, hV, rfl, hfz, hnd⟩ := hW
  have hA : DataW.TrodAll enc Tryd.prog W 0 (fun _ => true) true Tryd.f5.params.toList args.toList ds p := hA0
  rw [Tryd.params5] at hA hval hsz
  obtain ⟨v0, vs0, d0, ds0, p0, q0, hargs, rfl, rfl, h0, r0⟩ := trodAll_cons hA
  obtain ⟨v1, vs1, d1, ds1, p1, q1, rfl, rfl, rfl, h1, r1⟩ := trodAll_cons r0
  obtain ⟨rfl, rfl, rfl⟩ := trodAll_nil r1
  obtain rfl : args = #[v0, v1] := by cases args; simp_all
  obtain ⟨rfl, rfl⟩ := trodVars_none hV
  have k0 := h0
  have lt0 : ∀ x ∈ p0, x.block < W.heap.size := by obtain ⟨m, hm⟩ := k0; exact DataW.trod_lt m _ _ _ hm
  have k1 := h1
  have lt1 : ∀ x ∈ p1, x.block < W.heap.size := by obtain ⟨m, hm⟩ := k1; exact DataW.trod_lt m _ _ _ hm
  obtain ⟨c0, c1, y0, y1, m, rfl, rfl, _, hy0, hy1⟩ := Joins.open_agg2 Tryd.underlying28 (by kernel_rfl) cellsSpan (hval 0 28 v0 rfl rfl) h0
  obtain ⟨alo, e0, rfl, wlo⟩ := DataW.trod_string Tryd.underlying9 hy0
  obtain ⟨ahi, e1, rfl, whi⟩ := DataW.trod_string Tryd.underlying9 hy1
  simp at e0 e1
  subst e0 e1
  obtain ⟨c2, c3, y2, y3, m2, rfl, rfl, _, hy2, hy3⟩ := Joins.open_agg2 Tryd.underlying28 (by kernel_rfl) cellsSpan (hval 1 28 v1 rfl rfl) h1
  obtain ⟨blo, e2, rfl, wlo2⟩ := DataW.trod_string Tryd.underlying9 hy2
  obtain ⟨bhi, e3, rfl, whi2⟩ := DataW.trod_string Tryd.underlying9 hy3
  simp at e2 e3
  subst e2 e3
  obtain ⟨E, hE⟩ := errs hL
  have z1 : alo.size ≤ 140737488351232 := by
    have := List.all_eq_true.1 hsz _ (DataW.weights_mem_each (j := 0) (t := 28) rfl rfl alo.size (by simp [DataW.weights, DataW.weightsEach, Tryd.underlying28]))
    simpa [reachBytes] using of_decide_eq_true this
  have z2 : ahi.size ≤ 140737488351232 := by
    have := List.all_eq_true.1 hsz _ (DataW.weights_mem_each (j := 0) (t := 28) rfl rfl ahi.size (by simp [DataW.weights, DataW.weightsEach, Tryd.underlying28]))
    simpa [reachBytes] using of_decide_eq_true this
  have z3 : blo.size ≤ 140737488351232 := by
    have := List.all_eq_true.1 hsz _ (DataW.weights_mem_each (j := 1) (t := 28) rfl rfl blo.size (by simp [DataW.weights, DataW.weightsEach, Tryd.underlying28]))
    simpa [reachBytes] using of_decide_eq_true this
  have z4 : bhi.size ≤ 140737488351232 := by
    have := List.all_eq_true.1 hsz _ (DataW.weights_mem_each (j := 1) (t := 28) rfl rfl bhi.size (by simp [DataW.weights, DataW.weightsEach, Tryd.underlying28]))
    simpa [reachBytes] using of_decide_eq_true this
  clear hA0 hval0
  refine (spanBoth_walk E alo ahi blo bhi W z1 z2 z3 z4 hE).mono fun e W' ⟨he, bel⟩ => ?_
  subst he
  exact ⟨_, rfl, _, _, _, [], _, [], hW', trodAll_mk1 (shut_bool Tryd.underlying4 _), (trodAll_cons_mk (Below.trod laidOut (by kernel_rfl) (of_decide_eq_true (by kernel_rfl)) k0 bel.below lt0) (trodAll_cons_mk (Below.trod laidOut (by kernel_rfl) (of_decide_eq_true (by kernel_rfl)) k1 bel.below lt1) trodAll_mk0)), rfl, bel.below.frame _, fun h => by cases h⟩

theorem over : Rows.SpanBothSaid :=
  OpenClaim.holds_of_wide 5 Tryd.f5 rfl rfl rfl rfl rfl rfl rfl ⟨rfl, rfl, rfl, rfl, rfl⟩ rfl rfl rfl rfl rfl (by kernel_rfl) Tryd.func5 (by kernel_rfl)
    (of_decide_eq_true (by kernel_rfl)) (by unfold Func.isWrapper; first | (rw [if_pos (by decide +kernel)]; kernel_rfl) | (rw [if_neg (by decide +kernel)]; exact ⟨rfl, rfl⟩))
    (fun os started H enc _ => lifted os started H enc)

theorem plain (f : FuncId) (fn : Func) (hf : Tryd.pinned.checked.prog.funcNamed "tidewater/tidewaterlaw03.SpanBoth" = some f) (hfn : Tryd.pinned.checked.prog.funcs[f]? = some fn) :
    true = Tryd.pinned.checked.prog.looks [] ∧ ∀ (j : Nat) t, fn.params[j]? = some t → Tryd.pinned.checked.prog.wantsStandIn t = false := by
  obtain rfl : f = 5 := Option.some.inj ((show Tryd.prog.funcNamed "tidewater/tidewaterlaw03.SpanBoth" = some 5 by kernel_rfl).symm.trans hf) |>.symm
  obtain rfl : fn = Tryd.f5 := (Option.some.inj (Tryd.func5.symm.trans hfn)).symm
  refine ⟨by kernel_rfl, fun j t ht => ?_⟩
  rw [Tryd.params5] at ht
  have hm : t ∈ [28] := by simpa using Array.mem_of_getElem? ht
  have hall : ([28].all fun u => !Tryd.prog.wantsStandIn u) = true := by kernel_rfl
  exact (show Tryd.prog.wantsStandIn t = false by simpa using List.all_eq_true.1 hall t hm)

theorem card : Rows.SpanBothCardSaid :=
  Claim7.holds_tied_plain_at .later [] _ _ _ _ over (fun _ h => by cases h) (by kernel_rfl) (fun _ h => by cases h) spanBoth_row_tie rfl ⟨rfl, rfl⟩ (by kernel_rfl) rfl plain (by kernel_rfl)
#print axioms card
end Go.Proofs.YtbkombicbgjlnaaDoor.finSpanBoth
