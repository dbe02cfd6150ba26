/- Elog, Chk0, Pr0: one text. -/
import Derived.Test.YtlgcdneiebjkcaaGreatDoorFinServeNewQ9
import Derived.Test.YtlgcdneiebjkcaaGreatDoorFinServeNewQ3
import Derived.WalkMore
import Derived.Maps.RangeRun
import Derived.Maps.Range
import Derived.RangeFuncNested
import Derived.RangeFuncBound
import Derived.RangeFuncFrom
import Derived.RangeFuncCalls
import Derived.RangeFuncLeaves
import Derived.Shelf.Abstract
import Derived.OwnWalkIn
import Derived.TacticsInMore
import Derived.LoopNIn
import Derived.LoopIn
import Derived.Test.YtlgcdneiebjkcaaGreatDoorFinServeNewQ1
set_option linter.unusedVariables false
set_option linter.unusedSectionVars false
set_option linter.unusedSimpArgs false
namespace Go.Proofs.YtlgcdneiebjkcaaGreatDoor
open Go.RowKit Go.Maps
attribute [local go_sem] Oper.semAt_some
set_option maxRecDepth 100000 in
theorem tokStream (x : Nat) (hx : x < 13) (w : World) : Calls Tryz.prog 37 #[.int .i64 x] w fun e w' => e = .returned (.bool true) ∧ w' = w := by
  have h0 : (0 : Int) ≤ (x : Int) := by omega
  have h1 : (x : Int) ≤ 12 := by omega
  go_enter Tryz.func37, Tryz.ntmps37
  go_wp2_with fail
  go_ret
  exact ⟨by simp, rfl⟩
set_option maxRecDepth 100000 in
theorem plyStream (x : Nat) (hx : x < 13) (w : World) : Calls Tryz.prog 204 #[.int .i64 x] w fun e w' => e = .returned (.bool true) ∧ w' = w := by
  have h0 : (0 : Int) ≤ (x : Int) := by omega
  have h1 : (x : Int) ≤ 12 := by omega
  go_enter Tryz.func204, Tryz.ntmps204
  go_wp2_with fail
  go_ret
  exact ⟨by simp, rfl⟩
set_option maxRecDepth 100000 in
theorem plyStream1 (x : Nat) (hx : x < 13) (w : World) : Calls Tryz.prog 203 #[.int .i64 x] w fun e w' => e = .returned (.bool false) ∧ w' = w := by
  have H := hid (plyStream x hx)
  go_enter Tryz.func203, Tryz.ntmps203
  go_wp2_with fail
  refine (H.out _).mono ?_
  rintro e w1 ⟨rfl, rfl⟩
  go_wp2_with fail
  go_ret
  exact ⟨rfl, rfl⟩
set_option maxRecDepth 100000 in
theorem seqNewest0 {w : World} {sq : Nat} {e : Int} (x : Nat) (hx : x < 13) (s0 : w.cell? ⟨sq, 0, none⟩ = some (.int .i64 e)) (s2 : w.cell? ⟨sq, 2 + x, none⟩ = some (.slice none 0 0)) : Calls Tryz.prog 294 #[.pointer (some ⟨sq, 0, none⟩), .int .i64 e, .int .i64 x] w fun e w' => e = .returned (.tuple #[.slice none 0 0, .nilIface]) ∧ Grew w w' := by
  have H := hid (tokStream x hx)
  have HC := hid cloneNilI64
  have h0 : ¬ (x : Int) < 0 := by omega
  have h1 : (x : Int) < 13 := by omega
  go_enter Tryz.func294, Tryz.ntmps294
  go_wp2_with fail
  refine (H.out _).mono ?_
  rintro r w1 ⟨rfl, rfl⟩
  go_wp2_with fail
  refine (HC.out _).mono ?_
  rintro r w1 ⟨rfl, hg⟩
  go_wp2_with fail
  go_ret2
  exact ⟨rfl, hg⟩
set_option maxRecDepth 100000 in
theorem logNewest0 {w : World} {lb sq : Nat} {e : Int} (h : LogC w lb sq e 0) (x : Nat) (hx : x < 13) : Calls Tryz.prog 263 #[.pointer (some ⟨lb, 0, none⟩), .int .i64 x] w fun e w' => e = .returned (.tuple #[.slice none 0 0, .nilIface]) ∧ Grew w w' := by
  have c3 := h.c3
  have H := hid (fun u (g : Grew w u) => seqNewest0 x hx (h.grew g).s0 ((h.grew g).nw rfl x hx))
  have C1 := wd_cell h.c1
  have C3 := wd_cell h.c3
  clear h
  go_enter Tryz.func263, Tryz.ntmps263
  go_wp2_with fail
  refine wp_region_still 15 (by kernel_rfl) (by kernel_rfl) (fun _ _ => rfl) ?_
  repeat (first
    | (refine mxP ?_; intros; go_big_quiet_op; go_big_quiet_on)
    | (refine mxC (fun _ => by kernel_rfl) (fun u hu => H.out u hu) ?_; simp only [Act.put, List.setIfInBounds_toArray, List.set_cons_zero, List.set_cons_succ])
    | (refine mxK ?_; simp only [Act.put, List.setIfInBounds_toArray, List.set_cons_zero, List.set_cons_succ]))
  refine mixS_nil ?_
  intro x hx
  clear C1 C3 c3 H
  dsimp only [List.drop]
  go_wp2_with fail
  go_ret2
  exact ⟨rfl, hx⟩
set_option maxRecDepth 100000 in
theorem logBegin0 {w : World} {lb sq : Nat} {e : Int} (h : LogC w lb sq e 0) : Calls Tryz.prog 66 #[.pointer (some ⟨lb, 0, none⟩)] w fun e w' => e = .returned (.tuple #[.int .i64 0, .nilIface]) ∧ Grew w w' := by
  have H := hid (logTail_any h)
  clear h
  go_enter Tryz.func66, Tryz.ntmps66
  go_wp2_with fail
  go_step3
  go_wp2_with fail
  refine H.out.mono ?_
  rintro e w1 ⟨rfl, hg⟩
  go_wp2_with fail
  go_step3
  go_wp2_with fail
  try rw [Exit.noGoto_ret]
  go_ret2
  exact ⟨rfl, hg⟩
set_option maxRecDepth 100000 in
theorem logPages0 {w : World} {lb sq : Nat} {e : Int} (h : LogC w lb sq e 0) : Calls Tryz.prog 67 #[.pointer (some ⟨lb, 0, none⟩), .int .i64 0, .int .i64 0] w fun e w' => e = .returned (.tuple #[.slice none 0 0, .nilIface]) ∧ Grew w w' := by
  have H := hid (logTail_any h)
  clear h
  go_enter Tryz.func67, Tryz.ntmps67
  go_wp2_with fail
  refine H.out.mono ?_
  rintro e w1 ⟨rfl, hg⟩
  go_wp2_with fail
  refine wp_loop_rounds 1 ?_
  rw [rounds_succ]
  go_wp2_with fail
  go_ret2
  exact ⟨rfl, hg⟩
set_option maxRecDepth 100000 in
theorem backAll0 (wb : Nat) (w : World) : Calls Tryz.prog 264 #[.pointer (some ⟨wb, 0, none⟩), .slice none 0 0] w fun e w' => e = .returned .nilIface ∧ w' = w := by
  go_enter Tryz.func264, Tryz.ntmps264
  go_wp2_with fail
  go_step3
  go_wp2_with fail
  go_step3
  go_wp2_with fail
  refine wp_loop_rounds 1 ?_
  rw [rounds_succ]
  go_wp2_with fail
  try rw [Exit.noGoto_ret]
  go_ret
  exact ⟨rfl, rfl⟩
set_option maxRecDepth 100000 in
theorem backStart0 {w : World} {lb sq : Nat} {e : Int} (h : LogC w lb sq e 0) (x : Nat) (hx : x < 13) : Calls Tryz.prog 239 #[.pointer (some ⟨lb, 0, none⟩), .int .i64 x, .int .i64 0] w fun e w' => ∃ b, e = .returned (.tuple #[.pointer (some ⟨b, 0, none⟩), .nilIface]) ∧ w'.cell? ⟨b, 4, none⟩ = some (.slice none 0 0) ∧ Grew w w' := by
  have HL := hid h
  have H := hid (logTail_any h)
  have HA := hid backAll0
  clear h
  go_enter Tryz.func239, Tryz.ntmps239
  go_wp2_with fail
  refine H.out.mono ?_
  rintro e w1 ⟨rfl, hg⟩
  go_wp2_with fail
  refine (logNewest0 (HL.out.grew hg) x hx).mono ?_
  rintro e w2 ⟨rfl, hg2⟩
  go_wp2_with fail
  refine (HA.out _ _).mono ?_
  rintro e w3 ⟨rfl, rfl⟩
  go_wp2_with fail
  go_ret2
  exact ⟨w2.heap.size, rfl, by simp [go_sem], (hg.trans hg2).trans ((Grew.refl w2).alloc _)⟩
set_option maxRecDepth 100000 in
theorem revI_0 (w : World) : Calls Tryz.prog 240 #[.slice none 0 0] w fun e w' => e = .returned (.tuple #[]) ∧ w' = w := by
  go_enter Tryz.func240, Tryz.ntmps240
  go_wp2_with fail
  refine wp_loop_rounds 1 ?_
  rw [rounds_succ]
  go_wp2_with fail
  go_end0
  exact ⟨rfl, rfl⟩
set_option maxRecDepth 100000 in
theorem backWalk0 {w : World} {lb sq : Nat} {e : Int} (h : LogC w lb sq e 0) (x : Nat) (hx : x < 13) : Calls Tryz.prog 205 #[.pointer (some ⟨lb, 0, none⟩), .int .i64 x, .int .i64 0] w fun e w' => e = .returned (.tuple #[.slice none 0 0, .nilIface]) ∧ Grew w w' := by
  have H := hid (backStart0 h x hx)
  have HR := hid revI_0
  clear h
  go_enter Tryz.func205, Tryz.ntmps205
  go_wp2_with fail
  refine H.out.mono ?_
  rintro e w1 ⟨b, rfl, hb, hg⟩
  go_wp2_with fail
  refine (HR.out _).mono ?_
  rintro e w2 ⟨rfl, rfl⟩
  go_wp2_with fail
  go_ret2
  exact ⟨rfl, hg⟩
set_option maxRecDepth 100000 in
theorem idxI_1 (x : Nat) (hx : x < 13) {w : World} {b : Nat} (hb : w.cell? ⟨b, 0, none⟩ = some (.int .i64 x)) : Calls Tryz.prog 238 #[.slice (some ⟨b, 0, none⟩) 1 1, .func (.func 203) #[] #[]] w fun e w' => e = .returned (.int .i64 (-1)) ∧ w' = w := by
  have H := hid (plyStream1 x hx)
  go_enter Tryz.func238, Tryz.ntmps238
  go_wp2_with fail
  refine wp_loop_rounds 2 ?_
  rw [rounds_succ]
  go_wp2_with fail
  refine (H.out _).mono ?_
  rintro r w1 ⟨rfl, rfl⟩
  go_wp2_with fail
  rw [rounds_succ]
  go_wp2_with fail
  go_ret
  exact ⟨rfl, rfl⟩
set_option maxRecDepth 100000 in
theorem hasI_1 (x : Nat) (hx : x < 13) {w : World} {b : Nat} (hb : w.cell? ⟨b, 0, none⟩ = some (.int .i64 x)) : Calls Tryz.prog 202 #[.slice (some ⟨b, 0, none⟩) 1 1, .func (.func 203) #[] #[]] w fun e w' => e = .returned (.bool false) ∧ w' = w := by
  have H := hid (idxI_1 x hx hb)
  go_enter Tryz.func202, Tryz.ntmps202
  go_wp2_with fail
  refine H.out.mono ?_
  rintro e w1 ⟨rfl, rfl⟩
  go_wp2_with fail
  go_ret
  exact ⟨rfl, rfl⟩
set_option maxRecDepth 100000 in
set_option maxHeartbeats 4000000 in
theorem play1_any {w : World} {lb sq : Nat} {e : Int} (h : LogC w lb sq e 0) (x : Nat) (hx : x < 13) {b : Nat} (hb : w.cell? ⟨b, 0, none⟩ = some (.int .i64 x)) : Calls Tryz.prog 168 #[.pointer (some ⟨lb, 0, none⟩), .slice (some ⟨b, 0, none⟩) 1 1, .int .i64 0, .int .i64 0] w fun e w' => e = .returned (.tuple #[.slice none 0 0, .nilIface]) ∧ Grew w w' := by
  have H := hid (logTail_any h)
  have HL := hid h
  have HB := hid hb
  have HS := hid sortI_0
  have HM := hid compI_0
  have hbl : b < w.heap.size := cell_lt hb
  clear h hb
  go_enter Tryz.func168, Tryz.ntmps168
  go_wp2_with fail
  refine H.out.mono ?_
  rintro e w1 ⟨rfl, hg⟩
  have hb1 := (hg.cells.1 _ 0 hbl).trans HB.out
  go_wp2_with fail
  refine (hasI_1 x hx hb1).mono ?_
  rintro e w2 ⟨rfl, rfl⟩
  go_wp2_with fail
  refine wp_loop_rounds 2 ?_
  rw [rounds_succ]
  go_wp2_with fail
  refine (backWalk0 (HL.out.grew hg) x hx).mono ?_
  rintro r w3 ⟨rfl, hg3⟩
  go_wp2_with fail
  rw [rounds_succ]
  go_wp2_with fail
  refine (HS.out _).mono ?_
  rintro e w2 ⟨rfl, rfl⟩
  go_wp2_with fail
  refine (HM.out _).mono ?_
  rintro e w2 ⟨rfl, rfl⟩
  go_wp2_with fail
  refine wp_loop_rounds 1 ?_
  rw [rounds_succ]
  go_wp2_with fail
  go_ret2
  exact ⟨rfl, hg.trans hg3⟩
end Go.Proofs.YtlgcdneiebjkcaaGreatDoor
namespace Go.Proofs.YtlgcdneiebjkcaaGreatDoor
open Go.RowKit Go.Maps
attribute [local go_sem] Oper.semAt_some
theorem wpList_range_e {P : Program} {w : World} {ops : Array Oper} {rest : List Oper} {o : Oper} {a : Act} {Q : Exit → Act → World → Prop} {t k e : TypeId} (hg : o.guard = none) (m : Operand) (hop : o.op = Op.range t m) (ht : P.underlying t = some (.map k e)) (b clock : Nat) (hm : a.eval m = .map (some b)) (hb : w.heap[b]? = some (.map #[] clock))
    (hK : wpList P ops Q rest (a.put o.dst (.pointer (some ⟨w.heap.size, 0, none⟩))) (w.alloc (.mapIter (some b) clock #[] clock))) :
    wpList P ops Q (o :: rest) a w := by
  refine wpList_plain hg fun K' hK' => ?_
  have hrun := run_range_map w t k e b #[] clock ht hb
  unfold Oper.wp
  simp [execOp, hop, hm, hrun, Result.andThen]
  exact hK' _ _ hK
theorem wpList_next_e {P : Program} {w : World} {ops : Array Oper} {rest : List Oper} {o : Oper} {a : Act} {Q : Exit → Act → World → Prop} (hg : o.guard = none) (it : Operand) (hop : o.op = Op.next it false) (r b clock : Nat) (hit : a.eval it = .pointer (some ⟨r, 0, none⟩)) (hr : w.heap[r]? = some (.mapIter (some b) clock #[] clock)) (hb : w.heap[b]? = some (.map #[] clock))
    (hK : wpList P ops Q rest (a.put o.dst (.tuple #[.bool false])) w) :
    wpList P ops Q (o :: rest) a w := by
  refine wpList_plain hg fun K' hK' => ?_
  unfold Oper.wp
  rcases run_next_at (P := P) w o.type r b clock clock #[] #[] clock hr hb (by simp) (Nat.le_refl _) with ⟨_, hrun⟩ | ⟨e, he, _⟩
  · simp [execOp, hop, hit, hrun, Result.andThen]
    exact hK' _ _ hK
  · simp [leftOf] at he
set_option maxRecDepth 100000 in
theorem gather0 (s : Int) (w : World) : Calls Tryz.prog 208 #[.slice none 0 0, .int .i64 s] w fun e w' => e = .returned (.map (some w.heap.size)) ∧ w' = w.alloc (.map #[] 0) := by
  have hmm := @run_makeMap Tryz.prog
  go_enter Tryz.func208, Tryz.ntmps208
  go_wp2_with fail
  refine wp_loop_rounds 1 ?_
  rw [rounds_succ]
  go_wp2_with fail
  go_ret
  exact ⟨rfl, rfl⟩
set_option maxRecDepth 100000 in
theorem insF_0 (f : Value) (w : World) : Calls Tryz.prog 266 #[.slice none 0 0, .int .i64 0, .int .i64 0, f] w fun e w' => e = .returned (.tuple #[]) ∧ w' = w := by
  go_enter Tryz.func266, Tryz.ntmps266
  go_wp2_with fail
  refine wp_loop_rounds 1 ?_
  rw [rounds_succ]
  go_wp2
  go_end0
  exact ⟨rfl, rfl⟩
set_option maxRecDepth 100000 in
theorem pdqF_0 (f : Value) (w : World) : Calls Tryz.prog 242 #[.slice none 0 0, .int .i64 0, .int .i64 0, .int .i64 0, f] w fun e w' => e = .returned (.tuple #[]) ∧ w' = w := by
  have H := hid (insF_0 f w)
  go_enter Tryz.func242, Tryz.ntmps242
  go_wp2_with fail
  refine wp_loop_rounds 1 ?_
  rw [rounds_succ]
  go_wp2_with fail
  refine H.out.mono ?_
  rintro e w1 ⟨rfl, rfl⟩
  go_wp2_with fail
  refine bodyPost_ret (v := .tuple #[]) (by simp [results, Tryz.f242, go_sem]) rfl ?_
  exact ⟨rfl, rfl⟩
set_option maxRecDepth 100000 in
theorem sortF_0 (f : Value) (w : World) : Calls Tryz.prog 210 #[.slice none 0 0, f] w fun e w' => e = .returned (.tuple #[]) ∧ w' = w := by
  have H := hid (len_0 w)
  have H2 := hid (pdqF_0 f w)
  go_enter Tryz.func210, Tryz.ntmps210
  go_wp2_with fail
  refine H.out.mono ?_
  rintro e w1 ⟨rfl, rfl⟩
  go_wp2_with fail
  refine H2.out.mono ?_
  rintro e w1 ⟨rfl, rfl⟩
  go_wp2_with fail
  go_end0
  exact ⟨rfl, rfl⟩
set_option maxRecDepth 100000 in
theorem find0 (s : Int) (w : World) : Calls Tryz.prog 170 #[.slice none 0 0, .int .i64 s] w fun e w' => e = .returned (.slice none 0 0) ∧ Grew w w' := by
  have H := hid (gather0 s w)
  have HS := hid sortF_0
  go_enter Tryz.func170, Tryz.ntmps170
  go_wp2_with fail
  refine H.out.mono ?_
  rintro e w1 ⟨rfl, hw1⟩
  have hb : w1.heap[w.heap.size]? = some (.map #[] 0) := by rw [hw1]; exact heap_alloc_new w _
  have hg : Grew w w1 := by rw [hw1]; exact (Grew.refl w).alloc _
  clear hw1
  go_wp2_with (at_range; refine wpList_range_e rfl _ rfl Tryz.underlying370 w.heap.size 0 rfl hb ?_)
  refine wp_loop_rounds 1 ?_
  rw [rounds_succ]
  have hr : (w1.alloc (.mapIter (some w.heap.size) 0 #[] 0)).heap[w1.heap.size]? = some (.mapIter (some w.heap.size) 0 #[] 0) := heap_alloc_new w1 _
  have hb2 : (w1.alloc (.mapIter (some w.heap.size) 0 #[] 0)).heap[w.heap.size]? = some (.map #[] 0) := ((Grew.refl w1).alloc _).block _ (Array.getElem?_eq_some_iff.1 hb).1 |>.trans hb
  go_wp2_with (at_next; refine wpList_next_e rfl _ rfl w1.heap.size w.heap.size 0 rfl hr hb2 ?_)
  refine (HS.out _ _).mono ?_
  rintro e w2 ⟨rfl, rfl⟩
  go_wp2_with fail
  go_ret
  exact ⟨rfl, hg.trans ((Grew.refl w1).alloc _)⟩
theorem backw_stops (F : Fence) (n : Nat) (hF : F.fn 207) (hro : F.round = none) (Bn : Nat) (w : World) (hB : w.cell? ⟨Bn, 0, none⟩ = some (.slice none 0 0)) :
    SeqStopsK F n Tryz.prog 207 #[.pointer (some ⟨Bn, 0, none⟩)] (fun (_ : Empty) => #[.int .i64 0, .int .i64 0]) (fun _ _ => True) (fun xs => xs = []) (fun _ => False) 0 w := by
  intro l J Jx W hW hJ hJx hY h0
  have hb : W.cell? ⟨Bn, 0, none⟩ = some (.slice none 0 0) := (hW.cell (p := ⟨Bn, 0, none⟩) (cell_lt hB)).trans hB
  refine callsIn_of_wp Tryz.func207 rfl hF ?_ hro
  simp only [Tryz.ntmps207, List.size_toArray, List.length_cons, List.length_nil, Nat.reduceAdd, Nat.reduceSub, Array.replicate_succ, Array.replicate_zero, List.push_toArray, List.append_toArray, List.nil_append, List.cons_append]
  gi_wp2
  gi_loopw [3] (fun i wr => i = .int .i64 (-1) ∧ J [] wr) (fun _ _ => 0)
  case atStart => exact ⟨rfl, h0⟩
  case round =>
    obtain ⟨rfl, hJ0⟩ := hrel
    gi_wp2
    go_end0
    exact ⟨⟨_, rfl⟩, .inl ⟨[], rfl, hJ0⟩⟩
set_option maxRecDepth 100000 in
theorem backw0 (w : World) : Calls Tryz.prog 169 #[.slice none 0 0] w fun e w' => e = .returned (.func (.func 207) #[] #[.pointer (some ⟨w.heap.size, 0, none⟩)]) ∧ w' = w.alloc (.cells #[.slice none 0 0] 311) := by
  go_enter Tryz.func169, Tryz.ntmps169
  go_wp2_with fail
  go_ret
  exact ⟨rfl, rfl⟩
set_option maxRecDepth 100000 in
theorem latest0 (s u : Int) (w : World) : Calls Tryz.prog 131 #[.slice none 0 0, .int .i64 s, .int .i64 u] w fun e w' => e = .returned (.tuple #[.agg #[.int .i64 0, .int .i64 0, .int .i64 0, .int .i64 0, .slice none 0 0], .bool false]) ∧ Grew w w' := by
  have H := hid (find0 s)
  refine (callsIn_wide (n := 5)).1 ?_
  refine callsIn_of_wp_marks Tryz.func131 rfl trivial ?_ rfl
  simp only [Tryz.ntmps131, List.size_toArray, List.length_cons, List.length_nil, Nat.reduceAdd, Nat.reduceSub, Array.replicate_succ, Array.replicate_zero, List.push_toArray, List.append_toArray, List.nil_append, List.cons_append]
  have HB := hid backw0
  have B1 : (((w.alloc (.cells #[.int .i64 u] 3)).alloc (.cells #[.int .i64 0, .int .i64 0, .int .i64 0, .int .i64 0, .slice none 0 0] 265)).alloc (.cells #[.bool false] 4)).heap[w.heap.size + 1]? = some (.cells #[.int .i64 0, .int .i64 0, .int .i64 0, .int .i64 0, .slice none 0 0] 265) := by
    have h := heap_alloc_new (w.alloc (.cells #[.int .i64 u] 3)) (.cells #[.int .i64 0, .int .i64 0, .int .i64 0, .int .i64 0, .slice none 0 0] 265)
    rw [World.size_alloc] at h
    exact (((Grew.refl _).alloc (.cells #[.bool false] 4)).below.block (w.heap.size + 1) (by simp)).trans h
  have B2 : (((w.alloc (.cells #[.int .i64 u] 3)).alloc (.cells #[.int .i64 0, .int .i64 0, .int .i64 0, .int .i64 0, .slice none 0 0] 265)).alloc (.cells #[.bool false] 4)).heap[w.heap.size + 1 + 1]? = some (.cells #[.bool false] 4) := by
    have h := heap_alloc_new ((w.alloc (.cells #[.int .i64 u] 3)).alloc (.cells #[.int .i64 0, .int .i64 0, .int .i64 0, .int .i64 0, .slice none 0 0] 265)) (.cells #[.bool false] 4)
    rw [World.size_alloc, World.size_alloc] at h
    exact h
  have HG0 := hid ((((Grew.refl w).alloc (.cells #[.int .i64 u] 3)).alloc (.cells #[.int .i64 0, .int .i64 0, .int .i64 0, .int .i64 0, .slice none 0 0] 265)).alloc (.cells #[.bool false] 4))
  have HB12 := hid (And.intro B1 B2)
  clear B1 B2
  gi_wp2
  refine ⟨trivial, ?_⟩
  refine (callsIn_wide.2 (H.out _)).mono ?_
  rintro e w1 ⟨rfl, hg1⟩
  gi_wp2
  refine ⟨trivial, ?_⟩
  refine (callsIn_wide.2 (HB.out _)).mono ?_
  rintro e w2 ⟨rfl, hw2⟩
  have hgA := hg1.trans ((Grew.refl w1).alloc (.cells #[.slice none 0 0] 311))
  have hG := HG0.out.trans hgA
  have b1 := (hgA.below.block (w.heap.size + 1) (by simp)).trans HB12.out.1
  have b2 := (hgA.below.block (w.heap.size + 1 + 1) (by simp)).trans HB12.out.2
  have hsz : w.heap.size + 1 + 1 < w1.heap.size := by have := hg1.size; simp at this; omega
  clear HG0 HB12 hg1 hgA
  gi_wp2
  have hbx : (w1.alloc (.cells #[.slice none 0 0] 311)).cell? ⟨w1.heap.size, 0, none⟩ = some (.slice none 0 0) := by simp [go_sem]
  refine wpIn_rangeFunc_ownF rfl (by omega) (gf := 207) (lb := #[.pointer (some ⟨w1.heap.size, 0, none⟩)]) rfl trivial (enters_of Tryz.func207 (by kernel_rfl) rfl)
    (backw_stops Fence.wide 4 trivial rfl w1.heap.size _ hbx) (fun _ _ => trivial) (fun _ _ _ _ _ _ _ _ => trivial) (Below.refl _ _) (fun x => x.elim)
    (fun _ W => (W.heap[w.heap.size + 1]? = some (.cells #[.int .i64 0, .int .i64 0, .int .i64 0, .int .i64 0, .slice none 0 0] 265) ∧ W.heap[w.heap.size + 1 + 1]? = some (.cells #[.bool false] 4)) ∧ Grew w W)
    (fun _ _ _ => False) ?hI (fun _ _ _ _ _ h _ _ => h) ⟨⟨b1, b2⟩, hG⟩ (fun x => x.elim) (fun l x => x.elim) (fun l pre x => x.elim) ?done (fun D c pre W hD h => h.elim)
  case hI =>
    refine OwnFrom.and (Own.from (fun _ A B row hs hg hr => ?_) _) (ownFrom_below (Nat.le_refl _) (by simp; omega))
    have key : ∀ (i : Nat) (o : Obj), A.heap[i]? = some o → o.isCells = true → B.heap[i]? = some o := fun i o h ho => (hg.block i (Array.getElem?_eq_some_iff.1 h).1 (fun e => by
      obtain ⟨o', h1, h2⟩ := hr i e.symm
      rw [h] at h1
      cases h1
      rw [ho] at h2
      cases h2)).trans h
    exact ⟨key _ _ hs.1 rfl, key _ _ hs.2 rfl⟩
  case done =>
    rintro D xs W hD rfl ⟨⟨c1, c2⟩, hGW⟩ hK
    have q0 : W.cell? ⟨w.heap.size + 1, 0, none⟩ = some (.int .i64 0) := by simp [World.cell?, c1]
    have q1 : W.cell? ⟨w.heap.size + 1, 1, none⟩ = some (.int .i64 0) := by simp [World.cell?, c1]
    have q2 : W.cell? ⟨w.heap.size + 1, 2, none⟩ = some (.int .i64 0) := by simp [World.cell?, c1]
    have q3 : W.cell? ⟨w.heap.size + 1, 3, none⟩ = some (.int .i64 0) := by simp [World.cell?, c1]
    have q4 : W.cell? ⟨w.heap.size + 1, 4, none⟩ = some (.slice none 0 0) := by simp [World.cell?, c1]
    have q5 : W.cell? ⟨w.heap.size + 1 + 1, 0, none⟩ = some (.bool false) := by simp [World.cell?, c2]
    have f0 : W.frozen? ⟨w.heap.size + 1, 0, none⟩ = false := by simp [World.frozen?, c1]
    have f1 : W.frozen? ⟨w.heap.size + 1, 1, none⟩ = false := by simp [World.frozen?, c1]
    have f2 : W.frozen? ⟨w.heap.size + 1, 2, none⟩ = false := by simp [World.frozen?, c1]
    have f3 : W.frozen? ⟨w.heap.size + 1, 3, none⟩ = false := by simp [World.frozen?, c1]
    have f4 : W.frozen? ⟨w.heap.size + 1, 4, none⟩ = false := by simp [World.frozen?, c1]
    have f5 : W.frozen? ⟨w.heap.size + 1 + 1, 0, none⟩ = false := by simp [World.frozen?, c2]
    clear c1 c2
    gi_wp2
    obtain ⟨Z, hZ⟩ : ∃ Z, Z = ((((((W.setCell ⟨w.heap.size + 1, 0, none⟩ (.int .i64 0)).setCell ⟨w.heap.size + 1, 1, none⟩ (.int .i64 0)).setCell ⟨w.heap.size + 1, 2, none⟩ (.int .i64 0)).setCell ⟨w.heap.size + 1, 3, none⟩ (.int .i64 0)).setCell ⟨w.heap.size + 1, 4, none⟩ (.slice none 0 0)).setCell ⟨w.heap.size + 1 + 1, 0, none⟩ (.bool false)) := ⟨_, rfl⟩
    have oZ : Only (fun j => j = w.heap.size + 1 ∨ j = w.heap.size + 1 + 1) W Z := by
      rw [hZ]
      have o1 : Only (fun j => j = w.heap.size + 1 ∨ j = w.heap.size + 1 + 1) W (W.setCell ⟨w.heap.size + 1, 0, none⟩ (.int .i64 0)) := (Only.setCell W ⟨w.heap.size + 1, 0, none⟩ _).mono fun _ e => .inl (.inl e)
      exact ((((o1.then ((Only.setCell _ ⟨w.heap.size + 1, 1, none⟩ _).mono fun _ e => .inl (.inl e))).then ((Only.setCell _ ⟨w.heap.size + 1, 2, none⟩ _).mono fun _ e => .inl (.inl e))).then ((Only.setCell _ ⟨w.heap.size + 1, 3, none⟩ _).mono fun _ e => .inl (.inl e))).then ((Only.setCell _ ⟨w.heap.size + 1, 4, none⟩ _).mono fun _ e => .inl (.inl e))).then ((Only.setCell _ ⟨w.heap.size + 1 + 1, 0, none⟩ _).mono fun _ e => .inl (.inr e))
    have z0 : Z.cell? ⟨w.heap.size + 1, 0, none⟩ = some (.int .i64 0) := by rw [hZ]; simp [go_sem, q0, q1, q2, q3, q4, q5]
    have z1 : Z.cell? ⟨w.heap.size + 1, 1, none⟩ = some (.int .i64 0) := by rw [hZ]; simp [go_sem, q0, q1, q2, q3, q4, q5]
    have z2 : Z.cell? ⟨w.heap.size + 1, 2, none⟩ = some (.int .i64 0) := by rw [hZ]; simp [go_sem, q0, q1, q2, q3, q4, q5]
    have z3 : Z.cell? ⟨w.heap.size + 1, 3, none⟩ = some (.int .i64 0) := by rw [hZ]; simp [go_sem, q0, q1, q2, q3, q4, q5]
    have z4 : Z.cell? ⟨w.heap.size + 1, 4, none⟩ = some (.slice none 0 0) := by rw [hZ]; simp [go_sem, q0, q1, q2, q3, q4, q5]
    have z5 : Z.cell? ⟨w.heap.size + 1 + 1, 0, none⟩ = some (.bool false) := by rw [hZ]; simp [go_sem, q0, q1, q2, q3, q4, q5]
    rw [← hZ]
    clear hZ
    have hDW : D < W.heap.size := (Array.getElem?_eq_some_iff.1 hK).1
    have hKZ : Z.heap[D]? = some (.deferred (some [])) := (oZ.block D hDW (by simp at hD; omega)).trans hK
    refine ⟨by simp, .inl ⟨_, _, rfl, run_takeDeferred hKZ, ?_⟩⟩
    have oY : Only (fun j => some j = some D) Z (Z.putObj D (.deferred none)) := Only.of_grownBy (grownBy_putObj' Z D (.deferred none))
    have hDb : w1.heap.size + 1 ≤ D := by simpa using hD
    have hZs := oZ.size
    have n1 : ¬ some (w.heap.size + 1) = some D := by intro e; cases e; omega
    have n2 : ¬ some (w.heap.size + 1 + 1) = some D := by intro e; cases e; omega
    have y0 := (oY.cell (cell_lt z0) n1 0).trans z0
    have y1 := (oY.cell (cell_lt z1) n1 1).trans z1
    have y2 := (oY.cell (cell_lt z2) n1 2).trans z2
    have y3 := (oY.cell (cell_lt z3) n1 3).trans z3
    have y4 := (oY.cell (cell_lt z4) n1 4).trans z4
    have y5 := (oY.cell (cell_lt z5) n2 0).trans z5
    have hGY : Grew w (Z.putObj D (.deferred none)) := (((hGW.only (fun j => (j = w.heap.size + 1 ∨ j = w.heap.size + 1 + 1) ∨ some j = some D)).then (oZ.mono fun _ e => .inl (.inl e))).then (oY.mono fun _ e => .inl (.inr e))).grew fun j hj => by
      have hw1 : w.heap.size + 1 + 1 < w1.heap.size := hsz
      rcases hj with (e | e) | e
      · omega
      · omega
      · cases e; omega
    generalize Z.putObj D (.deferred none) = Y at *
    refine ⟨.tuple #[.agg #[.int .i64 0, .int .i64 0, .int .i64 0, .int .i64 0, .slice none 0 0], .bool false], ?_, rfl, hGY⟩
    simp [results, Tryz.f131, go_sem, y0, y1, y2, y3, y4, y5]
end Go.Proofs.YtlgcdneiebjkcaaGreatDoor
namespace Go.Proofs.YtlgcdneiebjkcaaGreatDoor
open Go.RowKit Go.Maps
attribute [local go_sem] Oper.semAt_some
structure Pr where
  key : ByteArray
  val : ByteArray
  ver : Int
def Pr.none : Pr := ⟨⟨#[]⟩, ⟨#[]⟩, 0⟩
def Pr.vals (c : Pr) : List Value := [.string c.key, .string c.val, .int .i64 c.ver]
def Pr.agg (c : Pr) : Value := .agg #[.string c.key, .string c.val, .int .i64 c.ver]
def prFlat (xs : List Pr) : List Value := xs.flatMap Pr.vals
def prAt (xs : List Pr) (j : Nat) : Pr := xs[j]?.getD Pr.none
theorem prAt_eq (xs : List Pr) (i : Nat) (hi : i < xs.length) : prAt xs i = xs[i] := by unfold prAt; rw [List.getElem?_eq_getElem hi]; rfl
theorem prFlat_get (i : Nat) (hi : i < 3) : ∀ (xs : List Pr) (j : Nat), j < xs.length → (prFlat xs)[j * 3 + i]? = (prAt xs j).vals[i]? := by
  intro xs
  induction xs with
  | nil => intro j hj; simp at hj
  | cons c xs ih =>
    intro j hj
    unfold prFlat at ih ⊢
    rw [List.flatMap_cons]
    cases j with
    | zero => rw [List.getElem?_append_left (by simp [Pr.vals]; omega)]; simp [prAt]
    | succ j =>
      rw [List.getElem?_append_right (by simp [Pr.vals]; omega)]
      have e : (j + 1) * 3 + i - c.vals.length = j * 3 + i := by simp [Pr.vals]; omega
      rw [e, ih j (by simpa using hj)]
      simp [prAt]
structure PairRow (W : World) (b off : Nat) (xs : List Pr) : Prop where
  key : ∀ j, j < xs.length → W.cell? ⟨b, off + j * 3, none⟩ = some (.string (prAt xs j).key)
  val : ∀ j, j < xs.length → W.cell? ⟨b, off + j * 3 + 1, none⟩ = some (.string (prAt xs j).val)
  ver : ∀ j, j < xs.length → W.cell? ⟨b, off + j * 3 + 2, none⟩ = some (.int .i64 (prAt xs j).ver)
theorem PairRow.grew {W W' : World} {b off : Nat} {xs : List Pr} (h : PairRow W b off xs) (g : Grew W W') (hb : b < W.heap.size) : PairRow W' b off xs :=
  ⟨fun j hj => (g.cells.1 _ _ hb).trans (h.key j hj), fun j hj => (g.cells.1 _ _ hb).trans (h.val j hj), fun j hj => (g.cells.1 _ _ hb).trans (h.ver j hj)⟩
def PairsAt (W : World) (a : Option Addr) (xs : List Pr) : Prop := xs = [] ∨ ∃ b off, a = some ⟨b, off, none⟩ ∧ b < W.heap.size ∧ PairRow W b off xs
theorem PairsAt.grew {W W' : World} {a : Option Addr} {xs : List Pr} (h : PairsAt W a xs) (g : Grew W W') : PairsAt W' a xs := by
  rcases h with h | ⟨b, off, e, hb, h⟩
  · exact .inl h
  · exact .inr ⟨b, off, e, Nat.lt_of_lt_of_le hb g.size, h.grew g hb⟩
theorem pairsAt_of {W : World} {B : Nat} {v : Value} {xs : List Pr} (h : W.ownsRow B 41 3 v xs.length (prFlat xs)) : ∃ a cap, v = .slice a xs.length cap ∧ PairsAt W a xs := by
  rcases Nat.eq_zero_or_pos xs.length with h0 | h0
  · have hx : xs = [] := List.eq_nil_of_length_eq_zero h0
    rcases h.2 with ⟨rfl, _⟩ | ⟨g, cap, cur, rfl, _, hg, _⟩
    · exact ⟨none, 0, by rw [h0], .inl hx⟩
    · exact ⟨_, _, rfl, .inl hx⟩
  · obtain ⟨g, cap, rfl, _, hlt⟩ := h.form h0
    refine ⟨_, _, rfl, .inr ⟨g, 0, rfl, hlt, ?_, ?_, ?_⟩⟩ <;> intro j hj
    · have := h.cellAt (j * 3 + 0) (by omega); rw [prFlat_get 0 (by omega) xs j hj] at this; rw [Nat.zero_add]; exact this
    · have := h.cellAt (j * 3 + 1) (by omega); rw [prFlat_get 1 (by omega) xs j hj] at this; rw [Nat.zero_add]; exact this
    · have := h.cellAt (j * 3 + 2) (by omega); rw [prFlat_get 2 (by omega) xs j hj] at this; rw [Nat.zero_add]; exact this
theorem PairRow.drop {W : World} {b off : Nat} {xs : List Pr} (h : PairRow W b off xs) (i : Nat) : PairRow W b (off + i * 3) (xs.drop i) := by
  have e : ∀ j, prAt (xs.drop i) j = prAt xs (i + j) := fun j => by unfold prAt; rw [List.getElem?_drop]
  refine ⟨fun j hj => ?_, fun j hj => ?_, fun j hj => ?_⟩ <;> (rw [List.length_drop] at hj; rw [e])
  · have := h.key (i + j) (by omega); rwa [show off + (i + j) * 3 = off + i * 3 + j * 3 by omega] at this
  · have := h.val (i + j) (by omega); rwa [show off + (i + j) * 3 = off + i * 3 + j * 3 by omega] at this
  · have := h.ver (i + j) (by omega); rwa [show off + (i + j) * 3 = off + i * 3 + j * 3 by omega] at this
theorem PairRow.take {W : World} {b off : Nat} {xs : List Pr} (h : PairRow W b off xs) (i : Nat) : PairRow W b off (xs.take i) := by
  have e : ∀ j, j < (xs.take i).length → prAt (xs.take i) j = prAt xs j := fun j hj => by unfold prAt; rw [List.length_take] at hj; rw [List.getElem?_take, if_pos (by omega)]
  refine ⟨fun j hj => ?_, fun j hj => ?_, fun j hj => ?_⟩ <;> (rw [e j hj]; rw [List.length_take] at hj)
  · exact h.key j (by omega)
  · exact h.val j (by omega)
  · exact h.ver j (by omega)
end Go.Proofs.YtlgcdneiebjkcaaGreatDoor
