/- Dd1, Dd2, Dd3: one text. -/
import Derived.Test.YtbdagllflamabaaGreatDoorFinWatchReplaysQ3
import Derived.Test.YtbdagllflamabaaGreatDoorFinWatchReplaysQ4
import Derived.Test.YtbdagllflamabaaGreatDoorFinWatchReplaysQ2
import Derived.Test.YtbdagllflamabaaGreatDoorFinWatchReplaysQ17
import Derived.Maps.Keyed
import Derived.Laws.Externs
import Derived.Shelf.SlIterI.Nil
import Derived.Shelf.SortM.Plain
import Derived.Shelf.SortM.SortNone
import Derived.Lib.SlKeysI
import Derived.Maps.GroupsBeside
set_option linter.unusedVariables false
set_option linter.unusedSectionVars false
set_option linter.unusedSimpArgs false
namespace Go.Proofs.YtbdagllflamabaaGreatDoor
open Go.RowKit Go.Maps
attribute [local go_sem] Oper.semAt_some
structure An where
  seq : Int
  code : Int
  at_ : Int
def An.agg (a : An) : Value := .agg #[.int .i64 a.seq, .int .i64 a.code, .int .i64 a.at_]
def ansAgg (code at_ : Int) : Value := .agg #[.int .i64 code, .int .i64 at_]
def clit (c : Int) : Lit := .int .i64 c
theorem clit_wf {c : Int} (h1 : -9223372036854775808 ≤ c) (h2 : c < 9223372036854775808) : (Lit.int .i64 c).wf = true := by
  simp [Lit.wf, IntKind.min, IntKind.max, IntKind.bits, IntKind.signed]; try omega
theorem cl_keyed : Keyed Tryz.prog 3 := int_keyed Tryz.underlying3
theorem zero_last (w : World) : (zeroValue 242).run Tryz.prog w = .ok (.agg #[.int .i64 0, .int .i64 0, .int .i64 0]) w := by kernel_rfl
structure An.Ok (a : An) : Prop where
  s1 : 1 ≤ a.seq
  s2 : a.seq ≤ 1073741824
  c1 : a.code = 1 ∨ a.code = 2
  a1 : 0 ≤ a.at_
  a2 : a.at_ < 4096
structure SeenIs (w : World) (F : Nat → Prop) (sb mb n : Nat) (f : Lit → Option Value) (S : Int → Option An) : Prop where
  c0 : w.cell? ⟨sb, 0, none⟩ = some (.map (some mb))
  lm : LMap w Tryz.prog 3 mb n f
  val : ∀ c, f (clit c) = (S c).map An.agg
  lit : ∀ l, f l ≠ none → ∃ c, l = clit c
  ok : ∀ c a, S c = some a → 1 ≤ c ∧ c ≤ 4 ∧ a.Ok
  foot0 : F sb
  foot1 : F mb
  ne : sb ≠ mb
  lt : ∀ j, F j → j < w.heap.size
def SeenAt (w : World) (F : Nat → Prop) (sb n : Nat) (S : Int → Option An) : Prop := ∃ mb f, SeenIs w F sb mb n f S
section
variable {w w' : World} {F T : Nat → Prop} {sb mb n : Nat} {f : Lit → Option Value} {S : Int → Option An}
theorem SeenIs.kept (h : SeenIs w F sb mb n f S) (g : Only T w w') (hT : ∀ j, F j → ¬ T j) : SeenIs w' F sb mb n f S where
  c0 := (g.cell (cell_lt h.c0) (hT _ h.foot0) 0).trans h.c0
  lm := h.lm.kept g (hT _ h.foot1)
  val := h.val
  lit := h.lit
  ok := h.ok
  foot0 := h.foot0
  foot1 := h.foot1
  ne := h.ne
  lt := fun j hj => Nat.lt_of_lt_of_le (h.lt j hj) g.size
theorem SeenAt.kept (h : SeenAt w F sb n S) (g : Only T w w') (hT : ∀ j, F j → ¬ T j) : SeenAt w' F sb n S := by
  obtain ⟨mb, f, h⟩ := h
  exact ⟨mb, f, h.kept g hT⟩
theorem SeenAt.grew (h : SeenAt w F sb n S) (g : Grew w w') : SeenAt w' F sb n S := h.kept (g.only fun _ => False) (fun _ _ h => h)
theorem SeenAt.lt (h : SeenAt w F sb n S) : ∀ j, F j → j < w.heap.size := by obtain ⟨mb, f, h⟩ := h; exact h.lt
theorem SeenAt.ok (h : SeenAt w F sb n S) : ∀ c a, S c = some a → 1 ≤ c ∧ c ≤ 4 ∧ a.Ok := by obtain ⟨mb, f, h⟩ := h; exact h.ok
theorem SeenIs.look (h : SeenIs w F sb mb n f S) (g : Grew w w') (c : Int) (h1 : -9223372036854775808 ≤ c) (h2 : c < 9223372036854775808) : (Instr.lookup 213 (.map (some mb)) (.int .i64 c) true).run Tryz.prog w' = .ok (.tuple #[((S c).map An.agg).getD (.agg #[.int .i64 0, .int .i64 0, .int .i64 0]), .bool (S c).isSome]) w' := by
  have := (h.lm.grew g).lookup_ok cl_keyed Tryz.underlying213 (zero_last w') (keyOf_int_mk Tryz.underlying3 (clit_wf h1 h2))
  rw [show (Lit.int .i64 c) = clit c from rfl, h.val] at this
  rw [this]
  cases S c <;> rfl
end
def SeenTurn (w : World) (F : Nat → Prop) (sb n : Nat) (S : Int → Option An) (w' : World) : Prop := Only F w w' ∧ SeenAt w' F sb n S
set_option maxRecDepth 100000 in
theorem newD_any (w : World) : Calls Tryz.prog 80 #[] w fun e w' => ∃ sb F, e = .returned (.pointer (some ⟨sb, 0, none⟩)) ∧ SeenAt w' F sb 0 (fun _ => none) ∧ (∀ j, F j → w.heap.size ≤ j) ∧ Grew w w' := by
  have hM := LMap.made w Tryz.prog 3
  have g1 : Grew w (w.alloc (.map #[] 0)) := (Grew.refl w).alloc _
  have HF : Hid (∃ F, SeenAt ((w.alloc (.map #[] 0)).alloc (.cells #[.map (some w.heap.size)] 215)) F (w.heap.size + 1) 0 (fun _ => none) ∧ (∀ j, F j → w.heap.size ≤ j) ∧ Grew w ((w.alloc (.map #[] 0)).alloc (.cells #[.map (some w.heap.size)] 215))) := by
    refine ⟨fun j => j = w.heap.size ∨ j = w.heap.size + 1, ⟨w.heap.size, _, ⟨by simp [go_sem], hM.grew ((Grew.refl _).alloc _), fun c => rfl, (fun l h => absurd rfl h), (fun c a h => by cases h), .inr rfl, .inl rfl, by omega, fun j hj => ?_⟩⟩, fun j hj => ?_, g1.alloc _⟩
    · simp; rcases hj with hj | hj <;> omega
    · rcases hj with hj | hj <;> omega
  clear hM g1
  have hmm := @run_makeMap Tryz.prog
  go_enter Tryz.func80, Tryz.ntmps80
  go_wp2_with fail
  go_ret
  obtain ⟨F, h1, h2, h3⟩ := HF.out
  exact ⟨_, F, rfl, h1, h2, h3⟩
def askN (o : Option An) (seq : Int) : Int := match o with | none => 1 | some a => if a.seq < seq then 1 else if seq = a.seq then 2 else 3
def askA (o : Option An) (seq : Int) : Int × Int := match o with | none => (0, 0) | some a => if a.seq < seq then (0, 0) else if seq = a.seq then (a.code, a.at_) else (0, 0)
set_option maxRecDepth 100000 in
set_option maxHeartbeats 2000000 in
theorem ask_any {w : World} {F : Nat → Prop} {sb n : Nat} {S : Int → Option An} (h : SeenAt w F sb n S) (c seq : Int) (h1 : -9223372036854775808 ≤ c) (h2 : c < 9223372036854775808) :
    Calls Tryz.prog 137 #[.pointer (some ⟨sb, 0, none⟩), .int .i64 c, .int .i64 seq] w fun e w' => e = .returned (.tuple #[ansAgg (askA (S c) seq).1 (askA (S c) seq).2, .int .i64 (askN (S c) seq)]) ∧ Grew w w' := by
  obtain ⟨mb, f, h⟩ := h
  have c0 := h.c0
  have hsb : sb < w.heap.size := cell_lt c0
  have hlk := h.look ((Grew.refl w).alloc (.cells #[.int .i64 0, .int .i64 0] 91)) c h1 h2
  clear h
  have g2 : Grew w ((w.alloc (.cells #[.int .i64 0, .int .i64 0] 91)).alloc (.cells #[.int .i64 0, .int .i64 0, .int .i64 0] 242)) := ((Grew.refl w).alloc _).alloc _
  have HG2 := hid g2
  have HG3 := hid (fun (x y z : Int) => show Grew w ((w.alloc (.cells #[.int .i64 0, .int .i64 0] 91)).alloc (.cells #[.int .i64 x, .int .i64 y, .int .i64 z] 242)) from ((Grew.refl w).alloc _).alloc _)
  have HG4 := hid (fun (u v x y z : Int) => show Grew w ((w.alloc (.cells #[.int .i64 u, .int .i64 v] 91)).alloc (.cells #[.int .i64 x, .int .i64 y, .int .i64 z] 242)) from ((Grew.refl w).alloc _).alloc _)
  clear g2
  cases hS : S c with
  | none =>
    rw [hS] at hlk
    clear hS
    go_enter Tryz.func137, Tryz.ntmps137
    go_wp2_with fail
    exact bodyPost_ret (v := .tuple #[.agg #[.int .i64 0, .int .i64 0], .int .i64 1]) (by simp [results, Tryz.results137, go_sem]) rfl ⟨rfl, HG2.out⟩
  | some a =>
    rw [hS] at hlk
    clear hS
    obtain ⟨q, k, t⟩ := a
    have HN : Hid (askN (some ⟨q, k, t⟩) seq = if q < seq then 1 else if seq = q then 2 else 3) := rfl
    have HA : Hid (askA (some ⟨q, k, t⟩) seq = if q < seq then (0, 0) else if seq = q then (k, t) else (0, 0)) := rfl
    by_cases h1 : q < seq
    · unfold An.agg at hlk
      dsimp only [Option.map_some, Option.getD_some, Option.isSome_some] at hlk
      have e1 : askN (some ⟨q, k, t⟩) seq = 1 := by rw [HN.out, if_pos h1]
      have e2 : askA (some ⟨q, k, t⟩) seq = (0, 0) := by rw [HA.out, if_pos h1]
      rw [e1, e2]
      clear e1 e2
      go_enter Tryz.func137, Tryz.ntmps137
      go_wp2_with fail
      exact bodyPost_ret (v := .tuple #[.agg #[.int .i64 0, .int .i64 0], .int .i64 1]) (by simp [results, Tryz.results137, go_sem]) rfl ⟨rfl, HG3.out _ _ _⟩
    · by_cases h2 : seq = q
      · unfold An.agg at hlk
        dsimp only [Option.map_some, Option.getD_some, Option.isSome_some] at hlk
        have e1 : askN (some ⟨q, k, t⟩) seq = 2 := by rw [HN.out, if_neg h1, if_pos h2]
        have e2 : askA (some ⟨q, k, t⟩) seq = (k, t) := by rw [HA.out, if_neg h1, if_pos h2]
        rw [e1, e2]
        subst h2
        clear e1 e2
        go_enter Tryz.func137, Tryz.ntmps137
        go_wp2_with fail
        refine bodyPost_ret (v := .tuple #[.agg #[.int .i64 k, .int .i64 t], .int .i64 2]) (by simp [results, Tryz.results137, go_sem]) rfl ⟨rfl, HG4.out _ _ _ _ _⟩
      · unfold An.agg at hlk
        dsimp only [Option.map_some, Option.getD_some, Option.isSome_some] at hlk
        have e1 : askN (some ⟨q, k, t⟩) seq = 3 := by rw [HN.out, if_neg h1, if_neg h2]
        have e2 : askA (some ⟨q, k, t⟩) seq = (0, 0) := by rw [HA.out, if_neg h1, if_neg h2]
        rw [e1, e2]
        clear e1 e2
        go_enter Tryz.func137, Tryz.ntmps137
        go_wp2_with fail
        exact bodyPost_ret (v := .tuple #[.agg #[.int .i64 0, .int .i64 0], .int .i64 3]) (by simp [results, Tryz.results137, go_sem]) rfl ⟨rfl, HG3.out _ _ _⟩
set_option maxRecDepth 100000 in
set_option maxHeartbeats 2000000 in
theorem rightD_any (w : World) (c : Int) (a : An) (h1 : 1 ≤ c) (h2 : c ≤ 4) (h3 : a.Ok) : Calls Tryz.prog 171 #[.int .i64 c, .int .i64 a.seq, ansAgg a.code a.at_] w fun e w' => e = .returned (.bool true) ∧ Grew w w' := by
  obtain ⟨q, k, t⟩ := a
  obtain ⟨s1, s2, c1, a1, a2⟩ := h3
  dsimp only at *
  unfold ansAgg
  have HG := hid ((Grew.refl w).alloc (.cells #[.int .i64 k, .int .i64 t] 91))
  rcases c1 with rfl | rfl
  · go_enter Tryz.func171, Tryz.ntmps171
    go_wp2_with fail
    go_ret
    exact ⟨rfl, HG.out⟩
  · go_enter Tryz.func171, Tryz.ntmps171
    go_wp2_with fail
    go_ret
    exact ⟨rfl, HG.out⟩
def noteS (S : Int → Option An) (c : Int) (a : An) (d : Int) : Option An := if d = c then some a else S d
set_option maxRecDepth 100000 in
theorem SeenIs.note {w w' : World} {F : Nat → Prop} {sb mb n : Nat} {f : Lit → Option Value} {S : Int → Option An} (h : SeenIs w F sb mb n f S) (c : Int) (a : An) (h1 : 1 ≤ c) (h2 : c ≤ 4) (h3 : a.Ok) (hn : n ≤ 1000000) (g : Grew w w') :
    ∃ w2, (Instr.mapUpdate 213 (.map (some mb)) (.int .i64 c) a.agg).run Tryz.prog w' = .ok () w2 ∧ SeenTurn w F sb (n + 1) (noteS S c a) w2 := by
  have hg := h.kept (g.only fun _ => False) (fun _ _ h => h)
  obtain ⟨w2, hrun, r1, r2⟩ := hg.lm.store (val := a.agg) cl_keyed Tryz.underlying213 (by unfold maxLen; omega) (keyOf_int_mk Tryz.underlying3 (clit_wf (c := c) (by omega) (by omega)))
  have hO : Only (fun j => j = mb) w' w2 := Only.of_turned r2
  refine ⟨w2, hrun, (g.only F).then (hO.mono fun j hj => .inl (by rw [hj]; exact h.foot1)), mb, _, ⟨(hO.cell (cell_lt hg.c0) (fun e => h.ne e) 0).trans hg.c0, r1, fun d => ?_, fun l hl => ?_, fun d b hb => ?_, h.foot0, h.foot1, h.ne, fun j hj => Nat.lt_of_lt_of_le (h.lt j hj) (Nat.le_trans g.size hO.size)⟩⟩
  · unfold lset noteS clit
    by_cases hd : d = c
    · subst hd; simp
    · rw [if_neg hd, if_neg (fun e => hd (by injection e)), ← h.val]; rfl
  · unfold lset at hl
    by_cases hd : l = .int .i64 c
    · exact ⟨c, hd⟩
    · rw [if_neg hd] at hl; exact h.lit l hl
  · unfold noteS at hb
    by_cases hd : d = c
    · rw [if_pos hd] at hb; cases hb; subst hd; exact ⟨h1, h2, h3⟩
    · rw [if_neg hd] at hb; exact h.ok d b hb
set_option maxRecDepth 100000 in
set_option maxHeartbeats 2000000 in
theorem note_fresh {w : World} {F : Nat → Prop} {sb n : Nat} {S : Int → Option An} (h : SeenAt w F sb n S) (c : Int) (a : An) (h1 : 1 ≤ c) (h2 : c ≤ 4) (h3 : a.Ok) (hn : n ≤ 1000000) (hf : askN (S c) a.seq = 1) :
    Calls Tryz.prog 139 #[.pointer (some ⟨sb, 0, none⟩), .int .i64 c, .int .i64 a.seq, ansAgg a.code a.at_] w fun e w' => e = .returned .nilIface ∧ SeenTurn w F sb (n + 1) (noteS S c a) w' := by
  have HR := hid (fun W => rightD_any W c a h1 h2 h3)
  have HA := hid (fun W (g : Grew w W) => ask_any (h.grew g) c a.seq (by omega) (by omega))
  obtain ⟨mb, f, h⟩ := h
  have c0 := h.c0
  have hsb : sb < w.heap.size := cell_lt c0
  have HST := hid (fun W (g : Grew w W) => h.note c a h1 h2 h3 hn g)
  rw [hf] at HA
  clear h hf
  obtain ⟨q, k, t⟩ := a
  unfold ansAgg An.agg at *
  dsimp only at *
  generalize askA (S c) q = aa at *
  go_enter Tryz.func139, Tryz.ntmps139
  go_wp2_with fail
  refine (HR.out _).mono ?_
  rintro e w1 ⟨rfl, hg1⟩
  have hG1 := ((Grew.refl w).alloc (.cells #[.int .i64 k, .int .i64 t] 91)).trans hg1
  have hz : w.heap.size < w1.heap.size := Nat.lt_of_lt_of_le (by simp) hg1.size
  have d0 : w1.cell? ⟨w.heap.size, 0, none⟩ = some (.int .i64 k) := (hg1.cells.1 _ _ (by simp)).trans (by simp [go_sem])
  have d1 : w1.cell? ⟨w.heap.size, 1, none⟩ = some (.int .i64 t) := (hg1.cells.1 _ _ (by simp)).trans (by simp [go_sem])
  have HG1 := hid hG1
  have HD := hid (And.intro hz (And.intro d0 d1))
  clear hg1 hG1 hz d0 d1
  go_wp2_with fail
  refine (HA.out _ HG1.out).mono ?_
  rintro e w2 ⟨rfl, hg2⟩
  obtain ⟨hz, d0, d1⟩ := HD.out
  have hG2 := HG1.out.trans hg2
  have e0 := (hg2.cells.1 _ 0 hz).trans d0
  have e1 := (hg2.cells.1 _ 1 hz).trans d1
  have hz2 := Nat.lt_of_lt_of_le hz hg2.size
  have HG2 := hid hG2
  have HE := hid (And.intro hz2 (And.intro e0 e1))
  clear hg2 hG2 hz d0 d1 e0 e1 hz2
  go_wp2_with fail
  obtain ⟨Y, hY⟩ : ∃ Y, Y = w2.alloc (.cells #[.int .i64 aa.1, .int .i64 aa.2] 91) := ⟨_, rfl⟩
  have hgY : Grew w2 Y := by rw [hY]; exact (Grew.refl w2).alloc _
  have HGY := hid (HG2.out.trans hgY)
  have C0 := wd_cell ((HGY.out.cells.1 _ 0 hsb).trans c0)
  obtain ⟨hz2, e0, e1⟩ := HE.out
  have D0 := wd_cell ((hgY.cells.1 _ 0 hz2).trans e0)
  have D1 := wd_cell ((hgY.cells.1 _ 1 hz2).trans e1)
  rw [← hY]
  clear hY hgY hz2 e0 e1 c0
  refine wp_region_still 8 (by kernel_rfl) (by kernel_rfl) (fun _ _ => rfl) ?_
  repeat (first
    | (refine mixS_plain (by rfl) (by rfl) (by rfl) (by first | exact Grew.refl | exact fun _ => rfl) (by rfl) ?_; intro K hK; go_big_quiet_op; go_big_quiet_on)
    | (refine mixS_skip (by rfl) (by rfl) (by rfl) ?_; simp only [Act.put, List.setIfInBounds_toArray, List.set_cons_zero, List.set_cons_succ]))
  refine mixS_done (by rfl) ?_
  intro x hG
  obtain ⟨w3, hrun, hT⟩ := HST.out x (HGY.out.trans hG)
  have HRUN := hid hrun
  have HT := hid hT
  clear hrun hT C0 D0 D1 hG
  dsimp only [List.drop]
  go_wp2_with (at_mapUpdate; refine wpList_update_run rfl _ _ _ rfl rfl rfl rfl HRUN.out ?_)
  go_wp2_with fail
  go_ret
  exact ⟨rfl, HT.out⟩
end Go.Proofs.YtbdagllflamabaaGreatDoor
namespace Go.Proofs.YtbdagllflamabaaGreatDoor
open Go.RowKit Go.Maps
attribute [local go_sem] Oper.semAt_some
theorem run_clone_map {w : World} {mb : Nat} {es : Array MapEntry} {clock : Nat} (h : w.heap[mb]? = some (.map es clock)) : (callFunc 91 #[.iface 213 (.map (some mb))]).run Tryz.prog w = .ok (.value (.iface 213 (.map (some w.heap.size)))) (w.alloc (.map es clock)) := by
  rw [run_callFunc_extern (P := Tryz.prog) (e := Extern.MapsClone.clone) Tryz.func91 (by kernel_rfl) (by kernel_rfl) (by kernel_rfl) (by kernel_rfl)]
  have h2 : (Extern.MapsClone.clone #[.iface 213 (.map (some mb))]).run Tryz.prog w = .ok (.iface 213 (.map (some w.heap.size))) (w.alloc (.map es clock)) := by
    have e : Extern.MapsClone.clone #[.iface 213 (.map (some mb))] = (getObj mb >>= fun o => match o with
      | .map es c => newObj (.map es c) >>= fun r => pure (.iface 213 (.map (some r)))
      | _ => stuck "maps.clone: a map expected") := rfl
    rw [e]
    rw [Sem.run_bind, Go.run_getObj_map w mb es clock h]
    rfl
  rw [h2]
  rfl
theorem LMap.again {w : World} {P : Program} {k : TypeId} {mb n : Nat} {f : Lit → Option Value} (h : LMap w P k mb n f) : ∃ es clock, w.heap[mb]? = some (.map es clock) ∧ LMap (w.alloc (.map es clock)) P k w.heap.size n f := by
  obtain ⟨D, ⟨es, clock, hb, hF, hn, hD⟩, hl⟩ := h
  exact ⟨es, clock, hb, D, ⟨es, clock, heap_alloc_new w _, hF, hn, hD⟩, hl⟩
set_option maxRecDepth 100000 in
set_option maxHeartbeats 2000000 in
theorem cloneM_any {w : World} {mb n : Nat} {f : Lit → Option Value} (h : LMap w Tryz.prog 3 mb n f) :
    Calls Tryz.prog 149 #[.map (some mb)] w fun e w' => e = .returned (.map (some w.heap.size)) ∧ LMap w' Tryz.prog 3 w.heap.size n f ∧ Grew w w' ∧ w.heap.size < w'.heap.size := by
  obtain ⟨es, clock, hb, hL⟩ := h.again
  have hcl := run_clone_map hb
  have heq : (binOp .eql 213 (.map (some mb)) (.map none)).run Tryz.prog w = .ok (.bool false) w := by kernel_rfl
  have hta : ∀ (x : Nat) (W : World), (Instr.typeAssert (.iface 213 (.map (some x))) 20 213 false).run Tryz.prog W = .ok (.map (some x)) W := fun x W => by kernel_rfl
  have hF := hid (And.intro hL (And.intro ((Grew.refl w).alloc (.map es clock)) (show w.heap.size < (w.alloc (.map es clock)).heap.size by simp)))
  clear hL h
  go_enter Tryz.func149, Tryz.ntmps149
  go_wp2_with fail
  go_ret
  exact ⟨rfl, hF.out⟩
set_option maxRecDepth 100000 in
set_option maxHeartbeats 2000000 in
theorem copyD_any {w : World} {F : Nat → Prop} {sb n : Nat} {S : Int → Option An} (h : SeenAt w F sb n S) :
    Calls Tryz.prog 93 #[.pointer (some ⟨sb, 0, none⟩)] w fun e w' => ∃ cb G, e = .returned (.pointer (some ⟨cb, 0, none⟩)) ∧ SeenAt w' G cb n S ∧ (∀ j, G j → w.heap.size ≤ j) ∧ Grew w w' := by
  obtain ⟨mb, f, h⟩ := h
  have c0 := h.c0
  have hsb : sb < w.heap.size := cell_lt c0
  have HC := hid (cloneM_any h.lm)
  have HV := hid (And.intro h.val (And.intro h.lit h.ok))
  clear h
  go_enter Tryz.func93, Tryz.ntmps93
  go_wp2_with fail
  refine HC.out.mono ?_
  rintro e w1 ⟨rfl, hL, hg, hz⟩
  have HF : Hid (∃ G, SeenAt (w1.alloc (.cells #[.map (some w.heap.size)] 215)) G w1.heap.size n S ∧ (∀ j, G j → w.heap.size ≤ j) ∧ Grew w (w1.alloc (.cells #[.map (some w.heap.size)] 215))) := by
    refine ⟨fun j => j = w.heap.size ∨ j = w1.heap.size, ⟨w.heap.size, f, ⟨by simp [go_sem], hL.grew ((Grew.refl _).alloc _), HV.out.1, HV.out.2.1, HV.out.2.2, .inr rfl, .inl rfl, by omega, fun j hj => ?_⟩⟩, fun j hj => ?_, hg.alloc _⟩
    · simp; rcases hj with hj | hj <;> omega
    · have := hg.size; rcases hj with hj | hj <;> omega
  clear hL hg hz
  go_wp2_with fail
  go_ret
  obtain ⟨G, h1, h2, h3⟩ := HF.out
  exact ⟨_, G, rfl, h1, h2, h3⟩
end Go.Proofs.YtbdagllflamabaaGreatDoor
namespace Go.Proofs.YtbdagllflamabaaGreatDoor
open Go.Shelf
def Tryz.keysCl_ren : Go.Shelf.Ren := ⟨fun | 7 => 194 | 10 => 206 | n => n, fun | 23 => 213 | 26 => 3 | 3 => 242 | 28 => 307 | 0 => 0 | 27 => 306 | 33 => 320 | 4 => 4 | n => n, fun | n => n⟩
theorem Tryz.keysCl : Go.Proofs.SlLaysZI.n7 Tryz.prog Tryz.keysCl_ren := {
  mixed := by kernel_rfl
  f7 := ⟨Tryz.f194.name, by decide, Tryz.func194.trans (congrArg some (by kernel_rfl))⟩
  f10 := ⟨Tryz.f206.name, by decide, Tryz.func206.trans (congrArg some (by kernel_rfl))⟩
  t0 := Tryz.underlying0
  a0 := Tryz.isAgg0
  z0 := Tryz.sizeOf0
  v0 := Tryz.zeroValue0
  t4 := Tryz.underlying4
  a4 := Tryz.isAgg4
  z4 := Tryz.sizeOf4
  v4 := Tryz.zeroValue4
  t23 := Tryz.underlying213
  a23 := Tryz.isAgg213
  z23 := Tryz.sizeOf213
  v23 := Tryz.zeroValue213
  t26 := Tryz.underlying3
  a26 := Tryz.isAgg3
  z26 := Tryz.sizeOf3
  v26 := Tryz.zeroValue3
  t27 := Tryz.underlying306
  a27 := Tryz.isAgg306
  z27 := Tryz.sizeOf306
  v27 := Tryz.zeroValue306
  t28 := Tryz.underlying307
  a28 := Tryz.isAgg307
  z28 := Tryz.sizeOf307
  v28 := Tryz.zeroValue307
  t33 := Tryz.underlying320
  a33 := Tryz.isAgg320
  z33 := Tryz.sizeOf320
  v33 := Tryz.zeroValue320 }
def Tryz.sortedCl_ren : Go.Shelf.Ren := ⟨fun | 6 => 193 | 8 => 204 | 9 => 205 | 11 => 217 | 13 => 154 | 12 => 218 | 23 => 187 | 24 => 188 | 14 => 222 | 15 => 223 | 16 => 224 | 17 => 225 | 18 => 226 | 19 => 227 | 20 => 228 | 21 => 229 | 22 => 230 | 25 => 232 | 26 => 199 | 27 => 200 | 28 => 233 | 29 => 234 | 30 => 235 | 31 => 236 | n => n, fun | 26 => 3 | 28 => 307 | 24 => 204 | 0 => 0 | 3 => 3 | 37 => 250 | 48 => 300 | 50 => 302 | 4 => 4 | 40 => 294 | 39 => 293 | 45 => 170 | 5 => 5 | 9 => 9 | 51 => 312 | 55 => 316 | 57 => 327 | 58 => 328 | 33 => 320 | n => n, fun | n => n⟩
theorem Tryz.sortedCl : Go.Proofs.SlLaysZI.n6 Tryz.prog Tryz.sortedCl_ren := {
  mixed := by kernel_rfl
  f6 := ⟨Tryz.f193.name, by decide, Tryz.func193.trans (congrArg some (by kernel_rfl))⟩
  f8 := ⟨Tryz.f204.name, by decide, Tryz.func204.trans (congrArg some (by kernel_rfl))⟩
  f11 := ⟨Tryz.f217.name, by decide, Tryz.func217.trans (congrArg some (by kernel_rfl))⟩
  t0 := Tryz.underlying0
  a0 := Tryz.isAgg0
  z0 := Tryz.sizeOf0
  v0 := Tryz.zeroValue0
  t24 := Tryz.underlying204
  a24 := Tryz.isAgg204
  z24 := Tryz.sizeOf204
  v24 := Tryz.zeroValue204
  t26 := Tryz.underlying3
  a26 := Tryz.isAgg3
  z26 := Tryz.sizeOf3
  v26 := Tryz.zeroValue3
  t28 := Tryz.underlying307
  a28 := Tryz.isAgg307
  z28 := Tryz.sizeOf307
  v28 := Tryz.zeroValue307
  i26 := by kernel_rfl }
def Tryz.sortCl_ren : Go.Shelf.Ren := ⟨fun | 5 => 205 | 8 => 154 | 7 => 218 | 19 => 187 | 20 => 188 | 10 => 222 | 11 => 223 | 12 => 224 | 13 => 225 | 14 => 226 | 15 => 227 | 16 => 228 | 17 => 229 | 18 => 230 | 30 => 232 | 31 => 199 | 32 => 200 | 33 => 233 | 34 => 234 | 35 => 235 | 40 => 236 | n => n, fun | 23 => 204 | 25 => 3 | 3 => 3 | 32 => 250 | 22 => 204 | 0 => 0 | 44 => 300 | 46 => 302 | 4 => 4 | 36 => 294 | 35 => 293 | 41 => 170 | 5 => 5 | 9 => 9 | 53 => 312 | 57 => 316 | 63 => 327 | 64 => 328 | n => n, fun | n => n⟩
theorem Tryz.sortCl : Go.Proofs.SlLaysM.n5 Tryz.prog Tryz.sortCl_ren := {
  mixed := by kernel_rfl
  f5 := ⟨Tryz.f205.name, by decide, Tryz.func205.trans (congrArg some (by kernel_rfl))⟩
  f7 := ⟨Tryz.f218.name, by decide, Tryz.func218.trans (congrArg some (by kernel_rfl))⟩
  f8 := Tryz.func154.trans (congrArg some (by kernel_rfl))
  f10 := ⟨Tryz.f222.name, by decide, Tryz.func222.trans (congrArg some (by kernel_rfl))⟩
  f11 := ⟨Tryz.f223.name, by decide, Tryz.func223.trans (congrArg some (by kernel_rfl))⟩
  f12 := ⟨Tryz.f224.name, by decide, Tryz.func224.trans (congrArg some (by kernel_rfl))⟩
  f13 := ⟨Tryz.f225.name, by decide, Tryz.func225.trans (congrArg some (by kernel_rfl))⟩
  f14 := ⟨Tryz.f226.name, by decide, Tryz.func226.trans (congrArg some (by kernel_rfl))⟩
  f15 := ⟨Tryz.f227.name, by decide, Tryz.func227.trans (congrArg some (by kernel_rfl))⟩
  f16 := ⟨Tryz.f228.name, by decide, Tryz.func228.trans (congrArg some (by kernel_rfl))⟩
  f17 := ⟨Tryz.f229.name, by decide, Tryz.func229.trans (congrArg some (by kernel_rfl))⟩
  f18 := ⟨Tryz.f230.name, by decide, Tryz.func230.trans (congrArg some (by kernel_rfl))⟩
  f19 := Tryz.func187.trans (congrArg some (by kernel_rfl))
  f20 := Tryz.func188.trans (congrArg some (by kernel_rfl))
  f30 := ⟨Tryz.f232.name, by decide, Tryz.func232.trans (congrArg some (by kernel_rfl))⟩
  f31 := Tryz.func199.trans (congrArg some (by kernel_rfl))
  f32 := Tryz.func200.trans (congrArg some (by kernel_rfl))
  f33 := ⟨Tryz.f233.name, by decide, Tryz.func233.trans (congrArg some (by kernel_rfl))⟩
  f34 := ⟨Tryz.f234.name, by decide, Tryz.func234.trans (congrArg some (by kernel_rfl))⟩
  f35 := ⟨Tryz.f235.name, by decide, Tryz.func235.trans (congrArg some (by kernel_rfl))⟩
  f40 := ⟨Tryz.f236.name, by decide, Tryz.func236.trans (congrArg some (by kernel_rfl))⟩
  t0 := Tryz.underlying0
  a0 := Tryz.isAgg0
  z0 := Tryz.sizeOf0
  v0 := Tryz.zeroValue0
  t3 := Tryz.underlying3
  a3 := Tryz.isAgg3
  z3 := Tryz.sizeOf3
  v3 := Tryz.zeroValue3
  t4 := Tryz.underlying4
  a4 := Tryz.isAgg4
  z4 := Tryz.sizeOf4
  v4 := Tryz.zeroValue4
  t5 := Tryz.underlying5
  a5 := Tryz.isAgg5
  z5 := Tryz.sizeOf5
  v5 := Tryz.zeroValue5
  t9 := Tryz.underlying9
  a9 := Tryz.isAgg9
  z9 := Tryz.sizeOf9
  v9 := Tryz.zeroValue9
  t22 := Tryz.underlying204
  a22 := Tryz.isAgg204
  z22 := Tryz.sizeOf204
  v22 := Tryz.zeroValue204
  t23 := Tryz.underlying204
  a23 := Tryz.isAgg204
  z23 := Tryz.sizeOf204
  v23 := Tryz.zeroValue204
  t25 := Tryz.underlying3
  a25 := Tryz.isAgg3
  z25 := Tryz.sizeOf3
  v25 := Tryz.zeroValue3
  t32 := Tryz.underlying250
  a32 := Tryz.isAgg250
  z32 := Tryz.sizeOf250
  v32 := Tryz.zeroValue250
  t35 := Tryz.underlying293
  a35 := Tryz.isAgg293
  z35 := Tryz.sizeOf293
  v35 := Tryz.zeroValue293
  t36 := Tryz.underlying294
  a36 := Tryz.isAgg294
  z36 := Tryz.sizeOf294
  v36 := Tryz.zeroValue294
  t41 := Tryz.underlying170
  a41 := Tryz.isAgg170
  z41 := Tryz.sizeOf170
  v41 := Tryz.zeroValue170
  t44 := Tryz.underlying300
  a44 := Tryz.isAgg300
  z44 := Tryz.sizeOf300
  v44 := Tryz.zeroValue300
  t46 := Tryz.underlying302
  a46 := Tryz.isAgg302
  z46 := Tryz.sizeOf302
  v46 := Tryz.zeroValue302
  t53 := Tryz.underlying312
  a53 := Tryz.isAgg312
  z53 := Tryz.sizeOf312
  v53 := Tryz.zeroValue312
  t57 := Tryz.underlying316
  a57 := Tryz.isAgg316
  z57 := Tryz.sizeOf316
  v57 := Tryz.zeroValue316
  t63 := Tryz.underlying327
  a63 := Tryz.isAgg327
  z63 := Tryz.sizeOf327
  v63 := Tryz.zeroValue327
  t64 := Tryz.underlying328
  a64 := Tryz.isAgg328
  z64 := Tryz.sizeOf328
  v64 := Tryz.zeroValue328 }
end Go.Proofs.YtbdagllflamabaaGreatDoor
namespace Go.Proofs.YtbdagllflamabaaGreatDoor
open Go.RowKit Go.Maps Go.ChangeMaps Go.MapKept Go.WideShapes
open Go.WideElems (Fit rd rg pl rd_key rd_val rg_of other_key rd_mk)
theorem ownsMap_ints {w : World} {P : Program} {k : TypeId} {b n : Nat} {D : DataW Value} (h : w.ownsMap P k raw b n D) (K : Keyed P k) (hk : P.underlying k = some (.int .i64)) :
    (intKeys D).Nodup ∧ (∀ c, c ∈ intKeys D ↔ lookD D (clit c) ≠ none) ∧ (intKeys D).length ≤ n ∧ Maps.size D ≤ n := by
  obtain ⟨es, hD, hpw, _⟩ := h.entries K
  obtain ⟨es', hD', hko⟩ := h.keysOf
  obtain rfl : es = es' := by rw [hD] at hD'; simpa using hD'
  have hint : ∀ p ∈ es, ∃ x, p.1 = .int .i64 x := fun p hp => by obtain ⟨v, hv⟩ := hko p hp; obtain ⟨x, _, hx, _⟩ := Maps.keyOf_i64 hk hv; exact ⟨x, hx⟩
  have hkd : intKeys D = es.map fun p => Go.intOf p.1 := by rw [hD]; rfl
  have hlen : es.length ≤ n := by
    obtain ⟨es2, clock, hb, F, hs, hD2⟩ := h
    rw [hD] at hD2
    have e1 : es = (es2.toList.map (rg P k raw)).foldr DataW.insert [] := by injection hD2
    rw [e1, length_sorted]
    simpa using hs
  rw [hkd]
  refine ⟨?_, fun c => ?_, by rw [List.length_map]; exact hlen, by rw [hD]; exact hlen⟩
  · refine List.pairwise_map.2 (hpw.imp_of_mem fun {p q} hp' hq' hne e => hne ?_)
    obtain ⟨a, ha⟩ := hint p hp'
    obtain ⟨d, hd⟩ := hint q hq'
    rw [ha, hd] at e ⊢
    have e2 : a = d := e
    rw [e2]
  · constructor
    · intro hs
      obtain ⟨p, hp, rfl⟩ := List.mem_map.1 hs
      obtain ⟨a, ha⟩ := hint p hp
      have hhas : Maps.has D (clit (Go.intOf p.1)) = true := by
        rw [hD]
        refine List.any_eq_true.2 ⟨p, hp, ?_⟩
        rw [ha]; simp [clit, Go.intOf, Lit.sameKey]
      obtain ⟨es2, clock, hb, F, _, hD2⟩ := h
      rw [hD2] at hhas
      obtain ⟨p2, hp2, hpk⟩ := List.any_eq_true.1 hhas
      obtain ⟨x, hx, rfl⟩ := List.mem_map.1 (mem_sorted.1 hp2)
      obtain ⟨y, hy⟩ := F.reads x hx
      obtain ⟨z, hz, hzd⟩ := rd_val hy
      have hkk : keyOf P k x.key = some (clit (Go.intOf p.1)) := by
        have := WideAt.sameKey_eq hpk
        rw [rg_of hy] at this
        rw [← this]; exact rd_key hy
      unfold lookD
      rw [hD2, if_pos hhas]
      have hat := (atKey_sorted (es2.toList.map (rg P k raw)) (Maps.fit_rising K F) _ (K.key hkk)).2 (rg P k raw x) (List.mem_map.2 ⟨x, hx, rfl⟩) (WideAt.sameKey_eq hpk)
      rw [hat, rg_of hy, hzd]
      cases hz
      simp
    · intro hs
      unfold lookD at hs
      by_cases hh : Maps.has D (clit c) = true
      · rw [hD] at hh
        obtain ⟨p, hp, hpk⟩ := List.any_eq_true.1 hh
        refine List.mem_map.2 ⟨p, hp, ?_⟩
        rw [WideAt.sameKey_eq hpk]
        rfl
      · rw [if_neg hh] at hs; exact absurd rfl hs
end Go.Proofs.YtbdagllflamabaaGreatDoor
namespace Go.Proofs.YtbdagllflamabaaGreatDoor
open Go.RowKit Go.Maps Go.Sort Go.Shelf
attribute [local go_sem] Oper.semAt_some
theorem sortsCl (m : Nat) : AnyZI.SortsIn Tryz.prog Tryz.sortedCl_ren Fence.wide m :=
  ⟨fun blk off cap ss W hH hblk hsz => callsIn_wide.2 (AnyM.slices_Sort_int Tryz.sortCl blk off cap ss W hH hblk hsz),
   fun p cap W => callsIn_wide.2 (AnyM.slices_Sort_int_none Tryz.sortCl p cap W)⟩
set_option maxRecDepth 100000 in
set_option maxHeartbeats 2000000 in
theorem sortedCl_any (w : World) (mb n : Nat) (f : Lit → Option Value) (h : LMap w Tryz.prog 3 mb n f) (hn : n ≤ 1000000) (Bm : Nat) (hBm : w.cell? ⟨Bm, 0, none⟩ = some (.map (some mb))) :
    CallsIn Fence.wide 5 Tryz.prog 193 #[.func (.func 206) #[] #[.pointer (some ⟨Bm, 0, none⟩)]] w fun e w' => ∃ (v : Value) (ks : List Int), e = .returned v ∧ (ks.Pairwise fun a b => a < b) ∧ (∀ c, c ∈ ks ↔ f (clit c) ≠ none) ∧ ks.length ≤ n ∧ w'.ownsRow w.heap.size 3 1 v ks.length (ks.map encZ) ∧ Below w.heap.size w w' := by
  obtain ⟨D, hown, hf⟩ := h
  obtain ⟨hnd, hmem, hlen, hsz⟩ := ownsMap_ints hown cl_keyed Tryz.underlying3
  have hBlt : Bm < w.heap.size := cell_lt hBm
  have hseq : SeqGives Fence.wide 2 Tryz.prog 206 #[.pointer (some ⟨Bm, 0, none⟩)] encZ (fun ss => ss.Perm (intKeys D)) (Maps.size D) w :=
    AnyZI.keys_gives (ρ := Tryz.keysCl_ren) { Tryz.keysCl with } Fence.wide _ trivial rfl (by omega) Bm mb n D w hBlt hBm hown
  have cS := AnyZI.sorted_in Tryz.sortedCl Fence.wide 5 trivial trivial trivial trivial rfl (by omega) (sortsCl _) (enters_of Tryz.func205 (by kernel_rfl) rfl) 206 #[.pointer (some ⟨Bm, 0, none⟩)] trivial (enters_of Tryz.func206 (by kernel_rfl) rfl) _ _ (by unfold maxLen; omega) (by omega) _ hseq
  change CallsIn _ _ Tryz.prog 193 _ _ _ at cS
  refine cS.mono ?_
  rintro e w' ⟨v, ss, rfl, hp, hrow, _, hb⟩
  have hm : (ss.mergeSort (fun x y => decide (x ≤ y))).Perm ss := List.mergeSort_perm _ _
  have hpp := hm.trans hp
  refine ⟨v, _, rfl, ?_, fun c => by rw [hpp.mem_iff, hmem, hf], by rw [hpp.length_eq]; exact hlen, by rw [hm.length_eq]; exact hrow, hb⟩
  have tr : ∀ a b c : Int, decide (a ≤ b) = true → decide (b ≤ c) = true → decide (a ≤ c) = true := fun a b c h1 h2 => by simp only [decide_eq_true_eq] at *; omega
  have tot : ∀ a b : Int, (decide (a ≤ b) || decide (b ≤ a)) = true := fun a b => by simp only [Bool.or_eq_true, decide_eq_true_eq]; omega
  have h1 := List.pairwise_mergeSort tr tot ss
  have h2 : (ss.mergeSort (fun x y => decide (x ≤ y))).Nodup := hpp.nodup_iff.2 hnd
  exact List.Pairwise.imp₂ (fun a b h3 h4 => by simp only [decide_eq_true_eq] at h3; omega) h1 h2
end Go.Proofs.YtbdagllflamabaaGreatDoor
