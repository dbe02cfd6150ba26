/- Dd1, Ref22: one text. -/
import Derived.Test.YtoiahcgaffffbaaGreatDoorFinStatePlaysQ1
import Derived.Test.YtoiahcgaffffbaaGreatDoorFinStatePlaysQ2
import Derived.Test.YtoiahcgaffffbaaGreatDoorFinStatePlaysQ4
import Derived.Maps.Keyed
import Derived.Laws.Externs
import Derived.BigQuiet
set_option linter.unusedVariables false
set_option linter.unusedSectionVars false
set_option linter.unusedSimpArgs false
namespace Go.Proofs.YtoiahcgaffffbaaGreatDoor
open Go.RowKit Go.Maps
attribute [local go_sem] Oper.semAt_some
structure An where
  seq : Int
  code : Int
  at_ : Int
def An.agg (a : An) : Value := .agg #[.int .i64 a.seq, .int .i64 a.code, .int .i64 a.at_]
def ansAgg (code at_ : Int) : Value := .agg #[.int .i64 code, .int .i64 at_]
def clit (c : Int) : Lit := .int .i64 c
theorem clit_wf {c : Int} (h1 : -9223372036854775808 ≤ c) (h2 : c < 9223372036854775808) : (Lit.int .i64 c).wf = true := by
  simp [Lit.wf, IntKind.min, IntKind.max, IntKind.bits, IntKind.signed]; try omega
theorem cl_keyed : Keyed Tryz.prog 3 := int_keyed Tryz.underlying3
theorem zero_last (w : World) : (zeroValue 253).run Tryz.prog w = .ok (.agg #[.int .i64 0, .int .i64 0, .int .i64 0]) w := by kernel_rfl
structure An.Ok (a : An) : Prop where
  s1 : 1 ≤ a.seq
  s2 : a.seq ≤ 1073741824
  c1 : a.code = 1 ∨ a.code = 2
  a1 : 0 ≤ a.at_
  a2 : a.at_ < 4096
structure SeenIs (w : World) (F : Nat → Prop) (sb mb n : Nat) (f : Lit → Option Value) (S : Int → Option An) : Prop where
  c0 : w.cell? ⟨sb, 0, none⟩ = some (.map (some mb))
  lm : LMap w Tryz.prog 3 mb n f
  val : ∀ c, f (clit c) = (S c).map An.agg
  lit : ∀ l, f l ≠ none → ∃ c, l = clit c
  ok : ∀ c a, S c = some a → 1 ≤ c ∧ c ≤ 4 ∧ a.Ok
  foot0 : F sb
  foot1 : F mb
  ne : sb ≠ mb
  lt : ∀ j, F j → j < w.heap.size
def SeenAt (w : World) (F : Nat → Prop) (sb n : Nat) (S : Int → Option An) : Prop := ∃ mb f, SeenIs w F sb mb n f S
section
variable {w w' : World} {F T : Nat → Prop} {sb mb n : Nat} {f : Lit → Option Value} {S : Int → Option An}
theorem SeenIs.kept (h : SeenIs w F sb mb n f S) (g : Only T w w') (hT : ∀ j, F j → ¬ T j) : SeenIs w' F sb mb n f S where
  c0 := (g.cell (cell_lt h.c0) (hT _ h.foot0) 0).trans h.c0
  lm := h.lm.kept g (hT _ h.foot1)
  val := h.val
  lit := h.lit
  ok := h.ok
  foot0 := h.foot0
  foot1 := h.foot1
  ne := h.ne
  lt := fun j hj => Nat.lt_of_lt_of_le (h.lt j hj) g.size
theorem SeenAt.kept (h : SeenAt w F sb n S) (g : Only T w w') (hT : ∀ j, F j → ¬ T j) : SeenAt w' F sb n S := by
  obtain ⟨mb, f, h⟩ := h
  exact ⟨mb, f, h.kept g hT⟩
theorem SeenAt.grew (h : SeenAt w F sb n S) (g : Grew w w') : SeenAt w' F sb n S := h.kept (g.only fun _ => False) (fun _ _ h => h)
theorem SeenAt.lt (h : SeenAt w F sb n S) : ∀ j, F j → j < w.heap.size := by obtain ⟨mb, f, h⟩ := h; exact h.lt
theorem SeenAt.ok (h : SeenAt w F sb n S) : ∀ c a, S c = some a → 1 ≤ c ∧ c ≤ 4 ∧ a.Ok := by obtain ⟨mb, f, h⟩ := h; exact h.ok
theorem SeenIs.look (h : SeenIs w F sb mb n f S) (g : Grew w w') (c : Int) (h1 : -9223372036854775808 ≤ c) (h2 : c < 9223372036854775808) : (Instr.lookup 231 (.map (some mb)) (.int .i64 c) true).run Tryz.prog w' = .ok (.tuple #[((S c).map An.agg).getD (.agg #[.int .i64 0, .int .i64 0, .int .i64 0]), .bool (S c).isSome]) w' := by
  have := (h.lm.grew g).lookup_ok cl_keyed Tryz.underlying231 (zero_last w') (keyOf_int_mk Tryz.underlying3 (clit_wf h1 h2))
  rw [show (Lit.int .i64 c) = clit c from rfl, h.val] at this
  rw [this]
  cases S c <;> rfl
end
def SeenTurn (w : World) (F : Nat → Prop) (sb n : Nat) (S : Int → Option An) (w' : World) : Prop := Only F w w' ∧ SeenAt w' F sb n S
set_option maxRecDepth 100000 in
theorem newD_any (w : World) : Calls Tryz.prog 82 #[] w fun e w' => ∃ sb F, e = .returned (.pointer (some ⟨sb, 0, none⟩)) ∧ SeenAt w' F sb 0 (fun _ => none) ∧ (∀ j, F j → w.heap.size ≤ j) ∧ Grew w w' := by
  have hM := LMap.made w Tryz.prog 3
  have g1 : Grew w (w.alloc (.map #[] 0)) := (Grew.refl w).alloc _
  have HF : Hid (∃ F, SeenAt ((w.alloc (.map #[] 0)).alloc (.cells #[.map (some w.heap.size)] 233)) F (w.heap.size + 1) 0 (fun _ => none) ∧ (∀ j, F j → w.heap.size ≤ j) ∧ Grew w ((w.alloc (.map #[] 0)).alloc (.cells #[.map (some w.heap.size)] 233))) := by
    refine ⟨fun j => j = w.heap.size ∨ j = w.heap.size + 1, ⟨w.heap.size, _, ⟨by simp [go_sem], hM.grew ((Grew.refl _).alloc _), fun c => rfl, (fun l h => absurd rfl h), (fun c a h => by cases h), .inr rfl, .inl rfl, by omega, fun j hj => ?_⟩⟩, fun j hj => ?_, g1.alloc _⟩
    · simp; rcases hj with hj | hj <;> omega
    · rcases hj with hj | hj <;> omega
  clear hM g1
  have hmm := @run_makeMap Tryz.prog
  go_enter Tryz.func82, Tryz.ntmps82
  go_wp2_with fail
  go_ret
  obtain ⟨F, h1, h2, h3⟩ := HF.out
  exact ⟨_, F, rfl, h1, h2, h3⟩
def askN (o : Option An) (seq : Int) : Int := match o with | none => 1 | some a => if a.seq < seq then 1 else if seq = a.seq then 2 else 3
def askA (o : Option An) (seq : Int) : Int × Int := match o with | none => (0, 0) | some a => if a.seq < seq then (0, 0) else if seq = a.seq then (a.code, a.at_) else (0, 0)
set_option maxRecDepth 100000 in
set_option maxHeartbeats 2000000 in
theorem ask_any {w : World} {F : Nat → Prop} {sb n : Nat} {S : Int → Option An} (h : SeenAt w F sb n S) (c seq : Int) (h1 : -9223372036854775808 ≤ c) (h2 : c < 9223372036854775808) :
    Calls Tryz.prog 123 #[.pointer (some ⟨sb, 0, none⟩), .int .i64 c, .int .i64 seq] w fun e w' => e = .returned (.tuple #[ansAgg (askA (S c) seq).1 (askA (S c) seq).2, .int .i64 (askN (S c) seq)]) ∧ Grew w w' := by
  obtain ⟨mb, f, h⟩ := h
  have c0 := h.c0
  have hsb : sb < w.heap.size := cell_lt c0
  have hlk := h.look ((Grew.refl w).alloc (.cells #[.int .i64 0, .int .i64 0] 127)) c h1 h2
  clear h
  have g2 : Grew w ((w.alloc (.cells #[.int .i64 0, .int .i64 0] 127)).alloc (.cells #[.int .i64 0, .int .i64 0, .int .i64 0] 253)) := ((Grew.refl w).alloc _).alloc _
  have HG2 := hid g2
  have HG3 := hid (fun (x y z : Int) => show Grew w ((w.alloc (.cells #[.int .i64 0, .int .i64 0] 127)).alloc (.cells #[.int .i64 x, .int .i64 y, .int .i64 z] 253)) from ((Grew.refl w).alloc _).alloc _)
  have HG4 := hid (fun (u v x y z : Int) => show Grew w ((w.alloc (.cells #[.int .i64 u, .int .i64 v] 127)).alloc (.cells #[.int .i64 x, .int .i64 y, .int .i64 z] 253)) from ((Grew.refl w).alloc _).alloc _)
  clear g2
  cases hS : S c with
  | none =>
    rw [hS] at hlk
    clear hS
    go_enter Tryz.func123, Tryz.ntmps123
    go_wp2_with fail
    exact bodyPost_ret (v := .tuple #[.agg #[.int .i64 0, .int .i64 0], .int .i64 1]) (by simp [results, Tryz.results123, go_sem]) rfl ⟨rfl, HG2.out⟩
  | some a =>
    rw [hS] at hlk
    clear hS
    obtain ⟨q, k, t⟩ := a
    have HN : Hid (askN (some ⟨q, k, t⟩) seq = if q < seq then 1 else if seq = q then 2 else 3) := rfl
    have HA : Hid (askA (some ⟨q, k, t⟩) seq = if q < seq then (0, 0) else if seq = q then (k, t) else (0, 0)) := rfl
    by_cases h1 : q < seq
    · unfold An.agg at hlk
      dsimp only [Option.map_some, Option.getD_some, Option.isSome_some] at hlk
      have e1 : askN (some ⟨q, k, t⟩) seq = 1 := by rw [HN.out, if_pos h1]
      have e2 : askA (some ⟨q, k, t⟩) seq = (0, 0) := by rw [HA.out, if_pos h1]
      rw [e1, e2]
      clear e1 e2
      go_enter Tryz.func123, Tryz.ntmps123
      go_wp2_with fail
      exact bodyPost_ret (v := .tuple #[.agg #[.int .i64 0, .int .i64 0], .int .i64 1]) (by simp [results, Tryz.results123, go_sem]) rfl ⟨rfl, HG3.out _ _ _⟩
    · by_cases h2 : seq = q
      · unfold An.agg at hlk
        dsimp only [Option.map_some, Option.getD_some, Option.isSome_some] at hlk
        have e1 : askN (some ⟨q, k, t⟩) seq = 2 := by rw [HN.out, if_neg h1, if_pos h2]
        have e2 : askA (some ⟨q, k, t⟩) seq = (k, t) := by rw [HA.out, if_neg h1, if_pos h2]
        rw [e1, e2]
        subst h2
        clear e1 e2
        go_enter Tryz.func123, Tryz.ntmps123
        go_wp2_with fail
        refine bodyPost_ret (v := .tuple #[.agg #[.int .i64 k, .int .i64 t], .int .i64 2]) (by simp [results, Tryz.results123, go_sem]) rfl ⟨rfl, HG4.out _ _ _ _ _⟩
      · unfold An.agg at hlk
        dsimp only [Option.map_some, Option.getD_some, Option.isSome_some] at hlk
        have e1 : askN (some ⟨q, k, t⟩) seq = 3 := by rw [HN.out, if_neg h1, if_neg h2]
        have e2 : askA (some ⟨q, k, t⟩) seq = (0, 0) := by rw [HA.out, if_neg h1, if_neg h2]
        rw [e1, e2]
        clear e1 e2
        go_enter Tryz.func123, Tryz.ntmps123
        go_wp2_with fail
        exact bodyPost_ret (v := .tuple #[.agg #[.int .i64 0, .int .i64 0], .int .i64 3]) (by simp [results, Tryz.results123, go_sem]) rfl ⟨rfl, HG3.out _ _ _⟩
set_option maxRecDepth 100000 in
set_option maxHeartbeats 2000000 in
theorem rightD_any (w : World) (c : Int) (a : An) (h1 : 1 ≤ c) (h2 : c ≤ 4) (h3 : a.Ok) : Calls Tryz.prog 188 #[.int .i64 c, .int .i64 a.seq, ansAgg a.code a.at_] w fun e w' => e = .returned (.bool true) ∧ Grew w w' := by
  obtain ⟨q, k, t⟩ := a
  obtain ⟨s1, s2, c1, a1, a2⟩ := h3
  dsimp only at *
  unfold ansAgg
  have HG := hid ((Grew.refl w).alloc (.cells #[.int .i64 k, .int .i64 t] 127))
  rcases c1 with rfl | rfl
  · go_enter Tryz.func188, Tryz.ntmps188
    go_wp2_with fail
    go_ret
    exact ⟨rfl, HG.out⟩
  · go_enter Tryz.func188, Tryz.ntmps188
    go_wp2_with fail
    go_ret
    exact ⟨rfl, HG.out⟩
def noteS (S : Int → Option An) (c : Int) (a : An) (d : Int) : Option An := if d = c then some a else S d
set_option maxRecDepth 100000 in
theorem SeenIs.note {w w' : World} {F : Nat → Prop} {sb mb n : Nat} {f : Lit → Option Value} {S : Int → Option An} (h : SeenIs w F sb mb n f S) (c : Int) (a : An) (h1 : 1 ≤ c) (h2 : c ≤ 4) (h3 : a.Ok) (hn : n ≤ 1000000) (g : Grew w w') :
    ∃ w2, (Instr.mapUpdate 231 (.map (some mb)) (.int .i64 c) a.agg).run Tryz.prog w' = .ok () w2 ∧ SeenTurn w F sb (n + 1) (noteS S c a) w2 := by
  have hg := h.kept (g.only fun _ => False) (fun _ _ h => h)
  obtain ⟨w2, hrun, r1, r2⟩ := hg.lm.store (val := a.agg) cl_keyed Tryz.underlying231 (by unfold maxLen; omega) (keyOf_int_mk Tryz.underlying3 (clit_wf (c := c) (by omega) (by omega)))
  have hO : Only (fun j => j = mb) w' w2 := Only.of_turned r2
  refine ⟨w2, hrun, (g.only F).then (hO.mono fun j hj => .inl (by rw [hj]; exact h.foot1)), mb, _, ⟨(hO.cell (cell_lt hg.c0) (fun e => h.ne e) 0).trans hg.c0, r1, fun d => ?_, fun l hl => ?_, fun d b hb => ?_, h.foot0, h.foot1, h.ne, fun j hj => Nat.lt_of_lt_of_le (h.lt j hj) (Nat.le_trans g.size hO.size)⟩⟩
  · unfold lset noteS clit
    by_cases hd : d = c
    · subst hd; simp
    · rw [if_neg hd, if_neg (fun e => hd (by injection e)), ← h.val]; rfl
  · unfold lset at hl
    by_cases hd : l = .int .i64 c
    · exact ⟨c, hd⟩
    · rw [if_neg hd] at hl; exact h.lit l hl
  · unfold noteS at hb
    by_cases hd : d = c
    · rw [if_pos hd] at hb; cases hb; subst hd; exact ⟨h1, h2, h3⟩
    · rw [if_neg hd] at hb; exact h.ok d b hb
set_option maxRecDepth 100000 in
set_option maxHeartbeats 2000000 in
theorem note_fresh {w : World} {F : Nat → Prop} {sb n : Nat} {S : Int → Option An} (h : SeenAt w F sb n S) (c : Int) (a : An) (h1 : 1 ≤ c) (h2 : c ≤ 4) (h3 : a.Ok) (hn : n ≤ 1000000) (hf : askN (S c) a.seq = 1) :
    Calls Tryz.prog 126 #[.pointer (some ⟨sb, 0, none⟩), .int .i64 c, .int .i64 a.seq, ansAgg a.code a.at_] w fun e w' => e = .returned .nilIface ∧ SeenTurn w F sb (n + 1) (noteS S c a) w' := by
  have HR := hid (fun W => rightD_any W c a h1 h2 h3)
  have HA := hid (fun W (g : Grew w W) => ask_any (h.grew g) c a.seq (by omega) (by omega))
  obtain ⟨mb, f, h⟩ := h
  have c0 := h.c0
  have hsb : sb < w.heap.size := cell_lt c0
  have HST := hid (fun W (g : Grew w W) => h.note c a h1 h2 h3 hn g)
  rw [hf] at HA
  clear h hf
  obtain ⟨q, k, t⟩ := a
  unfold ansAgg An.agg at *
  dsimp only at *
  generalize askA (S c) q = aa at *
  go_enter Tryz.func126, Tryz.ntmps126
  go_wp2_with fail
  refine (HR.out _).mono ?_
  rintro e w1 ⟨rfl, hg1⟩
  have hG1 := ((Grew.refl w).alloc (.cells #[.int .i64 k, .int .i64 t] 127)).trans hg1
  have hz : w.heap.size < w1.heap.size := Nat.lt_of_lt_of_le (by simp) hg1.size
  have d0 : w1.cell? ⟨w.heap.size, 0, none⟩ = some (.int .i64 k) := (hg1.cells.1 _ _ (by simp)).trans (by simp [go_sem])
  have d1 : w1.cell? ⟨w.heap.size, 1, none⟩ = some (.int .i64 t) := (hg1.cells.1 _ _ (by simp)).trans (by simp [go_sem])
  have HG1 := hid hG1
  have HD := hid (And.intro hz (And.intro d0 d1))
  clear hg1 hG1 hz d0 d1
  go_wp2_with fail
  refine (HA.out _ HG1.out).mono ?_
  rintro e w2 ⟨rfl, hg2⟩
  obtain ⟨hz, d0, d1⟩ := HD.out
  have hG2 := HG1.out.trans hg2
  have e0 := (hg2.cells.1 _ 0 hz).trans d0
  have e1 := (hg2.cells.1 _ 1 hz).trans d1
  have hz2 := Nat.lt_of_lt_of_le hz hg2.size
  have HG2 := hid hG2
  have HE := hid (And.intro hz2 (And.intro e0 e1))
  clear hg2 hG2 hz d0 d1 e0 e1 hz2
  go_wp2_with fail
  obtain ⟨Y, hY⟩ : ∃ Y, Y = w2.alloc (.cells #[.int .i64 aa.1, .int .i64 aa.2] 127) := ⟨_, rfl⟩
  have hgY : Grew w2 Y := by rw [hY]; exact (Grew.refl w2).alloc _
  have HGY := hid (HG2.out.trans hgY)
  have C0 := wd_cell ((HGY.out.cells.1 _ 0 hsb).trans c0)
  obtain ⟨hz2, e0, e1⟩ := HE.out
  have D0 := wd_cell ((hgY.cells.1 _ 0 hz2).trans e0)
  have D1 := wd_cell ((hgY.cells.1 _ 1 hz2).trans e1)
  rw [← hY]
  clear hY hgY hz2 e0 e1 c0
  refine wp_region_still 8 (by kernel_rfl) (by kernel_rfl) (fun _ _ => rfl) ?_
  repeat (first
    | (refine mixS_plain (by rfl) (by rfl) (by rfl) (by first | exact Grew.refl | exact fun _ => rfl) (by rfl) ?_; intro K hK; go_big_quiet_op; go_big_quiet_on)
    | (refine mixS_skip (by rfl) (by rfl) (by rfl) ?_; simp only [Act.put, List.setIfInBounds_toArray, List.set_cons_zero, List.set_cons_succ]))
  refine mixS_done (by rfl) ?_
  intro x hG
  obtain ⟨w3, hrun, hT⟩ := HST.out x (HGY.out.trans hG)
  have HRUN := hid hrun
  have HT := hid hT
  clear hrun hT C0 D0 D1 hG
  dsimp only [List.drop]
  go_wp2_with (at_mapUpdate; refine wpList_update_run rfl _ _ _ rfl rfl rfl rfl HRUN.out ?_)
  go_wp2_with fail
  go_ret
  exact ⟨rfl, HT.out⟩
end Go.Proofs.YtoiahcgaffffbaaGreatDoor
namespace Go.Proofs.YtoiahcgaffffbaaGreatDoor
open Go.RowKit Go.Maps
attribute [local go_sem] Oper.semAt_some
def seqO (o : Option An) : Int := match o with | none => 0 | some a => a.seq
def codeO (o : Option An) : Int := match o with | none => 0 | some a => a.code
def atO (o : Option An) : Int := match o with | none => 0 | some a => a.at_
structure MSeen (w : World) (rb : Nat) (S : Int → Option An) : Prop where
  seq : ∀ c : Nat, c < 5 → w.cell? ⟨rb, c, none⟩ = some (.int .i64 (seqO (S c)))
  code : ∀ c : Nat, c < 5 → w.cell? ⟨rb, 5 + c * 2, none⟩ = some (.int .i64 (codeO (S c)))
  at_ : ∀ c : Nat, c < 5 → w.cell? ⟨rb, 6 + c * 2, none⟩ = some (.int .i64 (atO (S c)))
  froz : ∀ o, o < 15 → w.frozen? ⟨rb, o, none⟩ = false
  ok : ∀ c a, S c = some a → 1 ≤ c ∧ c ≤ 4 ∧ a.Ok
section
variable {w w' : World} {T : Nat → Prop} {rb : Nat} {S : Int → Option An}
theorem MSeen.lt (h : MSeen w rb S) : rb < w.heap.size := cell_lt (h.seq 0 (by decide))
theorem MSeen.kept (h : MSeen w rb S) (g : Only T w w') (hT : ¬ T rb) : MSeen w' rb S where
  seq := fun c hc => (g.cell h.lt hT _).trans (h.seq c hc)
  code := fun c hc => (g.cell h.lt hT _).trans (h.code c hc)
  at_ := fun c hc => (g.cell h.lt hT _).trans (h.at_ c hc)
  froz := fun o ho => (g.frozen h.lt hT _).trans (h.froz o ho)
  ok := h.ok
theorem MSeen.grew (h : MSeen w rb S) (g : Grew w w') : MSeen w' rb S := h.kept (g.only fun _ => False) (fun h => h)
theorem MSeen.new (w : World) (T : TypeId) : MSeen (w.alloc (.cells #[.int .i64 0, .int .i64 0, .int .i64 0, .int .i64 0, .int .i64 0, .int .i64 0, .int .i64 0, .int .i64 0, .int .i64 0, .int .i64 0, .int .i64 0, .int .i64 0, .int .i64 0, .int .i64 0, .int .i64 0] T)) w.heap.size (fun _ => none) := by
  refine ⟨?_, ?_, ?_, ?_, fun c a h => by cases h⟩
  · intro c hc
    obtain rfl | rfl | rfl | rfl | rfl : c = 0 ∨ c = 1 ∨ c = 2 ∨ c = 3 ∨ c = 4 := by omega
    all_goals simp [go_sem, seqO]
  · intro c hc
    obtain rfl | rfl | rfl | rfl | rfl : c = 0 ∨ c = 1 ∨ c = 2 ∨ c = 3 ∨ c = 4 := by omega
    all_goals simp [go_sem, codeO]
  · intro c hc
    obtain rfl | rfl | rfl | rfl | rfl : c = 0 ∨ c = 1 ∨ c = 2 ∨ c = 3 ∨ c = 4 := by omega
    all_goals simp [go_sem, atO]
  · intro o ho
    simp [go_sem]
end
set_option maxRecDepth 100000 in
set_option maxHeartbeats 2000000 in
theorem last22_any {w : World} {rb : Nat} {S : Int → Option An} (h : MSeen w rb S) (c : Int) (h1 : 1 ≤ c) (h2 : c ≤ 4) :
    Calls Tryz.prog 191 #[.pointer (some ⟨rb, 0, none⟩), .int .i64 c] w fun e w' => e = .returned (.int .i64 (seqO (S c))) ∧ Grew w w' := by
  obtain rfl | rfl | rfl | rfl : c = 1 ∨ c = 2 ∨ c = 3 ∨ c = 4 := by omega
  · have c0 := h.seq 1 (by decide)
    have hrb := h.lt
    clear h
    generalize seqO (S ((1 : Nat) : Int)) = q at c0
    go_enter Tryz.func191, Tryz.ntmps191
    go_wp2_with fail
    go_ret
    exact ⟨rfl, Grew.refl w⟩
  · have c0 := h.seq 2 (by decide)
    have hrb := h.lt
    clear h
    generalize seqO (S ((2 : Nat) : Int)) = q at c0
    go_enter Tryz.func191, Tryz.ntmps191
    go_wp2_with fail
    go_ret
    exact ⟨rfl, Grew.refl w⟩
  · have c0 := h.seq 3 (by decide)
    have hrb := h.lt
    clear h
    generalize seqO (S ((3 : Nat) : Int)) = q at c0
    go_enter Tryz.func191, Tryz.ntmps191
    go_wp2_with fail
    go_ret
    exact ⟨rfl, Grew.refl w⟩
  · have c0 := h.seq 4 (by decide)
    have hrb := h.lt
    clear h
    generalize seqO (S ((4 : Nat) : Int)) = q at c0
    go_enter Tryz.func191, Tryz.ntmps191
    go_wp2_with fail
    go_ret
    exact ⟨rfl, Grew.refl w⟩
set_option maxRecDepth 100000 in
set_option maxHeartbeats 2000000 in
theorem ask22_any {w : World} {rb : Nat} {S : Int → Option An} (h : MSeen w rb S) (c seq : Int) (h1 : 1 ≤ c) (h2 : c ≤ 4) :
    Calls Tryz.prog 128 #[.pointer (some ⟨rb, 0, none⟩), .int .i64 c, .int .i64 seq] w fun e w' => e = .returned (.tuple #[ansAgg (askA (S c) seq).1 (askA (S c) seq).2, .int .i64 (askN (S c) seq)]) ∧ Grew w w' := by
  have HL := hid (fun W (g : Grew w W) => last22_any (h.grew g) c h1 h2)
  have hrb := h.lt
  have HC : Hid (∃ k : Nat, c = k ∧ 1 ≤ k ∧ k ≤ 4 ∧ w.cell? ⟨rb, 5 + k * 2, none⟩ = some (.int .i64 (codeO (S c))) ∧ w.cell? ⟨rb, 6 + k * 2, none⟩ = some (.int .i64 (atO (S c)))) := by
    refine ⟨c.toNat, by omega, by omega, by omega, ?_, ?_⟩
    · have := h.code c.toNat (by omega); rwa [show ((c.toNat : Nat) : Int) = c by omega] at this
    · have := h.at_ c.toNat (by omega); rwa [show ((c.toNat : Nat) : Int) = c by omega] at this
  have hok := h.ok c
  clear h
  unfold ansAgg
  cases hS : S c with
  | none =>
    rw [hS] at HL HC
    clear hS hok HC
    unfold seqO at HL
    go_enter Tryz.func128, Tryz.ntmps128
    go_wp2_with fail
    refine (HL.out _ ((Grew.refl w).alloc _)).mono ?_
    rintro e w1 ⟨rfl, hg1⟩
    have HG := hid (show Grew w w1 from ((Grew.refl w).alloc _).trans hg1)
    have f0 : w1.frozen? ⟨w.heap.size, 0, none⟩ = false := (hg1.cells.2 _ _ (by simp)).trans (by simp [go_sem])
    have f1 : w1.frozen? ⟨w.heap.size, 1, none⟩ = false := (hg1.cells.2 _ _ (by simp)).trans (by simp [go_sem])
    have d0 : w1.cell? ⟨w.heap.size, 0, none⟩ = some (.int .i64 0) := (hg1.cells.1 _ _ (by simp)).trans (by simp [go_sem])
    have d1 : w1.cell? ⟨w.heap.size, 1, none⟩ = some (.int .i64 0) := (hg1.cells.1 _ _ (by simp)).trans (by simp [go_sem])
    have hz : w.heap.size < w1.heap.size := Nat.lt_of_lt_of_le (by simp) hg1.size
    clear hg1 HL
    go_wp2_with fail
    refine bodyPost_ret (v := .tuple #[.agg #[.int .i64 0, .int .i64 0], .int .i64 1]) (by simp [results, Tryz.results128, go_sem, d0, d1, f0, f1]) rfl ⟨rfl, ?_⟩
    exact ((HG.out.setCell (show w.heap.size ≤ w.heap.size by omega) _).setCell (show w.heap.size ≤ w.heap.size by omega) _)
  | some a =>
    have hk := hok a hS
    rw [hS] at HL HC
    clear hS hok
    obtain ⟨q, k, t⟩ := a
    have hq := hk.2.2.s1
    dsimp only at hq
    unfold seqO at HL
    unfold codeO atO at HC
    dsimp only at HL HC
    have hq0 : ¬ q = 0 := by omega
    have HN : Hid (askN (some ⟨q, k, t⟩) seq = if q < seq then 1 else if seq = q then 2 else 3) := rfl
    have HA : Hid (askA (some ⟨q, k, t⟩) seq = if q < seq then (0, 0) else if seq = q then (k, t) else (0, 0)) := rfl
    generalize askN (some ⟨q, k, t⟩) seq = rn at *
    generalize askA (some ⟨q, k, t⟩) seq = ra at *
    clear hk hq
    go_enter Tryz.func128, Tryz.ntmps128
    go_wp2_with fail
    refine (HL.out _ ((Grew.refl w).alloc _)).mono ?_
    rintro e w1 ⟨rfl, hg1⟩
    have HG := hid (show Grew w w1 from ((Grew.refl w).alloc _).trans hg1)
    have f0 : w1.frozen? ⟨w.heap.size, 0, none⟩ = false := (hg1.cells.2 _ _ (by simp)).trans (by simp [go_sem])
    have f1 : w1.frozen? ⟨w.heap.size, 1, none⟩ = false := (hg1.cells.2 _ _ (by simp)).trans (by simp [go_sem])
    have d0 : w1.cell? ⟨w.heap.size, 0, none⟩ = some (.int .i64 0) := (hg1.cells.1 _ _ (by simp)).trans (by simp [go_sem])
    have d1 : w1.cell? ⟨w.heap.size, 1, none⟩ = some (.int .i64 0) := (hg1.cells.1 _ _ (by simp)).trans (by simp [go_sem])
    have hz : w.heap.size < w1.heap.size := Nat.lt_of_lt_of_le (by simp) hg1.size
    clear hg1 HL
    by_cases h1 : q < seq
    · obtain rfl : rn = 1 := HN.out.trans (if_pos h1)
      obtain rfl : ra = (0, 0) := HA.out.trans (if_pos h1)
      clear HN HA HC
      go_wp2_with fail
      refine bodyPost_ret (v := .tuple #[.agg #[.int .i64 0, .int .i64 0], .int .i64 1]) (by simp [results, Tryz.results128, go_sem, d0, d1, f0, f1]) rfl ⟨rfl, ?_⟩
      exact ((HG.out.setCell (show w.heap.size ≤ w.heap.size by omega) _).setCell (show w.heap.size ≤ w.heap.size by omega) _)
    · by_cases h2 : seq = q
      · obtain rfl : rn = 2 := HN.out.trans ((if_neg h1).trans (if_pos h2))
        obtain rfl : ra = (k, t) := HA.out.trans ((if_neg h1).trans (if_pos h2))
        subst h2
        obtain ⟨m, rfl, m1, m2, c0, c1⟩ := HC.out
        have c0 := (HG.out.cells.1 _ _ hrb).trans c0
        have c1 := (HG.out.cells.1 _ _ hrb).trans c1
        have hrw := Nat.lt_of_lt_of_le hrb HG.out.size
        clear HN HA HC h1
        obtain rfl | rfl | rfl | rfl : m = 1 ∨ m = 2 ∨ m = 3 ∨ m = 4 := by omega
        all_goals
          simp only [Nat.reduceMul, Nat.reduceAdd] at c0 c1
          go_wp2_with fail
          refine bodyPost_ret (v := .tuple #[.agg #[.int .i64 k, .int .i64 t], .int .i64 2]) (by simp [results, Tryz.results128, go_sem, d0, d1, f0, f1]) rfl ⟨rfl, ?_⟩
          exact ((HG.out.setCell (show w.heap.size ≤ w.heap.size by omega) _).setCell (show w.heap.size ≤ w.heap.size by omega) _)
      · obtain rfl : rn = 3 := HN.out.trans ((if_neg h1).trans (if_neg h2))
        obtain rfl : ra = (0, 0) := HA.out.trans ((if_neg h1).trans (if_neg h2))
        have h3 : (seq == q) = false := by simpa using h2
        have h4 : (q == 0) = false := by simpa using hq0
        clear HN HA HC
        go_wp2_with fail
        refine bodyPost_ret (v := .tuple #[.agg #[.int .i64 0, .int .i64 0], .int .i64 3]) (by simp [results, Tryz.results128, go_sem, d0, d1, f0, f1]) rfl ⟨rfl, ?_⟩
        exact ((HG.out.setCell (show w.heap.size ≤ w.heap.size by omega) _).setCell (show w.heap.size ≤ w.heap.size by omega) _)
theorem set_off {w : World} {b o o' : Nat} {v u : Value} (h : w.cell? ⟨b, o', none⟩ = some u) : (w.setCell ⟨b, o, none⟩ v).cell? ⟨b, o', none⟩ = some (if o' = o then v else u) := by
  by_cases e : o' = o
  · subst e
    rw [if_pos rfl]
    exact World.cell?_setCell_same' _ _ _ (by rw [h]; rfl)
  · rw [if_neg e, World.cell?_setCell_other _ _ _ _ (fun q => e (by injection q with q1 q2; exact q2.symm))]
    exact h
theorem MSeen.note {w : World} {rb : Nat} {S : Int → Option An} (h : MSeen w rb S) (c : Nat) (a : An) (h1 : 1 ≤ c) (h2 : c ≤ 4) (h3 : a.Ok) :
    MSeen (((w.setCell ⟨rb, c, none⟩ (.int .i64 a.seq)).setCell ⟨rb, 5 + c * 2, none⟩ (.int .i64 a.code)).setCell ⟨rb, 6 + c * 2, none⟩ (.int .i64 a.at_)) rb (noteS S c a) ∧ Only (fun j => j = rb) w (((w.setCell ⟨rb, c, none⟩ (.int .i64 a.seq)).setCell ⟨rb, 5 + c * 2, none⟩ (.int .i64 a.code)).setCell ⟨rb, 6 + c * 2, none⟩ (.int .i64 a.at_)) := by
  refine ⟨⟨fun j hj => ?_, fun j hj => ?_, fun j hj => ?_, fun o ho => ?_, fun d b hb => ?_⟩, ((Only.setCell w ⟨rb, c, none⟩ _).then (Only.setCell _ ⟨rb, 5 + c * 2, none⟩ _)).then (Only.setCell _ ⟨rb, 6 + c * 2, none⟩ _)⟩
  · rw [set_off (set_off (set_off (h.seq j hj))), if_neg (by omega), if_neg (by omega)]
    unfold noteS
    by_cases e : j = c
    · subst e; rw [if_pos rfl, if_pos rfl]; rfl
    · rw [if_neg e, if_neg (by omega)]
  · rw [set_off (set_off (set_off (h.code j hj))), if_neg (show ¬ 5 + j * 2 = 6 + c * 2 by omega)]
    unfold noteS
    by_cases e : j = c
    · subst e; rw [if_pos rfl, if_pos rfl]; rfl
    · rw [if_neg (show ¬ 5 + j * 2 = 5 + c * 2 by omega), if_neg (show ¬ 5 + j * 2 = c by omega), if_neg (show ¬ (j : Int) = c by omega)]
  · rw [set_off (set_off (set_off (h.at_ j hj)))]
    unfold noteS
    by_cases e : j = c
    · subst e; rw [if_pos rfl, if_pos rfl]; rfl
    · rw [if_neg (show ¬ 6 + j * 2 = 6 + c * 2 by omega), if_neg (show ¬ 6 + j * 2 = 5 + c * 2 by omega), if_neg (show ¬ 6 + j * 2 = c by omega), if_neg (show ¬ (j : Int) = c by omega)]
  · simp only [World.frozen?_setCell]
    exact h.froz o ho
  · unfold noteS at hb
    by_cases e : d = c
    · rw [if_pos e] at hb
      injection hb with hb
      subst hb
      exact ⟨by omega, by omega, h3⟩
    · rw [if_neg e] at hb; exact h.ok d b hb
set_option maxRecDepth 100000 in
set_option maxHeartbeats 2000000 in
theorem note22_any {w : World} {rb : Nat} {S : Int → Option An} (h : MSeen w rb S) (c : Int) (a : An) (h1 : 1 ≤ c) (h2 : c ≤ 4) (h3 : a.Ok) (hf : askN (S c) a.seq = 1) :
    Calls Tryz.prog 129 #[.pointer (some ⟨rb, 0, none⟩), .int .i64 c, .int .i64 a.seq, ansAgg a.code a.at_] w fun e w' => e = .returned (.int .i64 0) ∧ Only (fun j => j = rb) w w' ∧ MSeen w' rb (noteS S c a) := by
  have hlt : seqO (S c) < a.seq := by
    have := h3.s1
    cases hS : S c with
    | none => unfold seqO; dsimp only; omega
    | some b =>
      rw [hS] at hf
      unfold askN at hf
      unfold seqO
      dsimp only at hf ⊢
      by_cases q : b.seq < a.seq
      · exact q
      · rw [if_neg q] at hf; split at hf <;> cases hf
  have hrb := h.lt
  have H := hid h
  have HK := hid h3
  have b1 := h3.s1
  have b2 := h3.s2
  have b3 := h3.c1
  have b4 := h3.a1
  have b5 := h3.a2
  obtain rfl | rfl | rfl | rfl : c = 1 ∨ c = 2 ∨ c = 3 ∨ c = 4 := by omega
  · have c0 := h.seq 1 (by decide)
    have c7 := h.code 1 (by decide)
    have c8 := h.at_ 1 (by decide)
    have r0 := h.froz 1 (by decide)
    have r1 := h.froz 7 (by decide)
    have r2 := h.froz 8 (by decide)
    obtain ⟨q, k, t⟩ := a
    unfold ansAgg
    dsimp only at *
    have z1 : ¬ q < 1 := by omega
    have z2 : ¬ 1073741824 < q := by omega
    have z3 : ¬ k < 1 := by omega
    have z4 : ¬ 2 < k := by omega
    have z5 : ¬ t < 0 := by omega
    have z6 : ¬ 4095 < t := by omega
    have z7 : ¬ q ≤ seqO (S ((1 : Nat) : Int)) := by have : seqO (S 1) < q := hlt; exact Int.not_le.2 this
    generalize seqO (S ((1 : Nat) : Int)) = q0 at c0 z7
    generalize codeO (S ((1 : Nat) : Int)) = q1 at c7
    generalize atO (S ((1 : Nat) : Int)) = q2 at c8
    simp only [Nat.reduceMul, Nat.reduceAdd] at c7 c8
    clear h h3 hf hlt b1 b2 b3 b4 b5
    go_enter Tryz.func129, Tryz.ntmps129
    go_wp2_with fail
    go_region
    go_wp2_with fail
    go_ret
    obtain ⟨r1, r2⟩ := H.out.note 1 ⟨q, k, t⟩ (by decide) (by decide) HK.out
    exact ⟨rfl, (r2.alloc _).drew, r1.grew (((Grew.refl _).alloc _).drew)⟩
  · have c0 := h.seq 2 (by decide)
    have c7 := h.code 2 (by decide)
    have c8 := h.at_ 2 (by decide)
    have r0 := h.froz 2 (by decide)
    have r1 := h.froz 9 (by decide)
    have r2 := h.froz 10 (by decide)
    obtain ⟨q, k, t⟩ := a
    unfold ansAgg
    dsimp only at *
    have z1 : ¬ q < 1 := by omega
    have z2 : ¬ 1073741824 < q := by omega
    have z3 : ¬ k < 1 := by omega
    have z4 : ¬ 2 < k := by omega
    have z5 : ¬ t < 0 := by omega
    have z6 : ¬ 4095 < t := by omega
    have z7 : ¬ q ≤ seqO (S ((2 : Nat) : Int)) := by have : seqO (S 2) < q := hlt; exact Int.not_le.2 this
    generalize seqO (S ((2 : Nat) : Int)) = q0 at c0 z7
    generalize codeO (S ((2 : Nat) : Int)) = q1 at c7
    generalize atO (S ((2 : Nat) : Int)) = q2 at c8
    simp only [Nat.reduceMul, Nat.reduceAdd] at c7 c8
    clear h h3 hf hlt b1 b2 b3 b4 b5
    go_enter Tryz.func129, Tryz.ntmps129
    go_wp2_with fail
    go_region
    go_wp2_with fail
    go_ret
    obtain ⟨r1, r2⟩ := H.out.note 2 ⟨q, k, t⟩ (by decide) (by decide) HK.out
    exact ⟨rfl, (r2.alloc _).drew, r1.grew (((Grew.refl _).alloc _).drew)⟩
  · have c0 := h.seq 3 (by decide)
    have c7 := h.code 3 (by decide)
    have c8 := h.at_ 3 (by decide)
    have r0 := h.froz 3 (by decide)
    have r1 := h.froz 11 (by decide)
    have r2 := h.froz 12 (by decide)
    obtain ⟨q, k, t⟩ := a
    unfold ansAgg
    dsimp only at *
    have z1 : ¬ q < 1 := by omega
    have z2 : ¬ 1073741824 < q := by omega
    have z3 : ¬ k < 1 := by omega
    have z4 : ¬ 2 < k := by omega
    have z5 : ¬ t < 0 := by omega
    have z6 : ¬ 4095 < t := by omega
    have z7 : ¬ q ≤ seqO (S ((3 : Nat) : Int)) := by have : seqO (S 3) < q := hlt; exact Int.not_le.2 this
    generalize seqO (S ((3 : Nat) : Int)) = q0 at c0 z7
    generalize codeO (S ((3 : Nat) : Int)) = q1 at c7
    generalize atO (S ((3 : Nat) : Int)) = q2 at c8
    simp only [Nat.reduceMul, Nat.reduceAdd] at c7 c8
    clear h h3 hf hlt b1 b2 b3 b4 b5
    go_enter Tryz.func129, Tryz.ntmps129
    go_wp2_with fail
    go_region
    go_wp2_with fail
    go_ret
    obtain ⟨r1, r2⟩ := H.out.note 3 ⟨q, k, t⟩ (by decide) (by decide) HK.out
    exact ⟨rfl, (r2.alloc _).drew, r1.grew (((Grew.refl _).alloc _).drew)⟩
  · have c0 := h.seq 4 (by decide)
    have c7 := h.code 4 (by decide)
    have c8 := h.at_ 4 (by decide)
    have r0 := h.froz 4 (by decide)
    have r1 := h.froz 13 (by decide)
    have r2 := h.froz 14 (by decide)
    obtain ⟨q, k, t⟩ := a
    unfold ansAgg
    dsimp only at *
    have z1 : ¬ q < 1 := by omega
    have z2 : ¬ 1073741824 < q := by omega
    have z3 : ¬ k < 1 := by omega
    have z4 : ¬ 2 < k := by omega
    have z5 : ¬ t < 0 := by omega
    have z6 : ¬ 4095 < t := by omega
    have z7 : ¬ q ≤ seqO (S ((4 : Nat) : Int)) := by have : seqO (S 4) < q := hlt; exact Int.not_le.2 this
    generalize seqO (S ((4 : Nat) : Int)) = q0 at c0 z7
    generalize codeO (S ((4 : Nat) : Int)) = q1 at c7
    generalize atO (S ((4 : Nat) : Int)) = q2 at c8
    simp only [Nat.reduceMul, Nat.reduceAdd] at c7 c8
    clear h h3 hf hlt b1 b2 b3 b4 b5
    go_enter Tryz.func129, Tryz.ntmps129
    go_wp2_with fail
    go_region
    go_wp2_with fail
    go_ret
    obtain ⟨r1, r2⟩ := H.out.note 4 ⟨q, k, t⟩ (by decide) (by decide) HK.out
    exact ⟨rfl, (r2.alloc _).drew, r1.grew (((Grew.refl _).alloc _).drew)⟩
end Go.Proofs.YtoiahcgaffffbaaGreatDoor
