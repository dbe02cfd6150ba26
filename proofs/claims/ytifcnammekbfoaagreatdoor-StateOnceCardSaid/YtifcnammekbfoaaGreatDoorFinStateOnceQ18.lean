/- RgnS, Dd1, Dd2: one text. -/
import Derived.Test.YtifcnammekbfoaaGreatDoorFinStateOnceQ17
import Derived.Deep.QuietTactic
import Derived.BigQuiet
import Derived.Test.YtifcnammekbfoaaGreatDoorFinStateOnceQ1
import Derived.Test.YtifcnammekbfoaaGreatDoorFinStateOnceQ4
import Derived.Maps.Keyed
import Derived.Laws.Externs
/- wpMix shut up in a structure: elaboration does not unfold it (a region with guards that are false). No program in it. -/
namespace Go.Proofs.YtifcnammekbfoaaGreatDoor
open Go.RowKit Go.Maps

structure MixS (P : Program) (ops : Array Oper) (n : Nat) (Z : List Nat) (I : World → Prop) (T : World → World → Prop) (K : Act → Prop) (l : List Oper) (k : Nat) (a : Act) : Prop where
  out : wpMix P ops n Z I T K l k a
section
variable {P : Program} {ops : Array Oper} {n k : Nat} {Z : List Nat} {I : World → Prop} {T : World → World → Prop} {K : Act → Prop} {o : Oper} {l : List Oper} {a : Act}
theorem mixS_nil (h : K a) : MixS P ops n Z I T K [] k a := ⟨wpMix_nil h⟩
theorem mixS_done (hk : decide (k < n) = false) (h : K a) : MixS P ops n Z I T K (o :: l) k a := ⟨wpMix_done hk h⟩
theorem mixS_loose (hk : decide (k < n) = true) (hz : Z.contains k = true) (h : MixS P ops n Z I T K l (k + 1) a) : MixS P ops n Z I T K (o :: l) k a := ⟨wpMix_loose hk hz h.out⟩
theorem mixS_skip (hk : decide (k < n) = true) (hz : Z.contains k = false) (hw : Region.wanted o (yielded ops a.tmps) = false) (h : MixS P ops n Z I T K l (k + 1) (a.put o.dst undef)) : MixS P ops n Z I T K (o :: l) k a := ⟨wpMix_skip hk hz hw h.out⟩
theorem mixS_call (hcall : callB o.op = true) (hk : decide (k < n) = true) (hz : Z.contains k = false) (hw : Region.wanted o (yielded ops a.tmps) = true) {fn : FuncId} {args : Array Value} {v : Value} (hx : ∀ w, (execOp a.eval o).run P w = .ok (.enter fn args) w)
    (hc : ∀ w, I w → Calls P fn args w fun e w' => e = .returned v ∧ T w w') (h : MixS P ops n Z I T K l (k + 1) (a.put o.dst v)) : MixS P ops n Z I T K (o :: l) k a := ⟨wpMix_call hcall hk hz hw hx hc h.out⟩
theorem mixS_plain (hk : decide (k < n) = true) (hz : Z.contains k = false) (hp : plainB o.op = true) (hT : ∀ w, T w w) (hw : Region.wanted o (yielded ops a.tmps) = true)
    (h : ∀ K' : Act → Prop, (∀ a, MixS P ops n Z I T K l (k + 1) a → K' a) → o.quiet P a (fun w => ∃ p : Wd I, w = p.w) K') : MixS P ops n Z I T K (o :: l) k a :=
  ⟨wpMix_plain hk hz hp hT hw fun K' hK => h K' fun a h => hK a h.out⟩
theorem wp_region_mixS {id : Nat} {Q : Exit → Act → World → Prop} {a0 : Act} {w : World} {l : List Oper} (n : Nat) (Z : List Nat) (I : World → Prop) (T : World → World → Prop) (J : (Nat → Bool) → (Nat → Value) → World → Prop) (g : (Nat → Value) → Act → Act)
    (hm : P.follows .mixedOrders = true) (hB : mixB l.toArray n Z = true) (hg : ∀ f a, actGo (fun j => Z.contains j) f l 0 a = g f a)
    (h0 : J (fun _ => false) (fun _ => undef) w.drew) (hI : ∀ L f w, J L f w → I w) (hT : ∀ w, T w w) (hmono : ∀ L f w w', J L f w → T w w' → J L f w')
    (h : MixS P l.toArray n Z I T (fun a => AllZ (LooseStep P l Z J a) Z ∧ ∀ (f : Nat → Value) (w : World), J (fun j => Z.contains j) f w → wpList P l.toArray Q (l.drop n) (g f a) w) l 0 a0) :
    (Code.region id l.toArray true).wp P Q a0 w := wp_region_mix n Z I T J g hm hB hg h0 hI hT hmono h.out
end
/-- Every operation steady. -/
theorem wp_region_still {P : Program} {id : Nat} {Q : Exit → Act → World → Prop} {a0 : Act} {w : World} {l : List Oper} (n : Nat) (hm : P.follows .mixedOrders = true) (hB : mixB l.toArray n [] = true) (hg : ∀ f a, actGo (fun j => ([] : List Nat).contains j) f l 0 a = a)
    (h : MixS P l.toArray n [] (Grew w) Grew (fun a => ∀ (w' : World), Grew w w' → wpList P l.toArray Q (l.drop n) a w') l 0 a0) : (Code.region id l.toArray true).wp P Q a0 w :=
  wp_region_mix n [] (Grew w) Grew (fun _ _ x => Grew w x) (fun _ a => a) hm hB hg (Grew.refl w).drew (fun _ _ _ h => h) Grew.refl (fun _ _ _ _ h g => h.trans g) (by
    have h2 := h.out
    have e : (fun a => ∀ (w' : World), Grew w w' → wpList P l.toArray Q (l.drop n) a w') = (fun a => AllZ (LooseStep P l [] (fun _ _ x => Grew w x) a) [] ∧ ∀ (f : Nat → Value) (w' : World), Grew w w' → wpList P l.toArray Q (l.drop n) a w') := by
      funext a
      exact propext ⟨fun h => ⟨trivial, fun _ => h⟩, fun h => h.2 fun _ => undef⟩
    rw [e] at h2
    exact h2)
/-- A store into a map, by what it does. -/
theorem wpList_update_run {P : Program} {ops : Array Oper} {rest : List Oper} {o : Oper} {a : Act} {w w' : World} {Q : Exit → Act → World → Prop} {t : TypeId} (hg : o.guard = none) (m x v : Operand) (hop : o.op = Op.mapUpdate t m x v) {vm vx vv : Value} (hm : a.eval m = vm) (hx : a.eval x = vx) (hv : a.eval v = vv)
    (hrun : (Instr.mapUpdate t vm vx vv).run P w = .ok () w') (hK : wpList P ops Q rest (a.put o.dst undef) w') : wpList P ops Q (o :: rest) a w := by
  refine wpList_plain hg fun K' hK' => ?_
  unfold Oper.wp
  simp [execOp, hop, hm, hx, hv, hrun, Result.andThen]
  exact hK' _ _ hK
end Go.Proofs.YtifcnammekbfoaaGreatDoor

/- What clients have been answered, in memory; the walks of dedup.New, Ask, right, Note, Last, Copy. -/
set_option linter.unusedVariables false
set_option linter.unusedSectionVars false
set_option linter.unusedSimpArgs false
namespace Go.Proofs.YtifcnammekbfoaaGreatDoor
open Go.RowKit Go.Maps
attribute [local go_sem] Oper.semAt_some

/-- A client's last number, and its answer. -/
structure An where
  seq : Int
  code : Int
  at_ : Int
def An.agg (a : An) : Value := .agg #[.int .i64 a.seq, .int .i64 a.code, .int .i64 a.at_]
def ansAgg (code at_ : Int) : Value := .agg #[.int .i64 code, .int .i64 at_]
def clit (c : Int) : Lit := .int .i64 c
theorem clit_wf {c : Int} (h1 : -9223372036854775808 ≤ c) (h2 : c < 9223372036854775808) : (Lit.int .i64 c).wf = true := by
  simp [Lit.wf, IntKind.min, IntKind.max, IntKind.bits, IntKind.signed]; try omega
theorem cl_keyed : Keyed Tryz.prog 3 := int_keyed Tryz.underlying3
theorem zero_last (w : World) : (zeroValue 204).run Tryz.prog w = .ok (.agg #[.int .i64 0, .int .i64 0, .int .i64 0]) w := by kernel_rfl
/-- What a client may have been answered. -/
structure An.Ok (a : An) : Prop where
  s1 : 1 ≤ a.seq
  s2 : a.seq ≤ 1073741824
  c1 : a.code = 1 ∨ a.code = 2
  a1 : 0 ≤ a.at_
  a2 : a.at_ < 4096
/-- A Seen in memory: block sb, its map in block mb; S c: what the client c has been answered. -/
structure SeenIs (w : World) (F : Nat → Prop) (sb mb n : Nat) (f : Lit → Option Value) (S : Int → Option An) : Prop where
  c0 : w.cell? ⟨sb, 0, none⟩ = some (.map (some mb))
  lm : LMap w Tryz.prog 3 mb n f
  val : ∀ c, f (clit c) = (S c).map An.agg
  lit : ∀ l, f l ≠ none → ∃ c, l = clit c
  ok : ∀ c a, S c = some a → 1 ≤ c ∧ c ≤ 4 ∧ a.Ok
  foot0 : F sb
  foot1 : F mb
  ne : sb ≠ mb
  lt : ∀ j, F j → j < w.heap.size
def SeenAt (w : World) (F : Nat → Prop) (sb n : Nat) (S : Int → Option An) : Prop := ∃ mb f, SeenIs w F sb mb n f S
section
variable {w w' : World} {F T : Nat → Prop} {sb mb n : Nat} {f : Lit → Option Value} {S : Int → Option An}
theorem SeenIs.kept (h : SeenIs w F sb mb n f S) (g : Only T w w') (hT : ∀ j, F j → ¬ T j) : SeenIs w' F sb mb n f S where
  c0 := (g.cell (cell_lt h.c0) (hT _ h.foot0) 0).trans h.c0
  lm := h.lm.kept g (hT _ h.foot1)
  val := h.val
  lit := h.lit
  ok := h.ok
  foot0 := h.foot0
  foot1 := h.foot1
  ne := h.ne
  lt := fun j hj => Nat.lt_of_lt_of_le (h.lt j hj) g.size
theorem SeenAt.kept (h : SeenAt w F sb n S) (g : Only T w w') (hT : ∀ j, F j → ¬ T j) : SeenAt w' F sb n S := by
  obtain ⟨mb, f, h⟩ := h
  exact ⟨mb, f, h.kept g hT⟩
theorem SeenAt.grew (h : SeenAt w F sb n S) (g : Grew w w') : SeenAt w' F sb n S := h.kept (g.only fun _ => False) (fun _ _ h => h)
theorem SeenAt.lt (h : SeenAt w F sb n S) : ∀ j, F j → j < w.heap.size := by obtain ⟨mb, f, h⟩ := h; exact h.lt
theorem SeenAt.ok (h : SeenAt w F sb n S) : ∀ c a, S c = some a → 1 ≤ c ∧ c ≤ 4 ∧ a.Ok := by obtain ⟨mb, f, h⟩ := h; exact h.ok
theorem SeenIs.look (h : SeenIs w F sb mb n f S) (g : Grew w w') (c : Int) (h1 : -9223372036854775808 ≤ c) (h2 : c < 9223372036854775808) : (Instr.lookup 190 (.map (some mb)) (.int .i64 c) true).run Tryz.prog w' = .ok (.tuple #[((S c).map An.agg).getD (.agg #[.int .i64 0, .int .i64 0, .int .i64 0]), .bool (S c).isSome]) w' := by
  have := (h.lm.grew g).lookup_ok cl_keyed Tryz.underlying190 (zero_last w') (keyOf_int_mk Tryz.underlying3 (clit_wf h1 h2))
  rw [show (Lit.int .i64 c) = clit c from rfl, h.val] at this
  rw [this]
  cases S c <;> rfl
end
def SeenTurn (w : World) (F : Nat → Prop) (sb n : Nat) (S : Int → Option An) (w' : World) : Prop := Only F w w' ∧ SeenAt w' F sb n S

set_option maxRecDepth 100000 in
theorem newD_any (w : World) : Calls Tryz.prog 69 #[] w fun e w' => ∃ sb F, e = .returned (.pointer (some ⟨sb, 0, none⟩)) ∧ SeenAt w' F sb 0 (fun _ => none) ∧ (∀ j, F j → w.heap.size ≤ j) ∧ Grew w w' := by
  have hM := LMap.made w Tryz.prog 3
  have g1 : Grew w (w.alloc (.map #[] 0)) := (Grew.refl w).alloc _
  have HF : Hid (∃ F, SeenAt ((w.alloc (.map #[] 0)).alloc (.cells #[.map (some w.heap.size)] 192)) F (w.heap.size + 1) 0 (fun _ => none) ∧ (∀ j, F j → w.heap.size ≤ j) ∧ Grew w ((w.alloc (.map #[] 0)).alloc (.cells #[.map (some w.heap.size)] 192))) := by
    refine ⟨fun j => j = w.heap.size ∨ j = w.heap.size + 1, ⟨w.heap.size, _, ⟨by simp [go_sem], hM.grew ((Grew.refl _).alloc _), fun c => rfl, (fun l h => absurd rfl h), (fun c a h => by cases h), .inr rfl, .inl rfl, by omega, fun j hj => ?_⟩⟩, fun j hj => ?_, g1.alloc _⟩
    · simp; rcases hj with hj | hj <;> omega
    · rcases hj with hj | hj <;> omega
  clear hM g1
  have hmm := @run_makeMap Tryz.prog
  go_enter Tryz.func69, Tryz.ntmps69
  go_wp2_with fail
  go_ret
  obtain ⟨F, h1, h2, h3⟩ := HF.out
  exact ⟨_, F, rfl, h1, h2, h3⟩

/-- What a number is: 1 fresh, 2 again, 3 old; the answer that comes with it. -/
def askN (o : Option An) (seq : Int) : Int := match o with | none => 1 | some a => if a.seq < seq then 1 else if seq = a.seq then 2 else 3
def askA (o : Option An) (seq : Int) : Int × Int := match o with | none => (0, 0) | some a => if a.seq < seq then (0, 0) else if seq = a.seq then (a.code, a.at_) else (0, 0)

set_option maxRecDepth 100000 in
set_option maxHeartbeats 2000000 in
theorem ask_any {w : World} {F : Nat → Prop} {sb n : Nat} {S : Int → Option An} (h : SeenAt w F sb n S) (c seq : Int) (h1 : -9223372036854775808 ≤ c) (h2 : c < 9223372036854775808) :
    Calls Tryz.prog 75 #[.pointer (some ⟨sb, 0, none⟩), .int .i64 c, .int .i64 seq] w fun e w' => e = .returned (.tuple #[ansAgg (askA (S c) seq).1 (askA (S c) seq).2, .int .i64 (askN (S c) seq)]) ∧ Grew w w' := by
  obtain ⟨mb, f, h⟩ := h
  have c0 := h.c0
  have hsb : sb < w.heap.size := cell_lt c0
  have hlk := h.look ((Grew.refl w).alloc (.cells #[.int .i64 0, .int .i64 0] 57)) c h1 h2
  clear h
  have g2 : Grew w ((w.alloc (.cells #[.int .i64 0, .int .i64 0] 57)).alloc (.cells #[.int .i64 0, .int .i64 0, .int .i64 0] 204)) := ((Grew.refl w).alloc _).alloc _
  have HG2 := hid g2
  have HG3 := hid (fun (x y z : Int) => show Grew w ((w.alloc (.cells #[.int .i64 0, .int .i64 0] 57)).alloc (.cells #[.int .i64 x, .int .i64 y, .int .i64 z] 204)) from ((Grew.refl w).alloc _).alloc _)
  have HG4 := hid (fun (u v x y z : Int) => show Grew w ((w.alloc (.cells #[.int .i64 u, .int .i64 v] 57)).alloc (.cells #[.int .i64 x, .int .i64 y, .int .i64 z] 204)) from ((Grew.refl w).alloc _).alloc _)
  clear g2
  cases hS : S c with
  | none =>
    rw [hS] at hlk
    clear hS
    go_enter Tryz.func75, Tryz.ntmps75
    go_wp2_with fail
    exact bodyPost_ret (v := .tuple #[.agg #[.int .i64 0, .int .i64 0], .int .i64 1]) (by simp [results, Tryz.results75, go_sem]) rfl ⟨rfl, HG2.out⟩
  | some a =>
    rw [hS] at hlk
    clear hS
    obtain ⟨q, k, t⟩ := a
    have HN : Hid (askN (some ⟨q, k, t⟩) seq = if q < seq then 1 else if seq = q then 2 else 3) := rfl
    have HA : Hid (askA (some ⟨q, k, t⟩) seq = if q < seq then (0, 0) else if seq = q then (k, t) else (0, 0)) := rfl
    by_cases h1 : q < seq
    · unfold An.agg at hlk
      dsimp only [Option.map_some, Option.getD_some, Option.isSome_some] at hlk
      have e1 : askN (some ⟨q, k, t⟩) seq = 1 := by rw [HN.out, if_pos h1]
      have e2 : askA (some ⟨q, k, t⟩) seq = (0, 0) := by rw [HA.out, if_pos h1]
      rw [e1, e2]
      clear e1 e2
      go_enter Tryz.func75, Tryz.ntmps75
      go_wp2_with fail
      exact bodyPost_ret (v := .tuple #[.agg #[.int .i64 0, .int .i64 0], .int .i64 1]) (by simp [results, Tryz.results75, go_sem]) rfl ⟨rfl, HG3.out _ _ _⟩
    · by_cases h2 : seq = q
      · unfold An.agg at hlk
        dsimp only [Option.map_some, Option.getD_some, Option.isSome_some] at hlk
        have e1 : askN (some ⟨q, k, t⟩) seq = 2 := by rw [HN.out, if_neg h1, if_pos h2]
        have e2 : askA (some ⟨q, k, t⟩) seq = (k, t) := by rw [HA.out, if_neg h1, if_pos h2]
        rw [e1, e2]
        subst h2
        clear e1 e2
        go_enter Tryz.func75, Tryz.ntmps75
        go_wp2_with fail
        refine bodyPost_ret (v := .tuple #[.agg #[.int .i64 k, .int .i64 t], .int .i64 2]) (by simp [results, Tryz.results75, go_sem]) rfl ⟨rfl, HG4.out _ _ _ _ _⟩
      · unfold An.agg at hlk
        dsimp only [Option.map_some, Option.getD_some, Option.isSome_some] at hlk
        have e1 : askN (some ⟨q, k, t⟩) seq = 3 := by rw [HN.out, if_neg h1, if_neg h2]
        have e2 : askA (some ⟨q, k, t⟩) seq = (0, 0) := by rw [HA.out, if_neg h1, if_neg h2]
        rw [e1, e2]
        clear e1 e2
        go_enter Tryz.func75, Tryz.ntmps75
        go_wp2_with fail
        exact bodyPost_ret (v := .tuple #[.agg #[.int .i64 0, .int .i64 0], .int .i64 3]) (by simp [results, Tryz.results75, go_sem]) rfl ⟨rfl, HG3.out _ _ _⟩

/-- May an answer be noted? -/
def rightD (c : Int) (a : An) : Bool := decide (1 ≤ c) && decide (c ≤ 4) && decide (1 ≤ a.seq) && decide (a.seq ≤ 1073741824) && (decide (a.code = 1) || decide (a.code = 2)) && decide (0 ≤ a.at_) && decide (a.at_ < 4096)
theorem rightD_ok {c : Int} {a : An} (h : rightD c a = true) : 1 ≤ c ∧ c ≤ 4 ∧ a.Ok := by
  unfold rightD at h
  simp only [Bool.and_eq_true, Bool.or_eq_true, decide_eq_true_eq] at h
  exact ⟨h.1.1.1.1.1.1, h.1.1.1.1.1.2, h.1.1.1.1.2, h.1.1.1.2, h.1.1.2, h.1.2, h.2⟩
theorem rightD_of {c : Int} {a : An} (h1 : 1 ≤ c) (h2 : c ≤ 4) (h3 : a.Ok) : rightD c a = true := by
  unfold rightD
  simp only [Bool.and_eq_true, Bool.or_eq_true, decide_eq_true_eq]
  exact ⟨⟨⟨⟨⟨⟨h1, h2⟩, h3.s1⟩, h3.s2⟩, h3.c1⟩, h3.a1⟩, h3.a2⟩

set_option maxRecDepth 100000 in
set_option maxHeartbeats 2000000 in
/-- dedup.right, where it is. -/
theorem rightD_any (w : World) (c : Int) (a : An) (h1 : 1 ≤ c) (h2 : c ≤ 4) (h3 : a.Ok) : Calls Tryz.prog 124 #[.int .i64 c, .int .i64 a.seq, ansAgg a.code a.at_] w fun e w' => e = .returned (.bool true) ∧ Grew w w' := by
  obtain ⟨q, k, t⟩ := a
  obtain ⟨s1, s2, c1, a1, a2⟩ := h3
  dsimp only at *
  unfold ansAgg
  have HG := hid ((Grew.refl w).alloc (.cells #[.int .i64 k, .int .i64 t] 57))
  rcases c1 with rfl | rfl
  · go_enter Tryz.func124, Tryz.ntmps124
    go_wp2_with fail
    go_ret
    exact ⟨rfl, HG.out⟩
  · go_enter Tryz.func124, Tryz.ntmps124
    go_wp2_with fail
    go_ret
    exact ⟨rfl, HG.out⟩

/-- What is told of clients behind a note. -/
def noteS (S : Int → Option An) (c : Int) (a : An) (d : Int) : Option An := if d = c then some a else S d
set_option maxRecDepth 100000 in
theorem SeenIs.note {w w' : World} {F : Nat → Prop} {sb mb n : Nat} {f : Lit → Option Value} {S : Int → Option An} (h : SeenIs w F sb mb n f S) (c : Int) (a : An) (h1 : 1 ≤ c) (h2 : c ≤ 4) (h3 : a.Ok) (hn : n ≤ 1000000) (g : Grew w w') :
    ∃ w2, (Instr.mapUpdate 190 (.map (some mb)) (.int .i64 c) a.agg).run Tryz.prog w' = .ok () w2 ∧ SeenTurn w F sb (n + 1) (noteS S c a) w2 := by
  have hg := h.kept (g.only fun _ => False) (fun _ _ h => h)
  obtain ⟨w2, hrun, r1, r2⟩ := hg.lm.store (val := a.agg) cl_keyed Tryz.underlying190 (by unfold maxLen; omega) (keyOf_int_mk Tryz.underlying3 (clit_wf (c := c) (by omega) (by omega)))
  have hO : Only (fun j => j = mb) w' w2 := Only.of_turned r2
  refine ⟨w2, hrun, (g.only F).then (hO.mono fun j hj => .inl (by rw [hj]; exact h.foot1)), mb, _, ⟨(hO.cell (cell_lt hg.c0) (fun e => h.ne e) 0).trans hg.c0, r1, fun d => ?_, fun l hl => ?_, fun d b hb => ?_, h.foot0, h.foot1, h.ne, fun j hj => Nat.lt_of_lt_of_le (h.lt j hj) (Nat.le_trans g.size hO.size)⟩⟩
  · unfold lset noteS clit
    by_cases hd : d = c
    · subst hd; simp
    · rw [if_neg hd, if_neg (fun e => hd (by injection e)), ← h.val]; rfl
  · unfold lset at hl
    by_cases hd : l = .int .i64 c
    · exact ⟨c, hd⟩
    · rw [if_neg hd] at hl; exact h.lit l hl
  · unfold noteS at hb
    by_cases hd : d = c
    · rw [if_pos hd] at hb; cases hb; subst hd; exact ⟨h1, h2, h3⟩
    · rw [if_neg hd] at hb; exact h.ok d b hb

set_option maxRecDepth 100000 in
set_option maxHeartbeats 2000000 in
/-- A note of a fresh number. -/
theorem note_fresh {w : World} {F : Nat → Prop} {sb n : Nat} {S : Int → Option An} (h : SeenAt w F sb n S) (c : Int) (a : An) (h1 : 1 ≤ c) (h2 : c ≤ 4) (h3 : a.Ok) (hn : n ≤ 1000000) (hf : askN (S c) a.seq = 1) :
    Calls Tryz.prog 77 #[.pointer (some ⟨sb, 0, none⟩), .int .i64 c, .int .i64 a.seq, ansAgg a.code a.at_] w fun e w' => e = .returned .nilIface ∧ SeenTurn w F sb (n + 1) (noteS S c a) w' := by
  have HR := hid (fun W => rightD_any W c a h1 h2 h3)
  have HA := hid (fun W (g : Grew w W) => ask_any (h.grew g) c a.seq (by omega) (by omega))
  obtain ⟨mb, f, h⟩ := h
  have c0 := h.c0
  have hsb : sb < w.heap.size := cell_lt c0
  have HST := hid (fun W (g : Grew w W) => h.note c a h1 h2 h3 hn g)
  rw [hf] at HA
  clear h hf
  obtain ⟨q, k, t⟩ := a
  unfold ansAgg An.agg at *
  dsimp only at *
  generalize askA (S c) q = aa at *
  go_enter Tryz.func77, Tryz.ntmps77
  go_wp2_with fail
  refine (HR.out _).mono ?_
  rintro e w1 ⟨rfl, hg1⟩
  have hG1 := ((Grew.refl w).alloc (.cells #[.int .i64 k, .int .i64 t] 57)).trans hg1
  have hz : w.heap.size < w1.heap.size := Nat.lt_of_lt_of_le (by simp) hg1.size
  have d0 : w1.cell? ⟨w.heap.size, 0, none⟩ = some (.int .i64 k) := (hg1.cells.1 _ _ (by simp)).trans (by simp [go_sem])
  have d1 : w1.cell? ⟨w.heap.size, 1, none⟩ = some (.int .i64 t) := (hg1.cells.1 _ _ (by simp)).trans (by simp [go_sem])
  have HG1 := hid hG1
  have HD := hid (And.intro hz (And.intro d0 d1))
  clear hg1 hG1 hz d0 d1
  go_wp2_with fail
  refine (HA.out _ HG1.out).mono ?_
  rintro e w2 ⟨rfl, hg2⟩
  obtain ⟨hz, d0, d1⟩ := HD.out
  have hG2 := HG1.out.trans hg2
  have e0 := (hg2.cells.1 _ 0 hz).trans d0
  have e1 := (hg2.cells.1 _ 1 hz).trans d1
  have hz2 := Nat.lt_of_lt_of_le hz hg2.size
  have HG2 := hid hG2
  have HE := hid (And.intro hz2 (And.intro e0 e1))
  clear hg2 hG2 hz d0 d1 e0 e1 hz2
  go_wp2_with fail
  obtain ⟨Y, hY⟩ : ∃ Y, Y = w2.alloc (.cells #[.int .i64 aa.1, .int .i64 aa.2] 57) := ⟨_, rfl⟩
  have hgY : Grew w2 Y := by rw [hY]; exact (Grew.refl w2).alloc _
  have HGY := hid (HG2.out.trans hgY)
  have C0 := wd_cell ((HGY.out.cells.1 _ 0 hsb).trans c0)
  obtain ⟨hz2, e0, e1⟩ := HE.out
  have D0 := wd_cell ((hgY.cells.1 _ 0 hz2).trans e0)
  have D1 := wd_cell ((hgY.cells.1 _ 1 hz2).trans e1)
  rw [← hY]
  clear hY hgY hz2 e0 e1 c0
  refine wp_region_still 8 (by kernel_rfl) (by kernel_rfl) (fun _ _ => rfl) ?_
  repeat (first
    | (refine mixS_plain (by rfl) (by rfl) (by rfl) (by first | exact Grew.refl | exact fun _ => rfl) (by rfl) ?_; intro K hK; go_big_quiet_op; go_big_quiet_on)
    | (refine mixS_skip (by rfl) (by rfl) (by rfl) ?_; simp only [Act.put, List.setIfInBounds_toArray, List.set_cons_zero, List.set_cons_succ]))
  refine mixS_done (by rfl) ?_
  intro x hG
  obtain ⟨w3, hrun, hT⟩ := HST.out x (HGY.out.trans hG)
  have HRUN := hid hrun
  have HT := hid hT
  clear hrun hT C0 D0 D1 hG
  dsimp only [List.drop]
  go_wp2_with (at_mapUpdate; refine wpList_update_run rfl _ _ _ rfl rfl rfl rfl HRUN.out ?_)
  go_wp2_with fail
  go_ret
  exact ⟨rfl, HT.out⟩
end Go.Proofs.YtifcnammekbfoaaGreatDoor

/- The walks of maps.Clone and of dedup.Copy. -/
set_option linter.unusedVariables false
set_option linter.unusedSectionVars false
set_option linter.unusedSimpArgs false
namespace Go.Proofs.YtifcnammekbfoaaGreatDoor
open Go.RowKit Go.Maps
attribute [local go_sem] Oper.semAt_some

theorem run_clone_map {w : World} {mb : Nat} {es : Array MapEntry} {clock : Nat} (h : w.heap[mb]? = some (.map es clock)) : (callFunc 156 #[.iface 190 (.map (some mb))]).run Tryz.prog w = .ok (.value (.iface 190 (.map (some w.heap.size)))) (w.alloc (.map es clock)) := by
  rw [run_callFunc_extern (P := Tryz.prog) (e := Extern.MapsClone.clone) Tryz.func156 (by kernel_rfl) (by kernel_rfl) (by kernel_rfl) (by kernel_rfl)]
  have h2 : (Extern.MapsClone.clone #[.iface 190 (.map (some mb))]).run Tryz.prog w = .ok (.iface 190 (.map (some w.heap.size))) (w.alloc (.map es clock)) := by
    have e : Extern.MapsClone.clone #[.iface 190 (.map (some mb))] = (getObj mb >>= fun o => match o with
      | .map es c => newObj (.map es c) >>= fun r => pure (.iface 190 (.map (some r)))
      | _ => stuck "maps.clone: a map expected") := rfl
    rw [e]
    rw [Sem.run_bind, Go.run_getObj_map w mb es clock h]
    rfl
  rw [h2]
  rfl

/-- The map once more, in a block of its own. -/
theorem LMap.again {w : World} {P : Program} {k : TypeId} {mb n : Nat} {f : Lit → Option Value} (h : LMap w P k mb n f) : ∃ es clock, w.heap[mb]? = some (.map es clock) ∧ LMap (w.alloc (.map es clock)) P k w.heap.size n f := by
  obtain ⟨D, ⟨es, clock, hb, hF, hn, hD⟩, hl⟩ := h
  exact ⟨es, clock, hb, D, ⟨es, clock, heap_alloc_new w _, hF, hn, hD⟩, hl⟩

set_option maxRecDepth 100000 in
set_option maxHeartbeats 2000000 in
theorem cloneM_any {w : World} {mb n : Nat} {f : Lit → Option Value} (h : LMap w Tryz.prog 3 mb n f) :
    Calls Tryz.prog 125 #[.map (some mb)] w fun e w' => e = .returned (.map (some w.heap.size)) ∧ LMap w' Tryz.prog 3 w.heap.size n f ∧ Grew w w' ∧ w.heap.size < w'.heap.size := by
  obtain ⟨es, clock, hb, hL⟩ := h.again
  have hcl := run_clone_map hb
  have heq : (binOp .eql 190 (.map (some mb)) (.map none)).run Tryz.prog w = .ok (.bool false) w := by kernel_rfl
  have hta : ∀ (x : Nat) (W : World), (Instr.typeAssert (.iface 190 (.map (some x))) 20 190 false).run Tryz.prog W = .ok (.map (some x)) W := fun x W => by kernel_rfl
  have hF := hid (And.intro hL (And.intro ((Grew.refl w).alloc (.map es clock)) (show w.heap.size < (w.alloc (.map es clock)).heap.size by simp)))
  clear hL h
  go_enter Tryz.func125, Tryz.ntmps125
  go_wp2_with fail
  go_ret
  exact ⟨rfl, hF.out⟩

set_option maxRecDepth 100000 in
set_option maxHeartbeats 2000000 in
theorem copyD_any {w : World} {F : Nat → Prop} {sb n : Nat} {S : Int → Option An} (h : SeenAt w F sb n S) :
    Calls Tryz.prog 78 #[.pointer (some ⟨sb, 0, none⟩)] w fun e w' => ∃ cb G, e = .returned (.pointer (some ⟨cb, 0, none⟩)) ∧ SeenAt w' G cb n S ∧ (∀ j, G j → w.heap.size ≤ j) ∧ Grew w w' := by
  obtain ⟨mb, f, h⟩ := h
  have c0 := h.c0
  have hsb : sb < w.heap.size := cell_lt c0
  have HC := hid (cloneM_any h.lm)
  have HV := hid (And.intro h.val (And.intro h.lit h.ok))
  clear h
  go_enter Tryz.func78, Tryz.ntmps78
  go_wp2_with fail
  refine HC.out.mono ?_
  rintro e w1 ⟨rfl, hL, hg, hz⟩
  have HF : Hid (∃ G, SeenAt (w1.alloc (.cells #[.map (some w.heap.size)] 192)) G w1.heap.size n S ∧ (∀ j, G j → w.heap.size ≤ j) ∧ Grew w (w1.alloc (.cells #[.map (some w.heap.size)] 192))) := by
    refine ⟨fun j => j = w.heap.size ∨ j = w1.heap.size, ⟨w.heap.size, f, ⟨by simp [go_sem], hL.grew ((Grew.refl _).alloc _), HV.out.1, HV.out.2.1, HV.out.2.2, .inr rfl, .inl rfl, by omega, fun j hj => ?_⟩⟩, fun j hj => ?_, hg.alloc _⟩
    · simp; rcases hj with hj | hj <;> omega
    · have := hg.size; rcases hj with hj | hj <;> omega
  clear hL hg hz
  go_wp2_with fail
  go_ret
  obtain ⟨G, h1, h2, h3⟩ := HF.out
  exact ⟨_, G, rfl, h1, h2, h3⟩
end Go.Proofs.YtifcnammekbfoaaGreatDoor
