/- Jn2, Mrg, Aud2: one text. -/
import Derived.Test.YtbdagllflamabaaGreatDoorFinWatchReplaysQ36
import Derived.Test.YtbdagllflamabaaGreatDoorFinWatchReplaysQ28
import Derived.BigRegionIn
import Derived.Test.YtbdagllflamabaaGreatDoorFinWatchReplaysQ35
import Derived.Test.YtbdagllflamabaaGreatDoorFinWatchReplaysQ10
import Derived.Test.YtbdagllflamabaaGreatDoorFinWatchReplaysQ34
set_option linter.unusedVariables false
set_option linter.unusedSectionVars false
set_option linter.unusedSimpArgs false
namespace Go.Proofs.YtbdagllflamabaaGreatDoor
open Go.RowKit Go.Maps Go.Shelf
attribute [local go_sem] Oper.semAt_some
def joinC (S : Int → Option An) (x : Int × An) : Int → Option An := if seqO (S x.1) < x.2.seq then noteS S x.1 x.2 else S
def joinL (S : Int → Option An) (xs : List (Int × An)) : Int → Option An := xs.foldl joinC S
theorem joinL_snoc (S : Int → Option An) (xs : List (Int × An)) (x : Int × An) : joinL S (xs ++ [x]) = joinC (joinL S xs) x := by
  unfold joinL
  rw [List.foldl_append]; rfl
theorem field_last (X : World) (a b c : Value) (h : a.oneCell' = true) : (Instr.field 242 (.agg #[a, b, c]) 0).run Tryz.prog X = .ok a X := by
  cases a <;> first | (simp [Value.oneCell'] at h; done) | kernel_rfl
theorem grew_drewN (W : World) (k : Nat) : Grew W (W.drewN k) := by
  have h := (Grew.refl W)
  exact ⟨h.os, h.tape, h.output, h.size, h.block⟩
def KpJ (n₀ mR : Nat) (A B : World) : Prop := A.heap.size ≤ B.heap.size ∧ (∀ b, b < n₀ → b ≠ mR → B.heap[b]? = A.heap[b]?) ∧ ∀ (b : Nat) (o : Obj), n₀ ≤ b → A.heap[b]? = some o → o.isCells = true → B.heap[b]? = some o
theorem KpJ.trans {n₀ mR : Nat} {A B C : World} (h : KpJ n₀ mR A B) (k : KpJ n₀ mR B C) : KpJ n₀ mR A C := ⟨Nat.le_trans h.1 k.1, fun b h1 h2 => (k.2.1 b h1 h2).trans (h.2.1 b h1 h2), fun b o h1 h2 h3 => k.2.2 b o h1 (h.2.2 b o h1 h2 h3) h3⟩
theorem KpJ.put {n₀ mR : Nat} {w : World} (hn : n₀ ≤ w.heap.size) (W : World) (l : Nat) (o o' : Obj) (hl : w.heap.size ≤ l) (h1 : W.heap[l]? = some o) (h2 : o.isCells = false) (h3 : o.isWalk = false) : KpJ n₀ mR W (W.putObj l o') := by
  refine ⟨?_, fun b hb _ => ?_, fun b q hb hq hc => ?_⟩
  · exact (grownBy_putObj' W l o').size
  · exact (grownBy_putObj' W l o').block b (by have := (Array.getElem?_eq_some_iff.1 h1).1; omega) (fun e => by have := Option.some.inj e; omega)
  · refine ((grownBy_putObj' W l o').block b (Array.getElem?_eq_some_iff.1 hq).1 (fun e => ?_)).trans hq
    have e := Option.some.inj e
    subst e
    rw [h1] at hq; cases hq
    rw [h2] at hc; cases hc
theorem KpJ.only {n₀ mR : Nat} {A B : World} (g : Only (fun j => j = mR) A B) (hm : mR < n₀) (hn : n₀ ≤ A.heap.size) : KpJ n₀ mR A B :=
  ⟨g.size, fun b hb h2 => g.block b (by omega) h2, fun b o hb h1 _ => (g.block b (Array.getElem?_eq_some_iff.1 h1).1 (fun (e : b = mR) => by omega)).trans h1⟩
theorem SeenIs.note2 {w w' : World} {F : Nat → Prop} {sb mb n : Nat} {f : Lit → Option Value} {S : Int → Option An} (h : SeenIs w F sb mb n f S) (c : Int) (a : An) (h1 : 1 ≤ c) (h2 : c ≤ 4) (h3 : a.Ok) (hn : n ≤ 1000000) (g : Grew w w') :
    ∃ w2 f2, (Instr.mapUpdate 213 (.map (some mb)) (.int .i64 c) a.agg).run Tryz.prog w' = .ok () w2 ∧ Only (fun j => j = mb) w' w2 ∧ SeenIs w2 F sb mb (n + 1) f2 (noteS S c a) := by
  have hg := h.kept (g.only fun _ => False) (fun _ _ h => h)
  obtain ⟨w2, hrun, r1, r2⟩ := hg.lm.store (val := a.agg) cl_keyed Tryz.underlying213 (by unfold maxLen; omega) (keyOf_int_mk Tryz.underlying3 (clit_wf (c := c) (by omega) (by omega)))
  have hO : Only (fun j => j = mb) w' w2 := Only.of_turned r2
  refine ⟨w2, _, hrun, hO, ⟨(hO.cell (cell_lt hg.c0) (fun e => h.ne e) 0).trans hg.c0, r1, fun d => ?_, fun l hl => ?_, fun d b hb => ?_, h.foot0, h.foot1, h.ne, fun j hj => Nat.lt_of_lt_of_le (h.lt j hj) (Nat.le_trans g.size hO.size)⟩⟩
  · unfold lset noteS clit
    by_cases hd : d = c
    · subst hd; simp
    · rw [if_neg hd, if_neg (fun e => hd (by injection e)), ← h.val]; rfl
  · unfold lset at hl
    by_cases hd : l = .int .i64 c
    · exact ⟨c, hd⟩
    · rw [if_neg hd] at hl; exact h.lit l hl
  · unfold noteS at hb
    by_cases hd : d = c
    · rw [if_pos hd] at hb; cases hb; subst hd; exact ⟨h1, h2, h3⟩
    · rw [if_neg hd] at hb; exact h.ok d b hb
def DJ (w w4 : World) (F : Nat → Prop) (sR mR nR : Nat) (S : Int → Option An) (pre : List ClK) (W : World) : Prop :=
  (∃ n f, n ≤ nR + pre.length ∧ SeenIs W F sR mR n f (joinL S (pre.map Subtype.val))) ∧ Only F w W ∧ W.cell? ⟨w.heap.size, 0, none⟩ = some (.pointer (some ⟨sR, 0, none⟩)) ∧ w4.heap.size ≤ W.heap.size
theorem DJ.turn {w w4 : World} {F : Nat → Prop} {sR mR nR : Nat} {S : Int → Option An} {pre : List ClK} {W W' : World} {Q : Nat → Prop} (h : DJ w w4 F sR mR nR S pre W) (hF : ∀ j, F j → j < w.heap.size) (g : Only Q W W') (hQ : ∀ j, Q j → w.heap.size + 1 ≤ j) : DJ w w4 F sR mR nR S pre W' := by
  obtain ⟨⟨n, f, h1, h2⟩, h3, h4, h5⟩ := h
  refine ⟨⟨n, f, h1, h2.kept g fun j hj hq => ?_⟩, h3.trans g fun j hj => .inr ?_, (g.cell (cell_lt h4) (fun hq => ?_) 0).trans h4, Nat.le_trans h5 g.size⟩
  · have := hF j hj; have := hQ j hq; omega
  · have := hQ j hj; omega
  · have q := hQ w.heap.size hq; omega
theorem DJ.own {w w4 : World} {F : Nat → Prop} {sR mR nR : Nat} {S : Int → Option An} (hF : ∀ j, F j → j < w.heap.size) (h4 : w.heap.size + 1 ≤ w4.heap.size) : OwnFrom w4.heap.size (DJ w w4 F sR mR nR S) := by
  intro pre W W' row h hg hr
  exact h.turn hF (Only.of_grownBy hg) fun j hj => Nat.le_trans h4 (hr j hj.symm).1
def DB (w4 : World) (Bx : Nat) (x : ClK) (W : World) : Prop := w4.heap.size ≤ Bx ∧ W.cell? ⟨Bx, 0, none⟩ = some (.int .i64 x.1.2.seq) ∧ W.cell? ⟨Bx, 1, none⟩ = some (.int .i64 x.1.2.code) ∧ W.cell? ⟨Bx, 2, none⟩ = some (.int .i64 x.1.2.at_)
theorem DB.own {w4 : World} {Bx : Nat} {x : ClK} {B : Nat} : OwnFrom B (fun (_ : Unit) W => DB w4 Bx x W) := by
  rintro _ W W' row ⟨h1, h2, h3, h4⟩ hg hr
  have hr' := fun r e => (hr r e).2
  exact ⟨h1, cell_kept h2 hg hr', cell_kept h3 hg hr', cell_kept h4 hg hr'⟩
set_option maxRecDepth 100000 in
set_option maxHeartbeats 8000000 in
theorem joinD_any {w : World} {F G : Nat → Prop} {sR sO nR nO : Nat} {S T : Int → Option An} (h : SeenAt w F sR nR S) (k : SeenAt w G sO nO T) (hd : ∀ j, G j → ¬ F j) (hn : nR ≤ 100000) (hn2 : nO ≤ 1000000) :
    Calls Tryz.prog 147 #[.pointer (some ⟨sR, 0, none⟩), .pointer (some ⟨sO, 0, none⟩)] w fun e w' => e = .returned (.tuple #[]) ∧ ∃ n', n' ≤ nR + 4 ∧ SeenTurn w F sR n' (joinL S (clients T)) w' := by
  obtain ⟨mR, fR, h⟩ := h
  obtain ⟨mO, fO, k⟩ := k
  have HR := hid h
  have HO := hid k
  have hsR : sR < w.heap.size := cell_lt h.c0
  have hsO : sO < w.heap.size := cell_lt k.c0
  have hmR : mR < w.heap.size := h.lm.lt
  have hmO : mO < w.heap.size := k.lm.lt
  have hne : sO ≠ mR ∧ mO ≠ mR ∧ sR ≠ mR := ⟨fun e => hd _ k.foot0 (by rw [e]; exact h.foot1), fun e => hd _ k.foot1 (by rw [e]; exact h.foot1), h.ne⟩
  clear h k
  refine (callsIn_wide (n := 20)).1 (callsIn_of_wp_marks Tryz.func147 rfl trivial ?_)
  refine wpIn_wide.2 ?_
  simp only [Tryz.ntmps147, List.size_toArray, List.length_cons, List.length_nil, Nat.reduceAdd, Nat.reduceSub, Array.replicate_succ, Array.replicate_zero, List.push_toArray, List.append_toArray, List.nil_append, List.cons_append]
  go_wp2_with fail
  refine (risingD_any _ sO).mono ?_
  rintro e w4 ⟨rfl, hw4⟩
  have HW4 := hid hw4
  clear hw4
  go_wp2_with fail
  have g4 : Grew w w4 := by rw [HW4.out]; exact ((Grew.refl w).alloc _).alloc _
  have hs4 : w4.heap.size = w.heap.size + 2 := by rw [HW4.out]; simp
  have hbx : w4.cell? ⟨w.heap.size, 0, none⟩ = some (.pointer (some ⟨sR, 0, none⟩)) := by rw [HW4.out]; simp [go_sem]
  have hBs : w4.cell? ⟨w.heap.size + 1, 0, none⟩ = some (.pointer (some ⟨sO, 0, none⟩)) := by rw [HW4.out]; simp [go_sem]
  have hBh : ∃ o : Obj, w4.heap[w.heap.size + 1]? = some o ∧ o.isCells = true := by
    have hs : (w.alloc (.cells #[.pointer (some ⟨sR, 0, none⟩)] 49)).heap.size = w.heap.size + 1 := by simp
    rw [HW4.out, ← hs]
    exact ⟨_, heap_alloc_new _ _, rfl⟩
  have hFl := HR.out.lt
  have hI0 : DJ w w4 F sR mR nR S [] w4 := ⟨⟨nR, fR, by simp, HR.out.kept (g4.only fun _ => False) (fun _ _ h => h)⟩, g4.only _, hbx, Nat.le_refl _⟩
  have hstops := rising_stops2 19 (by omega) (KpJ w.heap.size mR) (HO.out.kept (g4.only fun _ => False) (fun _ _ h => h)) hn2 hBs (fun h k => h.trans k) (fun A B h => ⟨h.2.1 _ hsO hne.1, h.2.1 _ hmO hne.2.1⟩)
    (fun W1 W2 hW1 hk => by
      obtain ⟨o, ho, hc⟩ := hBh
      have q1 := (hW1.block (w.heap.size + 1) (by omega)).trans ho
      have q2 := hk.2.2 _ o (by omega) q1 hc
      rw [cell_same (q2.trans ho.symm) 0]
      exact hBs)
    (fun W W1 W2 hW hW1 hk b o hb ho hc => hk.2.2 b o (by have := hW.size; omega) ho hc)
  have HI0 := hid hI0
  clear hI0 hbx hBh
  refine (wpIn_wide (n := 20)).1 ?_
  refine wpIn_rangeFunc_ownH rfl (by omega) (gf := 192) (lb := #[.pointer (some ⟨w.heap.size + 1, 0, none⟩)]) rfl trivial (enters_of Tryz.func192 (by kernel_rfl) rfl)
    hstops (fun h k => h.trans k) (KpJ.put (by omega)) (Below.refl _ _) (fun _ => rfl)
    (DJ w w4 F sR mR nR S) (fun _ _ _ => False) (DJ.own hFl (by omega)) (fun c => fun _ _ _ _ h _ _ => h) HI0.out
    (fun x a' W => ∃ Bx, DB w4 Bx x W ∧ a' = { tmps := #[.pointer (some ⟨sR, 0, none⟩), .pointer (some ⟨sO, 0, none⟩), .pointer (some ⟨w.heap.size, 0, none⟩), undef, .int .i64 x.1.1, .pointer (some ⟨Bx, 0, none⟩), .pointer (some ⟨sO, 0, none⟩), .func (.func 192) #[] #[.pointer (some ⟨w.heap.size + 1, 0, none⟩)], .int .i64 x.1.1, x.1.2.agg, undef, undef, undef, undef, undef, undef, undef, undef, undef, undef, undef, undef, undef, undef, undef, undef], defers := [] })
    (fun x a' _ X Y row hs hg hr => by obtain ⟨Bx, h1, h2⟩ := hs; exact ⟨Bx, DB.own () X Y row h1 hg hr, h2⟩)
    ?assign ?body ?done ?stop
  case assign =>
    rintro l pre ⟨⟨c, q, k, t⟩, hx⟩ W K hI hK
    have hz := hI.2.2.2
    have gA : Grew W (W.alloc (.cells #[.int .i64 q, .int .i64 k, .int .i64 t] 242)) := (Grew.refl W).alloc _
    have HX := hid (hK { tmps := #[.pointer (some ⟨sR, 0, none⟩), .pointer (some ⟨sO, 0, none⟩), .pointer (some ⟨w.heap.size, 0, none⟩), undef, .int .i64 c, .pointer (some ⟨W.heap.size, 0, none⟩), .pointer (some ⟨sO, 0, none⟩), .func (.func 192) #[] #[.pointer (some ⟨w.heap.size + 1, 0, none⟩)], .int .i64 c, .agg #[.int .i64 q, .int .i64 k, .int .i64 t], undef, undef, undef, undef, undef, undef, undef, undef, undef, undef, undef, undef, undef, undef, undef, undef], defers := [] } (W.alloc (.cells #[.int .i64 q, .int .i64 k, .int .i64 t] 242)) (KeepsFrom.grew gA _) (KpJ.only (gA.only _) hmR (by omega)) (hI.turn hFl (gA.only fun _ => False) (fun _ h => h.elim)) ⟨W.heap.size, ⟨hz, by simp [go_sem], by simp [go_sem], by simp [go_sem]⟩, rfl⟩)
    clear hK hI gA hs4 hstops
    dsimp only [An.agg, encCl]
    gi_wp2
    exact HX.out
  case body =>
    rintro l pre ⟨⟨c, q, k, t⟩, hx1, hx2, hx3⟩ a' W hl hrec hI ⟨Bx, hDB, rfl⟩ hlt
    have s1 : 1 ≤ q := hx3.s1
    have s2 : q ≤ 1073741824 := hx3.s2
    have s6 : 1 ≤ c := hx1
    have s7 : c ≤ 4 := hx2
    clear hstops hrec
    obtain ⟨⟨n, f, hn', hSN⟩, hO, hbx, hsz⟩ := hI
    obtain ⟨hBx, b0, b1, b2⟩ := hDB
    dsimp only at *
    have c0 := hSN.c0
    have hsl := cell_lt c0
    have hbl := cell_lt hbx
    have hBl := cell_lt b0
    have HSN := hid hSN
    unfold An.agg
    dsimp only
    obtain ⟨vq, hvq⟩ : ∃ v, v = seqO (joinL S (pre.map Subtype.val) c) := ⟨_, rfl⟩
    obtain ⟨vk, hvk⟩ : ∃ v, v = codeO (joinL S (pre.map Subtype.val) c) := ⟨_, rfl⟩
    obtain ⟨vt, hvt⟩ : ∃ v, v = atO (joinL S (pre.map Subtype.val) c) := ⟨_, rfl⟩
    have HLK := hid (fun (X : World) (g : Grew W X) => show (Instr.lookup 213 (.map (some mR)) (.int .i64 c) false).run Tryz.prog X = .ok (.agg #[.int .i64 vq, .int .i64 vk, .int .i64 vt]) X from by
      have h7 := (HSN.out.lm.grew g).lookup cl_keyed Tryz.underlying213 (zero_last X) (keyOf_int_mk Tryz.underlying3 (clit_wf (c := c) (by omega) (by omega)))
      rw [show (Lit.int .i64 c) = clit c from rfl, HSN.out.val] at h7
      rw [hvq, hvk, hvt]
      cases h8 : joinL S (pre.map Subtype.val) c with
      | none => rw [h8] at h7; exact h7
      | some a => rw [h8] at h7; exact h7)
    have HJC := hid (show joinL S ((pre ++ [(⟨(c, ⟨q, k, t⟩), hx1, hx2, hx3⟩ : ClK)]).map Subtype.val) = if vq < q then noteS (joinL S (pre.map Subtype.val)) c ⟨q, k, t⟩ else joinL S (pre.map Subtype.val) from by
      rw [List.map_append, List.map_singleton, joinL_snoc, hvq]; rfl)
    have HOW := hid hO
    have HSZ := hid hsz
    have hWs := hO.size
    clear hvq hvk hvt hO hsz
    have hfd := fun j : Nat => field_last (W.drewN j) (.int .i64 vq) (.int .i64 vk) (.int .i64 vt) rfl
    have hlk3 := fun j : Nat => HLK.out (W.drewN j) (grew_drewN W j)
    gi_wp2
    refine region_quiet_round (F := Fence.wide) (C := fun w' => ∃ k : Nat, w' = W.drewN k) rfl (by kernel_rfl) (by kernel_rfl) (by kernel_rfl) ⟨1, rfl⟩ ?_
    dsimp only
    repeat (gi_big_quiet_step (fail))
    refine wpQuietIn_nil ?_
    rintro X ⟨k2, rfl⟩
    have gX := grew_drewN W k2
    generalize W.drewN k2 = X at *
    have hXs := gX.size
    by_cases hq : vq < q
    · have d0 := (gX.cells.1 _ 0 hsl).trans c0
      have dx := (gX.cells.1 _ 0 hbl).trans hbx
      have e0 := (gX.cells.1 _ 0 hBl).trans b0
      have e1 := (gX.cells.1 _ 1 hBl).trans b1
      have e2 := (gX.cells.1 _ 2 hBl).trans b2
      obtain ⟨X2, f2, hrun, hO2, hS2⟩ := HSN.out.note2 c ⟨q, k, t⟩ hx1 hx2 hx3 (by have := hn'; omega) gX.drew
      have hO3 : Only (fun j => j = mR) W X2 := (gX.drew.only _).then hO2
      have HEND : Hid (KeepsFrom w4.heap.size W X2 ∧ KpJ w.heap.size mR W X2 ∧ DJ w w4 F sR mR nR S (pre ++ [(⟨(c, ⟨q, k, t⟩), hx1, hx2, hx3⟩ : ClK)]) X2) := by
        refine ⟨⟨hO3.size, fun j o hj ho _ => (hO3.block j (Array.getElem?_eq_some_iff.1 ho).1 (fun (e : j = mR) => by omega)).trans ho⟩, KpJ.only hO3 hmR (by omega), ⟨n + 1, f2, by rw [List.length_append, List.length_singleton]; omega, ?_⟩, HOW.out.then (hO3.mono fun j hj => .inl (by rw [hj]; exact HR.out.foot1)), (hO3.cell hbl (fun (e : w.heap.size = mR) => by omega) 0).trans hbx, Nat.le_trans HSZ.out hO3.size⟩
        rw [HJC.out, if_pos hq]
        exact hS2
      unfold An.agg at hrun
      dsimp only at hrun
      clear hO2 hS2 hO3 gX hlk3 hfd c0 b0 b1 b2 hbx hs4
      gi_wp2
      gi_region
      all_goals gi_wp2
      all_goals exact HEND.out
    · have hO3 : Only (fun j => j = mR) W X := gX.only _
      have HEND : Hid (KeepsFrom w4.heap.size W X ∧ KpJ w.heap.size mR W X ∧ DJ w w4 F sR mR nR S (pre ++ [(⟨(c, ⟨q, k, t⟩), hx1, hx2, hx3⟩ : ClK)]) X) := by
        refine ⟨KeepsFrom.grew gX _, KpJ.only hO3 hmR (by omega), ⟨n, f, by rw [List.length_append, List.length_singleton]; omega, ?_⟩, HOW.out.then (hO3.mono fun j hj => .inl (by rw [hj]; exact HR.out.foot1)), (gX.cells.1 _ 0 hbl).trans hbx, Nat.le_trans HSZ.out hXs⟩
        rw [HJC.out, if_neg hq]
        exact HSN.out.kept (gX.only fun _ => False) (fun _ _ h => h)
      clear hO3 gX hlk3 hfd c0 b0 b1 b2 hbx hs4
      gi_wp2
      exact HEND.out
  case done =>
    rintro D ys W hD hS ⟨⟨n, f, hn', hSN⟩, hO, hbx, hsz⟩ hK
    have hyl : ys.length ≤ 4 := by have := congrArg List.length hS; rw [List.length_map] at this; have := clients_len T; omega
    rw [hS] at hSN
    have HK := hid hK
    have HF := hid (show SeenAt W F sR n (joinL S (clients T)) from ⟨mR, f, hSN⟩)
    have HO2 := hid hO
    have hD4 : w4.heap.size ≤ D := hD
    clear hstops hSN hO hK
    have hDn : w.heap.size ≤ D := by omega
    clear hs4 hD hD4
    go_wp2_with fail
    refine ⟨by simp, .inl ⟨_, _, rfl, run_takeDeferred HK.out, ?_⟩⟩
    have hP := Only.of_grownBy (grownBy_putObj' W D (Obj.deferred none))
    refine ⟨.tuple #[], by simp [results, Tryz.f147, go_sem], rfl, n, by omega, HO2.out.trans hP (fun j hj => .inr (by have := Option.some.inj hj; omega)), HF.out.kept hP (fun j hj e => by have := Option.some.inj e; have := HR.out.lt j hj; omega)⟩
  case stop =>
    rintro D c pre W hD _ h _
    exact h.elim
end Go.Proofs.YtbdagllflamabaaGreatDoor
namespace Go.Proofs.YtbdagllflamabaaGreatDoor
open Go.RowKit Go.Maps
attribute [local go_sem] Oper.semAt_some uponV
namespace Pl
theorem dup_srt {zs : List Pr} (h : Srt zs) : dupN zs = false := dup_none fun i hi e => by
  have h1 := List.pairwise_iff_getElem.1 (srt_ap h) i (i + 1) (by omega) hi (by omega)
  rw [prAt_eq zs i (by omega), prAt_eq zs (i + 1) hi] at e
  exact h1 e
end Pl
def MrgEnd (w : World) (Ft Fs : Nat → Prop) (st n : Nat) (lo hi : ByteArray) (R : List Pr) (S : Int → Option An) (w' : World) : Prop :=
  Only (fun j => BlS Ft Fs st j) w w' ∧ ∃ Ft' n', n' ≤ n + 4 ∧ StAt w' Ft' Fs st n' lo hi R S ∧ ∀ j, Ft' j → Ft j ∨ w.heap.size ≤ j
def MrgPost (E : Nat → Addr) (w : World) (Ft Fs : Nat → Prop) (st n : Nat) (v : ByteArray × ByteArray) (R : List Pr) (S : Int → Option An) (c : Nat) (e : Ending) (w' : World) : Prop :=
  (c ≠ 0 ∧ e = .returned (errOf E c) ∧ Grew w w') ∨ (c = 0 ∧ e = .returned .nilIface ∧ MrgEnd w Ft Fs st n v.1 v.2 R S w')
set_option maxRecDepth 100000 in
set_option maxHeartbeats 8000000 in
theorem mergeS_any (S0 : Nat → Bool) (E : Nat → Addr) (hS0 : SpanS S0) (hS18 : S0 18 = true) {w : World} (hE : Errs S0 E w) {Ft Fs Gt Gs : Nat → Prop} {st su n m : Nat} {lo hi lo' hi' : ByteArray} {P Q R : List Pr} {S T : Int → Option An} (h : StAt w Ft Fs st n lo hi P S) (k : StAt w Gt Gs su m lo' hi' Q T)
    (hd : ∀ j, BlS Gt Gs su j → ¬ BlS Ft Fs st j) (hRp : Pl.joinE (Pl.rightS lo hi) (Pl.rightS lo' hi') lo hi lo' hi' = 0 → Pl.Srt R ∧ R.Perm (P ++ Q)) (hx : P.length ≤ 1000) (hy : Q.length ≤ 1000) (hn : n ≤ 100000) (hm : m ≤ 100000) (hl : lo.size ≤ 300) (hh : hi.size ≤ 300) (hl' : lo'.size ≤ 300) (hh' : hi'.size ≤ 300) :
    Calls Tryz.prog 88 #[.pointer (some ⟨st, 0, none⟩), .pointer (some ⟨su, 0, none⟩)] w (MrgPost E w Ft Fs st n (Pl.joinV (Pl.rightS lo hi) (Pl.rightS lo' hi') lo hi lo' hi') R (joinL S (clients T)) (Pl.joinE (Pl.rightS lo hi) (Pl.rightS lo' hi') lo hi lo' hi')) := by
  have HJN := hid (fun W (g : Grew w W) => join_any S0 E hS0 lo hi lo' hi' W (by omega) (by omega) (by omega) (by omega) (hE.grew g))
  unfold MrgPost
  obtain ⟨tb, sb, h⟩ := h
  obtain ⟨tc, sc, k⟩ := k
  have HST := hid h
  have HSU := hid k
  have HQ := hid (fun (h0 : Pl.joinE (Pl.rightS lo hi) (Pl.rightS lo' hi') lo hi lo' hi' = 0) => show Pl.Good R ∧ (∀ (zs : List Pr) (h1 : zs.Perm (P ++ Q)) (h2 : Pl.Ordered zs), zs = R) ∧ Pl.dupN R = false from ⟨fun c hc => by
    rcases List.mem_append.1 ((hRp h0).2.mem_iff.1 hc) with q | q
    · exact h.good c q
    · exact k.good c q, fun zs h1 h2 => Pl.join_self (hRp h0).1 (h1.trans (hRp h0).2.symm) h2, Pl.dup_srt (hRp h0).1⟩)
  have HTJ := hid (fun W (g : Grew w W) => joinT_any E hS18 (hE.grew g) (h.tab.grew g) (k.tab.grew g) (by omega))
  have HD := hid hd
  have c0 := h.c0
  have c1 := h.c1
  have c2 := h.c2
  have k1 := k.c1
  have k2 := k.c2
  have hst : st < w.heap.size := cell_lt c1
  have hsu : su < w.heap.size := cell_lt k1
  clear h k hE hd hRp
  generalize Pl.joinV (Pl.rightS lo hi) (Pl.rightS lo' hi') lo hi lo' hi' = v at *
  generalize Pl.joinE (Pl.rightS lo hi) (Pl.rightS lo' hi') lo hi lo' hi' = c at *
  obtain ⟨vl, vh⟩ := v
  unfold JoinPost at HJN
  dsimp only at HJN ⊢
  have C1 := wd_cell c1
  have C2 := wd_cell c2
  have K1 := wd_cell k1
  have K2 := wd_cell k2
  have HEI : Hid (c = 0 ∧ errOf E c = .nilIface ∨ c ≠ 0 ∧ errOf E c = .iface 343 (.pointer (some (E c)))) := by
    unfold Hid errOf
    by_cases h : c = 0
    · exact .inl ⟨h, if_pos h⟩
    · exact .inr ⟨h, if_neg h⟩
  generalize hee : errOf E c = ee at *
  go_enter Tryz.func88, Tryz.ntmps88
  go_upto_region 1 with fail
  refine wp_region_mixS 14 [12, 13] (Grew w) Grew (JV [⟨12, 13, [.string vl, .string vh]⟩] w) (fun f a => a.put (some 5) (f 12)) (by kernel_rfl) (by kernel_rfl) (fun _ _ => rfl) (JV.start _ w _) (fun _ _ _ h => h.grew) Grew.refl (fun _ _ _ _ h g => h.more g) ?_
  repeat (first
    | (refine mixS_loose (by rfl) (by rfl) ?_)
    | (refine mixS_plain (by rfl) (by rfl) (by rfl) (by first | exact Grew.refl | exact fun _ => rfl) (by rfl) ?_; intro K hK; go_big_quiet_op; go_big_quiet_on)
    | (refine mixS_call (by rfl) (by rfl) (by rfl) (by rfl) (fun _ => by kernel_rfl) (fun u hu => HJN.out u hu) ?_; simp only [Act.put, List.setIfInBounds_toArray, List.set_cons_zero, List.set_cons_succ])
    | (refine mixS_skip (by rfl) (by rfl) (by rfl) ?_; simp only [Act.put, List.setIfInBounds_toArray, List.set_cons_zero, List.set_cons_succ]))
  refine mixS_done (by rfl) ⟨⟨loose_of rfl (fun _ a => a) (fun _ _ => rfl) (fun _ => rfl) ?_, loose_of rfl (fun f a => a.put (some 5) (f 12)) (fun _ _ => rfl) (fun _ => rfl) ?_, trivial⟩, ?_⟩
  · intro L f u hJ hL hd
    clear C1 C2 K1 K2 c0 c1 c2 k1 k2
    go_simp
    exact hJ.alloc (by rfl) (V := ⟨12, 13, [.string vl, .string vh]⟩) (by simp) hL [.string ⟨#[]⟩, .string ⟨#[]⟩] rfl _
  · intro L f u hJ hL hd
    clear C1 C2 K1 K2 c0 c1 c2 k1 k2
    obtain ⟨m, x, y, hm, k0, k1, f0, f1⟩ := hJ.two (V := ⟨12, 13, [.string vl, .string vh]⟩) (by simp) (hd 12 rfl (by decide)) rfl
    dsimp only at hm
    rw [hm]
    go_simp
    exact hJ.store (by rfl) (V := ⟨12, 13, [.string vl, .string vh]⟩) (by simp) (hd 12 rfl (by decide)) hm
  intro f u hJ
  obtain ⟨m8, q8, n8, l8, hc8⟩ := hJ.full (V := ⟨12, 13, [.string vl, .string vh]⟩) (by simp) rfl
  dsimp only at q8
  have o0 := (hc8 0 _ rfl).1
  have o1 := (hc8 1 _ rfl).1
  have HGU := hid hJ.grew
  clear hJ hc8 C1 C2 K1 K2
  dsimp only [List.drop]
  simp only [Act.put, List.setIfInBounds_toArray, List.set_cons_succ, List.set_cons_zero]
  rw [q8]
  clear q8
  rcases HEI.out with ⟨rfl, rfl⟩ | ⟨hc, rfl⟩
  · have HGR := hid (HQ.out rfl).1
    have HZS := hid (HQ.out rfl).2.1
    have HDP := hid (HQ.out rfl).2.2
    clear HQ
    have d0 := (HGU.out.cells.1 _ 0 hst).trans c0
    have j0 := (HGU.out.cells.1 _ 0 hsu).trans HSU.out.c0
    have hstu := Nat.lt_of_lt_of_le hst HGU.out.size
    have hsuu := Nat.lt_of_lt_of_le hsu HGU.out.size
    have D0 := wd_cell d0
    have J0 := wd_cell j0
    clear d0 j0 HJN hee
    go_upto_region 4 with fail
    refine wp_region_still 8 (by kernel_rfl) (by kernel_rfl) (fun _ _ => rfl) ?_
    repeat (first
    | (refine mixS_plain (by rfl) (by rfl) (by rfl) (by first | exact Grew.refl | exact fun _ => rfl) (by rfl) ?_; intro K hK; go_big_quiet_op; go_big_quiet_on)
    | (refine mixS_skip (by rfl) (by rfl) (by rfl) ?_; simp only [Act.put, List.setIfInBounds_toArray, List.set_cons_zero, List.set_cons_succ]))
    refine mixS_done (by rfl) ?_
    intro x hGx
    have HGX := hid (HGU.out.trans hGx)
    have o0 := (hGx.cells.1 _ 0 l8).trans o0
    have o1 := (hGx.cells.1 _ 1 l8).trans o1
    have hm8 := Nat.lt_of_lt_of_le l8 hGx.size
    have hns : w.heap.size ≤ m8 := n8
    clear D0 J0 hGx l8
    dsimp only [List.drop]
    go_wp2_with fail
    refine (HTJ.out x HGX.out).mono ?_
    rintro e w2 ⟨zs, hz1, hz2, ⟨hb, _⟩ | ⟨_, rfl, hO, Ft', hT1, hF1⟩⟩
    · have := HZS.out zs hz1 hz2
      subst this
      rw [HDP.out] at hb; cases hb
    have := HZS.out zs hz1 hz2
    subst this
    have hnF : ∀ j, w.heap.size ≤ j → ¬ Ft j := fun j hj hf => by have := tabAt_lt HST.out.tab j hf; omega
    have hxs := HGX.out.size
    have o0 := (hO.cell hm8 (hnF _ hns) 0).trans o0
    have o1 := (hO.cell hm8 (hnF _ hns) 1).trans o1
    have hnst : ¬ Ft st := fun h => (HST.out.apart st h).2 rfl
    have hstx := Nat.lt_of_lt_of_le hst hxs
    have s0 := (hO.cell hstx hnst 0).trans ((HGX.out.cells.1 _ 0 hst).trans HST.out.c0)
    have s1 := (hO.cell hstx hnst 1).trans ((HGX.out.cells.1 _ 1 hst).trans HST.out.c1)
    have s2 := (hO.cell hstx hnst 2).trans ((HGX.out.cells.1 _ 2 hst).trans HST.out.c2)
    have s3 := (hO.cell hstx hnst 3).trans ((HGX.out.cells.1 _ 3 hst).trans HST.out.c3)
    have HFZ := hid (fun i => (hO.frozen hstx hnst i).trans ((HGX.out.cells.2 _ i hst).trans (HST.out.f0 i)))
    have z1 := HFZ.out 1
    have z2 := HFZ.out 2
    have hst2 := Nat.lt_of_lt_of_le hstx hO.size
    have hm82 := Nat.lt_of_lt_of_le hm8 hO.size
    have hnsu : ¬ Ft su := fun h => HD.out su (.inr (.inr rfl)) (.inl h)
    have r3 := (hO.cell (Nat.lt_of_lt_of_le hsu hxs) hnsu 3).trans ((HGX.out.cells.1 _ 3 hsu).trans HSU.out.c3)
    have hsu2 := Nat.lt_of_lt_of_le hsu (Nat.le_trans hxs hO.size)
    have HO2 := hid (show Only Ft w w2 from (HGX.out.only _).then hO)
    have HSEN := hid (HST.out.seen.kept HO2.out (fun j hj e => (HST.out.apart j e).1 hj))
    have HSEU := hid (HSU.out.seen.kept HO2.out (fun j hj e => HD.out j (.inr (.inl hj)) (.inl e)))
    have HT1 := hid (And.intro hT1 hF1)
    clear hO hT1 hF1 hnF hnst hnsu hstx hm8
    go_upto_region 8 with fail
    obtain ⟨Z, hZ⟩ : ∃ Z, Z = (w2.setCell ⟨st, 1, none⟩ (.string vl)).setCell ⟨st, 2, none⟩ (.string vh) := ⟨_, rfl⟩
    have hOZ : Only (fun j => j = st) w2 Z := by rw [hZ]; exact (Only.setCell w2 ⟨st, 1, none⟩ _).then (Only.setCell _ ⟨st, 2, none⟩ _)
    have d0 : Z.cell? ⟨st, 0, none⟩ = some (.pointer (some ⟨tb, 0, none⟩)) := by rw [hZ]; simp [go_sem, s0]
    have d1 : Z.cell? ⟨st, 1, none⟩ = some (.string vl) := by rw [hZ]; simp [go_sem, s1]
    have d2 : Z.cell? ⟨st, 2, none⟩ = some (.string vh) := by rw [hZ]; simp [go_sem, s2]
    have d3 : Z.cell? ⟨st, 3, none⟩ = some (.pointer (some ⟨sb, 0, none⟩)) := by rw [hZ]; simp [go_sem, s3]
    have HDZ := hid (fun i => show Z.frozen? ⟨st, i, none⟩ = false from by rw [hZ, World.frozen?_setCell, World.frozen?_setCell]; exact HFZ.out i)
    have hne : ¬ su = st := fun e => HD.out su (.inr (.inr rfl)) (.inr (.inr e))
    have r3 := (hOZ.cell hsu2 hne 3).trans r3
    have HSENZ := hid (HSEN.out.kept hOZ (fun j hj e => HST.out.own j hj e))
    have HSEUZ := hid (HSEU.out.kept hOZ (fun j hj e => HD.out j (.inr (.inl hj)) (.inr (.inr e))))
    have HOZ := hid hOZ
    have hstZ := cell_lt d0
    have hsuZ := cell_lt r3
    rw [← hZ]
    have D3 := wd_cell d3
    have J3 := wd_cell r3
    clear hZ hOZ s0 s1 s2 s3 z1 z2 o0 o1 r3
    refine wp_region_still 8 (by kernel_rfl) (by kernel_rfl) (fun _ _ => rfl) ?_
    repeat (first
    | (refine mixS_plain (by rfl) (by rfl) (by rfl) (by first | exact Grew.refl | exact fun _ => rfl) (by rfl) ?_; intro K hK; go_big_quiet_op; go_big_quiet_on)
    | (refine mixS_skip (by rfl) (by rfl) (by rfl) ?_; simp only [Act.put, List.setIfInBounds_toArray, List.set_cons_zero, List.set_cons_succ]))
    refine mixS_done (by rfl) ?_
    intro y hGy
    have HGY := hid hGy
    clear D3 J3 hGy
    dsimp only [List.drop]
    go_wp2_with fail
    refine (joinD_any (HSENZ.out.grew HGY.out) (HSEUZ.out.grew HGY.out) (fun j hj e => HD.out j (.inr (.inl hj)) (.inr (.inl e))) hn (by omega)).mono ?_
    rintro e w3 ⟨rfl, n', hn', hO3, hS3⟩
    have HFIN := hid (show MrgEnd w Ft Fs st n vl vh zs (joinL S (clients T)) w3 from by
      have hFs := HST.out.seen.lt
      have hFt := tabAt_lt HST.out.tab
      have hOy : Only Fs Z w3 := (HGY.out.only _).then hO3
      have hnF : ¬ Fs st := fun h => HST.out.own st h rfl
      have hT1 : ∀ j, Ft' j → ¬ (j = st) ∧ ¬ Fs j := fun j hj => by
        rcases HT1.out.2 j hj with q | q
        · exact ⟨(HST.out.apart j q).2, (HST.out.apart j q).1⟩
        · exact ⟨fun e => by omega, fun e => by have := hFs j e; omega⟩
      refine ⟨((HO2.out.mono fun j hj => .inl (.inl hj)).then (HOZ.out.mono fun j (hj : j = st) => .inl (.inr (.inr hj)))).then (hOy.mono fun j hj => .inl (.inr (.inl hj))), Ft', n', hn', ⟨tb, sb, ⟨(hOy.cell hstZ hnF 0).trans d0, (hOy.cell hstZ hnF 1).trans d1, (hOy.cell hstZ hnF 2).trans d2, (hOy.cell hstZ hnF 3).trans d3, fun i => (hOy.frozen hstZ hnF i).trans (HDZ.out i), (HT1.out.1.kept HOZ.out fun j hj e => (hT1 j hj).1 e).kept hOy fun j hj e => (hT1 j hj).2 e, hS3, HGR.out, fun j hj => ⟨(hT1 j hj).2, (hT1 j hj).1⟩, HST.out.own⟩⟩, fun j hj => (HT1.out.2 j hj).imp id fun q => by omega⟩)
    clear hO3 hS3 d0 d1 d2 d3
    go_wp2_with fail
    go_ret
    exact ⟨rfl, HFIN.out⟩
  · have hcN := hid hc
    have HF := hid HGU.out
    clear hc HJN
    go_wp2_with fail
    go_ret
    exact .inl ⟨hcN.out, rfl, HF.out⟩
end Go.Proofs.YtbdagllflamabaaGreatDoor
namespace Go.Proofs.YtbdagllflamabaaGreatDoor
theorem updS_same (st : Nat → Option (List Pr × (Int → Option An))) (i : Nat) (v) : updS st i v i = v := if_pos rfl
theorem updS_ne (st : Nat → Option (List Pr × (Int → Option An))) {i j : Nat} (v) (h : j ≠ i) : updS st i v j = st j := if_neg h
theorem sum_upd (g g' : Nat → Nat) (i : Nat) (hne : ∀ j, j ≠ i → g' j = g j) : ∀ n, i < n → ((List.range n).map g').sum + g i = ((List.range n).map g).sum + g' i
  | 0, h => absurd h (Nat.not_lt_zero i)
  | n + 1, h => by
    rw [List.range_succ, List.map_append, List.map_append, List.sum_append, List.sum_append]
    simp only [List.map_cons, List.map_nil, List.sum_cons, List.sum_nil, Nat.add_zero]
    by_cases e : i = n
    · subst e
      have : (List.range i).map g' = (List.range i).map g := List.map_congr_left fun j hj => hne j (by have := List.mem_range.1 hj; omega)
      rw [this]
      omega
    · have := sum_upd g g' i hne n (by omega)
      rw [hne n (by omega)]
      omega
theorem tot_upd (st : Nat → Option (List Pr × (Int → Option An))) (i : Nat) (v) (hi : i < 13) : totS (updS st i v) + lenS (st i) = totS st + lenS v := by
  have := sum_upd (fun j => lenS (st j)) (fun j => lenS (updS st i v j)) i (fun j hj => by rw [updS_ne st v hj]) 13 hi
  simp only [updS_same] at this
  exact this
theorem len_tot (st : Nat → Option (List Pr × (Int → Option An))) (i : Nat) (hi : i < 13) : lenS (st i) ≤ totS st := by
  have := tot_upd st i none hi
  have h0 : lenS none = 0 := rfl
  omega
def AuP.init : AuP := ⟨0, ShSt.init, fun i => if i = 1 then some ([], fun _ => none) else none⟩
theorem auOk_init : AuOk AuP.init 0 where
  inv := Pl.inv_init
  chain := Pl.chain_init
  dom := by
    intro c hc
    rw [List.mem_singleton.1 hc]
    exact ⟨[], _, rfl, Pl.inS_nil _ _⟩
  back := by
    intro i hi
    refine ⟨sh0, List.mem_singleton.2 rfl, ?_⟩
    by_cases e : i = 1
    · subst e; rfl
    · exact absurd (if_neg e) hi
  few := by decide
  sz := by
    intro c hc
    rw [List.mem_singleton.1 hc]
    exact ⟨by decide, by decide⟩
namespace Pl
def shOf (A : AuP) (i : Nat) : Sh := shAt A.sh.xs (findM A.sh.xs (i : Int)).toNat
def joinP (ci cj : Sh) (P Q : List Pr) : List Pr := if none0 ci.hi = false ∧ ci.hi.toList = cj.lo.toList then P ++ Q else Q ++ P
def changeS (A : AuP) (e : En) : Nat → Option (List Pr × (Int → Option An)) :=
  if e.kind = 3 then
    match A.st e.shard.toNat with
    | none => A.st
    | some (P, S) => updS (updS A.st e.shard.toNat (some (P.take (cutN P e.key), S))) e.other.toNat (some (P.drop (cutN P e.key), S))
  else if e.kind = 4 then
    match A.st e.shard.toNat, A.st e.other.toNat with
    | some (P, S), some (Q, T) => updS (updS A.st e.shard.toNat (some (joinP (shOf A e.shard.toNat) (shOf A e.other.toNat) P Q, joinL S (clients T)))) e.other.toNat none
    | _, _ => A.st
  else A.st
def applyA (A : AuP) (e : En) (at' : Int) : Nat × AuP :=
  if rightB e = false then (4, A)
  else if at' < A.at_ ∨ at' < 0 ∨ 4096 ≤ at' then (1, A)
  else if e.kind = 1 then
    match A.st e.shard.toNat with
    | none => (0, ⟨at' + 1, A.sh, A.st⟩)
    | some (P, S) => ((writeG (shOf A e.shard.toNat).lo (shOf A e.shard.toNat).hi P S e at').err, ⟨at' + 1, A.sh, updS A.st e.shard.toNat (some ((writeG (shOf A e.shard.toNat).lo (shOf A e.shard.toNat).hi P S e at').P, (writeG (shOf A e.shard.toNat).lo (shOf A e.shard.toNat).hi P S e at').S))⟩)
  else if applyB A.sh.xs A.sh.used e at' = true then (0, ⟨at' + 1, doneP A.sh e at', changeS A e⟩)
  else (0, ⟨at' + 1, A.sh, A.st⟩)
theorem sh_uniq {A : AuP} {m : Nat} (h : AuOk A m) {c : Sh} (hc : c ∈ A.sh.xs) {i : Nat} (hi : c.id = (i : Int)) : shOf A i = c := by
  obtain ⟨k, hk, rfl⟩ := List.getElem_of_mem hc
  unfold shOf
  have e : shAt A.sh.xs k = A.sh.xs[k] := shAt_eq _ k hk
  rw [← hi, ← e, find_at h.inv.nodup k hk, Int.toNat_natCast, e]
end Pl
end Go.Proofs.YtbdagllflamabaaGreatDoor
