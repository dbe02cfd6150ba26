/- The walk of dedup.Bytes. -/
import Derived.Test.YtoiahcgaffffbaaGreatDoorFinStatePlaysQ21
set_option linter.unusedVariables false
set_option linter.unusedSectionVars false
set_option linter.unusedSimpArgs false
namespace Go.Proofs.YtoiahcgaffffbaaGreatDoor
open Go.RowKit Go.Maps Go.Shelf
attribute [local go_sem] Oper.semAt_some uponV
theorem SeenIs.len {w w' : World} {F : Nat → Prop} {sb mb n : Nat} {f : Lit → Option Value} {S : Int → Option An} (h : SeenIs w F sb mb n f S) (g : Grew w w') (ty : TypeId) : (Builtin.len_ #[231] ty #[.map (some mb)]).run Tryz.prog w' = .ok (.int .i64 ((clients S).length : Nat)) w' := by
  obtain ⟨D, hown, hf⟩ := h.lm.grew g
  obtain ⟨hnd, hmem, _, _⟩ := ownsMap_ints hown cl_keyed Tryz.underlying3
  rw [hown.len Tryz.underlying231 ty]
  have hl : Maps.size D = (intKeys D).length := by
    obtain ⟨es, hD, _⟩ := hown.entries cl_keyed
    rw [hD]
    unfold intKeys Maps.size
    simp
  have e : (intKeys D).Perm ((clients S).map (·.1)) := by
    refine (List.perm_ext_iff_of_nodup hnd ((clients_rise S).imp fun {a b} hab => by omega)).2 fun c => ?_
    rw [hmem, hf, h.val, List.mem_map]
    constructor
    · intro hc
      cases hS : S c with
      | none => rw [hS] at hc; exact absurd rfl hc
      | some a => exact ⟨(c, a), mem_clients.2 ⟨by have := h.ok c a hS; omega, hS⟩, rfl⟩
    · rintro ⟨⟨d, a⟩, hd, rfl⟩
      rw [(mem_clients.1 hd).2]
      simp
  rw [hl, e.length_eq, List.length_map]
structure JLen (y : World) (m : Nat) (L : Nat → Bool) (f : Nat → Value) (x : World) : Prop where
  grew : Grew y x
  len : L 5 = true → f 5 = .int .i64 (m : Nat)
def DI (w w4 : World) (ob m : Nat) (pre : List ClK) (W : World) : Prop := (OutL W ob (Pl.numB m ++ clsB (pre.map Subtype.val)) ∧ W.cell? ⟨ob + 1, 0, none⟩ = some (.pointer (some ⟨ob, 0, none⟩)) ∧ (∀ j, OutB ob W j → w.heap.size ≤ j ∧ j ≠ ob + 1) ∧ w4.heap.size ≤ W.heap.size) ∧ Below w.heap.size w W
theorem DI.own {w w4 : World} {ob m : Nat} (h4 : w.heap.size ≤ w4.heap.size) : OwnFrom w4.heap.size (DI w w4 ob m) := by
  rintro pre W W' row ⟨⟨h1, h2, h3, h5⟩, h6⟩ hg hr
  obtain ⟨k1, k2⟩ := h1.own hg (fun r e => (hr r e).2)
  exact ⟨⟨k1, cell_kept h2 hg (fun r e => (hr r e).2), fun j hj => h3 j ((k2 j).1 hj), Nat.le_trans h5 hg.size⟩, h6.grown hg h6.size (fun k e => Nat.le_trans h4 (hr k e).1)⟩
theorem DI.grew {w w4 W W' : World} {ob m : Nat} {pre : List ClK} (h : DI w w4 ob m pre W) (g : Grew W W') : DI w w4 ob m pre W' := by
  obtain ⟨⟨h1, h2, h3, h5⟩, h6⟩ := h
  obtain ⟨k1, k2⟩ := h1.grew g
  exact ⟨⟨k1, (g.cells.1 _ _ (cell_lt h2)).trans h2, fun j hj => h3 j ((k2 j).1 hj), Nat.le_trans h5 g.size⟩, h6.trans (Below.mono g h6.size)⟩
def DA (w4 : World) (ob Bx : Nat) (x : ClK) (W : World) : Prop := w4.heap.size ≤ Bx ∧ W.cell? ⟨Bx, 0, none⟩ = some (.int .i64 x.1.2.seq) ∧ W.cell? ⟨Bx, 1, none⟩ = some (.int .i64 x.1.2.code) ∧ W.cell? ⟨Bx, 2, none⟩ = some (.int .i64 x.1.2.at_) ∧ Bx ≠ ob ∧ ∃ v, W.cell? ⟨ob, 0, none⟩ = some v ∧ v.ownBlock ≠ some Bx
theorem DA.own {w4 : World} {ob Bx : Nat} {x : ClK} {B : Nat} : OwnFrom B (fun (_ : Unit) W => DA w4 ob Bx x W) := by
  rintro _ W W' row ⟨h1, h2, h3, h4, h5, v, h6, h7⟩ hg hr
  have hr' := fun r e => (hr r e).2
  exact ⟨h1, cell_kept h2 hg hr', cell_kept h3 hg hr', cell_kept h4 hg hr', h5, v, cell_kept h6 hg hr', h7⟩
theorem DA.apart {w4 W : World} {ob Bx : Nat} {x : ClK} (h : DA w4 ob Bx x W) : ¬ OutB ob W Bx := by
  obtain ⟨_, _, _, _, h5, v, h6, h7⟩ := h
  rintro (e | ⟨u, hu, hj⟩)
  · exact h5 e
  · rw [h6] at hu; cases hu; exact h7 hj
set_option maxRecDepth 100000 in
set_option maxHeartbeats 8000000 in
theorem bytesD_any {w : World} {F : Nat → Prop} {sb n : Nat} {S : Int → Option An} (h : SeenAt w F sb n S) (hn : n ≤ 1000000) :
    Calls Tryz.prog 91 #[.pointer (some ⟨sb, 0, none⟩)] w fun e w' => ∃ a c, e = .returned (.tuple #[.slice a (seenB S).length c, .nilIface]) ∧ w'.ownsRow w.heap.size 5 1 (.slice a (seenB S).length c) (seenB S).length (u8Flat (seenB S)) ∧ Grew w w' := by
  obtain ⟨mb, f, h⟩ := h
  have HS := hid h
  have c0 := h.c0
  have hsb : sb < w.heap.size := cell_lt c0
  obtain ⟨m, hm⟩ : ∃ m, m = (clients S).length := ⟨_, rfl⟩
  have HM := hid hm
  have hm4 : m ≤ 4 := by rw [hm]; exact clients_len S
  have HLN := hid (fun W (g : Grew w W) ty => h.len g ty)
  rw [← hm] at HLN
  have hmb : mb < w.heap.size := h.lm.lt
  clear h hm
  refine (callsIn_wide (n := 20)).1 (callsIn_of_wp_marks Tryz.func91 rfl trivial ?_)
  refine wpIn_wide.2 ?_
  simp only [Tryz.ntmps91, List.size_toArray, List.length_cons, List.length_nil, Nat.reduceAdd, Nat.reduceSub, Array.replicate_succ, Array.replicate_zero, List.push_toArray, List.append_toArray, List.nil_append, List.cons_append]
  go_wp2_with fail
  obtain ⟨ob, hob⟩ : ∃ ob, ob = w.heap.size := ⟨_, rfl⟩
  obtain ⟨Y, hY⟩ : ∃ Y, Y = (w.alloc (.cells #[.slice none 0 0, .nilIface] 151)).alloc (.cells #[.pointer (some ⟨w.heap.size, 0, none⟩)] 149) := ⟨_, rfl⟩
  have HOB := hid hob
  have hOY : OutAt Y (fun j => j = ob) ob [] := by rw [hY, hob]; exact (OutAt.new w _).grew ((Grew.refl _).alloc _)
  have hgY : Grew w Y := by rw [hY]; exact ((Grew.refl w).alloc _).alloc _
  have hbx : Y.cell? ⟨ob + 1, 0, none⟩ = some (.pointer (some ⟨ob, 0, none⟩)) := by rw [hY, hob]; simp [go_sem]
  have hsz : Y.heap.size = ob + 2 := by rw [hY, hob]; simp
  rw [← hob] at hY ⊢
  rw [← hY]
  have HOY := hid hOY
  have HGY := hid hgY
  have HBX := hid hbx
  have HSZ := hid hsz
  have C0 := wd_cell ((hgY.cells.1 _ 0 hsb).trans c0)
  have C1 := wd_cell hbx
  clear hY hOY hgY hbx hsz hob
  refine wp_region_mixS 6 [5] (Grew Y) Eq (JLen Y m) (fun f a => a.put (some 16) (f 5)) (by kernel_rfl) (by kernel_rfl) (fun _ _ => rfl) ⟨(Grew.refl Y).drew, fun h => by cases h⟩ (fun _ _ _ h => h.grew) (fun _ => rfl) (fun _ _ _ _ h g => g ▸ h) ?_
  repeat (first
    | (refine mixS_loose (by rfl) (by rfl) ?_)
    | (refine mixS_plain (by rfl) (by rfl) (by rfl) (by first | exact Grew.refl | exact fun _ => rfl) (by rfl) ?_; intro K hK; go_big_quiet_op; go_big_quiet_on)
    | (refine mixS_skip (by rfl) (by rfl) (by rfl) ?_; simp only [Act.put, List.setIfInBounds_toArray, List.set_cons_zero, List.set_cons_succ]))
  refine mixS_done (by rfl) ⟨⟨loose_of rfl (fun _ a => a) (fun _ _ => rfl) (fun _ => rfl) ?_, trivial⟩, ?_⟩
  · intro L f x hJ hL hd
    have hln := HLN.out x (HGY.out.trans hJ.grew)
    have HJ := hid hJ
    clear hJ hL hd C0 C1 c0
    go_simp
    exact ⟨HJ.out.grew, fun _ => updV_same _ _ _⟩
  intro f x hJ
  have e5 := hJ.len rfl
  have HGX := hid hJ.grew
  clear hJ C0 C1
  dsimp only [List.drop]
  simp only [Act.put, List.setIfInBounds_toArray, List.set_cons_succ, List.set_cons_zero]
  rw [e5]
  clear e5
  go_wp2_with fail
  refine (outNum_any (HOY.out.grew HGX.out) m (by omega) (by simp)).mono ?_
  rintro e w3 ⟨rfl, hT3⟩
  have HT3 := hid hT3
  clear hT3
  go_wp2_with fail
  refine (risingD_any w3 sb).mono ?_
  rintro e w4 ⟨rfl, hw4⟩
  have HW4 := hid hw4
  clear hw4
  go_wp2_with fail
  have hob := HOB.out
  have hO3 := HT3.out.2.choose_spec.1.l
  have hGw3 : Grew w w3 := HT3.out.new (HGY.out.trans HGX.out) (fun j hj => by rw [hj, hob]; exact Nat.le_refl _)
  have hYs := HSZ.out
  have hxs := HGX.out.size
  have h3s := HT3.out.1.size
  have hb3 : ∀ j, OutB ob w3 j → j = ob ∨ x.heap.size ≤ j := fun j hj => HT3.out.2.choose_spec.2 j (hO3.2 j hj)
  have g4 : Grew w3 w4 := by rw [HW4.out]; exact (Grew.refl w3).alloc _
  have hO4 := hO3.1.grew g4
  have hs4 : w4.heap.size = w3.heap.size + 1 := by rw [HW4.out]; simp
  have hbx4 : w4.cell? ⟨ob + 1, 0, none⟩ = some (.pointer (some ⟨ob, 0, none⟩)) := by
    rw [g4.cells.1 _ _ (by omega), HT3.out.1.cell (by omega) (by omega) 0, HGX.out.cells.1 _ _ (by omega)]
    exact HBX.out
  have hBs : w4.cell? ⟨w3.heap.size, 0, none⟩ = some (.pointer (some ⟨sb, 0, none⟩)) := by rw [HW4.out]; simp [go_sem]
  have hGw4 : Grew w w4 := hGw3.trans g4
  have hI0 : DI w w4 ob m [] w4 := ⟨⟨by simpa [clsB] using hO4.1, hbx4, fun j hj => by
    rcases hb3 j ((hO4.2 j).1 hj) with h | h
    · omega
    · omega, Nat.le_refl _⟩, hGw4⟩
  have hB4 : ∀ j, OutB ob w4 j → j < w3.heap.size := fun j hj => hO3.1.lt j ((hO4.2 j).1 hj)
  have hSB : ∀ W, Below w4.heap.size w4 W → ∀ j, OutB ob W j ↔ OutB ob w4 j := fun W hW j => OutB.same (hW.cell (p := ⟨ob, 0, none⟩) (by show ob < _; omega)) j
  have HI0 := hid hI0
  have HGW4 := hid hGw4
  have hstops := rising_stops 19 (by omega) (KpO w.heap.size ob) w.heap.size (HS.out.kept (hGw4.only fun _ => False) (fun _ _ h => h)) hn hBs hsb hmb hGw4.size (fun h k => h.trans k) (fun A B h => h.1)
    (fun W1 W2 hW1 hk => hk.cell ((hW1.cell (p := ⟨w3.heap.size, 0, none⟩) (by show w3.heap.size < _; omega)).trans hBs) (fun hb => by have := hB4 _ ((hSB W1 hW1 _).1 hb); omega))
    (fun W W1 W2 hW hW1 hk b o hb ho hc => hk.2.2.1 b o ho hc fun hbb => by
      have h1 := hB4 _ ((hSB W1 (hW.trans (Below.mono hW1 hW.size)) _).1 hbb)
      have := hW.size
      omega)
  clear hO3 hb3 g4 hO4 hBs hB4 hSB hI0 hGw3
  refine (wpIn_wide (n := 20)).1 ?_
  refine wpIn_rangeFunc_ownH rfl (by omega) (gf := 203) (lb := #[.pointer (some ⟨w3.heap.size, 0, none⟩)]) rfl trivial (enters_of Tryz.func203 (by kernel_rfl) rfl)
    hstops (fun h k => h.trans k) (KpO.put (by have := hGw4.size; omega) (by omega)) (Below.refl _ _) (fun _ => rfl)
    (DI w w4 ob m) (fun _ _ _ => False) (DI.own hGw4.size) (fun c => fun _ _ _ _ h _ _ => h) HI0.out
    (fun x a' W => ∃ Bx, DA w4 ob Bx x W ∧ a' = { tmps := #[.pointer (some ⟨sb, 0, none⟩), undef, .slice none 0 0, .nilIface, .pointer (some ⟨ob + 1, 0, none⟩), .int .i64 x.1.1, .pointer (some ⟨Bx, 0, none⟩), undef, undef, .agg #[.slice none 0 0, .nilIface], .pointer (some ⟨ob, 0, none⟩), .pointer (some ⟨ob, 0, none⟩), .pointer (some ⟨sb, 0, none⟩), .pointer (some ⟨sb, 0, none⟩), .pointer (some ⟨sb, 0, none⟩), .map (some mb), .int .i64 m, .tuple #[], .pointer (some ⟨sb, 0, none⟩), .func (.func 203) #[] #[.pointer (some ⟨w3.heap.size, 0, none⟩)], .int .i64 x.1.1, x.1.2.agg, undef, undef, undef, undef, undef, undef, undef, undef, undef, undef, undef, undef, undef, undef, undef, undef, undef, undef, undef, undef, undef, undef, undef], defers := [] })
    (fun x a' _ X Y row hs hg hr => by obtain ⟨Bx, h1, h2⟩ := hs; exact ⟨Bx, DA.own () X Y row h1 hg hr, h2⟩)
    ?assign ?body ?done ?stop
  case assign =>
    rintro l pre ⟨⟨c, q, k, t⟩, hx⟩ W K hI hK
    have hz := hI.2.size
    have hzo := hI.1.1.lt ob (.inl rfl)
    clear hob hYs hxs h3s hs4 hstops
    have gA : Grew W (W.alloc (.cells #[.int .i64 q, .int .i64 k, .int .i64 t] 253)) := (Grew.refl W).alloc _
    have HX := hid (hK { tmps := #[.pointer (some ⟨sb, 0, none⟩), undef, .slice none 0 0, .nilIface, .pointer (some ⟨ob + 1, 0, none⟩), .int .i64 c, .pointer (some ⟨W.heap.size, 0, none⟩), undef, undef, .agg #[.slice none 0 0, .nilIface], .pointer (some ⟨ob, 0, none⟩), .pointer (some ⟨ob, 0, none⟩), .pointer (some ⟨sb, 0, none⟩), .pointer (some ⟨sb, 0, none⟩), .pointer (some ⟨sb, 0, none⟩), .map (some mb), .int .i64 m, .tuple #[], .pointer (some ⟨sb, 0, none⟩), .func (.func 203) #[] #[.pointer (some ⟨w3.heap.size, 0, none⟩)], .int .i64 c, .agg #[.int .i64 q, .int .i64 k, .int .i64 t], undef, undef, undef, undef, undef, undef, undef, undef, undef, undef, undef, undef, undef, undef, undef, undef, undef, undef, undef, undef, undef, undef, undef], defers := [] } (W.alloc (.cells #[.int .i64 q, .int .i64 k, .int .i64 t] 253)) (KeepsFrom.grew gA _) (KpO.grew hz hzo gA) (hI.grew gA) ⟨W.heap.size, ⟨hI.1.2.2.2, by simp [go_sem], by simp [go_sem], by simp [go_sem], by omega, by
      obtain ⟨v, hv⟩ := hI.1.1
      refine ⟨v, (gA.cells.1 _ _ hzo).trans hv.c0, fun e => ?_⟩
      have := hI.1.1.lt _ (.inr ⟨v, hv.c0, e⟩)
      omega⟩, rfl⟩)
    clear hK hI gA
    dsimp only [An.agg, encCl]
    gi_wp2
    exact HX.out
  case body =>
    rintro l pre ⟨⟨c, q, k, t⟩, hx1, hx2, hx3⟩ a' W hl hrec hI ⟨Bx, hDA, rfl⟩ hlt
    have s1 : 1 ≤ q := hx3.s1
    have s2 : q ≤ 1073741824 := hx3.s2
    have s3 : k = 1 ∨ k = 2 := hx3.c1
    have s4 : 0 ≤ t := hx3.a1
    have s5 : t < 4096 := hx3.a2
    have s6 : 1 ≤ c := hx1
    have s7 : c ≤ 4 := hx2
    clear hob hYs hxs h3s hs4 hstops hrec
    obtain ⟨⟨i1, i2, i3, i4⟩, i5⟩ := hI
    have hBn := hDA.apart
    obtain ⟨_, b0, b1, b2, _, _⟩ := hDA
    dsimp only at *
    obtain ⟨ds, hds⟩ : ∃ ds, ds = Pl.numB m ++ clsB (pre.map Subtype.val) := ⟨_, rfl⟩
    rw [← hds] at i1
    have HDS := hid hds
    have hdl : ds.length ≤ 100000 := by
      rw [hds, List.length_append]
      have h1 := Pl.numB_len 8 m (by omega)
      have h2 : (clsB (pre.map Subtype.val)).length ≤ pre.length * 40 := by
        clear h1 hds i1 i2 i3 i4 i5 HDS hlt
        induction pre with
        | nil => simp [clsB]
        | cons y ys ih =>
          obtain ⟨⟨yc, ya⟩, y1, y2, y3⟩ := y
          have z1 : 1 ≤ ya.seq := y3.s1
          have z2 : ya.seq ≤ 1073741824 := y3.s2
          have z3 : ya.code = 1 ∨ ya.code = 2 := y3.c1
          have z4 : 0 ≤ ya.at_ := y3.a1
          have z5 : ya.at_ < 4096 := y3.a2
          have z6 : 1 ≤ yc := y1
          have z7 : yc ≤ 4 := y2
          dsimp only at *
          have e1 := Pl.numB_len 8 yc.toNat (by omega)
          have e2 := Pl.numB_len 8 ya.seq.toNat (by omega)
          have e3 := Pl.numB_len 8 ya.code.toNat (by omega)
          have e4 := Pl.numB_len 8 ya.at_.toNat (by omega)
          unfold clsB at ih ⊢
          simp only [List.map_cons, List.flatMap_cons, List.length_append, List.length_cons, clB]
          omega
      omega
    clear hds
    have HI1 := hid i1
    have HI2 := hid i2
    have HI3 := hid i3
    have HI4 := hid i4
    have HI5 := hid i5
    have hz := i5.size
    have hzo := i1.lt ob (.inl rfl)
    obtain ⟨vs, hvs⟩ : ∃ vs : List Int, vs = [c, q, k, t] := ⟨_, rfl⟩
    obtain ⟨W1, hW1⟩ : ∃ W1, W1 = W.alloc (.cells #[.int .i64 c, .int .i64 q, .int .i64 k, .int .i64 t] 3) := ⟨_, rfl⟩
    have g1 : Grew W W1 := by rw [hW1]; exact (Grew.refl W).alloc _
    have HG1 := hid g1
    have HW1 := hid hW1
    have HVS := hid hvs
    have HSL := hid (fun (j : Nat) (hj : j < 4) => show ∃ u : Nat, vs[j]? = some (u : Int) ∧ W1.cell? ⟨W.heap.size, j, none⟩ = some (.int .i64 u) ∧ u < 4611686018427387904 from by
      rw [hvs, hW1]
      match j, hj with
      | 0, _ => exact ⟨c.toNat, by simp; omega, by simp [go_sem]; omega, by omega⟩
      | 1, _ => exact ⟨q.toNat, by simp; omega, by simp [go_sem]; omega, by omega⟩
      | 2, _ => exact ⟨k.toNat, by simp; omega, by simp [go_sem]; omega, by omega⟩
      | 3, _ => exact ⟨t.toNat, by simp; omega, by simp [go_sem]; omega, by omega⟩)
    have hl1 := (i1.grew g1)
    have HL1 := hid hl1.1
    have HB1 := hid (fun j (hj : OutB ob W1 j) => show j < W.heap.size ∧ w.heap.size ≤ j ∧ j ≠ ob + 1 from ⟨i1.lt j ((hl1.2 j).1 hj), i3 j ((hl1.2 j).1 hj)⟩)
    have HBX1 := hid ((g1.cells.1 _ _ (cell_lt i2)).trans i2)
    have hz1 : w.heap.size ≤ W1.heap.size := Nat.le_trans hz g1.size
    clear i1 i2 i3 i4 i5 g1 hW1 hvs hl1
    gi_wp2
    rw [← HW1.out]
    clear b0 b1 b2
    gi_loopw [8, 33] (fun u i wr => ∃ j : Nat, j ≤ 4 ∧ i = .int .i64 j ∧ Hid (OutL wr ob (ds ++ (vs.take j).flatMap fun u => Pl.numB u.toNat)) ∧ Hid (KpO w.heap.size ob W1 wr) ∧ Hid (KeepsFrom w4.heap.size W1 wr)) (fun _ i _ => 4 - (intOf i).toNat)
    case atStart => exact ⟨0, by omega, rfl, by unfold Hid; simpa using HL1.out, KpO.refl _, KeepsFrom.refl _ _⟩
    case round =>
      obtain ⟨j, hj, rfl, HL, HK, HF⟩ := hrel
      have hzr : w.heap.size ≤ wr.heap.size := Nat.le_trans hz1 HK.out.2.1
      have hobr := HK.out.cell HBX1.out (fun h => (HB1.out _ h).2.2 rfl)
      have hobl := cell_lt hobr
      have HBR := hid (fun i (hi : OutB ob wr i) => show w.heap.size ≤ i from by
        rcases HK.out.2.2.2 i hi with h | h
        · exact (HB1.out i h).2.1
        · omega)
      by_cases hlt4 : j < 4
      · obtain ⟨u, hu1, hu2, hu3⟩ := HSL.out j hlt4
        have hc := HK.out.cell hu2 (fun h => by have := (HB1.out _ h).1; omega)
        have hcl := cell_lt hc
        have hlen : (ds ++ (vs.take j).flatMap fun u => Pl.numB u.toNat).length ≤ 90000000 := by
          rw [List.length_append]
          have h2 : ((vs.take j).flatMap fun u => Pl.numB u.toNat).length ≤ 40 := by
            have e1 := Pl.numB_len 8 c.toNat (by omega)
            have e2 := Pl.numB_len 8 q.toNat (by omega)
            have e3 := Pl.numB_len 8 k.toNat (by omega)
            have e4 := Pl.numB_len 8 t.toNat (by omega)
            rw [HVS.out]
            match j, hlt4 with
            | 0, _ => simp
            | 1, _ => simp; omega
            | 2, _ => simp; omega
            | 3, _ => simp; omega
          omega
        have HN := hid (CallsIn.inRound l ((callsIn_wide (n := 17)).2 (outNum_any HL.out u hu3 hlen)))
        have htk : (vs.take (j + 1)).flatMap (fun u => Pl.numB u.toNat) = ((vs.take j).flatMap fun u => Pl.numB u.toNat) ++ Pl.numB u := by
          obtain ⟨hjl, hju⟩ := List.getElem?_eq_some_iff.1 hu1
          rw [List.take_succ_eq_append_getElem hjl, List.flatMap_append, hju]
          simp
        have HTK := hid htk
        clear hu1 hu2 hlen htk
        gi_wp2
        refine ⟨trivial, HN.out.mono ?_⟩
        rintro e w5 ⟨rfl, hT⟩
        obtain ⟨hk1, hL1, hF1⟩ := KpO.turn HL.out hzr HBR.out hT
        have HL5 := hid hL1
        have HK5 := hid (HK.out.trans hk1)
        have HF5 := hid (HF.out.trans (hF1 w4.heap.size))
        clear hT hk1 hL1 hF1 hc hobr
        gi_wp2
        go_roundw
        case rel => exact ⟨j + 1, by omega, by go_num, by unfold Hid; rw [HTK.out, ← List.append_assoc]; exact HL5.out, HK5.out, HF5.out⟩
        case measure => simp [intOf]; omega
      · have hj4 : j = 4 := by omega
        subst hj4
        have HEND : Hid (OutL wr ob (Pl.numB m ++ clsB ((pre ++ [(⟨(c, ⟨q, k, t⟩), hx1, hx2, hx3⟩ : ClK)]).map Subtype.val))) := by
          have e : ds ++ ((vs.take 4).flatMap fun u => Pl.numB u.toNat) = Pl.numB m ++ clsB ((pre ++ [(⟨(c, ⟨q, k, t⟩), hx1, hx2, hx3⟩ : ClK)]).map Subtype.val) := by
            rw [HDS.out, HVS.out]
            unfold clsB
            simp [clB, List.append_assoc]
          unfold Hid
          rw [← e]
          exact HL.out
        have HOK := hid hobr
        have HNE := hid (fun i (hi : OutB ob wr i) => show i ≠ ob + 1 from by
          rcases HK.out.2.2.2 i hi with h | h
          · exact (HB1.out i h).2.2
          · have : ob + 1 < W1.heap.size := cell_lt HBX1.out
            omega)
        clear hobr
        gi_wp2
        refine ⟨(KeepsFrom.grew HG1.out _).trans HF.out, (KpO.grew hz hzo HG1.out).trans HK.out, ⟨⟨HEND.out, HOK.out, fun i hi => ⟨HBR.out i hi, HNE.out i hi⟩, ?_⟩, ?_⟩⟩
        · exact Nat.le_trans HI4.out (Nat.le_trans HG1.out.size HK.out.2.1)
        · exact HI5.out.trans ((Below.mono HG1.out hz).trans HK.out.1)
  case done =>
    rintro D ys W hD hS ⟨⟨i1, i2, i3, i4⟩, i5⟩ hK
    clear hob hYs hxs h3s hs4 hstops
    have hlen : (Pl.numB m ++ clsB (ys.map Subtype.val)) = seenB S := by rw [hS, HM.out]; rfl
    rw [hlen] at i1
    have hsb65 : (seenB S).length ≤ 65536 := by
      rw [← hlen, List.length_append]
      have h1 := Pl.numB_len 8 m (by omega)
      have h3 : ys.length ≤ 4 := by have := congrArg List.length hS; rw [List.length_map] at this; have := clients_len S; omega
      have h2 : (clsB (ys.map Subtype.val)).length ≤ ys.length * 40 := by
        clear hS hlen h3 h1
        induction ys with
        | nil => simp [clsB]
        | cons y ys ih =>
          obtain ⟨⟨yc, ya⟩, y1, y2, y3⟩ := y
          have z1 : 1 ≤ ya.seq := y3.s1
          have z2 : ya.seq ≤ 1073741824 := y3.s2
          have z3 : ya.code = 1 ∨ ya.code = 2 := y3.c1
          have z4 : 0 ≤ ya.at_ := y3.a1
          have z5 : ya.at_ < 4096 := y3.a2
          have z6 : 1 ≤ yc := y1
          have z7 : yc ≤ 4 := y2
          have e1 := Pl.numB_len 8 yc.toNat (by omega)
          have e2 := Pl.numB_len 8 ya.seq.toNat (by omega)
          have e3 := Pl.numB_len 8 ya.code.toNat (by omega)
          have e4 := Pl.numB_len 8 ya.at_.toNat (by omega)
          unfold clsB at ih ⊢
          simp only [List.map_cons, List.flatMap_cons, List.length_append, List.length_cons, clB]
          omega
      omega
    have HD := hid (outDone_any i1 hsb65)
    have HWB := hid i5
    have hobl := cell_lt i2
    have HK := hid hK
    have hDW : D < W.heap.size := (Array.getElem?_eq_some_iff.1 hK).1
    have hD4 := Nat.le_trans HGW4.out.size hD
    clear i1 i3 hlen
    go_wp2_with fail
    refine HD.out.mono ?_
    rintro e W5 ⟨a5, c5, rfl, hr5, hg5⟩
    have hK5 := (hg5.below.block D hDW).trans HK.out
    have HR5 := hid hr5
    have HG5 := hid hg5
    have HK5 := hid hK5
    clear hr5 hg5 hK5 hK
    go_wp2_with fail
    refine ⟨by simp, .inl ⟨_, _, rfl, run_takeDeferred HK5.out, ?_⟩⟩
    refine ⟨.tuple #[.slice a5 (seenB S).length c5, .nilIface], by simp [results, Tryz.f91, go_sem], a5, c5, rfl, ?_, ?_⟩
    · refine ownsRow_base i5.size (ownsRow_kept HR5.out (Only.of_grownBy (grownBy_putObj' _ D _)) fun b hb e => ?_)
      have := (HR5.out.lt b hb).1
      have : b = D := Option.some.inj e
      omega
    · exact HWB.out.trans ((Below.mono HG5.out i5.size).trans (belowK_b (w := w) (Nat.le_refl _) W5 D _ _ hD4 HK5.out rfl rfl))
  case stop =>
    rintro D c pre W hD _ h _
    exact h.elim
end Go.Proofs.YtoiahcgaffffbaaGreatDoor
