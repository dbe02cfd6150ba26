/- MapI, Uni, Opn, Fgt, Opn2: one text. -/
import Derived.Test.YthmjbeieheacmaaGreatDoorFinPlayCursorsQ9
import Derived.Test.YthmjbeieheacmaaGreatDoorFinPlayCursorsQ8
set_option linter.unusedVariables false
set_option linter.unusedSectionVars false
namespace Go.Proofs.YthmjbeieheacmaaGreatDoor
open Go.RowKit Go.Maps Go.ChangeMaps Go.MapKept Go.WideShapes
theorem keyOf_int_inv {P : Program} {k : TypeId} (hk : P.underlying k = some (.int .i64)) {v : Value} {l : Lit} (h : keyOf P k v = some l) : ∃ c : Int, v = .int .i64 c ∧ l = clit c ∧ (Lit.int .i64 c).wf = true := by
  cases v <;> simp [keyOf, hk, mapKey] at h
  obtain ⟨⟨rfl, hw⟩, rfl⟩ := h
  exact ⟨_, rfl, rfl, hw⟩
section
variable {w : World} {P : Program} {k e t : TypeId} {b n r cnt : Nat} {f : Lit → Option Value} {left : Lit → Bool}
theorem wpList_next_MI {ops : Array Oper} {rest : List Oper} {o : Oper} {a : Act} {Q : Exit → Act → World → Prop} (hg : o.guard = none) (it : Operand) (hop : o.op = Op.next it false) (hk : P.underlying k = some (.int .i64)) (K : Keyed P k) (r : Nat) (left : Lit → Bool) (cnt : Nat)
    (hit : a.eval it = .pointer (some ⟨r, 0, none⟩)) (h : MRange w P k b r n f left cnt)
    (hDone : (∀ l, left l = false) → wpList P ops Q rest (a.put o.dst (.tuple #[.bool false])) w)
    (hMore : ∀ (c : Int) (v : Value) (w' : World) (cnt' : Nat), (Lit.int .i64 c).wf = true → left (clit c) = true → f (clit c) = some v → MRange w' P k b r n f (fun z => left z && !z.sameKey (clit c)) cnt' → cnt' < cnt → Only (fun j => j = r) w w' → w'.heap.size = w.heap.size → (Instr.entry (.pointer (some ⟨r, 0, none⟩))).run P w' = .ok (.tuple #[.int .i64 c, v]) w' → wpList P ops Q rest (a.put o.dst (.tuple #[.bool true, .int .i64 c, v])) w') :
    wpList P ops Q (o :: rest) a w := by
  obtain ⟨D, h, hf⟩ := h
  refine wpList_next_ranges w hg it hop k K raw (Value.int .i64) (fun v : Value => v) (fun key kl hkey => by
    obtain ⟨c, rfl, rfl, _⟩ := keyOf_int_inv hk hkey
    exact ⟨_, rfl⟩) (fun v y _ => ⟨v, rfl⟩) b r n D left cnt hit h (fun _ h0 => hDone h0) ?_
  intro c v kl y w' cnt' hkey hl hv hat hrg hlt hgr hsz hen
  obtain ⟨c', e, rfl, hwf⟩ := keyOf_int_inv hk hkey
  cases e
  cases hv
  have hlook : f (clit c) = some v := by
    rw [← hf]
    unfold lookD
    rw [if_pos (has_true_of_atKey hat), hat]
  exact hMore c v w' cnt' hwf hl hlook ⟨D, hrg, hf⟩ hlt ((Only.of_grownBy hgr).mono fun j hj => .inl (Option.some.inj hj)) hsz hen
end
theorem clit_same (a b : Int) : (clit a).sameKey (clit b) = decide (a = b) := by
  by_cases h : a = b
  · subst h; rw [decide_eq_true rfl]; simp [clit, Lit.sameKey]
  · rw [decide_eq_false h]
    refine Maps.sameKey_ne (fun e => h ?_)
    unfold clit at e
    injection e
end Go.Proofs.YthmjbeieheacmaaGreatDoor
set_option linter.unusedSimpArgs false
namespace Go.Proofs.YthmjbeieheacmaaGreatDoor
open Go.RowKit Go.Maps
attribute [local go_sem] Oper.semAt_some uponV
def ptrFlat (gs : List Nat) : List Value := gs.map fun b => .pointer (some ⟨b, 0, none⟩)
def natFlat (ns : List Nat) : List Value := ns.map fun (n : Nat) => .int .i64 (n : Int)
def KinU (k l : Nat) : Prop := k ≤ l ∧ l < k + 20
structure SegAt (w : World) (L : Nat → Nat) (k gb : Nat) (g : Pl.Sg) : Prop where
  lab : L gb = k + 3 + g.place
  c0 : w.cell? ⟨gb, 0, none⟩ = some (.int .i64 g.place)
  c1 : w.cell? ⟨gb, 1, none⟩ = some (.int .i64 g.num)
  c2 : ∃ rv m xs, m ≤ g.sect ∧ w.cell? ⟨gb, 2, none⟩ = some rv ∧ w.ownsRow 0 79 1 rv m xs ∧ ∀ b, rv.ownBlock = some b → L b = k + 6 + g.place
  c3 : w.cell? ⟨gb, 3, none⟩ = some (.int .i64 ((g.sect + 1 : Nat) : Int))
  fz : ∀ i, w.frozen? ⟨gb, i, none⟩ = false
structure SgIs (w : World) (L : Nat → Nat) (k sb db : Nat) (sv : Value) (gs : List Nat) (S : List Pl.Sg) : Prop where
  lab : L sb = k + 1
  c0 : w.cell? ⟨sb, 0, none⟩ = some (.pointer (some ⟨db, 0, none⟩))
  c1 : w.cell? ⟨sb, 1, none⟩ = some sv
  fz : ∀ i, w.frozen? ⟨sb, i, none⟩ = false
  dev : ∃ G, DkAt w G db 192 0 ∧ ∀ j, G j → L j = k
  row : w.ownsRow 0 151 1 sv S.length (ptrFlat gs)
  rowL : ∀ b, sv.ownBlock = some b → L b = k + 2
  len : gs.length = S.length
  seg : ∀ (i gb : Nat) (g : Pl.Sg), gs[i]? = some gb → S[i]? = some g → SegAt w L k gb g
def PagesAt (w : World) (L : Nat → Nat) (k : Nat) (U : Pl.Un) (f : Lit → Option Value) : Prop :=
  (∀ a : Nat, (∀ bs, U.get a = some bs → ∃ b off c, f (clit a) = some (.slice (some ⟨b, off, none⟩) bs.length c) ∧ BytesAt w (some ⟨b, off, none⟩) bs ∧ b < w.heap.size ∧ L b = k + 19) ∧ (U.get a = none → f (clit a) = none)) ∧ ∀ l, f l ≠ none → ∃ a : Nat, l = clit a
def Pl.insN (U : Pl.Un) (n : Nat) : List Nat := (U.pgs.filter fun p => decide (p.seg = n)).map (·.adr)
def InsAt (w : World) (L : Nat → Nat) (k : Nat) (U : Pl.Un) (f : Lit → Option Value) : Prop :=
  (∀ g ∈ U.segs, (Pl.insN U g.num = [] → f (clit g.num) = none) ∧ (Pl.insN U g.num ≠ [] → ∃ v, f (clit g.num) = some v ∧ w.ownsRow 0 3 1 v (Pl.insN U g.num).length (natFlat (Pl.insN U g.num)) ∧ ∀ b, v.ownBlock = some b → L b = k + 12 + g.place)) ∧ ∀ l, f l ≠ none → ∃ g ∈ U.segs, l = clit g.num
structure UnIs (w : World) (L : Nat → Nat) (k ub sb db mb nb n : Nat) (sv : Value) (gs : List Nat) (f h : Lit → Option Value) (U : Pl.Un) : Prop where
  lab : L ub = k + 9
  labM : L mb = k + 10
  labN : L nb = k + 11
  c0 : w.cell? ⟨ub, 0, none⟩ = some (.pointer (some ⟨sb, 0, none⟩))
  c1 : w.cell? ⟨ub, 1, none⟩ = some (.map (some mb))
  c2 : w.cell? ⟨ub, 2, none⟩ = some (.map (some nb))
  c3 : w.cell? ⟨ub, 3, none⟩ = some (.int .i64 U.trim)
  c4 : w.cell? ⟨ub, 4, none⟩ = some (.int .i64 U.epoch)
  c5 : w.cell? ⟨ub, 5, none⟩ = some (.int .i64 U.top)
  fz : ∀ i, w.frozen? ⟨ub, i, none⟩ = false
  store : SgIs w L k sb db sv gs U.segs
  pm : LMap w Tryz.prog 3 mb n f
  pages : PagesAt w L k U f
  im : LMap w Tryz.prog 3 nb n h
  ins : InsAt w L k U h
def UnAt (w : World) (L : Nat → Nat) (k ub n : Nat) (U : Pl.Un) : Prop := ∃ sb db mb nb sv gs f h, UnIs w L k ub sb db mb nb n sv gs f h U
section
variable {w w' : World} {L L' : Nat → Nat} {T : Nat → Prop} {k ub sb db mb nb n gb : Nat} {sv : Value} {gs : List Nat} {f h : Lit → Option Value} {U : Pl.Un} {S : List Pl.Sg} {g : Pl.Sg}
theorem SegAt.kept (hG : SegAt w L k gb g) (hp : g.place < 3) (o : Only T w w') (hT : ∀ j, j < w.heap.size → T j → ¬ KinU k (L j)) (hL : ∀ j, j < w.heap.size → L' j = L j) : SegAt w' L' k gb g := by
  have hlt := cell_lt hG.c0
  have ht : ¬ T gb := fun t => hT gb hlt t (by rw [hG.lab]; unfold KinU; omega)
  obtain ⟨rv, m, xs, h1, h2, h3, h4⟩ := hG.c2
  refine ⟨(hL gb hlt).trans hG.lab, (o.cell hlt ht 0).trans hG.c0, (o.cell hlt ht 1).trans hG.c1, ⟨rv, m, xs, h1, (o.cell hlt ht 2).trans h2, ownsRow_kept h3 o fun b hb t => hT b (h3.lt b hb).2 t (by rw [h4 b hb]; unfold KinU; omega), fun b hb => (hL b (h3.lt b hb).2).trans (h4 b hb)⟩, (o.cell hlt ht 3).trans hG.c3, fun i => (o.frozen hlt ht i).trans (hG.fz i)⟩
theorem SgIs.kept (hS : SgIs w L k sb db sv gs S) (hp : ∀ g ∈ S, g.place < 3) (o : Only T w w') (hT : ∀ j, j < w.heap.size → T j → ¬ KinU k (L j)) (hL : ∀ j, j < w.heap.size → L' j = L j) : SgIs w' L' k sb db sv gs S := by
  have hlt := cell_lt hS.c0
  have ht : ¬ T sb := fun t => hT sb hlt t (by rw [hS.lab]; unfold KinU; omega)
  obtain ⟨G, h1, h2⟩ := hS.dev
  refine ⟨(hL sb hlt).trans hS.lab, (o.cell hlt ht 0).trans hS.c0, (o.cell hlt ht 1).trans hS.c1, fun i => (o.frozen hlt ht i).trans (hS.fz i), ⟨G, h1.kept o fun j hj t => hT j (h1.lt j hj) t (by rw [h2 j hj]; unfold KinU; omega), fun j hj => (hL j (h1.lt j hj)).trans (h2 j hj)⟩, ownsRow_kept hS.row o fun b hb t => hT b (hS.row.lt b hb).2 t (by rw [hS.rowL b hb]; unfold KinU; omega), fun b hb => (hL b (hS.row.lt b hb).2).trans (hS.rowL b hb), hS.len, fun i gb g h3 h4 => (hS.seg i gb g h3 h4).kept (hp g (List.mem_of_getElem? h4)) o hT hL⟩
theorem PagesAt.kept (hP : PagesAt w L k U f) (o : Only T w w') (hT : ∀ j, j < w.heap.size → T j → ¬ KinU k (L j)) (hL : ∀ j, j < w.heap.size → L' j = L j) : PagesAt w' L' k U f := by
  refine ⟨fun a => ⟨fun bs hb => ?_, (hP.1 a).2⟩, hP.2⟩
  obtain ⟨b, off, c, h1, h2, h3, h4⟩ := (hP.1 a).1 bs hb
  refine ⟨b, off, c, h1, h2.kept o fun b' off' e t => ?_, Nat.lt_of_lt_of_le h3 o.size, (hL b h3).trans h4⟩
  cases e
  exact hT b h3 t (by rw [h4]; unfold KinU; omega)
theorem InsAt.kept (hP : InsAt w L k U h) (hp : ∀ g ∈ U.segs, g.place < 3) (o : Only T w w') (hT : ∀ j, j < w.heap.size → T j → ¬ KinU k (L j)) (hL : ∀ j, j < w.heap.size → L' j = L j) : InsAt w' L' k U h := by
  refine ⟨fun g hg => ⟨((hP.1 g hg).1), fun hn => ?_⟩, hP.2⟩
  obtain ⟨v, h1, h2, h3⟩ := (hP.1 g hg).2 hn
  have := hp g hg
  exact ⟨v, h1, ownsRow_kept h2 o fun b hb t => hT b (h2.lt b hb).2 t (by rw [h3 b hb]; unfold KinU; omega), fun b hb => (hL b (h2.lt b hb).2).trans (h3 b hb)⟩
theorem UnIs.kept (hU : UnIs w L k ub sb db mb nb n sv gs f h U) (hp : ∀ g ∈ U.segs, g.place < 3) (o : Only T w w') (hT : ∀ j, j < w.heap.size → T j → ¬ KinU k (L j)) (hL : ∀ j, j < w.heap.size → L' j = L j) : UnIs w' L' k ub sb db mb nb n sv gs f h U := by
  have hlt := cell_lt hU.c0
  have ht : ¬ T ub := fun t => hT ub hlt t (by rw [hU.lab]; unfold KinU; omega)
  exact ⟨(hL ub hlt).trans hU.lab, (hL mb hU.pm.lt).trans hU.labM, (hL nb hU.im.lt).trans hU.labN, (o.cell hlt ht 0).trans hU.c0, (o.cell hlt ht 1).trans hU.c1, (o.cell hlt ht 2).trans hU.c2, (o.cell hlt ht 3).trans hU.c3, (o.cell hlt ht 4).trans hU.c4, (o.cell hlt ht 5).trans hU.c5, fun i => (o.frozen hlt ht i).trans (hU.fz i), hU.store.kept hp o hT hL,
    hU.pm.kept o (fun t => hT mb hU.pm.lt t (by rw [hU.labM]; unfold KinU; omega)), hU.pages.kept o hT hL, hU.im.kept o (fun t => hT nb hU.im.lt t (by rw [hU.labN]; unfold KinU; omega)), hU.ins.kept hp o hT hL⟩
theorem UnAt.kept (hU : UnAt w L k ub n U) (hp : ∀ g ∈ U.segs, g.place < 3) (o : Only T w w') (hT : ∀ j, j < w.heap.size → T j → ¬ KinU k (L j)) (hL : ∀ j, j < w.heap.size → L' j = L j) : UnAt w' L' k ub n U := by
  obtain ⟨sb, db, mb, nb, sv, gs, f, h, hU⟩ := hU
  exact ⟨sb, db, mb, nb, sv, gs, f, h, hU.kept hp o hT hL⟩
theorem UnAt.grew (hU : UnAt w L k ub n U) (hp : ∀ g ∈ U.segs, g.place < 3) (o : Grew w w') (hL : ∀ j, j < w.heap.size → L' j = L j) : UnAt w' L' k ub n U := hU.kept hp (o.only fun _ => False) (fun _ _ h => h.elim) hL
theorem UnAt.lt (hU : UnAt w L k ub n U) : ub < w.heap.size := by
  obtain ⟨sb, db, mb, nb, sv, gs, f, h, hU⟩ := hU
  exact cell_lt hU.c0
theorem UnAt.lab (hU : UnAt w L k ub n U) : L ub = k + 9 := by
  obtain ⟨sb, db, mb, nb, sv, gs, f, h, hU⟩ := hU
  exact hU.lab
end
end Go.Proofs.YthmjbeieheacmaaGreatDoor
namespace Go.Proofs.YthmjbeieheacmaaGreatDoor
open Go.RowKit Go.Maps
attribute [local go_sem] Oper.semAt_some uponV
set_option maxRecDepth 100000 in
theorem insSeg0 (c : Value) (w : World) : Calls Tryz.prog 125 #[.slice none 0 0, .int .i64 0, .int .i64 0, c] w fun e w' => e = .returned (.tuple #[]) ∧ w' = w := by
  go_enter Tryz.func125, Tryz.ntmps125
  go_wp2_with fail
  refine wp_loop_rounds 1 ?_
  rw [rounds_succ]
  go_wp2
  go_end0
  exact ⟨rfl, rfl⟩
set_option maxRecDepth 100000 in
theorem stableSeg0 (c : Value) (w : World) : Calls Tryz.prog 101 #[.slice none 0 0, .int .i64 0, c] w fun e w' => e = .returned (.tuple #[]) ∧ w' = w := by
  have H := hid (insSeg0 c w)
  go_enter Tryz.func101, Tryz.ntmps101
  go_wp2_with fail
  refine wp_loop_rounds 1 ?_
  rw [rounds_succ]
  go_wp2_with fail
  refine H.out.mono ?_
  rintro e w1 ⟨rfl, rfl⟩
  go_wp2_with fail
  refine wp_loop_rounds 1 ?_
  rw [rounds_succ]
  go_wp2
  go_end0
  exact ⟨rfl, rfl⟩
set_option maxRecDepth 100000 in
theorem sortSeg0 (c : Value) (w : World) : Calls Tryz.prog 63 #[.slice none 0 0, c] w fun e w' => e = .returned (.tuple #[]) ∧ w' = w := by
  have H := hid (stableSeg0 c w)
  go_enter Tryz.func63, Tryz.ntmps63
  go_wp2_with fail
  refine H.out.mono ?_
  rintro e w1 ⟨rfl, rfl⟩
  go_wp2_with fail
  go_end0
  exact ⟨rfl, rfl⟩
set_option maxRecDepth 100000 in
theorem sgMany_any {w : World} {G : Nat → Prop} {sb db m : Nat} (hs : w.cell? ⟨sb, 0, none⟩ = some (.pointer (some ⟨db, 0, none⟩))) (h : DkAt w G db 192 m) : Calls Tryz.prog 59 #[.pointer (some ⟨sb, 0, none⟩)] w fun e w' => e = .returned (.int .i64 3) ∧ w' = w := by
  have H := hid (dkLen_any h)
  clear h
  go_enter Tryz.func59, Tryz.ntmps59
  go_wp2_with fail
  refine H.out.mono ?_
  rintro e w1 ⟨rfl, rfl⟩
  go_wp2_with fail
  go_ret
  exact ⟨rfl, rfl⟩
set_option maxRecDepth 100000 in
set_option maxHeartbeats 4000000 in
theorem sector0_any {w : World} {G : Nat → Prop} {sb db : Nat} {iv : Value} (hs : w.cell? ⟨sb, 0, none⟩ = some (.pointer (some ⟨db, 0, none⟩))) (h : DkIs w G db 192 iv (.slice none 0 0) (List.replicate 12288 0) []) (p : Nat) (hp : p < 3) :
    Calls Tryz.prog 60 #[.pointer (some ⟨sb, 0, none⟩), .int .i64 p, .int .i64 0] w fun e w' => (∃ b off c, e = .returned (.slice (some ⟨b, off, none⟩) 64 c) ∧ w'.cell? ⟨b, off + 63, none⟩ = some (.int .u8 0)) ∧ Grew w w' := by
  have H := hid (dkRead0_any h (p * 64) (by omega))
  have e1 : ((p * 64 : Nat) : Int) = (p : Int) * 64 := by omega
  rw [e1] at H
  have hx : List.take 64 (List.drop (p * 64 * 64) (List.replicate 12288 (0 : Int))) = List.replicate 64 0 := by
    rw [List.drop_replicate, List.take_replicate]
    congr 1; omega
  rw [hx] at H
  clear h e1 hx
  go_enter Tryz.func60, Tryz.ntmps60
  go_wp2_with fail
  refine H.out.mono ?_
  rintro e w1 ⟨a, c, rfl, hr, hg⟩
  obtain ⟨g, cap, cur, ev, _, hb, hc, _, hl, ht⟩ := ownsRow_block hr (by omega)
  injection ev with ev _ ev2
  subst ev ev2
  have hcell : w1.cell? ⟨g, 0 + 63, none⟩ = some (.int .u8 0) := by
    rw [cell_of_row _ _ _ _ _ _ hb]
    have : (cur.take (64 * 1))[63]? = some (.int .u8 0) := by rw [ht]; rfl
    rw [List.getElem?_take] at this
    split at this
    · simpa using this
    · cases this
  have HC := hid hcell
  have HG := hid hg
  clear hr hb hl ht hcell hg H
  go_wp2_with fail
  go_ret
  exact ⟨⟨g, 0, c, rfl, HC.out⟩, HG.out⟩
def SgNew (w : World) (G : Nat → Prop) (db : Nat) (e : Ending) (w' : World) : Prop :=
  ∃ sb, e = .returned (.tuple #[.pointer (some ⟨sb, 0, none⟩), .nilIface]) ∧ w.heap.size ≤ sb ∧ w'.cell? ⟨sb, 0, none⟩ = some (.pointer (some ⟨db, 0, none⟩)) ∧ w'.cell? ⟨sb, 1, none⟩ = some (.slice none 0 0) ∧ (∀ i, w'.frozen? ⟨sb, i, none⟩ = false) ∧ Grew w w'
set_option maxRecDepth 100000 in
set_option maxHeartbeats 4000000 in
theorem sgOpen0_any {w : World} {G : Nat → Prop} {db : Nat} {iv : Value} (h : DkIs w G db 192 iv (.slice none 0 0) (List.replicate 12288 0) []) :
    Calls Tryz.prog 38 #[.pointer (some ⟨db, 0, none⟩)] w (SgNew w G db) := by
  have H := hid (fun W (k : Grew w W) => h.kept (k.only fun _ => False) (fun _ _ h => h))
  have hS := hid sortSeg0
  clear h
  generalize hQ : SgNew w G db = QQ
  have HQ := hid hQ
  clear hQ
  go_enter Tryz.func38, Tryz.ntmps38
  go_wp2_with fail
  obtain ⟨Y, hY⟩ : ∃ Y, Y = w.alloc (.cells #[.pointer (some ⟨db, 0, none⟩), .slice none 0 0] 149) := ⟨_, rfl⟩
  have gY : Grew w Y := by rw [hY]; exact (Grew.refl w).alloc _
  have y0 : Y.cell? ⟨w.heap.size, 0, none⟩ = some (.pointer (some ⟨db, 0, none⟩)) := by rw [hY]; simp [go_sem]
  have y1 : Y.cell? ⟨w.heap.size, 1, none⟩ = some (.slice none 0 0) := by rw [hY]; simp [go_sem]
  have yf : ∀ i, Y.frozen? ⟨w.heap.size, i, none⟩ = false := fun i => by rw [hY]; simp [go_sem]
  rw [← hY]
  have hlt := cell_lt y0
  clear hY
  have HGY := hid gY
  have HF := hid yf
  refine (sgMany_any y0 ⟨_, _, _, _, rfl, H.out _ gY⟩).mono ?_
  rintro e w1 ⟨rfl, rfl⟩
  go_wp2_with fail
  refine (sgMany_any y0 ⟨_, _, _, _, rfl, H.out _ gY⟩).mono ?_
  rintro e w2 ⟨rfl, rfl⟩
  clear gY yf
  go_wp2_with fail
  go_loopw [5, 6, 16] (fun _ _ i wr => ∃ k : Nat, i = .int .i64 k ∧ k ≤ 3 ∧ Hid (Grew w2 wr)) (fun _ _ i _ => 3 - (intOf i).toNat)
  case atStart => exact ⟨0, rfl, by omega, Grew.refl _⟩
  case round =>
    obtain ⟨k, rfl, hk, HG⟩ := hrel
    have r0 := (HG.out.cells.1 _ 0 hlt).trans y0
    have r1 := (HG.out.cells.1 _ 1 hlt).trans y1
    by_cases hlt3 : k < 3
    · have HS := hid (sector0_any r0 (H.out _ (HGY.out.trans HG.out)) k hlt3)
      go_wp2_with fail
      refine HS.out.mono ?_
      rintro e w3 ⟨⟨b, off, c, rfl, hc⟩, hg⟩
      have HG3 := hid (HG.out.trans hg)
      clear hg HS r0 r1
      go_wp2_with fail
      go_roundw
      case rel => exact ⟨k + 1, by go_num, by omega, HG3⟩
      case measure => simp [intOf]; omega
    · obtain rfl : k = 3 := by omega
      go_wp2_with fail
      refine (hS.out _ _).mono ?_
      rintro e w3 ⟨rfl, rfl⟩
      go_wp2_with fail
      rw [← HQ.out]
      exact ⟨w.heap.size, rfl, Nat.le_refl _, r0, r1, fun i => (HG.out.cells.2 _ i hlt).trans (HF.out i), HGY.out.trans HG.out⟩
end Go.Proofs.YthmjbeieheacmaaGreatDoor
namespace Go.Proofs.YthmjbeieheacmaaGreatDoor
open Go.RowKit Go.Maps
attribute [local go_sem] Oper.semAt_some uponV
theorem clit_inj {a b : Int} (h : clit a = clit b) : a = b := by unfold clit at h; injection h
structure FgtR (w : World) (mb r n t : Nat) (f : Lit → Option Value) (f' : Lit → Option Value) (left : Lit → Bool) (cnt : Nat) (wr : World) : Prop where
  rng : MRange wr Tryz.prog 3 mb r n f' left cnt
  same : ∀ a : Nat, t ≤ a → f' (clit a) = f (clit a)
  gone : ∀ a : Nat, a < t → f' (clit a) = none ∨ left (clit a) = true
  back : ∀ l, f' l ≠ none → f l ≠ none
  only : Only (fun j => j = mb ∨ j = r) w wr
  new : w.heap.size ≤ r
def Fgt (f f' : Lit → Option Value) (t : Nat) : Prop := (∀ a : Nat, f' (clit a) = if a < t then none else f (clit a)) ∧ ∀ l, f' l ≠ none → f l ≠ none
set_option maxRecDepth 100000 in
set_option maxHeartbeats 4000000 in
theorem forget_any {w : World} {ub mb n t : Nat} {f : Lit → Option Value} (c1 : w.cell? ⟨ub, 1, none⟩ = some (.map (some mb))) (c3 : w.cell? ⟨ub, 3, none⟩ = some (.int .i64 t)) (hm : LMap w Tryz.prog 3 mb n f) (hne : ub ≠ mb) (ha : ∀ l, f l ≠ none → ∃ a : Nat, l = clit a) :
    Calls Tryz.prog 42 #[.pointer (some ⟨ub, 0, none⟩)] w fun e w' => e = .returned (.tuple #[]) ∧ Only (fun j => j = mb) w w' ∧ ∃ f', LMap w' Tryz.prog 3 mb n f' ∧ Fgt f f' t := by
  have HM := hid hm
  have hub := cell_lt c1
  have hmb := hm.lt
  have HA := hid ha
  clear ha hm
  go_enter Tryz.func42, Tryz.ntmps42
  go_wp2_with (at_range; refine wpList_range_M rfl _ rfl cl_keyed Tryz.underlying100 rfl HM.out ?_)
  intro w5 left5 cnt5 hr5 hl5 hg5 hs5
  obtain ⟨r, hr⟩ : ∃ r, r = w.heap.size := ⟨_, rfl⟩
  have hrB : w.heap.size ≤ r := by rw [hr]; exact Nat.le_refl _
  rw [← hr] at hr5 ⊢
  have HR5 : Hid (FgtR w mb r n t f f left5 cnt5 w5) := ⟨hr5, fun _ _ => rfl, fun a _ => by
    cases hl : left5 (clit (a : Int)) with
    | true => exact .inr rfl
    | false => exact .inl (hl5 _ hl), fun _ h => h, hg5.only _, hrB⟩
  clear hr hr5 hl5 hg5 hs5
  go_wp2_with fail
  go_loopw [2] (fun _ wr => ∃ (f' : Lit → Option Value) (left : Lit → Bool) (cnt : Nat), Hid (FgtR w mb r n t f f' left cnt wr)) (fun _ wx => wx.rangeLeft mb r)
  case atStart => exact ⟨f, left5, cnt5, HR5⟩
  case round =>
    obtain ⟨f', left, cnt, HR⟩ := hrel
    have hR := HR.out.rng
    have HMEAS := hid hR.left_eq
    have q1 := (HR.out.only.cell hub (by omega) 1).trans c1
    have q3 := (HR.out.only.cell hub (by omega) 3).trans c3
    go_wp2_with (at_next; refine wpList_next_MI rfl _ rfl Tryz.underlying3 cl_keyed r left cnt rfl hR ?_ ?_)
    · intro hl0
      have HL0 := hid hl0
      clear hR hl0
      go_wp2_with fail
      go_end0
      refine ⟨rfl, HR.out.only.mono (fun j hj => by rcases hj with h | h; exact .inl h; exact .inr (by omega)), f', HR.out.rng.lmap, fun a => ?_, HR.out.back⟩
      split
      · next h =>
        rcases HR.out.gone a h with h2 | h2
        · exact h2
        · rw [HL0.out] at h2; cases h2
      · next h => exact HR.out.same a (by omega)
    · intro c v w6 cnt6 hwf hls hfs hR6 hlt6 ho6 hs6 hen
      obtain ⟨a, hac⟩ := HA.out _ (HR.out.back _ (by rw [hfs]; simp))
      obtain rfl := clit_inj hac
      have HR6 := hid hR6
      have HO6 := hid (HR.out.only.then (ho6.mono (T := fun j => j = mb ∨ j = r) fun j hj => .inl (.inr hj)))
      have p1 := (ho6.cell (Nat.lt_of_lt_of_le hub HR.out.only.size) (by have := HR.out.new; omega) 1).trans q1
      have p3 := (ho6.cell (Nat.lt_of_lt_of_le hub HR.out.only.size) (by have := HR.out.new; omega) 3).trans q3
      have hkey : keyOf Tryz.prog 3 (.int .i64 (a : Int)) = some (clit (a : Int)) := by
        simp [keyOf, Tryz.underlying3, mapKey, clit]
        simpa using hwf
      clear hR hR6 hls hfs ho6 hs6 q1 q3 hac
      by_cases hat : a < t
      · go_wp2_with (at_delete; refine wpList_delete_M rfl _ _ rfl cl_keyed Tryz.underlying100 rfl HR6.out _ _ rfl hkey ?_)
        intro w7 cnt7 hR7 hc7 ho7
        have HR7 := hid hR7
        have HO7 := hid (HO6.out.then (ho7.mono (T := fun j => j = mb ∨ j = r) fun j hj => .inl (.inl hj)))
        clear hR7 ho7
        go_wp2_with fail
        go_roundw
        case rel =>
          refine ⟨_, _, cnt7, HR7.out, fun b hb => ?_, fun b hb => ?_, fun l hl => ?_, HO7.out, HR.out.new⟩
          · unfold lset
            rw [if_neg (fun e => by have := clit_inj e; omega)]
            exact HR.out.same b hb
          · by_cases e : b = a
            · subst e; left; unfold lset; rw [if_pos rfl]
            · rcases HR.out.gone b hb with h | h
              · left; unfold lset; rw [if_neg (fun e2 => e (by have := clit_inj e2; omega))]; exact h
              · right; simp only [h, clit_same, Bool.true_and]; simp; omega
          · unfold lset at hl
            split at hl
            · exact absurd rfl hl
            · exact HR.out.back l hl
        case measure => rw [HR7.out.left_eq, HMEAS.out]; omega
      · go_wp2_with fail
        go_roundw
        case rel =>
          refine ⟨f', _, cnt6, HR6.out, HR.out.same, fun b hb => ?_, HR.out.back, HO6.out, HR.out.new⟩
          rcases HR.out.gone b hb with h | h
          · exact .inl h
          · right; simp only [h, clit_same, Bool.true_and]; simp; omega
        case measure => rw [HR6.out.left_eq, HMEAS.out]; exact hlt6
end Go.Proofs.YthmjbeieheacmaaGreatDoor
namespace Go.Proofs.YthmjbeieheacmaaGreatDoor
open Go.RowKit Go.Maps
attribute [local go_sem] Oper.semAt_some uponV
set_option maxRecDepth 100000 in
theorem sgSegs0 {w : World} {sb : Nat} (h : w.cell? ⟨sb, 1, none⟩ = some (.slice none 0 0)) : Calls Tryz.prog 39 #[.pointer (some ⟨sb, 0, none⟩)] w fun e w' => e = .returned (.slice none 0 0) ∧ w' = w := by
  go_enter Tryz.func39, Tryz.ntmps39
  go_wp2_with fail
  refine wp_loop_rounds 1 ?_
  rw [rounds_succ]
  go_wp2
  go_ret
  exact ⟨rfl, rfl⟩
def UnNew (w : World) (G : Nat → Prop) (e : Ending) (w' : World) : Prop :=
  ∃ ub, e = .returned (.tuple #[.pointer (some ⟨ub, 0, none⟩), .nilIface]) ∧ Grew w w' ∧ w.heap.size ≤ ub ∧ ∀ (L : Nat → Nat) (k : Nat), (∀ j, G j → L j = k) → ∃ L' : Nat → Nat, (∀ j, j < w.heap.size → L' j = L j) ∧ (∀ j, w.heap.size ≤ j → L' j = 0 ∨ KinU k (L' j)) ∧ UnAt w' L' k ub 0 Pl.Un.new
set_option maxRecDepth 100000 in
set_option maxHeartbeats 4000000 in
theorem unOpen0_any {w : World} {G : Nat → Prop} {db : Nat} {iv : Value} (h : DkIs w G db 192 iv (.slice none 0 0) (List.replicate 12288 0) []) :
    Calls Tryz.prog 20 #[.pointer (some ⟨db, 0, none⟩)] w (UnNew w G) := by
  have hmm := @run_makeMap Tryz.prog
  have HO := hid (sgOpen0_any h)
  have HD := hid h
  clear h
  generalize hQ : UnNew w G = QQ
  have HQ := hid hQ
  clear hQ
  go_enter Tryz.func20, Tryz.ntmps20
  go_wp2_with fail
  refine HO.out.mono ?_
  rintro e w1 ⟨sb, rfl, hsb, s0, s1, sf, hg⟩
  have HG := hid hg
  have HSF := hid sf
  clear hg sf HO
  go_wp2_with fail
  obtain ⟨Y, hY⟩ : ∃ Y, Y = ((w1.alloc (.map #[] 0)).alloc (.map #[] 0)).alloc (.cells #[.pointer (some ⟨sb, 0, none⟩), .map (some w1.heap.size), .map (some (w1.heap.size + 1)), .int .i64 0, .int .i64 0, .int .i64 0] 103) := ⟨_, rfl⟩
  have gY : Grew w1 Y := by rw [hY]; exact (((Grew.refl w1).alloc _).alloc _).alloc _
  have hb := heap_alloc_new ((w1.alloc (.map #[] 0)).alloc (.map #[] 0)) (.cells #[.pointer (some ⟨sb, 0, none⟩), .map (some w1.heap.size), .map (some (w1.heap.size + 1)), .int .i64 0, .int .i64 0, .int .i64 0] 103)
  rw [show ((w1.alloc (.map #[] 0)).alloc (.map #[] 0)).heap.size = w1.heap.size + 1 + 1 by simp, ← hY] at hb
  have lm0 : LMap Y Tryz.prog 3 w1.heap.size 0 (fun _ => none) := by
    rw [hY]; exact ((LMap.made w1 Tryz.prog 3).grew ((Grew.refl _).alloc _)).grew ((Grew.refl _).alloc _)
  have lm1 : LMap Y Tryz.prog 3 (w1.heap.size + 1) 0 (fun _ => none) := by
    have := LMap.made (w1.alloc (.map #[] 0)) Tryz.prog 3
    rw [show (w1.alloc (.map #[] 0)).heap.size = w1.heap.size + 1 by simp] at this
    rw [hY]; exact this.grew ((Grew.refl _).alloc _)
  rw [← hY]
  clear hY hmm
  have z1 := (gY.cells.1 _ 1 (cell_lt s0)).trans s1
  have HGY := hid gY
  have HB := hid hb
  have HL0 := hid lm0
  have HL1 := hid lm1
  clear gY hb lm0 lm1 s1
  refine (sgSegs0 z1).mono ?_
  rintro e w2 ⟨rfl, rfl⟩
  go_wp2_with fail
  refine wp_loop_rounds 1 ?_
  rw [rounds_succ]
  go_wp2_with fail
  have cellU : ∀ i v, (#[Value.pointer (some ⟨sb, 0, none⟩), .map (some w1.heap.size), .map (some (w1.heap.size + 1)), .int .i64 0, .int .i64 0, .int .i64 0] : Array Value)[i]? = some v → w2.cell? ⟨w1.heap.size + 1 + 1, i, none⟩ = some v := fun i v hv => by rw [cell_of_row _ _ _ _ _ _ HB.out]; exact hv
  have hub2 : w1.heap.size + 1 + 1 < w2.heap.size := (Array.getElem?_eq_some_iff.1 HB.out).1
  refine (forget_any (t := 0) (cellU 1 _ rfl) (cellU 3 _ rfl) HL0.out (by omega) (fun l hl => absurd rfl hl)).mono ?_
  rintro e w3 ⟨rfl, hO3, f', hm3, hf3⟩
  have hf0 : f' = fun _ => none := by
    funext l
    cases hl : f' l with
    | none => rfl
    | some v => exact absurd rfl (hf3.2 l (by rw [hl]; simp))
  subst hf0
  have HO3 := hid hO3
  have HM3 := hid hm3
  have HCU := hid cellU
  clear hO3 hm3 hf3 cellU
  go_wp2_with fail
  rw [← HQ.out]
  have hs1 := HG.out.size
  have hs2 := HGY.out.size
  have hsb1 : sb < w1.heap.size := cell_lt s0
  have nsb : ¬ sb = w1.heap.size := by omega
  have hdb : db < w.heap.size := cell_lt HD.out.c0
  have hGw3 : Grew w w3 := ((HG.out.trans HGY.out).only _ |>.then HO3.out).grew (fun j hj => by omega)
  refine ⟨w1.heap.size + 1 + 1, rfl, hGw3, by omega, fun L k hk => ⟨fun j => if j < w.heap.size then L j else if j = sb then k + 1 else if j = w1.heap.size then k + 10 else if j = w1.heap.size + 1 then k + 11 else if j = w1.heap.size + 1 + 1 then k + 9 else 0, fun j hj => if_pos hj, fun j hj => ?_, ?_⟩⟩
  · dsimp only
    rw [if_neg (by omega)]
    unfold KinU
    split
    · right; omega
    · split
      · right; omega
      · split
        · right; omega
        · split
          · right; omega
          · exact .inl rfl
  · have cU : ∀ i v, (#[Value.pointer (some ⟨sb, 0, none⟩), .map (some w1.heap.size), .map (some (w1.heap.size + 1)), .int .i64 0, .int .i64 0, .int .i64 0] : Array Value)[i]? = some v → w3.cell? ⟨w1.heap.size + 1 + 1, i, none⟩ = some v := fun i v hv => (HO3.out.cell hub2 (by omega) i).trans (HCU.out i v hv)
    have fU : ∀ i, w3.frozen? ⟨w1.heap.size + 1 + 1, i, none⟩ = false := fun i => (HO3.out.frozen hub2 (by omega) i).trans (by simp [World.frozen?, HB.out])
    have hsb2 : sb < w2.heap.size := by omega
    refine ⟨sb, db, w1.heap.size, w1.heap.size + 1, .slice none 0 0, [], fun _ => none, fun _ => none, ?_⟩
    refine ⟨(by rw [if_neg (by omega), if_neg (by omega), if_neg (by omega), if_neg (by omega), if_pos rfl]), (by rw [if_neg (by omega), if_neg (by omega), if_pos rfl]), (by rw [if_neg (by omega), if_neg (by omega), if_neg (by omega), if_pos rfl]), cU 0 _ rfl, cU 1 _ rfl, cU 2 _ rfl, cU 3 _ rfl, cU 4 _ rfl, cU 5 _ rfl, fU, ?_, HM3.out, ?_, HL1.out.kept HO3.out (by omega), ?_⟩
    · refine ⟨(by rw [if_neg (by omega), if_pos rfl]), (HO3.out.cell hsb2 nsb 0).trans ((HGY.out.cells.1 _ 0 hsb1).trans s0), (HO3.out.cell hsb2 nsb 1).trans z1, fun i => (HO3.out.frozen hsb2 nsb i).trans ((HGY.out.cells.2 _ i hsb1).trans (HSF.out i)), ⟨G, ⟨iv, _, _, [], rfl, HD.out.kept (hGw3.only fun _ => False) (fun _ _ h => h)⟩, fun j hj => ?_⟩, World.ownsRow_nil _ _ _ _, (fun b hb => by cases hb), rfl, fun i gb g hg => by cases hg⟩
      rw [if_pos (HD.out.lt j hj)]
      exact hk j hj
    · exact ⟨fun a => ⟨fun bs hb => by simp [Pl.Un.get, Pl.Un.new] at hb, fun _ => rfl⟩, fun l hl => absurd rfl hl⟩
    · exact ⟨(fun g hg => by cases hg), fun l hl => absurd rfl hl⟩
end Go.Proofs.YthmjbeieheacmaaGreatDoor
