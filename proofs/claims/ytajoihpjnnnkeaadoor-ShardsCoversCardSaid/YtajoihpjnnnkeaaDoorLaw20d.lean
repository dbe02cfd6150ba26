/- tidewaterlaw20.ShardsCovers: the map, the numbers that are gone, the shards that were: what stays of them, call by call. Then: The walk of tidewaterlaw20.ShardsCovers. -/
import Derived.Test.YtajoihpjnnnkeaaDoorLaw20
import Derived.Test.YtajoihpjnnnkeaaDoorCovS
set_option linter.unusedVariables false
set_option linter.unusedSectionVars false
set_option linter.unusedSimpArgs false
namespace Go.Proofs.YtajoihpjnnnkeaaDoor
open Go.RowKit Go.Maps

theorem int_keyedI : Keyed Tryd.prog 3 := int_keyed Tryd.underlying3
theorem zero_boolI (w : World) : (zeroValue 4).run Tryd.prog w = .ok (.bool false) w := by kernel_rfl
def idLit (id : Int) : Lit := .int .i64 id
theorem idLit_inj {a b : Int} (h : idLit a = idLit b) : a = b := by unfold idLit at h; injection h
theorem idLit_wf {id : Int} (h1 : 1 ≤ id) (h2 : id ≤ 12) : (Lit.int .i64 id).wf = true := by
  have a1 : IntKind.i64.min = -9223372036854775808 := by decide
  have a2 : IntKind.i64.max = 9223372036854775807 := by decide
  simp only [Lit.wf, Bool.and_eq_true, decide_eq_true_eq]
  omega

def Sh.sp (c : Sh) : Sp := ⟨c.lo, c.hi⟩
theorem spAt_map (xs : List Sh) (i : Nat) (hi : i < xs.length) : spAt (xs.map Sh.sp) i = (shAt xs i).sp := by
  rw [spAt_eq _ i (by simpa using hi), shAt_eq xs i hi, List.getElem_map]
theorem chainS_map {xs : List Sh} (h : Pl.Chain xs) : Pl.ChainS (xs.map Sh.sp) := by
  unfold Pl.ChainS
  rw [List.length_map]
  refine Pl.ChainF.congr h (fun i hi => ?_) (fun i hi => ?_)
  · rw [spAt_map xs i hi]; rfl
  · rw [spAt_map xs i hi]; rfl

/-- The map (state s), the map of what is gone, a row of shards that were; base: w0. -/
structure CvAt (w0 W : World) (F : Nat → Prop) (sb mb : Nat) (s : ShSt) (m : Nat) (f : Lit → Option Value) (gw cw : Nat) (ws : List Sh) : Prop where
  st : StAt W F sb s
  low : ∀ j, F j → w0.heap.size ≤ j
  lm : LMap W Tryd.prog 3 mb m f
  mlow : w0.heap.size ≤ mb
  mfar : ¬ F mb
  dead : ∀ l, f l = none ∨ (f l = some (.bool true) ∧ ∃ id, l = idLit id ∧ Pl.Dead s id)
  row : W.ownsRow 0 40 5 (.slice (some ⟨gw, 0, none⟩) ws.length cw) ws.length (shFlat ws)
  wfar : ¬ F gw
  wm : gw ≠ mb
  wlow : w0.heap.size ≤ gw
  wlt : gw < W.heap.size
  grew : Grew w0 W
section
variable {w0 W W' : World} {F F' : Nat → Prop} {sb mb : Nat} {s s' : ShSt} {m : Nat} {f : Lit → Option Value} {gw cw : Nat} {ws : List Sh}
theorem CvAt.mlt (h : CvAt w0 W F sb mb s m f gw cw ws) : mb < W.heap.size := h.lm.lt
theorem CvAt.turn (h : CvAt w0 W F sb mb s m f gw cw ws) (ho : Only F W W') (h' : StAt W' F' sb s') (hF' : ∀ j, F' j → F j ∨ W.heap.size ≤ j) (hd : ∀ id, Pl.Dead s id → Pl.Dead s' id) : CvAt w0 W' F' sb mb s' m f gw cw ws := by
  refine ⟨h', fun j hj => ?_, h.lm.kept ho h.mfar, h.mlow, fun hj => ?_, fun l => ?_, ownsRow_keep ho h.row (fun b hb e => ?_), fun hj => ?_, h.wm, h.wlow, Nat.lt_of_lt_of_le h.wlt ho.size, ((h.grew.only F).then ho).grew h.low⟩
  · rcases hF' j hj with h1 | h1
    · exact h.low j h1
    · have := h.grew.size; omega
  · rcases hF' _ hj with h1 | h1
    · exact h.mfar h1
    · have := h.mlt; omega
  · rcases h.dead l with h1 | ⟨h1, id, h2, h3⟩
    · exact .inl h1
    · exact .inr ⟨h1, id, h2, hd id h3⟩
  · have : gw = b := Option.some.inj hb
    subst this; exact h.wfar e
  · rcases hF' _ hj with h1 | h1
    · exact h.wfar h1
    · have := h.wlt; omega
theorem CvAt.more (h : CvAt w0 W F sb mb s m f gw cw ws) (g : Grew W W') : CvAt w0 W' F sb mb s m f gw cw ws := h.turn (g.only F) (h.st.grew g) (fun _ => .inl) (fun _ => id)
/-- Another row that is told. -/
theorem CvAt.told (h : CvAt w0 W F sb mb s m f gw cw ws) {g c : Nat} {ys : List Sh} (hr : W.ownsRow 0 40 5 (.slice (some ⟨g, 0, none⟩) ys.length c) ys.length (shFlat ys)) (h1 : ¬ F g) (h2 : g ≠ mb) (h3 : w0.heap.size ≤ g) (h4 : g < W.heap.size) : CvAt w0 W F sb mb s m f g c ys :=
  ⟨h.st, h.low, h.lm, h.mlow, h.mfar, h.dead, hr, h1, h2, h3, h4, h.grew⟩
/-- A shard that lives isn't gone. -/
theorem CvAt.here (h : CvAt w0 W F sb mb s m f gw cw ws) (c : Sh) (hc : c ∈ s.xs) (h1 : 1 ≤ c.id) (h2 : c.id ≤ 12) :
    (Instr.lookup 84 (.map (some mb)) (.int .i64 c.id) false).run Tryd.prog W = .ok (.bool false) W := by
  rw [h.lm.lookup int_keyedI Tryd.underlying84 (zero_boolI W) (keyOf_int_mk Tryd.underlying3 (idLit_wf h1 h2))]
  rcases h.dead (idLit c.id) with h3 | ⟨_, id, h3, h4⟩
  · unfold idLit at h3; rw [h3]; rfl
  · exact absurd (idLit_inj h3) (h4.2 c hc)
/-- One more is gone. -/
theorem CvAt.mark (h : CvAt w0 W F sb mb s m f gw cw ws) (id : Int) (hd : Pl.Dead s id) (h1 : 1 ≤ id) (h2 : id ≤ 12) (hm : m ≤ 1000000) :
    ∃ W', (Instr.mapUpdate 84 (.map (some mb)) (.int .i64 id) (.bool true)).run Tryd.prog W = .ok () W' ∧ CvAt w0 W' F sb mb s (m + 1) (lset f (idLit id) (some (.bool true))) gw cw ws ∧ Only (fun j => j = mb) W W' := by
  obtain ⟨W', hrun, r1, r2⟩ := h.lm.store (val := .bool true) int_keyedI Tryd.underlying84 (by unfold maxLen; omega) (keyOf_int_mk Tryd.underlying3 (idLit_wf h1 h2))
  have ho := Only.of_turned r2
  refine ⟨W', hrun, ⟨SmAt.kept h.st ho (fun j hj e => ?_), h.low, r1, h.mlow, h.mfar, fun l => ?_, ownsRow_keep ho h.row (fun b hb e => ?_), h.wfar, h.wm, h.wlow, Nat.lt_of_lt_of_le h.wlt ho.size, ?_⟩, ho⟩
  · have e1 : j = mb := e
    subst e1; exact h.mfar hj
  · unfold lset
    split
    · next e => exact .inr ⟨rfl, id, e, hd⟩
    · exact h.dead l
  · have e1 : gw = b := Option.some.inj hb
    have e2 : b = mb := e
    exact h.wm (e1.trans e2)
  · exact ((h.grew.only (fun j => j = mb)).then ho).grew fun j hj => by have e1 : j = mb := hj; subst e1; exact h.mlow
end
theorem wpList_update_run {P : Program} {ops : Array Oper} {rest : List Oper} {o : Oper} {a : Act} {w w' : World} {Q : Exit → Act → World → Prop} {t : TypeId} (hg : o.guard = none) (m x v : Operand) (hop : o.op = Op.mapUpdate t m x v) {vm vx vv : Value} (hm : a.eval m = vm) (hx : a.eval x = vx) (hv : a.eval v = vv)
    (hrun : (Instr.mapUpdate t vm vx vv).run P w = .ok () w') (hK : wpList P ops Q rest (a.put o.dst undef) w') : wpList P ops Q (o :: rest) a w := by
  refine wpList_plain hg fun K' hK' => ?_
  unfold Oper.wp
  simp [execOp, hop, hm, hx, hv, hrun, Result.andThen]
  exact hK' _ _ hK
end Go.Proofs.YtajoihpjnnnkeaaDoor

set_option linter.unusedVariables false
set_option linter.unusedSectionVars false
set_option linter.unusedSimpArgs false
namespace Go.Proofs.YtajoihpjnnnkeaaDoor
open Go.RowKit Go.Maps
attribute [local go_sem] Oper.semAt_some

set_option maxRecDepth 100000 in
set_option maxHeartbeats 8000000 in
theorem shardsCovers_walk {S : Nat → Bool} (hS : ShdS S) (E : Nat → Addr) (a : Option Addr) (cap : Nat) (xs : List Ac) (key : ByteArray) (w : World) (hE : Errs S E w) (hA : AcsAt w a xs) (hbig : xs.length * 144 ≤ 140737488351232) (hk : ∀ j, j < xs.length → AcFits (acAt xs j)) :
    Calls Tryd.prog 7 #[.slice a xs.length cap, .string key] w fun e w' => e = .returned (.bool true) ∧ Grew w w' := by
  have HE := hid hE
  have HA := hid hA
  have HK := hid hk
  clear hE hA hk
  go_enter Tryd.func7, Tryd.ntmps7
  go_wp2_with fail
  refine (alive20 hS E _ HE.out).mono ?_
  rintro r w1 ⟨rfl, hg1⟩
  have HG1 := hid hg1
  clear hg1
  have HL := hid (long20_any a cap xs w1 (HA.out.grew HG1.out) (by omega) HK.out)
  go_wp2_with fail
  refine HL.out.mono ?_
  rintro r w3 ⟨rfl, hg3⟩
  have HG3 := hid (HG1.out.trans hg3)
  clear hg3 HL
  cases hlong : long20B xs with
  | true =>
    go_wp2_with fail
    go_ret
    exact ⟨rfl, HG3.out⟩
  | false =>
    obtain ⟨hl60, hshort⟩ := long20_short hlong
    have HSH := hid hshort
    clear hlong hshort
    by_cases hkey : 300 < key.size
    · go_wp2_with fail
      go_ret
      exact ⟨rfl, HG3.out⟩
    · go_wp2_with fail
      refine (newM_any w3).mono ?_
      rintro r w4 ⟨sb, rfl, hg4, hsb, F, hM, hF⟩
      have HM0 := hid hM
      have HF0 := hid hF
      have HG4 := hid hg4
      clear hM hF hg4
      have HINV := hid (fun k => Pl.inv_play (xs.take k))
      have HCH := hid (fun k => Pl.chain_play (xs.take k))
      have HK2 := hid (fun k => show (Pl.playP (xs.take k)).xs.length ≤ 1000 ∧ (Pl.playP (xs.take k)).ne ≤ 1000000 from by
        have h1 := (HINV.out k).len
        have h2 := (HINV.out k).few
        rw [List.length_take] at h1 h2
        omega)
      have hmm := @run_makeMap Tryd.prog
      go_wp2_with fail
      clear hmm
      have HM1 := hid (SmAt.grew HM0.out ((Grew.refl w4).alloc (.map #[] 0)))
      refine (shards_any HM1.out (by decide) (by decide)).mono ?_
      rintro r w5 ⟨g0, c0, rfl, hrow, hg5⟩
      have hF4 : ∀ j, F j → j < w4.heap.size := by obtain ⟨_, _, h⟩ := HM0.out; exact h.lt
      have hs0 := HG4.out.size
      have hgs : w4.heap.size + 1 ≤ g0 ∧ g0 < w5.heap.size := by
        obtain ⟨g', c', e', hb, hlt⟩ := hrow.form (by decide)
        cases e'
        exact ⟨by simpa using hb, hlt⟩
      have HC0 : Hid (CvAt w3 w5 F sb w4.heap.size (Pl.playP (xs.take 0)) 0 (fun _ => none) g0 c0 (Pl.playP (xs.take 0)).xs) := by
        refine ⟨HM1.out.grew hg5, HF0.out, (LMap.made w4 Tryd.prog 3).grew hg5, hs0, fun hj => Nat.lt_irrefl _ (hF4 _ hj), fun _ => .inl rfl, ownsRow_base (Nat.zero_le _) hrow, fun hj => ?_, by omega, by omega, hgs.2, (HG4.out.alloc _).trans hg5⟩
        have := hF4 _ hj
        omega
      generalize w4.heap.size = mb at *
      clear HM0 HF0 HM1 hrow hg5 hF4 hs0 hgs HG4 hsb
      go_wp2_with fail
      go_loopw [7, 38] (fun was i wr => ∃ (k m : Nat) (f : Lit → Option Value) (gw cw : Nat) (F : Nat → Prop), k ≤ xs.length ∧ i = .int .i64 k ∧ was = .slice (some ⟨gw, 0, none⟩) (Pl.playP (xs.take k)).xs.length cw ∧ m ≤ 1000 * k ∧ Hid (CvAt w3 wr F sb mb (Pl.playP (xs.take k)) m f gw cw (Pl.playP (xs.take k)).xs)) (fun _ i _ => xs.length - (intOf i).toNat)
      case atStart => exact ⟨0, 0, _, _, _, _, Nat.zero_le _, rfl, rfl, Nat.zero_le _, HC0⟩
      case round =>
        obtain ⟨k, m, f, gw, cw, F, hk1, rfl, rfl, hm, HC⟩ := hrel
        obtain ⟨wo, rfl⟩ : ∃ wo : World, wo = wr := ⟨_, rfl⟩
        by_cases hlt : k < xs.length
        · rcases HA.out.row with h0 | ⟨b, off, rfl, hb, hR⟩
          · rw [h0] at hlt; simp at hlt
          have hGw := HG3.out.trans HC.out.grew
          obtain ⟨q0, q1, q2, q3, q4, q5, q6, q7, q8, q9, q10, q11, q12⟩ := ac_cells (W := wo) (b := b) (off := off + k * 13) (a := acAt xs k) (fun i v hv => (hGw.cells.1 _ _ hb).trans (hR k hlt i v hv))
          have hsh := HSH.out k hlt
          have HAP := hid (fun W (g : Grew w W) (h : StAt W F sb (Pl.playP (xs.take k))) => apply_any hS E (HE.out.grew g) h (HK2.out k).1 (HK2.out k).2 (acAt xs k).e (enAt_short ((HA.out.ops k hlt).grew g) hsh) (by omega) (acAt xs k).at')
          have HPS := hid (Pl.play_snoc xs k hlt)
          have HDN := hid (fun c hc => Pl.dead_new (HINV.out k) (acAt xs k).e (acAt xs k).at' c hc)
          have HDA := hid (fun id h => Pl.dead_apply (s := Pl.playP (xs.take k)) (id := id) h (acAt xs k).e (acAt xs k).at')
          rw [← HPS.out] at HDN HDA
          have HGw := hid hGw
          clear hGw hR hsh
          generalize acAt xs k = A at *
          obtain ⟨⟨kind, shard, other, server, client, seq, ekey, upto, part, parts, ops, opsA, opsC, dataA, dataL, dataC⟩, at'⟩ := A
          unfold En.agg En.vals at HAP
          dsimp only at *
          go_wp2_with fail
          refine (HAP.out _ (HGw.out.alloc _) (HC.out.st.grew ((Grew.refl wo).alloc _))).mono ?_
          rintro r w6 ⟨rfl, ho, F6, h6, hF6⟩
          rw [← HPS.out] at h6
          have HC6 := hid ((HC.out.more ((Grew.refl wo).alloc _)).turn ho h6 hF6 HDA.out)
          have HS1 := hid (HINV.out (k + 1))
          have HS2 := hid (HCH.out (k + 1))
          have HS3 := hid (HK2.out (k + 1))
          have HW := hid (show ∀ c ∈ (Pl.playP (xs.take k)).xs, 1 ≤ c.id ∧ c.id ≤ 12 from fun c hc => ⟨((HINV.out k).ids c hc).1, ((HINV.out k).ids c hc).2.1⟩)
          have HWL := hid (HK2.out k).1
          clear ho h6 hF6 q0 q1 q2 q3 q4 q5 q6 q7 q8 q9 q10 q11 q12 HAP HPS HDA HC
          have hT : ∃ T, T = Pl.playP (xs.take (k + 1)) := ⟨_, rfl⟩
          obtain ⟨T, hT⟩ := hT
          have HT := hid hT
          rw [← hT] at HC6 HS1 HS2 HS3 HDN
          clear hT
          generalize (Pl.playP (xs.take k)).xs = ws at *
          go_wp2_with fail
          refine (shards_any HC6.out.st HS3.out.1 HS1.out.pos).mono ?_
          rintro r w7 ⟨g7, c7, rfl, hrow, hg7⟩
          have hg7b : w6.heap.size ≤ g7 ∧ g7 < w7.heap.size := by
            obtain ⟨g', c', e', hb, hlt⟩ := hrow.form HS1.out.pos
            cases e'
            exact ⟨hb, hlt⟩
          have HC7 := hid (HC6.out.more hg7)
          have HROW := hid (ownsRow_base (Nat.zero_le _) hrow)
          have H6l := hid (show (∀ j, F6 j → j < w6.heap.size) ∧ mb < w6.heap.size from ⟨by obtain ⟨_, _, h⟩ := HC6.out.st; exact h.lt, HC6.out.mlt⟩)
          have HSZ := hid (show ∀ c ∈ T.xs, c.lo.size ≤ 70368744177664 ∧ c.hi.size ≤ 70368744177664 from by obtain ⟨_, _, h⟩ := HC6.out.st; exact h.sz)
          have hT1 : T.xs.length ≤ 1000 := HS3.out.1
          have hw1 : ws.length ≤ 1000 := HWL.out
          clear hrow hg7 HC6
          have HSP0 : Hid ((w7.alloc (.cells #[] 38)).ownsRow w7.heap.size 38 2 (.slice (some ⟨w7.heap.size, 0, none⟩) 0 0) 0 (spFlat ((T.xs.take 0).map Sh.sp))) :=
            ownsRow_of_block (cur := []) (Nat.le_refl _) (heap_alloc_new w7 _) (Nat.le_refl _) (by decide) rfl rfl
          go_wp2_with fail
          go_loopw [11, 12, 53] (fun sp mn i wr => ∃ (j gs cs : Nat), j ≤ T.xs.length ∧ i = .int .i64 j ∧ mn = .int .i64 (Pl.manyP (T.xs.take j) key : Nat) ∧ sp = .slice (some ⟨gs, 0, none⟩) j cs ∧ Hid (wr.ownsRow w7.heap.size 38 2 (.slice (some ⟨gs, 0, none⟩) j cs) j (spFlat ((T.xs.take j).map Sh.sp))) ∧ Hid (Grew w7 wr)) (fun _ _ i _ => T.xs.length - (intOf i).toNat)
          case atStart => exact ⟨0, _, _, Nat.zero_le _, rfl, rfl, rfl, HSP0, (Grew.refl w7).alloc _⟩
          case round =>
            obtain ⟨j, gs, cs, hj1, rfl, rfl, rfl, HSP, HG7⟩ := hrel
            obtain ⟨w8, rfl⟩ : ∃ w8 : World, w8 = wr := ⟨_, rfl⟩
            by_cases hjl : j < T.xs.length
            · obtain ⟨i0, hi0, hz0, hz1, hz2⟩ := info_parts infoCSpan
              have hcell : ∀ i v, (shAt T.xs j).vals[i]? = some v → w8.cell? ⟨g7, j * 5 + i, none⟩ = some v := by
                intro i v hv
                have hi5 : i < 5 := by
                  have := (List.getElem?_eq_some_iff.1 hv).1
                  simpa [Sh.vals] using this
                have h1 := HROW.out.cellAt (j * 5 + i) (by rw [Nat.add_comm]; omega)
                rw [shFlat_get i hi5 T.xs j hjl] at h1
                exact (HG7.out.cells.1 _ _ hg7b.2).trans (h1.trans hv)
              have hcm := shAt_mem T.xs j hjl
              obtain ⟨id1, id2, _⟩ := HS1.out.ids _ hcm
              have hhere := hid (fun W (g : Grew w7 W) => (HC7.out.more g).here _ hcm id1 id2)
              have hnext := hid (Pl.many_next T.xs key j hjl)
              have hflat : spFlat ((T.xs.take (j + 1)).map Sh.sp) = spFlat ((T.xs.take j).map Sh.sp) ++ [.string (shAt T.xs j).lo, .string (shAt T.xs j).hi] := by
                rw [List.take_succ_eq_append_getElem hjl, List.map_append, spFlat_append, shAt_eq T.xs j hjl]
                rfl
              have HFL := hid hflat
              have HHS := hid (fun W (g : Grew w7 W) => has_span S E hS.keyS (shAt T.xs j).lo (shAt T.xs j).hi key W (HSZ.out _ hcm).1 (HSZ.out _ hcm).2 (by omega) (HE.out.grew (HG3.out.trans (HC7.out.grew.trans g))))
              have HCELL := hid hcell
              have hgs7 : w7.heap.size ≤ gs := by
                rcases HSP.out.2 with ⟨h, _⟩ | ⟨g, c, cur, h, hB, _⟩
                · cases h
                · cases h; exact hB
              have hmb : Pl.manyP (T.xs.take j) key ≤ 1000 := by
                unfold Pl.manyP
                have := List.length_filter_le (fun c : Sh => Pl.hasS c.lo c.hi key) (T.xs.take j)
                rw [List.length_take] at this
                omega
              have hgs8 : gs < w8.heap.size := by
                rcases HSP.out.2 with ⟨h, _⟩ | ⟨g, c, cur, h, _, hq, _⟩
                · cases h
                · cases h; exact (Array.getElem?_eq_some_iff.1 hq).1
              clear hflat hcm hcell
              generalize spFlat ((T.xs.take j).map Sh.sp) = L at HSP HFL
              obtain ⟨L2, hL2⟩ : ∃ L2, L2 = spFlat ((T.xs.take (j + 1)).map Sh.sp) := ⟨_, rfl⟩
              rw [← hL2] at HFL
              have HL2 := hid hL2
              clear hL2
              generalize shAt T.xs j = c at *
              obtain ⟨cid, csv, csn, clo, chi⟩ := c
              dsimp only at *
              have p0 := HCELL.out 0 _ rfl
              have p1 := HCELL.out 1 _ rfl
              have p2 := HCELL.out 2 _ rfl
              have p3 := HCELL.out 3 _ rfl
              have p4 := HCELL.out 4 _ rfl
              rw [Nat.add_zero] at p0
              go_wp2_with (at_builtin; refine wpList_append_lies _ rfl _ _ 85 rfl w7.heap.size 38 i0 _ 2 32 Tryd.underlying85 hi0 hz0 hz1 hz2 zcCSpan (by omega) (.slice (some ⟨gs, 0, none⟩) j cs) j L rfl (ownsRow_grew (((Grew.refl w8).alloc _).alloc _) HSP.out) ⟨w8.heap.size + 1, 0, none⟩ 1 1 [.string clo, .string chi] rfl rfl (World.news_of_block (cs := #[.string clo, .string chi]) (by simpa using heap_alloc_new (w8.alloc (.cells #[.int .i64 cid, .int .i64 csv, .int .i64 csn, .string clo, .string chi] 40)) _)) (by intro u hu; simp at hu; rcases hu with rfl | rfl <;> rfl) (by omega) (by unfold maxLen; omega) (by omega) (by have := HG7.out.size; simp; omega) _ rfl ?_)
              intro g9 c9 w9 hown hgrow hat hlt9
              rw [← HFL.out] at hown
              have HO9 := hid hown
              have HG9 : Hid (Grew w7 w9) := ((((HG7.out.alloc _).alloc _).only (fun q => some q = Value.ownBlock (.slice (some ⟨gs, 0, none⟩) j cs))).then (Only.of_grownBy hgrow)).grew (fun q hq => by have h1 : q = gs := Option.some.inj hq; omega)
              have hk9 := fun o => (Only.of_grownBy hgrow).cell (k := w8.heap.size) (by simp; omega) (fun h => by have h1 : w8.heap.size = gs := Option.some.inj h; omega) o
              have s0 : w9.cell? ⟨w8.heap.size, 0, none⟩ = some (.int .i64 cid) := (hk9 0).trans (by simp [go_sem])
              have s3 : w9.cell? ⟨w8.heap.size, 3, none⟩ = some (.string clo) := (hk9 3).trans (by simp [go_sem])
              have s4 : w9.cell? ⟨w8.heap.size, 4, none⟩ = some (.string chi) := (hk9 4).trans (by simp [go_sem])
              have hlt9' : w8.heap.size < w9.heap.size := by have := (Only.of_grownBy hgrow).size; simp at this; omega
              clear hown hgrow hat hlt9 p0 p1 p2 p3 p4 hk9
              go_wp2_with fail
              refine (HHS.out _ HG9.out).mono ?_
              rintro r w10 ⟨rfl, hg10⟩
              have t0 := (hg10.cells.1 _ 0 hlt9').trans s0
              have hlook := hhere.out _ (HG9.out.trans hg10)
              have HO10 := hid (ownsRow_grew hg10 HO9.out)
              have HG10 := hid (HG9.out.trans hg10)
              clear s0 s3 s4 hg10 HO9 HG9 HHS HCELL
              cases hh : Pl.hasS clo chi key with
              | true =>
                rw [hh, if_pos rfl] at hnext
                have HNX := hnext
                clear hh hnext
                go_wp2_with fail
                go_roundw
                case rel => exact ⟨j + 1, g9, c9, by omega, by go_num, by rw [HNX.out]; go_num, rfl, by rw [← HL2.out]; exact HO10, HG10⟩
                case measure => simp [intOf]; omega
              | false =>
                rw [hh, if_neg (by decide), Nat.add_zero] at hnext
                have HNX := hnext
                clear hh hnext
                go_wp2_with fail
                go_roundw
                case rel => exact ⟨j + 1, g9, c9, by omega, by go_num, by rw [HNX.out]; go_num, rfl, by rw [← HL2.out]; exact HO10, HG10⟩
                case measure => simp [intOf]; omega
            · obtain rfl : j = T.xs.length := by omega
              rw [List.take_length] at *
              have hgs7 : w7.heap.size ≤ gs := by
                rcases HSP.out.2 with ⟨h, _⟩ | ⟨g, c, cur, h, hB, _⟩
                · cases h
                · cases h; exact hB
              have HC8 := hid (HC7.out.more HG7.out)
              have hmle : Pl.manyP T.xs key ≤ 1 := Pl.many_le HS2.out key
              have HMO := hid (Pl.many_owner HS2.out key)
              have HSP' := HSP
              clear HSP
              generalize Pl.manyP T.xs key = many at *
              go_wp2_with fail
              go_loopw [75] (fun i wr => ∃ (j m' : Nat) (f' : Lit → Option Value), j ≤ ws.length ∧ i = .int .i64 j ∧ m' ≤ m + j ∧ Hid (CvAt w3 wr F6 sb mb T m' f' gw cw ws) ∧ Hid (Only (fun q => q = mb) w8 wr)) (fun i _ => ws.length - (intOf i).toNat)
              case atStart => exact ⟨0, m, f, Nat.zero_le _, rfl, Nat.le_refl _, HC8, Only.refl _ _⟩
              case round =>
                obtain ⟨j, m', f', hj1, rfl, hm', HC, HON⟩ := hrel
                obtain ⟨w9, rfl⟩ : ∃ w9 : World, w9 = wr := ⟨_, rfl⟩
                by_cases hjl : j < ws.length
                · have hcell : ∀ i v, (shAt ws j).vals[i]? = some v → w9.cell? ⟨gw, j * 5 + i, none⟩ = some v := by
                    intro i v hv
                    have hi5 : i < 5 := by
                      have := (List.getElem?_eq_some_iff.1 hv).1
                      simpa [Sh.vals] using this
                    have h1 := HC.out.row.cellAt (j * 5 + i) (by rw [Nat.add_comm]; omega)
                    rw [shFlat_get i hi5 ws j hjl] at h1
                    exact h1.trans hv
                  have hcm := shAt_mem ws j hjl
                  obtain ⟨id1, id2⟩ := HW.out _ hcm
                  have HDD := hid (HDN.out _ hcm)
                  have HCELL := hid hcell
                  clear hcm hcell
                  generalize shAt ws j = c at *
                  obtain ⟨cid, csv, csn, clo, chi⟩ := c
                  dsimp only at *
                  have p0 := HCELL.out 0 _ rfl
                  have p1 := HCELL.out 1 _ rfl
                  have p2 := HCELL.out 2 _ rfl
                  have p3 := HCELL.out 3 _ rfl
                  have p4 := HCELL.out 4 _ rfl
                  rw [Nat.add_zero] at p0
                  go_wp2_with fail
                  refine (shardM_any (HC.out.st.grew ((Grew.refl w9).alloc _)) HS3.out.1 cid).mono ?_
                  generalize Pl.shardV T.xs cid = d
                  obtain ⟨d0, d1, d2, d3, d4⟩ := d
                  unfold Sh.aggOf Sh.vals
                  dsimp only
                  rintro r w10 ⟨rfl, hg10⟩
                  have HG10 := hid (((Grew.refl w9).alloc _).trans hg10)
                  have s0 : w10.cell? ⟨w9.heap.size, 0, none⟩ = some (.int .i64 cid) := (hg10.cells.1 _ 0 (by simp)).trans (by simp [go_sem])
                  have hz9 : w9.heap.size < w10.heap.size := by have := hg10.size; simp at this; omega
                  clear p0 p1 p2 p3 p4 HCELL hg10
                  cases hf : decide (0 ≤ Pl.findM T.xs cid) with
                  | true =>
                    clear hf
                    go_wp2_with fail
                    go_roundw
                    case rel => exact ⟨j + 1, m', f', by omega, by go_num, by omega, HC.out.more (HG10.out.alloc _), HON.out.grewT (HG10.out.alloc _)⟩
                    case measure => simp [intOf]; omega
                  | false =>
                    have hf' : Pl.findM T.xs cid < 0 := by simpa using hf
                    have hdead := HDD.out hf'
                    clear hf hf'
                    obtain ⟨w11, hrun, HCm, hom⟩ := ((HC.out.more (HG10.out.alloc (.cells #[.int .i64 d0, .int .i64 d1, .int .i64 d2, .string d3, .string d4] 40))).mark cid hdead id1 id2 (by omega))
                    have HCM := hid HCm
                    have HOM := hid hom
                    have HRUN := hid hrun
                    clear HCm hom hrun
                    go_wp2_with (at_mapUpdate; refine wpList_update_run rfl _ _ _ rfl rfl rfl rfl HRUN.out ?_)
                    go_wp2_with fail
                    go_roundw
                    case rel => exact ⟨j + 1, m' + 1, _, by omega, by go_num, by omega, HCM, (HON.out.grewT (HG10.out.alloc _)).then HOM.out⟩
                    case measure => simp [intOf]; omega
                · obtain rfl : j = ws.length := by omega
                  have hgm : gs ≠ mb := by have := H6l.out.2; omega
                  have hg7m : g7 ≠ mb := by have := H6l.out.2; omega
                  have HSP9 := hid (ownsRow_keep HON.out HSP'.out (fun b hb e => hgm (by have h1 : gs = b := Option.some.inj hb; exact h1.trans e)))
                  have HROW9 := hid (ownsRow_keep HON.out (ownsRow_grew HG7.out HROW.out) (fun b hb e => hg7m (by have h1 : g7 = b := Option.some.inj hb; exact h1.trans e)))
                  have HOW := hid (owner_any hS E (HE.out.grew (HG3.out.trans HC.out.grew)) HC.out.st HS3.out.1 key (by omega))
                  rw [HMO.out] at HOW
                  generalize Pl.ownerV T.xs key = d at HOW
                  obtain ⟨d0, d1, d2, d3, d4⟩ := d
                  unfold Sh.aggOf Sh.vals at HOW
                  dsimp only at HOW
                  have HCOV := hid (fun W (g : Grew w9 W) => covers_chain hS.keyS E gs cs (T.xs.map Sh.sp) W (HE.out.grew (HG3.out.trans (HC.out.grew.trans g))) w7.heap.size (by rw [List.length_map]; exact ownsRow_grew g HSP9.out) (by rw [List.length_map]; omega) (fun c hc => by
                    obtain ⟨d, hd, rfl⟩ := List.mem_map.1 hc
                    exact HSZ.out d hd) (chainS_map HS2.out))
                  rw [List.length_map] at HCOV
                  go_wp2_with fail
                  refine HOW.out.mono ?_
                  rintro r w10 ⟨rfl, hg10⟩
                  have HG10 := hid hg10
                  clear hg10 HOW
                  go_wp2_with fail
                  refine (HCOV.out _ (HG10.out.alloc _)).mono ?_
                  rintro r w11 ⟨rfl, hg11⟩
                  have HG11 := hid ((HG10.out.alloc _).trans hg11)
                  clear hg11 HCOV
                  have HCN : Hid (CvAt w3 w11 F6 sb mb T m' f' g7 c7 T.xs) := by
                    have h1 := HC.out.more HG11.out
                    have h2 := H6l.out.2
                    have h3 := h1.mlow
                    refine h1.told (ownsRow_grew HG11.out HROW9.out) (fun h => ?_) hg7m (by omega) ?_
                    · have := H6l.out.1 _ h; omega
                    · have a1 := HG7.out.size
                      have a2 := HON.out.size
                      have a3 := HG11.out.size
                      omega
                  rw [HT.out] at HCN
                  have hTl := hid (congrArg (fun t : ShSt => t.xs.length) HT.out)
                  rcases (show many = 0 ∨ many = 1 by omega) with rfl | rfl
                  · go_wp2_with fail
                    go_roundw
                    case rel => exact ⟨k + 1, m', f', g7, c7, F6, by omega, by go_num, by rw [← hTl.out], by omega, HCN⟩
                    case measure => simp [intOf]; omega
                  · go_wp2_with fail
                    go_roundw
                    case rel => exact ⟨k + 1, m', f', g7, c7, F6, by omega, by go_num, by rw [← hTl.out], by omega, HCN⟩
                    case measure => simp [intOf]; omega
        · obtain rfl : k = xs.length := by omega
          go_wp2_with fail
          go_ret
          exact ⟨rfl, HG3.out.trans HC.out.grew⟩
end Go.Proofs.YtajoihpjnnnkeaaDoor
