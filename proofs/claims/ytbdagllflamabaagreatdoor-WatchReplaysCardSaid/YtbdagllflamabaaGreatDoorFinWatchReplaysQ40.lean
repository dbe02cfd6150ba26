/- The walk of audit.change. -/
import Derived.Test.YtbdagllflamabaaGreatDoorFinWatchReplaysQ39
set_option linter.unusedVariables false
set_option linter.unusedSectionVars false
set_option linter.unusedSimpArgs false
namespace Go.Proofs.YtbdagllflamabaaGreatDoor
open Go.RowKit Go.Maps
attribute [local go_sem] Oper.semAt_some uponV
def auS (k : Nat) : Bool := stS k || decide (k = 18)
theorem auS_st {E : Nat → Addr} {w : World} (h : Errs auS E w) : Errs stS E w := h.less fun k hk => by unfold auS; rw [hk]; rfl
theorem auS_span : SpanS auS := ⟨⟨rfl, rfl, rfl, rfl⟩, rfl, rfl⟩
theorem auS_shd : ShdS auS := ⟨rfl, rfl, rfl, rfl, rfl, rfl⟩
def ChgSplit (w : World) (Ft Fs : Nat → Prop) (st mb m n : Nat) (f : Lit → Option Value) (lo hi key : ByteArray) (P : List Pr) (S : Int → Option An) (other : Int) (w' : World) : Prop :=
  ∃ ob Ft' Go Gs, Only (fun j => j = st ∨ Ft j ∨ j = mb) w w' ∧ LMap w' Tryz.prog 3 mb (m + 1) (lset f (clit other) (some (.pointer (some ⟨ob, 0, none⟩)))) ∧ StAt w' Ft' Fs st n lo key (P.take (Pl.cutN P key)) S ∧ StAt w' Go Gs ob n key hi (P.drop (Pl.cutN P key)) S ∧ (∀ j, Ft' j → Ft j ∨ w.heap.size ≤ j) ∧ ∀ j, BlS Go Gs ob j → w.heap.size ≤ j ∧ ¬ BlS Ft' Fs st j
def dsC (i : Nat) : Option (Value → Value) := match i with | 10 => some id | 11 => some (tupAt 0) | 12 => some (tupAt 1) | 13 => some (tupAt 0) | _ => none
set_option maxRecDepth 100000 in
set_option maxHeartbeats 4000000 in
theorem changeA_split (E : Nat → Addr) {w : World} (hE : Errs auS E w) {ab mb m n st : Nat} {f : Lit → Option Value} {Ft Fs : Nat → Prop} {lo hi : ByteArray} {P : List Pr} {S : Int → Option An} (e : En) (k3 : e.kind = 3) (hs0 : 0 ≤ e.shard) (hs1 : e.shard < 1000000) (ho0 : 0 ≤ e.other) (ho1 : e.other < 1000000)
    (c2 : w.cell? ⟨ab, 2, none⟩ = some (.map (some mb))) (hm : LMap w Tryz.prog 3 mb m f) (hm1 : m ≤ 1000000) (hf : f (clit e.shard) = some (.pointer (some ⟨st, 0, none⟩))) (hS : StAt w Ft Fs st n lo hi P S) (hb : ¬ BlS Ft Fs st ab ∧ ¬ BlS Ft Fs st mb ∧ ab ≠ mb)
    (hx : P.length ≤ 1000) (hl : lo.size ≤ 300) (hh : hi.size ≤ 300) (hkz : e.key.size ≤ 300) (hz : Pl.cutE (Pl.rightS lo hi) (Pl.keyN e.key) (Pl.hasS lo hi e.key) lo e.key = 0) :
    Calls Tryz.prog 45 #[.pointer (some ⟨ab, 0, none⟩), e.agg] w fun r w' => r = .returned .nilIface ∧ ChgSplit w Ft Fs st mb m n f lo hi e.key P S e.other w' := by
  have hab := cell_lt c2
  have hmb := hm.lt
  have HSP := hid (fun X (g : Grew w X) => splitS_any auS E auS_span (hE.grew g) (hS.grew g) e.key hx hl hh hkz)
  rw [hz] at HSP
  have HM := hid hm
  have HST := hid hS
  have HB := hid hb
  have HF := hid hf
  clear hE hS hf hz hm hb
  obtain ⟨kind, shard, other, server, client, seq, key, upto, part, parts, ops, opsA, opsC, dataA, dataL, dataC⟩ := e
  unfold En.agg En.vals
  dsimp only at *
  subst k3
  go_enter Tryz.func45, Tryz.ntmps45
  go_upto_region 3 with fail
  obtain ⟨Y, hY⟩ : ∃ Y, Y = w.alloc (.cells #[.int .i64 3, .int .i64 shard, .int .i64 other, .int .i64 server, .int .i64 client, .int .i64 seq, .slice opsA ops.length opsC, .string key, .int .i64 upto, .int .i64 part, .int .i64 parts, .slice dataA dataL dataC] 26) := ⟨_, rfl⟩
  have gY : Grew w Y := by rw [hY]; exact (Grew.refl w).alloc _
  obtain ⟨xb, hxb⟩ : ∃ xb, xb = w.heap.size := ⟨_, rfl⟩
  have x1 : Y.cell? ⟨xb, 1, none⟩ = some (.int .i64 shard) := by rw [hY, hxb]; simp [go_sem]
  have x2 : Y.cell? ⟨xb, 2, none⟩ = some (.int .i64 other) := by rw [hY, hxb]; simp [go_sem]
  have x7 : Y.cell? ⟨xb, 7, none⟩ = some (.string key) := by rw [hY, hxb]; simp [go_sem]
  have hxY : xb < Y.heap.size := cell_lt x1
  have hlt := HST.out.all
  have HXB := hid (show w.heap.size ≤ xb by omega)
  rw [← hY, ← hxb]
  clear hY hxb
  have hnab : ¬ (ab = st ∨ Ft ab) := fun h => HB.out.1 (by rcases h with h | h; exact .inr (.inr h); exact .inl h)
  have hnmb : ¬ (mb = st ∨ Ft mb) := fun h => HB.out.2.1 (by rcases h with h | h; exact .inr (.inr h); exact .inl h)
  have hnxb : ¬ (xb = st ∨ Ft xb) := fun h => by
    have := HXB.out
    rcases h with h | h
    · have := hlt xb (.inr (.inr h)); omega
    · have := hlt xb (.inl h); omega
  have X1 := wd_only (S := fun j => j = st ∨ Ft j) x1 hnxb
  have X7 := wd_only (S := fun j => j = st ∨ Ft j) x7 hnxb
  have A2 := wd_only (S := fun j => j = st ∨ Ft j) ((gY.cells.1 _ 2 hab).trans c2) hnab
  have hlk : ∀ p : Wd (Only (fun j => j = st ∨ Ft j) Y), (Instr.lookup 107 (.map (some mb)) (.int .i64 shard) false).run Tryz.prog p.w = .ok (.pointer (some ⟨st, 0, none⟩)) p.w := fun p => by
    have q := ((HM.out.grew gY).kept p.ok hnmb).lookup cl_keyed Tryz.underlying107 (zero_state p.w) (keyOf_int_mk Tryz.underlying3 (clit_wf (c := shard) (by omega) (by omega)))
    rw [show (Lit.int .i64 shard) = clit shard from rfl, HF.out] at q
    exact q
  have HGY := hid gY
  have HX2 := hid x2
  have HJ0 := hid (show JE 9 (Grew Y) (fun v u => ∃ ob, v = .tuple #[.pointer (some ⟨ob, 0, none⟩), .nilIface] ∧ ∃ Y', Grew Y Y' ∧ SplEnd Y' Ft Fs st n lo key key hi (P.take (Pl.cutN P key)) (P.drop (Pl.cutN P key)) S ob u) dsC (fun _ => false) (fun _ => undef) Y.drew from JE.start (Grew.refl Y).drew _)
  clear gY x1 x2 x7
  refine wp_region_mixS 14 [9, 10, 11, 12, 13] (Only (fun j => j = st ∨ Ft j) Y) Eq (JE 9 (Grew Y) (fun v u => ∃ ob, v = .tuple #[.pointer (some ⟨ob, 0, none⟩), .nilIface] ∧ ∃ Y', Grew Y Y' ∧ SplEnd Y' Ft Fs st n lo key key hi (P.take (Pl.cutN P key)) (P.drop (Pl.cutN P key)) S ob u) dsC) (fun f a => ((((a.put (some 22) (f 9)).put (some 12) (f 10)).put (some 23) (f 11)).put (some 24) (f 12)).put (some 5) (f 13)) (by kernel_rfl) (by kernel_rfl) (fun _ _ => rfl) HJ0.out (fun L _ _ h => ?_) (fun _ => rfl) (fun _ _ _ _ h g => g ▸ h) ?_
  · cases hL : L 9 with
    | false => exact (h.pre hL).only _
    | true =>
      obtain ⟨ob, _, Y', g, hO, _⟩ := h.post hL
      exact (g.only _).then hO
  repeat (first
    | (refine mixS_loose (by rfl) (by rfl) ?_)
    | (refine mixS_plain (by rfl) (by rfl) (by rfl) (by first | exact Grew.refl | exact fun _ => rfl) (by rfl) ?_; intro K hK; go_big_quiet_op; go_big_quiet_on)
    | (refine mixS_skip (by rfl) (by rfl) (by rfl) ?_; simp only [Act.put, List.setIfInBounds_toArray, List.set_cons_zero, List.set_cons_succ]))
  refine mixS_done (by rfl) ⟨⟨loose_of rfl (fun _ a => a) (fun _ _ => rfl) (fun _ => rfl) ?_, loose_of rfl (fun f a => a.put (some 22) (f 9)) (fun _ _ => rfl) (fun _ => rfl) ?_, loose_of rfl (fun f a => a.put (some 12) (f 10)) (fun _ _ => rfl) (fun _ => rfl) ?_, loose_of rfl (fun f a => a.put (some 12) (f 10)) (fun _ _ => rfl) (fun _ => rfl) ?_, loose_of rfl (fun f a => ((a.put (some 22) (f 9)).put (some 12) (f 10)).put (some 23) (f 11)) (fun _ _ => rfl) (fun _ => rfl) ?_, trivial⟩, ?_⟩
  · intro L f u hJ hL hd
    have HJ := hid hJ
    have HL := hid hL
    clear hJ hL hd X1 X7 A2 hlk
    go_simp
    have hg := HJ.out.pre HL.out
    refine (HSP.out u (HGY.out.trans hg)).mono ?_
    rintro r u' (⟨hc, _⟩ | ⟨_, ob, rfl, hEnd⟩)
    · exact absurd rfl hc
    · exact ⟨_, rfl, HJ.out.call HL.out rfl ⟨ob, rfl, u, hg, hEnd⟩⟩
  · intro L f u hJ hL hd
    have HC := hid (hd 9 rfl (by decide))
    have HJ := hid hJ
    clear hJ hL hd X1 X7 A2 hlk
    go_simp
    exact HJ.out.put 10 HC.out (by decide) (fun g hg => by cases hg; rfl)
  · intro L f u hJ hL hd
    have h10 := hd 10 rfl (by decide)
    have HC := hid (hJ.ord 10 _ rfl h10)
    have HJ := hid hJ
    obtain ⟨ob, e9, _⟩ := hJ.post HC.out
    have e10 := hJ.val 10 _ rfl h10
    rw [e9] at e10
    have HE9 := hid e9
    clear hJ hL hd h10 X1 X7 A2 hlk e9
    rw [e10]
    clear e10
    dsimp only [id]
    go_simp
    exact HJ.out.put 11 HC.out (by decide) (fun g hg => by cases hg; rw [HE9.out]; rfl)
  · intro L f u hJ hL hd
    have h10 := hd 10 rfl (by decide)
    have HC := hid (hJ.ord 10 _ rfl h10)
    have HJ := hid hJ
    obtain ⟨ob, e9, _⟩ := hJ.post HC.out
    have e10 := hJ.val 10 _ rfl h10
    rw [e9] at e10
    have HE9 := hid e9
    clear hJ hL hd h10 X1 X7 A2 hlk e9
    rw [e10]
    clear e10
    dsimp only [id]
    go_simp
    exact HJ.out.put 12 HC.out (by decide) (fun g hg => by cases hg; rw [HE9.out]; rfl)
  · intro L f u hJ hL hd
    have h11 := hd 11 rfl (by decide)
    have HC := hid (hJ.ord 11 _ rfl h11)
    have HJ := hid hJ
    have HV := hid (hJ.val 11 _ rfl h11)
    clear hJ hL hd h11 X1 X7 A2 hlk
    go_simp
    exact HJ.out.put 13 HC.out (by decide) (fun g hg => by cases hg; exact HV.out)
  intro f9 u hJ
  obtain ⟨ob, e9, Y', gY', hO1, Ft', Go, Gs, hS1, hS2, hF1, hob⟩ := hJ.post rfl
  have e10 := hJ.val 10 _ rfl rfl
  have e11 := hJ.val 11 _ rfl rfl
  have e12 := hJ.val 12 _ rfl rfl
  have e13 := hJ.val 13 _ rfl rfl
  rw [e9] at e10 e11 e12 e13
  dsimp only [id] at e10
  have e11' : f9 11 = .pointer (some ⟨ob, 0, none⟩) := e11
  have e12' : f9 12 = .nilIface := e12
  have e13' : f9 13 = .pointer (some ⟨ob, 0, none⟩) := e13
  have hYs := HGY.out.size
  have hYs2 := gY'.size
  have hOY : Only (fun j => j = st ∨ Ft j) Y u := (gY'.only _).then hO1
  have d2 := (hOY.cell (Nat.lt_of_lt_of_le hab hYs) hnab 2).trans ((HGY.out.cells.1 _ 2 hab).trans c2)
  have y2 := (hOY.cell hxY hnxb 2).trans HX2.out
  have HO1 := hid (show Only (fun j => j = st ∨ Ft j) w u from (HGY.out.only _).then hOY)
  have HLM1 := hid ((HM.out.grew HGY.out).kept hOY hnmb)
  have HS1 := hid (show StAt u Ft' Fs st n lo key (P.take (Pl.cutN P key)) S ∧ StAt u Go Gs ob n key hi (P.drop (Pl.cutN P key)) S ∧ (∀ j, Ft' j → Ft j ∨ w.heap.size ≤ j) ∧ ∀ j, BlS Go Gs ob j → w.heap.size ≤ j ∧ ¬ BlS Ft' Fs st j from ⟨hS1, hS2, fun j hj => (hF1 j hj).imp id fun q => by omega, fun j hj => ⟨by have := (hob j hj).1; omega, (hob j hj).2⟩⟩)
  have hab1 := cell_lt d2
  have hxb1 := cell_lt y2
  clear hJ hO1 hS1 hS2 hF1 hob e11 e12 e13 hnab hnxb HSP X1 X7 A2 hlk hOY gY' HJ0 e9
  dsimp only [List.drop]
  simp only [Act.put, List.setIfInBounds_toArray, List.set_cons_succ, List.set_cons_zero]
  rw [e10, e11', e12', e13']
  clear e10 e11' e12' e13'
  go_upto_region 5 with fail
  have D2 := wd_cell d2
  have Y2 := wd_cell y2
  refine wp_region_still 7 (by kernel_rfl) (by kernel_rfl) (fun _ _ => rfl) ?_
  repeat (first
    | (refine mixS_plain (by rfl) (by rfl) (by rfl) (by first | exact Grew.refl | exact fun _ => rfl) (by rfl) ?_; intro K hK; go_big_quiet_op; go_big_quiet_on)
    | (refine mixS_skip (by rfl) (by rfl) (by rfl) ?_; simp only [Act.put, List.setIfInBounds_toArray, List.set_cons_zero, List.set_cons_succ]))
  refine mixS_done (by rfl) ?_
  intro v hGv
  have HGV := hid hGv
  obtain ⟨w2, hrun, r1, r2⟩ := (HLM1.out.grew hGv).store (val := .pointer (some ⟨ob, 0, none⟩)) cl_keyed Tryz.underlying107 (by unfold maxLen; omega) (keyOf_int_mk Tryz.underlying3 (clit_wf (c := other) (by omega) (by omega)))
  have HRUN := hid hrun
  have HR := hid (And.intro r1 r2)
  clear D2 Y2 d2 y2 hGv hrun r1 r2
  dsimp only [List.drop]
  go_wp2_with (at_mapUpdate; refine wpList_update_run rfl _ _ _ rfl rfl rfl rfl HRUN.out ?_)
  go_wp2_with fail
  go_ret
  have hO2 : Only (fun j => j = mb) u w2 := (HGV.out.only _).then (Only.of_turned HR.out.2)
  obtain ⟨hS1, hS2, hF1, hob⟩ := HS1.out
  have nmb1 : ∀ j, BlS Ft' Fs st j → ¬ j = mb := fun j hj e => by
    subst e
    rcases hj with a | a | a
    · rcases hF1 _ a with b | b
      · exact HB.out.2.1 (.inl b)
      · omega
    · exact HB.out.2.1 (.inr (.inl a))
    · exact HB.out.2.1 (.inr (.inr a))
  have nmb2 : ∀ j, BlS Go Gs ob j → ¬ j = mb := fun j hj e => by have := (hob j hj).1; omega
  refine ⟨rfl, ob, Ft', Go, Gs, (HO1.out.mono fun j hj => .inl (by rcases hj with a | a; exact .inl a; exact .inr (.inl a))).then (hO2.mono fun j hj => .inl (.inr (.inr hj))), HR.out.1, hS1.kept hO2 (fun j hj => nmb1 j (.inl hj)) (fun j hj => nmb1 j (.inr (.inl hj))) (nmb1 _ (.inr (.inr rfl))), hS2.kept hO2 (fun j hj => nmb2 j (.inl hj)) (fun j hj => nmb2 j (.inr (.inl hj))) (nmb2 _ (.inr (.inr rfl))), hF1, hob⟩
def ChgMerge (w : World) (Ft Fs : Nat → Prop) (st mb m n : Nat) (f : Lit → Option Value) (v : ByteArray × ByteArray) (R : List Pr) (S : Int → Option An) (other : Int) (w' : World) : Prop :=
  ∃ Ft' n', n' ≤ n + 4 ∧ Only (fun j => BlS Ft Fs st j ∨ j = mb) w w' ∧ LMap w' Tryz.prog 3 mb m (lset f (clit other) none) ∧ StAt w' Ft' Fs st n' v.1 v.2 R S ∧ ∀ j, Ft' j → Ft j ∨ w.heap.size ≤ j
theorem wpList_delete_L {P : Program} {k e t : TypeId} {b n : Nat} {f : Lit → Option Value} {w : World} {ops : Array Oper} {rest : List Oper} {o : Oper} {a : Act} {Q : Exit → Act → World → Prop} (hg : o.guard = none) (m x : Operand) (hop : o.op = Op.call { callee := Callee.builtin Builtin.delete, args := #[m, x], argTypes := #[t, k] }) (K : Keyed P k) (ht : P.underlying t = some (.map k e))
    (hm : a.eval m = .map (some b)) (h : LMap w P k b n f) (key : Value) (l : Lit) (hx : a.eval x = key) (hkey : keyOf P k key = some l)
    (hK : ∀ w', LMap w' P k b n (lset f l none) → Only (fun j => j = b) w w' → wpList P ops Q rest (a.put o.dst (.tuple #[])) w') : wpList P ops Q (o :: rest) a w := by
  refine wpList_plain hg fun K' hK' => ?_
  obtain ⟨w', hrun, r1, r2⟩ := h.drop K ht hkey o.type
  unfold Oper.wp
  simp [execOp, hop, resolve, invoke, builtin, hm, hx, hrun, Result.andThen]
  exact hK' _ _ (hK w' r1 (Only.of_turned r2))
set_option maxRecDepth 100000 in
set_option maxHeartbeats 4000000 in
theorem changeA_merge (E : Nat → Addr) {w : World} (hE : Errs auS E w) {ab mb m n st su n2 : Nat} {f : Lit → Option Value} {Ft Fs Gt Gs : Nat → Prop} {lo hi lo' hi' : ByteArray} {P Q R : List Pr} {S T : Int → Option An} (e : En) (k4 : e.kind = 4) (hs0 : 0 ≤ e.shard) (hs1 : e.shard < 1000000) (ho0 : 0 ≤ e.other) (ho1 : e.other < 1000000)
    (c2 : w.cell? ⟨ab, 2, none⟩ = some (.map (some mb))) (hm : LMap w Tryz.prog 3 mb m f) (hf : f (clit e.shard) = some (.pointer (some ⟨st, 0, none⟩))) (hf2 : f (clit e.other) = some (.pointer (some ⟨su, 0, none⟩))) (hS : StAt w Ft Fs st n lo hi P S) (hS2 : StAt w Gt Gs su n2 lo' hi' Q T) (hd : ∀ j, BlS Gt Gs su j → ¬ BlS Ft Fs st j) (hb : ¬ BlS Ft Fs st ab ∧ ¬ BlS Ft Fs st mb)
    (hR : Pl.Srt R ∧ R.Perm (P ++ Q)) (hx : P.length ≤ 1000) (hy : Q.length ≤ 1000) (hn : n ≤ 100000) (hn2 : n2 ≤ 100000) (hl : lo.size ≤ 300) (hh : hi.size ≤ 300) (hl' : lo'.size ≤ 300) (hh' : hi'.size ≤ 300) (hz : Pl.joinE (Pl.rightS lo hi) (Pl.rightS lo' hi') lo hi lo' hi' = 0) :
    Calls Tryz.prog 45 #[.pointer (some ⟨ab, 0, none⟩), e.agg] w fun r w' => r = .returned .nilIface ∧ ChgMerge w Ft Fs st mb m n f (Pl.joinV (Pl.rightS lo hi) (Pl.rightS lo' hi') lo hi lo' hi') R (joinL S (clients T)) e.other w' := by
  have hab := cell_lt c2
  have hmb := hm.lt
  have HMG := hid (fun X (g : Grew w X) => mergeS_any auS E auS_span rfl (hE.grew g) (hS.grew g) (hS2.grew g) hd (fun _ => hR) hx hy hn hn2 hl hh hl' hh')
  rw [hz] at HMG
  generalize Pl.joinV (Pl.rightS lo hi) (Pl.rightS lo' hi') lo hi lo' hi' = vv at *
  generalize joinL S (clients T) = SS at *
  have HM := hid hm
  have HST := hid hS
  have HB := hid hb
  have HF := hid (And.intro hf hf2)
  clear hE hS hS2 hf hf2 hz hm hb hd hR
  obtain ⟨kind, shard, other, server, client, seq, key, upto, part, parts, ops, opsA, opsC, dataA, dataL, dataC⟩ := e
  unfold En.agg En.vals
  dsimp only at *
  subst k4
  go_enter Tryz.func45, Tryz.ntmps45
  go_upto_region 8 with fail
  obtain ⟨Y, hY⟩ : ∃ Y, Y = w.alloc (.cells #[.int .i64 4, .int .i64 shard, .int .i64 other, .int .i64 server, .int .i64 client, .int .i64 seq, .slice opsA ops.length opsC, .string key, .int .i64 upto, .int .i64 part, .int .i64 parts, .slice dataA dataL dataC] 26) := ⟨_, rfl⟩
  have gY : Grew w Y := by rw [hY]; exact (Grew.refl w).alloc _
  obtain ⟨xb, hxb⟩ : ∃ xb, xb = w.heap.size := ⟨_, rfl⟩
  have x1 : Y.cell? ⟨xb, 1, none⟩ = some (.int .i64 shard) := by rw [hY, hxb]; simp [go_sem]
  have x2 : Y.cell? ⟨xb, 2, none⟩ = some (.int .i64 other) := by rw [hY, hxb]; simp [go_sem]
  have hlt := HST.out.all
  have HXB := hid (show w.heap.size ≤ xb by omega)
  rw [← hY, ← hxb]
  clear hY hxb
  have X1 := wd_cell x1
  have X2 := wd_cell x2
  have A2 := wd_cell ((gY.cells.1 _ 2 hab).trans c2)
  have hlk : ∀ p : Wd (Grew Y), (Instr.lookup 107 (.map (some mb)) (.int .i64 shard) false).run Tryz.prog p.w = .ok (.pointer (some ⟨st, 0, none⟩)) p.w := fun p => by
    have q := ((HM.out.grew gY).grew p.ok).lookup cl_keyed Tryz.underlying107 (zero_state p.w) (keyOf_int_mk Tryz.underlying3 (clit_wf (c := shard) (by omega) (by omega)))
    rw [show (Lit.int .i64 shard) = clit shard from rfl, HF.out.1] at q
    exact q
  have hlk2 : ∀ p : Wd (Grew Y), (Instr.lookup 107 (.map (some mb)) (.int .i64 other) false).run Tryz.prog p.w = .ok (.pointer (some ⟨su, 0, none⟩)) p.w := fun p => by
    have q := ((HM.out.grew gY).grew p.ok).lookup cl_keyed Tryz.underlying107 (zero_state p.w) (keyOf_int_mk Tryz.underlying3 (clit_wf (c := other) (by omega) (by omega)))
    rw [show (Lit.int .i64 other) = clit other from rfl, HF.out.2] at q
    exact q
  have HGY := hid gY
  have hxY := cell_lt x2
  clear gY x1
  refine wp_region_still 14 (by kernel_rfl) (by kernel_rfl) (fun _ _ => rfl) ?_
  repeat (first
    | (refine mixS_plain (by rfl) (by rfl) (by rfl) (by first | exact Grew.refl | exact fun _ => rfl) (by rfl) ?_; intro K hK; go_big_quiet_op; go_big_quiet_on)
    | (refine mixS_skip (by rfl) (by rfl) (by rfl) ?_; simp only [Act.put, List.setIfInBounds_toArray, List.set_cons_zero, List.set_cons_succ]))
  refine mixS_done (by rfl) ?_
  intro u hGu
  have HU := hid (HGY.out.trans hGu)
  have x2 := (hGu.cells.1 _ 2 hxY).trans x2
  have hxu := Nat.lt_of_lt_of_le hxY hGu.size
  have habu := Nat.lt_of_lt_of_le hab HU.out.size
  clear hGu X1 X2 A2 hlk hlk2
  dsimp only [List.drop]
  go_wp2_with fail
  refine (HMG.out u HU.out).mono ?_
  rintro r w1 (⟨hc, _⟩ | ⟨_, rfl, hO1, Ft', n', hn', hS1, hF1⟩)
  · exact absurd rfl hc
  have hnab : ¬ BlS Ft Fs st ab := HB.out.1
  have hnmb : ¬ BlS Ft Fs st mb := HB.out.2
  have hnxb : ¬ BlS Ft Fs st xb := fun h => by have := HXB.out; have := hlt xb h; omega
  have d2 := (hO1.cell habu hnab 2).trans ((HU.out.cells.1 _ 2 hab).trans c2)
  have y2 := (hO1.cell hxu hnxb 2).trans x2
  have HO1 := hid (show Only (fun j => BlS Ft Fs st j) w w1 from (HU.out.only _).then hO1)
  have HLM1 := hid ((HM.out.grew HU.out).kept hO1 hnmb)
  have HS1 := hid (And.intro hn' (And.intro hS1 (fun j hj => (hF1 j hj).imp id fun q => (show w.heap.size ≤ j by have := HU.out.size; omega))))
  have hab1 := cell_lt d2
  have hxb1 := cell_lt y2
  have D2 := wd_cell d2
  have Y2 := wd_cell y2
  clear hO1 hS1 hF1 hn' x2 hxu habu c2 hnab hnxb HMG d2 y2
  go_upto_region 9 with fail
  refine wp_region_still 6 (by kernel_rfl) (by kernel_rfl) (fun _ _ => rfl) ?_
  repeat (first
    | (refine mixS_plain (by rfl) (by rfl) (by rfl) (by first | exact Grew.refl | exact fun _ => rfl) (by rfl) ?_; intro K hK; go_big_quiet_op; go_big_quiet_on)
    | (refine mixS_skip (by rfl) (by rfl) (by rfl) ?_; simp only [Act.put, List.setIfInBounds_toArray, List.set_cons_zero, List.set_cons_succ]))
  refine mixS_done (by rfl) ?_
  intro v hGv
  have HGV := hid hGv
  clear D2 Y2 hGv
  dsimp only [List.drop]
  go_wp2_with (at_delete; refine wpList_delete_L rfl _ _ rfl cl_keyed Tryz.underlying107 rfl (HLM1.out.grew HGV.out) _ _ rfl (keyOf_int_mk Tryz.underlying3 (clit_wf (c := other) (by omega) (by omega))) ?_)
  intro w2 hl2 hO2
  have HL2 := hid (And.intro hl2 hO2)
  clear hl2 hO2
  go_wp2_with fail
  go_ret
  obtain ⟨hn', hS1, hF1⟩ := HS1.out
  have hO2 : Only (fun j => j = mb) w1 w2 := (HGV.out.only _).then HL2.out.2
  refine ⟨rfl, Ft', n', hn', (HO1.out.mono fun j hj => .inl (.inl hj)).then (hO2.mono fun j hj => .inl (.inr hj)), HL2.out.1, hS1.kept hO2 (fun j hj t => ?_) (fun j hj t => ?_) (fun t => ?_), hF1⟩
  · subst t
    rcases hF1 j hj with a | a
    · exact hnmb (.inl a)
    · omega
  · subst t; exact hnmb (.inr (.inl hj))
  · exact hnmb (.inr (.inr t.symm))
set_option maxRecDepth 100000 in
theorem changeA_move {w : World} (ab : Nat) (e : En) (k2 : e.kind = 2) :
    Calls Tryz.prog 45 #[.pointer (some ⟨ab, 0, none⟩), e.agg] w fun r w' => r = .returned .nilIface ∧ Grew w w' := by
  obtain ⟨kind, shard, other, server, client, seq, key, upto, part, parts, ops, opsA, opsC, dataA, dataL, dataC⟩ := e
  unfold En.agg En.vals
  dsimp only at *
  subst k2
  go_enter Tryz.func45, Tryz.ntmps45
  go_wp2_with fail
  go_ret
  exact ⟨rfl, (Grew.refl w).alloc _⟩
end Go.Proofs.YtbdagllflamabaaGreatDoor
