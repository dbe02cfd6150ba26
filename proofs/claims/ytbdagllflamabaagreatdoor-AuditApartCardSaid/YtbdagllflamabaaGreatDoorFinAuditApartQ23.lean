/- St5, StS, St6, St7, St8: one text. -/
import Derived.Test.YtbdagllflamabaaGreatDoorFinAuditApartQ21
import Derived.Test.YtbdagllflamabaaGreatDoorFinAuditApartQ3
import Derived.Test.YtbdagllflamabaaGreatDoorFinAuditApartQ1
import Derived.Test.YtbdagllflamabaaGreatDoorFinAuditApartQ5
import Derived.Test.YtbdagllflamabaaGreatDoorFinAuditApartQ18
import Derived.Deep.AppendLies
import Derived.Test.YtbdagllflamabaaGreatDoorFinAuditApartQ2
import Derived.Test.YtbdagllflamabaaGreatDoorFinAuditApartQ22
import Derived.Test.YtbdagllflamabaaGreatDoorFinAuditApartQ14
import Derived.Test.YtbdagllflamabaaGreatDoorFinAuditApartQ9
set_option linter.unusedVariables false
set_option linter.unusedSectionVars false
set_option linter.unusedSimpArgs false
namespace Go.Proofs.YtbdagllflamabaaGreatDoor
open Go.RowKit Go.Maps
attribute [local go_sem] Oper.semAt_some
theorem TabTurn.pre {w W w' : World} {F : Nat → Prop} {tb : Nat} {ys : List Pr} (h : TabTurn W F tb ys w') (g : Grew w W) : TabTurn w F tb ys w' := by
  obtain ⟨h1, F', h2, h3⟩ := h
  exact ⟨(g.only F).then h1, F', h2, fun j hj => (h3 j hj).imp id fun h => Nat.le_trans g.size h⟩
namespace Pl
def stepP (P : List Pr) (o : OpR) (v : Int) : List Pr × Bool :=
  if o.kind = 2 then (tdel P o.key, true)
  else if o.kind = 3 ∧ ((getT P o.key).isSome = false ∨ ((getT P o.key).getD Pr.none).val.toList ≠ o.old.toList) then (P, false)
  else if o.kind = 4 then (P, decide (((getT P o.key).getD Pr.none).ver = o.ver))
  else (putT P ⟨o.key, o.val, v⟩, decide (putN ⟨o.key, o.val, v⟩ = 0))
end Pl
structure OpSz (o : OpR) : Prop where
  key : o.key.size ≤ 70368744177664
  val : o.val.size ≤ 140737488351232
set_option maxRecDepth 100000 in
set_option maxHeartbeats 4000000 in
theorem step_any {S : Nat → Bool} (hS : TabS S) (E : Nat → Addr) {w : World} (hE : Errs S E w) {F : Nat → Prop} {tb : Nat} {P : List Pr} (h : TabAt w F tb P) (hx : P.length ≤ 1000000) (o : OpR) (ho : OpSz o) (v : Int) (hv : -9223372036854775808 ≤ v ∧ v < 9223372036854775808) :
    Calls Tryz.prog 138 #[.pointer (some ⟨tb, 0, none⟩), o.aggOf, .int .i64 v] w fun e w' => e = .returned (.bool (Pl.stepP P o v).2) ∧ TabTurn w F tb (Pl.stepP P o v).1 w' := by
  have HG := hid (fun W (g : Grew w W) => getTab_any hS E (hE.grew g) (h.grew g) hx o.key ho.key)
  have HD := hid (fun W (g : Grew w W) => delT_any hS E (hE.grew g) (h.grew g) hx o.key ho.key)
  have HP := hid (fun W (g : Grew w W) => putT_any hS E (hE.grew g) (h.grew g) hx o.key o.val v ho.key ho.val)
  have HT := hid h
  clear h hE ho
  generalize hR : Pl.stepP P o v = R at *
  unfold Pl.stepP at hR
  unfold OpR.aggOf OpR.vals
  obtain ⟨kind, key, val, old, ver⟩ := o
  dsimp only at *
  generalize hg : Pl.getT P key = r at *
  clear hg
  obtain ⟨Y, hY⟩ : ∃ Y, Y = w.alloc (.cells #[.int .i64 kind, .string key, .string val, .string old, .int .i64 ver] 104) := ⟨_, rfl⟩
  have gY : Grew w Y := by rw [hY]; exact (Grew.refl w).alloc _
  have hbY : w.heap.size < Y.heap.size := by rw [hY]; simp
  have c0 : Y.cell? ⟨w.heap.size, 0, none⟩ = some (.int .i64 kind) := by rw [hY]; simp [go_sem]
  have c1 : Y.cell? ⟨w.heap.size, 1, none⟩ = some (.string key) := by rw [hY]; simp [go_sem]
  have c2 : Y.cell? ⟨w.heap.size, 2, none⟩ = some (.string val) := by rw [hY]; simp [go_sem]
  have c3 : Y.cell? ⟨w.heap.size, 3, none⟩ = some (.string old) := by rw [hY]; simp [go_sem]
  have c4 : Y.cell? ⟨w.heap.size, 4, none⟩ = some (.int .i64 ver) := by rw [hY]; simp [go_sem]
  have HY := hid hY
  have HGY := hid gY
  clear hY gY
  go_enter Tryz.func138, Tryz.ntmps138
  go_wp2_with fail
  rw [← HY.out]
  refine (HG.out Y HGY.out).mono ?_
  rintro e w1 ⟨rfl, hg1⟩
  have d0 := (hg1.cells.1 _ 0 hbY).trans c0
  have d1 := (hg1.cells.1 _ 1 hbY).trans c1
  have d2 := (hg1.cells.1 _ 2 hbY).trans c2
  have d3 := (hg1.cells.1 _ 3 hbY).trans c3
  have d4 := (hg1.cells.1 _ 4 hbY).trans c4
  have hb1 := Nat.lt_of_lt_of_le hbY hg1.size
  have HG1 := hid (HGY.out.trans hg1)
  clear HG hg1 c0 c1 c2 c3 c4 hbY
  obtain ⟨is, his⟩ : ∃ is, is = r.isSome := ⟨_, rfl⟩
  obtain ⟨p, hp⟩ : ∃ p, p = r.getD Pr.none := ⟨_, rfl⟩
  rw [← his, ← hp]
  rw [← his, ← hp] at hR
  clear hp
  clear his
  obtain ⟨pk, pv, pn⟩ := p
  dsimp only [Pr.agg, Pr.vals] at hR ⊢
  have HR := hid hR
  clear hR
  obtain ⟨Z, hZ⟩ : ∃ Z, Z = w1.alloc (.cells #[.string pk, .string pv, .int .i64 pn] 42) := ⟨_, rfl⟩
  have HZ := hid hZ
  have gZ : Grew w1 Z := by rw [hZ]; exact (Grew.refl w1).alloc _
  have e0 := (gZ.cells.1 _ 0 hb1).trans d0
  have e1 := (gZ.cells.1 _ 1 hb1).trans d1
  have e2 := (gZ.cells.1 _ 2 hb1).trans d2
  have e3 := (gZ.cells.1 _ 3 hb1).trans d3
  have e4 := (gZ.cells.1 _ 4 hb1).trans d4
  have z1 : Z.cell? ⟨w1.heap.size, 1, none⟩ = some (.string pv) := by rw [hZ]; simp [go_sem]
  have z2 : Z.cell? ⟨w1.heap.size, 2, none⟩ = some (.int .i64 pn) := by rw [hZ]; simp [go_sem]
  have HGZ := hid (HG1.out.trans gZ)
  clear hZ gZ
  have HT1 := hid (TabTurn.of_grew HT.out HGZ.out)
  clear HT HG1
  by_cases k2 : kind = 2
  · subst k2
    have hR := HR.out
    rw [if_pos rfl] at hR
    subst hR
    clear HR
    go_wp2_with fail
    rw [← HZ.out]
    refine (HD.out Z HGZ.out).mono ?_
    rintro e w2 ⟨rfl, ht⟩
    have HX := hid (ht.pre HGZ.out)
    clear ht e0 e1 e2 e3 e4 z1 z2
    go_wp2_with fail
    go_ret
    exact ⟨rfl, HX.out⟩
  · by_cases k3 : kind = 3
    · subst k3
      cases is with
      | false =>
        have hR := HR.out
        rw [if_neg (by decide), if_pos ⟨rfl, .inl rfl⟩] at hR
        subst hR
        clear HR
        go_wp2_with fail
        rw [← HZ.out]
        clear e0 e1 e2 e3 e4 z1 z2
        go_wp2_with fail
        go_ret
        exact ⟨rfl, HT1.out⟩
      | true =>
        by_cases kv : pv.toList = old.toList
        · have hR := HR.out
          rw [if_neg (by decide), if_neg (by rintro ⟨_, h | h⟩; · cases h
                                             · exact h kv), if_neg (by decide)] at hR
          have hq : (pv.toList == old.toList) = true := by simpa using kv
          subst hR
          clear HR kv
          go_wp2_with fail
          rw [← HZ.out]
          refine (HP.out Z HGZ.out).mono ?_
          rintro e w2 ⟨rfl, ht⟩
          have HX := hid (ht.pre HGZ.out)
          clear ht e0 e1 e2 e3 e4 z1 z2 d0 d1 d2 d3 d4
          cases hpn : decide (Pl.putN ⟨key, val, v⟩ = 0) with
          | true =>
            rw [of_decide_eq_true hpn, errOf_zero]
            have HPN := hid hpn
            clear hpn
            go_wp2_with fail
            go_ret
            exact ⟨ret_bool HPN.out.symm, HX.out⟩
          | false =>
            rw [errOf_pos E _ (of_decide_eq_false hpn)]
            have HPN := hid hpn
            clear hpn
            go_wp2_with fail
            go_ret
            exact ⟨ret_bool HPN.out.symm, HX.out⟩
        · have hR := HR.out
          rw [if_neg (by decide), if_pos ⟨rfl, .inr kv⟩] at hR
          have hq : (pv.toList == old.toList) = false := by simpa using kv
          subst hR
          clear HR kv
          go_wp2_with fail
          rw [← HZ.out]
          clear e0 e1 e2 e3 e4 z1 z2
          go_wp2_with fail
          go_ret
          exact ⟨rfl, HT1.out⟩
    · by_cases k4 : kind = 4
      · subst k4
        have hR := HR.out
        rw [if_neg (by decide), if_neg (by simp), if_pos rfl] at hR
        subst hR
        clear HR
        go_wp2_with fail
        go_ret
        rw [← HZ.out]
        exact ⟨rfl, HT1.out⟩
      · have hR := HR.out
        rw [if_neg k2, if_neg (fun h => k3 h.1), if_neg k4] at hR
        subst hR
        clear HR
        go_wp2_with fail
        rw [← HZ.out]
        refine (HP.out Z HGZ.out).mono ?_
        rintro e w2 ⟨rfl, ht⟩
        have HX := hid (ht.pre HGZ.out)
        clear ht e0 e1 e2 e3 e4 z1 z2 d0 d1 d2 d3 d4
        cases hpn : decide (Pl.putN ⟨key, val, v⟩ = 0) with
        | true =>
          rw [of_decide_eq_true hpn, errOf_zero]
          have HPN := hid hpn
          clear hpn
          go_wp2_with fail
          go_ret
          exact ⟨ret_bool HPN.out.symm, HX.out⟩
        | false =>
          rw [errOf_pos E _ (of_decide_eq_false hpn)]
          have HPN := hid hpn
          clear hpn
          go_wp2_with fail
          go_ret
          exact ⟨ret_bool HPN.out.symm, HX.out⟩
end Go.Proofs.YtbdagllflamabaaGreatDoor
namespace Go.Proofs.YtbdagllflamabaaGreatDoor
def stS (k : Nat) : Bool := decide (k = 1) || decide (k = 2) || decide (k = 3) || decide (k = 4) || decide (k = 6) || decide (k = 7) || decide (k = 19)
theorem Errs.less {S T : Nat → Bool} {E : Nat → Addr} {w : World} (h : Errs S E w) (hT : ∀ k, T k = true → S k = true) : Errs T E w :=
  ⟨(by cases hh : T 0 with | false => rfl | true => (have := hT 0 hh; rw [h.pos] at this; cases this)), fun k hk => h.cell k (hT k hk), fun k hk => h.row k (hT k hk), fun j k hj hk => h.ne j k (hT j hj) (hT k hk)⟩
end Go.Proofs.YtbdagllflamabaaGreatDoor
namespace Go.Proofs.YtbdagllflamabaaGreatDoor
open Go.RowKit Go.Maps
attribute [local go_sem] Oper.semAt_some
def strFlat (ks : List ByteArray) : List Value := ks.map Value.string
theorem info_str : (Tryz.prog.info? 9).map (fun i => (i.zero, i.size, i.bytes)) = some (some (.string ⟨#[]⟩), 1, 16) := by kernel_rfl
theorem run_append_str {w : World} {B : Nat} {v : Value} {m : Nat} {ks : List ByteArray} (hown : w.ownsRow B 9 1 v m (strFlat ks)) (kb : Nat) (key : ByteArray) (hk : w.cell? ⟨kb, 0, none⟩ = some (.string key)) (hbig : m ≤ 1000000) (hB : B ≤ w.heap.size) (ty : TypeId) :
    ∃ v' w', (Builtin.append_ #[128, 128] ty #[v, .slice (some ⟨kb, 0, none⟩) 1 1]).run Tryz.prog w = .ok v' w' ∧ w'.ownsRow B 9 1 v' (m + 1) (strFlat (ks ++ [key])) ∧ w.grownBy w' v.ownBlock := by
  obtain ⟨i0, hi0, hz0, hz1, hz2⟩ := info_parts info_str
  obtain ⟨g, cap2, w2, h1, h2, h3, h4, h5⟩ := run_append_lies (P := Tryz.prog) (w := w) 128 ty B 9 i0 _ 1 16 Tryz.underlying128 hi0 hz0 hz1 hz2 rfl (by omega) v m (strFlat ks) hown ⟨kb, 0, none⟩ 1 1 [.string key] rfl (fun j u hj => by
    rw [Addr.add_lit]
    cases j with
    | zero => cases hj; exact hk
    | succ j => simp at hj) (fun u hu => by simp at hu; subst hu; rfl) (by omega) (by unfold maxLen; omega) (by omega) hB _ rfl
  refine ⟨_, w2, h1, ?_, h3⟩
  have e : strFlat (ks ++ [key]) = strFlat ks ++ [.string key] := by simp [strFlat]
  rw [e]
  exact h2
@[local go_sem] theorem as_splitting (v : Value) (xT : TypeId) (w : World) : (Instr.typeAssert (.iface 217 v) xT 221 true).run Tryz.prog w = .ok (.tuple #[.agg #[.int .i64 0, .int .i64 0, .int .i64 0, .string ⟨#[]⟩], .bool false]) w := by kernel_rfl
@[local go_sem] theorem as_writing (v : Value) (xT : TypeId) (w : World) : (Instr.typeAssert (.iface 217 v) xT 217 true).run Tryz.prog w = .ok (.tuple #[v, .bool true]) w := by kernel_rfl
set_option maxRecDepth 100000 in
set_option maxHeartbeats 4000000 in
theorem keysE_any {S : Nat → Bool} (hS : KeyT S) (E : Nat → Addr) (e : En) (w : World) (hE : Errs S E w) (hA : EnAt w e) (hk : e.kind = 1) (hr : Pl.rightB e = true) :
    Calls Tryz.prog 98 #[e.agg] w fun r w' => (∃ v, r = .returned v ∧ w'.ownsRow w.heap.size 9 1 v e.ops.length (strFlat (e.ops.map OpR.key))) ∧ Grew w w' := by
  have HR := hid (fun W (g : Grew w W) => rightE_any hS E e W (hE.grew g) (hA.grew g))
  rw [hr] at HR
  have HO := hid (fun W => of_any e W)
  have hrec : Pl.recV e = .iface 217 (.agg #[.int .i64 e.shard, .int .i64 e.client, .int .i64 e.seq, .slice e.opsA e.ops.length e.opsC]) := by unfold Pl.recV; rw [if_pos hk]
  rw [hrec] at HO
  have HOP := hid hA.ops
  have hfew := hA.few
  clear hE hA hr hrec hk
  unfold En.agg En.vals at *
  obtain ⟨kind, shard, other, server, client, seq, key, upto, part, parts, ops, opsA, opsC, dataA, dataL, dataC⟩ := e
  dsimp only at *
  obtain ⟨Y, hY⟩ : ∃ Y, Y = w.alloc (.cells #[.int .i64 kind, .int .i64 shard, .int .i64 other, .int .i64 server, .int .i64 client, .int .i64 seq, .slice opsA ops.length opsC, .string key, .int .i64 upto, .int .i64 part, .int .i64 parts, .slice dataA dataL dataC] 26) := ⟨_, rfl⟩
  have gY : Grew w Y := by rw [hY]; exact (Grew.refl w).alloc _
  have HY := hid hY
  have HGY := hid gY
  have hbY : w.heap.size < Y.heap.size := by rw [hY]; simp
  clear hY gY
  go_enter Tryz.func98, Tryz.ntmps98
  go_wp2_with fail
  rw [← HY.out]
  refine (HR.out Y HGY.out).mono ?_
  rintro e w1 ⟨rfl, hg1⟩
  have d0 : w1.cell? ⟨w.heap.size, 0, none⟩ = some (.int .i64 kind) := (hg1.cells.1 _ 0 hbY).trans (by rw [HY.out]; simp [go_sem])
  have d1 : w1.cell? ⟨w.heap.size, 1, none⟩ = some (.int .i64 shard) := (hg1.cells.1 _ 1 hbY).trans (by rw [HY.out]; simp [go_sem])
  have d2 : w1.cell? ⟨w.heap.size, 2, none⟩ = some (.int .i64 other) := (hg1.cells.1 _ 2 hbY).trans (by rw [HY.out]; simp [go_sem])
  have d3 : w1.cell? ⟨w.heap.size, 3, none⟩ = some (.int .i64 server) := (hg1.cells.1 _ 3 hbY).trans (by rw [HY.out]; simp [go_sem])
  have d4 : w1.cell? ⟨w.heap.size, 4, none⟩ = some (.int .i64 client) := (hg1.cells.1 _ 4 hbY).trans (by rw [HY.out]; simp [go_sem])
  have d5 : w1.cell? ⟨w.heap.size, 5, none⟩ = some (.int .i64 seq) := (hg1.cells.1 _ 5 hbY).trans (by rw [HY.out]; simp [go_sem])
  have d6 : w1.cell? ⟨w.heap.size, 6, none⟩ = some (.slice opsA ops.length opsC) := (hg1.cells.1 _ 6 hbY).trans (by rw [HY.out]; simp [go_sem])
  have d7 : w1.cell? ⟨w.heap.size, 7, none⟩ = some (.string key) := (hg1.cells.1 _ 7 hbY).trans (by rw [HY.out]; simp [go_sem])
  have d8 : w1.cell? ⟨w.heap.size, 8, none⟩ = some (.int .i64 upto) := (hg1.cells.1 _ 8 hbY).trans (by rw [HY.out]; simp [go_sem])
  have d9 : w1.cell? ⟨w.heap.size, 9, none⟩ = some (.int .i64 part) := (hg1.cells.1 _ 9 hbY).trans (by rw [HY.out]; simp [go_sem])
  have d10 : w1.cell? ⟨w.heap.size, 10, none⟩ = some (.int .i64 parts) := (hg1.cells.1 _ 10 hbY).trans (by rw [HY.out]; simp [go_sem])
  have d11 : w1.cell? ⟨w.heap.size, 11, none⟩ = some (.slice dataA dataL dataC) := (hg1.cells.1 _ 11 hbY).trans (by rw [HY.out]; simp [go_sem])
  have HG1 := hid (HGY.out.trans hg1)
  clear hg1 hbY HR
  go_wp2_with fail
  clear d0 d1 d2 d3 d4 d5 d6 d7 d8 d9 d10 d11
  refine (HO.out w1).mono ?_
  rintro e w2 ⟨rfl, hg2⟩
  have HG2 := hid (HG1.out.trans hg2)
  clear hg2 HO
  obtain ⟨X, hX⟩ : ∃ X, X = (w2.alloc (.cells #[.int .i64 0, .int .i64 0, .int .i64 0, .string ⟨#[]⟩] 221)).alloc (.cells #[.int .i64 shard, .int .i64 client, .int .i64 seq, .slice opsA ops.length opsC] 217) := ⟨_, rfl⟩
  have HX := hid hX
  have HGX := hid (show Grew w X from by rw [hX]; exact (HG2.out.alloc _).alloc _)
  clear hX
  go_wp2_with fail
  rw [← HX.out]
  go_loopw [8, 35] (fun v i wr => ∃ k : Nat, k ≤ ops.length ∧ i = .int .i64 k ∧ Hid (wr.ownsRow w.heap.size 9 1 v k (strFlat ((ops.take k).map OpR.key))) ∧ Grew w wr) (fun _ i _ => ops.length - (intOf i).toNat)
  case atStart => exact ⟨0, Nat.zero_le _, rfl, World.ownsRow_nil _ _ _ _, HGX.out⟩
  case round =>
    obtain ⟨k, hk1, rfl, HV, hG⟩ := hrel
    by_cases hlt : k < ops.length
    · rcases HOP.out with h0 | ⟨b, off, rfl, hb, hR⟩
      · rw [h0] at hlt; simp at hlt
      have q0 := (hG.cells.1 b (off + k * 5) hb).trans (hR.kind k hlt)
      have q1 := (hG.cells.1 b (off + k * 5 + 1) hb).trans (hR.key k hlt)
      have q2 := (hG.cells.1 b (off + k * 5 + 2) hb).trans (hR.val k hlt)
      have q3 := (hG.cells.1 b (off + k * 5 + 3) hb).trans (hR.old k hlt)
      have q4 := (hG.cells.1 b (off + k * 5 + 4) hb).trans (hR.ver k hlt)
      have hat : opRAt ops k = ops[k] := opRAt_eq ops k hlt
      have hnx : (ops.take (k + 1)).map OpR.key = (ops.take k).map OpR.key ++ [(opRAt ops k).key] := by
        rw [hat, List.take_succ_eq_append_getElem hlt, List.map_append]; rfl
      have HNX := hid hnx
      clear hR hat hnx
      generalize opRAt ops k = c at *
      obtain ⟨c0, c1, c2, c3, c4⟩ := c
      dsimp only at *
      have HGR := hid hG
      have gA : Grew w ((wr.alloc (.cells #[.int .i64 c0, .string c1, .string c2, .string c3, .int .i64 c4] 104)).alloc (.cells #[.string c1] 9)) := (hG.alloc _).alloc _
      obtain ⟨v', W, hrun, hown, hgb⟩ := run_append_str (w := (wr.alloc (.cells #[.int .i64 c0, .string c1, .string c2, .string c3, .int .i64 c4] 104)).alloc (.cells #[.string c1] 9)) ((World.ownsRow.alloc HV.out _).alloc _) (wr.heap.size + 1) c1 (by simp [go_sem]) (by omega) gA.size 128
      rw [← HNX.out] at hown
      have hGW : Grew w W := ((gA.only _).then (Only.of_grownBy hgb)).grew fun j hj => (HV.out.lt j hj.symm).1
      have HOWN := hid hown
      have HGW := hid hGW
      have HRUN := hid hrun
      clear gA hown hgb hGW hrun HV HNX
      go_wp2_with (at_builtin; refine Lib.wpList_append_run _ rfl _ _ _ _ rfl _ _ rfl rfl _ _ HRUN.out ?_)
      clear q0 q1 q2 q3 q4 HRUN HGR
      go_wp2_with fail
      go_roundw
      case rel => exact ⟨k + 1, by omega, by go_num, HOWN, HGW.out⟩
      case measure => simp [intOf]; omega
    · obtain rfl : k = ops.length := by omega
      go_wp2_with fail
      go_ret
      refine ⟨⟨_, rfl, ?_⟩, hG⟩
      have := HV.out
      rwa [List.take_length] at this
end Go.Proofs.YtbdagllflamabaaGreatDoor
namespace Go.Proofs.YtbdagllflamabaaGreatDoor
open Go.RowKit Go.Maps
attribute [local go_sem] Oper.semAt_some
def StrsAt (W : World) (a : Option Addr) (ks : List ByteArray) : Prop := ks = [] ∨ ∃ b off, a = some ⟨b, off, none⟩ ∧ b < W.heap.size ∧ ∀ j n, ks[j]? = some n → W.cell? ⟨b, off + j, none⟩ = some (.string n)
theorem StrsAt.grew {W W' : World} {a : Option Addr} {ks : List ByteArray} (h : StrsAt W a ks) (g : Grew W W') : StrsAt W' a ks := by
  rcases h with h | ⟨b, off, rfl, hb, hc⟩
  · exact .inl h
  · exact .inr ⟨b, off, rfl, Nat.lt_of_lt_of_le hb g.size, fun j n hj => (g.cells.1 _ _ hb).trans (hc j n hj)⟩
theorem strsAt_of {W : World} {B : Nat} {v : Value} {ks : List ByteArray} (h : W.ownsRow B 9 1 v ks.length (strFlat ks)) : ∃ a cap, v = .slice a ks.length cap ∧ StrsAt W a ks := by
  rcases h.2 with ⟨h2, h3⟩ | ⟨b, cap, cur, e1, _, hb, hc, _⟩
  · refine ⟨none, 0, ?_, .inl (List.eq_nil_of_length_eq_zero h3)⟩
    rw [h2, h3]
  · refine ⟨_, cap, e1, .inr ⟨b, 0, rfl, (Array.getElem?_eq_some_iff.1 hb).1, fun j n hj => ?_⟩⟩
    have := h.cells (g := b) (by rw [e1]; rfl) j (.string n) (by unfold strFlat; rw [List.getElem?_map, hj]; rfl)
    rwa [Addr.add_lit] at this
structure BoxSp (w : World) (bb st : Nat) (lo hi : ByteArray) : Prop where
  box : w.cell? ⟨bb, 0, none⟩ = some (.pointer (some ⟨st, 0, none⟩))
  c1 : w.cell? ⟨st, 1, none⟩ = some (.string lo)
  c2 : w.cell? ⟨st, 2, none⟩ = some (.string hi)
theorem BoxSp.grew {w w' : World} {bb st : Nat} {lo hi : ByteArray} (h : BoxSp w bb st lo hi) (g : Grew w w') : BoxSp w' bb st lo hi :=
  ⟨(g.cells.1 _ _ (cell_lt h.box)).trans h.box, (g.cells.1 _ _ (cell_lt h.c1)).trans h.c1, (g.cells.1 _ _ (cell_lt h.c1)).trans h.c2⟩
theorem askKey_any (S : Nat → Bool) (E : Nat → Addr) (hS : KeyS S) (lo hi key : ByteArray) (w : World) (hl : lo.size ≤ 70368744177664) (hh : hi.size ≤ 70368744177664) (hk : key.size ≤ 70368744177664) (hE : Errs S E w) (bb st : Nat) (hB : BoxSp w bb st lo hi) :
    Calls Tryz.prog 136 #[.string key, .pointer (some ⟨bb, 0, none⟩)] w fun e w' => e = .returned (.bool (!Pl.hasS lo hi key)) ∧ Grew w w' := by
  have HH := hid (has_span S E hS lo hi key w hl hh hk hE)
  obtain ⟨b0, b1, b2⟩ := hB
  clear hE
  generalize Pl.hasS lo hi key = b at *
  go_enter Tryz.func136, Tryz.ntmps136
  go_wp2_with fail
  refine HH.out.mono ?_
  rintro e w1 ⟨rfl, hg⟩
  clear HH b0 b1 b2
  go_wp2_with fail
  go_ret
  exact ⟨rfl, hg⟩
set_option maxRecDepth 100000 in
set_option maxHeartbeats 4000000 in
theorem idxKey_any (S : Nat → Bool) (E : Nat → Addr) (hS : KeyS S) (lo hi : ByteArray) (a : Option Addr) (cap : Nat) (xs : List ByteArray) (w : World) (hl : lo.size ≤ 70368744177664) (hh : hi.size ≤ 70368744177664) (hE : Errs S E w) (bb st : Nat) (hB : BoxSp w bb st lo hi) (hA : StrsAt w a xs) (hx : xs.length ≤ 1000000) (hk : ∀ k ∈ xs, k.size ≤ 70368744177664) :
    Calls Tryz.prog 152 #[.slice a xs.length cap, .func (.func 136) #[] #[.pointer (some ⟨bb, 0, none⟩)]] w fun e w' => e = .returned (.int .i64 (idxI (fun k => !Pl.hasS lo hi k) xs)) ∧ Grew w w' := by
  have HA := hid hA
  obtain ⟨p, hp⟩ : ∃ p : ByteArray → Bool, p = fun k => !Pl.hasS lo hi k := ⟨_, rfl⟩
  have hpk : ∀ k, (!Pl.hasS lo hi k) = p k := by intro k; rw [hp]
  have hP := fun W (g : Grew w W) k (hm : k ∈ xs) => askKey_any S E hS lo hi k W hl hh (hk k hm) (hE.grew g) bb st (hB.grew g)
  simp only [hpk] at hP
  rw [← hp]
  have HP := hid hP
  clear hA hE hB hP hpk hp
  go_enter Tryz.func152, Tryz.ntmps152
  go_wp2_with fail
  go_loopw [8] (fun i wr => ∃ k : Nat, k ≤ xs.length ∧ i = .int .i64 k ∧ Hid ((xs.take k).all (fun c => !p c) = true) ∧ Grew w wr) (fun i _ => xs.length - (intOf i).toNat)
  case atStart => exact ⟨0, Nat.zero_le _, rfl, rfl, Grew.refl w⟩
  case round =>
    obtain ⟨k, hk1, rfl, HN, hG⟩ := hrel
    by_cases hlt : k < xs.length
    · rcases HA.out with h0 | ⟨b, off, rfl, hb, hR⟩
      · rw [h0] at hlt; simp at hlt
      have q0 := (hG.cells.1 b (off + k) hb).trans (hR k _ (List.getElem?_eq_getElem hlt))
      have HC := hid (fun W g => HP.out W g xs[k] (List.getElem_mem hlt))
      clear hR
      have HS := hid (idx_some p xs k hlt HN.out)
      have HN2 := hid (idx_next p xs k hlt HN.out)
      generalize xs[k] = c at *
      cases hpc : p c with
      | true =>
        rw [hpc] at HC
        have HS2 := hid (HS.out hpc)
        clear hpc HS HN2
        go_wp2_with fail
        refine (HC.out _ hG).mono ?_
        rintro e w1 ⟨rfl, hg1⟩
        go_wp2_with fail
        go_ret
        exact ⟨ret_int HS2.out.symm, hG.trans hg1⟩
      | false =>
        rw [hpc] at HC
        have HS2 := hid (HN2.out hpc)
        clear hpc HS HN2
        go_wp2_with fail
        refine (HC.out _ hG).mono ?_
        rintro e w1 ⟨rfl, hg1⟩
        go_wp2_with fail
        go_roundw
        case rel => exact ⟨k + 1, by omega, by go_num, HS2, hG.trans hg1⟩
        case measure => simp [intOf]; omega
    · obtain rfl : k = xs.length := by omega
      have HE := hid (idx_none p xs (by have := HN.out; rwa [List.take_length] at this))
      go_wp2_with fail
      go_ret
      exact ⟨ret_int HE.out.symm, hG⟩
set_option maxHeartbeats 1000000 in
theorem anyKey_any (S : Nat → Bool) (E : Nat → Addr) (hS : KeyS S) (lo hi : ByteArray) (a : Option Addr) (cap : Nat) (xs : List ByteArray) (w : World) (hl : lo.size ≤ 70368744177664) (hh : hi.size ≤ 70368744177664) (hE : Errs S E w) (bb st : Nat) (hB : BoxSp w bb st lo hi) (hA : StrsAt w a xs) (hx : xs.length ≤ 1000000) (hk : ∀ k ∈ xs, k.size ≤ 70368744177664) :
    Calls Tryz.prog 135 #[.slice a xs.length cap, .func (.func 136) #[] #[.pointer (some ⟨bb, 0, none⟩)]] w fun e w' => e = .returned (.bool (xs.any fun k => !Pl.hasS lo hi k)) ∧ Grew w w' := by
  have HI := hid (idxKey_any S E hS lo hi a cap xs w hl hh hE bb st hB hA hx hk)
  have HG := hid (idx_ge (fun k => !Pl.hasS lo hi k) xs)
  clear hE hA hB
  generalize idxI (fun k => !Pl.hasS lo hi k) xs = n at *
  go_enter Tryz.func135, Tryz.ntmps135
  go_wp2_with fail
  refine HI.out.mono ?_
  rintro e w1 ⟨rfl, hg⟩
  go_wp2_with fail
  go_ret
  exact ⟨ret_bool HG.out, hg⟩
end Go.Proofs.YtbdagllflamabaaGreatDoor
namespace Go.Proofs.YtbdagllflamabaaGreatDoor
open Go.RowKit Go.Maps
attribute [local go_sem] Oper.semAt_some uponV
structure WrIn (w W : World) (st : Nat) (e : En) (a b : Int) : Prop where
  grew : Grew w W
  lt : w.heap.size + 2 < W.heap.size
  box : W.cell? ⟨w.heap.size, 0, none⟩ = some (.pointer (some ⟨st, 0, none⟩))
  ent : ∀ j u, e.vals[j]? = some u → W.cell? ⟨w.heap.size + 1, j, none⟩ = some u
  a0 : W.cell? ⟨w.heap.size + 2, 0, none⟩ = some (.int .i64 a)
  a1 : W.cell? ⟨w.heap.size + 2, 1, none⟩ = some (.int .i64 b)
  f0 : W.frozen? ⟨w.heap.size + 2, 0, none⟩ = false
  f1 : W.frozen? ⟨w.heap.size + 2, 1, none⟩ = false
theorem WrIn.more {w W W' : World} {st : Nat} {e : En} {a b : Int} (h : WrIn w W st e a b) (g : Grew W W') : WrIn w W' st e a b :=
  have l := h.lt
  ⟨h.grew.trans g, Nat.lt_of_lt_of_le h.lt g.size, (g.cells.1 _ _ (by omega)).trans h.box, fun j u hj => (g.cells.1 _ _ (by omega)).trans (h.ent j u hj), (g.cells.1 _ _ (by omega)).trans h.a0, (g.cells.1 _ _ (by omega)).trans h.a1, (g.cells.2 _ _ (by omega)).trans h.f0, (g.cells.2 _ _ (by omega)).trans h.f1⟩
theorem WrIn.start (w : World) (st : Nat) (e : En) : WrIn w (((w.alloc (.cells #[.pointer (some ⟨st, 0, none⟩)] 43)).alloc (.cells e.vals.toArray 26)).alloc (.cells #[.int .i64 0, .int .i64 0] 91)) st e 0 0 := by
  refine ⟨(((Grew.refl w).alloc _).alloc _).alloc _, by simp, by simp [go_sem], fun j u hj => ?_, by simp [go_sem], by simp [go_sem], by simp [go_sem], by simp [go_sem]⟩
  have hs : ((w.alloc (.cells #[.pointer (some ⟨st, 0, none⟩)] 43)).alloc (.cells e.vals.toArray 26)).heap.size = w.heap.size + 2 := by simp
  have := ((Grew.refl ((w.alloc (.cells #[.pointer (some ⟨st, 0, none⟩)] 43)).alloc (.cells e.vals.toArray 26))).alloc (.cells #[.int .i64 0, .int .i64 0] 91)).cells.1 (w.heap.size + 1) j (by omega)
  rw [this]
  have h2 : (w.alloc (.cells #[.pointer (some ⟨st, 0, none⟩)] 43)).heap.size = w.heap.size + 1 := by simp
  have h3 := heap_alloc_new (w.alloc (.cells #[.pointer (some ⟨st, 0, none⟩)] 43)) (.cells e.vals.toArray 26)
  rw [h2] at h3
  rw [cell_block h3]
  simpa using hj
set_option maxRecDepth 100000 in
set_option maxHeartbeats 4000000 in
theorem writeS_form (E : Nat → Addr) (e : En) (w : World) (hE : Errs stS E w) (hA : EnAt w e) (at_ : Int) (st : Nat) (h : ¬ (e.kind = 1 ∧ Pl.rightB e = true)) :
    Calls Tryz.prog 82 #[.pointer (some ⟨st, 0, none⟩), e.agg, .int .i64 at_] w fun r w' => r = .returned (.tuple #[ansAgg 0 0, errOf E 4]) ∧ Grew w w' := by
  have hS : KeyT stS := ⟨rfl, rfl, rfl, rfl⟩
  have HR := hid (fun W (g : Grew w W) => rightE_any hS E e W (hE.grew g) (hA.grew g))
  have HW := hid (WrIn.start w st e)
  have g4 : w.cell? ⟨0, 0, none⟩ = some (.iface 343 (.pointer (some (E 4)))) := hE.cell 4 rfl
  have b4 : 0 < w.heap.size := cell_lt g4
  have HG4 := hid (fun W (g : Grew w W) => (g.cells.1 _ _ b4).trans g4)
  have HK : Hid (Pl.rightB e = false ∨ e.kind ≠ 1) := by
    unfold Hid
    cases hr : Pl.rightB e with
    | false => exact .inl rfl
    | true => exact .inr fun k => h ⟨k, hr⟩
  clear hE hA h g4 b4
  generalize Pl.rightB e = rb at *
  obtain ⟨Y, hY⟩ : ∃ Y, Y = (((w.alloc (.cells #[.pointer (some ⟨st, 0, none⟩)] 43)).alloc (.cells e.vals.toArray 26)).alloc (.cells #[.int .i64 0, .int .i64 0] 91)) := ⟨_, rfl⟩
  rw [← hY] at HW
  obtain ⟨HYE⟩ : Nonempty (Hid (Y = (((w.alloc (.cells #[.pointer (some ⟨st, 0, none⟩)] 43)).alloc (.cells e.vals.toArray 26)).alloc (.cells #[.int .i64 0, .int .i64 0] 91)))) := ⟨hY⟩
  clear hY
  unfold En.agg at *
  obtain ⟨kind, shard, other, server, client, seq, key, upto, part, parts, ops, opsA, opsC, dataA, dataL, dataC⟩ := e
  unfold En.vals at HR HYE ⊢
  dsimp only at *
  unfold ansAgg
  rw [errOf_pos E 4 (by decide)]
  by_cases k1 : kind = 1
  · subst k1
    have HB : rb = false := by rcases HK.out with h | h; exact h; exact absurd rfl h
    subst HB
    clear HK
    go_enter Tryz.func82, Tryz.ntmps82
    go_wp2_with fail
    rw [← HYE.out]
    refine (HR.out Y HW.out.grew).mono ?_
    rintro e w1 ⟨rfl, hg1⟩
    have HW1 := hid (HW.out.more hg1)
    have hl := HW1.out.lt
    have q0 := HG4.out w1 HW1.out.grew
    have a0 := HW1.out.a0
    have a1 := HW1.out.a1
    have f0 := HW1.out.f0
    have f1 := HW1.out.f1
    clear hg1 HW HR HG4
    go_wp2_with fail
    go_region
    go_wp2_with fail
    refine bodyPost_ret (v := .tuple #[.agg #[.int .i64 0, .int .i64 0], .iface 343 (.pointer (some (E 4)))]) (by simp [results, Tryz.results82, go_sem, a0, a1, f0, f1]) rfl ⟨rfl, ?_⟩
    refine ((HW1.out.grew.setCell ?_ _).setCell ?_ _).drew <;> (show w.heap.size ≤ w.heap.size + 2; omega)
  · clear HK HR
    go_enter Tryz.func82, Tryz.ntmps82
    have q0 := HG4.out Y HW.out.grew
    have a0 := HW.out.a0
    have a1 := HW.out.a1
    have f0 := HW.out.f0
    have f1 := HW.out.f1
    have k0 : Y.cell? ⟨w.heap.size + 1, 0, none⟩ = some (.int .i64 kind) := HW.out.ent 0 _ rfl
    have HW1 := hid HW.out
    have hl := HW.out.lt
    clear HG4 HW
    go_wp2_with fail
    rw [← HYE.out]
    go_region
    go_wp2_with fail
    refine bodyPost_ret (v := .tuple #[.agg #[.int .i64 0, .int .i64 0], .iface 343 (.pointer (some (E 4)))]) (by simp [results, Tryz.results82, go_sem, a0, a1, f0, f1]) rfl ⟨rfl, ?_⟩
    refine ((HW1.out.grew.setCell ?_ _).setCell ?_ _).drew <;> (show w.heap.size ≤ w.heap.size + 2; omega)
set_option maxRecDepth 100000 in
set_option maxHeartbeats 4000000 in
theorem writeS_range (E : Nat → Addr) (e : En) (w : World) (hE : Errs stS E w) (hA : EnAt w e) (at_ : Int) (st : Nat) (hk : e.kind = 1) (hr : Pl.rightB e = true) (hat : at_ < 0 ∨ 4096 ≤ at_) :
    Calls Tryz.prog 82 #[.pointer (some ⟨st, 0, none⟩), e.agg, .int .i64 at_] w fun r w' => r = .returned (.tuple #[ansAgg 0 0, errOf E 1]) ∧ Grew w w' := by
  have hS : KeyT stS := ⟨rfl, rfl, rfl, rfl⟩
  have hR := fun W (g : Grew w W) => rightE_any hS E e W (hE.grew g) (hA.grew g)
  rw [hr] at hR
  have HR := hid hR
  have HW := hid (WrIn.start w st e)
  have g4 : w.cell? ⟨1, 0, none⟩ = some (.iface 343 (.pointer (some (E 1)))) := hE.cell 1 rfl
  have b4 : 1 < w.heap.size := cell_lt g4
  have HG4 := hid (fun W (g : Grew w W) => (g.cells.1 _ _ b4).trans g4)
  clear hE hA g4 b4 hr hR
  obtain ⟨Y, hY⟩ : ∃ Y, Y = (((w.alloc (.cells #[.pointer (some ⟨st, 0, none⟩)] 43)).alloc (.cells e.vals.toArray 26)).alloc (.cells #[.int .i64 0, .int .i64 0] 91)) := ⟨_, rfl⟩
  rw [← hY] at HW
  obtain ⟨HYE⟩ : Nonempty (Hid (Y = (((w.alloc (.cells #[.pointer (some ⟨st, 0, none⟩)] 43)).alloc (.cells e.vals.toArray 26)).alloc (.cells #[.int .i64 0, .int .i64 0] 91)))) := ⟨hY⟩
  clear hY
  unfold En.agg at *
  obtain ⟨kind, shard, other, server, client, seq, key, upto, part, parts, ops, opsA, opsC, dataA, dataL, dataC⟩ := e
  unfold En.vals at HR HYE ⊢
  dsimp only at *
  unfold ansAgg
  rw [errOf_pos E 1 (by decide)]
  subst hk
  go_enter Tryz.func82, Tryz.ntmps82
  go_wp2_with fail
  rw [← HYE.out]
  refine (HR.out Y HW.out.grew).mono ?_
  rintro e w1 ⟨rfl, hg1⟩
  have HW1 := hid (HW.out.more hg1)
  have hl := HW1.out.lt
  have q0 := HG4.out w1 HW1.out.grew
  have a0 := HW1.out.a0
  have a1 := HW1.out.a1
  have f0 := HW1.out.f0
  have f1 := HW1.out.f1
  clear hg1 HW HR HG4
  rcases hat with ha | ha
  · go_wp2_with fail
    go_region
    go_wp2_with fail
    refine bodyPost_ret (v := .tuple #[.agg #[.int .i64 0, .int .i64 0], .iface 343 (.pointer (some (E 1)))]) (by simp [results, Tryz.results82, go_sem, a0, a1, f0, f1]) rfl ⟨rfl, ?_⟩
    refine ((HW1.out.grew.setCell ?_ _).setCell ?_ _).drew <;> (show w.heap.size ≤ w.heap.size + 2; omega)
  · have ha2 : ¬ at_ < 0 := by omega
    go_wp2_with fail
    go_region
    go_wp2_with fail
    refine bodyPost_ret (v := .tuple #[.agg #[.int .i64 0, .int .i64 0], .iface 343 (.pointer (some (E 1)))]) (by simp [results, Tryz.results82, go_sem, a0, a1, f0, f1]) rfl ⟨rfl, ?_⟩
    refine ((HW1.out.grew.setCell ?_ _).setCell ?_ _).drew <;> (show w.heap.size ≤ w.heap.size + 2; omega)
end Go.Proofs.YtbdagllflamabaaGreatDoor
