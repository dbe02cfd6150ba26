/- Entries: the walks of writing.right, of, Right. -/
import Derived.Test.YtbdagllflamabaaGreatDoorFinWatchReplaysQ4
namespace Go.Proofs.YtbdagllflamabaaGreatDoor
open Go.RowKit
attribute [local go_sem] Oper.semAt_some
namespace Pl
def wriB (sh cl sq : Int) (ops : List OpR) : Bool := withinB sh 12 && withinB cl 4 && withinB sq 1073741824 && withinB ops.length 8 && !(ops.any fun o => !opRightB o)
end Pl
def OpOk (o : OpR) : Prop := o.key.size ≤ 140737488351232 ∧ o.val.size ≤ 9223372036854775807 ∧ o.old.size ≤ 9223372036854775807
theorem opBad_any {S : Nat → Bool} (hS : KeyT S) (E : Nat → Addr) (o : OpR) (w : World) (hE : Errs S E w) (ho : OpOk o) :
    Calls Tryz.prog 257 #[o.aggOf] w fun e w' => e = .returned (.bool (!Pl.opRightB o)) ∧ Grew w w' := by
  have HO := hid (fun W (g : Grew w W) => opRight_any hS E o W (hE.grew g) ho.1 ho.2.1 ho.2.2)
  clear hE
  unfold OpR.agg at HO
  unfold OpR.aggOf OpR.vals
  obtain ⟨n, k, v, d, r⟩ := o
  dsimp only at *
  go_enter Tryz.func257, Tryz.ntmps257
  go_wp2_with fail
  refine (HO.out _ ((Grew.refl w).alloc _)).mono ?_
  rintro e w1 ⟨rfl, hg⟩
  go_wp2_with fail
  go_ret
  exact ⟨rfl, ((Grew.refl w).alloc _).trans hg⟩
theorem containsOp {S : Nat → Bool} (hS : KeyT S) (E : Nat → Addr) (a : Option Addr) (cap : Nat) (ops : List OpR) (w : World) (hE : Errs S E w) (hA : OpRsAt w a ops) (hx : ops.length ≤ 1000000) (ho : ∀ o ∈ ops, OpOk o) :
    Calls Tryz.prog 256 #[.slice a ops.length cap, .func (.func 257) #[] #[]] w fun e w' => e = .returned (.bool (ops.any fun o => !Pl.opRightB o)) ∧ Grew w w' := by
  have HI := hid (idxOpBad (fun o => !Pl.opRightB o) a cap ops w hA hx (fun j hj W g => opBad_any hS E _ W (hE.grew g) (ho _ (opRAt_mem ops j hj))))
  have HG := hid (idx_ge (fun o => !Pl.opRightB o) ops)
  clear hE hA
  generalize idxI (fun o => !Pl.opRightB o) ops = n at *
  go_enter Tryz.func256, Tryz.ntmps256
  go_wp2_with fail
  refine HI.out.mono ?_
  rintro e w1 ⟨rfl, hg⟩
  go_wp2_with fail
  go_ret
  exact ⟨ret_bool HG.out, hg⟩
set_option maxHeartbeats 1000000 in
theorem wri_right {S : Nat → Bool} (hS : KeyT S) (E : Nat → Addr) (sh cl sq : Int) (a : Option Addr) (cap : Nat) (ops : List OpR) (w : World) (hE : Errs S E w) (hA : OpRsAt w a ops) (hx : ops.length ≤ 1000000) (ho : ∀ o ∈ ops, OpOk o) :
    Calls Tryz.prog 253 #[.agg #[.int .i64 sh, .int .i64 cl, .int .i64 sq, .slice a ops.length cap]] w fun e w' => e = .returned (.bool (Pl.wriB sh cl sq ops)) ∧ Grew w w' := by
  have HC := hid (fun W (g : Grew w W) => containsOp hS E a cap ops W (hE.grew g) (hA.grew g) hx ho)
  clear hE hA
  unfold Pl.wriB
  generalize (ops.any fun o => !Pl.opRightB o) = bad at *
  go_enter Tryz.func253, Tryz.ntmps253
  go_wp2_with fail
  refine (HC.out _ ((Grew.refl w).alloc _)).mono ?_
  rintro e w1 ⟨rfl, hg⟩
  have hc := hg.cells.1
  have hz : w.heap.size < w1.heap.size := by have := hg.size; simp at this; omega
  have hG := ((Grew.refl w).alloc _).trans hg
  clear hg
  go_wp2_with fail
  refine (shard_any _ _).mono ?_
  rintro e w2 ⟨rfl, rfl⟩
  cases h0 : Pl.withinB sh 12 with
  | false =>
    go_wp2_with fail
    go_ret
    exact ⟨ret_bool (by simp [*]), hG⟩
  | true =>
    go_wp2_with fail
    refine (within_any _ _ _).mono ?_
    rintro e w2 ⟨rfl, rfl⟩
    cases h1 : Pl.withinB cl 4 with
    | false =>
      go_wp2_with fail
      go_ret
      exact ⟨ret_bool (by simp [*]), hG⟩
    | true =>
      go_wp2_with fail
      refine (within_any _ _ _).mono ?_
      rintro e w2 ⟨rfl, rfl⟩
      cases h2 : Pl.withinB sq 1073741824 with
      | false =>
        go_wp2_with fail
        go_ret
        exact ⟨ret_bool (by simp [*]), hG⟩
      | true =>
        go_wp2_with fail
        refine (within_any _ _ _).mono ?_
        rintro e w2 ⟨rfl, rfl⟩
        cases h3 : Pl.withinB (ops.length : Int) 8 with
        | false =>
          go_wp2_with fail
          go_ret
          exact ⟨ret_bool (by simp [*]), hG⟩
        | true =>
          go_wp2_with fail
          go_ret
          exact ⟨ret_bool (by simp [*]), hG⟩
structure En where
  kind : Int
  shard : Int
  other : Int
  server : Int
  client : Int
  seq : Int
  key : ByteArray
  upto : Int
  part : Int
  parts : Int
  ops : List OpR
  opsA : Option Addr
  opsC : Nat
  dataA : Option Addr
  dataL : Nat
  dataC : Nat
def En.vals (e : En) : List Value := [.int .i64 e.kind, .int .i64 e.shard, .int .i64 e.other, .int .i64 e.server, .int .i64 e.client, .int .i64 e.seq, .slice e.opsA e.ops.length e.opsC, .string e.key, .int .i64 e.upto, .int .i64 e.part, .int .i64 e.parts, .slice e.dataA e.dataL e.dataC]
def En.agg (e : En) : Value := .agg e.vals.toArray
namespace Pl
def rightB (e : En) : Bool :=
  if e.kind = 1 then wriB e.shard e.client e.seq e.ops
  else if e.kind = 2 then movB e.shard e.server
  else if e.kind = 3 then splB e.shard e.other e.server e.key
  else if e.kind = 4 then merB e.shard e.other
  else if e.kind = 5 then chkB e.shard e.upto e.parts e.part e.dataL
  else false
def recV (e : En) : Value :=
  if e.kind = 1 then .iface 217 (.agg #[.int .i64 e.shard, .int .i64 e.client, .int .i64 e.seq, .slice e.opsA e.ops.length e.opsC])
  else if e.kind = 2 then .iface 219 (.agg #[.int .i64 e.shard, .int .i64 e.server])
  else if e.kind = 3 then .iface 221 (.agg #[.int .i64 e.shard, .int .i64 e.other, .int .i64 e.server, .string e.key])
  else if e.kind = 4 then .iface 223 (.agg #[.int .i64 e.shard, .int .i64 e.other])
  else if e.kind = 5 then .iface 225 (.agg #[.int .i64 e.shard, .int .i64 e.upto, .int .i64 e.parts, .int .i64 e.part, .slice e.dataA e.dataL e.dataC])
  else .nilIface
end Pl
set_option maxHeartbeats 1000000 in
theorem of_any (e : En) (w : World) : Calls Tryz.prog 81 #[e.agg] w fun r w' => r = .returned (Pl.recV e) ∧ Grew w w' := by
  unfold En.agg En.vals
  obtain ⟨kind, shard, other, server, client, seq, key, upto, part, parts, ops, opsA, opsC, dataA, dataL, dataC⟩ := e
  unfold Pl.recV
  dsimp only
  by_cases k1 : kind = 1
  · subst k1
    go_enter Tryz.func81, Tryz.ntmps81
    go_wp2_with fail
    go_ret
    exact ⟨rfl, (Grew.refl w).alloc _⟩
  by_cases k2 : kind = 2
  · subst k2
    go_enter Tryz.func81, Tryz.ntmps81
    go_wp2_with fail
    go_ret
    exact ⟨rfl, (Grew.refl w).alloc _⟩
  by_cases k3 : kind = 3
  · subst k3
    go_enter Tryz.func81, Tryz.ntmps81
    go_wp2_with fail
    go_ret
    exact ⟨rfl, (Grew.refl w).alloc _⟩
  by_cases k4 : kind = 4
  · subst k4
    go_enter Tryz.func81, Tryz.ntmps81
    go_wp2_with fail
    go_ret
    exact ⟨rfl, (Grew.refl w).alloc _⟩
  by_cases k5 : kind = 5
  · subst k5
    go_enter Tryz.func81, Tryz.ntmps81
    go_wp2_with fail
    go_ret
    exact ⟨rfl, (Grew.refl w).alloc _⟩
  have b1 : (kind == 1) = false := beq_eq_false_iff_ne.2 k1
  have b2 : (kind == 2) = false := beq_eq_false_iff_ne.2 k2
  have b3 : (kind == 3) = false := beq_eq_false_iff_ne.2 k3
  have b4 : (kind == 4) = false := beq_eq_false_iff_ne.2 k4
  have b5 : (kind == 5) = false := beq_eq_false_iff_ne.2 k5
  rw [if_neg k1, if_neg k2, if_neg k3, if_neg k4, if_neg k5]
  clear k1 k2 k3 k4 k5
  go_enter Tryz.func81, Tryz.ntmps81
  go_wp2_with fail
  go_ret
  exact ⟨rfl, (Grew.refl w).alloc _⟩
structure EnAt (w : World) (e : En) : Prop where
  ops : OpRsAt w e.opsA e.ops
  few : e.ops.length ≤ 1000000
  ok : ∀ o ∈ e.ops, OpOk o
  key : e.kind = 3 → e.key.size ≤ 140737488351232
theorem EnAt.grew {w w' : World} {e : En} (h : EnAt w e) (g : Grew w w') : EnAt w' e := ⟨h.ops.grew g, h.few, h.ok, h.key⟩
theorem meth_writing (cs : Array Value) (w : World) : (method 483 217 (.agg cs) "tidewater/entry.right").run Tryz.prog w = .ok (253, .agg cs) w := by kernel_rfl
theorem meth_moving (cs : Array Value) (w : World) : (method 483 219 (.agg cs) "tidewater/entry.right").run Tryz.prog w = .ok (263, .agg cs) w := by kernel_rfl
theorem meth_splitting (cs : Array Value) (w : World) : (method 483 221 (.agg cs) "tidewater/entry.right").run Tryz.prog w = .ok (266, .agg cs) w := by kernel_rfl
theorem meth_merging (cs : Array Value) (w : World) : (method 483 223 (.agg cs) "tidewater/entry.right").run Tryz.prog w = .ok (269, .agg cs) w := by kernel_rfl
theorem meth_checking (cs : Array Value) (w : World) : (method 483 225 (.agg cs) "tidewater/entry.right").run Tryz.prog w = .ok (272, .agg cs) w := by kernel_rfl
set_option maxRecDepth 100000 in
set_option maxHeartbeats 4000000 in
theorem rightE_any {S : Nat → Bool} (hS : KeyT S) (E : Nat → Addr) (e : En) (w : World) (hE : Errs S E w) (hA : EnAt w e) :
    Calls Tryz.prog 42 #[e.agg] w fun r w' => r = .returned (.bool (Pl.rightB e)) ∧ Grew w w' := by
  have HE := hid hE
  have HA := hid hA
  have HO := hid (fun W => of_any e W)
  clear hE hA
  by_cases k1 : e.kind = 1
  · have HR : Hid (Pl.rightB e = Pl.wriB e.shard e.client e.seq e.ops) := by unfold Hid Pl.rightB; rw [if_pos k1]
    have HV : Hid (Pl.recV e = .iface 217 (.agg #[.int .i64 e.shard, .int .i64 e.client, .int .i64 e.seq, .slice e.opsA e.ops.length e.opsC])) := by unfold Hid Pl.recV; rw [if_pos k1]
    rw [HV.out] at HO
    unfold En.agg En.vals at *
    clear k1
    have hm := meth_writing
    go_enter Tryz.func42, Tryz.ntmps42
    go_wp2_with fail
    refine (HO.out _).mono ?_
    rintro r w1 ⟨rfl, hg⟩
    have hG := ((Grew.refl w).alloc _).trans hg
    go_wp2_with fail
    refine (wri_right hS E _ _ _ _ _ _ _ (HE.out.grew hG) (HA.out.grew hG).ops HA.out.few HA.out.ok).mono ?_
    rintro r w2 ⟨rfl, hg2⟩
    go_wp2_with fail
    go_ret
    exact ⟨ret_bool HR.out.symm, hG.trans hg2⟩
  by_cases k2 : e.kind = 2
  · have HR : Hid (Pl.rightB e = Pl.movB e.shard e.server) := by unfold Hid Pl.rightB; rw [if_neg k1, if_pos k2]
    have HV : Hid (Pl.recV e = .iface 219 (.agg #[.int .i64 e.shard, .int .i64 e.server])) := by unfold Hid Pl.recV; rw [if_neg k1, if_pos k2]
    rw [HV.out] at HO
    unfold En.agg En.vals at *
    clear k1 k2
    have hm := meth_moving
    go_enter Tryz.func42, Tryz.ntmps42
    go_wp2_with fail
    refine (HO.out _).mono ?_
    rintro r w1 ⟨rfl, hg⟩
    have hG := ((Grew.refl w).alloc _).trans hg
    go_wp2_with fail
    refine (mov_right _ _ _).mono ?_
    rintro r w2 ⟨rfl, hg2⟩
    go_wp2_with fail
    go_ret
    exact ⟨ret_bool HR.out.symm, hG.trans hg2⟩
  by_cases k3 : e.kind = 3
  · have HR : Hid (Pl.rightB e = Pl.splB e.shard e.other e.server e.key) := by unfold Hid Pl.rightB; rw [if_neg k1, if_neg k2, if_pos k3]
    have HV : Hid (Pl.recV e = .iface 221 (.agg #[.int .i64 e.shard, .int .i64 e.other, .int .i64 e.server, .string e.key])) := by unfold Hid Pl.recV; rw [if_neg k1, if_neg k2, if_pos k3]
    rw [HV.out] at HO
    have HK3 := hid (HA.out.key k3)
    unfold En.agg En.vals at *
    clear k1 k2 k3
    have hm := meth_splitting
    go_enter Tryz.func42, Tryz.ntmps42
    go_wp2_with fail
    refine (HO.out _).mono ?_
    rintro r w1 ⟨rfl, hg⟩
    have hG := ((Grew.refl w).alloc _).trans hg
    go_wp2_with fail
    refine (spl_right hS E _ _ _ _ _ (HE.out.grew hG) HK3.out).mono ?_
    rintro r w2 ⟨rfl, hg2⟩
    go_wp2_with fail
    go_ret
    exact ⟨ret_bool HR.out.symm, hG.trans hg2⟩
  by_cases k4 : e.kind = 4
  · have HR : Hid (Pl.rightB e = Pl.merB e.shard e.other) := by unfold Hid Pl.rightB; rw [if_neg k1, if_neg k2, if_neg k3, if_pos k4]
    have HV : Hid (Pl.recV e = .iface 223 (.agg #[.int .i64 e.shard, .int .i64 e.other])) := by unfold Hid Pl.recV; rw [if_neg k1, if_neg k2, if_neg k3, if_pos k4]
    rw [HV.out] at HO
    unfold En.agg En.vals at *
    clear k1 k2 k3 k4
    have hm := meth_merging
    go_enter Tryz.func42, Tryz.ntmps42
    go_wp2_with fail
    refine (HO.out _).mono ?_
    rintro r w1 ⟨rfl, hg⟩
    have hG := ((Grew.refl w).alloc _).trans hg
    go_wp2_with fail
    refine (mer_right _ _ _).mono ?_
    rintro r w2 ⟨rfl, hg2⟩
    go_wp2_with fail
    go_ret
    exact ⟨ret_bool HR.out.symm, hG.trans hg2⟩
  by_cases k5 : e.kind = 5
  · have HR : Hid (Pl.rightB e = Pl.chkB e.shard e.upto e.parts e.part e.dataL) := by unfold Hid Pl.rightB; rw [if_neg k1, if_neg k2, if_neg k3, if_neg k4, if_pos k5]
    have HV : Hid (Pl.recV e = .iface 225 (.agg #[.int .i64 e.shard, .int .i64 e.upto, .int .i64 e.parts, .int .i64 e.part, .slice e.dataA e.dataL e.dataC])) := by unfold Hid Pl.recV; rw [if_neg k1, if_neg k2, if_neg k3, if_neg k4, if_pos k5]
    rw [HV.out] at HO
    unfold En.agg En.vals at *
    clear k1 k2 k3 k4 k5
    have hm := meth_checking
    go_enter Tryz.func42, Tryz.ntmps42
    go_wp2_with fail
    refine (HO.out _).mono ?_
    rintro r w1 ⟨rfl, hg⟩
    have hG := ((Grew.refl w).alloc _).trans hg
    go_wp2_with fail
    refine (chk_right _ _ _ _ _ _ _ _).mono ?_
    rintro r w2 ⟨rfl, hg2⟩
    go_wp2_with fail
    go_ret
    exact ⟨ret_bool HR.out.symm, hG.trans hg2⟩
  have HR : Hid (Pl.rightB e = false) := by unfold Hid Pl.rightB; rw [if_neg k1, if_neg k2, if_neg k3, if_neg k4, if_neg k5]
  have HV : Hid (Pl.recV e = .nilIface) := by unfold Hid Pl.recV; rw [if_neg k1, if_neg k2, if_neg k3, if_neg k4, if_neg k5]
  rw [HV.out] at HO
  unfold En.agg En.vals at *
  clear k1 k2 k3 k4 k5
  go_enter Tryz.func42, Tryz.ntmps42
  go_wp2_with fail
  refine (HO.out _).mono ?_
  rintro r w1 ⟨rfl, hg⟩
  go_wp2_with fail
  go_ret
  exact ⟨ret_bool HR.out.symm, ((Grew.refl w).alloc _).trans hg⟩
end Go.Proofs.YtbdagllflamabaaGreatDoor
