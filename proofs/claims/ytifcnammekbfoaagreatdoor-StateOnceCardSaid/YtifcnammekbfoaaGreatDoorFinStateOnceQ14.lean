/- Ent3, St6: one text. -/
import Derived.Test.YtifcnammekbfoaaGreatDoorFinStateOnceQ13
import Derived.Test.YtifcnammekbfoaaGreatDoorFinStateOnceQ8
import Derived.Deep.AppendLies
/- Entries: the walks of writing.right, of, Right. -/
namespace Go.Proofs.YtifcnammekbfoaaGreatDoor
open Go.RowKit
attribute [local go_sem] Oper.semAt_some

namespace Pl
def wriB (sh cl sq : Int) (ops : List OpR) : Bool := withinB sh 12 && withinB cl 4 && withinB sq 1073741824 && withinB ops.length 8 && !(ops.any fun o => !opRightB o)
end Pl
/-- What an operation may bear. -/
def OpOk (o : OpR) : Prop := o.key.size ≤ 140737488351232 ∧ o.val.size ≤ 9223372036854775807 ∧ o.old.size ≤ 9223372036854775807

theorem opBad_any {S : Nat → Bool} (hS : KeyT S) (E : Nat → Addr) (o : OpR) (w : World) (hE : Errs S E w) (ho : OpOk o) :
    Calls Tryz.prog 225 #[o.aggOf] w fun e w' => e = .returned (.bool (!Pl.opRightB o)) ∧ Grew w w' := by
  have HO := hid (fun W (g : Grew w W) => opRight_any hS E o W (hE.grew g) ho.1 ho.2.1 ho.2.2)
  clear hE
  unfold OpR.agg at HO
  unfold OpR.aggOf OpR.vals
  obtain ⟨n, k, v, d, r⟩ := o
  dsimp only at *
  go_enter Tryz.func225, Tryz.ntmps225
  go_wp2_with fail
  refine (HO.out _ ((Grew.refl w).alloc _)).mono ?_
  rintro e w1 ⟨rfl, hg⟩
  go_wp2_with fail
  go_ret
  exact ⟨rfl, ((Grew.refl w).alloc _).trans hg⟩

theorem containsOp {S : Nat → Bool} (hS : KeyT S) (E : Nat → Addr) (a : Option Addr) (cap : Nat) (ops : List OpR) (w : World) (hE : Errs S E w) (hA : OpRsAt w a ops) (hx : ops.length ≤ 1000000) (ho : ∀ o ∈ ops, OpOk o) :
    Calls Tryz.prog 224 #[.slice a ops.length cap, .func (.func 225) #[] #[]] w fun e w' => e = .returned (.bool (ops.any fun o => !Pl.opRightB o)) ∧ Grew w w' := by
  have HI := hid (idxOpBad (fun o => !Pl.opRightB o) a cap ops w hA hx (fun j hj W g => opBad_any hS E _ W (hE.grew g) (ho _ (opRAt_mem ops j hj))))
  have HG := hid (idx_ge (fun o => !Pl.opRightB o) ops)
  clear hE hA
  generalize idxI (fun o => !Pl.opRightB o) ops = n at *
  go_enter Tryz.func224, Tryz.ntmps224
  go_wp2_with fail
  refine HI.out.mono ?_
  rintro e w1 ⟨rfl, hg⟩
  go_wp2_with fail
  go_ret
  exact ⟨ret_bool HG.out, hg⟩

set_option maxHeartbeats 1000000 in
theorem wri_right {S : Nat → Bool} (hS : KeyT S) (E : Nat → Addr) (sh cl sq : Int) (a : Option Addr) (cap : Nat) (ops : List OpR) (w : World) (hE : Errs S E w) (hA : OpRsAt w a ops) (hx : ops.length ≤ 1000000) (ho : ∀ o ∈ ops, OpOk o) :
    Calls Tryz.prog 221 #[.agg #[.int .i64 sh, .int .i64 cl, .int .i64 sq, .slice a ops.length cap]] w fun e w' => e = .returned (.bool (Pl.wriB sh cl sq ops)) ∧ Grew w w' := by
  have HC := hid (fun W (g : Grew w W) => containsOp hS E a cap ops W (hE.grew g) (hA.grew g) hx ho)
  clear hE hA
  unfold Pl.wriB
  generalize (ops.any fun o => !Pl.opRightB o) = bad at *
  go_enter Tryz.func221, Tryz.ntmps221
  go_wp2_with fail
  refine (HC.out _ ((Grew.refl w).alloc _)).mono ?_
  rintro e w1 ⟨rfl, hg⟩
  have hc := hg.cells.1
  have hz : w.heap.size < w1.heap.size := by have := hg.size; simp at this; omega
  have hG := ((Grew.refl w).alloc _).trans hg
  clear hg
  go_wp2_with fail
  refine (shard_any _ _).mono ?_
  rintro e w2 ⟨rfl, rfl⟩
  cases h0 : Pl.withinB sh 12 with
  | false =>
    go_wp2_with fail
    go_ret
    exact ⟨ret_bool (by simp [*]), hG⟩
  | true =>
    go_wp2_with fail
    refine (within_any _ _ _).mono ?_
    rintro e w2 ⟨rfl, rfl⟩
    cases h1 : Pl.withinB cl 4 with
    | false =>
      go_wp2_with fail
      go_ret
      exact ⟨ret_bool (by simp [*]), hG⟩
    | true =>
      go_wp2_with fail
      refine (within_any _ _ _).mono ?_
      rintro e w2 ⟨rfl, rfl⟩
      cases h2 : Pl.withinB sq 1073741824 with
      | false =>
        go_wp2_with fail
        go_ret
        exact ⟨ret_bool (by simp [*]), hG⟩
      | true =>
        go_wp2_with fail
        refine (within_any _ _ _).mono ?_
        rintro e w2 ⟨rfl, rfl⟩
        cases h3 : Pl.withinB (ops.length : Int) 8 with
        | false =>
          go_wp2_with fail
          go_ret
          exact ⟨ret_bool (by simp [*]), hG⟩
        | true =>
          go_wp2_with fail
          go_ret
          exact ⟨ret_bool (by simp [*]), hG⟩

/-- An entry. -/
structure En where
  kind : Int
  shard : Int
  other : Int
  server : Int
  client : Int
  seq : Int
  key : ByteArray
  upto : Int
  part : Int
  parts : Int
  ops : List OpR
  opsA : Option Addr
  opsC : Nat
  dataA : Option Addr
  dataL : Nat
  dataC : Nat
def En.vals (e : En) : List Value := [.int .i64 e.kind, .int .i64 e.shard, .int .i64 e.other, .int .i64 e.server, .int .i64 e.client, .int .i64 e.seq, .slice e.opsA e.ops.length e.opsC, .string e.key, .int .i64 e.upto, .int .i64 e.part, .int .i64 e.parts, .slice e.dataA e.dataL e.dataC]
def En.agg (e : En) : Value := .agg e.vals.toArray
namespace Pl
def rightB (e : En) : Bool :=
  if e.kind = 1 then wriB e.shard e.client e.seq e.ops
  else if e.kind = 2 then movB e.shard e.server
  else if e.kind = 3 then splB e.shard e.other e.server e.key
  else if e.kind = 4 then merB e.shard e.other
  else if e.kind = 5 then chkB e.shard e.upto e.parts e.part e.dataL
  else false
/-- An entry's record, as an interface value. -/
def recV (e : En) : Value :=
  if e.kind = 1 then .iface 201 (.agg #[.int .i64 e.shard, .int .i64 e.client, .int .i64 e.seq, .slice e.opsA e.ops.length e.opsC])
  else if e.kind = 2 then .iface 239 (.agg #[.int .i64 e.shard, .int .i64 e.server])
  else if e.kind = 3 then .iface 198 (.agg #[.int .i64 e.shard, .int .i64 e.other, .int .i64 e.server, .string e.key])
  else if e.kind = 4 then .iface 241 (.agg #[.int .i64 e.shard, .int .i64 e.other])
  else if e.kind = 5 then .iface 243 (.agg #[.int .i64 e.shard, .int .i64 e.upto, .int .i64 e.parts, .int .i64 e.part, .slice e.dataA e.dataL e.dataC])
  else .nilIface
end Pl
set_option maxHeartbeats 1000000 in
theorem of_any (e : En) (w : World) : Calls Tryz.prog 122 #[e.agg] w fun r w' => r = .returned (Pl.recV e) ∧ Grew w w' := by
  unfold En.agg En.vals
  obtain ⟨kind, shard, other, server, client, seq, key, upto, part, parts, ops, opsA, opsC, dataA, dataL, dataC⟩ := e
  unfold Pl.recV
  dsimp only
  by_cases k1 : kind = 1
  · subst k1
    go_enter Tryz.func122, Tryz.ntmps122
    go_wp2_with fail
    go_ret
    exact ⟨rfl, (Grew.refl w).alloc _⟩
  by_cases k2 : kind = 2
  · subst k2
    go_enter Tryz.func122, Tryz.ntmps122
    go_wp2_with fail
    go_ret
    exact ⟨rfl, (Grew.refl w).alloc _⟩
  by_cases k3 : kind = 3
  · subst k3
    go_enter Tryz.func122, Tryz.ntmps122
    go_wp2_with fail
    go_ret
    exact ⟨rfl, (Grew.refl w).alloc _⟩
  by_cases k4 : kind = 4
  · subst k4
    go_enter Tryz.func122, Tryz.ntmps122
    go_wp2_with fail
    go_ret
    exact ⟨rfl, (Grew.refl w).alloc _⟩
  by_cases k5 : kind = 5
  · subst k5
    go_enter Tryz.func122, Tryz.ntmps122
    go_wp2_with fail
    go_ret
    exact ⟨rfl, (Grew.refl w).alloc _⟩
  have b1 : (kind == 1) = false := beq_eq_false_iff_ne.2 k1
  have b2 : (kind == 2) = false := beq_eq_false_iff_ne.2 k2
  have b3 : (kind == 3) = false := beq_eq_false_iff_ne.2 k3
  have b4 : (kind == 4) = false := beq_eq_false_iff_ne.2 k4
  have b5 : (kind == 5) = false := beq_eq_false_iff_ne.2 k5
  rw [if_neg k1, if_neg k2, if_neg k3, if_neg k4, if_neg k5]
  clear k1 k2 k3 k4 k5
  go_enter Tryz.func122, Tryz.ntmps122
  go_wp2_with fail
  go_ret
  exact ⟨rfl, (Grew.refl w).alloc _⟩

/-- An entry whose operations lie in memory. -/
structure EnAt (w : World) (e : En) : Prop where
  ops : OpRsAt w e.opsA e.ops
  few : e.ops.length ≤ 1000000
  ok : ∀ o ∈ e.ops, OpOk o
  key : e.key.size ≤ 140737488351232
theorem EnAt.grew {w w' : World} {e : En} (h : EnAt w e) (g : Grew w w') : EnAt w' e := ⟨h.ops.grew g, h.few, h.ok, h.key⟩

theorem meth_writing (cs : Array Value) (w : World) : (method 433 201 (.agg cs) "tidewater/entry.right").run Tryz.prog w = .ok (221, .agg cs) w := by kernel_rfl
theorem meth_moving (cs : Array Value) (w : World) : (method 433 239 (.agg cs) "tidewater/entry.right").run Tryz.prog w = .ok (228, .agg cs) w := by kernel_rfl
theorem meth_splitting (cs : Array Value) (w : World) : (method 433 198 (.agg cs) "tidewater/entry.right").run Tryz.prog w = .ok (216, .agg cs) w := by kernel_rfl
theorem meth_merging (cs : Array Value) (w : World) : (method 433 241 (.agg cs) "tidewater/entry.right").run Tryz.prog w = .ok (231, .agg cs) w := by kernel_rfl
theorem meth_checking (cs : Array Value) (w : World) : (method 433 243 (.agg cs) "tidewater/entry.right").run Tryz.prog w = .ok (234, .agg cs) w := by kernel_rfl
set_option maxRecDepth 100000 in
set_option maxHeartbeats 4000000 in
theorem rightE_any {S : Nat → Bool} (hS : KeyT S) (E : Nat → Addr) (e : En) (w : World) (hE : Errs S E w) (hA : EnAt w e) :
    Calls Tryz.prog 70 #[e.agg] w fun r w' => r = .returned (.bool (Pl.rightB e)) ∧ Grew w w' := by
  have HE := hid hE
  have HA := hid hA
  have HO := hid (fun W => of_any e W)
  clear hE hA
  by_cases k1 : e.kind = 1
  · have HR : Hid (Pl.rightB e = Pl.wriB e.shard e.client e.seq e.ops) := by unfold Hid Pl.rightB; rw [if_pos k1]
    have HV : Hid (Pl.recV e = .iface 201 (.agg #[.int .i64 e.shard, .int .i64 e.client, .int .i64 e.seq, .slice e.opsA e.ops.length e.opsC])) := by unfold Hid Pl.recV; rw [if_pos k1]
    rw [HV.out] at HO
    unfold En.agg En.vals at *
    clear k1
    have hm := meth_writing
    go_enter Tryz.func70, Tryz.ntmps70
    go_wp2_with fail
    refine (HO.out _).mono ?_
    rintro r w1 ⟨rfl, hg⟩
    have hG := ((Grew.refl w).alloc _).trans hg
    go_wp2_with fail
    refine (wri_right hS E _ _ _ _ _ _ _ (HE.out.grew hG) (HA.out.grew hG).ops HA.out.few HA.out.ok).mono ?_
    rintro r w2 ⟨rfl, hg2⟩
    go_wp2_with fail
    go_ret
    exact ⟨ret_bool HR.out.symm, hG.trans hg2⟩
  by_cases k2 : e.kind = 2
  · have HR : Hid (Pl.rightB e = Pl.movB e.shard e.server) := by unfold Hid Pl.rightB; rw [if_neg k1, if_pos k2]
    have HV : Hid (Pl.recV e = .iface 239 (.agg #[.int .i64 e.shard, .int .i64 e.server])) := by unfold Hid Pl.recV; rw [if_neg k1, if_pos k2]
    rw [HV.out] at HO
    unfold En.agg En.vals at *
    clear k1 k2
    have hm := meth_moving
    go_enter Tryz.func70, Tryz.ntmps70
    go_wp2_with fail
    refine (HO.out _).mono ?_
    rintro r w1 ⟨rfl, hg⟩
    have hG := ((Grew.refl w).alloc _).trans hg
    go_wp2_with fail
    refine (mov_right _ _ _).mono ?_
    rintro r w2 ⟨rfl, hg2⟩
    go_wp2_with fail
    go_ret
    exact ⟨ret_bool HR.out.symm, hG.trans hg2⟩
  by_cases k3 : e.kind = 3
  · have HR : Hid (Pl.rightB e = Pl.splB e.shard e.other e.server e.key) := by unfold Hid Pl.rightB; rw [if_neg k1, if_neg k2, if_pos k3]
    have HV : Hid (Pl.recV e = .iface 198 (.agg #[.int .i64 e.shard, .int .i64 e.other, .int .i64 e.server, .string e.key])) := by unfold Hid Pl.recV; rw [if_neg k1, if_neg k2, if_pos k3]
    rw [HV.out] at HO
    unfold En.agg En.vals at *
    clear k1 k2 k3
    have hm := meth_splitting
    go_enter Tryz.func70, Tryz.ntmps70
    go_wp2_with fail
    refine (HO.out _).mono ?_
    rintro r w1 ⟨rfl, hg⟩
    have hG := ((Grew.refl w).alloc _).trans hg
    go_wp2_with fail
    refine (spl_right hS E _ _ _ _ _ (HE.out.grew hG) HA.out.key).mono ?_
    rintro r w2 ⟨rfl, hg2⟩
    go_wp2_with fail
    go_ret
    exact ⟨ret_bool HR.out.symm, hG.trans hg2⟩
  by_cases k4 : e.kind = 4
  · have HR : Hid (Pl.rightB e = Pl.merB e.shard e.other) := by unfold Hid Pl.rightB; rw [if_neg k1, if_neg k2, if_neg k3, if_pos k4]
    have HV : Hid (Pl.recV e = .iface 241 (.agg #[.int .i64 e.shard, .int .i64 e.other])) := by unfold Hid Pl.recV; rw [if_neg k1, if_neg k2, if_neg k3, if_pos k4]
    rw [HV.out] at HO
    unfold En.agg En.vals at *
    clear k1 k2 k3 k4
    have hm := meth_merging
    go_enter Tryz.func70, Tryz.ntmps70
    go_wp2_with fail
    refine (HO.out _).mono ?_
    rintro r w1 ⟨rfl, hg⟩
    have hG := ((Grew.refl w).alloc _).trans hg
    go_wp2_with fail
    refine (mer_right _ _ _).mono ?_
    rintro r w2 ⟨rfl, hg2⟩
    go_wp2_with fail
    go_ret
    exact ⟨ret_bool HR.out.symm, hG.trans hg2⟩
  by_cases k5 : e.kind = 5
  · have HR : Hid (Pl.rightB e = Pl.chkB e.shard e.upto e.parts e.part e.dataL) := by unfold Hid Pl.rightB; rw [if_neg k1, if_neg k2, if_neg k3, if_neg k4, if_pos k5]
    have HV : Hid (Pl.recV e = .iface 243 (.agg #[.int .i64 e.shard, .int .i64 e.upto, .int .i64 e.parts, .int .i64 e.part, .slice e.dataA e.dataL e.dataC])) := by unfold Hid Pl.recV; rw [if_neg k1, if_neg k2, if_neg k3, if_neg k4, if_pos k5]
    rw [HV.out] at HO
    unfold En.agg En.vals at *
    clear k1 k2 k3 k4 k5
    have hm := meth_checking
    go_enter Tryz.func70, Tryz.ntmps70
    go_wp2_with fail
    refine (HO.out _).mono ?_
    rintro r w1 ⟨rfl, hg⟩
    have hG := ((Grew.refl w).alloc _).trans hg
    go_wp2_with fail
    refine (chk_right _ _ _ _ _ _ _ _).mono ?_
    rintro r w2 ⟨rfl, hg2⟩
    go_wp2_with fail
    go_ret
    exact ⟨ret_bool HR.out.symm, hG.trans hg2⟩
  have HR : Hid (Pl.rightB e = false) := by unfold Hid Pl.rightB; rw [if_neg k1, if_neg k2, if_neg k3, if_neg k4, if_neg k5]
  have HV : Hid (Pl.recV e = .nilIface) := by unfold Hid Pl.recV; rw [if_neg k1, if_neg k2, if_neg k3, if_neg k4, if_neg k5]
  rw [HV.out] at HO
  unfold En.agg En.vals at *
  clear k1 k2 k3 k4 k5
  go_enter Tryz.func70, Tryz.ntmps70
  go_wp2_with fail
  refine (HO.out _).mono ?_
  rintro r w1 ⟨rfl, hg⟩
  go_wp2_with fail
  go_ret
  exact ⟨ret_bool HR.out.symm, ((Grew.refl w).alloc _).trans hg⟩
end Go.Proofs.YtifcnammekbfoaaGreatDoor

/- The walk of entry.Keys at a right Write. -/
set_option linter.unusedVariables false
set_option linter.unusedSectionVars false
set_option linter.unusedSimpArgs false
namespace Go.Proofs.YtifcnammekbfoaaGreatDoor
open Go.RowKit Go.Maps
attribute [local go_sem] Oper.semAt_some

def strFlat (ks : List ByteArray) : List Value := ks.map Value.string
theorem strFlat_length (ks : List ByteArray) : (strFlat ks).length = ks.length := by simp [strFlat]
theorem info_str : (Tryz.prog.info? 9).map (fun i => (i.zero, i.size, i.bytes)) = some (some (.string ⟨#[]⟩), 1, 16) := by kernel_rfl
/-- append(own, key), the key in a block of its own. -/
theorem run_append_str {w : World} {B : Nat} {v : Value} {m : Nat} {ks : List ByteArray} (hown : w.ownsRow B 9 1 v m (strFlat ks)) (kb : Nat) (key : ByteArray) (hk : w.cell? ⟨kb, 0, none⟩ = some (.string key)) (hbig : m ≤ 1000000) (hB : B ≤ w.heap.size) (ty : TypeId) :
    ∃ v' w', (Builtin.append_ #[77, 77] ty #[v, .slice (some ⟨kb, 0, none⟩) 1 1]).run Tryz.prog w = .ok v' w' ∧ w'.ownsRow B 9 1 v' (m + 1) (strFlat (ks ++ [key])) ∧ w.grownBy w' v.ownBlock := by
  obtain ⟨i0, hi0, hz0, hz1, hz2⟩ := info_parts info_str
  obtain ⟨g, cap2, w2, h1, h2, h3, h4, h5⟩ := run_append_lies (P := Tryz.prog) (w := w) 77 ty B 9 i0 _ 1 16 Tryz.underlying77 hi0 hz0 hz1 hz2 rfl (by omega) v m (strFlat ks) hown ⟨kb, 0, none⟩ 1 1 [.string key] rfl (fun j u hj => by
    rw [Addr.add_lit]
    cases j with
    | zero => cases hj; exact hk
    | succ j => simp at hj) (fun u hu => by simp at hu; subst hu; rfl) (by omega) (by unfold maxLen; omega) (by omega) hB _ rfl
  refine ⟨_, w2, h1, ?_, h3⟩
  have e : strFlat (ks ++ [key]) = strFlat ks ++ [.string key] := by simp [strFlat]
  rw [e]
  exact h2

@[local go_sem] theorem as_splitting (v : Value) (xT : TypeId) (w : World) : (Instr.typeAssert (.iface 201 v) xT 198 true).run Tryz.prog w = .ok (.tuple #[.agg #[.int .i64 0, .int .i64 0, .int .i64 0, .string ⟨#[]⟩], .bool false]) w := by kernel_rfl
@[local go_sem] theorem as_writing (v : Value) (xT : TypeId) (w : World) : (Instr.typeAssert (.iface 201 v) xT 201 true).run Tryz.prog w = .ok (.tuple #[v, .bool true]) w := by kernel_rfl
set_option maxRecDepth 100000 in
set_option maxHeartbeats 4000000 in
theorem keysE_any {S : Nat → Bool} (hS : KeyT S) (E : Nat → Addr) (e : En) (w : World) (hE : Errs S E w) (hA : EnAt w e) (hk : e.kind = 1) (hr : Pl.rightB e = true) :
    Calls Tryz.prog 72 #[e.agg] w fun r w' => (∃ v, r = .returned v ∧ w'.ownsRow w.heap.size 9 1 v e.ops.length (strFlat (e.ops.map OpR.key))) ∧ Grew w w' := by
  have HR := hid (fun W (g : Grew w W) => rightE_any hS E e W (hE.grew g) (hA.grew g))
  rw [hr] at HR
  have HO := hid (fun W => of_any e W)
  have hrec : Pl.recV e = .iface 201 (.agg #[.int .i64 e.shard, .int .i64 e.client, .int .i64 e.seq, .slice e.opsA e.ops.length e.opsC]) := by unfold Pl.recV; rw [if_pos hk]
  rw [hrec] at HO
  have HOP := hid hA.ops
  have hfew := hA.few
  clear hE hA hr hrec hk
  unfold En.agg En.vals at *
  obtain ⟨kind, shard, other, server, client, seq, key, upto, part, parts, ops, opsA, opsC, dataA, dataL, dataC⟩ := e
  dsimp only at *
  obtain ⟨Y, hY⟩ : ∃ Y, Y = w.alloc (.cells #[.int .i64 kind, .int .i64 shard, .int .i64 other, .int .i64 server, .int .i64 client, .int .i64 seq, .slice opsA ops.length opsC, .string key, .int .i64 upto, .int .i64 part, .int .i64 parts, .slice dataA dataL dataC] 52) := ⟨_, rfl⟩
  have gY : Grew w Y := by rw [hY]; exact (Grew.refl w).alloc _
  have HY := hid hY
  have HGY := hid gY
  have hbY : w.heap.size < Y.heap.size := by rw [hY]; simp
  clear hY gY
  go_enter Tryz.func72, Tryz.ntmps72
  go_wp2_with fail
  rw [← HY.out]
  refine (HR.out Y HGY.out).mono ?_
  rintro e w1 ⟨rfl, hg1⟩
  have d0 : w1.cell? ⟨w.heap.size, 0, none⟩ = some (.int .i64 kind) := (hg1.cells.1 _ 0 hbY).trans (by rw [HY.out]; simp [go_sem])
  have d1 : w1.cell? ⟨w.heap.size, 1, none⟩ = some (.int .i64 shard) := (hg1.cells.1 _ 1 hbY).trans (by rw [HY.out]; simp [go_sem])
  have d2 : w1.cell? ⟨w.heap.size, 2, none⟩ = some (.int .i64 other) := (hg1.cells.1 _ 2 hbY).trans (by rw [HY.out]; simp [go_sem])
  have d3 : w1.cell? ⟨w.heap.size, 3, none⟩ = some (.int .i64 server) := (hg1.cells.1 _ 3 hbY).trans (by rw [HY.out]; simp [go_sem])
  have d4 : w1.cell? ⟨w.heap.size, 4, none⟩ = some (.int .i64 client) := (hg1.cells.1 _ 4 hbY).trans (by rw [HY.out]; simp [go_sem])
  have d5 : w1.cell? ⟨w.heap.size, 5, none⟩ = some (.int .i64 seq) := (hg1.cells.1 _ 5 hbY).trans (by rw [HY.out]; simp [go_sem])
  have d6 : w1.cell? ⟨w.heap.size, 6, none⟩ = some (.slice opsA ops.length opsC) := (hg1.cells.1 _ 6 hbY).trans (by rw [HY.out]; simp [go_sem])
  have d7 : w1.cell? ⟨w.heap.size, 7, none⟩ = some (.string key) := (hg1.cells.1 _ 7 hbY).trans (by rw [HY.out]; simp [go_sem])
  have d8 : w1.cell? ⟨w.heap.size, 8, none⟩ = some (.int .i64 upto) := (hg1.cells.1 _ 8 hbY).trans (by rw [HY.out]; simp [go_sem])
  have d9 : w1.cell? ⟨w.heap.size, 9, none⟩ = some (.int .i64 part) := (hg1.cells.1 _ 9 hbY).trans (by rw [HY.out]; simp [go_sem])
  have d10 : w1.cell? ⟨w.heap.size, 10, none⟩ = some (.int .i64 parts) := (hg1.cells.1 _ 10 hbY).trans (by rw [HY.out]; simp [go_sem])
  have d11 : w1.cell? ⟨w.heap.size, 11, none⟩ = some (.slice dataA dataL dataC) := (hg1.cells.1 _ 11 hbY).trans (by rw [HY.out]; simp [go_sem])
  have HG1 := hid (HGY.out.trans hg1)
  clear hg1 hbY HR
  go_wp2_with fail
  clear d0 d1 d2 d3 d4 d5 d6 d7 d8 d9 d10 d11
  refine (HO.out w1).mono ?_
  rintro e w2 ⟨rfl, hg2⟩
  have HG2 := hid (HG1.out.trans hg2)
  clear hg2 HO
  obtain ⟨X, hX⟩ : ∃ X, X = (w2.alloc (.cells #[.int .i64 0, .int .i64 0, .int .i64 0, .string ⟨#[]⟩] 198)).alloc (.cells #[.int .i64 shard, .int .i64 client, .int .i64 seq, .slice opsA ops.length opsC] 201) := ⟨_, rfl⟩
  have HX := hid hX
  have HGX := hid (show Grew w X from by rw [hX]; exact (HG2.out.alloc _).alloc _)
  clear hX
  go_wp2_with fail
  rw [← HX.out]
  go_loopw [8, 35] (fun v i wr => ∃ k : Nat, k ≤ ops.length ∧ i = .int .i64 k ∧ Hid (wr.ownsRow w.heap.size 9 1 v k (strFlat ((ops.take k).map OpR.key))) ∧ Grew w wr) (fun _ i _ => ops.length - (intOf i).toNat)
  case atStart => exact ⟨0, Nat.zero_le _, rfl, World.ownsRow_nil _ _ _ _, HGX.out⟩
  case round =>
    obtain ⟨k, hk1, rfl, HV, hG⟩ := hrel
    by_cases hlt : k < ops.length
    · rcases HOP.out with h0 | ⟨b, off, rfl, hb, hR⟩
      · rw [h0] at hlt; simp at hlt
      have q0 := (hG.cells.1 b (off + k * 5) hb).trans (hR.kind k hlt)
      have q1 := (hG.cells.1 b (off + k * 5 + 1) hb).trans (hR.key k hlt)
      have q2 := (hG.cells.1 b (off + k * 5 + 2) hb).trans (hR.val k hlt)
      have q3 := (hG.cells.1 b (off + k * 5 + 3) hb).trans (hR.old k hlt)
      have q4 := (hG.cells.1 b (off + k * 5 + 4) hb).trans (hR.ver k hlt)
      have hat : opRAt ops k = ops[k] := opRAt_eq ops k hlt
      have hnx : (ops.take (k + 1)).map OpR.key = (ops.take k).map OpR.key ++ [(opRAt ops k).key] := by
        rw [hat, List.take_succ_eq_append_getElem hlt, List.map_append]; rfl
      have HNX := hid hnx
      clear hR hat hnx
      generalize opRAt ops k = c at *
      obtain ⟨c0, c1, c2, c3, c4⟩ := c
      dsimp only at *
      have HGR := hid hG
      have gA : Grew w ((wr.alloc (.cells #[.int .i64 c0, .string c1, .string c2, .string c3, .int .i64 c4] 130)).alloc (.cells #[.string c1] 9)) := (hG.alloc _).alloc _
      obtain ⟨v', W, hrun, hown, hgb⟩ := run_append_str (w := (wr.alloc (.cells #[.int .i64 c0, .string c1, .string c2, .string c3, .int .i64 c4] 130)).alloc (.cells #[.string c1] 9)) ((World.ownsRow.alloc HV.out _).alloc _) (wr.heap.size + 1) c1 (by simp [go_sem]) (by omega) gA.size 77
      rw [← HNX.out] at hown
      have hGW : Grew w W := ((gA.only _).then (Only.of_grownBy hgb)).grew fun j hj => (HV.out.lt j hj.symm).1
      have HOWN := hid hown
      have HGW := hid hGW
      have HRUN := hid hrun
      clear gA hown hgb hGW hrun HV HNX
      go_wp2_with (at_builtin; refine Lib.wpList_append_run _ rfl _ _ _ _ rfl _ _ rfl rfl _ _ HRUN.out ?_)
      clear q0 q1 q2 q3 q4 HRUN HGR
      go_wp2_with fail
      go_roundw
      case rel => exact ⟨k + 1, by omega, by go_num, HOWN, HGW.out⟩
      case measure => simp [intOf]; omega
    · obtain rfl : k = ops.length := by omega
      go_wp2_with fail
      go_ret
      refine ⟨⟨_, rfl, ?_⟩, hG⟩
      have := HV.out
      rwa [List.take_length] at this
end Go.Proofs.YtifcnammekbfoaaGreatDoor
