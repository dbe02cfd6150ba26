/- Ent3, CloneOp, Num19: one text. -/
import Derived.Test.YtgfibdkeaicnfaaGreatDoorFinClientNewQ11
import Derived.Test.YtgfibdkeaicnfaaGreatDoorFinClientNewQ1
import Derived.Deep.AppendLies
import Derived.Deep.Upon
import Derived.Lib.AppendZeros
import Derived.Test.YtgfibdkeaicnfaaGreatDoorFinClientNewQ4
namespace Go.Proofs.YtgfibdkeaicnfaaGreatDoor
open Go.RowKit
attribute [local go_sem] Oper.semAt_some
namespace Pl
def wriB (sh cl sq : Int) (ops : List OpR) : Bool := withinB sh 12 && withinB cl 4 && withinB sq 1073741824 && withinB ops.length 8 && !(ops.any fun o => !opRightB o)
end Pl
def OpOk (o : OpR) : Prop := o.key.size ≤ 140737488351232 ∧ o.val.size ≤ 9223372036854775807 ∧ o.old.size ≤ 9223372036854775807
theorem opBad_any {S : Nat → Bool} (hS : KeyT S) (E : Nat → Addr) (o : OpR) (w : World) (hE : Errs S E w) (ho : OpOk o) :
    Calls Tryz.prog 380 #[o.aggOf] w fun e w' => e = .returned (.bool (!Pl.opRightB o)) ∧ Grew w w' := by
  have HO := hid (fun W (g : Grew w W) => opRight_any hS E o W (hE.grew g) ho.1 ho.2.1 ho.2.2)
  clear hE
  unfold OpR.agg at HO
  unfold OpR.aggOf OpR.vals
  obtain ⟨n, k, v, d, r⟩ := o
  dsimp only at *
  go_enter Tryz.func380, Tryz.ntmps380
  go_wp2_with fail
  refine (HO.out _ ((Grew.refl w).alloc _)).mono ?_
  rintro e w1 ⟨rfl, hg⟩
  go_wp2_with fail
  go_ret
  exact ⟨rfl, ((Grew.refl w).alloc _).trans hg⟩
theorem containsOp {S : Nat → Bool} (hS : KeyT S) (E : Nat → Addr) (a : Option Addr) (cap : Nat) (ops : List OpR) (w : World) (hE : Errs S E w) (hA : OpRsAt w a ops) (hx : ops.length ≤ 1000000) (ho : ∀ o ∈ ops, OpOk o) :
    Calls Tryz.prog 379 #[.slice a ops.length cap, .func (.func 380) #[] #[]] w fun e w' => e = .returned (.bool (ops.any fun o => !Pl.opRightB o)) ∧ Grew w w' := by
  have HI := hid (idxOpBad (fun o => !Pl.opRightB o) a cap ops w hA hx (fun j hj W g => opBad_any hS E _ W (hE.grew g) (ho _ (opRAt_mem ops j hj))))
  have HG := hid (idx_ge (fun o => !Pl.opRightB o) ops)
  clear hE hA
  generalize idxI (fun o => !Pl.opRightB o) ops = n at *
  go_enter Tryz.func379, Tryz.ntmps379
  go_wp2_with fail
  refine HI.out.mono ?_
  rintro e w1 ⟨rfl, hg⟩
  go_wp2_with fail
  go_ret
  exact ⟨ret_bool HG.out, hg⟩
set_option maxHeartbeats 1000000 in
theorem wri_right {S : Nat → Bool} (hS : KeyT S) (E : Nat → Addr) (sh cl sq : Int) (a : Option Addr) (cap : Nat) (ops : List OpR) (w : World) (hE : Errs S E w) (hA : OpRsAt w a ops) (hx : ops.length ≤ 1000000) (ho : ∀ o ∈ ops, OpOk o) :
    Calls Tryz.prog 376 #[.agg #[.int .i64 sh, .int .i64 cl, .int .i64 sq, .slice a ops.length cap]] w fun e w' => e = .returned (.bool (Pl.wriB sh cl sq ops)) ∧ Grew w w' := by
  have HC := hid (fun W (g : Grew w W) => containsOp hS E a cap ops W (hE.grew g) (hA.grew g) hx ho)
  clear hE hA
  unfold Pl.wriB
  generalize (ops.any fun o => !Pl.opRightB o) = bad at *
  go_enter Tryz.func376, Tryz.ntmps376
  go_wp2_with fail
  refine (HC.out _ ((Grew.refl w).alloc _)).mono ?_
  rintro e w1 ⟨rfl, hg⟩
  have hc := hg.cells.1
  have hz : w.heap.size < w1.heap.size := by have := hg.size; simp at this; omega
  have hG := ((Grew.refl w).alloc _).trans hg
  clear hg
  go_wp2_with fail
  refine (shard_any _ _).mono ?_
  rintro e w2 ⟨rfl, rfl⟩
  cases h0 : Pl.withinB sh 12 with
  | false =>
    go_wp2_with fail
    go_ret
    exact ⟨ret_bool (by simp [*]), hG⟩
  | true =>
    go_wp2_with fail
    refine (within_any _ _ _).mono ?_
    rintro e w2 ⟨rfl, rfl⟩
    cases h1 : Pl.withinB cl 4 with
    | false =>
      go_wp2_with fail
      go_ret
      exact ⟨ret_bool (by simp [*]), hG⟩
    | true =>
      go_wp2_with fail
      refine (within_any _ _ _).mono ?_
      rintro e w2 ⟨rfl, rfl⟩
      cases h2 : Pl.withinB sq 1073741824 with
      | false =>
        go_wp2_with fail
        go_ret
        exact ⟨ret_bool (by simp [*]), hG⟩
      | true =>
        go_wp2_with fail
        refine (within_any _ _ _).mono ?_
        rintro e w2 ⟨rfl, rfl⟩
        cases h3 : Pl.withinB (ops.length : Int) 8 with
        | false =>
          go_wp2_with fail
          go_ret
          exact ⟨ret_bool (by simp [*]), hG⟩
        | true =>
          go_wp2_with fail
          go_ret
          exact ⟨ret_bool (by simp [*]), hG⟩
structure En where
  kind : Int
  shard : Int
  other : Int
  server : Int
  client : Int
  seq : Int
  key : ByteArray
  upto : Int
  part : Int
  parts : Int
  ops : List OpR
  opsA : Option Addr
  opsC : Nat
  dataA : Option Addr
  dataL : Nat
  dataC : Nat
def En.vals (e : En) : List Value := [.int .i64 e.kind, .int .i64 e.shard, .int .i64 e.other, .int .i64 e.server, .int .i64 e.client, .int .i64 e.seq, .slice e.opsA e.ops.length e.opsC, .string e.key, .int .i64 e.upto, .int .i64 e.part, .int .i64 e.parts, .slice e.dataA e.dataL e.dataC]
def En.agg (e : En) : Value := .agg e.vals.toArray
namespace Pl
def rightB (e : En) : Bool :=
  if e.kind = 1 then wriB e.shard e.client e.seq e.ops
  else if e.kind = 2 then movB e.shard e.server
  else if e.kind = 3 then splB e.shard e.other e.server e.key
  else if e.kind = 4 then merB e.shard e.other
  else if e.kind = 5 then chkB e.shard e.upto e.parts e.part e.dataL
  else false
def recV (e : En) : Value :=
  if e.kind = 1 then .iface 151 (.agg #[.int .i64 e.shard, .int .i64 e.client, .int .i64 e.seq, .slice e.opsA e.ops.length e.opsC])
  else if e.kind = 2 then .iface 153 (.agg #[.int .i64 e.shard, .int .i64 e.server])
  else if e.kind = 3 then .iface 155 (.agg #[.int .i64 e.shard, .int .i64 e.other, .int .i64 e.server, .string e.key])
  else if e.kind = 4 then .iface 157 (.agg #[.int .i64 e.shard, .int .i64 e.other])
  else if e.kind = 5 then .iface 159 (.agg #[.int .i64 e.shard, .int .i64 e.upto, .int .i64 e.parts, .int .i64 e.part, .slice e.dataA e.dataL e.dataC])
  else .nilIface
end Pl
set_option maxHeartbeats 1000000 in
theorem of_any (e : En) (w : World) : Calls Tryz.prog 29 #[e.agg] w fun r w' => r = .returned (Pl.recV e) ∧ Grew w w' := by
  unfold En.agg En.vals
  obtain ⟨kind, shard, other, server, client, seq, key, upto, part, parts, ops, opsA, opsC, dataA, dataL, dataC⟩ := e
  unfold Pl.recV
  dsimp only
  by_cases k1 : kind = 1
  · subst k1
    go_enter Tryz.func29, Tryz.ntmps29
    go_wp2_with fail
    go_ret
    exact ⟨rfl, (Grew.refl w).alloc _⟩
  by_cases k2 : kind = 2
  · subst k2
    go_enter Tryz.func29, Tryz.ntmps29
    go_wp2_with fail
    go_ret
    exact ⟨rfl, (Grew.refl w).alloc _⟩
  by_cases k3 : kind = 3
  · subst k3
    go_enter Tryz.func29, Tryz.ntmps29
    go_wp2_with fail
    go_ret
    exact ⟨rfl, (Grew.refl w).alloc _⟩
  by_cases k4 : kind = 4
  · subst k4
    go_enter Tryz.func29, Tryz.ntmps29
    go_wp2_with fail
    go_ret
    exact ⟨rfl, (Grew.refl w).alloc _⟩
  by_cases k5 : kind = 5
  · subst k5
    go_enter Tryz.func29, Tryz.ntmps29
    go_wp2_with fail
    go_ret
    exact ⟨rfl, (Grew.refl w).alloc _⟩
  have b1 : (kind == 1) = false := beq_eq_false_iff_ne.2 k1
  have b2 : (kind == 2) = false := beq_eq_false_iff_ne.2 k2
  have b3 : (kind == 3) = false := beq_eq_false_iff_ne.2 k3
  have b4 : (kind == 4) = false := beq_eq_false_iff_ne.2 k4
  have b5 : (kind == 5) = false := beq_eq_false_iff_ne.2 k5
  rw [if_neg k1, if_neg k2, if_neg k3, if_neg k4, if_neg k5]
  clear k1 k2 k3 k4 k5
  go_enter Tryz.func29, Tryz.ntmps29
  go_wp2_with fail
  go_ret
  exact ⟨rfl, (Grew.refl w).alloc _⟩
structure EnAt (w : World) (e : En) : Prop where
  ops : OpRsAt w e.opsA e.ops
  few : e.ops.length ≤ 1000000
  ok : ∀ o ∈ e.ops, OpOk o
  key : e.kind = 3 → e.key.size ≤ 140737488351232
theorem EnAt.grew {w w' : World} {e : En} (h : EnAt w e) (g : Grew w w') : EnAt w' e := ⟨h.ops.grew g, h.few, h.ok, h.key⟩
theorem meth_writing (cs : Array Value) (w : World) : (method 644 151 (.agg cs) "tidewater/entry.right").run Tryz.prog w = .ok (376, .agg cs) w := by kernel_rfl
theorem meth_moving (cs : Array Value) (w : World) : (method 644 153 (.agg cs) "tidewater/entry.right").run Tryz.prog w = .ok (386, .agg cs) w := by kernel_rfl
theorem meth_splitting (cs : Array Value) (w : World) : (method 644 155 (.agg cs) "tidewater/entry.right").run Tryz.prog w = .ok (389, .agg cs) w := by kernel_rfl
theorem meth_merging (cs : Array Value) (w : World) : (method 644 157 (.agg cs) "tidewater/entry.right").run Tryz.prog w = .ok (392, .agg cs) w := by kernel_rfl
theorem meth_checking (cs : Array Value) (w : World) : (method 644 159 (.agg cs) "tidewater/entry.right").run Tryz.prog w = .ok (395, .agg cs) w := by kernel_rfl
set_option maxRecDepth 100000 in
set_option maxHeartbeats 4000000 in
theorem rightE_any {S : Nat → Bool} (hS : KeyT S) (E : Nat → Addr) (e : En) (w : World) (hE : Errs S E w) (hA : EnAt w e) :
    Calls Tryz.prog 14 #[e.agg] w fun r w' => r = .returned (.bool (Pl.rightB e)) ∧ Grew w w' := by
  have HE := hid hE
  have HA := hid hA
  have HO := hid (fun W => of_any e W)
  clear hE hA
  by_cases k1 : e.kind = 1
  · have HR : Hid (Pl.rightB e = Pl.wriB e.shard e.client e.seq e.ops) := by unfold Hid Pl.rightB; rw [if_pos k1]
    have HV : Hid (Pl.recV e = .iface 151 (.agg #[.int .i64 e.shard, .int .i64 e.client, .int .i64 e.seq, .slice e.opsA e.ops.length e.opsC])) := by unfold Hid Pl.recV; rw [if_pos k1]
    rw [HV.out] at HO
    unfold En.agg En.vals at *
    clear k1
    have hm := meth_writing
    go_enter Tryz.func14, Tryz.ntmps14
    go_wp2_with fail
    refine (HO.out _).mono ?_
    rintro r w1 ⟨rfl, hg⟩
    have hG := ((Grew.refl w).alloc _).trans hg
    go_wp2_with fail
    refine (wri_right hS E _ _ _ _ _ _ _ (HE.out.grew hG) (HA.out.grew hG).ops HA.out.few HA.out.ok).mono ?_
    rintro r w2 ⟨rfl, hg2⟩
    go_wp2_with fail
    go_ret
    exact ⟨ret_bool HR.out.symm, hG.trans hg2⟩
  by_cases k2 : e.kind = 2
  · have HR : Hid (Pl.rightB e = Pl.movB e.shard e.server) := by unfold Hid Pl.rightB; rw [if_neg k1, if_pos k2]
    have HV : Hid (Pl.recV e = .iface 153 (.agg #[.int .i64 e.shard, .int .i64 e.server])) := by unfold Hid Pl.recV; rw [if_neg k1, if_pos k2]
    rw [HV.out] at HO
    unfold En.agg En.vals at *
    clear k1 k2
    have hm := meth_moving
    go_enter Tryz.func14, Tryz.ntmps14
    go_wp2_with fail
    refine (HO.out _).mono ?_
    rintro r w1 ⟨rfl, hg⟩
    have hG := ((Grew.refl w).alloc _).trans hg
    go_wp2_with fail
    refine (mov_right _ _ _).mono ?_
    rintro r w2 ⟨rfl, hg2⟩
    go_wp2_with fail
    go_ret
    exact ⟨ret_bool HR.out.symm, hG.trans hg2⟩
  by_cases k3 : e.kind = 3
  · have HR : Hid (Pl.rightB e = Pl.splB e.shard e.other e.server e.key) := by unfold Hid Pl.rightB; rw [if_neg k1, if_neg k2, if_pos k3]
    have HV : Hid (Pl.recV e = .iface 155 (.agg #[.int .i64 e.shard, .int .i64 e.other, .int .i64 e.server, .string e.key])) := by unfold Hid Pl.recV; rw [if_neg k1, if_neg k2, if_pos k3]
    rw [HV.out] at HO
    have HK3 := hid (HA.out.key k3)
    unfold En.agg En.vals at *
    clear k1 k2 k3
    have hm := meth_splitting
    go_enter Tryz.func14, Tryz.ntmps14
    go_wp2_with fail
    refine (HO.out _).mono ?_
    rintro r w1 ⟨rfl, hg⟩
    have hG := ((Grew.refl w).alloc _).trans hg
    go_wp2_with fail
    refine (spl_right hS E _ _ _ _ _ (HE.out.grew hG) HK3.out).mono ?_
    rintro r w2 ⟨rfl, hg2⟩
    go_wp2_with fail
    go_ret
    exact ⟨ret_bool HR.out.symm, hG.trans hg2⟩
  by_cases k4 : e.kind = 4
  · have HR : Hid (Pl.rightB e = Pl.merB e.shard e.other) := by unfold Hid Pl.rightB; rw [if_neg k1, if_neg k2, if_neg k3, if_pos k4]
    have HV : Hid (Pl.recV e = .iface 157 (.agg #[.int .i64 e.shard, .int .i64 e.other])) := by unfold Hid Pl.recV; rw [if_neg k1, if_neg k2, if_neg k3, if_pos k4]
    rw [HV.out] at HO
    unfold En.agg En.vals at *
    clear k1 k2 k3 k4
    have hm := meth_merging
    go_enter Tryz.func14, Tryz.ntmps14
    go_wp2_with fail
    refine (HO.out _).mono ?_
    rintro r w1 ⟨rfl, hg⟩
    have hG := ((Grew.refl w).alloc _).trans hg
    go_wp2_with fail
    refine (mer_right _ _ _).mono ?_
    rintro r w2 ⟨rfl, hg2⟩
    go_wp2_with fail
    go_ret
    exact ⟨ret_bool HR.out.symm, hG.trans hg2⟩
  by_cases k5 : e.kind = 5
  · have HR : Hid (Pl.rightB e = Pl.chkB e.shard e.upto e.parts e.part e.dataL) := by unfold Hid Pl.rightB; rw [if_neg k1, if_neg k2, if_neg k3, if_neg k4, if_pos k5]
    have HV : Hid (Pl.recV e = .iface 159 (.agg #[.int .i64 e.shard, .int .i64 e.upto, .int .i64 e.parts, .int .i64 e.part, .slice e.dataA e.dataL e.dataC])) := by unfold Hid Pl.recV; rw [if_neg k1, if_neg k2, if_neg k3, if_neg k4, if_pos k5]
    rw [HV.out] at HO
    unfold En.agg En.vals at *
    clear k1 k2 k3 k4 k5
    have hm := meth_checking
    go_enter Tryz.func14, Tryz.ntmps14
    go_wp2_with fail
    refine (HO.out _).mono ?_
    rintro r w1 ⟨rfl, hg⟩
    have hG := ((Grew.refl w).alloc _).trans hg
    go_wp2_with fail
    refine (chk_right _ _ _ _ _ _ _ _).mono ?_
    rintro r w2 ⟨rfl, hg2⟩
    go_wp2_with fail
    go_ret
    exact ⟨ret_bool HR.out.symm, hG.trans hg2⟩
  have HR : Hid (Pl.rightB e = false) := by unfold Hid Pl.rightB; rw [if_neg k1, if_neg k2, if_neg k3, if_neg k4, if_neg k5]
  have HV : Hid (Pl.recV e = .nilIface) := by unfold Hid Pl.recV; rw [if_neg k1, if_neg k2, if_neg k3, if_neg k4, if_neg k5]
  rw [HV.out] at HO
  unfold En.agg En.vals at *
  clear k1 k2 k3 k4 k5
  go_enter Tryz.func14, Tryz.ntmps14
  go_wp2_with fail
  refine (HO.out _).mono ?_
  rintro r w1 ⟨rfl, hg⟩
  go_wp2_with fail
  go_ret
  exact ⟨ret_bool HR.out.symm, ((Grew.refl w).alloc _).trans hg⟩
end Go.Proofs.YtgfibdkeaicnfaaGreatDoor
set_option linter.unusedVariables false
set_option linter.unusedSectionVars false
set_option linter.unusedSimpArgs false
namespace Go.Proofs.YtgfibdkeaicnfaaGreatDoor
open Go.RowKit Go.Maps
attribute [local go_sem] Oper.semAt_some
theorem infoCOp : (Tryz.prog.info? 25).map (fun i => (i.zero, i.size, i.bytes)) = some (some (.agg #[.int .i64 0, .string ⟨#[]⟩, .string ⟨#[]⟩, .string ⟨#[]⟩, .int .i64 0]), 5, 64) := by kernel_rfl
theorem zcCOp : (Value.cells (.agg #[.int .i64 0, .string ⟨#[]⟩, .string ⟨#[]⟩, .string ⟨#[]⟩, .int .i64 0])).size = 5 := by kernel_rfl
theorem eqCOp (gb off m c : Nat) (w : World) : (binOp .eql 22 (.slice (some ⟨gb, off, none⟩) m c) (.slice none 0 0)).run Tryz.prog w = .ok (.bool false) w := by kernel_rfl
theorem eqCnOp (w : World) : (binOp .eql 22 (.slice none 0 0) (.slice none 0 0)).run Tryz.prog w = .ok (.bool true) w := by kernel_rfl
set_option maxRecDepth 100000 in
set_option maxHeartbeats 1000000 in
theorem cloneOp (w : World) (gb off m c : Nat) (hm : 0 < m) (hbig : m ≤ 1000000) (news : List Value) (hl : news.length = m * 5) (hnews : ∀ j u, news[j]? = some u → w.cell? ⟨gb, off + j, none⟩ = some u) (h1 : ∀ u ∈ news, u.oneCell' = true) :
    Calls Tryz.prog 15 #[.slice (some ⟨gb, off, none⟩) m c] w fun e w' => ∃ g cap, e = .returned (.slice (some ⟨g, 0, none⟩) m cap) ∧ w'.ownsRow w.heap.size 25 5 (.slice (some ⟨g, 0, none⟩) m cap) m news ∧ Grew w w' := by
  obtain ⟨i0, hi0, hz0, hz1, hz2⟩ := info_parts infoCOp
  have had : gb < w.heap.size := by
    have h0 : 0 < news.length := by omega
    have h2 := World.block_lt_of_cell? _ _ (hnews 0 news[0] (List.getElem?_eq_getElem h0))
    exact h2
  have HN : Hid (∀ (t : TypeId) j u, news[j]? = some u → (w.alloc (.cells #[] t)).cell? ⟨gb, off + j, none⟩ = some u) := fun t j u hj => by
    have := hnews j u hj
    rw [← this]
    exact ((Grew.refl w).alloc _).below.cell (World.block_lt_of_cell? _ _ this)
  have HL := hid hl
  have H1 := hid h1
  have HO := hid (fun (t : TypeId) (h : t = 25) => show (w.alloc (.cells #[] t)).ownsRow w.heap.size 25 5 (.slice (some ⟨w.heap.size, 0, none⟩) 0 0) 0 [] from by
    subst h
    exact ownsRow_of_block (cur := []) (Nat.le_refl _) (heap_alloc_new w _) (Nat.le_refl _) (by decide) rfl rfl)
  clear hnews hl h1
  have hEq := eqCOp gb off m c
  go_enter Tryz.func15, Tryz.ntmps15
  go_wp2_with (at_builtin; refine wpList_append_lies _ rfl _ _ 22 rfl w.heap.size 25 i0 _ 5 64 Tryz.underlying22 hi0 hz0 hz1 hz2 zcCOp (by omega) (.slice (some ⟨w.heap.size, 0, none⟩) 0 0) 0 [] rfl (HO.out _ rfl) ⟨gb, off, none⟩ m c news rfl HL.out (fun j u hj => by rw [Addr.add_lit]; exact HN.out _ j u hj) H1.out (by omega) (by unfold maxLen; omega) (by omega) (by simp) _ rfl ?_)
  intro g cap w1 hown hgrow hat hlt
  have HO := hid hown
  have HG := hid hgrow
  clear hown hgrow hat
  go_wp2_with fail
  go_ret
  refine ⟨g, cap, by simp, by simpa using HO.out, ?_⟩
  refine (((Grew.refl w).alloc _).only (fun j => some j = Value.ownBlock (.slice (some ⟨w.heap.size, 0, none⟩) 0 0))).then (Only.of_grownBy HG.out) |>.grew ?_
  intro j hj
  have : j = w.heap.size := Option.some.inj hj
  omega
set_option maxRecDepth 100000 in
theorem cloneNilOp (w : World) : Calls Tryz.prog 15 #[.slice none 0 0] w fun e w' => e = .returned (.slice none 0 0) ∧ Grew w w' := by
  have hEq := eqCnOp
  go_enter Tryz.func15, Tryz.ntmps15
  go_wp2_with fail
  go_ret
  exact ⟨rfl, Grew.refl w⟩
set_option maxRecDepth 100000 in
theorem cloneZeroOp (w : World) (gb off c : Nat) : Calls Tryz.prog 15 #[.slice (some ⟨gb, off, none⟩) 0 c] w fun e w' => e = .returned (.slice (some ⟨w.heap.size, 0, none⟩) 0 0) ∧ w'.ownsRow w.heap.size 25 5 (.slice (some ⟨w.heap.size, 0, none⟩) 0 0) 0 [] ∧ Grew w w' := by
  obtain ⟨i0, hi0, hz0, hz1, hz2⟩ := info_parts infoCOp
  have HO := hid (fun (t : TypeId) (h : t = 25) => show (w.alloc (.cells #[] t)).ownsRow w.heap.size 25 5 (.slice (some ⟨w.heap.size, 0, none⟩) 0 0) 0 [] from by
    subst h
    exact ownsRow_of_block (cur := []) (Nat.le_refl _) (heap_alloc_new w _) (Nat.le_refl _) (by decide) rfl rfl)
  have HG := hid (fun (t : TypeId) => (Grew.refl w).alloc (.cells #[] t))
  have hS : ∀ W : World, Src Tryz.prog i0.size 22 (.slice (some ⟨gb, off, none⟩) 0 c) 0 [] W := fun W => Src.ofSlice W Tryz.underlying22 ⟨gb, off, none⟩ 0 c [] (by simp) (fun j u hj => by simp at hj) (fun u hu => by cases hu)
  have HS := hid hS
  clear hS
  have hEq := eqCOp gb off 0 c
  go_enter Tryz.func15, Tryz.ntmps15
  go_wp2_with (at_builtin; refine Lib.wpList_append_run _ rfl _ _ _ _ rfl _ _ rfl rfl _ _ (run_append_nothing _ 22 22 _ 25 i0 Tryz.underlying22 hi0 _ 0 0 (Nat.le_refl _) _ (HS.out _)) ?_)
  go_wp2_with fail
  go_ret
  exact ⟨rfl, HO.out _ rfl, HG.out _⟩
end Go.Proofs.YtgfibdkeaicnfaaGreatDoor
namespace Go.Proofs.YtgfibdkeaicnfaaGreatDoor
open Go.RowKit
theorem num_all (E : Nat → Addr) (k : Nat) (hk : k ≤ 19) (w : World) (hE : Errs allS E w) :
    Calls Tryz.prog 6 #[errOf E k] w fun e w' => e = .returned (.int .i64 (k : Nat)) ∧ Grew w w' := by
  by_cases h0 : k = 0
  · subst h0
    exact (num_nil w).mono fun e w' ⟨he, hw⟩ => ⟨he, by rw [← hw]; exact Grew.refl _⟩
  · rw [errOf_pos E k h0]
    exact num_err E k (by omega) hk w hE
end Go.Proofs.YtgfibdkeaicnfaaGreatDoor
