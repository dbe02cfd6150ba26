/- RowK, RowOp, Ent1, IdxOpBad: one text. -/
import Derived.Test.YtbdagllflamabaaGreatDoorFinWatchReplaysQ3
import Derived.Laws.CopyRow
import Derived.Laws.CopyOwn
import Derived.Laws.IdiomCopy
import Derived.Lib.AppendZeros
import Derived.Lib.AppendZerosOnto
import Derived.Lib.Overlaps
import Derived.Laws.NewBlocks
import Derived.Deep.RegionLaw
import Derived.Test.YtbdagllflamabaaGreatDoorFinWatchReplaysQ2
import Derived.Deep.QuietTactic
import Derived.BigQuiet
import Derived.Test.YtbdagllflamabaaGreatDoorFinWatchReplaysQ1
namespace Go.Proofs.YtbdagllflamabaaGreatDoor
open Go.RowKit
def spl (L : List Value) (off : Nat) (cs : List Value) : List Value := L.take off ++ cs ++ L.drop (off + cs.length)
theorem spl_length (L : List Value) (off : Nat) (cs : List Value) (h : off + cs.length ≤ L.length) : (spl L off cs).length = L.length := by simp [spl]; omega
theorem spl_take (L : List Value) (off : Nat) (cs : List Value) (h : off ≤ L.length) : (spl L off cs).take (off + cs.length) = L.take off ++ cs := by
  unfold spl
  rw [List.take_append_of_le_length (by simp; omega)]
  exact List.take_of_length_le (by simp; omega)
theorem spl_take_le (L : List Value) (off m : Nat) (cs : List Value) (h : m ≤ off) (hL : off ≤ L.length) : (spl L off cs).take m = L.take m := by
  unfold spl
  rw [List.append_assoc, List.take_append_of_le_length (by simp; omega), List.take_take, Nat.min_eq_left h]
section
variable {P : Program}
theorem run_copy_rowK (w : World) (dT sT ty elem : TypeId) (k n g o dLen dCap : Nat) (a : Addr) (sLen sCap : Nat) (cur : List Value) (t : TypeId) (cs : List Value)
    (hu : P.underlying dT = some (.slice elem)) (hs : (P.info? elem).map (·.size) = some k)
    (hg : w.heap[g]? = some (.cells cur.toArray t (0, 0))) (hn : n = Nat.min sLen dLen) (hl : cs.length = n * k)
    (hsrc : ∀ j v, cs[j]? = some v → w.cell? (a.add j) = some v) (hfit : o + cs.length ≤ cur.length) (h1 : ∀ v ∈ cs, v.oneCell' = true) :
    (Builtin.copy_ #[dT, sT] ty #[.slice (some ⟨g, o, none⟩) dLen dCap, .slice (some a) sLen sCap]).run P w =
      .ok (goInt n) (w.setRow g (spl cur o cs).toArray) := by
  have hld := run_loadCells_list (P := P) w a cs hsrc
  have hst := run_storeCells_at P g o t cs 0 cur.toArray w hg (by simpa using hfit) h1
  rw [hl] at hld
  cases hq : P.info? elem with
  | none => simp [hq] at hs
  | some i =>
    have hi : i.size = k := by simpa [hq] using hs
    simp [Builtin.copy_, run_underlying hu, Builtin.lenOf, Builtin.firstCells, sizeOf, typeInfo, hq, hi, ← hn, hld, hst, spl]
theorem run_clear_rowK (w : World) (t e ty : TypeId) (z : Value) (k : Nat) (ht : P.underlying t = some (.slice e)) (hv : ∀ w, (zeroValue e).run P w = .ok z w) (hz : z.cells.size = k) (h1 : ∀ v ∈ z.cells.toList, v.oneCell' = true) (b o c : Nat) (cur : List Value) (te : TypeId)
    (hg : w.heap[b]? = some (.cells cur.toArray te (0, 0))) (hfit : o + k ≤ cur.length) :
    (Builtin.clear_ #[t] ty #[.slice (some ⟨b, o, none⟩) 1 c]).run P w = .ok (.tuple #[]) (w.setRow b (spl cur o (Builtin.zeroCells z.cells 1).toList).toArray) := by
  have hl : (Builtin.zeroCells z.cells 1).toList.length = k := by rw [Array.length_toList, size_zeroCells, hz]; omega
  have hz1 : ∀ v ∈ (Builtin.zeroCells z.cells 1).toList, v.oneCell' = true := by
    intro v hv
    simp only [Builtin.zeroCells, Nat.one_mul, Array.toList_map, List.mem_map, Array.mem_toList_iff, Array.mem_range] at hv
    obtain ⟨i, hi, rfl⟩ := hv
    rw [Nat.mod_eq_of_lt hi, getElem!_pos z.cells i hi]
    exact h1 _ (by simp)
  have hst := run_storeCells_at P b o te (Builtin.zeroCells z.cells 1).toList 0 cur.toArray w hg (by rw [hl]; simpa using hfit) hz1
  simp [Builtin.clear_, run_underlying ht, hv, hst, spl]
theorem wp_copy_run (w : World) {o : Oper} {a : Act} {K : Act → World → Prop} {Q : Exit → Act → World → Prop} (d s : Operand) (t t' : TypeId)
    (ho : o.op = .call { callee := .builtin .copy, args := #[d, s], argTypes := #[t, t'] }) (v u : Value) (hd : a.eval d = v) (hs : a.eval s = u) {v' : Value} {w' : World}
    (hr : (Builtin.copy_ #[t, t'] o.type #[v, u]).run P w = .ok v' w') (h : K (a.put o.dst v') w') : o.wp P a w K Q := by
  unfold Oper.wp execOp
  simp only [ho, resolve, invoke, builtin, Sem.run_bind, Sem.run_pure, Result.andThen_ok, List.map_toArray, List.map_cons, List.map_nil, hd, hs, hr]
  exact h
theorem wpList_copy_run (w : World) {ops : Array Oper} {rest : List Oper} {o : Oper} {a : Act} {Q : Exit → Act → World → Prop} (hgd : o.guard = none) (d s : Operand) (t t' : TypeId)
    (ho : o.op = .call { callee := .builtin .copy, args := #[d, s], argTypes := #[t, t'] }) (v u : Value) (hd : a.eval d = v) (hs : a.eval s = u) {v' : Value} {w' : World}
    (hr : (Builtin.copy_ #[t, t'] o.type #[v, u]).run P w = .ok v' w') (h : wpList P ops Q rest (a.put o.dst v') w') : wpList P ops Q (o :: rest) a w :=
  wpList_plain hgd fun _ hK => wp_copy_run w d s t t' ho v u hd hs hr (hK _ _ h)
theorem step_copy_run {ops : Array Oper} {o : Oper} {a : Act} {w : World} {K : Act → World → Prop} {Q : Exit → Act → World → Prop} {E : Prop}
    (hg : o.guard = none) (d x : Operand) (dT sT : TypeId) (hop : o.op = Op.call { callee := Callee.builtin Builtin.copy, args := #[d, x], argTypes := #[dT, sT] })
    (v u : Value) (hd : a.eval d = v) (hx : a.eval x = u) {v' : Value} {w' : World} (hr : (Builtin.copy_ #[dT, sT] o.type #[v, u]).run P w = .ok v' w') (hK : K (a.put o.dst v') w') :
    if Region.wanted o (yielded ops a.tmps) = true then Oper.wp P o a w K Q else E := by
  have hw : Region.wanted o (yielded ops a.tmps) = true := by simp [Region.wanted, hg]
  rw [if_pos hw]
  exact wp_copy_run w d x dT sT hop v u hd hx hr hK
theorem step_append_run {ops : Array Oper} {o : Oper} {a : Act} {w : World} {K : Act → World → Prop} {Q : Exit → Act → World → Prop} {E : Prop}
    (hg : o.guard = none) (d x : Operand) (dT sT : TypeId) (hop : o.op = Op.call { callee := Callee.builtin Builtin.append, args := #[d, x], argTypes := #[dT, sT] })
    (v u : Value) (hd : a.eval d = v) (hx : a.eval x = u) {v' : Value} {w' : World} (hr : (Builtin.append_ #[dT, sT] o.type #[v, u]).run P w = .ok v' w') (hK : K (a.put o.dst v') w') :
    if Region.wanted o (yielded ops a.tmps) = true then Oper.wp P o a w K Q else E := by
  have hw : Region.wanted o (yielded ops a.tmps) = true := by simp [Region.wanted, hg]
  rw [if_pos hw]
  exact Lib.wp_append_run w d x dT sT hop v u hd hx _ _ hr hK
theorem grownBy_setRow (w : World) (g : Nat) (cs : Array Value) : w.grownBy (w.setRow g cs) (some g) :=
  ⟨rfl, rfl, rfl, by simp [World.setRow], fun k _ hne => setRow_other w g k cs (fun e => hne (by rw [e]))⟩
theorem only_setRow (w : World) (g : Nat) (cs : Array Value) : Only (fun j => j = g) w (w.setRow g cs) :=
  ⟨rfl, rfl, rfl, by simp [World.setRow], fun k _ hne => setRow_other w g k cs hne⟩
theorem ownsRow_block {w : World} {B : Nat} {e : TypeId} {k : Nat} {v : Value} {n : Nat} {xs : List Value} (h : w.ownsRow B e k v n xs) (hn : 0 < n) :
    ∃ g cap cur, v = .slice (some ⟨g, 0, none⟩) n cap ∧ B ≤ g ∧ w.heap[g]? = some (.cells (List.toArray cur) e (0, 0)) ∧ n ≤ cap ∧ cap ≤ 9223372036854775807 ∧ cur.length = cap * k ∧ cur.take (n * k) = xs := by
  rcases h.2 with ⟨_, h0⟩ | ⟨g, cap, cur, e1, h2, h3, h4, h5, h6, h7⟩
  · omega
  · refine ⟨g, cap, cur.toList, e1, h2, by simpa using h3, h4, ?_, by simpa using h6, h7⟩
    unfold maxLen at h5; omega
theorem ownsRow_of_block {w : World} {B : Nat} {e : TypeId} {k : Nat} {g cap n : Nat} {cur : List Value} (hB : B ≤ g) (h : w.heap[g]? = some (.cells cur.toArray e (0, 0))) (hn : n ≤ cap) (hc : cap ≤ 9223372036854775807) (hl : cur.length = cap * k) {xs : List Value} (hx : cur.take (n * k) = xs) :
    w.ownsRow B e k (.slice (some ⟨g, 0, none⟩) n cap) n xs := by
  refine ⟨?_, .inr ⟨g, cap, cur.toArray, rfl, hB, h, hn, by unfold maxLen; omega, by simpa using hl, by simpa using hx⟩⟩
  rw [← hx, List.length_take, hl]
  exact Nat.min_eq_left (Nat.mul_le_mul_right k hn)
theorem ownsRow_grew {w w' : World} (g : Grew w w') {B : Nat} {e : TypeId} {k : Nat} {v : Value} {n : Nat} {xs : List Value} (h : w.ownsRow B e k v n xs) : w'.ownsRow B e k v n xs := by
  refine ⟨h.1, ?_⟩
  rcases h.2 with h2 | ⟨b, cap, cur, e1, h2, h3, h4⟩
  · exact .inl h2
  · exact .inr ⟨b, cap, cur, e1, h2, (g.below.block b (Array.getElem?_eq_some_iff.1 h3).1).trans h3, h4⟩
theorem ownsRow_base {w : World} {B C : Nat} (hBC : C ≤ B) {e : TypeId} {k : Nat} {v : Value} {n : Nat} {xs : List Value} (h : w.ownsRow B e k v n xs) : w.ownsRow C e k v n xs := by
  refine ⟨h.1, ?_⟩
  rcases h.2 with h2 | ⟨b, cap, cur, e1, h2, h3⟩
  · exact .inl h2
  · exact .inr ⟨b, cap, cur, e1, Nat.le_trans hBC h2, h3⟩
theorem cell_block {w : World} {g : Nat} {cur : List Value} {t : TypeId} {fr : Nat × Nat} (h : w.heap[g]? = some (.cells cur.toArray t fr)) (j : Nat) : w.cell? ⟨g, j, none⟩ = cur[j]? := by
  rw [cell_of_row w g j _ t fr h]; simp
theorem spl_insert (L : List Value) (a kk n : Nat) (xs pv : List Value) (hp : pv.length = kk) (ha : a ≤ n) (hL : n + kk ≤ L.length) (hx : L.take n = xs) :
    (spl (spl L (a + kk) (xs.drop a)) a pv).take (n + kk) = xs.take a ++ pv ++ xs.drop a := by
  subst hx
  have hd : ((L.take n).drop a).length = n - a := by simp; omega
  have e1 : spl L (a + kk) ((L.take n).drop a) = L.take (a + kk) ++ (L.take n).drop a ++ L.drop (n + kk) := by
    unfold spl; rw [hd]; congr 2; omega
  have e2 : (L.take (a + kk) ++ (L.take n).drop a ++ L.drop (n + kk)).take a = (L.take n).take a := by
    rw [List.append_assoc, List.take_append_of_le_length (by simp; omega), List.take_take, List.take_take]
    congr 1; omega
  have e3 : (L.take (a + kk) ++ (L.take n).drop a ++ L.drop (n + kk)).drop (a + pv.length) = (L.take n).drop a ++ L.drop (n + kk) := by
    rw [List.append_assoc, List.drop_append_of_le_length (by simp; omega), List.drop_of_length_le (by simp; omega)]; simp
  rw [e1]
  unfold spl
  rw [e2, e3, ← List.append_assoc, List.take_append_of_le_length (by simp; omega), List.take_of_length_le (by simp; omega)]
end
theorem ownsRow_zero {w : World} {B k : Nat} {e : TypeId} {v : Value} {n : Nat} {L : List Value} (h : w.ownsRow B e k v n L) : w.ownsRow 0 e k v n L := by
  refine ⟨h.1, ?_⟩
  rcases h.2 with h2 | ⟨b, c, cur, e1, _, h3, h4⟩
  · exact .inl h2
  · exact .inr ⟨b, c, cur, e1, Nat.zero_le _, h3, h4⟩
theorem ownsRow_kept {w w' : World} {S : Nat → Prop} {B k : Nat} {e : TypeId} {v : Value} {n : Nat} {L : List Value} (h : w.ownsRow B e k v n L) (g : Only S w w') (hS : ∀ b, v.ownBlock = some b → ¬ S b) : w'.ownsRow B e k v n L := by
  refine ⟨h.1, ?_⟩
  rcases h.2 with h2 | ⟨b, c, cur, e1, h2, h3, h4⟩
  · exact .inl h2
  · exact .inr ⟨b, c, cur, e1, h2, (g.block b (Array.getElem?_eq_some_iff.1 h3).1 (hS b (by rw [e1]; rfl))).trans h3, h4⟩
end Go.Proofs.YtbdagllflamabaaGreatDoor
namespace Go.Proofs.YtbdagllflamabaaGreatDoor
open Go.RowKit
structure OpR where
  kind : Int
  key : ByteArray
  val : ByteArray
  old : ByteArray
  ver : Int
def OpR.none : OpR := ⟨0, ⟨#[]⟩, ⟨#[]⟩, ⟨#[]⟩, 0⟩
instance : Inhabited OpR := ⟨OpR.none⟩
def OpR.vals (c : OpR) : List Value := [.int .i64 c.kind, .string c.key, .string c.val, .string c.old, .int .i64 c.ver]
def opRAt (xs : List OpR) (j : Nat) : OpR := xs[j]?.getD OpR.none
theorem opRAt_eq (xs : List OpR) (i : Nat) (hi : i < xs.length) : opRAt xs i = xs[i] := by unfold opRAt; rw [List.getElem?_eq_getElem hi]; rfl
theorem opRAt_mem (xs : List OpR) (k : Nat) (h : k < xs.length) : opRAt xs k ∈ xs := by rw [opRAt_eq xs k h]; exact List.getElem_mem h
structure OpRRow (W : World) (b off : Nat) (xs : List OpR) : Prop where
  kind : ∀ j, j < xs.length → W.cell? ⟨b, off + j * 5, Option.none⟩ = some (.int .i64 (opRAt xs j).kind)
  key : ∀ j, j < xs.length → W.cell? ⟨b, off + j * 5 + 1, Option.none⟩ = some (.string (opRAt xs j).key)
  val : ∀ j, j < xs.length → W.cell? ⟨b, off + j * 5 + 2, Option.none⟩ = some (.string (opRAt xs j).val)
  old : ∀ j, j < xs.length → W.cell? ⟨b, off + j * 5 + 3, Option.none⟩ = some (.string (opRAt xs j).old)
  ver : ∀ j, j < xs.length → W.cell? ⟨b, off + j * 5 + 4, Option.none⟩ = some (.int .i64 (opRAt xs j).ver)
theorem OpRRow.grew {W W' : World} {b off : Nat} {xs : List OpR} (h : OpRRow W b off xs) (g : Grew W W') (hb : b < W.heap.size) : OpRRow W' b off xs :=
  ⟨fun j hj => (g.cells.1 _ _ hb).trans (h.kind j hj), fun j hj => (g.cells.1 _ _ hb).trans (h.key j hj), fun j hj => (g.cells.1 _ _ hb).trans (h.val j hj), fun j hj => (g.cells.1 _ _ hb).trans (h.old j hj), fun j hj => (g.cells.1 _ _ hb).trans (h.ver j hj)⟩
def OpRsAt (W : World) (a : Option Addr) (xs : List OpR) : Prop := xs = [] ∨ ∃ b off, a = some ⟨b, off, Option.none⟩ ∧ b < W.heap.size ∧ OpRRow W b off xs
theorem OpRsAt.grew {W W' : World} {a : Option Addr} {xs : List OpR} (h : OpRsAt W a xs) (g : Grew W W') : OpRsAt W' a xs := by
  rcases h with h | ⟨b, off, e, hb, h⟩
  · exact .inl h
  · exact .inr ⟨b, off, e, Nat.lt_of_lt_of_le hb g.size, h.grew g hb⟩
def OpR.aggOf (c : OpR) : Value := .agg c.vals.toArray
end Go.Proofs.YtbdagllflamabaaGreatDoor
namespace Go.Proofs.YtbdagllflamabaaGreatDoor
open Go.RowKit
attribute [local go_sem] Oper.semAt_some
namespace Pl
def withinB (n most : Int) : Bool := decide (1 ≤ n) && decide (n ≤ most)
end Pl
theorem within_any (n most : Int) (w : World) : Calls Tryz.prog 260 #[.int .i64 n, .int .i64 most] w fun e w' => e = .returned (.bool (Pl.withinB n most)) ∧ w = w' := by
  by_cases h1 : 1 ≤ n
  · by_cases h2 : n ≤ most
    · have e : Pl.withinB n most = true := by unfold Pl.withinB; rw [decide_eq_true h1, decide_eq_true h2]; rfl
      rw [e]; clear e
      go_enter Tryz.func260, Tryz.ntmps260
      go_wp2_with fail
      go_ret
      exact ⟨rfl, rfl⟩
    · have e : Pl.withinB n most = false := by unfold Pl.withinB; rw [decide_eq_true h1, decide_eq_false h2]; rfl
      rw [e]; clear e
      go_enter Tryz.func260, Tryz.ntmps260
      go_wp2_with fail
      go_ret
      exact ⟨rfl, rfl⟩
  · have e : Pl.withinB n most = false := by unfold Pl.withinB; rw [decide_eq_false h1]; rfl
    rw [e]; clear e
    go_enter Tryz.func260, Tryz.ntmps260
    go_wp2_with fail
    go_ret
    exact ⟨rfl, rfl⟩
theorem shard_any (n : Int) (w : World) : Calls Tryz.prog 259 #[.int .i64 n] w fun e w' => e = .returned (.bool (Pl.withinB n 12)) ∧ w = w' := by
  go_enter Tryz.func259, Tryz.ntmps259
  go_wp2_with fail
  refine (within_any _ _ _).mono ?_
  rintro e w' ⟨rfl, rfl⟩
  go_wp2_with fail
  go_ret
  exact ⟨rfl, rfl⟩
structure KeyT (S : Nat → Bool) : Prop where
  h2 : S 2 = true
  h3 : S 3 = true
  h6 : S 6 = true
  h7 : S 7 = true
def OpR.agg (o : OpR) : Value := .agg #[.int .i64 o.kind, .string o.key, .string o.val, .string o.old, .int .i64 o.ver]
namespace Pl
def opRightB (o : OpR) : Bool :=
  if keyN o.key ≠ 0 then false
  else if o.kind = 1 then decide (o.val.size ≤ 64)
  else if o.kind = 2 then true
  else if o.kind = 3 then decide (o.val.size ≤ 64) && decide (o.old.size ≤ 64)
  else if o.kind = 4 then decide (0 ≤ o.ver) && decide (o.ver ≤ 4096)
  else false
end Pl
set_option maxRecDepth 100000 in
set_option maxHeartbeats 2000000 in
theorem opRight_any {S : Nat → Bool} (hS : KeyT S) (E : Nat → Addr) (o : OpR) (w : World) (hE : Errs S E w) (hk : o.key.size ≤ 140737488351232) (hv : o.val.size ≤ 9223372036854775807) (ho : o.old.size ≤ 9223372036854775807) :
    Calls Tryz.prog 258 #[o.agg] w fun e w' => e = .returned (.bool (Pl.opRightB o)) ∧ Grew w w' := by
  obtain ⟨n, k, v, d, r⟩ := o
  dsimp only at hk hv ho
  have HK := hid (fun W (g : Grew w W) => key_any S E hS.h2 hS.h3 hS.h6 hS.h7 k W hk (hE.grew g))
  clear hE
  unfold OpR.agg
  dsimp only
  by_cases hkn : Pl.keyN k = 0
  · rw [hkn] at HK
    have e0 : ∀ b, Pl.opRightB ⟨n, k, v, d, r⟩ = b ↔ (if n = 1 then decide (v.size ≤ 64) else if n = 2 then true else if n = 3 then decide (v.size ≤ 64) && decide (d.size ≤ 64) else if n = 4 then decide (0 ≤ r) && decide (r ≤ 4096) else false) = b := fun b => by
      unfold Pl.opRightB; rw [if_neg (by simp [hkn])]
    clear hkn
    by_cases n1 : n = 1
    · have HF : Hid (Pl.opRightB ⟨n, k, v, d, r⟩ = decide ((v.size : Int) ≤ 64)) := by
        unfold Hid
        rw [e0, if_pos n1, Bool.eq_iff_iff]; simp; omega
      have b1 : (n == 1) = true := beq_iff_eq.2 n1
      clear e0 n1
      go_enter Tryz.func258, Tryz.ntmps258
      go_wp2_with fail
      refine (HK.out _ ((Grew.refl w).alloc _)).mono ?_
      rintro e w1 ⟨rfl, hg⟩
      have hc := hg.cells.1
      have hz : w.heap.size < w1.heap.size := by have := hg.size; simp at this; omega
      rw [errOf_zero]
      go_wp2_with fail
      go_ret
      exact ⟨ret_bool HF.out.symm, ((Grew.refl w).alloc _).trans hg⟩
    · have b1 : (n == 1) = false := beq_eq_false_iff_ne.2 n1
      by_cases n2 : n = 2
      · have HF : Hid (Pl.opRightB ⟨n, k, v, d, r⟩ = true) := by
          unfold Hid
          rw [e0, if_neg n1, if_pos n2]
        have b2 : (n == 2) = true := beq_iff_eq.2 n2
        clear e0 n1 n2
        go_enter Tryz.func258, Tryz.ntmps258
        go_wp2_with fail
        refine (HK.out _ ((Grew.refl w).alloc _)).mono ?_
        rintro e w1 ⟨rfl, hg⟩
        have hc := hg.cells.1
        have hz : w.heap.size < w1.heap.size := by have := hg.size; simp at this; omega
        rw [errOf_zero]
        go_wp2_with fail
        go_ret
        exact ⟨ret_bool HF.out.symm, ((Grew.refl w).alloc _).trans hg⟩
      · have b2 : (n == 2) = false := beq_eq_false_iff_ne.2 n2
        by_cases n3 : n = 3
        · have HF : Hid (Pl.opRightB ⟨n, k, v, d, r⟩ = (decide ((v.size : Int) ≤ 64) && decide ((d.size : Int) ≤ 64))) := by
            unfold Hid
            rw [e0, if_neg n1, if_neg n2, if_pos n3, Bool.eq_iff_iff]; simp; omega
          have b3 : (n == 3) = true := beq_iff_eq.2 n3
          clear e0 n1 n2 n3
          go_enter Tryz.func258, Tryz.ntmps258
          go_wp2_with fail
          refine (HK.out _ ((Grew.refl w).alloc _)).mono ?_
          rintro e w1 ⟨rfl, hg⟩
          have hc := hg.cells.1
          have hz : w.heap.size < w1.heap.size := by have := hg.size; simp at this; omega
          rw [errOf_zero]
          by_cases hv64 : (v.size : Int) ≤ 64
          all_goals
            go_wp2_with fail
            go_ret
            exact ⟨ret_bool (by rw [HF.out]; first | (simp [hv64]; done) | (simp; omega)), ((Grew.refl w).alloc _).trans hg⟩
        · have b3 : (n == 3) = false := beq_eq_false_iff_ne.2 n3
          by_cases n4 : n = 4
          · have HF : Hid (Pl.opRightB ⟨n, k, v, d, r⟩ = (decide (0 ≤ r) && decide (r ≤ 4096))) := by
              unfold Hid
              rw [e0, if_neg n1, if_neg n2, if_neg n3, if_pos n4]
            have b4 : (n == 4) = true := beq_iff_eq.2 n4
            clear e0 n1 n2 n3 n4
            go_enter Tryz.func258, Tryz.ntmps258
            go_wp2_with fail
            refine (HK.out _ ((Grew.refl w).alloc _)).mono ?_
            rintro e w1 ⟨rfl, hg⟩
            have hc := hg.cells.1
            have hz : w.heap.size < w1.heap.size := by have := hg.size; simp at this; omega
            rw [errOf_zero]
            by_cases hr0 : 0 ≤ r
            all_goals
              go_wp2_with fail
              go_ret
              exact ⟨ret_bool (by rw [HF.out]; first | (simp [hr0]; done) | (simp; omega)), ((Grew.refl w).alloc _).trans hg⟩
          · have HF : Hid (Pl.opRightB ⟨n, k, v, d, r⟩ = false) := by
              unfold Hid
              rw [e0, if_neg n1, if_neg n2, if_neg n3, if_neg n4]
            have b4 : (n == 4) = false := beq_eq_false_iff_ne.2 n4
            clear e0 n1 n2 n3 n4
            go_enter Tryz.func258, Tryz.ntmps258
            go_wp2_with fail
            refine (HK.out _ ((Grew.refl w).alloc _)).mono ?_
            rintro e w1 ⟨rfl, hg⟩
            have hc := hg.cells.1
            have hz : w.heap.size < w1.heap.size := by have := hg.size; simp at this; omega
            rw [errOf_zero]
            go_wp2_with fail
            go_ret
            exact ⟨ret_bool HF.out.symm, ((Grew.refl w).alloc _).trans hg⟩
  · have HF : Hid (Pl.opRightB ⟨n, k, v, d, r⟩ = false) := by unfold Hid Pl.opRightB; rw [if_pos hkn]
    have HN := hid (errOf_pos E _ hkn)
    go_enter Tryz.func258, Tryz.ntmps258
    go_wp2_with fail
    refine (HK.out _ ((Grew.refl w).alloc _)).mono ?_
    rw [HN.out]
    rintro e w1 ⟨rfl, hg⟩
    go_wp2_with fail
    go_ret
    exact ⟨ret_bool HF.out.symm, ((Grew.refl w).alloc _).trans hg⟩
end Go.Proofs.YtbdagllflamabaaGreatDoor
namespace Go.Proofs.YtbdagllflamabaaGreatDoor
open Go.RowKit
attribute [local go_sem] Oper.semAt_some
namespace Pl
def movB (sh sv : Int) : Bool := withinB sh 12 && withinB sv 4
def merB (sh ot : Int) : Bool := withinB sh 12 && withinB ot 12 && (sh != ot)
def splB (sh ot sv : Int) (key : ByteArray) : Bool := withinB sh 12 && withinB ot 12 && (sh != ot) && withinB sv 4 && decide (keyN key = 0)
def chkB (sh up parts part : Int) (len : Nat) : Bool := ((sh == 0) || withinB sh 12) && decide (0 ≤ up) && decide (up ≤ 4096) && withinB parts 64 && decide (0 ≤ part) && decide (part < parts) && decide ((len : Int) ≤ 256)
end Pl
theorem mov_right (sh sv : Int) (w : World) : Calls Tryz.prog 263 #[.agg #[.int .i64 sh, .int .i64 sv]] w fun e w' => e = .returned (.bool (Pl.movB sh sv)) ∧ Grew w w' := by
  unfold Pl.movB
  go_enter Tryz.func263, Tryz.ntmps263
  go_wp2_with fail
  refine (shard_any _ _).mono ?_
  rintro e w1 ⟨rfl, rfl⟩
  cases h0 : Pl.withinB sh 12 with
  | false =>
    go_wp2_with fail
    go_ret
    exact ⟨ret_bool (by simp [*]), (Grew.refl w).alloc _⟩
  | true =>
    go_wp2_with fail
    refine (within_any _ _ _).mono ?_
    rintro e w1 ⟨rfl, rfl⟩
    cases h1 : Pl.withinB sv 4 with
    | false =>
      go_wp2_with fail
      go_ret
      exact ⟨ret_bool (by simp [*]), (Grew.refl w).alloc _⟩
    | true =>
      go_wp2_with fail
      go_ret
      exact ⟨ret_bool (by simp [*]), (Grew.refl w).alloc _⟩
theorem mer_right (sh ot : Int) (w : World) : Calls Tryz.prog 269 #[.agg #[.int .i64 sh, .int .i64 ot]] w fun e w' => e = .returned (.bool (Pl.merB sh ot)) ∧ Grew w w' := by
  unfold Pl.merB
  go_enter Tryz.func269, Tryz.ntmps269
  go_wp2_with fail
  refine (shard_any _ _).mono ?_
  rintro e w1 ⟨rfl, rfl⟩
  cases h0 : Pl.withinB sh 12 with
  | false =>
    go_wp2_with fail
    go_ret
    exact ⟨ret_bool (by simp [*]), (Grew.refl w).alloc _⟩
  | true =>
    go_wp2_with fail
    refine (shard_any _ _).mono ?_
    rintro e w1 ⟨rfl, rfl⟩
    cases h1 : Pl.withinB ot 12 with
    | false =>
      go_wp2_with fail
      go_ret
      exact ⟨ret_bool (by simp [*]), (Grew.refl w).alloc _⟩
    | true =>
      cases h2 : (sh != ot) with
      | false =>
        go_wp2_with fail
        go_ret
        exact ⟨ret_bool (by simp [*]), (Grew.refl w).alloc _⟩
      | true =>
        go_wp2_with fail
        go_ret
        exact ⟨ret_bool (by simp [*]), (Grew.refl w).alloc _⟩
set_option maxHeartbeats 1000000 in
theorem spl_right {S : Nat → Bool} (hS : KeyT S) (E : Nat → Addr) (sh ot sv : Int) (key : ByteArray) (w : World) (hE : Errs S E w) (hk : key.size ≤ 140737488351232) :
    Calls Tryz.prog 266 #[.agg #[.int .i64 sh, .int .i64 ot, .int .i64 sv, .string key]] w fun e w' => e = .returned (.bool (Pl.splB sh ot sv key)) ∧ Grew w w' := by
  have HK := hid (fun W (g : Grew w W) => key_any S E hS.h2 hS.h3 hS.h6 hS.h7 key W hk (hE.grew g))
  clear hE
  unfold Pl.splB
  go_enter Tryz.func266, Tryz.ntmps266
  go_wp2_with fail
  refine (shard_any _ _).mono ?_
  rintro e w1 ⟨rfl, rfl⟩
  cases h0 : Pl.withinB sh 12 with
  | false =>
    go_wp2_with fail
    go_ret
    exact ⟨ret_bool (by simp [*]), (Grew.refl w).alloc _⟩
  | true =>
    go_wp2_with fail
    refine (shard_any _ _).mono ?_
    rintro e w1 ⟨rfl, rfl⟩
    cases h1 : Pl.withinB ot 12 with
    | false =>
      go_wp2_with fail
      go_ret
      exact ⟨ret_bool (by simp [*]), (Grew.refl w).alloc _⟩
    | true =>
      cases h2 : (sh != ot) with
      | false =>
        go_wp2_with fail
        go_ret
        exact ⟨ret_bool (by simp [*]), (Grew.refl w).alloc _⟩
      | true =>
        go_wp2_with fail
        refine (within_any _ _ _).mono ?_
        rintro e w1 ⟨rfl, rfl⟩
        cases h3 : Pl.withinB sv 4 with
        | false =>
          go_wp2_with fail
          go_ret
          exact ⟨ret_bool (by simp [*]), (Grew.refl w).alloc _⟩
        | true =>
          by_cases hkn : Pl.keyN key = 0
          · rw [hkn] at HK
            have HD := hid (decide_eq_true hkn)
            clear hkn
            go_wp2_with fail
            refine (HK.out _ ((Grew.refl w).alloc _)).mono ?_
            rw [errOf_zero]
            rintro e w1 ⟨rfl, hg⟩
            go_wp2_with fail
            go_ret
            exact ⟨ret_bool (by rw [HD.out]; simp [h0, h1, h2, h3]), ((Grew.refl w).alloc _).trans hg⟩
          · have HN := hid (errOf_pos E _ hkn)
            have HD := hid (decide_eq_false hkn)
            clear hkn
            go_wp2_with fail
            refine (HK.out _ ((Grew.refl w).alloc _)).mono ?_
            rw [HN.out]
            rintro e w1 ⟨rfl, hg⟩
            go_wp2_with fail
            go_ret
            exact ⟨ret_bool (by rw [HD.out]; simp), ((Grew.refl w).alloc _).trans hg⟩
set_option maxHeartbeats 2000000 in
theorem chk_right (sh up parts part : Int) (a : Option Addr) (len cap : Nat) (w : World) :
    Calls Tryz.prog 272 #[.agg #[.int .i64 sh, .int .i64 up, .int .i64 parts, .int .i64 part, .slice a len cap]] w fun e w' => e = .returned (.bool (Pl.chkB sh up parts part len)) ∧ Grew w w' := by
  unfold Pl.chkB
  go_enter Tryz.func272, Tryz.ntmps272
  cases h0 : (sh == 0) with
  | true =>
    cases h1 : decide (0 ≤ up) with
    | false =>
      go_wp2_with fail
      go_ret
      exact ⟨ret_bool (by simp [*]), (Grew.refl w).alloc _⟩
    | true =>
      cases h2 : decide (up ≤ 4096) with
      | false =>
        go_wp2_with fail
        go_ret
        exact ⟨ret_bool (by simp [*]), (Grew.refl w).alloc _⟩
      | true =>
        go_wp2_with fail
        refine (within_any _ _ _).mono ?_
        rintro e w1 ⟨rfl, rfl⟩
        cases h3 : Pl.withinB parts 64 with
        | false =>
          go_wp2_with fail
          go_ret
          exact ⟨ret_bool (by simp [*]), (Grew.refl w).alloc _⟩
        | true =>
          cases h4 : decide (0 ≤ part) with
          | false =>
            go_wp2_with fail
            go_ret
            exact ⟨ret_bool (by simp [*]), (Grew.refl w).alloc _⟩
          | true =>
            cases h5 : decide (part < parts) with
            | false =>
              go_wp2_with fail
              go_ret
              exact ⟨ret_bool (by simp [*]), (Grew.refl w).alloc _⟩
            | true =>
              go_wp2_with fail
              go_ret
              exact ⟨ret_bool (by simp [*]), (Grew.refl w).alloc _⟩
  | false =>
    go_wp2_with fail
    refine (shard_any _ _).mono ?_
    rintro e w1 ⟨rfl, rfl⟩
    cases h1 : Pl.withinB sh 12 with
    | false =>
      go_wp2_with fail
      go_ret
      exact ⟨ret_bool (by simp [*]), (Grew.refl w).alloc _⟩
    | true =>
      cases h2 : decide (0 ≤ up) with
      | false =>
        go_wp2_with fail
        go_ret
        exact ⟨ret_bool (by simp [*]), (Grew.refl w).alloc _⟩
      | true =>
        cases h3 : decide (up ≤ 4096) with
        | false =>
          go_wp2_with fail
          go_ret
          exact ⟨ret_bool (by simp [*]), (Grew.refl w).alloc _⟩
        | true =>
          go_wp2_with fail
          refine (within_any _ _ _).mono ?_
          rintro e w1 ⟨rfl, rfl⟩
          cases h4 : Pl.withinB parts 64 with
          | false =>
            go_wp2_with fail
            go_ret
            exact ⟨ret_bool (by simp [*]), (Grew.refl w).alloc _⟩
          | true =>
            cases h5 : decide (0 ≤ part) with
            | false =>
              go_wp2_with fail
              go_ret
              exact ⟨ret_bool (by simp [*]), (Grew.refl w).alloc _⟩
            | true =>
              cases h6 : decide (part < parts) with
              | false =>
                go_wp2_with fail
                go_ret
                exact ⟨ret_bool (by simp [*]), (Grew.refl w).alloc _⟩
              | true =>
                go_wp2_with fail
                go_ret
                exact ⟨ret_bool (by simp [*]), (Grew.refl w).alloc _⟩
end Go.Proofs.YtbdagllflamabaaGreatDoor
namespace Go.Proofs.YtbdagllflamabaaGreatDoor
open Go.RowKit
attribute [local go_sem] Oper.semAt_some
set_option maxRecDepth 100000 in
set_option maxHeartbeats 1000000 in
theorem idxOpBad (p : OpR → Bool) (a : Option Addr) (cap : Nat) (xs : List OpR) (w : World) (hA : OpRsAt w a xs) (hx : xs.length ≤ 1000000)
    (hp : ∀ j, j < xs.length → ∀ W, Grew w W → Calls Tryz.prog 257 #[(opRAt xs j).aggOf] W fun e W' => e = .returned (.bool (p (opRAt xs j))) ∧ Grew W W') :
    Calls Tryz.prog 262 #[.slice a xs.length cap, .func (.func 257) #[] #[]] w fun e w' => e = .returned (.int .i64 (idxI p xs)) ∧ Grew w w' := by
  have HA := hid hA
  have HP := hid hp
  clear hA hp
  go_enter Tryz.func262, Tryz.ntmps262
  go_wp2_with fail
  go_loopw [8] (fun i wr => ∃ k : Nat, k ≤ xs.length ∧ i = .int .i64 k ∧ Hid ((xs.take k).all (fun c => !p c) = true) ∧ Grew w wr) (fun i _ => xs.length - (intOf i).toNat)
  case atStart => exact ⟨0, Nat.zero_le _, rfl, rfl, Grew.refl w⟩
  case round =>
    obtain ⟨k, hk1, rfl, HN, hG⟩ := hrel
    by_cases hlt : k < xs.length
    · rcases HA.out with h0 | ⟨b, off, rfl, hb, hR⟩
      · rw [h0] at hlt; simp at hlt
      have q0 := (hG.cells.1 b (off + k * 5) hb).trans (hR.kind k hlt)
      have q1 := (hG.cells.1 b (off + k * 5 + 1) hb).trans (hR.key k hlt)
      have q2 := (hG.cells.1 b (off + k * 5 + 2) hb).trans (hR.val k hlt)
      have q3 := (hG.cells.1 b (off + k * 5 + 3) hb).trans (hR.old k hlt)
      have q4 := (hG.cells.1 b (off + k * 5 + 4) hb).trans (hR.ver k hlt)
      have HC := hid (HP.out k hlt)
      have hat : opRAt xs k = xs[k] := opRAt_eq xs k hlt
      have HAT := hid hat
      clear hR hat
      have HS := hid (idx_some p xs k hlt HN.out)
      have HN2 := hid (idx_next p xs k hlt HN.out)
      rw [← HAT.out] at HS HN2
      generalize opRAt xs k = c at *
      clear HAT
      unfold OpR.aggOf at HC
      cases hpc : p c with
      | true =>
        rw [hpc] at HC
        have HS2 := hid (HS.out hpc)
        obtain ⟨c0, c1, c2, c3, c4⟩ := c
        dsimp only [OpR.vals] at *
        clear hpc HS HN2
        go_wp2_with fail
        refine (HC.out _ hG).mono ?_
        rintro e w1 ⟨rfl, hg1⟩
        go_wp2_with fail
        go_ret
        exact ⟨ret_int HS2.out.symm, hG.trans hg1⟩
      | false =>
        rw [hpc] at HC
        have HS2 := hid (HN2.out hpc)
        obtain ⟨c0, c1, c2, c3, c4⟩ := c
        dsimp only [OpR.vals] at *
        clear hpc HS HN2
        go_wp2_with fail
        refine (HC.out _ hG).mono ?_
        rintro e w1 ⟨rfl, hg1⟩
        go_wp2_with fail
        go_roundw
        case rel => exact ⟨k + 1, by omega, by go_num, HS2, hG.trans hg1⟩
        case measure => simp [intOf]; omega
    · obtain rfl : k = xs.length := by omega
      have HE := hid (idx_none p xs (by have := HN.out; rwa [List.take_length] at this))
      go_wp2_with fail
      go_ret
      exact ⟨ret_int HE.out.symm, hG⟩
end Go.Proofs.YtbdagllflamabaaGreatDoor
