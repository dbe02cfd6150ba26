/- Rows of elements of k cells: copy, clear; how a row reads behind a splice. No function of the program. -/
import Derived.Test.YtapchoppcaacdaaGreatDoorOwn
import Derived.Laws.CopyRow
import Derived.Laws.CopyOwn
import Derived.Laws.IdiomCopy
import Derived.Lib.AppendZeros
import Derived.Lib.AppendZerosOnto
import Derived.Lib.Overlaps
import Derived.Laws.NewBlocks
import Derived.Deep.RegionLaw
namespace Go.Proofs.YtapchoppcaacdaaGreatDoor
open Go.RowKit

/-- cs laid over L from off on. -/
def spl (L : List Value) (off : Nat) (cs : List Value) : List Value := L.take off ++ cs ++ L.drop (off + cs.length)
theorem spl_length (L : List Value) (off : Nat) (cs : List Value) (h : off + cs.length ≤ L.length) : (spl L off cs).length = L.length := by simp [spl]; omega
theorem spl_take (L : List Value) (off : Nat) (cs : List Value) (h : off ≤ L.length) : (spl L off cs).take (off + cs.length) = L.take off ++ cs := by
  unfold spl
  rw [List.take_append_of_le_length (by simp; omega)]
  exact List.take_of_length_le (by simp; omega)

theorem spl_take_le (L : List Value) (off m : Nat) (cs : List Value) (h : m ≤ off) (hL : off ≤ L.length) : (spl L off cs).take m = L.take m := by
  unfold spl
  rw [List.append_assoc, List.take_append_of_le_length (by simp; omega), List.take_take, Nat.min_eq_left h]
section
variable {P : Program}
theorem run_copy_rowK (w : World) (dT sT ty elem : TypeId) (k n g o dLen dCap : Nat) (a : Addr) (sLen sCap : Nat) (cur : List Value) (t : TypeId) (cs : List Value)
    (hu : P.underlying dT = some (.slice elem)) (hs : (P.info? elem).map (·.size) = some k)
    (hg : w.heap[g]? = some (.cells cur.toArray t (0, 0))) (hn : n = Nat.min sLen dLen) (hl : cs.length = n * k)
    (hsrc : ∀ j v, cs[j]? = some v → w.cell? (a.add j) = some v) (hfit : o + cs.length ≤ cur.length) (h1 : ∀ v ∈ cs, v.oneCell' = true) :
    (Builtin.copy_ #[dT, sT] ty #[.slice (some ⟨g, o, none⟩) dLen dCap, .slice (some a) sLen sCap]).run P w =
      .ok (goInt n) (w.setRow g (spl cur o cs).toArray) := by
  have hld := run_loadCells_list (P := P) w a cs hsrc
  have hst := run_storeCells_at P g o t cs 0 cur.toArray w hg (by simpa using hfit) h1
  rw [hl] at hld
  cases hq : P.info? elem with
  | none => simp [hq] at hs
  | some i =>
    have hi : i.size = k := by simpa [hq] using hs
    simp [Builtin.copy_, run_underlying hu, Builtin.lenOf, Builtin.firstCells, sizeOf, typeInfo, hq, hi, ← hn, hld, hst, spl]

theorem run_clear_rowK (w : World) (t e ty : TypeId) (z : Value) (k : Nat) (ht : P.underlying t = some (.slice e)) (hv : ∀ w, (zeroValue e).run P w = .ok z w) (hz : z.cells.size = k) (h1 : ∀ v ∈ z.cells.toList, v.oneCell' = true) (b o c : Nat) (cur : List Value) (te : TypeId)
    (hg : w.heap[b]? = some (.cells cur.toArray te (0, 0))) (hfit : o + k ≤ cur.length) :
    (Builtin.clear_ #[t] ty #[.slice (some ⟨b, o, none⟩) 1 c]).run P w = .ok (.tuple #[]) (w.setRow b (spl cur o (Builtin.zeroCells z.cells 1).toList).toArray) := by
  have hl : (Builtin.zeroCells z.cells 1).toList.length = k := by rw [Array.length_toList, size_zeroCells, hz]; omega
  have hz1 : ∀ v ∈ (Builtin.zeroCells z.cells 1).toList, v.oneCell' = true := by
    intro v hv
    simp only [Builtin.zeroCells, Nat.one_mul, Array.toList_map, List.mem_map, Array.mem_toList_iff, Array.mem_range] at hv
    obtain ⟨i, hi, rfl⟩ := hv
    rw [Nat.mod_eq_of_lt hi, getElem!_pos z.cells i hi]
    exact h1 _ (by simp)
  have hst := run_storeCells_at P b o te (Builtin.zeroCells z.cells 1).toList 0 cur.toArray w hg (by rw [hl]; simpa using hfit) hz1
  simp [Builtin.clear_, run_underlying ht, hv, hst, spl]

theorem wp_clear_run (w : World) {o : Oper} {a : Act} {K : Act → World → Prop} {Q : Exit → Act → World → Prop} (x : Operand) (t : TypeId)
    (ho : o.op = .call { callee := .builtin .clear, args := #[x], argTypes := #[t] }) (v : Value) (hx : a.eval x = v) {v' : Value} {w' : World}
    (hr : (Builtin.clear_ #[t] o.type #[v]).run P w = .ok v' w') (h : K (a.put o.dst v') w') : o.wp P a w K Q := by
  unfold Oper.wp execOp
  simp only [ho, resolve, invoke, builtin, Sem.run_bind, Sem.run_pure, Result.andThen_ok, List.map_toArray, List.map_cons, List.map_nil, hx, hr]
  exact h
theorem wpList_clear_run (w : World) {ops : Array Oper} {rest : List Oper} {o : Oper} {a : Act} {Q : Exit → Act → World → Prop} (hgd : o.guard = none) (x : Operand) (t : TypeId)
    (ho : o.op = .call { callee := .builtin .clear, args := #[x], argTypes := #[t] }) (v : Value) (hx : a.eval x = v) {v' : Value} {w' : World}
    (hr : (Builtin.clear_ #[t] o.type #[v]).run P w = .ok v' w') (h : wpList P ops Q rest (a.put o.dst v') w') : wpList P ops Q (o :: rest) a w :=
  wpList_plain hgd fun _ hK => wp_clear_run w x t ho v hx hr (hK _ _ h)

theorem wp_copy_run (w : World) {o : Oper} {a : Act} {K : Act → World → Prop} {Q : Exit → Act → World → Prop} (d s : Operand) (t t' : TypeId)
    (ho : o.op = .call { callee := .builtin .copy, args := #[d, s], argTypes := #[t, t'] }) (v u : Value) (hd : a.eval d = v) (hs : a.eval s = u) {v' : Value} {w' : World}
    (hr : (Builtin.copy_ #[t, t'] o.type #[v, u]).run P w = .ok v' w') (h : K (a.put o.dst v') w') : o.wp P a w K Q := by
  unfold Oper.wp execOp
  simp only [ho, resolve, invoke, builtin, Sem.run_bind, Sem.run_pure, Result.andThen_ok, List.map_toArray, List.map_cons, List.map_nil, hd, hs, hr]
  exact h
theorem wpList_copy_run (w : World) {ops : Array Oper} {rest : List Oper} {o : Oper} {a : Act} {Q : Exit → Act → World → Prop} (hgd : o.guard = none) (d s : Operand) (t t' : TypeId)
    (ho : o.op = .call { callee := .builtin .copy, args := #[d, s], argTypes := #[t, t'] }) (v u : Value) (hd : a.eval d = v) (hs : a.eval s = u) {v' : Value} {w' : World}
    (hr : (Builtin.copy_ #[t, t'] o.type #[v, u]).run P w = .ok v' w') (h : wpList P ops Q rest (a.put o.dst v') w') : wpList P ops Q (o :: rest) a w :=
  wpList_plain hgd fun _ hK => wp_copy_run w d s t t' ho v u hd hs hr (hK _ _ h)
theorem step_copy_run {ops : Array Oper} {o : Oper} {a : Act} {w : World} {K : Act → World → Prop} {Q : Exit → Act → World → Prop} {E : Prop}
    (hg : o.guard = none) (d x : Operand) (dT sT : TypeId) (hop : o.op = Op.call { callee := Callee.builtin Builtin.copy, args := #[d, x], argTypes := #[dT, sT] })
    (v u : Value) (hd : a.eval d = v) (hx : a.eval x = u) {v' : Value} {w' : World} (hr : (Builtin.copy_ #[dT, sT] o.type #[v, u]).run P w = .ok v' w') (hK : K (a.put o.dst v') w') :
    if Region.wanted o (yielded ops a.tmps) = true then Oper.wp P o a w K Q else E := by
  have hw : Region.wanted o (yielded ops a.tmps) = true := by simp [Region.wanted, hg]
  rw [if_pos hw]
  exact wp_copy_run w d x dT sT hop v u hd hx hr hK
theorem step_append_run {ops : Array Oper} {o : Oper} {a : Act} {w : World} {K : Act → World → Prop} {Q : Exit → Act → World → Prop} {E : Prop}
    (hg : o.guard = none) (d x : Operand) (dT sT : TypeId) (hop : o.op = Op.call { callee := Callee.builtin Builtin.append, args := #[d, x], argTypes := #[dT, sT] })
    (v u : Value) (hd : a.eval d = v) (hx : a.eval x = u) {v' : Value} {w' : World} (hr : (Builtin.append_ #[dT, sT] o.type #[v, u]).run P w = .ok v' w') (hK : K (a.put o.dst v') w') :
    if Region.wanted o (yielded ops a.tmps) = true then Oper.wp P o a w K Q else E := by
  have hw : Region.wanted o (yielded ops a.tmps) = true := by simp [Region.wanted, hg]
  rw [if_pos hw]
  exact Lib.wp_append_run w d x dT sT hop v u hd hx _ _ hr hK

/-- A row set anew: nothing else has turned. -/
theorem grownBy_setRow (w : World) (g : Nat) (cs : Array Value) : w.grownBy (w.setRow g cs) (some g) :=
  ⟨rfl, rfl, rfl, by simp [World.setRow], fun k _ hne => setRow_other w g k cs (fun e => hne (by rw [e]))⟩
theorem only_setRow (w : World) (g : Nat) (cs : Array Value) : Only (fun j => j = g) w (w.setRow g cs) :=
  ⟨rfl, rfl, rfl, by simp [World.setRow], fun k _ hne => setRow_other w g k cs hne⟩

/-- The block of a row that holds something. -/
theorem ownsRow_block {w : World} {B : Nat} {e : TypeId} {k : Nat} {v : Value} {n : Nat} {xs : List Value} (h : w.ownsRow B e k v n xs) (hn : 0 < n) :
    ∃ g cap cur, v = .slice (some ⟨g, 0, none⟩) n cap ∧ B ≤ g ∧ w.heap[g]? = some (.cells (List.toArray cur) e (0, 0)) ∧ n ≤ cap ∧ cap ≤ 9223372036854775807 ∧ cur.length = cap * k ∧ cur.take (n * k) = xs := by
  rcases h.2 with ⟨_, h0⟩ | ⟨g, cap, cur, e1, h2, h3, h4, h5, h6, h7⟩
  · omega
  · refine ⟨g, cap, cur.toList, e1, h2, by simpa using h3, h4, ?_, by simpa using h6, h7⟩
    unfold maxLen at h5; omega
theorem ownsRow_of_block {w : World} {B : Nat} {e : TypeId} {k : Nat} {g cap n : Nat} {cur : List Value} (hB : B ≤ g) (h : w.heap[g]? = some (.cells cur.toArray e (0, 0))) (hn : n ≤ cap) (hc : cap ≤ 9223372036854775807) (hl : cur.length = cap * k) {xs : List Value} (hx : cur.take (n * k) = xs) :
    w.ownsRow B e k (.slice (some ⟨g, 0, none⟩) n cap) n xs := by
  refine ⟨?_, .inr ⟨g, cap, cur.toArray, rfl, hB, h, hn, by unfold maxLen; omega, by simpa using hl, by simpa using hx⟩⟩
  rw [← hx, List.length_take, hl]
  exact Nat.min_eq_left (Nat.mul_le_mul_right k hn)
theorem ownsRow_grew {w w' : World} (g : Grew w w') {B : Nat} {e : TypeId} {k : Nat} {v : Value} {n : Nat} {xs : List Value} (h : w.ownsRow B e k v n xs) : w'.ownsRow B e k v n xs := by
  refine ⟨h.1, ?_⟩
  rcases h.2 with h2 | ⟨b, cap, cur, e1, h2, h3, h4⟩
  · exact .inl h2
  · exact .inr ⟨b, cap, cur, e1, h2, (g.below.block b (Array.getElem?_eq_some_iff.1 h3).1).trans h3, h4⟩
theorem ownsRow_base {w : World} {B C : Nat} (hBC : C ≤ B) {e : TypeId} {k : Nat} {v : Value} {n : Nat} {xs : List Value} (h : w.ownsRow B e k v n xs) : w.ownsRow C e k v n xs := by
  refine ⟨h.1, ?_⟩
  rcases h.2 with h2 | ⟨b, cap, cur, e1, h2, h3⟩
  · exact .inl h2
  · exact .inr ⟨b, cap, cur, e1, Nat.le_trans hBC h2, h3⟩
theorem cell_block {w : World} {g : Nat} {cur : List Value} {t : TypeId} {fr : Nat × Nat} (h : w.heap[g]? = some (.cells cur.toArray t fr)) (j : Nat) : w.cell? ⟨g, j, none⟩ = cur[j]? := by
  rw [cell_of_row w g j _ t fr h]; simp

/-- Into the middle: the elements behind it shifted, it laid over. -/
theorem spl_insert (L : List Value) (a kk n : Nat) (xs pv : List Value) (hp : pv.length = kk) (ha : a ≤ n) (hL : n + kk ≤ L.length) (hx : L.take n = xs) :
    (spl (spl L (a + kk) (xs.drop a)) a pv).take (n + kk) = xs.take a ++ pv ++ xs.drop a := by
  subst hx
  have hd : ((L.take n).drop a).length = n - a := by simp; omega
  have e1 : spl L (a + kk) ((L.take n).drop a) = L.take (a + kk) ++ (L.take n).drop a ++ L.drop (n + kk) := by
    unfold spl; rw [hd]; congr 2; omega
  have e2 : (L.take (a + kk) ++ (L.take n).drop a ++ L.drop (n + kk)).take a = (L.take n).take a := by
    rw [List.append_assoc, List.take_append_of_le_length (by simp; omega), List.take_take, List.take_take]
    congr 1; omega
  have e3 : (L.take (a + kk) ++ (L.take n).drop a ++ L.drop (n + kk)).drop (a + pv.length) = (L.take n).drop a ++ L.drop (n + kk) := by
    rw [List.append_assoc, List.drop_append_of_le_length (by simp; omega), List.drop_of_length_le (by simp; omega)]; simp
  rw [e1]
  unfold spl
  rw [e2, e3, ← List.append_assoc, List.take_append_of_le_length (by simp; omega), List.take_of_length_le (by simp; omega)]
end
end Go.Proofs.YtapchoppcaacdaaGreatDoor
