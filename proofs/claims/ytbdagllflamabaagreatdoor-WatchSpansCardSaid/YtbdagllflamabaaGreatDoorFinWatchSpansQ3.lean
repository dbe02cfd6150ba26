/- Own, RowK, RowOp: one text. -/
import Derived.Test.YtbdagllflamabaaGreatDoorFinWatchSpansQ1
import Derived.Maps.OwnSet
import Derived.Maps.OwnOps
import Derived.Deep.AppendLies
import Derived.Laws.CopyRow
import Derived.Laws.CopyOwn
import Derived.Laws.IdiomCopy
import Derived.Lib.AppendZeros
import Derived.Lib.AppendZerosOnto
import Derived.Lib.Overlaps
import Derived.Laws.NewBlocks
import Derived.Deep.RegionLaw
namespace Go.Proofs.YtbdagllflamabaaGreatDoor
open Go.RowKit Go.Maps
structure Only (S : Nat → Prop) (w w' : World) : Prop where
  os : w'.os = w.os
  tape : w'.tape = w.tape
  output : w'.output = w.output
  size : w.heap.size ≤ w'.heap.size
  block : ∀ k, k < w.heap.size → ¬ S k → w'.heap[k]? = w.heap[k]?
theorem Only.refl (S : Nat → Prop) (w : World) : Only S w w := ⟨rfl, rfl, rfl, Nat.le_refl _, fun _ _ _ => rfl⟩
theorem Only.trans {S T : Nat → Prop} {a b c : World} (h : Only S a b) (k : Only T b c) (hT : ∀ j, T j → S j ∨ a.heap.size ≤ j) : Only S a c :=
  ⟨k.os.trans h.os, k.tape.trans h.tape, k.output.trans h.output, Nat.le_trans h.size k.size, fun j hj hS => (k.block j (Nat.lt_of_lt_of_le hj h.size) (fun t => by rcases hT j t with s | s; exact hS s; omega)).trans (h.block j hj hS)⟩
theorem Only.then {S : Nat → Prop} {a b c : World} (h : Only S a b) (k : Only S b c) : Only S a c := h.trans k fun _ => .inl
theorem Only.mono {S T : Nat → Prop} {a b : World} (h : Only S a b) (hST : ∀ j, S j → T j ∨ a.heap.size ≤ j) : Only T a b :=
  ⟨h.os, h.tape, h.output, h.size, fun j hj ht => h.block j hj fun s => by rcases hST j s with t | t; exact ht t; omega⟩
theorem Grew.only {a b : World} (h : Grew a b) (S : Nat → Prop) : Only S a b := ⟨h.os, h.tape, h.output, h.size, fun j hj _ => h.block j hj⟩
theorem Only.grew {S : Nat → Prop} {a b : World} (h : Only S a b) (hS : ∀ j, S j → a.heap.size ≤ j) : Grew a b := ⟨h.os, h.tape, h.output, h.size, fun j hj => h.block j hj fun s => by have := hS j s; omega⟩
theorem Only.grewT {S : Nat → Prop} {a b c : World} (h : Only S a b) (k : Grew b c) : Only S a c := h.then (k.only S)
theorem Only.alloc {S : Nat → Prop} {a b : World} (h : Only S a b) (o : Obj) : Only S a (b.alloc o) := h.grewT ((Grew.refl b).alloc o)
theorem Only.drew {S : Nat → Prop} {a b : World} (h : Only S a b) : Only S a b.drew := h.grewT ((Grew.refl b).drew)
theorem Only.drewN {S : Nat → Prop} {a b : World} (h : Only S a b) (n : Nat) : Only S a (b.drewN n) := h.grewT ((Grew.refl b).drewN n)
theorem Only.cell {S : Nat → Prop} {w w' : World} (h : Only S w w') {k : Nat} (hk : k < w.heap.size) (hS : ¬ S k) (o : Nat) : w'.cell? ⟨k, o, none⟩ = w.cell? ⟨k, o, none⟩ := World.cell?_of_block (a := ⟨k, o, none⟩) (h.block k hk hS)
theorem Only.frozen {S : Nat → Prop} {w w' : World} (h : Only S w w') {k : Nat} (hk : k < w.heap.size) (hS : ¬ S k) (o : Nat) : w'.frozen? ⟨k, o, none⟩ = w.frozen? ⟨k, o, none⟩ := World.frozen?_of_block (a := ⟨k, o, none⟩) (h.block k hk hS)
theorem Only.of_grownBy {w w' : World} {row : Option Nat} (h : w.grownBy w' row) : Only (fun j => some j = row) w w' := ⟨h.os, h.tape, h.output, h.size, h.block⟩
theorem Only.toGrownBy {S : Nat → Prop} {w w' : World} {row : Option Nat} (h : Only S w w') (hS : ∀ j, S j → some j = row ∨ w.heap.size ≤ j) : w.grownBy w' row :=
  ⟨h.os, h.tape, h.output, h.size, fun j hj hn => h.block j hj fun s => by rcases hS j s with t | t; exact hn t; omega⟩
theorem Only.setCell (w : World) (p : Addr) (u : Value) : Only (fun j => j = p.block) w (w.setCell p u) := by
  have := Below.setCell (Below.refl 0 w) (Nat.zero_le p.block) u
  refine ⟨this.os, this.tape, this.output, ?_, ?_⟩
  · exact this.size
  · intro k hk hne
    exact Below.heap_setCell w p u k hne
def raw (v : Value) : Option (DataW Value × List MemPlace) := some (.held v, [])
def lookD (D : DataW Value) (l : Lit) : Option Value := if has D l = true then (match D.atKey l .nil with | .held v => some v | _ => none) else none
def LMap (w : World) (P : Program) (k : TypeId) (b n : Nat) (f : Lit → Option Value) : Prop := ∃ D, w.ownsMap P k raw b n D ∧ ∀ l, lookD D l = f l
section
variable {w : World} {P : Program} {k e t : TypeId} {b n : Nat} {f : Lit → Option Value}
theorem LMap.made (w : World) (P : Program) (k : TypeId) : LMap (w.alloc (.map #[] 0)) P k w.heap.size 0 (fun _ => none) :=
  ⟨_, World.ownsMap_made w P k raw, fun l => by simp [lookD, has]⟩
theorem LMap.lt (h : LMap w P k b n f) : b < w.heap.size := by obtain ⟨D, h, _⟩ := h; exact h.lt
theorem LMap.mono (h : LMap w P k b n f) {m : Nat} (hm : n ≤ m) : LMap w P k b m f := by obtain ⟨D, h, g⟩ := h; exact ⟨D, h.mono hm, g⟩
theorem LMap.kept {S : Nat → Prop} {w' : World} (h : LMap w P k b n f) (g : Only S w w') (hS : ¬ S b) : LMap w' P k b n f := by
  obtain ⟨D, h, hf⟩ := h
  have hlt := h.lt
  obtain ⟨es, clock, hb, F, hs, hD⟩ := h
  exact ⟨D, ⟨es, clock, (g.block b hlt hS).trans hb, F, hs, hD⟩, hf⟩
theorem LMap.grew {w' : World} (h : LMap w P k b n f) (g : Grew w w') : LMap w' P k b n f := h.kept (g.only fun _ => False) (fun h => h)
theorem LMap.lookup {z : Value} {key : Value} {l : Lit} (h : LMap w P k b n f) (K : Keyed P k) (ht : P.underlying t = some (.map k e)) (hz : (zeroValue e).run P w = .ok z w) (hkey : keyOf P k key = some l) :
    (Instr.lookup t (.map (some b)) key false).run P w = .ok ((f l).getD z) w := by
  obtain ⟨D, h, hf⟩ := h
  obtain ⟨es, clock, hb, F, _, rfl⟩ := h
  rw [← hf]
  rcases Maps.fit_look false K ht hz hb F hkey with ⟨hrun, _, hat⟩ | ⟨e0, y, _, _, hrun, hRv, hat, _⟩
  · rw [hrun]; unfold lookD; rw [Maps.has_false_of_atKey hat]; rfl
  · rw [hrun]; unfold lookD; rw [Maps.has_true_of_atKey hat, hat]; cases hRv; rfl
theorem LMap.lookup_ok {z : Value} {key : Value} {l : Lit} (h : LMap w P k b n f) (K : Keyed P k) (ht : P.underlying t = some (.map k e)) (hz : (zeroValue e).run P w = .ok z w) (hkey : keyOf P k key = some l) :
    (Instr.lookup t (.map (some b)) key true).run P w = .ok (.tuple #[(f l).getD z, .bool (f l).isSome]) w := by
  obtain ⟨D, h, hf⟩ := h
  obtain ⟨es, clock, hb, F, _, rfl⟩ := h
  rw [← hf]
  rcases Maps.fit_look true K ht hz hb F hkey with ⟨hrun, _, hat⟩ | ⟨e0, y, _, _, hrun, hRv, hat, _⟩
  · rw [hrun]; unfold lookD; rw [Maps.has_false_of_atKey hat]; rfl
  · rw [hrun]; unfold lookD; rw [Maps.has_true_of_atKey hat, hat]; cases hRv; rfl
noncomputable def lset (f : Lit → Option Value) (l : Lit) (v : Option Value) (m : Lit) : Option Value := open Classical in if m = l then v else f m
theorem LMap.store {key val : Value} {l : Lit} (h : LMap w P k b n f) (K : Keyed P k) (ht : P.underlying t = some (.map k e)) (hn : n < maxLen) (hkey : keyOf P k key = some l) :
    ∃ w', (Instr.mapUpdate t (.map (some b)) key val).run P w = .ok () w' ∧ LMap w' P k b (n + 1) (lset f l (some val)) ∧ w.mapTurned w' b := by
  obtain ⟨D, h, hf⟩ := h
  have hm := h.isMap
  have hl := K.key hkey
  obtain ⟨w', hrun, h1, h2⟩ := h.store K ht hn hkey (val := val) (d := .held val) (ps := []) rfl
  refine ⟨w', hrun, ⟨_, h1, fun m => ?_⟩, h2⟩
  unfold lset
  split
  · next he => subst he; unfold lookD; rw [has_put_same hm hl, atKey_put_same hm hl]; rfl
  · next he => rw [← hf]; unfold lookD; rw [has_put_other he, atKey_put_other he]
theorem LMap.drop {key : Value} {l : Lit} (h : LMap w P k b n f) (K : Keyed P k) (ht : P.underlying t = some (.map k e)) (hkey : keyOf P k key = some l) (ty : TypeId) :
    ∃ w', (Builtin.delete_ #[t, k] ty #[.map (some b), key]).run P w = .ok (.tuple #[]) w' ∧ LMap w' P k b n (lset f l none) ∧ w.mapTurned w' b := by
  obtain ⟨D, h, hf⟩ := h
  obtain ⟨w', hrun, h1, h2⟩ := h.drop K ht hkey ty
  refine ⟨w', hrun, ⟨_, h1, fun m => ?_⟩, h2⟩
  unfold lset
  split
  · next he => subst he; unfold lookD; rw [has_del_same]; rfl
  · next he => rw [← hf]; unfold lookD; rw [has_del_other he, atKey_del_other he]
end
theorem Only.of_turned {w w' : World} {b : Nat} (h : w.mapTurned w' b) : Only (fun j => j = b) w w' := (Only.of_grownBy h.grown).mono fun _ hj => .inl (Option.some.inj hj)
end Go.Proofs.YtbdagllflamabaaGreatDoor
namespace Go.Proofs.YtbdagllflamabaaGreatDoor
open Go.RowKit
def spl (L : List Value) (off : Nat) (cs : List Value) : List Value := L.take off ++ cs ++ L.drop (off + cs.length)
theorem spl_length (L : List Value) (off : Nat) (cs : List Value) (h : off + cs.length ≤ L.length) : (spl L off cs).length = L.length := by simp [spl]; omega
theorem spl_take (L : List Value) (off : Nat) (cs : List Value) (h : off ≤ L.length) : (spl L off cs).take (off + cs.length) = L.take off ++ cs := by
  unfold spl
  rw [List.take_append_of_le_length (by simp; omega)]
  exact List.take_of_length_le (by simp; omega)
theorem spl_take_le (L : List Value) (off m : Nat) (cs : List Value) (h : m ≤ off) (hL : off ≤ L.length) : (spl L off cs).take m = L.take m := by
  unfold spl
  rw [List.append_assoc, List.take_append_of_le_length (by simp; omega), List.take_take, Nat.min_eq_left h]
section
variable {P : Program}
theorem run_copy_rowK (w : World) (dT sT ty elem : TypeId) (k n g o dLen dCap : Nat) (a : Addr) (sLen sCap : Nat) (cur : List Value) (t : TypeId) (cs : List Value)
    (hu : P.underlying dT = some (.slice elem)) (hs : (P.info? elem).map (·.size) = some k)
    (hg : w.heap[g]? = some (.cells cur.toArray t (0, 0))) (hn : n = Nat.min sLen dLen) (hl : cs.length = n * k)
    (hsrc : ∀ j v, cs[j]? = some v → w.cell? (a.add j) = some v) (hfit : o + cs.length ≤ cur.length) (h1 : ∀ v ∈ cs, v.oneCell' = true) :
    (Builtin.copy_ #[dT, sT] ty #[.slice (some ⟨g, o, none⟩) dLen dCap, .slice (some a) sLen sCap]).run P w =
      .ok (goInt n) (w.setRow g (spl cur o cs).toArray) := by
  have hld := run_loadCells_list (P := P) w a cs hsrc
  have hst := run_storeCells_at P g o t cs 0 cur.toArray w hg (by simpa using hfit) h1
  rw [hl] at hld
  cases hq : P.info? elem with
  | none => simp [hq] at hs
  | some i =>
    have hi : i.size = k := by simpa [hq] using hs
    simp [Builtin.copy_, run_underlying hu, Builtin.lenOf, Builtin.firstCells, sizeOf, typeInfo, hq, hi, ← hn, hld, hst, spl]
theorem run_clear_rowK (w : World) (t e ty : TypeId) (z : Value) (k : Nat) (ht : P.underlying t = some (.slice e)) (hv : ∀ w, (zeroValue e).run P w = .ok z w) (hz : z.cells.size = k) (h1 : ∀ v ∈ z.cells.toList, v.oneCell' = true) (b o c : Nat) (cur : List Value) (te : TypeId)
    (hg : w.heap[b]? = some (.cells cur.toArray te (0, 0))) (hfit : o + k ≤ cur.length) :
    (Builtin.clear_ #[t] ty #[.slice (some ⟨b, o, none⟩) 1 c]).run P w = .ok (.tuple #[]) (w.setRow b (spl cur o (Builtin.zeroCells z.cells 1).toList).toArray) := by
  have hl : (Builtin.zeroCells z.cells 1).toList.length = k := by rw [Array.length_toList, size_zeroCells, hz]; omega
  have hz1 : ∀ v ∈ (Builtin.zeroCells z.cells 1).toList, v.oneCell' = true := by
    intro v hv
    simp only [Builtin.zeroCells, Nat.one_mul, Array.toList_map, List.mem_map, Array.mem_toList_iff, Array.mem_range] at hv
    obtain ⟨i, hi, rfl⟩ := hv
    rw [Nat.mod_eq_of_lt hi, getElem!_pos z.cells i hi]
    exact h1 _ (by simp)
  have hst := run_storeCells_at P b o te (Builtin.zeroCells z.cells 1).toList 0 cur.toArray w hg (by rw [hl]; simpa using hfit) hz1
  simp [Builtin.clear_, run_underlying ht, hv, hst, spl]
theorem wp_copy_run (w : World) {o : Oper} {a : Act} {K : Act → World → Prop} {Q : Exit → Act → World → Prop} (d s : Operand) (t t' : TypeId)
    (ho : o.op = .call { callee := .builtin .copy, args := #[d, s], argTypes := #[t, t'] }) (v u : Value) (hd : a.eval d = v) (hs : a.eval s = u) {v' : Value} {w' : World}
    (hr : (Builtin.copy_ #[t, t'] o.type #[v, u]).run P w = .ok v' w') (h : K (a.put o.dst v') w') : o.wp P a w K Q := by
  unfold Oper.wp execOp
  simp only [ho, resolve, invoke, builtin, Sem.run_bind, Sem.run_pure, Result.andThen_ok, List.map_toArray, List.map_cons, List.map_nil, hd, hs, hr]
  exact h
theorem wpList_copy_run (w : World) {ops : Array Oper} {rest : List Oper} {o : Oper} {a : Act} {Q : Exit → Act → World → Prop} (hgd : o.guard = none) (d s : Operand) (t t' : TypeId)
    (ho : o.op = .call { callee := .builtin .copy, args := #[d, s], argTypes := #[t, t'] }) (v u : Value) (hd : a.eval d = v) (hs : a.eval s = u) {v' : Value} {w' : World}
    (hr : (Builtin.copy_ #[t, t'] o.type #[v, u]).run P w = .ok v' w') (h : wpList P ops Q rest (a.put o.dst v') w') : wpList P ops Q (o :: rest) a w :=
  wpList_plain hgd fun _ hK => wp_copy_run w d s t t' ho v u hd hs hr (hK _ _ h)
theorem step_copy_run {ops : Array Oper} {o : Oper} {a : Act} {w : World} {K : Act → World → Prop} {Q : Exit → Act → World → Prop} {E : Prop}
    (hg : o.guard = none) (d x : Operand) (dT sT : TypeId) (hop : o.op = Op.call { callee := Callee.builtin Builtin.copy, args := #[d, x], argTypes := #[dT, sT] })
    (v u : Value) (hd : a.eval d = v) (hx : a.eval x = u) {v' : Value} {w' : World} (hr : (Builtin.copy_ #[dT, sT] o.type #[v, u]).run P w = .ok v' w') (hK : K (a.put o.dst v') w') :
    if Region.wanted o (yielded ops a.tmps) = true then Oper.wp P o a w K Q else E := by
  have hw : Region.wanted o (yielded ops a.tmps) = true := by simp [Region.wanted, hg]
  rw [if_pos hw]
  exact wp_copy_run w d x dT sT hop v u hd hx hr hK
theorem step_append_run {ops : Array Oper} {o : Oper} {a : Act} {w : World} {K : Act → World → Prop} {Q : Exit → Act → World → Prop} {E : Prop}
    (hg : o.guard = none) (d x : Operand) (dT sT : TypeId) (hop : o.op = Op.call { callee := Callee.builtin Builtin.append, args := #[d, x], argTypes := #[dT, sT] })
    (v u : Value) (hd : a.eval d = v) (hx : a.eval x = u) {v' : Value} {w' : World} (hr : (Builtin.append_ #[dT, sT] o.type #[v, u]).run P w = .ok v' w') (hK : K (a.put o.dst v') w') :
    if Region.wanted o (yielded ops a.tmps) = true then Oper.wp P o a w K Q else E := by
  have hw : Region.wanted o (yielded ops a.tmps) = true := by simp [Region.wanted, hg]
  rw [if_pos hw]
  exact Lib.wp_append_run w d x dT sT hop v u hd hx _ _ hr hK
theorem grownBy_setRow (w : World) (g : Nat) (cs : Array Value) : w.grownBy (w.setRow g cs) (some g) :=
  ⟨rfl, rfl, rfl, by simp [World.setRow], fun k _ hne => setRow_other w g k cs (fun e => hne (by rw [e]))⟩
theorem only_setRow (w : World) (g : Nat) (cs : Array Value) : Only (fun j => j = g) w (w.setRow g cs) :=
  ⟨rfl, rfl, rfl, by simp [World.setRow], fun k _ hne => setRow_other w g k cs hne⟩
theorem ownsRow_block {w : World} {B : Nat} {e : TypeId} {k : Nat} {v : Value} {n : Nat} {xs : List Value} (h : w.ownsRow B e k v n xs) (hn : 0 < n) :
    ∃ g cap cur, v = .slice (some ⟨g, 0, none⟩) n cap ∧ B ≤ g ∧ w.heap[g]? = some (.cells (List.toArray cur) e (0, 0)) ∧ n ≤ cap ∧ cap ≤ 9223372036854775807 ∧ cur.length = cap * k ∧ cur.take (n * k) = xs := by
  rcases h.2 with ⟨_, h0⟩ | ⟨g, cap, cur, e1, h2, h3, h4, h5, h6, h7⟩
  · omega
  · refine ⟨g, cap, cur.toList, e1, h2, by simpa using h3, h4, ?_, by simpa using h6, h7⟩
    unfold maxLen at h5; omega
theorem ownsRow_of_block {w : World} {B : Nat} {e : TypeId} {k : Nat} {g cap n : Nat} {cur : List Value} (hB : B ≤ g) (h : w.heap[g]? = some (.cells cur.toArray e (0, 0))) (hn : n ≤ cap) (hc : cap ≤ 9223372036854775807) (hl : cur.length = cap * k) {xs : List Value} (hx : cur.take (n * k) = xs) :
    w.ownsRow B e k (.slice (some ⟨g, 0, none⟩) n cap) n xs := by
  refine ⟨?_, .inr ⟨g, cap, cur.toArray, rfl, hB, h, hn, by unfold maxLen; omega, by simpa using hl, by simpa using hx⟩⟩
  rw [← hx, List.length_take, hl]
  exact Nat.min_eq_left (Nat.mul_le_mul_right k hn)
theorem ownsRow_grew {w w' : World} (g : Grew w w') {B : Nat} {e : TypeId} {k : Nat} {v : Value} {n : Nat} {xs : List Value} (h : w.ownsRow B e k v n xs) : w'.ownsRow B e k v n xs := by
  refine ⟨h.1, ?_⟩
  rcases h.2 with h2 | ⟨b, cap, cur, e1, h2, h3, h4⟩
  · exact .inl h2
  · exact .inr ⟨b, cap, cur, e1, h2, (g.below.block b (Array.getElem?_eq_some_iff.1 h3).1).trans h3, h4⟩
theorem ownsRow_base {w : World} {B C : Nat} (hBC : C ≤ B) {e : TypeId} {k : Nat} {v : Value} {n : Nat} {xs : List Value} (h : w.ownsRow B e k v n xs) : w.ownsRow C e k v n xs := by
  refine ⟨h.1, ?_⟩
  rcases h.2 with h2 | ⟨b, cap, cur, e1, h2, h3⟩
  · exact .inl h2
  · exact .inr ⟨b, cap, cur, e1, Nat.le_trans hBC h2, h3⟩
theorem cell_block {w : World} {g : Nat} {cur : List Value} {t : TypeId} {fr : Nat × Nat} (h : w.heap[g]? = some (.cells cur.toArray t fr)) (j : Nat) : w.cell? ⟨g, j, none⟩ = cur[j]? := by
  rw [cell_of_row w g j _ t fr h]; simp
theorem spl_insert (L : List Value) (a kk n : Nat) (xs pv : List Value) (hp : pv.length = kk) (ha : a ≤ n) (hL : n + kk ≤ L.length) (hx : L.take n = xs) :
    (spl (spl L (a + kk) (xs.drop a)) a pv).take (n + kk) = xs.take a ++ pv ++ xs.drop a := by
  subst hx
  have hd : ((L.take n).drop a).length = n - a := by simp; omega
  have e1 : spl L (a + kk) ((L.take n).drop a) = L.take (a + kk) ++ (L.take n).drop a ++ L.drop (n + kk) := by
    unfold spl; rw [hd]; congr 2; omega
  have e2 : (L.take (a + kk) ++ (L.take n).drop a ++ L.drop (n + kk)).take a = (L.take n).take a := by
    rw [List.append_assoc, List.take_append_of_le_length (by simp; omega), List.take_take, List.take_take]
    congr 1; omega
  have e3 : (L.take (a + kk) ++ (L.take n).drop a ++ L.drop (n + kk)).drop (a + pv.length) = (L.take n).drop a ++ L.drop (n + kk) := by
    rw [List.append_assoc, List.drop_append_of_le_length (by simp; omega), List.drop_of_length_le (by simp; omega)]; simp
  rw [e1]
  unfold spl
  rw [e2, e3, ← List.append_assoc, List.take_append_of_le_length (by simp; omega), List.take_of_length_le (by simp; omega)]
end
theorem ownsRow_zero {w : World} {B k : Nat} {e : TypeId} {v : Value} {n : Nat} {L : List Value} (h : w.ownsRow B e k v n L) : w.ownsRow 0 e k v n L := by
  refine ⟨h.1, ?_⟩
  rcases h.2 with h2 | ⟨b, c, cur, e1, _, h3, h4⟩
  · exact .inl h2
  · exact .inr ⟨b, c, cur, e1, Nat.zero_le _, h3, h4⟩
theorem ownsRow_kept {w w' : World} {S : Nat → Prop} {B k : Nat} {e : TypeId} {v : Value} {n : Nat} {L : List Value} (h : w.ownsRow B e k v n L) (g : Only S w w') (hS : ∀ b, v.ownBlock = some b → ¬ S b) : w'.ownsRow B e k v n L := by
  refine ⟨h.1, ?_⟩
  rcases h.2 with h2 | ⟨b, c, cur, e1, h2, h3, h4⟩
  · exact .inl h2
  · exact .inr ⟨b, c, cur, e1, h2, (g.block b (Array.getElem?_eq_some_iff.1 h3).1 (hS b (by rw [e1]; rfl))).trans h3, h4⟩
end Go.Proofs.YtbdagllflamabaaGreatDoor
namespace Go.Proofs.YtbdagllflamabaaGreatDoor
open Go.RowKit
structure OpR where
  kind : Int
  key : ByteArray
  val : ByteArray
  old : ByteArray
  ver : Int
def OpR.none : OpR := ⟨0, ⟨#[]⟩, ⟨#[]⟩, ⟨#[]⟩, 0⟩
instance : Inhabited OpR := ⟨OpR.none⟩
def OpR.vals (c : OpR) : List Value := [.int .i64 c.kind, .string c.key, .string c.val, .string c.old, .int .i64 c.ver]
def opRAt (xs : List OpR) (j : Nat) : OpR := xs[j]?.getD OpR.none
theorem opRAt_eq (xs : List OpR) (i : Nat) (hi : i < xs.length) : opRAt xs i = xs[i] := by unfold opRAt; rw [List.getElem?_eq_getElem hi]; rfl
theorem opRAt_mem (xs : List OpR) (k : Nat) (h : k < xs.length) : opRAt xs k ∈ xs := by rw [opRAt_eq xs k h]; exact List.getElem_mem h
structure OpRRow (W : World) (b off : Nat) (xs : List OpR) : Prop where
  kind : ∀ j, j < xs.length → W.cell? ⟨b, off + j * 5, Option.none⟩ = some (.int .i64 (opRAt xs j).kind)
  key : ∀ j, j < xs.length → W.cell? ⟨b, off + j * 5 + 1, Option.none⟩ = some (.string (opRAt xs j).key)
  val : ∀ j, j < xs.length → W.cell? ⟨b, off + j * 5 + 2, Option.none⟩ = some (.string (opRAt xs j).val)
  old : ∀ j, j < xs.length → W.cell? ⟨b, off + j * 5 + 3, Option.none⟩ = some (.string (opRAt xs j).old)
  ver : ∀ j, j < xs.length → W.cell? ⟨b, off + j * 5 + 4, Option.none⟩ = some (.int .i64 (opRAt xs j).ver)
theorem OpRRow.grew {W W' : World} {b off : Nat} {xs : List OpR} (h : OpRRow W b off xs) (g : Grew W W') (hb : b < W.heap.size) : OpRRow W' b off xs :=
  ⟨fun j hj => (g.cells.1 _ _ hb).trans (h.kind j hj), fun j hj => (g.cells.1 _ _ hb).trans (h.key j hj), fun j hj => (g.cells.1 _ _ hb).trans (h.val j hj), fun j hj => (g.cells.1 _ _ hb).trans (h.old j hj), fun j hj => (g.cells.1 _ _ hb).trans (h.ver j hj)⟩
def OpRsAt (W : World) (a : Option Addr) (xs : List OpR) : Prop := xs = [] ∨ ∃ b off, a = some ⟨b, off, Option.none⟩ ∧ b < W.heap.size ∧ OpRRow W b off xs
theorem OpRsAt.grew {W W' : World} {a : Option Addr} {xs : List OpR} (h : OpRsAt W a xs) (g : Grew W W') : OpRsAt W' a xs := by
  rcases h with h | ⟨b, off, e, hb, h⟩
  · exact .inl h
  · exact .inr ⟨b, off, e, Nat.lt_of_lt_of_le hb g.size, h.grew g hb⟩
def OpR.aggOf (c : OpR) : Value := .agg c.vals.toArray
end Go.Proofs.YtbdagllflamabaaGreatDoor
