/- Kit, Own, RowK, IntF, CloneI64: one text. -/
import Derived.Test.YtlgcdneiebjkcaaGreatDoorProg
import Derived.WalkKit
import Derived.WalkSpells
import Derived.WalkLawsBesides
import Derived.Maps.OwnSet
import Derived.Maps.OwnOps
import Derived.Deep.AppendLies
import Derived.Laws.CopyRow
import Derived.Laws.CopyOwn
import Derived.Laws.IdiomCopy
import Derived.Lib.AppendZeros
import Derived.Lib.AppendZerosOnto
import Derived.Lib.Overlaps
import Derived.Laws.NewBlocks
import Derived.Deep.RegionLaw
import Derived.Deep.Upon
namespace Go.Proofs.YtlgcdneiebjkcaaGreatDoor
open Go.RowKit
theorem hid {p : Prop} (h : p) : Hid p := h
theorem ret_int {k : IntKind} {a b : Int} (h : a = b) : Ending.returned (.int k a) = .returned (.int k b) := by rw [h]
theorem ret_bool {a b : Bool} (h : a = b) : Ending.returned (.bool a) = .returned (.bool b) := by rw [h]
theorem ret_val {a b : Value} (h : a = b) : Ending.returned a = .returned b := by rw [h]
theorem bcell {B : Nat} {W w1 : World} (hb : Below B W w1) : (∀ b o, b < B → w1.cell? ⟨b, o, none⟩ = W.cell? ⟨b, o, none⟩) ∧ (∀ b o, b < B → w1.frozen? ⟨b, o, none⟩ = W.frozen? ⟨b, o, none⟩) :=
  ⟨fun b o h => hb.cell (p := ⟨b, o, none⟩) h, fun b o h => hb.frozen (p := ⟨b, o, none⟩) h⟩
def Grew (w w' : World) : Prop := Below w.heap.size w w'
theorem Grew.below {w w' : World} (h : Grew w w') : Below w.heap.size w w' := h
theorem Grew.refl (w : World) : Grew w w := Below.refl _ _
theorem Grew.size {w w' : World} (h : Grew w w') : w.heap.size ≤ w'.heap.size := Below.size h
theorem Grew.trans {a b c : World} (h : Grew a b) (k : Grew b c) : Grew a c := Below.trans h (Below.mono k h.size)
theorem Grew.alloc {a b : World} (h : Grew a b) (o : Obj) : Grew a (b.alloc o) := Below.alloc h h.size o
theorem Grew.drew {a b : World} (h : Grew a b) : Grew a b.drew := Below.drew h
theorem Grew.iter {a b : World} (h : Grew a b) (s : ByteArray) (p : Nat) : Grew a (b.iter s p) := h.alloc _
theorem Grew.setCell {a b : World} (h : Grew a b) {p : Addr} (hp : a.heap.size ≤ p.block) (u : Value) : Grew a (b.setCell p u) := Below.setCell h hp u
theorem Grew.cells {a b : World} (h : Grew a b) : (∀ k o, k < a.heap.size → b.cell? ⟨k, o, none⟩ = a.cell? ⟨k, o, none⟩) ∧ (∀ k o, k < a.heap.size → b.frozen? ⟨k, o, none⟩ = a.frozen? ⟨k, o, none⟩) := bcell h
end Go.Proofs.YtlgcdneiebjkcaaGreatDoor
namespace Go.Proofs.YtlgcdneiebjkcaaGreatDoor
def idxI {α : Type} (p : α → Bool) (xs : List α) : Int := match xs.findIdx? p with | some i => (i : Nat) | none => -1
theorem idx_none {α : Type} (p : α → Bool) (xs : List α) (h : xs.all (fun c => !p c) = true) : idxI p xs = -1 := by
  have : xs.findIdx? p = none := by
    rw [List.findIdx?_eq_none_iff]
    intro x hx
    have := List.all_eq_true.1 h x hx
    simpa using this
  unfold idxI; rw [this]
theorem idx_some {α : Type} (p : α → Bool) (xs : List α) (k : Nat) (hk : k < xs.length) (h : (xs.take k).all (fun c => !p c) = true) (hp : p xs[k] = true) : idxI p xs = (k : Nat) := by
  have : xs.findIdx? p = some k := by
    rw [List.findIdx?_eq_some_iff_getElem]
    refine ⟨hk, hp, fun j hj => ?_⟩
    have h2 := List.all_eq_true.1 h xs[j] (by rw [List.mem_take_iff_getElem]; exact ⟨j, by omega, rfl⟩)
    simpa using h2
  unfold idxI; rw [this]
theorem idx_next {α : Type} (p : α → Bool) (xs : List α) (k : Nat) (hk : k < xs.length) (h : (xs.take k).all (fun c => !p c) = true) (hp : p xs[k] = false) : (xs.take (k + 1)).all (fun c => !p c) = true := by
  rw [List.take_succ_eq_append_getElem hk, List.all_append, h]
  simp [hp]
theorem Grew.gt3 {w x : World} {a b c : Obj} (h : Grew (((w.alloc a).alloc b).alloc c) x) : w.heap.size < x.heap.size ∧ w.heap.size + 1 < x.heap.size ∧ w.heap.size + 1 + 1 < x.heap.size := by have := h.size; simp at this; omega
theorem Grew.up3 {w x : World} {a b c : Obj} (h : Grew (((w.alloc a).alloc b).alloc c) x) : Grew w x := ((((Grew.refl w).alloc _).alloc _).alloc _).trans h
theorem Grew.up2 {w x : World} {a b : Obj} (h : Grew ((w.alloc a).alloc b) x) : Grew w x := (((Grew.refl w).alloc _).alloc _).trans h
theorem Grew.up1 {w x : World} {a : Obj} (h : Grew (w.alloc a) x) : Grew w x := ((Grew.refl w).alloc _).trans h
end Go.Proofs.YtlgcdneiebjkcaaGreatDoor
namespace Go.Proofs.YtlgcdneiebjkcaaGreatDoor
open Go.RowKit Go.Maps
structure Only (S : Nat → Prop) (w w' : World) : Prop where
  os : w'.os = w.os
  tape : w'.tape = w.tape
  output : w'.output = w.output
  size : w.heap.size ≤ w'.heap.size
  block : ∀ k, k < w.heap.size → ¬ S k → w'.heap[k]? = w.heap[k]?
theorem Only.refl (S : Nat → Prop) (w : World) : Only S w w := ⟨rfl, rfl, rfl, Nat.le_refl _, fun _ _ _ => rfl⟩
theorem Only.trans {S T : Nat → Prop} {a b c : World} (h : Only S a b) (k : Only T b c) (hT : ∀ j, T j → S j ∨ a.heap.size ≤ j) : Only S a c :=
  ⟨k.os.trans h.os, k.tape.trans h.tape, k.output.trans h.output, Nat.le_trans h.size k.size, fun j hj hS => (k.block j (Nat.lt_of_lt_of_le hj h.size) (fun t => by rcases hT j t with s | s; exact hS s; omega)).trans (h.block j hj hS)⟩
theorem Only.then {S : Nat → Prop} {a b c : World} (h : Only S a b) (k : Only S b c) : Only S a c := h.trans k fun _ => .inl
theorem Only.mono {S T : Nat → Prop} {a b : World} (h : Only S a b) (hST : ∀ j, S j → T j ∨ a.heap.size ≤ j) : Only T a b :=
  ⟨h.os, h.tape, h.output, h.size, fun j hj ht => h.block j hj fun s => by rcases hST j s with t | t; exact ht t; omega⟩
theorem Grew.only {a b : World} (h : Grew a b) (S : Nat → Prop) : Only S a b := ⟨h.os, h.tape, h.output, h.size, fun j hj _ => h.block j hj⟩
theorem Only.grew {S : Nat → Prop} {a b : World} (h : Only S a b) (hS : ∀ j, S j → a.heap.size ≤ j) : Grew a b := ⟨h.os, h.tape, h.output, h.size, fun j hj => h.block j hj fun s => by have := hS j s; omega⟩
theorem Only.grewT {S : Nat → Prop} {a b c : World} (h : Only S a b) (k : Grew b c) : Only S a c := h.then (k.only S)
theorem Only.alloc {S : Nat → Prop} {a b : World} (h : Only S a b) (o : Obj) : Only S a (b.alloc o) := h.grewT ((Grew.refl b).alloc o)
theorem Only.drew {S : Nat → Prop} {a b : World} (h : Only S a b) : Only S a b.drew := h.grewT ((Grew.refl b).drew)
theorem Only.cell {S : Nat → Prop} {w w' : World} (h : Only S w w') {k : Nat} (hk : k < w.heap.size) (hS : ¬ S k) (o : Nat) : w'.cell? ⟨k, o, none⟩ = w.cell? ⟨k, o, none⟩ := World.cell?_of_block (a := ⟨k, o, none⟩) (h.block k hk hS)
theorem Only.frozen {S : Nat → Prop} {w w' : World} (h : Only S w w') {k : Nat} (hk : k < w.heap.size) (hS : ¬ S k) (o : Nat) : w'.frozen? ⟨k, o, none⟩ = w.frozen? ⟨k, o, none⟩ := World.frozen?_of_block (a := ⟨k, o, none⟩) (h.block k hk hS)
theorem Only.of_grownBy {w w' : World} {row : Option Nat} (h : w.grownBy w' row) : Only (fun j => some j = row) w w' := ⟨h.os, h.tape, h.output, h.size, h.block⟩
theorem Only.setCell (w : World) (p : Addr) (u : Value) : Only (fun j => j = p.block) w (w.setCell p u) := by
  have := Below.setCell (Below.refl 0 w) (Nat.zero_le p.block) u
  refine ⟨this.os, this.tape, this.output, ?_, ?_⟩
  · exact this.size
  · intro k hk hne
    exact Below.heap_setCell w p u k hne
def raw (v : Value) : Option (DataW Value × List MemPlace) := some (.held v, [])
def lookD (D : DataW Value) (l : Lit) : Option Value := if has D l = true then (match D.atKey l .nil with | .held v => some v | _ => none) else none
def LMap (w : World) (P : Program) (k : TypeId) (b n : Nat) (f : Lit → Option Value) : Prop := ∃ D, w.ownsMap P k raw b n D ∧ ∀ l, lookD D l = f l
section
variable {w : World} {P : Program} {k e t : TypeId} {b n : Nat} {f : Lit → Option Value}
theorem LMap.made (w : World) (P : Program) (k : TypeId) : LMap (w.alloc (.map #[] 0)) P k w.heap.size 0 (fun _ => none) :=
  ⟨_, World.ownsMap_made w P k raw, fun l => by simp [lookD, has]⟩
theorem LMap.lt (h : LMap w P k b n f) : b < w.heap.size := by obtain ⟨D, h, _⟩ := h; exact h.lt
theorem LMap.mono (h : LMap w P k b n f) {m : Nat} (hm : n ≤ m) : LMap w P k b m f := by obtain ⟨D, h, g⟩ := h; exact ⟨D, h.mono hm, g⟩
theorem LMap.kept {S : Nat → Prop} {w' : World} (h : LMap w P k b n f) (g : Only S w w') (hS : ¬ S b) : LMap w' P k b n f := by
  obtain ⟨D, h, hf⟩ := h
  have hlt := h.lt
  obtain ⟨es, clock, hb, F, hs, hD⟩ := h
  exact ⟨D, ⟨es, clock, (g.block b hlt hS).trans hb, F, hs, hD⟩, hf⟩
theorem LMap.grew {w' : World} (h : LMap w P k b n f) (g : Grew w w') : LMap w' P k b n f := h.kept (g.only fun _ => False) (fun h => h)
theorem LMap.lookup {z : Value} {key : Value} {l : Lit} (h : LMap w P k b n f) (K : Keyed P k) (ht : P.underlying t = some (.map k e)) (hz : (zeroValue e).run P w = .ok z w) (hkey : keyOf P k key = some l) :
    (Instr.lookup t (.map (some b)) key false).run P w = .ok ((f l).getD z) w := by
  obtain ⟨D, h, hf⟩ := h
  obtain ⟨es, clock, hb, F, _, rfl⟩ := h
  rw [← hf]
  rcases Maps.fit_look false K ht hz hb F hkey with ⟨hrun, _, hat⟩ | ⟨e0, y, _, _, hrun, hRv, hat, _⟩
  · rw [hrun]; unfold lookD; rw [Maps.has_false_of_atKey hat]; rfl
  · rw [hrun]; unfold lookD; rw [Maps.has_true_of_atKey hat, hat]; cases hRv; rfl
noncomputable def lset (f : Lit → Option Value) (l : Lit) (v : Option Value) (m : Lit) : Option Value := open Classical in if m = l then v else f m
theorem LMap.store {key val : Value} {l : Lit} (h : LMap w P k b n f) (K : Keyed P k) (ht : P.underlying t = some (.map k e)) (hn : n < maxLen) (hkey : keyOf P k key = some l) :
    ∃ w', (Instr.mapUpdate t (.map (some b)) key val).run P w = .ok () w' ∧ LMap w' P k b (n + 1) (lset f l (some val)) ∧ w.mapTurned w' b := by
  obtain ⟨D, h, hf⟩ := h
  have hm := h.isMap
  have hl := K.key hkey
  obtain ⟨w', hrun, h1, h2⟩ := h.store K ht hn hkey (val := val) (d := .held val) (ps := []) rfl
  refine ⟨w', hrun, ⟨_, h1, fun m => ?_⟩, h2⟩
  unfold lset
  split
  · next he => subst he; unfold lookD; rw [has_put_same hm hl, atKey_put_same hm hl]; rfl
  · next he => rw [← hf]; unfold lookD; rw [has_put_other he, atKey_put_other he]
theorem LMap.drop {key : Value} {l : Lit} (h : LMap w P k b n f) (K : Keyed P k) (ht : P.underlying t = some (.map k e)) (hkey : keyOf P k key = some l) (ty : TypeId) :
    ∃ w', (Builtin.delete_ #[t, k] ty #[.map (some b), key]).run P w = .ok (.tuple #[]) w' ∧ LMap w' P k b n (lset f l none) ∧ w.mapTurned w' b := by
  obtain ⟨D, h, hf⟩ := h
  obtain ⟨w', hrun, h1, h2⟩ := h.drop K ht hkey ty
  refine ⟨w', hrun, ⟨_, h1, fun m => ?_⟩, h2⟩
  unfold lset
  split
  · next he => subst he; unfold lookD; rw [has_del_same]; rfl
  · next he => rw [← hf]; unfold lookD; rw [has_del_other he, atKey_del_other he]
end
theorem Only.of_turned {w w' : World} {b : Nat} (h : w.mapTurned w' b) : Only (fun j => j = b) w w' := (Only.of_grownBy h.grown).mono fun _ hj => .inl (Option.some.inj hj)
end Go.Proofs.YtlgcdneiebjkcaaGreatDoor
namespace Go.Proofs.YtlgcdneiebjkcaaGreatDoor
open Go.RowKit
section
variable {P : Program}
theorem ownsRow_block {w : World} {B : Nat} {e : TypeId} {k : Nat} {v : Value} {n : Nat} {xs : List Value} (h : w.ownsRow B e k v n xs) (hn : 0 < n) :
    ∃ g cap cur, v = .slice (some ⟨g, 0, none⟩) n cap ∧ B ≤ g ∧ w.heap[g]? = some (.cells (List.toArray cur) e (0, 0)) ∧ n ≤ cap ∧ cap ≤ 9223372036854775807 ∧ cur.length = cap * k ∧ cur.take (n * k) = xs := by
  rcases h.2 with ⟨_, h0⟩ | ⟨g, cap, cur, e1, h2, h3, h4, h5, h6, h7⟩
  · omega
  · refine ⟨g, cap, cur.toList, e1, h2, by simpa using h3, h4, ?_, by simpa using h6, h7⟩
    unfold maxLen at h5; omega
theorem ownsRow_of_block {w : World} {B : Nat} {e : TypeId} {k : Nat} {g cap n : Nat} {cur : List Value} (hB : B ≤ g) (h : w.heap[g]? = some (.cells cur.toArray e (0, 0))) (hn : n ≤ cap) (hc : cap ≤ 9223372036854775807) (hl : cur.length = cap * k) {xs : List Value} (hx : cur.take (n * k) = xs) :
    w.ownsRow B e k (.slice (some ⟨g, 0, none⟩) n cap) n xs := by
  refine ⟨?_, .inr ⟨g, cap, cur.toArray, rfl, hB, h, hn, by unfold maxLen; omega, by simpa using hl, by simpa using hx⟩⟩
  rw [← hx, List.length_take, hl]
  exact Nat.min_eq_left (Nat.mul_le_mul_right k hn)
theorem ownsRow_grew {w w' : World} (g : Grew w w') {B : Nat} {e : TypeId} {k : Nat} {v : Value} {n : Nat} {xs : List Value} (h : w.ownsRow B e k v n xs) : w'.ownsRow B e k v n xs := by
  refine ⟨h.1, ?_⟩
  rcases h.2 with h2 | ⟨b, cap, cur, e1, h2, h3, h4⟩
  · exact .inl h2
  · exact .inr ⟨b, cap, cur, e1, h2, (g.below.block b (Array.getElem?_eq_some_iff.1 h3).1).trans h3, h4⟩
theorem ownsRow_base {w : World} {B C : Nat} (hBC : C ≤ B) {e : TypeId} {k : Nat} {v : Value} {n : Nat} {xs : List Value} (h : w.ownsRow B e k v n xs) : w.ownsRow C e k v n xs := by
  refine ⟨h.1, ?_⟩
  rcases h.2 with h2 | ⟨b, cap, cur, e1, h2, h3⟩
  · exact .inl h2
  · exact .inr ⟨b, cap, cur, e1, Nat.le_trans hBC h2, h3⟩
end
theorem ownsRow_zero {w : World} {B k : Nat} {e : TypeId} {v : Value} {n : Nat} {L : List Value} (h : w.ownsRow B e k v n L) : w.ownsRow 0 e k v n L := by
  refine ⟨h.1, ?_⟩
  rcases h.2 with h2 | ⟨b, c, cur, e1, _, h3, h4⟩
  · exact .inl h2
  · exact .inr ⟨b, c, cur, e1, Nat.zero_le _, h3, h4⟩
theorem ownsRow_kept {w w' : World} {S : Nat → Prop} {B k : Nat} {e : TypeId} {v : Value} {n : Nat} {L : List Value} (h : w.ownsRow B e k v n L) (g : Only S w w') (hS : ∀ b, v.ownBlock = some b → ¬ S b) : w'.ownsRow B e k v n L := by
  refine ⟨h.1, ?_⟩
  rcases h.2 with h2 | ⟨b, c, cur, e1, h2, h3, h4⟩
  · exact .inl h2
  · exact .inr ⟨b, c, cur, e1, h2, (g.block b (Array.getElem?_eq_some_iff.1 h3).1 (hS b (by rw [e1]; rfl))).trans h3, h4⟩
end Go.Proofs.YtlgcdneiebjkcaaGreatDoor
namespace Go.Proofs.YtlgcdneiebjkcaaGreatDoor
open Go.RowKit Go.Maps
attribute [local go_sem] Oper.semAt_some
def intFlat (us : List Int) : List Value := us.map fun n => .int .i64 n
def IntsAt (W : World) (a : Option Addr) (us : List Int) : Prop := us = [] ∨ ∃ b off, a = some ⟨b, off, none⟩ ∧ b < W.heap.size ∧ ∀ j, j < us.length → W.cell? ⟨b, off + j, none⟩ = some (.int .i64 (us[j]?.getD 0))
theorem IntsAt.grew {W W' : World} {a : Option Addr} {us : List Int} (h : IntsAt W a us) (g : Grew W W') : IntsAt W' a us := by
  rcases h with h | ⟨b, off, e, hb, h⟩
  · exact .inl h
  · exact .inr ⟨b, off, e, Nat.lt_of_lt_of_le hb g.size, fun j hj => (g.cells.1 _ _ hb).trans (h j hj)⟩
theorem intsAt_of {W : World} {B : Nat} {v : Value} {us : List Int} (h : W.ownsRow B 3 1 v us.length (intFlat us)) : ∃ a cap, v = .slice a us.length cap ∧ IntsAt W a us := by
  rcases Nat.eq_zero_or_pos us.length with h0 | h0
  · have hx : us = [] := List.eq_nil_of_length_eq_zero h0
    rcases h.2 with ⟨rfl, _⟩ | ⟨g, cap, cur, rfl, _, hg, _⟩
    · exact ⟨none, 0, by rw [h0], .inl hx⟩
    · exact ⟨_, _, rfl, .inl hx⟩
  · obtain ⟨g, cap, rfl, _, hlt⟩ := h.form h0
    refine ⟨_, _, rfl, .inr ⟨g, 0, rfl, hlt, fun j hj => ?_⟩⟩
    rw [Nat.zero_add, h.cellAt j (by omega)]
    unfold intFlat
    rw [List.getElem?_map, List.getElem?_eq_getElem hj]
    rfl
theorem intFlat_one (us : List Int) : ∀ u ∈ intFlat us, u.oneCell' = true := by
  intro u hu
  obtain ⟨n, _, rfl⟩ := List.mem_map.1 hu
  rfl
theorem intFlat_length (us : List Int) : (intFlat us).length = us.length := by simp [intFlat]
theorem intsAt_row {W : World} {B : Nat} {v : Value} {us : List Int} (h : W.ownsRow B 3 1 v us.length (intFlat us)) : ∃ a cap, v = .slice a us.length cap ∧ IntsAt W a us ∧ ((a = none ∧ cap = 0) ∨ ∃ b off, a = some ⟨b, off, none⟩) := by
  obtain ⟨a, cap, rfl, hA⟩ := intsAt_of h
  refine ⟨a, cap, rfl, hA, ?_⟩
  rcases h.2 with ⟨h1, _⟩ | ⟨b, c, cur, h1, _⟩
  · injection h1 with h1 _ h2; exact .inl ⟨h1, h2⟩
  · injection h1 with h1; exact .inr ⟨b, 0, h1⟩
theorem IntsAt.kept {S : Nat → Prop} {W W' : World} {a : Option Addr} {us : List Int} (h : IntsAt W a us) (g : Only S W W') (hS : ∀ b off, a = some ⟨b, off, none⟩ → ¬ S b) : IntsAt W' a us := by
  rcases h with h | ⟨b, off, rfl, hb, h⟩
  · exact .inl h
  · exact .inr ⟨b, off, rfl, Nat.lt_of_lt_of_le hb g.size, fun j hj => (g.cell hb (hS b off rfl) _).trans (h j hj)⟩
end Go.Proofs.YtlgcdneiebjkcaaGreatDoor
set_option linter.unusedVariables false
set_option linter.unusedSectionVars false
set_option linter.unusedSimpArgs false
namespace Go.Proofs.YtlgcdneiebjkcaaGreatDoor
open Go.RowKit Go.Maps
attribute [local go_sem] Oper.semAt_some
theorem infoCI64 : (Tryz.prog.info? 3).map (fun i => (i.zero, i.size, i.bytes)) = some (some (.int .i64 0), 1, 8) := by kernel_rfl
theorem zcCI64 : (Value.cells (.int .i64 0)).size = 1 := by kernel_rfl
theorem eqCI64 (gb off m c : Nat) (w : World) : (binOp .eql 32 (.slice (some ⟨gb, off, none⟩) m c) (.slice none 0 0)).run Tryz.prog w = .ok (.bool false) w := by kernel_rfl
theorem eqCnI64 (w : World) : (binOp .eql 32 (.slice none 0 0) (.slice none 0 0)).run Tryz.prog w = .ok (.bool true) w := by kernel_rfl
set_option maxRecDepth 100000 in
set_option maxHeartbeats 1000000 in
theorem cloneI64 (w : World) (gb off m c : Nat) (hm : 0 < m) (hbig : m ≤ 1000000) (news : List Value) (hl : news.length = m * 1) (hnews : ∀ j u, news[j]? = some u → w.cell? ⟨gb, off + j, none⟩ = some u) (h1 : ∀ u ∈ news, u.oneCell' = true) :
    Calls Tryz.prog 39 #[.slice (some ⟨gb, off, none⟩) m c] w fun e w' => ∃ g cap, e = .returned (.slice (some ⟨g, 0, none⟩) m cap) ∧ w'.ownsRow w.heap.size 3 1 (.slice (some ⟨g, 0, none⟩) m cap) m news ∧ Grew w w' := by
  obtain ⟨i0, hi0, hz0, hz1, hz2⟩ := info_parts infoCI64
  have had : gb < w.heap.size := by
    have h0 : 0 < news.length := by omega
    have h2 := World.block_lt_of_cell? _ _ (hnews 0 news[0] (List.getElem?_eq_getElem h0))
    exact h2
  have HN : Hid (∀ (t : TypeId) j u, news[j]? = some u → (w.alloc (.cells #[] t)).cell? ⟨gb, off + j, none⟩ = some u) := fun t j u hj => by
    have := hnews j u hj
    rw [← this]
    exact ((Grew.refl w).alloc _).below.cell (World.block_lt_of_cell? _ _ this)
  have HL := hid hl
  have H1 := hid h1
  have HO := hid (fun (t : TypeId) (h : t = 3) => show (w.alloc (.cells #[] t)).ownsRow w.heap.size 3 1 (.slice (some ⟨w.heap.size, 0, none⟩) 0 0) 0 [] from by
    subst h
    exact ownsRow_of_block (cur := []) (Nat.le_refl _) (heap_alloc_new w _) (Nat.le_refl _) (by decide) rfl rfl)
  clear hnews hl h1
  have hEq := eqCI64 gb off m c
  go_enter Tryz.func39, Tryz.ntmps39
  go_wp2_with (at_builtin; refine wpList_append_lies _ rfl _ _ 32 rfl w.heap.size 3 i0 _ 1 8 Tryz.underlying32 hi0 hz0 hz1 hz2 zcCI64 (by omega) (.slice (some ⟨w.heap.size, 0, none⟩) 0 0) 0 [] rfl (HO.out _ rfl) ⟨gb, off, none⟩ m c news rfl HL.out (fun j u hj => by rw [Addr.add_lit]; exact HN.out _ j u hj) H1.out (by omega) (by unfold maxLen; omega) (by omega) (by simp) _ rfl ?_)
  intro g cap w1 hown hgrow hat hlt
  have HO := hid hown
  have HG := hid hgrow
  clear hown hgrow hat
  go_wp2_with fail
  go_ret
  refine ⟨g, cap, by simp, by simpa using HO.out, ?_⟩
  refine (((Grew.refl w).alloc _).only (fun j => some j = Value.ownBlock (.slice (some ⟨w.heap.size, 0, none⟩) 0 0))).then (Only.of_grownBy HG.out) |>.grew ?_
  intro j hj
  have : j = w.heap.size := Option.some.inj hj
  omega
set_option maxRecDepth 100000 in
theorem cloneNilI64 (w : World) : Calls Tryz.prog 39 #[.slice none 0 0] w fun e w' => e = .returned (.slice none 0 0) ∧ Grew w w' := by
  have hEq := eqCnI64
  go_enter Tryz.func39, Tryz.ntmps39
  go_wp2_with fail
  go_ret
  exact ⟨rfl, Grew.refl w⟩
set_option maxRecDepth 100000 in
theorem cloneZeroI64 (w : World) (gb off c : Nat) : Calls Tryz.prog 39 #[.slice (some ⟨gb, off, none⟩) 0 c] w fun e w' => e = .returned (.slice (some ⟨w.heap.size, 0, none⟩) 0 0) ∧ w'.ownsRow w.heap.size 3 1 (.slice (some ⟨w.heap.size, 0, none⟩) 0 0) 0 [] ∧ Grew w w' := by
  obtain ⟨i0, hi0, hz0, hz1, hz2⟩ := info_parts infoCI64
  have HO := hid (fun (t : TypeId) (h : t = 3) => show (w.alloc (.cells #[] t)).ownsRow w.heap.size 3 1 (.slice (some ⟨w.heap.size, 0, none⟩) 0 0) 0 [] from by
    subst h
    exact ownsRow_of_block (cur := []) (Nat.le_refl _) (heap_alloc_new w _) (Nat.le_refl _) (by decide) rfl rfl)
  have HG := hid (fun (t : TypeId) => (Grew.refl w).alloc (.cells #[] t))
  have hS : ∀ W : World, Src Tryz.prog i0.size 32 (.slice (some ⟨gb, off, none⟩) 0 c) 0 [] W := fun W => Src.ofSlice W Tryz.underlying32 ⟨gb, off, none⟩ 0 c [] (by simp) (fun j u hj => by simp at hj) (fun u hu => by cases hu)
  have HS := hid hS
  clear hS
  have hEq := eqCI64 gb off 0 c
  go_enter Tryz.func39, Tryz.ntmps39
  go_wp2_with (at_builtin; refine Lib.wpList_append_run _ rfl _ _ _ _ rfl _ _ rfl rfl _ _ (run_append_nothing _ 32 32 _ 3 i0 Tryz.underlying32 hi0 _ 0 0 (Nat.le_refl _) _ (HS.out _)) ?_)
  go_wp2_with fail
  go_ret
  exact ⟨rfl, HO.out _ rfl, HG.out _⟩
end Go.Proofs.YtlgcdneiebjkcaaGreatDoor
