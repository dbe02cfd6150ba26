/- Footprints: which blocks of a world may have turned ('Only'); a map of raw values ('LMap'). -/
import Derived.Test.YtapchoppcaacdaaGreatDoorKit
import Derived.Maps.OwnSet
import Derived.Maps.OwnOps
import Derived.Deep.AppendLies
namespace Go.Proofs.YtapchoppcaacdaaGreatDoor
open Go.RowKit Go.Maps

/-- Only the blocks of S, and new ones, may have turned. -/
structure Only (S : Nat → Prop) (w w' : World) : Prop where
  os : w'.os = w.os
  tape : w'.tape = w.tape
  output : w'.output = w.output
  size : w.heap.size ≤ w'.heap.size
  block : ∀ k, k < w.heap.size → ¬ S k → w'.heap[k]? = w.heap[k]?

theorem Only.refl (S : Nat → Prop) (w : World) : Only S w w := ⟨rfl, rfl, rfl, Nat.le_refl _, fun _ _ _ => rfl⟩
theorem Only.trans {S T : Nat → Prop} {a b c : World} (h : Only S a b) (k : Only T b c) (hT : ∀ j, T j → S j ∨ a.heap.size ≤ j) : Only S a c :=
  ⟨k.os.trans h.os, k.tape.trans h.tape, k.output.trans h.output, Nat.le_trans h.size k.size, fun j hj hS => (k.block j (Nat.lt_of_lt_of_le hj h.size) (fun t => by rcases hT j t with s | s; exact hS s; omega)).trans (h.block j hj hS)⟩
theorem Only.then {S : Nat → Prop} {a b c : World} (h : Only S a b) (k : Only S b c) : Only S a c := h.trans k fun _ => .inl
theorem Only.mono {S T : Nat → Prop} {a b : World} (h : Only S a b) (hST : ∀ j, S j → T j ∨ a.heap.size ≤ j) : Only T a b :=
  ⟨h.os, h.tape, h.output, h.size, fun j hj ht => h.block j hj fun s => by rcases hST j s with t | t; exact ht t; omega⟩
theorem Grew.only {a b : World} (h : Grew a b) (S : Nat → Prop) : Only S a b := ⟨h.os, h.tape, h.output, h.size, fun j hj _ => h.block j hj⟩
theorem Only.grew {S : Nat → Prop} {a b : World} (h : Only S a b) (hS : ∀ j, S j → a.heap.size ≤ j) : Grew a b := ⟨h.os, h.tape, h.output, h.size, fun j hj => h.block j hj fun s => by have := hS j s; omega⟩
theorem Only.grewT {S : Nat → Prop} {a b c : World} (h : Only S a b) (k : Grew b c) : Only S a c := h.then (k.only S)
theorem Only.alloc {S : Nat → Prop} {a b : World} (h : Only S a b) (o : Obj) : Only S a (b.alloc o) := h.grewT ((Grew.refl b).alloc o)
theorem Only.drew {S : Nat → Prop} {a b : World} (h : Only S a b) : Only S a b.drew := h.grewT ((Grew.refl b).drew)
theorem Only.drewN {S : Nat → Prop} {a b : World} (h : Only S a b) (n : Nat) : Only S a (b.drewN n) := h.grewT ((Grew.refl b).drewN n)
theorem Only.cell {S : Nat → Prop} {w w' : World} (h : Only S w w') {k : Nat} (hk : k < w.heap.size) (hS : ¬ S k) (o : Nat) : w'.cell? ⟨k, o, none⟩ = w.cell? ⟨k, o, none⟩ := World.cell?_of_block (a := ⟨k, o, none⟩) (h.block k hk hS)
theorem Only.frozen {S : Nat → Prop} {w w' : World} (h : Only S w w') {k : Nat} (hk : k < w.heap.size) (hS : ¬ S k) (o : Nat) : w'.frozen? ⟨k, o, none⟩ = w.frozen? ⟨k, o, none⟩ := World.frozen?_of_block (a := ⟨k, o, none⟩) (h.block k hk hS)
theorem Only.of_grownBy {w w' : World} {row : Option Nat} (h : w.grownBy w' row) : Only (fun j => some j = row) w w' := ⟨h.os, h.tape, h.output, h.size, h.block⟩
theorem Only.toGrownBy {S : Nat → Prop} {w w' : World} {row : Option Nat} (h : Only S w w') (hS : ∀ j, S j → some j = row ∨ w.heap.size ≤ j) : w.grownBy w' row :=
  ⟨h.os, h.tape, h.output, h.size, fun j hj hn => h.block j hj fun s => by rcases hS j s with t | t; exact hn t; omega⟩
theorem Only.setCell (w : World) (p : Addr) (u : Value) : Only (fun j => j = p.block) w (w.setCell p u) := by
  have := Below.setCell (Below.refl 0 w) (Nat.zero_le p.block) u
  refine ⟨this.os, this.tape, this.output, ?_, ?_⟩
  · exact this.size
  · intro k hk hne
    exact Below.heap_setCell w p u k hne

/-- How a raw value reads: as itself. -/
def raw (v : Value) : Option (DataW Value × List MemPlace) := some (.held v, [])
/-- What a map's datum of raw values has at a key. -/
def lookD (D : DataW Value) (l : Lit) : Option Value := if has D l = true then (match D.atKey l .nil with | .held v => some v | _ => none) else none
/-- Block b is a map of raw values, of at most n entries: f says what stands at a key. -/
def LMap (w : World) (P : Program) (k : TypeId) (b n : Nat) (f : Lit → Option Value) : Prop := ∃ D, w.ownsMap P k raw b n D ∧ ∀ l, lookD D l = f l

section
variable {w : World} {P : Program} {k e t : TypeId} {b n : Nat} {f : Lit → Option Value}
theorem LMap.made (w : World) (P : Program) (k : TypeId) : LMap (w.alloc (.map #[] 0)) P k w.heap.size 0 (fun _ => none) :=
  ⟨_, World.ownsMap_made w P k raw, fun l => by simp [lookD, has]⟩
theorem LMap.lt (h : LMap w P k b n f) : b < w.heap.size := by obtain ⟨D, h, _⟩ := h; exact h.lt
theorem LMap.mono (h : LMap w P k b n f) {m : Nat} (hm : n ≤ m) : LMap w P k b m f := by obtain ⟨D, h, g⟩ := h; exact ⟨D, h.mono hm, g⟩
theorem LMap.kept {S : Nat → Prop} {w' : World} (h : LMap w P k b n f) (g : Only S w w') (hS : ¬ S b) : LMap w' P k b n f := by
  obtain ⟨D, h, hf⟩ := h
  have hlt := h.lt
  obtain ⟨es, clock, hb, F, hs, hD⟩ := h
  exact ⟨D, ⟨es, clock, (g.block b hlt hS).trans hb, F, hs, hD⟩, hf⟩
theorem LMap.grew {w' : World} (h : LMap w P k b n f) (g : Grew w w') : LMap w' P k b n f := h.kept (g.only fun _ => False) (fun h => h)

theorem LMap.lookup {z : Value} {key : Value} {l : Lit} (h : LMap w P k b n f) (K : Keyed P k) (ht : P.underlying t = some (.map k e)) (hz : (zeroValue e).run P w = .ok z w) (hkey : keyOf P k key = some l) :
    (Instr.lookup t (.map (some b)) key false).run P w = .ok ((f l).getD z) w := by
  obtain ⟨D, h, hf⟩ := h
  obtain ⟨es, clock, hb, F, _, rfl⟩ := h
  rw [← hf]
  rcases Maps.fit_look false K ht hz hb F hkey with ⟨hrun, _, hat⟩ | ⟨e0, y, _, _, hrun, hRv, hat, _⟩
  · rw [hrun]; unfold lookD; rw [Maps.has_false_of_atKey hat]; rfl
  · rw [hrun]; unfold lookD; rw [Maps.has_true_of_atKey hat, hat]; cases hRv; rfl
theorem LMap.lookup_ok {z : Value} {key : Value} {l : Lit} (h : LMap w P k b n f) (K : Keyed P k) (ht : P.underlying t = some (.map k e)) (hz : (zeroValue e).run P w = .ok z w) (hkey : keyOf P k key = some l) :
    (Instr.lookup t (.map (some b)) key true).run P w = .ok (.tuple #[(f l).getD z, .bool (f l).isSome]) w := by
  obtain ⟨D, h, hf⟩ := h
  obtain ⟨es, clock, hb, F, _, rfl⟩ := h
  rw [← hf]
  rcases Maps.fit_look true K ht hz hb F hkey with ⟨hrun, _, hat⟩ | ⟨e0, y, _, _, hrun, hRv, hat, _⟩
  · rw [hrun]; unfold lookD; rw [Maps.has_false_of_atKey hat]; rfl
  · rw [hrun]; unfold lookD; rw [Maps.has_true_of_atKey hat, hat]; cases hRv; rfl
/-- What stands at the keys behind a store. -/
noncomputable def lset (f : Lit → Option Value) (l : Lit) (v : Option Value) (m : Lit) : Option Value := open Classical in if m = l then v else f m
theorem LMap.store {key val : Value} {l : Lit} (h : LMap w P k b n f) (K : Keyed P k) (ht : P.underlying t = some (.map k e)) (hn : n < maxLen) (hkey : keyOf P k key = some l) :
    ∃ w', (Instr.mapUpdate t (.map (some b)) key val).run P w = .ok () w' ∧ LMap w' P k b (n + 1) (lset f l (some val)) ∧ w.mapTurned w' b := by
  obtain ⟨D, h, hf⟩ := h
  have hm := h.isMap
  have hl := K.key hkey
  obtain ⟨w', hrun, h1, h2⟩ := h.store K ht hn hkey (val := val) (d := .held val) (ps := []) rfl
  refine ⟨w', hrun, ⟨_, h1, fun m => ?_⟩, h2⟩
  unfold lset
  split
  · next he => subst he; unfold lookD; rw [has_put_same hm hl, atKey_put_same hm hl]; rfl
  · next he => rw [← hf]; unfold lookD; rw [has_put_other he, atKey_put_other he]
theorem LMap.drop {key : Value} {l : Lit} (h : LMap w P k b n f) (K : Keyed P k) (ht : P.underlying t = some (.map k e)) (hkey : keyOf P k key = some l) (ty : TypeId) :
    ∃ w', (Builtin.delete_ #[t, k] ty #[.map (some b), key]).run P w = .ok (.tuple #[]) w' ∧ LMap w' P k b n (lset f l none) ∧ w.mapTurned w' b := by
  obtain ⟨D, h, hf⟩ := h
  obtain ⟨w', hrun, h1, h2⟩ := h.drop K ht hkey ty
  refine ⟨w', hrun, ⟨_, h1, fun m => ?_⟩, h2⟩
  unfold lset
  split
  · next he => subst he; unfold lookD; rw [has_del_same]; rfl
  · next he => rw [← hf]; unfold lookD; rw [has_del_other he, atKey_del_other he]
end
theorem Only.of_turned {w w' : World} {b : Nat} (h : w.mapTurned w' b) : Only (fun j => j = b) w w' := (Only.of_grownBy h.grown).mono fun _ hj => .inl (Option.some.inj hj)

end Go.Proofs.YtapchoppcaacdaaGreatDoor
