/- Dd4, Pr0, ConP0, PkB, CloneU8, PkO: one text. -/
import Derived.Test.YtbdagllflamabaaGreatDoorFinWatchReplaysQ18
import Derived.RangeFuncNested
import Derived.RangeFuncBound
import Derived.RangeFuncCalls
import Derived.RangeFuncLeaves
import Derived.RangeFuncBox
import Derived.Shelf.Abstract
import Derived.Shelf.AbstractIn
import Derived.Shelf.RegionOpen
import Derived.OwnWalkIn
import Derived.TacticsInMore
import Derived.LoopNIn
import Derived.LoopIn
import Derived.Test.YtbdagllflamabaaGreatDoorFinWatchReplaysQ4
import Derived.Test.YtbdagllflamabaaGreatDoorFinWatchReplaysQ1
import Derived.Test.YtbdagllflamabaaGreatDoorFinWatchReplaysQ11
import Derived.Deep.Upon
import Derived.Lib.AppendZeros
import Derived.Deep.AppendLies
import Derived.Laws.BytesArg
import Derived.Lib.AppendStr
import Derived.Test.YtbdagllflamabaaGreatDoorFinWatchReplaysQ2
set_option linter.unusedVariables false
set_option linter.unusedSectionVars false
set_option linter.unusedSimpArgs false
namespace Go.Proofs.YtbdagllflamabaaGreatDoor
open Go.RowKit Go.Maps Go.Shelf
attribute [local go_sem] Oper.semAt_some
def clients (S : Int → Option An) : List (Int × An) := [1, 2, 3, 4].filterMap fun c => (S c).map fun a => (c, a)
theorem mem_clients {S : Int → Option An} {x : Int × An} : x ∈ clients S ↔ (x.1 = 1 ∨ x.1 = 2 ∨ x.1 = 3 ∨ x.1 = 4) ∧ S x.1 = some x.2 := by
  unfold clients
  rw [List.mem_filterMap]
  obtain ⟨c, a⟩ := x
  constructor
  · rintro ⟨d, hd, he⟩
    rw [Option.map_eq_some_iff] at he
    obtain ⟨b, hb, he⟩ := he
    cases he
    exact ⟨by simpa using hd, hb⟩
  · rintro ⟨h1, h2⟩
    exact ⟨c, by simpa using h1, by dsimp only at h2; rw [h2]; rfl⟩
theorem clients_rise (S : Int → Option An) : ((clients S).map (·.1)).Pairwise fun a b => a < b := by
  unfold clients
  rw [List.pairwise_map]
  refine List.Pairwise.filterMap (R := fun a b : Int => a < b) _ (fun a b hab x hx y hy => ?_) (by decide)
  rw [Option.map_eq_some_iff] at hx hy
  obtain ⟨_, _, rfl⟩ := hx
  obtain ⟨_, _, rfl⟩ := hy
  exact hab
theorem clients_len (S : Int → Option An) : (clients S).length ≤ 4 := by
  unfold clients
  exact Nat.le_trans (List.length_filterMap_le _ _) (by decide)
theorem rise_eq {l l' : List Int} (h : l.Pairwise fun a b => a < b) (h' : l'.Pairwise fun a b => a < b) (hm : ∀ x, x ∈ l ↔ x ∈ l') : l = l' := by
  have nd : l.Nodup := h.imp fun {a b} hab => by omega
  have nd' : l'.Nodup := h'.imp fun {a b} hab => by omega
  exact List.Perm.eq_of_pairwise (le := fun a b : Int => a < b) (fun a b _ _ h1 h2 => by omega) h h' ((List.perm_ext_iff_of_nodup nd nd').2 hm)
abbrev ClK := { x : Int × An // 1 ≤ x.1 ∧ x.1 ≤ 4 ∧ x.2.Ok }
def encCl (x : ClK) : Array Value := #[.int .i64 x.1.1, x.1.2.agg]
theorem clients_list {S : Int → Option An} (hok : ∀ c a, S c = some a → 1 ≤ c ∧ c ≤ 4 ∧ a.Ok) : ∃ xs : List ClK, xs.map Subtype.val = clients S := by
  refine ⟨(clients S).pmap Subtype.mk fun x hx => hok _ _ (mem_clients.1 hx).2, ?_⟩
  rw [List.map_pmap]
  simp
theorem LMap.below {w w' : World} {P : Program} {k : TypeId} {b n n₀ : Nat} {f : Lit → Option Value} (h : LMap w P k b n f) (g : Below n₀ w w') (hb : b < n₀) : LMap w' P k b n f := by
  obtain ⟨D, ⟨es, clock, h1, h2⟩, hf⟩ := h
  exact ⟨D, ⟨es, clock, (g.block b hb).trans h1, h2⟩, hf⟩
end Go.Proofs.YtbdagllflamabaaGreatDoor
namespace Go.Proofs.YtbdagllflamabaaGreatDoor
open Go.RowKit Go.Maps
attribute [local go_sem] Oper.semAt_some
structure Pr where
  key : ByteArray
  val : ByteArray
  ver : Int
def Pr.none : Pr := ⟨⟨#[]⟩, ⟨#[]⟩, 0⟩
def Pr.vals (c : Pr) : List Value := [.string c.key, .string c.val, .int .i64 c.ver]
def Pr.agg (c : Pr) : Value := .agg #[.string c.key, .string c.val, .int .i64 c.ver]
def prFlat (xs : List Pr) : List Value := xs.flatMap Pr.vals
def prAt (xs : List Pr) (j : Nat) : Pr := xs[j]?.getD Pr.none
theorem prAt_eq (xs : List Pr) (i : Nat) (hi : i < xs.length) : prAt xs i = xs[i] := by unfold prAt; rw [List.getElem?_eq_getElem hi]; rfl
theorem prFlat_length (xs : List Pr) : (prFlat xs).length = xs.length * 3 := by
  induction xs with
  | nil => rfl
  | cons c xs ih => unfold prFlat at ih ⊢; rw [List.flatMap_cons, List.length_append, ih]; simp [Pr.vals]; omega
theorem prFlat_get (i : Nat) (hi : i < 3) : ∀ (xs : List Pr) (j : Nat), j < xs.length → (prFlat xs)[j * 3 + i]? = (prAt xs j).vals[i]? := by
  intro xs
  induction xs with
  | nil => intro j hj; simp at hj
  | cons c xs ih =>
    intro j hj
    unfold prFlat at ih ⊢
    rw [List.flatMap_cons]
    cases j with
    | zero => rw [List.getElem?_append_left (by simp [Pr.vals]; omega)]; simp [prAt]
    | succ j =>
      rw [List.getElem?_append_right (by simp [Pr.vals]; omega)]
      have e : (j + 1) * 3 + i - c.vals.length = j * 3 + i := by simp [Pr.vals]; omega
      rw [e, ih j (by simpa using hj)]
      simp [prAt]
theorem prFlat_append (xs ys : List Pr) : prFlat (xs ++ ys) = prFlat xs ++ prFlat ys := by unfold prFlat; rw [List.flatMap_append]
theorem prFlat_one (c : Pr) : prFlat [c] = c.vals := by simp [prFlat]
theorem prFlat_take (xs : List Pr) (i : Nat) : prFlat (xs.take i) = (prFlat xs).take (i * 3) := by
  by_cases h : i ≤ xs.length
  · have e : prFlat xs = prFlat (xs.take i) ++ prFlat (xs.drop i) := by rw [← prFlat_append, List.take_append_drop]
    have h2 : (prFlat (xs.take i)).length = i * 3 := by rw [prFlat_length, List.length_take]; omega
    rw [e, ← h2, List.take_left]
  · have h2 : (prFlat xs).length ≤ i * 3 := by rw [prFlat_length]; omega
    rw [List.take_of_length_le (show xs.length ≤ i by omega), List.take_of_length_le h2]
theorem prFlat_drop (xs : List Pr) (i : Nat) : prFlat (xs.drop i) = (prFlat xs).drop (i * 3) := by
  by_cases h : i ≤ xs.length
  · have e : prFlat xs = prFlat (xs.take i) ++ prFlat (xs.drop i) := by rw [← prFlat_append, List.take_append_drop]
    have h2 : (prFlat (xs.take i)).length = i * 3 := by rw [prFlat_length, List.length_take]; omega
    rw [e, ← h2, List.drop_left]
  · have h2 : (prFlat xs).length ≤ i * 3 := by rw [prFlat_length]; omega
    rw [List.drop_of_length_le (show xs.length ≤ i by omega), List.drop_of_length_le h2]; rfl
theorem prFlat_one' (xs : List Pr) : ∀ u ∈ prFlat xs, u.oneCell' = true := by
  intro u hu
  unfold prFlat at hu
  obtain ⟨c, _, hc⟩ := List.mem_flatMap.1 hu
  simp [Pr.vals] at hc
  rcases hc with rfl | rfl | rfl <;> rfl
structure PairRow (W : World) (b off : Nat) (xs : List Pr) : Prop where
  key : ∀ j, j < xs.length → W.cell? ⟨b, off + j * 3, none⟩ = some (.string (prAt xs j).key)
  val : ∀ j, j < xs.length → W.cell? ⟨b, off + j * 3 + 1, none⟩ = some (.string (prAt xs j).val)
  ver : ∀ j, j < xs.length → W.cell? ⟨b, off + j * 3 + 2, none⟩ = some (.int .i64 (prAt xs j).ver)
theorem PairRow.grew {W W' : World} {b off : Nat} {xs : List Pr} (h : PairRow W b off xs) (g : Grew W W') (hb : b < W.heap.size) : PairRow W' b off xs :=
  ⟨fun j hj => (g.cells.1 _ _ hb).trans (h.key j hj), fun j hj => (g.cells.1 _ _ hb).trans (h.val j hj), fun j hj => (g.cells.1 _ _ hb).trans (h.ver j hj)⟩
def PairsAt (W : World) (a : Option Addr) (xs : List Pr) : Prop := xs = [] ∨ ∃ b off, a = some ⟨b, off, none⟩ ∧ b < W.heap.size ∧ PairRow W b off xs
theorem PairsAt.grew {W W' : World} {a : Option Addr} {xs : List Pr} (h : PairsAt W a xs) (g : Grew W W') : PairsAt W' a xs := by
  rcases h with h | ⟨b, off, e, hb, h⟩
  · exact .inl h
  · exact .inr ⟨b, off, e, Nat.lt_of_lt_of_le hb g.size, h.grew g hb⟩
theorem pairsAt_of {W : World} {B : Nat} {v : Value} {xs : List Pr} (h : W.ownsRow B 42 3 v xs.length (prFlat xs)) : ∃ a cap, v = .slice a xs.length cap ∧ PairsAt W a xs := by
  rcases Nat.eq_zero_or_pos xs.length with h0 | h0
  · have hx : xs = [] := List.eq_nil_of_length_eq_zero h0
    rcases h.2 with ⟨rfl, _⟩ | ⟨g, cap, cur, rfl, _, hg, _⟩
    · exact ⟨none, 0, by rw [h0], .inl hx⟩
    · exact ⟨_, _, rfl, .inl hx⟩
  · obtain ⟨g, cap, rfl, _, hlt⟩ := h.form h0
    refine ⟨_, _, rfl, .inr ⟨g, 0, rfl, hlt, ?_, ?_, ?_⟩⟩ <;> intro j hj
    · have := h.cellAt (j * 3 + 0) (by omega); rw [prFlat_get 0 (by omega) xs j hj] at this; rw [Nat.zero_add]; exact this
    · have := h.cellAt (j * 3 + 1) (by omega); rw [prFlat_get 1 (by omega) xs j hj] at this; rw [Nat.zero_add]; exact this
    · have := h.cellAt (j * 3 + 2) (by omega); rw [prFlat_get 2 (by omega) xs j hj] at this; rw [Nat.zero_add]; exact this
theorem PairRow.drop {W : World} {b off : Nat} {xs : List Pr} (h : PairRow W b off xs) (i : Nat) : PairRow W b (off + i * 3) (xs.drop i) := by
  have e : ∀ j, prAt (xs.drop i) j = prAt xs (i + j) := fun j => by unfold prAt; rw [List.getElem?_drop]
  refine ⟨fun j hj => ?_, fun j hj => ?_, fun j hj => ?_⟩ <;> (rw [List.length_drop] at hj; rw [e])
  · have := h.key (i + j) (by omega); rwa [show off + (i + j) * 3 = off + i * 3 + j * 3 by omega] at this
  · have := h.val (i + j) (by omega); rwa [show off + (i + j) * 3 = off + i * 3 + j * 3 by omega] at this
  · have := h.ver (i + j) (by omega); rwa [show off + (i + j) * 3 = off + i * 3 + j * 3 by omega] at this
theorem PairRow.take {W : World} {b off : Nat} {xs : List Pr} (h : PairRow W b off xs) (i : Nat) : PairRow W b off (xs.take i) := by
  have e : ∀ j, j < (xs.take i).length → prAt (xs.take i) j = prAt xs j := fun j hj => by unfold prAt; rw [List.length_take] at hj; rw [List.getElem?_take, if_pos (by omega)]
  refine ⟨fun j hj => ?_, fun j hj => ?_, fun j hj => ?_⟩ <;> (rw [e j hj]; rw [List.length_take] at hj)
  · exact h.key j (by omega)
  · exact h.val j (by omega)
  · exact h.ver j (by omega)
end Go.Proofs.YtbdagllflamabaaGreatDoor
namespace Go.Proofs.YtbdagllflamabaaGreatDoor
open Go.RowKit Go.Maps
attribute [local go_sem] Oper.semAt_some
theorem infoPr : (Tryz.prog.info? 42).map (fun i => (i.zero, i.size, i.bytes)) = some (some (.agg #[.string ⟨#[]⟩, .string ⟨#[]⟩, .int .i64 0]), 3, 40) := by kernel_rfl
def SlForm (a : Option Addr) (cap : Nat) : Prop := (a = none ∧ cap = 0) ∨ ∃ b off, a = some ⟨b, off, none⟩
theorem slForm_of {w : World} {B k : Nat} {e : TypeId} {a : Option Addr} {m n cap : Nat} {L : List Value} (h : w.ownsRow B e k (.slice a m cap) n L) : SlForm a cap := by
  rcases h.2 with ⟨h2, _⟩ | ⟨b, c, cur, e1, _⟩
  · cases h2; exact .inl ⟨rfl, rfl⟩
  · cases e1; exact .inr ⟨_, _, rfl⟩
theorem PairRow.cells {W : World} {b off : Nat} {xs : List Pr} (h : PairRow W b off xs) : ∀ j u, (prFlat xs)[j]? = some u → W.cell? ⟨b, off + j, none⟩ = some u := by
  intro j u hj
  have hlt : j < xs.length * 3 := by have := (List.getElem?_eq_some_iff.1 hj).1; rwa [prFlat_length] at this
  have h2 := prFlat_get (j % 3) (Nat.mod_lt _ (by decide)) xs (j / 3) (by omega)
  rw [show j / 3 * 3 + j % 3 = j by omega, hj] at h2
  have q0 := h.key (j / 3) (by omega)
  have q1 := h.val (j / 3) (by omega)
  have q2 := h.ver (j / 3) (by omega)
  have e : off + j = off + j / 3 * 3 + j % 3 := by omega
  have h4 : j % 3 < 3 := Nat.mod_lt _ (by decide)
  rw [e]
  generalize j % 3 = r at *
  unfold Pr.vals at h2
  match r, h4 with
  | 0, _ => simp at h2; rw [h2]; exact q0
  | 1, _ => simp at h2; rw [h2]; exact q1
  | 2, _ => simp at h2; rw [h2]; exact q2
theorem wpList_append_pairs {ops : Array Oper} {rest : List Oper} {o : Oper} {a : Act} {Q : Exit → Act → World → Prop} (hgd : o.guard = none) (s x : Operand)
    (ho : o.op = .call { callee := .builtin .append, args := #[s, x], argTypes := #[36, 36] }) {w : World} {B : Nat} {v : Value} {m : Nat} {ys xs : List Pr} (hs : a.eval s = v) (hown : w.ownsRow B 42 3 v m (prFlat ys))
    {ao : Option Addr} {n cap : Nat} (hx : a.eval x = .slice ao n cap) (hn : n = xs.length) (hA : PairsAt w ao xs) (hf : SlForm ao cap) (hbig : m + n ≤ 2000000) (hB : B ≤ w.heap.size)
    (h : ∀ a' cap' w', w'.ownsRow B 42 3 (.slice a' (m + n) cap') (m + n) (prFlat (ys ++ xs)) → w.grownBy w' v.ownBlock → wpList Tryz.prog ops Q rest (a.put o.dst (.slice a' (m + n) cap')) w') : wpList Tryz.prog ops Q (o :: rest) a w := by
  obtain ⟨i0, hi0, hz0, hz1, hz2⟩ := info_parts infoPr
  subst hn
  rcases Nat.eq_zero_or_pos xs.length with h0 | h0
  · have e := List.eq_nil_of_length_eq_zero h0
    subst e
    have hsrc : Src Tryz.prog i0.size 36 (.slice ao 0 cap) 0 [] w := by
      rcases hf with ⟨rfl, rfl⟩ | ⟨b, off, rfl⟩
      · exact Src.ofNil w Tryz.underlying36 0
      · exact Src.ofSlice w Tryz.underlying36 ⟨b, off, none⟩ 0 cap [] (by simp) (fun j u hj => by simp at hj) (fun u hu => by cases hu)
    have hb : ∃ a' cap', v = .slice a' m cap' ∧ m ≤ cap' := by
      rcases hown.2 with ⟨rfl, h2⟩ | ⟨b, c, cur, rfl, _, _, h4, _⟩
      · subst h2; exact ⟨_, _, rfl, Nat.le_refl _⟩
      · exact ⟨_, _, rfl, h4⟩
    obtain ⟨a', cap', rfl, hc⟩ := hb
    exact Lib.wpList_append_run w hgd s x _ _ ho _ _ hs hx _ _ (run_append_nothing w _ _ _ 42 i0 Tryz.underlying36 hi0 a' m cap' hc _ hsrc) (h a' cap' w (by simpa using hown) ⟨rfl, rfl, rfl, Nat.le_refl _, fun _ _ _ => rfl⟩)
  · rcases hA with h1 | ⟨b, off, rfl, hb, hR⟩
    · rw [h1] at h0; simp at h0
    · refine wpList_append_lies w hgd s x 36 ho B 42 i0 _ 3 40 Tryz.underlying36 hi0 hz0 hz1 hz2 rfl (by omega) v m (prFlat ys) hs hown ⟨b, off, none⟩ xs.length cap (prFlat xs) hx (prFlat_length xs) (fun j u hj => by rw [Addr.add_lit]; exact hR.cells j u hj) (prFlat_one' xs) h0 (by unfold maxLen; omega) (by omega) hB _ rfl ?_
      intro g cap2 w2 hown2 hgrow _ _
      rw [← prFlat_append] at hown2
      exact h _ _ _ hown2 hgrow
theorem run_append_pairs {w : World} {B : Nat} {v : Value} {m : Nat} {ys xs : List Pr} (hown : w.ownsRow B 42 3 v m (prFlat ys)) {ao : Option Addr} {n cap : Nat} (hn : n = xs.length) (hA : PairsAt w ao xs) (hf : SlForm ao cap) (hbig : m + n ≤ 2000000) (hB : B ≤ w.heap.size) (ty : TypeId) :
    ∃ a' cap' w', (Builtin.append_ #[36, 36] ty #[v, .slice ao n cap]).run Tryz.prog w = .ok (.slice a' (m + n) cap') w' ∧ w'.ownsRow B 42 3 (.slice a' (m + n) cap') (m + n) (prFlat (ys ++ xs)) ∧ w.grownBy w' v.ownBlock ∧ ∀ g, Value.ownBlock (.slice a' (m + n) cap') = some g → v.ownBlock = some g ∨ g = w.heap.size := by
  obtain ⟨i0, hi0, hz0, hz1, hz2⟩ := info_parts infoPr
  subst hn
  rcases Nat.eq_zero_or_pos xs.length with h0 | h0
  · have e := List.eq_nil_of_length_eq_zero h0
    subst e
    have hsrc : Src Tryz.prog i0.size 36 (.slice ao 0 cap) 0 [] w := by
      rcases hf with ⟨rfl, rfl⟩ | ⟨b, off, rfl⟩
      · exact Src.ofNil w Tryz.underlying36 0
      · exact Src.ofSlice w Tryz.underlying36 ⟨b, off, none⟩ 0 cap [] (by simp) (fun j u hj => by simp at hj) (fun u hu => by cases hu)
    have hb : ∃ a' cap', v = .slice a' m cap' ∧ m ≤ cap' := by
      rcases hown.2 with ⟨rfl, h2⟩ | ⟨b, c, cur, rfl, _, _, h4, _⟩
      · subst h2; exact ⟨_, _, rfl, Nat.le_refl _⟩
      · exact ⟨_, _, rfl, h4⟩
    obtain ⟨a', cap', rfl, hc⟩ := hb
    exact ⟨a', cap', w, run_append_nothing w _ _ _ 42 i0 Tryz.underlying36 hi0 a' m cap' hc _ hsrc, by simpa using hown, ⟨rfl, rfl, rfl, Nat.le_refl _, fun _ _ _ => rfl⟩, fun g h => .inl h⟩
  · rcases hA with h1 | ⟨b, off, rfl, hb, hR⟩
    · rw [h1] at h0; simp at h0
    · obtain ⟨g, cap2, w2, h1, h2, h3, h4, h5⟩ := run_append_lies (P := Tryz.prog) (w := w) 36 ty B 42 i0 _ 3 40 Tryz.underlying36 hi0 hz0 hz1 hz2 rfl (by omega) v m (prFlat ys) hown ⟨b, off, none⟩ xs.length cap (prFlat xs) (prFlat_length xs) (fun j u hj => by rw [Addr.add_lit]; exact hR.cells j u hj) (prFlat_one' xs) h0 (by unfold maxLen; omega) (by omega) hB _ rfl
      rw [← prFlat_append] at h2
      exact ⟨_, _, w2, h1, h2, h3, fun g' hg' => by
        have : g' = g := by simpa [Value.ownBlock] using hg'.symm
        subst this; exact h4⟩
theorem uponV_append_pairs {o : Oper} {a : Act} {w : World} {K : Value → World → Prop} (s x : Operand) (ho : o.op = .call { callee := .builtin .append, args := #[s, x], argTypes := #[36, 36] })
    {B : Nat} {v : Value} {m : Nat} {ys xs : List Pr} (hs : a.eval s = v) (hown : w.ownsRow B 42 3 v m (prFlat ys)) {ao : Option Addr} {n cap : Nat} (hx : a.eval x = .slice ao n cap) (hn : n = xs.length) (hA : PairsAt w ao xs) (hf : SlForm ao cap) (hbig : m + n ≤ 2000000) (hB : B ≤ w.heap.size)
    (h : ∀ r w', w'.ownsRow B 42 3 r (m + n) (prFlat (ys ++ xs)) → w.grownBy w' v.ownBlock → (∀ g, r.ownBlock = some g → v.ownBlock = some g ∨ g = w.heap.size) → K r w') : uponV Tryz.prog K ((execOp a.eval o).run Tryz.prog w) := by
  obtain ⟨a', cap', w', hr, h2, h3, h4⟩ := run_append_pairs hown hn hA hf hbig hB o.type
  unfold execOp
  simp only [ho, resolve, invoke, builtin, Sem.run_bind, Sem.run_pure, Result.andThen_ok, List.map_toArray, List.map_cons, List.map_nil, hs, hx, hr]
  exact h _ _ h2 h3 h4
end Go.Proofs.YtbdagllflamabaaGreatDoor
namespace Go.Proofs.YtbdagllflamabaaGreatDoor
open Go.RowKit Go.Maps
attribute [local go_sem] Oper.semAt_some
def u8Flat (ns : List Int) : List Value := ns.map (Value.int .u8)
namespace Pl
def numB (n : Nat) : List Int := if n < 128 then [(n : Int)] else ((n % 128 + 128 : Nat) : Int) :: numB (n / 128)
termination_by n
decreasing_by omega
end Pl
def BytesAt (W : World) (a : Option Addr) (ns : List Int) : Prop := ns = [] ∨ ∃ b off, a = some ⟨b, off, none⟩ ∧ b < W.heap.size ∧ ∀ j n, ns[j]? = some n → W.cell? ⟨b, off + j, none⟩ = some (.int .u8 n)
theorem BytesAt.kept {S : Nat → Prop} {W W' : World} {a : Option Addr} {ns : List Int} (h : BytesAt W a ns) (g : Only S W W') (hS : ∀ b off, a = some ⟨b, off, none⟩ → ¬ S b) : BytesAt W' a ns := by
  rcases h with h | ⟨b, off, rfl, hb, hc⟩
  · exact .inl h
  · exact .inr ⟨b, off, rfl, Nat.lt_of_lt_of_le hb g.size, fun j n hj => (g.cell hb (hS b off rfl) _).trans (hc j n hj)⟩
theorem BytesAt.grew {W W' : World} {a : Option Addr} {ns : List Int} (h : BytesAt W a ns) (g : Grew W W') : BytesAt W' a ns := h.kept (g.only fun _ => False) (fun _ _ _ h => h)
theorem BytesAt.drop {W : World} {b off : Nat} {ns : List Int} (h : BytesAt W (some ⟨b, off, none⟩) ns) (i : Nat) : BytesAt W (some ⟨b, off + i, none⟩) (ns.drop i) := by
  rcases h with h | ⟨b', off', e, hb, hc⟩
  · exact .inl (by rw [h]; simp)
  · cases e
    refine .inr ⟨b, off + i, rfl, hb, fun j n hj => ?_⟩
    rw [List.getElem?_drop] at hj
    have := hc (i + j) n hj
    rwa [← Nat.add_assoc] at this
theorem BytesAt.take {W : World} {a : Option Addr} {ns : List Int} (h : BytesAt W a ns) (i : Nat) : BytesAt W a (ns.take i) := by
  rcases h with h | ⟨b, off, rfl, hb, hc⟩
  · exact .inl (by rw [h]; simp)
  · refine .inr ⟨b, off, rfl, hb, fun j n hj => ?_⟩
    rw [List.getElem?_take] at hj
    split at hj
    · exact hc j n hj
    · cases hj
end Go.Proofs.YtbdagllflamabaaGreatDoor
namespace Go.Proofs.YtbdagllflamabaaGreatDoor
open Go.RowKit Go.Maps
attribute [local go_sem] Oper.semAt_some
end Go.Proofs.YtbdagllflamabaaGreatDoor
namespace Go.Proofs.YtbdagllflamabaaGreatDoor
open Go.RowKit Go.Maps
attribute [local go_sem] Oper.semAt_some
structure OutIs (w : World) (G : Nat → Prop) (ob : Nat) (v : Value) (bs : List Int) : Prop where
  c0 : w.cell? ⟨ob, 0, none⟩ = some v
  f0 : w.frozen? ⟨ob, 0, none⟩ = false
  c1 : w.cell? ⟨ob, 1, none⟩ = some .nilIface
  row : w.ownsRow 0 5 1 v bs.length (u8Flat bs)
  foot : G ob
  own : ∀ g, v.ownBlock = some g → G g ∧ g ≠ ob
  lt : ∀ j, G j → j < w.heap.size
def OutAt (w : World) (G : Nat → Prop) (ob : Nat) (bs : List Int) : Prop := ∃ v, OutIs w G ob v bs
def OutTurn (w : World) (G : Nat → Prop) (ob : Nat) (bs : List Int) (w' : World) : Prop := Only G w w' ∧ ∃ G', OutAt w' G' ob bs ∧ ∀ j, G' j → G j ∨ w.heap.size ≤ j
theorem OutIs.kept {w w' : World} {G S : Nat → Prop} {ob : Nat} {v : Value} {bs : List Int} (h : OutIs w G ob v bs) (g : Only S w w') (hS : ∀ j, G j → ¬ S j) : OutIs w' G ob v bs where
  c0 := (g.cell (cell_lt h.c0) (hS _ h.foot) 0).trans h.c0
  f0 := (g.frozen (cell_lt h.c0) (hS _ h.foot) 0).trans h.f0
  c1 := (g.cell (cell_lt h.c0) (hS _ h.foot) 1).trans h.c1
  row := ownsRow_kept h.row g fun b hb => hS b (h.own b hb).1
  foot := h.foot
  own := h.own
  lt := fun j hj => Nat.lt_of_lt_of_le (h.lt j hj) g.size
theorem OutAt.kept {w w' : World} {G S : Nat → Prop} {ob : Nat} {bs : List Int} (h : OutAt w G ob bs) (g : Only S w w') (hS : ∀ j, G j → ¬ S j) : OutAt w' G ob bs := by obtain ⟨v, h⟩ := h; exact ⟨v, h.kept g hS⟩
theorem OutAt.grew {w w' : World} {G : Nat → Prop} {ob : Nat} {bs : List Int} (h : OutAt w G ob bs) (g : Grew w w') : OutAt w' G ob bs := h.kept (g.only fun _ => False) (fun _ _ h => h)
theorem OutAt.lt {w : World} {G : Nat → Prop} {ob : Nat} {bs : List Int} (h : OutAt w G ob bs) : ∀ j, G j → j < w.heap.size := by obtain ⟨v, h⟩ := h; exact h.lt
theorem OutAt.new (w : World) (T : TypeId) : OutAt (w.alloc (.cells #[.slice none 0 0, .nilIface] T)) (fun j => j = w.heap.size) w.heap.size [] :=
  ⟨.slice none 0 0, by simp [go_sem], by simp [go_sem], by simp [go_sem], World.ownsRow_nil _ _ _ _, rfl, (fun g h => by cases h), fun j hj => by rw [hj]; simp⟩
theorem OutTurn.trans {w w1 w2 : World} {G : Nat → Prop} {ob : Nat} {bs cs : List Int} (h : OutTurn w G ob bs w1) (k : ∀ G1, OutAt w1 G1 ob bs → OutTurn w1 G1 ob cs w2) : OutTurn w G ob cs w2 := by
  obtain ⟨g1, G1, h1, hG⟩ := h
  obtain ⟨g2, G2, h2, h3⟩ := k G1 h1
  refine ⟨g1.trans g2 hG, G2, h2, fun j hj => ?_⟩
  rcases h3 j hj with h | h
  · exact hG j h
  · exact .inr (Nat.le_trans g1.size h)
theorem OutTurn.step {w w1 w2 : World} {G G1 : Nat → Prop} {ob : Nat} {cs : List Int} (g1 : Only G w w1) (hG : ∀ j, G1 j → G j ∨ w.heap.size ≤ j) (h : OutTurn w1 G1 ob cs w2) : OutTurn w G ob cs w2 := by
  obtain ⟨g2, G2, h2, h3⟩ := h
  refine ⟨g1.trans g2 hG, G2, h2, fun j hj => ?_⟩
  rcases h3 j hj with h | h
  · exact hG j h
  · exact .inr (Nat.le_trans g1.size h)
theorem OutTurn.refl {w : World} {G : Nat → Prop} {ob : Nat} {bs : List Int} (h : OutAt w G ob bs) : OutTurn w G ob bs w := ⟨Only.refl _ _, G, h, fun j hj => .inl hj⟩
theorem OutTurn.grew {w w1 w2 : World} {G : Nat → Prop} {ob : Nat} {bs : List Int} (h : OutTurn w G ob bs w1) (g : Grew w1 w2) : OutTurn w G ob bs w2 := by
  obtain ⟨g1, G1, h1, hG⟩ := h
  exact ⟨g1.grewT g, G1, h1.grew g, hG⟩
theorem OutTurn.new {w0 w w1 : World} {G : Nat → Prop} {ob : Nat} {bs : List Int} (h : OutTurn w G ob bs w1) (g : Grew w0 w) (hG : ∀ j, G j → w0.heap.size ≤ j) : Grew w0 w1 := ((g.only _).then h.1).grew hG
theorem OutIs.store {w y : World} {G : Nat → Prop} {ob : Nat} {v v' : Value} {bs cs : List Int} (h : OutIs w G ob v bs) (hO : Only (fun j => some j = v.ownBlock) w y) (hr : y.ownsRow 0 5 1 v' cs.length (u8Flat cs)) (ho : ∀ g, v'.ownBlock = some g → v.ownBlock = some g ∨ w.heap.size ≤ g) : OutTurn w G ob cs (y.setCell ⟨ob, 0, none⟩ v') := by
  have hob := cell_lt h.c0
  have hn : ¬ some ob = v.ownBlock := fun e => (h.own _ e.symm).2 rfl
  have hc := (hO.cell hob hn 0).trans h.c0
  have hf := (hO.frozen hob hn 0).trans h.f0
  have hc1 := (hO.cell hob hn 1).trans h.c1
  have hset : Only (fun j => j = ob) y (y.setCell ⟨ob, 0, none⟩ v') := Only.setCell y ⟨ob, 0, none⟩ _
  have hG : ∀ j, some j = v.ownBlock → G j := fun j hj => (h.own j hj.symm).1
  have hne : ∀ g, v'.ownBlock = some g → g ≠ ob := fun g hg e => by
    rcases ho g hg with h1 | h1
    · exact (h.own g h1).2 e
    · subst e; exact absurd (Nat.lt_of_lt_of_le hob h1) (Nat.lt_irrefl _)
  refine ⟨(hO.mono fun j hj => .inl (hG j hj)).then (hset.mono fun j (hj : j = ob) => .inl (by rw [hj]; exact h.foot)), fun j => G j ∨ v'.ownBlock = some j, ⟨v', by simp [go_sem, hc], by simp [go_sem, hf], ?_, ownsRow_kept hr hset fun b hb (e : b = ob) => hne b hb e, .inl h.foot, fun g hg => ⟨.inr hg, hne g hg⟩, fun j hj => ?_⟩, fun j hj => ?_⟩
  · rw [World.cell?_setCell_other _ _ _ _ (by simp)]; exact hc1
  · rcases hj with hj | hj
    · exact Nat.lt_of_lt_of_le (h.lt j hj) (Nat.le_trans hO.size hset.size)
    · exact Nat.lt_of_lt_of_le (hr.lt j hj).2 hset.size
  · rcases hj with hj | hj
    · exact .inl hj
    · rcases ho j hj with h1 | h1
      · exact .inl (hG j h1.symm)
      · exact .inr h1
def Free (B : Nat) (Z : Nat → Prop) (j : Nat) : Prop := ¬ Z j ∧ B ≤ j
def And1 (Z : Nat → Prop) (b j : Nat) : Prop := Z j ∨ j = b
structure RowZ (B : Nat) (Z : Nat → Prop) (w : World) (v : Value) (cs : List Int) : Prop where
  form : ∃ a c, v = .slice a cs.length c
  row : w.ownsRow B 5 1 v cs.length (u8Flat cs)
  ne : ∀ g, v.ownBlock = some g → ¬ Z g
  base : B ≤ w.heap.size
  lt : ∀ j, Z j → j < w.heap.size
theorem RowZ.grew {B : Nat} {Z : Nat → Prop} {w w' : World} {v : Value} {cs : List Int} (h : RowZ B Z w v cs) (g : Grew w w') : RowZ B Z w' v cs :=
  ⟨h.form, ownsRow_grew g h.row, h.ne, Nat.le_trans h.base g.size, fun j hj => Nat.lt_of_lt_of_le (h.lt j hj) g.size⟩
theorem RowZ.more {B : Nat} {Z : Nat → Prop} {w w' : World} {v : Value} {cs : List Int} (h : RowZ B Z w v cs) (g : Grew w w') {b : Nat} (h1 : w.heap.size ≤ b) (h2 : b < w'.heap.size) : RowZ B (And1 Z b) w' v cs := by
  refine ⟨h.form, ownsRow_grew g h.row, fun j hj hz => ?_, Nat.le_trans h.base g.size, fun j hj => ?_⟩
  · rcases hz with hz | rfl
    · exact h.ne j hj hz
    · have := (h.row.lt j hj).2; omega
  · rcases hj with hj | rfl
    · exact Nat.lt_of_lt_of_le (h.lt j hj) g.size
    · exact h2
theorem RowZ.less {B : Nat} {Z Y : Nat → Prop} {w : World} {v : Value} {cs : List Int} (h : RowZ B Z w v cs) (hY : ∀ j, Y j → Z j) : RowZ B Y w v cs := ⟨h.form, h.row, fun g hg hy => h.ne g hg (hY g hy), h.base, fun j hj => h.lt j (hY j hj)⟩
theorem RowZ.next {B : Nat} {Z : Nat → Prop} {w w' : World} {v v' : Value} {cs ds : List Int} (h : RowZ B Z w v cs) (hf : ∃ a c, v' = .slice a ds.length c) (hr : w'.ownsRow B 5 1 v' ds.length (u8Flat ds)) (hgr : w.grownBy w' v.ownBlock) (how : ∀ g, v'.ownBlock = some g → v.ownBlock = some g ∨ g = w.heap.size) : RowZ B Z w' v' ds ∧ Only (Free B Z) w w' := by
  have hO := Only.of_grownBy hgr
  refine ⟨⟨hf, hr, fun g hg hz => ?_, Nat.le_trans h.base hO.size, fun j hj => Nat.lt_of_lt_of_le (h.lt j hj) hO.size⟩, hO.mono fun j hj => .inl ⟨h.ne j hj.symm, (h.row.lt j hj.symm).1⟩⟩
  rcases how g hg with h1 | h1
  · exact h.ne g h1 hz
  · have := h.lt g hz; omega
theorem RowZ.start {w : World} {B : Nat} {a : Option Addr} {c : Nat} {cs : List Int} (h : w.ownsRow B 5 1 (.slice a cs.length c) cs.length (u8Flat cs)) (hB : B ≤ w.heap.size) : RowZ B (fun _ => False) w (.slice a cs.length c) cs := ⟨⟨_, _, rfl⟩, h, fun _ _ h => h, hB, fun _ h => h.elim⟩
end Go.Proofs.YtbdagllflamabaaGreatDoor
