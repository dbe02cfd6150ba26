/- append of pairs to an owned row. -/
import Derived.Test.YtapchoppcaacdaaGreatDoorPr0
import Derived.Test.YtapchoppcaacdaaGreatDoorRgn
import Derived.Deep.Upon
import Derived.Lib.AppendZeros
import Derived.Deep.AppendLies
namespace Go.Proofs.YtapchoppcaacdaaGreatDoor
open Go.RowKit Go.Maps
attribute [local go_sem] Oper.semAt_some

theorem infoPr : (Tryz.prog.info? 82).map (fun i => (i.zero, i.size, i.bytes)) = some (some (.agg #[.string ⟨#[]⟩, .string ⟨#[]⟩, .int .i64 0]), 3, 40) := by kernel_rfl
/-- The form of a slice's head. -/
def SlForm (a : Option Addr) (cap : Nat) : Prop := (a = none ∧ cap = 0) ∨ ∃ b off, a = some ⟨b, off, none⟩
theorem slForm_of {w : World} {B k : Nat} {e : TypeId} {a : Option Addr} {m n cap : Nat} {L : List Value} (h : w.ownsRow B e k (.slice a m cap) n L) : SlForm a cap := by
  rcases h.2 with ⟨h2, _⟩ | ⟨b, c, cur, e1, _⟩
  · cases h2; exact .inl ⟨rfl, rfl⟩
  · cases e1; exact .inr ⟨_, _, rfl⟩
/-- The cells of a row, one by one. -/
theorem PairRow.cells {W : World} {b off : Nat} {xs : List Pr} (h : PairRow W b off xs) : ∀ j u, (prFlat xs)[j]? = some u → W.cell? ⟨b, off + j, none⟩ = some u := by
  intro j u hj
  have hlt : j < xs.length * 3 := by have := (List.getElem?_eq_some_iff.1 hj).1; rwa [prFlat_length] at this
  have h2 := prFlat_get (j % 3) (Nat.mod_lt _ (by decide)) xs (j / 3) (by omega)
  rw [show j / 3 * 3 + j % 3 = j by omega, hj] at h2
  have q0 := h.key (j / 3) (by omega)
  have q1 := h.val (j / 3) (by omega)
  have q2 := h.ver (j / 3) (by omega)
  have e : off + j = off + j / 3 * 3 + j % 3 := by omega
  have h4 : j % 3 < 3 := Nat.mod_lt _ (by decide)
  rw [e]
  generalize j % 3 = r at *
  unfold Pr.vals at h2
  match r, h4 with
  | 0, _ => simp at h2; rw [h2]; exact q0
  | 1, _ => simp at h2; rw [h2]; exact q1
  | 2, _ => simp at h2; rw [h2]; exact q2

/-- append(own, pairs...), whatever the pairs. -/
theorem wpList_append_pairs {ops : Array Oper} {rest : List Oper} {o : Oper} {a : Act} {Q : Exit → Act → World → Prop} (hgd : o.guard = none) (s x : Operand)
    (ho : o.op = .call { callee := .builtin .append, args := #[s, x], argTypes := #[38, 38] }) {w : World} {B : Nat} {v : Value} {m : Nat} {ys xs : List Pr} (hs : a.eval s = v) (hown : w.ownsRow B 82 3 v m (prFlat ys))
    {ao : Option Addr} {n cap : Nat} (hx : a.eval x = .slice ao n cap) (hn : n = xs.length) (hA : PairsAt w ao xs) (hf : SlForm ao cap) (hbig : m + n ≤ 2000000) (hB : B ≤ w.heap.size)
    (h : ∀ a' cap' w', w'.ownsRow B 82 3 (.slice a' (m + n) cap') (m + n) (prFlat (ys ++ xs)) → w.grownBy w' v.ownBlock → wpList Tryz.prog ops Q rest (a.put o.dst (.slice a' (m + n) cap')) w') : wpList Tryz.prog ops Q (o :: rest) a w := by
  obtain ⟨i0, hi0, hz0, hz1, hz2⟩ := info_parts infoPr
  subst hn
  rcases Nat.eq_zero_or_pos xs.length with h0 | h0
  · have e := List.eq_nil_of_length_eq_zero h0
    subst e
    have hsrc : Src Tryz.prog i0.size 38 (.slice ao 0 cap) 0 [] w := by
      rcases hf with ⟨rfl, rfl⟩ | ⟨b, off, rfl⟩
      · exact Src.ofNil w Tryz.underlying38 0
      · exact Src.ofSlice w Tryz.underlying38 ⟨b, off, none⟩ 0 cap [] (by simp) (fun j u hj => by simp at hj) (fun u hu => by cases hu)
    have hb : ∃ a' cap', v = .slice a' m cap' ∧ m ≤ cap' := by
      rcases hown.2 with ⟨rfl, h2⟩ | ⟨b, c, cur, rfl, _, _, h4, _⟩
      · subst h2; exact ⟨_, _, rfl, Nat.le_refl _⟩
      · exact ⟨_, _, rfl, h4⟩
    obtain ⟨a', cap', rfl, hc⟩ := hb
    exact Lib.wpList_append_run w hgd s x _ _ ho _ _ hs hx _ _ (run_append_nothing w _ _ _ 82 i0 Tryz.underlying38 hi0 a' m cap' hc _ hsrc) (h a' cap' w (by simpa using hown) ⟨rfl, rfl, rfl, Nat.le_refl _, fun _ _ _ => rfl⟩)
  · rcases hA with h1 | ⟨b, off, rfl, hb, hR⟩
    · rw [h1] at h0; simp at h0
    · refine wpList_append_lies w hgd s x 38 ho B 82 i0 _ 3 40 Tryz.underlying38 hi0 hz0 hz1 hz2 rfl (by omega) v m (prFlat ys) hs hown ⟨b, off, none⟩ xs.length cap (prFlat xs) hx (prFlat_length xs) (fun j u hj => by rw [Addr.add_lit]; exact hR.cells j u hj) (prFlat_one' xs) h0 (by unfold maxLen; omega) (by omega) hB _ rfl ?_
      intro g cap2 w2 hown2 hgrow _ _
      rw [← prFlat_append] at hown2
      exact h _ _ _ hown2 hgrow


/-- .. at a run. -/
theorem run_append_pairs {w : World} {B : Nat} {v : Value} {m : Nat} {ys xs : List Pr} (hown : w.ownsRow B 82 3 v m (prFlat ys)) {ao : Option Addr} {n cap : Nat} (hn : n = xs.length) (hA : PairsAt w ao xs) (hf : SlForm ao cap) (hbig : m + n ≤ 2000000) (hB : B ≤ w.heap.size) (ty : TypeId) :
    ∃ a' cap' w', (Builtin.append_ #[38, 38] ty #[v, .slice ao n cap]).run Tryz.prog w = .ok (.slice a' (m + n) cap') w' ∧ w'.ownsRow B 82 3 (.slice a' (m + n) cap') (m + n) (prFlat (ys ++ xs)) ∧ w.grownBy w' v.ownBlock ∧ ∀ g, Value.ownBlock (.slice a' (m + n) cap') = some g → v.ownBlock = some g ∨ g = w.heap.size := by
  obtain ⟨i0, hi0, hz0, hz1, hz2⟩ := info_parts infoPr
  subst hn
  rcases Nat.eq_zero_or_pos xs.length with h0 | h0
  · have e := List.eq_nil_of_length_eq_zero h0
    subst e
    have hsrc : Src Tryz.prog i0.size 38 (.slice ao 0 cap) 0 [] w := by
      rcases hf with ⟨rfl, rfl⟩ | ⟨b, off, rfl⟩
      · exact Src.ofNil w Tryz.underlying38 0
      · exact Src.ofSlice w Tryz.underlying38 ⟨b, off, none⟩ 0 cap [] (by simp) (fun j u hj => by simp at hj) (fun u hu => by cases hu)
    have hb : ∃ a' cap', v = .slice a' m cap' ∧ m ≤ cap' := by
      rcases hown.2 with ⟨rfl, h2⟩ | ⟨b, c, cur, rfl, _, _, h4, _⟩
      · subst h2; exact ⟨_, _, rfl, Nat.le_refl _⟩
      · exact ⟨_, _, rfl, h4⟩
    obtain ⟨a', cap', rfl, hc⟩ := hb
    exact ⟨a', cap', w, run_append_nothing w _ _ _ 82 i0 Tryz.underlying38 hi0 a' m cap' hc _ hsrc, by simpa using hown, ⟨rfl, rfl, rfl, Nat.le_refl _, fun _ _ _ => rfl⟩, fun g h => .inl h⟩
  · rcases hA with h1 | ⟨b, off, rfl, hb, hR⟩
    · rw [h1] at h0; simp at h0
    · obtain ⟨g, cap2, w2, h1, h2, h3, h4, h5⟩ := run_append_lies (P := Tryz.prog) (w := w) 38 ty B 82 i0 _ 3 40 Tryz.underlying38 hi0 hz0 hz1 hz2 rfl (by omega) v m (prFlat ys) hown ⟨b, off, none⟩ xs.length cap (prFlat xs) (prFlat_length xs) (fun j u hj => by rw [Addr.add_lit]; exact hR.cells j u hj) (prFlat_one' xs) h0 (by unfold maxLen; omega) (by omega) hB _ rfl
      rw [← prFlat_append] at h2
      exact ⟨_, _, w2, h1, h2, h3, fun g' hg' => by
        have : g' = g := by simpa [Value.ownBlock] using hg'.symm
        subst this; exact h4⟩
theorem uponV_append_pairs {o : Oper} {a : Act} {w : World} {K : Value → World → Prop} (s x : Operand) (ho : o.op = .call { callee := .builtin .append, args := #[s, x], argTypes := #[38, 38] })
    {B : Nat} {v : Value} {m : Nat} {ys xs : List Pr} (hs : a.eval s = v) (hown : w.ownsRow B 82 3 v m (prFlat ys)) {ao : Option Addr} {n cap : Nat} (hx : a.eval x = .slice ao n cap) (hn : n = xs.length) (hA : PairsAt w ao xs) (hf : SlForm ao cap) (hbig : m + n ≤ 2000000) (hB : B ≤ w.heap.size)
    (h : ∀ r w', w'.ownsRow B 82 3 r (m + n) (prFlat (ys ++ xs)) → w.grownBy w' v.ownBlock → (∀ g, r.ownBlock = some g → v.ownBlock = some g ∨ g = w.heap.size) → K r w') : uponV Tryz.prog K ((execOp a.eval o).run Tryz.prog w) := by
  obtain ⟨a', cap', w', hr, h2, h3, h4⟩ := run_append_pairs hown hn hA hf hbig hB o.type
  unfold execOp
  simp only [ho, resolve, invoke, builtin, Sem.run_bind, Sem.run_pure, Result.andThen_ok, List.map_toArray, List.map_cons, List.map_nil, hs, hx, hr]
  exact h _ _ h2 h3 h4
end Go.Proofs.YtapchoppcaacdaaGreatDoor
