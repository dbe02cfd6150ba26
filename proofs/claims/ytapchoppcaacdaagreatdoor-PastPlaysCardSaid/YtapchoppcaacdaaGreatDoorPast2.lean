/- The walk of past.last: the last change of a version up to one. -/
import Derived.Test.YtapchoppcaacdaaGreatDoorPast1
namespace Go.Proofs.YtapchoppcaacdaaGreatDoor
open Go.RowKit Go.Shelf
attribute [local go_sem] Oper.semAt_some

namespace Pl
/-- The last change of a version up to 'at'. -/
def last (xs : List Ch) (v : Int) : Option Ch := xs.reverse.find? fun c => decide (c.ver ≤ v)
theorem downTo_take (xs : List Ch) : ∀ k, k ≤ xs.length → (downTo xs k).map (·.2) = xs.reverse.take k := by
  intro k hk
  apply List.ext_getElem
  · simp [downTo, hk]
  · intro i h1 h2
    have hi : i < k := by simpa [downTo] using h1
    have h3 : xs.length - 1 - i < xs.length := by omega
    simp [downTo, chAt, h3]
theorem last_none (xs : List Ch) (v : Int) (h : ∀ p ∈ downTo xs xs.length, v < p.2.ver) : last xs v = none := by
  unfold last
  rw [List.find?_eq_none]
  intro c hc
  have e := downTo_take xs xs.length (Nat.le_refl _)
  rw [← List.length_reverse, List.take_length, List.length_reverse] at e
  rw [← e, List.mem_map] at hc
  obtain ⟨p, hp, rfl⟩ := hc
  have := h p hp
  simp; omega
theorem last_some (xs : List Ch) (v : Int) (k : Nat) (hk : k ≤ xs.length) (ini : List (Nat × Ch)) (x : Nat × Ch) (e : downTo xs k = ini ++ [x]) (h : ∀ p ∈ ini, v < p.2.ver) (hx : x.2.ver ≤ v) : last xs v = some x.2 := by
  unfold last
  have e1 := downTo_take xs k hk
  rw [e, List.map_append] at e1
  have e2 : xs.reverse = (ini.map (·.2) ++ [x.2]) ++ xs.reverse.drop k := by
    have := (List.take_append_drop k xs.reverse).symm
    rw [← e1] at this
    exact this
  rw [e2, List.append_assoc, List.find?_append]
  have e3 : (ini.map (·.2)).find? (fun c => decide (c.ver ≤ v)) = none := by
    rw [List.find?_eq_none]
    intro c hc
    obtain ⟨p, hp, rfl⟩ := List.mem_map.1 hc
    have := h p hp
    simp; omega
  rw [e3]
  simp [hx]
end Pl

theorem cellA {w : World} {a : Addr} {v : Value} (o : Obj) (h : w.cell? a = some v) : (w.alloc o).cell? a = some v := cell_kept h (World.grownBy_alloc w o none) (fun r e => by cases e)
theorem frozA {w : World} {a : Addr} {v : Value} {x : Bool} (o : Obj) (h : w.cell? a = some v) (hf : w.frozen? a = x) : (w.alloc o).frozen? a = x := (frozen_kept h (World.grownBy_alloc w o none) (fun r e => by cases e)).trans hf

/-- The cells of one change in a block of its own. -/
def ChCells (W : World) (b : Nat) (c : Ch) : Prop :=
  W.cell? ⟨b, 0, none⟩ = some (.string c.key) ∧ W.cell? ⟨b, 1, none⟩ = some (.string c.val) ∧ W.cell? ⟨b, 2, none⟩ = some (.int .i64 c.ver) ∧ W.cell? ⟨b, 3, none⟩ = some (.bool c.there)
theorem ChCells.own {W W' : World} {row : Option Nat} {b : Nat} {c : Ch} (h : ChCells W b c) (hg : W.grownBy W' row) (hr : ∀ r, row = some r → ∃ o : Obj, W.heap[r]? = some o ∧ o.isCells = false) : ChCells W' b c :=
  ⟨cell_kept h.1 hg hr, cell_kept h.2.1 hg hr, cell_kept h.2.2.1 hg hr, cell_kept h.2.2.2 hg hr⟩

theorem ChCells.frozen {W W' : World} {row : Option Nat} {b : Nat} {c : Ch} (h : ChCells W b c) (hg : W.grownBy W' row) (hr : ∀ r, row = some r → ∃ o : Obj, W.heap[r]? = some o ∧ o.isCells = false) (o : Nat) (ho : o < 4) : W'.frozen? ⟨b, o, none⟩ = W.frozen? ⟨b, o, none⟩ := by
  match o, ho with
  | 0, _ => exact frozen_kept h.1 hg hr
  | 1, _ => exact frozen_kept h.2.1 hg hr
  | 2, _ => exact frozen_kept h.2.2.1 hg hr
  | 3, _ => exact frozen_kept h.2.2.2 hg hr
  | n + 4, h => omega
theorem ChCells.alloc {W : World} {b : Nat} {c : Ch} (h : ChCells W b c) (o : Obj) : ChCells (W.alloc o) b c := ⟨cellA _ h.1, cellA _ h.2.1, cellA _ h.2.2.1, cellA _ h.2.2.2⟩
theorem ChCells.frozen_alloc {W : World} {b : Nat} {c : Ch} (h : ChCells W b c) (ob : Obj) (o : Nat) (ho : o < 4) : (W.alloc ob).frozen? ⟨b, o, none⟩ = W.frozen? ⟨b, o, none⟩ := h.frozen (World.grownBy_alloc W ob none) (fun r e => by cases e) o ho
theorem ChSlice.mono {m n : Nat} (hmn : m ≤ n) {A : World} {sv : Value} {xs : List Ch} : ChSlice m A sv xs → ChSlice n A sv xs
  | .inl e => .inl e
  | .inr ⟨b, cap, e, hb, hc⟩ => .inr ⟨b, cap, e, Nat.lt_of_lt_of_le hb hmn, hc⟩

/-- Between two rounds of last. -/
def LI (w W0 : World) (v : Int) (pre : List (Nat × Ch)) (W : World) : Prop := ((∀ p ∈ pre, v < p.2.ver) ∧ W.cell? ⟨w.heap.size, 0, none⟩ = some (.int .i64 v) ∧ ChCells W (w.heap.size + 1) Ch.none ∧ W.cell? ⟨w.heap.size + 1 + 1, 0, none⟩ = some (.bool false) ∧ (∀ o, o < 4 → W.frozen? ⟨w.heap.size + 1, o, none⟩ = false) ∧ W.frozen? ⟨w.heap.size + 1 + 1, 0, none⟩ = false ∧ W0.heap.size ≤ W.heap.size) ∧ Below w.heap.size w W
/-- A round of last has found one. -/
def LX (w : World) (v : Int) (c : Code) (pre : List (Nat × Ch)) (W : World) : Prop := (c = .ret ∧ ∃ ini x, pre = ini ++ [x] ∧ (∀ p ∈ ini, v < p.2.ver) ∧ x.2.ver ≤ v ∧ ChCells W (w.heap.size + 1) x.2 ∧ W.cell? ⟨w.heap.size + 1 + 1, 0, none⟩ = some (.bool true)) ∧ Below w.heap.size w W

theorem last_end (F : Fence) (n : Nat) (w : World) (D : Nat) (W : World) (a : Act) (c : Ch) (b : Bool) (hD : w.heap.size + 4 ≤ D) (hC : ChCells W (w.heap.size + 1) c) (hb : W.cell? ⟨w.heap.size + 1 + 1, 0, none⟩ = some (.bool b)) (hB : Below w.heap.size w W) (hK : W.heap[D]? = some (.deferred (some []))) (tm : Array Value) (ht : a = { tmps := tm, defers := [{ target := Target.collected D, args := #[] }] }) (h4 : tm[4]? = some (.pointer (some ⟨w.heap.size + 1, 0, none⟩))) (h5 : tm[5]? = some (.pointer (some ⟨w.heap.size + 1 + 1, 0, none⟩))) :
    bodyPostM F n Tryz.prog Tryz.f84 (fun e W' => e = .returned (.tuple #[c.agg, .bool b]) ∧ Below w.heap.size w W') .ret a W := by
  subst ht
  refine ⟨by simp, .inl ⟨_, _, rfl, run_takeDeferred hK, ?_⟩⟩
  have hC' := hC.own (grownBy_putObj' W D (.deferred none)) (fun r e => by cases e; exact ⟨_, hK, rfl⟩)
  have hb' := cell_kept hb (grownBy_putObj' W D (.deferred none)) (fun r e => by cases e; exact ⟨_, hK, rfl⟩)
  obtain ⟨c0, c1, c2, c3⟩ := hC'
  refine ⟨.tuple #[c.agg, .bool b], ?_, rfl, hB.trans (belowK_b (w := w) (Nat.le_refl _) W D _ _ (by omega) hK rfl rfl)⟩
  simp [results, Tryz.f84, go_sem, c0, c1, c2, c3, hb', h4, h5, Ch.agg]

set_option maxRecDepth 100000 in
set_option maxHeartbeats 2000000 in
theorem last_in (F : Fence) (n : Nat) (h4 : F.fn 84) (h6 : F.fn 124) (h8 : F.fn 142) (hro : F.round = none) (hn : 3 ≤ n) (a : Option Addr) (len cap : Nat) (v : Int) (xs : List Ch) (hreach : xs.length * 64 ≤ 140737488351232) (w : World) (hI : ChSlice w.heap.size w (.slice a len cap) xs) :
    CallsIn F n Tryz.prog 84 #[.slice a len cap, .int .i64 v] w fun e W' => e = .returned (.tuple #[((Pl.last xs v).getD Ch.none).agg, .bool (Pl.last xs v).isSome]) ∧ Below w.heap.size w W' := by
  have h1 : 1 ≤ n := by omega
  refine callsIn_of_wp_marks Tryz.func84 rfl h4 ?_ hro
  simp only [Tryz.ntmps84, List.size_toArray, List.length_cons, List.length_nil, Nat.reduceAdd, Nat.reduceSub, Array.replicate_succ, Array.replicate_zero, List.push_toArray, List.append_toArray, List.nil_append, List.cons_append]
  gi_wp2_with (gi_at_call 124; refine (backward_in F (n - 1) h6 hro _ _ _ _).mono ?_; rintro e w' ⟨rfl, rfl⟩)
  obtain ⟨W0, hW0⟩ : ∃ W0, (((w.alloc (Obj.cells #[Value.int IntKind.i64 v] 3)).alloc (Obj.cells #[Value.string ⟨#[]⟩, Value.string ⟨#[]⟩, Value.int IntKind.i64 0, Value.bool false] 104)).alloc (Obj.cells #[Value.bool false] 4)).alloc (Obj.cells #[Value.slice a len cap] 101) = W0 := ⟨_, rfl⟩
  have hB0 : Below w.heap.size w W0 := by rw [← hW0]; exact ((((Grew.refl w).alloc _).alloc _).alloc _).alloc _
  have hsz : W0.heap.size = w.heap.size + 4 := by rw [← hW0]; simp
  have cV : W0.cell? ⟨w.heap.size, 0, none⟩ = some (.int .i64 v) := by rw [← hW0]; simp [go_sem]
  have cR : ChCells W0 (w.heap.size + 1) Ch.none := by rw [← hW0]; simp [ChCells, Ch.none, go_sem]
  have cB : W0.cell? ⟨w.heap.size + 1 + 1, 0, none⟩ = some (.bool false) := by rw [← hW0]; simp [go_sem]
  have cS : W0.cell? ⟨w.heap.size + 1 + 1 + 1, 0, none⟩ = some (.slice a len cap) := by rw [← hW0]; simp [go_sem]
  have fR : ∀ o, W0.frozen? ⟨w.heap.size + 1, o, none⟩ = false := by intro o; rw [← hW0]; simp [go_sem]
  have fB : W0.frozen? ⟨w.heap.size + 1 + 1, 0, none⟩ = false := by rw [← hW0]; simp [go_sem]
  rw [hW0]
  clear hW0
  refine wpIn_rangeFunc_ownH hro h1 (gf := 142) (lb := #[.pointer (some ⟨w.heap.size + 1 + 1 + 1, 0, none⟩)]) rfl h8 (enters_of Tryz.func142 (by kernel_rfl) rfl)
    (backward_stops F (n - 1) h8 hro (by omega) (w.heap.size + 1 + 1 + 1) W0.heap.size _ xs hreach W0 (by omega) (by omega) (by omega) cS ((hI.below hB0).mono (by omega))) belowK_t (belowK_b (by omega)) (Below.refl _ _) (fun _ => rfl)
    (LI w W0 v) (LX w v)
    (OwnFrom.and (Own.from (fun s A B row hs hg hr => ⟨hs.1, cell_kept hs.2.1 hg hr, hs.2.2.1.own hg hr, cell_kept hs.2.2.2.1 hg hr, fun o ho => (hs.2.2.1.frozen hg hr o ho).trans (hs.2.2.2.2.1 o ho), (frozen_kept hs.2.2.2.1 hg hr).trans hs.2.2.2.2.2.1, Nat.le_trans hs.2.2.2.2.2.2 hg.size⟩) _) (ownFrom_below (Nat.le_refl _) (by omega)))
    (fun c => OwnFrom.and (Own.from (fun s A B row hs hg hr => by obtain ⟨hc, ini, x, e1, e2, e3, e4, e5⟩ := hs; exact ⟨hc, ini, x, e1, e2, e3, e4.own hg hr, cell_kept e5 hg hr⟩) _) (ownFrom_below (Nat.le_refl _) (by omega)))
    ⟨⟨by simp, cV, cR, cB, fun o _ => fR o, fB, Nat.le_refl _⟩, hB0⟩
    (fun x a' W => ∃ Bx, W0.heap.size ≤ Bx ∧ Bx < W.heap.size ∧ ChCells W Bx x.2 ∧ a' = { tmps := #[.slice a len cap, .int .i64 v, undef, .pointer (some ⟨w.heap.size, 0, none⟩), .pointer (some ⟨w.heap.size + 1, 0, none⟩), .pointer (some ⟨w.heap.size + 1 + 1, 0, none⟩), undef, .pointer (some ⟨Bx, 0, none⟩), .slice a len cap, .func (.func 142) #[] #[.pointer (some ⟨w.heap.size + 1 + 1 + 1, 0, none⟩)], .int .i64 ((x.1 : Nat) : Int), x.2.agg, undef, undef, undef, undef, undef, undef, undef], defers := [] })
    (fun x a' _ X Y row hs hg hr => by obtain ⟨Bx, h1, h2, h3, h4⟩ := hs; exact ⟨Bx, h1, Nat.lt_of_lt_of_le h2 hg.size, h3.own hg (fun r e => (hr r e).2), h4⟩)
    ?assign ?body ?done ?stop
  case assign =>
    rintro l pre ⟨xi, xk, xv, xn, xt⟩ W K ⟨⟨i1, i2, i3, i4, i5, i6, i7⟩, hB1⟩ hK
    dsimp only [Ch.agg]
    have hz := hB1.size
    gi_wp2
    refine hK _ _ ((KeepsOthers.alloc _ _).from _) ((Below.refl _ W).alloc i7 _) ⟨⟨i1, cellA _ i2, i3.alloc _, cellA _ i4, fun o ho => (i3.frozen_alloc _ o ho).trans (i5 o ho), frozA _ i4 i6, by simp; omega⟩, hB1.alloc hB1.size _⟩ ⟨W.heap.size, i7, by simp, by simp [ChCells, go_sem], rfl⟩
  case body =>
    rintro l pre ⟨xi, xk, xv, xn, xt⟩ a' W hl _ ⟨⟨i1, i2, i3, i4, i5, i6, i7⟩, hB1⟩ ⟨Bx, hBx, hBx2, ⟨b0, b1, b2, b3⟩, rfl⟩ hlt
    have i3' := i3
    obtain ⟨r0, r1, r2, r3⟩ := i3
    have f0 := i5 0 (by omega)
    have f1 := i5 1 (by omega)
    have f2 := i5 2 (by omega)
    have f3 := i5 3 (by omega)
    by_cases hv : xn ≤ v
    · gi_wp2
      refine ⟨(((((KeepsOthers.setCell _ _ _).trans (KeepsOthers.setCell _ _ _)).trans (KeepsOthers.setCell _ _ _)).trans (KeepsOthers.setCell _ _ _)).trans (KeepsOthers.setCell _ _ _)).from _, ⟨rfl, pre, _, rfl, i1, hv, by simp [ChCells, go_sem, r0, r1, r2, r3], by simp [go_sem, i4]⟩, ((((hB1.setCell (by simp) _).setCell (by simp) _).setCell (by simp) _).setCell (by simp) _).setCell (by simp; omega) _⟩
    · gi_wp2
      exact ⟨KeepsFrom.refl _ _, Below.refl _ _, ⟨fun p hp => (List.mem_append.1 hp).elim (i1 p) (fun e => by simp at e; subst e; simp; omega), i2, i3', i4, i5, i6, i7⟩, hB1⟩
  case done =>
    rintro D ys W hD rfl ⟨⟨i1, i2, i3, i4, i5, i6, i7⟩, hB1⟩ hK
    obtain ⟨r0, r1, r2, r3⟩ := i3
    have f0 := i5 0 (by omega)
    have f1 := i5 1 (by omega)
    have f2 := i5 2 (by omega)
    have f3 := i5 3 (by omega)
    gi_wp2
    have hE := Pl.last_none xs v i1
    have hKO := ((((KeepsOthers.setCell W ⟨w.heap.size + 1, 0, none⟩ (.string ⟨#[]⟩)).trans (KeepsOthers.setCell _ ⟨w.heap.size + 1, 1, none⟩ (.string ⟨#[]⟩))).trans (KeepsOthers.setCell _ ⟨w.heap.size + 1, 2, none⟩ (.int .i64 0))).trans (KeepsOthers.setCell _ ⟨w.heap.size + 1, 3, none⟩ (.bool false))).trans (KeepsOthers.setCell _ ⟨w.heap.size + 1 + 1, 0, none⟩ (.bool false))
    have hB5 := ((((hB1.setCell (p := ⟨w.heap.size + 1, 0, none⟩) (by simp) (.string ⟨#[]⟩)).setCell (p := ⟨w.heap.size + 1, 1, none⟩) (by simp) (.string ⟨#[]⟩)).setCell (p := ⟨w.heap.size + 1, 2, none⟩) (by simp) (.int .i64 0)).setCell (p := ⟨w.heap.size + 1, 3, none⟩) (by simp) (.bool false)).setCell (p := ⟨w.heap.size + 1 + 1, 0, none⟩) (by simp; omega) (.bool false)
    have hC5 : ChCells (((((W.setCell ⟨w.heap.size + 1, 0, none⟩ (.string ⟨#[]⟩)).setCell ⟨w.heap.size + 1, 1, none⟩ (.string ⟨#[]⟩)).setCell ⟨w.heap.size + 1, 2, none⟩ (.int .i64 0)).setCell ⟨w.heap.size + 1, 3, none⟩ (.bool false)).setCell ⟨w.heap.size + 1 + 1, 0, none⟩ (.bool false)) (w.heap.size + 1) Ch.none := by simp [ChCells, Ch.none, go_sem, r0, r1, r2, r3]
    have hD5 : (((((W.setCell ⟨w.heap.size + 1, 0, none⟩ (.string ⟨#[]⟩)).setCell ⟨w.heap.size + 1, 1, none⟩ (.string ⟨#[]⟩)).setCell ⟨w.heap.size + 1, 2, none⟩ (.int .i64 0)).setCell ⟨w.heap.size + 1, 3, none⟩ (.bool false)).setCell ⟨w.heap.size + 1 + 1, 0, none⟩ (.bool false)).cell? ⟨w.heap.size + 1 + 1, 0, none⟩ = some (.bool false) := by simp [go_sem, i4]
    have hK5 := hKO.same D _ hK rfl
    rw [hE]
    exact last_end F n w D _ _ Ch.none false (by rw [hsz] at hD; omega) hC5 hD5 hB5 hK5 _ rfl rfl rfl
  case stop =>
    rintro D c pre W hD ⟨k, hk, rfl⟩ ⟨⟨rfl, ini, x, e1, e2, e3, e4, e5⟩, hB1⟩ hK
    gi_wp2
    have hE := Pl.last_some xs v k hk ini x e1 e2 e3
    rw [hE]
    exact last_end F n w D _ _ x.2 true (by rw [hsz] at hD; omega) e4 e5 hB1 hK _ rfl rfl rfl

theorem last_any (a : Option Addr) (len cap : Nat) (v : Int) (xs : List Ch) (hreach : xs.length * 64 ≤ 140737488351232) (w : World) (hI : ChSlice w.heap.size w (.slice a len cap) xs) :
    Calls Tryz.prog 84 #[.slice a len cap, .int .i64 v] w fun e W' => e = .returned (.tuple #[((Pl.last xs v).getD Ch.none).agg, .bool (Pl.last xs v).isSome]) ∧ Grew w W' :=
  callsIn_wide.1 (last_in Fence.wide 3 trivial trivial trivial rfl (by omega) a len cap v xs hreach w hI)
end Go.Proofs.YtapchoppcaacdaaGreatDoor
