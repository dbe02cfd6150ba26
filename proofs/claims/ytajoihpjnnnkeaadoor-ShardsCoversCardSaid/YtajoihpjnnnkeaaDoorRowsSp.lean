/- Spans: rows of them in memory (printed by gen_rows.py). Then: The walk of slices.Clone at a struct (printed by gen_slices.py). Then: slices.IndexFunc at tidewater/api.Span: the first element that a function tells yes of. -/
import Derived.Test.YtajoihpjnnnkeaaDoorRowK
import Derived.Deep.AppendLies
import Derived.Test.YtajoihpjnnnkeaaDoorIdxP
set_option linter.unusedVariables false
namespace Go.Proofs.YtajoihpjnnnkeaaDoor
open Go.RowKit
/-- A span. -/
structure Sp where
  lo : ByteArray
  hi : ByteArray
def Sp.none : Sp := ⟨⟨#[]⟩, ⟨#[]⟩⟩
instance : Inhabited Sp := ⟨Sp.none⟩
def Sp.vals (c : Sp) : List Value := [.string c.lo, .string c.hi]
def spAt (xs : List Sp) (j : Nat) : Sp := xs[j]?.getD Sp.none
def spFlat (xs : List Sp) : List Value := xs.flatMap Sp.vals
theorem spAt_eq (xs : List Sp) (i : Nat) (hi : i < xs.length) : spAt xs i = xs[i] := by unfold spAt; rw [List.getElem?_eq_getElem hi]; rfl
theorem spAt_mem (xs : List Sp) (k : Nat) (h : k < xs.length) : spAt xs k ∈ xs := by rw [spAt_eq xs k h]; exact List.getElem_mem h
theorem spFlat_length (xs : List Sp) : (spFlat xs).length = xs.length * 2 := by
  induction xs with
  | nil => rfl
  | cons c xs ih => unfold spFlat at ih ⊢; rw [List.flatMap_cons, List.length_append, ih]; simp [Sp.vals]; omega
theorem spFlat_get (i : Nat) (hi : i < 2) : ∀ (xs : List Sp) (j : Nat), j < xs.length → (spFlat xs)[j * 2 + i]? = (spAt xs j).vals[i]? := by
  intro xs
  induction xs with
  | nil => intro j hj; simp at hj
  | cons c xs ih =>
    intro j hj
    unfold spFlat at ih ⊢
    rw [List.flatMap_cons]
    cases j with
    | zero => rw [List.getElem?_append_left (by simp [Sp.vals]; omega)]; simp [spAt]
    | succ j =>
      rw [List.getElem?_append_right (by simp [Sp.vals]; omega)]
      have e : (j + 1) * 2 + i - c.vals.length = j * 2 + i := by simp [Sp.vals]; omega
      rw [e, ih j (by simpa using hj)]
      simp [spAt]
theorem spFlat_append (xs ys : List Sp) : spFlat (xs ++ ys) = spFlat xs ++ spFlat ys := by unfold spFlat; rw [List.flatMap_append]
theorem spFlat_one (c : Sp) : spFlat [c] = c.vals := by simp [spFlat]
theorem spFlat_take (xs : List Sp) (i : Nat) : spFlat (xs.take i) = (spFlat xs).take (i * 2) := by
  by_cases h : i ≤ xs.length
  · have e : spFlat xs = spFlat (xs.take i) ++ spFlat (xs.drop i) := by rw [← spFlat_append, List.take_append_drop]
    have h2 : (spFlat (xs.take i)).length = i * 2 := by rw [spFlat_length, List.length_take]; omega
    rw [e, ← h2, List.take_left]
  · have h2 : (spFlat xs).length ≤ i * 2 := by rw [spFlat_length]; omega
    rw [List.take_of_length_le (show xs.length ≤ i by omega), List.take_of_length_le h2]
theorem spFlat_drop (xs : List Sp) (i : Nat) : spFlat (xs.drop i) = (spFlat xs).drop (i * 2) := by
  by_cases h : i ≤ xs.length
  · have e : spFlat xs = spFlat (xs.take i) ++ spFlat (xs.drop i) := by rw [← spFlat_append, List.take_append_drop]
    have h2 : (spFlat (xs.take i)).length = i * 2 := by rw [spFlat_length, List.length_take]; omega
    rw [e, ← h2, List.drop_left]
  · have h2 : (spFlat xs).length ≤ i * 2 := by rw [spFlat_length]; omega
    rw [List.drop_of_length_le (show xs.length ≤ i by omega), List.drop_of_length_le h2]; rfl
/-- The cells of a row. -/
structure SpRow (W : World) (b off : Nat) (xs : List Sp) : Prop where
  lo : ∀ j, j < xs.length → W.cell? ⟨b, off + j * 2, Option.none⟩ = some (.string (spAt xs j).lo)
  hi : ∀ j, j < xs.length → W.cell? ⟨b, off + j * 2 + 1, Option.none⟩ = some (.string (spAt xs j).hi)
theorem SpRow.grew {W W' : World} {b off : Nat} {xs : List Sp} (h : SpRow W b off xs) (g : Grew W W') (hb : b < W.heap.size) : SpRow W' b off xs :=
  ⟨fun j hj => (g.cells.1 _ _ hb).trans (h.lo j hj), fun j hj => (g.cells.1 _ _ hb).trans (h.hi j hj)⟩
/-- A slice of them: empty, or a row. -/
def SpsAt (W : World) (a : Option Addr) (xs : List Sp) : Prop := xs = [] ∨ ∃ b off, a = some ⟨b, off, Option.none⟩ ∧ b < W.heap.size ∧ SpRow W b off xs
theorem SpsAt.grew {W W' : World} {a : Option Addr} {xs : List Sp} (h : SpsAt W a xs) (g : Grew W W') : SpsAt W' a xs := by
  rcases h with h | ⟨b, off, e, hb, h⟩
  · exact .inl h
  · exact .inr ⟨b, off, e, Nat.lt_of_lt_of_le hb g.size, h.grew g hb⟩
theorem spsAt_of {W : World} {B : Nat} {v : Value} {xs : List Sp} (h : W.ownsRow B 38 2 v xs.length (spFlat xs)) : ∃ a cap, v = .slice a xs.length cap ∧ SpsAt W a xs := by
  rcases Nat.eq_zero_or_pos xs.length with h0 | h0
  · have hx : xs = [] := List.eq_nil_of_length_eq_zero h0
    rcases h.2 with ⟨rfl, _⟩ | ⟨g, cap, cur, rfl, _, hg, _⟩
    · exact ⟨Option.none, 0, by rw [h0], .inl hx⟩
    · exact ⟨_, _, rfl, .inl hx⟩
  · obtain ⟨g, cap, rfl, _, hlt⟩ := h.form h0
    refine ⟨_, _, rfl, .inr ⟨g, 0, rfl, hlt, ?_, ?_⟩⟩ <;> intro j hj
    · have := h.cellAt (j * 2 + 0) (by omega); rw [spFlat_get 0 (by omega) xs j hj] at this; rw [Nat.zero_add]; exact this
    · have := h.cellAt (j * 2 + 1) (by omega); rw [spFlat_get 1 (by omega) xs j hj] at this; rw [Nat.zero_add]; exact this

theorem spFlat_one' (xs : List Sp) : ∀ u ∈ spFlat xs, u.oneCell' = true := by
  intro u hu
  unfold spFlat at hu
  obtain ⟨c, _, hc⟩ := List.mem_flatMap.1 hu
  simp [Sp.vals] at hc
  rcases hc with rfl | rfl <;> rfl
def Sp.aggOf (c : Sp) : Value := .agg c.vals.toArray
end Go.Proofs.YtajoihpjnnnkeaaDoor


set_option linter.unusedVariables false
set_option linter.unusedSectionVars false
set_option linter.unusedSimpArgs false
namespace Go.Proofs.YtajoihpjnnnkeaaDoor
open Go.RowKit Go.Maps
attribute [local go_sem] Oper.semAt_some

theorem infoCSpan : (Tryd.prog.info? 38).map (fun i => (i.zero, i.size, i.bytes)) = some (some (.agg #[.string ⟨#[]⟩, .string ⟨#[]⟩]), 2, 32) := by kernel_rfl
theorem zcCSpan : (Value.cells (.agg #[.string ⟨#[]⟩, .string ⟨#[]⟩])).size = 2 := by kernel_rfl

theorem eqCSpan (gb off m c : Nat) (w : World) : (binOp .eql 85 (.slice (some ⟨gb, off, none⟩) m c) (.slice none 0 0)).run Tryd.prog w = .ok (.bool false) w := by kernel_rfl
theorem eqCnSpan (w : World) : (binOp .eql 85 (.slice none 0 0) (.slice none 0 0)).run Tryd.prog w = .ok (.bool true) w := by kernel_rfl
set_option maxRecDepth 100000 in
set_option maxHeartbeats 1000000 in
/-- slices.Clone of a row of at least one. -/
theorem cloneSpan (w : World) (gb off m c : Nat) (hm : 0 < m) (hbig : m ≤ 1000000) (news : List Value) (hl : news.length = m * 2) (hnews : ∀ j u, news[j]? = some u → w.cell? ⟨gb, off + j, none⟩ = some u) (h1 : ∀ u ∈ news, u.oneCell' = true) :
    Calls Tryd.prog 87 #[.slice (some ⟨gb, off, none⟩) m c] w fun e w' => ∃ g cap, e = .returned (.slice (some ⟨g, 0, none⟩) m cap) ∧ w'.ownsRow w.heap.size 38 2 (.slice (some ⟨g, 0, none⟩) m cap) m news ∧ Grew w w' := by
  obtain ⟨i0, hi0, hz0, hz1, hz2⟩ := info_parts infoCSpan
  have had : gb < w.heap.size := by
    have h0 : 0 < news.length := by omega
    have h2 := World.block_lt_of_cell? _ _ (hnews 0 news[0] (List.getElem?_eq_getElem h0))
    exact h2
  have HN : Hid (∀ (t : TypeId) j u, news[j]? = some u → (w.alloc (.cells #[] t)).cell? ⟨gb, off + j, none⟩ = some u) := fun t j u hj => by
    have := hnews j u hj
    rw [← this]
    exact ((Grew.refl w).alloc _).below.cell (World.block_lt_of_cell? _ _ this)
  have HL := hid hl
  have H1 := hid h1
  have HO := hid (fun (t : TypeId) (h : t = 38) => show (w.alloc (.cells #[] t)).ownsRow w.heap.size 38 2 (.slice (some ⟨w.heap.size, 0, none⟩) 0 0) 0 [] from by
    subst h
    exact ownsRow_of_block (cur := []) (Nat.le_refl _) (heap_alloc_new w _) (Nat.le_refl _) (by decide) rfl rfl)
  clear hnews hl h1
  have hEq := eqCSpan gb off m c
  go_enter Tryd.func87, Tryd.ntmps87
  go_wp2_with (at_builtin; refine wpList_append_lies _ rfl _ _ 85 rfl w.heap.size 38 i0 _ 2 32 Tryd.underlying85 hi0 hz0 hz1 hz2 zcCSpan (by omega) (.slice (some ⟨w.heap.size, 0, none⟩) 0 0) 0 [] rfl (HO.out _ rfl) ⟨gb, off, none⟩ m c news rfl HL.out (fun j u hj => by rw [Addr.add_lit]; exact HN.out _ j u hj) H1.out (by omega) (by unfold maxLen; omega) (by omega) (by simp) _ rfl ?_)
  intro g cap w1 hown hgrow hat hlt
  have HO := hid hown
  have HG := hid hgrow
  clear hown hgrow hat
  go_wp2_with fail
  go_ret
  refine ⟨g, cap, by simp, by simpa using HO.out, ?_⟩
  refine (((Grew.refl w).alloc _).only (fun j => some j = Value.ownBlock (.slice (some ⟨w.heap.size, 0, none⟩) 0 0))).then (Only.of_grownBy HG.out) |>.grew ?_
  intro j hj
  have : j = w.heap.size := Option.some.inj hj
  omega

set_option maxRecDepth 100000 in
/-- .. of nothing. -/
theorem cloneNilSpan (w : World) : Calls Tryd.prog 87 #[.slice none 0 0] w fun e w' => e = .returned (.slice none 0 0) ∧ Grew w w' := by
  have hEq := eqCnSpan
  go_enter Tryd.func87, Tryd.ntmps87
  go_wp2_with fail
  go_ret
  exact ⟨rfl, Grew.refl w⟩
end Go.Proofs.YtajoihpjnnnkeaaDoor

namespace Go.Proofs.YtajoihpjnnnkeaaDoor
open Go.RowKit
attribute [local go_sem] Oper.semAt_some

set_option maxRecDepth 100000 in
set_option maxHeartbeats 1000000 in
theorem idxSpanBad (p : Sp → Bool) (a : Option Addr) (cap : Nat) (xs : List Sp) (w : World) (hA : SpsAt w a xs) (hx : xs.length ≤ 1000000)
    (hp : ∀ j, j < xs.length → ∀ W, Grew w W → Calls Tryd.prog 86 #[(spAt xs j).aggOf] W fun e W' => e = .returned (.bool (p (spAt xs j))) ∧ Grew W W') :
    Calls Tryd.prog 122 #[.slice a xs.length cap, .func (.func 86) #[] #[]] w fun e w' => e = .returned (.int .i64 (idxI p xs)) ∧ Grew w w' := by
  have HA := hid hA
  have HP := hid hp
  clear hA hp
  go_enter Tryd.func122, Tryd.ntmps122
  go_wp2_with fail
  go_loopw [8] (fun i wr => ∃ k : Nat, k ≤ xs.length ∧ i = .int .i64 k ∧ Hid ((xs.take k).all (fun c => !p c) = true) ∧ Grew w wr) (fun i _ => xs.length - (intOf i).toNat)
  case atStart => exact ⟨0, Nat.zero_le _, rfl, rfl, Grew.refl w⟩
  case round =>
    obtain ⟨k, hk1, rfl, HN, hG⟩ := hrel
    by_cases hlt : k < xs.length
    · rcases HA.out with h0 | ⟨b, off, rfl, hb, hR⟩
      · rw [h0] at hlt; simp at hlt
      have q0 := (hG.cells.1 b (off + k * 2) hb).trans (hR.lo k hlt)
      have q1 := (hG.cells.1 b (off + k * 2 + 1) hb).trans (hR.hi k hlt)
      have HC := hid (HP.out k hlt)
      have hat : spAt xs k = xs[k] := spAt_eq xs k hlt
      have HAT := hid hat
      clear hR hat
      have HS := hid (idx_some p xs k hlt HN.out)
      have HN2 := hid (idx_next p xs k hlt HN.out)
      rw [← HAT.out] at HS HN2
      generalize spAt xs k = c at *
      clear HAT
      unfold Sp.aggOf at HC
      cases hpc : p c with
      | true =>
        rw [hpc] at HC
        have HS2 := hid (HS.out hpc)
        obtain ⟨c0, c1⟩ := c
        dsimp only [Sp.vals] at *
        clear hpc HS HN2
        go_wp2_with fail
        refine (HC.out _ hG).mono ?_
        rintro e w1 ⟨rfl, hg1⟩
        go_wp2_with fail
        go_ret
        exact ⟨ret_int HS2.out.symm, hG.trans hg1⟩
      | false =>
        rw [hpc] at HC
        have HS2 := hid (HN2.out hpc)
        obtain ⟨c0, c1⟩ := c
        dsimp only [Sp.vals] at *
        clear hpc HS HN2
        go_wp2_with fail
        refine (HC.out _ hG).mono ?_
        rintro e w1 ⟨rfl, hg1⟩
        go_wp2_with fail
        go_roundw
        case rel => exact ⟨k + 1, by omega, by go_num, HS2, hG.trans hg1⟩
        case measure => simp [intOf]; omega
    · obtain rfl : k = xs.length := by omega
      have HE := hid (idx_none p xs (by have := HN.out; rwa [List.take_length] at this))
      go_wp2_with fail
      go_ret
      exact ⟨ret_int HE.out.symm, hG⟩
end Go.Proofs.YtajoihpjnnnkeaaDoor
