/- How an argument that is a list of acts (tidewaterlaw20), or an entry, lies in memory: out of the row's own word. -/
import Derived.Test.YtajoihpjnnnkeaaDoorActs20
import Derived.Deep.Slices
import Derived.ChangeSame
import Derived.ProofKit
import Derived.OpenShut
import Derived.SizedLaws
set_option linter.unusedVariables false
set_option linter.unusedSectionVars false
set_option linter.unusedSimpArgs false
namespace Go.Proofs.YtajoihpjnnnkeaaDoor
open Go.RowKit Go.ChangeShapes Go.WideShapes Go.Deep

theorem cells_op20 : Tryd.prog.cellsOf 89 = 5 := by kernel_rfl
theorem cells_act20 : Tryd.prog.cellsOf 30 = 13 := by kernel_rfl
theorem cells_entry20 : Tryd.prog.cellsOf 26 = 12 := by kernel_rfl
theorem cells_ops20 : Tryd.prog.cellsOf 23 = 1 := by kernel_rfl
theorem cells_bytes20 : Tryd.prog.cellsOf 24 = 1 := by kernel_rfl
theorem cells_int20 : Tryd.prog.cellsOf 3 = 1 := by kernel_rfl
theorem cells_str20 : Tryd.prog.cellsOf 9 = 1 := by kernel_rfl
theorem bytes_act20 : Tryd.prog.bytesOf 30 = 144 := by kernel_rfl

section
variable {H : Type} {enc : TypeId × Value → H} {W : World} {base : Nat} {spare : Nat → Bool} {held : Bool} {n : Nat} {cs : List Value} {y : DataW H × List MemPlace}
theorem open_op20 (hl : cs.length = 5) (h : DataW.trod enc Tryd.prog W base spare held n 89 cs = some y) :
    ∃ x : OpR, cs = x.vals ∧ x.key.size ≤ 9223372036854775807 ∧ x.val.size ≤ 9223372036854775807 ∧ x.old.size ≤ 9223372036854775807 := by
  match cs, hl with
  | [c0, c1, c2, c3, c4], _ =>
    obtain ⟨xs, n', _, hx, _, hlen, hg⟩ := DataW.trod_struct Tryd.underlying89 h
    have g0 := hg 0 _ rfl
    have g1 := hg 1 _ rfl
    have g2 := hg 2 _ rfl
    have g3 := hg 3 _ rfl
    have g4 := hg 4 _ rfl
    match xs, hlen with
    | [y0, y1, y2, y3, y4], _ =>
      simp [cells_int20, cells_str20] at g0 g1 g2 g3 g4
      obtain ⟨k, e0, _⟩ := DataW.trod_int Tryd.underlying3 g0
      obtain ⟨s1, e1, _, w1⟩ := DataW.trod_string Tryd.underlying9 g1
      obtain ⟨s2, e2, _, w2⟩ := DataW.trod_string Tryd.underlying9 g2
      obtain ⟨s3, e3, _, w3⟩ := DataW.trod_string Tryd.underlying9 g3
      obtain ⟨v, e4, _⟩ := DataW.trod_int Tryd.underlying3 g4
      simp at e0 e1 e2 e3 e4
      subst e0 e1 e2 e3 e4
      unfold maxLen at w1 w2 w3
      exact ⟨⟨k, s1, s2, s3, v⟩, rfl, by dsimp only; omega, by dsimp only; omega, by dsimp only; omega⟩

set_option maxRecDepth 100000 in
theorem open_ops20 {c : Value} (h : DataW.trod enc Tryd.prog W base spare held n 23 [c] = some y) :
    ∃ a cap xs, c = .slice a xs.length cap ∧ OpRsAt W a xs ∧ xs.length ≤ 9223372036854775807 ∧ ∀ j, j < xs.length → (opRAt xs j).key.size ≤ 9223372036854775807 ∧ (opRAt xs j).val.size ≤ 9223372036854775807 ∧ (opRAt xs j).old.size ≤ 9223372036854775807 := by
  rcases open_slice Tryd.underlying23 h with ⟨hcs, _⟩ | ⟨a, len, cap, m, n, D, Pl, hcs, _, hl, hm, hmm, _, hi⟩
  · simp at hcs
    subst hcs
    exact ⟨none, 0, [], rfl, .inl rfl, by simp, fun j hj => absurd hj (Nat.not_lt_zero j)⟩
  · simp at hcs
    subst hcs
    have hlm : len ≤ m := by rw [hmm]; split <;> omega
    have each : ∀ i, i < len → ∃ x : OpR, (W.cell? (a.add (i * 5)) = some (.int .i64 x.kind) ∧ W.cell? (a.add (i * 5 + 1)) = some (.string x.key) ∧ W.cell? (a.add (i * 5 + 2)) = some (.string x.val) ∧ W.cell? (a.add (i * 5 + 3)) = some (.string x.old) ∧ W.cell? (a.add (i * 5 + 4)) = some (.int .i64 x.ver)) ∧ x.key.size ≤ 9223372036854775807 ∧ x.val.size ≤ 9223372036854775807 ∧ x.old.size ≤ 9223372036854775807 := by
      intro i hil
      obtain ⟨cs', hc, ht⟩ := hi i (by omega)
      rw [cells_op20] at hc
      obtain ⟨_, hlen, hat⟩ := World.cells?_some hc
      obtain ⟨x, rfl, hx⟩ := open_op20 hlen ht
      refine ⟨x, ⟨?_, ?_, ?_, ?_, ?_⟩, hx⟩
      · have := hat 0 (by omega); rw [add_add] at this; exact this
      · have := hat 1 (by omega); rw [add_add] at this; exact this
      · have := hat 2 (by omega); rw [add_add] at this; exact this
      · have := hat 3 (by omega); rw [add_add] at this; exact this
      · have := hat 4 (by omega); rw [add_add] at this; exact this
    obtain ⟨X, hX⟩ := choose_lt each
    have hlenX : ((List.range len).map X).length = len := by simp
    have hatX : ∀ j, j < len → opRAt ((List.range len).map X) j = X j := fun j hj => by unfold opRAt; simp [hj]
    refine ⟨some a, cap, (List.range len).map X, by rw [hlenX], ?_, by rw [hlenX]; unfold maxLen at hm; omega, ?_⟩
    · by_cases h0 : len = 0
      · left; rw [h0]; rfl
      · right
        obtain ⟨b, off, spot⟩ := a
        have hs : spot = none := by
          have := (hX 0 (by omega)).1.1
          simpa [Addr.add] using World.cell?_spot this
        subst hs
        refine ⟨b, off, rfl, block_lt_of_cell (by have := (hX 0 (by omega)).1.1; simpa [Addr.add] using this), ?_, ?_, ?_, ?_, ?_⟩ <;> intro j hj <;> rw [hlenX] at hj <;> rw [hatX j hj]
        · have := (hX j hj).1.1; rwa [Addr.add_lit] at this
        · have := (hX j hj).1.2.1; rwa [Addr.add_lit, ← Nat.add_assoc] at this
        · have := (hX j hj).1.2.2.1; rwa [Addr.add_lit, ← Nat.add_assoc] at this
        · have := (hX j hj).1.2.2.2.1; rwa [Addr.add_lit, ← Nat.add_assoc] at this
        · have := (hX j hj).1.2.2.2.2; rwa [Addr.add_lit, ← Nat.add_assoc] at this
    · intro j hj
      rw [hlenX] at hj
      rw [hatX j hj]
      exact (hX j hj).2

theorem open_bytes20 {c : Value} (h : DataW.trod enc Tryd.prog W base spare held n 24 [c] = some y) : ∃ a l cap, c = .slice a l cap ∧ l ≤ 9223372036854775807 := by
  rcases open_slice Tryd.underlying24 h with ⟨hcs, _⟩ | ⟨a, len, cap, m, n, D, Pl, hcs, _, hl, hm, _, _, _⟩
  · simp at hcs; exact ⟨none, 0, 0, hcs, Nat.zero_le _⟩
  · simp at hcs; unfold maxLen at hm; exact ⟨some a, len, cap, hcs, by omega⟩

theorem open_entry20 (hl : cs.length = 12) (h : DataW.trod enc Tryd.prog W base spare held n 26 cs = some y) :
    ∃ e : En, cs = e.vals ∧ OpRsAt W e.opsA e.ops ∧ AcFits ⟨e, 0⟩ := by
  match cs, hl with
  | [c0, c1, c2, c3, c4, c5, c6, c7, c8, c9, c10, c11], _ =>
    obtain ⟨xs, n', _, hx, _, hlen, hg⟩ := DataW.trod_struct Tryd.underlying26 h
    have g0 := hg 0 _ rfl
    have g1 := hg 1 _ rfl
    have g2 := hg 2 _ rfl
    have g3 := hg 3 _ rfl
    have g4 := hg 4 _ rfl
    have g5 := hg 5 _ rfl
    have g6 := hg 6 _ rfl
    have g7 := hg 7 _ rfl
    have g8 := hg 8 _ rfl
    have g9 := hg 9 _ rfl
    have g10 := hg 10 _ rfl
    have g11 := hg 11 _ rfl
    match xs, hlen with
    | [y0, y1, y2, y3, y4, y5, y6, y7, y8, y9, y10, y11], _ =>
      simp [cells_int20, cells_str20, cells_ops20, cells_bytes20] at g0 g1 g2 g3 g4 g5 g6 g7 g8 g9 g10 g11
      obtain ⟨k0, e0, _⟩ := DataW.trod_int Tryd.underlying3 g0
      obtain ⟨k1, e1, _⟩ := DataW.trod_int Tryd.underlying3 g1
      obtain ⟨k2, e2, _⟩ := DataW.trod_int Tryd.underlying3 g2
      obtain ⟨k3, e3, _⟩ := DataW.trod_int Tryd.underlying3 g3
      obtain ⟨k4, e4, _⟩ := DataW.trod_int Tryd.underlying3 g4
      obtain ⟨k5, e5, _⟩ := DataW.trod_int Tryd.underlying3 g5
      obtain ⟨oa, oc, os, e6, hops, hol, hos⟩ := open_ops20 g6
      obtain ⟨s7, e7, _, w7⟩ := DataW.trod_string Tryd.underlying9 g7
      obtain ⟨k8, e8, _⟩ := DataW.trod_int Tryd.underlying3 g8
      obtain ⟨k9, e9, _⟩ := DataW.trod_int Tryd.underlying3 g9
      obtain ⟨k10, e10, _⟩ := DataW.trod_int Tryd.underlying3 g10
      obtain ⟨da, dl, dc, e11, hdl⟩ := open_bytes20 g11
      simp at e0 e1 e2 e3 e4 e5 e7 e8 e9 e10
      subst e0 e1 e2 e3 e4 e5 e6 e7 e8 e9 e10 e11
      unfold maxLen at w7
      exact ⟨⟨k0, k1, k2, k3, k4, k5, s7, k8, k9, k10, os, oa, oc, da, dl, dc⟩, rfl, hops, hol, by dsimp only; omega, hdl, hos⟩

theorem open_act20 (hl : cs.length = 13) (h : DataW.trod enc Tryd.prog W base spare held n 30 cs = some y) :
    ∃ x : Ac, cs = x.vals ∧ OpRsAt W x.e.opsA x.e.ops ∧ AcFits x := by
  obtain ⟨xs, n', _, hx, _, hlen, hg⟩ := DataW.trod_struct Tryd.underlying30 h
  have g0 := hg 0 _ rfl
  have g1 := hg 1 _ rfl
  match xs, hlen with
  | [y0, y1], _ =>
    change DataW.trod enc Tryd.prog W base spare held n' 26 ((cs.drop 0).take (Tryd.prog.cellsOf 26)) = some y0 at g0
    change DataW.trod enc Tryd.prog W base spare held n' 3 ((cs.drop 12).take (Tryd.prog.cellsOf 3)) = some y1 at g1
    rw [cells_entry20, List.drop_zero] at g0
    rw [cells_int20] at g1
    obtain ⟨e, he, hops, hfit⟩ := open_entry20 (by rw [List.length_take]; omega) g0
    obtain ⟨k, hk, _⟩ := DataW.trod_int Tryd.underlying3 g1
    refine ⟨⟨e, k⟩, ?_, hops, hfit⟩
    have e1 : cs = cs.take 12 ++ cs.drop 12 := (List.take_append_drop 12 cs).symm
    have e2 : cs.drop 12 = (cs.drop 12).take 1 := (List.take_of_length_le (by rw [List.length_drop]; omega)).symm
    rw [e1, he, e2, hk]
    rfl
end

set_option maxRecDepth 100000 in
theorem open_acts20 {H : Type} {enc : TypeId × Value → H} {W : World} {held : Bool} {base0 : Nat} {v : Value} {d : DataW H} {p : List MemPlace} (hv : Value.okWide Tryd.prog W .any base0 22 v)
    (h : DataW.Trod enc Tryd.prog W 0 (fun _ => true) held 22 v d p) :
    ∃ a cap xs, v = .slice a xs.length cap ∧ AcsAt W a xs ∧ (∀ j, j < xs.length → AcFits (acAt xs j)) ∧ (xs = [] ∨ ∃ es sp, d = .slice es sp ∧ es.length = xs.length) := by
  obtain ⟨a0, l0, c0, rfl⟩ := okWide_slice Tryd.underlying22 hv
  obtain ⟨fuel, hf⟩ := h
  rcases open_slice Tryd.underlying22 hf with ⟨hcs, _⟩ | ⟨a, len, cap, m, n, D, Pl, hcs, _, hl, hm, hmm, hx, hi⟩
  · simp [Value.cells] at hcs
    obtain ⟨rfl, rfl, rfl⟩ := hcs
    refine ⟨none, 0, [], rfl, ⟨.inl rfl, fun j hj => absurd hj (Nat.not_lt_zero j)⟩, fun j hj => absurd hj (Nat.not_lt_zero j), .inl rfl⟩
  · simp [Value.cells] at hcs
    obtain ⟨rfl, rfl, rfl⟩ := hcs
    simp only [if_true] at hmm
    subst hmm
    have each : ∀ i, i < l0 → ∃ x : Ac, (∀ k v, x.vals[k]? = some v → W.cell? (a.add (i * 13 + k)) = some v) ∧ OpRsAt W x.e.opsA x.e.ops ∧ AcFits x := by
      intro i hil
      obtain ⟨cs', hc, ht⟩ := hi i (by omega)
      rw [cells_act20] at hc
      obtain ⟨_, hlen, hat⟩ := World.cells?_some hc
      obtain ⟨x, rfl, hx1, hx2⟩ := open_act20 hlen ht
      refine ⟨x, fun k v hk => ?_, hx1, hx2⟩
      have hkl := (List.getElem?_eq_some_iff.1 hk).1
      have := hat k (by omega)
      rw [add_add] at this
      rw [this, hk]
    obtain ⟨X, hX⟩ := choose_lt each
    have hlenX : ((List.range l0).map X).length = l0 := by simp
    have hatX : ∀ j, j < l0 → acAt ((List.range l0).map X) j = X j := fun j hj => by unfold acAt; simp [hj]
    refine ⟨some a, m, (List.range l0).map X, by rw [hlenX], ⟨?_, ?_⟩, ?_, .inr ⟨(List.range l0).map D, _, (Prod.mk.inj hx).1, by simp⟩⟩
    · by_cases h0 : l0 = 0
      · left; rw [h0]; rfl
      · right
        obtain ⟨b, off, spot⟩ := a
        have hcell0 := (hX 0 (by omega)).1 0 _ rfl
        have hs : spot = none := by simpa [Addr.add] using World.cell?_spot hcell0
        subst hs
        refine ⟨b, off, rfl, block_lt_of_cell (by simpa [Addr.add] using hcell0), ?_⟩
        intro j hj k v hk
        rw [hlenX] at hj
        rw [hatX j hj] at hk
        have := (hX j hj).1 k v hk
        rwa [Addr.add_lit, ← Nat.add_assoc] at this
    · intro j hj
      rw [hlenX] at hj
      rw [hatX j hj]
      exact (hX j hj).2.1
    · intro j hj
      rw [hlenX] at hj
      rw [hatX j hj]
      exact (hX j hj).2.2
end Go.Proofs.YtajoihpjnnnkeaaDoor
