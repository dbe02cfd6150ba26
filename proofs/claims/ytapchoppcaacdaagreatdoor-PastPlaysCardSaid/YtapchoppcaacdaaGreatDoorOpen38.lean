/- How an argument that is a list of acts (tidewaterlaw38) lies in memory: out of the row's own word. -/
import Derived.Test.YtapchoppcaacdaaGreatDoorActs38
import Derived.Deep.Slices
import Derived.ChangeSame
import Derived.ProofKit
import Derived.OpenShut
namespace Go.Proofs.YtapchoppcaacdaaGreatDoor
open Go.RowKit Go.ChangeShapes Go.WideShapes Go.Deep

instance : Inhabited Act38 := ⟨Act38.none⟩
theorem cells_act38 : Tryz.prog.cellsOf 34 = 6 := by kernel_rfl
theorem cells_span38 : Tryz.prog.cellsOf 32 = 2 := by kernel_rfl
theorem cells_int38 : Tryz.prog.cellsOf 3 = 1 := by kernel_rfl
theorem cells_str38 : Tryz.prog.cellsOf 9 = 1 := by kernel_rfl

theorem open_act38 {H : Type} {enc : TypeId × Value → H} {W : World} {base : Nat} {spare : Nat → Bool} {held : Bool} {n : Nat} {cs : List Value} {y : DataW H × List MemPlace} (hl : cs.length = 6)
    (h : DataW.trod enc Tryz.prog W base spare held n 34 cs = some y) :
    ∃ x : Act38, cs = [.int .i64 x.kind, .int .i64 x.ver, .string x.key, .string x.val, .string x.lo, .string x.hi] ∧ x.key.size ≤ 9223372036854775807 ∧ x.val.size ≤ 9223372036854775807 ∧ x.lo.size ≤ 9223372036854775807 ∧ x.hi.size ≤ 9223372036854775807 := by
  match cs, hl with
  | [c0, c1, c2, c3, c4, c5], _ =>
    obtain ⟨xs, n', _, hx, _, hlen, hg⟩ := DataW.trod_struct Tryz.underlying34 h
    have g0 := hg 0 _ rfl
    have g1 := hg 1 _ rfl
    have g2 := hg 2 _ rfl
    have g3 := hg 3 _ rfl
    have g4 := hg 4 _ rfl
    match xs, hlen with
    | [y0, y1, y2, y3, y4], _ =>
      simp [cells_int38, cells_str38, cells_span38] at g0 g1 g2 g3 g4
      obtain ⟨k, e0, _⟩ := DataW.trod_int Tryz.underlying3 g0
      obtain ⟨v, e1, _⟩ := DataW.trod_int Tryz.underlying3 g1
      obtain ⟨s2, e2, _, w2⟩ := DataW.trod_string Tryz.underlying9 g2
      obtain ⟨s3, e3, _, w3⟩ := DataW.trod_string Tryz.underlying9 g3
      obtain ⟨xs', n'', _, hx', _, hlen', hg'⟩ := DataW.trod_struct Tryz.underlying32 g4
      have q0 := hg' 0 _ rfl
      have q1 := hg' 1 _ rfl
      match xs', hlen' with
      | [z0, z1], _ =>
        simp [cells_str38] at q0 q1
        obtain ⟨s4, e4, _, w4⟩ := DataW.trod_string Tryz.underlying9 q0
        obtain ⟨s5, e5, _, w5⟩ := DataW.trod_string Tryz.underlying9 q1
        simp at e0 e1 e2 e3 e4 e5
        subst e0 e1 e2 e3 e4 e5
        unfold maxLen at w2 w3 w4 w5
        exact ⟨⟨k, v, s2, s3, s4, s5⟩, rfl, by dsimp only; omega, by dsimp only; omega, by dsimp only; omega, by dsimp only; omega⟩

set_option maxRecDepth 100000 in
theorem open_acts38 {H : Type} {enc : TypeId × Value → H} {W : World} {held : Bool} {base0 : Nat} {v : Value} {d : DataW H} {p : List MemPlace} (hv : Value.okWide Tryz.prog W .any base0 22 v)
    (h : DataW.Trod enc Tryz.prog W 0 (fun _ => true) held 22 v d p) :
    ∃ a cap xs, v = .slice a xs.length cap ∧ ActsAt38 W a xs ∧ xs.length ≤ 9223372036854775807 ∧ ∀ j, j < xs.length → (actAt38 xs j).key.size ≤ 9223372036854775807 ∧ (actAt38 xs j).val.size ≤ 9223372036854775807 ∧ (actAt38 xs j).lo.size ≤ 9223372036854775807 ∧ (actAt38 xs j).hi.size ≤ 9223372036854775807 := by
  obtain ⟨a0, l0, c0, rfl⟩ := okWide_slice Tryz.underlying22 hv
  obtain ⟨fuel, hf⟩ := h
  rcases open_slice Tryz.underlying22 hf with ⟨hcs, _⟩ | ⟨a, len, cap, m, n, D, Pl, hcs, _, hl, hm, hmm, _, hi⟩
  · simp [Value.cells] at hcs
    obtain ⟨rfl, rfl, rfl⟩ := hcs
    refine ⟨none, 0, [], rfl, .inl rfl, ?_, ?_⟩
    · simp only [List.length_nil]; omega
    · intro j hj; exact absurd hj (Nat.not_lt_zero j)
  · simp [Value.cells] at hcs
    obtain ⟨rfl, rfl, rfl⟩ := hcs
    simp only [if_true] at hmm
    subst hmm
    have each : ∀ i, i < l0 → ∃ x : Act38, (W.cell? (a.add (i * 6)) = some (.int .i64 x.kind) ∧ W.cell? (a.add (i * 6 + 1)) = some (.int .i64 x.ver) ∧ W.cell? (a.add (i * 6 + 2)) = some (.string x.key) ∧ W.cell? (a.add (i * 6 + 3)) = some (.string x.val) ∧ W.cell? (a.add (i * 6 + 4)) = some (.string x.lo) ∧ W.cell? (a.add (i * 6 + 5)) = some (.string x.hi)) ∧ x.key.size ≤ 9223372036854775807 ∧ x.val.size ≤ 9223372036854775807 ∧ x.lo.size ≤ 9223372036854775807 ∧ x.hi.size ≤ 9223372036854775807 := by
      intro i hil
      obtain ⟨cs', hc, ht⟩ := hi i (by omega)
      rw [cells_act38] at hc
      obtain ⟨_, hlen, hat⟩ := World.cells?_some hc
      obtain ⟨x, rfl, hx⟩ := open_act38 hlen ht
      refine ⟨x, ⟨?_, ?_, ?_, ?_, ?_, ?_⟩, hx⟩
      · have := hat 0 (by omega); rw [add_add] at this; exact this
      · have := hat 1 (by omega); rw [add_add] at this; exact this
      · have := hat 2 (by omega); rw [add_add] at this; exact this
      · have := hat 3 (by omega); rw [add_add] at this; exact this
      · have := hat 4 (by omega); rw [add_add] at this; exact this
      · have := hat 5 (by omega); rw [add_add] at this; exact this
    obtain ⟨X, hX⟩ := choose_lt each
    have hlenX : ((List.range l0).map X).length = l0 := by simp
    have hatX : ∀ j, j < l0 → actAt38 ((List.range l0).map X) j = X j := fun j hj => by unfold actAt38; simp [hj]
    refine ⟨some a, m, (List.range l0).map X, by rw [hlenX], ?_, by rw [hlenX]; unfold maxLen at hm; omega, ?_⟩
    · by_cases h0 : l0 = 0
      · left; rw [h0]; rfl
      · right
        obtain ⟨b, off, spot⟩ := a
        have hs : spot = none := by
          have := (hX 0 (by omega)).1.1
          simpa [Addr.add] using World.cell?_spot this
        subst hs
        refine ⟨b, off, rfl, block_lt_of_cell (by have := (hX 0 (by omega)).1.1; simpa [Addr.add] using this), ?_, ?_, ?_, ?_, ?_, ?_⟩ <;> intro j hj <;> rw [hlenX] at hj <;> rw [hatX j hj]
        · have := (hX j hj).1.1; rwa [Addr.add_lit] at this
        · have := (hX j hj).1.2.1; rwa [Addr.add_lit, ← Nat.add_assoc] at this
        · have := (hX j hj).1.2.2.1; rwa [Addr.add_lit, ← Nat.add_assoc] at this
        · have := (hX j hj).1.2.2.2.1; rwa [Addr.add_lit, ← Nat.add_assoc] at this
        · have := (hX j hj).1.2.2.2.2.1; rwa [Addr.add_lit, ← Nat.add_assoc] at this
        · have := (hX j hj).1.2.2.2.2.2; rwa [Addr.add_lit, ← Nat.add_assoc] at this
    · intro j hj
      rw [hlenX] at hj
      rw [hatX j hj]
      exact (hX j hj).2
end Go.Proofs.YtapchoppcaacdaaGreatDoor
