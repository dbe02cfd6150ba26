/- Open23, OpenM, Laid, Fin7d, Fin7dc: one text. -/
import Derived.Test.YtoiahcgaffffbaaGreatDoorFinDeltaBetweenQ48
import Derived.Deep.Slices
import Derived.ChangeSame
import Derived.ProofKit
import Derived.OpenShut
import Derived.SizedLaws
import Derived.Test.YtoiahcgaffffbaaGreatDoorFinDeltaBetweenQ49
import Derived.Test.YtoiahcgaffffbaaGreatDoorFinDeltaBetweenQ2
import Derived.Stop.LaidErr
import Derived.Test.YtoiahcgaffffbaaGreatDoorFinDeltaBetweenQ19
import Derived.Test.YtoiahcgaffffbaaGreatDoorCards
import Derived.Test.YtoiahcgaffffbaaGreatDoorTie
import Derived.ShutString
import Derived.LaidMore
import Derived.Stop.Joined
import Derived.Lib.SmallJoins
set_option linter.unusedVariables false
set_option linter.unusedSectionVars false
set_option linter.unusedSimpArgs false
namespace Go.Proofs.YtoiahcgaffffbaaGreatDoor
open Go.RowKit Go.ChangeShapes Go.WideShapes Go.Deep
theorem cells_op23 : Tryz.prog.cellsOf 125 = 5 := by kernel_rfl
theorem cells_act23 : Tryz.prog.cellsOf 68 = 15 := by kernel_rfl
theorem cells_entry23 : Tryz.prog.cellsOf 66 = 12 := by kernel_rfl
theorem cells_ops23 : Tryz.prog.cellsOf 64 = 1 := by kernel_rfl
theorem cells_bytes23 : Tryz.prog.cellsOf 44 = 1 := by kernel_rfl
theorem cells_int23 : Tryz.prog.cellsOf 3 = 1 := by kernel_rfl
theorem cells_str23 : Tryz.prog.cellsOf 9 = 1 := by kernel_rfl
theorem bytes_act23 : Tryz.prog.bytesOf 68 = 168 := by kernel_rfl
section
variable {H : Type} {enc : TypeId × Value → H} {W : World} {base : Nat} {spare : Nat → Bool} {held : Bool} {n : Nat} {cs : List Value} {y : DataW H × List MemPlace}
theorem open_op23 (hl : cs.length = 5) (h : DataW.trod enc Tryz.prog W base spare held n 125 cs = some y) :
    ∃ x : OpR, cs = x.vals ∧ x.key.size ≤ 9223372036854775807 ∧ x.val.size ≤ 9223372036854775807 ∧ x.old.size ≤ 9223372036854775807 := by
  match cs, hl with
  | [c0, c1, c2, c3, c4], _ =>
    obtain ⟨xs, n', _, hx, _, hlen, hg⟩ := DataW.trod_struct Tryz.underlying125 h
    have g0 := hg 0 _ rfl
    have g1 := hg 1 _ rfl
    have g2 := hg 2 _ rfl
    have g3 := hg 3 _ rfl
    have g4 := hg 4 _ rfl
    match xs, hlen with
    | [y0, y1, y2, y3, y4], _ =>
      simp [cells_int23, cells_str23] at g0 g1 g2 g3 g4
      obtain ⟨k, e0, _⟩ := DataW.trod_int Tryz.underlying3 g0
      obtain ⟨s1, e1, _, w1⟩ := DataW.trod_string Tryz.underlying9 g1
      obtain ⟨s2, e2, _, w2⟩ := DataW.trod_string Tryz.underlying9 g2
      obtain ⟨s3, e3, _, w3⟩ := DataW.trod_string Tryz.underlying9 g3
      obtain ⟨v, e4, _⟩ := DataW.trod_int Tryz.underlying3 g4
      simp at e0 e1 e2 e3 e4
      subst e0 e1 e2 e3 e4
      unfold maxLen at w1 w2 w3
      exact ⟨⟨k, s1, s2, s3, v⟩, rfl, by dsimp only; omega, by dsimp only; omega, by dsimp only; omega⟩
set_option maxRecDepth 100000 in
theorem open_ops23 {c : Value} (h : DataW.trod enc Tryz.prog W base spare held n 64 [c] = some y) :
    ∃ a cap xs, c = .slice a xs.length cap ∧ OpRsAt W a xs ∧ xs.length ≤ 9223372036854775807 ∧ ∀ j, j < xs.length → (opRAt xs j).key.size ≤ 9223372036854775807 ∧ (opRAt xs j).val.size ≤ 9223372036854775807 ∧ (opRAt xs j).old.size ≤ 9223372036854775807 := by
  rcases open_slice Tryz.underlying64 h with ⟨hcs, _⟩ | ⟨a, len, cap, m, n, D, Pl, hcs, _, hl, hm, hmm, _, hi⟩
  · simp at hcs
    subst hcs
    exact ⟨none, 0, [], rfl, .inl rfl, by simp, fun j hj => absurd hj (Nat.not_lt_zero j)⟩
  · simp at hcs
    subst hcs
    have hlm : len ≤ m := by rw [hmm]; split <;> omega
    have each : ∀ i, i < len → ∃ x : OpR, (W.cell? (a.add (i * 5)) = some (.int .i64 x.kind) ∧ W.cell? (a.add (i * 5 + 1)) = some (.string x.key) ∧ W.cell? (a.add (i * 5 + 2)) = some (.string x.val) ∧ W.cell? (a.add (i * 5 + 3)) = some (.string x.old) ∧ W.cell? (a.add (i * 5 + 4)) = some (.int .i64 x.ver)) ∧ x.key.size ≤ 9223372036854775807 ∧ x.val.size ≤ 9223372036854775807 ∧ x.old.size ≤ 9223372036854775807 := by
      intro i hil
      obtain ⟨cs', hc, ht⟩ := hi i (by omega)
      rw [cells_op23] at hc
      obtain ⟨_, hlen, hat⟩ := World.cells?_some hc
      obtain ⟨x, rfl, hx⟩ := open_op23 hlen ht
      refine ⟨x, ⟨?_, ?_, ?_, ?_, ?_⟩, hx⟩
      · have := hat 0 (by omega); rw [add_add] at this; exact this
      · have := hat 1 (by omega); rw [add_add] at this; exact this
      · have := hat 2 (by omega); rw [add_add] at this; exact this
      · have := hat 3 (by omega); rw [add_add] at this; exact this
      · have := hat 4 (by omega); rw [add_add] at this; exact this
    obtain ⟨X, hX⟩ := choose_lt each
    have hlenX : ((List.range len).map X).length = len := by simp
    have hatX : ∀ j, j < len → opRAt ((List.range len).map X) j = X j := fun j hj => by unfold opRAt; simp [hj]
    refine ⟨some a, cap, (List.range len).map X, by rw [hlenX], ?_, by rw [hlenX]; unfold maxLen at hm; omega, ?_⟩
    · by_cases h0 : len = 0
      · left; rw [h0]; rfl
      · right
        obtain ⟨b, off, spot⟩ := a
        have hs : spot = none := by
          have := (hX 0 (by omega)).1.1
          simpa [Addr.add] using World.cell?_spot this
        subst hs
        refine ⟨b, off, rfl, block_lt_of_cell (by have := (hX 0 (by omega)).1.1; simpa [Addr.add] using this), ?_, ?_, ?_, ?_, ?_⟩ <;> intro j hj <;> rw [hlenX] at hj <;> rw [hatX j hj]
        · have := (hX j hj).1.1; rwa [Addr.add_lit] at this
        · have := (hX j hj).1.2.1; rwa [Addr.add_lit, ← Nat.add_assoc] at this
        · have := (hX j hj).1.2.2.1; rwa [Addr.add_lit, ← Nat.add_assoc] at this
        · have := (hX j hj).1.2.2.2.1; rwa [Addr.add_lit, ← Nat.add_assoc] at this
        · have := (hX j hj).1.2.2.2.2; rwa [Addr.add_lit, ← Nat.add_assoc] at this
    · intro j hj
      rw [hlenX] at hj
      rw [hatX j hj]
      exact (hX j hj).2
theorem open_bytes23 {c : Value} (h : DataW.trod enc Tryz.prog W base spare held n 44 [c] = some y) : ∃ a l cap, c = .slice a l cap ∧ l ≤ 9223372036854775807 := by
  rcases open_slice Tryz.underlying44 h with ⟨hcs, _⟩ | ⟨a, len, cap, m, n, D, Pl, hcs, _, hl, hm, _, _, _⟩
  · simp at hcs; exact ⟨none, 0, 0, hcs, Nat.zero_le _⟩
  · simp at hcs; unfold maxLen at hm; exact ⟨some a, len, cap, hcs, by omega⟩
theorem open_entry23 (hl : cs.length = 12) (h : DataW.trod enc Tryz.prog W base spare held n 66 cs = some y) :
    ∃ e : En, cs = e.vals ∧ OpRsAt W e.opsA e.ops ∧ AcFits ⟨0, 0, ⟨#[]⟩, e⟩ := by
  match cs, hl with
  | [c0, c1, c2, c3, c4, c5, c6, c7, c8, c9, c10, c11], _ =>
    obtain ⟨xs, n', _, hx, _, hlen, hg⟩ := DataW.trod_struct Tryz.underlying66 h
    have g0 := hg 0 _ rfl
    have g1 := hg 1 _ rfl
    have g2 := hg 2 _ rfl
    have g3 := hg 3 _ rfl
    have g4 := hg 4 _ rfl
    have g5 := hg 5 _ rfl
    have g6 := hg 6 _ rfl
    have g7 := hg 7 _ rfl
    have g8 := hg 8 _ rfl
    have g9 := hg 9 _ rfl
    have g10 := hg 10 _ rfl
    have g11 := hg 11 _ rfl
    match xs, hlen with
    | [y0, y1, y2, y3, y4, y5, y6, y7, y8, y9, y10, y11], _ =>
      simp [cells_int23, cells_str23, cells_ops23, cells_bytes23] at g0 g1 g2 g3 g4 g5 g6 g7 g8 g9 g10 g11
      obtain ⟨k0, e0, _⟩ := DataW.trod_int Tryz.underlying3 g0
      obtain ⟨k1, e1, _⟩ := DataW.trod_int Tryz.underlying3 g1
      obtain ⟨k2, e2, _⟩ := DataW.trod_int Tryz.underlying3 g2
      obtain ⟨k3, e3, _⟩ := DataW.trod_int Tryz.underlying3 g3
      obtain ⟨k4, e4, _⟩ := DataW.trod_int Tryz.underlying3 g4
      obtain ⟨k5, e5, _⟩ := DataW.trod_int Tryz.underlying3 g5
      obtain ⟨oa, oc, os, e6, hops, hol, hos⟩ := open_ops23 g6
      obtain ⟨s7, e7, _, w7⟩ := DataW.trod_string Tryz.underlying9 g7
      obtain ⟨k8, e8, _⟩ := DataW.trod_int Tryz.underlying3 g8
      obtain ⟨k9, e9, _⟩ := DataW.trod_int Tryz.underlying3 g9
      obtain ⟨k10, e10, _⟩ := DataW.trod_int Tryz.underlying3 g10
      obtain ⟨da, dl, dc, e11, hdl⟩ := open_bytes23 g11
      simp at e0 e1 e2 e3 e4 e5 e7 e8 e9 e10
      subst e0 e1 e2 e3 e4 e5 e6 e7 e8 e9 e10 e11
      unfold maxLen at w7
      exact ⟨⟨k0, k1, k2, k3, k4, k5, s7, k8, k9, k10, os, oa, oc, da, dl, dc⟩, rfl, hops, hol, by dsimp only; omega, hdl, Nat.zero_le _, hos⟩
set_option maxRecDepth 100000 in
theorem open_act23 (hl : cs.length = 15) (h : DataW.trod enc Tryz.prog W base spare held n 68 cs = some y) :
    ∃ x : Ac, cs = x.vals ∧ OpRsAt W x.e.opsA x.e.ops ∧ AcFits x := by
  obtain ⟨xs, n', _, hx, _, hlen, hg⟩ := DataW.trod_struct Tryz.underlying68 h
  have g0 := hg 0 _ rfl
  have g1 := hg 1 _ rfl
  have g2 := hg 2 _ rfl
  have g3 := hg 3 _ rfl
  match xs, hlen with
  | [y0, y1, y2, y3], _ =>
    change DataW.trod enc Tryz.prog W base spare held n' 3 ((cs.drop 0).take (Tryz.prog.cellsOf 3)) = some y0 at g0
    change DataW.trod enc Tryz.prog W base spare held n' 3 ((cs.drop 1).take (Tryz.prog.cellsOf 3)) = some y1 at g1
    change DataW.trod enc Tryz.prog W base spare held n' 9 ((cs.drop 2).take (Tryz.prog.cellsOf 9)) = some y2 at g2
    change DataW.trod enc Tryz.prog W base spare held n' 66 ((cs.drop 3).take (Tryz.prog.cellsOf 66)) = some y3 at g3
    rw [cells_entry23] at g3
    rw [cells_int23] at g0 g1
    rw [cells_str23] at g2
    obtain ⟨e, he, hops, hfit⟩ := open_entry23 (by rw [List.length_take, List.length_drop]; omega) g3
    obtain ⟨k0, hk0, _⟩ := DataW.trod_int Tryz.underlying3 g0
    obtain ⟨k1, hk1, _⟩ := DataW.trod_int Tryz.underlying3 g1
    obtain ⟨s2, hk2, _, w2⟩ := DataW.trod_string Tryz.underlying9 g2
    unfold maxLen at w2
    refine ⟨⟨k0, k1, s2, e⟩, ?_, hops, hfit.1, hfit.2.1, hfit.2.2.1, by dsimp only; omega, hfit.2.2.2.2⟩
    match cs, hl with
    | [c0, c1, c2, c3, c4, c5, c6, c7, c8, c9, c10, c11, c12, c13, c14], _ =>
      simp only [List.drop_zero, List.drop_succ_cons, List.take_succ_cons, List.take_zero] at hk0 hk1 hk2 he
      show _ = [Value.int .i64 k0, .int .i64 k1, .string s2] ++ e.vals
      rw [← he]
      simp only [List.cons.injEq, and_true] at hk0 hk1 hk2
      subst hk0 hk1 hk2
      rfl
end
set_option maxRecDepth 100000 in
theorem open_acts23 {H : Type} {enc : TypeId × Value → H} {W : World} {held : Bool} {base0 : Nat} {v : Value} {d : DataW H} {p : List MemPlace} (hv : Value.okWide Tryz.prog W .any base0 58 v)
    (h : DataW.Trod enc Tryz.prog W 0 (fun _ => true) held 58 v d p) :
    ∃ a cap xs, v = .slice a xs.length cap ∧ AcsAt W a xs ∧ (∀ j, j < xs.length → AcFits (acAt xs j)) ∧ (xs = [] ∨ ∃ es sp, d = .slice es sp ∧ es.length = xs.length) := by
  obtain ⟨a0, l0, c0, rfl⟩ := okWide_slice Tryz.underlying58 hv
  obtain ⟨fuel, hf⟩ := h
  rcases open_slice Tryz.underlying58 hf with ⟨hcs, _⟩ | ⟨a, len, cap, m, n, D, Pl, hcs, _, hl, hm, hmm, hx, hi⟩
  · simp [Value.cells] at hcs
    obtain ⟨rfl, rfl, rfl⟩ := hcs
    refine ⟨none, 0, [], rfl, ⟨.inl rfl, fun j hj => absurd hj (Nat.not_lt_zero j)⟩, fun j hj => absurd hj (Nat.not_lt_zero j), .inl rfl⟩
  · simp [Value.cells] at hcs
    obtain ⟨rfl, rfl, rfl⟩ := hcs
    simp only [if_true] at hmm
    subst hmm
    have each : ∀ i, i < l0 → ∃ x : Ac, (∀ k v, x.vals[k]? = some v → W.cell? (a.add (i * 15 + k)) = some v) ∧ OpRsAt W x.e.opsA x.e.ops ∧ AcFits x := by
      intro i hil
      obtain ⟨cs', hc, ht⟩ := hi i (by omega)
      rw [cells_act23] at hc
      obtain ⟨_, hlen, hat⟩ := World.cells?_some hc
      obtain ⟨x, rfl, hx1, hx2⟩ := open_act23 hlen ht
      refine ⟨x, fun k v hk => ?_, hx1, hx2⟩
      have hkl := (List.getElem?_eq_some_iff.1 hk).1
      have := hat k (by omega)
      rw [add_add] at this
      rw [this, hk]
    obtain ⟨X, hX⟩ := choose_lt each
    have hlenX : ((List.range l0).map X).length = l0 := by simp
    have hatX : ∀ j, j < l0 → acAt ((List.range l0).map X) j = X j := fun j hj => by unfold acAt; simp [hj]
    refine ⟨some a, m, (List.range l0).map X, by rw [hlenX], ⟨?_, ?_⟩, ?_, .inr ⟨(List.range l0).map D, _, (Prod.mk.inj hx).1, by simp⟩⟩
    · by_cases h0 : l0 = 0
      · left; rw [h0]; rfl
      · right
        obtain ⟨b, off, spot⟩ := a
        have hcell0 := (hX 0 (by omega)).1 0 _ rfl
        have hs : spot = none := by simpa [Addr.add] using World.cell?_spot hcell0
        subst hs
        refine ⟨b, off, rfl, block_lt_of_cell (by simpa [Addr.add] using hcell0), ?_⟩
        intro j hj k v hk
        rw [hlenX] at hj
        rw [hatX j hj] at hk
        have := (hX j hj).1 k v hk
        rwa [Addr.add_lit, ← Nat.add_assoc] at this
    · intro j hj
      rw [hlenX] at hj
      rw [hatX j hj]
      exact (hX j hj).2.1
    · intro j hj
      rw [hlenX] at hj
      rw [hatX j hj]
      exact (hX j hj).2.2
end Go.Proofs.YtoiahcgaffffbaaGreatDoor
namespace Go.Proofs.YtoiahcgaffffbaaGreatDoor
open Go.RowKit Go.ChangeShapes Go.WideShapes Go.Deep
theorem cells_made37 : Tryz.prog.cellsOf 26 = 3 := by kernel_rfl
theorem cells_span37 : Tryz.prog.cellsOf 23 = 2 := by kernel_rfl
theorem cells_ents37 : Tryz.prog.cellsOf 24 = 1 := by kernel_rfl
section
variable {H : Type} {enc : TypeId × Value → H} {W : World} {base : Nat} {spare : Nat → Bool} {held : Bool} {n : Nat} {cs : List Value} {y : DataW H × List MemPlace}
set_option maxRecDepth 100000 in
theorem open_ents37 {c : Value} (h : DataW.trod enc Tryz.prog W base spare held n 24 [c] = some y) :
    ∃ a cap xs, c = .slice a xs.length cap ∧ EnsAt W a xs ∧ xs.length ≤ 9223372036854775807 ∧ ∀ j, j < xs.length → EnFits (enAt xs j) := by
  rcases open_slice Tryz.underlying24 h with ⟨hcs, _⟩ | ⟨a, len, cap, m, n, D, Pl, hcs, _, hl, hm, hmm, _, hi⟩
  · simp at hcs
    subst hcs
    exact ⟨none, 0, [], rfl, ⟨.inl rfl, fun j hj => absurd hj (Nat.not_lt_zero j)⟩, by simp, fun j hj => absurd hj (Nat.not_lt_zero j)⟩
  · simp at hcs
    subst hcs
    have hlm : len ≤ m := by rw [hmm]; split <;> omega
    have each : ∀ i, i < len → ∃ x : En, (∀ k v, x.vals[k]? = some v → W.cell? (a.add (i * 12 + k)) = some v) ∧ OpRsAt W x.opsA x.ops ∧ EnFits x := by
      intro i hil
      obtain ⟨cs', hc, ht⟩ := hi i (by omega)
      rw [cells_entry23] at hc
      obtain ⟨_, hlen, hat⟩ := World.cells?_some hc
      obtain ⟨x, rfl, hx1, hx2⟩ := open_entry23 hlen ht
      refine ⟨x, fun k v hk => ?_, hx1, hx2.1, hx2.2.2.2.2⟩
      have hkl := (List.getElem?_eq_some_iff.1 hk).1
      have := hat k (by omega)
      rw [add_add] at this
      rw [this, hk]
    obtain ⟨X, hX⟩ := choose_lt each
    have hlenX : ((List.range len).map X).length = len := by simp
    have hatX : ∀ j, j < len → enAt ((List.range len).map X) j = X j := fun j hj => by unfold enAt; simp [hj]
    refine ⟨some a, cap, (List.range len).map X, by rw [hlenX], ⟨?_, ?_⟩, by rw [hlenX]; unfold maxLen at hm; omega, ?_⟩
    · by_cases h0 : len = 0
      · left; rw [h0]; rfl
      · right
        obtain ⟨b, off, spot⟩ := a
        have hcell0 := (hX 0 (by omega)).1 0 _ rfl
        have hs : spot = none := by simpa [Addr.add] using World.cell?_spot hcell0
        subst hs
        refine ⟨b, off, rfl, block_lt_of_cell (by simpa [Addr.add] using hcell0), ?_⟩
        intro j hj k v hk
        rw [hlenX] at hj
        rw [hatX j hj] at hk
        have := (hX j hj).1 k v hk
        rwa [Addr.add_lit, ← Nat.add_assoc] at this
    · intro j hj
      rw [hlenX] at hj
      rw [hatX j hj]
      exact (hX j hj).2.1
    · intro j hj
      rw [hlenX] at hj
      rw [hatX j hj]
      exact (hX j hj).2.2
theorem open_made37 (hl : cs.length = 3) (h : DataW.trod enc Tryz.prog W base spare held n 26 cs = some y) :
    ∃ m : Md, cs = m.vals ∧ EnsAt W m.a m.es ∧ MdFits m := by
  match cs, hl with
  | [c0, c1, c2], _ =>
    obtain ⟨xs, n', _, hx, _, hlen, hg⟩ := DataW.trod_struct Tryz.underlying26 h
    have g0 := hg 0 _ rfl
    have g1 := hg 1 _ rfl
    match xs, hlen with
    | [y0, y1], _ =>
      simp [cells_span37, cells_ents37] at g0 g1
      obtain ⟨zs, n2, _, hz, _, hlen2, hg2⟩ := DataW.trod_struct Tryz.underlying23 g0
      have f0 := hg2 0 _ rfl
      have f1 := hg2 1 _ rfl
      match zs, hlen2 with
      | [z0, z1], _ =>
        simp [cells_str23] at f0 f1
        obtain ⟨s0, e0, _, w0⟩ := DataW.trod_string Tryz.underlying9 f0
        obtain ⟨s1, e1, _, w1⟩ := DataW.trod_string Tryz.underlying9 f1
        obtain ⟨ea, ec, es, e2, hE, hl, hf⟩ := open_ents37 g1
        simp at e0 e1 e2
        subst e0 e1 e2
        unfold maxLen at w0 w1
        exact ⟨⟨s0, s1, es, ea, ec⟩, rfl, hE, ⟨by dsimp only; omega, by dsimp only; omega, hl, hf⟩⟩
end
set_option maxRecDepth 100000 in
theorem open_made37v {H : Type} {enc : TypeId × Value → H} {W : World} {held : Bool} {base0 : Nat} {v : Value} {d : DataW H} {p : List MemPlace} (hv : Value.okWide Tryz.prog W .any base0 26 v)
    (h : DataW.Trod enc Tryz.prog W 0 (fun _ => true) held 26 v d p) : ∃ m : Md, v = m.agg ∧ EnsAt W m.a m.es ∧ MdFits m := by
  obtain ⟨cs, rfl, hsz⟩ := okWide_struct Tryz.underlying26 hv
  rw [cells_made37] at hsz
  obtain ⟨fuel, hf⟩ := h
  obtain ⟨m, h1, h2, h3⟩ := open_made37 (cs := cs.toList) (by rw [Array.length_toList]; exact hsz) hf
  refine ⟨m, ?_, h2, h3⟩
  unfold Md.agg
  rw [← h1]
end Go.Proofs.YtoiahcgaffffbaaGreatDoor
namespace Go.Proofs.YtoiahcgaffffbaaGreatDoor
open Go.RowKit
theorem laid_sents {P : Program} {W : World} {nm : String} {ti tp te ts : TypeId} {ms : Array (String × TypeId)} {f : Field}
    (hi : P.underlying ti = some (.interface ms)) (hrow : ∀ u, P.typeName? 3 u = some nm → u = tp)
    (hp : P.underlying tp = some (.pointer te)) (he : P.underlying te = some (.struct #[f])) (hft : f.type = ts) (hfo : f.offset = 0) (hs : P.underlying ts = some .string) (hc : P.cellsOf te = 1) (hcs : P.cellsOf ts = 1) :
    ∀ (L : List (String × DataW Unit)) (gs : List Nat) (ps : List MemPlace), (∀ x ∈ L, ∃ text, x.2 = .iface nm (.ptr (.agg [.lit (.string text)]))) → L.map (fun x => P.globalNamed x.1) = gs.map some →
      (∀ g ∈ gs, (P.globals[g]?).map (·.type) = some ti) → DataW.LaidVars P W L ps → ps.Nodup →
      (∀ b off, MemPlace.cell b off ∈ ps → (∃ c t, W.heap[b]? = some (.cells c t (0, 0))) ∧ ∀ u v, W.cell? ⟨b, off, none⟩ = some (.iface u v) → Value.okWide P W .any 0 u v) →
      ∃ ads : List Addr, ads.length = gs.length ∧ (∀ (i g : Nat) (a : Addr), gs[i]? = some g → ads[i]? = some a → W.cell? ⟨g, 0, none⟩ = some (.iface tp (.pointer (some a))) ∧ ∃ c t, W.heap[a.block]? = some (.cells c t (0, 0))) ∧
        (∀ a ∈ ads, MemPlace.cell a.block a.off ∈ ps) ∧ ads.Nodup := by
  intro L
  induction L with
  | nil =>
    intro gs ps _ hg _ _ _ _
    cases gs with
    | nil => exact ⟨[], rfl, by simp, by simp, List.nodup_nil⟩
    | cons g r => simp at hg
  | cons x L ih =>
    intro gs ps hsh hg ht hL hnd hrows
    obtain ⟨n, d⟩ := x
    cases gs with
    | nil => simp at hg
    | cons g gs =>
      simp only [List.map_cons, List.cons.injEq] at hg
      obtain ⟨hg0, hg1⟩ := hg
      obtain ⟨g0, t0, cs0, f0, p0, q0, hg0', ht0', hv0, hd0, hrest, rfl⟩ := hL
      obtain rfl := Option.some.inj (hg0.symm.trans hg0')
      obtain rfl := Option.some.inj ((ht g (by simp)).symm.trans ht0')
      obtain ⟨text, htext⟩ := hsh (n, d) (by simp)
      simp only at htext
      subst htext
      obtain ⟨l0⟩ := cs0
      have ok0 : ∀ u v, l0 = [.iface u v] → Value.okWide P W .any 0 u v := fun u v e => by
        subst e
        exact (hrows g 0 (by simp [MemPlace.row])).2 u v (by simpa using World.var?_cell hg0' hv0 0)
      obtain ⟨a0, s0, rfl, hc0, hs0, hz0, rfl⟩ := errorString_of_trod hi hrow hp he hft hfo hs hc hcs hd0 ok0
      have hnd2 : q0.Nodup := List.Nodup.sublist (List.sublist_append_right _ _) hnd
      obtain ⟨ads, h1, h2, h3, h4⟩ := ih gs q0 (fun x hx => hsh x (List.mem_cons_of_mem _ hx)) hg1 (fun g' hg' => ht g' (List.mem_cons_of_mem _ hg')) hrest hnd2
        (fun b off hm => hrows b off (List.mem_append_right _ hm))
      refine ⟨a0 :: ads, by simp [h1], ?_, ?_, ?_⟩
      · intro i g' a hgi hai
        cases i with
        | zero =>
          simp at hgi hai
          subst hgi hai
          exact ⟨by simpa using World.var?_cell hg0' hv0 0, (hrows a0.block a0.off (by simp [MemPlace.row])).1⟩
        | succ i => exact h2 i g' a (by simpa using hgi) (by simpa using hai)
      · intro a ha
        rcases List.mem_cons.1 ha with rfl | ha
        · simp [MemPlace.row]
        · exact List.mem_append_right _ (h3 a ha)
      · refine List.nodup_cons.2 ⟨fun hm => ?_, h4⟩
        have hd := (List.nodup_append.1 hnd).2.2 (MemPlace.cell a0.block a0.off) (by simp [MemPlace.row]) (MemPlace.cell a0.block a0.off) (h3 a0 hm)
        exact hd rfl
theorem star_name : "*" ++ "errors.errorString" = "*errors.errorString" := by decide +kernel
theorem row_error (u : TypeId) (h : Tryz.prog.typeName? 3 u = some "*errors.errorString") : u = 388 :=
  typeName_ptr_named (nm := "errors.errorString") (by rw [star_name]; kernel_rfl) (by kernel_rfl) (by decide) u (by rw [star_name]; exact h)
theorem cells_errorString : Tryz.prog.cellsOf 417 = 1 := by kernel_rfl
theorem cells_string : Tryz.prog.cellsOf 9 = 1 := by kernel_rfl
theorem errs_of_laid (L : List (String × DataW Unit)) (ks : List Nat) (S : Nat → Bool) (hS : ∀ k, S k = true → k ∈ ks) (h0 : S 0 = false) {W : World}
    (hsh : ∀ x ∈ L, ∃ text, x.2 = .iface "*errors.errorString" (.ptr (.agg [.lit (.string text)]))) (hg : L.map (fun x => Tryz.prog.globalNamed x.1) = (ks.map gvar).map some)
    (ht : ∀ g ∈ ks.map gvar, (Tryz.prog.globals[g]?).map (·.type) = some 46) (h : laidMet Tryz.prog L W) : ∃ E, Errs S E W := by
  obtain ⟨ps, hL, hnd, hrows⟩ := h
  obtain ⟨ads, h1, h2, _, h4⟩ := laid_sents (P := Tryz.prog) (W := W) Tryz.underlying46 row_error Tryz.underlying388 Tryz.underlying417 rfl rfl Tryz.underlying9 cells_errorString cells_string L (ks.map gvar) ps hsh hg ht hL hnd hrows
  have get : ∀ k, k ∈ ks → ∃ a, ads[ks.idxOf k]? = some a ∧ (ks.map gvar)[ks.idxOf k]? = some (gvar k) ∧ ads.getD (ks.idxOf k) default = a := by
    intro k hk
    have hlt : ks.idxOf k < ks.length := List.idxOf_lt_length_iff.2 hk
    have hl : ks.idxOf k < ads.length := by rw [h1]; simpa using hlt
    refine ⟨ads[ks.idxOf k], List.getElem?_eq_getElem hl, ?_, ?_⟩
    · rw [List.getElem?_map, List.getElem?_eq_getElem hlt, List.getElem_idxOf hlt]; rfl
    · rw [List.getD_eq_getElem?_getD, List.getElem?_eq_getElem hl]; rfl
  refine ⟨fun k => ads.getD (ks.idxOf k) default, h0, ?_, ?_, ?_⟩
  · intro k hk
    obtain ⟨a, ha, hgv, e⟩ := get k (hS k hk)
    rw [e]
    exact (h2 _ _ _ hgv ha).1
  · intro k hk
    obtain ⟨a, ha, hgv, e⟩ := get k (hS k hk)
    rw [e]
    exact (h2 _ _ _ hgv ha).2
  · intro j k hj hk hne
    obtain ⟨a, ha, _, e⟩ := get j (hS j hj)
    obtain ⟨b, hb, _, e'⟩ := get k (hS k hk)
    show ads.getD (ks.idxOf j) default ≠ ads.getD (ks.idxOf k) default
    rw [e, e']
    rintro rfl
    obtain ⟨hl1, g1⟩ := List.getElem?_eq_some_iff.1 ha
    obtain ⟨hl2, g2⟩ := List.getElem?_eq_some_iff.1 hb
    have hi := List.pairwise_iff_getElem.1 h4
    have hij : ks.idxOf j = ks.idxOf k := by
      refine Classical.byContradiction fun hn => ?_
      rcases Nat.lt_or_gt_of_ne hn with hlt2 | hlt2
      · exact hi _ _ hl1 hl2 hlt2 (g1.trans g2.symm)
      · exact hi _ _ hl2 hl1 hlt2 (g2.trans g1.symm)
    have hj' : ks.idxOf j < ks.length := List.idxOf_lt_length_iff.2 (hS j hj)
    have hk' : ks.idxOf k < ks.length := List.idxOf_lt_length_iff.2 (hS k hk)
    have e1 := List.getElem_idxOf hj'
    have e2 := List.getElem_idxOf hk'
    simp only [hij] at e1
    exact hne (e1.symm.trans e2)
end Go.Proofs.YtoiahcgaffffbaaGreatDoor
namespace Go.Proofs.YtoiahcgaffffbaaGreatDoor.fin7d
open Go.ChangeShapes Go.WideShapes Go.ChangeAt Go.RowKit
theorem own : ownKnob Tryz.prog.godebug = none := by kernel_rfl
theorem laidOut : laidOutB Tryz.prog = true := by kernel_rfl
theorem laid_met (os : Os) (args : Array Value) : laidMetH Tryz.prog Rows.deltaBetweenRow.laid ((World.doorLaid Tryz.prog 400 os).forCall (fun _ _ => 0) ⟨#[], args, []⟩).memory :=
  laidMet_of_run' 8 (by kernel_rfl) (by kernel_rfl)
theorem errs {W : World} (h : laidMetH Tryz.prog Rows.deltaBetweenRow.laid W) : ∃ E, Errs stS E W := by
  have h' : laidMet Tryz.prog Rows.deltaBetweenRow.laid W := h
  exact errs_of_laid Rows.deltaBetweenRow.laid [1, 2, 3, 4, 6, 7, 19] stS
    (fun k hk => by simp only [stS, Bool.or_eq_true, decide_eq_true_eq] at hk; simp only [List.mem_cons, List.not_mem_nil, or_false]; omega) rfl
    (by simp only [Rows.deltaBetweenRow, List.forall_mem_cons]; exact ⟨⟨_, rfl⟩, ⟨_, rfl⟩, ⟨_, rfl⟩, ⟨_, rfl⟩, ⟨_, rfl⟩, ⟨_, rfl⟩, ⟨_, rfl⟩, by simp⟩)
    (by kernel_rfl) (by simp only [List.map_cons, List.map_nil, List.forall_mem_cons]; refine ⟨?_, ?_, ?_, ?_, ?_, ?_, ?_, by simp⟩ <;> kernel_rfl) h'
end Go.Proofs.YtoiahcgaffffbaaGreatDoor.fin7d
namespace Go.Proofs.YtoiahcgaffffbaaGreatDoor.fin7d
open Go
theorem and_split {a b : Bool} (h1 : a = true) (h2 : b = true) : (a && b) = true := by rw [h1, h2]; rfl
set_option maxHeartbeats 4000000 in
theorem closed : joinedFacts Tryz.pinned.checked.prog 3 Tryz.f3 Rows.deltaBetweenSpec Rows.deltaBetweenRow = true := by
  unfold joinedFacts
  iterate 31 (refine and_split ?_ (by as_aux_lemma => kernel_rfl))
  kernel_rfl
end Go.Proofs.YtoiahcgaffffbaaGreatDoor.fin7d
