/- The walk of slices.ContainsFunc at an entry's keys, asked by a state's span. -/
import Derived.Test.YtifcnammekbfoaaGreatDoorFinStateOnceQ14
import Derived.Test.YtifcnammekbfoaaGreatDoorFinStateOnceQ7
set_option linter.unusedVariables false
set_option linter.unusedSectionVars false
set_option linter.unusedSimpArgs false
namespace Go.Proofs.YtifcnammekbfoaaGreatDoor
open Go.RowKit Go.Maps
attribute [local go_sem] Oper.semAt_some

/-- Keys in memory. -/
def StrsAt (W : World) (a : Option Addr) (ks : List ByteArray) : Prop := ks = [] ∨ ∃ b off, a = some ⟨b, off, none⟩ ∧ b < W.heap.size ∧ ∀ j n, ks[j]? = some n → W.cell? ⟨b, off + j, none⟩ = some (.string n)
theorem StrsAt.grew {W W' : World} {a : Option Addr} {ks : List ByteArray} (h : StrsAt W a ks) (g : Grew W W') : StrsAt W' a ks := by
  rcases h with h | ⟨b, off, rfl, hb, hc⟩
  · exact .inl h
  · exact .inr ⟨b, off, rfl, Nat.lt_of_lt_of_le hb g.size, fun j n hj => (g.cells.1 _ _ hb).trans (hc j n hj)⟩
theorem strsAt_of {W : World} {B : Nat} {v : Value} {ks : List ByteArray} (h : W.ownsRow B 9 1 v ks.length (strFlat ks)) : ∃ a cap, v = .slice a ks.length cap ∧ StrsAt W a ks := by
  rcases h.2 with ⟨h2, h3⟩ | ⟨b, cap, cur, e1, _, hb, hc, _⟩
  · refine ⟨none, 0, ?_, .inl (List.eq_nil_of_length_eq_zero h3)⟩
    rw [h2, h3]
  · refine ⟨_, cap, e1, .inr ⟨b, 0, rfl, (Array.getElem?_eq_some_iff.1 hb).1, fun j n hj => ?_⟩⟩
    have := h.cells (g := b) (by rw [e1]; rfl) j (.string n) (by unfold strFlat; rw [List.getElem?_map, hj]; rfl)
    rwa [Addr.add_lit] at this

/-- The box that the closure has: a state's, with its span. -/
structure BoxSp (w : World) (bb st : Nat) (lo hi : ByteArray) : Prop where
  box : w.cell? ⟨bb, 0, none⟩ = some (.pointer (some ⟨st, 0, none⟩))
  c1 : w.cell? ⟨st, 1, none⟩ = some (.string lo)
  c2 : w.cell? ⟨st, 2, none⟩ = some (.string hi)
theorem BoxSp.grew {w w' : World} {bb st : Nat} {lo hi : ByteArray} (h : BoxSp w bb st lo hi) (g : Grew w w') : BoxSp w' bb st lo hi :=
  ⟨(g.cells.1 _ _ (cell_lt h.box)).trans h.box, (g.cells.1 _ _ (cell_lt h.c1)).trans h.c1, (g.cells.1 _ _ (cell_lt h.c1)).trans h.c2⟩

theorem askKey_any (S : Nat → Bool) (E : Nat → Addr) (hS : KeyS S) (lo hi key : ByteArray) (w : World) (hl : lo.size ≤ 70368744177664) (hh : hi.size ≤ 70368744177664) (hk : key.size ≤ 70368744177664) (hE : Errs S E w) (bb st : Nat) (hB : BoxSp w bb st lo hi) :
    Calls Tryz.prog 73 #[.string key, .pointer (some ⟨bb, 0, none⟩)] w fun e w' => e = .returned (.bool (!Pl.hasS lo hi key)) ∧ Grew w w' := by
  have HH := hid (has_span S E hS lo hi key w hl hh hk hE)
  obtain ⟨b0, b1, b2⟩ := hB
  clear hE
  generalize Pl.hasS lo hi key = b at *
  go_enter Tryz.func73, Tryz.ntmps73
  go_wp2_with fail
  refine HH.out.mono ?_
  rintro e w1 ⟨rfl, hg⟩
  clear HH b0 b1 b2
  go_wp2_with fail
  go_ret
  exact ⟨rfl, hg⟩

set_option maxRecDepth 100000 in
set_option maxHeartbeats 4000000 in
theorem idxKey_any (S : Nat → Bool) (E : Nat → Addr) (hS : KeyS S) (lo hi : ByteArray) (a : Option Addr) (cap : Nat) (xs : List ByteArray) (w : World) (hl : lo.size ≤ 70368744177664) (hh : hi.size ≤ 70368744177664) (hE : Errs S E w) (bb st : Nat) (hB : BoxSp w bb st lo hi) (hA : StrsAt w a xs) (hx : xs.length ≤ 1000000) (hk : ∀ k ∈ xs, k.size ≤ 70368744177664) :
    Calls Tryz.prog 123 #[.slice a xs.length cap, .func (.func 73) #[] #[.pointer (some ⟨bb, 0, none⟩)]] w fun e w' => e = .returned (.int .i64 (idxI (fun k => !Pl.hasS lo hi k) xs)) ∧ Grew w w' := by
  have HA := hid hA
  obtain ⟨p, hp⟩ : ∃ p : ByteArray → Bool, p = fun k => !Pl.hasS lo hi k := ⟨_, rfl⟩
  have hpk : ∀ k, (!Pl.hasS lo hi k) = p k := by intro k; rw [hp]
  have hP := fun W (g : Grew w W) k (hm : k ∈ xs) => askKey_any S E hS lo hi k W hl hh (hk k hm) (hE.grew g) bb st (hB.grew g)
  simp only [hpk] at hP
  rw [← hp]
  have HP := hid hP
  clear hA hE hB hP hpk hp
  go_enter Tryz.func123, Tryz.ntmps123
  go_wp2_with fail
  go_loopw [8] (fun i wr => ∃ k : Nat, k ≤ xs.length ∧ i = .int .i64 k ∧ Hid ((xs.take k).all (fun c => !p c) = true) ∧ Grew w wr) (fun i _ => xs.length - (intOf i).toNat)
  case atStart => exact ⟨0, Nat.zero_le _, rfl, rfl, Grew.refl w⟩
  case round =>
    obtain ⟨k, hk1, rfl, HN, hG⟩ := hrel
    by_cases hlt : k < xs.length
    · rcases HA.out with h0 | ⟨b, off, rfl, hb, hR⟩
      · rw [h0] at hlt; simp at hlt
      have q0 := (hG.cells.1 b (off + k) hb).trans (hR k _ (List.getElem?_eq_getElem hlt))
      have HC := hid (fun W g => HP.out W g xs[k] (List.getElem_mem hlt))
      clear hR
      have HS := hid (idx_some p xs k hlt HN.out)
      have HN2 := hid (idx_next p xs k hlt HN.out)
      generalize xs[k] = c at *
      cases hpc : p c with
      | true =>
        rw [hpc] at HC
        have HS2 := hid (HS.out hpc)
        clear hpc HS HN2
        go_wp2_with fail
        refine (HC.out _ hG).mono ?_
        rintro e w1 ⟨rfl, hg1⟩
        go_wp2_with fail
        go_ret
        exact ⟨ret_int HS2.out.symm, hG.trans hg1⟩
      | false =>
        rw [hpc] at HC
        have HS2 := hid (HN2.out hpc)
        clear hpc HS HN2
        go_wp2_with fail
        refine (HC.out _ hG).mono ?_
        rintro e w1 ⟨rfl, hg1⟩
        go_wp2_with fail
        go_roundw
        case rel => exact ⟨k + 1, by omega, by go_num, HS2, hG.trans hg1⟩
        case measure => simp [intOf]; omega
    · obtain rfl : k = xs.length := by omega
      have HE := hid (idx_none p xs (by have := HN.out; rwa [List.take_length] at this))
      go_wp2_with fail
      go_ret
      exact ⟨ret_int HE.out.symm, hG⟩
set_option maxHeartbeats 1000000 in
theorem anyKey_any (S : Nat → Bool) (E : Nat → Addr) (hS : KeyS S) (lo hi : ByteArray) (a : Option Addr) (cap : Nat) (xs : List ByteArray) (w : World) (hl : lo.size ≤ 70368744177664) (hh : hi.size ≤ 70368744177664) (hE : Errs S E w) (bb st : Nat) (hB : BoxSp w bb st lo hi) (hA : StrsAt w a xs) (hx : xs.length ≤ 1000000) (hk : ∀ k ∈ xs, k.size ≤ 70368744177664) :
    Calls Tryz.prog 71 #[.slice a xs.length cap, .func (.func 73) #[] #[.pointer (some ⟨bb, 0, none⟩)]] w fun e w' => e = .returned (.bool (xs.any fun k => !Pl.hasS lo hi k)) ∧ Grew w w' := by
  have HI := hid (idxKey_any S E hS lo hi a cap xs w hl hh hE bb st hB hA hx hk)
  have HG := hid (idx_ge (fun k => !Pl.hasS lo hi k) xs)
  clear hE hA hB
  generalize idxI (fun k => !Pl.hasS lo hi k) xs = n at *
  go_enter Tryz.func71, Tryz.ntmps71
  go_wp2_with fail
  refine HI.out.mono ?_
  rintro e w1 ⟨rfl, hg⟩
  go_wp2_with fail
  go_ret
  exact ⟨ret_bool HG.out, hg⟩
end Go.Proofs.YtifcnammekbfoaaGreatDoor
