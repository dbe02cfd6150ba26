/- slices.SortFunc at a row of spans in order of Lo: nothing turns. The test that a span isn't right. Then: span.Covers at the spans of a chain: yes. -/
import Derived.Test.YtajoihpjnnnkeaaDoorCmpD
import Derived.Test.YtajoihpjnnnkeaaDoorRowsSp
import Derived.Test.YtajoihpjnnnkeaaDoorSpan2
import Derived.Test.YtajoihpjnnnkeaaDoorLaw20
set_option linter.unusedVariables false
namespace Go.Proofs.YtajoihpjnnnkeaaDoor
open Go.RowKit Go.Shelf Go.Lib Go.Sort
attribute [local go_sem] Oper.semAt_some

/-- A row that stays as it is under a sort: draws and new blocks alone. -/
theorem sortWorld_same (w : World) (blk off n : Nat) (d : Array SpK) (os : Array Obj) (h : HoldsK encSp 2 w blk off d) : Grew w (sortWorldK encSp 2 w blk off n d os) := by
  have e : putRowK encSp 2 (Sort.ahead w n) blk off d = Sort.ahead w n := putRowK_self (h := (h : HoldsK encSp 2 (Sort.ahead w n) blk off d))
  unfold sortWorldK
  rw [e]
  refine ⟨rfl, rfl, rfl, ?_, ?_⟩
  · unfold grow Sort.ahead; simp
  · intro k hk
    unfold grow Sort.ahead
    dsimp only
    rw [Array.getElem?_append, if_pos hk]

def mkSp (c : Sp) (h : Pl.Ok c.lo ∧ c.lo.size ≤ 70368744177664) : SpK := ⟨(c.lo, c.hi), h⟩
def spK (xs : List Sp) (hok : ∀ c ∈ xs, Pl.Ok c.lo ∧ c.lo.size ≤ 70368744177664) : Array SpK := (xs.attach.map fun c => mkSp c.1 (hok c.1 c.2)).toArray
theorem spK_size (xs : List Sp) (hok : ∀ c ∈ xs, Pl.Ok c.lo ∧ c.lo.size ≤ 70368744177664) : (spK xs hok).size = xs.length := by unfold spK; simp
theorem spK_get (xs : List Sp) (hok : ∀ c ∈ xs, Pl.Ok c.lo ∧ c.lo.size ≤ 70368744177664) (j : Nat) (hj : j < xs.length) : (spK xs hok)[j]!.1 = ((spAt xs j).lo, (spAt xs j).hi) := by
  rw [getElem!_pos _ j (by rw [spK_size]; exact hj), spAt_eq xs j hj]
  have : (spK xs hok)[j]'(by rw [spK_size]; exact hj) = mkSp xs[j] (hok _ (List.getElem_mem hj)) := by unfold spK; simp
  rw [this]; rfl
theorem holds_sp {w : World} {B g cap : Nat} {xs : List Sp} (ho : w.ownsRow B 38 2 (.slice (some ⟨g, 0, none⟩) xs.length cap) xs.length (spFlat xs)) (h0 : 0 < xs.length) (hok : ∀ c ∈ xs, Pl.Ok c.lo ∧ c.lo.size ≤ 70368744177664) : HoldsK encSp 2 w g 0 (spK xs hok) := by
  obtain ⟨g', cap', cur, e, hB, hg, hn, hc, hl, hx⟩ := ownsRow_block ho h0
  cases e
  intro t ht
  rw [size_flatK, spK_size] at ht
  have hget : (spFlat xs)[t]? = (spAt xs (t / 2)).vals[t % 2]? := by
    have := spFlat_get (t % 2) (Nat.mod_lt _ (by decide)) xs (t / 2) (by omega)
    rwa [show t / 2 * 2 + t % 2 = t by omega] at this
  refine ⟨?_, ?_⟩
  · rw [get_flatK _ _ _ _ (by rw [spK_size]; exact ht), Nat.zero_add, cell_block hg t]
    have h1 : cur[t]? = (spFlat xs)[t]? := by rw [← hx, List.getElem?_take, if_pos ht]
    rw [h1, hget]
    unfold encSp
    rw [spK_get xs hok (t / 2) (by omega)]
    have h2 : t % 2 < 2 := Nat.mod_lt _ (by decide)
    generalize t % 2 = r at h2
    unfold Sp.vals
    match r, h2 with
    | 0, _ => rfl
    | 1, _ => rfl
  · unfold World.frozen?
    dsimp only
    rw [hg]
    rfl

/-- The sort of spans that are in order. -/
theorem sortSpans (w : World) (B g cap : Nat) (xs : List Sp) (ho : w.ownsRow B 38 2 (.slice (some ⟨g, 0, none⟩) xs.length cap) xs.length (spFlat xs)) (h0 : 0 < xs.length) (hbig : xs.length ≤ 1000000) (hok : ∀ c ∈ xs, Pl.Ok c.lo ∧ c.lo.size ≤ 70368744177664) (hs : ∀ i j, i < j → j < xs.length → Pl.compare (spAt xs i).lo (spAt xs j).lo < 0) :
    Calls Tryd.prog 88 #[.slice (some ⟨g, 0, none⟩) xs.length cap, .func (.func 89) #[] #[]] w fun e w' => e = .returned (.tuple #[]) ∧ Grew w w' := by
  have hH := holds_sp ho h0 hok
  have hlt : g < w.heap.size := by
    obtain ⟨_, _, e, _, hlt⟩ := ho.form h0
    cases e
    exact hlt
  have := sort_same g 0 cap (spK xs hok) w hH hlt (by rw [spK_size]; omega) (fun i j hij hj => by
    rw [spK_size] at hj
    unfold ltOf cfSp
    rw [spK_get xs hok i (by omega), spK_get xs hok j hj]
    exact decide_eq_true (hs i j hij hj))
  rw [spK_size] at this
  refine this.mono ?_
  rintro e w' ⟨he, n, os, rfl⟩
  exact ⟨he, sortWorld_same w g 0 n _ os hH⟩

theorem spanBad {S : Nat → Bool} (hS : KeyS S) (E : Nat → Addr) (c : Sp) (w : World) (hE : Errs S E w) (hl : c.lo.size ≤ 70368744177664) (hh : c.hi.size ≤ 70368744177664) :
    Calls Tryd.prog 86 #[c.aggOf] w fun e w' => e = .returned (.bool (!Pl.rightS c.lo c.hi)) ∧ Grew w w' := by
  have HO := hid (fun W (g : Grew w W) => right_span S E hS c.lo c.hi W hl hh (hE.grew g))
  clear hE
  unfold Sp.aggOf Sp.vals
  obtain ⟨lo, hi⟩ := c
  dsimp only at *
  generalize Pl.rightS lo hi = r at HO ⊢
  go_enter Tryd.func86, Tryd.ntmps86
  go_wp2_with fail
  refine (HO.out _ ((Grew.refl w).alloc _)).mono ?_
  rintro e w1 ⟨rfl, hg⟩
  go_wp2_with fail
  go_ret
  exact ⟨ret_bool rfl, ((Grew.refl w).alloc _).trans hg⟩

set_option maxRecDepth 100000 in
theorem containsBad {S : Nat → Bool} (hS : KeyS S) (E : Nat → Addr) (a : Option Addr) (cap : Nat) (xs : List Sp) (w : World) (hE : Errs S E w) (hA : SpsAt w a xs) (hx : xs.length ≤ 1000000) (ho : ∀ c ∈ xs, c.lo.size ≤ 70368744177664 ∧ c.hi.size ≤ 70368744177664) :
    Calls Tryd.prog 85 #[.slice a xs.length cap, .func (.func 86) #[] #[]] w fun e w' => e = .returned (.bool (xs.any fun c => !Pl.rightS c.lo c.hi)) ∧ Grew w w' := by
  have HI := hid (idxSpanBad (fun c => !Pl.rightS c.lo c.hi) a cap xs w hA hx (fun j hj W g => spanBad hS E _ W (hE.grew g) (ho _ (spAt_mem xs j hj)).1 (ho _ (spAt_mem xs j hj)).2))
  have HG := hid (idx_ge (fun c : Sp => !Pl.rightS c.lo c.hi) xs)
  clear hE hA
  generalize idxI (fun c : Sp => !Pl.rightS c.lo c.hi) xs = n at *
  go_enter Tryd.func85, Tryd.ntmps85
  go_wp2_with fail
  refine HI.out.mono ?_
  rintro e w1 ⟨rfl, hg⟩
  go_wp2_with fail
  go_ret
  exact ⟨ret_bool HG.out, hg⟩
end Go.Proofs.YtajoihpjnnnkeaaDoor

set_option linter.unusedVariables false
set_option linter.unusedSimpArgs false
namespace Go.Proofs.YtajoihpjnnnkeaaDoor
open Go.RowKit
attribute [local go_sem] Oper.semAt_some

/-- Spans that follow one another. -/
def Pl.ChainS (xs : List Sp) : Prop := Pl.ChainF xs.length (fun i => (spAt xs i).lo) (fun i => (spAt xs i).hi)
/-- What the next span begins with. -/
def Pl.atS (xs : List Sp) (k : Nat) : ByteArray := if k = 0 then ⟨#[]⟩ else (spAt xs (k - 1)).hi

set_option maxRecDepth 100000 in
set_option maxHeartbeats 1000000 in
theorem covers_chain {S : Nat → Bool} (hS : KeyS S) (E : Nat → Addr) (g cap : Nat) (xs : List Sp) (w : World) (hE : Errs S E w) (B : Nat) (hA : w.ownsRow B 38 2 (.slice (some ⟨g, 0, none⟩) xs.length cap) xs.length (spFlat xs)) (hx : xs.length ≤ 1000000) (ho : ∀ c ∈ xs, c.lo.size ≤ 70368744177664 ∧ c.hi.size ≤ 70368744177664) (hc : Pl.ChainS xs) :
    Calls Tryd.prog 42 #[.slice (some ⟨g, 0, none⟩) xs.length cap] w fun e w' => e = .returned (.bool true) ∧ Grew w w' := by
  have h0 : 0 < xs.length := hc.pos
  have hbad : (xs.any fun c => !Pl.rightS c.lo c.hi) = false := by
    rw [List.any_eq_false]
    intro c hm
    obtain ⟨j, hj, rfl⟩ := List.mem_iff_getElem.1 hm
    have := hc.right j hj
    rw [spAt_eq xs j hj] at this
    simp [this]
  obtain ⟨a1, cap1, e1, hSp⟩ := spsAt_of hA
  cases e1
  have H1 := hid (containsBad hS E (some ⟨g, 0, none⟩) cap xs w hE hSp hx ho)
  rw [hbad] at H1
  have H2 := hid (fun W (gr : Grew w W) => cloneSpan W g 0 xs.length cap h0 hx (spFlat xs) (spFlat_length xs) (fun j u hj => by
    rw [Nat.zero_add]
    have hjl := (List.getElem?_eq_some_iff.1 hj).1
    rw [spFlat_length] at hjl
    exact ((ownsRow_grew gr hA).cellAt j hjl).trans hj) (spFlat_one' xs))
  have H3 := hid (fun W B2 g2 cap2 (hr : W.ownsRow B2 38 2 (.slice (some ⟨g2, 0, none⟩) xs.length cap2) xs.length (spFlat xs)) => sortSpans W B2 g2 cap2 xs hr h0 hx (fun c hm => by
    obtain ⟨j, hj, rfl⟩ := List.mem_iff_getElem.1 hm
    have := hc.okLo j hj
    rw [spAt_eq xs j hj] at this
    exact ⟨this, (ho _ (List.getElem_mem hj)).1⟩) (fun i j hij hj => hc.low i j hij hj))
  have HC := hid hc
  have H0 := hid h0
  clear hE hA hSp hbad hc
  go_enter Tryd.func42, Tryd.ntmps42
  go_wp2_with fail
  refine H1.out.mono ?_
  rintro e w1 ⟨rfl, hg1⟩
  go_wp2_with fail
  refine (H2.out _ hg1).mono ?_
  rintro e w2 ⟨g2, cap2, rfl, ho2, hg2⟩
  have HO := hid ho2
  clear ho2
  go_wp2_with fail
  refine (H3.out _ _ _ _ HO.out).mono ?_
  rintro e w3 ⟨rfl, hg3⟩
  have HO3 := hid (ownsRow_grew hg3 HO.out)
  have hG3 := hg1.trans (hg2.trans hg3)
  obtain ⟨a2, c2, e2, hR⟩ := spsAt_of HO3.out
  cases e2
  obtain ⟨b', off', e3, hb', hR⟩ : ∃ b off, (some (⟨g2, 0, none⟩ : Addr)) = some ⟨b, off, none⟩ ∧ b < w3.heap.size ∧ SpRow w3 b off xs := by
    rcases hR with h | h
    · have := H0.out; rw [h] at this; simp at this
    · exact h
  cases e3
  have HR := hid hR
  clear hR hg1 hg2 hg3 HO HO3
  go_wp2_with fail
  go_loopw [4, 15] (fun at' i wr => ∃ k : Nat, k ≤ xs.length ∧ i = .int .i64 k ∧ at' = .string (Pl.atS xs k) ∧ Grew w3 wr) (fun _ i _ => xs.length - (intOf i).toNat)
  case atStart => exact ⟨0, Nat.zero_le _, rfl, rfl, Grew.refl _⟩
  case round =>
    obtain ⟨k, hk1, rfl, rfl, hG⟩ := hrel
    by_cases hlt : k < xs.length
    · have q0 := (hG.cells.1 g2 (0 + k * 2) hb').trans (HR.out.lo k hlt)
      have q1 := (hG.cells.1 g2 (0 + k * 2 + 1) hb').trans (HR.out.hi k hlt)
      rw [Nat.zero_add] at q0 q1
      have hnext : Pl.atS xs (k + 1) = (spAt xs k).hi := rfl
      have HN := hid hnext
      clear hnext
      rcases Nat.eq_zero_or_pos k with hk | hk
      · subst hk
        have hz : (spAt xs 0).lo = ⟨#[]⟩ := HC.out.first
        rw [hz] at q0
        have e0 : Pl.atS xs 0 = ⟨#[]⟩ := rfl
        rw [e0]
        clear hz e0
        generalize (spAt xs 0).hi = hi at *
        go_wp2_with fail
        go_roundw
        case rel => exact ⟨1, by omega, by go_num, by rw [HN.out], hG.alloc _⟩
        case measure => simp [intOf]; omega
      · have hz := HC.out.link (k - 1) (by omega)
        rw [show k - 1 + 1 = k by omega] at hz
        have e0 : Pl.atS xs k = (spAt xs k).lo := by unfold Pl.atS; rw [if_neg (by omega), hz.1]
        rw [e0]
        have hn := hz.2
        rw [hz.1] at hn
        unfold Pl.none0 at hn
        clear e0 hz
        generalize (spAt xs k).hi = hi at *
        generalize (spAt xs k).lo = lo at *
        go_wp2_with fail
        go_roundw
        case rel => exact ⟨k + 1, by omega, by go_num, by rw [HN.out], hG.alloc _⟩
        case measure => simp [intOf]; omega
    · obtain rfl : k = xs.length := by omega
      have e0 : Pl.atS xs xs.length = ⟨#[]⟩ := by unfold Pl.atS; rw [if_neg (by have := H0.out; omega)]; exact HC.out.last
      rw [e0]
      clear e0
      go_wp2_with fail
      go_ret
      exact ⟨ret_bool (by simp), hG3.trans hG⟩
end Go.Proofs.YtajoihpjnnnkeaaDoor
