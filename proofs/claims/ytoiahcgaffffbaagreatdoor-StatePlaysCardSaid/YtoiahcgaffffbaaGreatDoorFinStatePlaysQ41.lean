/- Ref03c, Ref23s, CutP: one text. -/
import Derived.Test.YtoiahcgaffffbaaGreatDoorFinStatePlaysQ36
import Derived.Test.YtoiahcgaffffbaaGreatDoorFinStatePlaysQ10
import Derived.Test.YtoiahcgaffffbaaGreatDoorFinStatePlaysQ35
import Derived.Test.YtoiahcgaffffbaaGreatDoorFinStatePlaysQ23
import Derived.Test.YtoiahcgaffffbaaGreatDoorFinStatePlaysQ30
import Derived.Test.YtoiahcgaffffbaaGreatDoorFinStatePlaysQ38
namespace Go.Proofs.YtoiahcgaffffbaaGreatDoor
open Go.RowKit
def RefCutPost (lo hi key : ByteArray) (n : Nat) (w : World) (e : Ending) (w' : World) : Prop :=
  e = .returned (.tuple #[.agg #[.string (Pl.cutA n lo key).1, .string (Pl.cutA n lo key).2], .agg #[.string (Pl.cutA n key hi).1, .string (Pl.cutA n key hi).2], .int .i64 (n : Nat)]) ∧ Grew w w'
set_option maxHeartbeats 800000 in
theorem ref_cut (lo hi key : ByteArray) (w : World) (hl : lo.size ≤ 16777216) (hh : hi.size ≤ 16777216) (hk : key.size ≤ 16777216) :
    Calls Tryz.prog 153 #[.agg #[.string lo, .string hi], .string key] w (RefCutPost lo hi key (Pl.cutE (Pl.rightR lo hi) (Pl.keyN key) (Pl.hasR lo hi key) lo key) w) := by
  cases h1 : Pl.rightR lo hi with
  | false =>
    have hn : Pl.cutE false (Pl.keyN key) (Pl.hasR lo hi key) lo key = 4 := rfl
    rw [hn]
    clear hn
    go_enter Tryz.func153, Tryz.ntmps153
    go_wp2_with fail
    refine (ref_right lo hi _ hl hh).mono ?_
    rintro e w1 ⟨rfl, hg⟩
    have hG : Grew w w1 := ((((Grew.refl w).alloc _).alloc _).alloc _).trans hg
    obtain ⟨hc, hf⟩ := hg.cells
    go_wp2_with fail
    refine bodyPost_ret (v := .tuple #[.agg #[.string noText, .string noText], .agg #[.string noText, .string noText], (.int .i64 4)]) (by simp [results, Tryz.results153, go_sem, hc]) rfl ⟨rfl, ?_⟩
    exact ((((hG.setCell (by simp) _).setCell (by simp) _).setCell (by simp; omega) _).setCell (by simp; omega) _)
  | true =>
    cases h2 : Pl.isKey key with
    | false =>
      have k0 : Pl.keyN key ≠ 0 := of_decide_eq_false h2
      have hn : Pl.cutE true (Pl.keyN key) (Pl.hasR lo hi key) lo key = Pl.keyN key := by unfold Pl.cutE; rw [if_neg (by decide), if_pos k0]
      have hA : ∀ a b, Pl.cutA (Pl.keyN key) a b = (noText, noText) := fun a b => by unfold Pl.cutA; rw [if_neg k0]
      have hk1 : (((Pl.keyN key : Nat) : Int) == 0) = false := beq_eq_false_iff_ne.2 (by omega)
      have hk3 : (((Pl.keyN key : Nat) : Int) != 0) = true := by rw [bne_iff_ne]; omega
      unfold RefCutPost
      rw [hn, hA, hA]
      clear hn hA k0
      go_enter Tryz.func153, Tryz.ntmps153
      go_wp2_with fail
      refine (ref_right lo hi _ hl hh).mono ?_
      rintro e w1 ⟨rfl, hg⟩
      have hG : Grew w w1 := ((((Grew.refl w).alloc _).alloc _).alloc _).trans hg
      have hz : w.heap.size < w1.heap.size ∧ w.heap.size + 1 < w1.heap.size ∧ w.heap.size + 1 + 1 < w1.heap.size := by have := hg.size; simp at this; omega
      obtain ⟨hz0, hz1, hz2⟩ := hz
      obtain ⟨hc, hf⟩ := hg.cells
      go_wp2_with fail
      refine (ref_key key _ hk).mono ?_
      rintro e w2 ⟨rfl, hg2⟩
      obtain ⟨hc2, hf2⟩ := hg2.cells
      have hG2 : Grew w w2 := hG.trans hg2
      go_wp2_with fail
      refine bodyPost_ret (v := .tuple #[.agg #[.string noText, .string noText], .agg #[.string noText, .string noText], .int .i64 (Pl.keyN key : Nat)]) (by simp [results, Tryz.results153, go_sem, hc, hc2, hz1, hz2]) rfl ⟨rfl, ?_⟩
      exact (((hG2.setCell (by simp) _).setCell (by simp) _).setCell (by simp; omega) _).setCell (by simp; omega) _
    | true =>
      have k0 : Pl.keyN key = 0 := of_decide_eq_true h2
      have HK := hid (key_zero key h2)
      cases h3 : Pl.hasR lo hi key with
      | false =>
        have hn : Pl.cutE true (Pl.keyN key) false lo key = 1 := by unfold Pl.cutE; rw [if_neg (by decide), if_neg (by omega), if_pos (Or.inl rfl)]
        rw [hn]
        clear hn k0
        go_enter Tryz.func153, Tryz.ntmps153
        go_wp2_with fail
        refine (ref_right lo hi _ hl hh).mono ?_
        rintro e w1 ⟨rfl, hg⟩
        have hG : Grew w w1 := ((((Grew.refl w).alloc _).alloc _).alloc _).trans hg
        have hz : w.heap.size < w1.heap.size ∧ w.heap.size + 1 < w1.heap.size ∧ w.heap.size + 1 + 1 < w1.heap.size := by have := hg.size; simp at this; omega
        obtain ⟨hz0, hz1, hz2⟩ := hz
        obtain ⟨hc, hf⟩ := hg.cells
        go_wp2_with fail
        refine (ref_key key _ hk).mono ?_
        rw [HK.out]
        rintro e w2 ⟨rfl, hg2⟩
        obtain ⟨hc2, hf2⟩ := hg2.cells
        have hG2 : Grew w w2 := hG.trans hg2
        have hy : w.heap.size < w2.heap.size ∧ w.heap.size + 1 < w2.heap.size ∧ w.heap.size + 1 + 1 < w2.heap.size := by have := hg2.size; omega
        obtain ⟨hy0, hy1, hy2⟩ := hy
        go_wp2_with fail
        refine (ref_has lo hi key _ hl hh hk).mono ?_
        rintro e w3 ⟨rfl, hg3⟩
        obtain ⟨hc3, hf3⟩ := hg3.cells
        have hG3 : Grew w w3 := hG2.trans hg3
        go_wp2_with fail
        refine bodyPost_ret (v := .tuple #[.agg #[.string noText, .string noText], .agg #[.string noText, .string noText], (.int .i64 1)]) (by simp [results, Tryz.results153, go_sem, hc, hc2, hc3, hz1, hz2, hy1, hy2]) rfl ⟨rfl, ?_⟩
        exact ((((hG3.setCell (by simp) _).setCell (by simp) _).setCell (by simp; omega) _).setCell (by simp; omega) _)
      | true =>
        by_cases h4 : key.toList = lo.toList
        · have hn : Pl.cutE true (Pl.keyN key) true lo key = 1 := by unfold Pl.cutE; rw [if_neg (by decide), if_neg (by omega), if_pos (Or.inr h4)]
          rw [hn]
          have h5 : (key.toList == lo.toList) = true := by simpa using h4
          clear hn k0 h4
          go_enter Tryz.func153, Tryz.ntmps153
          go_wp2_with fail
          refine (ref_right lo hi _ hl hh).mono ?_
          rintro e w1 ⟨rfl, hg⟩
          have hG : Grew w w1 := ((((Grew.refl w).alloc _).alloc _).alloc _).trans hg
          have hz : w.heap.size < w1.heap.size ∧ w.heap.size + 1 < w1.heap.size ∧ w.heap.size + 1 + 1 < w1.heap.size := by have := hg.size; simp at this; omega
          obtain ⟨hz0, hz1, hz2⟩ := hz
          obtain ⟨hc, hf⟩ := hg.cells
          go_wp2_with fail
          refine (ref_key key _ hk).mono ?_
          rw [HK.out]
          rintro e w2 ⟨rfl, hg2⟩
          obtain ⟨hc2, hf2⟩ := hg2.cells
          have hG2 : Grew w w2 := hG.trans hg2
          have hy : w.heap.size < w2.heap.size ∧ w.heap.size + 1 < w2.heap.size ∧ w.heap.size + 1 + 1 < w2.heap.size := by have := hg2.size; omega
          obtain ⟨hy0, hy1, hy2⟩ := hy
          go_wp2_with fail
          refine (ref_has lo hi key _ hl hh hk).mono ?_
          rintro e w3 ⟨rfl, hg3⟩
          obtain ⟨hc3, hf3⟩ := hg3.cells
          have hG3 : Grew w w3 := hG2.trans hg3
          go_wp2_with fail
          refine bodyPost_ret (v := .tuple #[.agg #[.string noText, .string noText], .agg #[.string noText, .string noText], (.int .i64 1)]) (by simp [results, Tryz.results153, go_sem, hc, hc2, hc3, hz1, hz2, hy1, hy2]) rfl ⟨rfl, ?_⟩
          exact ((((hG3.setCell (by simp) _).setCell (by simp) _).setCell (by simp; omega) _).setCell (by simp; omega) _)
        · have hn : Pl.cutE true (Pl.keyN key) true lo key = 0 := by unfold Pl.cutE; rw [if_neg (by decide), if_neg (by omega), if_neg (by simpa using h4)]
          rw [hn]
          have h5 : (key.toList == lo.toList) = false := by simpa using h4
          clear hn k0 h4
          go_enter Tryz.func153, Tryz.ntmps153
          go_wp2_with fail
          refine (ref_right lo hi _ hl hh).mono ?_
          rintro e w1 ⟨rfl, hg⟩
          have hG : Grew w w1 := ((((Grew.refl w).alloc _).alloc _).alloc _).trans hg
          have hz : w.heap.size < w1.heap.size ∧ w.heap.size + 1 < w1.heap.size ∧ w.heap.size + 1 + 1 < w1.heap.size := by have := hg.size; simp at this; omega
          obtain ⟨hz0, hz1, hz2⟩ := hz
          obtain ⟨hc, hf⟩ := hg.cells
          go_wp2_with fail
          refine (ref_key key _ hk).mono ?_
          rw [HK.out]
          rintro e w2 ⟨rfl, hg2⟩
          obtain ⟨hc2, hf2⟩ := hg2.cells
          have hG2 : Grew w w2 := hG.trans hg2
          have hy : w.heap.size < w2.heap.size ∧ w.heap.size + 1 < w2.heap.size ∧ w.heap.size + 1 + 1 < w2.heap.size := by have := hg2.size; omega
          obtain ⟨hy0, hy1, hy2⟩ := hy
          go_wp2_with fail
          refine (ref_has lo hi key _ hl hh hk).mono ?_
          rintro e w3 ⟨rfl, hg3⟩
          obtain ⟨hc3, hf3⟩ := hg3.cells
          have hG3 : Grew w w3 := hG2.trans hg3
          have l0 : w3.cell? ⟨w.heap.size, 0, none⟩ = some (.string lo) := by rw [hc3 _ _ hy0, hc2 _ _ hz0, hc _ _ (by simp; omega)]; simp [go_sem]
          have l1 : w3.cell? ⟨w.heap.size, 1, none⟩ = some (.string hi) := by rw [hc3 _ _ hy0, hc2 _ _ hz0, hc _ _ (by simp; omega)]; simp [go_sem]
          go_wp2_with fail
          go_region
          go_wp2_with fail
          refine bodyPost_ret (v := .tuple #[.agg #[.string lo, .string key], .agg #[.string key, .string hi], (.int .i64 0)]) (by simp [results, Tryz.results153, go_sem, hc, hc2, hc3, hz1, hz2, hy1, hy2]) rfl ⟨rfl, ?_⟩
          exact ((((hG3.setCell (by simp) _).setCell (by simp) _).setCell (by simp; omega) _).setCell (by simp; omega) _).drew
end Go.Proofs.YtoiahcgaffffbaaGreatDoor
set_option linter.unusedVariables false
set_option linter.unusedSectionVars false
set_option linter.unusedSimpArgs false
namespace Go.Proofs.YtoiahcgaffffbaaGreatDoor
open Go.RowKit Go.Maps
attribute [local go_sem] Oper.semAt_some uponV
set_option maxRecDepth 100000 in
set_option maxHeartbeats 2000000 in
theorem copy22_any {w : World} {rb : Nat} {S : Int → Option An} (h : MSeen w rb S) :
    Calls Tryz.prog 155 #[.pointer (some ⟨rb, 0, none⟩)] w fun e w' => ∃ cb, e = .returned (.pointer (some ⟨cb, 0, none⟩)) ∧ MSeen w' cb S ∧ w.heap.size ≤ cb ∧ Grew w w' := by
  have hok := h.ok
  have hrb := h.lt
  have HOK := hid hok
  have s0 := h.seq 0 (by omega)
  have s1 := h.seq 1 (by omega)
  have s2 := h.seq 2 (by omega)
  have s3 := h.seq 3 (by omega)
  have s4 := h.seq 4 (by omega)
  have k0 := h.code 0 (by omega)
  have k1 := h.code 1 (by omega)
  have k2 := h.code 2 (by omega)
  have k3 := h.code 3 (by omega)
  have k4 := h.code 4 (by omega)
  have t0 := h.at_ 0 (by omega)
  have t1 := h.at_ 1 (by omega)
  have t2 := h.at_ 2 (by omega)
  have t3 := h.at_ 3 (by omega)
  have t4 := h.at_ 4 (by omega)
  clear h hok
  generalize hq0 : seqO (S ((0 : Nat) : Int)) = q0 at *
  generalize hq1 : seqO (S ((1 : Nat) : Int)) = q1 at *
  generalize hq2 : seqO (S ((2 : Nat) : Int)) = q2 at *
  generalize hq3 : seqO (S ((3 : Nat) : Int)) = q3 at *
  generalize hq4 : seqO (S ((4 : Nat) : Int)) = q4 at *
  generalize hc0 : codeO (S ((0 : Nat) : Int)) = c0 at *
  generalize hc1 : codeO (S ((1 : Nat) : Int)) = c1 at *
  generalize hc2 : codeO (S ((2 : Nat) : Int)) = c2 at *
  generalize hc3 : codeO (S ((3 : Nat) : Int)) = c3 at *
  generalize hc4 : codeO (S ((4 : Nat) : Int)) = c4 at *
  generalize ha0 : atO (S ((0 : Nat) : Int)) = a0 at *
  generalize ha1 : atO (S ((1 : Nat) : Int)) = a1 at *
  generalize ha2 : atO (S ((2 : Nat) : Int)) = a2 at *
  generalize ha3 : atO (S ((3 : Nat) : Int)) = a3 at *
  generalize ha4 : atO (S ((4 : Nat) : Int)) = a4 at *
  simp only [Nat.reduceMul, Nat.reduceAdd] at k0 k1 k2 k3 k4 t0 t1 t2 t3 t4
  have HEQ := hid (And.intro hq0 (And.intro hq1 (And.intro hq2 (And.intro hq3 (And.intro hq4 (And.intro hc0 (And.intro hc1 (And.intro hc2 (And.intro hc3 (And.intro hc4 (And.intro ha0 (And.intro ha1 (And.intro ha2 (And.intro ha3 ha4))))))))))))))
  clear hq0 hq1 hq2 hq3 hq4 hc0 hc1 hc2 hc3 hc4 ha0 ha1 ha2 ha3 ha4
  go_enter Tryz.func155, Tryz.ntmps155
  go_wp2_with fail
  go_ret
  obtain ⟨e0, e1, e2, e3, e4, d0, d1, d2, d3, d4, b0, b1, b2, b3, b4⟩ := HEQ.out
  refine ⟨w.heap.size, rfl, ⟨fun c hc => ?_, fun c hc => ?_, fun c hc => ?_, fun o ho => ?_, HOK.out⟩, Nat.le_refl _, (Grew.refl w).alloc _⟩
  · obtain rfl | rfl | rfl | rfl | rfl : c = 0 ∨ c = 1 ∨ c = 2 ∨ c = 3 ∨ c = 4 := by omega
    · rw [e0, cell_block (heap_alloc_new w _)]; rfl
    · rw [e1, cell_block (heap_alloc_new w _)]; rfl
    · rw [e2, cell_block (heap_alloc_new w _)]; rfl
    · rw [e3, cell_block (heap_alloc_new w _)]; rfl
    · rw [e4, cell_block (heap_alloc_new w _)]; rfl
  · obtain rfl | rfl | rfl | rfl | rfl : c = 0 ∨ c = 1 ∨ c = 2 ∨ c = 3 ∨ c = 4 := by omega
    · rw [d0, cell_block (heap_alloc_new w _)]; rfl
    · rw [d1, cell_block (heap_alloc_new w _)]; rfl
    · rw [d2, cell_block (heap_alloc_new w _)]; rfl
    · rw [d3, cell_block (heap_alloc_new w _)]; rfl
    · rw [d4, cell_block (heap_alloc_new w _)]; rfl
  · obtain rfl | rfl | rfl | rfl | rfl : c = 0 ∨ c = 1 ∨ c = 2 ∨ c = 3 ∨ c = 4 := by omega
    · rw [b0, cell_block (heap_alloc_new w _)]; rfl
    · rw [b1, cell_block (heap_alloc_new w _)]; rfl
    · rw [b2, cell_block (heap_alloc_new w _)]; rfl
    · rw [b3, cell_block (heap_alloc_new w _)]; rfl
    · rw [b4, cell_block (heap_alloc_new w _)]; rfl
  · simp [go_sem]
def SprEnd (w : World) (G : Nat → Prop) (ms sb : Nat) (lo hi lo' hi' : ByteArray) (Dl Dh : List Pr) (S : Int → Option An) (ob : Nat) (w' : World) : Prop :=
  Only (fun j => j = ms ∨ G j) w w' ∧ ∃ G', MsAt w' G' ms sb lo hi Dl S ∧ MsR w' ob lo' hi' Dh S ∧ (∀ j, G' j → G j ∨ w.heap.size ≤ j)
structure MSr (y : World) (G : Nat → Prop) (tb : Nat) (lo' hi' : ByteArray) (Dl Dh : List Pr) (S : Int → Option An) (s : Nat) (f : Nat → Value) (u : World) : Prop where
  only : Only G y u
  s0 : s = 0 → Grew y u
  ex : ∃ (bb cb nb : Nat) (G' : Nat → Prop), (1 ≤ s → f 6 = .pointer (some ⟨bb, 0, none⟩) ∧ MTab u bb Dh ∧ RtAt u G' tb Dl ∧ (∀ j, G' j → G j ∨ y.heap.size ≤ j)) ∧
    (2 ≤ s → f 11 = .pointer (some ⟨cb, 0, none⟩) ∧ MSeen u cb S) ∧
    (3 ≤ s → f 12 = .agg #[.string lo', .string hi', .pointer (some ⟨bb, 0, none⟩), .pointer (some ⟨cb, 0, none⟩)]) ∧
    (4 ≤ s → f 13 = .pointer (some ⟨nb, 0, none⟩) ∧ u.heap[nb]? = some (.cells #[.string lo', .string hi', .pointer (some ⟨bb, 0, none⟩), .pointer (some ⟨cb, 0, none⟩)] 141 (0, 0)))
def SprPost (w : World) (G : Nat → Prop) (ms sb : Nat) (lo hi key : ByteArray) (D : List Pr) (S : Int → Option An) (c : Nat) (e : Ending) (w' : World) : Prop :=
  (c ≠ 0 ∧ e = .returned (.tuple #[.pointer none, .int .i64 (c : Nat)]) ∧ Grew w w') ∨
  (c = 0 ∧ ∃ ob, e = .returned (.tuple #[.pointer (some ⟨ob, 0, none⟩), .int .i64 0]) ∧ SprEnd w G ms sb lo key key hi (D.filter fun p => !Pl.cutB key p) (D.filter (Pl.cutB key)) S ob w')
set_option maxRecDepth 100000 in
set_option maxHeartbeats 8000000 in
theorem split23_any {w : World} {G : Nat → Prop} {ms sb : Nat} {lo hi : ByteArray} {D : List Pr} {S : Int → Option An} (h : MsAt w G ms sb lo hi D S) (key : ByteArray) (hx : D.length ≤ 1000) (hl : lo.size ≤ 300) (hh : hi.size ≤ 300) (hk : key.size ≤ 300) :
    Calls Tryz.prog 87 #[.pointer (some ⟨ms, 0, none⟩), .string key] w (SprPost w G ms sb lo hi key D S (Pl.cutE (Pl.rightR lo hi) (Pl.keyN key) (Pl.hasR lo hi key) lo key)) := by
  have HCUT := hid (ref_cut lo hi key w (by omega) (by omega) (by omega))
  unfold SprPost
  obtain ⟨tb, h⟩ := h
  have HST := hid h
  have c0 := h.c0
  have c1 := h.c1
  have hst : ms < w.heap.size := cell_lt c0
  clear h
  generalize Pl.cutE (Pl.rightR lo hi) (Pl.keyN key) (Pl.hasR lo hi key) lo key = c at *
  unfold RefCutPost at HCUT
  by_cases hc : c = 0
  · subst hc
    have e1 : Pl.cutA 0 lo key = (lo, key) := rfl
    have e2 : Pl.cutA 0 key hi = (key, hi) := rfl
    rw [e1, e2] at HCUT
    clear e1 e2
    generalize hDl : (D.filter fun p => !Pl.cutB key p) = Dl at *
    generalize hDh : D.filter (Pl.cutB key) = Dh at *
    have HDD := hid (And.intro hDl hDh)
    clear hDl hDh
    go_enter Tryz.func87, Tryz.ntmps87
    go_wp2_with fail
    refine HCUT.out.mono ?_
    rintro e w1 ⟨rfl, hg1⟩
    have HG1 := hid hg1
    have k0 := (hg1.cells.1 _ 0 hst).trans c0
    have k1 := (hg1.cells.1 _ 1 hst).trans c1
    have z0 := (hg1.cells.2 _ 0 hst).trans HST.out.f0
    have z1 := (hg1.cells.2 _ 1 hst).trans HST.out.f1
    have hst1 := Nat.lt_of_lt_of_le hst hg1.size
    clear hg1 HCUT c0 c1
    go_upto_region 4 with fail
    obtain ⟨Y, hY⟩ : ∃ Y, Y = (w1.alloc (.cells #[.string lo, .string key] 23)).alloc (.cells #[.string key, .string hi] 23) := ⟨_, rfl⟩
    have gY : Grew w1 Y := by rw [hY]; exact ((Grew.refl w1).alloc _).alloc _
    have a0 : Y.cell? ⟨w1.heap.size, 0, none⟩ = some (.string lo) := by rw [hY]; simp [go_sem]
    have a1 : Y.cell? ⟨w1.heap.size, 1, none⟩ = some (.string key) := by rw [hY]; simp [go_sem]
    have b0 : Y.cell? ⟨w1.heap.size + 1, 0, none⟩ = some (.string key) := by rw [hY]; simp [go_sem]
    have b1 : Y.cell? ⟨w1.heap.size + 1, 1, none⟩ = some (.string hi) := by rw [hY]; simp [go_sem]
    rw [← hY]
    obtain ⟨x1, hx1⟩ : ∃ x1, x1 = w1.heap.size := ⟨_, rfl⟩
    obtain ⟨x2, hx2⟩ : ∃ x2, x2 = w1.heap.size + 1 := ⟨_, rfl⟩
    rw [← hx2] at b0 b1 ⊢
    rw [← hx1] at a0 a1 ⊢
    have hxn := hid (show w1.heap.size ≤ x1 ∧ w1.heap.size ≤ x2 from ⟨by omega, by omega⟩)
    have k0 := (gY.cells.1 _ 0 hst1).trans k0
    have k1 := (gY.cells.1 _ 1 hst1).trans k1
    have z0 := (gY.cells.2 _ 0 hst1).trans z0
    have z1 := (gY.cells.2 _ 1 hst1).trans z1
    have HGY := hid (HG1.out.trans gY)
    have hstY := Nat.lt_of_lt_of_le hst1 gY.size
    have hl1 := cell_lt a0
    have hl2 := cell_lt b0
    clear hY gY hx1 hx2
    go_upto_region 5 with fail
    obtain ⟨Z, hZ⟩ : ∃ Z, Z = (Y.setCell ⟨ms, 0, none⟩ (.string lo)).setCell ⟨ms, 1, none⟩ (.string key) := ⟨_, rfl⟩
    have hO : Only (fun j => j = ms) Y Z := by rw [hZ]; exact (Only.setCell Y ⟨ms, 0, none⟩ _).then (Only.setCell _ ⟨ms, 1, none⟩ _)
    have d0 : Z.cell? ⟨ms, 0, none⟩ = some (.string lo) := by rw [hZ]; simp [go_sem, k0]
    have d1 : Z.cell? ⟨ms, 1, none⟩ = some (.string key) := by rw [hZ]; simp [go_sem, k1]
    have d2 : Z.cell? ⟨ms, 2, none⟩ = some (.pointer (some ⟨tb, 0, none⟩)) := by
      have q := (HGY.out.cells.1 _ 2 hst).trans HST.out.c2
      rw [hZ]; simp [go_sem, q]
    have d3 : Z.cell? ⟨ms, 3, none⟩ = some (.pointer (some ⟨sb, 0, none⟩)) := by
      have q := (HGY.out.cells.1 _ 3 hst).trans HST.out.c3
      rw [hZ]; simp [go_sem, q]
    have dz0 : Z.frozen? ⟨ms, 0, none⟩ = false := by rw [hZ, World.frozen?_setCell, World.frozen?_setCell]; exact (HGY.out.cells.2 _ 0 hst).trans HST.out.f0
    have dz1 : Z.frozen? ⟨ms, 1, none⟩ = false := by rw [hZ, World.frozen?_setCell, World.frozen?_setCell]; exact (HGY.out.cells.2 _ 1 hst).trans HST.out.f1
    have dz2 : Z.frozen? ⟨ms, 2, none⟩ = false := by rw [hZ, World.frozen?_setCell, World.frozen?_setCell]; exact (HGY.out.cells.2 _ 2 hst).trans HST.out.f2
    have HZF := hid (And.intro dz0 (And.intro dz1 dz2))
    have hx2s : ¬ x2 = ms := by have := hxn.out; omega
    have b0 := (hO.cell hl2 hx2s 0).trans b0
    have b1 := (hO.cell hl2 hx2s 1).trans b1
    have HZO := hid (show Only (fun j => j = ms) w Z from (HGY.out.only _).then hO)
    have HTZ := hid (HST.out.tab.kept HZO.out (fun j hj e => (HST.out.apart j hj).1 e))
    have HSZ := hid (HST.out.seen.kept HZO.out (fun e => HST.out.ne e.symm))
    have HAP := hid (fun (e : G sb) => (HST.out.apart sb e).2 rfl)
    have HD := hid (And.intro d0 (And.intro d1 (And.intro d2 d3)))
    have hZs := HZO.out.size
    have hn0 : ¬ G ms := fun h => (HST.out.apart ms h).1 rfl
    have hn2 : ¬ G x2 := fun h => by have := HST.out.tab.lt x2 h; have := hxn.out; have := HG1.out.size; omega
    rw [← hZ]
    clear hZ hO a0 a1 k0 k1 z0 z1 hl1 hl2 hx2s dz0 dz1 dz2
    have hstZ := cell_lt d0
    have hx2Z := cell_lt b0
    have D2 := wd_only (S := G) d2 hn0
    have D3 := wd_only (S := G) d3 hn0
    have B0 := wd_only (S := G) b0 hn2
    have B1 := wd_only (S := G) b1 hn2
    have h0M : MSr Z G tb key hi Dl Dh S 0 (fun _ => undef) Z.drew := ⟨((Grew.refl Z).drew).only _, fun _ => (Grew.refl Z).drew, 0, 0, 0, fun _ => False, (fun e => by omega), (fun e => by omega), (fun e => by omega), (fun e => by omega)⟩
    have H0M := hid h0M
    clear h0M d0 d1 d2 d3 b0 b1 hn0 hn2
    refine wp_region_mixS 14 [6, 11, 12, 13] (Only G Z) Eq (JC [6, 11, 12, 13] (MSr Z G tb key hi Dl Dh S)) (fun f a => (((a.put (some 32) (f 6)).put (some 37) (f 11)).put (some 38) (f 12)).put (some 39) (f 13)) (by kernel_rfl) (by kernel_rfl) (fun _ _ => rfl) (JC.start H0M.out) (fun _ _ _ h => by obtain ⟨s, _, _, h⟩ := h.ex; exact h.only) (fun _ => rfl) (fun _ _ _ _ h g => g ▸ h) ?_
    repeat (first
    | (refine mixS_loose (by rfl) (by rfl) ?_)
    | (refine mixS_plain (by rfl) (by rfl) (by rfl) (by first | exact Grew.refl | exact fun _ => rfl) (by rfl) ?_; intro K hK; go_big_quiet_op; go_big_quiet_on)
    | (refine mixS_skip (by rfl) (by rfl) (by rfl) ?_; simp only [Act.put, List.setIfInBounds_toArray, List.set_cons_zero, List.set_cons_succ]))
    refine mixS_done (by rfl) ⟨⟨loose_of rfl (fun _ a => a) (fun _ _ => rfl) (fun _ => rfl) ?_, loose_of rfl (fun f a => a.put (some 32) (f 6)) (fun _ _ => rfl) (fun _ => rfl) ?_, loose_of rfl (fun f a => (a.put (some 32) (f 6)).put (some 37) (f 11)) (fun _ _ => rfl) (fun _ => rfl) ?_, loose_of rfl (fun f a => a.put (some 38) (f 12)) (fun _ _ => rfl) (fun _ => rfl) ?_, trivial⟩, ?_⟩
    · intro L f u hJ hL hd
      have hp : ∀ k, 0 = k + 1 → ∃ i', ([6, 11, 12, 13] : List Nat)[k]? = some i' ∧ L i' = true := fun k e => by omega
      have HM := hid (hJ.stage 0 6 rfl hL hp).2
      have HPUT := hid (fun u' v (h : MSr Z G tb key hi Dl Dh S 1 (updV f 6 v) u') => hJ.put (by decide) 0 6 rfl hL hp h)
      clear hJ hL hd hp D2 D3 B0 B1
      go_simp
      have hgu := HM.out.s0 rfl
      refine (cut21_any (HTZ.out.grew hgu) (by omega) key (by omega)).mono ?_
      rintro e u' ⟨⟨bb, rfl, hM⟩, hO, G', h1, h2⟩
      rw [HDD.out.1] at h1
      rw [HDD.out.2] at hM
      have hus := hgu.size
      exact ⟨_, rfl, HPUT.out _ _ ⟨HM.out.only.then hO, (fun e => by omega), bb, 0, 0, G', (fun _ => ⟨updV_same _ _ _, hM, h1, fun j hj => (h2 j hj).imp id fun q => by omega⟩), (fun e => by omega), (fun e => by omega), (fun e => by omega)⟩⟩
    · intro L f u hJ hL hd
      have hp : ∀ k, 1 = k + 1 → ∃ i', ([6, 11, 12, 13] : List Nat)[k]? = some i' ∧ L i' = true := fun k e => by obtain rfl : k = 0 := (by omega); exact ⟨6, rfl, hd 6 rfl (by decide)⟩
      have HM := hid (hJ.stage 1 11 rfl hL hp).2
      have HPUT := hid (fun u' v (h : MSr Z G tb key hi Dl Dh S 2 (updV f 11 v) u') => hJ.put (by decide) 1 11 rfl hL hp h)
      clear hJ hL hd hp D2 D3 B0 B1
      go_simp
      obtain ⟨bb, _, _, G', m1, _⟩ := HM.out.ex
      obtain ⟨q1, q2, q3, q4⟩ := m1 (by omega)
      refine (copy22_any (HSZ.out.kept HM.out.only HAP.out)).mono ?_
      rintro e u' ⟨cb, rfl, h1, h2, hg⟩
      exact ⟨_, rfl, HPUT.out _ _ ⟨HM.out.only.grewT hg, (fun e => by omega), bb, cb, 0, G', (fun _ => ⟨by rw [updV_ne (by decide)]; exact q1, q2.grew hg, q3.grew hg, q4⟩), (fun _ => ⟨updV_same _ _ _, h1⟩), (fun e => by omega), (fun e => by omega)⟩⟩
    · intro L f u hJ hL hd
      have hp : ∀ k, 2 = k + 1 → ∃ i', ([6, 11, 12, 13] : List Nat)[k]? = some i' ∧ L i' = true := fun k e => by obtain rfl : k = 1 := (by omega); exact ⟨11, rfl, hd 11 rfl (by decide)⟩
      have HM := hid (hJ.stage 2 12 rfl hL hp).2
      have HPUT := hid (fun u' v (h : MSr Z G tb key hi Dl Dh S 3 (updV f 12 v) u') => hJ.put (by decide) 2 12 rfl hL hp h)
      obtain ⟨bb, cb, _, G', m1, m2, _⟩ := HM.out.ex
      have q1 := m1 (by omega)
      have q2 := m2 (by omega)
      have HQ := hid (And.intro q1 q2)
      have e6 := q1.1
      have e11 := q2.1
      clear hJ hL hd hp D2 D3 m1 m2 q1 q2
      rw [e6, e11]
      clear e6 e11
      go_simp
      obtain ⟨q1, q2⟩ := HQ.out
      exact HPUT.out _ _ ⟨HM.out.only, (fun e => by omega), bb, cb, 0, G', (fun _ => ⟨by rw [updV_ne (by decide)]; exact q1.1, q1.2⟩), (fun _ => ⟨by rw [updV_ne (by decide)]; exact q2.1, q2.2⟩), (fun _ => updV_same _ _ _), (fun e => by omega)⟩
    · intro L f u hJ hL hd
      have hp : ∀ k, 3 = k + 1 → ∃ i', ([6, 11, 12, 13] : List Nat)[k]? = some i' ∧ L i' = true := fun k e => by obtain rfl : k = 2 := (by omega); exact ⟨12, rfl, hd 12 rfl (by decide)⟩
      have HM := hid (hJ.stage 3 13 rfl hL hp).2
      have HPUT := hid (fun u' v (h : MSr Z G tb key hi Dl Dh S 4 (updV f 13 v) u') => hJ.put (by decide) 3 13 rfl hL hp h)
      obtain ⟨bb, cb, _, G', m1, m2, m3, _⟩ := HM.out.ex
      have q1 := m1 (by omega)
      have q2 := m2 (by omega)
      have q3 := m3 (by omega)
      have HQ := hid (And.intro q1 (And.intro q2 q3))
      clear hJ hL hd hp D2 D3 B0 B1 m1 m2 m3 q1 q2
      rw [q3]
      clear q3
      go_simp
      obtain ⟨⟨q1, t1, t2, t3⟩, ⟨q2, s1⟩, q3⟩ := HQ.out
      have gA : Grew u (u.alloc (.cells #[.string key, .string hi, .pointer (some ⟨bb, 0, none⟩), .pointer (some ⟨cb, 0, none⟩)] 141)) := (Grew.refl u).alloc _
      exact HPUT.out _ _ ⟨HM.out.only.grewT gA, (fun e => by omega), bb, cb, u.heap.size, G', (fun _ => ⟨by rw [updV_ne (by decide)]; exact q1, t1.grew gA, t2.grew gA, t3⟩), (fun _ => ⟨by rw [updV_ne (by decide)]; exact q2, s1.grew gA⟩), (fun _ => by rw [updV_ne (by decide)]; exact q3), (fun _ => ⟨updV_same _ _ _, heap_alloc_new u _⟩)⟩
    intro f u hJ
    have hM := hJ.done (by decide)
    obtain ⟨bb, cb, nb, G', m1, m2, m3, m4⟩ := hM.ex
    obtain ⟨e6, t1, t2, t3⟩ := m1 (by decide)
    obtain ⟨e11, s1⟩ := m2 (by decide)
    have e12 := m3 (by decide)
    obtain ⟨e13, hnb⟩ := m4 (by decide)
    have HFIN := hid (show SprEnd w G ms sb lo key key hi Dl Dh S nb u from by
      have hou := hM.only
      have hnst : ¬ G ms := fun h => (HST.out.apart ms h).1 rfl
      have hcell : ∀ (i : Nat) v, Z.cell? ⟨ms, i, none⟩ = some v → u.cell? ⟨ms, i, none⟩ = some v := fun i v hv => (hou.cell hstZ hnst i).trans hv
      have hfz : ∀ i, Z.frozen? ⟨ms, i, none⟩ = false → u.frozen? ⟨ms, i, none⟩ = false := fun i hv => (hou.frozen hstZ hnst i).trans hv
      have hsl := HST.out.seen.lt
      refine ⟨(HZO.out.mono fun j hj => .inl (.inl hj)).then (hou.mono fun j hj => .inl (.inr hj)), G', ⟨tb, hcell 0 _ HD.out.1, hcell 1 _ HD.out.2.1, hcell 2 _ HD.out.2.2.1, hcell 3 _ HD.out.2.2.2, hfz 0 HZF.out.1, hfz 1 HZF.out.2.1, hfz 2 HZF.out.2.2, t2, HSZ.out.kept hou HAP.out, HST.out.ne, fun j hj => ?_⟩, ⟨bb, cb, ?_, ?_, ?_, ?_, t1, s1⟩, fun j hj => (t3 j hj).imp id fun q => by omega⟩
      · rcases t3 j hj with q | q
        · exact HST.out.apart j q
        · exact ⟨fun e => by omega, fun e => by omega⟩
      · rw [cell_block hnb]; rfl
      · rw [cell_block hnb]; rfl
      · rw [cell_block hnb]; rfl
      · rw [cell_block hnb]; rfl)
    clear hJ hM m1 m2 m3 m4 t1 t2 t3 s1 hnb D2 D3 B0 B1 H0M
    dsimp only [List.drop]
    simp only [Act.put, List.setIfInBounds_toArray, List.set_cons_succ, List.set_cons_zero]
    rw [e6, e11, e12, e13]
    clear e6 e11 e12 e13
    go_wp2_with fail
    go_ret2
    exact ⟨nb, rfl, HFIN.out⟩
  · have hcN := hid hc
    have e1 : Pl.cutA c lo key = (noText, noText) := by unfold Pl.cutA; rw [if_neg hc]
    have e2 : Pl.cutA c key hi = (noText, noText) := by unfold Pl.cutA; rw [if_neg hc]
    rw [e1, e2] at HCUT
    have hcI : ((c : Int) == 0) = false := beq_eq_false_iff_ne.mpr (by omega)
    clear e1 e2 hc
    go_enter Tryz.func87, Tryz.ntmps87
    go_wp2_with fail
    refine HCUT.out.mono ?_
    rintro e w1 ⟨rfl, hg1⟩
    have HG2 := hid (show Grew w ((w1.alloc (.cells #[.string noText, .string noText] 23)).alloc (.cells #[.string noText, .string noText] 23)) from (hg1.alloc _).alloc _)
    clear hg1 HCUT
    go_wp2_with fail
    go_ret2
    exact .inl ⟨hcN.out, rfl, HG2.out⟩
end Go.Proofs.YtoiahcgaffffbaaGreatDoor
namespace Go.Proofs.YtoiahcgaffffbaaGreatDoor
namespace Pl
theorem keyN_le19 (s : ByteArray) : keyN s ≤ 19 := by
  unfold keyN
  split
  · decide
  · unfold keyL
    repeat' split
    all_goals decide
theorem key_right {s : ByteArray} (h : keyN s = 0) : right s = true := by
  obtain ⟨l, hl⟩ := ok_key h
  unfold right
  rw [hl]; rfl
theorem has_right {lo hi key : ByteArray} (h : hasS lo hi key = true) : rightS lo hi = true ∧ isKey key = true ∧ 0 ≤ compare key lo ∧ lessB key hi = true := by
  unfold hasS at h
  simp only [Bool.and_eq_true, decide_eq_true_eq] at h
  exact ⟨h.1.1.1, h.1.1.2, h.1.2, h.2⟩
theorem none0_iff (b : ByteArray) : none0 b = true ↔ b = ⟨#[]⟩ := by
  unfold none0
  rw [ByteArray.toList_eq]
  constructor
  · intro h
    have : b.data.toList = [] := List.isEmpty_iff.1 h
    cases b with
    | mk d => simp at this; rw [this]
  · rintro rfl; rfl
theorem ok_none : Ok ⟨#[]⟩ := ⟨[], rfl⟩
theorem ok_isKey {s : ByteArray} (h : isKey s = true) : Ok s := ok_key (by unfold isKey at h; simpa using h)
theorem ok_end {s : ByteArray} (h : endB s = true) : Ok s := by
  unfold endB at h
  rw [Bool.or_eq_true] at h
  rcases h with h | h
  · rw [(none0_iff s).1 h]; exact ok_none
  · exact ok_isKey h
theorem key_none {k : ByteArray} (h : isKey k = true) : none0 k = false := by
  cases hn : none0 k with
  | false => rfl
  | true =>
    rw [(none0_iff k).1 hn] at h
    exact absurd h (by decide)
theorem cut_join {lo hi key : ByteArray} (h : hasS lo hi key = true) (hne : key.toList ≠ lo.toList) :
    rightS lo key = true ∧ rightS key hi = true ∧ joinE (rightS lo key) (rightS key hi) lo key key hi = 0 ∧ joinV (rightS lo key) (rightS key hi) lo key key hi = (lo, hi) := by
  obtain ⟨h1, h2, h3, h4⟩ := has_right h
  unfold rightS at h1
  simp only [Bool.and_eq_true] at h1
  obtain ⟨⟨e1, e2⟩, e3⟩ := h1
  have hek : endB key = true := by unfold endB; rw [h2]; simp
  have hlt : lessB lo key = true := by
    unfold lessB
    rw [key_none h2, Bool.false_or, decide_eq_true_eq]
    have hz : compare key lo ≠ 0 := by
      intro hz
      have := compare_zero (ok_isKey h2) (ok_end e1) hz
      exact hne (by rw [this])
    have := compare_swap (ok_isKey h2) (ok_end e1)
    omega
  have r1 : rightS lo key = true := by unfold rightS; rw [e1, hek, hlt]; rfl
  have r2 : rightS key hi = true := by unfold rightS; rw [e2, hek, h4]; rfl
  refine ⟨r1, r2, ?_, ?_⟩
  · unfold joinE; rw [r1, r2, key_none h2]; simp
  · unfold joinV; rw [r1, r2, key_none h2]; simp
theorem cutE_zero {lo hi key : ByteArray} (h : cutE (rightS lo hi) (keyN key) (hasS lo hi key) lo key = 0) : keyN key = 0 ∧ hasS lo hi key = true ∧ key.toList ≠ lo.toList := by
  unfold cutE at h
  split at h
  · cases h
  · split at h
    · omega
    · split at h
      · cases h
      · rename_i h1 h2 h3
        refine ⟨by omega, ?_, fun e => h3 (.inr e)⟩
        cases e : hasS lo hi key with
        | true => rfl
        | false => exact absurd (.inl e) h3
theorem cutE_le (lo hi key : ByteArray) : cutE (rightS lo hi) (keyN key) (hasS lo hi key) lo key ≤ 19 := by
  have := keyN_le19 key
  unfold cutE
  repeat' split
  all_goals omega
theorem cut_cases {P : List Pr} {lo hi key : ByteArray} (hP : Srt P) (hin : InS lo hi P) (h : cutE (rightS lo hi) (keyN key) (hasS lo hi key) lo key = 0) :
    rightS lo key = true ∧ rightS key hi = true ∧ InS lo key (P.take (cutN P key)) ∧ InS key hi (P.drop (cutN P key)) ∧ key.size ≤ 96 := by
  obtain ⟨h1, h2, h3⟩ := cutE_zero h
  obtain ⟨r1, r2, _, _⟩ := cut_join h2 h3
  have hk : isKey key = true := by unfold isKey; rw [h1]; rfl
  have hok := ok_isKey hk
  have hr : right key = true := key_right h1
  have hn : cutN P key = pos P key := by unfold cutN; rw [if_pos hr]
  rw [hn]
  refine ⟨r1, r2, fun c hc => ?_, fun c hc => ?_, key_size h1⟩
  · obtain ⟨hm, hlt⟩ := (mem_take_pos hP hok c).1 hc
    obtain ⟨_, q2, q3, _⟩ := has_right (hin c hm)
    unfold hasS
    rw [r1, q2]
    have : lessB c.key key = true := by unfold lessB; rw [decide_eq_true hlt, Bool.or_true]
    rw [this, decide_eq_true q3]; rfl
  · obtain ⟨hm, hlt⟩ := (mem_drop_pos hP hok c).1 hc
    obtain ⟨_, q2, _, q4⟩ := has_right (hin c hm)
    unfold hasS
    rw [r2, q2, q4, decide_eq_true (show 0 ≤ compare c.key key by omega)]; rfl
end Pl
end Go.Proofs.YtoiahcgaffffbaaGreatDoor
