/- TabC, Tab3: one text. -/
import Derived.Test.YtbdagllflamabaaGreatDoorFinWatchReplaysQ24
import Derived.RegionTactic
import Derived.Deep.RegionHeld3
namespace Go.Proofs.YtbdagllflamabaaGreatDoor
open Go.RowKit Go.Maps
attribute [local go_sem] Oper.semAt_some
theorem cloneP_any (w : World) (a : Option Addr) (n cap : Nat) (xs : List Pr) (hn : n = xs.length) (hA : PairsAt w a xs) (hf : SlForm a cap) (hx : xs.length ≤ 1000000) :
    Calls Tryz.prog 148 #[.slice a n cap] w fun e w' => ∃ a' c', e = .returned (.slice a' n c') ∧ w'.ownsRow w.heap.size 42 3 (.slice a' n c') xs.length (prFlat xs) ∧ Grew w w' := by
  subst hn
  rcases Nat.eq_zero_or_pos xs.length with h0 | h0
  · have e := List.eq_nil_of_length_eq_zero h0
    subst e
    rcases hf with ⟨rfl, rfl⟩ | ⟨b, off, rfl⟩
    · exact (cloneNilPair w).mono fun e w' ⟨he, hg⟩ => ⟨_, _, he, World.ownsRow_nil _ _ _ _, hg⟩
    · exact (cloneZeroPair w b off cap).mono fun e w' ⟨he, hr, hg⟩ => ⟨_, _, he, hr, hg⟩
  · rcases hA with h1 | ⟨b, off, rfl, hb, hR⟩
    · rw [h1] at h0; simp at h0
    · exact (clonePair w b off xs.length cap h0 hx (prFlat xs) (prFlat_length xs) hR.cells (prFlat_one' xs)).mono fun e w' ⟨g, cap, he, hr, hg⟩ => ⟨_, _, he, hr, hg⟩
theorem tabAt_srt {w : World} {F : Nat → Prop} {tb : Nat} {xs : List Pr} (h : TabAt w F tb xs) : Pl.Srt xs := by obtain ⟨v, h⟩ := h; exact h.srt
theorem tabAt_sz {w : World} {F : Nat → Prop} {tb : Nat} {xs : List Pr} (h : TabAt w F tb xs) : ∀ c ∈ xs, c.key.size ≤ 70368744177664 := by obtain ⟨v, h⟩ := h; exact h.sz
theorem tabAt_lt {w : World} {F : Nat → Prop} {tb : Nat} {xs : List Pr} (h : TabAt w F tb xs) : ∀ j, F j → j < w.heap.size := by obtain ⟨v, h⟩ := h; exact h.lt
theorem tabAt_foot {w : World} {F : Nat → Prop} {tb : Nat} {xs : List Pr} (h : TabAt w F tb xs) : F tb := by obtain ⟨v, h⟩ := h; exact h.foot0
theorem tabAt_mk {w : World} {tb B : Nat} {v : Value} {xs : List Pr} (hc : w.cell? ⟨tb, 0, none⟩ = some v) (hf : w.frozen? ⟨tb, 0, none⟩ = false) (hr : w.ownsRow B 42 3 v xs.length (prFlat xs)) (hB : tb < B ∨ ∀ g, v.ownBlock = some g → g ≠ tb) (hs : Pl.Srt xs) (hz : ∀ c ∈ xs, c.key.size ≤ 70368744177664) :
    TabAt w (fun j => j = tb ∨ (v.ownBlock = some j ∧ B ≤ j)) tb xs := by
  refine ⟨v, ⟨hc, hf, ownsRow_zero hr, hs, hz, .inl rfl, fun g hg => ⟨.inr ⟨hg, (hr.lt g hg).1⟩, ?_⟩, ?_⟩⟩
  · rcases hB with hB | hB
    · have := (hr.lt g hg).1; omega
    · exact hB g hg
  · rintro j (rfl | ⟨hj, _⟩)
    · exact cell_lt hc
    · exact (hr.lt j hj).2
def CutEnd (w : World) (F : Nat → Prop) (tb : Nat) (ys zs : List Pr) (ob : Nat) (w' : World) : Prop :=
  Only F w w' ∧ ∃ F' Fo, TabAt w' F' tb ys ∧ TabAt w' Fo ob zs ∧ (∀ j, F' j → F j ∨ w.heap.size ≤ j) ∧ ∀ j, Fo j → w.heap.size ≤ j ∧ ¬ F' j
theorem CutEnd.bare {w w1 w' : World} {F : Nat → Prop} {tb : Nat} {xs : List Pr} (h : TabAt w F tb xs) (g1 : Grew w w1) (g2 : Grew w1 w') (hT : TabAt w' (fun j => j = w1.heap.size) w1.heap.size []) : CutEnd w F tb xs [] w1.heap.size w' := by
  refine ⟨(g1.trans g2).only F, F, _, h.grew (g1.trans g2), hT, fun _ => .inl, ?_⟩
  rintro j rfl
  refine ⟨g1.size, fun hF => ?_⟩
  have := tabAt_lt h _ hF
  have := g1.size
  omega
theorem CutEnd.two {w w1 w2 w4 : World} {F : Nat → Prop} {tb n : Nat} {xs : List Pr} {v1 v2 : Value} {T : TypeId} (h : TabAt w F tb xs) (g1 : Grew w w1) (r1 : w2.ownsRow w1.heap.size 42 3 v1 (xs.drop n).length (prFlat (xs.drop n))) (g2 : Grew w1 w2)
    (r2 : w4.ownsRow (w2.alloc (.cells #[v1] T)).heap.size 42 3 v2 (xs.take n).length (prFlat (xs.take n))) (g4 : Grew (w2.alloc (.cells #[v1] T)) w4) :
    CutEnd w F tb (xs.take n) (xs.drop n) w2.heap.size (w4.setCell ⟨tb, 0, none⟩ v2) := by
  have htb : tb < w.heap.size := tabAt_lt h _ (tabAt_foot h)
  have s1 := g1.size
  have s2 := g2.size
  have s4 := g4.size
  have hw4 : w2.heap.size < w4.heap.size := by simp at s4; omega
  have o5 := Only.setCell w4 ⟨tb, 0, none⟩ v2
  have hs := tabAt_srt h
  have hz := tabAt_sz h
  obtain ⟨v, hT⟩ := h
  have hg := g1.trans (g2.trans (((Grew.refl w2).alloc (.cells #[v1] T)).trans g4))
  have hc4 : w4.cell? ⟨tb, 0, none⟩ = some v := (hg.cells.1 _ _ htb).trans hT.cell
  have hf4 : w4.frozen? ⟨tb, 0, none⟩ = false := (hg.cells.2 _ _ htb).trans hT.fz
  have b1 : ∀ g, v1.ownBlock = some g → w1.heap.size ≤ g ∧ g < w2.heap.size := fun g hg => r1.lt g hg
  have b2 : ∀ g, v2.ownBlock = some g → (w2.alloc (.cells #[v1] T)).heap.size ≤ g ∧ g < w4.heap.size := fun g hg => r2.lt g hg
  have m1 := tabAt_mk (w := w4.setCell ⟨tb, 0, none⟩ v2) (tb := tb) (B := (w2.alloc (.cells #[v1] T)).heap.size) (v := v2) (xs := xs.take n) (by simp [World.cell?_setCell_same, hc4]) (by rw [World.frozen?_setCell]; exact hf4)
    (ownsRow_kept r2 o5 (fun b hb e => by have := (b2 b hb).1; simp at this e; omega)) (.inl (by simp; omega)) (Pl.srt_take hs n) (fun c hc => hz c (List.mem_of_mem_take hc))
  have hcB : w4.cell? ⟨w2.heap.size, 0, none⟩ = some v1 := by rw [g4.cells.1 _ _ (by simp)]; simp [go_sem]
  have hfB : w4.frozen? ⟨w2.heap.size, 0, none⟩ = false := by rw [g4.cells.2 _ _ (by simp)]; simp [go_sem]
  have m2 := tabAt_mk (w := w4.setCell ⟨tb, 0, none⟩ v2) (tb := w2.heap.size) (B := w1.heap.size) (v := v1) (xs := xs.drop n)
    ((o5.cell hw4 (by simp; omega) 0).trans hcB) ((o5.frozen hw4 (by simp; omega) 0).trans hfB)
    (ownsRow_kept (ownsRow_grew (((Grew.refl w2).alloc (.cells #[v1] T)).trans g4) r1) o5 (fun b hb e => by have := (b1 b hb).1; simp at e; omega)) (.inr fun g hg => by have := (b1 g hg).2; omega) (Pl.srt_drop hs n) (fun c hc => hz c (List.mem_of_mem_drop hc))
  refine ⟨(hg.only F).then (o5.mono fun j hj => .inl (by subst hj; exact hT.foot0)), _, _, m1, m2, ?_, ?_⟩
  · rintro j (rfl | ⟨_, hj⟩)
    · exact .inl hT.foot0
    · simp at hj; exact .inr (by omega)
  · rintro j hj
    have hlo : w1.heap.size ≤ j ∧ j ≤ w2.heap.size := by
      rcases hj with rfl | ⟨hj, hj2⟩
      · omega
      · have := (b1 j hj).2; omega
    refine ⟨by omega, ?_⟩
    rintro (rfl | ⟨hj3, hj4⟩)
    · omega
    · simp at hj4; omega
theorem cutLess (c : Pr) (cb : Nat) (key : ByteArray) (w : World) (hc : w.cell? ⟨cb, 0, none⟩ = some (.string key)) (hs : c.key.size ≤ 70368744177664) (hy : key.size ≤ 70368744177664) :
    Calls Tryz.prog 175 #[c.aggOf, .pointer (some ⟨cb, 0, none⟩)] w fun e w' => e = .returned (.bool (decide (0 ≤ Pl.compare c.key key))) ∧ Grew w w' := by
  have HC := hid (fun W => compare_any c.key key W hs hy)
  generalize Pl.compare c.key key = r at *
  obtain ⟨k, v, n⟩ := c
  unfold Pr.aggOf Pr.vals
  dsimp only at *
  have hb : cb < w.heap.size := cell_lt hc
  go_enter Tryz.func175, Tryz.ntmps175
  go_wp2_with fail
  refine (HC.out _).mono ?_
  rintro e w1 ⟨rfl, hg⟩
  go_wp2_with fail
  go_ret
  exact ⟨ret_bool (by simp), ((Grew.refl w).alloc _).trans hg⟩
set_option maxRecDepth 100000 in
set_option maxHeartbeats 4000000 in
theorem cutT_any {w : World} {F : Nat → Prop} {tb : Nat} {xs : List Pr} (h : TabAt w F tb xs) (hx : xs.length ≤ 1000000) (key : ByteArray) (hy : key.size ≤ 70368744177664) :
    Calls Tryz.prog 145 #[.pointer (some ⟨tb, 0, none⟩), .string key] w fun e w' => ∃ ob, e = .returned (.pointer (some ⟨ob, 0, none⟩)) ∧ CutEnd w F tb (xs.take (Pl.cutN xs key)) (xs.drop (Pl.cutN xs key)) ob w' := by
  have HT := hid h
  obtain ⟨vv, h⟩ := h
  obtain ⟨a, cap, rfl, hA⟩ := pairsAt_of h.row
  have c0 := h.cell
  have htb : tb < w.heap.size := cell_lt c0
  have hI := fun W (g : Grew w W) (hc : W.cell? ⟨w.heap.size, 0, none⟩ = some (.string key)) => idxCut (fun c => decide (0 ≤ Pl.compare c.key key)) w.heap.size a cap xs W (hA.grew g) hx
    (fun j hj W' g' => cutLess (prAt xs j) w.heap.size key W' ((g'.cells.1 _ _ (cell_lt hc)).trans hc) (h.sz _ (Pl.prAt_mem xs j hj)) hy)
  have hidx := fun hr : Pl.right key = true => Pl.idx_cut h.srt hr
  have hbnd : Pl.right key = false → Pl.cutN xs key = xs.length := fun hr => by unfold Pl.cutN; rw [if_neg (by simp [hr])]
  have hle := Pl.cutN_le xs key
  generalize hi : idxI (fun c : Pr => decide (0 ≤ Pl.compare c.key key)) xs = i at *
  have hir : (i : Int) = -1 ∨ ∃ m : Nat, i = m := by
    rw [← hi]; unfold idxI; split
    · exact .inr ⟨_, rfl⟩
    · exact .inl rfl
  clear hi
  have HI := hid hI
  have HR := hid (fun W => right_any key W (by omega))
  by_cases hr : Pl.right key = true
  · have hidx := hidx hr
    rw [hr] at HR
    by_cases hlt : Pl.cutN xs key < xs.length
    · rw [if_pos hlt] at hidx
      obtain ⟨v0, hv0⟩ : ∃ g, a = some ⟨g, 0, none⟩ := by
        obtain ⟨g, cap', e, _⟩ := h.row.form (by omega : 0 < xs.length)
        cases e
        exact ⟨g, rfl⟩
      subst hv0
      rcases hA with h0 | ⟨b, off, hab, hb, hR⟩
      · rw [h0] at hlt; simp at hlt
      cases hab
      have HE := hid (fun w1 w2 w4 v1 v2 T g1 r1 g2 r2 g4 => CutEnd.two (w1 := w1) (w2 := w2) (w4 := w4) (v1 := v1) (v2 := v2) (T := T) (n := Pl.cutN xs key) HT.out g1 r1 g2 r2 g4)
      have HC1 := hid (fun W (g : Grew w W) => cloneP_any W (some ⟨v0, Pl.cutN xs key * 3, none⟩) (xs.length - Pl.cutN xs key) (cap - Pl.cutN xs key) (xs.drop (Pl.cutN xs key)) (by rw [List.length_drop]) (.inr ⟨v0, Pl.cutN xs key * 3, rfl, Nat.lt_of_lt_of_le hb g.size, by have := (hR.grew g hb).drop (Pl.cutN xs key); rwa [Nat.zero_add] at this⟩) (.inr ⟨_, _, rfl⟩) (by rw [List.length_drop]; omega))
      have HC2 := hid (fun W (g : Grew w W) => cloneP_any W (some ⟨v0, 0, none⟩) (Pl.cutN xs key) cap (xs.take (Pl.cutN xs key)) (by rw [List.length_take]; omega) (.inr ⟨v0, 0, rfl, Nat.lt_of_lt_of_le hb g.size, (hR.grew g hb).take _⟩) (.inr ⟨_, _, rfl⟩) (by rw [List.length_take]; omega))
      have hcap : xs.length ≤ cap := by
        rcases h.row.2 with ⟨e, _⟩ | ⟨b, c, cur, e1, h2, h3, h4, _⟩
        · cases e
        · cases e1; exact h4
      have f0 := h.fz
      subst hidx
      clear h hI hbnd hir hr hR hle
      generalize xs.drop (Pl.cutN xs key) = zs at *
      generalize xs.take (Pl.cutN xs key) = ys at *
      generalize Pl.cutN xs key = n at *
      have hltI : (n : Int) < (xs.length : Int) := by omega
      have hltB : (n : Int) ≤ 1000000 := by omega
      have hn0 : ¬ ((n : Int) < 0) := by omega
      go_enter Tryz.func145, Tryz.ntmps145
      go_wp2_with fail
      refine (HI.out _ ((Grew.refl w).alloc _) (by simp [go_sem])).mono ?_
      rintro e w1 ⟨rfl, hg1⟩
      have hG1 : Grew w w1 := ((Grew.refl w).alloc _).trans hg1
      have k0 : w1.cell? ⟨w.heap.size, 0, none⟩ = some (.string key) := by rw [hg1.cells.1 _ _ (by simp)]; simp [go_sem]
      have hk1 : w.heap.size < w1.heap.size := by have := hg1.size; simp at this; omega
      have c1 := (hG1.cells.1 _ 0 htb).trans c0
      clear hg1
      go_wp2_with fail
      refine (HR.out _).mono ?_
      rintro e w2 ⟨rfl, p, rfl⟩
      have hG2 : Grew w (w1.iter key p) := hG1.iter _ _
      have c2 := (hG2.cells.1 _ 0 htb).trans c0
      have HG2 := hid hG2
      clear c1 k0 hG1 hG2 hk1
      generalize w1.iter key p = w2 at *
      go_wp2_with fail
      refine (HC1.out _ HG2.out).mono ?_
      rintro e w3 ⟨v1, d1, rfl, hr1, hg3⟩
      have HR1 := hid (And.intro hr1 hg3)
      have hG3 := HG2.out.trans hg3
      have c3 := (hG3.cells.1 _ 0 htb).trans c0
      have hb3 := Nat.lt_of_lt_of_le htb hG3.size
      have HG3 := hid hG3
      clear hr1 hg3 hG3 c2
      go_wp2_with fail
      refine (HC2.out _ (HG3.out.alloc _)).mono ?_
      rintro e w4 ⟨v2, d2, rfl, hr2, hg4⟩
      have HEND := hid (HE.out _ _ _ _ _ _ HG2.out HR1.out.1 HR1.out.2 hr2 hg4)
      have hG4 := (HG3.out.alloc _).trans hg4
      have c4 := (hG4.cells.1 _ 0 htb).trans c0
      have f4 := (hG4.cells.2 _ 0 htb).trans f0
      clear hr2 hg4 hG4 c3
      go_wp2_with fail
      go_ret
      exact ⟨_, rfl, HEND.out⟩
    · have hn : Pl.cutN xs key = xs.length := by omega
      rw [if_neg hlt] at hidx
      rw [hn, List.take_length, List.drop_length]
      subst hidx
      clear h hI hbnd hir hr hle hn hlt hA
      go_enter Tryz.func145, Tryz.ntmps145
      go_wp2_with fail
      refine (HI.out _ ((Grew.refl w).alloc _) (by simp [go_sem])).mono ?_
      rintro e w1 ⟨rfl, hg1⟩
      have HG1 : Hid (Grew w w1) := ((Grew.refl w).alloc _).trans hg1
      clear hg1
      go_wp2_with fail
      refine (newT_any _).mono ?_
      rintro e w2 ⟨rfl, hg2, hT2⟩
      have HEND := hid (CutEnd.bare HT.out HG1.out hg2 hT2)
      clear hg2 hT2
      go_wp2_with fail
      go_ret
      exact ⟨_, rfl, HEND.out⟩
  · have hr' : Pl.right key = false := by simpa using hr
    rw [hbnd hr', List.take_length, List.drop_length]
    rw [hr'] at HR
    clear hidx hbnd hle h hI hA hr hr'
    go_enter Tryz.func145, Tryz.ntmps145
    go_wp2_with fail
    refine (HI.out _ ((Grew.refl w).alloc _) (by simp [go_sem])).mono ?_
    rintro e w1 ⟨rfl, hg1⟩
    have hG1 : Grew w w1 := ((Grew.refl w).alloc _).trans hg1
    have k0 : w1.cell? ⟨w.heap.size, 0, none⟩ = some (.string key) := by rw [hg1.cells.1 _ _ (by simp)]; simp [go_sem]
    have hk1 : w.heap.size < w1.heap.size := by have := hg1.size; simp at this; omega
    have HG1 := hid hG1
    clear hg1 hG1
    rcases hir with rfl | ⟨m, rfl⟩
    · go_wp2_with fail
      refine (newT_any _).mono ?_
      rintro e w2 ⟨rfl, hg2, hT2⟩
      have HEND := hid (CutEnd.bare HT.out HG1.out hg2 hT2)
      clear hg2 hT2
      go_wp2_with fail
      go_ret
      exact ⟨_, rfl, HEND.out⟩
    · have hm0 : ¬ ((m : Int) < 0) := by omega
      go_wp2_with fail
      refine (HR.out _).mono ?_
      rintro e w2 ⟨rfl, p, rfl⟩
      have HG2 := hid (HG1.out.iter key p)
      clear k0 hk1 HG1
      generalize w1.iter key p = w2 at *
      go_wp2_with fail
      refine (newT_any _).mono ?_
      rintro e w3 ⟨rfl, hg2, hT2⟩
      have HEND := hid (CutEnd.bare HT.out HG2.out hg2 hT2)
      clear hg2 hT2
      go_wp2_with fail
      go_ret
      exact ⟨_, rfl, HEND.out⟩
end Go.Proofs.YtbdagllflamabaaGreatDoor
namespace Go.Proofs.YtbdagllflamabaaGreatDoor
open Go.RowKit Go.Maps
attribute [local go_sem] Oper.semAt_some
namespace Pl
def putN (p : Pr) : Nat := if keyN p.key ≠ 0 then keyN p.key else if 64 < p.val.size then 3 else if p.ver < 1 ∨ 4096 < p.ver then 1 else 0
def putT (xs : List Pr) (p : Pr) : List Pr := if putN p = 0 then tput xs p else xs
theorem putN_zero {p : Pr} (h : putN p = 0) : keyN p.key = 0 ∧ p.val.size ≤ 64 ∧ 1 ≤ p.ver ∧ p.ver ≤ 4096 := by
  unfold putN at h
  by_cases h1 : keyN p.key = 0
  · rw [if_neg (by simp [h1])] at h
    by_cases h2 : 64 < p.val.size
    · rw [if_pos h2] at h; cases h
    · rw [if_neg h2] at h
      by_cases h3 : p.ver < 1 ∨ 4096 < p.ver
      · rw [if_pos h3] at h; cases h
      · exact ⟨h1, by omega, by omega, by omega⟩
  · rw [if_pos h1] at h; exact absurd h h1
end Pl
def TabTurn (w : World) (F : Nat → Prop) (tb : Nat) (ys : List Pr) (w' : World) : Prop := Only F w w' ∧ ∃ F', TabAt w' F' tb ys ∧ ∀ j, F' j → F j ∨ w.heap.size ≤ j
theorem TabTurn.grew {w0 w w' : World} {F : Nat → Prop} {tb : Nat} {ys : List Pr} (h : TabTurn w F tb ys w') (hF : ∀ j, F j → w0.heap.size ≤ j) (g : Grew w0 w) : Grew w0 w' ∧ ∃ F', TabAt w' F' tb ys ∧ ∀ j, F' j → w0.heap.size ≤ j := by
  obtain ⟨h1, F', h2, h3⟩ := h
  refine ⟨((g.only F).then h1).grew hF, F', h2, fun j hj => ?_⟩
  rcases h3 j hj with h | h
  · exact hF j h
  · have := g.size; omega
theorem TabTurn.of_grew {w w' : World} {F : Nat → Prop} {tb : Nat} {xs : List Pr} (h : TabAt w F tb xs) (g : Grew w w') : TabTurn w F tb xs w' := ⟨g.only F, F, h.grew g, fun _ => .inl⟩
set_option maxRecDepth 100000 in
set_option maxHeartbeats 2000000 in
theorem putT_err {S : Nat → Bool} (hS : TabS S) (E : Nat → Addr) {w : World} (hE : Errs S E w) (tb : Nat) (key val : ByteArray) (v : Int) (hy : key.size ≤ 70368744177664) (hv : val.size ≤ 140737488351232) (hn : Pl.putN ⟨key, val, v⟩ ≠ 0) :
    Calls Tryz.prog 68 #[.pointer (some ⟨tb, 0, none⟩), .string key, .string val, .int .i64 v] w fun e w' => e = .returned (errOf E (Pl.putN ⟨key, val, v⟩)) ∧ Grew w w' := by
  have HE := hid hE
  have g1 : w.cell? ⟨1, 0, none⟩ = some (.iface 343 (.pointer (some (E 1)))) := hE.cell 1 hS.h1
  have g3 : w.cell? ⟨3, 0, none⟩ = some (.iface 343 (.pointer (some (E 3)))) := hE.cell 3 hS.h3
  have b1 : 1 < w.heap.size := cell_lt g1
  have b3 : 3 < w.heap.size := cell_lt g3
  clear hE
  by_cases hkn : Pl.keyN key = 0
  · have HK : Hid (errOf E (Pl.keyN key) = .nilIface) := by unfold Hid; rw [hkn]; rfl
    by_cases h64 : 64 < val.size
    · have e1 : Pl.putN ⟨key, val, v⟩ = 3 := by unfold Pl.putN; rw [if_neg (by simp [hkn]), if_pos h64]
      rw [e1]
      clear e1 hn hkn
      have h64' : (64 : Int) < (val.size : Int) := by omega
      go_enter Tryz.func68, Tryz.ntmps68
      go_wp2_with fail
      refine (key_any S E hS.h2 hS.h3 hS.h6 hS.h7 key _ (by omega) HE.out).mono ?_
      rw [HK.out]
      rintro e w1 ⟨rfl, hg⟩
      obtain ⟨hc, hf⟩ := hg.cells
      go_wp2_with fail
      go_ret
      exact ⟨rfl, hg⟩
    · have h64' : (val.size : Int) ≤ 64 := by omega
      by_cases hr1 : v < 1
      · have e1 : Pl.putN ⟨key, val, v⟩ = 1 := by unfold Pl.putN; rw [if_neg (by simp [hkn]), if_neg h64, if_pos (.inl hr1)]
        rw [e1]
        clear e1 hn hkn
        go_enter Tryz.func68, Tryz.ntmps68
        go_wp2_with fail
        refine (key_any S E hS.h2 hS.h3 hS.h6 hS.h7 key _ (by omega) HE.out).mono ?_
        rw [HK.out]
        rintro e w1 ⟨rfl, hg⟩
        obtain ⟨hc, hf⟩ := hg.cells
        go_wp2_with fail
        go_ret
        exact ⟨rfl, hg⟩
      · by_cases hr2 : 4096 < v
        · have e1 : Pl.putN ⟨key, val, v⟩ = 1 := by unfold Pl.putN; rw [if_neg (by simp [hkn]), if_neg h64, if_pos (.inr hr2)]
          rw [e1]
          clear e1 hn hkn
          go_enter Tryz.func68, Tryz.ntmps68
          go_wp2_with fail
          refine (key_any S E hS.h2 hS.h3 hS.h6 hS.h7 key _ (by omega) HE.out).mono ?_
          rw [HK.out]
          rintro e w1 ⟨rfl, hg⟩
          obtain ⟨hc, hf⟩ := hg.cells
          go_wp2_with fail
          go_ret
          exact ⟨rfl, hg⟩
        · exfalso
          apply hn
          unfold Pl.putN
          rw [if_neg (by simp [hkn]), if_neg h64, if_neg (show ¬ (v < 1 ∨ 4096 < v) by omega)]
  · have e1 : Pl.putN ⟨key, val, v⟩ = Pl.keyN key := by unfold Pl.putN; rw [if_pos hkn]
    have HK := hid (show errOf E (Pl.keyN key) = .iface 343 (.pointer (some (E (Pl.keyN key)))) from errOf_pos E _ hkn)
    rw [e1, HK.out]
    clear e1 hn
    go_enter Tryz.func68, Tryz.ntmps68
    go_wp2_with fail
    refine (key_any S E hS.h2 hS.h3 hS.h6 hS.h7 key _ (by omega) HE.out).mono ?_
    rw [HK.out]
    rintro e w1 ⟨rfl, hg⟩
    go_wp2_with fail
    go_ret
    exact ⟨rfl, hg⟩
theorem put_over {w W : World} {F : Nat → Prop} {tb g cap : Nat} {xs : List Pr} (h : TableIs w F tb (.slice (some ⟨g, 0, none⟩) xs.length cap) xs) (gW : Grew w W) (p : Pr) (hp : Pl.keyN p.key = 0) (hb : Pl.hasB xs p.key = true) (hs : p.key.size ≤ 70368744177664) :
    TabTurn w F tb (Pl.tput xs p) (((W.setCell ⟨g, Pl.pos xs p.key * 3, none⟩ (.string p.key)).setCell ⟨g, Pl.pos xs p.key * 3 + 1, none⟩ (.string p.val)).setCell ⟨g, Pl.pos xs p.key * 3 + 2, none⟩ (.int .i64 p.ver)) := by
  have hW := h.grew gW
  have hpl := (Pl.hasB_key h.srt (Pl.ok_key hp) hb).1
  obtain ⟨r1, g1⟩ := hW.row.stored (Pl.pos xs p.key * 3) (.string p.key)
  obtain ⟨r2, g2⟩ := r1.stored (Pl.pos xs p.key * 3 + 1) (.string p.val)
  obtain ⟨r3, g3⟩ := r2.stored (Pl.pos xs p.key * 3 + 2) (.int .i64 p.ver)
  have hgF := h.foot1 g rfl
  have ho : Only (fun j => j = g) W (((W.setCell ⟨g, Pl.pos xs p.key * 3, none⟩ (.string p.key)).setCell ⟨g, Pl.pos xs p.key * 3 + 1, none⟩ (.string p.val)).setCell ⟨g, Pl.pos xs p.key * 3 + 2, none⟩ (.int .i64 p.ver)) :=
    ((Only.of_grownBy (g1.trans (g2.trans g3))).mono fun j hj => .inl (Option.some.inj hj))
  have hlen : (Pl.tput xs p).length = xs.length := by
    unfold Pl.tput
    rw [if_pos hb]
    simp only [List.length_append, List.length_take, List.length_singleton, List.length_drop]; omega
  refine ⟨(gW.only F).then (ho.mono fun j hj => .inl (by subst hj; exact hgF.1)), F, ⟨_, ⟨?_, ?_, ?_, Pl.srt_put h.srt hp, ?_, h.foot0, h.foot1, ?_⟩⟩, fun _ => .inl⟩
  · exact (ho.cell (cell_lt hW.cell) (fun e => hgF.2 e.symm) 0).trans hW.cell
  · exact (ho.frozen (cell_lt hW.cell) (fun e => hgF.2 e.symm) 0).trans hW.fz
  · rw [hlen]
    have e : prFlat (Pl.tput xs p) = (((prFlat xs).set (Pl.pos xs p.key * 3) (.string p.key)).set (Pl.pos xs p.key * 3 + 1) (.string p.val)).set (Pl.pos xs p.key * 3 + 2) (.int .i64 p.ver) := by
      have hfl : (prFlat xs).length = xs.length * 3 := prFlat_length xs
      unfold Pl.tput
      rw [if_pos hb, prFlat_append, prFlat_append, prFlat_one, prFlat_take, prFlat_drop]
      generalize Pl.pos xs p.key = q at *
      generalize prFlat xs = L at *
      apply List.ext_getElem?
      intro j
      rw [List.getElem?_append, List.getElem?_append, List.getElem?_take, List.getElem?_drop, List.getElem?_set, List.getElem?_set, List.getElem?_set]
      simp only [List.length_append, List.length_take, List.length_set, Pr.vals, List.length_cons, List.length_nil]
      rw [Nat.min_eq_left (show q * 3 ≤ L.length by omega)]
      by_cases h1 : j < q * 3
      · rw [if_pos (by omega), if_pos h1, if_pos h1, if_neg (by omega), if_neg (by omega), if_neg (by omega)]
      · by_cases h2 : j = q * 3
        · subst h2; rw [if_pos (by omega), if_neg h1, if_neg (by omega), if_neg (by omega), if_pos rfl]; simp; omega
        · by_cases h3 : j = q * 3 + 1
          · subst h3; rw [if_pos (by omega), if_neg h1, if_neg (by omega), if_pos rfl]; simp; omega
          · by_cases h4 : j = q * 3 + 2
            · subst h4; rw [if_pos (by omega), if_neg h1, if_pos rfl]; simp; omega
            · rw [if_neg (by omega), if_neg (by omega), if_neg (by omega), if_neg (by omega)]
              congr 1; omega
    rw [e]
    exact r3
  · intro c hc
    rcases (Pl.mem_put h.srt hp c).1 hc with rfl | hc
    · exact hs
    · exact h.sz c hc.1
  · intro j hj
    exact Nat.lt_of_lt_of_le (hW.lt j hj) ho.size
set_option maxRecDepth 100000 in
set_option maxHeartbeats 2000000 in
theorem putT_over {S : Nat → Bool} (hS : TabS S) (E : Nat → Addr) {w : World} (hE : Errs S E w) {F : Nat → Prop} {tb : Nat} {xs : List Pr} (h : TabAt w F tb xs) (hx : xs.length ≤ 1000000) (key val : ByteArray) (v : Int) (hy : key.size ≤ 70368744177664) (hv : val.size ≤ 140737488351232) (hn : Pl.putN ⟨key, val, v⟩ = 0) (hb : Pl.hasB xs key = true) :
    Calls Tryz.prog 68 #[.pointer (some ⟨tb, 0, none⟩), .string key, .string val, .int .i64 v] w fun e w' => e = .returned .nilIface ∧ TabTurn w F tb (Pl.tput xs ⟨key, val, v⟩) w' := by
  have HE := hid hE
  have HT := hid h
  obtain ⟨vv, h⟩ := h
  obtain ⟨hkn, h64, hr1, hr2⟩ := Pl.putN_zero hn
  dsimp only at hkn h64 hr1 hr2
  have HK : Hid (errOf E (Pl.keyN key) = .nilIface) := by unfold Hid; rw [hkn]; rfl
  have hp := (Pl.hasB_key h.srt (Pl.ok_key hkn) hb).1
  obtain ⟨g, cap, rfl, _, hlt⟩ := h.row.form (by omega : 0 < xs.length)
  have HF := hid (fun W (g : Grew w W) => findT_any (HT.out.grew g) hx key hy (Pl.ok_key hkn))
  have HO := hid (fun W (gW : Grew w W) => put_over h gW ⟨key, val, v⟩ hkn hb hy)
  dsimp only at HO
  have c0 := h.cell
  have htb : tb < w.heap.size := cell_lt c0
  have hne : g ≠ tb := (h.foot1 g rfl).2
  have q0 := h.row.cellAt (Pl.pos xs key * 3 + 0) (by omega)
  have q1 := h.row.cellAt (Pl.pos xs key * 3 + 1) (by omega)
  have q2 := h.row.cellAt (Pl.pos xs key * 3 + 2) (by omega)
  rw [prFlat_get _ (by omega) xs _ hp] at q0 q1 q2
  have f0 := h.row.frozenAt (Pl.pos xs key * 3)
  have f1 := h.row.frozenAt (Pl.pos xs key * 3 + 1)
  have f2 := h.row.frozenAt (Pl.pos xs key * 3 + 2)
  rw [hb] at HF
  have h64' : (val.size : Int) ≤ 64 := by omega
  clear hE h hn hb hkn
  generalize Pl.pos xs key = p at *
  generalize prAt xs p = c at *
  obtain ⟨ck, cv, cn⟩ := c
  simp only [Pr.vals, Nat.add_zero, List.getElem?_cons_zero, List.getElem?_cons_succ] at q0 q1 q2
  have hpI : (p : Int) < (xs.length : Int) := by omega
  go_enter Tryz.func68, Tryz.ntmps68
  go_wp2_with fail
  refine (key_any S E hS.h2 hS.h3 hS.h6 hS.h7 key _ (by omega) HE.out).mono ?_
  rw [HK.out]
  rintro e w1 ⟨rfl, hg1⟩
  go_wp2_with fail
  refine (HF.out _ (hg1.alloc _)).mono ?_
  rintro e w2 ⟨rfl, hg2⟩
  have hG2 : Grew w w2 := (hg1.alloc _).trans hg2
  have s1 := hg1.size
  have s2 := hg2.size
  have k0 : w2.cell? ⟨w1.heap.size, 0, none⟩ = some (.string key) := by rw [hg2.cells.1 _ _ (by simp)]; simp [go_sem]
  have k1 : w2.cell? ⟨w1.heap.size, 1, none⟩ = some (.string val) := by rw [hg2.cells.1 _ _ (by simp)]; simp [go_sem]
  have k2 : w2.cell? ⟨w1.heap.size, 2, none⟩ = some (.int .i64 v) := by rw [hg2.cells.1 _ _ (by simp)]; simp [go_sem]
  have c0' := (hG2.cells.1 tb 0 htb).trans c0
  have q0' := (hG2.cells.1 g (p * 3) hlt).trans q0
  have q1' := (hG2.cells.1 g (p * 3 + 1) hlt).trans q1
  have q2' := (hG2.cells.1 g (p * 3 + 2) hlt).trans q2
  have f0' := (hG2.cells.2 g (p * 3) hlt).trans f0
  have f1' := (hG2.cells.2 g (p * 3 + 1) hlt).trans f1
  have f2' := (hG2.cells.2 g (p * 3 + 2) hlt).trans f2
  clear c0 q0 q1 q2 f0 f1 f2 hg1 hg2
  go_wp2_with fail
  go_region
  all_goals (
    go_wp2_with fail
    go_ret
    exact ⟨rfl, HO.out _ hG2.drew⟩)
theorem put_new {w W W2 : World} {F : Nat → Prop} {tb : Nat} {v r : Value} {xs : List Pr} (h : TableIs w F tb v xs) (gW : Grew w W) (p : Pr) (hp : Pl.keyN p.key = 0) (hb : Pl.hasB xs p.key = false) (hs : p.key.size ≤ 70368744177664)
    (hI : InsPair W W2 v r 0 (xs.length + 1) ((prFlat xs).take (Pl.pos xs p.key * 3) ++ p.vals ++ (prFlat xs).drop (Pl.pos xs p.key * 3))) :
    TabTurn w F tb (Pl.tput xs p) (W2.setCell ⟨tb, 0, none⟩ r) := by
  obtain ⟨⟨g, cap, rfl, hg⟩, hrow, hgr⟩ := hI
  have hpl := Pl.pos_le xs p.key
  have hlen : (Pl.tput xs p).length = xs.length + 1 := by
    unfold Pl.tput
    rw [hb]
    simp; omega
  have hgf : F g ∧ g ≠ tb ∨ w.heap.size ≤ g := by
    rcases hg with hg | hg
    · exact .inl (h.foot1 g hg)
    · exact .inr (Nat.le_trans gW.size hg)
  have htb : tb < w.heap.size := cell_lt h.cell
  have hgtb : g ≠ tb := by rcases hgf with h | h; exact h.2; omega
  have o1 : Only (fun j => some j = v.ownBlock) w W2 := (gW.only _).then (Only.of_grownBy hgr)
  have htb2 : tb < W2.heap.size := Nat.lt_of_lt_of_le htb o1.size
  have hc2 : W2.cell? ⟨tb, 0, none⟩ = some v := (o1.cell htb (fun e => (h.foot1 tb e.symm).2 rfl) 0).trans h.cell
  have hf2 : W2.frozen? ⟨tb, 0, none⟩ = false := (o1.frozen htb (fun e => (h.foot1 tb e.symm).2 rfl) 0).trans h.fz
  have o2 := Only.setCell W2 ⟨tb, 0, none⟩ (.slice (some ⟨g, 0, none⟩) (xs.length + 1) cap)
  have hg2 : g < W2.heap.size := by
    rcases hrow.2 with ⟨e, _⟩ | ⟨b, c, cur, e, _, hh, _⟩
    · cases e
    · cases e; exact (Array.getElem?_eq_some_iff.1 hh).1
  refine ⟨(o1.mono fun j hj => .inl (h.foot1 j hj.symm).1).then (o2.mono fun j hj => .inl (by subst hj; exact h.foot0)), fun j => F j ∨ j = g, ⟨.slice (some ⟨g, 0, none⟩) (xs.length + 1) cap, ⟨?_, ?_, ?_, Pl.srt_put h.srt hp, ?_, .inl h.foot0, ?_, ?_⟩⟩, ?_⟩
  · simp [World.cell?_setCell_same, hc2]
  · rw [World.frozen?_setCell]; exact hf2
  · rw [hlen]
    have e : prFlat (Pl.tput xs p) = (prFlat xs).take (Pl.pos xs p.key * 3) ++ p.vals ++ (prFlat xs).drop (Pl.pos xs p.key * 3) := by
      unfold Pl.tput
      rw [hb, prFlat_append, prFlat_append, prFlat_one, prFlat_take, prFlat_drop]; rfl
    rw [e]
    refine ⟨hrow.1, ?_⟩
    rcases hrow.2 with h2 | ⟨b, c, cur, e1, h2, h3, h4⟩
    · exact .inl h2
    · exact .inr ⟨b, c, cur, e1, h2, (o2.block b (Array.getElem?_eq_some_iff.1 h3).1 (by cases e1; exact hgtb)).trans h3, h4⟩
  · intro c hc
    rcases (Pl.mem_put h.srt hp c).1 hc with rfl | hc
    · exact hs
    · exact h.sz c hc.1
  · intro b hb'
    cases hb'
    exact ⟨.inr rfl, hgtb⟩
  · intro j hj
    rcases hj with hj | rfl
    · exact Nat.lt_of_lt_of_le (h.lt j hj) (Nat.le_trans o1.size o2.size)
    · exact Nat.lt_of_lt_of_le hg2 o2.size
  · intro j hj
    rcases hj with hj | rfl
    · exact .inl hj
    · rcases hgf with h | h
      · exact .inl h.1
      · exact .inr h
set_option maxRecDepth 100000 in
set_option maxHeartbeats 4000000 in
theorem putT_new {S : Nat → Bool} (hS : TabS S) (E : Nat → Addr) {w : World} (hE : Errs S E w) {F : Nat → Prop} {tb : Nat} {xs : List Pr} (h : TabAt w F tb xs) (hx : xs.length ≤ 1000000) (key val : ByteArray) (v : Int) (hy : key.size ≤ 70368744177664) (hv : val.size ≤ 140737488351232) (hn : Pl.putN ⟨key, val, v⟩ = 0) (hb : Pl.hasB xs key = false) :
    Calls Tryz.prog 68 #[.pointer (some ⟨tb, 0, none⟩), .string key, .string val, .int .i64 v] w fun e w' => e = .returned .nilIface ∧ TabTurn w F tb (Pl.tput xs ⟨key, val, v⟩) w' := by
  have HE := hid hE
  have HT := hid h
  obtain ⟨vv, h⟩ := h
  obtain ⟨hkn, h64, hr1, hr2⟩ := Pl.putN_zero hn
  dsimp only at hkn h64 hr1 hr2
  have HK : Hid (errOf E (Pl.keyN key) = .nilIface) := by unfold Hid; rw [hkn]; rfl
  obtain ⟨a, cap, rfl, _⟩ := pairsAt_of h.row
  have HF := hid (fun W (g : Grew w W) => findT_any (HT.out.grew g) hx key hy (Pl.ok_key hkn))
  have HO := hid (fun W W2 r (gW : Grew w W) => put_new (W2 := W2) (r := r) h gW ⟨key, val, v⟩ hkn hb hy)
  have hfar : ∀ g, Value.ownBlock (.slice a xs.length cap) = some g → g < w.heap.size ∧ g ≠ tb := fun g hg => ⟨h.lt g (h.foot1 g hg).1, (h.foot1 g hg).2⟩
  have HFA := hid hfar
  have HI := hid (fun W (gW : Grew w W) vb hvb hne => insPair W 0 a xs.length cap (prFlat xs) (h.grew gW).row (Nat.zero_le _) (prFlat_one' xs) (Pl.pos xs key) (Pl.pos_le xs key) vb (Pr.vals ⟨key, val, v⟩) 1 hvb rfl (by intro u hu; simp [Pr.vals] at hu; rcases hu with rfl | rfl | rfl <;> rfl) hx hne)
  have c0 := h.cell
  have f0 := h.fz
  have htb : tb < w.heap.size := cell_lt c0
  rw [hb] at HF
  have h64' : (val.size : Int) ≤ 64 := by omega
  clear hE h hn hb hkn hfar
  dsimp only at HO
  generalize Pl.pos xs key = p at *
  go_enter Tryz.func68, Tryz.ntmps68
  go_wp2_with fail
  refine (key_any S E hS.h2 hS.h3 hS.h6 hS.h7 key _ (by omega) HE.out).mono ?_
  rw [HK.out]
  rintro e w1 ⟨rfl, hg1⟩
  go_wp2_with fail
  refine (HF.out _ (hg1.alloc _)).mono ?_
  rintro e w2 ⟨rfl, hg2⟩
  have hG2 : Grew w w2 := (hg1.alloc _).trans hg2
  have s1 := hg1.size
  have s2 := hg2.size
  have k0 : w2.cell? ⟨w1.heap.size, 0, none⟩ = some (.string key) := by rw [hg2.cells.1 _ _ (by simp)]; simp [go_sem]
  have k1 : w2.cell? ⟨w1.heap.size, 1, none⟩ = some (.string val) := by rw [hg2.cells.1 _ _ (by simp)]; simp [go_sem]
  have k2 : w2.cell? ⟨w1.heap.size, 2, none⟩ = some (.int .i64 v) := by rw [hg2.cells.1 _ _ (by simp)]; simp [go_sem]
  have c0' := (hG2.cells.1 tb 0 htb).trans c0
  have f0' := (hG2.cells.2 tb 0 htb).trans f0
  have hz1 : w1.heap.size < w2.heap.size := by have := hg2.size; simp at this; omega
  have hz2 : tb < w2.heap.size := by omega
  clear c0 f0 hg1 hg2
  go_wp2_with fail
  have hI2 := HI.out ((w2.alloc (.cells #[.string key, .string val, .int .i64 v] 42)).drew) (hG2.alloc _).drew w2.heap.size (heap_alloc_new w2 _) (fun e => Nat.ne_of_lt (Nat.lt_of_lt_of_le (HFA.out _ e).1 hG2.size) rfl)
  have HI2 := hid hI2
  clear hI2
  go_region_with ((go_at_call 116
                   refine HI2.out.mono ?_
                   rintro e w3 ⟨r, rfl, hIns⟩
                   have o3 : Only (fun j => some j = Value.ownBlock (.slice a xs.length cap)) w2 w3 := ((((Grew.refl w2).drew).alloc _).only _).then (Only.of_grownBy hIns.grown)
                   have n1 : ¬ some tb = Value.ownBlock (.slice a xs.length cap) := fun e => (HFA.out tb e.symm).2 rfl
                   have d1 := (o3.cell hz2 n1 0).trans c0'
                   have d2 := (o3.frozen hz2 n1 0).trans f0'
                   have HIns := hid hIns
                   obtain ⟨⟨g3, cap3, rfl, _⟩, _, _⟩ := hIns
                   clear o3 n1))
  all_goals (
    go_wp2_with fail
    go_ret
    exact ⟨rfl, HO.out _ _ _ (hG2.alloc _).drew HIns.out⟩)
end Go.Proofs.YtbdagllflamabaaGreatDoor
