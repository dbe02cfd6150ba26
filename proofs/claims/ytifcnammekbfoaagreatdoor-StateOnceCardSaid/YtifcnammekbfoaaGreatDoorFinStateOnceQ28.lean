/- ClonePair, IdxCut, TabC: one text. -/
import Derived.Test.YtifcnammekbfoaaGreatDoorFinStateOnceQ1
import Derived.Deep.AppendLies
import Derived.Deep.Upon
import Derived.Lib.AppendZeros
import Derived.Test.YtifcnammekbfoaaGreatDoorFinStateOnceQ6
import Derived.Test.YtifcnammekbfoaaGreatDoorFinStateOnceQ27
/- The walk of slices.Clone at a struct (printed by gen_slices.py). -/

set_option linter.unusedVariables false
set_option linter.unusedSectionVars false
set_option linter.unusedSimpArgs false
namespace Go.Proofs.YtifcnammekbfoaaGreatDoor
open Go.RowKit Go.Maps
attribute [local go_sem] Oper.semAt_some

theorem infoCPair : (Tryz.prog.info? 104).map (fun i => (i.zero, i.size, i.bytes)) = some (some (.agg #[.string ⟨#[]⟩, .string ⟨#[]⟩, .int .i64 0]), 3, 40) := by kernel_rfl
theorem zcCPair : (Value.cells (.agg #[.string ⟨#[]⟩, .string ⟨#[]⟩, .int .i64 0])).size = 3 := by kernel_rfl

theorem eqCPair (gb off m c : Nat) (w : World) : (binOp .eql 28 (.slice (some ⟨gb, off, none⟩) m c) (.slice none 0 0)).run Tryz.prog w = .ok (.bool false) w := by kernel_rfl
theorem eqCnPair (w : World) : (binOp .eql 28 (.slice none 0 0) (.slice none 0 0)).run Tryz.prog w = .ok (.bool true) w := by kernel_rfl
set_option maxRecDepth 100000 in
set_option maxHeartbeats 1000000 in
/-- slices.Clone of a row of at least one. -/
theorem clonePair (w : World) (gb off m c : Nat) (hm : 0 < m) (hbig : m ≤ 1000000) (news : List Value) (hl : news.length = m * 3) (hnews : ∀ j u, news[j]? = some u → w.cell? ⟨gb, off + j, none⟩ = some u) (h1 : ∀ u ∈ news, u.oneCell' = true) :
    Calls Tryz.prog 107 #[.slice (some ⟨gb, off, none⟩) m c] w fun e w' => ∃ g cap, e = .returned (.slice (some ⟨g, 0, none⟩) m cap) ∧ w'.ownsRow w.heap.size 104 3 (.slice (some ⟨g, 0, none⟩) m cap) m news ∧ Grew w w' := by
  obtain ⟨i0, hi0, hz0, hz1, hz2⟩ := info_parts infoCPair
  have had : gb < w.heap.size := by
    have h0 : 0 < news.length := by omega
    have h2 := World.block_lt_of_cell? _ _ (hnews 0 news[0] (List.getElem?_eq_getElem h0))
    exact h2
  have HN : Hid (∀ (t : TypeId) j u, news[j]? = some u → (w.alloc (.cells #[] t)).cell? ⟨gb, off + j, none⟩ = some u) := fun t j u hj => by
    have := hnews j u hj
    rw [← this]
    exact ((Grew.refl w).alloc _).below.cell (World.block_lt_of_cell? _ _ this)
  have HL := hid hl
  have H1 := hid h1
  have HO := hid (fun (t : TypeId) (h : t = 104) => show (w.alloc (.cells #[] t)).ownsRow w.heap.size 104 3 (.slice (some ⟨w.heap.size, 0, none⟩) 0 0) 0 [] from by
    subst h
    exact ownsRow_of_block (cur := []) (Nat.le_refl _) (heap_alloc_new w _) (Nat.le_refl _) (by decide) rfl rfl)
  clear hnews hl h1
  have hEq := eqCPair gb off m c
  go_enter Tryz.func107, Tryz.ntmps107
  go_wp2_with (at_builtin; refine wpList_append_lies _ rfl _ _ 28 rfl w.heap.size 104 i0 _ 3 40 Tryz.underlying28 hi0 hz0 hz1 hz2 zcCPair (by omega) (.slice (some ⟨w.heap.size, 0, none⟩) 0 0) 0 [] rfl (HO.out _ rfl) ⟨gb, off, none⟩ m c news rfl HL.out (fun j u hj => by rw [Addr.add_lit]; exact HN.out _ j u hj) H1.out (by omega) (by unfold maxLen; omega) (by omega) (by simp) _ rfl ?_)
  intro g cap w1 hown hgrow hat hlt
  have HO := hid hown
  have HG := hid hgrow
  clear hown hgrow hat
  go_wp2_with fail
  go_ret
  refine ⟨g, cap, by simp, by simpa using HO.out, ?_⟩
  refine (((Grew.refl w).alloc _).only (fun j => some j = Value.ownBlock (.slice (some ⟨w.heap.size, 0, none⟩) 0 0))).then (Only.of_grownBy HG.out) |>.grew ?_
  intro j hj
  have : j = w.heap.size := Option.some.inj hj
  omega

set_option maxRecDepth 100000 in
/-- .. of nothing. -/
theorem cloneNilPair (w : World) : Calls Tryz.prog 107 #[.slice none 0 0] w fun e w' => e = .returned (.slice none 0 0) ∧ Grew w w' := by
  have hEq := eqCnPair
  go_enter Tryz.func107, Tryz.ntmps107
  go_wp2_with fail
  go_ret
  exact ⟨rfl, Grew.refl w⟩

set_option maxRecDepth 100000 in
/-- .. of a slice that is empty, and isn't nil: a block of its own, without a cell. -/
theorem cloneZeroPair (w : World) (gb off c : Nat) : Calls Tryz.prog 107 #[.slice (some ⟨gb, off, none⟩) 0 c] w fun e w' => e = .returned (.slice (some ⟨w.heap.size, 0, none⟩) 0 0) ∧ w'.ownsRow w.heap.size 104 3 (.slice (some ⟨w.heap.size, 0, none⟩) 0 0) 0 [] ∧ Grew w w' := by
  obtain ⟨i0, hi0, hz0, hz1, hz2⟩ := info_parts infoCPair
  have HO := hid (fun (t : TypeId) (h : t = 104) => show (w.alloc (.cells #[] t)).ownsRow w.heap.size 104 3 (.slice (some ⟨w.heap.size, 0, none⟩) 0 0) 0 [] from by
    subst h
    exact ownsRow_of_block (cur := []) (Nat.le_refl _) (heap_alloc_new w _) (Nat.le_refl _) (by decide) rfl rfl)
  have HG := hid (fun (t : TypeId) => (Grew.refl w).alloc (.cells #[] t))
  have hS : ∀ W : World, Src Tryz.prog i0.size 28 (.slice (some ⟨gb, off, none⟩) 0 c) 0 [] W := fun W => Src.ofSlice W Tryz.underlying28 ⟨gb, off, none⟩ 0 c [] (by simp) (fun j u hj => by simp at hj) (fun u hu => by cases hu)
  have HS := hid hS
  clear hS
  have hEq := eqCPair gb off 0 c
  go_enter Tryz.func107, Tryz.ntmps107
  go_wp2_with (at_builtin; refine Lib.wpList_append_run _ rfl _ _ _ _ rfl _ _ rfl rfl _ _ (run_append_nothing _ 28 28 _ 104 i0 Tryz.underlying28 hi0 _ 0 0 (Nat.le_refl _) _ (HS.out _)) ?_)
  go_wp2_with fail
  go_ret
  exact ⟨rfl, HO.out _ rfl, HG.out _⟩
end Go.Proofs.YtifcnammekbfoaaGreatDoor

/- slices.IndexFunc at tidewater/api.Pair: the first element that a function tells yes of. -/
namespace Go.Proofs.YtifcnammekbfoaaGreatDoor
open Go.RowKit
attribute [local go_sem] Oper.semAt_some

def Pr.aggOf (c : Pr) : Value := .agg c.vals.toArray
set_option maxRecDepth 100000 in
set_option maxHeartbeats 1000000 in
theorem idxCut (p : Pr → Bool) (cb : Nat) (a : Option Addr) (cap : Nat) (xs : List Pr) (w : World) (hA : PairsAt w a xs) (hx : xs.length ≤ 1000000)
    (hp : ∀ j, j < xs.length → ∀ W, Grew w W → Calls Tryz.prog 105 #[(prAt xs j).aggOf, .pointer (some ⟨cb, 0, none⟩)] W fun e W' => e = .returned (.bool (p (prAt xs j))) ∧ Grew W W') :
    Calls Tryz.prog 104 #[.slice a xs.length cap, .func (.func 105) #[] #[.pointer (some ⟨cb, 0, none⟩)]] w fun e w' => e = .returned (.int .i64 (idxI p xs)) ∧ Grew w w' := by
  have HA := hid hA
  have HP := hid hp
  clear hA hp
  go_enter Tryz.func104, Tryz.ntmps104
  go_wp2_with fail
  go_loopw [8] (fun i wr => ∃ k : Nat, k ≤ xs.length ∧ i = .int .i64 k ∧ Hid ((xs.take k).all (fun c => !p c) = true) ∧ Grew w wr) (fun i _ => xs.length - (intOf i).toNat)
  case atStart => exact ⟨0, Nat.zero_le _, rfl, rfl, Grew.refl w⟩
  case round =>
    obtain ⟨k, hk1, rfl, HN, hG⟩ := hrel
    by_cases hlt : k < xs.length
    · rcases HA.out with h0 | ⟨b, off, rfl, hb, hR⟩
      · rw [h0] at hlt; simp at hlt
      have q0 := (hG.cells.1 b (off + k * 3) hb).trans (hR.key k hlt)
      have q1 := (hG.cells.1 b (off + k * 3 + 1) hb).trans (hR.val k hlt)
      have q2 := (hG.cells.1 b (off + k * 3 + 2) hb).trans (hR.ver k hlt)
      have HC := hid (HP.out k hlt)
      have hat : prAt xs k = xs[k] := prAt_eq xs k hlt
      have HAT := hid hat
      clear hR hat
      have HS := hid (idx_some p xs k hlt HN.out)
      have HN2 := hid (idx_next p xs k hlt HN.out)
      rw [← HAT.out] at HS HN2
      generalize prAt xs k = c at *
      clear HAT
      unfold Pr.aggOf at HC
      cases hpc : p c with
      | true =>
        rw [hpc] at HC
        have HS2 := hid (HS.out hpc)
        obtain ⟨c0, c1, c2⟩ := c
        dsimp only [Pr.vals] at *
        clear hpc HS HN2
        go_wp2_with fail
        refine (HC.out _ hG).mono ?_
        rintro e w1 ⟨rfl, hg1⟩
        go_wp2_with fail
        go_ret
        exact ⟨ret_int HS2.out.symm, hG.trans hg1⟩
      | false =>
        rw [hpc] at HC
        have HS2 := hid (HN2.out hpc)
        obtain ⟨c0, c1, c2⟩ := c
        dsimp only [Pr.vals] at *
        clear hpc HS HN2
        go_wp2_with fail
        refine (HC.out _ hG).mono ?_
        rintro e w1 ⟨rfl, hg1⟩
        go_wp2_with fail
        go_roundw
        case rel => exact ⟨k + 1, by omega, by go_num, HS2, hG.trans hg1⟩
        case measure => simp [intOf]; omega
    · obtain rfl : k = xs.length := by omega
      have HE := hid (idx_none p xs (by have := HN.out; rwa [List.take_length] at this))
      go_wp2_with fail
      go_ret
      exact ⟨ret_int HE.out.symm, hG⟩
end Go.Proofs.YtifcnammekbfoaaGreatDoor

/- slices.Clone of a table's pairs, whatever they are; the walk of table.Cut. -/
namespace Go.Proofs.YtifcnammekbfoaaGreatDoor
open Go.RowKit Go.Maps
attribute [local go_sem] Oper.semAt_some

/-- slices.Clone of pairs: a row of its own. -/
theorem cloneP_any (w : World) (a : Option Addr) (n cap : Nat) (xs : List Pr) (hn : n = xs.length) (hA : PairsAt w a xs) (hf : SlForm a cap) (hx : xs.length ≤ 1000000) :
    Calls Tryz.prog 107 #[.slice a n cap] w fun e w' => ∃ a' c', e = .returned (.slice a' n c') ∧ w'.ownsRow w.heap.size 104 3 (.slice a' n c') xs.length (prFlat xs) ∧ Grew w w' := by
  subst hn
  rcases Nat.eq_zero_or_pos xs.length with h0 | h0
  · have e := List.eq_nil_of_length_eq_zero h0
    subst e
    rcases hf with ⟨rfl, rfl⟩ | ⟨b, off, rfl⟩
    · exact (cloneNilPair w).mono fun e w' ⟨he, hg⟩ => ⟨_, _, he, World.ownsRow_nil _ _ _ _, hg⟩
    · exact (cloneZeroPair w b off cap).mono fun e w' ⟨he, hr, hg⟩ => ⟨_, _, he, hr, hg⟩
  · rcases hA with h1 | ⟨b, off, rfl, hb, hR⟩
    · rw [h1] at h0; simp at h0
    · exact (clonePair w b off xs.length cap h0 hx (prFlat xs) (prFlat_length xs) hR.cells (prFlat_one' xs)).mono fun e w' ⟨g, cap, he, hr, hg⟩ => ⟨_, _, he, hr, hg⟩

theorem tabAt_srt {w : World} {F : Nat → Prop} {tb : Nat} {xs : List Pr} (h : TabAt w F tb xs) : Pl.Srt xs := by obtain ⟨v, h⟩ := h; exact h.srt
theorem tabAt_sz {w : World} {F : Nat → Prop} {tb : Nat} {xs : List Pr} (h : TabAt w F tb xs) : ∀ c ∈ xs, c.key.size ≤ 70368744177664 := by obtain ⟨v, h⟩ := h; exact h.sz
theorem tabAt_lt {w : World} {F : Nat → Prop} {tb : Nat} {xs : List Pr} (h : TabAt w F tb xs) : ∀ j, F j → j < w.heap.size := by obtain ⟨v, h⟩ := h; exact h.lt
theorem tabAt_foot {w : World} {F : Nat → Prop} {tb : Nat} {xs : List Pr} (h : TabAt w F tb xs) : F tb := by obtain ⟨v, h⟩ := h; exact h.foot0
/-- A table out of its cell and its row. -/
theorem tabAt_mk {w : World} {tb B : Nat} {v : Value} {xs : List Pr} (hc : w.cell? ⟨tb, 0, none⟩ = some v) (hf : w.frozen? ⟨tb, 0, none⟩ = false) (hr : w.ownsRow B 104 3 v xs.length (prFlat xs)) (hB : tb < B ∨ ∀ g, v.ownBlock = some g → g ≠ tb) (hs : Pl.Srt xs) (hz : ∀ c ∈ xs, c.key.size ≤ 70368744177664) :
    TabAt w (fun j => j = tb ∨ (v.ownBlock = some j ∧ B ≤ j)) tb xs := by
  refine ⟨v, ⟨hc, hf, ownsRow_zero hr, hs, hz, .inl rfl, fun g hg => ⟨.inr ⟨hg, (hr.lt g hg).1⟩, ?_⟩, ?_⟩⟩
  · rcases hB with hB | hB
    · have := (hr.lt g hg).1; omega
    · exact hB g hg
  · rintro j (rfl | ⟨hj, _⟩)
    · exact cell_lt hc
    · exact (hr.lt j hj).2

/-- What a cut leaves. -/
def CutEnd (w : World) (F : Nat → Prop) (tb : Nat) (ys zs : List Pr) (ob : Nat) (w' : World) : Prop :=
  Only F w w' ∧ ∃ F' Fo, TabAt w' F' tb ys ∧ TabAt w' Fo ob zs ∧ (∀ j, F' j → F j ∨ w.heap.size ≤ j) ∧ ∀ j, Fo j → w.heap.size ≤ j ∧ ¬ F' j
theorem CutEnd.bare {w w1 w' : World} {F : Nat → Prop} {tb : Nat} {xs : List Pr} (h : TabAt w F tb xs) (g1 : Grew w w1) (g2 : Grew w1 w') (hT : TabAt w' (fun j => j = w1.heap.size) w1.heap.size []) : CutEnd w F tb xs [] w1.heap.size w' := by
  refine ⟨(g1.trans g2).only F, F, _, h.grew (g1.trans g2), hT, fun _ => .inl, ?_⟩
  rintro j rfl
  refine ⟨g1.size, fun hF => ?_⟩
  have := tabAt_lt h _ hF
  have := g1.size
  omega
theorem CutEnd.two {w w1 w2 w4 : World} {F : Nat → Prop} {tb n : Nat} {xs : List Pr} {v1 v2 : Value} {T : TypeId} (h : TabAt w F tb xs) (g1 : Grew w w1) (r1 : w2.ownsRow w1.heap.size 104 3 v1 (xs.drop n).length (prFlat (xs.drop n))) (g2 : Grew w1 w2)
    (r2 : w4.ownsRow (w2.alloc (.cells #[v1] T)).heap.size 104 3 v2 (xs.take n).length (prFlat (xs.take n))) (g4 : Grew (w2.alloc (.cells #[v1] T)) w4) :
    CutEnd w F tb (xs.take n) (xs.drop n) w2.heap.size (w4.setCell ⟨tb, 0, none⟩ v2) := by
  have htb : tb < w.heap.size := tabAt_lt h _ (tabAt_foot h)
  have s1 := g1.size
  have s2 := g2.size
  have s4 := g4.size
  have hw4 : w2.heap.size < w4.heap.size := by simp at s4; omega
  have o5 := Only.setCell w4 ⟨tb, 0, none⟩ v2
  have hs := tabAt_srt h
  have hz := tabAt_sz h
  obtain ⟨v, hT⟩ := h
  have hg := g1.trans (g2.trans (((Grew.refl w2).alloc (.cells #[v1] T)).trans g4))
  have hc4 : w4.cell? ⟨tb, 0, none⟩ = some v := (hg.cells.1 _ _ htb).trans hT.cell
  have hf4 : w4.frozen? ⟨tb, 0, none⟩ = false := (hg.cells.2 _ _ htb).trans hT.fz
  have b1 : ∀ g, v1.ownBlock = some g → w1.heap.size ≤ g ∧ g < w2.heap.size := fun g hg => r1.lt g hg
  have b2 : ∀ g, v2.ownBlock = some g → (w2.alloc (.cells #[v1] T)).heap.size ≤ g ∧ g < w4.heap.size := fun g hg => r2.lt g hg
  have m1 := tabAt_mk (w := w4.setCell ⟨tb, 0, none⟩ v2) (tb := tb) (B := (w2.alloc (.cells #[v1] T)).heap.size) (v := v2) (xs := xs.take n) (by simp [World.cell?_setCell_same, hc4]) (by rw [World.frozen?_setCell]; exact hf4)
    (ownsRow_kept r2 o5 (fun b hb e => by have := (b2 b hb).1; simp at this e; omega)) (.inl (by simp; omega)) (Pl.srt_take hs n) (fun c hc => hz c (List.mem_of_mem_take hc))
  have hcB : w4.cell? ⟨w2.heap.size, 0, none⟩ = some v1 := by rw [g4.cells.1 _ _ (by simp)]; simp [go_sem]
  have hfB : w4.frozen? ⟨w2.heap.size, 0, none⟩ = false := by rw [g4.cells.2 _ _ (by simp)]; simp [go_sem]
  have m2 := tabAt_mk (w := w4.setCell ⟨tb, 0, none⟩ v2) (tb := w2.heap.size) (B := w1.heap.size) (v := v1) (xs := xs.drop n)
    ((o5.cell hw4 (by simp; omega) 0).trans hcB) ((o5.frozen hw4 (by simp; omega) 0).trans hfB)
    (ownsRow_kept (ownsRow_grew (((Grew.refl w2).alloc (.cells #[v1] T)).trans g4) r1) o5 (fun b hb e => by have := (b1 b hb).1; simp at e; omega)) (.inr fun g hg => by have := (b1 g hg).2; omega) (Pl.srt_drop hs n) (fun c hc => hz c (List.mem_of_mem_drop hc))
  refine ⟨(hg.only F).then (o5.mono fun j hj => .inl (by subst hj; exact hT.foot0)), _, _, m1, m2, ?_, ?_⟩
  · rintro j (rfl | ⟨_, hj⟩)
    · exact .inl hT.foot0
    · simp at hj; exact .inr (by omega)
  · rintro j hj
    have hlo : w1.heap.size ≤ j ∧ j ≤ w2.heap.size := by
      rcases hj with rfl | ⟨hj, hj2⟩
      · omega
      · have := (b1 j hj).2; omega
    refine ⟨by omega, ?_⟩
    rintro (rfl | ⟨hj3, hj4⟩)
    · omega
    · simp at hj4; omega

theorem cutLess (c : Pr) (cb : Nat) (key : ByteArray) (w : World) (hc : w.cell? ⟨cb, 0, none⟩ = some (.string key)) (hs : c.key.size ≤ 70368744177664) (hy : key.size ≤ 70368744177664) :
    Calls Tryz.prog 105 #[c.aggOf, .pointer (some ⟨cb, 0, none⟩)] w fun e w' => e = .returned (.bool (decide (0 ≤ Pl.compare c.key key))) ∧ Grew w w' := by
  have HC := hid (fun W => compare_any c.key key W hs hy)
  generalize Pl.compare c.key key = r at *
  obtain ⟨k, v, n⟩ := c
  unfold Pr.aggOf Pr.vals
  dsimp only at *
  have hb : cb < w.heap.size := cell_lt hc
  go_enter Tryz.func105, Tryz.ntmps105
  go_wp2_with fail
  refine (HC.out _).mono ?_
  rintro e w1 ⟨rfl, hg⟩
  go_wp2_with fail
  go_ret
  exact ⟨ret_bool (by simp), ((Grew.refl w).alloc _).trans hg⟩

set_option maxRecDepth 100000 in
set_option maxHeartbeats 4000000 in
theorem cutT_any {w : World} {F : Nat → Prop} {tb : Nat} {xs : List Pr} (h : TabAt w F tb xs) (hx : xs.length ≤ 1000000) (key : ByteArray) (hy : key.size ≤ 70368744177664) :
    Calls Tryz.prog 52 #[.pointer (some ⟨tb, 0, none⟩), .string key] w fun e w' => ∃ ob, e = .returned (.pointer (some ⟨ob, 0, none⟩)) ∧ CutEnd w F tb (xs.take (Pl.cutN xs key)) (xs.drop (Pl.cutN xs key)) ob w' := by
  have HT := hid h
  obtain ⟨vv, h⟩ := h
  obtain ⟨a, cap, rfl, hA⟩ := pairsAt_of h.row
  have c0 := h.cell
  have htb : tb < w.heap.size := cell_lt c0
  have hI := fun W (g : Grew w W) (hc : W.cell? ⟨w.heap.size, 0, none⟩ = some (.string key)) => idxCut (fun c => decide (0 ≤ Pl.compare c.key key)) w.heap.size a cap xs W (hA.grew g) hx
    (fun j hj W' g' => cutLess (prAt xs j) w.heap.size key W' ((g'.cells.1 _ _ (cell_lt hc)).trans hc) (h.sz _ (Pl.prAt_mem xs j hj)) hy)
  have hidx := fun hr : Pl.right key = true => Pl.idx_cut h.srt hr
  have hbnd : Pl.right key = false → Pl.cutN xs key = xs.length := fun hr => by unfold Pl.cutN; rw [if_neg (by simp [hr])]
  have hle := Pl.cutN_le xs key
  generalize hi : idxI (fun c : Pr => decide (0 ≤ Pl.compare c.key key)) xs = i at *
  have hir : (i : Int) = -1 ∨ ∃ m : Nat, i = m := by
    rw [← hi]; unfold idxI; split
    · exact .inr ⟨_, rfl⟩
    · exact .inl rfl
  clear hi
  have HI := hid hI
  have HR := hid (fun W => right_any key W (by omega))
  by_cases hr : Pl.right key = true
  · have hidx := hidx hr
    rw [hr] at HR
    by_cases hlt : Pl.cutN xs key < xs.length
    · rw [if_pos hlt] at hidx
      obtain ⟨v0, hv0⟩ : ∃ g, a = some ⟨g, 0, none⟩ := by
        obtain ⟨g, cap', e, _⟩ := h.row.form (by omega : 0 < xs.length)
        cases e
        exact ⟨g, rfl⟩
      subst hv0
      rcases hA with h0 | ⟨b, off, hab, hb, hR⟩
      · rw [h0] at hlt; simp at hlt
      cases hab
      have HE := hid (fun w1 w2 w4 v1 v2 T g1 r1 g2 r2 g4 => CutEnd.two (w1 := w1) (w2 := w2) (w4 := w4) (v1 := v1) (v2 := v2) (T := T) (n := Pl.cutN xs key) HT.out g1 r1 g2 r2 g4)
      have HC1 := hid (fun W (g : Grew w W) => cloneP_any W (some ⟨v0, Pl.cutN xs key * 3, none⟩) (xs.length - Pl.cutN xs key) (cap - Pl.cutN xs key) (xs.drop (Pl.cutN xs key)) (by rw [List.length_drop]) (.inr ⟨v0, Pl.cutN xs key * 3, rfl, Nat.lt_of_lt_of_le hb g.size, by have := (hR.grew g hb).drop (Pl.cutN xs key); rwa [Nat.zero_add] at this⟩) (.inr ⟨_, _, rfl⟩) (by rw [List.length_drop]; omega))
      have HC2 := hid (fun W (g : Grew w W) => cloneP_any W (some ⟨v0, 0, none⟩) (Pl.cutN xs key) cap (xs.take (Pl.cutN xs key)) (by rw [List.length_take]; omega) (.inr ⟨v0, 0, rfl, Nat.lt_of_lt_of_le hb g.size, (hR.grew g hb).take _⟩) (.inr ⟨_, _, rfl⟩) (by rw [List.length_take]; omega))
      have hcap : xs.length ≤ cap := by
        rcases h.row.2 with ⟨e, _⟩ | ⟨b, c, cur, e1, h2, h3, h4, _⟩
        · cases e
        · cases e1; exact h4
      have f0 := h.fz
      subst hidx
      clear h hI hbnd hir hr hR hle
      generalize xs.drop (Pl.cutN xs key) = zs at *
      generalize xs.take (Pl.cutN xs key) = ys at *
      generalize Pl.cutN xs key = n at *
      have hltI : (n : Int) < (xs.length : Int) := by omega
      have hltB : (n : Int) ≤ 1000000 := by omega
      have hn0 : ¬ ((n : Int) < 0) := by omega
      go_enter Tryz.func52, Tryz.ntmps52
      go_wp2_with fail
      refine (HI.out _ ((Grew.refl w).alloc _) (by simp [go_sem])).mono ?_
      rintro e w1 ⟨rfl, hg1⟩
      have hG1 : Grew w w1 := ((Grew.refl w).alloc _).trans hg1
      have k0 : w1.cell? ⟨w.heap.size, 0, none⟩ = some (.string key) := by rw [hg1.cells.1 _ _ (by simp)]; simp [go_sem]
      have hk1 : w.heap.size < w1.heap.size := by have := hg1.size; simp at this; omega
      have c1 := (hG1.cells.1 _ 0 htb).trans c0
      clear hg1
      go_wp2_with fail
      refine (HR.out _).mono ?_
      rintro e w2 ⟨rfl, p, rfl⟩
      have hG2 : Grew w (w1.iter key p) := hG1.iter _ _
      have c2 := (hG2.cells.1 _ 0 htb).trans c0
      have HG2 := hid hG2
      clear c1 k0 hG1 hG2 hk1
      generalize w1.iter key p = w2 at *
      go_wp2_with fail
      refine (HC1.out _ HG2.out).mono ?_
      rintro e w3 ⟨v1, d1, rfl, hr1, hg3⟩
      have HR1 := hid (And.intro hr1 hg3)
      have hG3 := HG2.out.trans hg3
      have c3 := (hG3.cells.1 _ 0 htb).trans c0
      have hb3 := Nat.lt_of_lt_of_le htb hG3.size
      have HG3 := hid hG3
      clear hr1 hg3 hG3 c2
      go_wp2_with fail
      refine (HC2.out _ (HG3.out.alloc _)).mono ?_
      rintro e w4 ⟨v2, d2, rfl, hr2, hg4⟩
      have HEND := hid (HE.out _ _ _ _ _ _ HG2.out HR1.out.1 HR1.out.2 hr2 hg4)
      have hG4 := (HG3.out.alloc _).trans hg4
      have c4 := (hG4.cells.1 _ 0 htb).trans c0
      have f4 := (hG4.cells.2 _ 0 htb).trans f0
      clear hr2 hg4 hG4 c3
      go_wp2_with fail
      go_ret
      exact ⟨_, rfl, HEND.out⟩
    · have hn : Pl.cutN xs key = xs.length := by omega
      rw [if_neg hlt] at hidx
      rw [hn, List.take_length, List.drop_length]
      subst hidx
      clear h hI hbnd hir hr hle hn hlt hA
      go_enter Tryz.func52, Tryz.ntmps52
      go_wp2_with fail
      refine (HI.out _ ((Grew.refl w).alloc _) (by simp [go_sem])).mono ?_
      rintro e w1 ⟨rfl, hg1⟩
      have HG1 : Hid (Grew w w1) := ((Grew.refl w).alloc _).trans hg1
      clear hg1
      go_wp2_with fail
      refine (newT_any _).mono ?_
      rintro e w2 ⟨rfl, hg2, hT2⟩
      have HEND := hid (CutEnd.bare HT.out HG1.out hg2 hT2)
      clear hg2 hT2
      go_wp2_with fail
      go_ret
      exact ⟨_, rfl, HEND.out⟩
  · have hr' : Pl.right key = false := by simpa using hr
    rw [hbnd hr', List.take_length, List.drop_length]
    rw [hr'] at HR
    clear hidx hbnd hle h hI hA hr hr'
    go_enter Tryz.func52, Tryz.ntmps52
    go_wp2_with fail
    refine (HI.out _ ((Grew.refl w).alloc _) (by simp [go_sem])).mono ?_
    rintro e w1 ⟨rfl, hg1⟩
    have hG1 : Grew w w1 := ((Grew.refl w).alloc _).trans hg1
    have k0 : w1.cell? ⟨w.heap.size, 0, none⟩ = some (.string key) := by rw [hg1.cells.1 _ _ (by simp)]; simp [go_sem]
    have hk1 : w.heap.size < w1.heap.size := by have := hg1.size; simp at this; omega
    have HG1 := hid hG1
    clear hg1 hG1
    rcases hir with rfl | ⟨m, rfl⟩
    · go_wp2_with fail
      refine (newT_any _).mono ?_
      rintro e w2 ⟨rfl, hg2, hT2⟩
      have HEND := hid (CutEnd.bare HT.out HG1.out hg2 hT2)
      clear hg2 hT2
      go_wp2_with fail
      go_ret
      exact ⟨_, rfl, HEND.out⟩
    · have hm0 : ¬ ((m : Int) < 0) := by omega
      go_wp2_with fail
      refine (HR.out _).mono ?_
      rintro e w2 ⟨rfl, p, rfl⟩
      have HG2 := hid (HG1.out.iter key p)
      clear k0 hk1 HG1
      generalize w1.iter key p = w2 at *
      go_wp2_with fail
      refine (newT_any _).mono ?_
      rintro e w3 ⟨rfl, hg2, hT2⟩
      have HEND := hid (CutEnd.bare HT.out HG2.out hg2 hT2)
      clear hg2 hT2
      go_wp2_with fail
      go_ret
      exact ⟨_, rfl, HEND.out⟩
end Go.Proofs.YtifcnammekbfoaaGreatDoor
