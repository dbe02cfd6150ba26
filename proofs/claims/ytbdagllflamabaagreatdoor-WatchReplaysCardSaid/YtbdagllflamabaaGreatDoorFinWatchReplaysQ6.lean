/- InsPair, St6: one text. -/
import Derived.Test.YtbdagllflamabaaGreatDoorFinWatchReplaysQ4
import Derived.Laws.Externs
import Derived.IntWalk
import Derived.Test.YtbdagllflamabaaGreatDoorFinWatchReplaysQ5
import Derived.Deep.AppendLies
namespace Go.Proofs.YtbdagllflamabaaGreatDoor
open Go.RowKit Go.Maps
attribute [local go_sem] Oper.semAt_some
theorem infoPair : (Tryz.prog.info? 42).map (fun i => (i.zero, i.size, i.bytes)) = some (some (.agg #[.string ⟨#[]⟩, .string ⟨#[]⟩, .int .i64 0]), 3, 40) := by kernel_rfl
theorem sizePair : (Tryz.prog.info? 42).map (·.size) = some 3 := by kernel_rfl
structure InsPair (w w' : World) (v r : Value) (B n : Nat) (ys : List Value) : Prop where
  form : ∃ g cap, r = .slice (some ⟨g, 0, none⟩) n cap ∧ (v.ownBlock = some g ∨ w.heap.size ≤ g)
  row : w'.ownsRow B 42 3 r n ys
  grown : w.grownBy w' v.ownBlock
set_option maxRecDepth 100000 in
set_option maxHeartbeats 4000000 in
theorem ins_endPair (w : World) (B : Nat) (v : Value) (n : Nat) (xs : List Value) (a0 : Option Addr) (c0 : Nat) (hv : v = .slice a0 n c0) (h : w.ownsRow B 42 3 v n xs) (hB : B ≤ w.heap.size) (vb : Nat) (pv : List Value) (vc : Nat) (hvb : w.heap[vb]? = some (.cells pv.toArray 42 (0, 0))) (hpl : pv.length = 3) (h1v : ∀ u ∈ pv, u.oneCell' = true) (hbig : n ≤ 1000000) :
    Calls Tryz.prog 116 #[.slice a0 n c0, .int .i64 n, .slice (some ⟨vb, 0, none⟩) 1 vc] w fun e w' => ∃ r, e = .returned r ∧ InsPair w w' v r B (n + 1) (xs ++ pv) := by
  subst hv
  obtain ⟨i0, hi0, hz0, hz1, hz2⟩ := info_parts infoPair
  have hcell : ∀ j u, pv[j]? = some u → w.cell? ((⟨vb, 0, none⟩ : Addr).add j) = some u := fun j u hj => by
    rw [Addr.add_lit, Nat.zero_add, cell_block hvb]; exact hj
  have HC := hid hcell
  have HP := hid hpl
  have H1 := hid h1v
  have HH := hid h
  have hnil : a0 = none → n = 0 ∧ c0 = 0 := fun e => by
    subst e
    rcases h.2 with ⟨e1, e2⟩ | ⟨_, _, _, e1, _⟩
    · cases e1; exact ⟨rfl, rfl⟩
    · cases e1
  clear hcell hpl h1v h hvb
  go_enter Tryz.func116, Tryz.ntmps116
  rcases HH.out.2 with ⟨e1, e2⟩ | ⟨g, cap, cur, e1, e3, e4, e5, e6, e7, e8⟩
  · cases e1
    clear e2 hnil
    go_wp2_with (at_builtin; refine wpList_append_lies _ rfl _ _ 36 rfl B 42 i0 _ 3 40 Tryz.underlying36 hi0 hz0 hz1 hz2 rfl (by omega) _ 0 xs rfl HH.out ⟨vb, 0, none⟩ 1 vc pv rfl HP.out HC.out H1.out (by omega) (by unfold maxLen; omega) (by omega) hB _ rfl ?_)
    intro g cap w1 hown hgrow hat hlt
    have HO := hid hown
    have HG := hid hgrow
    have HA := hid hat
    clear hown hgrow hat
    go_wp2_with fail
    go_ret
    exact ⟨_, rfl, ⟨g, cap, rfl, by rcases HA.out with h | h; exact .inl h; exact .inr (by omega)⟩, HO.out, HG.out⟩
  · cases e1
    clear e4 e7 e8 hnil
    have hcap : c0 ≤ 9223372036854775807 := by unfold maxLen at e6; omega
    by_cases hc : c0 = n
    · subst hc
      go_wp2_with (at_builtin; refine wpList_append_lies _ rfl _ _ 36 rfl B 42 i0 _ 3 40 Tryz.underlying36 hi0 hz0 hz1 hz2 rfl (by omega) _ c0 xs rfl HH.out ⟨vb, 0, none⟩ 1 vc pv rfl HP.out HC.out H1.out (by omega) (by unfold maxLen; omega) (by omega) hB _ rfl ?_)
      intro g' cap w1 hown hgrow hat hlt
      have HO := hid hown
      have HG := hid hgrow
      have HA := hid hat
      clear hown hgrow hat
      go_wp2_with fail
      go_ret
      exact ⟨_, rfl, ⟨g', cap, rfl, by rcases HA.out with h | h; exact .inl h; exact .inr (by omega)⟩, HO.out, HG.out⟩
    · go_wp2_with (at_builtin; refine wpList_append_lies _ rfl _ _ 36 rfl B 42 i0 _ 3 40 Tryz.underlying36 hi0 hz0 hz1 hz2 rfl (by omega) _ n xs rfl HH.out ⟨vb, 0, none⟩ 1 vc pv rfl HP.out HC.out H1.out (by omega) (by unfold maxLen; omega) (by omega) hB _ rfl ?_)
      intro g' cap w1 hown hgrow hat hlt
      have HO := hid hown
      have HG := hid hgrow
      have HA := hid hat
      clear hown hgrow hat
      go_wp2_with fail
      go_ret
      exact ⟨_, rfl, ⟨g', cap, rfl, by rcases HA.out with h | h; exact .inl h; exact .inr (by omega)⟩, HO.out, HG.out⟩
theorem sizeOfPair (w : World) : (Go.sizeOf 42).run Tryz.prog w = .ok 3 w := by kernel_rfl
set_option maxRecDepth 100000 in
set_option maxHeartbeats 4000000 in
theorem ins_shiftPair (w : World) (B b n c i : Nat) (cur : List Value) (hb : w.heap[b]? = some (.cells cur.toArray 42 (0, 0))) (hBb : B ≤ b) (hnc : n < c) (hc : c ≤ 9223372036854775807) (hcl : cur.length = c * 3) (hi : i < n) (vb : Nat) (pv : List Value) (vc : Nat) (hvb : w.heap[vb]? = some (.cells pv.toArray 42 (0, 0))) (hpl : pv.length = 3) (h1v : ∀ u ∈ pv, u.oneCell' = true) (h1c : ∀ u ∈ cur.take (n * 3), u.oneCell' = true) (hbig : n ≤ 1000000) (hne : vb ≠ b) :
    Calls Tryz.prog 116 #[.slice (some ⟨b, 0, none⟩) n c, .int .i64 i, .slice (some ⟨vb, 0, none⟩) 1 vc] w fun e w' => ∃ r, e = .returned r ∧ InsPair w w' (.slice (some ⟨b, 0, none⟩) n c) r B (n + 1) ((cur.take (n * 3)).take (i * 3) ++ pv ++ (cur.take (n * 3)).drop (i * 3)) := by
  have hcell : ∀ j u, pv[j]? = some u → w.cell? ((⟨vb, 0, none⟩ : Addr).add j) = some u := fun j u hj => by
    rw [Addr.add_lit, Nat.zero_add, cell_block hvb]; exact hj
  obtain ⟨cs1, hcs1⟩ : ∃ cs1, cs1 = (cur.take (n * 3)).drop (i * 3) := ⟨_, rfl⟩
  have hl1 : cs1.length = (n - i) * 3 := by rw [hcs1]; simp; omega
  have hcp1 : ∀ ty dc sc, (Builtin.copy_ #[36, 36] ty #[.slice (some ⟨b, (i + 1) * 3, none⟩) (n + 1 - (i + 1)) dc, .slice (some ⟨b, i * 3, none⟩) (n + 1 - i) sc]).run Tryz.prog w.drew = .ok (goInt ((n - i : Nat) : Int)) (w.drew.setRow b (spl cur ((i + 1) * 3) cs1).toArray) := fun ty dc sc =>
    run_copy_rowK w.drew _ _ ty 42 3 (n - i) b ((i + 1) * 3) (n + 1 - (i + 1)) dc ⟨b, i * 3, none⟩ (n + 1 - i) sc cur 42 cs1 Tryz.underlying36 sizePair hb (by simp only [Nat.min_def]; split <;> omega) hl1
      (fun j v hj => by
        rw [Addr.add_lit]
        show w.cell? _ = _
        rw [cell_block hb]
        rw [hcs1, List.getElem?_drop, List.getElem?_take] at hj
        split at hj
        · exact hj
        · cases hj)
      (by rw [hl1, hcl]; omega) (fun v hv => h1c v (by rw [hcs1] at hv; exact List.mem_of_mem_drop hv))
  obtain ⟨W1, hW1⟩ : ∃ W1, W1 = w.drew.setRow b (spl cur ((i + 1) * 3) cs1).toArray := ⟨_, rfl⟩
  have hh1 : W1.heap[b]? = some (.cells (spl cur ((i + 1) * 3) cs1).toArray 42 (0, 0)) := by rw [hW1]; exact setRow_heap w.drew b _ _ _ _ hb
  have hll : (spl cur ((i + 1) * 3) cs1).length = cur.length := spl_length _ _ _ (by rw [hl1, hcl]; omega)
  have hcp2 : ∀ ty dc, (Builtin.copy_ #[36, 36] ty #[.slice (some ⟨b, i * 3, none⟩) (n + 1 - i) dc, .slice (some ⟨vb, 0, none⟩) 1 vc]).run Tryz.prog W1 = .ok (goInt ((1 : Nat) : Int)) (W1.setRow b (spl (spl cur ((i + 1) * 3) cs1) (i * 3) pv).toArray) := fun ty dc =>
    run_copy_rowK W1 _ _ ty 42 3 1 b (i * 3) (n + 1 - i) dc ⟨vb, 0, none⟩ 1 vc _ 42 pv Tryz.underlying36 sizePair hh1 (by simp only [Nat.min_def]; split <;> omega) (by rw [hpl])
      (fun j v hj => by
        rw [hW1, Addr.add_lit, Nat.zero_add, World.cell?_of_block (w := w.drew) (setRow_other w.drew b vb _ hne)]
        show w.cell? _ = _
        rw [cell_block hvb]; exact hj)
      (by rw [hpl, hll, hcl]; omega) h1v
  have hcp1' : ∀ ty dc sc, (Builtin.copy_ #[36, 36] ty #[.slice (some ⟨b, (i + 1) * 3, none⟩) (n - i) dc, .slice (some ⟨b, i * 3, none⟩) (n + 1 - i) sc]).run Tryz.prog w.drew = .ok (goInt ((n - i : Nat) : Int)) W1 := fun ty dc sc => by rw [hW1]; have := hcp1 ty dc sc; rwa [show n + 1 - (i + 1) = n - i by omega] at this
  obtain ⟨W2, hW2⟩ : ∃ W2, W2 = W1.setRow b (spl (spl cur ((i + 1) * 3) cs1) (i * 3) pv).toArray := ⟨_, rfl⟩
  have hcp2' : ∀ ty dc, (Builtin.copy_ #[36, 36] ty #[.slice (some ⟨b, i * 3, none⟩) (n + 1 - i) dc, .slice (some ⟨vb, 0, none⟩) 1 vc]).run Tryz.prog W1 = .ok (goInt ((1 : Nat) : Int)) W2 := fun ty dc => by rw [hW2]; exact hcp2 ty dc
  have HEND : Hid (InsPair w W2 (.slice (some ⟨b, 0, none⟩) n c) (.slice (some ⟨b, 0, none⟩) (n + 1) c) B (n + 1) ((cur.take (n * 3)).take (i * 3) ++ pv ++ (cur.take (n * 3)).drop (i * 3))) := by
    refine ⟨⟨b, c, rfl, .inl rfl⟩, ?_, ?_⟩
    · refine ownsRow_of_block (cur := spl (spl cur ((i + 1) * 3) cs1) (i * 3) pv) hBb (by rw [hW2]; exact setRow_heap _ _ _ _ _ _ hh1) (by omega) hc (by rw [spl_length _ _ _ (by rw [hpl, hll, hcl]; omega), hll, hcl]) ?_
      rw [hcs1, show (i + 1) * 3 = i * 3 + 3 by omega, show (n + 1) * 3 = n * 3 + 3 by omega]
      exact spl_insert cur (i * 3) 3 (n * 3) _ pv hpl (by omega) (by rw [hcl]; omega) rfl
    · have g1 : w.grownBy W1 (some b) := by rw [hW1]; exact (show w.grownBy w.drew (some b) from ⟨rfl, rfl, rfl, Nat.le_refl _, fun _ _ _ => rfl⟩).trans (grownBy_setRow w.drew b _)
      have g2 : w.grownBy W2 (some b) := by rw [hW2]; exact g1.trans (grownBy_setRow W1 b _)
      exact g2
  have hvbl : vb < w.heap.size := (Array.getElem?_eq_some_iff.1 hvb).1
  have hov : ∀ lb cb, (callFunc 157 #[.slice (some ⟨vb, 0, none⟩) 1 vc, .slice (some ⟨b, (i + 1) * 3, none⟩) lb cb]).run Tryz.prog w = .ok (.value (.bool false)) w := fun lb cb => by
    rw [run_callFunc_extern Tryz.func157 (by kernel_rfl) (by kernel_rfl) (by kernel_rfl) (e := Extern.SlicesOverlaps.overlaps #[36, 36] #[4]) (by kernel_rfl),
      Lib.run_overlaps_apart w 36 4 42 Tryz.underlying36 3 sizeOfPair ⟨vb, 0, none⟩ ⟨b, (i + 1) * 3, none⟩ 1 vc lb cb hne 42 42 3 (c * 3) (by simp [World.shape?, hvb, hpl]) (by simp [World.shape?, hb, hcl]) (by omega) (frozen_of_row w vb 0 _ _ hvb) (frozen_of_row w vb 3 _ _ hvb)]
    rfl
  have hbl : b < w.heap.size := (Array.getElem?_eq_some_iff.1 hb).1
  have z1 : ¬ ((i : Int) = (n : Int)) := by omega
  have z2 : ¬ (c < n + 1) := by omega
  have z3 : ¬ ((c : Int) < (n : Int) + 1) := by omega
  have z4 : IntKind.i64.wrap ((i : Int) + 1) = (i : Int) + 1 := IntWalk.i64_in _ (by omega)
  have z5 : (0 : Int) ≤ (i : Int) + 1 := by omega
  have z6 : ((i : Int) + 1).toNat = i + 1 := by omega
  have z7 : ¬ (c = i + 1) := by omega
  have z8 : ¬ (c = i) := by omega
  have z9 : (i : Int) ≤ (n : Int) + 1 := by omega
  have z10 : i ≤ n := by omega
  clear hcs1 hcp1 hcp2 hh1 hW1 hW2 hcell hb hvb hcl hl1 hll h1c h1v hpl hi
  go_enter Tryz.func116, Tryz.ntmps116
  go_wp2_with (simp only [hov])
  go_region_law (refine step_copy_run rfl (.tmp 73) (.tmp 76) 36 36 rfl (.slice (some ⟨b, (i + 1) * 3, none⟩) (n - i) (c - (i + 1))) (.slice (some ⟨b, i * 3, none⟩) (n + 1 - i) (c - i)) (by simp [Act.eval, Act.put]) (by simp [Act.eval, Act.put]) (hcp1' _ _ _) ?_)
  go_wp2_with (at_builtin; refine wpList_copy_run _ rfl _ _ 36 36 rfl _ _ rfl rfl (hcp2' _ _) ?_)
  go_ret
  exact ⟨_, rfl, HEND.out⟩
theorem zcPair : (Value.cells (.agg #[.string ⟨#[]⟩, .string ⟨#[]⟩, .int .i64 0])).size = 3 := by kernel_rfl
set_option maxRecDepth 100000 in
set_option maxHeartbeats 4000000 in
theorem ins_growPair (w : World) (B b n i : Nat) (cur : List Value) (hb : w.heap[b]? = some (.cells cur.toArray 42 (0, 0))) (hB : B ≤ w.heap.size) (hcl : cur.length = n * 3) (hi : i < n) (vb : Nat) (pv : List Value) (vc : Nat) (hvb : w.heap[vb]? = some (.cells pv.toArray 42 (0, 0))) (hpl : pv.length = 3) (h1v : ∀ u ∈ pv, u.oneCell' = true) (h1c : ∀ u ∈ cur, u.oneCell' = true) (hbig : n ≤ 1000000) :
    Calls Tryz.prog 116 #[.slice (some ⟨b, 0, none⟩) n n, .int .i64 i, .slice (some ⟨vb, 0, none⟩) 1 vc] w fun e w' => ∃ r, e = .returned r ∧ InsPair w w' (.slice (some ⟨b, 0, none⟩) n n) r B (n + 1) (cur.take (i * 3) ++ pv ++ cur.drop (i * 3)) := by
  obtain ⟨i0, hi0, hz0, hzs, hzb⟩ := info_parts infoPair
  have hbw : b < w.heap.size := (Array.getElem?_eq_some_iff.1 hb).1
  have hvw : vb < w.heap.size := (Array.getElem?_eq_some_iff.1 hvb).1
  have hold : (Builtin.firstCells i0.size i (.slice (some ⟨b, 0, none⟩) i n)).run Tryz.prog w.drew = .ok (cur.take (i * 3)).toArray w.drew := by
    rw [hzs]
    exact run_firstCells_some w.drew 3 i ⟨b, 0, none⟩ i n (cur.take (i * 3)) (by rw [List.length_take]; omega) (fun j v hj => by
      rw [Addr.add_lit, Nat.zero_add]
      show w.cell? _ = _
      rw [cell_block hb]
      rw [List.getElem?_take] at hj
      split at hj
      · exact hj
      · cases hj)
  obtain ⟨G, hG⟩ : ∃ G, G = grownCap w (n + 1) n 42 := ⟨_, rfl⟩
  obtain ⟨R, hR⟩ : ∃ R : List Value, R = cur.take (i * 3) ++ (Builtin.zeroCells (Value.cells (.agg #[.string ⟨#[]⟩, .string ⟨#[]⟩, .int .i64 0])) (n + 1 - i)).toList ++ (Builtin.zeroCells (Value.cells (.agg #[.string ⟨#[]⟩, .string ⟨#[]⟩, .int .i64 0])) (G - (n + 1))).toList := ⟨_, rfl⟩
  have hGn : n + 1 ≤ G := by rw [hG]; exact grownCap_ge w _ _ _
  have hG63 : G ≤ 9223372036854775807 := by
    have := grownCap_le_maxLen w (n + 1) n 42 (by unfold maxLen; omega)
    rw [← hG] at this
    unfold maxLen at this
    omega
  have hRl : R.length = G * 3 := by
    rw [hR]
    simp only [List.length_append, Array.length_toList, size_zeroCells, zcPair, List.length_take]
    omega
  have hrz : ∀ ty, (Builtin.append_ #[36, 3] ty #[.slice (some ⟨b, 0, none⟩) i n, .int .i64 ((n : Int) + 1 - (i : Int))]).run Tryz.prog w =
      .ok (.slice (some ⟨w.heap.size, 0, none⟩) (n + 1) G) ((w.alloc (.cells R.toArray 42)).drew) := fun ty => by
    have h := Lib.run_append_grow_zeros w 36 3 ty 42 i0 _ .i64 .i64 Tryz.underlying36 Tryz.underlying3 hi0 hz0 (some ⟨b, 0, none⟩) i n (cur.take (i * 3)) hold (n + 1 - i) (by omega) (by omega) (by omega) (by omega) (by rw [hzb]; omega) (by rw [hzb, show i + (n + 1 - i) = n + 1 by omega]; exact growslice_fits (by omega) (by omega))
    rw [show i + (n + 1 - i) = n + 1 by omega, ← hG] at h
    rw [show (n : Int) + 1 - (i : Int) = ((n + 1 - i : Nat) : Int) by omega, h, hR]
    simp only [← List.append_toArray, Array.toArray_toList]
    rfl
  obtain ⟨WA, hWA⟩ : ∃ WA, WA = (w.alloc (.cells R.toArray 42)).drew := ⟨_, rfl⟩
  have hhA : WA.heap[w.heap.size]? = some (.cells R.toArray 42 (0, 0)) := by rw [hWA]; exact heap_alloc_new w _
  have hold2 : ∀ k, k < w.heap.size → WA.heap[k]? = w.heap[k]? := fun k hk => by rw [hWA]; exact heap_alloc_old w _ hk
  rw [← hWA] at hrz
  have hcpA : ∀ ty dc, (Builtin.copy_ #[36, 36] ty #[.slice (some ⟨w.heap.size, i * 3, none⟩) (n + 1 - i) dc, .slice (some ⟨vb, 0, none⟩) 1 vc]).run Tryz.prog WA = .ok (goInt ((1 : Nat) : Int)) (WA.setRow w.heap.size (spl R (i * 3) pv).toArray) := fun ty dc =>
    run_copy_rowK WA _ _ ty 42 3 1 w.heap.size (i * 3) (n + 1 - i) dc ⟨vb, 0, none⟩ 1 vc R 42 pv Tryz.underlying36 sizePair hhA (by simp only [Nat.min_def]; split <;> omega) (by rw [hpl])
      (fun j v hj => by rw [Addr.add_lit, Nat.zero_add, World.cell?_of_block (w := w) (hold2 vb hvw), cell_block hvb]; exact hj)
      (by rw [hpl, hRl]; omega) h1v
  obtain ⟨WB, hWB⟩ : ∃ WB, WB = WA.setRow w.heap.size (spl R (i * 3) pv).toArray := ⟨_, rfl⟩
  have hll : (spl R (i * 3) pv).length = G * 3 := by rw [spl_length _ _ _ (by rw [hpl, hRl]; omega), hRl]
  have hhB : WB.heap[w.heap.size]? = some (.cells (spl R (i * 3) pv).toArray 42 (0, 0)) := by rw [hWB]; exact setRow_heap _ _ _ _ _ _ hhA
  have hold3 : ∀ k, k < w.heap.size → WB.heap[k]? = w.heap[k]? := fun k hk => by rw [hWB]; exact (setRow_other WA _ k _ (by omega)).trans (hold2 k hk)
  rw [← hWB] at hcpA
  obtain ⟨cs1, hcs1⟩ : ∃ cs1, cs1 = cur.drop (i * 3) := ⟨_, rfl⟩
  have hl1 : cs1.length = (n - i) * 3 := by rw [hcs1]; simp; omega
  have hcpB : ∀ ty dc sc, (Builtin.copy_ #[36, 36] ty #[.slice (some ⟨w.heap.size, (i + 1) * 3, none⟩) (n - i) dc, .slice (some ⟨b, i * 3, none⟩) (n - i) sc]).run Tryz.prog WB.drew = .ok (goInt ((n - i : Nat) : Int)) (WB.drew.setRow w.heap.size (spl (spl R (i * 3) pv) ((i + 1) * 3) cs1).toArray) := fun ty dc sc =>
    run_copy_rowK WB.drew _ _ ty 42 3 (n - i) w.heap.size ((i + 1) * 3) (n - i) dc ⟨b, i * 3, none⟩ (n - i) sc _ 42 cs1 Tryz.underlying36 sizePair hhB (by simp only [Nat.min_def]; split <;> omega) hl1
      (fun j v hj => by
        rw [Addr.add_lit]
        show WB.cell? _ = _
        rw [World.cell?_of_block (w := w) (hold3 b hbw), cell_block hb]
        rw [hcs1, List.getElem?_drop] at hj
        exact hj)
      (by rw [hl1, hll]; omega) (fun v hv => h1c v (by rw [hcs1] at hv; exact List.mem_of_mem_drop hv))
  obtain ⟨WC, hWC⟩ : ∃ WC, WC = WB.drew.setRow w.heap.size (spl (spl R (i * 3) pv) ((i + 1) * 3) cs1).toArray := ⟨_, rfl⟩
  rw [← hWC] at hcpB
  have HEND : Hid (InsPair w WC (.slice (some ⟨b, 0, none⟩) n n) (.slice (some ⟨w.heap.size, 0, none⟩) (n + 1) G) B (n + 1) (cur.take (i * 3) ++ pv ++ cur.drop (i * 3))) := by
    refine ⟨⟨w.heap.size, G, rfl, .inr (Nat.le_refl _)⟩, ?_, ?_⟩
    · refine ownsRow_of_block (cur := spl (spl R (i * 3) pv) ((i + 1) * 3) cs1) hB (by rw [hWC]; exact setRow_heap _ _ _ _ _ _ hhB) hGn hG63 (by rw [spl_length _ _ _ (by rw [hl1, hll]; omega), hll]) ?_
      rw [show (n + 1) * 3 = (i + 1) * 3 + cs1.length by rw [hl1]; omega, spl_take _ _ _ (by rw [hll]; omega), show (i + 1) * 3 = i * 3 + pv.length by rw [hpl]; omega, spl_take _ _ _ (by rw [hRl]; omega), hcs1, hR]
      congr 2
      rw [List.append_assoc, List.take_append_of_le_length (by simp; omega)]
      exact List.take_of_length_le (by simp; omega)
    · have g1 : Only (fun _ => False) w WA := by rw [hWA]; exact (((Grew.refl w).alloc _).drew).only _
      have g2 : Only (fun j => j = w.heap.size) w WB := by rw [hWB]; exact (g1.mono (fun j hj => hj.elim)).then (only_setRow WA _ _)
      have g3 : Only (fun j => j = w.heap.size) w WC := by rw [hWC]; exact g2.drew.then (only_setRow WB.drew _ _)
      exact g3.toGrownBy (fun j hj => .inr (by omega))
  have z1 : ¬ ((i : Int) = (n : Int)) := by omega
  have z4 : IntKind.i64.wrap ((i : Int) + 1) = (i : Int) + 1 := IntWalk.i64_in _ (by omega)
  have z5 : (0 : Int) ≤ (i : Int) + 1 := by omega
  have z6 : ((i : Int) + 1).toNat = i + 1 := by omega
  have z7 : ¬ (G = i + 1) := by omega
  have z8 : ¬ (G = i) := by omega
  have z9 : (i : Int) ≤ (n : Int) := by omega
  have z10 : i ≤ n := by omega
  have z11 : ¬ (n = i) := by omega
  have z12 : (n : Int) < (n : Int) + 1 := by omega
  clear hold hG hR hGn hRl hWA hhA hold2 hWB hll hhB hold3 hcs1 hl1 hWC hb hvb hcl h1c h1v hpl hi
  go_enter Tryz.func116, Tryz.ntmps116
  go_wp2_with (first
    | (at_builtin; refine Lib.wpList_append_run _ rfl _ _ _ _ rfl _ _ rfl rfl _ _ (hrz _) ?_)
    | (at_builtin; refine wpList_copy_run _ rfl _ _ 36 36 rfl _ _ rfl rfl (hcpA _ _) ?_))
  go_region_law (refine step_copy_run rfl (.tmp 50) (.tmp 53) 36 36 rfl (.slice (some ⟨w.heap.size, (i + 1) * 3, none⟩) (n - i) (G - (i + 1))) (.slice (some ⟨b, i * 3, none⟩) (n - i) (n - i)) (by simp [Act.eval, Act.put]) (by simp [Act.eval, Act.put]) (hcpB _ _ _) ?_)
  go_wp2_with fail
  go_ret
  exact ⟨_, rfl, HEND.out⟩
theorem insPair (w : World) (B : Nat) (a0 : Option Addr) (n c0 : Nat) (xs : List Value) (h : w.ownsRow B 42 3 (.slice a0 n c0) n xs) (hB : B ≤ w.heap.size) (h1 : ∀ u ∈ xs, u.oneCell' = true) (i : Nat) (hi : i ≤ n) (vb : Nat) (pv : List Value) (vc : Nat) (hvb : w.heap[vb]? = some (.cells pv.toArray 42 (0, 0))) (hpl : pv.length = 3) (h1v : ∀ u ∈ pv, u.oneCell' = true) (hbig : n ≤ 1000000) (hne : Value.ownBlock (.slice a0 n c0) ≠ some vb) :
    Calls Tryz.prog 116 #[.slice a0 n c0, .int .i64 i, .slice (some ⟨vb, 0, none⟩) 1 vc] w fun e w' => ∃ r, e = .returned r ∧ InsPair w w' (.slice a0 n c0) r B (n + 1) (xs.take (i * 3) ++ pv ++ xs.drop (i * 3)) := by
  by_cases hin : i = n
  · subst hin
    rw [← h.1, List.take_length, List.drop_length, List.append_nil]
    exact ins_endPair w B _ i xs a0 c0 rfl h hB vb pv vc hvb hpl h1v hbig
  · obtain ⟨g, cap, cur, e, hBg, hg, hnc, hc63, hcl, hx⟩ := ownsRow_block h (by omega)
    cases e
    subst hx
    by_cases hr : n < c0
    · exact ins_shiftPair w B g n c0 i cur hg hBg hr hc63 hcl (by omega) vb pv vc hvb hpl h1v h1 hbig (fun e => hne (by rw [e]; rfl))
    · obtain rfl : c0 = n := by omega
      have hw : cur.take (c0 * 3) = cur := List.take_of_length_le (by omega)
      rw [hw] at h1 ⊢
      exact ins_growPair w B g c0 i cur hg hB hcl (by omega) vb pv vc hvb hpl h1v h1 hbig
end Go.Proofs.YtbdagllflamabaaGreatDoor
set_option linter.unusedVariables false
set_option linter.unusedSectionVars false
set_option linter.unusedSimpArgs false
namespace Go.Proofs.YtbdagllflamabaaGreatDoor
open Go.RowKit Go.Maps
attribute [local go_sem] Oper.semAt_some
def strFlat (ks : List ByteArray) : List Value := ks.map Value.string
theorem info_str : (Tryz.prog.info? 9).map (fun i => (i.zero, i.size, i.bytes)) = some (some (.string ⟨#[]⟩), 1, 16) := by kernel_rfl
theorem run_append_str {w : World} {B : Nat} {v : Value} {m : Nat} {ks : List ByteArray} (hown : w.ownsRow B 9 1 v m (strFlat ks)) (kb : Nat) (key : ByteArray) (hk : w.cell? ⟨kb, 0, none⟩ = some (.string key)) (hbig : m ≤ 1000000) (hB : B ≤ w.heap.size) (ty : TypeId) :
    ∃ v' w', (Builtin.append_ #[128, 128] ty #[v, .slice (some ⟨kb, 0, none⟩) 1 1]).run Tryz.prog w = .ok v' w' ∧ w'.ownsRow B 9 1 v' (m + 1) (strFlat (ks ++ [key])) ∧ w.grownBy w' v.ownBlock := by
  obtain ⟨i0, hi0, hz0, hz1, hz2⟩ := info_parts info_str
  obtain ⟨g, cap2, w2, h1, h2, h3, h4, h5⟩ := run_append_lies (P := Tryz.prog) (w := w) 128 ty B 9 i0 _ 1 16 Tryz.underlying128 hi0 hz0 hz1 hz2 rfl (by omega) v m (strFlat ks) hown ⟨kb, 0, none⟩ 1 1 [.string key] rfl (fun j u hj => by
    rw [Addr.add_lit]
    cases j with
    | zero => cases hj; exact hk
    | succ j => simp at hj) (fun u hu => by simp at hu; subst hu; rfl) (by omega) (by unfold maxLen; omega) (by omega) hB _ rfl
  refine ⟨_, w2, h1, ?_, h3⟩
  have e : strFlat (ks ++ [key]) = strFlat ks ++ [.string key] := by simp [strFlat]
  rw [e]
  exact h2
@[local go_sem] theorem as_splitting (v : Value) (xT : TypeId) (w : World) : (Instr.typeAssert (.iface 217 v) xT 221 true).run Tryz.prog w = .ok (.tuple #[.agg #[.int .i64 0, .int .i64 0, .int .i64 0, .string ⟨#[]⟩], .bool false]) w := by kernel_rfl
@[local go_sem] theorem as_writing (v : Value) (xT : TypeId) (w : World) : (Instr.typeAssert (.iface 217 v) xT 217 true).run Tryz.prog w = .ok (.tuple #[v, .bool true]) w := by kernel_rfl
set_option maxRecDepth 100000 in
set_option maxHeartbeats 4000000 in
theorem keysE_any {S : Nat → Bool} (hS : KeyT S) (E : Nat → Addr) (e : En) (w : World) (hE : Errs S E w) (hA : EnAt w e) (hk : e.kind = 1) (hr : Pl.rightB e = true) :
    Calls Tryz.prog 98 #[e.agg] w fun r w' => (∃ v, r = .returned v ∧ w'.ownsRow w.heap.size 9 1 v e.ops.length (strFlat (e.ops.map OpR.key))) ∧ Grew w w' := by
  have HR := hid (fun W (g : Grew w W) => rightE_any hS E e W (hE.grew g) (hA.grew g))
  rw [hr] at HR
  have HO := hid (fun W => of_any e W)
  have hrec : Pl.recV e = .iface 217 (.agg #[.int .i64 e.shard, .int .i64 e.client, .int .i64 e.seq, .slice e.opsA e.ops.length e.opsC]) := by unfold Pl.recV; rw [if_pos hk]
  rw [hrec] at HO
  have HOP := hid hA.ops
  have hfew := hA.few
  clear hE hA hr hrec hk
  unfold En.agg En.vals at *
  obtain ⟨kind, shard, other, server, client, seq, key, upto, part, parts, ops, opsA, opsC, dataA, dataL, dataC⟩ := e
  dsimp only at *
  obtain ⟨Y, hY⟩ : ∃ Y, Y = w.alloc (.cells #[.int .i64 kind, .int .i64 shard, .int .i64 other, .int .i64 server, .int .i64 client, .int .i64 seq, .slice opsA ops.length opsC, .string key, .int .i64 upto, .int .i64 part, .int .i64 parts, .slice dataA dataL dataC] 26) := ⟨_, rfl⟩
  have gY : Grew w Y := by rw [hY]; exact (Grew.refl w).alloc _
  have HY := hid hY
  have HGY := hid gY
  have hbY : w.heap.size < Y.heap.size := by rw [hY]; simp
  clear hY gY
  go_enter Tryz.func98, Tryz.ntmps98
  go_wp2_with fail
  rw [← HY.out]
  refine (HR.out Y HGY.out).mono ?_
  rintro e w1 ⟨rfl, hg1⟩
  have d0 : w1.cell? ⟨w.heap.size, 0, none⟩ = some (.int .i64 kind) := (hg1.cells.1 _ 0 hbY).trans (by rw [HY.out]; simp [go_sem])
  have d1 : w1.cell? ⟨w.heap.size, 1, none⟩ = some (.int .i64 shard) := (hg1.cells.1 _ 1 hbY).trans (by rw [HY.out]; simp [go_sem])
  have d2 : w1.cell? ⟨w.heap.size, 2, none⟩ = some (.int .i64 other) := (hg1.cells.1 _ 2 hbY).trans (by rw [HY.out]; simp [go_sem])
  have d3 : w1.cell? ⟨w.heap.size, 3, none⟩ = some (.int .i64 server) := (hg1.cells.1 _ 3 hbY).trans (by rw [HY.out]; simp [go_sem])
  have d4 : w1.cell? ⟨w.heap.size, 4, none⟩ = some (.int .i64 client) := (hg1.cells.1 _ 4 hbY).trans (by rw [HY.out]; simp [go_sem])
  have d5 : w1.cell? ⟨w.heap.size, 5, none⟩ = some (.int .i64 seq) := (hg1.cells.1 _ 5 hbY).trans (by rw [HY.out]; simp [go_sem])
  have d6 : w1.cell? ⟨w.heap.size, 6, none⟩ = some (.slice opsA ops.length opsC) := (hg1.cells.1 _ 6 hbY).trans (by rw [HY.out]; simp [go_sem])
  have d7 : w1.cell? ⟨w.heap.size, 7, none⟩ = some (.string key) := (hg1.cells.1 _ 7 hbY).trans (by rw [HY.out]; simp [go_sem])
  have d8 : w1.cell? ⟨w.heap.size, 8, none⟩ = some (.int .i64 upto) := (hg1.cells.1 _ 8 hbY).trans (by rw [HY.out]; simp [go_sem])
  have d9 : w1.cell? ⟨w.heap.size, 9, none⟩ = some (.int .i64 part) := (hg1.cells.1 _ 9 hbY).trans (by rw [HY.out]; simp [go_sem])
  have d10 : w1.cell? ⟨w.heap.size, 10, none⟩ = some (.int .i64 parts) := (hg1.cells.1 _ 10 hbY).trans (by rw [HY.out]; simp [go_sem])
  have d11 : w1.cell? ⟨w.heap.size, 11, none⟩ = some (.slice dataA dataL dataC) := (hg1.cells.1 _ 11 hbY).trans (by rw [HY.out]; simp [go_sem])
  have HG1 := hid (HGY.out.trans hg1)
  clear hg1 hbY HR
  go_wp2_with fail
  clear d0 d1 d2 d3 d4 d5 d6 d7 d8 d9 d10 d11
  refine (HO.out w1).mono ?_
  rintro e w2 ⟨rfl, hg2⟩
  have HG2 := hid (HG1.out.trans hg2)
  clear hg2 HO
  obtain ⟨X, hX⟩ : ∃ X, X = (w2.alloc (.cells #[.int .i64 0, .int .i64 0, .int .i64 0, .string ⟨#[]⟩] 221)).alloc (.cells #[.int .i64 shard, .int .i64 client, .int .i64 seq, .slice opsA ops.length opsC] 217) := ⟨_, rfl⟩
  have HX := hid hX
  have HGX := hid (show Grew w X from by rw [hX]; exact (HG2.out.alloc _).alloc _)
  clear hX
  go_wp2_with fail
  rw [← HX.out]
  go_loopw [8, 35] (fun v i wr => ∃ k : Nat, k ≤ ops.length ∧ i = .int .i64 k ∧ Hid (wr.ownsRow w.heap.size 9 1 v k (strFlat ((ops.take k).map OpR.key))) ∧ Grew w wr) (fun _ i _ => ops.length - (intOf i).toNat)
  case atStart => exact ⟨0, Nat.zero_le _, rfl, World.ownsRow_nil _ _ _ _, HGX.out⟩
  case round =>
    obtain ⟨k, hk1, rfl, HV, hG⟩ := hrel
    by_cases hlt : k < ops.length
    · rcases HOP.out with h0 | ⟨b, off, rfl, hb, hR⟩
      · rw [h0] at hlt; simp at hlt
      have q0 := (hG.cells.1 b (off + k * 5) hb).trans (hR.kind k hlt)
      have q1 := (hG.cells.1 b (off + k * 5 + 1) hb).trans (hR.key k hlt)
      have q2 := (hG.cells.1 b (off + k * 5 + 2) hb).trans (hR.val k hlt)
      have q3 := (hG.cells.1 b (off + k * 5 + 3) hb).trans (hR.old k hlt)
      have q4 := (hG.cells.1 b (off + k * 5 + 4) hb).trans (hR.ver k hlt)
      have hat : opRAt ops k = ops[k] := opRAt_eq ops k hlt
      have hnx : (ops.take (k + 1)).map OpR.key = (ops.take k).map OpR.key ++ [(opRAt ops k).key] := by
        rw [hat, List.take_succ_eq_append_getElem hlt, List.map_append]; rfl
      have HNX := hid hnx
      clear hR hat hnx
      generalize opRAt ops k = c at *
      obtain ⟨c0, c1, c2, c3, c4⟩ := c
      dsimp only at *
      have HGR := hid hG
      have gA : Grew w ((wr.alloc (.cells #[.int .i64 c0, .string c1, .string c2, .string c3, .int .i64 c4] 104)).alloc (.cells #[.string c1] 9)) := (hG.alloc _).alloc _
      obtain ⟨v', W, hrun, hown, hgb⟩ := run_append_str (w := (wr.alloc (.cells #[.int .i64 c0, .string c1, .string c2, .string c3, .int .i64 c4] 104)).alloc (.cells #[.string c1] 9)) ((World.ownsRow.alloc HV.out _).alloc _) (wr.heap.size + 1) c1 (by simp [go_sem]) (by omega) gA.size 128
      rw [← HNX.out] at hown
      have hGW : Grew w W := ((gA.only _).then (Only.of_grownBy hgb)).grew fun j hj => (HV.out.lt j hj.symm).1
      have HOWN := hid hown
      have HGW := hid hGW
      have HRUN := hid hrun
      clear gA hown hgb hGW hrun HV HNX
      go_wp2_with (at_builtin; refine Lib.wpList_append_run _ rfl _ _ _ _ rfl _ _ rfl rfl _ _ HRUN.out ?_)
      clear q0 q1 q2 q3 q4 HRUN HGR
      go_wp2_with fail
      go_roundw
      case rel => exact ⟨k + 1, by omega, by go_num, HOWN, HGW.out⟩
      case measure => simp [intOf]; omega
    · obtain rfl : k = ops.length := by omega
      go_wp2_with fail
      go_ret
      refine ⟨⟨_, rfl, ?_⟩, hG⟩
      have := HV.out
      rwa [List.take_length] at this
end Go.Proofs.YtbdagllflamabaaGreatDoor
