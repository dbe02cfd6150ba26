/- InsPair, Tab2: one text. -/
import Derived.Test.YtbdagllflamabaaGreatDoorFinAuditApartQ3
import Derived.Laws.Externs
import Derived.IntWalk
import Derived.Test.YtbdagllflamabaaGreatDoorFinAuditApartQ17
namespace Go.Proofs.YtbdagllflamabaaGreatDoor
open Go.RowKit Go.Maps
attribute [local go_sem] Oper.semAt_some
theorem infoPair : (Tryz.prog.info? 42).map (fun i => (i.zero, i.size, i.bytes)) = some (some (.agg #[.string ⟨#[]⟩, .string ⟨#[]⟩, .int .i64 0]), 3, 40) := by kernel_rfl
theorem sizePair : (Tryz.prog.info? 42).map (·.size) = some 3 := by kernel_rfl
structure InsPair (w w' : World) (v r : Value) (B n : Nat) (ys : List Value) : Prop where
  form : ∃ g cap, r = .slice (some ⟨g, 0, none⟩) n cap ∧ (v.ownBlock = some g ∨ w.heap.size ≤ g)
  row : w'.ownsRow B 42 3 r n ys
  grown : w.grownBy w' v.ownBlock
set_option maxRecDepth 100000 in
set_option maxHeartbeats 4000000 in
theorem ins_endPair (w : World) (B : Nat) (v : Value) (n : Nat) (xs : List Value) (a0 : Option Addr) (c0 : Nat) (hv : v = .slice a0 n c0) (h : w.ownsRow B 42 3 v n xs) (hB : B ≤ w.heap.size) (vb : Nat) (pv : List Value) (vc : Nat) (hvb : w.heap[vb]? = some (.cells pv.toArray 42 (0, 0))) (hpl : pv.length = 3) (h1v : ∀ u ∈ pv, u.oneCell' = true) (hbig : n ≤ 1000000) :
    Calls Tryz.prog 116 #[.slice a0 n c0, .int .i64 n, .slice (some ⟨vb, 0, none⟩) 1 vc] w fun e w' => ∃ r, e = .returned r ∧ InsPair w w' v r B (n + 1) (xs ++ pv) := by
  subst hv
  obtain ⟨i0, hi0, hz0, hz1, hz2⟩ := info_parts infoPair
  have hcell : ∀ j u, pv[j]? = some u → w.cell? ((⟨vb, 0, none⟩ : Addr).add j) = some u := fun j u hj => by
    rw [Addr.add_lit, Nat.zero_add, cell_block hvb]; exact hj
  have HC := hid hcell
  have HP := hid hpl
  have H1 := hid h1v
  have HH := hid h
  have hnil : a0 = none → n = 0 ∧ c0 = 0 := fun e => by
    subst e
    rcases h.2 with ⟨e1, e2⟩ | ⟨_, _, _, e1, _⟩
    · cases e1; exact ⟨rfl, rfl⟩
    · cases e1
  clear hcell hpl h1v h hvb
  go_enter Tryz.func116, Tryz.ntmps116
  rcases HH.out.2 with ⟨e1, e2⟩ | ⟨g, cap, cur, e1, e3, e4, e5, e6, e7, e8⟩
  · cases e1
    clear e2 hnil
    go_wp2_with (at_builtin; refine wpList_append_lies _ rfl _ _ 36 rfl B 42 i0 _ 3 40 Tryz.underlying36 hi0 hz0 hz1 hz2 rfl (by omega) _ 0 xs rfl HH.out ⟨vb, 0, none⟩ 1 vc pv rfl HP.out HC.out H1.out (by omega) (by unfold maxLen; omega) (by omega) hB _ rfl ?_)
    intro g cap w1 hown hgrow hat hlt
    have HO := hid hown
    have HG := hid hgrow
    have HA := hid hat
    clear hown hgrow hat
    go_wp2_with fail
    go_ret
    exact ⟨_, rfl, ⟨g, cap, rfl, by rcases HA.out with h | h; exact .inl h; exact .inr (by omega)⟩, HO.out, HG.out⟩
  · cases e1
    clear e4 e7 e8 hnil
    have hcap : c0 ≤ 9223372036854775807 := by unfold maxLen at e6; omega
    by_cases hc : c0 = n
    · subst hc
      go_wp2_with (at_builtin; refine wpList_append_lies _ rfl _ _ 36 rfl B 42 i0 _ 3 40 Tryz.underlying36 hi0 hz0 hz1 hz2 rfl (by omega) _ c0 xs rfl HH.out ⟨vb, 0, none⟩ 1 vc pv rfl HP.out HC.out H1.out (by omega) (by unfold maxLen; omega) (by omega) hB _ rfl ?_)
      intro g' cap w1 hown hgrow hat hlt
      have HO := hid hown
      have HG := hid hgrow
      have HA := hid hat
      clear hown hgrow hat
      go_wp2_with fail
      go_ret
      exact ⟨_, rfl, ⟨g', cap, rfl, by rcases HA.out with h | h; exact .inl h; exact .inr (by omega)⟩, HO.out, HG.out⟩
    · go_wp2_with (at_builtin; refine wpList_append_lies _ rfl _ _ 36 rfl B 42 i0 _ 3 40 Tryz.underlying36 hi0 hz0 hz1 hz2 rfl (by omega) _ n xs rfl HH.out ⟨vb, 0, none⟩ 1 vc pv rfl HP.out HC.out H1.out (by omega) (by unfold maxLen; omega) (by omega) hB _ rfl ?_)
      intro g' cap w1 hown hgrow hat hlt
      have HO := hid hown
      have HG := hid hgrow
      have HA := hid hat
      clear hown hgrow hat
      go_wp2_with fail
      go_ret
      exact ⟨_, rfl, ⟨g', cap, rfl, by rcases HA.out with h | h; exact .inl h; exact .inr (by omega)⟩, HO.out, HG.out⟩
theorem sizeOfPair (w : World) : (Go.sizeOf 42).run Tryz.prog w = .ok 3 w := by kernel_rfl
set_option maxRecDepth 100000 in
set_option maxHeartbeats 4000000 in
theorem ins_shiftPair (w : World) (B b n c i : Nat) (cur : List Value) (hb : w.heap[b]? = some (.cells cur.toArray 42 (0, 0))) (hBb : B ≤ b) (hnc : n < c) (hc : c ≤ 9223372036854775807) (hcl : cur.length = c * 3) (hi : i < n) (vb : Nat) (pv : List Value) (vc : Nat) (hvb : w.heap[vb]? = some (.cells pv.toArray 42 (0, 0))) (hpl : pv.length = 3) (h1v : ∀ u ∈ pv, u.oneCell' = true) (h1c : ∀ u ∈ cur.take (n * 3), u.oneCell' = true) (hbig : n ≤ 1000000) (hne : vb ≠ b) :
    Calls Tryz.prog 116 #[.slice (some ⟨b, 0, none⟩) n c, .int .i64 i, .slice (some ⟨vb, 0, none⟩) 1 vc] w fun e w' => ∃ r, e = .returned r ∧ InsPair w w' (.slice (some ⟨b, 0, none⟩) n c) r B (n + 1) ((cur.take (n * 3)).take (i * 3) ++ pv ++ (cur.take (n * 3)).drop (i * 3)) := by
  have hcell : ∀ j u, pv[j]? = some u → w.cell? ((⟨vb, 0, none⟩ : Addr).add j) = some u := fun j u hj => by
    rw [Addr.add_lit, Nat.zero_add, cell_block hvb]; exact hj
  obtain ⟨cs1, hcs1⟩ : ∃ cs1, cs1 = (cur.take (n * 3)).drop (i * 3) := ⟨_, rfl⟩
  have hl1 : cs1.length = (n - i) * 3 := by rw [hcs1]; simp; omega
  have hcp1 : ∀ ty dc sc, (Builtin.copy_ #[36, 36] ty #[.slice (some ⟨b, (i + 1) * 3, none⟩) (n + 1 - (i + 1)) dc, .slice (some ⟨b, i * 3, none⟩) (n + 1 - i) sc]).run Tryz.prog w.drew = .ok (goInt ((n - i : Nat) : Int)) (w.drew.setRow b (spl cur ((i + 1) * 3) cs1).toArray) := fun ty dc sc =>
    run_copy_rowK w.drew _ _ ty 42 3 (n - i) b ((i + 1) * 3) (n + 1 - (i + 1)) dc ⟨b, i * 3, none⟩ (n + 1 - i) sc cur 42 cs1 Tryz.underlying36 sizePair hb (by simp only [Nat.min_def]; split <;> omega) hl1
      (fun j v hj => by
        rw [Addr.add_lit]
        show w.cell? _ = _
        rw [cell_block hb]
        rw [hcs1, List.getElem?_drop, List.getElem?_take] at hj
        split at hj
        · exact hj
        · cases hj)
      (by rw [hl1, hcl]; omega) (fun v hv => h1c v (by rw [hcs1] at hv; exact List.mem_of_mem_drop hv))
  obtain ⟨W1, hW1⟩ : ∃ W1, W1 = w.drew.setRow b (spl cur ((i + 1) * 3) cs1).toArray := ⟨_, rfl⟩
  have hh1 : W1.heap[b]? = some (.cells (spl cur ((i + 1) * 3) cs1).toArray 42 (0, 0)) := by rw [hW1]; exact setRow_heap w.drew b _ _ _ _ hb
  have hll : (spl cur ((i + 1) * 3) cs1).length = cur.length := spl_length _ _ _ (by rw [hl1, hcl]; omega)
  have hcp2 : ∀ ty dc, (Builtin.copy_ #[36, 36] ty #[.slice (some ⟨b, i * 3, none⟩) (n + 1 - i) dc, .slice (some ⟨vb, 0, none⟩) 1 vc]).run Tryz.prog W1 = .ok (goInt ((1 : Nat) : Int)) (W1.setRow b (spl (spl cur ((i + 1) * 3) cs1) (i * 3) pv).toArray) := fun ty dc =>
    run_copy_rowK W1 _ _ ty 42 3 1 b (i * 3) (n + 1 - i) dc ⟨vb, 0, none⟩ 1 vc _ 42 pv Tryz.underlying36 sizePair hh1 (by simp only [Nat.min_def]; split <;> omega) (by rw [hpl])
      (fun j v hj => by
        rw [hW1, Addr.add_lit, Nat.zero_add, World.cell?_of_block (w := w.drew) (setRow_other w.drew b vb _ hne)]
        show w.cell? _ = _
        rw [cell_block hvb]; exact hj)
      (by rw [hpl, hll, hcl]; omega) h1v
  have hcp1' : ∀ ty dc sc, (Builtin.copy_ #[36, 36] ty #[.slice (some ⟨b, (i + 1) * 3, none⟩) (n - i) dc, .slice (some ⟨b, i * 3, none⟩) (n + 1 - i) sc]).run Tryz.prog w.drew = .ok (goInt ((n - i : Nat) : Int)) W1 := fun ty dc sc => by rw [hW1]; have := hcp1 ty dc sc; rwa [show n + 1 - (i + 1) = n - i by omega] at this
  obtain ⟨W2, hW2⟩ : ∃ W2, W2 = W1.setRow b (spl (spl cur ((i + 1) * 3) cs1) (i * 3) pv).toArray := ⟨_, rfl⟩
  have hcp2' : ∀ ty dc, (Builtin.copy_ #[36, 36] ty #[.slice (some ⟨b, i * 3, none⟩) (n + 1 - i) dc, .slice (some ⟨vb, 0, none⟩) 1 vc]).run Tryz.prog W1 = .ok (goInt ((1 : Nat) : Int)) W2 := fun ty dc => by rw [hW2]; exact hcp2 ty dc
  have HEND : Hid (InsPair w W2 (.slice (some ⟨b, 0, none⟩) n c) (.slice (some ⟨b, 0, none⟩) (n + 1) c) B (n + 1) ((cur.take (n * 3)).take (i * 3) ++ pv ++ (cur.take (n * 3)).drop (i * 3))) := by
    refine ⟨⟨b, c, rfl, .inl rfl⟩, ?_, ?_⟩
    · refine ownsRow_of_block (cur := spl (spl cur ((i + 1) * 3) cs1) (i * 3) pv) hBb (by rw [hW2]; exact setRow_heap _ _ _ _ _ _ hh1) (by omega) hc (by rw [spl_length _ _ _ (by rw [hpl, hll, hcl]; omega), hll, hcl]) ?_
      rw [hcs1, show (i + 1) * 3 = i * 3 + 3 by omega, show (n + 1) * 3 = n * 3 + 3 by omega]
      exact spl_insert cur (i * 3) 3 (n * 3) _ pv hpl (by omega) (by rw [hcl]; omega) rfl
    · have g1 : w.grownBy W1 (some b) := by rw [hW1]; exact (show w.grownBy w.drew (some b) from ⟨rfl, rfl, rfl, Nat.le_refl _, fun _ _ _ => rfl⟩).trans (grownBy_setRow w.drew b _)
      have g2 : w.grownBy W2 (some b) := by rw [hW2]; exact g1.trans (grownBy_setRow W1 b _)
      exact g2
  have hvbl : vb < w.heap.size := (Array.getElem?_eq_some_iff.1 hvb).1
  have hov : ∀ lb cb, (callFunc 157 #[.slice (some ⟨vb, 0, none⟩) 1 vc, .slice (some ⟨b, (i + 1) * 3, none⟩) lb cb]).run Tryz.prog w = .ok (.value (.bool false)) w := fun lb cb => by
    rw [run_callFunc_extern Tryz.func157 (by kernel_rfl) (by kernel_rfl) (by kernel_rfl) (e := Extern.SlicesOverlaps.overlaps #[36, 36] #[4]) (by kernel_rfl),
      Lib.run_overlaps_apart w 36 4 42 Tryz.underlying36 3 sizeOfPair ⟨vb, 0, none⟩ ⟨b, (i + 1) * 3, none⟩ 1 vc lb cb hne 42 42 3 (c * 3) (by simp [World.shape?, hvb, hpl]) (by simp [World.shape?, hb, hcl]) (by omega) (frozen_of_row w vb 0 _ _ hvb) (frozen_of_row w vb 3 _ _ hvb)]
    rfl
  have hbl : b < w.heap.size := (Array.getElem?_eq_some_iff.1 hb).1
  have z1 : ¬ ((i : Int) = (n : Int)) := by omega
  have z2 : ¬ (c < n + 1) := by omega
  have z3 : ¬ ((c : Int) < (n : Int) + 1) := by omega
  have z4 : IntKind.i64.wrap ((i : Int) + 1) = (i : Int) + 1 := IntWalk.i64_in _ (by omega)
  have z5 : (0 : Int) ≤ (i : Int) + 1 := by omega
  have z6 : ((i : Int) + 1).toNat = i + 1 := by omega
  have z7 : ¬ (c = i + 1) := by omega
  have z8 : ¬ (c = i) := by omega
  have z9 : (i : Int) ≤ (n : Int) + 1 := by omega
  have z10 : i ≤ n := by omega
  clear hcs1 hcp1 hcp2 hh1 hW1 hW2 hcell hb hvb hcl hl1 hll h1c h1v hpl hi
  go_enter Tryz.func116, Tryz.ntmps116
  go_wp2_with (simp only [hov])
  go_region_law (refine step_copy_run rfl (.tmp 73) (.tmp 76) 36 36 rfl (.slice (some ⟨b, (i + 1) * 3, none⟩) (n - i) (c - (i + 1))) (.slice (some ⟨b, i * 3, none⟩) (n + 1 - i) (c - i)) (by simp [Act.eval, Act.put]) (by simp [Act.eval, Act.put]) (hcp1' _ _ _) ?_)
  go_wp2_with (at_builtin; refine wpList_copy_run _ rfl _ _ 36 36 rfl _ _ rfl rfl (hcp2' _ _) ?_)
  go_ret
  exact ⟨_, rfl, HEND.out⟩
theorem zcPair : (Value.cells (.agg #[.string ⟨#[]⟩, .string ⟨#[]⟩, .int .i64 0])).size = 3 := by kernel_rfl
set_option maxRecDepth 100000 in
set_option maxHeartbeats 4000000 in
theorem ins_growPair (w : World) (B b n i : Nat) (cur : List Value) (hb : w.heap[b]? = some (.cells cur.toArray 42 (0, 0))) (hB : B ≤ w.heap.size) (hcl : cur.length = n * 3) (hi : i < n) (vb : Nat) (pv : List Value) (vc : Nat) (hvb : w.heap[vb]? = some (.cells pv.toArray 42 (0, 0))) (hpl : pv.length = 3) (h1v : ∀ u ∈ pv, u.oneCell' = true) (h1c : ∀ u ∈ cur, u.oneCell' = true) (hbig : n ≤ 1000000) :
    Calls Tryz.prog 116 #[.slice (some ⟨b, 0, none⟩) n n, .int .i64 i, .slice (some ⟨vb, 0, none⟩) 1 vc] w fun e w' => ∃ r, e = .returned r ∧ InsPair w w' (.slice (some ⟨b, 0, none⟩) n n) r B (n + 1) (cur.take (i * 3) ++ pv ++ cur.drop (i * 3)) := by
  obtain ⟨i0, hi0, hz0, hzs, hzb⟩ := info_parts infoPair
  have hbw : b < w.heap.size := (Array.getElem?_eq_some_iff.1 hb).1
  have hvw : vb < w.heap.size := (Array.getElem?_eq_some_iff.1 hvb).1
  have hold : (Builtin.firstCells i0.size i (.slice (some ⟨b, 0, none⟩) i n)).run Tryz.prog w.drew = .ok (cur.take (i * 3)).toArray w.drew := by
    rw [hzs]
    exact run_firstCells_some w.drew 3 i ⟨b, 0, none⟩ i n (cur.take (i * 3)) (by rw [List.length_take]; omega) (fun j v hj => by
      rw [Addr.add_lit, Nat.zero_add]
      show w.cell? _ = _
      rw [cell_block hb]
      rw [List.getElem?_take] at hj
      split at hj
      · exact hj
      · cases hj)
  obtain ⟨G, hG⟩ : ∃ G, G = grownCap w (n + 1) n 42 := ⟨_, rfl⟩
  obtain ⟨R, hR⟩ : ∃ R : List Value, R = cur.take (i * 3) ++ (Builtin.zeroCells (Value.cells (.agg #[.string ⟨#[]⟩, .string ⟨#[]⟩, .int .i64 0])) (n + 1 - i)).toList ++ (Builtin.zeroCells (Value.cells (.agg #[.string ⟨#[]⟩, .string ⟨#[]⟩, .int .i64 0])) (G - (n + 1))).toList := ⟨_, rfl⟩
  have hGn : n + 1 ≤ G := by rw [hG]; exact grownCap_ge w _ _ _
  have hG63 : G ≤ 9223372036854775807 := by
    have := grownCap_le_maxLen w (n + 1) n 42 (by unfold maxLen; omega)
    rw [← hG] at this
    unfold maxLen at this
    omega
  have hRl : R.length = G * 3 := by
    rw [hR]
    simp only [List.length_append, Array.length_toList, size_zeroCells, zcPair, List.length_take]
    omega
  have hrz : ∀ ty, (Builtin.append_ #[36, 3] ty #[.slice (some ⟨b, 0, none⟩) i n, .int .i64 ((n : Int) + 1 - (i : Int))]).run Tryz.prog w =
      .ok (.slice (some ⟨w.heap.size, 0, none⟩) (n + 1) G) ((w.alloc (.cells R.toArray 42)).drew) := fun ty => by
    have h := Lib.run_append_grow_zeros w 36 3 ty 42 i0 _ .i64 .i64 Tryz.underlying36 Tryz.underlying3 hi0 hz0 (some ⟨b, 0, none⟩) i n (cur.take (i * 3)) hold (n + 1 - i) (by omega) (by omega) (by omega) (by omega) (by rw [hzb]; omega) (by rw [hzb, show i + (n + 1 - i) = n + 1 by omega]; exact growslice_fits (by omega) (by omega))
    rw [show i + (n + 1 - i) = n + 1 by omega, ← hG] at h
    rw [show (n : Int) + 1 - (i : Int) = ((n + 1 - i : Nat) : Int) by omega, h, hR]
    simp only [← List.append_toArray, Array.toArray_toList]
    rfl
  obtain ⟨WA, hWA⟩ : ∃ WA, WA = (w.alloc (.cells R.toArray 42)).drew := ⟨_, rfl⟩
  have hhA : WA.heap[w.heap.size]? = some (.cells R.toArray 42 (0, 0)) := by rw [hWA]; exact heap_alloc_new w _
  have hold2 : ∀ k, k < w.heap.size → WA.heap[k]? = w.heap[k]? := fun k hk => by rw [hWA]; exact heap_alloc_old w _ hk
  rw [← hWA] at hrz
  have hcpA : ∀ ty dc, (Builtin.copy_ #[36, 36] ty #[.slice (some ⟨w.heap.size, i * 3, none⟩) (n + 1 - i) dc, .slice (some ⟨vb, 0, none⟩) 1 vc]).run Tryz.prog WA = .ok (goInt ((1 : Nat) : Int)) (WA.setRow w.heap.size (spl R (i * 3) pv).toArray) := fun ty dc =>
    run_copy_rowK WA _ _ ty 42 3 1 w.heap.size (i * 3) (n + 1 - i) dc ⟨vb, 0, none⟩ 1 vc R 42 pv Tryz.underlying36 sizePair hhA (by simp only [Nat.min_def]; split <;> omega) (by rw [hpl])
      (fun j v hj => by rw [Addr.add_lit, Nat.zero_add, World.cell?_of_block (w := w) (hold2 vb hvw), cell_block hvb]; exact hj)
      (by rw [hpl, hRl]; omega) h1v
  obtain ⟨WB, hWB⟩ : ∃ WB, WB = WA.setRow w.heap.size (spl R (i * 3) pv).toArray := ⟨_, rfl⟩
  have hll : (spl R (i * 3) pv).length = G * 3 := by rw [spl_length _ _ _ (by rw [hpl, hRl]; omega), hRl]
  have hhB : WB.heap[w.heap.size]? = some (.cells (spl R (i * 3) pv).toArray 42 (0, 0)) := by rw [hWB]; exact setRow_heap _ _ _ _ _ _ hhA
  have hold3 : ∀ k, k < w.heap.size → WB.heap[k]? = w.heap[k]? := fun k hk => by rw [hWB]; exact (setRow_other WA _ k _ (by omega)).trans (hold2 k hk)
  rw [← hWB] at hcpA
  obtain ⟨cs1, hcs1⟩ : ∃ cs1, cs1 = cur.drop (i * 3) := ⟨_, rfl⟩
  have hl1 : cs1.length = (n - i) * 3 := by rw [hcs1]; simp; omega
  have hcpB : ∀ ty dc sc, (Builtin.copy_ #[36, 36] ty #[.slice (some ⟨w.heap.size, (i + 1) * 3, none⟩) (n - i) dc, .slice (some ⟨b, i * 3, none⟩) (n - i) sc]).run Tryz.prog WB.drew = .ok (goInt ((n - i : Nat) : Int)) (WB.drew.setRow w.heap.size (spl (spl R (i * 3) pv) ((i + 1) * 3) cs1).toArray) := fun ty dc sc =>
    run_copy_rowK WB.drew _ _ ty 42 3 (n - i) w.heap.size ((i + 1) * 3) (n - i) dc ⟨b, i * 3, none⟩ (n - i) sc _ 42 cs1 Tryz.underlying36 sizePair hhB (by simp only [Nat.min_def]; split <;> omega) hl1
      (fun j v hj => by
        rw [Addr.add_lit]
        show WB.cell? _ = _
        rw [World.cell?_of_block (w := w) (hold3 b hbw), cell_block hb]
        rw [hcs1, List.getElem?_drop] at hj
        exact hj)
      (by rw [hl1, hll]; omega) (fun v hv => h1c v (by rw [hcs1] at hv; exact List.mem_of_mem_drop hv))
  obtain ⟨WC, hWC⟩ : ∃ WC, WC = WB.drew.setRow w.heap.size (spl (spl R (i * 3) pv) ((i + 1) * 3) cs1).toArray := ⟨_, rfl⟩
  rw [← hWC] at hcpB
  have HEND : Hid (InsPair w WC (.slice (some ⟨b, 0, none⟩) n n) (.slice (some ⟨w.heap.size, 0, none⟩) (n + 1) G) B (n + 1) (cur.take (i * 3) ++ pv ++ cur.drop (i * 3))) := by
    refine ⟨⟨w.heap.size, G, rfl, .inr (Nat.le_refl _)⟩, ?_, ?_⟩
    · refine ownsRow_of_block (cur := spl (spl R (i * 3) pv) ((i + 1) * 3) cs1) hB (by rw [hWC]; exact setRow_heap _ _ _ _ _ _ hhB) hGn hG63 (by rw [spl_length _ _ _ (by rw [hl1, hll]; omega), hll]) ?_
      rw [show (n + 1) * 3 = (i + 1) * 3 + cs1.length by rw [hl1]; omega, spl_take _ _ _ (by rw [hll]; omega), show (i + 1) * 3 = i * 3 + pv.length by rw [hpl]; omega, spl_take _ _ _ (by rw [hRl]; omega), hcs1, hR]
      congr 2
      rw [List.append_assoc, List.take_append_of_le_length (by simp; omega)]
      exact List.take_of_length_le (by simp; omega)
    · have g1 : Only (fun _ => False) w WA := by rw [hWA]; exact (((Grew.refl w).alloc _).drew).only _
      have g2 : Only (fun j => j = w.heap.size) w WB := by rw [hWB]; exact (g1.mono (fun j hj => hj.elim)).then (only_setRow WA _ _)
      have g3 : Only (fun j => j = w.heap.size) w WC := by rw [hWC]; exact g2.drew.then (only_setRow WB.drew _ _)
      exact g3.toGrownBy (fun j hj => .inr (by omega))
  have z1 : ¬ ((i : Int) = (n : Int)) := by omega
  have z4 : IntKind.i64.wrap ((i : Int) + 1) = (i : Int) + 1 := IntWalk.i64_in _ (by omega)
  have z5 : (0 : Int) ≤ (i : Int) + 1 := by omega
  have z6 : ((i : Int) + 1).toNat = i + 1 := by omega
  have z7 : ¬ (G = i + 1) := by omega
  have z8 : ¬ (G = i) := by omega
  have z9 : (i : Int) ≤ (n : Int) := by omega
  have z10 : i ≤ n := by omega
  have z11 : ¬ (n = i) := by omega
  have z12 : (n : Int) < (n : Int) + 1 := by omega
  clear hold hG hR hGn hRl hWA hhA hold2 hWB hll hhB hold3 hcs1 hl1 hWC hb hvb hcl h1c h1v hpl hi
  go_enter Tryz.func116, Tryz.ntmps116
  go_wp2_with (first
    | (at_builtin; refine Lib.wpList_append_run _ rfl _ _ _ _ rfl _ _ rfl rfl _ _ (hrz _) ?_)
    | (at_builtin; refine wpList_copy_run _ rfl _ _ 36 36 rfl _ _ rfl rfl (hcpA _ _) ?_))
  go_region_law (refine step_copy_run rfl (.tmp 50) (.tmp 53) 36 36 rfl (.slice (some ⟨w.heap.size, (i + 1) * 3, none⟩) (n - i) (G - (i + 1))) (.slice (some ⟨b, i * 3, none⟩) (n - i) (n - i)) (by simp [Act.eval, Act.put]) (by simp [Act.eval, Act.put]) (hcpB _ _ _) ?_)
  go_wp2_with fail
  go_ret
  exact ⟨_, rfl, HEND.out⟩
theorem insPair (w : World) (B : Nat) (a0 : Option Addr) (n c0 : Nat) (xs : List Value) (h : w.ownsRow B 42 3 (.slice a0 n c0) n xs) (hB : B ≤ w.heap.size) (h1 : ∀ u ∈ xs, u.oneCell' = true) (i : Nat) (hi : i ≤ n) (vb : Nat) (pv : List Value) (vc : Nat) (hvb : w.heap[vb]? = some (.cells pv.toArray 42 (0, 0))) (hpl : pv.length = 3) (h1v : ∀ u ∈ pv, u.oneCell' = true) (hbig : n ≤ 1000000) (hne : Value.ownBlock (.slice a0 n c0) ≠ some vb) :
    Calls Tryz.prog 116 #[.slice a0 n c0, .int .i64 i, .slice (some ⟨vb, 0, none⟩) 1 vc] w fun e w' => ∃ r, e = .returned r ∧ InsPair w w' (.slice a0 n c0) r B (n + 1) (xs.take (i * 3) ++ pv ++ xs.drop (i * 3)) := by
  by_cases hin : i = n
  · subst hin
    rw [← h.1, List.take_length, List.drop_length, List.append_nil]
    exact ins_endPair w B _ i xs a0 c0 rfl h hB vb pv vc hvb hpl h1v hbig
  · obtain ⟨g, cap, cur, e, hBg, hg, hnc, hc63, hcl, hx⟩ := ownsRow_block h (by omega)
    cases e
    subst hx
    by_cases hr : n < c0
    · exact ins_shiftPair w B g n c0 i cur hg hBg hr hc63 hcl (by omega) vb pv vc hvb hpl h1v h1 hbig (fun e => hne (by rw [e]; rfl))
    · obtain rfl : c0 = n := by omega
      have hw : cur.take (c0 * 3) = cur := List.take_of_length_le (by omega)
      rw [hw] at h1 ⊢
      exact ins_growPair w B g c0 i cur hg hB hcl (by omega) vb pv vc hvb hpl h1v h1 hbig
end Go.Proofs.YtbdagllflamabaaGreatDoor
namespace Go.Proofs.YtbdagllflamabaaGreatDoor
open Go.RowKit Go.Maps
attribute [local go_sem] Oper.semAt_some
structure TabS (S : Nat → Bool) : Prop where
  h1 : S 1 = true
  h2 : S 2 = true
  h3 : S 3 = true
  h6 : S 6 = true
  h7 : S 7 = true
structure TableIs (w : World) (F : Nat → Prop) (tb : Nat) (v : Value) (xs : List Pr) : Prop where
  cell : w.cell? ⟨tb, 0, none⟩ = some v
  fz : w.frozen? ⟨tb, 0, none⟩ = false
  row : w.ownsRow 0 42 3 v xs.length (prFlat xs)
  srt : Pl.Srt xs
  sz : ∀ c ∈ xs, c.key.size ≤ 70368744177664
  foot0 : F tb
  foot1 : ∀ g, v.ownBlock = some g → F g ∧ g ≠ tb
  lt : ∀ j, F j → j < w.heap.size
def TabAt (w : World) (F : Nat → Prop) (tb : Nat) (xs : List Pr) : Prop := ∃ v, TableIs w F tb v xs
theorem TableIs.kept {w w' : World} {F S : Nat → Prop} {tb : Nat} {v : Value} {xs : List Pr} (h : TableIs w F tb v xs) (g : Only S w w') (hS : ∀ j, F j → ¬ S j) : TableIs w' F tb v xs where
  cell := (g.cell (cell_lt h.cell) (hS _ h.foot0) 0).trans h.cell
  fz := (g.frozen (cell_lt h.cell) (hS _ h.foot0) 0).trans h.fz
  row := by
    refine ⟨h.row.1, ?_⟩
    rcases h.row.2 with h2 | ⟨b, cap, cur, e1, h2, h3, h4⟩
    · exact .inl h2
    · exact .inr ⟨b, cap, cur, e1, h2, (g.block b (Array.getElem?_eq_some_iff.1 h3).1 (hS b (h.foot1 b (by rw [e1]; rfl)).1)).trans h3, h4⟩
  srt := h.srt
  sz := h.sz
  foot0 := h.foot0
  foot1 := h.foot1
  lt j hj := Nat.lt_of_lt_of_le (h.lt j hj) g.size
theorem TableIs.grew {w w' : World} {F : Nat → Prop} {tb : Nat} {v : Value} {xs : List Pr} (h : TableIs w F tb v xs) (g : Grew w w') : TableIs w' F tb v xs := h.kept (g.only fun _ => False) (fun _ _ h => h)
theorem TabAt.kept {w w' : World} {F S : Nat → Prop} {tb : Nat} {xs : List Pr} (h : TabAt w F tb xs) (g : Only S w w') (hS : ∀ j, F j → ¬ S j) : TabAt w' F tb xs := by
  obtain ⟨v, h⟩ := h; exact ⟨v, h.kept g hS⟩
theorem TabAt.grew {w w' : World} {F : Nat → Prop} {tb : Nat} {xs : List Pr} (h : TabAt w F tb xs) (g : Grew w w') : TabAt w' F tb xs := by
  obtain ⟨v, h⟩ := h; exact ⟨v, h.grew g⟩
theorem TableIs.szAt {w : World} {F : Nat → Prop} {tb : Nat} {v : Value} {xs : List Pr} (h : TableIs w F tb v xs) : ∀ j, j < xs.length → (prAt xs j).key.size ≤ 70368744177664 := fun j hj => h.sz _ (Pl.prAt_mem xs j hj)
theorem newT_any (w : World) : Calls Tryz.prog 66 #[] w fun e w' => e = .returned (.pointer (some ⟨w.heap.size, 0, none⟩)) ∧ Grew w w' ∧ TabAt w' (fun j => j = w.heap.size) w.heap.size [] := by
  go_enter Tryz.func66, Tryz.ntmps66
  go_wp2_with fail
  go_ret
  exact ⟨rfl, (Grew.refl w).alloc _, _, ⟨by simp [go_sem], by simp [go_sem], World.ownsRow_nil _ _ _ _, Pl.srt_nil, by simp, rfl, (fun g hg => by cases hg), (fun j hj => by subst hj; simp)⟩⟩
theorem findT_any {w : World} {F : Nat → Prop} {tb : Nat} {xs : List Pr} (h : TabAt w F tb xs) (hx : xs.length ≤ 1000000) (key : ByteArray) (hy : key.size ≤ 70368744177664) (hk : Pl.Ok key) :
    Calls Tryz.prog 94 #[.pointer (some ⟨tb, 0, none⟩), .string key] w fun e w' => e = .returned (.tuple #[.int .i64 (Pl.pos xs key : Nat), .bool (Pl.hasB xs key)]) ∧ Grew w w' := by
  obtain ⟨v, h⟩ := h
  obtain ⟨a, cap, rfl, hA⟩ := pairsAt_of h.row
  have c0 := h.cell
  have hB : ∀ W, Grew w W → Calls Tryz.prog 150 #[.slice a xs.length cap, .string key, .func (.func 151) #[] #[]] W fun e w' => e = .returned (.tuple #[.int .i64 ((Pl.pos xs key : Nat) : Int), .bool (Pl.hasB xs key)]) ∧ Grew W w' :=
    fun W (g : Grew w W) => bsearch_any a cap xs key W (hA.grew g) hx h.szAt hy (Pl.pos xs key) (Pl.pos_le xs key) (Pl.pos_iff hk h.srt)
  have HB := hid hB
  clear hB
  clear h hA
  go_enter Tryz.func94, Tryz.ntmps94
  go_wp2_with fail
  refine (HB.out _ (Grew.refl w)).mono ?_
  rintro e w1 ⟨rfl, hg⟩
  go_wp2_with fail
  go_ret2
  exact ⟨rfl, hg⟩
namespace Pl
def atT (xs : List Pr) (k : ByteArray) : Int := if keyN k = 0 ∧ hasB xs k = true then ((pos xs k : Nat) : Int) else -1
end Pl
theorem atT_any {S : Nat → Bool} (hS : TabS S) (E : Nat → Addr) {w : World} (hE : Errs S E w) {F : Nat → Prop} {tb : Nat} {xs : List Pr} (h : TabAt w F tb xs) (hx : xs.length ≤ 1000000) (key : ByteArray) (hy : key.size ≤ 70368744177664) :
    Calls Tryz.prog 51 #[.pointer (some ⟨tb, 0, none⟩), .string key] w fun e w' => e = .returned (.int .i64 (Pl.atT xs key)) ∧ Grew w w' := by
  have HE := hid hE
  have HT := hid h
  clear hE h
  by_cases hk : Pl.keyN key = 0
  · have HK : Hid (errOf E (Pl.keyN key) = .nilIface) := by unfold Hid; rw [hk]; rfl
    have HF := hid (fun W (g : Grew w W) => findT_any (HT.out.grew g) hx key hy (Pl.ok_key hk))
    have HA : Hid (Pl.atT xs key = if Pl.hasB xs key = true then ((Pl.pos xs key : Nat) : Int) else -1) := by
      unfold Hid Pl.atT
      by_cases hb : Pl.hasB xs key = true
      · rw [if_pos ⟨hk, hb⟩, if_pos hb]
      · rw [if_neg (fun h => hb h.2), if_neg hb]
    clear hk
    generalize Pl.pos xs key = p at *
    generalize Pl.hasB xs key = b at *
    go_enter Tryz.func51, Tryz.ntmps51
    go_wp2_with fail
    refine (key_any S E hS.h2 hS.h3 hS.h6 hS.h7 key _ (by omega) HE.out).mono ?_
    rw [HK.out]
    rintro e w1 ⟨rfl, hg⟩
    go_wp2_with fail
    refine (HF.out _ hg).mono ?_
    rintro e w2 ⟨rfl, hg2⟩
    cases b with
    | true =>
      go_wp2_with fail
      go_ret
      exact ⟨ret_int (by rw [HA.out]; rfl), hg.trans hg2⟩
    | false =>
      go_wp2_with fail
      go_ret
      exact ⟨ret_int (by rw [HA.out]; rfl), hg.trans hg2⟩
  · have HK := hid (show errOf E (Pl.keyN key) = .iface 343 (.pointer (some (E (Pl.keyN key)))) from errOf_pos E _ hk)
    have HA : Hid (Pl.atT xs key = -1) := by unfold Hid Pl.atT; rw [if_neg (fun h => hk h.1)]
    go_enter Tryz.func51, Tryz.ntmps51
    go_wp2_with fail
    refine (key_any S E hS.h2 hS.h3 hS.h6 hS.h7 key _ (by omega) HE.out).mono ?_
    rw [HK.out]
    rintro e w1 ⟨rfl, hg⟩
    go_wp2_with fail
    go_ret
    exact ⟨ret_int (by rw [HA.out]), hg⟩
namespace Pl
def getT (xs : List Pr) (k : ByteArray) : Option Pr := if keyN k = 0 ∧ hasB xs k = true then some (prAt xs (pos xs k)) else none
theorem getT_some {xs : List Pr} (h : Srt xs) {k : ByteArray} {c : Pr} (hg : getT xs k = some c) : c ∈ xs ∧ c.key = k := by
  unfold getT at hg
  split at hg
  · next hh =>
    cases hg
    have := hasB_key h (ok_key hh.1) hh.2
    exact ⟨prAt_mem xs _ this.1, this.2⟩
  · cases hg
theorem getT_mem {xs : List Pr} (h : Srt xs) {c : Pr} (hc : c ∈ xs) : getT xs c.key = some c := by
  have := hasB_of_mem h hc
  unfold getT
  rw [if_pos ⟨h.key c hc, this.1⟩, this.2]
theorem getT_none {xs : List Pr} (h : Srt xs) {k : ByteArray} (hn : ∀ c ∈ xs, c.key ≠ k) : getT xs k = none := by
  cases hg : getT xs k with
  | none => rfl
  | some c => exact absurd (getT_some h hg).2 (hn c (getT_some h hg).1)
end Pl
theorem getTab_any {S : Nat → Bool} (hS : TabS S) (E : Nat → Addr) {w : World} (hE : Errs S E w) {F : Nat → Prop} {tb : Nat} {xs : List Pr} (h : TabAt w F tb xs) (hx : xs.length ≤ 1000000) (key : ByteArray) (hy : key.size ≤ 70368744177664) :
    Calls Tryz.prog 16 #[.pointer (some ⟨tb, 0, none⟩), .string key] w fun e w' => e = .returned (.tuple #[((Pl.getT xs key).getD Pr.none).agg, .bool (Pl.getT xs key).isSome]) ∧ Grew w w' := by
  have HE := hid hE
  have HT := hid h
  obtain ⟨v, h⟩ := h
  obtain ⟨a, cap, rfl, hA⟩ := pairsAt_of h.row
  have c0 := h.cell
  have hb : tb < w.heap.size := cell_lt c0
  have HS := hid h.srt
  clear hE h
  by_cases hh : Pl.keyN key = 0 ∧ Pl.hasB xs key = true
  · have hg : Pl.getT xs key = some (prAt xs (Pl.pos xs key)) := by unfold Pl.getT; rw [if_pos hh]
    have ha : Pl.atT xs key = (Pl.pos xs key : Nat) := by unfold Pl.atT; rw [if_pos hh]
    have hp := (Pl.hasB_key HS.out (Pl.ok_key hh.1) hh.2).1
    have hR := hid (fun W (g : Grew w W) => atT_any hS E (HE.out.grew g) (HT.out.grew g) hx key hy)
    rw [hg]
    rw [ha] at hR
    clear hg ha hh
    generalize Pl.pos xs key = p at *
    rcases hA with h0 | ⟨b, off, rfl, hbb, hRow⟩
    · rw [h0] at hp; simp at hp
    have q0 := hRow.key p hp
    have q1 := hRow.val p hp
    have q2 := hRow.ver p hp
    clear hRow
    have hpI : (p : Int) < (xs.length : Int) := by omega
    generalize prAt xs p = c at *
    obtain ⟨ck, cv, cn⟩ := c
    dsimp only at *
    go_enter Tryz.func16, Tryz.ntmps16
    go_wp2_with fail
    refine (hR.out _ ((Grew.refl w).alloc _)).mono ?_
    rintro e w1 ⟨rfl, hg⟩
    have hz : w.heap.size < w1.heap.size := by have := hg.size; simp at this; omega
    obtain ⟨hc, hf⟩ := hg.cells
    go_wp2_with fail
    refine bodyPost_ret (v := .tuple #[.agg #[.string ck, .string cv, .int .i64 cn], .bool true]) (by simp [results, Tryz.results16, go_sem, hc]) rfl ⟨rfl, ?_⟩
    have hG := ((Grew.refl w).alloc _).trans hg
    refine ((hG.setCell ?_ _).setCell ?_ _).setCell ?_ _ <;> exact Nat.le_refl _
  · have hg : Pl.getT xs key = none := by unfold Pl.getT; rw [if_neg hh]
    have ha : Pl.atT xs key = -1 := by unfold Pl.atT; rw [if_neg hh]
    have hR := hid (fun W (g : Grew w W) => atT_any hS E (HE.out.grew g) (HT.out.grew g) hx key hy)
    rw [hg]
    rw [ha] at hR
    clear hg ha hh
    go_enter Tryz.func16, Tryz.ntmps16
    go_wp2_with fail
    refine (hR.out _ ((Grew.refl w).alloc _)).mono ?_
    rintro e w1 ⟨rfl, hg⟩
    have hz : w.heap.size < w1.heap.size := by have := hg.size; simp at this; omega
    obtain ⟨hc, hf⟩ := hg.cells
    go_wp2_with fail
    refine bodyPost_ret (v := .tuple #[.agg #[.string ⟨#[]⟩, .string ⟨#[]⟩, .int .i64 0], .bool false]) (by simp [results, Tryz.results16, go_sem, hc]) rfl ⟨rfl, ?_⟩
    have hG := ((Grew.refl w).alloc _).trans hg
    refine ((hG.setCell ?_ _).setCell ?_ _).setCell ?_ _ <;> exact Nat.le_refl _
end Go.Proofs.YtbdagllflamabaaGreatDoor
