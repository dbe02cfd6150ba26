/- InsI64, Utf, Runes1, Runes2, Num19: one text. -/
import Derived.Test.YthmjbeieheacmaaGreatDoorFinPlayCursorsQ1
import Derived.Laws.Externs
import Derived.IntWalk
import Derived.Lib.DecodeN
import GoSem.Op.String
import Derived.Test.YthmjbeieheacmaaGreatDoorFinPlayCursorsQ5
namespace Go.Proofs.YthmjbeieheacmaaGreatDoor
open Go.RowKit Go.Maps
attribute [local go_sem] Oper.semAt_some
theorem infoI64 : (Tryz.prog.info? 3).map (fun i => (i.zero, i.size, i.bytes)) = some (some (.int .i64 0), 1, 8) := by kernel_rfl
theorem sizeI64 : (Tryz.prog.info? 3).map (·.size) = some 1 := by kernel_rfl
structure InsI64 (w w' : World) (v r : Value) (B n : Nat) (ys : List Value) : Prop where
  form : ∃ g cap, r = .slice (some ⟨g, 0, none⟩) n cap ∧ (v.ownBlock = some g ∨ w.heap.size ≤ g)
  row : w'.ownsRow B 3 1 r n ys
  grown : w.grownBy w' v.ownBlock
set_option maxRecDepth 100000 in
set_option maxHeartbeats 4000000 in
theorem ins_endI64 (w : World) (B : Nat) (v : Value) (n : Nat) (xs : List Value) (a0 : Option Addr) (c0 : Nat) (hv : v = .slice a0 n c0) (h : w.ownsRow B 3 1 v n xs) (hB : B ≤ w.heap.size) (vb : Nat) (pv : List Value) (vc : Nat) (hvb : w.heap[vb]? = some (.cells pv.toArray 3 (0, 0))) (hpl : pv.length = 1) (h1v : ∀ u ∈ pv, u.oneCell' = true) (hbig : n ≤ 1000000) :
    Calls Tryz.prog 18 #[.slice a0 n c0, .int .i64 n, .slice (some ⟨vb, 0, none⟩) 1 vc] w fun e w' => ∃ r, e = .returned r ∧ InsI64 w w' v r B (n + 1) (xs ++ pv) := by
  subst hv
  obtain ⟨i0, hi0, hz0, hz1, hz2⟩ := info_parts infoI64
  have hcell : ∀ j u, pv[j]? = some u → w.cell? ((⟨vb, 0, none⟩ : Addr).add j) = some u := fun j u hj => by
    rw [Addr.add_lit, Nat.zero_add, cell_block hvb]; exact hj
  have HC := hid hcell
  have HP := hid hpl
  have H1 := hid h1v
  have HH := hid h
  have hnil : a0 = none → n = 0 ∧ c0 = 0 := fun e => by
    subst e
    rcases h.2 with ⟨e1, e2⟩ | ⟨_, _, _, e1, _⟩
    · cases e1; exact ⟨rfl, rfl⟩
    · cases e1
  clear hcell hpl h1v h hvb
  go_enter Tryz.func18, Tryz.ntmps18
  rcases HH.out.2 with ⟨e1, e2⟩ | ⟨g, cap, cur, e1, e3, e4, e5, e6, e7, e8⟩
  · cases e1
    clear e2 hnil
    go_wp2_with (at_builtin; refine wpList_append_lies _ rfl _ _ 22 rfl B 3 i0 _ 1 8 Tryz.underlying22 hi0 hz0 hz1 hz2 rfl (by omega) _ 0 xs rfl HH.out ⟨vb, 0, none⟩ 1 vc pv rfl HP.out HC.out H1.out (by omega) (by unfold maxLen; omega) (by omega) hB _ rfl ?_)
    intro g cap w1 hown hgrow hat hlt
    have HO := hid hown
    have HG := hid hgrow
    have HA := hid hat
    clear hown hgrow hat
    go_wp2_with fail
    go_ret
    exact ⟨_, rfl, ⟨g, cap, rfl, by rcases HA.out with h | h; exact .inl h; exact .inr (by omega)⟩, HO.out, HG.out⟩
  · cases e1
    clear e4 e7 e8 hnil
    have hcap : c0 ≤ 9223372036854775807 := by unfold maxLen at e6; omega
    by_cases hc : c0 = n
    · subst hc
      go_wp2_with (at_builtin; refine wpList_append_lies _ rfl _ _ 22 rfl B 3 i0 _ 1 8 Tryz.underlying22 hi0 hz0 hz1 hz2 rfl (by omega) _ c0 xs rfl HH.out ⟨vb, 0, none⟩ 1 vc pv rfl HP.out HC.out H1.out (by omega) (by unfold maxLen; omega) (by omega) hB _ rfl ?_)
      intro g' cap w1 hown hgrow hat hlt
      have HO := hid hown
      have HG := hid hgrow
      have HA := hid hat
      clear hown hgrow hat
      go_wp2_with fail
      go_ret
      exact ⟨_, rfl, ⟨g', cap, rfl, by rcases HA.out with h | h; exact .inl h; exact .inr (by omega)⟩, HO.out, HG.out⟩
    · go_wp2_with (at_builtin; refine wpList_append_lies _ rfl _ _ 22 rfl B 3 i0 _ 1 8 Tryz.underlying22 hi0 hz0 hz1 hz2 rfl (by omega) _ n xs rfl HH.out ⟨vb, 0, none⟩ 1 vc pv rfl HP.out HC.out H1.out (by omega) (by unfold maxLen; omega) (by omega) hB _ rfl ?_)
      intro g' cap w1 hown hgrow hat hlt
      have HO := hid hown
      have HG := hid hgrow
      have HA := hid hat
      clear hown hgrow hat
      go_wp2_with fail
      go_ret
      exact ⟨_, rfl, ⟨g', cap, rfl, by rcases HA.out with h | h; exact .inl h; exact .inr (by omega)⟩, HO.out, HG.out⟩
theorem sizeOfI64 (w : World) : (Go.sizeOf 3).run Tryz.prog w = .ok 1 w := by kernel_rfl
set_option maxRecDepth 100000 in
set_option maxHeartbeats 4000000 in
theorem ins_shiftI64 (w : World) (B b n c i : Nat) (cur : List Value) (hb : w.heap[b]? = some (.cells cur.toArray 3 (0, 0))) (hBb : B ≤ b) (hnc : n < c) (hc : c ≤ 9223372036854775807) (hcl : cur.length = c * 1) (hi : i < n) (vb : Nat) (pv : List Value) (vc : Nat) (hvb : w.heap[vb]? = some (.cells pv.toArray 3 (0, 0))) (hpl : pv.length = 1) (h1v : ∀ u ∈ pv, u.oneCell' = true) (h1c : ∀ u ∈ cur.take (n * 1), u.oneCell' = true) (hbig : n ≤ 1000000) (hne : vb ≠ b) :
    Calls Tryz.prog 18 #[.slice (some ⟨b, 0, none⟩) n c, .int .i64 i, .slice (some ⟨vb, 0, none⟩) 1 vc] w fun e w' => ∃ r, e = .returned r ∧ InsI64 w w' (.slice (some ⟨b, 0, none⟩) n c) r B (n + 1) ((cur.take (n * 1)).take (i * 1) ++ pv ++ (cur.take (n * 1)).drop (i * 1)) := by
  have hcell : ∀ j u, pv[j]? = some u → w.cell? ((⟨vb, 0, none⟩ : Addr).add j) = some u := fun j u hj => by
    rw [Addr.add_lit, Nat.zero_add, cell_block hvb]; exact hj
  obtain ⟨cs1, hcs1⟩ : ∃ cs1, cs1 = (cur.take (n * 1)).drop (i * 1) := ⟨_, rfl⟩
  have hl1 : cs1.length = (n - i) * 1 := by rw [hcs1]; simp; omega
  have hcp1 : ∀ ty dc sc, (Builtin.copy_ #[22, 22] ty #[.slice (some ⟨b, (i + 1) * 1, none⟩) (n + 1 - (i + 1)) dc, .slice (some ⟨b, i * 1, none⟩) (n + 1 - i) sc]).run Tryz.prog w.drew = .ok (goInt ((n - i : Nat) : Int)) (w.drew.setRow b (spl cur ((i + 1) * 1) cs1).toArray) := fun ty dc sc =>
    run_copy_rowK w.drew _ _ ty 3 1 (n - i) b ((i + 1) * 1) (n + 1 - (i + 1)) dc ⟨b, i * 1, none⟩ (n + 1 - i) sc cur 3 cs1 Tryz.underlying22 sizeI64 hb (by simp only [Nat.min_def]; split <;> omega) hl1
      (fun j v hj => by
        rw [Addr.add_lit]
        show w.cell? _ = _
        rw [cell_block hb]
        rw [hcs1, List.getElem?_drop, List.getElem?_take] at hj
        split at hj
        · exact hj
        · cases hj)
      (by rw [hl1, hcl]; omega) (fun v hv => h1c v (by rw [hcs1] at hv; exact List.mem_of_mem_drop hv))
  obtain ⟨W1, hW1⟩ : ∃ W1, W1 = w.drew.setRow b (spl cur ((i + 1) * 1) cs1).toArray := ⟨_, rfl⟩
  have hh1 : W1.heap[b]? = some (.cells (spl cur ((i + 1) * 1) cs1).toArray 3 (0, 0)) := by rw [hW1]; exact setRow_heap w.drew b _ _ _ _ hb
  have hll : (spl cur ((i + 1) * 1) cs1).length = cur.length := spl_length _ _ _ (by rw [hl1, hcl]; omega)
  have hcp2 : ∀ ty dc, (Builtin.copy_ #[22, 22] ty #[.slice (some ⟨b, i * 1, none⟩) (n + 1 - i) dc, .slice (some ⟨vb, 0, none⟩) 1 vc]).run Tryz.prog W1 = .ok (goInt ((1 : Nat) : Int)) (W1.setRow b (spl (spl cur ((i + 1) * 1) cs1) (i * 1) pv).toArray) := fun ty dc =>
    run_copy_rowK W1 _ _ ty 3 1 1 b (i * 1) (n + 1 - i) dc ⟨vb, 0, none⟩ 1 vc _ 3 pv Tryz.underlying22 sizeI64 hh1 (by simp only [Nat.min_def]; split <;> omega) (by rw [hpl])
      (fun j v hj => by
        rw [hW1, Addr.add_lit, Nat.zero_add, World.cell?_of_block (w := w.drew) (setRow_other w.drew b vb _ hne)]
        show w.cell? _ = _
        rw [cell_block hvb]; exact hj)
      (by rw [hpl, hll, hcl]; omega) h1v
  have hcp1' : ∀ ty dc sc, (Builtin.copy_ #[22, 22] ty #[.slice (some ⟨b, (i + 1) * 1, none⟩) (n - i) dc, .slice (some ⟨b, i * 1, none⟩) (n + 1 - i) sc]).run Tryz.prog w.drew = .ok (goInt ((n - i : Nat) : Int)) W1 := fun ty dc sc => by rw [hW1]; have := hcp1 ty dc sc; rwa [show n + 1 - (i + 1) = n - i by omega] at this
  obtain ⟨W2, hW2⟩ : ∃ W2, W2 = W1.setRow b (spl (spl cur ((i + 1) * 1) cs1) (i * 1) pv).toArray := ⟨_, rfl⟩
  have hcp2' : ∀ ty dc, (Builtin.copy_ #[22, 22] ty #[.slice (some ⟨b, i * 1, none⟩) (n + 1 - i) dc, .slice (some ⟨vb, 0, none⟩) 1 vc]).run Tryz.prog W1 = .ok (goInt ((1 : Nat) : Int)) W2 := fun ty dc => by rw [hW2]; exact hcp2 ty dc
  have HEND : Hid (InsI64 w W2 (.slice (some ⟨b, 0, none⟩) n c) (.slice (some ⟨b, 0, none⟩) (n + 1) c) B (n + 1) ((cur.take (n * 1)).take (i * 1) ++ pv ++ (cur.take (n * 1)).drop (i * 1))) := by
    refine ⟨⟨b, c, rfl, .inl rfl⟩, ?_, ?_⟩
    · refine ownsRow_of_block (cur := spl (spl cur ((i + 1) * 1) cs1) (i * 1) pv) hBb (by rw [hW2]; exact setRow_heap _ _ _ _ _ _ hh1) (by omega) hc (by rw [spl_length _ _ _ (by rw [hpl, hll, hcl]; omega), hll, hcl]) ?_
      rw [hcs1, show (i + 1) * 1 = i * 1 + 1 by omega, show (n + 1) * 1 = n * 1 + 1 by omega]
      exact spl_insert cur (i * 1) 1 (n * 1) _ pv hpl (by omega) (by rw [hcl]; omega) rfl
    · have g1 : w.grownBy W1 (some b) := by rw [hW1]; exact (show w.grownBy w.drew (some b) from ⟨rfl, rfl, rfl, Nat.le_refl _, fun _ _ _ => rfl⟩).trans (grownBy_setRow w.drew b _)
      have g2 : w.grownBy W2 (some b) := by rw [hW2]; exact g1.trans (grownBy_setRow W1 b _)
      exact g2
  have hvbl : vb < w.heap.size := (Array.getElem?_eq_some_iff.1 hvb).1
  have hov : ∀ lb cb, (callFunc 36 #[.slice (some ⟨vb, 0, none⟩) 1 vc, .slice (some ⟨b, (i + 1) * 1, none⟩) lb cb]).run Tryz.prog w = .ok (.value (.bool false)) w := fun lb cb => by
    rw [run_callFunc_extern Tryz.func36 (by kernel_rfl) (by kernel_rfl) (by kernel_rfl) (e := Extern.SlicesOverlaps.overlaps #[22, 22] #[4]) (by kernel_rfl),
      Lib.run_overlaps_apart w 22 4 3 Tryz.underlying22 1 sizeOfI64 ⟨vb, 0, none⟩ ⟨b, (i + 1) * 1, none⟩ 1 vc lb cb hne 3 3 1 (c * 1) (by simp [World.shape?, hvb, hpl]) (by simp [World.shape?, hb, hcl]) (by omega) (frozen_of_row w vb 0 _ _ hvb) (frozen_of_row w vb 1 _ _ hvb)]
    rfl
  have hbl : b < w.heap.size := (Array.getElem?_eq_some_iff.1 hb).1
  have z1 : ¬ ((i : Int) = (n : Int)) := by omega
  have z2 : ¬ (c < n + 1) := by omega
  have z3 : ¬ ((c : Int) < (n : Int) + 1) := by omega
  have z4 : IntKind.i64.wrap ((i : Int) + 1) = (i : Int) + 1 := IntWalk.i64_in _ (by omega)
  have z5 : (0 : Int) ≤ (i : Int) + 1 := by omega
  have z6 : ((i : Int) + 1).toNat = i + 1 := by omega
  have z7 : ¬ (c = i + 1) := by omega
  have z8 : ¬ (c = i) := by omega
  have z9 : (i : Int) ≤ (n : Int) + 1 := by omega
  have z10 : i ≤ n := by omega
  clear hcs1 hcp1 hcp2 hh1 hW1 hW2 hcell hb hvb hcl hl1 hll h1c h1v hpl hi
  simp only [Nat.mul_one] at hov hcp1' hcp2'
  go_enter Tryz.func18, Tryz.ntmps18
  go_wp2_with (simp only [hov])
  go_region_law (refine step_copy_run rfl (.tmp 73) (.tmp 76) 22 22 rfl (.slice (some ⟨b, i + 1, none⟩) (n - i) (c - (i + 1))) (.slice (some ⟨b, i, none⟩) (n + 1 - i) (c - i)) (by simp [Act.eval, Act.put]) (by simp [Act.eval, Act.put]) (hcp1' _ _ _) ?_)
  go_wp2_with (at_builtin; refine wpList_copy_run _ rfl _ _ 22 22 rfl _ _ rfl rfl (hcp2' _ _) ?_)
  go_ret
  exact ⟨_, rfl, HEND.out⟩
theorem zcI64 : (Value.cells (.int .i64 0)).size = 1 := by kernel_rfl
set_option maxRecDepth 100000 in
set_option maxHeartbeats 4000000 in
theorem ins_growI64 (w : World) (B b n i : Nat) (cur : List Value) (hb : w.heap[b]? = some (.cells cur.toArray 3 (0, 0))) (hB : B ≤ w.heap.size) (hcl : cur.length = n * 1) (hi : i < n) (vb : Nat) (pv : List Value) (vc : Nat) (hvb : w.heap[vb]? = some (.cells pv.toArray 3 (0, 0))) (hpl : pv.length = 1) (h1v : ∀ u ∈ pv, u.oneCell' = true) (h1c : ∀ u ∈ cur, u.oneCell' = true) (hbig : n ≤ 1000000) :
    Calls Tryz.prog 18 #[.slice (some ⟨b, 0, none⟩) n n, .int .i64 i, .slice (some ⟨vb, 0, none⟩) 1 vc] w fun e w' => ∃ r, e = .returned r ∧ InsI64 w w' (.slice (some ⟨b, 0, none⟩) n n) r B (n + 1) (cur.take (i * 1) ++ pv ++ cur.drop (i * 1)) := by
  obtain ⟨i0, hi0, hz0, hzs, hzb⟩ := info_parts infoI64
  have hbw : b < w.heap.size := (Array.getElem?_eq_some_iff.1 hb).1
  have hvw : vb < w.heap.size := (Array.getElem?_eq_some_iff.1 hvb).1
  have hold : (Builtin.firstCells i0.size i (.slice (some ⟨b, 0, none⟩) i n)).run Tryz.prog w.drew = .ok (cur.take (i * 1)).toArray w.drew := by
    rw [hzs]
    exact run_firstCells_some w.drew 1 i ⟨b, 0, none⟩ i n (cur.take (i * 1)) (by rw [List.length_take]; omega) (fun j v hj => by
      rw [Addr.add_lit, Nat.zero_add]
      show w.cell? _ = _
      rw [cell_block hb]
      rw [List.getElem?_take] at hj
      split at hj
      · exact hj
      · cases hj)
  obtain ⟨G, hG⟩ : ∃ G, G = grownCap w (n + 1) n 3 := ⟨_, rfl⟩
  obtain ⟨R, hR⟩ : ∃ R : List Value, R = cur.take (i * 1) ++ (Builtin.zeroCells (Value.cells (.int .i64 0)) (n + 1 - i)).toList ++ (Builtin.zeroCells (Value.cells (.int .i64 0)) (G - (n + 1))).toList := ⟨_, rfl⟩
  have hGn : n + 1 ≤ G := by rw [hG]; exact grownCap_ge w _ _ _
  have hG63 : G ≤ 9223372036854775807 := by
    have := grownCap_le_maxLen w (n + 1) n 3 (by unfold maxLen; omega)
    rw [← hG] at this
    unfold maxLen at this
    omega
  have hRl : R.length = G * 1 := by
    rw [hR]
    simp only [List.length_append, Array.length_toList, size_zeroCells, zcI64, List.length_take]
    omega
  have hrz : ∀ ty, (Builtin.append_ #[22, 3] ty #[.slice (some ⟨b, 0, none⟩) i n, .int .i64 ((n : Int) + 1 - (i : Int))]).run Tryz.prog w =
      .ok (.slice (some ⟨w.heap.size, 0, none⟩) (n + 1) G) ((w.alloc (.cells R.toArray 3)).drew) := fun ty => by
    have h := Lib.run_append_grow_zeros w 22 3 ty 3 i0 _ .i64 .i64 Tryz.underlying22 Tryz.underlying3 hi0 hz0 (some ⟨b, 0, none⟩) i n (cur.take (i * 1)) hold (n + 1 - i) (by omega) (by omega) (by omega) (by omega) (by rw [hzb]; omega) (by rw [hzb, show i + (n + 1 - i) = n + 1 by omega]; exact growslice_fits (by omega) (by omega))
    rw [show i + (n + 1 - i) = n + 1 by omega, ← hG] at h
    rw [show (n : Int) + 1 - (i : Int) = ((n + 1 - i : Nat) : Int) by omega, h, hR]
    simp only [← List.append_toArray, Array.toArray_toList]
    rfl
  obtain ⟨WA, hWA⟩ : ∃ WA, WA = (w.alloc (.cells R.toArray 3)).drew := ⟨_, rfl⟩
  have hhA : WA.heap[w.heap.size]? = some (.cells R.toArray 3 (0, 0)) := by rw [hWA]; exact heap_alloc_new w _
  have hold2 : ∀ k, k < w.heap.size → WA.heap[k]? = w.heap[k]? := fun k hk => by rw [hWA]; exact heap_alloc_old w _ hk
  rw [← hWA] at hrz
  have hcpA : ∀ ty dc, (Builtin.copy_ #[22, 22] ty #[.slice (some ⟨w.heap.size, i * 1, none⟩) (n + 1 - i) dc, .slice (some ⟨vb, 0, none⟩) 1 vc]).run Tryz.prog WA = .ok (goInt ((1 : Nat) : Int)) (WA.setRow w.heap.size (spl R (i * 1) pv).toArray) := fun ty dc =>
    run_copy_rowK WA _ _ ty 3 1 1 w.heap.size (i * 1) (n + 1 - i) dc ⟨vb, 0, none⟩ 1 vc R 3 pv Tryz.underlying22 sizeI64 hhA (by simp only [Nat.min_def]; split <;> omega) (by rw [hpl])
      (fun j v hj => by rw [Addr.add_lit, Nat.zero_add, World.cell?_of_block (w := w) (hold2 vb hvw), cell_block hvb]; exact hj)
      (by rw [hpl, hRl]; omega) h1v
  obtain ⟨WB, hWB⟩ : ∃ WB, WB = WA.setRow w.heap.size (spl R (i * 1) pv).toArray := ⟨_, rfl⟩
  have hll : (spl R (i * 1) pv).length = G * 1 := by rw [spl_length _ _ _ (by rw [hpl, hRl]; omega), hRl]
  have hhB : WB.heap[w.heap.size]? = some (.cells (spl R (i * 1) pv).toArray 3 (0, 0)) := by rw [hWB]; exact setRow_heap _ _ _ _ _ _ hhA
  have hold3 : ∀ k, k < w.heap.size → WB.heap[k]? = w.heap[k]? := fun k hk => by rw [hWB]; exact (setRow_other WA _ k _ (by omega)).trans (hold2 k hk)
  rw [← hWB] at hcpA
  obtain ⟨cs1, hcs1⟩ : ∃ cs1, cs1 = cur.drop (i * 1) := ⟨_, rfl⟩
  have hl1 : cs1.length = (n - i) * 1 := by rw [hcs1]; simp; omega
  have hcpB : ∀ ty dc sc, (Builtin.copy_ #[22, 22] ty #[.slice (some ⟨w.heap.size, (i + 1) * 1, none⟩) (n - i) dc, .slice (some ⟨b, i * 1, none⟩) (n - i) sc]).run Tryz.prog WB.drew = .ok (goInt ((n - i : Nat) : Int)) (WB.drew.setRow w.heap.size (spl (spl R (i * 1) pv) ((i + 1) * 1) cs1).toArray) := fun ty dc sc =>
    run_copy_rowK WB.drew _ _ ty 3 1 (n - i) w.heap.size ((i + 1) * 1) (n - i) dc ⟨b, i * 1, none⟩ (n - i) sc _ 3 cs1 Tryz.underlying22 sizeI64 hhB (by simp only [Nat.min_def]; split <;> omega) hl1
      (fun j v hj => by
        rw [Addr.add_lit]
        show WB.cell? _ = _
        rw [World.cell?_of_block (w := w) (hold3 b hbw), cell_block hb]
        rw [hcs1, List.getElem?_drop] at hj
        exact hj)
      (by rw [hl1, hll]; omega) (fun v hv => h1c v (by rw [hcs1] at hv; exact List.mem_of_mem_drop hv))
  obtain ⟨WC, hWC⟩ : ∃ WC, WC = WB.drew.setRow w.heap.size (spl (spl R (i * 1) pv) ((i + 1) * 1) cs1).toArray := ⟨_, rfl⟩
  rw [← hWC] at hcpB
  have HEND : Hid (InsI64 w WC (.slice (some ⟨b, 0, none⟩) n n) (.slice (some ⟨w.heap.size, 0, none⟩) (n + 1) G) B (n + 1) (cur.take (i * 1) ++ pv ++ cur.drop (i * 1))) := by
    refine ⟨⟨w.heap.size, G, rfl, .inr (Nat.le_refl _)⟩, ?_, ?_⟩
    · refine ownsRow_of_block (cur := spl (spl R (i * 1) pv) ((i + 1) * 1) cs1) hB (by rw [hWC]; exact setRow_heap _ _ _ _ _ _ hhB) hGn hG63 (by rw [spl_length _ _ _ (by rw [hl1, hll]; omega), hll]) ?_
      rw [show (n + 1) * 1 = (i + 1) * 1 + cs1.length by rw [hl1]; omega, spl_take _ _ _ (by rw [hll]; omega), show (i + 1) * 1 = i * 1 + pv.length by rw [hpl]; omega, spl_take _ _ _ (by rw [hRl]; omega), hcs1, hR]
      congr 2
      rw [List.append_assoc, List.take_append_of_le_length (by simp; omega)]
      exact List.take_of_length_le (by simp; omega)
    · have g1 : Only (fun _ => False) w WA := by rw [hWA]; exact (((Grew.refl w).alloc _).drew).only _
      have g2 : Only (fun j => j = w.heap.size) w WB := by rw [hWB]; exact (g1.mono (fun j hj => hj.elim)).then (only_setRow WA _ _)
      have g3 : Only (fun j => j = w.heap.size) w WC := by rw [hWC]; exact g2.drew.then (only_setRow WB.drew _ _)
      exact g3.toGrownBy (fun j hj => .inr (by omega))
  have z1 : ¬ ((i : Int) = (n : Int)) := by omega
  have z4 : IntKind.i64.wrap ((i : Int) + 1) = (i : Int) + 1 := IntWalk.i64_in _ (by omega)
  have z5 : (0 : Int) ≤ (i : Int) + 1 := by omega
  have z6 : ((i : Int) + 1).toNat = i + 1 := by omega
  have z7 : ¬ (G = i + 1) := by omega
  have z8 : ¬ (G = i) := by omega
  have z9 : (i : Int) ≤ (n : Int) := by omega
  have z10 : i ≤ n := by omega
  have z11 : ¬ (n = i) := by omega
  have z12 : (n : Int) < (n : Int) + 1 := by omega
  clear hold hG hR hGn hRl hWA hhA hold2 hWB hll hhB hold3 hcs1 hl1 hWC hb hvb hcl h1c h1v hpl hi
  simp only [Nat.mul_one] at hcpA hcpB hrz
  go_enter Tryz.func18, Tryz.ntmps18
  go_wp2_with (first
    | (at_builtin; refine Lib.wpList_append_run _ rfl _ _ _ _ rfl _ _ rfl rfl _ _ (hrz _) ?_)
    | (at_builtin; refine wpList_copy_run _ rfl _ _ 22 22 rfl _ _ rfl rfl (hcpA _ _) ?_))
  go_region_law (refine step_copy_run rfl (.tmp 50) (.tmp 53) 22 22 rfl (.slice (some ⟨w.heap.size, i + 1, none⟩) (n - i) (G - (i + 1))) (.slice (some ⟨b, i, none⟩) (n - i) (n - i)) (by simp [Act.eval, Act.put]) (by simp [Act.eval, Act.put]) (hcpB _ _ _) ?_)
  go_wp2_with fail
  go_ret
  exact ⟨_, rfl, HEND.out⟩
theorem insI64 (w : World) (B : Nat) (a0 : Option Addr) (n c0 : Nat) (xs : List Value) (h : w.ownsRow B 3 1 (.slice a0 n c0) n xs) (hB : B ≤ w.heap.size) (h1 : ∀ u ∈ xs, u.oneCell' = true) (i : Nat) (hi : i ≤ n) (vb : Nat) (pv : List Value) (vc : Nat) (hvb : w.heap[vb]? = some (.cells pv.toArray 3 (0, 0))) (hpl : pv.length = 1) (h1v : ∀ u ∈ pv, u.oneCell' = true) (hbig : n ≤ 1000000) (hne : Value.ownBlock (.slice a0 n c0) ≠ some vb) :
    Calls Tryz.prog 18 #[.slice a0 n c0, .int .i64 i, .slice (some ⟨vb, 0, none⟩) 1 vc] w fun e w' => ∃ r, e = .returned r ∧ InsI64 w w' (.slice a0 n c0) r B (n + 1) (xs.take (i * 1) ++ pv ++ xs.drop (i * 1)) := by
  by_cases hin : i = n
  · subst hin
    rw [← h.1, List.take_length, List.drop_length, List.append_nil]
    exact ins_endI64 w B _ i xs a0 c0 rfl h hB vb pv vc hvb hpl h1v hbig
  · obtain ⟨g, cap, cur, e, hBg, hg, hnc, hc63, hcl, hx⟩ := ownsRow_block h (by omega)
    cases e
    subst hx
    by_cases hr : n < c0
    · exact ins_shiftI64 w B g n c0 i cur hg hBg hr hc63 hcl (by omega) vb pv vc hvb hpl h1v h1 hbig (fun e => hne (by rw [e]; rfl))
    · obtain rfl : c0 = n := by omega
      have hw : cur.take (c0 * 1) = cur := List.take_of_length_le (by omega)
      rw [hw] at h1 ⊢
      exact ins_growI64 w B g c0 i cur hg hB hcl (by omega) vb pv vc hvb hpl h1v h1 hbig
end Go.Proofs.YthmjbeieheacmaaGreatDoor
set_option linter.unusedVariables false
namespace Go.Proofs.YthmjbeieheacmaaGreatDoor.Pl
def step1 (l : List UInt8) : Option (Nat × Nat) :=
  if (Lib.decodeN l.length (l.getD 0 0).toNat (l.getD 1 0).toNat (l.getD 2 0).toNat (l.getD 3 0).toNat) = (65533, 1) then none
  else some (Lib.decodeN l.length (l.getD 0 0).toNat (l.getD 1 0).toNat (l.getD 2 0).toNat (l.getD 3 0).toNat)
def enc (c : Nat) : List UInt8 :=
  if c < 128 then [UInt8.ofNat c]
  else if c < 2048 then [UInt8.ofNat (192 + c / 64), UInt8.ofNat (128 + c % 64)]
  else if c < 65536 then [UInt8.ofNat (224 + c / 4096), UInt8.ofNat (128 + c / 64 % 64), UInt8.ofNat (128 + c % 64)]
  else [UInt8.ofNat (240 + c / 262144), UInt8.ofNat (128 + c / 4096 % 64), UInt8.ofNat (128 + c / 64 % 64), UInt8.ofNat (128 + c % 64)]
def good (c : Nat) : Prop := c < 55296 ∨ (57344 ≤ c ∧ c ≤ 1114111)
def runesF : Nat → List UInt8 → Option (List Nat)
  | 0, _ => some []
  | n + 1, l => if l = [] then some [] else (step1 l).bind fun p => (runesF n (l.drop p.2)).map (p.1 :: ·)
def runes (l : List UInt8) : Option (List Nat) := runesF l.length l
end Go.Proofs.YthmjbeieheacmaaGreatDoor.Pl
namespace Go.Proofs.YthmjbeieheacmaaGreatDoor.Pl
end Go.Proofs.YthmjbeieheacmaaGreatDoor.Pl
namespace Go.Proofs.YthmjbeieheacmaaGreatDoor.Pl
def right (s : ByteArray) : Bool := (runes s.data.toList).isSome
end Go.Proofs.YthmjbeieheacmaaGreatDoor.Pl
namespace Go.Proofs.YthmjbeieheacmaaGreatDoor
open Go.RowKit
namespace Pl
end Pl
end Go.Proofs.YthmjbeieheacmaaGreatDoor
namespace Go.Proofs.YthmjbeieheacmaaGreatDoor
open Go.RowKit
namespace Pl
def count (s : ByteArray) : Int := match runes s.data.toList with | none => -1 | some l => l.length
end Pl
end Go.Proofs.YthmjbeieheacmaaGreatDoor
set_option linter.unusedSimpArgs false
namespace Go.Proofs.YthmjbeieheacmaaGreatDoor
open Go.RowKit
theorem num_all (E : Nat → Addr) (k : Nat) (hk : k ≤ 19) (w : World) (hE : Errs allS E w) :
    Calls Tryz.prog 6 #[errOf E k] w fun e w' => e = .returned (.int .i64 (k : Nat)) ∧ Grew w w' := by
  by_cases h0 : k = 0
  · subst h0
    exact (num_nil w).mono fun e w' ⟨he, hw⟩ => ⟨he, by rw [← hw]; exact Grew.refl _⟩
  · rw [errOf_pos E k h0]
    exact num_err E k (by omega) hk w hE
end Go.Proofs.YthmjbeieheacmaaGreatDoor
