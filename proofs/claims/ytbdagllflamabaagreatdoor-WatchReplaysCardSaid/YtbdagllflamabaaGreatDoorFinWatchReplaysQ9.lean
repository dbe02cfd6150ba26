/- slices.Insert of one element at tidewater/shards.Shard (elements of 5 cells): at whatever place, with room or without. Then: slices.Delete of one element at tidewater/shards.Shard (elements of 5 cells). Then: The walk of slices.Clone at a struct (printed by gen_slices.py). Then: The walk of slices.Clone at a struct (printed by gen_slices.py). -/
import Derived.Test.YtbdagllflamabaaGreatDoorFinWatchReplaysQ4
import Derived.Laws.Externs
import Derived.IntWalk
import Derived.Deep.AppendLies
import Derived.Deep.Upon
import Derived.Lib.AppendZeros
namespace Go.Proofs.YtbdagllflamabaaGreatDoor
open Go.RowKit Go.Maps
attribute [local go_sem] Oper.semAt_some
theorem infoShard : (Tryz.prog.info? 118).map (fun i => (i.zero, i.size, i.bytes)) = some (some (.agg #[.int .i64 0, .int .i64 0, .int .i64 0, .string ⟨#[]⟩, .string ⟨#[]⟩]), 5, 56) := by kernel_rfl
theorem sizeShard : (Tryz.prog.info? 118).map (·.size) = some 5 := by kernel_rfl
structure InsShard (w w' : World) (v r : Value) (B n : Nat) (ys : List Value) : Prop where
  form : ∃ g cap, r = .slice (some ⟨g, 0, none⟩) n cap ∧ (v.ownBlock = some g ∨ w.heap.size ≤ g)
  row : w'.ownsRow B 118 5 r n ys
  grown : w.grownBy w' v.ownBlock
set_option maxRecDepth 100000 in
set_option maxHeartbeats 4000000 in
theorem ins_endShard (w : World) (B : Nat) (v : Value) (n : Nat) (xs : List Value) (a0 : Option Addr) (c0 : Nat) (hv : v = .slice a0 n c0) (h : w.ownsRow B 118 5 v n xs) (hB : B ≤ w.heap.size) (vb : Nat) (pv : List Value) (vc : Nat) (hvb : w.heap[vb]? = some (.cells pv.toArray 118 (0, 0))) (hpl : pv.length = 5) (h1v : ∀ u ∈ pv, u.oneCell' = true) (hbig : n ≤ 1000000) :
    Calls Tryz.prog 143 #[.slice a0 n c0, .int .i64 n, .slice (some ⟨vb, 0, none⟩) 1 vc] w fun e w' => ∃ r, e = .returned r ∧ InsShard w w' v r B (n + 1) (xs ++ pv) := by
  subst hv
  obtain ⟨i0, hi0, hz0, hz1, hz2⟩ := info_parts infoShard
  have hcell : ∀ j u, pv[j]? = some u → w.cell? ((⟨vb, 0, none⟩ : Addr).add j) = some u := fun j u hj => by
    rw [Addr.add_lit, Nat.zero_add, cell_block hvb]; exact hj
  have HC := hid hcell
  have HP := hid hpl
  have H1 := hid h1v
  have HH := hid h
  have hnil : a0 = none → n = 0 ∧ c0 = 0 := fun e => by
    subst e
    rcases h.2 with ⟨e1, e2⟩ | ⟨_, _, _, e1, _⟩
    · cases e1; exact ⟨rfl, rfl⟩
    · cases e1
  clear hcell hpl h1v h hvb
  go_enter Tryz.func143, Tryz.ntmps143
  rcases HH.out.2 with ⟨e1, e2⟩ | ⟨g, cap, cur, e1, e3, e4, e5, e6, e7, e8⟩
  · cases e1
    clear e2 hnil
    go_wp2_with (at_builtin; refine wpList_append_lies _ rfl _ _ 115 rfl B 118 i0 _ 5 56 Tryz.underlying115 hi0 hz0 hz1 hz2 rfl (by omega) _ 0 xs rfl HH.out ⟨vb, 0, none⟩ 1 vc pv rfl HP.out HC.out H1.out (by omega) (by unfold maxLen; omega) (by omega) hB _ rfl ?_)
    intro g cap w1 hown hgrow hat hlt
    have HO := hid hown
    have HG := hid hgrow
    have HA := hid hat
    clear hown hgrow hat
    go_wp2_with fail
    go_ret
    exact ⟨_, rfl, ⟨g, cap, rfl, by rcases HA.out with h | h; exact .inl h; exact .inr (by omega)⟩, HO.out, HG.out⟩
  · cases e1
    clear e4 e7 e8 hnil
    have hcap : c0 ≤ 9223372036854775807 := by unfold maxLen at e6; omega
    by_cases hc : c0 = n
    · subst hc
      go_wp2_with (at_builtin; refine wpList_append_lies _ rfl _ _ 115 rfl B 118 i0 _ 5 56 Tryz.underlying115 hi0 hz0 hz1 hz2 rfl (by omega) _ c0 xs rfl HH.out ⟨vb, 0, none⟩ 1 vc pv rfl HP.out HC.out H1.out (by omega) (by unfold maxLen; omega) (by omega) hB _ rfl ?_)
      intro g' cap w1 hown hgrow hat hlt
      have HO := hid hown
      have HG := hid hgrow
      have HA := hid hat
      clear hown hgrow hat
      go_wp2_with fail
      go_ret
      exact ⟨_, rfl, ⟨g', cap, rfl, by rcases HA.out with h | h; exact .inl h; exact .inr (by omega)⟩, HO.out, HG.out⟩
    · go_wp2_with (at_builtin; refine wpList_append_lies _ rfl _ _ 115 rfl B 118 i0 _ 5 56 Tryz.underlying115 hi0 hz0 hz1 hz2 rfl (by omega) _ n xs rfl HH.out ⟨vb, 0, none⟩ 1 vc pv rfl HP.out HC.out H1.out (by omega) (by unfold maxLen; omega) (by omega) hB _ rfl ?_)
      intro g' cap w1 hown hgrow hat hlt
      have HO := hid hown
      have HG := hid hgrow
      have HA := hid hat
      clear hown hgrow hat
      go_wp2_with fail
      go_ret
      exact ⟨_, rfl, ⟨g', cap, rfl, by rcases HA.out with h | h; exact .inl h; exact .inr (by omega)⟩, HO.out, HG.out⟩
theorem sizeOfShard (w : World) : (Go.sizeOf 118).run Tryz.prog w = .ok 5 w := by kernel_rfl
set_option maxRecDepth 100000 in
set_option maxHeartbeats 4000000 in
theorem ins_shiftShard (w : World) (B b n c i : Nat) (cur : List Value) (hb : w.heap[b]? = some (.cells cur.toArray 118 (0, 0))) (hBb : B ≤ b) (hnc : n < c) (hc : c ≤ 9223372036854775807) (hcl : cur.length = c * 5) (hi : i < n) (vb : Nat) (pv : List Value) (vc : Nat) (hvb : w.heap[vb]? = some (.cells pv.toArray 118 (0, 0))) (hpl : pv.length = 5) (h1v : ∀ u ∈ pv, u.oneCell' = true) (h1c : ∀ u ∈ cur.take (n * 5), u.oneCell' = true) (hbig : n ≤ 1000000) (hne : vb ≠ b) :
    Calls Tryz.prog 143 #[.slice (some ⟨b, 0, none⟩) n c, .int .i64 i, .slice (some ⟨vb, 0, none⟩) 1 vc] w fun e w' => ∃ r, e = .returned r ∧ InsShard w w' (.slice (some ⟨b, 0, none⟩) n c) r B (n + 1) ((cur.take (n * 5)).take (i * 5) ++ pv ++ (cur.take (n * 5)).drop (i * 5)) := by
  have hcell : ∀ j u, pv[j]? = some u → w.cell? ((⟨vb, 0, none⟩ : Addr).add j) = some u := fun j u hj => by
    rw [Addr.add_lit, Nat.zero_add, cell_block hvb]; exact hj
  obtain ⟨cs1, hcs1⟩ : ∃ cs1, cs1 = (cur.take (n * 5)).drop (i * 5) := ⟨_, rfl⟩
  have hl1 : cs1.length = (n - i) * 5 := by rw [hcs1]; simp; omega
  have hcp1 : ∀ ty dc sc, (Builtin.copy_ #[115, 115] ty #[.slice (some ⟨b, (i + 1) * 5, none⟩) (n + 1 - (i + 1)) dc, .slice (some ⟨b, i * 5, none⟩) (n + 1 - i) sc]).run Tryz.prog w.drew = .ok (goInt ((n - i : Nat) : Int)) (w.drew.setRow b (spl cur ((i + 1) * 5) cs1).toArray) := fun ty dc sc =>
    run_copy_rowK w.drew _ _ ty 118 5 (n - i) b ((i + 1) * 5) (n + 1 - (i + 1)) dc ⟨b, i * 5, none⟩ (n + 1 - i) sc cur 118 cs1 Tryz.underlying115 sizeShard hb (by simp only [Nat.min_def]; split <;> omega) hl1
      (fun j v hj => by
        rw [Addr.add_lit]
        show w.cell? _ = _
        rw [cell_block hb]
        rw [hcs1, List.getElem?_drop, List.getElem?_take] at hj
        split at hj
        · exact hj
        · cases hj)
      (by rw [hl1, hcl]; omega) (fun v hv => h1c v (by rw [hcs1] at hv; exact List.mem_of_mem_drop hv))
  obtain ⟨W1, hW1⟩ : ∃ W1, W1 = w.drew.setRow b (spl cur ((i + 1) * 5) cs1).toArray := ⟨_, rfl⟩
  have hh1 : W1.heap[b]? = some (.cells (spl cur ((i + 1) * 5) cs1).toArray 118 (0, 0)) := by rw [hW1]; exact setRow_heap w.drew b _ _ _ _ hb
  have hll : (spl cur ((i + 1) * 5) cs1).length = cur.length := spl_length _ _ _ (by rw [hl1, hcl]; omega)
  have hcp2 : ∀ ty dc, (Builtin.copy_ #[115, 115] ty #[.slice (some ⟨b, i * 5, none⟩) (n + 1 - i) dc, .slice (some ⟨vb, 0, none⟩) 1 vc]).run Tryz.prog W1 = .ok (goInt ((1 : Nat) : Int)) (W1.setRow b (spl (spl cur ((i + 1) * 5) cs1) (i * 5) pv).toArray) := fun ty dc =>
    run_copy_rowK W1 _ _ ty 118 5 1 b (i * 5) (n + 1 - i) dc ⟨vb, 0, none⟩ 1 vc _ 118 pv Tryz.underlying115 sizeShard hh1 (by simp only [Nat.min_def]; split <;> omega) (by rw [hpl])
      (fun j v hj => by
        rw [hW1, Addr.add_lit, Nat.zero_add, World.cell?_of_block (w := w.drew) (setRow_other w.drew b vb _ hne)]
        show w.cell? _ = _
        rw [cell_block hvb]; exact hj)
      (by rw [hpl, hll, hcl]; omega) h1v
  have hcp1' : ∀ ty dc sc, (Builtin.copy_ #[115, 115] ty #[.slice (some ⟨b, (i + 1) * 5, none⟩) (n - i) dc, .slice (some ⟨b, i * 5, none⟩) (n + 1 - i) sc]).run Tryz.prog w.drew = .ok (goInt ((n - i : Nat) : Int)) W1 := fun ty dc sc => by rw [hW1]; have := hcp1 ty dc sc; rwa [show n + 1 - (i + 1) = n - i by omega] at this
  obtain ⟨W2, hW2⟩ : ∃ W2, W2 = W1.setRow b (spl (spl cur ((i + 1) * 5) cs1) (i * 5) pv).toArray := ⟨_, rfl⟩
  have hcp2' : ∀ ty dc, (Builtin.copy_ #[115, 115] ty #[.slice (some ⟨b, i * 5, none⟩) (n + 1 - i) dc, .slice (some ⟨vb, 0, none⟩) 1 vc]).run Tryz.prog W1 = .ok (goInt ((1 : Nat) : Int)) W2 := fun ty dc => by rw [hW2]; exact hcp2 ty dc
  have HEND : Hid (InsShard w W2 (.slice (some ⟨b, 0, none⟩) n c) (.slice (some ⟨b, 0, none⟩) (n + 1) c) B (n + 1) ((cur.take (n * 5)).take (i * 5) ++ pv ++ (cur.take (n * 5)).drop (i * 5))) := by
    refine ⟨⟨b, c, rfl, .inl rfl⟩, ?_, ?_⟩
    · refine ownsRow_of_block (cur := spl (spl cur ((i + 1) * 5) cs1) (i * 5) pv) hBb (by rw [hW2]; exact setRow_heap _ _ _ _ _ _ hh1) (by omega) hc (by rw [spl_length _ _ _ (by rw [hpl, hll, hcl]; omega), hll, hcl]) ?_
      rw [hcs1, show (i + 1) * 5 = i * 5 + 5 by omega, show (n + 1) * 5 = n * 5 + 5 by omega]
      exact spl_insert cur (i * 5) 5 (n * 5) _ pv hpl (by omega) (by rw [hcl]; omega) rfl
    · have g1 : w.grownBy W1 (some b) := by rw [hW1]; exact (show w.grownBy w.drew (some b) from ⟨rfl, rfl, rfl, Nat.le_refl _, fun _ _ _ => rfl⟩).trans (grownBy_setRow w.drew b _)
      have g2 : w.grownBy W2 (some b) := by rw [hW2]; exact g1.trans (grownBy_setRow W1 b _)
      exact g2
  have hvbl : vb < w.heap.size := (Array.getElem?_eq_some_iff.1 hvb).1
  have hov : ∀ lb cb, (callFunc 172 #[.slice (some ⟨vb, 0, none⟩) 1 vc, .slice (some ⟨b, (i + 1) * 5, none⟩) lb cb]).run Tryz.prog w = .ok (.value (.bool false)) w := fun lb cb => by
    rw [run_callFunc_extern Tryz.func172 (by kernel_rfl) (by kernel_rfl) (by kernel_rfl) (e := Extern.SlicesOverlaps.overlaps #[115, 115] #[4]) (by kernel_rfl),
      Lib.run_overlaps_apart w 115 4 118 Tryz.underlying115 5 sizeOfShard ⟨vb, 0, none⟩ ⟨b, (i + 1) * 5, none⟩ 1 vc lb cb hne 118 118 5 (c * 5) (by simp [World.shape?, hvb, hpl]) (by simp [World.shape?, hb, hcl]) (by omega) (frozen_of_row w vb 0 _ _ hvb) (frozen_of_row w vb 5 _ _ hvb)]
    rfl
  have hbl : b < w.heap.size := (Array.getElem?_eq_some_iff.1 hb).1
  have z1 : ¬ ((i : Int) = (n : Int)) := by omega
  have z2 : ¬ (c < n + 1) := by omega
  have z3 : ¬ ((c : Int) < (n : Int) + 1) := by omega
  have z4 : IntKind.i64.wrap ((i : Int) + 1) = (i : Int) + 1 := IntWalk.i64_in _ (by omega)
  have z5 : (0 : Int) ≤ (i : Int) + 1 := by omega
  have z6 : ((i : Int) + 1).toNat = i + 1 := by omega
  have z7 : ¬ (c = i + 1) := by omega
  have z8 : ¬ (c = i) := by omega
  have z9 : (i : Int) ≤ (n : Int) + 1 := by omega
  have z10 : i ≤ n := by omega
  clear hcs1 hcp1 hcp2 hh1 hW1 hW2 hcell hb hvb hcl hl1 hll h1c h1v hpl hi
  go_enter Tryz.func143, Tryz.ntmps143
  go_wp2_with (simp only [hov])
  go_region_law (refine step_copy_run rfl (.tmp 73) (.tmp 76) 115 115 rfl (.slice (some ⟨b, (i + 1) * 5, none⟩) (n - i) (c - (i + 1))) (.slice (some ⟨b, i * 5, none⟩) (n + 1 - i) (c - i)) (by simp [Act.eval, Act.put]) (by simp [Act.eval, Act.put]) (hcp1' _ _ _) ?_)
  go_wp2_with (at_builtin; refine wpList_copy_run _ rfl _ _ 115 115 rfl _ _ rfl rfl (hcp2' _ _) ?_)
  go_ret
  exact ⟨_, rfl, HEND.out⟩
theorem zcShard : (Value.cells (.agg #[.int .i64 0, .int .i64 0, .int .i64 0, .string ⟨#[]⟩, .string ⟨#[]⟩])).size = 5 := by kernel_rfl
set_option maxRecDepth 100000 in
set_option maxHeartbeats 4000000 in
theorem ins_growShard (w : World) (B b n i : Nat) (cur : List Value) (hb : w.heap[b]? = some (.cells cur.toArray 118 (0, 0))) (hB : B ≤ w.heap.size) (hcl : cur.length = n * 5) (hi : i < n) (vb : Nat) (pv : List Value) (vc : Nat) (hvb : w.heap[vb]? = some (.cells pv.toArray 118 (0, 0))) (hpl : pv.length = 5) (h1v : ∀ u ∈ pv, u.oneCell' = true) (h1c : ∀ u ∈ cur, u.oneCell' = true) (hbig : n ≤ 1000000) :
    Calls Tryz.prog 143 #[.slice (some ⟨b, 0, none⟩) n n, .int .i64 i, .slice (some ⟨vb, 0, none⟩) 1 vc] w fun e w' => ∃ r, e = .returned r ∧ InsShard w w' (.slice (some ⟨b, 0, none⟩) n n) r B (n + 1) (cur.take (i * 5) ++ pv ++ cur.drop (i * 5)) := by
  obtain ⟨i0, hi0, hz0, hzs, hzb⟩ := info_parts infoShard
  have hbw : b < w.heap.size := (Array.getElem?_eq_some_iff.1 hb).1
  have hvw : vb < w.heap.size := (Array.getElem?_eq_some_iff.1 hvb).1
  have hold : (Builtin.firstCells i0.size i (.slice (some ⟨b, 0, none⟩) i n)).run Tryz.prog w.drew = .ok (cur.take (i * 5)).toArray w.drew := by
    rw [hzs]
    exact run_firstCells_some w.drew 5 i ⟨b, 0, none⟩ i n (cur.take (i * 5)) (by rw [List.length_take]; omega) (fun j v hj => by
      rw [Addr.add_lit, Nat.zero_add]
      show w.cell? _ = _
      rw [cell_block hb]
      rw [List.getElem?_take] at hj
      split at hj
      · exact hj
      · cases hj)
  obtain ⟨G, hG⟩ : ∃ G, G = grownCap w (n + 1) n 118 := ⟨_, rfl⟩
  obtain ⟨R, hR⟩ : ∃ R : List Value, R = cur.take (i * 5) ++ (Builtin.zeroCells (Value.cells (.agg #[.int .i64 0, .int .i64 0, .int .i64 0, .string ⟨#[]⟩, .string ⟨#[]⟩])) (n + 1 - i)).toList ++ (Builtin.zeroCells (Value.cells (.agg #[.int .i64 0, .int .i64 0, .int .i64 0, .string ⟨#[]⟩, .string ⟨#[]⟩])) (G - (n + 1))).toList := ⟨_, rfl⟩
  have hGn : n + 1 ≤ G := by rw [hG]; exact grownCap_ge w _ _ _
  have hG63 : G ≤ 9223372036854775807 := by
    have := grownCap_le_maxLen w (n + 1) n 118 (by unfold maxLen; omega)
    rw [← hG] at this
    unfold maxLen at this
    omega
  have hRl : R.length = G * 5 := by
    rw [hR]
    simp only [List.length_append, Array.length_toList, size_zeroCells, zcShard, List.length_take]
    omega
  have hrz : ∀ ty, (Builtin.append_ #[115, 3] ty #[.slice (some ⟨b, 0, none⟩) i n, .int .i64 ((n : Int) + 1 - (i : Int))]).run Tryz.prog w =
      .ok (.slice (some ⟨w.heap.size, 0, none⟩) (n + 1) G) ((w.alloc (.cells R.toArray 118)).drew) := fun ty => by
    have h := Lib.run_append_grow_zeros w 115 3 ty 118 i0 _ .i64 .i64 Tryz.underlying115 Tryz.underlying3 hi0 hz0 (some ⟨b, 0, none⟩) i n (cur.take (i * 5)) hold (n + 1 - i) (by omega) (by omega) (by omega) (by omega) (by rw [hzb]; omega) (by rw [hzb, show i + (n + 1 - i) = n + 1 by omega]; exact growslice_fits (by omega) (by omega))
    rw [show i + (n + 1 - i) = n + 1 by omega, ← hG] at h
    rw [show (n : Int) + 1 - (i : Int) = ((n + 1 - i : Nat) : Int) by omega, h, hR]
    simp only [← List.append_toArray, Array.toArray_toList]
    rfl
  obtain ⟨WA, hWA⟩ : ∃ WA, WA = (w.alloc (.cells R.toArray 118)).drew := ⟨_, rfl⟩
  have hhA : WA.heap[w.heap.size]? = some (.cells R.toArray 118 (0, 0)) := by rw [hWA]; exact heap_alloc_new w _
  have hold2 : ∀ k, k < w.heap.size → WA.heap[k]? = w.heap[k]? := fun k hk => by rw [hWA]; exact heap_alloc_old w _ hk
  rw [← hWA] at hrz
  have hcpA : ∀ ty dc, (Builtin.copy_ #[115, 115] ty #[.slice (some ⟨w.heap.size, i * 5, none⟩) (n + 1 - i) dc, .slice (some ⟨vb, 0, none⟩) 1 vc]).run Tryz.prog WA = .ok (goInt ((1 : Nat) : Int)) (WA.setRow w.heap.size (spl R (i * 5) pv).toArray) := fun ty dc =>
    run_copy_rowK WA _ _ ty 118 5 1 w.heap.size (i * 5) (n + 1 - i) dc ⟨vb, 0, none⟩ 1 vc R 118 pv Tryz.underlying115 sizeShard hhA (by simp only [Nat.min_def]; split <;> omega) (by rw [hpl])
      (fun j v hj => by rw [Addr.add_lit, Nat.zero_add, World.cell?_of_block (w := w) (hold2 vb hvw), cell_block hvb]; exact hj)
      (by rw [hpl, hRl]; omega) h1v
  obtain ⟨WB, hWB⟩ : ∃ WB, WB = WA.setRow w.heap.size (spl R (i * 5) pv).toArray := ⟨_, rfl⟩
  have hll : (spl R (i * 5) pv).length = G * 5 := by rw [spl_length _ _ _ (by rw [hpl, hRl]; omega), hRl]
  have hhB : WB.heap[w.heap.size]? = some (.cells (spl R (i * 5) pv).toArray 118 (0, 0)) := by rw [hWB]; exact setRow_heap _ _ _ _ _ _ hhA
  have hold3 : ∀ k, k < w.heap.size → WB.heap[k]? = w.heap[k]? := fun k hk => by rw [hWB]; exact (setRow_other WA _ k _ (by omega)).trans (hold2 k hk)
  rw [← hWB] at hcpA
  obtain ⟨cs1, hcs1⟩ : ∃ cs1, cs1 = cur.drop (i * 5) := ⟨_, rfl⟩
  have hl1 : cs1.length = (n - i) * 5 := by rw [hcs1]; simp; omega
  have hcpB : ∀ ty dc sc, (Builtin.copy_ #[115, 115] ty #[.slice (some ⟨w.heap.size, (i + 1) * 5, none⟩) (n - i) dc, .slice (some ⟨b, i * 5, none⟩) (n - i) sc]).run Tryz.prog WB.drew = .ok (goInt ((n - i : Nat) : Int)) (WB.drew.setRow w.heap.size (spl (spl R (i * 5) pv) ((i + 1) * 5) cs1).toArray) := fun ty dc sc =>
    run_copy_rowK WB.drew _ _ ty 118 5 (n - i) w.heap.size ((i + 1) * 5) (n - i) dc ⟨b, i * 5, none⟩ (n - i) sc _ 118 cs1 Tryz.underlying115 sizeShard hhB (by simp only [Nat.min_def]; split <;> omega) hl1
      (fun j v hj => by
        rw [Addr.add_lit]
        show WB.cell? _ = _
        rw [World.cell?_of_block (w := w) (hold3 b hbw), cell_block hb]
        rw [hcs1, List.getElem?_drop] at hj
        exact hj)
      (by rw [hl1, hll]; omega) (fun v hv => h1c v (by rw [hcs1] at hv; exact List.mem_of_mem_drop hv))
  obtain ⟨WC, hWC⟩ : ∃ WC, WC = WB.drew.setRow w.heap.size (spl (spl R (i * 5) pv) ((i + 1) * 5) cs1).toArray := ⟨_, rfl⟩
  rw [← hWC] at hcpB
  have HEND : Hid (InsShard w WC (.slice (some ⟨b, 0, none⟩) n n) (.slice (some ⟨w.heap.size, 0, none⟩) (n + 1) G) B (n + 1) (cur.take (i * 5) ++ pv ++ cur.drop (i * 5))) := by
    refine ⟨⟨w.heap.size, G, rfl, .inr (Nat.le_refl _)⟩, ?_, ?_⟩
    · refine ownsRow_of_block (cur := spl (spl R (i * 5) pv) ((i + 1) * 5) cs1) hB (by rw [hWC]; exact setRow_heap _ _ _ _ _ _ hhB) hGn hG63 (by rw [spl_length _ _ _ (by rw [hl1, hll]; omega), hll]) ?_
      rw [show (n + 1) * 5 = (i + 1) * 5 + cs1.length by rw [hl1]; omega, spl_take _ _ _ (by rw [hll]; omega), show (i + 1) * 5 = i * 5 + pv.length by rw [hpl]; omega, spl_take _ _ _ (by rw [hRl]; omega), hcs1, hR]
      congr 2
      rw [List.append_assoc, List.take_append_of_le_length (by simp; omega)]
      exact List.take_of_length_le (by simp; omega)
    · have g1 : Only (fun _ => False) w WA := by rw [hWA]; exact (((Grew.refl w).alloc _).drew).only _
      have g2 : Only (fun j => j = w.heap.size) w WB := by rw [hWB]; exact (g1.mono (fun j hj => hj.elim)).then (only_setRow WA _ _)
      have g3 : Only (fun j => j = w.heap.size) w WC := by rw [hWC]; exact g2.drew.then (only_setRow WB.drew _ _)
      exact g3.toGrownBy (fun j hj => .inr (by omega))
  have z1 : ¬ ((i : Int) = (n : Int)) := by omega
  have z4 : IntKind.i64.wrap ((i : Int) + 1) = (i : Int) + 1 := IntWalk.i64_in _ (by omega)
  have z5 : (0 : Int) ≤ (i : Int) + 1 := by omega
  have z6 : ((i : Int) + 1).toNat = i + 1 := by omega
  have z7 : ¬ (G = i + 1) := by omega
  have z8 : ¬ (G = i) := by omega
  have z9 : (i : Int) ≤ (n : Int) := by omega
  have z10 : i ≤ n := by omega
  have z11 : ¬ (n = i) := by omega
  have z12 : (n : Int) < (n : Int) + 1 := by omega
  clear hold hG hR hGn hRl hWA hhA hold2 hWB hll hhB hold3 hcs1 hl1 hWC hb hvb hcl h1c h1v hpl hi
  go_enter Tryz.func143, Tryz.ntmps143
  go_wp2_with (first
    | (at_builtin; refine Lib.wpList_append_run _ rfl _ _ _ _ rfl _ _ rfl rfl _ _ (hrz _) ?_)
    | (at_builtin; refine wpList_copy_run _ rfl _ _ 115 115 rfl _ _ rfl rfl (hcpA _ _) ?_))
  go_region_law (refine step_copy_run rfl (.tmp 50) (.tmp 53) 115 115 rfl (.slice (some ⟨w.heap.size, (i + 1) * 5, none⟩) (n - i) (G - (i + 1))) (.slice (some ⟨b, i * 5, none⟩) (n - i) (n - i)) (by simp [Act.eval, Act.put]) (by simp [Act.eval, Act.put]) (hcpB _ _ _) ?_)
  go_wp2_with fail
  go_ret
  exact ⟨_, rfl, HEND.out⟩
theorem insShard (w : World) (B : Nat) (a0 : Option Addr) (n c0 : Nat) (xs : List Value) (h : w.ownsRow B 118 5 (.slice a0 n c0) n xs) (hB : B ≤ w.heap.size) (h1 : ∀ u ∈ xs, u.oneCell' = true) (i : Nat) (hi : i ≤ n) (vb : Nat) (pv : List Value) (vc : Nat) (hvb : w.heap[vb]? = some (.cells pv.toArray 118 (0, 0))) (hpl : pv.length = 5) (h1v : ∀ u ∈ pv, u.oneCell' = true) (hbig : n ≤ 1000000) (hne : Value.ownBlock (.slice a0 n c0) ≠ some vb) :
    Calls Tryz.prog 143 #[.slice a0 n c0, .int .i64 i, .slice (some ⟨vb, 0, none⟩) 1 vc] w fun e w' => ∃ r, e = .returned r ∧ InsShard w w' (.slice a0 n c0) r B (n + 1) (xs.take (i * 5) ++ pv ++ xs.drop (i * 5)) := by
  by_cases hin : i = n
  · subst hin
    rw [← h.1, List.take_length, List.drop_length, List.append_nil]
    exact ins_endShard w B _ i xs a0 c0 rfl h hB vb pv vc hvb hpl h1v hbig
  · obtain ⟨g, cap, cur, e, hBg, hg, hnc, hc63, hcl, hx⟩ := ownsRow_block h (by omega)
    cases e
    subst hx
    by_cases hr : n < c0
    · exact ins_shiftShard w B g n c0 i cur hg hBg hr hc63 hcl (by omega) vb pv vc hvb hpl h1v h1 hbig (fun e => hne (by rw [e]; rfl))
    · obtain rfl : c0 = n := by omega
      have hw : cur.take (c0 * 5) = cur := List.take_of_length_le (by omega)
      rw [hw] at h1 ⊢
      exact ins_growShard w B g c0 i cur hg hB hcl (by omega) vb pv vc hvb hpl h1v h1 hbig
end Go.Proofs.YtbdagllflamabaaGreatDoor
namespace Go.Proofs.YtbdagllflamabaaGreatDoor
open Go.RowKit Go.Maps
attribute [local go_sem] Oper.semAt_some
theorem infoDShard : (Tryz.prog.info? 118).map (fun i => (i.zero, i.size, i.bytes)) = some (some (.agg #[.int .i64 0, .int .i64 0, .int .i64 0, .string ⟨#[]⟩, .string ⟨#[]⟩]), 5, 56) := by kernel_rfl
theorem zeroDShard (w : World) : (zeroValue 118).run Tryz.prog w = .ok (.agg #[.int .i64 0, .int .i64 0, .int .i64 0, .string ⟨#[]⟩, .string ⟨#[]⟩]) w := by kernel_rfl
theorem zcDShard : (Value.cells (.agg #[.int .i64 0, .int .i64 0, .int .i64 0, .string ⟨#[]⟩, .string ⟨#[]⟩])).size = 5 := by kernel_rfl
theorem zoDShard : ∀ v ∈ (Value.cells (.agg #[.int .i64 0, .int .i64 0, .int .i64 0, .string ⟨#[]⟩, .string ⟨#[]⟩])).toList, v.oneCell' = true := by
  have h : (Value.cells (.agg #[.int .i64 0, .int .i64 0, .int .i64 0, .string ⟨#[]⟩, .string ⟨#[]⟩])).toList.all (fun v => v.oneCell') = true := by kernel_rfl
  exact fun v hv => List.all_eq_true.1 h v hv
set_option maxRecDepth 100000 in
set_option maxHeartbeats 4000000 in
theorem delShard (w : World) (B q i : Nat) (a0 : Option Addr) (c0 : Nat) (xs : List Value) (h : w.ownsRow B 118 5 (.slice a0 (q + 1) c0) (q + 1) xs) (h1 : ∀ u ∈ xs, u.oneCell' = true) (hi : i ≤ q) (hbig : q ≤ 1000000) :
    Calls Tryz.prog 144 #[.slice a0 (q + 1) c0, .int .i64 i, .int .i64 ((i : Int) + 1)] w fun e w' => e = .returned (.slice a0 q c0) ∧ w'.ownsRow B 118 5 (.slice a0 q c0) q (xs.take (i * 5) ++ xs.drop ((i + 1) * 5)) ∧ w.grownBy w' (Value.ownBlock (.slice a0 (q + 1) c0)) := by
  obtain ⟨i0, hi0, hz0, hzs, hzb⟩ := info_parts infoDShard
  obtain ⟨b, c, cur, e, hBb, hb, hnc, hc, hcl, hx⟩ := ownsRow_block h (by omega)
  cases e
  subst hx
  obtain ⟨D, hD⟩ : ∃ D, D = (cur.take ((q + 1) * 5)).drop ((i + 1) * 5) := ⟨_, rfl⟩
  have hDl : D.length = (q - i) * 5 := by rw [hD]; simp; omega
  have hrun : ∀ ty a sc, (D ≠ [] → a = ⟨b, (i + 1) * 5, none⟩) → (Builtin.append_ #[115, 115] ty #[.slice (some ⟨b, 0, none⟩) i c0, .slice (some a) (q - i) sc]).run Tryz.prog w.drew = .ok (.slice (some ⟨b, 0, none⟩) q c0) (w.drew.setRow b (spl cur (i * 5) D).toArray) := fun ty a sc ha => by
    have h := run_append_room (P := Tryz.prog) w.drew 115 ty 118 i0 Tryz.underlying115 hi0 b i c0 cur.toArray hb a (q - i) sc D (by rw [hzs]; exact hDl)
      (fun j u hj => by
        have hne : D ≠ [] := fun e => by rw [e] at hj; cases hj
        rw [ha hne, Addr.add_lit]
        show w.cell? _ = _
        rw [cell_block hb]
        rw [hD, List.getElem?_drop, List.getElem?_take] at hj
        split at hj
        · exact hj
        · cases hj)
      (fun u hu => h1 u (by rw [hD] at hu; exact List.mem_of_mem_drop hu)) (by omega) (by rw [hzs, hDl]; simp; omega)
    rw [show i + (q - i) = q by omega, hzs] at h
    rw [h]
    simp [spl]
  obtain ⟨W1, hW1⟩ : ∃ W1, W1 = w.drew.setRow b (spl cur (i * 5) D).toArray := ⟨_, rfl⟩
  have hll : (spl cur (i * 5) D).length = c0 * 5 := by rw [spl_length _ _ _ (by rw [hDl]; omega), hcl]
  have hh1 : W1.heap[b]? = some (.cells (spl cur (i * 5) D).toArray 118 (0, 0)) := by rw [hW1]; exact setRow_heap w.drew b _ _ _ _ hb
  rw [← hW1] at hrun
  have hclr : ∀ ty sc, (Builtin.clear_ #[115] ty #[.slice (some ⟨b, q * 5, none⟩) 1 sc]).run Tryz.prog W1 = .ok (.tuple #[]) (W1.setRow b (spl (spl cur (i * 5) D) (q * 5) (Builtin.zeroCells (Value.cells (.agg #[.int .i64 0, .int .i64 0, .int .i64 0, .string ⟨#[]⟩, .string ⟨#[]⟩])) 1).toList).toArray) := fun ty sc =>
    run_clear_rowK W1 115 118 ty _ 5 Tryz.underlying115 zeroDShard zcDShard zoDShard b (q * 5) sc _ 118 hh1 (by rw [hll]; omega)
  obtain ⟨Z, hZ⟩ : ∃ Z, Z = (Builtin.zeroCells (Value.cells (.agg #[.int .i64 0, .int .i64 0, .int .i64 0, .string ⟨#[]⟩, .string ⟨#[]⟩])) 1).toList := ⟨_, rfl⟩
  have hZl : Z.length = 5 := by rw [hZ, Array.length_toList, size_zeroCells, zcDShard]
  rw [← hZ] at hclr
  obtain ⟨W2, hW2⟩ : ∃ W2, W2 = W1.setRow b (spl (spl cur (i * 5) D) (q * 5) Z).toArray := ⟨_, rfl⟩
  rw [← hW2] at hclr
  have HEND : Hid (W2.ownsRow B 118 5 (.slice (some ⟨b, 0, none⟩) q c0) q ((cur.take ((q + 1) * 5)).take (i * 5) ++ (cur.take ((q + 1) * 5)).drop ((i + 1) * 5)) ∧ w.grownBy W2 (some b)) := by
    refine ⟨ownsRow_of_block (cur := spl (spl cur (i * 5) D) (q * 5) Z) hBb (by rw [hW2]; exact setRow_heap _ _ _ _ _ _ hh1) (by omega) hc (by rw [spl_length _ _ _ (by rw [hZl, hll]; omega), hll]) ?_, ?_⟩
    · rw [spl_take_le _ _ _ _ (Nat.le_refl _) (by rw [hll]; omega), show q * 5 = i * 5 + D.length by rw [hDl]; omega, spl_take _ _ _ (by omega), hD, List.take_take]
      congr 2
      omega
    · have g1 : w.grownBy W1 (some b) := by rw [hW1]; exact (show w.grownBy w.drew (some b) from ⟨rfl, rfl, rfl, Nat.le_refl _, fun _ _ _ => rfl⟩).trans (grownBy_setRow w.drew b _)
      rw [hW2]; exact g1.trans (grownBy_setRow W1 b _)
  have HRUN := hid hrun
  have hDn : c0 = i + 1 → D = [] := fun e => List.eq_nil_of_length_eq_zero (by rw [hDl]; omega)
  have HDN := hid hDn
  have z1 : ((i : Int) == (i : Int) + 1) = false := beq_eq_false_iff_ne.2 (by omega)
  have z2 : (0 : Int) ≤ (i : Int) + 1 := by omega
  have z3 : ((i : Int) + 1).toNat = i + 1 := by omega
  have z4 : (i : Int) + 1 ≤ (q : Int) + 1 := by omega
  have z5 : (i : Int) ≤ (i : Int) + 1 := by omega
  have z6 : q + 1 ≤ c0 := hnc
  have z7 : ¬ (c0 = q) := by omega
  have z8 : ¬ (c0 = i) := by omega
  have z9 : (i : Int) ≤ (c0 : Int) := by omega
  have z10 : i ≤ q + 1 := by omega
  have z11 : i ≤ c0 := by omega
  have z12 : ¬ ((i : Int) = (i : Int) + 1) := by omega
  clear hrun hDn hDl hD hW1 hll hh1 hZ hZl hW2 hb hcl h h1 hnc
  by_cases hci : c0 = i + 1
  · obtain rfl : i = q := by omega
    subst hci
    have hr0 : ∀ ty sc, (Builtin.append_ #[115, 115] ty #[.slice (some ⟨b, 0, none⟩) i (i + 1), .slice (some ⟨b, 0, none⟩) 0 sc]).run Tryz.prog w.drew = .ok (.slice (some ⟨b, 0, none⟩) i (i + 1)) W1 := fun ty sc => by
      have := HRUN.out ty ⟨b, 0, none⟩ sc (fun hne => absurd (HDN.out rfl) hne)
      rwa [Nat.sub_self] at this
    clear HRUN HDN
    go_enter Tryz.func144, Tryz.ntmps144
    go_wp2_with fail
    go_region_law (refine step_append_run rfl (.tmp 22) (.tmp 25) 115 115 rfl (.slice (some ⟨b, 0, none⟩) i (i + 1)) (.slice (some ⟨b, 0, none⟩) 0 0) (by simp [Act.eval, Act.put]) (by simp [Act.eval, Act.put]) (hr0 _ _) ?_)
    go_wp2_with fail
    go_ret
    exact ⟨rfl, HEND.out⟩
  · have hr0 : ∀ ty sc, (Builtin.append_ #[115, 115] ty #[.slice (some ⟨b, 0, none⟩) i c0, .slice (some ⟨b, (i + 1) * 5, none⟩) (q - i) sc]).run Tryz.prog w.drew = .ok (.slice (some ⟨b, 0, none⟩) q c0) W1 := fun ty sc => HRUN.out ty ⟨b, (i + 1) * 5, none⟩ sc (fun _ => rfl)
    clear HRUN HDN
    go_enter Tryz.func144, Tryz.ntmps144
    go_wp2_with fail
    go_region_law (refine step_append_run rfl (.tmp 22) (.tmp 25) 115 115 rfl (.slice (some ⟨b, 0, none⟩) i c0) (.slice (some ⟨b, (i + 1) * 5, none⟩) (q - i) (c0 - (i + 1))) (by simp [Act.eval, Act.put]) (by simp [Act.eval, Act.put]) (hr0 _ _) ?_)
    go_wp2_with fail
    go_ret
    exact ⟨rfl, HEND.out⟩
end Go.Proofs.YtbdagllflamabaaGreatDoor
set_option linter.unusedVariables false
set_option linter.unusedSectionVars false
set_option linter.unusedSimpArgs false
namespace Go.Proofs.YtbdagllflamabaaGreatDoor
open Go.RowKit Go.Maps
attribute [local go_sem] Oper.semAt_some
theorem infoCShard : (Tryz.prog.info? 118).map (fun i => (i.zero, i.size, i.bytes)) = some (some (.agg #[.int .i64 0, .int .i64 0, .int .i64 0, .string ⟨#[]⟩, .string ⟨#[]⟩]), 5, 56) := by kernel_rfl
theorem zcCShard : (Value.cells (.agg #[.int .i64 0, .int .i64 0, .int .i64 0, .string ⟨#[]⟩, .string ⟨#[]⟩])).size = 5 := by kernel_rfl
theorem eqCShard (gb off m c : Nat) (w : World) : (binOp .eql 115 (.slice (some ⟨gb, off, none⟩) m c) (.slice none 0 0)).run Tryz.prog w = .ok (.bool false) w := by kernel_rfl
set_option maxRecDepth 100000 in
set_option maxHeartbeats 1000000 in
theorem cloneShard (w : World) (gb off m c : Nat) (hm : 0 < m) (hbig : m ≤ 1000000) (news : List Value) (hl : news.length = m * 5) (hnews : ∀ j u, news[j]? = some u → w.cell? ⟨gb, off + j, none⟩ = some u) (h1 : ∀ u ∈ news, u.oneCell' = true) :
    Calls Tryz.prog 89 #[.slice (some ⟨gb, off, none⟩) m c] w fun e w' => ∃ g cap, e = .returned (.slice (some ⟨g, 0, none⟩) m cap) ∧ w'.ownsRow w.heap.size 118 5 (.slice (some ⟨g, 0, none⟩) m cap) m news ∧ Grew w w' := by
  obtain ⟨i0, hi0, hz0, hz1, hz2⟩ := info_parts infoCShard
  have had : gb < w.heap.size := by
    have h0 : 0 < news.length := by omega
    have h2 := World.block_lt_of_cell? _ _ (hnews 0 news[0] (List.getElem?_eq_getElem h0))
    exact h2
  have HN : Hid (∀ (t : TypeId) j u, news[j]? = some u → (w.alloc (.cells #[] t)).cell? ⟨gb, off + j, none⟩ = some u) := fun t j u hj => by
    have := hnews j u hj
    rw [← this]
    exact ((Grew.refl w).alloc _).below.cell (World.block_lt_of_cell? _ _ this)
  have HL := hid hl
  have H1 := hid h1
  have HO := hid (fun (t : TypeId) (h : t = 118) => show (w.alloc (.cells #[] t)).ownsRow w.heap.size 118 5 (.slice (some ⟨w.heap.size, 0, none⟩) 0 0) 0 [] from by
    subst h
    exact ownsRow_of_block (cur := []) (Nat.le_refl _) (heap_alloc_new w _) (Nat.le_refl _) (by decide) rfl rfl)
  clear hnews hl h1
  have hEq := eqCShard gb off m c
  go_enter Tryz.func89, Tryz.ntmps89
  go_wp2_with (at_builtin; refine wpList_append_lies _ rfl _ _ 115 rfl w.heap.size 118 i0 _ 5 56 Tryz.underlying115 hi0 hz0 hz1 hz2 zcCShard (by omega) (.slice (some ⟨w.heap.size, 0, none⟩) 0 0) 0 [] rfl (HO.out _ rfl) ⟨gb, off, none⟩ m c news rfl HL.out (fun j u hj => by rw [Addr.add_lit]; exact HN.out _ j u hj) H1.out (by omega) (by unfold maxLen; omega) (by omega) (by simp) _ rfl ?_)
  intro g cap w1 hown hgrow hat hlt
  have HO := hid hown
  have HG := hid hgrow
  clear hown hgrow hat
  go_wp2_with fail
  go_ret
  refine ⟨g, cap, by simp, by simpa using HO.out, ?_⟩
  refine (((Grew.refl w).alloc _).only (fun j => some j = Value.ownBlock (.slice (some ⟨w.heap.size, 0, none⟩) 0 0))).then (Only.of_grownBy HG.out) |>.grew ?_
  intro j hj
  have : j = w.heap.size := Option.some.inj hj
  omega
end Go.Proofs.YtbdagllflamabaaGreatDoor
namespace Go.Proofs.YtbdagllflamabaaGreatDoor
open Go.RowKit Go.Maps
attribute [local go_sem] Oper.semAt_some
theorem infoCEvent : (Tryz.prog.info? 164).map (fun i => (i.zero, i.size, i.bytes)) = some (some (.agg #[.int .i64 0, .int .i64 0, .int .i64 0, .int .i64 0, .int .i64 0, .int .i64 0, .int .i64 0, .slice none 0 0, .string ⟨#[]⟩, .int .i64 0, .int .i64 0, .int .i64 0, .slice none 0 0]), 13, 144) := by kernel_rfl
theorem zcCEvent : (Value.cells (.agg #[.int .i64 0, .int .i64 0, .int .i64 0, .int .i64 0, .int .i64 0, .int .i64 0, .int .i64 0, .slice none 0 0, .string ⟨#[]⟩, .int .i64 0, .int .i64 0, .int .i64 0, .slice none 0 0])).size = 13 := by kernel_rfl
theorem eqCEvent (gb off m c : Nat) (w : World) : (binOp .eql 153 (.slice (some ⟨gb, off, none⟩) m c) (.slice none 0 0)).run Tryz.prog w = .ok (.bool false) w := by kernel_rfl
theorem eqCnEvent (w : World) : (binOp .eql 153 (.slice none 0 0) (.slice none 0 0)).run Tryz.prog w = .ok (.bool true) w := by kernel_rfl
set_option maxRecDepth 100000 in
set_option maxHeartbeats 1000000 in
theorem cloneEvent (w : World) (gb off m c : Nat) (hm : 0 < m) (hbig : m ≤ 1000000) (news : List Value) (hl : news.length = m * 13) (hnews : ∀ j u, news[j]? = some u → w.cell? ⟨gb, off + j, none⟩ = some u) (h1 : ∀ u ∈ news, u.oneCell' = true) :
    Calls Tryz.prog 90 #[.slice (some ⟨gb, off, none⟩) m c] w fun e w' => ∃ g cap, e = .returned (.slice (some ⟨g, 0, none⟩) m cap) ∧ w'.ownsRow w.heap.size 164 13 (.slice (some ⟨g, 0, none⟩) m cap) m news ∧ Grew w w' := by
  obtain ⟨i0, hi0, hz0, hz1, hz2⟩ := info_parts infoCEvent
  have had : gb < w.heap.size := by
    have h0 : 0 < news.length := by omega
    have h2 := World.block_lt_of_cell? _ _ (hnews 0 news[0] (List.getElem?_eq_getElem h0))
    exact h2
  have HN : Hid (∀ (t : TypeId) j u, news[j]? = some u → (w.alloc (.cells #[] t)).cell? ⟨gb, off + j, none⟩ = some u) := fun t j u hj => by
    have := hnews j u hj
    rw [← this]
    exact ((Grew.refl w).alloc _).below.cell (World.block_lt_of_cell? _ _ this)
  have HL := hid hl
  have H1 := hid h1
  have HO := hid (fun (t : TypeId) (h : t = 164) => show (w.alloc (.cells #[] t)).ownsRow w.heap.size 164 13 (.slice (some ⟨w.heap.size, 0, none⟩) 0 0) 0 [] from by
    subst h
    exact ownsRow_of_block (cur := []) (Nat.le_refl _) (heap_alloc_new w _) (Nat.le_refl _) (by decide) rfl rfl)
  clear hnews hl h1
  have hEq := eqCEvent gb off m c
  go_enter Tryz.func90, Tryz.ntmps90
  go_wp2_with (at_builtin; refine wpList_append_lies _ rfl _ _ 153 rfl w.heap.size 164 i0 _ 13 144 Tryz.underlying153 hi0 hz0 hz1 hz2 zcCEvent (by omega) (.slice (some ⟨w.heap.size, 0, none⟩) 0 0) 0 [] rfl (HO.out _ rfl) ⟨gb, off, none⟩ m c news rfl HL.out (fun j u hj => by rw [Addr.add_lit]; exact HN.out _ j u hj) H1.out (by omega) (by unfold maxLen; omega) (by omega) (by simp) _ rfl ?_)
  intro g cap w1 hown hgrow hat hlt
  have HO := hid hown
  have HG := hid hgrow
  clear hown hgrow hat
  go_wp2_with fail
  go_ret
  refine ⟨g, cap, by simp, by simpa using HO.out, ?_⟩
  refine (((Grew.refl w).alloc _).only (fun j => some j = Value.ownBlock (.slice (some ⟨w.heap.size, 0, none⟩) 0 0))).then (Only.of_grownBy HG.out) |>.grew ?_
  intro j hj
  have : j = w.heap.size := Option.some.inj hj
  omega
set_option maxRecDepth 100000 in
theorem cloneNilEvent (w : World) : Calls Tryz.prog 90 #[.slice none 0 0] w fun e w' => e = .returned (.slice none 0 0) ∧ Grew w w' := by
  have hEq := eqCnEvent
  go_enter Tryz.func90, Tryz.ntmps90
  go_wp2_with fail
  go_ret
  exact ⟨rfl, Grew.refl w⟩
end Go.Proofs.YtbdagllflamabaaGreatDoor
