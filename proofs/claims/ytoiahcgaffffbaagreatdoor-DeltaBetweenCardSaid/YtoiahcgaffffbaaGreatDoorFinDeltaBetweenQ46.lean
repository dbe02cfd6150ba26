/- SamP, DelS, DelW: one text. -/
import Derived.Test.YtoiahcgaffffbaaGreatDoorFinDeltaBetweenQ6
import Derived.BigQuiet
import Derived.Test.YtoiahcgaffffbaaGreatDoorFinDeltaBetweenQ40
namespace Go.Proofs.YtoiahcgaffffbaaGreatDoor
open Go.RowKit Go.Maps
attribute [local go_sem] Oper.semAt_some
set_option maxRecDepth 100000 in
set_option maxHeartbeats 1000000 in
theorem samePairs_same (w : World) (a b : Option Addr) (c d : Nat) (xs : List Pr) (hA : PairsAt w a xs) (hB : PairsAt w b xs) (hx : xs.length ≤ 1000000) :
    Calls Tryz.prog 56 #[.slice a xs.length c, .slice b xs.length d] w fun e w' => e = .returned (.bool true) ∧ Grew w w' := by
  have HA := hid hA
  have HB := hid hB
  have hbn : (xs.length : Int) ≤ 1000000 := by omega
  clear hA hB
  go_enter Tryz.func56, Tryz.ntmps56
  go_wp2_with fail
  go_loopw [13] (fun i wr => ∃ k : Nat, k ≤ xs.length ∧ i = .int .i64 k ∧ Grew w wr) (fun i _ => xs.length - (intOf i).toNat)
  case atStart => exact ⟨0, Nat.zero_le _, rfl, Grew.refl w⟩
  case round =>
    obtain ⟨k, hk1, rfl, hG⟩ := hrel
    by_cases hlt : k < xs.length
    · rcases HA.out with h0 | ⟨b1, off1, rfl, hb1, hR1⟩
      · rw [h0] at hlt; simp at hlt
      rcases HB.out with h0 | ⟨b2, off2, rfl, hb2, hR2⟩
      · rw [h0] at hlt; simp at hlt
      have q0 := (hG.cells.1 _ _ hb1).trans (hR1.key k hlt)
      have q1 := (hG.cells.1 _ _ hb1).trans (hR1.val k hlt)
      have q2 := (hG.cells.1 _ _ hb1).trans (hR1.ver k hlt)
      have p0 := (hG.cells.1 _ _ hb2).trans (hR2.key k hlt)
      have p1 := (hG.cells.1 _ _ hb2).trans (hR2.val k hlt)
      have p2 := (hG.cells.1 _ _ hb2).trans (hR2.ver k hlt)
      clear hR1 hR2
      generalize prAt xs k = e at *
      obtain ⟨ek, ev, en⟩ := e
      dsimp only at *
      have hltI : (k : Int) < (xs.length : Int) := by omega
      go_wp2_with fail
      go_quiet (fail)
      all_goals (
        go_wp2_with fail
        go_roundw
        case rel => exact ⟨k + 1, by omega, by go_num, hG.drewN _⟩
        case measure => simp [intOf]; omega)
    · obtain rfl : k = xs.length := by omega
      go_wp2_with fail
      go_ret
      exact ⟨rfl, hG⟩
end Go.Proofs.YtoiahcgaffffbaaGreatDoor
set_option linter.unusedVariables false
set_option linter.unusedSectionVars false
set_option linter.unusedSimpArgs false
namespace Go.Proofs.YtoiahcgaffffbaaGreatDoor
open Go.RowKit Go.Maps
attribute [local go_sem] Oper.semAt_some uponV
set_option maxRecDepth 100000 in
set_option maxHeartbeats 1000000 in
theorem sameTexts_same (w : World) (a b : Option Addr) (c d : Nat) (K : List ByteArray) (hA : StrsAt w a K) (hB : StrsAt w b K) (hx : K.length ≤ 1000000) :
    Calls Tryz.prog 64 #[.slice a K.length c, .slice b K.length d] w fun e w' => e = .returned (.bool true) ∧ Grew w w' := by
  have HA := hid hA
  have HB := hid hB
  clear hA hB
  go_enter Tryz.func64, Tryz.ntmps64
  go_wp2_with fail
  go_loopw [13] (fun i wr => ∃ k : Nat, k ≤ K.length ∧ i = .int .i64 k ∧ Hid (Grew w wr)) (fun i _ => K.length - (intOf i).toNat)
  case atStart => exact ⟨0, Nat.zero_le _, rfl, Grew.refl w⟩
  case round =>
    obtain ⟨k, hk, rfl, HG⟩ := hrel
    by_cases hlt : k < K.length
    · rcases HA.out with h0 | ⟨b1, o1, rfl, hb1, hR1⟩
      · rw [h0] at hlt; simp at hlt
      rcases HB.out with h0 | ⟨b2, o2, rfl, hb2, hR2⟩
      · rw [h0] at hlt; simp at hlt
      have q1 := (HG.out.cells.1 b1 (o1 + k) hb1).trans (hR1 k _ (List.getElem?_eq_getElem hlt))
      have q2 := (HG.out.cells.1 b2 (o2 + k) hb2).trans (hR2 k _ (List.getElem?_eq_getElem hlt))
      clear hR1 hR2
      generalize K[k] = ka at *
      have C1 := wd_cell q1
      have C2 := wd_cell q2
      have hk9 : k < 2000000 := by omega
      clear q1 q2
      go_upto_region 6 with fail
      refine wp_region_still 9 (by kernel_rfl) (by kernel_rfl) (fun _ _ => rfl) ?_
      repeat (first
    | (refine mixS_skip (by rfl) (by rfl) (by rfl) ?_; simp only [Act.put, List.setIfInBounds_toArray, List.set_cons_zero, List.set_cons_succ])
    | (refine mixS_plain (by rfl) (by rfl) (by rfl) (by first | exact Grew.refl | exact fun _ => rfl) (by rfl) ?_; intro K hK; go_big_quiet_op; go_big_quiet_on))
      refine mixS_nil ?_
      intro x hG
      have HGx := hid (HG.out.trans hG)
      clear hG C1 C2
      dsimp only [List.drop]
      go_wp2_with fail
      go_roundw
      case rel => exact ⟨k + 1, by omega, by go_num, HGx.out⟩
      case measure => simp [intOf]; omega
    · have hkn : k = K.length := by omega
      subst hkn
      go_wp2_with fail
      go_ret
      exact ⟨rfl, HG.out⟩
set_option maxRecDepth 100000 in
set_option maxHeartbeats 2000000 in
theorem same37_same (w : World) {lo hi : ByteArray} {A : List Pr} {K : List ByteArray} {C : List (Int × An)} {ap ak ac bp bk bc : Option Addr} {c1 c2 c3 d1 d2 d3 : Nat} (hM : DlM w ap ak ac A K C) (hN : DlM w bp bk bc A K C) (hl : A.length ≤ 1000 ∧ K.length ≤ 1000 ∧ C.length ≤ 4) :
    Calls Tryz.prog 14 #[.agg #[.string lo, .string hi, .slice ap A.length c1, .slice ak K.length c2, .slice ac C.length c3], .agg #[.string lo, .string hi, .slice bp A.length d1, .slice bk K.length d2, .slice bc C.length d3]] w fun e w' => e = .returned (.bool true) ∧ Grew w w' := by
  have HM := hid hM
  have HN := hid hN
  have HL := hid hl
  have hl3 := hl.2.2
  have HP := hid (fun W (g : Grew w W) => samePairs_same W ap bp c1 d1 A (hM.p.grew g) (hN.p.grew g) (by omega))
  have HT := hid (fun W (g : Grew w W) => sameTexts_same W ak bk c2 d2 K (hM.k.grew g) (hN.k.grew g) (by omega))
  clear hM hN hl
  go_enter Tryz.func14, Tryz.ntmps14
  go_wp2_with fail
  obtain ⟨V, hV⟩ : ∃ V, V = (w.alloc (.cells #[.string lo, .string hi, .slice ap A.length c1, .slice ak K.length c2, .slice ac C.length c3] 40)).alloc (.cells #[.string lo, .string hi, .slice bp A.length d1, .slice bk K.length d2, .slice bc C.length d3] 40) := ⟨_, rfl⟩
  have gV : Grew w V := by rw [hV]; exact ((Grew.refl w).alloc _).alloc _
  have a2 : V.cell? ⟨w.heap.size, 3, none⟩ = some (.slice ak K.length c2) := by rw [hV]; simp [go_sem]
  have a3 : V.cell? ⟨w.heap.size, 4, none⟩ = some (.slice ac C.length c3) := by rw [hV]; simp [go_sem]
  have b2 : V.cell? ⟨w.heap.size + 1, 3, none⟩ = some (.slice bk K.length d2) := by rw [hV]; simp [go_sem]
  have b3 : V.cell? ⟨w.heap.size + 1, 4, none⟩ = some (.slice bc C.length d3) := by rw [hV]; simp [go_sem]
  have HGV := hid gV
  rw [← hV]
  obtain ⟨x, hx⟩ : ∃ x, x = w.heap.size := ⟨_, rfl⟩
  rw [← hx] at a2 a3 b2 b3 ⊢
  have hxl := cell_lt a2
  have hyl := cell_lt b2
  clear hV gV hx
  refine (HP.out V HGV.out).mono ?_
  rintro e w1 ⟨rfl, hg1⟩
  have a2 := (hg1.cells.1 _ 3 hxl).trans a2
  have a3 := (hg1.cells.1 _ 4 hxl).trans a3
  have b2 := (hg1.cells.1 _ 3 hyl).trans b2
  have b3 := (hg1.cells.1 _ 4 hyl).trans b3
  have hxl := cell_lt a2
  have hyl := cell_lt b2
  have HG1 := hid (HGV.out.trans hg1)
  clear hg1
  go_wp2_with fail
  refine (HT.out w1 HG1.out).mono ?_
  rintro e w2 ⟨rfl, hg2⟩
  have a3 := (hg2.cells.1 _ 4 hxl).trans a3
  have b3 := (hg2.cells.1 _ 4 hyl).trans b3
  have hxl := cell_lt a3
  have hyl := cell_lt b3
  have HG2 := hid (HG1.out.trans hg2)
  clear hg2 a2 b2
  go_wp2_with fail
  go_loopw [39] (fun i wr => ∃ k : Nat, k ≤ C.length ∧ i = .int .i64 k ∧ Hid (Grew w2 wr)) (fun i _ => C.length - (intOf i).toNat)
  case atStart => exact ⟨0, Nat.zero_le _, rfl, Grew.refl w2⟩
  case round =>
    obtain ⟨k, hk, rfl, HG⟩ := hrel
    by_cases hlt : k < C.length
    · obtain ⟨b1, o1, rfl, hb1, hR1⟩ := clsR_of HM.out.c k hlt
      obtain ⟨b4, o4, rfl, hb4, hR4⟩ := clsR_of HN.out.c k hlt
      have gr := HG2.out.trans HG.out
      have q0 := wd_cell ((gr.cells.1 b1 _ hb1).trans (hR1.id k hlt))
      have q1 := wd_cell ((gr.cells.1 b1 _ hb1).trans (hR1.seq k hlt))
      have q2 := wd_cell ((gr.cells.1 b1 _ hb1).trans (hR1.code k hlt))
      have q3 := wd_cell ((gr.cells.1 b1 _ hb1).trans (hR1.at_ k hlt))
      have p0 := wd_cell ((gr.cells.1 b4 _ hb4).trans (hR4.id k hlt))
      have p1 := wd_cell ((gr.cells.1 b4 _ hb4).trans (hR4.seq k hlt))
      have p2 := wd_cell ((gr.cells.1 b4 _ hb4).trans (hR4.code k hlt))
      have p3 := wd_cell ((gr.cells.1 b4 _ hb4).trans (hR4.at_ k hlt))
      have A3 := wd_cell ((HG.out.cells.1 _ 4 hxl).trans a3)
      have B3 := wd_cell ((HG.out.cells.1 _ 4 hyl).trans b3)
      generalize clAt C k = y at *
      obtain ⟨yi, yq, yk, yt⟩ := y
      dsimp only at q0 q1 q2 q3 p0 p1 p2 p3
      have hk9 : k < 2000000 := by omega
      clear hR1 hR4 gr
      go_upto_region 6 with fail
      refine wp_region_still 11 (by kernel_rfl) (by kernel_rfl) (fun _ _ => rfl) ?_
      repeat (first
    | (refine mixS_skip (by rfl) (by rfl) (by rfl) ?_; simp only [Act.put, List.setIfInBounds_toArray, List.set_cons_zero, List.set_cons_succ])
    | (refine mixS_plain (by rfl) (by rfl) (by rfl) (by first | exact Grew.refl | exact fun _ => rfl) (by rfl) ?_; intro K hK; go_big_quiet_op; go_big_quiet_on))
      refine mixS_nil ?_
      intro z hG
      have HGx := hid (HG.out.trans hG)
      clear hG q0 q1 q2 q3 p0 p1 p2 p3 A3 B3
      dsimp only [List.drop]
      go_wp2_with fail
      go_roundw
      case rel => exact ⟨k + 1, by omega, by go_num, HGx.out⟩
      case measure => simp [intOf]; omega
    · have hkn : k = C.length := by omega
      subst hkn
      have HF := hid (HG2.out.trans HG.out)
      go_wp2_with fail
      go_ret
      exact ⟨rfl, HF.out⟩
end Go.Proofs.YtoiahcgaffffbaaGreatDoor
namespace Go.Proofs.YtoiahcgaffffbaaGreatDoor
open Go.RowKit Go.Maps
structure ByD (w W : World) (V : List (Nat × List Value)) (ob : Nat) (cs : List Int) : Prop where
  grew : Grew w W
  c : ∀ p ∈ V, ∀ (i : Nat) v, p.2[i]? = some v → W.cell? ⟨p.1, i, none⟩ = some v
  lt : ∀ p ∈ V, p.1 < W.heap.size
  out : ∃ G, OutAt W G ob cs ∧ (∀ p ∈ V, ¬ G p.1) ∧ ∀ j, G j → w.heap.size ≤ j
section
variable {w W X : World} {ob : Nat} {V : List (Nat × List Value)} {cs bs : List Int}
theorem ByD.more (h : ByD w W V ob cs) (g : Grew W X) : ByD w X V ob cs := by
  obtain ⟨G, h1, h2, h3⟩ := h.out
  exact ⟨h.grew.trans g, fun p hp i v hv => (g.cells.1 _ _ (h.lt p hp)).trans (h.c p hp i v hv), fun p hp => Nat.lt_of_lt_of_le (h.lt p hp) g.size, G, h1.grew g, h2, h3⟩
theorem ByD.add (h : ByD w W V ob cs) (g : Grew W X) (b : Nat) (vals : List Value) (hb : W.heap.size ≤ b) (hX : b < X.heap.size) (hc : ∀ (i : Nat) v, vals[i]? = some v → X.cell? ⟨b, i, none⟩ = some v) : ByD w X ((b, vals) :: V) ob cs := by
  obtain ⟨G, h1, h2, h3⟩ := h.out
  have hm := h.more g
  refine ⟨hm.grew, fun p hp => ?_, fun p hp => ?_, G, h1.grew g, fun p hp => ?_, h3⟩
  · rcases List.mem_cons.1 hp with rfl | hp
    · exact hc
    · exact hm.c p hp
  · rcases List.mem_cons.1 hp with rfl | hp
    · exact hX
    · exact hm.lt p hp
  · rcases List.mem_cons.1 hp with rfl | hp
    · exact fun hG => by have := h1.lt _ hG; dsimp only at this; omega
    · exact h2 p hp
theorem ByD.tail {p : Nat × List Value} (h : ByD w W (p :: V) ob cs) : ByD w W V ob cs := by
  obtain ⟨G, h1, h2, h3⟩ := h.out
  exact ⟨h.grew, fun q hq => h.c q (List.mem_cons_of_mem _ hq), fun q hq => h.lt q (List.mem_cons_of_mem _ hq), G, h1, fun q hq => h2 q (List.mem_cons_of_mem _ hq), h3⟩
theorem ByD.turn (h : ByD w W V ob cs) {G : Nat → Prop} (h2 : ∀ p ∈ V, ¬ G p.1) (h3 : ∀ j, G j → w.heap.size ≤ j) (hT : OutTurn W G ob bs X) : ByD w X V ob bs := by
  obtain ⟨g, G', hO, hG⟩ := hT
  refine ⟨((h.grew.only _).then g).grew h3, fun p hp i v hv => (g.cell (h.lt p hp) (h2 p hp) i).trans (h.c p hp i v hv), fun p hp => Nat.lt_of_lt_of_le (h.lt p hp) g.size, G', hO, fun p hp hx => ?_, fun j hj => ?_⟩
  · rcases hG _ hx with q | q
    · exact h2 p hp q
    · have := h.lt p hp; omega
  · rcases hG _ hj with q | q
    · exact h3 j q
    · have := h.grew.size; omega
theorem ByD.text (h : ByD w W V ob cs) (s : ByteArray) (hs : s.size ≤ 1000000) (hb : cs.length ≤ 80000000) : Calls Tryz.prog 66 #[.pointer (some ⟨ob, 0, none⟩), .string s] W fun e w' => e = .returned (.tuple #[]) ∧ ByD w w' V ob (cs ++ Pl.textB s) := by
  obtain ⟨G, h1, h2, h3⟩ := h.out
  refine (outText_any h1 s hs hb).mono ?_
  rintro e w' ⟨rfl, hT⟩
  exact ⟨rfl, h.turn h2 h3 hT⟩
theorem ByD.num (h : ByD w W V ob cs) (n : Nat) (hn : n < 4611686018427387904) (hb : cs.length ≤ 90000000) : Calls Tryz.prog 67 #[.pointer (some ⟨ob, 0, none⟩), .int .i64 n] W fun e w' => e = .returned (.tuple #[]) ∧ ByD w w' V ob (cs ++ Pl.numB n) := by
  obtain ⟨G, h1, h2, h3⟩ := h.out
  refine (outNum_any h1 n hn hb).mono ?_
  rintro e w' ⟨rfl, hT⟩
  exact ⟨rfl, h.turn h2 h3 hT⟩
theorem ByD.done (h : ByD w W V ob cs) (hb : cs.length ≤ 65536) : Calls Tryz.prog 68 #[.pointer (some ⟨ob, 0, none⟩)] W fun e w' => ∃ a c, e = .returned (.tuple #[.slice a cs.length c, .nilIface]) ∧ BytesAt w' a cs ∧ SlForm a c ∧ w'.ownsRow w.heap.size 5 1 (.slice a cs.length c) cs.length (u8Flat cs) ∧ Grew w w' := by
  obtain ⟨G, h1, h2, h3⟩ := h.out
  refine (outDone_any h1 hb).mono ?_
  rintro e w' ⟨a, c, rfl, hr, hg⟩
  obtain ⟨a', c', e', hA, hf, _⟩ := bytesAt_of hr
  cases e'
  exact ⟨a, c, rfl, hA, hf, ownsRow_base h.grew.size hr, h.grew.trans hg⟩
end
end Go.Proofs.YtoiahcgaffffbaaGreatDoor
