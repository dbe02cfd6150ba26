/- The walk of tidewaterref21.Sorted: pairs of other right keys each: in order. -/
import Derived.Test.YtbdagllflamabaaGreatDoorFinWatchReplaysQ22
import Derived.Test.YtbdagllflamabaaGreatDoorFinWatchReplaysQ12
set_option linter.unusedVariables false
namespace Go.Proofs.YtbdagllflamabaaGreatDoor
open Go.RowKit Go.Maps
attribute [local go_sem] Oper.semAt_some
structure JS (y : World) (pv A C : List Value) (k n : Nat) (L : Nat → Bool) (f : Nat → Value) (x : World) : Prop where
  grew : Grew y x
  o4 : L 4 = true → L 0 = true
  o7 : L 7 = true → L 4 = true ∧ L 6 = true
  o11 : L 11 = true → L 7 = true
  r0 : L 0 = true → L 4 = false → x.ownsRow y.heap.size 42 3 (f 0) 0 []
  r6 : L 6 = true → L 7 = false → ∃ vb, f 6 = .slice (some ⟨vb, 0, none⟩) 1 1 ∧ y.heap.size ≤ vb ∧ x.heap[vb]? = some (.cells pv.toArray 42 (0, 0)) ∧ (L 0 = true → L 4 = false → (f 0).ownBlock ≠ some vb) ∧ (L 4 = true → (f 4).ownBlock ≠ some vb)
  r4 : L 4 = true → L 7 = false → x.ownsRow y.heap.size 42 3 (f 4) k A
  r7 : L 7 = true → L 11 = false → x.ownsRow y.heap.size 42 3 (f 7) (k + 1) (A ++ pv)
  r11 : L 11 = true → x.ownsRow y.heap.size 42 3 (f 11) (n + 1) (A ++ pv ++ C)
section
variable {y x x' : World} {pv A C : List Value} {k n : Nat} {L : Nat → Bool} {f : Nat → Value}
theorem JS.start (y : World) : JS y pv A C k n (fun _ => false) f y.drew :=
  ⟨(Grew.refl y).drew, (fun h => by cases h), (fun h => by cases h), (fun h => by cases h), (fun h => by cases h), (fun h => by cases h), (fun h => by cases h), (fun h => by cases h), (fun h => by cases h)⟩
theorem bool_no {b : Bool} (h : b = true → False) : b = false := by cases b; rfl; exact (h rfl).elim
theorem JS.s0 (h : JS y pv A C k n L f x) (hL : L 0 = false) : JS y pv A C k n (plus L 0) (updV f 0 (.slice (some ⟨x.heap.size, 0, none⟩) 0 0)) (x.alloc (.cells #[] 42)) := by
  have l4 : L 4 = false := bool_no fun h4 => by rw [h.o4 h4] at hL; cases hL
  have l7 : L 7 = false := bool_no fun h7 => by rw [(h.o7 h7).1] at l4; cases l4
  have l11 : L 11 = false := bool_no fun h11 => by rw [h.o11 h11] at l7; cases l7
  refine ⟨h.grew.alloc _, fun _ => rfl, h.o7, h.o11, fun _ _ => ?_, fun h6 h7 => ?_, fun h4 => ?_, fun h7 => ?_, fun h11 => ?_⟩
  · exact ⟨rfl, .inr ⟨x.heap.size, 0, #[], rfl, h.grew.size, heap_alloc_new x _, Nat.le_refl _, Nat.zero_le _, rfl, rfl⟩⟩
  · obtain ⟨vb, e1, e2, e3, _, e5⟩ := h.r6 h6 h7
    have hlt : vb < x.heap.size := (Array.getElem?_eq_some_iff.1 e3).1
    refine ⟨vb, e1, e2, (Below.heap_alloc _ _ vb hlt).trans e3, fun _ _ e => ?_, e5⟩
    have : x.heap.size = vb := by simpa [updV_same, Value.ownBlock] using e
    omega
  · change L 4 = true at h4; rw [l4] at h4; cases h4
  · change L 7 = true at h7; rw [l7] at h7; cases h7
  · change L 11 = true at h11; rw [l11] at h11; cases h11
theorem JS.s6 (h : JS y pv A C k n L f x) (hL : L 6 = false) : JS y pv A C k n (plus L 6) (updV f 6 (.slice (some ⟨x.heap.size, 0, none⟩) 1 1)) (x.alloc (.cells pv.toArray 42)) := by
  have l7 : L 7 = false := bool_no fun h7 => by rw [(h.o7 h7).2] at hL; cases hL
  have l11 : L 11 = false := bool_no fun h11 => by rw [h.o11 h11] at l7; cases l7
  have hG : Grew x (x.alloc (.cells pv.toArray 42)) := (Grew.refl x).alloc _
  refine ⟨h.grew.alloc _, h.o4, fun h7 => ?_, h.o11, fun h0 h4 => ownsRow_grew hG (h.r0 h0 h4), fun _ _ => ⟨x.heap.size, updV_same _ _ _, h.grew.size, heap_alloc_new x _, fun h0 h4 e => ?_, fun h4 e => ?_⟩, fun h4 h7 => ownsRow_grew hG (h.r4 h4 h7), fun h7 => ?_, fun h11 => ?_⟩
  · change L 7 = true at h7; rw [l7] at h7; cases h7
  · have := ((h.r0 h0 h4).lt x.heap.size e).2; omega
  · have := ((h.r4 h4 l7).lt x.heap.size e).2; omega
  · change L 7 = true at h7; rw [l7] at h7; cases h7
  · change L 11 = true at h11; rw [l11] at h11; cases h11
theorem JS.s4 (h : JS y pv A C k n L f x) (hL : L 4 = false) (h0 : L 0 = true) {r : Value} (hrow : x'.ownsRow y.heap.size 42 3 r k A) (hg : x.grownBy x' (f 0).ownBlock) (ho : ∀ g, r.ownBlock = some g → (f 0).ownBlock = some g ∨ g = x.heap.size) : JS y pv A C k n (plus L 4) (updV f 4 r) x' := by
  have l7 : L 7 = false := bool_no fun h7 => by rw [(h.o7 h7).1] at hL; cases hL
  have l11 : L 11 = false := bool_no fun h11 => by rw [h.o11 h11] at l7; cases l7
  have hr0 := h.r0 h0 hL
  have hG : Grew y x' := ((h.grew.only _).then (Only.of_grownBy hg)).grew fun j hj => (hr0.lt j hj.symm).1
  refine ⟨hG, fun _ => h0, fun h7 => ?_, h.o11, (fun _ h4 => by cases h4), fun h6 _ => ?_, fun _ _ => hrow, fun h7 => ?_, fun h11 => ?_⟩
  · change L 7 = true at h7; rw [l7] at h7; cases h7
  · obtain ⟨vb, e1, e2, e3, e4, _⟩ := h.r6 h6 l7
    have hlt : vb < x.heap.size := (Array.getElem?_eq_some_iff.1 e3).1
    have hne := e4 h0 hL
    refine ⟨vb, e1, e2, (hg.block vb hlt (fun e => hne e.symm)).trans e3, (fun _ h4 => by cases h4), fun _ e => ?_⟩
    have e' : r.ownBlock = some vb := e
    rcases ho vb e' with h1 | h1
    · exact hne h1
    · omega
  · change L 7 = true at h7; rw [l7] at h7; cases h7
  · change L 11 = true at h11; rw [l11] at h11; cases h11
theorem JS.s7 (h : JS y pv A C k n L f x) (hL : L 7 = false) (h4 : L 4 = true) (h6 : L 6 = true) {r : Value} (hrow : x'.ownsRow y.heap.size 42 3 r (k + 1) (A ++ pv)) (hg : x.grownBy x' (f 4).ownBlock) : JS y pv A C k n (plus L 7) (updV f 7 r) x' := by
  have l11 : L 11 = false := bool_no fun h11 => by rw [h.o11 h11] at hL; cases hL
  have hG : Grew y x' := ((h.grew.only _).then (Only.of_grownBy hg)).grew fun j hj => ((h.r4 h4 hL).lt j hj.symm).1
  refine ⟨hG, h.o4, fun _ => ⟨h4, h6⟩, fun _ => rfl, fun _ h4' => ?_, (fun _ h7 => by cases h7), (fun _ h7 => by cases h7), fun _ _ => hrow, fun h11 => ?_⟩
  · change L 4 = false at h4'; rw [h4] at h4'; cases h4'
  · change L 11 = true at h11; rw [l11] at h11; cases h11
theorem JS.s11 (h : JS y pv A C k n L f x) (hL : L 11 = false) (h7 : L 7 = true) {r : Value} (hrow : x'.ownsRow y.heap.size 42 3 r (n + 1) (A ++ pv ++ C)) (hg : x.grownBy x' (f 7).ownBlock) : JS y pv A C k n (plus L 11) (updV f 11 r) x' := by
  have hG : Grew y x' := ((h.grew.only _).then (Only.of_grownBy hg)).grew fun j hj => ((h.r7 h7 hL).lt j hj.symm).1
  refine ⟨hG, h.o4, h.o7, fun _ => h7, fun _ h4' => ?_, fun _ h7' => ?_, fun _ h7' => ?_, (fun _ h11 => by cases h11), fun _ => hrow⟩
  · change L 4 = false at h4'; rw [(h.o7 h7).1] at h4'; cases h4'
  · change L 7 = false at h7'; rw [h7] at h7'; cases h7'
  · change L 7 = false at h7'; rw [h7] at h7'; cases h7'
end
namespace Pl
theorem srt_ins {zs : List Pr} (h : Srt zs) {p : Pr} (hp : keyN p.key = 0) (hd : ∀ c ∈ zs, c.key ≠ p.key) (k : Nat) (hk : k ≤ zs.length) (h1 : ∀ j, k ≤ j → j < zs.length → 0 < compare (prAt zs j).key p.key) (h2 : 0 < k → ¬ 0 < compare (prAt zs (k - 1)).key p.key) : Srt (zs.take k ++ [p] ++ zs.drop k) := by
  have ok := ok_key hp
  refine ⟨?_, ?_⟩
  · intro c hc
    simp only [List.mem_append, List.mem_singleton] at hc
    rcases hc with (hc | rfl) | hc
    · exact h.key c (List.mem_of_mem_take hc)
    · exact hp
    · exact h.key c (List.mem_of_mem_drop hc)
  · rw [List.append_assoc, List.pairwise_append]
    refine ⟨h.rise.sublist (List.take_sublist _ _), ?_, ?_⟩
    · rw [List.singleton_append, List.pairwise_cons]
      refine ⟨fun c hc => ?_, h.rise.sublist (List.drop_sublist _ _)⟩
      obtain ⟨j, hj, rfl⟩ := List.getElem_of_mem hc
      rw [List.length_drop] at hj
      have := h1 (k + j) (by omega) (by omega)
      rw [prAt_eq zs (k + j) (by omega)] at this
      rw [List.getElem_drop, compare_swap (ok_key (h.key _ (List.getElem_mem _))) ok]
      omega
    · intro a ha b hb
      obtain ⟨j, hj, rfl⟩ := List.getElem_of_mem ha
      rw [List.length_take] at hj
      have hk0 : 0 < k := by omega
      have oka := ok_key (h.key _ (List.getElem_mem (l := zs) (n := j) (by omega)))
      have hlast : compare (prAt zs (k - 1)).key p.key < 0 := by
        have hm := prAt_mem zs (k - 1) (by omega)
        have h3 := h2 hk0
        have h4 : compare (prAt zs (k - 1)).key p.key ≠ 0 := fun e => hd _ hm (compare_zero (ok_key (h.key _ hm)) ok e)
        omega
      have hlt : compare (zs[j]).key p.key < 0 := by
        rcases Nat.lt_or_ge j (k - 1) with hlt | hge
        · have h5 := List.pairwise_iff_getElem.1 h.rise j (k - 1) (by omega) (by omega) hlt
          rw [prAt_eq zs (k - 1) (by omega)] at hlast
          exact compare_trans oka (ok_key (h.key _ (List.getElem_mem _))) ok h5 hlast
        · obtain rfl : j = k - 1 := by omega
          rwa [prAt_eq zs (k - 1) (by omega)] at hlast
      rw [List.getElem_take]
      rw [List.singleton_append] at hb
      rcases List.mem_cons.1 hb with rfl | hb
      · exact hlt
      · obtain ⟨i, hi, rfl⟩ := List.getElem_of_mem hb
        rw [List.length_drop] at hi
        rw [List.getElem_drop]
        exact List.pairwise_iff_getElem.1 h.rise j (k + i) (by omega) (by omega) (by omega)
theorem ins_perm (zs : List Pr) (p : Pr) (k : Nat) : (zs.take k ++ [p] ++ zs.drop k).Perm (zs ++ [p]) := by
  rw [List.append_assoc]
  have h1 : ([p] ++ zs.drop k).Perm (zs.drop k ++ [p]) := List.perm_append_comm
  have h2 := List.Perm.append_left (zs.take k) h1
  rw [← List.append_assoc (zs.take k) (zs.drop k), List.take_append_drop] at h2
  exact h2
end Pl
theorem pairs_take {W : World} {a : Option Addr} {xs : List Pr} (h : PairsAt W a xs) (i : Nat) : PairsAt W a (xs.take i) := by
  rcases h with h | ⟨b, off, e, hb, h⟩
  · exact .inl (by rw [h]; simp)
  · exact .inr ⟨b, off, e, hb, h.take i⟩
theorem pairs_drop {W : World} {b off : Nat} {xs : List Pr} (h : PairsAt W (some ⟨b, off, none⟩) xs) (i : Nat) : PairsAt W (some ⟨b, off + i * 3, none⟩) (xs.drop i) := by
  rcases h with h | ⟨b', off', e, hb, h⟩
  · exact .inl (by rw [h]; simp)
  · cases e; exact .inr ⟨b, off + i * 3, rfl, hb, h.drop i⟩
theorem pairs_one {W : World} {vb : Nat} {p : Pr} (h : W.heap[vb]? = some (.cells p.vals.toArray 42 (0, 0))) : PairsAt W (some ⟨vb, 0, none⟩) [p] := by
  refine .inr ⟨vb, 0, rfl, (Array.getElem?_eq_some_iff.1 h).1, ?_, ?_, ?_⟩ <;> intro j hj <;> (obtain rfl : j = 0 := by simp at hj; omega) <;> (rw [cell_block h]; rfl)
theorem take_snoc_pr (xs : List Pr) (k : Nat) (h : k < xs.length) : xs.take (k + 1) = xs.take k ++ [prAt xs k] := by
  rw [List.take_succ_eq_append_getElem h, prAt_eq xs k h]
set_option maxRecDepth 100000 in
set_option maxHeartbeats 4000000 in
theorem sorted21_any {w : World} {tb : Nat} {xs : List Pr} (h : MTab w tb xs) (hx : xs.length ≤ 1000000) (hk : ∀ c ∈ xs, Pl.keyN c.key = 0) (hd : xs.Pairwise fun a b => a.key ≠ b.key) :
    Calls Tryz.prog 64 #[.pointer (some ⟨tb, 0, none⟩)] w fun e w' => (∃ v zs, e = .returned v ∧ zs.Perm xs ∧ Pl.Srt zs ∧ w'.ownsRow w.heap.size 42 3 v zs.length (prFlat zs)) ∧ Grew w w' := by
  obtain ⟨a, cap, c0, hA⟩ := h
  have htb := cell_lt c0
  have HA := hid hA
  have HK := hid hk
  have HD := hid hd
  clear hA hk hd
  go_enter Tryz.func64, Tryz.ntmps64
  go_wp2_with fail
  go_loopw [3, 13] (fun v i wr => ∃ (k : Nat) (zs : List Pr) (g : Nat) (cp : Nat), k ≤ xs.length ∧ v = .slice (some ⟨g, 0, none⟩) k cp ∧ i = .int .i64 k ∧ Hid (zs.Perm (xs.take k) ∧ Pl.Srt zs ∧ zs.length = k) ∧ wr.ownsRow w.heap.size 42 3 (.slice (some ⟨g, 0, none⟩) k cp) k (prFlat zs) ∧ Grew w wr) (fun _ i _ => xs.length - (intOf i).toNat)
  case atStart => exact ⟨0, [], w.heap.size, 0, Nat.zero_le _, rfl, rfl, ⟨by simp, Pl.srt_nil, rfl⟩, ⟨rfl, .inr ⟨w.heap.size, 0, #[], rfl, Nat.le_refl _, heap_alloc_new w _, Nat.le_refl _, Nat.zero_le _, rfl, rfl⟩⟩, (Grew.refl w).alloc _⟩
  case round =>
    obtain ⟨k, zs, g, cp, hk1, rfl, rfl, HZ, hown, hG⟩ := hrel
    by_cases hlt : k < xs.length
    · rcases HA.out with h0 | ⟨b, off, rfl, hb, hR⟩
      · rw [h0] at hlt; simp at hlt
      have q0 := (hG.cells.1 b (off + k * 3) hb).trans (hR.key k hlt)
      have q1 := (hG.cells.1 b (off + k * 3 + 1) hb).trans (hR.val k hlt)
      have q2 := (hG.cells.1 b (off + k * 3 + 2) hb).trans (hR.ver k hlt)
      have HT := hid (take_snoc_pr xs k hlt)
      have hmem := Pl.prAt_mem xs k hlt
      have HPK := hid (HK.out _ hmem)
      have HDZ : Hid (∀ c ∈ zs, c.key ≠ (prAt xs k).key) := fun c hc => by
        have hc' := HZ.out.1.mem_iff.1 hc
        obtain ⟨j, hj, rfl⟩ := List.getElem_of_mem hc'
        rw [List.length_take] at hj
        rw [List.getElem_take, prAt_eq xs k hlt]
        exact List.pairwise_iff_getElem.1 HD.out j k (by omega) hlt (by omega)
      clear hR hmem
      generalize prAt xs k = p at *
      obtain ⟨pk, pv, pn⟩ := p
      dsimp only at *
      obtain ⟨wo, rfl⟩ : ∃ wo : World, wo = wr := ⟨_, rfl⟩
      go_wp2_with fail
      have k0 : (wo.alloc (.cells #[.string pk, .string pv, .int .i64 pn] 42)).cell? ⟨wo.heap.size, 0, none⟩ = some (.string pk) := by simp [go_sem]
      have k1 : (wo.alloc (.cells #[.string pk, .string pv, .int .i64 pn] 42)).cell? ⟨wo.heap.size, 1, none⟩ = some (.string pv) := by simp [go_sem]
      have k2 : (wo.alloc (.cells #[.string pk, .string pv, .int .i64 pn] 42)).cell? ⟨wo.heap.size, 2, none⟩ = some (.int .i64 pn) := by simp [go_sem]
      have hz1 : wo.heap.size < (wo.alloc (.cells #[.string pk, .string pv, .int .i64 pn] 42)).heap.size := by simp
      have hG1 : Grew w (wo.alloc (.cells #[.string pk, .string pv, .int .i64 pn] 42)) := hG.alloc _
      have hkcp : k ≤ cp := by
        rcases hown.2 with ⟨h, _⟩ | ⟨g', c', cur, h, _, _, hq, _⟩
        · cases h
        · cases h; exact hq
      have hg1 : g < (wo.alloc (.cells #[.string pk, .string pv, .int .i64 pn] 42)).heap.size := by
        rcases hown.2 with ⟨h, _⟩ | ⟨g', c', cur, h, _, hq, _⟩
        · cases h
        · cases h; have := (Array.getElem?_eq_some_iff.1 hq).1; simp; omega
      obtain ⟨B, hB⟩ : ∃ B, B = wo.alloc (.cells #[.string pk, .string pv, .int .i64 pn] 42) := ⟨_, rfl⟩
      have HOWN : Hid (B.ownsRow w.heap.size 42 3 (.slice (some ⟨g, 0, none⟩) k cp) k (prFlat zs)) := by rw [hB]; exact ownsRow_grew ((Grew.refl wo).alloc (.cells #[.string pk, .string pv, .int .i64 pn] 42)) hown
      rw [← hB] at k0 k1 k2 hz1 hG1 hg1 ⊢
      obtain ⟨pb, hpb⟩ : ∃ pb, pb = wo.heap.size := ⟨_, rfl⟩
      rw [← hpb] at k0 k1 k2 hz1 ⊢
      have HZL := hid HZ.out.2.2
      have hk6 : k < 1000000 := by omega
      clear hB hown hpb hG q0 q1 q2
      go_loopw [6] (fun i wx => ∃ m : Nat, m ≤ k ∧ i = .int .i64 m ∧ Hid (∀ j, m ≤ j → j < k → 0 < Pl.compare (prAt zs j).key pk) ∧ Grew B wx) (fun i _ => (intOf i).toNat)
      case atStart => exact ⟨k, Nat.le_refl _, rfl, fun j h1 h2 => by omega, Grew.refl B⟩
      case round =>
        obtain ⟨m, hmk, rfl, HJ, hGx⟩ := hrel
        have p0 := (hGx.cells.1 _ _ hz1).trans k0
        have p1 := (hGx.cells.1 _ _ hz1).trans k1
        have p2 := (hGx.cells.1 _ _ hz1).trans k2
        have hzx : pb < wr.heap.size := Nat.lt_of_lt_of_le hz1 hGx.size
        cases m with
        | zero =>
          have HFIN : Hid (Pl.Srt (zs.take 0 ++ [⟨pk, pv, pn⟩] ++ zs.drop 0)) := Pl.srt_ins HZ.out.2.1 HPK.out HDZ.out 0 (Nat.zero_le _) (fun j h1 h2 => HJ.out j h1 (by have := HZL.out; omega)) (fun h => by omega)
          clear HJ
          go_wp2_with fail
          go_quiet (fail)
          go_wp2_with fail
          generalize hY : World.drewN wr _ = Y
          have gY : Grew B Y := by rw [← hY]; exact hGx.drewN _
          clear hY p0 p1 p2 hzx hGx
          have hMk : 0 ≤ k := by omega
          have hMi : ((0 : Nat) : Int) ≤ (k : Int) := by omega
          have hMc : 0 ≤ cp := by omega
          have hkc : (k : Int) ≤ (cp : Int) := by omega
          have hPB := Nat.lt_of_lt_of_le hz1 gY.size
          have HPA : Hid (PairsAt Y (some ⟨g, 0, none⟩) zs) := by
            have h1 := HOWN.out
            rw [← HZL.out] at h1
            obtain ⟨a', cap', e', hP⟩ := pairsAt_of h1
            cases e'
            exact hP.grew gY
          have K0 := wd_cell (w := Y) ((gY.cells.1 _ _ hz1).trans k0)
          have K1 := wd_cell (w := Y) ((gY.cells.1 _ _ hz1).trans k1)
          have K2 := wd_cell (w := Y) ((gY.cells.1 _ _ hz1).trans k2)
          refine wp_region_mix 12 [0, 4, 6, 7, 11] (Grew Y) Eq (JS Y (Pr.vals ⟨pk, pv, pn⟩) (prFlat (zs.take (0))) (prFlat (zs.drop (0))) (0) k) (fun f a => ((((a.put (some 34) (f 0)).put (some 38) (f 4)).put (some 40) (f 6)).put (some 41) (f 7)).put (some 45) (f 11)) (by kernel_rfl) (by kernel_rfl) (fun _ _ => rfl) (JS.start Y) (fun L f x h => h.grew) (fun _ => rfl) (fun _ _ _ _ h g => g ▸ h) ?_
          repeat (first
    | (refine wpMix_loose (by rfl) (by rfl) ?_)
    | (refine wpMix_plain (by rfl) (by rfl) (by rfl) (by first | exact Grew.refl | exact fun _ => rfl) (by rfl) ?_; intro K hK; go_big_quiet_op; go_big_quiet_on)
    | (refine wpMix_skip (by rfl) (by rfl) (by rfl) ?_; simp only [Act.put, List.setIfInBounds_toArray, List.set_cons_zero, List.set_cons_succ]))
          refine wpMix_done (by rfl) ⟨⟨loose_of rfl (fun _ a => a) (fun _ _ => rfl) (fun _ => rfl) ?_, loose_of rfl (fun f a => a.put (some 34) (f 0)) (fun _ _ => rfl) (fun _ => rfl) ?_, loose_of rfl (fun _ a => a) (fun _ _ => rfl) (fun _ => rfl) ?_, loose_of rfl (fun f a => (a.put (some 38) (f 4)).put (some 40) (f 6)) (fun _ _ => rfl) (fun _ => rfl) ?_, loose_of rfl (fun f a => a.put (some 41) (f 7)) (fun _ _ => rfl) (fun _ => rfl) ?_, trivial⟩, ?_⟩
          · intro L f x hJ hL hd
            have hm := hid (hJ.s0 hL)
            clear K0 K1 K2 hJ
            go_simp
            exact hm.out
          · intro L f x hJ hL hd
            clear K0 K1 K2
            have h0 := hd 0 rfl (by decide)
            refine uponV_append_pairs _ _ rfl (B := Y.heap.size) (v := f 0) (m := 0) (ys := []) (xs := zs.take (0)) rfl (hJ.r0 h0 hL) (ao := some ⟨g, 0, none⟩) (n := 0) (cap := cp) rfl (by rw [List.length_take]; have := HZL.out; omega) (pairs_take (HPA.out.grew hJ.grew) _) (.inr ⟨_, _, rfl⟩) (by omega) hJ.grew.size ?_
            intro r x' hrow hgr how
            refine hJ.s4 hL h0 ?_ hgr how
            simpa using hrow
          · intro L f x hJ hL hd
            have hm := hid (hJ.s6 hL)
            clear K0 K1 K2 hJ
            go_simp
            exact hm.out
          · intro L f x hJ hL hd
            clear K0 K1 K2
            have h4 := hd 4 rfl (by decide)
            have h6 := hd 6 rfl (by decide)
            obtain ⟨vb, e6, hvN, hvb, _, hne⟩ := hJ.r6 h6 hL
            refine uponV_append_pairs _ _ rfl (B := Y.heap.size) (v := f 4) (m := 0) (ys := zs.take (0)) (xs := [⟨pk, pv, pn⟩]) rfl (hJ.r4 h4 hL) (ao := some ⟨vb, 0, none⟩) (n := 1) (cap := 1) e6 rfl (pairs_one hvb) (.inr ⟨_, _, rfl⟩) (by omega) hJ.grew.size ?_
            intro r x' hrow hgr how
            refine hJ.s7 hL h4 h6 ?_ hgr
            rw [prFlat_append, prFlat_one] at hrow
            exact hrow
          · intro L f x hJ hL hd
            clear K0 K1 K2
            have h7 := hd 7 rfl (by decide)
            refine uponV_append_pairs _ _ rfl (B := Y.heap.size) (v := f 7) (m := 0 + 1) (ys := zs.take (0) ++ [⟨pk, pv, pn⟩]) (xs := zs.drop (0)) rfl (by rw [prFlat_append, prFlat_one]; exact hJ.r7 h7 hL) (ao := some ⟨g, 0 * 3, none⟩) (n := k - (0)) (cap := cp - (0)) ?_ (by rw [List.length_drop]; have := HZL.out; omega) (by have := pairs_drop (HPA.out.grew hJ.grew) (0); rw [Nat.zero_add] at this; first | exact this | (split; exact .inl (List.drop_eq_nil_of_le (by have := HZL.out; omega)); exact this)) (by first | exact .inr ⟨_, _, rfl⟩ | (split <;> exact .inr ⟨_, _, rfl⟩)) (by omega) hJ.grew.size ?_
            · rfl
            intro r x' hrow hgr how
            refine hJ.s11 hL h7 ?_ hgr
            rw [prFlat_append, prFlat_append, prFlat_one] at hrow
            rw [show k + 1 = 0 + 1 + (k - (0)) by omega]
            exact hrow
          rintro f x hJ
          clear K0 K1 K2
          have r11 := hJ.r11 rfl
          obtain ⟨g', cap', e11, _, _⟩ := r11.form (by omega)
          rw [e11] at r11
          rw [e11]
          have hGx : Grew w x := (hG1.trans gY).trans hJ.grew
          have hRR : x.ownsRow w.heap.size 42 3 (.slice (some ⟨g', 0, none⟩) (k + 1) cap') (k + 1) (prFlat (zs.take (0) ++ [⟨pk, pv, pn⟩] ++ zs.drop (0))) := by
            rw [prFlat_append, prFlat_append, prFlat_one]
            exact ownsRow_base (Nat.le_trans hG1.size gY.size) r11
          have HRR := hid hRR
          have HZN : Hid ((zs.take (0) ++ [(⟨pk, pv, pn⟩ : Pr)] ++ zs.drop (0)).Perm (xs.take (k + 1)) ∧ Pl.Srt (zs.take (0) ++ [(⟨pk, pv, pn⟩ : Pr)] ++ zs.drop (0)) ∧ (zs.take (0) ++ [(⟨pk, pv, pn⟩ : Pr)] ++ zs.drop (0)).length = k + 1) := by
            refine ⟨?_, HFIN.out, ?_⟩
            · rw [HT.out]
              exact (Pl.ins_perm zs _ _).trans (HZ.out.1.append_right _)
            · rw [(Pl.ins_perm zs _ _).length_eq, List.length_append, HZL.out]; rfl
          clear hJ e11 r11 hRR gY hG1 HPA hPB HFIN
          dsimp only [List.drop]
          go_wp2_with fail
          go_roundw
          case rel => exact ⟨k + 1, _, g', cap', by omega, rfl, by go_num, HZN, HRR.out, hGx⟩
          case measure => simp [intOf]; omega
        | succ m =>
          have hmz : m < zs.length := by have := HZL.out; omega
          have hgx : g < wr.heap.size := Nat.lt_of_lt_of_le hg1 hGx.size
          have hq : wr.cell? ⟨g, m * 3, none⟩ = some (.string (prAt zs m).key) := by
            have h1 := (HOWN.out.cellAt (m * 3 + 0) (by have := prFlat_length zs; have := HZL.out; omega))
            rw [prFlat_get 0 (by omega) zs m hmz] at h1
            exact (hGx.cells.1 g (m * 3) hg1).trans h1
          have hokm := Pl.ok_key (HZ.out.2.1.key _ (Pl.prAt_mem zs m hmz))
          have HCK := hid (Pl.compare_lt (prAt zs m).key pk hokm (Pl.ok_key HPK.out))
          have hnk : (prAt zs m).key ≠ pk := HDZ.out _ (Pl.prAt_mem zs m hmz)
          have hcn : Pl.compare (prAt zs m).key pk ≠ 0 := fun e => hnk (Pl.compare_zero hokm (Pl.ok_key HPK.out) e)
          have hne2 : ((prAt zs m).key.toList == pk.toList) = false := by rw [beq_eq_false_iff_ne]; exact fun e => hnk (toList_inj21 e)
          have HCN := hid hcn
          clear hokm hnk hcn
          have i2 : ((m : Int) + 1) - 1 = (m : Int) := by omega
          have i0 : (0 : Int) ≤ (m : Int) := by omega
          have hmB : m < 1000000 := by omega
          have i6 : IntKind.i64.wrap (m : Int) = (m : Int) := IntWalk.i64_in _ (by omega)
          have i3 : (m : Int) < (k : Int) := by omega
          have i4 : m < k := by omega
          have d2 : decide ((0 : Int) < (m : Int) + 1) = true := decide_eq_true (by omega)
          generalize hkk : (prAt zs m).key = ck at hq HCK hne2 HCN
          cases hgt : Op.bytesLess ck.toList pk.toList with
          | false =>
            have HJ2 : Hid (∀ j, m ≤ j → j < k → 0 < Pl.compare (prAt zs j).key pk) := fun j h1 h2 => by
              rcases Nat.lt_or_ge m j with h3 | h3
              · exact HJ.out j h3 h2
              · obtain rfl : j = m := by omega
                rw [hkk]
                have := HCK.out
                rw [hgt] at this
                have h4 := of_decide_eq_false this
                have h5 := HCN.out
                omega
            clear HJ HCK hkk HCN
            go_wp2_with fail
            go_quiet (fail)
            go_wp2_with fail
            go_roundw
            case rel => exact ⟨m, by omega, by go_num, HJ2, hGx.drewN _⟩
            case measure => simp [intOf]
          | true =>
            have HFIN : Hid (Pl.Srt (zs.take (m + 1) ++ [⟨pk, pv, pn⟩] ++ zs.drop (m + 1))) := Pl.srt_ins HZ.out.2.1 HPK.out HDZ.out (m + 1) (by omega) (fun j h1 h2 => HJ.out j h1 (by have := HZL.out; omega)) (fun _ => by
              show ¬ 0 < Pl.compare (prAt zs m).key pk
              rw [hkk]
              have := HCK.out
              rw [hgt] at this
              have h4 := of_decide_eq_true this
              omega)
            clear HJ HCK hkk HCN
            go_wp2_with fail
            go_quiet (fail)
            go_wp2_with fail
            generalize hY : World.drewN wr _ = Y
            have gY : Grew B Y := by rw [← hY]; exact hGx.drewN _
            clear hY p0 p1 p2 hzx hGx
            have hMk : (m + 1) ≤ k := by omega
            have hMi : (((m + 1) : Nat) : Int) ≤ (k : Int) := by omega
            have hMc : (m + 1) ≤ cp := by omega
            have hkc : (k : Int) ≤ (cp : Int) := by omega
            have hPB := Nat.lt_of_lt_of_le hz1 gY.size
            have HPA : Hid (PairsAt Y (some ⟨g, 0, none⟩) zs) := by
              have h1 := HOWN.out
              rw [← HZL.out] at h1
              obtain ⟨a', cap', e', hP⟩ := pairsAt_of h1
              cases e'
              exact hP.grew gY
            have K0 := wd_cell (w := Y) ((gY.cells.1 _ _ hz1).trans k0)
            have K1 := wd_cell (w := Y) ((gY.cells.1 _ _ hz1).trans k1)
            have K2 := wd_cell (w := Y) ((gY.cells.1 _ _ hz1).trans k2)
            refine wp_region_mix 12 [0, 4, 6, 7, 11] (Grew Y) Eq (JS Y (Pr.vals ⟨pk, pv, pn⟩) (prFlat (zs.take ((m + 1)))) (prFlat (zs.drop ((m + 1)))) ((m + 1)) k) (fun f a => ((((a.put (some 34) (f 0)).put (some 38) (f 4)).put (some 40) (f 6)).put (some 41) (f 7)).put (some 45) (f 11)) (by kernel_rfl) (by kernel_rfl) (fun _ _ => rfl) (JS.start Y) (fun L f x h => h.grew) (fun _ => rfl) (fun _ _ _ _ h g => g ▸ h) ?_
            repeat (first
    | (refine wpMix_loose (by rfl) (by rfl) ?_)
    | (refine wpMix_plain (by rfl) (by rfl) (by rfl) (by first | exact Grew.refl | exact fun _ => rfl) (by rfl) ?_; intro K hK; go_big_quiet_op; go_big_quiet_on)
    | (refine wpMix_skip (by rfl) (by rfl) (by rfl) ?_; simp only [Act.put, List.setIfInBounds_toArray, List.set_cons_zero, List.set_cons_succ]))
            refine wpMix_done (by rfl) ⟨⟨loose_of rfl (fun _ a => a) (fun _ _ => rfl) (fun _ => rfl) ?_, loose_of rfl (fun f a => a.put (some 34) (f 0)) (fun _ _ => rfl) (fun _ => rfl) ?_, loose_of rfl (fun _ a => a) (fun _ _ => rfl) (fun _ => rfl) ?_, loose_of rfl (fun f a => (a.put (some 38) (f 4)).put (some 40) (f 6)) (fun _ _ => rfl) (fun _ => rfl) ?_, loose_of rfl (fun f a => a.put (some 41) (f 7)) (fun _ _ => rfl) (fun _ => rfl) ?_, trivial⟩, ?_⟩
            · intro L f x hJ hL hd
              have hm := hid (hJ.s0 hL)
              clear K0 K1 K2 hJ
              go_simp
              exact hm.out
            · intro L f x hJ hL hd
              clear K0 K1 K2
              have h0 := hd 0 rfl (by decide)
              refine uponV_append_pairs _ _ rfl (B := Y.heap.size) (v := f 0) (m := 0) (ys := []) (xs := zs.take ((m + 1))) rfl (hJ.r0 h0 hL) (ao := some ⟨g, 0, none⟩) (n := (m + 1)) (cap := cp) rfl (by rw [List.length_take]; have := HZL.out; omega) (pairs_take (HPA.out.grew hJ.grew) _) (.inr ⟨_, _, rfl⟩) (by omega) hJ.grew.size ?_
              intro r x' hrow hgr how
              refine hJ.s4 hL h0 ?_ hgr how
              simpa using hrow
            · intro L f x hJ hL hd
              have hm := hid (hJ.s6 hL)
              clear K0 K1 K2 hJ
              go_simp
              exact hm.out
            · intro L f x hJ hL hd
              clear K0 K1 K2
              have h4 := hd 4 rfl (by decide)
              have h6 := hd 6 rfl (by decide)
              obtain ⟨vb, e6, hvN, hvb, _, hne⟩ := hJ.r6 h6 hL
              refine uponV_append_pairs _ _ rfl (B := Y.heap.size) (v := f 4) (m := (m + 1)) (ys := zs.take ((m + 1))) (xs := [⟨pk, pv, pn⟩]) rfl (hJ.r4 h4 hL) (ao := some ⟨vb, 0, none⟩) (n := 1) (cap := 1) e6 rfl (pairs_one hvb) (.inr ⟨_, _, rfl⟩) (by omega) hJ.grew.size ?_
              intro r x' hrow hgr how
              refine hJ.s7 hL h4 h6 ?_ hgr
              rw [prFlat_append, prFlat_one] at hrow
              exact hrow
            · intro L f x hJ hL hd
              clear K0 K1 K2
              have h7 := hd 7 rfl (by decide)
              refine uponV_append_pairs _ _ rfl (B := Y.heap.size) (v := f 7) (m := (m + 1) + 1) (ys := zs.take ((m + 1)) ++ [⟨pk, pv, pn⟩]) (xs := zs.drop ((m + 1))) rfl (by rw [prFlat_append, prFlat_one]; exact hJ.r7 h7 hL) (ao := (if cp = m + 1 then some ⟨g, 0, none⟩ else some ⟨g, (m + 1) * 3, none⟩)) (n := k - ((m + 1))) (cap := cp - ((m + 1))) ?_ (by rw [List.length_drop]; have := HZL.out; omega) (by have := pairs_drop (HPA.out.grew hJ.grew) ((m + 1)); rw [Nat.zero_add] at this; first | exact this | (split; exact .inl (List.drop_eq_nil_of_le (by have := HZL.out; omega)); exact this)) (by first | exact .inr ⟨_, _, rfl⟩ | (split <;> exact .inr ⟨_, _, rfl⟩)) (by omega) hJ.grew.size ?_
              · rfl
              intro r x' hrow hgr how
              refine hJ.s11 hL h7 ?_ hgr
              rw [prFlat_append, prFlat_append, prFlat_one] at hrow
              rw [show k + 1 = (m + 1) + 1 + (k - ((m + 1))) by omega]
              exact hrow
            rintro f x hJ
            clear K0 K1 K2
            have r11 := hJ.r11 rfl
            obtain ⟨g', cap', e11, _, _⟩ := r11.form (by omega)
            rw [e11] at r11
            rw [e11]
            have hGx : Grew w x := (hG1.trans gY).trans hJ.grew
            have hRR : x.ownsRow w.heap.size 42 3 (.slice (some ⟨g', 0, none⟩) (k + 1) cap') (k + 1) (prFlat (zs.take ((m + 1)) ++ [⟨pk, pv, pn⟩] ++ zs.drop ((m + 1)))) := by
              rw [prFlat_append, prFlat_append, prFlat_one]
              exact ownsRow_base (Nat.le_trans hG1.size gY.size) r11
            have HRR := hid hRR
            have HZN : Hid ((zs.take ((m + 1)) ++ [(⟨pk, pv, pn⟩ : Pr)] ++ zs.drop ((m + 1))).Perm (xs.take (k + 1)) ∧ Pl.Srt (zs.take ((m + 1)) ++ [(⟨pk, pv, pn⟩ : Pr)] ++ zs.drop ((m + 1))) ∧ (zs.take ((m + 1)) ++ [(⟨pk, pv, pn⟩ : Pr)] ++ zs.drop ((m + 1))).length = k + 1) := by
              refine ⟨?_, HFIN.out, ?_⟩
              · rw [HT.out]
                exact (Pl.ins_perm zs _ _).trans (HZ.out.1.append_right _)
              · rw [(Pl.ins_perm zs _ _).length_eq, List.length_append, HZL.out]; rfl
            clear hJ e11 r11 hRR gY hG1 HPA hPB HFIN
            dsimp only [List.drop]
            go_wp2_with fail
            go_roundw
            case rel => exact ⟨k + 1, _, g', cap', by omega, rfl, by go_num, HZN, HRR.out, hGx⟩
            case measure => simp [intOf]; omega
    · obtain rfl : k = xs.length := by omega
      have HR := hid hown
      have HZ2 : Hid (zs.Perm xs ∧ Pl.Srt zs ∧ zs.length = xs.length) := by have := HZ.out; rw [List.take_length] at this; exact this
      clear hown HZ
      go_wp2_with fail
      go_ret
      obtain ⟨z1, z2, z3⟩ := HZ2.out
      exact ⟨⟨_, zs, rfl, z1, z2, by rw [z3]; exact HR.out⟩, hG⟩
end Go.Proofs.YtbdagllflamabaaGreatDoor
