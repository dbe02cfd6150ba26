/- The walk of past.History. -/
import Derived.Test.YtapchoppcaacdaaGreatDoorPast6
namespace Go.Proofs.YtapchoppcaacdaaGreatDoor
open Go.RowKit Go.Maps Go.Sort
attribute [local go_sem] Oper.semAt_some

set_option maxRecDepth 100000 in
set_option maxHeartbeats 2000000 in
theorem hist_any {w : World} {F : Nat → Prop} {pb n : Nat} {K : ByteArray → List Ch} {fl : Int} (h : PastAt w F pb n K fl) (hn : n ≤ 1000000) (key : ByteArray) (hk : key.size ≤ 140737488351232) :
    Calls Tryz.prog 14 #[.pointer (some ⟨pb, 0, none⟩), .string key] w fun e w' => (∃ v, e = .returned v ∧ w'.ownsRow w.heap.size 82 3 v (K key).length (pFlat (K key))) ∧ Grew w w' := by
  obtain ⟨⟨mb, f, h⟩, hF⟩ := h
  have c0 := h.map0
  obtain ⟨a, len, cap, hs, hC⟩ := h.slice key
  have hlk := h.look (Grew.refl w) key (by unfold maxLen; omega)
  have hlen := h.len key
  rw [hs] at hlk
  clear hs h hF
  obtain ⟨i0, hi0, hz0, hz1, hz2⟩ := info_parts info_pair
  rcases hC with ⟨e, hx⟩ | ⟨b, cap', e, hbb, hR⟩
  · cases e
    rw [hx]
    go_enter Tryz.func14, Tryz.ntmps14
    go_wp2_with fail
    go_loopw [5, 15] (fun v i wr => v = .slice none 0 0 ∧ i = .int .i64 0 ∧ Grew w wr) (fun _ _ _ => 0)
    case atStart => exact ⟨rfl, rfl, Grew.refl w⟩
    case round =>
      obtain ⟨rfl, rfl, hG⟩ := hrel
      go_wp2_with fail
      go_ret
      exact ⟨⟨_, rfl, World.ownsRow_nil _ _ _ _⟩, hG⟩
  · cases e
    go_enter Tryz.func14, Tryz.ntmps14
    go_wp2_with fail
    go_loopw [5, 15] (fun v i wr => ∃ k : Nat, k ≤ (K key).length ∧ i = .int .i64 k ∧ wr.ownsRow w.heap.size 82 3 v k (pFlat ((K key).take k)) ∧ Grew w wr) (fun _ i _ => (K key).length - (intOf i).toNat)
    case atStart => exact ⟨0, Nat.zero_le _, rfl, World.ownsRow_nil _ _ _ _, Grew.refl w⟩
    case round =>
      obtain ⟨k, hk1, rfl, hown, hG⟩ := hrel
      by_cases hlt : k < (K key).length
      · have q1 := (hG.cells.1 b (k * 4) hbb).trans (hR.key k hlt)
        have q2 := (hG.cells.1 b (k * 4 + 1) hbb).trans (hR.val k hlt)
        have q3 := (hG.cells.1 b (k * 4 + 2) hbb).trans (hR.ver k hlt)
        have q4 := (hG.cells.1 b (k * 4 + 3) hbb).trans (hR.there k hlt)
        have HT := hid (take_snoc_ch (K key) k hlt)
        clear hR
        go_wp2_with (at_builtin; refine wpList_append_lies _ rfl _ _ 38 rfl w.heap.size 82 i0 _ 3 40 Tryz.underlying38 hi0 hz0 hz1 hz2 rfl (by omega) _ k (pFlat ((K key).take k)) rfl ((hown.alloc _).alloc _) ⟨wr.heap.size + 1, 0, none⟩ 1 1 (chAt (K key) k).pvals rfl rfl ?_ ?_ (by omega) (by unfold maxLen; omega) (by omega) ?_ _ rfl ?_)
        · exact World.news_of_block (cs := #[.string (chAt (K key) k).key, .string (chAt (K key) k).val, .int .i64 (chAt (K key) k).ver]) (t := 82) (fr := (0, 0)) (heap_alloc2_new _ _ _)
        · intro u hu; simp [Ch.pvals] at hu; rcases hu with rfl | rfl | rfl <;> rfl
        · have := hG.size; simp; omega
        · intro g capg w1 hown1 hgrow hat hlt1
          have hG1 : Grew w w1 := ((((hG.alloc _).alloc _).only _).then (Only.of_grownBy hgrow)).grew (fun j hj => (hown.lt j hj.symm).1)
          have hown2 : w1.ownsRow w.heap.size 82 3 (.slice (some ⟨g, 0, none⟩) (k + 1) capg) (k + 1) (pFlat ((K key).take (k + 1))) := by rw [HT.out, pFlat_snoc]; exact hown1
          clear hown1 hgrow hat hown hG
          go_wp2_with fail
          go_roundw
          case rel => exact ⟨k + 1, by omega, by go_num, hown2, hG1⟩
          case measure => simp [intOf]; omega
      · obtain rfl : k = (K key).length := by omega
        rw [List.take_length] at hown
        go_wp2_with fail
        go_ret
        exact ⟨⟨_, rfl, hown⟩, hG⟩
end Go.Proofs.YtapchoppcaacdaaGreatDoor
