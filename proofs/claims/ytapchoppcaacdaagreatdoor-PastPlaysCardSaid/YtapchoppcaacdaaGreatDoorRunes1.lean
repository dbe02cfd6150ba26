/- The walks of package runes' readers: Right, Count, Key: what each computes. -/
import Derived.Test.YtapchoppcaacdaaGreatDoorKit
import Derived.Test.YtapchoppcaacdaaGreatDoorUtf
namespace Go.Proofs.YtapchoppcaacdaaGreatDoor
open Go.RowKit

namespace Pl
theorem bad_right (s : ByteArray) (p : Nat) (hp : p < s.size) (h : (runesAt s p).isSome = right s) (hb : Utf8.decode s p = (65533, 1)) : right s = false := by
  rw [← h, runesAt_step s p hp, if_pos hb]; rfl
theorem next_right (s : ByteArray) (p : Nat) (hp : p < s.size) (h : (runesAt s p).isSome = right s) (hb : Utf8.decode s p ≠ (65533, 1)) :
    (runesAt s (p + (Utf8.decode s p).2)).isSome = right s := by
  rw [← h, runesAt_step s p hp, if_neg hb]; simp
theorem fst_ne (s : ByteArray) (p : Nat) (h : ¬ ((Utf8.decode s p).1 : Int) = 65533) : Utf8.decode s p ≠ (65533, 1) := by
  intro e; rw [e] at h; exact h rfl
end Pl

set_option maxHeartbeats 400000 in
theorem right_any (s : ByteArray) (w : World) (hs : s.size ≤ 140737488351232) :
    Calls Tryz.prog 100 #[.string s] w fun e w' => e = .returned (.bool (Pl.right s)) ∧ ∃ p, w' = w.iter s p := by
  go_enter Tryz.func100, Tryz.ntmps100
  go_wp2
  go_loopw [3, 4] (fun _ _ w' => ∃ p : Nat, w' = w.iter s p ∧ p ≤ s.size ∧ Hid ((Pl.runesAt s p).isSome = Pl.right s)) (fun _ _ w' => s.size - w'.iterPos w.heap.size)
  case atStart => exact ⟨0, rfl, Nat.zero_le _, rfl⟩
  case round =>
    obtain ⟨p, rfl, hle, HR⟩ := hrel
    by_cases hp : p < s.size
    · have hnx : ∀ ty, (Instr.next (.pointer (some ⟨w.heap.size, 0, none⟩)) true ty).run Tryz.prog (w.iter s p) = _ := fun ty => run_next_any w s p ty hp
      have go_on : Utf8.decode s p ≠ (65533, 1) → p + (Utf8.decode s p).2 ≤ s.size ∧ 1 ≤ (Utf8.decode s p).2 ∧ Hid ((Pl.runesAt s (p + (Utf8.decode s p).2)).isSome = Pl.right s) := fun h => by
        have e := Pl.step1_at s p
        rw [if_neg h] at e
        exact ⟨Pl.width_le s p hp h, (Pl.step1_pos' _ (Pl.suf_ne s p hp) _ e).1, Pl.next_right s p hp HR.out h⟩
      have stop : Utf8.decode s p = (65533, 1) → Pl.right s = false := fun h => Pl.bad_right s p hp HR.out h
      have HG := hid go_on
      have HS := hid stop
      clear go_on stop
      go_wp2
      · have h1 : ((Utf8.decode s p).1 : Int) = 65533 := by assumption
        have h2 : (s.size : Int) - p < 3 ∨ (!(s.extract p (p + 3)).toList == [239, 191, 189]) = true := by assumption
        go_ret
        refine ⟨ret_bool ?_, _, rfl⟩
        rw [HS.out]
        refine Classical.byContradiction fun hne => ?_
        have hm := (Pl.mark_iff s p hp (by omega)).1 hne
        rcases h2 with h2 | h2
        · exact Pl.mark_short s p (by omega) hm
        · rw [ByteArray.toList_eq, hm] at h2
          simp at h2
      · have h1 : ((Utf8.decode s p).1 : Int) = 65533 := by assumption
        have h2 : (3 : Int) ≤ s.size - p ∧ (!(s.extract p (p + 3)).toList == [239, 191, 189]) = false := by assumption
        have hne : Utf8.decode s p ≠ (65533, 1) := (Pl.mark_iff s p hp (by omega)).2 (by simpa [ByteArray.toList_eq] using h2.2)
        obtain ⟨g1, g2, g3⟩ := HG.out hne
        go_roundw
        case rel => exact ⟨_, rfl, g1, g3⟩
        case measure => simp; omega
      · have h1 : ((Utf8.decode s p).1 : Int) = 65533 := by assumption
        have h2 : (s.size : Int) - p < 3 := by assumption
        go_ret
        refine ⟨ret_bool ?_, _, rfl⟩
        rw [HS.out]
        refine Classical.byContradiction fun hne => ?_
        exact Pl.mark_short s p (by omega) ((Pl.mark_iff s p hp (by omega)).1 hne)
      · have h1 : ¬ ((Utf8.decode s p).1 : Int) = 65533 := by assumption
        obtain ⟨g1, g2, g3⟩ := HG.out (Pl.fst_ne s p h1)
        go_roundw
        case rel => exact ⟨_, rfl, g1, g3⟩
        case measure => simp; omega
    · have hnx : ∀ ty, (Instr.next (.pointer (some ⟨w.heap.size, 0, none⟩)) true ty).run Tryz.prog (w.iter s p) = _ := fun ty => run_next_end w s p ty hp
      go_wp2
      go_ret
      have e : Pl.right s = true := by rw [← HR.out, Pl.runesAt_end s p hp]; rfl
      exact ⟨ret_bool e.symm, _, rfl⟩
end Go.Proofs.YtapchoppcaacdaaGreatDoor
