/- The walks of package runes: Count, Key. -/
import Derived.Test.YtapchoppcaacdaaGreatDoorRunes1
import Derived.Test.YtapchoppcaacdaaGreatDoorErrs
namespace Go.Proofs.YtapchoppcaacdaaGreatDoor
open Go.RowKit

namespace Pl
/-- How many runes a text has; -1: it isn't right. -/
def count (s : ByteArray) : Int := match runes s.data.toList with | none => -1 | some l => l.length

/-- The error's number of a key; 0: it is one. -/
def badRune (c : Nat) : Bool := decide (c < 32) || decide (c = 127)
def keyL (l : List Nat) : Nat := if l.length = 0 then 2 else if 24 < l.length then 3 else if l.any badRune then 7 else 0
def keyN (s : ByteArray) : Nat := match runes s.data.toList with | none => 6 | some l => keyL l

theorem runes_round (s : ByteArray) (p : Nat) (r : List Nat) (hp : p < s.size) (h : runesAt s p = some r) :
    ∃ t, r = (Utf8.decode s p).1 :: t ∧ runesAt s (p + (Utf8.decode s p).2) = some t ∧ p + (Utf8.decode s p).2 ≤ s.size ∧ 1 ≤ (Utf8.decode s p).2 := by
  rw [runesAt_step s p hp] at h
  split at h
  · cases h
  · next hne =>
    simp only [Option.map_eq_some_iff] at h
    obtain ⟨t, ht, rfl⟩ := h
    have e := step1_at s p
    rw [if_neg hne] at e
    exact ⟨t, rfl, ht, width_le s p hp hne, (step1_pos' _ (suf_ne s p hp) _ e).1⟩
theorem runes_done (s : ByteArray) (p : Nat) (r : List Nat) (hp : ¬ p < s.size) (h : runesAt s p = some r) : r = [] := by
  rw [runesAt_end s p hp] at h; exact (Option.some.inj h).symm
theorem runes_len : ∀ (n : Nat) (l : List UInt8) (r : List Nat), l.length ≤ n → runes l = some r → r.length ≤ l.length := by
  intro n
  induction n with
  | zero =>
    intro l r hl h
    have : l = [] := List.eq_nil_of_length_eq_zero (by omega)
    subst this
    rw [runes_nil] at h; cases h; simp
  | succ n ih =>
    intro l r hl h
    by_cases e : l = []
    · subst e; rw [runes_nil] at h; cases h; simp
    · rw [runes_step l e] at h
      cases hs : step1 l with
      | none => rw [hs] at h; cases h
      | some d =>
        rw [hs] at h
        simp only [Option.bind_some, Option.map_eq_some_iff] at h
        obtain ⟨t, ht, rfl⟩ := h
        have hp := step1_pos' l e d hs
        have := ih (l.drop d.2) t (by simp; omega) ht
        simp at this ⊢
        omega
end Pl

set_option maxHeartbeats 400000 in
theorem count_any (s : ByteArray) (w : World) (hs : s.size ≤ 140737488351232) :
    Calls Tryz.prog 121 #[.string s] w fun e w' => e = .returned (.int .i64 (Pl.count s)) ∧ Grew w w' := by
  cases hr : Pl.runes s.data.toList with
  | none =>
    have hq : Pl.right s = false := by unfold Pl.right; rw [hr]; rfl
    have hc : Pl.count s = -1 := by unfold Pl.count; rw [hr]
    have HC := hid hc
    clear hc hr
    go_enter Tryz.func121, Tryz.ntmps121
    go_wp2_with (go_at_call 100; refine (right_any _ _ hs).mono ?_; rintro e w' ⟨rfl, p, rfl⟩)
    go_ret
    exact ⟨ret_int HC.out.symm, (Grew.refl w).iter _ _⟩
  | some l =>
    have hq : Pl.right s = true := by unfold Pl.right; rw [hr]; rfl
    have hc : Pl.count s = l.length := by unfold Pl.count; rw [hr]
    have hl : l.length ≤ s.size := by simpa using Pl.runes_len _ _ l (Nat.le_refl _) hr
    have HC := hid hc
    have HR := hid hr
    clear hc hr
    go_enter Tryz.func121, Tryz.ntmps121
    go_wp2_with (go_at_call 100; refine (right_any _ _ hs).mono ?_; rintro e w' ⟨rfl, p, rfl⟩)
    obtain ⟨W1, hW1⟩ : ∃ W1, W1 = w.iter s p := ⟨_, rfl⟩
    have hG : Grew w W1 := by rw [hW1]; exact (Grew.refl w).iter _ _
    rw [← hW1]
    clear hW1
    go_wp2
    go_loopw [3] (fun n w' => ∃ (q k : Nat) (r : List Nat), n = .int .i64 k ∧ w' = W1.iter s q ∧ q ≤ s.size ∧ Hid (Pl.runesAt s q = some r) ∧ Hid (k + r.length = l.length) ∧ k ≤ l.length) (fun _ w' => s.size - w'.iterPos W1.heap.size)
    case atStart => exact ⟨0, 0, l, rfl, rfl, Nat.zero_le _, HR.out, by simp [Hid], by omega⟩
    case round =>
      obtain ⟨q, k, r, rfl, rfl, hq2, HA, HL, hkl⟩ := hrel
      by_cases hp : q < s.size
      · have hnx : ∀ ty, (Instr.next (.pointer (some ⟨W1.heap.size, 0, none⟩)) true ty).run Tryz.prog (W1.iter s q) = _ := fun ty => run_next_any W1 s q ty hp
        have HN := hid (Pl.runes_round s q r hp HA.out)
        go_wp2
        obtain ⟨t, rfl, ht, h1, h2⟩ := HN.out
        have hlen := HL.out
        simp only [List.length_cons] at hlen
        go_roundw
        case rel => exact ⟨_, k + 1, t, by go_num, rfl, h1, ht, by unfold Hid; omega, by omega⟩
        case measure => simp; omega
      · have hnx : ∀ ty, (Instr.next (.pointer (some ⟨W1.heap.size, 0, none⟩)) true ty).run Tryz.prog (W1.iter s q) = _ := fun ty => run_next_end W1 s q ty hp
        have HN := hid (Pl.runes_done s q r hp HA.out)
        go_wp2
        go_ret
        have e1 := HN.out
        have hlen := HL.out
        rw [e1] at hlen
        simp at hlen
        exact ⟨ret_int (by rw [HC.out]; omega), hG.iter _ _⟩

theorem load_iter (W : World) (s : ByteArray) (p g : Nat) (v : Value) (h : W.cell? ⟨g, 0, none⟩ = some v) : (W.iter s p).cell? ⟨g, 0, none⟩ = some v :=
  ((Grew.refl W).iter s p).below.cell (p := ⟨g, 0, none⟩) (cell_lt h) |>.trans h

set_option maxHeartbeats 400000 in
theorem key_any (S : Nat → Bool) (E : Nat → Addr) (h2 : S 2 = true) (h3 : S 3 = true) (h6 : S 6 = true) (h7 : S 7 = true) (s : ByteArray) (w : World) (hs : s.size ≤ 140737488351232) (hE : Errs S E w) :
    Calls Tryz.prog 80 #[.string s] w fun e w' => e = .returned (errOf E (Pl.keyN s)) ∧ Grew w w' := by
  have HE := hid hE
  clear hE
  cases hr : Pl.runes s.data.toList with
  | none =>
    have hc : Pl.count s = -1 := by unfold Pl.count; rw [hr]
    have hk : Pl.keyN s = 6 := by unfold Pl.keyN; rw [hr]
    have HC := hid hc
    have HK := hid hk
    clear hc hr hk
    go_enter Tryz.func80, Tryz.ntmps80
    go_wp2_with (go_at_call 121; refine (count_any _ _ hs).mono ?_; rw [HC.out]; rintro e W1 ⟨rfl, hG⟩; have c6 : W1.cell? ⟨6, 0, none⟩ = some (.iface 288 (.pointer (some (E 6)))) := (HE.out.grew hG).cell 6 h6)
    go_ret
    exact ⟨ret_val (by rw [HK.out]; rfl), hG⟩
  | some l =>
    have hc : Pl.count s = (l.length : Int) := by unfold Pl.count; rw [hr]
    have hk : Pl.keyN s = Pl.keyL l := by unfold Pl.keyN; rw [hr]
    have hl : l.length ≤ s.size := by simpa using Pl.runes_len _ _ l (Nat.le_refl _) hr
    have HC := hid hc
    have HK := hid hk
    have HR := hid hr
    clear hc hr hk
    by_cases l0 : l.length = 0
    · have hk2 : Pl.keyL l = 2 := by unfold Pl.keyL; rw [if_pos l0]
      have HC2 : Hid (Pl.count s = 0) := by unfold Hid; rw [HC.out, l0]; rfl
      have HK2 := hid hk2
      clear hk2 l0
      go_enter Tryz.func80, Tryz.ntmps80
      go_wp2_with (go_at_call 121; refine (count_any _ _ hs).mono ?_; rw [HC2.out]; rintro e W1 ⟨rfl, hG⟩; have c6 : W1.cell? ⟨3, 0, none⟩ = some (.iface 288 (.pointer (some (E 2)))) := (HE.out.grew hG).cell 2 h2)
      go_ret
      exact ⟨ret_val (by rw [HK.out, HK2.out]; rfl), hG⟩
    · by_cases l24 : 24 < l.length
      · have hk2 : Pl.keyL l = 3 := by unfold Pl.keyL; rw [if_neg l0, if_pos l24]
        have HK2 := hid hk2
        clear hk2
        go_enter Tryz.func80, Tryz.ntmps80
        go_wp2_with (go_at_call 121; refine (count_any _ _ hs).mono ?_; rw [HC.out]; rintro e W1 ⟨rfl, hG⟩; have c6 : W1.cell? ⟨4, 0, none⟩ = some (.iface 288 (.pointer (some (E 3)))) := (HE.out.grew hG).cell 3 h3)
        go_ret
        exact ⟨ret_val (by rw [HK.out, HK2.out]; rfl), hG⟩
      · have hk2 : Pl.keyL l = if l.any Pl.badRune then 7 else 0 := by unfold Pl.keyL; rw [if_neg l0, if_neg l24]
        have HK2 := hid hk2
        clear hk2
        have b0 : ((l.length : Int) == 0) = false := beq_eq_false_iff_ne.2 (by omega)
        have b1 : decide ((l.length : Int) < 0) = false := by simp
        have b2 : decide ((24 : Int) < (l.length : Int)) = false := by simp; omega
        go_enter Tryz.func80, Tryz.ntmps80
        go_wp2_with (go_at_call 121; refine (count_any _ _ hs).mono ?_; rw [HC.out]; rintro e W1 ⟨rfl, hG⟩)
        have hE1 := HE.out.grew hG
        have c7 : W1.cell? ⟨7, 0, none⟩ = some (.iface 288 (.pointer (some (E 7)))) := hE1.cell 7 h7
        clear hE1
        go_loopw [5] (fun _ w' => ∃ (q : Nat) (r : List Nat), w' = W1.iter s q ∧ q ≤ s.size ∧ Hid (Pl.runesAt s q = some r) ∧ Hid (r.any Pl.badRune = l.any Pl.badRune)) (fun _ w' => s.size - w'.iterPos W1.heap.size)
        case atStart => exact ⟨0, l, rfl, Nat.zero_le _, HR.out, rfl⟩
        case round =>
          obtain ⟨q, r, rfl, hq2, HA, HL⟩ := hrel
          by_cases hp : q < s.size
          · have hnx : ∀ ty, (Instr.next (.pointer (some ⟨W1.heap.size, 0, none⟩)) true ty).run Tryz.prog (W1.iter s q) = _ := fun ty => run_next_any W1 s q ty hp
            have HN := hid (Pl.runes_round s q r hp HA.out)
            have c7' := load_iter W1 s (q + (Utf8.decode s q).2) 7 _ c7
            go_wp2
            · obtain ⟨t, rfl, ht, h1, h2⟩ := HN.out
              have g1 : (32 : Int) ≤ (Utf8.decode s q).1 := by assumption
              have g2 : ((Utf8.decode s q).1 : Int) < 32 ∨ (((Utf8.decode s q).1 : Int) == 127) = true := by assumption
              have g3 : (Utf8.decode s q).1 = 127 := by rcases g2 with g2 | g2; exact absurd g2 (by omega); have := eq_of_beq g2; omega
              have hb : l.any Pl.badRune = true := by rw [← HL.out]; simp [Pl.badRune, g3]
              go_ret
              exact ⟨ret_val (by rw [HK.out, HK2.out, if_pos hb]; rfl), hG.iter _ _⟩
            · obtain ⟨t, rfl, ht, h1, h2⟩ := HN.out
              have g2 : (32 : Int) ≤ (Utf8.decode s q).1 ∧ (((Utf8.decode s q).1 : Int) == 127) = false := by assumption
              have g3 : Pl.badRune (Utf8.decode s q).1 = false := by simp [Pl.badRune] at g2 ⊢; omega
              go_roundw
              case rel => exact ⟨_, t, rfl, h1, ht, by unfold Hid; rw [← HL.out]; simp [g3]⟩
              case measure => simp; omega
            · obtain ⟨t, rfl, ht, h1, h2⟩ := HN.out
              have g1 : ((Utf8.decode s q).1 : Int) < 32 := by assumption
              have hb : l.any Pl.badRune = true := by
                have g3 : Pl.badRune (Utf8.decode s q).1 = true := by simp [Pl.badRune]; omega
                rw [← HL.out]; simp [g3]
              go_ret
              exact ⟨ret_val (by rw [HK.out, HK2.out, if_pos hb]; rfl), hG.iter _ _⟩
          · have hnx : ∀ ty, (Instr.next (.pointer (some ⟨W1.heap.size, 0, none⟩)) true ty).run Tryz.prog (W1.iter s q) = _ := fun ty => run_next_end W1 s q ty hp
            have HN := hid (Pl.runes_done s q r hp HA.out)
            go_wp2
            go_ret
            have e1 := HN.out
            have hlen := HL.out
            rw [e1] at hlen
            simp at hlen
            exact ⟨ret_val (by rw [HK.out, HK2.out, if_neg (by simpa using hlen)]; rfl), hG.iter _ _⟩
end Go.Proofs.YtapchoppcaacdaaGreatDoor
