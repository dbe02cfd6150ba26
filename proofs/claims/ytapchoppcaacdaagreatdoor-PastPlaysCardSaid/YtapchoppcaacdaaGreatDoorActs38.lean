/- The acts of tidewaterlaw38: how a list of them lies in memory; the walks of 'long' and of Num at any number. -/
import Derived.Test.YtapchoppcaacdaaGreatDoorErrs
import Derived.Deep.QuietTactic
import Derived.BigQuiet
namespace Go.Proofs.YtapchoppcaacdaaGreatDoor
open Go.RowKit

/-- An act. -/
structure Act38 where
  kind : Int
  ver : Int
  key : ByteArray
  val : ByteArray
  lo : ByteArray
  hi : ByteArray
def Act38.none : Act38 := ⟨0, 0, ⟨#[]⟩, ⟨#[]⟩, ⟨#[]⟩, ⟨#[]⟩⟩
def actAt38 (xs : List Act38) (j : Nat) : Act38 := xs[j]?.getD Act38.none
structure ActRow38 (W : World) (b off : Nat) (xs : List Act38) : Prop where
  kind : ∀ j, j < xs.length → W.cell? ⟨b, off + j * 6, Option.none⟩ = some (.int .i64 (actAt38 xs j).kind)
  ver : ∀ j, j < xs.length → W.cell? ⟨b, off + j * 6 + 1, Option.none⟩ = some (.int .i64 (actAt38 xs j).ver)
  key : ∀ j, j < xs.length → W.cell? ⟨b, off + j * 6 + 2, Option.none⟩ = some (.string (actAt38 xs j).key)
  val : ∀ j, j < xs.length → W.cell? ⟨b, off + j * 6 + 3, Option.none⟩ = some (.string (actAt38 xs j).val)
  lo : ∀ j, j < xs.length → W.cell? ⟨b, off + j * 6 + 4, Option.none⟩ = some (.string (actAt38 xs j).lo)
  hi : ∀ j, j < xs.length → W.cell? ⟨b, off + j * 6 + 5, Option.none⟩ = some (.string (actAt38 xs j).hi)
theorem ActRow38.grew {W W' : World} {b off : Nat} {xs : List Act38} (h : ActRow38 W b off xs) (g : Grew W W') (hb : b < W.heap.size) : ActRow38 W' b off xs :=
  ⟨fun j hj => (g.cells.1 _ _ hb).trans (h.kind j hj), fun j hj => (g.cells.1 _ _ hb).trans (h.ver j hj), fun j hj => (g.cells.1 _ _ hb).trans (h.key j hj), fun j hj => (g.cells.1 _ _ hb).trans (h.val j hj), fun j hj => (g.cells.1 _ _ hb).trans (h.lo j hj), fun j hj => (g.cells.1 _ _ hb).trans (h.hi j hj)⟩
/-- A slice of acts: empty, or a row. -/
def ActsAt38 (W : World) (a : Option Addr) (xs : List Act38) : Prop := xs = [] ∨ ∃ b off, a = some ⟨b, off, none⟩ ∧ b < W.heap.size ∧ ActRow38 W b off xs
theorem ActsAt38.grew {W W' : World} {a : Option Addr} {xs : List Act38} (h : ActsAt38 W a xs) (g : Grew W W') : ActsAt38 W' a xs := by
  rcases h with h | ⟨b, off, e, hb, h⟩
  · exact .inl h
  · exact .inr ⟨b, off, e, Nat.lt_of_lt_of_le hb g.size, h.grew g hb⟩
def Act38.long (a : Act38) : Bool := decide (300 < a.key.size) || decide (300 < a.val.size) || decide (300 < a.lo.size) || decide (300 < a.hi.size)
def long38B (xs : List Act38) : Bool := decide (60 < xs.length) || xs.any Act38.long
theorem actAt38_eq (xs : List Act38) (i : Nat) (hi : i < xs.length) : actAt38 xs i = xs[i] := by unfold actAt38; rw [List.getElem?_eq_getElem hi]; rfl
theorem take_any_snoc38 (xs : List Act38) (k : Nat) (h : k < xs.length) : (xs.take (k + 1)).any Act38.long = ((xs.take k).any Act38.long || (actAt38 xs k).long) := by
  rw [List.take_succ_eq_append_getElem h, actAt38_eq xs k h, List.any_append]; simp
theorem any_of_at38 (xs : List Act38) (k : Nat) (h : k < xs.length) (hl : (actAt38 xs k).long = true) : xs.any Act38.long = true := by
  rw [actAt38_eq xs k h] at hl
  exact List.any_eq_true.2 ⟨xs[k], List.getElem_mem h, hl⟩
theorem long38_short {xs : List Act38} (h : long38B xs = false) : xs.length ≤ 60 ∧ ∀ j, j < xs.length → (actAt38 xs j).key.size ≤ 300 ∧ (actAt38 xs j).val.size ≤ 300 ∧ (actAt38 xs j).lo.size ≤ 300 ∧ (actAt38 xs j).hi.size ≤ 300 := by
  unfold long38B at h
  rw [Bool.or_eq_false_iff, decide_eq_false_iff_not] at h
  refine ⟨by omega, fun j hj => ?_⟩
  have := List.any_eq_false.1 h.2 _ (List.getElem_mem hj)
  rw [← actAt38_eq xs j hj] at this
  unfold Act38.long at this
  simp only [Bool.or_eq_true, decide_eq_true_eq, not_or] at this
  omega

set_option maxRecDepth 100000 in
set_option maxHeartbeats 2000000 in
theorem long38_any (a : Option Addr) (cap : Nat) (xs : List Act38) (w : World) (hA : ActsAt38 w a xs) (hx : xs.length ≤ 9223372036854775807)
    (hk : ∀ j, j < xs.length → (actAt38 xs j).key.size ≤ 9223372036854775807 ∧ (actAt38 xs j).val.size ≤ 9223372036854775807 ∧ (actAt38 xs j).lo.size ≤ 9223372036854775807 ∧ (actAt38 xs j).hi.size ≤ 9223372036854775807) :
    Calls Tryz.prog 7 #[.slice a xs.length cap] w fun e w' => e = .returned (.bool (long38B xs)) ∧ Grew w w' := by
  by_cases h60 : 60 < xs.length
  · have e : long38B xs = true := by unfold long38B; rw [decide_eq_true h60]; rfl
    rw [e]
    clear e
    have h1 : (60 : Int) < (xs.length : Int) := by omega
    go_enter Tryz.func7, Tryz.ntmps7
    go_wp2_with fail
    go_ret
    exact ⟨rfl, Grew.refl w⟩
  · have h1 : (xs.length : Int) ≤ 60 := by omega
    have e : long38B xs = xs.any Act38.long := by unfold long38B; rw [decide_eq_false h60]; rfl
    have HE := hid e
    have HA := hid hA
    have HK := hid hk
    clear e h60 hA hk
    go_enter Tryz.func7, Tryz.ntmps7
    go_wp2_with fail
    go_loopw [10] (fun i wr => ∃ k : Nat, k ≤ xs.length ∧ i = .int .i64 k ∧ (xs.take k).any Act38.long = false ∧ Grew w wr) (fun i _ => xs.length - (intOf i).toNat)
    case atStart => exact ⟨0, Nat.zero_le _, rfl, rfl, Grew.refl w⟩
    case round =>
      obtain ⟨k, hk1, rfl, hno, hG⟩ := hrel
      by_cases hlt : k < xs.length
      · rcases HA.out with h0 | ⟨b, off, rfl, hb, hR⟩
        · rw [h0] at hlt; simp at hlt
        have q0 := (hG.cells.1 b (off + k * 6) hb).trans (hR.kind k hlt)
        have q1 := (hG.cells.1 b (off + k * 6 + 1) hb).trans (hR.ver k hlt)
        have q2 := (hG.cells.1 b (off + k * 6 + 2) hb).trans (hR.key k hlt)
        have q3 := (hG.cells.1 b (off + k * 6 + 3) hb).trans (hR.val k hlt)
        have q4 := (hG.cells.1 b (off + k * 6 + 4) hb).trans (hR.lo k hlt)
        have q5 := (hG.cells.1 b (off + k * 6 + 5) hb).trans (hR.hi k hlt)
        have HN := hid (take_any_snoc38 xs k hlt)
        have HY := hid (any_of_at38 xs k hlt)
        have HNO := hid hno
        clear hR hno
        obtain ⟨ck, cv, cl, ch⟩ := HK.out k hlt
        by_cases hl : 300 < (actAt38 xs k).key.size ∨ 300 < (actAt38 xs k).val.size ∨ 300 < (actAt38 xs k).lo.size ∨ 300 < (actAt38 xs k).hi.size
        · have HL : Hid ((actAt38 xs k).long = true) := by
            unfold Hid Act38.long
            simp only [Bool.or_eq_true, decide_eq_true_eq]; omega
          rcases hl with h | h | h | h
          · have h' : (300 : Int) < ((actAt38 xs k).key.size : Int) := by omega
            go_wp2_with fail
            go_ret
            exact ⟨ret_bool (by rw [HE.out, HY.out HL.out]), hG.alloc _⟩
          · have h' : (300 : Int) < ((actAt38 xs k).val.size : Int) := by omega
            by_cases g1 : (300 : Int) < ((actAt38 xs k).key.size : Int)
            all_goals
              go_wp2_with fail
              go_ret
              exact ⟨ret_bool (by rw [HE.out, HY.out HL.out]), hG.alloc _⟩
          · have h' : (300 : Int) < ((actAt38 xs k).lo.size : Int) := by omega
            by_cases g1 : (300 : Int) < ((actAt38 xs k).key.size : Int)
            all_goals by_cases g2 : (300 : Int) < ((actAt38 xs k).val.size : Int)
            all_goals
              go_wp2_with fail
              go_ret
              exact ⟨ret_bool (by rw [HE.out, HY.out HL.out]), hG.alloc _⟩
          · have h' : (300 : Int) < ((actAt38 xs k).hi.size : Int) := by omega
            by_cases g1 : (300 : Int) < ((actAt38 xs k).key.size : Int)
            all_goals by_cases g2 : (300 : Int) < ((actAt38 xs k).val.size : Int)
            all_goals by_cases g3 : (300 : Int) < ((actAt38 xs k).lo.size : Int)
            all_goals
              go_wp2_with fail
              go_ret
              exact ⟨ret_bool (by rw [HE.out, HY.out HL.out]), hG.alloc _⟩
        · have HL : Hid ((actAt38 xs k).long = false) := by
            unfold Hid Act38.long
            simp only [Bool.or_eq_false_iff, decide_eq_false_iff_not]; omega
          have g1 : ¬ (300 : Int) < ((actAt38 xs k).key.size : Int) := by omega
          have g2 : ¬ (300 : Int) < ((actAt38 xs k).val.size : Int) := by omega
          have g3 : ¬ (300 : Int) < ((actAt38 xs k).lo.size : Int) := by omega
          have g4 : ¬ (300 : Int) < ((actAt38 xs k).hi.size : Int) := by omega
          clear hl
          go_wp2_with fail
          go_roundw
          case rel => exact ⟨k + 1, by omega, by go_num, by rw [HN.out, HNO.out, HL.out]; rfl, hG.alloc _⟩
          case measure => simp [intOf]; omega
      · obtain rfl : k = xs.length := by omega
        rw [List.take_length] at hno
        have HNO := hid hno
        clear hno
        go_wp2_with fail
        go_ret
        exact ⟨ret_bool (by rw [HE.out, HNO.out]), hG⟩

theorem num_all (E : Nat → Addr) (k : Nat) (hk : k ≤ 19) (w : World) (hE : Errs allS E w) :
    Calls Tryz.prog 33 #[errOf E k] w fun e w' => e = .returned (.int .i64 (k : Nat)) ∧ Grew w w' := by
  by_cases h0 : k = 0
  · subst h0
    exact (num_nil w).mono fun e w' ⟨he, hw⟩ => ⟨he, by rw [← hw]; exact Grew.refl _⟩
  · rw [errOf_pos E k h0]
    exact num_err E k (by omega) hk w hE
end Go.Proofs.YtapchoppcaacdaaGreatDoor
