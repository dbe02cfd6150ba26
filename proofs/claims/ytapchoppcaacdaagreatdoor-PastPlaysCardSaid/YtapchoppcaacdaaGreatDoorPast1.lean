/- slices.Backward over a slice of changes, and past.last: the last change of a version up to one. -/
import Derived.Test.YtapchoppcaacdaaGreatDoorOwn
import Derived.RangeFuncNested
import Derived.RangeFuncBound
import Derived.RangeFuncCalls
import Derived.RangeFuncLeaves
import Derived.RangeFuncBox
import Derived.Shelf.Abstract
import Derived.Shelf.RegionOpen
import Derived.OwnWalkIn
import Derived.TacticsInMore
import Derived.LoopNIn
import Derived.LoopIn
namespace Go.Proofs.YtapchoppcaacdaaGreatDoor
open Go.RowKit Go.Shelf
attribute [local go_sem] Oper.semAt_some

theorem ret_i64 {a b : Int} (h : a = b) : Value.int .i64 a = .int .i64 b := by rw [h]

/-- A change: a key's value from a version on, or that it isn't there. -/
structure Ch where
  key : ByteArray
  val : ByteArray
  ver : Int
  there : Bool
def Ch.none : Ch := ⟨⟨#[]⟩, ⟨#[]⟩, 0, false⟩
def Ch.agg (c : Ch) : Value := .agg #[.string c.key, .string c.val, .int .i64 c.ver, .bool c.there]
def chAt (xs : List Ch) (j : Nat) : Ch := xs[j]?.getD Ch.none
/-- The cells of a row of changes. -/
structure ChRow (W : World) (b : Nat) (xs : List Ch) : Prop where
  key : ∀ j, j < xs.length → W.cell? ⟨b, j * 4, Option.none⟩ = some (.string (chAt xs j).key)
  val : ∀ j, j < xs.length → W.cell? ⟨b, j * 4 + 1, Option.none⟩ = some (.string (chAt xs j).val)
  ver : ∀ j, j < xs.length → W.cell? ⟨b, j * 4 + 2, Option.none⟩ = some (.int .i64 (chAt xs j).ver)
  there : ∀ j, j < xs.length → W.cell? ⟨b, j * 4 + 3, Option.none⟩ = some (.bool (chAt xs j).there)
theorem ChRow.below {n₀ b : Nat} {A B : World} {xs : List Ch} (h : Below n₀ A B) (hb : b < n₀) (r : ChRow A b xs) : ChRow B b xs :=
  ⟨fun j hj => (h.cell (p := ⟨b, j * 4, Option.none⟩) hb).trans (r.key j hj), fun j hj => (h.cell (p := ⟨b, j * 4 + 1, Option.none⟩) hb).trans (r.val j hj), fun j hj => (h.cell (p := ⟨b, j * 4 + 2, Option.none⟩) hb).trans (r.ver j hj), fun j hj => (h.cell (p := ⟨b, j * 4 + 3, Option.none⟩) hb).trans (r.there j hj)⟩

/-- What has come when k rounds from the end are over. -/
def downTo (xs : List Ch) (k : Nat) : List (Nat × Ch) := (List.range k).map fun j => (xs.length - 1 - j, chAt xs (xs.length - 1 - j))
theorem downTo_succ (xs : List Ch) (k : Nat) : downTo xs (k + 1) = downTo xs k ++ [(xs.length - 1 - k, chAt xs (xs.length - 1 - k))] := by simp [downTo, List.range_succ]
theorem downTo_length (xs : List Ch) (k : Nat) : (downTo xs k).length = k := by simp [downTo]

set_option maxRecDepth 100000 in
set_option maxHeartbeats 2000000 in
theorem backward1_in (F : Fence) (n : Nat) (h7 : F.fn 142) (hro : F.round = none) (hn : 1 ≤ n) (l Bs n₀ b cap : Nat) (xs : List Ch) (hreach : xs.length * 64 ≤ 140737488351232) (hb : b < n₀) (J Jx : List (Nat × Ch) → World → Prop)
    (hY : ∀ pre x W, J pre W → pre.length < xs.length → YieldAt F (n - 1) Tryz.prog l #[.int .i64 ((x.1 : Nat) : Int), x.2.agg] W fun e W' =>
      (e = .returned (.bool true) ∧ J (pre ++ [x]) W' ∧ Below n₀ W W') ∨ (e = .returned (.bool false) ∧ Jx (pre ++ [x]) W'))
    (W : World) (hBs : W.cell? ⟨Bs, 0, none⟩ = some (.slice (some ⟨b, 0, none⟩) xs.length cap)) (hc : ChRow W b xs) (hn0 : Bs < n₀) (h0 : J [] W) :
    CallsIn F n Tryz.prog 142 #[.func (.yield l) #[] #[], .pointer (some ⟨Bs, 0, none⟩)] W fun e W' => (∃ v, e = .returned v) ∧
      ((∃ ys, ys = downTo xs xs.length ∧ J ys W') ∨ (∃ pre, (∃ k, k ≤ xs.length ∧ pre = downTo xs k) ∧ Jx pre W')) := by
  refine callsIn_of_wp Tryz.func142 rfl h7 ?_ hro
  simp only [Tryz.ntmps142, List.size_toArray, List.length_cons, List.length_nil, Nat.reduceAdd, Nat.reduceSub, Array.replicate_succ, Array.replicate_zero, List.push_toArray, List.append_toArray, List.nil_append, List.cons_append]
  gi_wp2
  gi_loopw [3] (fun i wr => ∃ k : Nat, k ≤ xs.length ∧ i = .int .i64 ((xs.length : Int) - 1 - k) ∧ J (downTo xs k) wr ∧ Below n₀ W wr)
    (fun i _ => (intOf i + 1).toNat)
  case atStart => exact ⟨0, Nat.zero_le _, by simp, h0, Below.refl _ _⟩
  case round =>
    obtain ⟨k, hk, rfl, hJs, hnx⟩ := hrel
    have hcs := (hnx.cell (p := ⟨Bs, 0, none⟩) hn0).trans hBs
    by_cases hlt : k < xs.length
    · obtain ⟨m, hm⟩ : ∃ m, m = xs.length - 1 - k := ⟨_, rfl⟩
      have hm1 : m < xs.length := by omega
      have hm2 : (xs.length : Int) - 1 - k = (m : Int) := by omega
      rw [hm2]
      have HM := hid hm
      have HM2 := hid hm2
      clear hm hm2
      have q1 := (hnx.cell (p := ⟨b, m * 4, none⟩) hb).trans (hc.key m hm1)
      have q2 := (hnx.cell (p := ⟨b, m * 4 + 1, none⟩) hb).trans (hc.val m hm1)
      have q3 := (hnx.cell (p := ⟨b, m * 4 + 2, none⟩) hb).trans (hc.ver m hm1)
      have q4 := (hnx.cell (p := ⟨b, m * 4 + 3, none⟩) hb).trans (hc.there m hm1)
      obtain ⟨fn, tmps, assign, body, hy, hR⟩ := hY _ (m, chAt xs m) wr hJs (by rw [downTo_length]; exact hlt)
      dsimp only [Ch.agg] at hy
      clear hc
      gi_wp2
      refine hR.mono ?_
      rintro e W3 (⟨rfl, hJ3, hk3⟩ | ⟨rfl, hJx3⟩)
      · gi_wp2
        go_roundw
        case rel => exact ⟨k + 1, by omega, by rw [ret_i64 (show (m : Int) - 1 = (xs.length : Int) - 1 - ((k + 1 : Nat) : Int) by have := HM2.out; omega)], by rw [downTo_succ, ← HM.out]; exact hJ3, hnx.trans hk3⟩
        case measure => simp [intOf]
      · gi_wp2
        refine bodyPost_ret (results_none rfl _ _ _) rfl ?_
        exact ⟨⟨_, rfl⟩, .inr ⟨_, ⟨k + 1, by omega, by rw [downTo_succ, ← HM.out]⟩, hJx3⟩⟩
    · obtain rfl : k = xs.length := by omega
      have hm2 : (xs.length : Int) - 1 - xs.length = -1 := by omega
      rw [hm2]
      gi_wp2
      go_end0
      exact ⟨⟨_, rfl⟩, .inl ⟨_, rfl, hJs⟩⟩

/-- A slice of changes: nil, or a row in a block below n₀. -/
def ChSlice (n₀ : Nat) (W : World) (sv : Value) (xs : List Ch) : Prop :=
  (sv = .slice none 0 0 ∧ xs = []) ∨ ∃ b cap, sv = .slice (some ⟨b, 0, none⟩) xs.length cap ∧ b < n₀ ∧ ChRow W b xs
theorem ChSlice.below {n₀ : Nat} {A B : World} (h : Below n₀ A B) {sv : Value} {xs : List Ch} : ChSlice n₀ A sv xs → ChSlice n₀ B sv xs
  | .inl e => .inl e
  | .inr ⟨b, cap, e, hb, hc⟩ => .inr ⟨b, cap, e, hb, hc.below h hb⟩

set_option maxRecDepth 100000 in
set_option maxHeartbeats 1000000 in
theorem backward1_nil_in (F : Fence) (n : Nat) (h7 : F.fn 142) (hro : F.round = none) (l Bs : Nat) (J : List (Nat × Ch) → World → Prop) (W : World) (hBs : W.cell? ⟨Bs, 0, none⟩ = some (.slice none 0 0)) (h0 : J [] W) :
    CallsIn F n Tryz.prog 142 #[.func (.yield l) #[] #[], .pointer (some ⟨Bs, 0, none⟩)] W fun e W' => (∃ v, e = .returned v) ∧ J [] W' := by
  refine callsIn_of_wp Tryz.func142 rfl h7 ?_ hro
  simp only [Tryz.ntmps142, List.size_toArray, List.length_cons, List.length_nil, Nat.reduceAdd, Nat.reduceSub, Array.replicate_succ, Array.replicate_zero, List.push_toArray, List.append_toArray, List.nil_append, List.cons_append]
  gi_wp2
  gi_loopw [3] (fun i wr => i = .int .i64 (-1) ∧ J [] wr) (fun _ _ => 0)
  case atStart => exact ⟨rfl, h0⟩
  case round =>
    obtain ⟨rfl, hJs⟩ := hrel
    gi_wp2
    go_end0
    exact ⟨⟨_, rfl⟩, hJs⟩

set_option maxHeartbeats 1000000 in
theorem backward_in (F : Fence) (n : Nat) (h5 : F.fn 124) (hro : F.round = none) (a : Option Addr) (len cap : Nat) (w : World) :
    CallsIn F n Tryz.prog 124 #[.slice a len cap] w fun e w' => e = .returned (.func (.func 142) #[] #[.pointer (some ⟨w.heap.size, 0, none⟩)]) ∧ w' = w.alloc (.cells #[.slice a len cap] 101) := by
  refine callsIn_of_wp Tryz.func124 rfl h5 ?_ hro
  simp only [Tryz.ntmps124, List.size_toArray, List.length_cons, List.length_nil, Nat.reduceAdd, Nat.reduceSub, Array.replicate_succ, Array.replicate_zero, List.push_toArray, List.append_toArray, List.nil_append, List.cons_append]
  gi_wp2
  go_ret
  exact ⟨rfl, rfl⟩

theorem backward_stops (F : Fence) (n : Nat) (h7 : F.fn 142) (hro : F.round = none) (hn : 1 ≤ n) (Bs n₀ : Nat) (sv : Value) (xs : List Ch) (hreach : xs.length * 64 ≤ 140737488351232) (w : World) (hBs : Bs < w.heap.size) (hn₀ : n₀ ≤ w.heap.size) (hBn : Bs < n₀)
    (hc : w.cell? ⟨Bs, 0, none⟩ = some sv) (hI : ChSlice n₀ w sv xs) :
    SeqStopsK F n Tryz.prog 142 #[.pointer (some ⟨Bs, 0, none⟩)] (fun x : Nat × Ch => #[Value.int .i64 ((x.1 : Nat) : Int), x.2.agg]) (Below n₀) (fun ys => ys = downTo xs xs.length) (fun pre => ∃ k, k ≤ xs.length ∧ pre = downTo xs k) xs.length w := fun l J Jx W hW _ _ hY h0 => by
  have hc' := (hW.cell (p := ⟨Bs, 0, none⟩) hBs).trans hc
  rcases hI.below (hW.mono hn₀) with ⟨rfl, rfl⟩ | ⟨b, cap, rfl, hb, hcs⟩
  · exact (backward1_nil_in F n h7 hro l Bs J W hc' h0).mono fun e W' ⟨he, hj⟩ => ⟨he, .inl ⟨_, rfl, hj⟩⟩
  · exact backward1_in F n h7 hro hn l Bs n₀ b cap xs hreach hb J Jx hY W hc' hcs hBn h0
end Go.Proofs.YtapchoppcaacdaaGreatDoor
