/- Plain: one round of the document's reading of UTF-8, way by way. No program in sight. Then: The walk of the document's package 02: Runes. (Printed by wip/gen_ref02.py.) -/
import Derived.Test.YtgfibdkeaicnfaaGreatDoorFinClientNewQ10
import Derived.Test.YtgfibdkeaicnfaaGreatDoorFinClientNewQ13
import Derived.Deep.QuietTactic
import Derived.BigQuiet
set_option linter.unusedVariables false
namespace Go.Proofs.YtgfibdkeaicnfaaGreatDoor.Pl
def byteAt (s : ByteArray) (p : Nat) : Nat := (s.get! p).toNat
theorem byteAt_lt (s : ByteArray) (p : Nat) : byteAt s p < 256 := UInt8.toNat_lt _
theorem byteAt_eq (s : ByteArray) (q : Nat) (h : q < s.size) : byteAt s q = (s[q]'h).toNat := by
  unfold byteAt
  congr 1
  simp [ByteArray.get!, getElem!_pos, h]
  rfl
theorem step_ref (s : ByteArray) (p : Nat) (hp : p < s.size) : step1 (suf s p) = ref1 (s.size - p) (byteAt s p) (byteAt s (p + 1)) (byteAt s (p + 2)) (byteAt s (p + 3)) := by
  rw [step1_at, Lib.decode_at, ref1_eq _ _ _ _ _ (by omega) (byteAt_lt _ _) (byteAt_lt _ _) (byteAt_lt _ _) (byteAt_lt _ _)]
  rfl
theorem lead1 (b : Nat) (h : b < 128) : leadN b = some (1, 0, b) := by unfold leadN; rw [if_pos h]
theorem lead2 (b : Nat) (h : 192 ≤ b) (h2 : b < 224) : leadN b = some (2, 128, b - 192) := by unfold leadN; rw [if_neg (by omega), if_pos ⟨h, h2⟩]
theorem lead3 (b : Nat) (h : 224 ≤ b) (h2 : b < 240) : leadN b = some (3, 2048, b - 224) := by unfold leadN; rw [if_neg (by omega), if_neg (by omega), if_pos ⟨h, h2⟩]
theorem lead4 (b : Nat) (h : 240 ≤ b) (h2 : b < 248) : leadN b = some (4, 65536, b - 240) := by unfold leadN; rw [if_neg (by omega), if_neg (by omega), if_neg (by omega), if_pos ⟨h, h2⟩]
theorem lead0 (b : Nat) (h : 128 ≤ b ∧ b < 192 ∨ 248 ≤ b) : leadN b = none := by unfold leadN; rw [if_neg (by omega), if_neg (by omega), if_neg (by omega), if_neg (by omega)]
theorem r_none (s : ByteArray) (p : Nat) (hp : p < s.size) (h : leadN (byteAt s p) = none) : step1 (suf s p) = none := by
  rw [step_ref s p hp, ref1, h]; rfl
theorem r_short (s : ByteArray) (p : Nat) (hp : p < s.size) (k l c : Nat) (h : leadN (byteAt s p) = some (k, l, c)) (hs : s.size - p < k) : step1 (suf s p) = none := by
  rw [step_ref s p hp, ref1, h]
  simp only [Option.bind_some]
  rw [if_pos hs]
theorem r_one (s : ByteArray) (p : Nat) (hp : p < s.size) (l c : Nat) (h : leadN (byteAt s p) = some (1, l, c)) (hs : ¬ s.size - p < 1) :
    step1 (suf s p) = if fitsN l c then some (c, 1) else none := by
  rw [step_ref s p hp, ref1, h]
  simp only [Option.bind_some]
  rw [if_neg hs, if_pos trivial]
theorem r_b1 (s : ByteArray) (p : Nat) (hp : p < s.size) (k l c : Nat) (h : leadN (byteAt s p) = some (k, l, c)) (hk : k ≠ 1) (hm : moreN (byteAt s (p + 1)) = false) : step1 (suf s p) = none := by
  rw [step_ref s p hp, ref1, h]
  simp only [Option.bind_some]
  by_cases hs : s.size - p < k
  · rw [if_pos hs]
  · rw [if_neg hs, if_neg hk, hm]; rfl
theorem r_two (s : ByteArray) (p : Nat) (hp : p < s.size) (l c : Nat) (h : leadN (byteAt s p) = some (2, l, c)) (hs : ¬ s.size - p < 2) (hm : moreN (byteAt s (p + 1)) = true) :
    step1 (suf s p) = if fitsN l (c * 64 + byteAt s (p + 1) - 128) then some (c * 64 + byteAt s (p + 1) - 128, 2) else none := by
  rw [step_ref s p hp, ref1, h]
  simp only [Option.bind_some]
  rw [if_neg hs, if_neg (by decide), hm]; rfl
theorem r_b2 (s : ByteArray) (p : Nat) (hp : p < s.size) (k l c : Nat) (h : leadN (byteAt s p) = some (k, l, c)) (hk : k ≠ 1) (hk2 : k ≠ 2) (hm : moreN (byteAt s (p + 2)) = false) : step1 (suf s p) = none := by
  cases hm1 : moreN (byteAt s (p + 1)) with
  | false => exact r_b1 s p hp k l c h hk hm1
  | true =>
    rw [step_ref s p hp, ref1, h]
    simp only [Option.bind_some]
    by_cases hs : s.size - p < k
    · rw [if_pos hs]
    · rw [if_neg hs, if_neg hk, hm1, if_neg (by decide), if_neg hk2, hm]; rfl
theorem r_three (s : ByteArray) (p : Nat) (hp : p < s.size) (l c : Nat) (h : leadN (byteAt s p) = some (3, l, c)) (hs : ¬ s.size - p < 3) (hm : moreN (byteAt s (p + 1)) = true) (hm2 : moreN (byteAt s (p + 2)) = true) :
    step1 (suf s p) = if fitsN l ((c * 64 + byteAt s (p + 1) - 128) * 64 + byteAt s (p + 2) - 128) then some ((c * 64 + byteAt s (p + 1) - 128) * 64 + byteAt s (p + 2) - 128, 3) else none := by
  rw [step_ref s p hp, ref1, h]
  simp only [Option.bind_some]
  rw [if_neg hs, if_neg (by decide), hm, if_neg (by decide), if_neg (by decide), hm2]; rfl
theorem r_b3 (s : ByteArray) (p : Nat) (hp : p < s.size) (l c : Nat) (h : leadN (byteAt s p) = some (4, l, c)) (hm : moreN (byteAt s (p + 3)) = false) : step1 (suf s p) = none := by
  cases hm1 : moreN (byteAt s (p + 1)) with
  | false => exact r_b1 s p hp 4 l c h (by decide) hm1
  | true =>
    cases hm2 : moreN (byteAt s (p + 2)) with
    | false => exact r_b2 s p hp 4 l c h (by decide) (by decide) hm2
    | true =>
      rw [step_ref s p hp, ref1, h]
      simp only [Option.bind_some]
      by_cases hs : s.size - p < 4
      · rw [if_pos hs]
      · rw [if_neg hs, if_neg (by decide), hm1, if_neg (by decide), if_neg (by decide), hm2, if_neg (by decide), if_neg (by decide), hm]; rfl
theorem r_four (s : ByteArray) (p : Nat) (hp : p < s.size) (l c : Nat) (h : leadN (byteAt s p) = some (4, l, c)) (hs : ¬ s.size - p < 4) (hm : moreN (byteAt s (p + 1)) = true) (hm2 : moreN (byteAt s (p + 2)) = true) (hm3 : moreN (byteAt s (p + 3)) = true) :
    step1 (suf s p) = if fitsN l (((c * 64 + byteAt s (p + 1) - 128) * 64 + byteAt s (p + 2) - 128) * 64 + byteAt s (p + 3) - 128) then some (((c * 64 + byteAt s (p + 1) - 128) * 64 + byteAt s (p + 2) - 128) * 64 + byteAt s (p + 3) - 128, 4) else none := by
  rw [step_ref s p hp, ref1, h]
  simp only [Option.bind_some]
  rw [if_neg hs, if_neg (by decide), hm, if_neg (by decide), if_neg (by decide), hm2, if_neg (by decide), if_neg (by decide), hm3]; rfl
theorem next_none (s : ByteArray) (p : Nat) (hp : p < s.size) (r : List Nat) (h : runes s.data.toList = (runesAt s p).map (r ++ ·)) (hs : step1 (suf s p) = none) : runes s.data.toList = none := by
  rw [h]
  unfold runesAt
  rw [runes_step _ (suf_ne s p hp), hs]; rfl
theorem next_some (s : ByteArray) (p : Nat) (hp : p < s.size) (r : List Nat) (h : runes s.data.toList = (runesAt s p).map (r ++ ·)) (c k : Nat) (hs : step1 (suf s p) = some (c, k)) :
    runes s.data.toList = (runesAt s (p + k)).map ((r ++ [c]) ++ ·) ∧ p + k ≤ s.size ∧ 1 ≤ k := by
  have hw := step1_pos' (suf s p) (suf_ne s p hp) (c, k) hs
  rw [suf_length] at hw
  refine ⟨?_, by simp at hw; omega, by simp at hw; omega⟩
  rw [h]
  unfold runesAt
  rw [runes_step _ (suf_ne s p hp), hs]
  simp only [Option.bind_some, Option.map_map]
  rw [suf_drop]
  congr 1
  funext x
  simp
theorem done_some (s : ByteArray) (p : Nat) (hp : ¬ p < s.size) (r : List Nat) (h : runes s.data.toList = (runesAt s p).map (r ++ ·)) : runes s.data.toList = some r := by
  rw [h, runesAt_end s p hp]; simp
end Go.Proofs.YtgfibdkeaicnfaaGreatDoor.Pl
namespace Go.Proofs.YtgfibdkeaicnfaaGreatDoor
open Go.RowKit
theorem A.info3 : (Tryz.prog.info? 3).map (fun i => (i.zero, i.size, i.bytes)) = some (some (.int .i64 0), 1, 8) := by kernel_rfl
theorem quiet_r {w wr : World} {T : TypeId} {v : Value} {n : Nat} {xs : List Value} (h : wr.ownsRow w.heap.size T 1 v n xs) (hB : Below w.heap.size w wr) (k : Nat) : ∃ wq, wq.ownsRow w.heap.size T 1 v n xs ∧ Below w.heap.size w wq ∧ wq = wr.drewN k := ⟨wr.drewN k, h, ⟨hB.os, hB.tape, hB.output, hB.size, hB.block⟩, rfl⟩
def RunesPost (s : ByteArray) (w : World) (e : Ending) (w' : World) : Prop :=
  Grew w w' ∧ ((Pl.runes s.data.toList = none ∧ e = .returned (.tuple #[.slice none 0 0, .bool false])) ∨
    ∃ l v, Pl.runes s.data.toList = some l ∧ e = .returned (.tuple #[v, .bool true]) ∧ w'.ownsRow w.heap.size 3 1 v l.length (l.map fun c => Value.int .i64 (c : Nat)))
theorem runes_bad {s : ByteArray} {w w' : World} {e : Ending} (hB : Below w.heap.size w w') (h : Pl.runes s.data.toList = none) (he : e = .returned (.tuple #[.slice none 0 0, .bool false])) : RunesPost s w e w' :=
  ⟨hB, .inl ⟨h, he⟩⟩
set_option maxRecDepth 100000 in
set_option maxHeartbeats 4000000 in
theorem ref_runes (s : ByteArray) (w : World) (hs : s.size ≤ 16777216) :
    Calls Tryz.prog 49 #[.string s] w (RunesPost s w) := by
  obtain ⟨i0, hi, hz0, hz1, hz2⟩ := info_parts A.info3
  go_enter Tryz.func49, Tryz.ntmps49
  go_wp2
  go_loopw [4, 5] (fun out i w' => ∃ (p : Nat) (r : List Nat), i = .int .i64 p ∧ p ≤ s.size ∧ w'.ownsRow w.heap.size 3 1 out r.length (r.map fun c => Value.int .i64 (c : Nat)) ∧ Below w.heap.size w w' ∧ Hid (Pl.runes s.data.toList = (Pl.runesAt s p).map (r ++ ·)) ∧ r.length ≤ p) (fun _ i _ => s.size - (intOf i).toNat)
  case atStart => exact ⟨0, [], rfl, Nat.zero_le _, World.ownsRow_made (cap := 0) w #[] (Nat.le_refl _) (by unfold maxLen; omega) (by simp), (Below.refl _ _).alloc (Nat.le_refl _) _, by unfold Hid; rw [Pl.runesAt_zero]; simp, Nat.le_refl _⟩
  case round =>
    obtain ⟨p, r, rfl, hle, hown, hB, HR, hrl⟩ := hrel
    by_cases hp : p < s.size
    · have hp' : (p : Int) < (s.size : Int) := by omega
      have hb := UInt8.toNat_lt (s[p]'hp)
      have e0 := hid (Pl.byteAt_eq s p hp)
      by_cases c0 : ((s[p]'hp).toNat : Int) < 128
      · have q : decide ((s.size : Int) - (p : Int) < 1) = false := by simp; omega
        go_wp2_with fail
        go_quiet (fail)
        obtain ⟨wq, hown2, hB2, hwq⟩ := quiet_r hown hB nq
        rw [← hwq]
        clear hwq
        go_wp2_with fail
        refine wp_loop_rounds 1 ?_
        rw [rounds_succ]
        have L := hid (Pl.lead1 _ (show Pl.byteAt s p < 128 by rw [e0.out]; omega))
        have hst : Pl.step1 (Pl.suf s p) = some (Pl.byteAt s p, 1) := by
          rw [Pl.r_one s p hp _ _ L.out (by omega), if_pos]
          simp [Pl.fitsN]; have := Pl.byteAt_lt s p; omega
        rw [e0.out] at hst
        have HST := hid hst
        clear hst
        go_wp2_with (at_builtin; go_loud (refine wpList_append_own _ rfl _ _ 42 rfl w.heap.size 3 i0 (.int .i64 0) 1 8 Tryz.underlying42 hi hz0 hz1 hz2 rfl (by decide) _ _ _ rfl (hown2.alloc _) ⟨wq.heap.size, 0, none⟩ 1 1 [.int .i64 (((s[p]'hp).toNat : Int))] rfl rfl (cell_one_new _ _ _) (ints_oneCell .i64 [(((s[p]'hp).toNat : Int))]) (by unfold maxLen; omega) (by omega) (by have := hB2.size; simp; omega) ?_); intro v' w1 hown1 hgrow1 hnil1)
        obtain ⟨g1, g2, g3⟩ := Pl.next_some s p hp r HR.out ((s[p]'hp).toNat) 1 (HST.out)
        have hB3 : Below w.heap.size w w1 := (hB2.alloc hB2.size _).grown hgrow1 (by have := hB2.size; simp; omega) (fun j hj => (hown2.lt j hj).1)
        go_wp2
        go_roundw
        case rel => exact ⟨p + 1, r ++ [(s[p]'hp).toNat], by go_num, g2, by simpa using hown1, hB3, g1, by simp; omega⟩
        case measure => simp [intOf]; omega
      · by_cases c2 : ((s[p]'hp).toNat : Int) < 192
        · have z1 : ¬ 192 ≤ ((s[p]'hp).toNat : Int) := by omega
          have z2 : ¬ 224 ≤ ((s[p]'hp).toNat : Int) := by omega
          have z3 : ¬ 240 ≤ ((s[p]'hp).toNat : Int) := by omega
          have HST := hid (Pl.r_none s p hp (Pl.lead0 _ (by rw [e0.out]; omega)))
          go_wp2_with fail
          go_quiet (fail)
          obtain ⟨wq, hown2, hB2, hwq⟩ := quiet_r hown hB nq
          rw [← hwq]
          clear hwq
          go_wp2_with fail
          go_ret2
          exact runes_bad hB2 (Pl.next_none s p hp r HR.out (HST.out)) rfl
        · by_cases c3 : ((s[p]'hp).toNat : Int) < 224
          · have c2a : 192 ≤ ((s[p]'hp).toNat : Int) := by omega
            have c2b : ((s[p]'hp).toNat : Int) < 224 := by omega
            have L := hid (Pl.lead2 _ (show 192 ≤ Pl.byteAt s p by rw [e0.out]; omega) (show Pl.byteAt s p < 224 by rw [e0.out]; omega))
            by_cases sh : s.size - p < 2
            · have q : ((s.size : Int) - (p : Int) < 2) := by omega
              have HST := hid (Pl.r_short s p hp _ _ _ L.out (by omega))
              go_wp2_with fail
              go_quiet (fail)
              obtain ⟨wq, hown2, hB2, hwq⟩ := quiet_r hown hB nq
              rw [← hwq]
              clear hwq
              go_wp2_with fail
              go_ret2
              exact runes_bad hB2 (Pl.next_none s p hp r HR.out (HST.out)) rfl
            · have q : decide ((s.size : Int) - (p : Int) < 2) = false := by simp; omega
              have h1 : p + 1 < s.size := by omega
              have h1' : (p : Int) + 1 < (s.size : Int) := by omega
              have hb1 := UInt8.toNat_lt (s[p + 1]'h1)
              have e1 := hid (Pl.byteAt_eq s (p + 1) h1)
              by_cases d1 : ((s[p + 1]'h1).toNat : Int) < 128
              · have M : Pl.moreN (Pl.byteAt s (p + 1)) = false := by rw [e1.out]; simp [Pl.moreN]; omega
                have HST := hid (Pl.r_b1 s p hp _ _ _ L.out (by decide) M)
                clear M
                go_wp2_with fail
                go_quiet (fail)
                obtain ⟨wq, hown2, hB2, hwq⟩ := quiet_r hown hB nq
                rw [← hwq]
                clear hwq
                go_wp2_with fail
                refine wp_loop_rounds 2 ?_
                rw [rounds_succ]
                go_wp2_with fail
                go_ret2
                exact runes_bad hB2 (Pl.next_none s p hp r HR.out (HST.out)) rfl
              · by_cases d1' : 191 < ((s[p + 1]'h1).toNat : Int)
                · have M : Pl.moreN (Pl.byteAt s (p + 1)) = false := by rw [e1.out]; simp [Pl.moreN]; omega
                  have HST := hid (Pl.r_b1 s p hp _ _ _ L.out (by decide) M)
                  clear M
                  go_wp2_with fail
                  go_quiet (fail)
                  obtain ⟨wq, hown2, hB2, hwq⟩ := quiet_r hown hB nq
                  rw [← hwq]
                  clear hwq
                  go_wp2_with fail
                  refine wp_loop_rounds 2 ?_
                  rw [rounds_succ]
                  go_wp2_with fail
                  go_ret2
                  exact runes_bad hB2 (Pl.next_none s p hp r HR.out (HST.out)) rfl
                · have m1 : Pl.moreN (Pl.byteAt s (p + 1)) = true := by rw [e1.out]; simp [Pl.moreN]; omega
                  have M1 := hid m1
                  clear m1
                  by_cases f1 : ((((s[p]'hp).toNat : Int) - 192) * 64 + ((s[p + 1]'h1).toNat : Int) - 128) < 128
                  · have hst : Pl.step1 (Pl.suf s p) = none := by
                      rw [Pl.r_two s p hp _ _ L.out (by omega) M1.out, e0.out, e1.out, if_neg]
                      rw [Pl.fits_iff]; simp only [decide_eq_true_eq]; omega
                    have HST := hid hst
                    clear hst
                    go_wp2_with fail
                    go_quiet (fail)
                    obtain ⟨wq, hown2, hB2, hwq⟩ := quiet_r hown hB nq
                    rw [← hwq]
                    clear hwq
                    go_wp2_with fail
                    refine wp_loop_rounds 2 ?_
                    iterate 2 (rw [rounds_succ]; go_wp2_with fail)
                    go_ret2
                    exact runes_bad hB2 (Pl.next_none s p hp r HR.out (HST.out)) rfl
                  · have f2 : ((((s[p]'hp).toNat : Int) - 192) * 64 + ((s[p + 1]'h1).toNat : Int) - 128) < 55296 := by omega
                    have hst : Pl.step1 (Pl.suf s p) = some ((((s[p]'hp).toNat - 192) * 64 + (s[p + 1]'h1).toNat - 128), 2) := by
                      rw [Pl.r_two s p hp _ _ L.out (by omega) M1.out, e0.out, e1.out, if_pos]
                      rw [Pl.fits_iff]; simp only [decide_eq_true_eq]; omega
                    have HST := hid hst
                    clear hst
                    go_wp2_with fail
                    go_quiet (fail)
                    obtain ⟨wq, hown2, hB2, hwq⟩ := quiet_r hown hB nq
                    rw [← hwq]
                    clear hwq
                    go_wp2_with fail
                    refine wp_loop_rounds 2 ?_
                    rw [rounds_succ]
                    go_wp2_with fail
                    rw [rounds_succ]
                    go_wp2_with (at_builtin; go_loud (refine wpList_append_own _ rfl _ _ 42 rfl w.heap.size 3 i0 (.int .i64 0) 1 8 Tryz.underlying42 hi hz0 hz1 hz2 rfl (by decide) _ _ _ rfl (hown2.alloc _) ⟨wq.heap.size, 0, none⟩ 1 1 [.int .i64 (((((s[p]'hp).toNat : Int) - 192) * 64 + ((s[p + 1]'h1).toNat : Int) - 128))] rfl rfl (cell_one_new _ _ _) (ints_oneCell .i64 [(((((s[p]'hp).toNat : Int) - 192) * 64 + ((s[p + 1]'h1).toNat : Int) - 128))]) (by unfold maxLen; omega) (by omega) (by have := hB2.size; simp; omega) ?_); intro v' w1 hown1 hgrow1 hnil1)
                    obtain ⟨g1, g2, g3⟩ := Pl.next_some s p hp r HR.out ((((s[p]'hp).toNat - 192) * 64 + (s[p + 1]'h1).toNat - 128)) 2 (HST.out)
                    have hB3 : Below w.heap.size w w1 := (hB2.alloc hB2.size _).grown hgrow1 (by have := hB2.size; simp; omega) (fun j hj => (hown2.lt j hj).1)
                    have hce : (((((s[p]'hp).toNat : Int) - 192) * 64 + ((s[p + 1]'h1).toNat : Int) - 128) : Int) = (((((s[p]'hp).toNat - 192) * 64 + (s[p + 1]'h1).toNat - 128) : Nat) : Int) := by omega
                    have HO := hid hown1
                    clear hown1
                    have HCE := hid hce
                    clear hce
                    go_wp2
                    go_roundw
                    case rel => exact ⟨p + 2, r ++ [(((s[p]'hp).toNat - 192) * 64 + (s[p + 1]'h1).toNat - 128)], by go_num, g2, by have := HO.out; rw [HCE.out] at this; simpa using this, hB3, g1, by simp; omega⟩
                    case measure => simp [intOf]; omega
          · by_cases c4 : ((s[p]'hp).toNat : Int) < 240
            · have c3a : 224 ≤ ((s[p]'hp).toNat : Int) := by omega
              have c3b : ((s[p]'hp).toNat : Int) < 240 := by omega
              have L := hid (Pl.lead3 _ (show 224 ≤ Pl.byteAt s p by rw [e0.out]; omega) (show Pl.byteAt s p < 240 by rw [e0.out]; omega))
              by_cases sh : s.size - p < 3
              · have q : ((s.size : Int) - (p : Int) < 3) := by omega
                have HST := hid (Pl.r_short s p hp _ _ _ L.out (by omega))
                go_wp2_with fail
                go_quiet (fail)
                obtain ⟨wq, hown2, hB2, hwq⟩ := quiet_r hown hB nq
                rw [← hwq]
                clear hwq
                go_wp2_with fail
                go_ret2
                exact runes_bad hB2 (Pl.next_none s p hp r HR.out (HST.out)) rfl
              · have q : decide ((s.size : Int) - (p : Int) < 3) = false := by simp; omega
                have h1 : p + 1 < s.size := by omega
                have h1' : (p : Int) + 1 < (s.size : Int) := by omega
                have hb1 := UInt8.toNat_lt (s[p + 1]'h1)
                have e1 := hid (Pl.byteAt_eq s (p + 1) h1)
                by_cases d1 : ((s[p + 1]'h1).toNat : Int) < 128
                · have M : Pl.moreN (Pl.byteAt s (p + 1)) = false := by rw [e1.out]; simp [Pl.moreN]; omega
                  have HST := hid (Pl.r_b1 s p hp _ _ _ L.out (by decide) M)
                  clear M
                  go_wp2_with fail
                  go_quiet (fail)
                  obtain ⟨wq, hown2, hB2, hwq⟩ := quiet_r hown hB nq
                  rw [← hwq]
                  clear hwq
                  go_wp2_with fail
                  refine wp_loop_rounds 2 ?_
                  rw [rounds_succ]
                  go_wp2_with fail
                  go_ret2
                  exact runes_bad hB2 (Pl.next_none s p hp r HR.out (HST.out)) rfl
                · by_cases d1' : 191 < ((s[p + 1]'h1).toNat : Int)
                  · have M : Pl.moreN (Pl.byteAt s (p + 1)) = false := by rw [e1.out]; simp [Pl.moreN]; omega
                    have HST := hid (Pl.r_b1 s p hp _ _ _ L.out (by decide) M)
                    clear M
                    go_wp2_with fail
                    go_quiet (fail)
                    obtain ⟨wq, hown2, hB2, hwq⟩ := quiet_r hown hB nq
                    rw [← hwq]
                    clear hwq
                    go_wp2_with fail
                    refine wp_loop_rounds 2 ?_
                    rw [rounds_succ]
                    go_wp2_with fail
                    go_ret2
                    exact runes_bad hB2 (Pl.next_none s p hp r HR.out (HST.out)) rfl
                  · have m1 : Pl.moreN (Pl.byteAt s (p + 1)) = true := by rw [e1.out]; simp [Pl.moreN]; omega
                    have M1 := hid m1
                    clear m1
                    have h2 : p + 2 < s.size := by omega
                    have h2' : (p : Int) + 2 < (s.size : Int) := by omega
                    have hb2 := UInt8.toNat_lt (s[p + 2]'h2)
                    have e2 := hid (Pl.byteAt_eq s (p + 2) h2)
                    by_cases d2 : ((s[p + 2]'h2).toNat : Int) < 128
                    · have M : Pl.moreN (Pl.byteAt s (p + 2)) = false := by rw [e2.out]; simp [Pl.moreN]; omega
                      have HST := hid (Pl.r_b2 s p hp _ _ _ L.out (by decide) (by decide) M)
                      clear M
                      go_wp2_with fail
                      go_quiet (fail)
                      obtain ⟨wq, hown2, hB2, hwq⟩ := quiet_r hown hB nq
                      rw [← hwq]
                      clear hwq
                      go_wp2_with fail
                      refine wp_loop_rounds 3 ?_
                      iterate 2 (rw [rounds_succ]; go_wp2_with fail)
                      go_ret2
                      exact runes_bad hB2 (Pl.next_none s p hp r HR.out (HST.out)) rfl
                    · by_cases d2' : 191 < ((s[p + 2]'h2).toNat : Int)
                      · have M : Pl.moreN (Pl.byteAt s (p + 2)) = false := by rw [e2.out]; simp [Pl.moreN]; omega
                        have HST := hid (Pl.r_b2 s p hp _ _ _ L.out (by decide) (by decide) M)
                        clear M
                        go_wp2_with fail
                        go_quiet (fail)
                        obtain ⟨wq, hown2, hB2, hwq⟩ := quiet_r hown hB nq
                        rw [← hwq]
                        clear hwq
                        go_wp2_with fail
                        refine wp_loop_rounds 3 ?_
                        iterate 2 (rw [rounds_succ]; go_wp2_with fail)
                        go_ret2
                        exact runes_bad hB2 (Pl.next_none s p hp r HR.out (HST.out)) rfl
                      · have m2 : Pl.moreN (Pl.byteAt s (p + 2)) = true := by rw [e2.out]; simp [Pl.moreN]; omega
                        have M2 := hid m2
                        clear m2
                        by_cases f1 : (((((s[p]'hp).toNat : Int) - 224) * 64 + ((s[p + 1]'h1).toNat : Int) - 128) * 64 + ((s[p + 2]'h2).toNat : Int) - 128) < 2048
                        · have hst : Pl.step1 (Pl.suf s p) = none := by
                            rw [Pl.r_three s p hp _ _ L.out (by omega) M1.out M2.out, e0.out, e1.out, e2.out, if_neg]
                            rw [Pl.fits_iff]; simp only [decide_eq_true_eq]; omega
                          have HST := hid hst
                          clear hst
                          go_wp2_with fail
                          go_quiet (fail)
                          obtain ⟨wq, hown2, hB2, hwq⟩ := quiet_r hown hB nq
                          rw [← hwq]
                          clear hwq
                          go_wp2_with fail
                          refine wp_loop_rounds 3 ?_
                          iterate 3 (rw [rounds_succ]; go_wp2_with fail)
                          go_ret2
                          exact runes_bad hB2 (Pl.next_none s p hp r HR.out (HST.out)) rfl
                        · by_cases f2 : 55296 ≤ (((((s[p]'hp).toNat : Int) - 224) * 64 + ((s[p + 1]'h1).toNat : Int) - 128) * 64 + ((s[p + 2]'h2).toNat : Int) - 128)
                          · by_cases f3 : (((((s[p]'hp).toNat : Int) - 224) * 64 + ((s[p + 1]'h1).toNat : Int) - 128) * 64 + ((s[p + 2]'h2).toNat : Int) - 128) ≤ 57343
                            · have f4 : ¬ 1114111 < (((((s[p]'hp).toNat : Int) - 224) * 64 + ((s[p + 1]'h1).toNat : Int) - 128) * 64 + ((s[p + 2]'h2).toNat : Int) - 128) := by omega
                              have hst : Pl.step1 (Pl.suf s p) = none := by
                                rw [Pl.r_three s p hp _ _ L.out (by omega) M1.out M2.out, e0.out, e1.out, e2.out, if_neg]
                                rw [Pl.fits_iff]; simp only [decide_eq_true_eq]; omega
                              have HST := hid hst
                              clear hst
                              go_wp2_with fail
                              go_quiet (fail)
                              obtain ⟨wq, hown2, hB2, hwq⟩ := quiet_r hown hB nq
                              rw [← hwq]
                              clear hwq
                              go_wp2_with fail
                              refine wp_loop_rounds 3 ?_
                              iterate 3 (rw [rounds_succ]; go_wp2_with fail)
                              go_ret2
                              exact runes_bad hB2 (Pl.next_none s p hp r HR.out (HST.out)) rfl
                            · have f4 : ¬ 1114111 < (((((s[p]'hp).toNat : Int) - 224) * 64 + ((s[p + 1]'h1).toNat : Int) - 128) * 64 + ((s[p + 2]'h2).toNat : Int) - 128) := by omega
                              have hst : Pl.step1 (Pl.suf s p) = some (((((s[p]'hp).toNat - 224) * 64 + (s[p + 1]'h1).toNat - 128) * 64 + (s[p + 2]'h2).toNat - 128), 3) := by
                                rw [Pl.r_three s p hp _ _ L.out (by omega) M1.out M2.out, e0.out, e1.out, e2.out, if_pos]
                                rw [Pl.fits_iff]; simp only [decide_eq_true_eq]; omega
                              have HST := hid hst
                              clear hst
                              go_wp2_with fail
                              go_quiet (fail)
                              obtain ⟨wq, hown2, hB2, hwq⟩ := quiet_r hown hB nq
                              rw [← hwq]
                              clear hwq
                              go_wp2_with fail
                              refine wp_loop_rounds 3 ?_
                              iterate 2 (rw [rounds_succ]; go_wp2_with fail)
                              rw [rounds_succ]
                              go_wp2_with (at_builtin; go_loud (refine wpList_append_own _ rfl _ _ 42 rfl w.heap.size 3 i0 (.int .i64 0) 1 8 Tryz.underlying42 hi hz0 hz1 hz2 rfl (by decide) _ _ _ rfl (hown2.alloc _) ⟨wq.heap.size, 0, none⟩ 1 1 [.int .i64 ((((((s[p]'hp).toNat : Int) - 224) * 64 + ((s[p + 1]'h1).toNat : Int) - 128) * 64 + ((s[p + 2]'h2).toNat : Int) - 128))] rfl rfl (cell_one_new _ _ _) (ints_oneCell .i64 [((((((s[p]'hp).toNat : Int) - 224) * 64 + ((s[p + 1]'h1).toNat : Int) - 128) * 64 + ((s[p + 2]'h2).toNat : Int) - 128))]) (by unfold maxLen; omega) (by omega) (by have := hB2.size; simp; omega) ?_); intro v' w1 hown1 hgrow1 hnil1)
                              obtain ⟨g1, g2, g3⟩ := Pl.next_some s p hp r HR.out (((((s[p]'hp).toNat - 224) * 64 + (s[p + 1]'h1).toNat - 128) * 64 + (s[p + 2]'h2).toNat - 128)) 3 (HST.out)
                              have hB3 : Below w.heap.size w w1 := (hB2.alloc hB2.size _).grown hgrow1 (by have := hB2.size; simp; omega) (fun j hj => (hown2.lt j hj).1)
                              have hce : ((((((s[p]'hp).toNat : Int) - 224) * 64 + ((s[p + 1]'h1).toNat : Int) - 128) * 64 + ((s[p + 2]'h2).toNat : Int) - 128) : Int) = ((((((s[p]'hp).toNat - 224) * 64 + (s[p + 1]'h1).toNat - 128) * 64 + (s[p + 2]'h2).toNat - 128) : Nat) : Int) := by omega
                              have HO := hid hown1
                              clear hown1
                              have HCE := hid hce
                              clear hce
                              go_wp2
                              go_roundw
                              case rel => exact ⟨p + 3, r ++ [((((s[p]'hp).toNat - 224) * 64 + (s[p + 1]'h1).toNat - 128) * 64 + (s[p + 2]'h2).toNat - 128)], by go_num, g2, by have := HO.out; rw [HCE.out] at this; simpa using this, hB3, g1, by simp; omega⟩
                              case measure => simp [intOf]; omega
                          · have f4 : ¬ 1114111 < (((((s[p]'hp).toNat : Int) - 224) * 64 + ((s[p + 1]'h1).toNat : Int) - 128) * 64 + ((s[p + 2]'h2).toNat : Int) - 128) := by omega
                            have hst : Pl.step1 (Pl.suf s p) = some (((((s[p]'hp).toNat - 224) * 64 + (s[p + 1]'h1).toNat - 128) * 64 + (s[p + 2]'h2).toNat - 128), 3) := by
                              rw [Pl.r_three s p hp _ _ L.out (by omega) M1.out M2.out, e0.out, e1.out, e2.out, if_pos]
                              rw [Pl.fits_iff]; simp only [decide_eq_true_eq]; omega
                            have HST := hid hst
                            clear hst
                            go_wp2_with fail
                            go_quiet (fail)
                            obtain ⟨wq, hown2, hB2, hwq⟩ := quiet_r hown hB nq
                            rw [← hwq]
                            clear hwq
                            go_wp2_with fail
                            refine wp_loop_rounds 3 ?_
                            iterate 2 (rw [rounds_succ]; go_wp2_with fail)
                            rw [rounds_succ]
                            go_wp2_with (at_builtin; go_loud (refine wpList_append_own _ rfl _ _ 42 rfl w.heap.size 3 i0 (.int .i64 0) 1 8 Tryz.underlying42 hi hz0 hz1 hz2 rfl (by decide) _ _ _ rfl (hown2.alloc _) ⟨wq.heap.size, 0, none⟩ 1 1 [.int .i64 ((((((s[p]'hp).toNat : Int) - 224) * 64 + ((s[p + 1]'h1).toNat : Int) - 128) * 64 + ((s[p + 2]'h2).toNat : Int) - 128))] rfl rfl (cell_one_new _ _ _) (ints_oneCell .i64 [((((((s[p]'hp).toNat : Int) - 224) * 64 + ((s[p + 1]'h1).toNat : Int) - 128) * 64 + ((s[p + 2]'h2).toNat : Int) - 128))]) (by unfold maxLen; omega) (by omega) (by have := hB2.size; simp; omega) ?_); intro v' w1 hown1 hgrow1 hnil1)
                            obtain ⟨g1, g2, g3⟩ := Pl.next_some s p hp r HR.out (((((s[p]'hp).toNat - 224) * 64 + (s[p + 1]'h1).toNat - 128) * 64 + (s[p + 2]'h2).toNat - 128)) 3 (HST.out)
                            have hB3 : Below w.heap.size w w1 := (hB2.alloc hB2.size _).grown hgrow1 (by have := hB2.size; simp; omega) (fun j hj => (hown2.lt j hj).1)
                            have hce : ((((((s[p]'hp).toNat : Int) - 224) * 64 + ((s[p + 1]'h1).toNat : Int) - 128) * 64 + ((s[p + 2]'h2).toNat : Int) - 128) : Int) = ((((((s[p]'hp).toNat - 224) * 64 + (s[p + 1]'h1).toNat - 128) * 64 + (s[p + 2]'h2).toNat - 128) : Nat) : Int) := by omega
                            have HO := hid hown1
                            clear hown1
                            have HCE := hid hce
                            clear hce
                            go_wp2
                            go_roundw
                            case rel => exact ⟨p + 3, r ++ [((((s[p]'hp).toNat - 224) * 64 + (s[p + 1]'h1).toNat - 128) * 64 + (s[p + 2]'h2).toNat - 128)], by go_num, g2, by have := HO.out; rw [HCE.out] at this; simpa using this, hB3, g1, by simp; omega⟩
                            case measure => simp [intOf]; omega
            · by_cases c5 : ((s[p]'hp).toNat : Int) < 248
              · have c4a : 240 ≤ ((s[p]'hp).toNat : Int) := by omega
                have c4b : ((s[p]'hp).toNat : Int) < 248 := by omega
                have L := hid (Pl.lead4 _ (show 240 ≤ Pl.byteAt s p by rw [e0.out]; omega) (show Pl.byteAt s p < 248 by rw [e0.out]; omega))
                by_cases sh : s.size - p < 4
                · have q : ((s.size : Int) - (p : Int) < 4) := by omega
                  have HST := hid (Pl.r_short s p hp _ _ _ L.out (by omega))
                  go_wp2_with fail
                  go_quiet (fail)
                  obtain ⟨wq, hown2, hB2, hwq⟩ := quiet_r hown hB nq
                  rw [← hwq]
                  clear hwq
                  go_wp2_with fail
                  go_ret2
                  exact runes_bad hB2 (Pl.next_none s p hp r HR.out (HST.out)) rfl
                · have q : decide ((s.size : Int) - (p : Int) < 4) = false := by simp; omega
                  have h1 : p + 1 < s.size := by omega
                  have h1' : (p : Int) + 1 < (s.size : Int) := by omega
                  have hb1 := UInt8.toNat_lt (s[p + 1]'h1)
                  have e1 := hid (Pl.byteAt_eq s (p + 1) h1)
                  by_cases d1 : ((s[p + 1]'h1).toNat : Int) < 128
                  · have M : Pl.moreN (Pl.byteAt s (p + 1)) = false := by rw [e1.out]; simp [Pl.moreN]; omega
                    have HST := hid (Pl.r_b1 s p hp _ _ _ L.out (by decide) M)
                    clear M
                    go_wp2_with fail
                    go_quiet (fail)
                    obtain ⟨wq, hown2, hB2, hwq⟩ := quiet_r hown hB nq
                    rw [← hwq]
                    clear hwq
                    go_wp2_with fail
                    refine wp_loop_rounds 2 ?_
                    rw [rounds_succ]
                    go_wp2_with fail
                    go_ret2
                    exact runes_bad hB2 (Pl.next_none s p hp r HR.out (HST.out)) rfl
                  · by_cases d1' : 191 < ((s[p + 1]'h1).toNat : Int)
                    · have M : Pl.moreN (Pl.byteAt s (p + 1)) = false := by rw [e1.out]; simp [Pl.moreN]; omega
                      have HST := hid (Pl.r_b1 s p hp _ _ _ L.out (by decide) M)
                      clear M
                      go_wp2_with fail
                      go_quiet (fail)
                      obtain ⟨wq, hown2, hB2, hwq⟩ := quiet_r hown hB nq
                      rw [← hwq]
                      clear hwq
                      go_wp2_with fail
                      refine wp_loop_rounds 2 ?_
                      rw [rounds_succ]
                      go_wp2_with fail
                      go_ret2
                      exact runes_bad hB2 (Pl.next_none s p hp r HR.out (HST.out)) rfl
                    · have m1 : Pl.moreN (Pl.byteAt s (p + 1)) = true := by rw [e1.out]; simp [Pl.moreN]; omega
                      have M1 := hid m1
                      clear m1
                      have h2 : p + 2 < s.size := by omega
                      have h2' : (p : Int) + 2 < (s.size : Int) := by omega
                      have hb2 := UInt8.toNat_lt (s[p + 2]'h2)
                      have e2 := hid (Pl.byteAt_eq s (p + 2) h2)
                      by_cases d2 : ((s[p + 2]'h2).toNat : Int) < 128
                      · have M : Pl.moreN (Pl.byteAt s (p + 2)) = false := by rw [e2.out]; simp [Pl.moreN]; omega
                        have HST := hid (Pl.r_b2 s p hp _ _ _ L.out (by decide) (by decide) M)
                        clear M
                        go_wp2_with fail
                        go_quiet (fail)
                        obtain ⟨wq, hown2, hB2, hwq⟩ := quiet_r hown hB nq
                        rw [← hwq]
                        clear hwq
                        go_wp2_with fail
                        refine wp_loop_rounds 3 ?_
                        iterate 2 (rw [rounds_succ]; go_wp2_with fail)
                        go_ret2
                        exact runes_bad hB2 (Pl.next_none s p hp r HR.out (HST.out)) rfl
                      · by_cases d2' : 191 < ((s[p + 2]'h2).toNat : Int)
                        · have M : Pl.moreN (Pl.byteAt s (p + 2)) = false := by rw [e2.out]; simp [Pl.moreN]; omega
                          have HST := hid (Pl.r_b2 s p hp _ _ _ L.out (by decide) (by decide) M)
                          clear M
                          go_wp2_with fail
                          go_quiet (fail)
                          obtain ⟨wq, hown2, hB2, hwq⟩ := quiet_r hown hB nq
                          rw [← hwq]
                          clear hwq
                          go_wp2_with fail
                          refine wp_loop_rounds 3 ?_
                          iterate 2 (rw [rounds_succ]; go_wp2_with fail)
                          go_ret2
                          exact runes_bad hB2 (Pl.next_none s p hp r HR.out (HST.out)) rfl
                        · have m2 : Pl.moreN (Pl.byteAt s (p + 2)) = true := by rw [e2.out]; simp [Pl.moreN]; omega
                          have M2 := hid m2
                          clear m2
                          have h3 : p + 3 < s.size := by omega
                          have h3' : (p : Int) + 3 < (s.size : Int) := by omega
                          have hb3 := UInt8.toNat_lt (s[p + 3]'h3)
                          have e3 := hid (Pl.byteAt_eq s (p + 3) h3)
                          by_cases d3 : ((s[p + 3]'h3).toNat : Int) < 128
                          · have M : Pl.moreN (Pl.byteAt s (p + 3)) = false := by rw [e3.out]; simp [Pl.moreN]; omega
                            have HST := hid (Pl.r_b3 s p hp _ _ L.out M)
                            clear M
                            go_wp2_with fail
                            go_quiet (fail)
                            obtain ⟨wq, hown2, hB2, hwq⟩ := quiet_r hown hB nq
                            rw [← hwq]
                            clear hwq
                            go_wp2_with fail
                            refine wp_loop_rounds 4 ?_
                            iterate 3 (rw [rounds_succ]; go_wp2_with fail)
                            go_ret2
                            exact runes_bad hB2 (Pl.next_none s p hp r HR.out (HST.out)) rfl
                          · by_cases d3' : 191 < ((s[p + 3]'h3).toNat : Int)
                            · have M : Pl.moreN (Pl.byteAt s (p + 3)) = false := by rw [e3.out]; simp [Pl.moreN]; omega
                              have HST := hid (Pl.r_b3 s p hp _ _ L.out M)
                              clear M
                              go_wp2_with fail
                              go_quiet (fail)
                              obtain ⟨wq, hown2, hB2, hwq⟩ := quiet_r hown hB nq
                              rw [← hwq]
                              clear hwq
                              go_wp2_with fail
                              refine wp_loop_rounds 4 ?_
                              iterate 3 (rw [rounds_succ]; go_wp2_with fail)
                              go_ret2
                              exact runes_bad hB2 (Pl.next_none s p hp r HR.out (HST.out)) rfl
                            · have m3 : Pl.moreN (Pl.byteAt s (p + 3)) = true := by rw [e3.out]; simp [Pl.moreN]; omega
                              have M3 := hid m3
                              clear m3
                              by_cases f1 : ((((((s[p]'hp).toNat : Int) - 240) * 64 + ((s[p + 1]'h1).toNat : Int) - 128) * 64 + ((s[p + 2]'h2).toNat : Int) - 128) * 64 + ((s[p + 3]'h3).toNat : Int) - 128) < 65536
                              · have hst : Pl.step1 (Pl.suf s p) = none := by
                                  rw [Pl.r_four s p hp _ _ L.out (by omega) M1.out M2.out M3.out, e0.out, e1.out, e2.out, e3.out, if_neg]
                                  rw [Pl.fits_iff]; simp only [decide_eq_true_eq]; omega
                                have HST := hid hst
                                clear hst
                                go_wp2_with fail
                                go_quiet (fail)
                                obtain ⟨wq, hown2, hB2, hwq⟩ := quiet_r hown hB nq
                                rw [← hwq]
                                clear hwq
                                go_wp2_with fail
                                refine wp_loop_rounds 4 ?_
                                iterate 4 (rw [rounds_succ]; go_wp2_with fail)
                                go_ret2
                                exact runes_bad hB2 (Pl.next_none s p hp r HR.out (HST.out)) rfl
                              · by_cases f2 : 1114111 < ((((((s[p]'hp).toNat : Int) - 240) * 64 + ((s[p + 1]'h1).toNat : Int) - 128) * 64 + ((s[p + 2]'h2).toNat : Int) - 128) * 64 + ((s[p + 3]'h3).toNat : Int) - 128)
                                · have hst : Pl.step1 (Pl.suf s p) = none := by
                                    rw [Pl.r_four s p hp _ _ L.out (by omega) M1.out M2.out M3.out, e0.out, e1.out, e2.out, e3.out, if_neg]
                                    rw [Pl.fits_iff]; simp only [decide_eq_true_eq]; omega
                                  have HST := hid hst
                                  clear hst
                                  go_wp2_with fail
                                  go_quiet (fail)
                                  obtain ⟨wq, hown2, hB2, hwq⟩ := quiet_r hown hB nq
                                  rw [← hwq]
                                  clear hwq
                                  go_wp2_with fail
                                  refine wp_loop_rounds 4 ?_
                                  iterate 4 (rw [rounds_succ]; go_wp2_with fail)
                                  go_ret2
                                  exact runes_bad hB2 (Pl.next_none s p hp r HR.out (HST.out)) rfl
                                · have f3 : 55296 ≤ ((((((s[p]'hp).toNat : Int) - 240) * 64 + ((s[p + 1]'h1).toNat : Int) - 128) * 64 + ((s[p + 2]'h2).toNat : Int) - 128) * 64 + ((s[p + 3]'h3).toNat : Int) - 128) := by omega
                                  have f4 : ¬ ((((((s[p]'hp).toNat : Int) - 240) * 64 + ((s[p + 1]'h1).toNat : Int) - 128) * 64 + ((s[p + 2]'h2).toNat : Int) - 128) * 64 + ((s[p + 3]'h3).toNat : Int) - 128) ≤ 57343 := by omega
                                  have hst : Pl.step1 (Pl.suf s p) = some ((((((s[p]'hp).toNat - 240) * 64 + (s[p + 1]'h1).toNat - 128) * 64 + (s[p + 2]'h2).toNat - 128) * 64 + (s[p + 3]'h3).toNat - 128), 4) := by
                                    rw [Pl.r_four s p hp _ _ L.out (by omega) M1.out M2.out M3.out, e0.out, e1.out, e2.out, e3.out, if_pos]
                                    rw [Pl.fits_iff]; simp only [decide_eq_true_eq]; omega
                                  have HST := hid hst
                                  clear hst
                                  go_wp2_with fail
                                  go_quiet (fail)
                                  obtain ⟨wq, hown2, hB2, hwq⟩ := quiet_r hown hB nq
                                  rw [← hwq]
                                  clear hwq
                                  go_wp2_with fail
                                  refine wp_loop_rounds 4 ?_
                                  iterate 3 (rw [rounds_succ]; go_wp2_with fail)
                                  rw [rounds_succ]
                                  go_wp2_with (at_builtin; go_loud (refine wpList_append_own _ rfl _ _ 42 rfl w.heap.size 3 i0 (.int .i64 0) 1 8 Tryz.underlying42 hi hz0 hz1 hz2 rfl (by decide) _ _ _ rfl (hown2.alloc _) ⟨wq.heap.size, 0, none⟩ 1 1 [.int .i64 (((((((s[p]'hp).toNat : Int) - 240) * 64 + ((s[p + 1]'h1).toNat : Int) - 128) * 64 + ((s[p + 2]'h2).toNat : Int) - 128) * 64 + ((s[p + 3]'h3).toNat : Int) - 128))] rfl rfl (cell_one_new _ _ _) (ints_oneCell .i64 [(((((((s[p]'hp).toNat : Int) - 240) * 64 + ((s[p + 1]'h1).toNat : Int) - 128) * 64 + ((s[p + 2]'h2).toNat : Int) - 128) * 64 + ((s[p + 3]'h3).toNat : Int) - 128))]) (by unfold maxLen; omega) (by omega) (by have := hB2.size; simp; omega) ?_); intro v' w1 hown1 hgrow1 hnil1)
                                  obtain ⟨g1, g2, g3⟩ := Pl.next_some s p hp r HR.out ((((((s[p]'hp).toNat - 240) * 64 + (s[p + 1]'h1).toNat - 128) * 64 + (s[p + 2]'h2).toNat - 128) * 64 + (s[p + 3]'h3).toNat - 128)) 4 (HST.out)
                                  have hB3 : Below w.heap.size w w1 := (hB2.alloc hB2.size _).grown hgrow1 (by have := hB2.size; simp; omega) (fun j hj => (hown2.lt j hj).1)
                                  have hce : (((((((s[p]'hp).toNat : Int) - 240) * 64 + ((s[p + 1]'h1).toNat : Int) - 128) * 64 + ((s[p + 2]'h2).toNat : Int) - 128) * 64 + ((s[p + 3]'h3).toNat : Int) - 128) : Int) = (((((((s[p]'hp).toNat - 240) * 64 + (s[p + 1]'h1).toNat - 128) * 64 + (s[p + 2]'h2).toNat - 128) * 64 + (s[p + 3]'h3).toNat - 128) : Nat) : Int) := by omega
                                  have HO := hid hown1
                                  clear hown1
                                  have HCE := hid hce
                                  clear hce
                                  go_wp2
                                  go_roundw
                                  case rel => exact ⟨p + 4, r ++ [(((((s[p]'hp).toNat - 240) * 64 + (s[p + 1]'h1).toNat - 128) * 64 + (s[p + 2]'h2).toNat - 128) * 64 + (s[p + 3]'h3).toNat - 128)], by go_num, g2, by have := HO.out; rw [HCE.out] at this; simpa using this, hB3, g1, by simp; omega⟩
                                  case measure => simp [intOf]; omega
              · have HST := hid (Pl.r_none s p hp (Pl.lead0 _ (by rw [e0.out]; omega)))
                go_wp2_with fail
                go_quiet (fail)
                obtain ⟨wq, hown2, hB2, hwq⟩ := quiet_r hown hB nq
                rw [← hwq]
                clear hwq
                go_wp2_with fail
                go_ret2
                exact runes_bad hB2 (Pl.next_none s p hp r HR.out (HST.out)) rfl
    · have HD := hid (Pl.done_some s p hp r HR.out)
      go_wp2
      go_ret2
      exact ⟨hB, .inr ⟨r, _, HD.out, rfl, hown⟩⟩
end Go.Proofs.YtgfibdkeaicnfaaGreatDoor
