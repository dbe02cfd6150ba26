/- Ent1, IdxOpBad, Ent3: one text. -/
import Derived.Test.YtbdagllflamabaaGreatDoorFinWatchSpansQ2
import Derived.Test.YtbdagllflamabaaGreatDoorFinWatchSpansQ3
import Derived.Deep.QuietTactic
import Derived.BigQuiet
import Derived.Test.YtbdagllflamabaaGreatDoorFinWatchSpansQ1
namespace Go.Proofs.YtbdagllflamabaaGreatDoor
open Go.RowKit
attribute [local go_sem] Oper.semAt_some
namespace Pl
def withinB (n most : Int) : Bool := decide (1 ≤ n) && decide (n ≤ most)
end Pl
theorem within_any (n most : Int) (w : World) : Calls Tryz.prog 260 #[.int .i64 n, .int .i64 most] w fun e w' => e = .returned (.bool (Pl.withinB n most)) ∧ w = w' := by
  by_cases h1 : 1 ≤ n
  · by_cases h2 : n ≤ most
    · have e : Pl.withinB n most = true := by unfold Pl.withinB; rw [decide_eq_true h1, decide_eq_true h2]; rfl
      rw [e]; clear e
      go_enter Tryz.func260, Tryz.ntmps260
      go_wp2_with fail
      go_ret
      exact ⟨rfl, rfl⟩
    · have e : Pl.withinB n most = false := by unfold Pl.withinB; rw [decide_eq_true h1, decide_eq_false h2]; rfl
      rw [e]; clear e
      go_enter Tryz.func260, Tryz.ntmps260
      go_wp2_with fail
      go_ret
      exact ⟨rfl, rfl⟩
  · have e : Pl.withinB n most = false := by unfold Pl.withinB; rw [decide_eq_false h1]; rfl
    rw [e]; clear e
    go_enter Tryz.func260, Tryz.ntmps260
    go_wp2_with fail
    go_ret
    exact ⟨rfl, rfl⟩
theorem shard_any (n : Int) (w : World) : Calls Tryz.prog 259 #[.int .i64 n] w fun e w' => e = .returned (.bool (Pl.withinB n 12)) ∧ w = w' := by
  go_enter Tryz.func259, Tryz.ntmps259
  go_wp2_with fail
  refine (within_any _ _ _).mono ?_
  rintro e w' ⟨rfl, rfl⟩
  go_wp2_with fail
  go_ret
  exact ⟨rfl, rfl⟩
structure KeyT (S : Nat → Bool) : Prop where
  h2 : S 2 = true
  h3 : S 3 = true
  h6 : S 6 = true
  h7 : S 7 = true
def OpR.agg (o : OpR) : Value := .agg #[.int .i64 o.kind, .string o.key, .string o.val, .string o.old, .int .i64 o.ver]
namespace Pl
def opRightB (o : OpR) : Bool :=
  if keyN o.key ≠ 0 then false
  else if o.kind = 1 then decide (o.val.size ≤ 64)
  else if o.kind = 2 then true
  else if o.kind = 3 then decide (o.val.size ≤ 64) && decide (o.old.size ≤ 64)
  else if o.kind = 4 then decide (0 ≤ o.ver) && decide (o.ver ≤ 4096)
  else false
end Pl
set_option maxRecDepth 100000 in
set_option maxHeartbeats 2000000 in
theorem opRight_any {S : Nat → Bool} (hS : KeyT S) (E : Nat → Addr) (o : OpR) (w : World) (hE : Errs S E w) (hk : o.key.size ≤ 140737488351232) (hv : o.val.size ≤ 9223372036854775807) (ho : o.old.size ≤ 9223372036854775807) :
    Calls Tryz.prog 258 #[o.agg] w fun e w' => e = .returned (.bool (Pl.opRightB o)) ∧ Grew w w' := by
  obtain ⟨n, k, v, d, r⟩ := o
  dsimp only at hk hv ho
  have HK := hid (fun W (g : Grew w W) => key_any S E hS.h2 hS.h3 hS.h6 hS.h7 k W hk (hE.grew g))
  clear hE
  unfold OpR.agg
  dsimp only
  by_cases hkn : Pl.keyN k = 0
  · rw [hkn] at HK
    have e0 : ∀ b, Pl.opRightB ⟨n, k, v, d, r⟩ = b ↔ (if n = 1 then decide (v.size ≤ 64) else if n = 2 then true else if n = 3 then decide (v.size ≤ 64) && decide (d.size ≤ 64) else if n = 4 then decide (0 ≤ r) && decide (r ≤ 4096) else false) = b := fun b => by
      unfold Pl.opRightB; rw [if_neg (by simp [hkn])]
    clear hkn
    by_cases n1 : n = 1
    · have HF : Hid (Pl.opRightB ⟨n, k, v, d, r⟩ = decide ((v.size : Int) ≤ 64)) := by
        unfold Hid
        rw [e0, if_pos n1, Bool.eq_iff_iff]; simp; omega
      have b1 : (n == 1) = true := beq_iff_eq.2 n1
      clear e0 n1
      go_enter Tryz.func258, Tryz.ntmps258
      go_wp2_with fail
      refine (HK.out _ ((Grew.refl w).alloc _)).mono ?_
      rintro e w1 ⟨rfl, hg⟩
      have hc := hg.cells.1
      have hz : w.heap.size < w1.heap.size := by have := hg.size; simp at this; omega
      rw [errOf_zero]
      go_wp2_with fail
      go_ret
      exact ⟨ret_bool HF.out.symm, ((Grew.refl w).alloc _).trans hg⟩
    · have b1 : (n == 1) = false := beq_eq_false_iff_ne.2 n1
      by_cases n2 : n = 2
      · have HF : Hid (Pl.opRightB ⟨n, k, v, d, r⟩ = true) := by
          unfold Hid
          rw [e0, if_neg n1, if_pos n2]
        have b2 : (n == 2) = true := beq_iff_eq.2 n2
        clear e0 n1 n2
        go_enter Tryz.func258, Tryz.ntmps258
        go_wp2_with fail
        refine (HK.out _ ((Grew.refl w).alloc _)).mono ?_
        rintro e w1 ⟨rfl, hg⟩
        have hc := hg.cells.1
        have hz : w.heap.size < w1.heap.size := by have := hg.size; simp at this; omega
        rw [errOf_zero]
        go_wp2_with fail
        go_ret
        exact ⟨ret_bool HF.out.symm, ((Grew.refl w).alloc _).trans hg⟩
      · have b2 : (n == 2) = false := beq_eq_false_iff_ne.2 n2
        by_cases n3 : n = 3
        · have HF : Hid (Pl.opRightB ⟨n, k, v, d, r⟩ = (decide ((v.size : Int) ≤ 64) && decide ((d.size : Int) ≤ 64))) := by
            unfold Hid
            rw [e0, if_neg n1, if_neg n2, if_pos n3, Bool.eq_iff_iff]; simp; omega
          have b3 : (n == 3) = true := beq_iff_eq.2 n3
          clear e0 n1 n2 n3
          go_enter Tryz.func258, Tryz.ntmps258
          go_wp2_with fail
          refine (HK.out _ ((Grew.refl w).alloc _)).mono ?_
          rintro e w1 ⟨rfl, hg⟩
          have hc := hg.cells.1
          have hz : w.heap.size < w1.heap.size := by have := hg.size; simp at this; omega
          rw [errOf_zero]
          by_cases hv64 : (v.size : Int) ≤ 64
          all_goals
            go_wp2_with fail
            go_ret
            exact ⟨ret_bool (by rw [HF.out]; first | (simp [hv64]; done) | (simp; omega)), ((Grew.refl w).alloc _).trans hg⟩
        · have b3 : (n == 3) = false := beq_eq_false_iff_ne.2 n3
          by_cases n4 : n = 4
          · have HF : Hid (Pl.opRightB ⟨n, k, v, d, r⟩ = (decide (0 ≤ r) && decide (r ≤ 4096))) := by
              unfold Hid
              rw [e0, if_neg n1, if_neg n2, if_neg n3, if_pos n4]
            have b4 : (n == 4) = true := beq_iff_eq.2 n4
            clear e0 n1 n2 n3 n4
            go_enter Tryz.func258, Tryz.ntmps258
            go_wp2_with fail
            refine (HK.out _ ((Grew.refl w).alloc _)).mono ?_
            rintro e w1 ⟨rfl, hg⟩
            have hc := hg.cells.1
            have hz : w.heap.size < w1.heap.size := by have := hg.size; simp at this; omega
            rw [errOf_zero]
            by_cases hr0 : 0 ≤ r
            all_goals
              go_wp2_with fail
              go_ret
              exact ⟨ret_bool (by rw [HF.out]; first | (simp [hr0]; done) | (simp; omega)), ((Grew.refl w).alloc _).trans hg⟩
          · have HF : Hid (Pl.opRightB ⟨n, k, v, d, r⟩ = false) := by
              unfold Hid
              rw [e0, if_neg n1, if_neg n2, if_neg n3, if_neg n4]
            have b4 : (n == 4) = false := beq_eq_false_iff_ne.2 n4
            clear e0 n1 n2 n3 n4
            go_enter Tryz.func258, Tryz.ntmps258
            go_wp2_with fail
            refine (HK.out _ ((Grew.refl w).alloc _)).mono ?_
            rintro e w1 ⟨rfl, hg⟩
            have hc := hg.cells.1
            have hz : w.heap.size < w1.heap.size := by have := hg.size; simp at this; omega
            rw [errOf_zero]
            go_wp2_with fail
            go_ret
            exact ⟨ret_bool HF.out.symm, ((Grew.refl w).alloc _).trans hg⟩
  · have HF : Hid (Pl.opRightB ⟨n, k, v, d, r⟩ = false) := by unfold Hid Pl.opRightB; rw [if_pos hkn]
    have HN := hid (errOf_pos E _ hkn)
    go_enter Tryz.func258, Tryz.ntmps258
    go_wp2_with fail
    refine (HK.out _ ((Grew.refl w).alloc _)).mono ?_
    rw [HN.out]
    rintro e w1 ⟨rfl, hg⟩
    go_wp2_with fail
    go_ret
    exact ⟨ret_bool HF.out.symm, ((Grew.refl w).alloc _).trans hg⟩
end Go.Proofs.YtbdagllflamabaaGreatDoor
namespace Go.Proofs.YtbdagllflamabaaGreatDoor
open Go.RowKit
attribute [local go_sem] Oper.semAt_some
namespace Pl
def movB (sh sv : Int) : Bool := withinB sh 12 && withinB sv 4
def merB (sh ot : Int) : Bool := withinB sh 12 && withinB ot 12 && (sh != ot)
def splB (sh ot sv : Int) (key : ByteArray) : Bool := withinB sh 12 && withinB ot 12 && (sh != ot) && withinB sv 4 && decide (keyN key = 0)
def chkB (sh up parts part : Int) (len : Nat) : Bool := ((sh == 0) || withinB sh 12) && decide (0 ≤ up) && decide (up ≤ 4096) && withinB parts 64 && decide (0 ≤ part) && decide (part < parts) && decide ((len : Int) ≤ 256)
end Pl
theorem mov_right (sh sv : Int) (w : World) : Calls Tryz.prog 263 #[.agg #[.int .i64 sh, .int .i64 sv]] w fun e w' => e = .returned (.bool (Pl.movB sh sv)) ∧ Grew w w' := by
  unfold Pl.movB
  go_enter Tryz.func263, Tryz.ntmps263
  go_wp2_with fail
  refine (shard_any _ _).mono ?_
  rintro e w1 ⟨rfl, rfl⟩
  cases h0 : Pl.withinB sh 12 with
  | false =>
    go_wp2_with fail
    go_ret
    exact ⟨ret_bool (by simp [*]), (Grew.refl w).alloc _⟩
  | true =>
    go_wp2_with fail
    refine (within_any _ _ _).mono ?_
    rintro e w1 ⟨rfl, rfl⟩
    cases h1 : Pl.withinB sv 4 with
    | false =>
      go_wp2_with fail
      go_ret
      exact ⟨ret_bool (by simp [*]), (Grew.refl w).alloc _⟩
    | true =>
      go_wp2_with fail
      go_ret
      exact ⟨ret_bool (by simp [*]), (Grew.refl w).alloc _⟩
theorem mer_right (sh ot : Int) (w : World) : Calls Tryz.prog 269 #[.agg #[.int .i64 sh, .int .i64 ot]] w fun e w' => e = .returned (.bool (Pl.merB sh ot)) ∧ Grew w w' := by
  unfold Pl.merB
  go_enter Tryz.func269, Tryz.ntmps269
  go_wp2_with fail
  refine (shard_any _ _).mono ?_
  rintro e w1 ⟨rfl, rfl⟩
  cases h0 : Pl.withinB sh 12 with
  | false =>
    go_wp2_with fail
    go_ret
    exact ⟨ret_bool (by simp [*]), (Grew.refl w).alloc _⟩
  | true =>
    go_wp2_with fail
    refine (shard_any _ _).mono ?_
    rintro e w1 ⟨rfl, rfl⟩
    cases h1 : Pl.withinB ot 12 with
    | false =>
      go_wp2_with fail
      go_ret
      exact ⟨ret_bool (by simp [*]), (Grew.refl w).alloc _⟩
    | true =>
      cases h2 : (sh != ot) with
      | false =>
        go_wp2_with fail
        go_ret
        exact ⟨ret_bool (by simp [*]), (Grew.refl w).alloc _⟩
      | true =>
        go_wp2_with fail
        go_ret
        exact ⟨ret_bool (by simp [*]), (Grew.refl w).alloc _⟩
set_option maxHeartbeats 1000000 in
theorem spl_right {S : Nat → Bool} (hS : KeyT S) (E : Nat → Addr) (sh ot sv : Int) (key : ByteArray) (w : World) (hE : Errs S E w) (hk : key.size ≤ 140737488351232) :
    Calls Tryz.prog 266 #[.agg #[.int .i64 sh, .int .i64 ot, .int .i64 sv, .string key]] w fun e w' => e = .returned (.bool (Pl.splB sh ot sv key)) ∧ Grew w w' := by
  have HK := hid (fun W (g : Grew w W) => key_any S E hS.h2 hS.h3 hS.h6 hS.h7 key W hk (hE.grew g))
  clear hE
  unfold Pl.splB
  go_enter Tryz.func266, Tryz.ntmps266
  go_wp2_with fail
  refine (shard_any _ _).mono ?_
  rintro e w1 ⟨rfl, rfl⟩
  cases h0 : Pl.withinB sh 12 with
  | false =>
    go_wp2_with fail
    go_ret
    exact ⟨ret_bool (by simp [*]), (Grew.refl w).alloc _⟩
  | true =>
    go_wp2_with fail
    refine (shard_any _ _).mono ?_
    rintro e w1 ⟨rfl, rfl⟩
    cases h1 : Pl.withinB ot 12 with
    | false =>
      go_wp2_with fail
      go_ret
      exact ⟨ret_bool (by simp [*]), (Grew.refl w).alloc _⟩
    | true =>
      cases h2 : (sh != ot) with
      | false =>
        go_wp2_with fail
        go_ret
        exact ⟨ret_bool (by simp [*]), (Grew.refl w).alloc _⟩
      | true =>
        go_wp2_with fail
        refine (within_any _ _ _).mono ?_
        rintro e w1 ⟨rfl, rfl⟩
        cases h3 : Pl.withinB sv 4 with
        | false =>
          go_wp2_with fail
          go_ret
          exact ⟨ret_bool (by simp [*]), (Grew.refl w).alloc _⟩
        | true =>
          by_cases hkn : Pl.keyN key = 0
          · rw [hkn] at HK
            have HD := hid (decide_eq_true hkn)
            clear hkn
            go_wp2_with fail
            refine (HK.out _ ((Grew.refl w).alloc _)).mono ?_
            rw [errOf_zero]
            rintro e w1 ⟨rfl, hg⟩
            go_wp2_with fail
            go_ret
            exact ⟨ret_bool (by rw [HD.out]; simp [h0, h1, h2, h3]), ((Grew.refl w).alloc _).trans hg⟩
          · have HN := hid (errOf_pos E _ hkn)
            have HD := hid (decide_eq_false hkn)
            clear hkn
            go_wp2_with fail
            refine (HK.out _ ((Grew.refl w).alloc _)).mono ?_
            rw [HN.out]
            rintro e w1 ⟨rfl, hg⟩
            go_wp2_with fail
            go_ret
            exact ⟨ret_bool (by rw [HD.out]; simp), ((Grew.refl w).alloc _).trans hg⟩
set_option maxHeartbeats 2000000 in
theorem chk_right (sh up parts part : Int) (a : Option Addr) (len cap : Nat) (w : World) :
    Calls Tryz.prog 272 #[.agg #[.int .i64 sh, .int .i64 up, .int .i64 parts, .int .i64 part, .slice a len cap]] w fun e w' => e = .returned (.bool (Pl.chkB sh up parts part len)) ∧ Grew w w' := by
  unfold Pl.chkB
  go_enter Tryz.func272, Tryz.ntmps272
  cases h0 : (sh == 0) with
  | true =>
    cases h1 : decide (0 ≤ up) with
    | false =>
      go_wp2_with fail
      go_ret
      exact ⟨ret_bool (by simp [*]), (Grew.refl w).alloc _⟩
    | true =>
      cases h2 : decide (up ≤ 4096) with
      | false =>
        go_wp2_with fail
        go_ret
        exact ⟨ret_bool (by simp [*]), (Grew.refl w).alloc _⟩
      | true =>
        go_wp2_with fail
        refine (within_any _ _ _).mono ?_
        rintro e w1 ⟨rfl, rfl⟩
        cases h3 : Pl.withinB parts 64 with
        | false =>
          go_wp2_with fail
          go_ret
          exact ⟨ret_bool (by simp [*]), (Grew.refl w).alloc _⟩
        | true =>
          cases h4 : decide (0 ≤ part) with
          | false =>
            go_wp2_with fail
            go_ret
            exact ⟨ret_bool (by simp [*]), (Grew.refl w).alloc _⟩
          | true =>
            cases h5 : decide (part < parts) with
            | false =>
              go_wp2_with fail
              go_ret
              exact ⟨ret_bool (by simp [*]), (Grew.refl w).alloc _⟩
            | true =>
              go_wp2_with fail
              go_ret
              exact ⟨ret_bool (by simp [*]), (Grew.refl w).alloc _⟩
  | false =>
    go_wp2_with fail
    refine (shard_any _ _).mono ?_
    rintro e w1 ⟨rfl, rfl⟩
    cases h1 : Pl.withinB sh 12 with
    | false =>
      go_wp2_with fail
      go_ret
      exact ⟨ret_bool (by simp [*]), (Grew.refl w).alloc _⟩
    | true =>
      cases h2 : decide (0 ≤ up) with
      | false =>
        go_wp2_with fail
        go_ret
        exact ⟨ret_bool (by simp [*]), (Grew.refl w).alloc _⟩
      | true =>
        cases h3 : decide (up ≤ 4096) with
        | false =>
          go_wp2_with fail
          go_ret
          exact ⟨ret_bool (by simp [*]), (Grew.refl w).alloc _⟩
        | true =>
          go_wp2_with fail
          refine (within_any _ _ _).mono ?_
          rintro e w1 ⟨rfl, rfl⟩
          cases h4 : Pl.withinB parts 64 with
          | false =>
            go_wp2_with fail
            go_ret
            exact ⟨ret_bool (by simp [*]), (Grew.refl w).alloc _⟩
          | true =>
            cases h5 : decide (0 ≤ part) with
            | false =>
              go_wp2_with fail
              go_ret
              exact ⟨ret_bool (by simp [*]), (Grew.refl w).alloc _⟩
            | true =>
              cases h6 : decide (part < parts) with
              | false =>
                go_wp2_with fail
                go_ret
                exact ⟨ret_bool (by simp [*]), (Grew.refl w).alloc _⟩
              | true =>
                go_wp2_with fail
                go_ret
                exact ⟨ret_bool (by simp [*]), (Grew.refl w).alloc _⟩
end Go.Proofs.YtbdagllflamabaaGreatDoor
namespace Go.Proofs.YtbdagllflamabaaGreatDoor
open Go.RowKit
attribute [local go_sem] Oper.semAt_some
set_option maxRecDepth 100000 in
set_option maxHeartbeats 1000000 in
theorem idxOpBad (p : OpR → Bool) (a : Option Addr) (cap : Nat) (xs : List OpR) (w : World) (hA : OpRsAt w a xs) (hx : xs.length ≤ 1000000)
    (hp : ∀ j, j < xs.length → ∀ W, Grew w W → Calls Tryz.prog 257 #[(opRAt xs j).aggOf] W fun e W' => e = .returned (.bool (p (opRAt xs j))) ∧ Grew W W') :
    Calls Tryz.prog 262 #[.slice a xs.length cap, .func (.func 257) #[] #[]] w fun e w' => e = .returned (.int .i64 (idxI p xs)) ∧ Grew w w' := by
  have HA := hid hA
  have HP := hid hp
  clear hA hp
  go_enter Tryz.func262, Tryz.ntmps262
  go_wp2_with fail
  go_loopw [8] (fun i wr => ∃ k : Nat, k ≤ xs.length ∧ i = .int .i64 k ∧ Hid ((xs.take k).all (fun c => !p c) = true) ∧ Grew w wr) (fun i _ => xs.length - (intOf i).toNat)
  case atStart => exact ⟨0, Nat.zero_le _, rfl, rfl, Grew.refl w⟩
  case round =>
    obtain ⟨k, hk1, rfl, HN, hG⟩ := hrel
    by_cases hlt : k < xs.length
    · rcases HA.out with h0 | ⟨b, off, rfl, hb, hR⟩
      · rw [h0] at hlt; simp at hlt
      have q0 := (hG.cells.1 b (off + k * 5) hb).trans (hR.kind k hlt)
      have q1 := (hG.cells.1 b (off + k * 5 + 1) hb).trans (hR.key k hlt)
      have q2 := (hG.cells.1 b (off + k * 5 + 2) hb).trans (hR.val k hlt)
      have q3 := (hG.cells.1 b (off + k * 5 + 3) hb).trans (hR.old k hlt)
      have q4 := (hG.cells.1 b (off + k * 5 + 4) hb).trans (hR.ver k hlt)
      have HC := hid (HP.out k hlt)
      have hat : opRAt xs k = xs[k] := opRAt_eq xs k hlt
      have HAT := hid hat
      clear hR hat
      have HS := hid (idx_some p xs k hlt HN.out)
      have HN2 := hid (idx_next p xs k hlt HN.out)
      rw [← HAT.out] at HS HN2
      generalize opRAt xs k = c at *
      clear HAT
      unfold OpR.aggOf at HC
      cases hpc : p c with
      | true =>
        rw [hpc] at HC
        have HS2 := hid (HS.out hpc)
        obtain ⟨c0, c1, c2, c3, c4⟩ := c
        dsimp only [OpR.vals] at *
        clear hpc HS HN2
        go_wp2_with fail
        refine (HC.out _ hG).mono ?_
        rintro e w1 ⟨rfl, hg1⟩
        go_wp2_with fail
        go_ret
        exact ⟨ret_int HS2.out.symm, hG.trans hg1⟩
      | false =>
        rw [hpc] at HC
        have HS2 := hid (HN2.out hpc)
        obtain ⟨c0, c1, c2, c3, c4⟩ := c
        dsimp only [OpR.vals] at *
        clear hpc HS HN2
        go_wp2_with fail
        refine (HC.out _ hG).mono ?_
        rintro e w1 ⟨rfl, hg1⟩
        go_wp2_with fail
        go_roundw
        case rel => exact ⟨k + 1, by omega, by go_num, HS2, hG.trans hg1⟩
        case measure => simp [intOf]; omega
    · obtain rfl : k = xs.length := by omega
      have HE := hid (idx_none p xs (by have := HN.out; rwa [List.take_length] at this))
      go_wp2_with fail
      go_ret
      exact ⟨ret_int HE.out.symm, hG⟩
end Go.Proofs.YtbdagllflamabaaGreatDoor
namespace Go.Proofs.YtbdagllflamabaaGreatDoor
open Go.RowKit
attribute [local go_sem] Oper.semAt_some
namespace Pl
def wriB (sh cl sq : Int) (ops : List OpR) : Bool := withinB sh 12 && withinB cl 4 && withinB sq 1073741824 && withinB ops.length 8 && !(ops.any fun o => !opRightB o)
end Pl
def OpOk (o : OpR) : Prop := o.key.size ≤ 140737488351232 ∧ o.val.size ≤ 9223372036854775807 ∧ o.old.size ≤ 9223372036854775807
theorem opBad_any {S : Nat → Bool} (hS : KeyT S) (E : Nat → Addr) (o : OpR) (w : World) (hE : Errs S E w) (ho : OpOk o) :
    Calls Tryz.prog 257 #[o.aggOf] w fun e w' => e = .returned (.bool (!Pl.opRightB o)) ∧ Grew w w' := by
  have HO := hid (fun W (g : Grew w W) => opRight_any hS E o W (hE.grew g) ho.1 ho.2.1 ho.2.2)
  clear hE
  unfold OpR.agg at HO
  unfold OpR.aggOf OpR.vals
  obtain ⟨n, k, v, d, r⟩ := o
  dsimp only at *
  go_enter Tryz.func257, Tryz.ntmps257
  go_wp2_with fail
  refine (HO.out _ ((Grew.refl w).alloc _)).mono ?_
  rintro e w1 ⟨rfl, hg⟩
  go_wp2_with fail
  go_ret
  exact ⟨rfl, ((Grew.refl w).alloc _).trans hg⟩
theorem containsOp {S : Nat → Bool} (hS : KeyT S) (E : Nat → Addr) (a : Option Addr) (cap : Nat) (ops : List OpR) (w : World) (hE : Errs S E w) (hA : OpRsAt w a ops) (hx : ops.length ≤ 1000000) (ho : ∀ o ∈ ops, OpOk o) :
    Calls Tryz.prog 256 #[.slice a ops.length cap, .func (.func 257) #[] #[]] w fun e w' => e = .returned (.bool (ops.any fun o => !Pl.opRightB o)) ∧ Grew w w' := by
  have HI := hid (idxOpBad (fun o => !Pl.opRightB o) a cap ops w hA hx (fun j hj W g => opBad_any hS E _ W (hE.grew g) (ho _ (opRAt_mem ops j hj))))
  have HG := hid (idx_ge (fun o => !Pl.opRightB o) ops)
  clear hE hA
  generalize idxI (fun o => !Pl.opRightB o) ops = n at *
  go_enter Tryz.func256, Tryz.ntmps256
  go_wp2_with fail
  refine HI.out.mono ?_
  rintro e w1 ⟨rfl, hg⟩
  go_wp2_with fail
  go_ret
  exact ⟨ret_bool HG.out, hg⟩
set_option maxHeartbeats 1000000 in
theorem wri_right {S : Nat → Bool} (hS : KeyT S) (E : Nat → Addr) (sh cl sq : Int) (a : Option Addr) (cap : Nat) (ops : List OpR) (w : World) (hE : Errs S E w) (hA : OpRsAt w a ops) (hx : ops.length ≤ 1000000) (ho : ∀ o ∈ ops, OpOk o) :
    Calls Tryz.prog 253 #[.agg #[.int .i64 sh, .int .i64 cl, .int .i64 sq, .slice a ops.length cap]] w fun e w' => e = .returned (.bool (Pl.wriB sh cl sq ops)) ∧ Grew w w' := by
  have HC := hid (fun W (g : Grew w W) => containsOp hS E a cap ops W (hE.grew g) (hA.grew g) hx ho)
  clear hE hA
  unfold Pl.wriB
  generalize (ops.any fun o => !Pl.opRightB o) = bad at *
  go_enter Tryz.func253, Tryz.ntmps253
  go_wp2_with fail
  refine (HC.out _ ((Grew.refl w).alloc _)).mono ?_
  rintro e w1 ⟨rfl, hg⟩
  have hc := hg.cells.1
  have hz : w.heap.size < w1.heap.size := by have := hg.size; simp at this; omega
  have hG := ((Grew.refl w).alloc _).trans hg
  clear hg
  go_wp2_with fail
  refine (shard_any _ _).mono ?_
  rintro e w2 ⟨rfl, rfl⟩
  cases h0 : Pl.withinB sh 12 with
  | false =>
    go_wp2_with fail
    go_ret
    exact ⟨ret_bool (by simp [*]), hG⟩
  | true =>
    go_wp2_with fail
    refine (within_any _ _ _).mono ?_
    rintro e w2 ⟨rfl, rfl⟩
    cases h1 : Pl.withinB cl 4 with
    | false =>
      go_wp2_with fail
      go_ret
      exact ⟨ret_bool (by simp [*]), hG⟩
    | true =>
      go_wp2_with fail
      refine (within_any _ _ _).mono ?_
      rintro e w2 ⟨rfl, rfl⟩
      cases h2 : Pl.withinB sq 1073741824 with
      | false =>
        go_wp2_with fail
        go_ret
        exact ⟨ret_bool (by simp [*]), hG⟩
      | true =>
        go_wp2_with fail
        refine (within_any _ _ _).mono ?_
        rintro e w2 ⟨rfl, rfl⟩
        cases h3 : Pl.withinB (ops.length : Int) 8 with
        | false =>
          go_wp2_with fail
          go_ret
          exact ⟨ret_bool (by simp [*]), hG⟩
        | true =>
          go_wp2_with fail
          go_ret
          exact ⟨ret_bool (by simp [*]), hG⟩
structure En where
  kind : Int
  shard : Int
  other : Int
  server : Int
  client : Int
  seq : Int
  key : ByteArray
  upto : Int
  part : Int
  parts : Int
  ops : List OpR
  opsA : Option Addr
  opsC : Nat
  dataA : Option Addr
  dataL : Nat
  dataC : Nat
def En.vals (e : En) : List Value := [.int .i64 e.kind, .int .i64 e.shard, .int .i64 e.other, .int .i64 e.server, .int .i64 e.client, .int .i64 e.seq, .slice e.opsA e.ops.length e.opsC, .string e.key, .int .i64 e.upto, .int .i64 e.part, .int .i64 e.parts, .slice e.dataA e.dataL e.dataC]
def En.agg (e : En) : Value := .agg e.vals.toArray
namespace Pl
def rightB (e : En) : Bool :=
  if e.kind = 1 then wriB e.shard e.client e.seq e.ops
  else if e.kind = 2 then movB e.shard e.server
  else if e.kind = 3 then splB e.shard e.other e.server e.key
  else if e.kind = 4 then merB e.shard e.other
  else if e.kind = 5 then chkB e.shard e.upto e.parts e.part e.dataL
  else false
def recV (e : En) : Value :=
  if e.kind = 1 then .iface 217 (.agg #[.int .i64 e.shard, .int .i64 e.client, .int .i64 e.seq, .slice e.opsA e.ops.length e.opsC])
  else if e.kind = 2 then .iface 219 (.agg #[.int .i64 e.shard, .int .i64 e.server])
  else if e.kind = 3 then .iface 221 (.agg #[.int .i64 e.shard, .int .i64 e.other, .int .i64 e.server, .string e.key])
  else if e.kind = 4 then .iface 223 (.agg #[.int .i64 e.shard, .int .i64 e.other])
  else if e.kind = 5 then .iface 225 (.agg #[.int .i64 e.shard, .int .i64 e.upto, .int .i64 e.parts, .int .i64 e.part, .slice e.dataA e.dataL e.dataC])
  else .nilIface
end Pl
set_option maxHeartbeats 1000000 in
theorem of_any (e : En) (w : World) : Calls Tryz.prog 81 #[e.agg] w fun r w' => r = .returned (Pl.recV e) ∧ Grew w w' := by
  unfold En.agg En.vals
  obtain ⟨kind, shard, other, server, client, seq, key, upto, part, parts, ops, opsA, opsC, dataA, dataL, dataC⟩ := e
  unfold Pl.recV
  dsimp only
  by_cases k1 : kind = 1
  · subst k1
    go_enter Tryz.func81, Tryz.ntmps81
    go_wp2_with fail
    go_ret
    exact ⟨rfl, (Grew.refl w).alloc _⟩
  by_cases k2 : kind = 2
  · subst k2
    go_enter Tryz.func81, Tryz.ntmps81
    go_wp2_with fail
    go_ret
    exact ⟨rfl, (Grew.refl w).alloc _⟩
  by_cases k3 : kind = 3
  · subst k3
    go_enter Tryz.func81, Tryz.ntmps81
    go_wp2_with fail
    go_ret
    exact ⟨rfl, (Grew.refl w).alloc _⟩
  by_cases k4 : kind = 4
  · subst k4
    go_enter Tryz.func81, Tryz.ntmps81
    go_wp2_with fail
    go_ret
    exact ⟨rfl, (Grew.refl w).alloc _⟩
  by_cases k5 : kind = 5
  · subst k5
    go_enter Tryz.func81, Tryz.ntmps81
    go_wp2_with fail
    go_ret
    exact ⟨rfl, (Grew.refl w).alloc _⟩
  have b1 : (kind == 1) = false := beq_eq_false_iff_ne.2 k1
  have b2 : (kind == 2) = false := beq_eq_false_iff_ne.2 k2
  have b3 : (kind == 3) = false := beq_eq_false_iff_ne.2 k3
  have b4 : (kind == 4) = false := beq_eq_false_iff_ne.2 k4
  have b5 : (kind == 5) = false := beq_eq_false_iff_ne.2 k5
  rw [if_neg k1, if_neg k2, if_neg k3, if_neg k4, if_neg k5]
  clear k1 k2 k3 k4 k5
  go_enter Tryz.func81, Tryz.ntmps81
  go_wp2_with fail
  go_ret
  exact ⟨rfl, (Grew.refl w).alloc _⟩
structure EnAt (w : World) (e : En) : Prop where
  ops : OpRsAt w e.opsA e.ops
  few : e.ops.length ≤ 1000000
  ok : ∀ o ∈ e.ops, OpOk o
  key : e.kind = 3 → e.key.size ≤ 140737488351232
theorem EnAt.grew {w w' : World} {e : En} (h : EnAt w e) (g : Grew w w') : EnAt w' e := ⟨h.ops.grew g, h.few, h.ok, h.key⟩
theorem meth_writing (cs : Array Value) (w : World) : (method 483 217 (.agg cs) "tidewater/entry.right").run Tryz.prog w = .ok (253, .agg cs) w := by kernel_rfl
theorem meth_moving (cs : Array Value) (w : World) : (method 483 219 (.agg cs) "tidewater/entry.right").run Tryz.prog w = .ok (263, .agg cs) w := by kernel_rfl
theorem meth_splitting (cs : Array Value) (w : World) : (method 483 221 (.agg cs) "tidewater/entry.right").run Tryz.prog w = .ok (266, .agg cs) w := by kernel_rfl
theorem meth_merging (cs : Array Value) (w : World) : (method 483 223 (.agg cs) "tidewater/entry.right").run Tryz.prog w = .ok (269, .agg cs) w := by kernel_rfl
theorem meth_checking (cs : Array Value) (w : World) : (method 483 225 (.agg cs) "tidewater/entry.right").run Tryz.prog w = .ok (272, .agg cs) w := by kernel_rfl
set_option maxRecDepth 100000 in
set_option maxHeartbeats 4000000 in
theorem rightE_any {S : Nat → Bool} (hS : KeyT S) (E : Nat → Addr) (e : En) (w : World) (hE : Errs S E w) (hA : EnAt w e) :
    Calls Tryz.prog 42 #[e.agg] w fun r w' => r = .returned (.bool (Pl.rightB e)) ∧ Grew w w' := by
  have HE := hid hE
  have HA := hid hA
  have HO := hid (fun W => of_any e W)
  clear hE hA
  by_cases k1 : e.kind = 1
  · have HR : Hid (Pl.rightB e = Pl.wriB e.shard e.client e.seq e.ops) := by unfold Hid Pl.rightB; rw [if_pos k1]
    have HV : Hid (Pl.recV e = .iface 217 (.agg #[.int .i64 e.shard, .int .i64 e.client, .int .i64 e.seq, .slice e.opsA e.ops.length e.opsC])) := by unfold Hid Pl.recV; rw [if_pos k1]
    rw [HV.out] at HO
    unfold En.agg En.vals at *
    clear k1
    have hm := meth_writing
    go_enter Tryz.func42, Tryz.ntmps42
    go_wp2_with fail
    refine (HO.out _).mono ?_
    rintro r w1 ⟨rfl, hg⟩
    have hG := ((Grew.refl w).alloc _).trans hg
    go_wp2_with fail
    refine (wri_right hS E _ _ _ _ _ _ _ (HE.out.grew hG) (HA.out.grew hG).ops HA.out.few HA.out.ok).mono ?_
    rintro r w2 ⟨rfl, hg2⟩
    go_wp2_with fail
    go_ret
    exact ⟨ret_bool HR.out.symm, hG.trans hg2⟩
  by_cases k2 : e.kind = 2
  · have HR : Hid (Pl.rightB e = Pl.movB e.shard e.server) := by unfold Hid Pl.rightB; rw [if_neg k1, if_pos k2]
    have HV : Hid (Pl.recV e = .iface 219 (.agg #[.int .i64 e.shard, .int .i64 e.server])) := by unfold Hid Pl.recV; rw [if_neg k1, if_pos k2]
    rw [HV.out] at HO
    unfold En.agg En.vals at *
    clear k1 k2
    have hm := meth_moving
    go_enter Tryz.func42, Tryz.ntmps42
    go_wp2_with fail
    refine (HO.out _).mono ?_
    rintro r w1 ⟨rfl, hg⟩
    have hG := ((Grew.refl w).alloc _).trans hg
    go_wp2_with fail
    refine (mov_right _ _ _).mono ?_
    rintro r w2 ⟨rfl, hg2⟩
    go_wp2_with fail
    go_ret
    exact ⟨ret_bool HR.out.symm, hG.trans hg2⟩
  by_cases k3 : e.kind = 3
  · have HR : Hid (Pl.rightB e = Pl.splB e.shard e.other e.server e.key) := by unfold Hid Pl.rightB; rw [if_neg k1, if_neg k2, if_pos k3]
    have HV : Hid (Pl.recV e = .iface 221 (.agg #[.int .i64 e.shard, .int .i64 e.other, .int .i64 e.server, .string e.key])) := by unfold Hid Pl.recV; rw [if_neg k1, if_neg k2, if_pos k3]
    rw [HV.out] at HO
    have HK3 := hid (HA.out.key k3)
    unfold En.agg En.vals at *
    clear k1 k2 k3
    have hm := meth_splitting
    go_enter Tryz.func42, Tryz.ntmps42
    go_wp2_with fail
    refine (HO.out _).mono ?_
    rintro r w1 ⟨rfl, hg⟩
    have hG := ((Grew.refl w).alloc _).trans hg
    go_wp2_with fail
    refine (spl_right hS E _ _ _ _ _ (HE.out.grew hG) HK3.out).mono ?_
    rintro r w2 ⟨rfl, hg2⟩
    go_wp2_with fail
    go_ret
    exact ⟨ret_bool HR.out.symm, hG.trans hg2⟩
  by_cases k4 : e.kind = 4
  · have HR : Hid (Pl.rightB e = Pl.merB e.shard e.other) := by unfold Hid Pl.rightB; rw [if_neg k1, if_neg k2, if_neg k3, if_pos k4]
    have HV : Hid (Pl.recV e = .iface 223 (.agg #[.int .i64 e.shard, .int .i64 e.other])) := by unfold Hid Pl.recV; rw [if_neg k1, if_neg k2, if_neg k3, if_pos k4]
    rw [HV.out] at HO
    unfold En.agg En.vals at *
    clear k1 k2 k3 k4
    have hm := meth_merging
    go_enter Tryz.func42, Tryz.ntmps42
    go_wp2_with fail
    refine (HO.out _).mono ?_
    rintro r w1 ⟨rfl, hg⟩
    have hG := ((Grew.refl w).alloc _).trans hg
    go_wp2_with fail
    refine (mer_right _ _ _).mono ?_
    rintro r w2 ⟨rfl, hg2⟩
    go_wp2_with fail
    go_ret
    exact ⟨ret_bool HR.out.symm, hG.trans hg2⟩
  by_cases k5 : e.kind = 5
  · have HR : Hid (Pl.rightB e = Pl.chkB e.shard e.upto e.parts e.part e.dataL) := by unfold Hid Pl.rightB; rw [if_neg k1, if_neg k2, if_neg k3, if_neg k4, if_pos k5]
    have HV : Hid (Pl.recV e = .iface 225 (.agg #[.int .i64 e.shard, .int .i64 e.upto, .int .i64 e.parts, .int .i64 e.part, .slice e.dataA e.dataL e.dataC])) := by unfold Hid Pl.recV; rw [if_neg k1, if_neg k2, if_neg k3, if_neg k4, if_pos k5]
    rw [HV.out] at HO
    unfold En.agg En.vals at *
    clear k1 k2 k3 k4 k5
    have hm := meth_checking
    go_enter Tryz.func42, Tryz.ntmps42
    go_wp2_with fail
    refine (HO.out _).mono ?_
    rintro r w1 ⟨rfl, hg⟩
    have hG := ((Grew.refl w).alloc _).trans hg
    go_wp2_with fail
    refine (chk_right _ _ _ _ _ _ _ _).mono ?_
    rintro r w2 ⟨rfl, hg2⟩
    go_wp2_with fail
    go_ret
    exact ⟨ret_bool HR.out.symm, hG.trans hg2⟩
  have HR : Hid (Pl.rightB e = false) := by unfold Hid Pl.rightB; rw [if_neg k1, if_neg k2, if_neg k3, if_neg k4, if_neg k5]
  have HV : Hid (Pl.recV e = .nilIface) := by unfold Hid Pl.recV; rw [if_neg k1, if_neg k2, if_neg k3, if_neg k4, if_neg k5]
  rw [HV.out] at HO
  unfold En.agg En.vals at *
  clear k1 k2 k3 k4 k5
  go_enter Tryz.func42, Tryz.ntmps42
  go_wp2_with fail
  refine (HO.out _).mono ?_
  rintro r w1 ⟨rfl, hg⟩
  go_wp2_with fail
  go_ret
  exact ⟨ret_bool HR.out.symm, ((Grew.refl w).alloc _).trans hg⟩
end Go.Proofs.YtbdagllflamabaaGreatDoor
