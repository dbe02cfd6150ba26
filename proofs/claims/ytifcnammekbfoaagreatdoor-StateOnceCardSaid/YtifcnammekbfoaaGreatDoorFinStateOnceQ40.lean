/- tidewaterlaw23.StateOnce returns true. -/
import Derived.Test.YtifcnammekbfoaaGreatDoorFinStateOnceQ37
import Derived.Test.YtifcnammekbfoaaGreatDoorFinStateOnceQ38
import Derived.Test.YtifcnammekbfoaaGreatDoorFinStateOnceQ39
import Derived.Test.YtifcnammekbfoaaGreatDoorFinStateOnceQ7
import Derived.Deep.DeepCutAuto
set_option linter.unusedVariables false
set_option linter.unusedSectionVars false
set_option linter.unusedSimpArgs false
namespace Go.Proofs.YtifcnammekbfoaaGreatDoor
open Go.RowKit Go.Maps
attribute [local go_sem] Oper.semAt_some

/-- The state of the run, and blocks B that it does not own. -/
structure Once (w W : World) (B : Nat → Prop) (st n : Nat) (P : List Pr) (S : Int → Option An) : Prop where
  grew : Grew w W
  is : ∃ Ft Fs, StAt W Ft Fs st n ⟨#[]⟩ ⟨#[]⟩ P S ∧ (∀ j, Ft j → w.heap.size ≤ j) ∧ (∀ j, Fs j → w.heap.size ≤ j) ∧ ∀ j, B j → ¬ Ft j ∧ ¬ Fs j ∧ j ≠ st
  le : w.heap.size ≤ st
  bl : ∀ j, B j → j < W.heap.size
theorem StAt.lt {W : World} {Ft Fs : Nat → Prop} {st n : Nat} {lo hi : ByteArray} {P : List Pr} {S : Int → Option An} (h : StAt W Ft Fs st n lo hi P S) : st < W.heap.size ∧ (∀ j, Ft j → j < W.heap.size) ∧ (∀ j, Fs j → j < W.heap.size) := by
  obtain ⟨tb, sb, h⟩ := h
  exact ⟨cell_lt h.c0, fun j hj => tabAt_lt h.tab j hj, h.seen.lt⟩
section
variable {w W W' : World} {B : Nat → Prop} {st n m : Nat} {P P' : List Pr} {S S' : Int → Option An}
theorem Once.more (h : Once w W B st n P S) (g : Grew W W') : Once w W' B st n P S := by
  obtain ⟨Ft, Fs, h1, h2⟩ := h.is
  exact ⟨h.grew.trans g, ⟨Ft, Fs, h1.grew g, h2⟩, h.le, fun j hj => Nat.lt_of_lt_of_le (h.bl j hj) g.size⟩
theorem Once.add (h : Once w W B st n P S) (g : Grew W W') (b : Nat) (h1 : W.heap.size ≤ b) (h2 : b < W'.heap.size) : Once w W' (fun j => B j ∨ j = b) st n P S := by
  obtain ⟨Ft, Fs, k1, k2, k3, k4⟩ := h.is
  obtain ⟨l1, l2, l3⟩ := k1.lt
  refine ⟨h.grew.trans g, ⟨Ft, Fs, k1.grew g, k2, k3, fun j hj => ?_⟩, h.le, fun j hj => ?_⟩
  · rcases hj with hj | rfl
    · exact k4 j hj
    · exact ⟨fun q => by have := l2 _ q; omega, fun q => by have := l3 _ q; omega, by omega⟩
  · rcases hj with hj | rfl
    · exact Nat.lt_of_lt_of_le (h.bl j hj) g.size
    · exact h2
end
theorem Once.write {w W W' : World} {B : Nat → Prop} {st n m : Nat} {P P' : List Pr} {S S' : Int → Option An} (h : Once w W B st n P S) {Ft Fs : Nat → Prop} (k2 : ∀ j, Ft j → w.heap.size ≤ j) (k3 : ∀ j, Fs j → w.heap.size ≤ j) (k4 : ∀ j, B j → ¬ Ft j ∧ ¬ Fs j ∧ j ≠ st)
    (hw : Wrote W W' Ft Fs st m ⟨#[]⟩ ⟨#[]⟩ P' S') : Once w W' B st m P' S' ∧ (∀ b, B b → ∀ o, W'.cell? ⟨b, o, none⟩ = W.cell? ⟨b, o, none⟩) ∧ (∀ b, B b → ∀ o, W'.frozen? ⟨b, o, none⟩ = W.frozen? ⟨b, o, none⟩) ∧ W.heap.size ≤ W'.heap.size := by
  obtain ⟨ho, Gt, g1, g2⟩ := hw
  have hn : ∀ b, B b → ¬ (b = st ∨ Fs b) := fun b hb hq => by
    rcases hq with hq | hq
    · exact (k4 b hb).2.2 hq
    · exact (k4 b hb).2.1 hq
  refine ⟨⟨((h.grew.only _).then ho).grew (fun j hj => ?_), ⟨Gt, Fs, g1, fun j hj => ?_, k3, fun j hj => ⟨fun hq => ?_, (k4 j hj).2⟩⟩, h.le, fun j hj => Nat.lt_of_lt_of_le (h.bl j hj) ho.size⟩, fun b hb o => ho.cell (h.bl b hb) (hn b hb) o, fun b hb o => ho.frozen (h.bl b hb) (hn b hb) o, ho.size⟩
  · rcases hj with rfl | hj
    · exact h.le
    · exact k3 j hj
  · rcases g2 j hj with q | q
    · exact k2 j q
    · exact Nat.le_trans h.grew.size q
  · rcases g2 j hq with q | q
    · exact (k4 j hj).1 q
    · have := h.bl j hj; omega
/-- One of fewer blocks. -/
theorem Once.less {w W : World} {B B' : Nat → Prop} {st n : Nat} {P : List Pr} {S : Int → Option An} (h : Once w W B st n P S) (hB : ∀ j, B' j → B j) : Once w W B' st n P S := by
  obtain ⟨Ft, Fs, h1, h2, h3, h4⟩ := h.is
  exact ⟨h.grew, ⟨Ft, Fs, h1, h2, h3, fun j hj => h4 j (hB j hj)⟩, h.le, fun j hj => h.bl j (hB j hj)⟩
theorem Once.addAll {w W W' : World} {B : Nat → Prop} {st n : Nat} {P : List Pr} {S : Int → Option An} (h : Once w W B st n P S) (g : Grew W W') (B' : Nat → Prop) (h1 : ∀ j, B' j → W.heap.size ≤ j ∧ j < W'.heap.size) : Once w W' (fun j => B j ∨ B' j) st n P S := by
  obtain ⟨Ft, Fs, k1, k2, k3, k4⟩ := h.is
  obtain ⟨l1, l2, l3⟩ := k1.lt
  refine ⟨h.grew.trans g, ⟨Ft, Fs, k1.grew g, k2, k3, fun j hj => ?_⟩, h.le, fun j hj => ?_⟩
  · rcases hj with hj | hj
    · exact k4 j hj
    · have := (h1 j hj).1
      exact ⟨fun q => by have := l2 _ q; omega, fun q => by have := l3 _ q; omega, by omega⟩
  · rcases hj with hj | hj
    · exact Nat.lt_of_lt_of_le (h.bl j hj) g.size
    · exact (h1 j hj).2
theorem pairsAt_new {W : World} {B : Nat} {v : Value} {xs : List Pr} (h : W.ownsRow B 104 3 v xs.length (prFlat xs)) : ∃ a cap, v = .slice a xs.length cap ∧ (∀ j, (xs ≠ [] ∧ ∃ off, a = some ⟨j, off, none⟩) → B ≤ j ∧ j < W.heap.size) ∧ PairsAt W a xs := by
  obtain ⟨a, cap, rfl, hp⟩ := pairsAt_of h
  refine ⟨a, cap, rfl, ?_, hp⟩
  rintro j ⟨hx, off, e⟩
  obtain ⟨g, c, e2, h1, h2⟩ := h.form (List.length_pos_iff.2 hx)
  rw [e] at e2
  injection e2 with e3
  injection e3 with e4
  injection e4 with e5
  exact ⟨by omega, by omega⟩
theorem PairsAt.same {W W' : World} {a : Option Addr} {xs : List Pr} (h : PairsAt W a xs) (hs : W.heap.size ≤ W'.heap.size) (hc : ∀ b, (xs ≠ [] ∧ ∃ off, a = some ⟨b, off, none⟩) → ∀ o, W'.cell? ⟨b, o, none⟩ = W.cell? ⟨b, o, none⟩) : PairsAt W' a xs := by
  by_cases hx : xs = []
  · exact .inl hx
  · rcases h with h | ⟨b, off, e, hb, h⟩
    · exact absurd h hx
    · have hq := hc b ⟨hx, off, e⟩
      exact .inr ⟨b, off, e, by omega, fun j hj => (hq _).trans (h.key j hj), fun j hj => (hq _).trans (h.val j hj), fun j hj => (hq _).trans (h.ver j hj)⟩
/-- What a round of StateOnce holds: k acts are done. -/
structure RO (w V W : World) (st fb ab : Nat) (f : En) (c a : Int) (k : Nat) : Prop where
  ex : ∃ n P S, n ≤ k + 1 ∧ P.length ≤ 8 * (k + 1) ∧ Pl.Had S f c a ∧ Once w W (fun j => j = fb ∨ j = ab) st n P S
  cell : ∀ b, b = fb ∨ b = ab → ∀ o, W.cell? ⟨b, o, none⟩ = V.cell? ⟨b, o, none⟩
theorem en_of {W : World} {e : En} (h1 : OpRsAt W e.opsA e.ops) (h2 : e.ops.length ≤ 20 ∧ e.key.size ≤ 300 ∧ ∀ o ∈ e.ops, o.key.size ≤ 300 ∧ o.val.size ≤ 300 ∧ o.old.size ≤ 300) : EnAt W e ∧ EnSz e := by
  obtain ⟨a, b, c⟩ := h2
  refine ⟨⟨h1, by omega, fun o ho => ?_, by omega⟩, fun o ho => ?_⟩
  · obtain ⟨q1, q2, q3⟩ := c o ho
    exact ⟨by omega, by omega, by omega⟩
  · obtain ⟨q1, q2, q3⟩ := c o ho
    exact ⟨by omega, by omega⟩
theorem onceWrite_any (E : Nat → Addr) (e : En) {w W : World} (hE : Errs stS E W) (hA : EnAt W e) (hz : EnSz e) (at_ : Int) {B : Nat → Prop} {st n : Nat} {P : List Pr} {S : Int → Option An} (h : Once w W B st n P S) (hx : P.length ≤ 1000) (hn : n ≤ 1000000) :
    Calls Tryz.prog 19 #[.pointer (some ⟨st, 0, none⟩), e.agg, .int .i64 at_] W fun r W' => r = .returned (.tuple #[ansAgg (Pl.writeP P S e at_).code (Pl.writeP P S e at_).at_, errOf E (Pl.writeP P S e at_).err]) ∧ ∃ m, m ≤ n + 1 ∧ Once w W' B st m (Pl.writeP P S e at_).P (Pl.writeP P S e at_).S ∧ (∀ b, B b → ∀ o, W'.cell? ⟨b, o, none⟩ = W.cell? ⟨b, o, none⟩) ∧ (∀ b, B b → ∀ o, W'.frozen? ⟨b, o, none⟩ = W.frozen? ⟨b, o, none⟩) ∧ W.heap.size ≤ W'.heap.size := by
  obtain ⟨Ft, Fs, k1, k2, k3, k4⟩ := h.is
  refine (write_any E e hE hA hz at_ k1 hx hn).mono ?_
  rintro r W' ⟨hr, m, hm, hw⟩
  obtain ⟨a, b, c⟩ := h.write k2 k3 k4 hw
  exact ⟨hr, m, hm, a, b, c⟩
theorem write_err (P : List Pr) (S : Int → Option An) (e : En) (at_ : Int) (h : (Pl.writeP P S e at_).err ≠ 0) : (Pl.writeP P S e at_).code = 0 ∧ (Pl.writeP P S e at_).at_ = 0 := by
  unfold Pl.writeP at h ⊢
  by_cases h1 : e.kind = 1 ∧ Pl.rightB e = true
  · rw [if_neg (not_not_intro h1)] at h ⊢
    by_cases h2 : at_ < 0 ∨ 4096 ≤ at_
    · rw [if_pos h2]; exact ⟨rfl, rfl⟩
    · rw [if_neg h2] at h
      exfalso
      split at h
      · exact h rfl
      · split at h <;> exact h rfl
  · rw [if_pos h1]; exact ⟨rfl, rfl⟩
/-- uint(again) % uint(n), as an int, is an index. -/
theorem wrap_u64 (z : Int) : 0 ≤ IntKind.u64.wrap z := by
  simp only [IntKind.wrap, IntKind.bits, IntKind.signed]
  simp only [Bool.false_and, Bool.false_eq_true, if_false]
  omega
theorem wrap_u64_small (n : Nat) (h : n ≤ 30) : IntKind.u64.wrap (n : Int) = n := by
  simp only [IntKind.wrap, IntKind.bits, IntKind.signed]
  simp only [Bool.false_and, Bool.false_eq_true, if_false]
  omega
theorem ix23 (z : Int) (n : Nat) (h0 : 0 < n) (h : n ≤ 30) : ∃ m : Nat, m < n ∧ wrap64 ((IntKind.u64.wrap z).tmod (n : Int)) = (m : Int) := by
  have hz := wrap_u64 z
  generalize IntKind.u64.wrap z = u at *
  have h1 : u.tmod (n : Int) = u % (n : Int) := Int.tmod_eq_emod_of_nonneg hz
  have h2 := Int.emod_nonneg u (show (n : Int) ≠ 0 by omega)
  have h3 := Int.emod_lt_of_pos u (show (0 : Int) < (n : Int) by omega)
  refine ⟨(u % (n : Int)).toNat, by omega, ?_⟩
  rw [h1]
  unfold wrap64
  omega
set_option maxRecDepth 100000 in
set_option maxHeartbeats 8000000 in
theorem stateOnce_walk (E : Nat → Addr) (a : Option Addr) (cap : Nat) (xs : List Ac) (again : Int) (hag : -9223372036854775808 ≤ again ∧ again ≤ 9223372036854775807) (w : World) (hE : Errs stS E w) (hA : AcsAt w a xs) (hx : xs.length ≤ 9223372036854775807) (hk : ∀ j, j < xs.length → AcFits (acAt xs j)) :
    Calls Tryz.prog 4 #[.slice a xs.length cap, .int .i64 again] w fun e w' => e = .returned (.bool true) ∧ Grew w w' := by
  have hTS : TabS stS := ⟨rfl, rfl, rfl, rfl, rfl⟩
  have HE := hid hE
  have HA := hid hA
  have HAL := hid (alive23 E w hE)
  have HLG := hid (fun W (g : Grew w W) => long23_any a cap xs W (hA.grew g) hx hk)
  have HNEW := hid (fun W (g : Grew w W) => newS_any stS E ⟨rfl, rfl, rfl, rfl⟩ ⟨#[]⟩ ⟨#[]⟩ W (by decide) (by decide) (hE.grew g) right_nil Pl.good_nil)
  cases hlg : long23B xs with
  | true =>
    rw [hlg] at HLG
    clear hE hA hk hlg HNEW
    go_enter Tryz.func4, Tryz.ntmps4
    go_wp2_with fail
    refine HAL.out.mono ?_
    rintro e w1 ⟨rfl, hg1⟩
    go_wp2_with fail
    refine (HLG.out w1 hg1).mono ?_
    rintro e w2 ⟨rfl, hg2⟩
    go_wp2_with fail
    go_ret
    exact ⟨rfl, hg1.trans hg2⟩
  | false =>
    rw [hlg] at HLG
    have hsh := long23_short hlg
    by_cases hx0 : xs.length = 0
    · obtain rfl : xs = [] := List.eq_nil_of_length_eq_zero hx0
      clear hE hA hk hlg HNEW hsh hx0 hx
      simp only [List.length_nil] at *
      go_enter Tryz.func4, Tryz.ntmps4
      go_wp2_with fail
      refine HAL.out.mono ?_
      rintro e w1 ⟨rfl, hg1⟩
      go_wp2_with fail
      refine (HLG.out w1 hg1).mono ?_
      rintro e w2 ⟨rfl, hg2⟩
      go_wp2_with fail
      go_ret
      exact ⟨rfl, hg1.trans hg2⟩
    · have hxp : 0 < xs.length := Nat.pos_of_ne_zero hx0
      have hxi : ¬ (xs.length : Int) = 0 := by omega
      have HSH := hid hsh
      have hxs := hsh.1
      clear hE hA hlg hsh hx0
      go_enter Tryz.func4, Tryz.ntmps4
      go_wp2_with fail
      refine HAL.out.mono ?_
      rintro e w1 ⟨rfl, hg1⟩
      go_wp2_with fail
      refine (HLG.out w1 hg1).mono ?_
      rintro e w2 ⟨rfl, hg2⟩
      go_wp2_with fail
      refine (HNEW.out w2 (hg1.trans hg2)).mono ?_
      rintro e w3 ⟨st, Gt, Gs, rfl, hS, ht, hs, hc, hg3⟩
      have hg12 := hg1.trans hg2
      have HO := hid (show Once w w3 (fun _ => False) st 0 [] (fun _ => none) from ⟨hg12.trans hg3, ⟨Gt, Gs, hS, fun j hj => Nat.le_trans hg12.size (ht j hj), fun j hj => Nat.le_trans hg12.size (hs j hj), fun j hj => hj.elim⟩, Nat.le_trans hg12.size hc, fun j hj => hj.elim⟩)
      clear hS ht hs hc hg3 hg12 hg1 hg2 HNEW HLG HAL
      go_upto_region 8 with fail
      have hul := wrap_u64_small xs.length HSH.out.1
      obtain ⟨m, hm, hix⟩ := ix23 again xs.length hxp HSH.out.1
      have HM := hid hm
      have HGW := hid HO.out.grew
      rcases HA.out.row with h0 | ⟨b, off, rfl, hb, hR⟩
      · exact absurd (by rw [h0]; rfl) (Nat.ne_of_gt hxp)
      obtain ⟨q0, q1, q2, q3, q4, q5, q6, q7, q8, q9, q10, q11, q12, q13, q14⟩ := ac_cells (W := w3) (b := b) (off := off + m * 15) (a := acAt xs m) (fun i v hv => (HGW.out.cells.1 _ _ hb).trans (hR m hm i v hv))
      have HF := hid (show OpRsAt w (acAt xs m).e.opsA (acAt xs m).e.ops ∧ AcFits (acAt xs m) from ⟨HA.out.ops m hm, hk m hm⟩)
      have HFS := hid (HSH.out.2 m hm)
      have hmi : (m : Int) < (xs.length : Int) := by omega
      have hmn : ¬ (m : Int) < 0 := by omega
      have HROW := hid hR
      clear hR hag hx hxs hm hk
      generalize acAt xs m = F at *
      obtain ⟨fkd, fat, fky, ⟨kind, shard, other, server, client, seq, key, upto, part, parts, ops, opsA, opsC, dataA, dataL, dataC⟩⟩ := F
      dsimp only at *
      go_upto_region 10 with fail
      clear q0 q1 q2 q3 q4 q5 q6 q7 q8 q9 q10 q11 q12 q13 q14
      obtain ⟨X, hX⟩ : ∃ X, X = w3.alloc (.cells #[.int .i64 fkd, .int .i64 fat, .string fky, .int .i64 kind, .int .i64 shard, .int .i64 other, .int .i64 server, .int .i64 client, .int .i64 seq, .slice opsA ops.length opsC, .string key, .int .i64 upto, .int .i64 part, .int .i64 parts, .slice dataA dataL dataC] 54) := ⟨_, rfl⟩
      have gX : Grew w3 X := by rw [hX]; exact (Grew.refl w3).alloc _
      have HO1 := hid (HO.out.add gX w3.heap.size (Nat.le_refl _) (by rw [hX]; simp))
      have hen := en_of (W := X) (e := ⟨kind, shard, other, server, client, seq, key, upto, part, parts, ops, opsA, opsC, dataA, dataL, dataC⟩) (HF.out.1.grew (HGW.out.trans gX)) ⟨HFS.out.1, HFS.out.2.1, HFS.out.2.2.2.2⟩
      have HEN := hid (hen.2)
      have HW := hid (onceWrite_any E ⟨kind, shard, other, server, client, seq, key, upto, part, parts, ops, opsA, opsC, dataA, dataL, dataC⟩ (HE.out.grew (HGW.out.trans gX)) hen.1 hen.2 fat HO1.out (by simp) (by decide))
      have HXC := hid (show ∀ k v, (Ac.mk fkd fat fky ⟨kind, shard, other, server, client, seq, key, upto, part, parts, ops, opsA, opsC, dataA, dataL, dataC⟩).vals[k]? = some v → X.cell? ⟨w3.heap.size, k, none⟩ = some v from by
        intro k v hv
        rw [hX, cell_block (heap_alloc_new w3 _)]
        exact hv)
      rw [← hX]
      clear hX hen
      refine HW.out.mono ?_
      rintro e w4 ⟨rfl, m1, hm1, hO4, hc4, hf4, _⟩
      have HWE := hid (write_err [] (fun _ => none) ⟨kind, shard, other, server, client, seq, key, upto, part, parts, ops, opsA, opsC, dataA, dataL, dataC⟩ fat)
      have HWF := hid (Pl.write_first [] ⟨kind, shard, other, server, client, seq, key, upto, part, parts, ops, opsA, opsC, dataA, dataL, dataC⟩ fat)
      have HWL := hid (Pl.write_len [] (fun _ => none) ⟨kind, shard, other, server, client, seq, key, upto, part, parts, ops, opsA, opsC, dataA, dataL, dataC⟩ fat)
      generalize Pl.writeP [] (fun _ => none) ⟨kind, shard, other, server, client, seq, key, upto, part, parts, ops, opsA, opsC, dataA, dataL, dataC⟩ fat = R at *
      obtain ⟨rc, ra, re, RP, RS⟩ := R
      dsimp only at *
      unfold ansAgg
      have HG4 := hid hO4.grew
      by_cases hre : re = 0
      · subst hre
        rw [errOf_zero]
        have hr1 := (HWF.out rfl).1
        have hr2 := (HWF.out rfl).2.1
        have hhad := (HWF.out rfl).2.2
        have HR12 := hid (And.intro hr1 hr2)
        have HHAD := hid hhad
        have HO4 := hid hO4
        have HC4 := hid hc4
        have HF4 := hid hf4
        have HM1 := hid hm1
        clear hr1 hr2 hhad hO4 hc4 hf4 hm1 HWE HWF
        go_upto_region 12 with fail
        obtain ⟨V, hV⟩ : ∃ V, V = w4.alloc (.cells #[.int .i64 rc, .int .i64 ra] 57) := ⟨_, rfl⟩
        have gV : Grew w4 V := by rw [hV]; exact (Grew.refl w4).alloc _
        have HAB := hid (show V.cell? ⟨w4.heap.size, 0, none⟩ = some (.int .i64 rc) ∧ V.cell? ⟨w4.heap.size, 1, none⟩ = some (.int .i64 ra) from by rw [hV]; exact ⟨by simp [go_sem], by simp [go_sem]⟩)
        have HFB := hid (show ∀ k v, (Ac.mk fkd fat fky ⟨kind, shard, other, server, client, seq, key, upto, part, parts, ops, opsA, opsC, dataA, dataL, dataC⟩).vals[k]? = some v → V.cell? ⟨w3.heap.size, k, none⟩ = some v from fun k v hv => (gV.cells.1 _ _ (HO4.out.bl _ (.inr rfl))).trans ((HC4.out _ (.inr rfl) k).trans (HXC.out k v hv)))
        have HOV := hid (HO4.out.addAll gV (fun j => j = w4.heap.size) (fun j hj => by subst hj; exact ⟨Nat.le_refl _, by rw [hV]; simp⟩))
        have hvs : w4.heap.size < V.heap.size := by rw [hV]; simp
        rw [← hV]
        clear hV gV HG4
        obtain ⟨fb, hfb⟩ : ∃ fb, fb = w3.heap.size := ⟨_, rfl⟩
        obtain ⟨ab, hab⟩ : ∃ ab, ab = w4.heap.size := ⟨_, rfl⟩
        rw [← hfb] at HFB HOV ⊢
        rw [← hab] at HAB HOV hvs ⊢
        have HR0 : Hid (RO w V V st fb ab ⟨kind, shard, other, server, client, seq, key, upto, part, parts, ops, opsA, opsC, dataA, dataL, dataC⟩ rc ra 0) := by
          obtain ⟨m1', hm1'⟩ : ∃ m1', m1' = m1 := ⟨_, rfl⟩
          exact ⟨⟨m1, RP, RS, by have := HM1.out; omega, by have := HWL.out; simp only [List.length_nil] at this; omega, HHAD.out, HOV.out.less (fun j hj => hj.elim (fun h => .inl (.inr h)) .inr)⟩, fun _ _ _ => rfl⟩
        clear HXC HO4 HC4 HF4 HM1 HHAD HWL HOV hvs hfb hab
        go_wp2_with fail
        go_loopw [62] (fun i wr => ∃ k : Nat, k ≤ xs.length ∧ i = .int .i64 k ∧ Hid (RO w V wr st fb ab ⟨kind, shard, other, server, client, seq, key, upto, part, parts, ops, opsA, opsC, dataA, dataL, dataC⟩ rc ra k)) (fun i _ => xs.length - (intOf i).toNat)
        case atStart => exact ⟨0, Nat.zero_le _, rfl, HR0⟩
        case round =>
          obtain ⟨k, hk1, rfl, HR⟩ := hrel
          by_cases hlt : k < xs.length
          · skip
            have hgw : Grew w wr := by obtain ⟨_, _, _, _, _, _, hO⟩ := HR.out.ex; exact hO.grew
            have hgr : ∀ i v, (acAt xs k).vals[i]? = some v → wr.cell? ⟨b, off + k * 15 + i, none⟩ = some v := fun i v hv => (hgw.cells.1 _ _ hb).trans (HROW.out k hlt i v hv)
            obtain ⟨q0, q1, q2, q3, q4, q5, q6, q7, q8, q9, q10, q11, q12, q13, q14⟩ := ac_cells (W := wr) (b := b) (off := off + k * 15) (a := acAt xs k) hgr
            have HQ := hid (show OpRsAt w (acAt xs k).e.opsA (acAt xs k).e.ops from HA.out.ops k hlt)
            have HQS := hid (HSH.out.2 k hlt)
            have HGW := hid hgw
            have hlti : (k : Int) < (xs.length : Int) := by omega
            have HK := hid (And.intro hlt HSH.out.1)
            clear hgr hgw
            generalize acAt xs k = Q at *
            obtain ⟨qkd, qat, qky, ⟨qkind, qshard, qother, qserver, qclient, qseq, qkey, qupto, qpart, qparts, qops, qopsA, qopsC, qdataA, qdataL, qdataC⟩⟩ := Q
            dsimp only at *
            go_upto_region 15 with fail
            clear q0 q1 q2 q3 q4 q5 q6 q7 q8 q9 q10 q11 q12 q13 q14
            obtain ⟨X1, hX1⟩ : ∃ X1, X1 = wr.alloc (.cells #[.int .i64 qkd, .int .i64 qat, .string qky, .int .i64 qkind, .int .i64 qshard, .int .i64 qother, .int .i64 qserver, .int .i64 qclient, .int .i64 qseq, .slice qopsA qops.length qopsC, .string qkey, .int .i64 qupto, .int .i64 qpart, .int .i64 qparts, .slice qdataA qdataL qdataC] 54) := ⟨_, rfl⟩
            have g1 : Grew wr X1 := by rw [hX1]; exact (Grew.refl wr).alloc _
            have HXB := hid (show ∀ i v, (Ac.mk qkd qat qky ⟨qkind, qshard, qother, qserver, qclient, qseq, qkey, qupto, qpart, qparts, qops, qopsA, qopsC, qdataA, qdataL, qdataC⟩).vals[i]? = some v → X1.cell? ⟨wr.heap.size, i, none⟩ = some v from by
              intro i v hv
              rw [hX1, cell_block (heap_alloc_new wr _)]
              exact hv)
            have hs1 : wr.heap.size < X1.heap.size := by rw [hX1]; simp
            rw [← hX1]
            clear hX1
            obtain ⟨n, P, S, hn, hP, hhad, hO⟩ := HR.out.ex
            have HO1 := hid (hO.addAll g1 (fun j => j = wr.heap.size) (fun j hj => by subst hj; exact ⟨Nat.le_refl _, hs1⟩))
            have HRC := hid (fun b (hb : b = fb ∨ b = ab) o => ((g1.cells.1 b o (hO.bl b hb)).trans (HR.out.cell b hb o)))
            have HNP := hid (And.intro hn (And.intro hP hhad))
            obtain ⟨kb, hkb⟩ : ∃ kb, kb = wr.heap.size := ⟨_, rfl⟩
            rw [← hkb] at HXB HO1 hs1 ⊢
            clear hkb g1 hO hn hP hhad HR
            obtain ⟨Ft, Fs, ⟨tb, sb, hS⟩, _⟩ := HO1.out.is
            have c0 := hS.c0
            have hst := cell_lt c0
            have HSC := hid (scanT_any hTS E (HE.out.grew HO1.out.grew) hS.tab (by have := HNP.out.2.1; have := HK.out; omega) ⟨#[]⟩ ⟨#[]⟩ 1000 (by decide) (by decide))
            clear hS
            go_wp2_with fail
            refine HSC.out.mono ?_
            rintro e w5 ⟨⟨v5, rfl, hrow5⟩, hg5⟩
            obtain ⟨a5, cap5, rfl, hb5, hp5⟩ := pairsAt_new hrow5
            have HO5 := hid (HO1.out.addAll hg5 (fun j => Pl.scanT P ⟨#[]⟩ ⟨#[]⟩ 1000 ≠ [] ∧ ∃ off, a5 = some ⟨j, off, none⟩) hb5)
            have HP5 := hid hp5
            have HRC5 := hid (fun b (hb : b = fb ∨ b = ab) o => (hg5.cells.1 b o (HO1.out.bl b (.inl hb))).trans (HRC.out b hb o))
            have HXB5 := hid (fun i v hv => (hg5.cells.1 kb i hs1).trans (HXB.out i v hv))
            have hs5 : kb < w5.heap.size := Nat.lt_of_lt_of_le hs1 hg5.size
            clear hrow5 hb5 hp5 HXB HRC HSC hg5 c0 hst hs1
            have HQL := hid (show (Pl.scanT P ⟨#[]⟩ ⟨#[]⟩ 1000).length ≤ 1000 from by unfold Pl.scanT; rw [List.length_take]; omega)
            generalize hsq : Pl.scanT P ⟨#[]⟩ ⟨#[]⟩ 1000 = sq at *
            have HSQ := hid hsq
            clear hsq
            go_upto_region 16 with fail
            have d1 : w5.cell? ⟨kb, 1, none⟩ = some (.int .i64 qat) := HXB5.out 1 _ rfl
            have d3 : w5.cell? ⟨kb, 3, none⟩ = some (.int .i64 qkind) := HXB5.out 3 _ rfl
            have d4 : w5.cell? ⟨kb, 4, none⟩ = some (.int .i64 qshard) := HXB5.out 4 _ rfl
            have d5 : w5.cell? ⟨kb, 5, none⟩ = some (.int .i64 qother) := HXB5.out 5 _ rfl
            have d6 : w5.cell? ⟨kb, 6, none⟩ = some (.int .i64 qserver) := HXB5.out 6 _ rfl
            have d7 : w5.cell? ⟨kb, 7, none⟩ = some (.int .i64 qclient) := HXB5.out 7 _ rfl
            have d8 : w5.cell? ⟨kb, 8, none⟩ = some (.int .i64 qseq) := HXB5.out 8 _ rfl
            have d9 : w5.cell? ⟨kb, 9, none⟩ = some (.slice qopsA qops.length qopsC) := HXB5.out 9 _ rfl
            have d10 : w5.cell? ⟨kb, 10, none⟩ = some (.string qkey) := HXB5.out 10 _ rfl
            have d11 : w5.cell? ⟨kb, 11, none⟩ = some (.int .i64 qupto) := HXB5.out 11 _ rfl
            have d12 : w5.cell? ⟨kb, 12, none⟩ = some (.int .i64 qpart) := HXB5.out 12 _ rfl
            have d13 : w5.cell? ⟨kb, 13, none⟩ = some (.int .i64 qparts) := HXB5.out 13 _ rfl
            have d14 : w5.cell? ⟨kb, 14, none⟩ = some (.slice qdataA qdataL qdataC) := HXB5.out 14 _ rfl
            have hqn := en_of (W := w5) (e := ⟨qkind, qshard, qother, qserver, qclient, qseq, qkey, qupto, qpart, qparts, qops, qopsA, qopsC, qdataA, qdataL, qdataC⟩) (HQ.out.grew HO5.out.grew) ⟨HQS.out.1, HQS.out.2.1, HQS.out.2.2.2.2⟩
            have HW5 := hid (onceWrite_any E ⟨qkind, qshard, qother, qserver, qclient, qseq, qkey, qupto, qpart, qparts, qops, qopsA, qopsC, qdataA, qdataL, qdataC⟩ (HE.out.grew HO5.out.grew) hqn.1 hqn.2 qat HO5.out (by have := HNP.out.2.1; have := HK.out; omega) (by have := HNP.out.1; have := HK.out; omega))
            have HWT := hid (Pl.write_table P S ⟨qkind, qshard, qother, qserver, qclient, qseq, qkey, qupto, qpart, qparts, qops, qopsA, qopsC, qdataA, qdataL, qdataC⟩ qat)
            have HWN := hid (Pl.write_len P S ⟨qkind, qshard, qother, qserver, qclient, qseq, qkey, qupto, qpart, qparts, qops, qopsA, qopsC, qdataA, qdataL, qdataC⟩ qat)
            have HWD := hid (Pl.write_had (P := P) HNP.out.2.2 ⟨qkind, qshard, qother, qserver, qclient, qseq, qkey, qupto, qpart, qparts, qops, qopsA, qopsC, qdataA, qdataL, qdataC⟩ qat)
            clear hqn
            unfold En.agg En.vals at HW5
            dsimp only at HW5
            generalize Pl.writeP P S ⟨qkind, qshard, qother, qserver, qclient, qseq, qkey, qupto, qpart, qparts, qops, qopsA, qopsC, qdataA, qdataL, qdataC⟩ qat = R at *
            obtain ⟨yc, ya, ye, YP, YS⟩ := R
            dsimp only at *
            unfold ansAgg at HW5
            go_wp2_with fail
            refine HW5.out.mono ?_
            rintro e w6 ⟨rfl, m6, hm6, hO6, hc6, hf6, hz6⟩
            have HO6 := hid hO6
            have HP6 := hid (HP5.out.same hz6 (fun b hb => hc6 b (.inr hb)))
            have HRC6 := hid (fun b (hb : b = fb ∨ b = ab) o => (hc6 b (.inl (.inl hb)) o).trans (HRC5.out b hb o))
            have e6 := (hc6 kb (.inl (.inr rfl)) 1).trans d1
            have hs6 : kb < w6.heap.size := Nat.lt_of_lt_of_le hs5 hz6
            have HM6 := hid hm6
            clear d1 d3 d4 d5 d6 d7 d8 d9 d10 d11 d12 d13 d14 HW5 hc6 hf6 hO6 hm6 hz6 hs5 HRC5 HO5 HP5 HXB5
            go_upto_region 17 with fail
            obtain ⟨X7, hX7⟩ : ∃ X7, X7 = w6.alloc (.cells #[.int .i64 yc, .int .i64 ya] 57) := ⟨_, rfl⟩
            have g7 : Grew w6 X7 := by rw [hX7]; exact (Grew.refl w6).alloc _
            have x0 : X7.cell? ⟨w6.heap.size, 0, none⟩ = some (.int .i64 yc) := by rw [hX7]; simp [go_sem]
            have x1 : X7.cell? ⟨w6.heap.size, 1, none⟩ = some (.int .i64 ya) := by rw [hX7]; simp [go_sem]
            have e7 := (g7.cells.1 kb 1 hs6).trans e6
            have HO7 := hid (HO6.out.more g7)
            have HP7 := hid (HP6.out.grew g7)
            have HRC7 := hid (fun b (hb : b = fb ∨ b = ab) o => (g7.cells.1 b o (HO6.out.bl b (.inl (.inl hb)))).trans (HRC6.out b hb o))
            have hx7 : w6.heap.size < X7.heap.size := by rw [hX7]; simp
            have hk7 : kb < X7.heap.size := by omega
            rw [← hX7]
            clear hX7 g7 e6 hs6 HO6 HP6 HRC6
            obtain ⟨bb, hbb⟩ : ∃ bb : Bool, bb = !(decide (ye = 0) && decide (yc = 1) && decide (ya = qat)) := ⟨_, rfl⟩
            have HBB := hid hbb
            clear hbb
            go_cut [13, 94] (fun s3 s wx => s3 = errOf E ye ∧ s = .bool bb ∧ wx = X7)
            case first =>
              by_cases hye : ye = 0
              · subst hye
                rw [errOf_zero]
                by_cases hyc : yc = 1
                · subst hyc
                  by_cases hya : ya = qat
                  · subst hya
                    go_wp2_with fail
                    go_meet
                    exact ⟨rfl, by rw [HBB.out]; simp, rfl⟩
                  · have hyb : (ya == qat) = false := beq_eq_false_iff_ne.2 hya
                    go_wp2_with fail
                    go_meet
                    exact ⟨rfl, by rw [HBB.out]; simp [hya], rfl⟩
                · have hyb : (yc == 1) = false := beq_eq_false_iff_ne.2 hyc
                  go_wp2_with fail
                  go_meet
                  exact ⟨rfl, by rw [HBB.out]; simp [hyc], rfl⟩
              · rw [errOf_pos E ye hye]
                go_wp2_with fail
                go_meet
                exact ⟨(errOf_pos E ye hye).symm, by rw [HBB.out]; simp [hye], rfl⟩
            case rest =>
              obtain ⟨rfl, rfl, hwc⟩ := hcut
              have hwc := hwc.symm
              subst hwc
              have HBP := hid (show bb = true → YP = P from fun hb => by
                rw [HBB.out] at hb
                refine HWT.out ?_
                by_cases h1 : ye = 0
                · by_cases h2 : yc = 1
                  · by_cases h3 : ya = qat
                    · rw [decide_eq_true h1, decide_eq_true h2, decide_eq_true h3] at hb; cases hb
                    · exact .inr (.inr h3)
                  · exact .inr (.inl h2)
                · exact .inl h1)
              clear HBB HWT x0 x1 e7 hx7 hk7
              go_upto_if 94 with fail
              go_cut [94] (fun s wx => Grew X7 wx)
              case first =>
                cases bb with
                | false =>
                  go_wp2_with fail
                  go_meet
                  exact Grew.refl _
                | true =>
                  have hYP := HBP.out rfl
                  obtain ⟨Ft2, Fs2, ⟨tb2, sb2, hS2⟩, _⟩ := HO7.out.is
                  rw [hYP] at hS2
                  have c02 := hS2.c0
                  have HT2 := hid hS2.tab
                  have hst2 := cell_lt c02
                  have HSC2 := hid (fun W (g : Grew X7 W) => scanT_any hTS E (HE.out.grew (HO7.out.grew.trans g)) (HT2.out.grew g) (by have := HNP.out.2.1; have := HK.out; omega) ⟨#[]⟩ ⟨#[]⟩ 1000 (by decide) (by decide))
                  rw [HSQ.out] at HSC2
                  clear hS2 hYP
                  go_wp2_with fail
                  refine (HSC2.out _ (Grew.refl _)).mono ?_
                  rintro e w8 ⟨⟨v8, rfl, hrow8⟩, hg8⟩
                  obtain ⟨a8, cap8, rfl, hp8⟩ := pairsAt_of hrow8
                  have HP8 := hid hp8
                  have HG8 := hid hg8
                  clear hrow8 hp8 hg8 c02 HSC2
                  go_wp2_with fail
                  refine (samePairs_same w8 a5 a8 cap5 cap8 sq (HP7.out.grew HG8.out) HP8.out (by have := HQL.out; omega)).mono ?_
                  rintro e w9 ⟨rfl, hg9⟩
                  go_wp2_with fail
                  go_meet
                  exact HG8.out.trans hg9
              case rest =>
                have hgx := hcut
                have HOX := hid (HO7.out.more hgx)
                have HRCX := hid (fun b (hb : b = fb ∨ b = ab) o => (hgx.cells.1 b o (HO7.out.bl b (.inl (.inl hb)))).trans (HRC7.out b hb o))
                have HYL := hid (show YP.length ≤ 248 from by have := HWN.out; have := HNP.out.2.1; have := HK.out; omega)
                clear hgx HO7 HRC7 HP7 HSQ HQL HBP
                obtain ⟨Ft3, Fs3, hS3, _⟩ := HOX.out.is
                have HS3 := hid hS3
                have HCP := hid (copyS_any hS3 (by have := HYL.out; omega))
                clear hS3
                go_wp2_with fail
                refine HCP.out.mono ?_
                rintro e w8 ⟨cb, Gt, Gs, rfl, hC, hc1, hc2, hc3, hg8⟩
                have HC := hid hC
                have HCN := hid (And.intro hc1 hc3)
                have HG8 := hid hg8
                have HRC8 := hid (fun b (hb : b = fb ∨ b = ab) o => (hg8.cells.1 b o (HOX.out.bl b (.inl (.inl hb)))).trans (HRCX.out b hb o))
                clear hC hc1 hc2 hc3 hg8 HCP
                go_upto_region 21 with fail
                have f1 : w8.cell? ⟨fb, 1, none⟩ = some (.int .i64 fat) := (HRC8.out fb (.inl rfl) 1).trans (HFB.out 1 _ rfl)
                have f3 : w8.cell? ⟨fb, 3, none⟩ = some (.int .i64 kind) := (HRC8.out fb (.inl rfl) 3).trans (HFB.out 3 _ rfl)
                have f4 : w8.cell? ⟨fb, 4, none⟩ = some (.int .i64 shard) := (HRC8.out fb (.inl rfl) 4).trans (HFB.out 4 _ rfl)
                have f5 : w8.cell? ⟨fb, 5, none⟩ = some (.int .i64 other) := (HRC8.out fb (.inl rfl) 5).trans (HFB.out 5 _ rfl)
                have f6 : w8.cell? ⟨fb, 6, none⟩ = some (.int .i64 server) := (HRC8.out fb (.inl rfl) 6).trans (HFB.out 6 _ rfl)
                have f7 : w8.cell? ⟨fb, 7, none⟩ = some (.int .i64 client) := (HRC8.out fb (.inl rfl) 7).trans (HFB.out 7 _ rfl)
                have f8 : w8.cell? ⟨fb, 8, none⟩ = some (.int .i64 seq) := (HRC8.out fb (.inl rfl) 8).trans (HFB.out 8 _ rfl)
                have f9 : w8.cell? ⟨fb, 9, none⟩ = some (.slice opsA ops.length opsC) := (HRC8.out fb (.inl rfl) 9).trans (HFB.out 9 _ rfl)
                have f10 : w8.cell? ⟨fb, 10, none⟩ = some (.string key) := (HRC8.out fb (.inl rfl) 10).trans (HFB.out 10 _ rfl)
                have f11 : w8.cell? ⟨fb, 11, none⟩ = some (.int .i64 upto) := (HRC8.out fb (.inl rfl) 11).trans (HFB.out 11 _ rfl)
                have f12 : w8.cell? ⟨fb, 12, none⟩ = some (.int .i64 part) := (HRC8.out fb (.inl rfl) 12).trans (HFB.out 12 _ rfl)
                have f13 : w8.cell? ⟨fb, 13, none⟩ = some (.int .i64 parts) := (HRC8.out fb (.inl rfl) 13).trans (HFB.out 13 _ rfl)
                have f14 : w8.cell? ⟨fb, 14, none⟩ = some (.slice dataA dataL dataC) := (HRC8.out fb (.inl rfl) 14).trans (HFB.out 14 _ rfl)
                have hfn := en_of (W := w8) (e := ⟨kind, shard, other, server, client, seq, key, upto, part, parts, ops, opsA, opsC, dataA, dataL, dataC⟩) (HF.out.1.grew (HOX.out.grew.trans HG8.out)) ⟨HFS.out.1, HFS.out.2.1, HFS.out.2.2.2.2⟩
                have HW8 := hid (write_any E ⟨kind, shard, other, server, client, seq, key, upto, part, parts, ops, opsA, opsC, dataA, dataL, dataC⟩ (HE.out.grew (HOX.out.grew.trans HG8.out)) hfn.1 hfn.2 fat HC.out (by have := HYL.out; omega) (by have := HM6.out; have := HNP.out.1; have := HK.out; omega))
                have hag := Pl.write_again (P := YP) HWD.out HR12.out.1 fat HR12.out.2
                clear hfn
                unfold En.agg En.vals at HW8
                dsimp only at HW8
                generalize Pl.writeP YP YS ⟨kind, shard, other, server, client, seq, key, upto, part, parts, ops, opsA, opsC, dataA, dataL, dataC⟩ fat = R2 at *
                obtain ⟨zc, za, ze, ZP, ZS⟩ := R2
                dsimp only at *
                unfold ansAgg at HW8
                obtain ⟨rfl, rfl, rfl, hzz⟩ := hag
                rw [errOf_zero] at HW8
                have HZZ := hid hzz
                clear hzz
                go_wp2_with fail
                refine HW8.out.mono ?_
                rintro e w9 ⟨rfl, m9, hm9, hw9⟩
                have hgt : Grew wc w9 := ((HG8.out.only _).then hw9.1).grew (fun j hj => by
                  rcases hj with rfl | hj
                  · exact HCN.out.1
                  · exact HCN.out.2 j hj)
                obtain ⟨Gt9, hC9, _⟩ := hw9.2
                have HC9 := hid hC9
                have HM9 := hid hm9
                have HGT := hid hgt
                clear f1 f3 f4 f5 f6 f7 f8 f9 f10 f11 f12 f13 f14 HW8 hw9 hC9 hm9 hgt HRC8 HC HCN HG8
                go_upto_region 22 with fail
                obtain ⟨Y, hY⟩ : ∃ Y, Y = w9.alloc (.cells #[.int .i64 zc, .int .i64 za] 57) := ⟨_, rfl⟩
                have gY : Grew w9 Y := by rw [hY]; exact (Grew.refl w9).alloc _
                have y0 : Y.cell? ⟨w9.heap.size, 0, none⟩ = some (.int .i64 zc) := by rw [hY]; simp [go_sem]
                have y1 : Y.cell? ⟨w9.heap.size, 1, none⟩ = some (.int .i64 za) := by rw [hY]; simp [go_sem]
                have hsy : w9.heap.size < Y.heap.size := by rw [hY]; simp
                have HGY := hid (HGT.out.trans gY)
                have HOY := hid (HOX.out.more HGY.out)
                have HRCY := hid (fun b (hb : b = fb ∨ b = ab) o => (HGY.out.cells.1 b o (HOX.out.bl b (.inl (.inl hb)))).trans (HRCX.out b hb o))
                have HTB := hid (show (Pl.tabB ZP).length ≤ 60000 from by
                  obtain ⟨tb3, sb3, h3⟩ := HS3.out
                  have := Pl.tabB_len h3.good (by have := HYL.out; omega)
                  have := HYL.out
                  omega)
                have HSB := hid (show (seenB ZS).length ≤ 1000 from by
                  obtain ⟨tb3, sb3, h3⟩ := HS3.out
                  exact Pl.seenB_len h3.seen.ok)
                have HSAME := hid (fun W (g : Grew Y W) => sameS_any (HC9.out.grew (gY.trans g)) (HS3.out.grew (HGY.out.trans g)) (by have := HYL.out; omega) (by have := HM9.out; have := HM6.out; have := HNP.out.1; have := HK.out; omega) (by have := HM6.out; have := HNP.out.1; have := HK.out; omega) (by decide) (by decide) HTB.out HSB.out)
                have y2 := (HRCY.out ab (.inr rfl) 0).trans HAB.out.1
                have y3 := (HRCY.out ab (.inr rfl) 1).trans HAB.out.2
                have hsab : ab < Y.heap.size := HOY.out.bl ab (.inl (.inl (.inr rfl)))
                have HRO := hid (fun W (g : Grew Y W) => show RO w V W st fb ab ⟨kind, shard, other, server, client, seq, key, upto, part, parts, ops, opsA, opsC, dataA, dataL, dataC⟩ rc ra (k + 1) from
                  ⟨⟨m6, ZP, ZS, by have := HM6.out; have := HNP.out.1; omega, by have := HWN.out; have := HNP.out.2.1; omega, HWD.out, (HOY.out.more g).less (fun j hj => .inl (.inl hj))⟩,
                   fun b hb o => (g.cells.1 b o (HOY.out.bl b (.inl (.inl hb)))).trans (HRCY.out b hb o)⟩)
                rw [← hY]
                clear hY gY HC9 HGT HGY HOX HRCX HS3 HTB HSB HOY HRCY HWD HWN HYL HM9 HM6 HNP HO1 HAB HFB HR0
                go_wp2_with fail
                refine (HSAME.out _ (Grew.refl _)).mono ?_
                rintro e w10 ⟨rfl, hg10⟩
                have z0 := (hg10.cells.1 _ 0 hsy).trans y0
                have z1 := (hg10.cells.1 _ 1 hsy).trans y1
                have z2 := (hg10.cells.1 _ 0 hsab).trans y2
                have z3 := (hg10.cells.1 _ 1 hsab).trans y3
                have hsy' := Nat.lt_of_lt_of_le hsy hg10.size
                have hsab' := Nat.lt_of_lt_of_le hsab hg10.size
                have HRN := hid (HRO.out w10 hg10)
                have hk9 : k < 1000000 := by have := HK.out; omega
                clear y0 y1 y2 y3 hsy hsab HSAME HRO hg10
                by_cases hq : zc = rc ∧ za = ra
                · obtain ⟨rfl, rfl⟩ := hq
                  clear HZZ
                  go_wp2_with fail
                  go_roundw
                  case rel =>
                    obtain ⟨hk5, hk6⟩ := HK.out
                    exact ⟨k + 1, by omega, by go_num, HRN⟩
                  case measure =>
                    obtain ⟨hk5, hk6⟩ := HK.out
                    simp [intOf]; omega
                · have h4 : zc = 4 := by
                    rcases HZZ.out with h | h
                    · exact absurd h hq
                    · exact h
                  subst h4
                  have hne : ((4 : Int) == rc && (za == ra)) = false := by
                    cases hh : ((4 : Int) == rc && (za == ra)) with
                    | false => rfl
                    | true =>
                      simp only [Bool.and_eq_true, beq_iff_eq] at hh
                      exact absurd hh hq
                  clear HZZ hq
                  go_wp2_with fail
                  all_goals
                    go_roundw
                    case rel =>
                      obtain ⟨hk5, hk6⟩ := HK.out
                      exact ⟨k + 1, by omega, by go_num, HRN⟩
                    case measure =>
                      obtain ⟨hk5, hk6⟩ := HK.out
                      simp [intOf]; omega
          · have hke : k = xs.length := by omega
            subst hke
            have HGE : Hid (Grew w wr) := by obtain ⟨_, _, _, _, _, _, hO⟩ := HR.out.ex; exact hO.grew
            go_wp2_with fail
            go_ret
            exact ⟨rfl, HGE.out⟩
      · obtain ⟨rfl, rfl⟩ := HWE.out hre
        rw [errOf_pos E re hre]
        clear hO4 hc4 hf4 hm1 HWE HWF HWL
        go_wp2_with fail
        go_ret
        exact ⟨rfl, HG4.out.alloc _⟩
end Go.Proofs.YtifcnammekbfoaaGreatDoor
