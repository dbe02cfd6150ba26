/- Rows20, IdxSh, Ent1, IdxOpBad: one text. -/
import Derived.Test.YtbdagllflamabaaGreatDoorFinAuditApartQ3
import Derived.Test.YtbdagllflamabaaGreatDoorFinAuditApartQ1
import Derived.Test.YtbdagllflamabaaGreatDoorFinAuditApartQ2
import Derived.Deep.QuietTactic
import Derived.BigQuiet
namespace Go.Proofs.YtbdagllflamabaaGreatDoor
open Go.RowKit
structure Sh where
  id : Int
  server : Int
  since : Int
  lo : ByteArray
  hi : ByteArray
def Sh.none : Sh := ⟨0, 0, 0, ⟨#[]⟩, ⟨#[]⟩⟩
instance : Inhabited Sh := ⟨Sh.none⟩
def Sh.vals (c : Sh) : List Value := [.int .i64 c.id, .int .i64 c.server, .int .i64 c.since, .string c.lo, .string c.hi]
def shAt (xs : List Sh) (j : Nat) : Sh := xs[j]?.getD Sh.none
def shFlat (xs : List Sh) : List Value := xs.flatMap Sh.vals
theorem shAt_eq (xs : List Sh) (i : Nat) (hi : i < xs.length) : shAt xs i = xs[i] := by unfold shAt; rw [List.getElem?_eq_getElem hi]; rfl
theorem shAt_mem (xs : List Sh) (k : Nat) (h : k < xs.length) : shAt xs k ∈ xs := by rw [shAt_eq xs k h]; exact List.getElem_mem h
theorem shFlat_length (xs : List Sh) : (shFlat xs).length = xs.length * 5 := by
  induction xs with
  | nil => rfl
  | cons c xs ih => unfold shFlat at ih ⊢; rw [List.flatMap_cons, List.length_append, ih]; simp [Sh.vals]; omega
theorem shFlat_get (i : Nat) (hi : i < 5) : ∀ (xs : List Sh) (j : Nat), j < xs.length → (shFlat xs)[j * 5 + i]? = (shAt xs j).vals[i]? := by
  intro xs
  induction xs with
  | nil => intro j hj; simp at hj
  | cons c xs ih =>
    intro j hj
    unfold shFlat at ih ⊢
    rw [List.flatMap_cons]
    cases j with
    | zero => rw [List.getElem?_append_left (by simp [Sh.vals]; omega)]; simp [shAt]
    | succ j =>
      rw [List.getElem?_append_right (by simp [Sh.vals]; omega)]
      have e : (j + 1) * 5 + i - c.vals.length = j * 5 + i := by simp [Sh.vals]; omega
      rw [e, ih j (by simpa using hj)]
      simp [shAt]
theorem shFlat_append (xs ys : List Sh) : shFlat (xs ++ ys) = shFlat xs ++ shFlat ys := by unfold shFlat; rw [List.flatMap_append]
theorem shFlat_one (c : Sh) : shFlat [c] = c.vals := by simp [shFlat]
theorem shFlat_take (xs : List Sh) (i : Nat) : shFlat (xs.take i) = (shFlat xs).take (i * 5) := by
  by_cases h : i ≤ xs.length
  · have e : shFlat xs = shFlat (xs.take i) ++ shFlat (xs.drop i) := by rw [← shFlat_append, List.take_append_drop]
    have h2 : (shFlat (xs.take i)).length = i * 5 := by rw [shFlat_length, List.length_take]; omega
    rw [e, ← h2, List.take_left]
  · have h2 : (shFlat xs).length ≤ i * 5 := by rw [shFlat_length]; omega
    rw [List.take_of_length_le (show xs.length ≤ i by omega), List.take_of_length_le h2]
theorem shFlat_drop (xs : List Sh) (i : Nat) : shFlat (xs.drop i) = (shFlat xs).drop (i * 5) := by
  by_cases h : i ≤ xs.length
  · have e : shFlat xs = shFlat (xs.take i) ++ shFlat (xs.drop i) := by rw [← shFlat_append, List.take_append_drop]
    have h2 : (shFlat (xs.take i)).length = i * 5 := by rw [shFlat_length, List.length_take]; omega
    rw [e, ← h2, List.drop_left]
  · have h2 : (shFlat xs).length ≤ i * 5 := by rw [shFlat_length]; omega
    rw [List.drop_of_length_le (show xs.length ≤ i by omega), List.drop_of_length_le h2]; rfl
structure ShRow (W : World) (b off : Nat) (xs : List Sh) : Prop where
  id : ∀ j, j < xs.length → W.cell? ⟨b, off + j * 5, Option.none⟩ = some (.int .i64 (shAt xs j).id)
  server : ∀ j, j < xs.length → W.cell? ⟨b, off + j * 5 + 1, Option.none⟩ = some (.int .i64 (shAt xs j).server)
  since : ∀ j, j < xs.length → W.cell? ⟨b, off + j * 5 + 2, Option.none⟩ = some (.int .i64 (shAt xs j).since)
  lo : ∀ j, j < xs.length → W.cell? ⟨b, off + j * 5 + 3, Option.none⟩ = some (.string (shAt xs j).lo)
  hi : ∀ j, j < xs.length → W.cell? ⟨b, off + j * 5 + 4, Option.none⟩ = some (.string (shAt xs j).hi)
theorem ShRow.grew {W W' : World} {b off : Nat} {xs : List Sh} (h : ShRow W b off xs) (g : Grew W W') (hb : b < W.heap.size) : ShRow W' b off xs :=
  ⟨fun j hj => (g.cells.1 _ _ hb).trans (h.id j hj), fun j hj => (g.cells.1 _ _ hb).trans (h.server j hj), fun j hj => (g.cells.1 _ _ hb).trans (h.since j hj), fun j hj => (g.cells.1 _ _ hb).trans (h.lo j hj), fun j hj => (g.cells.1 _ _ hb).trans (h.hi j hj)⟩
def ShsAt (W : World) (a : Option Addr) (xs : List Sh) : Prop := xs = [] ∨ ∃ b off, a = some ⟨b, off, Option.none⟩ ∧ b < W.heap.size ∧ ShRow W b off xs
theorem ShsAt.grew {W W' : World} {a : Option Addr} {xs : List Sh} (h : ShsAt W a xs) (g : Grew W W') : ShsAt W' a xs := by
  rcases h with h | ⟨b, off, e, hb, h⟩
  · exact .inl h
  · exact .inr ⟨b, off, e, Nat.lt_of_lt_of_le hb g.size, h.grew g hb⟩
theorem shsAt_of {W : World} {B : Nat} {v : Value} {xs : List Sh} (h : W.ownsRow B 118 5 v xs.length (shFlat xs)) : ∃ a cap, v = .slice a xs.length cap ∧ ShsAt W a xs := by
  rcases Nat.eq_zero_or_pos xs.length with h0 | h0
  · have hx : xs = [] := List.eq_nil_of_length_eq_zero h0
    rcases h.2 with ⟨rfl, _⟩ | ⟨g, cap, cur, rfl, _, hg, _⟩
    · exact ⟨Option.none, 0, by rw [h0], .inl hx⟩
    · exact ⟨_, _, rfl, .inl hx⟩
  · obtain ⟨g, cap, rfl, _, hlt⟩ := h.form h0
    refine ⟨_, _, rfl, .inr ⟨g, 0, rfl, hlt, ?_, ?_, ?_, ?_, ?_⟩⟩ <;> intro j hj
    · have := h.cellAt (j * 5 + 0) (by omega); rw [shFlat_get 0 (by omega) xs j hj] at this; rw [Nat.zero_add]; exact this
    · have := h.cellAt (j * 5 + 1) (by omega); rw [shFlat_get 1 (by omega) xs j hj] at this; rw [Nat.zero_add]; exact this
    · have := h.cellAt (j * 5 + 2) (by omega); rw [shFlat_get 2 (by omega) xs j hj] at this; rw [Nat.zero_add]; exact this
    · have := h.cellAt (j * 5 + 3) (by omega); rw [shFlat_get 3 (by omega) xs j hj] at this; rw [Nat.zero_add]; exact this
    · have := h.cellAt (j * 5 + 4) (by omega); rw [shFlat_get 4 (by omega) xs j hj] at this; rw [Nat.zero_add]; exact this
theorem shFlat_one' (xs : List Sh) : ∀ u ∈ shFlat xs, u.oneCell' = true := by
  intro u hu
  unfold shFlat at hu
  obtain ⟨c, _, hc⟩ := List.mem_flatMap.1 hu
  simp [Sh.vals] at hc
  rcases hc with rfl | rfl | rfl | rfl | rfl <;> rfl
def Sh.aggOf (c : Sh) : Value := .agg c.vals.toArray
end Go.Proofs.YtbdagllflamabaaGreatDoor
namespace Go.Proofs.YtbdagllflamabaaGreatDoor
open Go.RowKit
attribute [local go_sem] Oper.semAt_some
set_option maxRecDepth 100000 in
set_option maxHeartbeats 1000000 in
theorem idxShardFind (p : Sh → Bool) (cb : Nat) (a : Option Addr) (cap : Nat) (xs : List Sh) (w : World) (hA : ShsAt w a xs) (hx : xs.length ≤ 1000000)
    (hp : ∀ j, j < xs.length → ∀ W, Grew w W → Calls Tryz.prog 141 #[(shAt xs j).aggOf, .pointer (some ⟨cb, 0, none⟩)] W fun e W' => e = .returned (.bool (p (shAt xs j))) ∧ Grew W W') :
    Calls Tryz.prog 95 #[.slice a xs.length cap, .func (.func 141) #[] #[.pointer (some ⟨cb, 0, none⟩)]] w fun e w' => e = .returned (.int .i64 (idxI p xs)) ∧ Grew w w' := by
  have HA := hid hA
  have HP := hid hp
  clear hA hp
  go_enter Tryz.func95, Tryz.ntmps95
  go_wp2_with fail
  go_loopw [8] (fun i wr => ∃ k : Nat, k ≤ xs.length ∧ i = .int .i64 k ∧ Hid ((xs.take k).all (fun c => !p c) = true) ∧ Grew w wr) (fun i _ => xs.length - (intOf i).toNat)
  case atStart => exact ⟨0, Nat.zero_le _, rfl, rfl, Grew.refl w⟩
  case round =>
    obtain ⟨k, hk1, rfl, HN, hG⟩ := hrel
    by_cases hlt : k < xs.length
    · rcases HA.out with h0 | ⟨b, off, rfl, hb, hR⟩
      · rw [h0] at hlt; simp at hlt
      have q0 := (hG.cells.1 b (off + k * 5) hb).trans (hR.id k hlt)
      have q1 := (hG.cells.1 b (off + k * 5 + 1) hb).trans (hR.server k hlt)
      have q2 := (hG.cells.1 b (off + k * 5 + 2) hb).trans (hR.since k hlt)
      have q3 := (hG.cells.1 b (off + k * 5 + 3) hb).trans (hR.lo k hlt)
      have q4 := (hG.cells.1 b (off + k * 5 + 4) hb).trans (hR.hi k hlt)
      have HC := hid (HP.out k hlt)
      have hat : shAt xs k = xs[k] := shAt_eq xs k hlt
      have HAT := hid hat
      clear hR hat
      have HS := hid (idx_some p xs k hlt HN.out)
      have HN2 := hid (idx_next p xs k hlt HN.out)
      rw [← HAT.out] at HS HN2
      generalize shAt xs k = c at *
      clear HAT
      unfold Sh.aggOf at HC
      cases hpc : p c with
      | true =>
        rw [hpc] at HC
        have HS2 := hid (HS.out hpc)
        obtain ⟨c0, c1, c2, c3, c4⟩ := c
        dsimp only [Sh.vals] at *
        clear hpc HS HN2
        go_wp2_with fail
        refine (HC.out _ hG).mono ?_
        rintro e w1 ⟨rfl, hg1⟩
        go_wp2_with fail
        go_ret
        exact ⟨ret_int HS2.out.symm, hG.trans hg1⟩
      | false =>
        rw [hpc] at HC
        have HS2 := hid (HN2.out hpc)
        obtain ⟨c0, c1, c2, c3, c4⟩ := c
        dsimp only [Sh.vals] at *
        clear hpc HS HN2
        go_wp2_with fail
        refine (HC.out _ hG).mono ?_
        rintro e w1 ⟨rfl, hg1⟩
        go_wp2_with fail
        go_roundw
        case rel => exact ⟨k + 1, by omega, by go_num, HS2, hG.trans hg1⟩
        case measure => simp [intOf]; omega
    · obtain rfl : k = xs.length := by omega
      have HE := hid (idx_none p xs (by have := HN.out; rwa [List.take_length] at this))
      go_wp2_with fail
      go_ret
      exact ⟨ret_int HE.out.symm, hG⟩
end Go.Proofs.YtbdagllflamabaaGreatDoor
namespace Go.Proofs.YtbdagllflamabaaGreatDoor
open Go.RowKit
attribute [local go_sem] Oper.semAt_some
set_option maxRecDepth 100000 in
set_option maxHeartbeats 1000000 in
theorem idxShardOwner (p : Sh → Bool) (cb : Nat) (a : Option Addr) (cap : Nat) (xs : List Sh) (w : World) (hA : ShsAt w a xs) (hx : xs.length ≤ 1000000)
    (hp : ∀ j, j < xs.length → ∀ W, Grew w W → Calls Tryz.prog 96 #[(shAt xs j).aggOf, .pointer (some ⟨cb, 0, none⟩)] W fun e W' => e = .returned (.bool (p (shAt xs j))) ∧ Grew W W') :
    Calls Tryz.prog 95 #[.slice a xs.length cap, .func (.func 96) #[] #[.pointer (some ⟨cb, 0, none⟩)]] w fun e w' => e = .returned (.int .i64 (idxI p xs)) ∧ Grew w w' := by
  have HA := hid hA
  have HP := hid hp
  clear hA hp
  go_enter Tryz.func95, Tryz.ntmps95
  go_wp2_with fail
  go_loopw [8] (fun i wr => ∃ k : Nat, k ≤ xs.length ∧ i = .int .i64 k ∧ Hid ((xs.take k).all (fun c => !p c) = true) ∧ Grew w wr) (fun i _ => xs.length - (intOf i).toNat)
  case atStart => exact ⟨0, Nat.zero_le _, rfl, rfl, Grew.refl w⟩
  case round =>
    obtain ⟨k, hk1, rfl, HN, hG⟩ := hrel
    by_cases hlt : k < xs.length
    · rcases HA.out with h0 | ⟨b, off, rfl, hb, hR⟩
      · rw [h0] at hlt; simp at hlt
      have q0 := (hG.cells.1 b (off + k * 5) hb).trans (hR.id k hlt)
      have q1 := (hG.cells.1 b (off + k * 5 + 1) hb).trans (hR.server k hlt)
      have q2 := (hG.cells.1 b (off + k * 5 + 2) hb).trans (hR.since k hlt)
      have q3 := (hG.cells.1 b (off + k * 5 + 3) hb).trans (hR.lo k hlt)
      have q4 := (hG.cells.1 b (off + k * 5 + 4) hb).trans (hR.hi k hlt)
      have HC := hid (HP.out k hlt)
      have hat : shAt xs k = xs[k] := shAt_eq xs k hlt
      have HAT := hid hat
      clear hR hat
      have HS := hid (idx_some p xs k hlt HN.out)
      have HN2 := hid (idx_next p xs k hlt HN.out)
      rw [← HAT.out] at HS HN2
      generalize shAt xs k = c at *
      clear HAT
      unfold Sh.aggOf at HC
      cases hpc : p c with
      | true =>
        rw [hpc] at HC
        have HS2 := hid (HS.out hpc)
        obtain ⟨c0, c1, c2, c3, c4⟩ := c
        dsimp only [Sh.vals] at *
        clear hpc HS HN2
        go_wp2_with fail
        refine (HC.out _ hG).mono ?_
        rintro e w1 ⟨rfl, hg1⟩
        go_wp2_with fail
        go_ret
        exact ⟨ret_int HS2.out.symm, hG.trans hg1⟩
      | false =>
        rw [hpc] at HC
        have HS2 := hid (HN2.out hpc)
        obtain ⟨c0, c1, c2, c3, c4⟩ := c
        dsimp only [Sh.vals] at *
        clear hpc HS HN2
        go_wp2_with fail
        refine (HC.out _ hG).mono ?_
        rintro e w1 ⟨rfl, hg1⟩
        go_wp2_with fail
        go_roundw
        case rel => exact ⟨k + 1, by omega, by go_num, HS2, hG.trans hg1⟩
        case measure => simp [intOf]; omega
    · obtain rfl : k = xs.length := by omega
      have HE := hid (idx_none p xs (by have := HN.out; rwa [List.take_length] at this))
      go_wp2_with fail
      go_ret
      exact ⟨ret_int HE.out.symm, hG⟩
end Go.Proofs.YtbdagllflamabaaGreatDoor
namespace Go.Proofs.YtbdagllflamabaaGreatDoor
open Go.RowKit
attribute [local go_sem] Oper.semAt_some
namespace Pl
def withinB (n most : Int) : Bool := decide (1 ≤ n) && decide (n ≤ most)
end Pl
theorem within_any (n most : Int) (w : World) : Calls Tryz.prog 260 #[.int .i64 n, .int .i64 most] w fun e w' => e = .returned (.bool (Pl.withinB n most)) ∧ w = w' := by
  by_cases h1 : 1 ≤ n
  · by_cases h2 : n ≤ most
    · have e : Pl.withinB n most = true := by unfold Pl.withinB; rw [decide_eq_true h1, decide_eq_true h2]; rfl
      rw [e]; clear e
      go_enter Tryz.func260, Tryz.ntmps260
      go_wp2_with fail
      go_ret
      exact ⟨rfl, rfl⟩
    · have e : Pl.withinB n most = false := by unfold Pl.withinB; rw [decide_eq_true h1, decide_eq_false h2]; rfl
      rw [e]; clear e
      go_enter Tryz.func260, Tryz.ntmps260
      go_wp2_with fail
      go_ret
      exact ⟨rfl, rfl⟩
  · have e : Pl.withinB n most = false := by unfold Pl.withinB; rw [decide_eq_false h1]; rfl
    rw [e]; clear e
    go_enter Tryz.func260, Tryz.ntmps260
    go_wp2_with fail
    go_ret
    exact ⟨rfl, rfl⟩
theorem shard_any (n : Int) (w : World) : Calls Tryz.prog 259 #[.int .i64 n] w fun e w' => e = .returned (.bool (Pl.withinB n 12)) ∧ w = w' := by
  go_enter Tryz.func259, Tryz.ntmps259
  go_wp2_with fail
  refine (within_any _ _ _).mono ?_
  rintro e w' ⟨rfl, rfl⟩
  go_wp2_with fail
  go_ret
  exact ⟨rfl, rfl⟩
structure KeyT (S : Nat → Bool) : Prop where
  h2 : S 2 = true
  h3 : S 3 = true
  h6 : S 6 = true
  h7 : S 7 = true
def OpR.agg (o : OpR) : Value := .agg #[.int .i64 o.kind, .string o.key, .string o.val, .string o.old, .int .i64 o.ver]
namespace Pl
def opRightB (o : OpR) : Bool :=
  if keyN o.key ≠ 0 then false
  else if o.kind = 1 then decide (o.val.size ≤ 64)
  else if o.kind = 2 then true
  else if o.kind = 3 then decide (o.val.size ≤ 64) && decide (o.old.size ≤ 64)
  else if o.kind = 4 then decide (0 ≤ o.ver) && decide (o.ver ≤ 4096)
  else false
end Pl
set_option maxRecDepth 100000 in
set_option maxHeartbeats 2000000 in
theorem opRight_any {S : Nat → Bool} (hS : KeyT S) (E : Nat → Addr) (o : OpR) (w : World) (hE : Errs S E w) (hk : o.key.size ≤ 140737488351232) (hv : o.val.size ≤ 9223372036854775807) (ho : o.old.size ≤ 9223372036854775807) :
    Calls Tryz.prog 258 #[o.agg] w fun e w' => e = .returned (.bool (Pl.opRightB o)) ∧ Grew w w' := by
  obtain ⟨n, k, v, d, r⟩ := o
  dsimp only at hk hv ho
  have HK := hid (fun W (g : Grew w W) => key_any S E hS.h2 hS.h3 hS.h6 hS.h7 k W hk (hE.grew g))
  clear hE
  unfold OpR.agg
  dsimp only
  by_cases hkn : Pl.keyN k = 0
  · rw [hkn] at HK
    have e0 : ∀ b, Pl.opRightB ⟨n, k, v, d, r⟩ = b ↔ (if n = 1 then decide (v.size ≤ 64) else if n = 2 then true else if n = 3 then decide (v.size ≤ 64) && decide (d.size ≤ 64) else if n = 4 then decide (0 ≤ r) && decide (r ≤ 4096) else false) = b := fun b => by
      unfold Pl.opRightB; rw [if_neg (by simp [hkn])]
    clear hkn
    by_cases n1 : n = 1
    · have HF : Hid (Pl.opRightB ⟨n, k, v, d, r⟩ = decide ((v.size : Int) ≤ 64)) := by
        unfold Hid
        rw [e0, if_pos n1, Bool.eq_iff_iff]; simp; omega
      have b1 : (n == 1) = true := beq_iff_eq.2 n1
      clear e0 n1
      go_enter Tryz.func258, Tryz.ntmps258
      go_wp2_with fail
      refine (HK.out _ ((Grew.refl w).alloc _)).mono ?_
      rintro e w1 ⟨rfl, hg⟩
      have hc := hg.cells.1
      have hz : w.heap.size < w1.heap.size := by have := hg.size; simp at this; omega
      rw [errOf_zero]
      go_wp2_with fail
      go_ret
      exact ⟨ret_bool HF.out.symm, ((Grew.refl w).alloc _).trans hg⟩
    · have b1 : (n == 1) = false := beq_eq_false_iff_ne.2 n1
      by_cases n2 : n = 2
      · have HF : Hid (Pl.opRightB ⟨n, k, v, d, r⟩ = true) := by
          unfold Hid
          rw [e0, if_neg n1, if_pos n2]
        have b2 : (n == 2) = true := beq_iff_eq.2 n2
        clear e0 n1 n2
        go_enter Tryz.func258, Tryz.ntmps258
        go_wp2_with fail
        refine (HK.out _ ((Grew.refl w).alloc _)).mono ?_
        rintro e w1 ⟨rfl, hg⟩
        have hc := hg.cells.1
        have hz : w.heap.size < w1.heap.size := by have := hg.size; simp at this; omega
        rw [errOf_zero]
        go_wp2_with fail
        go_ret
        exact ⟨ret_bool HF.out.symm, ((Grew.refl w).alloc _).trans hg⟩
      · have b2 : (n == 2) = false := beq_eq_false_iff_ne.2 n2
        by_cases n3 : n = 3
        · have HF : Hid (Pl.opRightB ⟨n, k, v, d, r⟩ = (decide ((v.size : Int) ≤ 64) && decide ((d.size : Int) ≤ 64))) := by
            unfold Hid
            rw [e0, if_neg n1, if_neg n2, if_pos n3, Bool.eq_iff_iff]; simp; omega
          have b3 : (n == 3) = true := beq_iff_eq.2 n3
          clear e0 n1 n2 n3
          go_enter Tryz.func258, Tryz.ntmps258
          go_wp2_with fail
          refine (HK.out _ ((Grew.refl w).alloc _)).mono ?_
          rintro e w1 ⟨rfl, hg⟩
          have hc := hg.cells.1
          have hz : w.heap.size < w1.heap.size := by have := hg.size; simp at this; omega
          rw [errOf_zero]
          by_cases hv64 : (v.size : Int) ≤ 64
          all_goals
            go_wp2_with fail
            go_ret
            exact ⟨ret_bool (by rw [HF.out]; first | (simp [hv64]; done) | (simp; omega)), ((Grew.refl w).alloc _).trans hg⟩
        · have b3 : (n == 3) = false := beq_eq_false_iff_ne.2 n3
          by_cases n4 : n = 4
          · have HF : Hid (Pl.opRightB ⟨n, k, v, d, r⟩ = (decide (0 ≤ r) && decide (r ≤ 4096))) := by
              unfold Hid
              rw [e0, if_neg n1, if_neg n2, if_neg n3, if_pos n4]
            have b4 : (n == 4) = true := beq_iff_eq.2 n4
            clear e0 n1 n2 n3 n4
            go_enter Tryz.func258, Tryz.ntmps258
            go_wp2_with fail
            refine (HK.out _ ((Grew.refl w).alloc _)).mono ?_
            rintro e w1 ⟨rfl, hg⟩
            have hc := hg.cells.1
            have hz : w.heap.size < w1.heap.size := by have := hg.size; simp at this; omega
            rw [errOf_zero]
            by_cases hr0 : 0 ≤ r
            all_goals
              go_wp2_with fail
              go_ret
              exact ⟨ret_bool (by rw [HF.out]; first | (simp [hr0]; done) | (simp; omega)), ((Grew.refl w).alloc _).trans hg⟩
          · have HF : Hid (Pl.opRightB ⟨n, k, v, d, r⟩ = false) := by
              unfold Hid
              rw [e0, if_neg n1, if_neg n2, if_neg n3, if_neg n4]
            have b4 : (n == 4) = false := beq_eq_false_iff_ne.2 n4
            clear e0 n1 n2 n3 n4
            go_enter Tryz.func258, Tryz.ntmps258
            go_wp2_with fail
            refine (HK.out _ ((Grew.refl w).alloc _)).mono ?_
            rintro e w1 ⟨rfl, hg⟩
            have hc := hg.cells.1
            have hz : w.heap.size < w1.heap.size := by have := hg.size; simp at this; omega
            rw [errOf_zero]
            go_wp2_with fail
            go_ret
            exact ⟨ret_bool HF.out.symm, ((Grew.refl w).alloc _).trans hg⟩
  · have HF : Hid (Pl.opRightB ⟨n, k, v, d, r⟩ = false) := by unfold Hid Pl.opRightB; rw [if_pos hkn]
    have HN := hid (errOf_pos E _ hkn)
    go_enter Tryz.func258, Tryz.ntmps258
    go_wp2_with fail
    refine (HK.out _ ((Grew.refl w).alloc _)).mono ?_
    rw [HN.out]
    rintro e w1 ⟨rfl, hg⟩
    go_wp2_with fail
    go_ret
    exact ⟨ret_bool HF.out.symm, ((Grew.refl w).alloc _).trans hg⟩
end Go.Proofs.YtbdagllflamabaaGreatDoor
namespace Go.Proofs.YtbdagllflamabaaGreatDoor
open Go.RowKit
attribute [local go_sem] Oper.semAt_some
namespace Pl
def movB (sh sv : Int) : Bool := withinB sh 12 && withinB sv 4
def merB (sh ot : Int) : Bool := withinB sh 12 && withinB ot 12 && (sh != ot)
def splB (sh ot sv : Int) (key : ByteArray) : Bool := withinB sh 12 && withinB ot 12 && (sh != ot) && withinB sv 4 && decide (keyN key = 0)
def chkB (sh up parts part : Int) (len : Nat) : Bool := ((sh == 0) || withinB sh 12) && decide (0 ≤ up) && decide (up ≤ 4096) && withinB parts 64 && decide (0 ≤ part) && decide (part < parts) && decide ((len : Int) ≤ 256)
end Pl
theorem mov_right (sh sv : Int) (w : World) : Calls Tryz.prog 263 #[.agg #[.int .i64 sh, .int .i64 sv]] w fun e w' => e = .returned (.bool (Pl.movB sh sv)) ∧ Grew w w' := by
  unfold Pl.movB
  go_enter Tryz.func263, Tryz.ntmps263
  go_wp2_with fail
  refine (shard_any _ _).mono ?_
  rintro e w1 ⟨rfl, rfl⟩
  cases h0 : Pl.withinB sh 12 with
  | false =>
    go_wp2_with fail
    go_ret
    exact ⟨ret_bool (by simp [*]), (Grew.refl w).alloc _⟩
  | true =>
    go_wp2_with fail
    refine (within_any _ _ _).mono ?_
    rintro e w1 ⟨rfl, rfl⟩
    cases h1 : Pl.withinB sv 4 with
    | false =>
      go_wp2_with fail
      go_ret
      exact ⟨ret_bool (by simp [*]), (Grew.refl w).alloc _⟩
    | true =>
      go_wp2_with fail
      go_ret
      exact ⟨ret_bool (by simp [*]), (Grew.refl w).alloc _⟩
theorem mer_right (sh ot : Int) (w : World) : Calls Tryz.prog 269 #[.agg #[.int .i64 sh, .int .i64 ot]] w fun e w' => e = .returned (.bool (Pl.merB sh ot)) ∧ Grew w w' := by
  unfold Pl.merB
  go_enter Tryz.func269, Tryz.ntmps269
  go_wp2_with fail
  refine (shard_any _ _).mono ?_
  rintro e w1 ⟨rfl, rfl⟩
  cases h0 : Pl.withinB sh 12 with
  | false =>
    go_wp2_with fail
    go_ret
    exact ⟨ret_bool (by simp [*]), (Grew.refl w).alloc _⟩
  | true =>
    go_wp2_with fail
    refine (shard_any _ _).mono ?_
    rintro e w1 ⟨rfl, rfl⟩
    cases h1 : Pl.withinB ot 12 with
    | false =>
      go_wp2_with fail
      go_ret
      exact ⟨ret_bool (by simp [*]), (Grew.refl w).alloc _⟩
    | true =>
      cases h2 : (sh != ot) with
      | false =>
        go_wp2_with fail
        go_ret
        exact ⟨ret_bool (by simp [*]), (Grew.refl w).alloc _⟩
      | true =>
        go_wp2_with fail
        go_ret
        exact ⟨ret_bool (by simp [*]), (Grew.refl w).alloc _⟩
set_option maxHeartbeats 1000000 in
theorem spl_right {S : Nat → Bool} (hS : KeyT S) (E : Nat → Addr) (sh ot sv : Int) (key : ByteArray) (w : World) (hE : Errs S E w) (hk : key.size ≤ 140737488351232) :
    Calls Tryz.prog 266 #[.agg #[.int .i64 sh, .int .i64 ot, .int .i64 sv, .string key]] w fun e w' => e = .returned (.bool (Pl.splB sh ot sv key)) ∧ Grew w w' := by
  have HK := hid (fun W (g : Grew w W) => key_any S E hS.h2 hS.h3 hS.h6 hS.h7 key W hk (hE.grew g))
  clear hE
  unfold Pl.splB
  go_enter Tryz.func266, Tryz.ntmps266
  go_wp2_with fail
  refine (shard_any _ _).mono ?_
  rintro e w1 ⟨rfl, rfl⟩
  cases h0 : Pl.withinB sh 12 with
  | false =>
    go_wp2_with fail
    go_ret
    exact ⟨ret_bool (by simp [*]), (Grew.refl w).alloc _⟩
  | true =>
    go_wp2_with fail
    refine (shard_any _ _).mono ?_
    rintro e w1 ⟨rfl, rfl⟩
    cases h1 : Pl.withinB ot 12 with
    | false =>
      go_wp2_with fail
      go_ret
      exact ⟨ret_bool (by simp [*]), (Grew.refl w).alloc _⟩
    | true =>
      cases h2 : (sh != ot) with
      | false =>
        go_wp2_with fail
        go_ret
        exact ⟨ret_bool (by simp [*]), (Grew.refl w).alloc _⟩
      | true =>
        go_wp2_with fail
        refine (within_any _ _ _).mono ?_
        rintro e w1 ⟨rfl, rfl⟩
        cases h3 : Pl.withinB sv 4 with
        | false =>
          go_wp2_with fail
          go_ret
          exact ⟨ret_bool (by simp [*]), (Grew.refl w).alloc _⟩
        | true =>
          by_cases hkn : Pl.keyN key = 0
          · rw [hkn] at HK
            have HD := hid (decide_eq_true hkn)
            clear hkn
            go_wp2_with fail
            refine (HK.out _ ((Grew.refl w).alloc _)).mono ?_
            rw [errOf_zero]
            rintro e w1 ⟨rfl, hg⟩
            go_wp2_with fail
            go_ret
            exact ⟨ret_bool (by rw [HD.out]; simp [h0, h1, h2, h3]), ((Grew.refl w).alloc _).trans hg⟩
          · have HN := hid (errOf_pos E _ hkn)
            have HD := hid (decide_eq_false hkn)
            clear hkn
            go_wp2_with fail
            refine (HK.out _ ((Grew.refl w).alloc _)).mono ?_
            rw [HN.out]
            rintro e w1 ⟨rfl, hg⟩
            go_wp2_with fail
            go_ret
            exact ⟨ret_bool (by rw [HD.out]; simp), ((Grew.refl w).alloc _).trans hg⟩
set_option maxHeartbeats 2000000 in
theorem chk_right (sh up parts part : Int) (a : Option Addr) (len cap : Nat) (w : World) :
    Calls Tryz.prog 272 #[.agg #[.int .i64 sh, .int .i64 up, .int .i64 parts, .int .i64 part, .slice a len cap]] w fun e w' => e = .returned (.bool (Pl.chkB sh up parts part len)) ∧ Grew w w' := by
  unfold Pl.chkB
  go_enter Tryz.func272, Tryz.ntmps272
  cases h0 : (sh == 0) with
  | true =>
    cases h1 : decide (0 ≤ up) with
    | false =>
      go_wp2_with fail
      go_ret
      exact ⟨ret_bool (by simp [*]), (Grew.refl w).alloc _⟩
    | true =>
      cases h2 : decide (up ≤ 4096) with
      | false =>
        go_wp2_with fail
        go_ret
        exact ⟨ret_bool (by simp [*]), (Grew.refl w).alloc _⟩
      | true =>
        go_wp2_with fail
        refine (within_any _ _ _).mono ?_
        rintro e w1 ⟨rfl, rfl⟩
        cases h3 : Pl.withinB parts 64 with
        | false =>
          go_wp2_with fail
          go_ret
          exact ⟨ret_bool (by simp [*]), (Grew.refl w).alloc _⟩
        | true =>
          cases h4 : decide (0 ≤ part) with
          | false =>
            go_wp2_with fail
            go_ret
            exact ⟨ret_bool (by simp [*]), (Grew.refl w).alloc _⟩
          | true =>
            cases h5 : decide (part < parts) with
            | false =>
              go_wp2_with fail
              go_ret
              exact ⟨ret_bool (by simp [*]), (Grew.refl w).alloc _⟩
            | true =>
              go_wp2_with fail
              go_ret
              exact ⟨ret_bool (by simp [*]), (Grew.refl w).alloc _⟩
  | false =>
    go_wp2_with fail
    refine (shard_any _ _).mono ?_
    rintro e w1 ⟨rfl, rfl⟩
    cases h1 : Pl.withinB sh 12 with
    | false =>
      go_wp2_with fail
      go_ret
      exact ⟨ret_bool (by simp [*]), (Grew.refl w).alloc _⟩
    | true =>
      cases h2 : decide (0 ≤ up) with
      | false =>
        go_wp2_with fail
        go_ret
        exact ⟨ret_bool (by simp [*]), (Grew.refl w).alloc _⟩
      | true =>
        cases h3 : decide (up ≤ 4096) with
        | false =>
          go_wp2_with fail
          go_ret
          exact ⟨ret_bool (by simp [*]), (Grew.refl w).alloc _⟩
        | true =>
          go_wp2_with fail
          refine (within_any _ _ _).mono ?_
          rintro e w1 ⟨rfl, rfl⟩
          cases h4 : Pl.withinB parts 64 with
          | false =>
            go_wp2_with fail
            go_ret
            exact ⟨ret_bool (by simp [*]), (Grew.refl w).alloc _⟩
          | true =>
            cases h5 : decide (0 ≤ part) with
            | false =>
              go_wp2_with fail
              go_ret
              exact ⟨ret_bool (by simp [*]), (Grew.refl w).alloc _⟩
            | true =>
              cases h6 : decide (part < parts) with
              | false =>
                go_wp2_with fail
                go_ret
                exact ⟨ret_bool (by simp [*]), (Grew.refl w).alloc _⟩
              | true =>
                go_wp2_with fail
                go_ret
                exact ⟨ret_bool (by simp [*]), (Grew.refl w).alloc _⟩
end Go.Proofs.YtbdagllflamabaaGreatDoor
namespace Go.Proofs.YtbdagllflamabaaGreatDoor
open Go.RowKit
attribute [local go_sem] Oper.semAt_some
set_option maxRecDepth 100000 in
set_option maxHeartbeats 1000000 in
theorem idxOpBad (p : OpR → Bool) (a : Option Addr) (cap : Nat) (xs : List OpR) (w : World) (hA : OpRsAt w a xs) (hx : xs.length ≤ 1000000)
    (hp : ∀ j, j < xs.length → ∀ W, Grew w W → Calls Tryz.prog 257 #[(opRAt xs j).aggOf] W fun e W' => e = .returned (.bool (p (opRAt xs j))) ∧ Grew W W') :
    Calls Tryz.prog 262 #[.slice a xs.length cap, .func (.func 257) #[] #[]] w fun e w' => e = .returned (.int .i64 (idxI p xs)) ∧ Grew w w' := by
  have HA := hid hA
  have HP := hid hp
  clear hA hp
  go_enter Tryz.func262, Tryz.ntmps262
  go_wp2_with fail
  go_loopw [8] (fun i wr => ∃ k : Nat, k ≤ xs.length ∧ i = .int .i64 k ∧ Hid ((xs.take k).all (fun c => !p c) = true) ∧ Grew w wr) (fun i _ => xs.length - (intOf i).toNat)
  case atStart => exact ⟨0, Nat.zero_le _, rfl, rfl, Grew.refl w⟩
  case round =>
    obtain ⟨k, hk1, rfl, HN, hG⟩ := hrel
    by_cases hlt : k < xs.length
    · rcases HA.out with h0 | ⟨b, off, rfl, hb, hR⟩
      · rw [h0] at hlt; simp at hlt
      have q0 := (hG.cells.1 b (off + k * 5) hb).trans (hR.kind k hlt)
      have q1 := (hG.cells.1 b (off + k * 5 + 1) hb).trans (hR.key k hlt)
      have q2 := (hG.cells.1 b (off + k * 5 + 2) hb).trans (hR.val k hlt)
      have q3 := (hG.cells.1 b (off + k * 5 + 3) hb).trans (hR.old k hlt)
      have q4 := (hG.cells.1 b (off + k * 5 + 4) hb).trans (hR.ver k hlt)
      have HC := hid (HP.out k hlt)
      have hat : opRAt xs k = xs[k] := opRAt_eq xs k hlt
      have HAT := hid hat
      clear hR hat
      have HS := hid (idx_some p xs k hlt HN.out)
      have HN2 := hid (idx_next p xs k hlt HN.out)
      rw [← HAT.out] at HS HN2
      generalize opRAt xs k = c at *
      clear HAT
      unfold OpR.aggOf at HC
      cases hpc : p c with
      | true =>
        rw [hpc] at HC
        have HS2 := hid (HS.out hpc)
        obtain ⟨c0, c1, c2, c3, c4⟩ := c
        dsimp only [OpR.vals] at *
        clear hpc HS HN2
        go_wp2_with fail
        refine (HC.out _ hG).mono ?_
        rintro e w1 ⟨rfl, hg1⟩
        go_wp2_with fail
        go_ret
        exact ⟨ret_int HS2.out.symm, hG.trans hg1⟩
      | false =>
        rw [hpc] at HC
        have HS2 := hid (HN2.out hpc)
        obtain ⟨c0, c1, c2, c3, c4⟩ := c
        dsimp only [OpR.vals] at *
        clear hpc HS HN2
        go_wp2_with fail
        refine (HC.out _ hG).mono ?_
        rintro e w1 ⟨rfl, hg1⟩
        go_wp2_with fail
        go_roundw
        case rel => exact ⟨k + 1, by omega, by go_num, HS2, hG.trans hg1⟩
        case measure => simp [intOf]; omega
    · obtain rfl : k = xs.length := by omega
      have HE := hid (idx_none p xs (by have := HN.out; rwa [List.take_length] at this))
      go_wp2_with fail
      go_ret
      exact ⟨ret_int HE.out.symm, hG⟩
end Go.Proofs.YtbdagllflamabaaGreatDoor
