/- Runes2, RowOp, Ent1, IdxOpBad: one text. -/
import Derived.Test.YtgfibdkeaicnfaaGreatDoorFinClientNewQ10
import Derived.Test.YtgfibdkeaicnfaaGreatDoorFinClientNewQ4
import Derived.Test.YtgfibdkeaicnfaaGreatDoorFinClientNewQ1
import Derived.Deep.QuietTactic
import Derived.BigQuiet
namespace Go.Proofs.YtgfibdkeaicnfaaGreatDoor
open Go.RowKit
namespace Pl
def count (s : ByteArray) : Int := match runes s.data.toList with | none => -1 | some l => l.length
def badRune (c : Nat) : Bool := decide (c < 32) || decide (c = 127)
def keyL (l : List Nat) : Nat := if l.length = 0 then 2 else if 24 < l.length then 3 else if l.any badRune then 7 else 0
def keyN (s : ByteArray) : Nat := match runes s.data.toList with | none => 6 | some l => keyL l
theorem runes_round (s : ByteArray) (p : Nat) (r : List Nat) (hp : p < s.size) (h : runesAt s p = some r) :
    ∃ t, r = (Utf8.decode s p).1 :: t ∧ runesAt s (p + (Utf8.decode s p).2) = some t ∧ p + (Utf8.decode s p).2 ≤ s.size ∧ 1 ≤ (Utf8.decode s p).2 := by
  rw [runesAt_step s p hp] at h
  split at h
  · cases h
  · next hne =>
    simp only [Option.map_eq_some_iff] at h
    obtain ⟨t, ht, rfl⟩ := h
    have e := step1_at s p
    rw [if_neg hne] at e
    exact ⟨t, rfl, ht, width_le s p hp hne, (step1_pos' _ (suf_ne s p hp) _ e).1⟩
theorem runes_done (s : ByteArray) (p : Nat) (r : List Nat) (hp : ¬ p < s.size) (h : runesAt s p = some r) : r = [] := by
  rw [runesAt_end s p hp] at h; exact (Option.some.inj h).symm
theorem runes_len : ∀ (n : Nat) (l : List UInt8) (r : List Nat), l.length ≤ n → runes l = some r → r.length ≤ l.length := by
  intro n
  induction n with
  | zero =>
    intro l r hl h
    have : l = [] := List.eq_nil_of_length_eq_zero (by omega)
    subst this
    rw [runes_nil] at h; cases h; simp
  | succ n ih =>
    intro l r hl h
    by_cases e : l = []
    · subst e; rw [runes_nil] at h; cases h; simp
    · rw [runes_step l e] at h
      cases hs : step1 l with
      | none => rw [hs] at h; cases h
      | some d =>
        rw [hs] at h
        simp only [Option.bind_some, Option.map_eq_some_iff] at h
        obtain ⟨t, ht, rfl⟩ := h
        have hp := step1_pos' l e d hs
        have := ih (l.drop d.2) t (by simp; omega) ht
        simp at this ⊢
        omega
end Pl
set_option maxHeartbeats 400000 in
theorem count_any (s : ByteArray) (w : World) (hs : s.size ≤ 140737488351232) :
    Calls Tryz.prog 108 #[.string s] w fun e w' => e = .returned (.int .i64 (Pl.count s)) ∧ Grew w w' := by
  cases hr : Pl.runes s.data.toList with
  | none =>
    have hq : Pl.right s = false := by unfold Pl.right; rw [hr]; rfl
    have hc : Pl.count s = -1 := by unfold Pl.count; rw [hr]
    have HC := hid hc
    clear hc hr
    go_enter Tryz.func108, Tryz.ntmps108
    go_wp2_with (go_at_call 155; refine (right_any _ _ hs).mono ?_; rintro e w' ⟨rfl, p, rfl⟩)
    go_ret
    exact ⟨ret_int HC.out.symm, (Grew.refl w).iter _ _⟩
  | some l =>
    have hq : Pl.right s = true := by unfold Pl.right; rw [hr]; rfl
    have hc : Pl.count s = l.length := by unfold Pl.count; rw [hr]
    have hl : l.length ≤ s.size := by simpa using Pl.runes_len _ _ l (Nat.le_refl _) hr
    have HC := hid hc
    have HR := hid hr
    clear hc hr
    go_enter Tryz.func108, Tryz.ntmps108
    go_wp2_with (go_at_call 155; refine (right_any _ _ hs).mono ?_; rintro e w' ⟨rfl, p, rfl⟩)
    obtain ⟨W1, hW1⟩ : ∃ W1, W1 = w.iter s p := ⟨_, rfl⟩
    have hG : Grew w W1 := by rw [hW1]; exact (Grew.refl w).iter _ _
    rw [← hW1]
    clear hW1
    go_wp2
    go_loopw [3] (fun n w' => ∃ (q k : Nat) (r : List Nat), n = .int .i64 k ∧ w' = W1.iter s q ∧ q ≤ s.size ∧ Hid (Pl.runesAt s q = some r) ∧ Hid (k + r.length = l.length) ∧ k ≤ l.length) (fun _ w' => s.size - w'.iterPos W1.heap.size)
    case atStart => exact ⟨0, 0, l, rfl, rfl, Nat.zero_le _, HR.out, by simp [Hid], by omega⟩
    case round =>
      obtain ⟨q, k, r, rfl, rfl, hq2, HA, HL, hkl⟩ := hrel
      by_cases hp : q < s.size
      · have hnx : ∀ ty, (Instr.next (.pointer (some ⟨W1.heap.size, 0, none⟩)) true ty).run Tryz.prog (W1.iter s q) = _ := fun ty => run_next_any W1 s q ty hp
        have HN := hid (Pl.runes_round s q r hp HA.out)
        go_wp2
        obtain ⟨t, rfl, ht, h1, h2⟩ := HN.out
        have hlen := HL.out
        simp only [List.length_cons] at hlen
        go_roundw
        case rel => exact ⟨_, k + 1, t, by go_num, rfl, h1, ht, by unfold Hid; omega, by omega⟩
        case measure => simp; omega
      · have hnx : ∀ ty, (Instr.next (.pointer (some ⟨W1.heap.size, 0, none⟩)) true ty).run Tryz.prog (W1.iter s q) = _ := fun ty => run_next_end W1 s q ty hp
        have HN := hid (Pl.runes_done s q r hp HA.out)
        go_wp2
        go_ret
        have e1 := HN.out
        have hlen := HL.out
        rw [e1] at hlen
        simp at hlen
        exact ⟨ret_int (by rw [HC.out]; omega), hG.iter _ _⟩
theorem load_iter (W : World) (s : ByteArray) (p g : Nat) (v : Value) (h : W.cell? ⟨g, 0, none⟩ = some v) : (W.iter s p).cell? ⟨g, 0, none⟩ = some v :=
  ((Grew.refl W).iter s p).below.cell (p := ⟨g, 0, none⟩) (cell_lt h) |>.trans h
set_option maxHeartbeats 400000 in
theorem key_any (S : Nat → Bool) (E : Nat → Addr) (h2 : S 2 = true) (h3 : S 3 = true) (h6 : S 6 = true) (h7 : S 7 = true) (s : ByteArray) (w : World) (hs : s.size ≤ 140737488351232) (hE : Errs S E w) :
    Calls Tryz.prog 71 #[.string s] w fun e w' => e = .returned (errOf E (Pl.keyN s)) ∧ Grew w w' := by
  have HE := hid hE
  clear hE
  cases hr : Pl.runes s.data.toList with
  | none =>
    have hc : Pl.count s = -1 := by unfold Pl.count; rw [hr]
    have hk : Pl.keyN s = 6 := by unfold Pl.keyN; rw [hr]
    have HC := hid hc
    have HK := hid hk
    clear hc hr hk
    go_enter Tryz.func71, Tryz.ntmps71
    go_wp2_with (go_at_call 108; refine (count_any _ _ hs).mono ?_; rw [HC.out]; rintro e W1 ⟨rfl, hG⟩; have c6 : W1.cell? ⟨5, 0, none⟩ = some (.iface 501 (.pointer (some (E 6)))) := (HE.out.grew hG).cell 6 h6)
    go_ret
    exact ⟨ret_val (by rw [HK.out]; rfl), hG⟩
  | some l =>
    have hc : Pl.count s = (l.length : Int) := by unfold Pl.count; rw [hr]
    have hk : Pl.keyN s = Pl.keyL l := by unfold Pl.keyN; rw [hr]
    have hl : l.length ≤ s.size := by simpa using Pl.runes_len _ _ l (Nat.le_refl _) hr
    have HC := hid hc
    have HK := hid hk
    have HR := hid hr
    clear hc hr hk
    by_cases l0 : l.length = 0
    · have hk2 : Pl.keyL l = 2 := by unfold Pl.keyL; rw [if_pos l0]
      have HC2 : Hid (Pl.count s = 0) := by unfold Hid; rw [HC.out, l0]; rfl
      have HK2 := hid hk2
      clear hk2 l0
      go_enter Tryz.func71, Tryz.ntmps71
      go_wp2_with (go_at_call 108; refine (count_any _ _ hs).mono ?_; rw [HC2.out]; rintro e W1 ⟨rfl, hG⟩; have c6 : W1.cell? ⟨1, 0, none⟩ = some (.iface 501 (.pointer (some (E 2)))) := (HE.out.grew hG).cell 2 h2)
      go_ret
      exact ⟨ret_val (by rw [HK.out, HK2.out]; rfl), hG⟩
    · by_cases l24 : 24 < l.length
      · have hk2 : Pl.keyL l = 3 := by unfold Pl.keyL; rw [if_neg l0, if_pos l24]
        have HK2 := hid hk2
        clear hk2
        go_enter Tryz.func71, Tryz.ntmps71
        go_wp2_with (go_at_call 108; refine (count_any _ _ hs).mono ?_; rw [HC.out]; rintro e W1 ⟨rfl, hG⟩; have c6 : W1.cell? ⟨2, 0, none⟩ = some (.iface 501 (.pointer (some (E 3)))) := (HE.out.grew hG).cell 3 h3)
        go_ret
        exact ⟨ret_val (by rw [HK.out, HK2.out]; rfl), hG⟩
      · have hk2 : Pl.keyL l = if l.any Pl.badRune then 7 else 0 := by unfold Pl.keyL; rw [if_neg l0, if_neg l24]
        have HK2 := hid hk2
        clear hk2
        have b0 : ((l.length : Int) == 0) = false := beq_eq_false_iff_ne.2 (by omega)
        have b1 : decide ((l.length : Int) < 0) = false := by simp
        have b2 : decide ((24 : Int) < (l.length : Int)) = false := by simp; omega
        go_enter Tryz.func71, Tryz.ntmps71
        go_wp2_with (go_at_call 108; refine (count_any _ _ hs).mono ?_; rw [HC.out]; rintro e W1 ⟨rfl, hG⟩)
        have hE1 := HE.out.grew hG
        have c7 : W1.cell? ⟨6, 0, none⟩ = some (.iface 501 (.pointer (some (E 7)))) := hE1.cell 7 h7
        clear hE1
        go_loopw [5] (fun _ w' => ∃ (q : Nat) (r : List Nat), w' = W1.iter s q ∧ q ≤ s.size ∧ Hid (Pl.runesAt s q = some r) ∧ Hid (r.any Pl.badRune = l.any Pl.badRune)) (fun _ w' => s.size - w'.iterPos W1.heap.size)
        case atStart => exact ⟨0, l, rfl, Nat.zero_le _, HR.out, rfl⟩
        case round =>
          obtain ⟨q, r, rfl, hq2, HA, HL⟩ := hrel
          by_cases hp : q < s.size
          · have hnx : ∀ ty, (Instr.next (.pointer (some ⟨W1.heap.size, 0, none⟩)) true ty).run Tryz.prog (W1.iter s q) = _ := fun ty => run_next_any W1 s q ty hp
            have HN := hid (Pl.runes_round s q r hp HA.out)
            have c7' := load_iter W1 s (q + (Utf8.decode s q).2) 6 _ c7
            go_wp2
            · obtain ⟨t, rfl, ht, h1, h2⟩ := HN.out
              have g1 : (32 : Int) ≤ (Utf8.decode s q).1 := by assumption
              have g2 : ((Utf8.decode s q).1 : Int) < 32 ∨ (((Utf8.decode s q).1 : Int) == 127) = true := by assumption
              have g3 : (Utf8.decode s q).1 = 127 := by rcases g2 with g2 | g2; exact absurd g2 (by omega); have := eq_of_beq g2; omega
              have hb : l.any Pl.badRune = true := by rw [← HL.out]; simp [Pl.badRune, g3]
              go_ret
              exact ⟨ret_val (by rw [HK.out, HK2.out, if_pos hb]; rfl), hG.iter _ _⟩
            · obtain ⟨t, rfl, ht, h1, h2⟩ := HN.out
              have g2 : (32 : Int) ≤ (Utf8.decode s q).1 ∧ (((Utf8.decode s q).1 : Int) == 127) = false := by assumption
              have g3 : Pl.badRune (Utf8.decode s q).1 = false := by simp [Pl.badRune] at g2 ⊢; omega
              go_roundw
              case rel => exact ⟨_, t, rfl, h1, ht, by unfold Hid; rw [← HL.out]; simp [g3]⟩
              case measure => simp; omega
            · obtain ⟨t, rfl, ht, h1, h2⟩ := HN.out
              have g1 : ((Utf8.decode s q).1 : Int) < 32 := by assumption
              have hb : l.any Pl.badRune = true := by
                have g3 : Pl.badRune (Utf8.decode s q).1 = true := by simp [Pl.badRune]; omega
                rw [← HL.out]; simp [g3]
              go_ret
              exact ⟨ret_val (by rw [HK.out, HK2.out, if_pos hb]; rfl), hG.iter _ _⟩
          · have hnx : ∀ ty, (Instr.next (.pointer (some ⟨W1.heap.size, 0, none⟩)) true ty).run Tryz.prog (W1.iter s q) = _ := fun ty => run_next_end W1 s q ty hp
            have HN := hid (Pl.runes_done s q r hp HA.out)
            go_wp2
            go_ret
            have e1 := HN.out
            have hlen := HL.out
            rw [e1] at hlen
            simp at hlen
            exact ⟨ret_val (by rw [HK.out, HK2.out, if_neg (by simpa using hlen)]; rfl), hG.iter _ _⟩
end Go.Proofs.YtgfibdkeaicnfaaGreatDoor
namespace Go.Proofs.YtgfibdkeaicnfaaGreatDoor
open Go.RowKit
structure OpR where
  kind : Int
  key : ByteArray
  val : ByteArray
  old : ByteArray
  ver : Int
def OpR.none : OpR := ⟨0, ⟨#[]⟩, ⟨#[]⟩, ⟨#[]⟩, 0⟩
instance : Inhabited OpR := ⟨OpR.none⟩
def OpR.vals (c : OpR) : List Value := [.int .i64 c.kind, .string c.key, .string c.val, .string c.old, .int .i64 c.ver]
def opRAt (xs : List OpR) (j : Nat) : OpR := xs[j]?.getD OpR.none
def opRFlat (xs : List OpR) : List Value := xs.flatMap OpR.vals
theorem opRAt_eq (xs : List OpR) (i : Nat) (hi : i < xs.length) : opRAt xs i = xs[i] := by unfold opRAt; rw [List.getElem?_eq_getElem hi]; rfl
theorem opRAt_mem (xs : List OpR) (k : Nat) (h : k < xs.length) : opRAt xs k ∈ xs := by rw [opRAt_eq xs k h]; exact List.getElem_mem h
theorem opRFlat_length (xs : List OpR) : (opRFlat xs).length = xs.length * 5 := by
  induction xs with
  | nil => rfl
  | cons c xs ih => unfold opRFlat at ih ⊢; rw [List.flatMap_cons, List.length_append, ih]; simp [OpR.vals]; omega
theorem opRFlat_get (i : Nat) (hi : i < 5) : ∀ (xs : List OpR) (j : Nat), j < xs.length → (opRFlat xs)[j * 5 + i]? = (opRAt xs j).vals[i]? := by
  intro xs
  induction xs with
  | nil => intro j hj; simp at hj
  | cons c xs ih =>
    intro j hj
    unfold opRFlat at ih ⊢
    rw [List.flatMap_cons]
    cases j with
    | zero => rw [List.getElem?_append_left (by simp [OpR.vals]; omega)]; simp [opRAt]
    | succ j =>
      rw [List.getElem?_append_right (by simp [OpR.vals]; omega)]
      have e : (j + 1) * 5 + i - c.vals.length = j * 5 + i := by simp [OpR.vals]; omega
      rw [e, ih j (by simpa using hj)]
      simp [opRAt]
structure OpRRow (W : World) (b off : Nat) (xs : List OpR) : Prop where
  kind : ∀ j, j < xs.length → W.cell? ⟨b, off + j * 5, Option.none⟩ = some (.int .i64 (opRAt xs j).kind)
  key : ∀ j, j < xs.length → W.cell? ⟨b, off + j * 5 + 1, Option.none⟩ = some (.string (opRAt xs j).key)
  val : ∀ j, j < xs.length → W.cell? ⟨b, off + j * 5 + 2, Option.none⟩ = some (.string (opRAt xs j).val)
  old : ∀ j, j < xs.length → W.cell? ⟨b, off + j * 5 + 3, Option.none⟩ = some (.string (opRAt xs j).old)
  ver : ∀ j, j < xs.length → W.cell? ⟨b, off + j * 5 + 4, Option.none⟩ = some (.int .i64 (opRAt xs j).ver)
theorem OpRRow.grew {W W' : World} {b off : Nat} {xs : List OpR} (h : OpRRow W b off xs) (g : Grew W W') (hb : b < W.heap.size) : OpRRow W' b off xs :=
  ⟨fun j hj => (g.cells.1 _ _ hb).trans (h.kind j hj), fun j hj => (g.cells.1 _ _ hb).trans (h.key j hj), fun j hj => (g.cells.1 _ _ hb).trans (h.val j hj), fun j hj => (g.cells.1 _ _ hb).trans (h.old j hj), fun j hj => (g.cells.1 _ _ hb).trans (h.ver j hj)⟩
def OpRsAt (W : World) (a : Option Addr) (xs : List OpR) : Prop := xs = [] ∨ ∃ b off, a = some ⟨b, off, Option.none⟩ ∧ b < W.heap.size ∧ OpRRow W b off xs
theorem OpRsAt.grew {W W' : World} {a : Option Addr} {xs : List OpR} (h : OpRsAt W a xs) (g : Grew W W') : OpRsAt W' a xs := by
  rcases h with h | ⟨b, off, e, hb, h⟩
  · exact .inl h
  · exact .inr ⟨b, off, e, Nat.lt_of_lt_of_le hb g.size, h.grew g hb⟩
def OpR.aggOf (c : OpR) : Value := .agg c.vals.toArray
end Go.Proofs.YtgfibdkeaicnfaaGreatDoor
namespace Go.Proofs.YtgfibdkeaicnfaaGreatDoor
open Go.RowKit
attribute [local go_sem] Oper.semAt_some
namespace Pl
def withinB (n most : Int) : Bool := decide (1 ≤ n) && decide (n ≤ most)
end Pl
theorem within_any (n most : Int) (w : World) : Calls Tryz.prog 383 #[.int .i64 n, .int .i64 most] w fun e w' => e = .returned (.bool (Pl.withinB n most)) ∧ w = w' := by
  by_cases h1 : 1 ≤ n
  · by_cases h2 : n ≤ most
    · have e : Pl.withinB n most = true := by unfold Pl.withinB; rw [decide_eq_true h1, decide_eq_true h2]; rfl
      rw [e]; clear e
      go_enter Tryz.func383, Tryz.ntmps383
      go_wp2_with fail
      go_ret
      exact ⟨rfl, rfl⟩
    · have e : Pl.withinB n most = false := by unfold Pl.withinB; rw [decide_eq_true h1, decide_eq_false h2]; rfl
      rw [e]; clear e
      go_enter Tryz.func383, Tryz.ntmps383
      go_wp2_with fail
      go_ret
      exact ⟨rfl, rfl⟩
  · have e : Pl.withinB n most = false := by unfold Pl.withinB; rw [decide_eq_false h1]; rfl
    rw [e]; clear e
    go_enter Tryz.func383, Tryz.ntmps383
    go_wp2_with fail
    go_ret
    exact ⟨rfl, rfl⟩
theorem shard_any (n : Int) (w : World) : Calls Tryz.prog 382 #[.int .i64 n] w fun e w' => e = .returned (.bool (Pl.withinB n 12)) ∧ w = w' := by
  go_enter Tryz.func382, Tryz.ntmps382
  go_wp2_with fail
  refine (within_any _ _ _).mono ?_
  rintro e w' ⟨rfl, rfl⟩
  go_wp2_with fail
  go_ret
  exact ⟨rfl, rfl⟩
structure KeyT (S : Nat → Bool) : Prop where
  h2 : S 2 = true
  h3 : S 3 = true
  h6 : S 6 = true
  h7 : S 7 = true
def OpR.agg (o : OpR) : Value := .agg #[.int .i64 o.kind, .string o.key, .string o.val, .string o.old, .int .i64 o.ver]
namespace Pl
def opRightB (o : OpR) : Bool :=
  if keyN o.key ≠ 0 then false
  else if o.kind = 1 then decide (o.val.size ≤ 64)
  else if o.kind = 2 then true
  else if o.kind = 3 then decide (o.val.size ≤ 64) && decide (o.old.size ≤ 64)
  else if o.kind = 4 then decide (0 ≤ o.ver) && decide (o.ver ≤ 4096)
  else false
end Pl
set_option maxRecDepth 100000 in
set_option maxHeartbeats 2000000 in
theorem opRight_any {S : Nat → Bool} (hS : KeyT S) (E : Nat → Addr) (o : OpR) (w : World) (hE : Errs S E w) (hk : o.key.size ≤ 140737488351232) (hv : o.val.size ≤ 9223372036854775807) (ho : o.old.size ≤ 9223372036854775807) :
    Calls Tryz.prog 381 #[o.agg] w fun e w' => e = .returned (.bool (Pl.opRightB o)) ∧ Grew w w' := by
  obtain ⟨n, k, v, d, r⟩ := o
  dsimp only at hk hv ho
  have HK := hid (fun W (g : Grew w W) => key_any S E hS.h2 hS.h3 hS.h6 hS.h7 k W hk (hE.grew g))
  clear hE
  unfold OpR.agg
  dsimp only
  by_cases hkn : Pl.keyN k = 0
  · rw [hkn] at HK
    have e0 : ∀ b, Pl.opRightB ⟨n, k, v, d, r⟩ = b ↔ (if n = 1 then decide (v.size ≤ 64) else if n = 2 then true else if n = 3 then decide (v.size ≤ 64) && decide (d.size ≤ 64) else if n = 4 then decide (0 ≤ r) && decide (r ≤ 4096) else false) = b := fun b => by
      unfold Pl.opRightB; rw [if_neg (by simp [hkn])]
    clear hkn
    by_cases n1 : n = 1
    · have HF : Hid (Pl.opRightB ⟨n, k, v, d, r⟩ = decide ((v.size : Int) ≤ 64)) := by
        unfold Hid
        rw [e0, if_pos n1, Bool.eq_iff_iff]; simp; omega
      have b1 : (n == 1) = true := beq_iff_eq.2 n1
      clear e0 n1
      go_enter Tryz.func381, Tryz.ntmps381
      go_wp2_with fail
      refine (HK.out _ ((Grew.refl w).alloc _)).mono ?_
      rintro e w1 ⟨rfl, hg⟩
      have hc := hg.cells.1
      have hz : w.heap.size < w1.heap.size := by have := hg.size; simp at this; omega
      rw [errOf_zero]
      go_wp2_with fail
      go_ret
      exact ⟨ret_bool HF.out.symm, ((Grew.refl w).alloc _).trans hg⟩
    · have b1 : (n == 1) = false := beq_eq_false_iff_ne.2 n1
      by_cases n2 : n = 2
      · have HF : Hid (Pl.opRightB ⟨n, k, v, d, r⟩ = true) := by
          unfold Hid
          rw [e0, if_neg n1, if_pos n2]
        have b2 : (n == 2) = true := beq_iff_eq.2 n2
        clear e0 n1 n2
        go_enter Tryz.func381, Tryz.ntmps381
        go_wp2_with fail
        refine (HK.out _ ((Grew.refl w).alloc _)).mono ?_
        rintro e w1 ⟨rfl, hg⟩
        have hc := hg.cells.1
        have hz : w.heap.size < w1.heap.size := by have := hg.size; simp at this; omega
        rw [errOf_zero]
        go_wp2_with fail
        go_ret
        exact ⟨ret_bool HF.out.symm, ((Grew.refl w).alloc _).trans hg⟩
      · have b2 : (n == 2) = false := beq_eq_false_iff_ne.2 n2
        by_cases n3 : n = 3
        · have HF : Hid (Pl.opRightB ⟨n, k, v, d, r⟩ = (decide ((v.size : Int) ≤ 64) && decide ((d.size : Int) ≤ 64))) := by
            unfold Hid
            rw [e0, if_neg n1, if_neg n2, if_pos n3, Bool.eq_iff_iff]; simp; omega
          have b3 : (n == 3) = true := beq_iff_eq.2 n3
          clear e0 n1 n2 n3
          go_enter Tryz.func381, Tryz.ntmps381
          go_wp2_with fail
          refine (HK.out _ ((Grew.refl w).alloc _)).mono ?_
          rintro e w1 ⟨rfl, hg⟩
          have hc := hg.cells.1
          have hz : w.heap.size < w1.heap.size := by have := hg.size; simp at this; omega
          rw [errOf_zero]
          by_cases hv64 : (v.size : Int) ≤ 64
          all_goals
            go_wp2_with fail
            go_ret
            exact ⟨ret_bool (by rw [HF.out]; first | (simp [hv64]; done) | (simp; omega)), ((Grew.refl w).alloc _).trans hg⟩
        · have b3 : (n == 3) = false := beq_eq_false_iff_ne.2 n3
          by_cases n4 : n = 4
          · have HF : Hid (Pl.opRightB ⟨n, k, v, d, r⟩ = (decide (0 ≤ r) && decide (r ≤ 4096))) := by
              unfold Hid
              rw [e0, if_neg n1, if_neg n2, if_neg n3, if_pos n4]
            have b4 : (n == 4) = true := beq_iff_eq.2 n4
            clear e0 n1 n2 n3 n4
            go_enter Tryz.func381, Tryz.ntmps381
            go_wp2_with fail
            refine (HK.out _ ((Grew.refl w).alloc _)).mono ?_
            rintro e w1 ⟨rfl, hg⟩
            have hc := hg.cells.1
            have hz : w.heap.size < w1.heap.size := by have := hg.size; simp at this; omega
            rw [errOf_zero]
            by_cases hr0 : 0 ≤ r
            all_goals
              go_wp2_with fail
              go_ret
              exact ⟨ret_bool (by rw [HF.out]; first | (simp [hr0]; done) | (simp; omega)), ((Grew.refl w).alloc _).trans hg⟩
          · have HF : Hid (Pl.opRightB ⟨n, k, v, d, r⟩ = false) := by
              unfold Hid
              rw [e0, if_neg n1, if_neg n2, if_neg n3, if_neg n4]
            have b4 : (n == 4) = false := beq_eq_false_iff_ne.2 n4
            clear e0 n1 n2 n3 n4
            go_enter Tryz.func381, Tryz.ntmps381
            go_wp2_with fail
            refine (HK.out _ ((Grew.refl w).alloc _)).mono ?_
            rintro e w1 ⟨rfl, hg⟩
            have hc := hg.cells.1
            have hz : w.heap.size < w1.heap.size := by have := hg.size; simp at this; omega
            rw [errOf_zero]
            go_wp2_with fail
            go_ret
            exact ⟨ret_bool HF.out.symm, ((Grew.refl w).alloc _).trans hg⟩
  · have HF : Hid (Pl.opRightB ⟨n, k, v, d, r⟩ = false) := by unfold Hid Pl.opRightB; rw [if_pos hkn]
    have HN := hid (errOf_pos E _ hkn)
    go_enter Tryz.func381, Tryz.ntmps381
    go_wp2_with fail
    refine (HK.out _ ((Grew.refl w).alloc _)).mono ?_
    rw [HN.out]
    rintro e w1 ⟨rfl, hg⟩
    go_wp2_with fail
    go_ret
    exact ⟨ret_bool HF.out.symm, ((Grew.refl w).alloc _).trans hg⟩
end Go.Proofs.YtgfibdkeaicnfaaGreatDoor
namespace Go.Proofs.YtgfibdkeaicnfaaGreatDoor
open Go.RowKit
attribute [local go_sem] Oper.semAt_some
namespace Pl
def movB (sh sv : Int) : Bool := withinB sh 12 && withinB sv 4
def merB (sh ot : Int) : Bool := withinB sh 12 && withinB ot 12 && (sh != ot)
def splB (sh ot sv : Int) (key : ByteArray) : Bool := withinB sh 12 && withinB ot 12 && (sh != ot) && withinB sv 4 && decide (keyN key = 0)
def chkB (sh up parts part : Int) (len : Nat) : Bool := ((sh == 0) || withinB sh 12) && decide (0 ≤ up) && decide (up ≤ 4096) && withinB parts 64 && decide (0 ≤ part) && decide (part < parts) && decide ((len : Int) ≤ 256)
end Pl
theorem mov_right (sh sv : Int) (w : World) : Calls Tryz.prog 386 #[.agg #[.int .i64 sh, .int .i64 sv]] w fun e w' => e = .returned (.bool (Pl.movB sh sv)) ∧ Grew w w' := by
  unfold Pl.movB
  go_enter Tryz.func386, Tryz.ntmps386
  go_wp2_with fail
  refine (shard_any _ _).mono ?_
  rintro e w1 ⟨rfl, rfl⟩
  cases h0 : Pl.withinB sh 12 with
  | false =>
    go_wp2_with fail
    go_ret
    exact ⟨ret_bool (by simp [*]), (Grew.refl w).alloc _⟩
  | true =>
    go_wp2_with fail
    refine (within_any _ _ _).mono ?_
    rintro e w1 ⟨rfl, rfl⟩
    cases h1 : Pl.withinB sv 4 with
    | false =>
      go_wp2_with fail
      go_ret
      exact ⟨ret_bool (by simp [*]), (Grew.refl w).alloc _⟩
    | true =>
      go_wp2_with fail
      go_ret
      exact ⟨ret_bool (by simp [*]), (Grew.refl w).alloc _⟩
theorem mer_right (sh ot : Int) (w : World) : Calls Tryz.prog 392 #[.agg #[.int .i64 sh, .int .i64 ot]] w fun e w' => e = .returned (.bool (Pl.merB sh ot)) ∧ Grew w w' := by
  unfold Pl.merB
  go_enter Tryz.func392, Tryz.ntmps392
  go_wp2_with fail
  refine (shard_any _ _).mono ?_
  rintro e w1 ⟨rfl, rfl⟩
  cases h0 : Pl.withinB sh 12 with
  | false =>
    go_wp2_with fail
    go_ret
    exact ⟨ret_bool (by simp [*]), (Grew.refl w).alloc _⟩
  | true =>
    go_wp2_with fail
    refine (shard_any _ _).mono ?_
    rintro e w1 ⟨rfl, rfl⟩
    cases h1 : Pl.withinB ot 12 with
    | false =>
      go_wp2_with fail
      go_ret
      exact ⟨ret_bool (by simp [*]), (Grew.refl w).alloc _⟩
    | true =>
      cases h2 : (sh != ot) with
      | false =>
        go_wp2_with fail
        go_ret
        exact ⟨ret_bool (by simp [*]), (Grew.refl w).alloc _⟩
      | true =>
        go_wp2_with fail
        go_ret
        exact ⟨ret_bool (by simp [*]), (Grew.refl w).alloc _⟩
set_option maxHeartbeats 1000000 in
theorem spl_right {S : Nat → Bool} (hS : KeyT S) (E : Nat → Addr) (sh ot sv : Int) (key : ByteArray) (w : World) (hE : Errs S E w) (hk : key.size ≤ 140737488351232) :
    Calls Tryz.prog 389 #[.agg #[.int .i64 sh, .int .i64 ot, .int .i64 sv, .string key]] w fun e w' => e = .returned (.bool (Pl.splB sh ot sv key)) ∧ Grew w w' := by
  have HK := hid (fun W (g : Grew w W) => key_any S E hS.h2 hS.h3 hS.h6 hS.h7 key W hk (hE.grew g))
  clear hE
  unfold Pl.splB
  go_enter Tryz.func389, Tryz.ntmps389
  go_wp2_with fail
  refine (shard_any _ _).mono ?_
  rintro e w1 ⟨rfl, rfl⟩
  cases h0 : Pl.withinB sh 12 with
  | false =>
    go_wp2_with fail
    go_ret
    exact ⟨ret_bool (by simp [*]), (Grew.refl w).alloc _⟩
  | true =>
    go_wp2_with fail
    refine (shard_any _ _).mono ?_
    rintro e w1 ⟨rfl, rfl⟩
    cases h1 : Pl.withinB ot 12 with
    | false =>
      go_wp2_with fail
      go_ret
      exact ⟨ret_bool (by simp [*]), (Grew.refl w).alloc _⟩
    | true =>
      cases h2 : (sh != ot) with
      | false =>
        go_wp2_with fail
        go_ret
        exact ⟨ret_bool (by simp [*]), (Grew.refl w).alloc _⟩
      | true =>
        go_wp2_with fail
        refine (within_any _ _ _).mono ?_
        rintro e w1 ⟨rfl, rfl⟩
        cases h3 : Pl.withinB sv 4 with
        | false =>
          go_wp2_with fail
          go_ret
          exact ⟨ret_bool (by simp [*]), (Grew.refl w).alloc _⟩
        | true =>
          by_cases hkn : Pl.keyN key = 0
          · rw [hkn] at HK
            have HD := hid (decide_eq_true hkn)
            clear hkn
            go_wp2_with fail
            refine (HK.out _ ((Grew.refl w).alloc _)).mono ?_
            rw [errOf_zero]
            rintro e w1 ⟨rfl, hg⟩
            go_wp2_with fail
            go_ret
            exact ⟨ret_bool (by rw [HD.out]; simp [h0, h1, h2, h3]), ((Grew.refl w).alloc _).trans hg⟩
          · have HN := hid (errOf_pos E _ hkn)
            have HD := hid (decide_eq_false hkn)
            clear hkn
            go_wp2_with fail
            refine (HK.out _ ((Grew.refl w).alloc _)).mono ?_
            rw [HN.out]
            rintro e w1 ⟨rfl, hg⟩
            go_wp2_with fail
            go_ret
            exact ⟨ret_bool (by rw [HD.out]; simp), ((Grew.refl w).alloc _).trans hg⟩
set_option maxHeartbeats 2000000 in
theorem chk_right (sh up parts part : Int) (a : Option Addr) (len cap : Nat) (w : World) :
    Calls Tryz.prog 395 #[.agg #[.int .i64 sh, .int .i64 up, .int .i64 parts, .int .i64 part, .slice a len cap]] w fun e w' => e = .returned (.bool (Pl.chkB sh up parts part len)) ∧ Grew w w' := by
  unfold Pl.chkB
  go_enter Tryz.func395, Tryz.ntmps395
  cases h0 : (sh == 0) with
  | true =>
    cases h1 : decide (0 ≤ up) with
    | false =>
      go_wp2_with fail
      go_ret
      exact ⟨ret_bool (by simp [*]), (Grew.refl w).alloc _⟩
    | true =>
      cases h2 : decide (up ≤ 4096) with
      | false =>
        go_wp2_with fail
        go_ret
        exact ⟨ret_bool (by simp [*]), (Grew.refl w).alloc _⟩
      | true =>
        go_wp2_with fail
        refine (within_any _ _ _).mono ?_
        rintro e w1 ⟨rfl, rfl⟩
        cases h3 : Pl.withinB parts 64 with
        | false =>
          go_wp2_with fail
          go_ret
          exact ⟨ret_bool (by simp [*]), (Grew.refl w).alloc _⟩
        | true =>
          cases h4 : decide (0 ≤ part) with
          | false =>
            go_wp2_with fail
            go_ret
            exact ⟨ret_bool (by simp [*]), (Grew.refl w).alloc _⟩
          | true =>
            cases h5 : decide (part < parts) with
            | false =>
              go_wp2_with fail
              go_ret
              exact ⟨ret_bool (by simp [*]), (Grew.refl w).alloc _⟩
            | true =>
              go_wp2_with fail
              go_ret
              exact ⟨ret_bool (by simp [*]), (Grew.refl w).alloc _⟩
  | false =>
    go_wp2_with fail
    refine (shard_any _ _).mono ?_
    rintro e w1 ⟨rfl, rfl⟩
    cases h1 : Pl.withinB sh 12 with
    | false =>
      go_wp2_with fail
      go_ret
      exact ⟨ret_bool (by simp [*]), (Grew.refl w).alloc _⟩
    | true =>
      cases h2 : decide (0 ≤ up) with
      | false =>
        go_wp2_with fail
        go_ret
        exact ⟨ret_bool (by simp [*]), (Grew.refl w).alloc _⟩
      | true =>
        cases h3 : decide (up ≤ 4096) with
        | false =>
          go_wp2_with fail
          go_ret
          exact ⟨ret_bool (by simp [*]), (Grew.refl w).alloc _⟩
        | true =>
          go_wp2_with fail
          refine (within_any _ _ _).mono ?_
          rintro e w1 ⟨rfl, rfl⟩
          cases h4 : Pl.withinB parts 64 with
          | false =>
            go_wp2_with fail
            go_ret
            exact ⟨ret_bool (by simp [*]), (Grew.refl w).alloc _⟩
          | true =>
            cases h5 : decide (0 ≤ part) with
            | false =>
              go_wp2_with fail
              go_ret
              exact ⟨ret_bool (by simp [*]), (Grew.refl w).alloc _⟩
            | true =>
              cases h6 : decide (part < parts) with
              | false =>
                go_wp2_with fail
                go_ret
                exact ⟨ret_bool (by simp [*]), (Grew.refl w).alloc _⟩
              | true =>
                go_wp2_with fail
                go_ret
                exact ⟨ret_bool (by simp [*]), (Grew.refl w).alloc _⟩
end Go.Proofs.YtgfibdkeaicnfaaGreatDoor
namespace Go.Proofs.YtgfibdkeaicnfaaGreatDoor
open Go.RowKit
attribute [local go_sem] Oper.semAt_some
set_option maxRecDepth 100000 in
set_option maxHeartbeats 1000000 in
theorem idxOpBad (p : OpR → Bool) (a : Option Addr) (cap : Nat) (xs : List OpR) (w : World) (hA : OpRsAt w a xs) (hx : xs.length ≤ 1000000)
    (hp : ∀ j, j < xs.length → ∀ W, Grew w W → Calls Tryz.prog 380 #[(opRAt xs j).aggOf] W fun e W' => e = .returned (.bool (p (opRAt xs j))) ∧ Grew W W') :
    Calls Tryz.prog 385 #[.slice a xs.length cap, .func (.func 380) #[] #[]] w fun e w' => e = .returned (.int .i64 (idxI p xs)) ∧ Grew w w' := by
  have HA := hid hA
  have HP := hid hp
  clear hA hp
  go_enter Tryz.func385, Tryz.ntmps385
  go_wp2_with fail
  go_loopw [8] (fun i wr => ∃ k : Nat, k ≤ xs.length ∧ i = .int .i64 k ∧ Hid ((xs.take k).all (fun c => !p c) = true) ∧ Grew w wr) (fun i _ => xs.length - (intOf i).toNat)
  case atStart => exact ⟨0, Nat.zero_le _, rfl, rfl, Grew.refl w⟩
  case round =>
    obtain ⟨k, hk1, rfl, HN, hG⟩ := hrel
    by_cases hlt : k < xs.length
    · rcases HA.out with h0 | ⟨b, off, rfl, hb, hR⟩
      · rw [h0] at hlt; simp at hlt
      have q0 := (hG.cells.1 b (off + k * 5) hb).trans (hR.kind k hlt)
      have q1 := (hG.cells.1 b (off + k * 5 + 1) hb).trans (hR.key k hlt)
      have q2 := (hG.cells.1 b (off + k * 5 + 2) hb).trans (hR.val k hlt)
      have q3 := (hG.cells.1 b (off + k * 5 + 3) hb).trans (hR.old k hlt)
      have q4 := (hG.cells.1 b (off + k * 5 + 4) hb).trans (hR.ver k hlt)
      have HC := hid (HP.out k hlt)
      have hat : opRAt xs k = xs[k] := opRAt_eq xs k hlt
      have HAT := hid hat
      clear hR hat
      have HS := hid (idx_some p xs k hlt HN.out)
      have HN2 := hid (idx_next p xs k hlt HN.out)
      rw [← HAT.out] at HS HN2
      generalize opRAt xs k = c at *
      clear HAT
      unfold OpR.aggOf at HC
      cases hpc : p c with
      | true =>
        rw [hpc] at HC
        have HS2 := hid (HS.out hpc)
        obtain ⟨c0, c1, c2, c3, c4⟩ := c
        dsimp only [OpR.vals] at *
        clear hpc HS HN2
        go_wp2_with fail
        refine (HC.out _ hG).mono ?_
        rintro e w1 ⟨rfl, hg1⟩
        go_wp2_with fail
        go_ret
        exact ⟨ret_int HS2.out.symm, hG.trans hg1⟩
      | false =>
        rw [hpc] at HC
        have HS2 := hid (HN2.out hpc)
        obtain ⟨c0, c1, c2, c3, c4⟩ := c
        dsimp only [OpR.vals] at *
        clear hpc HS HN2
        go_wp2_with fail
        refine (HC.out _ hG).mono ?_
        rintro e w1 ⟨rfl, hg1⟩
        go_wp2_with fail
        go_roundw
        case rel => exact ⟨k + 1, by omega, by go_num, HS2, hG.trans hg1⟩
        case measure => simp [intOf]; omega
    · obtain rfl : k = xs.length := by omega
      have HE := hid (idx_none p xs (by have := HN.out; rwa [List.take_length] at this))
      go_wp2_with fail
      go_ret
      exact ⟨ret_int HE.out.symm, hG⟩
end Go.Proofs.YtgfibdkeaicnfaaGreatDoor
