/- Runes1, Errs, Runes2: one text. -/
import Derived.Test.YtbdagllflamabaaGreatDoorFinWatchReplaysQ1
import Derived.LaidEql
import Derived.Stop.Asserts
import Derived.RowKitTokens
namespace Go.Proofs.YtbdagllflamabaaGreatDoor
open Go.RowKit
namespace Pl
theorem bad_right (s : ByteArray) (p : Nat) (hp : p < s.size) (h : (runesAt s p).isSome = right s) (hb : Utf8.decode s p = (65533, 1)) : right s = false := by
  rw [← h, runesAt_step s p hp, if_pos hb]; rfl
theorem next_right (s : ByteArray) (p : Nat) (hp : p < s.size) (h : (runesAt s p).isSome = right s) (hb : Utf8.decode s p ≠ (65533, 1)) :
    (runesAt s (p + (Utf8.decode s p).2)).isSome = right s := by
  rw [← h, runesAt_step s p hp, if_neg hb]; simp
theorem fst_ne (s : ByteArray) (p : Nat) (h : ¬ ((Utf8.decode s p).1 : Int) = 65533) : Utf8.decode s p ≠ (65533, 1) := by
  intro e; rw [e] at h; exact h rfl
end Pl
set_option maxHeartbeats 400000 in
theorem right_any (s : ByteArray) (w : World) (hs : s.size ≤ 140737488351232) :
    Calls Tryz.prog 105 #[.string s] w fun e w' => e = .returned (.bool (Pl.right s)) ∧ ∃ p, w' = w.iter s p := by
  go_enter Tryz.func105, Tryz.ntmps105
  go_wp2
  go_loopw [3, 4] (fun _ _ w' => ∃ p : Nat, w' = w.iter s p ∧ p ≤ s.size ∧ Hid ((Pl.runesAt s p).isSome = Pl.right s)) (fun _ _ w' => s.size - w'.iterPos w.heap.size)
  case atStart => exact ⟨0, rfl, Nat.zero_le _, rfl⟩
  case round =>
    obtain ⟨p, rfl, hle, HR⟩ := hrel
    by_cases hp : p < s.size
    · have hnx : ∀ ty, (Instr.next (.pointer (some ⟨w.heap.size, 0, none⟩)) true ty).run Tryz.prog (w.iter s p) = _ := fun ty => run_next_any w s p ty hp
      have go_on : Utf8.decode s p ≠ (65533, 1) → p + (Utf8.decode s p).2 ≤ s.size ∧ 1 ≤ (Utf8.decode s p).2 ∧ Hid ((Pl.runesAt s (p + (Utf8.decode s p).2)).isSome = Pl.right s) := fun h => by
        have e := Pl.step1_at s p
        rw [if_neg h] at e
        exact ⟨Pl.width_le s p hp h, (Pl.step1_pos' _ (Pl.suf_ne s p hp) _ e).1, Pl.next_right s p hp HR.out h⟩
      have stop : Utf8.decode s p = (65533, 1) → Pl.right s = false := fun h => Pl.bad_right s p hp HR.out h
      have HG := hid go_on
      have HS := hid stop
      clear go_on stop
      go_wp2
      · have h1 : ((Utf8.decode s p).1 : Int) = 65533 := by assumption
        have h2 : (s.size : Int) - p < 3 ∨ (!(s.extract p (p + 3)).toList == [239, 191, 189]) = true := by assumption
        go_ret
        refine ⟨ret_bool ?_, _, rfl⟩
        rw [HS.out]
        refine Classical.byContradiction fun hne => ?_
        have hm := (Pl.mark_iff s p hp (by omega)).1 hne
        rcases h2 with h2 | h2
        · exact Pl.mark_short s p (by omega) hm
        · rw [ByteArray.toList_eq, hm] at h2
          simp at h2
      · have h1 : ((Utf8.decode s p).1 : Int) = 65533 := by assumption
        have h2 : (3 : Int) ≤ s.size - p ∧ (!(s.extract p (p + 3)).toList == [239, 191, 189]) = false := by assumption
        have hne : Utf8.decode s p ≠ (65533, 1) := (Pl.mark_iff s p hp (by omega)).2 (by simpa [ByteArray.toList_eq] using h2.2)
        obtain ⟨g1, g2, g3⟩ := HG.out hne
        go_roundw
        case rel => exact ⟨_, rfl, g1, g3⟩
        case measure => simp; omega
      · have h1 : ((Utf8.decode s p).1 : Int) = 65533 := by assumption
        have h2 : (s.size : Int) - p < 3 := by assumption
        go_ret
        refine ⟨ret_bool ?_, _, rfl⟩
        rw [HS.out]
        refine Classical.byContradiction fun hne => ?_
        exact Pl.mark_short s p (by omega) ((Pl.mark_iff s p hp (by omega)).1 hne)
      · have h1 : ¬ ((Utf8.decode s p).1 : Int) = 65533 := by assumption
        obtain ⟨g1, g2, g3⟩ := HG.out (Pl.fst_ne s p h1)
        go_roundw
        case rel => exact ⟨_, rfl, g1, g3⟩
        case measure => simp; omega
    · have hnx : ∀ ty, (Instr.next (.pointer (some ⟨w.heap.size, 0, none⟩)) true ty).run Tryz.prog (w.iter s p) = _ := fun ty => run_next_end w s p ty hp
      go_wp2
      go_ret
      have e : Pl.right s = true := by rw [← HR.out, Pl.runesAt_end s p hp]; rfl
      exact ⟨ret_bool e.symm, _, rfl⟩
end Go.Proofs.YtbdagllflamabaaGreatDoor
namespace Go.Proofs.YtbdagllflamabaaGreatDoor
open Go.RowKit Go.Extern.Stop Go.Stop Go.Extern
theorem isTypeOf (v : Value) (w : World) : (Extern.ReflectliteType.typeOf #[.iface 343 v]).run Tryz.prog w = .ok (.iface 255 (.agg #[.pointer (some ⟨19, 343, none⟩)])) w := by kernel_rfl
theorem isComparable (w : World) : ((Extern.ReflectliteType.method fun t => do Extern.Rtype.noPackHeld "Comparable" t; pure (.bool (← typeInfo t).comparable)) #[.agg #[.pointer (some ⟨19, 343, none⟩)]]).run Tryz.prog w = .ok (.bool true) w := by kernel_rfl
theorem isMethodComparable (v : Value) (w : World) : (Go.method 483 255 v "Comparable").run Tryz.prog w = .ok (278, v) w := by kernel_rfl
theorem isComp : (Tryz.prog.info? 343).map (·.comparable) = some true := by kernel_rfl
theorem isSize : (Tryz.prog.info? 372).map (·.size) = some 1 := by kernel_rfl
theorem noIsE (v : Value) (xT : TypeId) (w : World) : (Instr.typeAssert (.iface 343 v) xT 257 true).run Tryz.prog w = .ok (.tuple #[.nilIface, .bool false]) w := run_typeAssert_lacksB Tryz.underlying257 (by kernel_rfl) (by kernel_rfl) v xT w
theorem noUnwrapE (v : Value) (xT : TypeId) (w : World) : (Instr.typeAssert (.iface 343 v) xT 260 true).run Tryz.prog w = .ok (.tuple #[.nilIface, .bool false]) w := run_typeAssert_lacksB Tryz.underlying260 (by kernel_rfl) (by kernel_rfl) v xT w
theorem noUnwrapsE (v : Value) (xT : TypeId) (w : World) : (Instr.typeAssert (.iface 343 v) xT 262 true).run Tryz.prog w = .ok (.tuple #[.nilIface, .bool false]) w := run_typeAssert_lacksB Tryz.underlying262 (by kernel_rfl) (by kernel_rfl) v xT w
theorem callTypeOf (args : Array Value) (w : World) : (callFunc 111 args).run Tryz.prog w = ((Extern.ReflectliteType.typeOf args).run Tryz.prog w).andThen fun v w' => .ok (.value v) w' :=
  @run_callFunc_extern Tryz.prog 111 _ Extern.ReflectliteType.typeOf Tryz.func111 (by kernel_rfl) (by kernel_rfl) (by kernel_rfl) (by kernel_rfl) args w
theorem callComparable (args : Array Value) (w : World) : (callFunc 278 args).run Tryz.prog w = ((Extern.ReflectliteType.method (fun t => do Extern.Rtype.noPackHeld "Comparable" t; pure (.bool (← typeInfo t).comparable)) args).run Tryz.prog w).andThen fun v w' => .ok (.value v) w' :=
  @run_callFunc_extern Tryz.prog 278 _ (Extern.ReflectliteType.method fun t => do Extern.Rtype.noPackHeld "Comparable" t; pure (.bool (← typeInfo t).comparable)) Tryz.func278 (by kernel_rfl) (by kernel_rfl) (by kernel_rfl) (by kernel_rfl) args w
theorem callTypeOfE (v : Value) (w : World) : (callFunc 111 #[.iface 343 v]).run Tryz.prog w = .ok (.value (.iface 255 (.agg #[.pointer (some ⟨19, 343, none⟩)]))) w := by
  rw [callTypeOf, isTypeOf]; rfl
theorem callComparableE (w : World) : (callFunc 278 #[.agg #[.pointer (some ⟨19, 343, none⟩)]]).run Tryz.prog w = .ok (.value (.bool true)) w := by
  rw [callComparable, isComparable]; rfl
set_option maxRecDepth 100000 in
theorem is_same (a : Addr) (w : World) :
    Calls Tryz.prog 61 #[.iface 343 (.pointer (some a)), .iface 343 (.pointer (some a))] w fun e w' => e = .returned (.bool true) ∧ w' = w := by
  obtain ⟨i, hi, hcmp⟩ := Option.map_eq_some_iff.1 isComp
  obtain ⟨j, hj, hjs⟩ := Option.map_eq_some_iff.1 isSize
  have h8 := callTypeOfE
  have h32 := callComparableE
  have mR := isMethodComparable
  have heq := run_eql_iface_ptr_same (P := Tryz.prog) w a Tryz.underlying34 Tryz.underlying343 hi hcmp hj
  go_enter Tryz.func61, Tryz.ntmps61
  go_wp2
  refine wp_loop_rounds 1 ?_
  rw [rounds_succ]
  go_wp2
  go_ret
  exact ⟨rfl, rfl⟩
set_option maxRecDepth 100000 in
theorem is_other (a b : Addr) (ca cb : Array Value) (ta tb : TypeId) (w : World) (hne : a ≠ b) (ha : w.heap[a.block]? = some (.cells ca ta (0, 0))) (hb : w.heap[b.block]? = some (.cells cb tb (0, 0))) :
    Calls Tryz.prog 61 #[.iface 343 (.pointer (some a)), .iface 343 (.pointer (some b))] w fun e w' => e = .returned (.bool false) ∧ w' = w := by
  obtain ⟨i, hi, hcmp⟩ := Option.map_eq_some_iff.1 isComp
  obtain ⟨j, hj, hjs⟩ := Option.map_eq_some_iff.1 isSize
  have h8 := callTypeOfE
  have h32 := callComparableE
  have mR := isMethodComparable
  have nE := noIsE
  have uE := noUnwrapE
  have vE := noUnwrapsE
  have heq := run_eql_iface_ptr_other (P := Tryz.prog) w Tryz.underlying34 Tryz.underlying343 hi hcmp hj (by rw [hjs]; decide) hne ha hb
  go_enter Tryz.func61, Tryz.ntmps61
  go_wp2
  refine wp_loop_rounds 1 ?_
  rw [rounds_succ]
  go_wp2
  go_ret
  exact ⟨rfl, rfl⟩
end Go.Proofs.YtbdagllflamabaaGreatDoor
namespace Go.Proofs.YtbdagllflamabaaGreatDoor
open Go.RowKit
def gvar : Nat → Nat
  | 1 => 1 | 2 => 2 | 3 => 3 | 4 => 0 | 5 => 4
  | 6 => 5 | 7 => 6 | 8 => 7 | 9 => 8 | 10 => 9
  | 11 => 10 | 12 => 11 | 13 => 12 | 14 => 13 | 15 => 14
  | 16 => 15 | 17 => 16 | 18 => 17 | 19 => 18 | _ => 0
def errOf (E : Nat → Addr) (k : Nat) : Value := if k = 0 then .nilIface else .iface 343 (.pointer (some (E k)))
theorem errOf_zero (E : Nat → Addr) : errOf E 0 = .nilIface := rfl
theorem errOf_pos (E : Nat → Addr) (k : Nat) (h : k ≠ 0) : errOf E k = .iface 343 (.pointer (some (E k))) := by unfold errOf; rw [if_neg h]
structure Errs (S : Nat → Bool) (E : Nat → Addr) (w : World) : Prop where
  pos : S 0 = false
  cell : ∀ k, S k = true → w.cell? ⟨gvar k, 0, none⟩ = some (.iface 343 (.pointer (some (E k))))
  row : ∀ k, S k = true → ∃ cs t, w.heap[(E k).block]? = some (.cells cs t (0, 0))
  ne : ∀ j k, S j = true → S k = true → j ≠ k → E j ≠ E k
theorem cell_lt {w : World} {a : Addr} {v : Value} (h : w.cell? a = some v) : a.block < w.heap.size := World.block_lt_of_cell? w a h
theorem Errs.grew {S : Nat → Bool} {E : Nat → Addr} {w w' : World} (h : Errs S E w) (g : Grew w w') : Errs S E w' where
  pos := h.pos
  cell k hk := by
    have := h.cell k hk
    rw [← this]
    exact g.below.cell (p := ⟨gvar k, 0, none⟩) (cell_lt this)
  row k hk := by
    obtain ⟨cs, t, hr⟩ := h.row k hk
    exact ⟨cs, t, (g.below.block _ (Array.getElem?_eq_some_iff.1 hr).1).trans hr⟩
  ne := h.ne
theorem num_nil (w : World) : Calls Tryz.prog 26 #[.nilIface] w fun e w' => e = .returned (.int .i64 0) ∧ w = w' := by
  go_enter Tryz.func26, Tryz.ntmps26
  go_wp2
  go_ret
  exact ⟨rfl, rfl⟩
def errCells (E : Nat → Addr) : Array Value := #[.iface 343 (.pointer (some (E 1))), .iface 343 (.pointer (some (E 2))), .iface 343 (.pointer (some (E 3))), .iface 343 (.pointer (some (E 4))), .iface 343 (.pointer (some (E 5))), .iface 343 (.pointer (some (E 6))), .iface 343 (.pointer (some (E 7))), .iface 343 (.pointer (some (E 8))), .iface 343 (.pointer (some (E 9))), .iface 343 (.pointer (some (E 10))), .iface 343 (.pointer (some (E 11))), .iface 343 (.pointer (some (E 12))), .iface 343 (.pointer (some (E 13))), .iface 343 (.pointer (some (E 14))), .iface 343 (.pointer (some (E 15))), .iface 343 (.pointer (some (E 16))), .iface 343 (.pointer (some (E 17))), .iface 343 (.pointer (some (E 18))), .iface 343 (.pointer (some (E 19)))]
theorem errCells_get (E : Nat → Addr) (i : Nat) (h : i < 19) : (errCells E)[i]? = some (.iface 343 (.pointer (some (E (i + 1))))) := by
  match i, h with
  | 0, _ => rfl
  | 1, _ => rfl
  | 2, _ => rfl
  | 3, _ => rfl
  | 4, _ => rfl
  | 5, _ => rfl
  | 6, _ => rfl
  | 7, _ => rfl
  | 8, _ => rfl
  | 9, _ => rfl
  | 10, _ => rfl
  | 11, _ => rfl
  | 12, _ => rfl
  | 13, _ => rfl
  | 14, _ => rfl
  | 15, _ => rfl
  | 16, _ => rfl
  | 17, _ => rfl
  | 18, _ => rfl
  | n + 19, h => omega
def allS (k : Nat) : Bool := decide (1 ≤ k) && decide (k ≤ 19)
set_option maxRecDepth 100000 in
theorem num_err (E : Nat → Addr) (k : Nat) (hk1 : 1 ≤ k) (hk2 : k ≤ 19) (w : World) (hE : Errs allS E w) :
    Calls Tryz.prog 26 #[.iface 343 (.pointer (some (E k)))] w fun e w' => e = .returned (.int .i64 k) ∧ Grew w w' := by
  have c1 : w.cell? ⟨1, 0, none⟩ = some (.iface 343 (.pointer (some (E 1)))) := hE.cell 1 (by decide)
  have c2 : w.cell? ⟨2, 0, none⟩ = some (.iface 343 (.pointer (some (E 2)))) := hE.cell 2 (by decide)
  have c3 : w.cell? ⟨3, 0, none⟩ = some (.iface 343 (.pointer (some (E 3)))) := hE.cell 3 (by decide)
  have c4 : w.cell? ⟨0, 0, none⟩ = some (.iface 343 (.pointer (some (E 4)))) := hE.cell 4 (by decide)
  have c5 : w.cell? ⟨4, 0, none⟩ = some (.iface 343 (.pointer (some (E 5)))) := hE.cell 5 (by decide)
  have c6 : w.cell? ⟨5, 0, none⟩ = some (.iface 343 (.pointer (some (E 6)))) := hE.cell 6 (by decide)
  have c7 : w.cell? ⟨6, 0, none⟩ = some (.iface 343 (.pointer (some (E 7)))) := hE.cell 7 (by decide)
  have c8 : w.cell? ⟨7, 0, none⟩ = some (.iface 343 (.pointer (some (E 8)))) := hE.cell 8 (by decide)
  have c9 : w.cell? ⟨8, 0, none⟩ = some (.iface 343 (.pointer (some (E 9)))) := hE.cell 9 (by decide)
  have c10 : w.cell? ⟨9, 0, none⟩ = some (.iface 343 (.pointer (some (E 10)))) := hE.cell 10 (by decide)
  have c11 : w.cell? ⟨10, 0, none⟩ = some (.iface 343 (.pointer (some (E 11)))) := hE.cell 11 (by decide)
  have c12 : w.cell? ⟨11, 0, none⟩ = some (.iface 343 (.pointer (some (E 12)))) := hE.cell 12 (by decide)
  have c13 : w.cell? ⟨12, 0, none⟩ = some (.iface 343 (.pointer (some (E 13)))) := hE.cell 13 (by decide)
  have c14 : w.cell? ⟨13, 0, none⟩ = some (.iface 343 (.pointer (some (E 14)))) := hE.cell 14 (by decide)
  have c15 : w.cell? ⟨14, 0, none⟩ = some (.iface 343 (.pointer (some (E 15)))) := hE.cell 15 (by decide)
  have c16 : w.cell? ⟨15, 0, none⟩ = some (.iface 343 (.pointer (some (E 16)))) := hE.cell 16 (by decide)
  have c17 : w.cell? ⟨16, 0, none⟩ = some (.iface 343 (.pointer (some (E 17)))) := hE.cell 17 (by decide)
  have c18 : w.cell? ⟨17, 0, none⟩ = some (.iface 343 (.pointer (some (E 18)))) := hE.cell 18 (by decide)
  have c19 : w.cell? ⟨18, 0, none⟩ = some (.iface 343 (.pointer (some (E 19)))) := hE.cell 19 (by decide)
  go_enter Tryz.func26, Tryz.ntmps26
  go_wp2
  obtain ⟨W1, hW1⟩ : ∃ W1, W1 = w.alloc (.cells (errCells E) 34) := ⟨_, rfl⟩
  have hcell : ∀ n, n < 19 → W1.cell? ⟨w.heap.size, n, none⟩ = some (.iface 343 (.pointer (some (E (n + 1))))) := fun n hn => by
    rw [hW1, cell_of_row _ w.heap.size n (errCells E) 34 (0, 0) (heap_alloc_new w _), errCells_get E n hn]
  have hG : Grew w W1 := by rw [hW1]; exact (Grew.refl w).alloc _
  have hE1 : Errs allS E W1 := hE.grew hG
  have hWe : w.alloc (Obj.cells #[.iface 343 (.pointer (some (E 1))), .iface 343 (.pointer (some (E 2))), .iface 343 (.pointer (some (E 3))), .iface 343 (.pointer (some (E 4))), .iface 343 (.pointer (some (E 5))), .iface 343 (.pointer (some (E 6))), .iface 343 (.pointer (some (E 7))), .iface 343 (.pointer (some (E 8))), .iface 343 (.pointer (some (E 9))), .iface 343 (.pointer (some (E 10))), .iface 343 (.pointer (some (E 11))), .iface 343 (.pointer (some (E 12))), .iface 343 (.pointer (some (E 13))), .iface 343 (.pointer (some (E 14))), .iface 343 (.pointer (some (E 15))), .iface 343 (.pointer (some (E 16))), .iface 343 (.pointer (some (E 17))), .iface 343 (.pointer (some (E 18))), .iface 343 (.pointer (some (E 19)))] 34) = W1 := hW1.symm
  rw [hWe]
  clear hWe hW1 c1 c2 c3 c4 c5 c6 c7 c8 c9 c10 c11 c12 c13 c14 c15 c16 c17 c18 c19
  have HC := hid hcell
  clear hcell
  go_loop [4, 5, 30] (fun _ _ i => ∃ n : Nat, i = .int .i64 n ∧ n < k) (fun _ _ i => 19 - (intOf i).toNat)
  case atStart => exact ⟨0, rfl, by omega⟩
  case round =>
    obtain ⟨n, rfl, hn⟩ := hrel
    have hc := HC.out n (by omega)
    by_cases he : n + 1 = k
    · subst he
      go_wp2_with (go_at_call 61; refine (is_same _ _).mono ?_; rintro e w' ⟨rfl, rfl⟩)
      go_ret
      exact ⟨ret_int (by omega), hG⟩
    · obtain ⟨ca, ta, hra⟩ := hE1.row k (by simp [allS]; omega)
      obtain ⟨cb, tb, hrb⟩ := hE1.row (n + 1) (by simp [allS]; omega)
      have hne := hE1.ne k (n + 1) (by simp [allS]; omega) (by simp [allS]; omega) (by omega)
      have hcon := hid (is_other (E k) (E (n + 1)) ca cb ta tb W1 hne hra hrb)
      clear hra hrb hne
      go_wp2_with (go_at_call 61; refine hcon.out.mono ?_; rintro e w' ⟨rfl, rfl⟩)
      go_round
      case rel => exact ⟨n + 1, by go_num, by omega⟩
      case measure => simp [intOf]; omega
end Go.Proofs.YtbdagllflamabaaGreatDoor
namespace Go.Proofs.YtbdagllflamabaaGreatDoor
open Go.RowKit
namespace Pl
def count (s : ByteArray) : Int := match runes s.data.toList with | none => -1 | some l => l.length
def badRune (c : Nat) : Bool := decide (c < 32) || decide (c = 127)
def keyL (l : List Nat) : Nat := if l.length = 0 then 2 else if 24 < l.length then 3 else if l.any badRune then 7 else 0
def keyN (s : ByteArray) : Nat := match runes s.data.toList with | none => 6 | some l => keyL l
theorem runes_round (s : ByteArray) (p : Nat) (r : List Nat) (hp : p < s.size) (h : runesAt s p = some r) :
    ∃ t, r = (Utf8.decode s p).1 :: t ∧ runesAt s (p + (Utf8.decode s p).2) = some t ∧ p + (Utf8.decode s p).2 ≤ s.size ∧ 1 ≤ (Utf8.decode s p).2 := by
  rw [runesAt_step s p hp] at h
  split at h
  · cases h
  · next hne =>
    simp only [Option.map_eq_some_iff] at h
    obtain ⟨t, ht, rfl⟩ := h
    have e := step1_at s p
    rw [if_neg hne] at e
    exact ⟨t, rfl, ht, width_le s p hp hne, (step1_pos' _ (suf_ne s p hp) _ e).1⟩
theorem runes_done (s : ByteArray) (p : Nat) (r : List Nat) (hp : ¬ p < s.size) (h : runesAt s p = some r) : r = [] := by
  rw [runesAt_end s p hp] at h; exact (Option.some.inj h).symm
theorem runes_len : ∀ (n : Nat) (l : List UInt8) (r : List Nat), l.length ≤ n → runes l = some r → r.length ≤ l.length := by
  intro n
  induction n with
  | zero =>
    intro l r hl h
    have : l = [] := List.eq_nil_of_length_eq_zero (by omega)
    subst this
    rw [runes_nil] at h; cases h; simp
  | succ n ih =>
    intro l r hl h
    by_cases e : l = []
    · subst e; rw [runes_nil] at h; cases h; simp
    · rw [runes_step l e] at h
      cases hs : step1 l with
      | none => rw [hs] at h; cases h
      | some d =>
        rw [hs] at h
        simp only [Option.bind_some, Option.map_eq_some_iff] at h
        obtain ⟨t, ht, rfl⟩ := h
        have hp := step1_pos' l e d hs
        have := ih (l.drop d.2) t (by simp; omega) ht
        simp at this ⊢
        omega
end Pl
set_option maxHeartbeats 400000 in
theorem count_any (s : ByteArray) (w : World) (hs : s.size ≤ 140737488351232) :
    Calls Tryz.prog 104 #[.string s] w fun e w' => e = .returned (.int .i64 (Pl.count s)) ∧ Grew w w' := by
  cases hr : Pl.runes s.data.toList with
  | none =>
    have hq : Pl.right s = false := by unfold Pl.right; rw [hr]; rfl
    have hc : Pl.count s = -1 := by unfold Pl.count; rw [hr]
    have HC := hid hc
    clear hc hr
    go_enter Tryz.func104, Tryz.ntmps104
    go_wp2_with (go_at_call 105; refine (right_any _ _ hs).mono ?_; rintro e w' ⟨rfl, p, rfl⟩)
    go_ret
    exact ⟨ret_int HC.out.symm, (Grew.refl w).iter _ _⟩
  | some l =>
    have hq : Pl.right s = true := by unfold Pl.right; rw [hr]; rfl
    have hc : Pl.count s = l.length := by unfold Pl.count; rw [hr]
    have hl : l.length ≤ s.size := by simpa using Pl.runes_len _ _ l (Nat.le_refl _) hr
    have HC := hid hc
    have HR := hid hr
    clear hc hr
    go_enter Tryz.func104, Tryz.ntmps104
    go_wp2_with (go_at_call 105; refine (right_any _ _ hs).mono ?_; rintro e w' ⟨rfl, p, rfl⟩)
    obtain ⟨W1, hW1⟩ : ∃ W1, W1 = w.iter s p := ⟨_, rfl⟩
    have hG : Grew w W1 := by rw [hW1]; exact (Grew.refl w).iter _ _
    rw [← hW1]
    clear hW1
    go_wp2
    go_loopw [3] (fun n w' => ∃ (q k : Nat) (r : List Nat), n = .int .i64 k ∧ w' = W1.iter s q ∧ q ≤ s.size ∧ Hid (Pl.runesAt s q = some r) ∧ Hid (k + r.length = l.length) ∧ k ≤ l.length) (fun _ w' => s.size - w'.iterPos W1.heap.size)
    case atStart => exact ⟨0, 0, l, rfl, rfl, Nat.zero_le _, HR.out, by simp [Hid], by omega⟩
    case round =>
      obtain ⟨q, k, r, rfl, rfl, hq2, HA, HL, hkl⟩ := hrel
      by_cases hp : q < s.size
      · have hnx : ∀ ty, (Instr.next (.pointer (some ⟨W1.heap.size, 0, none⟩)) true ty).run Tryz.prog (W1.iter s q) = _ := fun ty => run_next_any W1 s q ty hp
        have HN := hid (Pl.runes_round s q r hp HA.out)
        go_wp2
        obtain ⟨t, rfl, ht, h1, h2⟩ := HN.out
        have hlen := HL.out
        simp only [List.length_cons] at hlen
        go_roundw
        case rel => exact ⟨_, k + 1, t, by go_num, rfl, h1, ht, by unfold Hid; omega, by omega⟩
        case measure => simp; omega
      · have hnx : ∀ ty, (Instr.next (.pointer (some ⟨W1.heap.size, 0, none⟩)) true ty).run Tryz.prog (W1.iter s q) = _ := fun ty => run_next_end W1 s q ty hp
        have HN := hid (Pl.runes_done s q r hp HA.out)
        go_wp2
        go_ret
        have e1 := HN.out
        have hlen := HL.out
        rw [e1] at hlen
        simp at hlen
        exact ⟨ret_int (by rw [HC.out]; omega), hG.iter _ _⟩
theorem load_iter (W : World) (s : ByteArray) (p g : Nat) (v : Value) (h : W.cell? ⟨g, 0, none⟩ = some v) : (W.iter s p).cell? ⟨g, 0, none⟩ = some v :=
  ((Grew.refl W).iter s p).below.cell (p := ⟨g, 0, none⟩) (cell_lt h) |>.trans h
set_option maxHeartbeats 400000 in
theorem key_any (S : Nat → Bool) (E : Nat → Addr) (h2 : S 2 = true) (h3 : S 3 = true) (h6 : S 6 = true) (h7 : S 7 = true) (s : ByteArray) (w : World) (hs : s.size ≤ 140737488351232) (hE : Errs S E w) :
    Calls Tryz.prog 58 #[.string s] w fun e w' => e = .returned (errOf E (Pl.keyN s)) ∧ Grew w w' := by
  have HE := hid hE
  clear hE
  cases hr : Pl.runes s.data.toList with
  | none =>
    have hc : Pl.count s = -1 := by unfold Pl.count; rw [hr]
    have hk : Pl.keyN s = 6 := by unfold Pl.keyN; rw [hr]
    have HC := hid hc
    have HK := hid hk
    clear hc hr hk
    go_enter Tryz.func58, Tryz.ntmps58
    go_wp2_with (go_at_call 104; refine (count_any _ _ hs).mono ?_; rw [HC.out]; rintro e W1 ⟨rfl, hG⟩; have c6 : W1.cell? ⟨5, 0, none⟩ = some (.iface 343 (.pointer (some (E 6)))) := (HE.out.grew hG).cell 6 h6)
    go_ret
    exact ⟨ret_val (by rw [HK.out]; rfl), hG⟩
  | some l =>
    have hc : Pl.count s = (l.length : Int) := by unfold Pl.count; rw [hr]
    have hk : Pl.keyN s = Pl.keyL l := by unfold Pl.keyN; rw [hr]
    have hl : l.length ≤ s.size := by simpa using Pl.runes_len _ _ l (Nat.le_refl _) hr
    have HC := hid hc
    have HK := hid hk
    have HR := hid hr
    clear hc hr hk
    by_cases l0 : l.length = 0
    · have hk2 : Pl.keyL l = 2 := by unfold Pl.keyL; rw [if_pos l0]
      have HC2 : Hid (Pl.count s = 0) := by unfold Hid; rw [HC.out, l0]; rfl
      have HK2 := hid hk2
      clear hk2 l0
      go_enter Tryz.func58, Tryz.ntmps58
      go_wp2_with (go_at_call 104; refine (count_any _ _ hs).mono ?_; rw [HC2.out]; rintro e W1 ⟨rfl, hG⟩; have c6 : W1.cell? ⟨2, 0, none⟩ = some (.iface 343 (.pointer (some (E 2)))) := (HE.out.grew hG).cell 2 h2)
      go_ret
      exact ⟨ret_val (by rw [HK.out, HK2.out]; rfl), hG⟩
    · by_cases l24 : 24 < l.length
      · have hk2 : Pl.keyL l = 3 := by unfold Pl.keyL; rw [if_neg l0, if_pos l24]
        have HK2 := hid hk2
        clear hk2
        go_enter Tryz.func58, Tryz.ntmps58
        go_wp2_with (go_at_call 104; refine (count_any _ _ hs).mono ?_; rw [HC.out]; rintro e W1 ⟨rfl, hG⟩; have c6 : W1.cell? ⟨3, 0, none⟩ = some (.iface 343 (.pointer (some (E 3)))) := (HE.out.grew hG).cell 3 h3)
        go_ret
        exact ⟨ret_val (by rw [HK.out, HK2.out]; rfl), hG⟩
      · have hk2 : Pl.keyL l = if l.any Pl.badRune then 7 else 0 := by unfold Pl.keyL; rw [if_neg l0, if_neg l24]
        have HK2 := hid hk2
        clear hk2
        have b0 : ((l.length : Int) == 0) = false := beq_eq_false_iff_ne.2 (by omega)
        have b1 : decide ((l.length : Int) < 0) = false := by simp
        have b2 : decide ((24 : Int) < (l.length : Int)) = false := by simp; omega
        go_enter Tryz.func58, Tryz.ntmps58
        go_wp2_with (go_at_call 104; refine (count_any _ _ hs).mono ?_; rw [HC.out]; rintro e W1 ⟨rfl, hG⟩)
        have hE1 := HE.out.grew hG
        have c7 : W1.cell? ⟨6, 0, none⟩ = some (.iface 343 (.pointer (some (E 7)))) := hE1.cell 7 h7
        clear hE1
        go_loopw [5] (fun _ w' => ∃ (q : Nat) (r : List Nat), w' = W1.iter s q ∧ q ≤ s.size ∧ Hid (Pl.runesAt s q = some r) ∧ Hid (r.any Pl.badRune = l.any Pl.badRune)) (fun _ w' => s.size - w'.iterPos W1.heap.size)
        case atStart => exact ⟨0, l, rfl, Nat.zero_le _, HR.out, rfl⟩
        case round =>
          obtain ⟨q, r, rfl, hq2, HA, HL⟩ := hrel
          by_cases hp : q < s.size
          · have hnx : ∀ ty, (Instr.next (.pointer (some ⟨W1.heap.size, 0, none⟩)) true ty).run Tryz.prog (W1.iter s q) = _ := fun ty => run_next_any W1 s q ty hp
            have HN := hid (Pl.runes_round s q r hp HA.out)
            have c7' := load_iter W1 s (q + (Utf8.decode s q).2) 6 _ c7
            go_wp2
            · obtain ⟨t, rfl, ht, h1, h2⟩ := HN.out
              have g1 : (32 : Int) ≤ (Utf8.decode s q).1 := by assumption
              have g2 : ((Utf8.decode s q).1 : Int) < 32 ∨ (((Utf8.decode s q).1 : Int) == 127) = true := by assumption
              have g3 : (Utf8.decode s q).1 = 127 := by rcases g2 with g2 | g2; exact absurd g2 (by omega); have := eq_of_beq g2; omega
              have hb : l.any Pl.badRune = true := by rw [← HL.out]; simp [Pl.badRune, g3]
              go_ret
              exact ⟨ret_val (by rw [HK.out, HK2.out, if_pos hb]; rfl), hG.iter _ _⟩
            · obtain ⟨t, rfl, ht, h1, h2⟩ := HN.out
              have g2 : (32 : Int) ≤ (Utf8.decode s q).1 ∧ (((Utf8.decode s q).1 : Int) == 127) = false := by assumption
              have g3 : Pl.badRune (Utf8.decode s q).1 = false := by simp [Pl.badRune] at g2 ⊢; omega
              go_roundw
              case rel => exact ⟨_, t, rfl, h1, ht, by unfold Hid; rw [← HL.out]; simp [g3]⟩
              case measure => simp; omega
            · obtain ⟨t, rfl, ht, h1, h2⟩ := HN.out
              have g1 : ((Utf8.decode s q).1 : Int) < 32 := by assumption
              have hb : l.any Pl.badRune = true := by
                have g3 : Pl.badRune (Utf8.decode s q).1 = true := by simp [Pl.badRune]; omega
                rw [← HL.out]; simp [g3]
              go_ret
              exact ⟨ret_val (by rw [HK.out, HK2.out, if_pos hb]; rfl), hG.iter _ _⟩
          · have hnx : ∀ ty, (Instr.next (.pointer (some ⟨W1.heap.size, 0, none⟩)) true ty).run Tryz.prog (W1.iter s q) = _ := fun ty => run_next_end W1 s q ty hp
            have HN := hid (Pl.runes_done s q r hp HA.out)
            go_wp2
            go_ret
            have e1 := HN.out
            have hlen := HL.out
            rw [e1] at hlen
            simp at hlen
            exact ⟨ret_val (by rw [HK.out, HK2.out, if_neg (by simpa using hlen)]; rfl), hG.iter _ _⟩
end Go.Proofs.YtbdagllflamabaaGreatDoor
