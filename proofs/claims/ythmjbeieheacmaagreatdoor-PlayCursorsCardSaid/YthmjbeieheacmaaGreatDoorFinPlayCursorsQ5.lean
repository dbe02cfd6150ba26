/- Errs, PlanC: one text. -/
import Derived.Test.YthmjbeieheacmaaGreatDoorFinPlayCursorsQ1
import Derived.LaidEql
import Derived.Stop.Asserts
import Derived.RowKitTokens
import Derived.Test.YthmjbeieheacmaaGreatDoorFinPlayCursorsQ4
namespace Go.Proofs.YthmjbeieheacmaaGreatDoor
open Go.RowKit Go.Extern.Stop Go.Stop Go.Extern
theorem isTypeOf (v : Value) (w : World) : (Extern.ReflectliteType.typeOf #[.iface 280 v]).run Tryz.prog w = .ok (.iface 138 (.agg #[.pointer (some ⟨19, 280, none⟩)])) w := by kernel_rfl
theorem isComparable (w : World) : ((Extern.ReflectliteType.method fun t => do Extern.Rtype.noPackHeld "Comparable" t; pure (.bool (← typeInfo t).comparable)) #[.agg #[.pointer (some ⟨19, 280, none⟩)]]).run Tryz.prog w = .ok (.bool true) w := by kernel_rfl
theorem isMethodComparable (v : Value) (w : World) : (Go.method 426 138 v "Comparable").run Tryz.prog w = .ok (192, v) w := by kernel_rfl
theorem isComp : (Tryz.prog.info? 280).map (·.comparable) = some true := by kernel_rfl
theorem isSize : (Tryz.prog.info? 315).map (·.size) = some 1 := by kernel_rfl
theorem noIsE (v : Value) (xT : TypeId) (w : World) : (Instr.typeAssert (.iface 280 v) xT 140 true).run Tryz.prog w = .ok (.tuple #[.nilIface, .bool false]) w := run_typeAssert_lacksB Tryz.underlying140 (by kernel_rfl) (by kernel_rfl) v xT w
theorem noUnwrapE (v : Value) (xT : TypeId) (w : World) : (Instr.typeAssert (.iface 280 v) xT 143 true).run Tryz.prog w = .ok (.tuple #[.nilIface, .bool false]) w := run_typeAssert_lacksB Tryz.underlying143 (by kernel_rfl) (by kernel_rfl) v xT w
theorem noUnwrapsE (v : Value) (xT : TypeId) (w : World) : (Instr.typeAssert (.iface 280 v) xT 145 true).run Tryz.prog w = .ok (.tuple #[.nilIface, .bool false]) w := run_typeAssert_lacksB Tryz.underlying145 (by kernel_rfl) (by kernel_rfl) v xT w
theorem callTypeOf (args : Array Value) (w : World) : (callFunc 32 args).run Tryz.prog w = ((Extern.ReflectliteType.typeOf args).run Tryz.prog w).andThen fun v w' => .ok (.value v) w' :=
  @run_callFunc_extern Tryz.prog 32 _ Extern.ReflectliteType.typeOf Tryz.func32 (by kernel_rfl) (by kernel_rfl) (by kernel_rfl) (by kernel_rfl) args w
theorem callComparable (args : Array Value) (w : World) : (callFunc 192 args).run Tryz.prog w = ((Extern.ReflectliteType.method (fun t => do Extern.Rtype.noPackHeld "Comparable" t; pure (.bool (← typeInfo t).comparable)) args).run Tryz.prog w).andThen fun v w' => .ok (.value v) w' :=
  @run_callFunc_extern Tryz.prog 192 _ (Extern.ReflectliteType.method fun t => do Extern.Rtype.noPackHeld "Comparable" t; pure (.bool (← typeInfo t).comparable)) Tryz.func192 (by kernel_rfl) (by kernel_rfl) (by kernel_rfl) (by kernel_rfl) args w
theorem callTypeOfE (v : Value) (w : World) : (callFunc 32 #[.iface 280 v]).run Tryz.prog w = .ok (.value (.iface 138 (.agg #[.pointer (some ⟨19, 280, none⟩)]))) w := by
  rw [callTypeOf, isTypeOf]; rfl
theorem callComparableE (w : World) : (callFunc 192 #[.agg #[.pointer (some ⟨19, 280, none⟩)]]).run Tryz.prog w = .ok (.value (.bool true)) w := by
  rw [callComparable, isComparable]; rfl
set_option maxRecDepth 100000 in
theorem is_same (a : Addr) (w : World) :
    Calls Tryz.prog 16 #[.iface 280 (.pointer (some a)), .iface 280 (.pointer (some a))] w fun e w' => e = .returned (.bool true) ∧ w' = w := by
  obtain ⟨i, hi, hcmp⟩ := Option.map_eq_some_iff.1 isComp
  obtain ⟨j, hj, hjs⟩ := Option.map_eq_some_iff.1 isSize
  have h8 := callTypeOfE
  have h32 := callComparableE
  have mR := isMethodComparable
  have heq := run_eql_iface_ptr_same (P := Tryz.prog) w a Tryz.underlying26 Tryz.underlying280 hi hcmp hj
  go_enter Tryz.func16, Tryz.ntmps16
  go_wp2
  refine wp_loop_rounds 1 ?_
  rw [rounds_succ]
  go_wp2
  go_ret
  exact ⟨rfl, rfl⟩
set_option maxRecDepth 100000 in
theorem is_other (a b : Addr) (ca cb : Array Value) (ta tb : TypeId) (w : World) (hne : a ≠ b) (ha : w.heap[a.block]? = some (.cells ca ta (0, 0))) (hb : w.heap[b.block]? = some (.cells cb tb (0, 0))) :
    Calls Tryz.prog 16 #[.iface 280 (.pointer (some a)), .iface 280 (.pointer (some b))] w fun e w' => e = .returned (.bool false) ∧ w' = w := by
  obtain ⟨i, hi, hcmp⟩ := Option.map_eq_some_iff.1 isComp
  obtain ⟨j, hj, hjs⟩ := Option.map_eq_some_iff.1 isSize
  have h8 := callTypeOfE
  have h32 := callComparableE
  have mR := isMethodComparable
  have nE := noIsE
  have uE := noUnwrapE
  have vE := noUnwrapsE
  have heq := run_eql_iface_ptr_other (P := Tryz.prog) w Tryz.underlying26 Tryz.underlying280 hi hcmp hj (by rw [hjs]; decide) hne ha hb
  go_enter Tryz.func16, Tryz.ntmps16
  go_wp2
  refine wp_loop_rounds 1 ?_
  rw [rounds_succ]
  go_wp2
  go_ret
  exact ⟨rfl, rfl⟩
end Go.Proofs.YthmjbeieheacmaaGreatDoor
namespace Go.Proofs.YthmjbeieheacmaaGreatDoor
open Go.RowKit
def gvar : Nat → Nat
  | 1 => 1 | 2 => 2 | 3 => 3 | 4 => 0 | 5 => 4
  | 6 => 5 | 7 => 6 | 8 => 7 | 9 => 8 | 10 => 9
  | 11 => 10 | 12 => 11 | 13 => 12 | 14 => 13 | 15 => 14
  | 16 => 15 | 17 => 16 | 18 => 17 | 19 => 18 | _ => 0
def errOf (E : Nat → Addr) (k : Nat) : Value := if k = 0 then .nilIface else .iface 280 (.pointer (some (E k)))
theorem errOf_zero (E : Nat → Addr) : errOf E 0 = .nilIface := rfl
theorem errOf_pos (E : Nat → Addr) (k : Nat) (h : k ≠ 0) : errOf E k = .iface 280 (.pointer (some (E k))) := by unfold errOf; rw [if_neg h]
structure Errs (S : Nat → Bool) (E : Nat → Addr) (w : World) : Prop where
  pos : S 0 = false
  cell : ∀ k, S k = true → w.cell? ⟨gvar k, 0, none⟩ = some (.iface 280 (.pointer (some (E k))))
  row : ∀ k, S k = true → ∃ cs t, w.heap[(E k).block]? = some (.cells cs t (0, 0))
  ne : ∀ j k, S j = true → S k = true → j ≠ k → E j ≠ E k
theorem cell_lt {w : World} {a : Addr} {v : Value} (h : w.cell? a = some v) : a.block < w.heap.size := World.block_lt_of_cell? w a h
theorem Errs.grew {S : Nat → Bool} {E : Nat → Addr} {w w' : World} (h : Errs S E w) (g : Grew w w') : Errs S E w' where
  pos := h.pos
  cell k hk := by
    have := h.cell k hk
    rw [← this]
    exact g.below.cell (p := ⟨gvar k, 0, none⟩) (cell_lt this)
  row k hk := by
    obtain ⟨cs, t, hr⟩ := h.row k hk
    exact ⟨cs, t, (g.below.block _ (Array.getElem?_eq_some_iff.1 hr).1).trans hr⟩
  ne := h.ne
theorem num_nil (w : World) : Calls Tryz.prog 6 #[.nilIface] w fun e w' => e = .returned (.int .i64 0) ∧ w = w' := by
  go_enter Tryz.func6, Tryz.ntmps6
  go_wp2
  go_ret
  exact ⟨rfl, rfl⟩
def errCells (E : Nat → Addr) : Array Value := #[.iface 280 (.pointer (some (E 1))), .iface 280 (.pointer (some (E 2))), .iface 280 (.pointer (some (E 3))), .iface 280 (.pointer (some (E 4))), .iface 280 (.pointer (some (E 5))), .iface 280 (.pointer (some (E 6))), .iface 280 (.pointer (some (E 7))), .iface 280 (.pointer (some (E 8))), .iface 280 (.pointer (some (E 9))), .iface 280 (.pointer (some (E 10))), .iface 280 (.pointer (some (E 11))), .iface 280 (.pointer (some (E 12))), .iface 280 (.pointer (some (E 13))), .iface 280 (.pointer (some (E 14))), .iface 280 (.pointer (some (E 15))), .iface 280 (.pointer (some (E 16))), .iface 280 (.pointer (some (E 17))), .iface 280 (.pointer (some (E 18))), .iface 280 (.pointer (some (E 19)))]
theorem errCells_get (E : Nat → Addr) (i : Nat) (h : i < 19) : (errCells E)[i]? = some (.iface 280 (.pointer (some (E (i + 1))))) := by
  match i, h with
  | 0, _ => rfl
  | 1, _ => rfl
  | 2, _ => rfl
  | 3, _ => rfl
  | 4, _ => rfl
  | 5, _ => rfl
  | 6, _ => rfl
  | 7, _ => rfl
  | 8, _ => rfl
  | 9, _ => rfl
  | 10, _ => rfl
  | 11, _ => rfl
  | 12, _ => rfl
  | 13, _ => rfl
  | 14, _ => rfl
  | 15, _ => rfl
  | 16, _ => rfl
  | 17, _ => rfl
  | 18, _ => rfl
  | n + 19, h => omega
def allS (k : Nat) : Bool := decide (1 ≤ k) && decide (k ≤ 19)
set_option maxRecDepth 100000 in
theorem num_err (E : Nat → Addr) (k : Nat) (hk1 : 1 ≤ k) (hk2 : k ≤ 19) (w : World) (hE : Errs allS E w) :
    Calls Tryz.prog 6 #[.iface 280 (.pointer (some (E k)))] w fun e w' => e = .returned (.int .i64 k) ∧ Grew w w' := by
  have c1 : w.cell? ⟨1, 0, none⟩ = some (.iface 280 (.pointer (some (E 1)))) := hE.cell 1 (by decide)
  have c2 : w.cell? ⟨2, 0, none⟩ = some (.iface 280 (.pointer (some (E 2)))) := hE.cell 2 (by decide)
  have c3 : w.cell? ⟨3, 0, none⟩ = some (.iface 280 (.pointer (some (E 3)))) := hE.cell 3 (by decide)
  have c4 : w.cell? ⟨0, 0, none⟩ = some (.iface 280 (.pointer (some (E 4)))) := hE.cell 4 (by decide)
  have c5 : w.cell? ⟨4, 0, none⟩ = some (.iface 280 (.pointer (some (E 5)))) := hE.cell 5 (by decide)
  have c6 : w.cell? ⟨5, 0, none⟩ = some (.iface 280 (.pointer (some (E 6)))) := hE.cell 6 (by decide)
  have c7 : w.cell? ⟨6, 0, none⟩ = some (.iface 280 (.pointer (some (E 7)))) := hE.cell 7 (by decide)
  have c8 : w.cell? ⟨7, 0, none⟩ = some (.iface 280 (.pointer (some (E 8)))) := hE.cell 8 (by decide)
  have c9 : w.cell? ⟨8, 0, none⟩ = some (.iface 280 (.pointer (some (E 9)))) := hE.cell 9 (by decide)
  have c10 : w.cell? ⟨9, 0, none⟩ = some (.iface 280 (.pointer (some (E 10)))) := hE.cell 10 (by decide)
  have c11 : w.cell? ⟨10, 0, none⟩ = some (.iface 280 (.pointer (some (E 11)))) := hE.cell 11 (by decide)
  have c12 : w.cell? ⟨11, 0, none⟩ = some (.iface 280 (.pointer (some (E 12)))) := hE.cell 12 (by decide)
  have c13 : w.cell? ⟨12, 0, none⟩ = some (.iface 280 (.pointer (some (E 13)))) := hE.cell 13 (by decide)
  have c14 : w.cell? ⟨13, 0, none⟩ = some (.iface 280 (.pointer (some (E 14)))) := hE.cell 14 (by decide)
  have c15 : w.cell? ⟨14, 0, none⟩ = some (.iface 280 (.pointer (some (E 15)))) := hE.cell 15 (by decide)
  have c16 : w.cell? ⟨15, 0, none⟩ = some (.iface 280 (.pointer (some (E 16)))) := hE.cell 16 (by decide)
  have c17 : w.cell? ⟨16, 0, none⟩ = some (.iface 280 (.pointer (some (E 17)))) := hE.cell 17 (by decide)
  have c18 : w.cell? ⟨17, 0, none⟩ = some (.iface 280 (.pointer (some (E 18)))) := hE.cell 18 (by decide)
  have c19 : w.cell? ⟨18, 0, none⟩ = some (.iface 280 (.pointer (some (E 19)))) := hE.cell 19 (by decide)
  go_enter Tryz.func6, Tryz.ntmps6
  go_wp2
  obtain ⟨W1, hW1⟩ : ∃ W1, W1 = w.alloc (.cells (errCells E) 26) := ⟨_, rfl⟩
  have hcell : ∀ n, n < 19 → W1.cell? ⟨w.heap.size, n, none⟩ = some (.iface 280 (.pointer (some (E (n + 1))))) := fun n hn => by
    rw [hW1, cell_of_row _ w.heap.size n (errCells E) 26 (0, 0) (heap_alloc_new w _), errCells_get E n hn]
  have hG : Grew w W1 := by rw [hW1]; exact (Grew.refl w).alloc _
  have hE1 : Errs allS E W1 := hE.grew hG
  have hWe : w.alloc (Obj.cells #[.iface 280 (.pointer (some (E 1))), .iface 280 (.pointer (some (E 2))), .iface 280 (.pointer (some (E 3))), .iface 280 (.pointer (some (E 4))), .iface 280 (.pointer (some (E 5))), .iface 280 (.pointer (some (E 6))), .iface 280 (.pointer (some (E 7))), .iface 280 (.pointer (some (E 8))), .iface 280 (.pointer (some (E 9))), .iface 280 (.pointer (some (E 10))), .iface 280 (.pointer (some (E 11))), .iface 280 (.pointer (some (E 12))), .iface 280 (.pointer (some (E 13))), .iface 280 (.pointer (some (E 14))), .iface 280 (.pointer (some (E 15))), .iface 280 (.pointer (some (E 16))), .iface 280 (.pointer (some (E 17))), .iface 280 (.pointer (some (E 18))), .iface 280 (.pointer (some (E 19)))] 26) = W1 := hW1.symm
  rw [hWe]
  clear hWe hW1 c1 c2 c3 c4 c5 c6 c7 c8 c9 c10 c11 c12 c13 c14 c15 c16 c17 c18 c19
  have HC := hid hcell
  clear hcell
  go_loop [4, 5, 30] (fun _ _ i => ∃ n : Nat, i = .int .i64 n ∧ n < k) (fun _ _ i => 19 - (intOf i).toNat)
  case atStart => exact ⟨0, rfl, by omega⟩
  case round =>
    obtain ⟨n, rfl, hn⟩ := hrel
    have hc := HC.out n (by omega)
    by_cases he : n + 1 = k
    · subst he
      go_wp2_with (go_at_call 16; refine (is_same _ _).mono ?_; rintro e w' ⟨rfl, rfl⟩)
      go_ret
      exact ⟨ret_int (by omega), hG⟩
    · obtain ⟨ca, ta, hra⟩ := hE1.row k (by simp [allS]; omega)
      obtain ⟨cb, tb, hrb⟩ := hE1.row (n + 1) (by simp [allS]; omega)
      have hne := hE1.ne k (n + 1) (by simp [allS]; omega) (by simp [allS]; omega) (by omega)
      have hcon := hid (is_other (E k) (E (n + 1)) ca cb ta tb W1 hne hra hrb)
      clear hra hrb hne
      go_wp2_with (go_at_call 16; refine hcon.out.mono ?_; rintro e w' ⟨rfl, rfl⟩)
      go_round
      case rel => exact ⟨n + 1, by go_num, by omega⟩
      case measure => simp [intOf]; omega
end Go.Proofs.YthmjbeieheacmaaGreatDoor
set_option linter.unusedVariables false
set_option linter.unusedSectionVars false
set_option linter.unusedSimpArgs false
namespace Go.Proofs.YthmjbeieheacmaaGreatDoor
open Go.RowKit Go.Maps
attribute [local go_sem] Oper.semAt_some uponV
def IntV (W : World) (v : Value) (c : List Int) : Prop := ∃ a cap, v = .slice a c.length cap ∧ IntsAt W a c ∧ SlForm a cap
def IntV.In (P : Nat → Prop) (v : Value) (c : List Int) : Prop := c ≠ [] → ∀ b off n k, v = .slice (some ⟨b, off, none⟩) n k → P b
theorem IntV.kept {S : Nat → Prop} {W W' : World} {v : Value} {c : List Int} (h : IntV W v c) (g : Only S W W') (hS : IntV.In (fun b => ¬ S b) v c) : IntV W' v c := by
  obtain ⟨a, cap, rfl, h1, h2⟩ := h
  refine ⟨a, cap, rfl, ?_, h2⟩
  by_cases hc : c = []
  · exact .inl hc
  · exact h1.kept g fun b off e => hS hc b off _ _ (by rw [e])
theorem IntV.grew {W W' : World} {v : Value} {c : List Int} (h : IntV W v c) (g : Grew W W') : IntV W' v c := h.kept (g.only fun _ => False) (fun _ _ _ _ _ _ h => h)
theorem IntV.lt {W : World} {v : Value} {c : List Int} (h : IntV W v c) : IntV.In (fun b => b < W.heap.size) v c := by
  obtain ⟨a, cap, rfl, h1, _⟩ := h
  intro hc b off n k e
  injection e with e
  rcases h1 with h | ⟨b', off', e', hb, _⟩
  · exact absurd h hc
  · rw [e] at e'; cases e'; exact hb
theorem intV_of {W : World} {B : Nat} {a : Option Addr} {c' : Nat} {c : List Int} (h : W.ownsRow B 3 1 (.slice a c.length c') c.length (intFlat c)) : IntV W (.slice a c.length c') c ∧ IntV.In (fun b => B ≤ b) (.slice a c.length c') c := by
  obtain ⟨a2, c2, e2, h2, h3⟩ := intsAt_row h
  injection e2 with e2 _ e3
  subst e2 e3
  refine ⟨⟨a, c', rfl, h2, h3⟩, fun hc b off n k e => ?_⟩
  injection e with e
  subst e
  rcases h.2 with ⟨q, _⟩ | ⟨b', cap, cur, q, hB, _⟩
  · injection q with q; cases q
  · injection q with q; cases q; exact hB
def ChsAt (W : World) (a : Option Addr) (cs : List (List Int)) : Prop := cs = [] ∨ ∃ b off, a = some ⟨b, off, none⟩ ∧ b < W.heap.size ∧ ∀ (j : Nat) (c : List Int), cs[j]? = some c → ∃ v, W.cell? ⟨b, off + j, none⟩ = some v ∧ IntV W v c
theorem ChsAt.grew {W W' : World} {a : Option Addr} {cs : List (List Int)} (h : ChsAt W a cs) (g : Grew W W') : ChsAt W' a cs := by
  rcases h with h | ⟨b, off, rfl, hb, h⟩
  · exact .inl h
  · refine .inr ⟨b, off, rfl, Nat.lt_of_lt_of_le hb g.size, fun j c hj => ?_⟩
    obtain ⟨v, h1, h2⟩ := h j c hj
    exact ⟨v, (g.cells.1 _ _ hb).trans h1, h2.grew g⟩
theorem info_ints : (Tryz.prog.info? 22).map (fun i => (i.zero, i.size, i.bytes)) = some (some (.slice none 0 0), 1, 24) := by kernel_rfl
def RowI (W : World) (B : Nat) (v : Value) (cs : List (List Int)) : Prop := ∃ fl : List Value, W.ownsRow B 22 1 v cs.length fl ∧ ∀ (j : Nat) (c : List Int), cs[j]? = some c → ∃ u, fl[j]? = some u ∧ IntV W u c ∧ IntV.In (fun b => B ≤ b ∧ v.ownBlock ≠ some b) u c
theorem RowI.nil (W : World) (B : Nat) : RowI W B (.slice none 0 0) [] := ⟨[], World.ownsRow_nil _ _ _ _, fun j c h => by simp at h⟩
theorem RowI.snoc {W x0 u Z : World} {B ob : Nat} {v x : Value} {cs : List (List Int)} {c : List Int} {g gc n : Nat} {fl : List Value} (hn : n = cs.length) (h1 : W.ownsRow B 22 1 v n fl) (h2 : u.ownsRow 0 22 1 (.slice (some ⟨g, 0, none⟩) (n + 1) gc) (n + 1) (fl ++ [x])) (h3 : ∀ (j : Nat) (c : List Int), cs[j]? = some c → ∃ u, fl[j]? = some u ∧ IntV W u c ∧ IntV.In (fun b => B ≤ b ∧ v.ownBlock ≠ some b) u c)
    (g0 : Grew W x0) (hx : IntV x0 x c) (hxi : IntV.In (fun b => W.heap.size ≤ b) x c) (ho : Only (fun j => some j = v.ownBlock) x0 u) (hg : v.ownBlock = some g ∨ g = x0.heap.size) (hB : B ≤ W.heap.size) (oZ : Only (fun j => j = ob) u Z) (hob : ob < B) : RowI Z B (.slice (some ⟨g, 0, none⟩) (n + 1) gc) (cs ++ [c]) := by
  subst hn
  have hlen : fl.length = cs.length := by have := h1.1; omega
  have hgB : B ≤ g := by
    rcases hg with e | e
    · exact (h1.lt g e).1
    · have := g0.size; omega
  have hgu := (h2.lt g rfl).2
  have hself : ∀ b, (Value.slice (some ⟨g, 0, none⟩) (cs.length + 1) gc).ownBlock = some b ↔ b = g := fun b => by simp [Value.ownBlock]; exact eq_comm
  refine ⟨fl ++ [x], ?_, ?_⟩
  · rw [show (cs ++ [c]).length = cs.length + 1 by simp]
    have := ownsRow_kept h2 oZ (fun b hb e => by have := (hself b).1 hb; omega)
    refine ⟨this.1, ?_⟩
    rcases this.2 with ⟨q, _⟩ | ⟨b, cap, cur, q, _, q2⟩
    · injection q with q; cases q
    · refine .inr ⟨b, cap, cur, q, ?_, q2⟩
      injection q with q; cases q; exact hgB
  · intro j c' hj
    by_cases hjl : j < cs.length
    · rw [List.getElem?_append_left hjl] at hj
      obtain ⟨w1, e1, e2, e3⟩ := h3 j c' hj
      have e4 := e2.lt
      refine ⟨w1, by rw [List.getElem?_append_left (by omega)]; exact e1, ((e2.grew g0).kept ho fun hc b off n k e q => (e3 hc b off n k e).2 q.symm).kept oZ fun hc b off n k e q => by have := (e3 hc b off n k e).1; omega, fun hc b off n k e => ⟨(e3 hc b off n k e).1, fun q => ?_⟩⟩
      have q := (hself b).1 q
      rcases hg with hg | hg
      · exact (e3 hc b off n k e).2 (by rw [hg, q])
      · have := e4 hc b off n k e; have := g0.size; omega
    · have hjc : j = cs.length := by have := (List.getElem?_eq_some_iff.1 hj).1; simp at this; omega
      subst hjc
      rw [List.getElem?_append_right (by omega)] at hj
      simp at hj
      subst hj
      have e4 := hx.lt
      refine ⟨x, by rw [List.getElem?_append_right (by omega), hlen]; simp, (hx.kept ho fun hc b off n k e q => ?_).kept oZ fun hc b off n k e q => ?_, fun hc b off n k e => ⟨?_, fun q => ?_⟩⟩
      · have h5 := hxi hc b off n k e
        have := (h1.lt b q.symm).2; omega
      · have h5 := hxi hc b off n k e; omega
      · have h5 := hxi hc b off n k e; omega
      · have q := (hself b).1 q
        have h5 := hxi hc b off n k e
        rcases hg with hg | hg
        · have := (h1.lt g hg).2; omega
        · have := e4 hc b off n k e; omega
theorem RowI.low {W Z : World} {B C ob : Nat} {v : Value} {cs : List (List Int)} (h : RowI W B v cs) (o : Only (fun j => j = ob) W Z) (hob : ob < B) (hC : C ≤ B) : RowI Z C v cs := by
  obtain ⟨fl, h1, h2⟩ := h
  refine ⟨fl, ownsRow_base hC (ownsRow_kept h1 o fun b hb e => by have := (h1.lt b hb).1; omega), fun j c hj => ?_⟩
  obtain ⟨u, h3, h4, h5⟩ := h2 j c hj
  exact ⟨u, h3, h4.kept o fun hc b off n k e q => (by have := (h5 hc b off n k e).1; omega), fun hc b off n k e => ⟨Nat.le_trans hC (h5 hc b off n k e).1, (h5 hc b off n k e).2⟩⟩
theorem RowI.at {W : World} {B : Nat} {v : Value} {cs : List (List Int)} (h : RowI W B v cs) : ∃ a cap, v = .slice a cs.length cap ∧ ChsAt W a cs ∧ SlForm a cap := by
  obtain ⟨fl, h1, h2⟩ := h
  rcases h1.2 with ⟨rfl, h0⟩ | ⟨b, cap, cur, rfl, _, hb, _⟩
  · exact ⟨none, 0, by rw [h0], .inl (List.eq_nil_of_length_eq_zero h0), .inl ⟨rfl, rfl⟩⟩
  · refine ⟨_, _, rfl, ?_, .inr ⟨_, _, rfl⟩⟩
    refine .inr ⟨b, 0, rfl, (Array.getElem?_eq_some_iff.1 hb).1, fun j c hj => ?_⟩
    obtain ⟨u, hu, hv, _⟩ := h2 j c hj
    refine ⟨u, ?_, hv⟩
    have := h1.cells (g := b) rfl j u hu
    rwa [Addr.add_lit] at this
structure CpI (w Y : World) (e : Int) (cs : List (List Int)) (k : Nat) (v : Value) (wr : World) : Prop where
  grew : Grew w wr
  size : Y.heap.size ≤ wr.heap.size
  c0 : wr.cell? ⟨w.heap.size + 1 + 1, 0, none⟩ = some (.int .i64 e)
  c1 : wr.cell? ⟨w.heap.size + 1 + 1, 1, none⟩ = some v
  f1 : wr.frozen? ⟨w.heap.size + 1 + 1, 1, none⟩ = false
  r0 : wr.cell? ⟨w.heap.size + 1, 0, none⟩ = some (.int .i64 0)
  r1 : wr.cell? ⟨w.heap.size + 1, 1, none⟩ = some (.slice none 0 0)
  rf : ∀ i, wr.frozen? ⟨w.heap.size + 1, i, none⟩ = false
  row : RowI wr Y.heap.size v (cs.take k)
set_option maxRecDepth 100000 in
set_option maxHeartbeats 8000000 in
theorem planCopy_any (w : World) (e : Int) (a : Option Addr) (cap : Nat) (cs : List (List Int)) (hA : ChsAt w a cs) (hn : cs.length ≤ 1000) (hc : ∀ c ∈ cs, c.length ≤ 100000) :
    Calls Tryz.prog 24 #[.agg #[.int .i64 e, .slice a cs.length cap]] w fun r w' => Grew w w' ∧ ∃ v, r = .returned (.agg #[.int .i64 e, v]) ∧ RowI w' w.heap.size v cs := by
  obtain ⟨i0, hi0, hz0, hz1, hz2⟩ := info_parts info_ints
  have HA := hid hA
  have HC := hid hc
  clear hA hc
  go_enter Tryz.func24, Tryz.ntmps24
  go_wp2_with fail
  obtain ⟨Y, hY⟩ : ∃ Y, Y = ((w.alloc (.cells #[.int .i64 e, .slice a cs.length cap] 40)).alloc (.cells #[.int .i64 0, .slice none 0 0] 40)).alloc (.cells #[.int .i64 e, .slice none 0 0] 40) := ⟨_, rfl⟩
  have gY : Grew w Y := by rw [hY]; exact (((Grew.refl w).alloc _).alloc _).alloc _
  have hsz : Y.heap.size = w.heap.size + 3 := by rw [hY]; simp
  have y0 : Y.cell? ⟨w.heap.size + 1 + 1, 0, none⟩ = some (.int .i64 e) := by rw [hY]; simp [go_sem]
  have y1 : Y.cell? ⟨w.heap.size + 1 + 1, 1, none⟩ = some (.slice none 0 0) := by rw [hY]; simp [go_sem]
  have yf : Y.frozen? ⟨w.heap.size + 1 + 1, 1, none⟩ = false := by rw [hY]; simp [go_sem]
  have r0 : Y.cell? ⟨w.heap.size + 1, 0, none⟩ = some (.int .i64 0) := by rw [hY]; simp [go_sem]
  have r1 : Y.cell? ⟨w.heap.size + 1, 1, none⟩ = some (.slice none 0 0) := by rw [hY]; simp [go_sem]
  have rf : ∀ i, Y.frozen? ⟨w.heap.size + 1, i, none⟩ = false := fun i => by rw [hY]; simp [go_sem]
  have h0 : CpI w Y e cs 0 (.slice none 0 0) Y := ⟨gY, Nat.le_refl _, y0, y1, yf, r0, r1, rf, RowI.nil _ _⟩
  rw [← hY]
  have H0 := hid h0
  have HSZ := hid hsz
  clear hY gY y0 y1 yf r0 r1 rf h0 hsz
  go_loopw [5, 12] (fun _ i wr => ∃ (k : Nat) (v : Value), i = .int .i64 k ∧ k ≤ cs.length ∧ Hid (CpI w Y e cs k v wr)) (fun _ i _ => cs.length - (intOf i).toNat)
  case atStart => exact ⟨0, _, rfl, Nat.zero_le _, H0⟩
  case round =>
    obtain ⟨k, v, rfl, hk, HI⟩ := hrel
    by_cases hlt : k < cs.length
    · rcases HA.out with h0 | ⟨b, off, rfl, hb, hR⟩
      · rw [h0] at hlt; simp at hlt
      obtain ⟨u, hu1, hu2⟩ := hR k cs[k] (List.getElem?_eq_getElem hlt)
      have hcl := HC.out _ (List.getElem_mem hlt)
      have htk : cs.take (k + 1) = cs.take k ++ [cs[k]] := List.take_succ_eq_append_getElem hlt
      obtain ⟨ua, uc, rfl, hu3, hu4⟩ := hu2
      have q0 := (HI.out.grew.cells.1 b (off + k) hb).trans hu1
      generalize hcc : cs[k] = c at *
      have HU := hid (And.intro hu3 hu4)
      have HTK := hid htk
      obtain ⟨va, vc, rfl, _, _⟩ := HI.out.row.at
      have hlen : (cs.take k).length = k := by rw [List.length_take]; omega
      rw [hlen] at HI
      have c1 := HI.out.c1
      have hob := cell_lt c1
      have hsz := HSZ.out
      obtain ⟨fl, fl1, fl2⟩ := HI.out.row
      rw [hlen] at fl1
      have hne : ¬ some (w.heap.size + 1 + 1) = Value.ownBlock (.slice va k vc) := fun q => by
        have := (fl1.lt _ q.symm).1
        omega
      have FL1 := hid fl1
      have FL2 := hid fl2
      clear hR hu1 hu3 hu4 htk hcc fl1 fl2
      go_wp2_with fail
      have C1 := wd_only (S := fun j => some j = Value.ownBlock (.slice va k vc)) c1 hne
      refine wp_region_mixS 6 [3, 4, 5] (Only (fun j => some j = Value.ownBlock (.slice va k vc)) wr) Eq (JA 3 4 5 (fun _ => none) 22 1 wr (fun r x => IntV x r c ∧ IntV.In (fun b => wr.heap.size ≤ b) r c) (fun r => [r]) (.slice va k vc) k fl) (fun f a => ((a.put (some 19) (f 3)).put (some 20) (f 4)).put (some 21) (f 5)) (by kernel_rfl) (by kernel_rfl) (fun _ _ => rfl) (JA.start _) (fun _ _ _ h => h.only) (fun _ => rfl) (fun _ _ _ _ h g => g ▸ h) ?_
      repeat (first
    | refine mxL ?_
    | (refine mxP ?_; intros; go_big_quiet_op; go_big_quiet_on)
    | (refine mxK ?_; simp only [Act.put, List.setIfInBounds_toArray, List.set_cons_zero, List.set_cons_succ]))
      refine mixS_done (by rfl) ⟨⟨loose_of rfl (fun _ a => a) (fun _ _ => rfl) (fun _ => rfl) ?_, loose_of rfl (fun f a => a.put (some 19) (f 3)) (fun _ _ => rfl) (fun _ => rfl) ?_, loose_of rfl (fun f a => (a.put (some 19) (f 3)).put (some 20) (f 4)) (fun _ _ => rfl) (fun _ => rfl) ?_, trivial⟩, ?_⟩
      · intro L f x hJ hL hd
        obtain ⟨hg, hp⟩ := hJ.atCall hL
        have HP := hid hp
        clear hJ hL hd hp C1
        go_simp
        refine (cloneI_any x ua c.length uc c rfl (HU.out.1.grew (HI.out.grew.trans hg)) HU.out.2 (by omega)).mono ?_
        rintro r x' ⟨a', c', rfl, hr, hg2⟩
        obtain ⟨i1, i2⟩ := intV_of hr
        exact ⟨_, rfl, HP.out _ _ hg2 ⟨i1, fun hc b off n k e => Nat.le_trans hg.size (i2 hc b off n k e)⟩⟩
      · intro L f x hJ hL hd
        have hc : L 3 = true := hd 3 rfl (by decide)
        obtain ⟨hg, hr, hp⟩ := hJ.atMake hL hc (fun _ _ _ h g => ⟨h.1.grew g, h.2⟩)
        obtain ⟨ra, rc, e3, _⟩ := hr.1
        rw [e3] at hp ⊢
        have HP := hid hp
        clear hJ hL hd hp hr C1 e3
        go_simp
        exact HP.out
      · intro L f x hJ hL hd
        have h4 : L 4 = true := hd 4 rfl (by decide)
        obtain ⟨hg, hr, ⟨kb, e4, hkb⟩, hp⟩ := hJ.atApp hL h4
        obtain ⟨ra, rc, e3, _⟩ := hr.1
        rw [e4]
        rw [e3] at hkb hp
        rw [e3]
        have fl1 := FL1.out
        refine uponV_append _ _ _ rfl 22 i0 _ 1 24 Tryz.underlying38 hi0 hz0 hz1 hz2 rfl (by omega) (.slice va k vc) k _ rfl (ownsRow_zero (ownsRow_grew hg fl1)) kb 1 _ rfl rfl hkb (fun v hv => by rw [List.mem_singleton.1 hv]; rfl) (by unfold maxLen; omega) (by omega) ?_
        intro r w' hD
        exact hp _ _ hD
      intro f x hJ
      obtain ⟨x0, gx0, ⟨hv, hvi⟩, hD⟩ := hJ.ha rfl
      obtain ⟨g, gc, e5, hrow, hgb, hgo⟩ := hD
      obtain ⟨ra, rc, e3, _⟩ := hv
      rw [e5, e3]
      rw [e3] at hrow hvi
      have hv : IntV x0 (.slice ra c.length rc) c := ⟨ra, rc, rfl, by assumption⟩
      have ho1 : Only (fun j => some j = Value.ownBlock (.slice va k vc)) wr x := hJ.only
      have x1 := (ho1.cell hob hne 1).trans c1
      have xf := (ho1.frozen hob hne 1).trans HI.out.f1
      have HSN := hid (fun Z (oZ : Only (fun j => j = w.heap.size + 1 + 1) x Z) => RowI.snoc (ob := w.heap.size + 1 + 1) hlen.symm FL1.out hrow FL2.out gx0 hv hvi (Only.of_grownBy hgb) hgo HI.out.size oZ (by omega))
      have HO := hid ho1
      clear hJ hv hvi hrow hgb hgo ho1 gx0 e3 e5 C1 c1 q0
      dsimp only [List.drop]
      simp only [Act.put, List.setIfInBounds_toArray, List.set_cons_succ, List.set_cons_zero]
      go_wp2_with fail
      go_roundw
      case rel =>
        have oZ : Only (fun j => j = w.heap.size + 1 + 1) x (x.setCell ⟨w.heap.size + 1 + 1, 1, none⟩ (.slice (some ⟨g, 0, none⟩) (k + 1) gc)) := Only.setCell x ⟨w.heap.size + 1 + 1, 1, none⟩ _
        have hrb : ¬ some (w.heap.size + 1) = Value.ownBlock (.slice va k vc) := fun q => by
          have := (FL1.out.lt _ q.symm).1
          omega
        have hrl := cell_lt HI.out.r0
        have hrx : w.heap.size + 1 < x.heap.size := Nat.lt_of_lt_of_le hrl HO.out.size
        refine ⟨k + 1, _, by go_num, by omega, ⟨?_, Nat.le_trans HI.out.size (Nat.le_trans HO.out.size oZ.size), ?_, World.cell?_setCell_same' _ _ _ (by rw [x1]; rfl), (World.frozen?_setCell _ _ _ _).trans xf, ?_, ?_, fun i => ?_, ?_⟩⟩
        · refine ((HI.out.grew.only (fun j => some j = Value.ownBlock (.slice va k vc) ∨ j = w.heap.size + 1 + 1)).then ((HO.out.mono fun _ e => .inl (.inl e)).then (oZ.mono fun _ e => .inl (.inr e)))).grew fun j hj => ?_
          rcases hj with e | e
          · have := (FL1.out.lt _ e.symm).1; omega
          · omega
        · exact (World.cell?_setCell_other x ⟨w.heap.size + 1 + 1, 1, none⟩ ⟨w.heap.size + 1 + 1, 0, none⟩ _ (fun e => by cases e)).trans ((HO.out.cell hob hne 0).trans HI.out.c0)
        · exact (oZ.cell hrx (by omega) 0).trans ((HO.out.cell hrl hrb 0).trans HI.out.r0)
        · exact (oZ.cell hrx (by omega) 1).trans ((HO.out.cell hrl hrb 1).trans HI.out.r1)
        · exact (oZ.frozen hrx (by omega) i).trans ((HO.out.frozen hrl hrb i).trans (HI.out.rf i))
        · rw [HTK.out]; exact HSN.out _ oZ
      case measure => simp [intOf]; omega
    · obtain rfl : k = cs.length := by omega
      have c0 := HI.out.c0
      have c1 := HI.out.c1
      have r0 := HI.out.r0
      have r1 := HI.out.r1
      have rf := HI.out.rf
      obtain ⟨va, vc, rfl, _, _⟩ := HI.out.row.at
      have e0 : List.take cs.length cs = cs := List.take_length
      rw [e0] at HI c1
      clear e0
      go_wp2_with fail
      obtain ⟨Z, hZ⟩ : ∃ Z, Z = (wr.setCell ⟨w.heap.size + 1, 0, none⟩ (.int .i64 e)).setCell ⟨w.heap.size + 1, 1, none⟩ (.slice va cs.length vc) := ⟨_, rfl⟩
      have oZ : Only (fun j => j = w.heap.size + 1) wr Z := by rw [hZ]; exact (Only.setCell wr ⟨w.heap.size + 1, 0, none⟩ _).then (Only.setCell _ ⟨w.heap.size + 1, 1, none⟩ _)
      have z0 : Z.cell? ⟨w.heap.size + 1, 0, none⟩ = some (.int .i64 e) := by rw [hZ]; simp [go_sem, r0, r1]
      have z1 : Z.cell? ⟨w.heap.size + 1, 1, none⟩ = some (.slice va cs.length vc) := by rw [hZ]; simp [go_sem, r0, r1]
      rw [← hZ]
      have hsz := HSZ.out
      refine bodyPost_ret (v := .agg #[.int .i64 e, .slice va cs.length vc]) (by simp [results, Tryz.f24, go_sem, z0, z1]) rfl ?_
      have hrow := HI.out.row
      rw [List.take_length] at hrow
      exact ⟨((HI.out.grew.only _).then oZ).grew (fun j (hj : j = w.heap.size + 1) => by omega), _, rfl, hrow.low (C := w.heap.size) (ob := w.heap.size + 1) oZ (by omega) (by omega)⟩
end Go.Proofs.YthmjbeieheacmaaGreatDoor
