/- errors.Is at the program's sentinels: by its text, walked once. After the guide's worked text SentryIs, turned to this program's numbers. -/
import Derived.Test.YtajoihpjnnnkeaaDoorKit
import Derived.LaidEql
import Derived.Stop.Asserts
import Derived.RowKitTokens
namespace Go.Proofs.YtajoihpjnnnkeaaDoor
open Go.RowKit Go.Extern.Stop Go.Stop Go.Extern

/-- The dynamic type of an error of errors.New's make. -/
abbrev ET : TypeId := 265

theorem isTypeOf (v : Value) (w : World) : (Extern.ReflectliteType.typeOf #[.iface 265 v]).run Tryd.prog w = .ok (.iface 226 (.agg #[.pointer (some ⟨19, 265, none⟩)])) w := by kernel_rfl
theorem isComparable (w : World) : ((Extern.ReflectliteType.method fun t => do Extern.Rtype.noPackHeld "Comparable" t; pure (.bool (← typeInfo t).comparable)) #[.agg #[.pointer (some ⟨19, 265, none⟩)]]).run Tryd.prog w = .ok (.bool true) w := by kernel_rfl
theorem isMethodComparable (v : Value) (w : World) : (Go.method 410 226 v "Comparable").run Tryd.prog w = .ok (222, v) w := by kernel_rfl
theorem isComp : (Tryd.prog.info? 265).map (·.comparable) = some true := by kernel_rfl
theorem isSize : (Tryd.prog.info? 295).map (·.size) = some 1 := by kernel_rfl
theorem noIsE (v : Value) (xT : TypeId) (w : World) : (Instr.typeAssert (.iface 265 v) xT 228 true).run Tryd.prog w = .ok (.tuple #[.nilIface, .bool false]) w := run_typeAssert_lacksB Tryd.underlying228 (by kernel_rfl) (by kernel_rfl) v xT w
theorem noUnwrapE (v : Value) (xT : TypeId) (w : World) : (Instr.typeAssert (.iface 265 v) xT 231 true).run Tryd.prog w = .ok (.tuple #[.nilIface, .bool false]) w := run_typeAssert_lacksB Tryd.underlying231 (by kernel_rfl) (by kernel_rfl) v xT w
theorem noUnwrapsE (v : Value) (xT : TypeId) (w : World) : (Instr.typeAssert (.iface 265 v) xT 233 true).run Tryd.prog w = .ok (.tuple #[.nilIface, .bool false]) w := run_typeAssert_lacksB Tryd.underlying233 (by kernel_rfl) (by kernel_rfl) v xT w

theorem callTypeOf (args : Array Value) (w : World) : (callFunc 120 args).run Tryd.prog w = ((Extern.ReflectliteType.typeOf args).run Tryd.prog w).andThen fun v w' => .ok (.value v) w' :=
  @run_callFunc_extern Tryd.prog 120 _ Extern.ReflectliteType.typeOf Tryd.func120 (by kernel_rfl) (by kernel_rfl) (by kernel_rfl) (by kernel_rfl) args w
theorem callComparable (args : Array Value) (w : World) : (callFunc 222 args).run Tryd.prog w = ((Extern.ReflectliteType.method (fun t => do Extern.Rtype.noPackHeld "Comparable" t; pure (.bool (← typeInfo t).comparable)) args).run Tryd.prog w).andThen fun v w' => .ok (.value v) w' :=
  @run_callFunc_extern Tryd.prog 222 _ (Extern.ReflectliteType.method fun t => do Extern.Rtype.noPackHeld "Comparable" t; pure (.bool (← typeInfo t).comparable)) Tryd.func222 (by kernel_rfl) (by kernel_rfl) (by kernel_rfl) (by kernel_rfl) args w
theorem callTypeOfE (v : Value) (w : World) : (callFunc 120 #[.iface 265 v]).run Tryd.prog w = .ok (.value (.iface 226 (.agg #[.pointer (some ⟨19, 265, none⟩)]))) w := by
  rw [callTypeOf, isTypeOf]; rfl
theorem callComparableE (w : World) : (callFunc 222 #[.agg #[.pointer (some ⟨19, 265, none⟩)]]).run Tryd.prog w = .ok (.value (.bool true)) w := by
  rw [callComparable, isComparable]; rfl

set_option maxRecDepth 100000 in
theorem is_same (a : Addr) (w : World) :
    Calls Tryd.prog 83 #[.iface 265 (.pointer (some a)), .iface 265 (.pointer (some a))] w fun e w' => e = .returned (.bool true) ∧ w' = w := by
  obtain ⟨i, hi, hcmp⟩ := Option.map_eq_some_iff.1 isComp
  obtain ⟨j, hj, hjs⟩ := Option.map_eq_some_iff.1 isSize
  have h8 := callTypeOfE
  have h32 := callComparableE
  have mR := isMethodComparable
  have heq := run_eql_iface_ptr_same (P := Tryd.prog) w a Tryd.underlying59 Tryd.underlying265 hi hcmp hj
  go_enter Tryd.func83, Tryd.ntmps83
  go_wp2
  refine wp_loop_rounds 1 ?_
  rw [rounds_succ]
  go_wp2
  go_ret
  exact ⟨rfl, rfl⟩

set_option maxRecDepth 100000 in
theorem is_other (a b : Addr) (ca cb : Array Value) (ta tb : TypeId) (w : World) (hne : a ≠ b) (ha : w.heap[a.block]? = some (.cells ca ta (0, 0))) (hb : w.heap[b.block]? = some (.cells cb tb (0, 0))) :
    Calls Tryd.prog 83 #[.iface 265 (.pointer (some a)), .iface 265 (.pointer (some b))] w fun e w' => e = .returned (.bool false) ∧ w' = w := by
  obtain ⟨i, hi, hcmp⟩ := Option.map_eq_some_iff.1 isComp
  obtain ⟨j, hj, hjs⟩ := Option.map_eq_some_iff.1 isSize
  have h8 := callTypeOfE
  have h32 := callComparableE
  have mR := isMethodComparable
  have nE := noIsE
  have uE := noUnwrapE
  have vE := noUnwrapsE
  have heq := run_eql_iface_ptr_other (P := Tryd.prog) w Tryd.underlying59 Tryd.underlying265 hi hcmp hj (by rw [hjs]; decide) hne ha hb
  go_enter Tryd.func83, Tryd.ntmps83
  go_wp2
  refine wp_loop_rounds 1 ?_
  rw [rounds_succ]
  go_wp2
  go_ret
  exact ⟨rfl, rfl⟩
end Go.Proofs.YtajoihpjnnnkeaaDoor
