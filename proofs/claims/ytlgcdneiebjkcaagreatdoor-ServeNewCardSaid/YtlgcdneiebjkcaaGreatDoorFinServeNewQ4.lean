/- RgnA, Errs: one text. -/
import Derived.Test.YtlgcdneiebjkcaaGreatDoorFinServeNewQ3
import Derived.Test.YtlgcdneiebjkcaaGreatDoorFinServeNewQ1
import Derived.LaidEql
import Derived.Stop.Asserts
import Derived.RowKitTokens
namespace Go.Proofs.YtlgcdneiebjkcaaGreatDoor
open Go.RowKit Go.Maps
structure JA (c b a : Nat) (ds : Nat → Option (Value → Value)) (e : TypeId) (size : Nat) (y : World) (R : Value → World → Prop) (N : Value → List Value) (v : Value) (n : Nat) (xs : List Value) (L : Nat → Bool) (f : Nat → Value) (u : World) : Prop where
  pre : L a = false → Grew y u
  only : Only (fun j => some j = v.ownBlock) y u
  hc : L c = true → L a = false → R (f c) u
  hb : L b = true → L a = false → ∃ k, f b = .slice (some ⟨k, 0, none⟩) 1 1 ∧ u.heap[k]? = some (.cells (N (f c)).toArray e (0, 0))
  ha : L a = true → ∃ x0, Grew y x0 ∧ R (f c) x0 ∧ AppD e size v n xs (N (f c)) x0 (f a) u
  oc : L b = true → L c = true
  ob : L a = true → L b = true
  od : ∀ i g, ds i = some g → L i = true → L c = true ∧ f i = g (f c)
section
variable {c b a : Nat} {ds : Nat → Option (Value → Value)} {e : TypeId} {size : Nat} {y : World} {R : Value → World → Prop} {N : Value → List Value} {v : Value} {n : Nat} {xs : List Value} {L : Nat → Bool} {f : Nat → Value} {u : World}
theorem JA.start (f : Nat → Value) : JA c b a ds e size y R N v n xs (fun _ => false) f y.drew :=
  ⟨fun _ => (Grew.refl y).drew, ((Grew.refl y).drew).only _, fun h => (by cases h), fun h => (by cases h), fun h => (by cases h), fun h => (by cases h), fun h => (by cases h), fun _ _ _ h => (by cases h)⟩
theorem JA.atCall (h : JA c b a ds e size y R N v n xs L f u) (hL : L c = false) (hcb : c ≠ b := by decide) (hca : c ≠ a := by decide) (hd : ds c = none := by rfl) : Grew y u ∧ ∀ r u', Grew u u' → R r u' → JA c b a ds e size y R N v n xs (plus L c) (updV f c r) u' := by
  have hbF : L b = false := by cases hb : L b with | false => rfl | true => have := h.oc hb; rw [hL] at this; cases this
  have haF : L a = false := by cases ha : L a with | false => rfl | true => have := h.ob ha; rw [hbF] at this; cases this
  refine ⟨h.pre haF, fun r u' g hr => ⟨fun _ => (h.pre haF).trans g, ((h.pre haF).trans g).only _, fun _ _ => (by rw [updV_same]; exact hr), fun q => ?_, fun q => ?_, fun _ => plus_on, fun q => ?_, fun i gg hi q => ?_⟩⟩
  · rw [plus_ne (Ne.symm hcb), hbF] at q; cases q
  · rw [plus_ne (Ne.symm hca), haF] at q; cases q
  · rw [plus_ne (Ne.symm hca), haF] at q; cases q
  · have hic : i ≠ c := fun e => by rw [e, hd] at hi; cases hi
    rw [plus_ne hic] at q
    have := (h.od i gg hi q).1
    rw [hL] at this; cases this
theorem JA.atRead (h : JA c b a ds e size y R N v n xs L f u) (i : Nat) {g : Value → Value} (hi : ds i = some g) (hc : L c = true) (hic : i ≠ c := by decide) (hib : i ≠ b := by decide) (hia : i ≠ a := by decide) : JA c b a ds e size y R N v n xs (plus L i) (updV f i (g (f c))) u := by
  have ec : updV f i (g (f c)) c = f c := updV_ne (Ne.symm hic)
  have eb : updV f i (g (f c)) b = f b := updV_ne (Ne.symm hib)
  have ea : updV f i (g (f c)) a = f a := updV_ne (Ne.symm hia)
  have lc : plus L i c = L c := plus_ne (Ne.symm hic)
  have lb : plus L i b = L b := plus_ne (Ne.symm hib)
  have la : plus L i a = L a := plus_ne (Ne.symm hia)
  refine ⟨fun q => h.pre (la ▸ q), h.only, fun q1 q2 => ?_, fun q1 q2 => ?_, fun q => ?_, fun q => ?_, fun q => ?_, fun j gg hj q => ?_⟩
  · rw [ec]; exact h.hc hc (la ▸ q2)
  · rw [ec, eb]; exact h.hb (lb ▸ q1) (la ▸ q2)
  · rw [ec, ea]; exact h.ha (la ▸ q)
  · rw [lc]; exact hc
  · rw [lb]; exact h.ob (la ▸ q)
  · rw [lc, ec]
    by_cases e : j = i
    · subst e; rw [updV_same]; rw [hi] at hj; cases hj; exact ⟨hc, rfl⟩
    · rw [updV_ne e]; rw [plus_ne e] at q; exact h.od j gg hj q
theorem JA.atMake (h : JA c b a ds e size y R N v n xs L f u) (hL : L b = false) (hc : L c = true) (hR : ∀ r x x', R r x → Grew x x' → R r x') (hbc : b ≠ c := by decide) (hba : b ≠ a := by decide) (hd : ds b = none := by rfl) : Grew y u ∧ R (f c) u ∧ JA c b a ds e size y R N v n xs (plus L b) (updV f b (.slice (some ⟨u.heap.size, 0, none⟩) 1 1)) (u.alloc (.cells (N (f c)).toArray e)) := by
  have haF : L a = false := by cases ha : L a with | false => rfl | true => have := h.ob ha; rw [hL] at this; cases this
  have gA : Grew u (u.alloc (.cells (N (f c)).toArray e)) := (Grew.refl u).alloc _
  have ec : updV f b (.slice (some ⟨u.heap.size, 0, none⟩) 1 1) c = f c := updV_ne (Ne.symm hbc)
  have la : plus L b a = false := (plus_ne (Ne.symm hba)).trans haF
  refine ⟨h.pre haF, h.hc hc haF, ⟨fun _ => (h.pre haF).trans gA, ((h.pre haF).trans gA).only _, fun _ _ => ?_, fun _ _ => ⟨u.heap.size, updV_same _ _ _, ?_⟩, fun q => ?_, fun _ => ?_, fun q => ?_, fun i gg hi q => ?_⟩⟩
  · rw [ec]; exact hR _ _ _ (h.hc hc haF) gA
  · rw [ec]; exact heap_alloc_new u _
  · rw [la] at q; cases q
  · rw [plus_ne (Ne.symm hbc)]; exact hc
  · rw [la] at q; cases q
  · have hib : i ≠ b := fun e => by rw [e, hd] at hi; cases hi
    rw [plus_ne hib] at q
    rw [plus_ne (Ne.symm hbc), ec, updV_ne hib]
    exact h.od i gg hi q
theorem JA.atApp (h : JA c b a ds e size y R N v n xs L f u) (hL : L a = false) (hb : L b = true) (hac : a ≠ c := by decide) (hab : a ≠ b := by decide) (hd : ds a = none := by rfl) : Grew y u ∧ R (f c) u ∧ (∃ k, f b = .slice (some ⟨k, 0, none⟩) 1 1 ∧ u.heap[k]? = some (.cells (N (f c)).toArray e (0, 0))) ∧ ∀ r u', AppD e size v n xs (N (f c)) u r u' → JA c b a ds e size y R N v n xs (plus L a) (updV f a r) u' := by
  have hc := h.oc hb
  refine ⟨h.pre hL, h.hc hc hL, h.hb hb hL, fun r u' hD => ?_⟩
  have ec : updV f a r c = f c := updV_ne (Ne.symm hac)
  refine ⟨fun q => ?_, (((h.pre hL).only _).then hD.only), fun _ q => ?_, fun _ q => ?_, fun _ => ⟨u, h.pre hL, ?_, ?_⟩, fun _ => ?_, fun _ => ?_, fun i gg hi q => ?_⟩
  · rw [plus_on] at q; cases q
  · rw [plus_on] at q; cases q
  · rw [plus_on] at q; cases q
  · rw [ec]; exact h.hc hc hL
  · rw [ec, updV_same]; exact hD
  · rw [plus_ne (Ne.symm hac)]; exact hc
  · rw [plus_ne (Ne.symm hab)]; exact hb
  · have hia : i ≠ a := fun e => by rw [e, hd] at hi; cases hi
    rw [plus_ne hia] at q
    rw [plus_ne (Ne.symm hac), ec, updV_ne hia]
    exact h.od i gg hi q
theorem JA.ex (h : JA c b a ds e size y R N v n xs L f u) (hc : L c = true) : ∃ x, R (f c) x := by
  cases ha : L a with
  | false => exact ⟨u, h.hc hc ha⟩
  | true => obtain ⟨x0, _, h2, _⟩ := h.ha ha; exact ⟨x0, h2⟩
end
end Go.Proofs.YtlgcdneiebjkcaaGreatDoor
namespace Go.Proofs.YtlgcdneiebjkcaaGreatDoor
open Go.RowKit Go.Extern.Stop Go.Stop Go.Extern
theorem isTypeOf (v : Value) (w : World) : (Extern.ReflectliteType.typeOf #[.iface 476 v]).run Tryz.prog w = .ok (.iface 146 (.agg #[.pointer (some ⟨19, 476, none⟩)])) w := by kernel_rfl
theorem isComparable (w : World) : ((Extern.ReflectliteType.method fun t => do Extern.Rtype.noPackHeld "Comparable" t; pure (.bool (← typeInfo t).comparable)) #[.agg #[.pointer (some ⟨19, 476, none⟩)]]).run Tryz.prog w = .ok (.bool true) w := by kernel_rfl
theorem isMethodComparable (v : Value) (w : World) : (Go.method 619 146 v "Comparable").run Tryz.prog w = .ok (344, v) w := by kernel_rfl
theorem isComp : (Tryz.prog.info? 476).map (·.comparable) = some true := by kernel_rfl
theorem isSize : (Tryz.prog.info? 508).map (·.size) = some 1 := by kernel_rfl
theorem noIsE (v : Value) (xT : TypeId) (w : World) : (Instr.typeAssert (.iface 476 v) xT 148 true).run Tryz.prog w = .ok (.tuple #[.nilIface, .bool false]) w := run_typeAssert_lacksB Tryz.underlying148 (by kernel_rfl) (by kernel_rfl) v xT w
theorem noUnwrapE (v : Value) (xT : TypeId) (w : World) : (Instr.typeAssert (.iface 476 v) xT 151 true).run Tryz.prog w = .ok (.tuple #[.nilIface, .bool false]) w := run_typeAssert_lacksB Tryz.underlying151 (by kernel_rfl) (by kernel_rfl) v xT w
theorem noUnwrapsE (v : Value) (xT : TypeId) (w : World) : (Instr.typeAssert (.iface 476 v) xT 153 true).run Tryz.prog w = .ok (.tuple #[.nilIface, .bool false]) w := run_typeAssert_lacksB Tryz.underlying153 (by kernel_rfl) (by kernel_rfl) v xT w
theorem callTypeOf (args : Array Value) (w : World) : (callFunc 25 args).run Tryz.prog w = ((Extern.ReflectliteType.typeOf args).run Tryz.prog w).andThen fun v w' => .ok (.value v) w' :=
  @run_callFunc_extern Tryz.prog 25 _ Extern.ReflectliteType.typeOf Tryz.func25 (by kernel_rfl) (by kernel_rfl) (by kernel_rfl) (by kernel_rfl) args w
theorem callComparable (args : Array Value) (w : World) : (callFunc 344 args).run Tryz.prog w = ((Extern.ReflectliteType.method (fun t => do Extern.Rtype.noPackHeld "Comparable" t; pure (.bool (← typeInfo t).comparable)) args).run Tryz.prog w).andThen fun v w' => .ok (.value v) w' :=
  @run_callFunc_extern Tryz.prog 344 _ (Extern.ReflectliteType.method fun t => do Extern.Rtype.noPackHeld "Comparable" t; pure (.bool (← typeInfo t).comparable)) Tryz.func344 (by kernel_rfl) (by kernel_rfl) (by kernel_rfl) (by kernel_rfl) args w
theorem callTypeOfE (v : Value) (w : World) : (callFunc 25 #[.iface 476 v]).run Tryz.prog w = .ok (.value (.iface 146 (.agg #[.pointer (some ⟨19, 476, none⟩)]))) w := by
  rw [callTypeOf, isTypeOf]; rfl
theorem callComparableE (w : World) : (callFunc 344 #[.agg #[.pointer (some ⟨19, 476, none⟩)]]).run Tryz.prog w = .ok (.value (.bool true)) w := by
  rw [callComparable, isComparable]; rfl
set_option maxRecDepth 100000 in
theorem is_same (a : Addr) (w : World) :
    Calls Tryz.prog 13 #[.iface 476 (.pointer (some a)), .iface 476 (.pointer (some a))] w fun e w' => e = .returned (.bool true) ∧ w' = w := by
  obtain ⟨i, hi, hcmp⟩ := Option.map_eq_some_iff.1 isComp
  obtain ⟨j, hj, hjs⟩ := Option.map_eq_some_iff.1 isSize
  have h8 := callTypeOfE
  have h32 := callComparableE
  have mR := isMethodComparable
  have heq := run_eql_iface_ptr_same (P := Tryz.prog) w a Tryz.underlying25 Tryz.underlying476 hi hcmp hj
  go_enter Tryz.func13, Tryz.ntmps13
  go_wp2
  refine wp_loop_rounds 1 ?_
  rw [rounds_succ]
  go_wp2
  go_ret
  exact ⟨rfl, rfl⟩
set_option maxRecDepth 100000 in
theorem is_other (a b : Addr) (ca cb : Array Value) (ta tb : TypeId) (w : World) (hne : a ≠ b) (ha : w.heap[a.block]? = some (.cells ca ta (0, 0))) (hb : w.heap[b.block]? = some (.cells cb tb (0, 0))) :
    Calls Tryz.prog 13 #[.iface 476 (.pointer (some a)), .iface 476 (.pointer (some b))] w fun e w' => e = .returned (.bool false) ∧ w' = w := by
  obtain ⟨i, hi, hcmp⟩ := Option.map_eq_some_iff.1 isComp
  obtain ⟨j, hj, hjs⟩ := Option.map_eq_some_iff.1 isSize
  have h8 := callTypeOfE
  have h32 := callComparableE
  have mR := isMethodComparable
  have nE := noIsE
  have uE := noUnwrapE
  have vE := noUnwrapsE
  have heq := run_eql_iface_ptr_other (P := Tryz.prog) w Tryz.underlying25 Tryz.underlying476 hi hcmp hj (by rw [hjs]; decide) hne ha hb
  go_enter Tryz.func13, Tryz.ntmps13
  go_wp2
  refine wp_loop_rounds 1 ?_
  rw [rounds_succ]
  go_wp2
  go_ret
  exact ⟨rfl, rfl⟩
end Go.Proofs.YtlgcdneiebjkcaaGreatDoor
namespace Go.Proofs.YtlgcdneiebjkcaaGreatDoor
open Go.RowKit
def gvar : Nat → Nat
  | 1 => 0 | 2 => 1 | 3 => 2 | 4 => 3 | 5 => 4
  | 6 => 5 | 7 => 6 | 8 => 7 | 9 => 8 | 10 => 9
  | 11 => 10 | 12 => 11 | 13 => 12 | 14 => 13 | 15 => 14
  | 16 => 15 | 17 => 16 | 18 => 17 | 19 => 18 | _ => 0
def errOf (E : Nat → Addr) (k : Nat) : Value := if k = 0 then .nilIface else .iface 476 (.pointer (some (E k)))
theorem errOf_pos (E : Nat → Addr) (k : Nat) (h : k ≠ 0) : errOf E k = .iface 476 (.pointer (some (E k))) := by unfold errOf; rw [if_neg h]
structure Errs (S : Nat → Bool) (E : Nat → Addr) (w : World) : Prop where
  pos : S 0 = false
  cell : ∀ k, S k = true → w.cell? ⟨gvar k, 0, none⟩ = some (.iface 476 (.pointer (some (E k))))
  row : ∀ k, S k = true → ∃ cs t, w.heap[(E k).block]? = some (.cells cs t (0, 0))
  ne : ∀ j k, S j = true → S k = true → j ≠ k → E j ≠ E k
theorem cell_lt {w : World} {a : Addr} {v : Value} (h : w.cell? a = some v) : a.block < w.heap.size := World.block_lt_of_cell? w a h
theorem Errs.grew {S : Nat → Bool} {E : Nat → Addr} {w w' : World} (h : Errs S E w) (g : Grew w w') : Errs S E w' where
  pos := h.pos
  cell k hk := by
    have := h.cell k hk
    rw [← this]
    exact g.below.cell (p := ⟨gvar k, 0, none⟩) (cell_lt this)
  row k hk := by
    obtain ⟨cs, t, hr⟩ := h.row k hk
    exact ⟨cs, t, (g.below.block _ (Array.getElem?_eq_some_iff.1 hr).1).trans hr⟩
  ne := h.ne
theorem num_nil (w : World) : Calls Tryz.prog 6 #[.nilIface] w fun e w' => e = .returned (.int .i64 0) ∧ w = w' := by
  go_enter Tryz.func6, Tryz.ntmps6
  go_wp2
  go_ret
  exact ⟨rfl, rfl⟩
def errCells (E : Nat → Addr) : Array Value := #[.iface 476 (.pointer (some (E 1))), .iface 476 (.pointer (some (E 2))), .iface 476 (.pointer (some (E 3))), .iface 476 (.pointer (some (E 4))), .iface 476 (.pointer (some (E 5))), .iface 476 (.pointer (some (E 6))), .iface 476 (.pointer (some (E 7))), .iface 476 (.pointer (some (E 8))), .iface 476 (.pointer (some (E 9))), .iface 476 (.pointer (some (E 10))), .iface 476 (.pointer (some (E 11))), .iface 476 (.pointer (some (E 12))), .iface 476 (.pointer (some (E 13))), .iface 476 (.pointer (some (E 14))), .iface 476 (.pointer (some (E 15))), .iface 476 (.pointer (some (E 16))), .iface 476 (.pointer (some (E 17))), .iface 476 (.pointer (some (E 18))), .iface 476 (.pointer (some (E 19)))]
theorem errCells_get (E : Nat → Addr) (i : Nat) (h : i < 19) : (errCells E)[i]? = some (.iface 476 (.pointer (some (E (i + 1))))) := by
  match i, h with
  | 0, _ => rfl
  | 1, _ => rfl
  | 2, _ => rfl
  | 3, _ => rfl
  | 4, _ => rfl
  | 5, _ => rfl
  | 6, _ => rfl
  | 7, _ => rfl
  | 8, _ => rfl
  | 9, _ => rfl
  | 10, _ => rfl
  | 11, _ => rfl
  | 12, _ => rfl
  | 13, _ => rfl
  | 14, _ => rfl
  | 15, _ => rfl
  | 16, _ => rfl
  | 17, _ => rfl
  | 18, _ => rfl
  | n + 19, h => omega
def allS (k : Nat) : Bool := decide (1 ≤ k) && decide (k ≤ 19)
set_option maxRecDepth 100000 in
theorem num_err (E : Nat → Addr) (k : Nat) (hk1 : 1 ≤ k) (hk2 : k ≤ 19) (w : World) (hE : Errs allS E w) :
    Calls Tryz.prog 6 #[.iface 476 (.pointer (some (E k)))] w fun e w' => e = .returned (.int .i64 k) ∧ Grew w w' := by
  have c1 : w.cell? ⟨0, 0, none⟩ = some (.iface 476 (.pointer (some (E 1)))) := hE.cell 1 (by decide)
  have c2 : w.cell? ⟨1, 0, none⟩ = some (.iface 476 (.pointer (some (E 2)))) := hE.cell 2 (by decide)
  have c3 : w.cell? ⟨2, 0, none⟩ = some (.iface 476 (.pointer (some (E 3)))) := hE.cell 3 (by decide)
  have c4 : w.cell? ⟨3, 0, none⟩ = some (.iface 476 (.pointer (some (E 4)))) := hE.cell 4 (by decide)
  have c5 : w.cell? ⟨4, 0, none⟩ = some (.iface 476 (.pointer (some (E 5)))) := hE.cell 5 (by decide)
  have c6 : w.cell? ⟨5, 0, none⟩ = some (.iface 476 (.pointer (some (E 6)))) := hE.cell 6 (by decide)
  have c7 : w.cell? ⟨6, 0, none⟩ = some (.iface 476 (.pointer (some (E 7)))) := hE.cell 7 (by decide)
  have c8 : w.cell? ⟨7, 0, none⟩ = some (.iface 476 (.pointer (some (E 8)))) := hE.cell 8 (by decide)
  have c9 : w.cell? ⟨8, 0, none⟩ = some (.iface 476 (.pointer (some (E 9)))) := hE.cell 9 (by decide)
  have c10 : w.cell? ⟨9, 0, none⟩ = some (.iface 476 (.pointer (some (E 10)))) := hE.cell 10 (by decide)
  have c11 : w.cell? ⟨10, 0, none⟩ = some (.iface 476 (.pointer (some (E 11)))) := hE.cell 11 (by decide)
  have c12 : w.cell? ⟨11, 0, none⟩ = some (.iface 476 (.pointer (some (E 12)))) := hE.cell 12 (by decide)
  have c13 : w.cell? ⟨12, 0, none⟩ = some (.iface 476 (.pointer (some (E 13)))) := hE.cell 13 (by decide)
  have c14 : w.cell? ⟨13, 0, none⟩ = some (.iface 476 (.pointer (some (E 14)))) := hE.cell 14 (by decide)
  have c15 : w.cell? ⟨14, 0, none⟩ = some (.iface 476 (.pointer (some (E 15)))) := hE.cell 15 (by decide)
  have c16 : w.cell? ⟨15, 0, none⟩ = some (.iface 476 (.pointer (some (E 16)))) := hE.cell 16 (by decide)
  have c17 : w.cell? ⟨16, 0, none⟩ = some (.iface 476 (.pointer (some (E 17)))) := hE.cell 17 (by decide)
  have c18 : w.cell? ⟨17, 0, none⟩ = some (.iface 476 (.pointer (some (E 18)))) := hE.cell 18 (by decide)
  have c19 : w.cell? ⟨18, 0, none⟩ = some (.iface 476 (.pointer (some (E 19)))) := hE.cell 19 (by decide)
  go_enter Tryz.func6, Tryz.ntmps6
  go_wp2
  obtain ⟨W1, hW1⟩ : ∃ W1, W1 = w.alloc (.cells (errCells E) 25) := ⟨_, rfl⟩
  have hcell : ∀ n, n < 19 → W1.cell? ⟨w.heap.size, n, none⟩ = some (.iface 476 (.pointer (some (E (n + 1))))) := fun n hn => by
    rw [hW1, cell_of_row _ w.heap.size n (errCells E) 25 (0, 0) (heap_alloc_new w _), errCells_get E n hn]
  have hG : Grew w W1 := by rw [hW1]; exact (Grew.refl w).alloc _
  have hE1 : Errs allS E W1 := hE.grew hG
  have hWe : w.alloc (Obj.cells #[.iface 476 (.pointer (some (E 1))), .iface 476 (.pointer (some (E 2))), .iface 476 (.pointer (some (E 3))), .iface 476 (.pointer (some (E 4))), .iface 476 (.pointer (some (E 5))), .iface 476 (.pointer (some (E 6))), .iface 476 (.pointer (some (E 7))), .iface 476 (.pointer (some (E 8))), .iface 476 (.pointer (some (E 9))), .iface 476 (.pointer (some (E 10))), .iface 476 (.pointer (some (E 11))), .iface 476 (.pointer (some (E 12))), .iface 476 (.pointer (some (E 13))), .iface 476 (.pointer (some (E 14))), .iface 476 (.pointer (some (E 15))), .iface 476 (.pointer (some (E 16))), .iface 476 (.pointer (some (E 17))), .iface 476 (.pointer (some (E 18))), .iface 476 (.pointer (some (E 19)))] 25) = W1 := hW1.symm
  rw [hWe]
  clear hWe hW1 c1 c2 c3 c4 c5 c6 c7 c8 c9 c10 c11 c12 c13 c14 c15 c16 c17 c18 c19
  have HC := hid hcell
  clear hcell
  go_loop [4, 5, 30] (fun _ _ i => ∃ n : Nat, i = .int .i64 n ∧ n < k) (fun _ _ i => 19 - (intOf i).toNat)
  case atStart => exact ⟨0, rfl, by omega⟩
  case round =>
    obtain ⟨n, rfl, hn⟩ := hrel
    have hc := HC.out n (by omega)
    by_cases he : n + 1 = k
    · subst he
      go_wp2_with (go_at_call 13; refine (is_same _ _).mono ?_; rintro e w' ⟨rfl, rfl⟩)
      go_ret
      exact ⟨ret_int (by omega), hG⟩
    · obtain ⟨ca, ta, hra⟩ := hE1.row k (by simp [allS]; omega)
      obtain ⟨cb, tb, hrb⟩ := hE1.row (n + 1) (by simp [allS]; omega)
      have hne := hE1.ne k (n + 1) (by simp [allS]; omega) (by simp [allS]; omega) (by omega)
      have hcon := hid (is_other (E k) (E (n + 1)) ca cb ta tb W1 hne hra hrb)
      clear hra hrb hne
      go_wp2_with (go_at_call 13; refine hcon.out.mono ?_; rintro e w' ⟨rfl, rfl⟩)
      go_round
      case rel => exact ⟨n + 1, by go_num, by omega⟩
      case measure => simp [intOf]; omega
end Go.Proofs.YtlgcdneiebjkcaaGreatDoor
