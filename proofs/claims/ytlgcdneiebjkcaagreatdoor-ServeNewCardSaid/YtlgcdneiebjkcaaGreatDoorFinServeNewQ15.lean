/- Bld0, RgnM, Dd2, Dd3: one text. -/
import Derived.Test.YtlgcdneiebjkcaaGreatDoorFinServeNewQ10
import Derived.Test.YtlgcdneiebjkcaaGreatDoorFinServeNewQ13
import Derived.Test.YtlgcdneiebjkcaaGreatDoorFinServeNewQ14
import Derived.Test.YtlgcdneiebjkcaaGreatDoorFinServeNewQ3
import Derived.Shelf.SlIterI.Nil
import Derived.Shelf.SortM.Plain
import Derived.Shelf.SortM.SortNone
import Derived.Lib.SlKeysI
import Derived.Maps.GroupsBeside
set_option linter.unusedVariables false
set_option linter.unusedSectionVars false
set_option linter.unusedSimpArgs false
namespace Go.Proofs.YtlgcdneiebjkcaaGreatDoor
open Go.RowKit Go.Maps
attribute [local go_sem] Oper.semAt_some
set_option maxRecDepth 100000 in
theorem idxP_0 (f : Value) (w : World) : Calls Tryz.prog 212 #[.slice none 0 0, f] w fun e w' => e = .returned (.int .i64 (-1)) ∧ w' = w := by
  go_enter Tryz.func212, Tryz.ntmps212
  go_wp2_with fail
  refine wp_loop_rounds 1 ?_
  rw [rounds_succ]
  go_wp2
  go_ret
  exact ⟨rfl, rfl⟩
set_option maxRecDepth 100000 in
theorem delP_0 (f : Value) (w : World) : Calls Tryz.prog 174 #[.slice none 0 0, f] w fun e w' => e = .returned (.slice none 0 0) ∧ w' = w := by
  have H := hid (idxP_0 f w)
  go_enter Tryz.func174, Tryz.ntmps174
  go_wp2_with fail
  refine H.out.mono ?_
  rintro e w1 ⟨rfl, rfl⟩
  go_wp2_with fail
  go_ret
  exact ⟨rfl, rfl⟩
theorem eqPg (w : World) : (binOp .eql 187 (.slice none 0 0) (.slice none 0 0)).run Tryz.prog w = .ok (.bool true) w := by kernel_rfl
set_option maxRecDepth 100000 in
theorem clP_0 (w : World) : Calls Tryz.prog 175 #[.slice none 0 0] w fun e w' => e = .returned (.slice none 0 0) ∧ w' = w := by
  have hEq := eqPg
  go_enter Tryz.func175, Tryz.ntmps175
  go_wp2_with fail
  go_ret
  exact ⟨rfl, rfl⟩
set_option maxRecDepth 100000 in
theorem between0 (a b : Int) (w : World) : Calls Tryz.prog 133 #[.slice none 0 0, .int .i64 a, .int .i64 b] w fun e w' => e = .returned (.slice none 0 0) ∧ Grew w w' := by
  have HC := hid clP_0
  have HD := hid delP_0
  go_enter Tryz.func133, Tryz.ntmps133
  go_wp2_with fail
  refine (HC.out _).mono ?_
  rintro e w1 ⟨rfl, rfl⟩
  go_wp2_with fail
  refine (HD.out _ _).mono ?_
  rintro e w1 ⟨rfl, rfl⟩
  go_wp2_with fail
  go_ret
  exact ⟨rfl, ((Grew.refl w).alloc _).alloc _⟩
set_option maxRecDepth 100000 in
theorem bpages0 {w : World} {lb sq : Nat} {e : Int} (h : LogC w lb sq e 0) (x : Nat) (hx : x < 13) : Calls Tryz.prog 129 #[.pointer (some ⟨lb, 0, none⟩), .int .i64 x, .int .i64 0] w fun e w' => e = .returned (.tuple #[.slice none 0 0, .int .i64 0, .nilIface]) ∧ Grew w w' := by
  have HL := hid h
  have H := hid (logTail_any h)
  clear h
  go_enter Tryz.func129, Tryz.ntmps129
  go_wp2_with fail
  refine H.out.mono ?_
  rintro e w1 ⟨rfl, hg⟩
  have HL1 := hid (HL.out.grew hg)
  go_wp2_with fail
  refine (logBegin0 HL1.out).mono ?_
  rintro e w2 ⟨rfl, hg2⟩
  have HL2 := hid (HL1.out.grew hg2)
  have gA : Grew w2 (w2.alloc (.cells #[.int .i64 x] 3)) := (Grew.refl w2).alloc _
  have hc : (w2.alloc (.cells #[.int .i64 x] 3)).cell? ⟨w2.heap.size, 0, none⟩ = some (.int .i64 x) := by simp [go_sem]
  have HP := hid (play1_any (HL2.out.grew gA) x hx hc)
  have HGA := hid gA
  clear gA hc
  go_wp2_with fail
  refine HP.out.mono ?_
  rintro e w3 ⟨rfl, hg3⟩
  go_wp2_with fail
  refine bodyPost_ret (results_tmp3 rfl _ _ _) rfl ?_
  exact ⟨rfl, ((hg.trans hg2).trans HGA.out).trans hg3⟩
set_option maxRecDepth 100000 in
theorem map0 {w : World} {lb sq : Nat} {e : Int} (h : LogC w lb sq e 0) : Calls Tryz.prog 98 #[.pointer (some ⟨lb, 0, none⟩), .int .i64 0] w fun e w' => ∃ sb F, e = .returned (.tuple #[.pointer (some ⟨sb, 0, none⟩), .nilIface]) ∧ SmAt w' F sb [sh0] used0 0 [] ∧ (∀ j, F j → w.heap.size ≤ j) ∧ Grew w w' := by
  have H := hid (bpages0 h 0 (by omega))
  have HN := hid newM_any
  have HL := hid (latest0 0 0)
  have HB := hid (between0 0 0)
  clear h
  go_enter Tryz.func98, Tryz.ntmps98
  go_wp2_with fail
  refine H.out.mono ?_
  rintro e w1 ⟨rfl, hg1⟩
  go_wp2_with fail
  refine (HN.out _).mono ?_
  rintro e w2 ⟨sb, rfl, hg2, _, F, hM, hFl⟩
  have HM := hid hM
  have HFl := hid hFl
  clear hM hFl
  go_wp2_with fail
  refine (HL.out _).mono ?_
  rintro e w3 ⟨rfl, hg3⟩
  have gA : Grew w3 (w3.alloc (.cells #[.int .i64 0, .int .i64 0, .int .i64 0, .int .i64 0, .slice none 0 0] 265)) := (Grew.refl w3).alloc _
  have HGA := hid gA
  clear gA
  go_wp2_with fail
  refine (HB.out _).mono ?_
  rintro e w4 ⟨rfl, hg4⟩
  go_wp2_with fail
  refine wp_loop_rounds 1 ?_
  rw [rounds_succ]
  go_wp2_with fail
  go_ret2
  have g := (hg3.trans HGA.out).trans hg4
  exact ⟨_, F, rfl, HM.out.grew g, fun j hj => Nat.le_trans hg1.size (HFl.out j hj), (hg1.trans hg2).trans g⟩
set_option maxRecDepth 100000 in
theorem bbegin0 {S : Nat → Bool} (hS : KeyS S) (E : Nat → Addr) (lb sb : Nat) {w : World} (hE : Errs S E w) : Calls Tryz.prog 177 #[.agg #[.pointer (some ⟨lb, 0, none⟩), .pointer (some ⟨sb, 0, none⟩)], .slice none 0 0, .int .i64 1, .int .i64 0] w fun e w' => ∃ st cb Fc, e = .returned (.tuple #[.pointer (some ⟨st, 0, none⟩), .int .i64 0, .nilIface]) ∧ w'.cell? ⟨st, 0, none⟩ = some (.pointer (some ⟨cb, 0, none⟩)) ∧ TabAt w' Fc cb [] ∧ (∀ j, Fc j → w.heap.size ≤ j) ∧ w.heap.size ≤ st ∧ Grew w w' := by
  have HL := hid (latest0 1 0)
  have HN := hid (fun W (g : Grew w W) => newS0_any S E hS ⟨#[]⟩ ⟨#[]⟩ W (by decide) (by decide) (hE.grew g) right_nil)
  clear hE
  have gB : Grew w (w.alloc (.cells #[.pointer (some ⟨lb, 0, none⟩), .pointer (some ⟨sb, 0, none⟩)] 271)) := (Grew.refl w).alloc _
  have HGB := hid gB
  clear gB
  go_enter Tryz.func177, Tryz.ntmps177
  go_wp2_with fail
  refine (HL.out _).mono ?_
  rintro e w3 ⟨rfl, hg3⟩
  have gA : Grew w3 (w3.alloc (.cells #[.int .i64 0, .int .i64 0, .int .i64 0, .int .i64 0, .slice none 0 0] 265)) := (Grew.refl w3).alloc _
  have HGA := hid ((HGB.out.trans hg3).trans gA)
  clear gA hg3
  go_wp2_with fail
  refine (HN.out _ HGA.out).mono ?_
  rintro e w4 ⟨st, cb, Fc, rfl, hc, hT, hF, hst, hg4⟩
  have HX := hid (And.intro hc (And.intro hT (And.intro (fun j hj => Nat.le_trans HGA.out.size (hF j hj)) (And.intro (Nat.le_trans HGA.out.size hst) (HGA.out.trans hg4)))))
  clear hc hT hg4 hF hst
  go_wp2_with fail
  refine bodyPost_ret (results_tmp3 rfl _ _ _) rfl ?_
  exact ⟨st, cb, Fc, rfl, HX.out⟩
set_option maxRecDepth 100000 in
theorem bstate0 {S : Nat → Bool} (hS : KeyS S) (E : Nat → Addr) {w : World} {lb sq : Nat} {e : Int} (sb : Nat) (h : LogC w lb sq e 0) (hE : Errs S E w) : Calls Tryz.prog 134 #[.agg #[.pointer (some ⟨lb, 0, none⟩), .pointer (some ⟨sb, 0, none⟩)], .int .i64 1, .int .i64 0] w fun e w' => ∃ st cb Fc, e = .returned (.tuple #[.pointer (some ⟨st, 0, none⟩), .nilIface]) ∧ w'.cell? ⟨st, 0, none⟩ = some (.pointer (some ⟨cb, 0, none⟩)) ∧ TabAt w' Fc cb [] ∧ (∀ j, Fc j → w.heap.size ≤ j) ∧ w.heap.size ≤ st ∧ Grew w w' := by
  have gB : Grew w (w.alloc (.cells #[.pointer (some ⟨lb, 0, none⟩), .pointer (some ⟨sb, 0, none⟩)] 271)) := (Grew.refl w).alloc _
  have HP := hid (bpages0 (h.grew gB) 1 (by omega))
  have HN := hid (fun W (g : Grew w W) => bbegin0 hS E lb sb (hE.grew g))
  have HB := hid (between0 0 0)
  have HGB := hid gB
  clear gB hE h
  go_enter Tryz.func134, Tryz.ntmps134
  go_wp2_with fail
  refine HP.out.mono ?_
  rintro e w3 ⟨rfl, hg3⟩
  have c0 : w3.cell? ⟨w.heap.size, 0, none⟩ = some (.pointer (some ⟨lb, 0, none⟩)) := (hg3.cells.1 _ 0 (by simp)).trans (by simp [go_sem])
  have c1 : w3.cell? ⟨w.heap.size, 1, none⟩ = some (.pointer (some ⟨sb, 0, none⟩)) := (hg3.cells.1 _ 1 (by simp)).trans (by simp [go_sem])
  go_wp2_with fail
  refine (HN.out _ (HGB.out.trans hg3)).mono ?_
  rintro e w4 ⟨st, cb, Fc, rfl, hc, hT, hF, hst, hg4⟩
  have HX := hid (And.intro hc (And.intro hT (And.intro (fun j hj => Nat.le_trans (HGB.out.trans hg3).size (hF j hj)) (And.intro (Nat.le_trans (HGB.out.trans hg3).size hst) ((HGB.out.trans hg3).trans hg4)))))
  clear hc hT hg4 hF hst
  go_wp2_with fail
  refine (HB.out _).mono ?_
  rintro e w5 ⟨rfl, hg5⟩
  go_wp2_with fail
  refine wp_loop_rounds 1 ?_
  rw [rounds_succ]
  go_wp2_with fail
  go_ret2
  obtain ⟨hc, hT, hF, hst, hg⟩ := HX.out
  exact ⟨st, cb, Fc, rfl, (hg5.cells.1 _ 0 (cell_lt hc)).trans hc, hT.grew hg5, hF, hst, hg.trans hg5⟩
set_option maxRecDepth 100000 in
theorem state0 {S : Nat → Bool} (hS : KeyS S) (E : Nat → Addr) {w : World} {lb sq : Nat} {e : Int} (sb : Nat) (h : LogC w lb sq e 0) (hE : Errs S E w) : Calls Tryz.prog 100 #[.pointer (some ⟨lb, 0, none⟩), .pointer (some ⟨sb, 0, none⟩), .int .i64 1, .int .i64 0] w fun e w' => ∃ st cb Fc, e = .returned (.tuple #[.pointer (some ⟨st, 0, none⟩), .nilIface]) ∧ w'.cell? ⟨st, 0, none⟩ = some (.pointer (some ⟨cb, 0, none⟩)) ∧ TabAt w' Fc cb [] ∧ (∀ j, Fc j → w.heap.size ≤ j) ∧ w.heap.size ≤ st ∧ Grew w w' := by
  have H := hid (bstate0 hS E sb h hE)
  clear h hE
  go_enter Tryz.func100, Tryz.ntmps100
  go_wp2_with fail
  refine H.out.mono ?_
  rintro e w3 ⟨st, cb, Fc, rfl, hX⟩
  have HX := hid hX
  clear hX
  go_wp2_with fail
  go_ret2
  exact ⟨st, cb, Fc, rfl, HX.out⟩
end Go.Proofs.YtlgcdneiebjkcaaGreatDoor
namespace Go.Proofs.YtlgcdneiebjkcaaGreatDoor
open Go.RowKit Go.Maps
structure JM (c a : Nat) (ds : Nat → Option (Value → Value)) (y : World) (S : Nat → Prop) (R : Value → World → Prop) (U : Value → World → World → Prop) (L : Nat → Bool) (f : Nat → Value) (u : World) : Prop where
  pre : L a = false → Grew y u
  only : Only S y u
  hc : L c = true → L a = false → R (f c) u
  ha : L a = true → ∃ x0, Grew y x0 ∧ R (f c) x0 ∧ U (f c) x0 u
  oa : L a = true → L c = true
  od : ∀ i g, ds i = some g → L i = true → L c = true ∧ f i = g (f c)
section
variable {c a : Nat} {ds : Nat → Option (Value → Value)} {y : World} {S : Nat → Prop} {R : Value → World → Prop} {U : Value → World → World → Prop} {L : Nat → Bool} {f : Nat → Value} {u : World}
theorem JM.start (f : Nat → Value) : JM c a ds y S R U (fun _ => false) f y.drew :=
  ⟨fun _ => (Grew.refl y).drew, ((Grew.refl y).drew).only _, fun h => (by cases h), fun h => (by cases h), fun h => (by cases h), fun _ _ _ h => (by cases h)⟩
theorem JM.atCall (h : JM c a ds y S R U L f u) (hL : L c = false) (hca : c ≠ a := by decide) (hd : ds c = none := by rfl) : Grew y u ∧ ∀ r u', Grew u u' → R r u' → JM c a ds y S R U (plus L c) (updV f c r) u' := by
  have haF : L a = false := by cases ha : L a with | false => rfl | true => have := h.oa ha; rw [hL] at this; cases this
  refine ⟨h.pre haF, fun r u' g hr => ⟨fun _ => (h.pre haF).trans g, ((h.pre haF).trans g).only _, fun _ _ => (by rw [updV_same]; exact hr), fun q => ?_, fun _ => plus_on, fun i gg hi q => ?_⟩⟩
  · rw [plus_ne (Ne.symm hca), haF] at q; cases q
  · have hic : i ≠ c := fun e => by rw [e, hd] at hi; cases hi
    rw [plus_ne hic] at q
    have := (h.od i gg hi q).1
    rw [hL] at this; cases this
theorem JM.atRead (h : JM c a ds y S R U L f u) (i : Nat) {g : Value → Value} (hi : ds i = some g) (hc : L c = true) (hic : i ≠ c := by decide) (hia : i ≠ a := by decide) : JM c a ds y S R U (plus L i) (updV f i (g (f c))) u := by
  have ec : updV f i (g (f c)) c = f c := updV_ne (Ne.symm hic)
  have lc : plus L i c = L c := plus_ne (Ne.symm hic)
  have la : plus L i a = L a := plus_ne (Ne.symm hia)
  refine ⟨fun q => h.pre (la ▸ q), h.only, fun q1 q2 => ?_, fun q => ?_, fun q => ?_, fun j gg hj q => ?_⟩
  · rw [ec]; exact h.hc hc (la ▸ q2)
  · rw [ec]; exact h.ha (la ▸ q)
  · rw [lc]; exact hc
  · rw [lc, ec]
    by_cases e : j = i
    · subst e; rw [updV_same]; rw [hi] at hj; cases hj; exact ⟨hc, rfl⟩
    · rw [updV_ne e]; rw [plus_ne e] at q; exact h.od j gg hj q
theorem JM.atTurn (h : JM c a ds y S R U L f u) (hL : L a = false) (hc : L c = true) (hac : a ≠ c := by decide) (hd : ds a = none := by rfl) : Grew y u ∧ R (f c) u ∧ ∀ r u', Only S u u' → U (f c) u u' → JM c a ds y S R U (plus L a) (updV f a r) u' := by
  refine ⟨h.pre hL, h.hc hc hL, fun r u' hO hU => ?_⟩
  have ec : updV f a r c = f c := updV_ne (Ne.symm hac)
  refine ⟨fun q => ?_, ((h.pre hL).only _).then hO, fun _ q => ?_, fun _ => ⟨u, h.pre hL, ?_, ?_⟩, fun _ => ?_, fun i gg hi q => ?_⟩
  · rw [plus_on] at q; cases q
  · rw [plus_on] at q; cases q
  · rw [ec]; exact h.hc hc hL
  · rw [ec]; exact hU
  · rw [plus_ne (Ne.symm hac)]; exact hc
  · have hia : i ≠ a := fun e => by rw [e, hd] at hi; cases hi
    rw [plus_ne hia] at q
    rw [plus_ne (Ne.symm hac), ec, updV_ne hia]
    exact h.od i gg hi q
theorem JM.ex (h : JM c a ds y S R U L f u) (hc : L c = true) : ∃ x, R (f c) x := by
  cases ha : L a with
  | false => exact ⟨u, h.hc hc ha⟩
  | true => obtain ⟨x0, _, h2, _⟩ := h.ha ha; exact ⟨x0, h2⟩
end
theorem uponV_update {P : Program} {o : Oper} {a : Act} {w w' : World} {K : Value → World → Prop} {t : TypeId} (m x v : Operand) (hop : o.op = Op.mapUpdate t m x v) {vm vx vv : Value} (hm : a.eval m = vm) (hx : a.eval x = vx) (hv : a.eval v = vv)
    (hrun : (Instr.mapUpdate t vm vx vv).run P w = .ok () w') (hK : K undef w') : uponV P K ((execOp a.eval o).run P w) := by
  simp [execOp, hop, hm, hx, hv, hrun, Result.andThen]
  exact hK
def fstT : Value → Value
  | .tuple #[a, _] => a
  | _ => undef
def sndT : Value → Value
  | .tuple #[_, b] => b
  | _ => undef
end Go.Proofs.YtlgcdneiebjkcaaGreatDoor
namespace Go.Proofs.YtlgcdneiebjkcaaGreatDoor
open Go.RowKit Go.Maps
attribute [local go_sem] Oper.semAt_some
end Go.Proofs.YtlgcdneiebjkcaaGreatDoor
namespace Go.Proofs.YtlgcdneiebjkcaaGreatDoor
open Go.Shelf
def Tryz.sortedCl_ren : Go.Shelf.Ren := ⟨fun | 6 => 15 | 8 => 29 | 9 => 30 | 11 => 47 | 13 => 49 | 12 => 48 | 23 => 84 | 24 => 85 | 14 => 75 | 15 => 76 | 16 => 77 | 17 => 78 | 18 => 79 | 19 => 80 | 20 => 81 | 21 => 82 | 22 => 83 | 25 => 113 | 26 => 114 | 27 => 115 | 28 => 116 | 29 => 117 | 30 => 90 | 31 => 155 | n => n, fun | 26 => 3 | 28 => 59 | 24 => 32 | 0 => 0 | 3 => 3 | 37 => 158 | 48 => 208 | 50 => 210 | 4 => 4 | 40 => 201 | 39 => 200 | 45 => 197 | 5 => 5 | 9 => 9 | 51 => 242 | 55 => 246 | 57 => 292 | 58 => 293 | 33 => 34 | n => n, fun | n => n⟩
theorem Tryz.sortedCl : Go.Proofs.SlLaysZI.n6 Tryz.prog Tryz.sortedCl_ren := {
  mixed := by kernel_rfl
  f6 := ⟨Tryz.f15.name, by decide, Tryz.func15.trans (congrArg some (by kernel_rfl))⟩
  f8 := ⟨Tryz.f29.name, by decide, Tryz.func29.trans (congrArg some (by kernel_rfl))⟩
  f11 := ⟨Tryz.f47.name, by decide, Tryz.func47.trans (congrArg some (by kernel_rfl))⟩
  t0 := Tryz.underlying0
  a0 := Tryz.isAgg0
  z0 := Tryz.sizeOf0
  v0 := Tryz.zeroValue0
  t24 := Tryz.underlying32
  a24 := Tryz.isAgg32
  z24 := Tryz.sizeOf32
  v24 := Tryz.zeroValue32
  t26 := Tryz.underlying3
  a26 := Tryz.isAgg3
  z26 := Tryz.sizeOf3
  v26 := Tryz.zeroValue3
  t28 := Tryz.underlying59
  a28 := Tryz.isAgg59
  z28 := Tryz.sizeOf59
  v28 := Tryz.zeroValue59
  i26 := by kernel_rfl }
def Tryz.sortCl_ren : Go.Shelf.Ren := ⟨fun | 5 => 30 | 8 => 49 | 7 => 48 | 19 => 84 | 20 => 85 | 10 => 75 | 11 => 76 | 12 => 77 | 13 => 78 | 14 => 79 | 15 => 80 | 16 => 81 | 17 => 82 | 18 => 83 | 30 => 113 | 31 => 114 | 32 => 115 | 33 => 116 | 34 => 117 | 35 => 90 | 40 => 155 | n => n, fun | 23 => 32 | 25 => 3 | 3 => 3 | 32 => 158 | 22 => 32 | 0 => 0 | 44 => 208 | 46 => 210 | 4 => 4 | 36 => 201 | 35 => 200 | 41 => 197 | 5 => 5 | 9 => 9 | 53 => 242 | 57 => 246 | 63 => 292 | 64 => 293 | n => n, fun | n => n⟩
theorem Tryz.sortCl : Go.Proofs.SlLaysM.n5 Tryz.prog Tryz.sortCl_ren := {
  mixed := by kernel_rfl
  f5 := ⟨Tryz.f30.name, by decide, Tryz.func30.trans (congrArg some (by kernel_rfl))⟩
  f7 := ⟨Tryz.f48.name, by decide, Tryz.func48.trans (congrArg some (by kernel_rfl))⟩
  f8 := Tryz.func49.trans (congrArg some (by kernel_rfl))
  f10 := ⟨Tryz.f75.name, by decide, Tryz.func75.trans (congrArg some (by kernel_rfl))⟩
  f11 := ⟨Tryz.f76.name, by decide, Tryz.func76.trans (congrArg some (by kernel_rfl))⟩
  f12 := ⟨Tryz.f77.name, by decide, Tryz.func77.trans (congrArg some (by kernel_rfl))⟩
  f13 := ⟨Tryz.f78.name, by decide, Tryz.func78.trans (congrArg some (by kernel_rfl))⟩
  f14 := ⟨Tryz.f79.name, by decide, Tryz.func79.trans (congrArg some (by kernel_rfl))⟩
  f15 := ⟨Tryz.f80.name, by decide, Tryz.func80.trans (congrArg some (by kernel_rfl))⟩
  f16 := ⟨Tryz.f81.name, by decide, Tryz.func81.trans (congrArg some (by kernel_rfl))⟩
  f17 := ⟨Tryz.f82.name, by decide, Tryz.func82.trans (congrArg some (by kernel_rfl))⟩
  f18 := ⟨Tryz.f83.name, by decide, Tryz.func83.trans (congrArg some (by kernel_rfl))⟩
  f19 := Tryz.func84.trans (congrArg some (by kernel_rfl))
  f20 := Tryz.func85.trans (congrArg some (by kernel_rfl))
  f30 := ⟨Tryz.f113.name, by decide, Tryz.func113.trans (congrArg some (by kernel_rfl))⟩
  f31 := Tryz.func114.trans (congrArg some (by kernel_rfl))
  f32 := Tryz.func115.trans (congrArg some (by kernel_rfl))
  f33 := ⟨Tryz.f116.name, by decide, Tryz.func116.trans (congrArg some (by kernel_rfl))⟩
  f34 := ⟨Tryz.f117.name, by decide, Tryz.func117.trans (congrArg some (by kernel_rfl))⟩
  f35 := ⟨Tryz.f90.name, by decide, Tryz.func90.trans (congrArg some (by kernel_rfl))⟩
  f40 := ⟨Tryz.f155.name, by decide, Tryz.func155.trans (congrArg some (by kernel_rfl))⟩
  t0 := Tryz.underlying0
  a0 := Tryz.isAgg0
  z0 := Tryz.sizeOf0
  v0 := Tryz.zeroValue0
  t3 := Tryz.underlying3
  a3 := Tryz.isAgg3
  z3 := Tryz.sizeOf3
  v3 := Tryz.zeroValue3
  t4 := Tryz.underlying4
  a4 := Tryz.isAgg4
  z4 := Tryz.sizeOf4
  v4 := Tryz.zeroValue4
  t5 := Tryz.underlying5
  a5 := Tryz.isAgg5
  z5 := Tryz.sizeOf5
  v5 := Tryz.zeroValue5
  t9 := Tryz.underlying9
  a9 := Tryz.isAgg9
  z9 := Tryz.sizeOf9
  v9 := Tryz.zeroValue9
  t22 := Tryz.underlying32
  a22 := Tryz.isAgg32
  z22 := Tryz.sizeOf32
  v22 := Tryz.zeroValue32
  t23 := Tryz.underlying32
  a23 := Tryz.isAgg32
  z23 := Tryz.sizeOf32
  v23 := Tryz.zeroValue32
  t25 := Tryz.underlying3
  a25 := Tryz.isAgg3
  z25 := Tryz.sizeOf3
  v25 := Tryz.zeroValue3
  t32 := Tryz.underlying158
  a32 := Tryz.isAgg158
  z32 := Tryz.sizeOf158
  v32 := Tryz.zeroValue158
  t35 := Tryz.underlying200
  a35 := Tryz.isAgg200
  z35 := Tryz.sizeOf200
  v35 := Tryz.zeroValue200
  t36 := Tryz.underlying201
  a36 := Tryz.isAgg201
  z36 := Tryz.sizeOf201
  v36 := Tryz.zeroValue201
  t41 := Tryz.underlying197
  a41 := Tryz.isAgg197
  z41 := Tryz.sizeOf197
  v41 := Tryz.zeroValue197
  t44 := Tryz.underlying208
  a44 := Tryz.isAgg208
  z44 := Tryz.sizeOf208
  v44 := Tryz.zeroValue208
  t46 := Tryz.underlying210
  a46 := Tryz.isAgg210
  z46 := Tryz.sizeOf210
  v46 := Tryz.zeroValue210
  t53 := Tryz.underlying242
  a53 := Tryz.isAgg242
  z53 := Tryz.sizeOf242
  v53 := Tryz.zeroValue242
  t57 := Tryz.underlying246
  a57 := Tryz.isAgg246
  z57 := Tryz.sizeOf246
  v57 := Tryz.zeroValue246
  t63 := Tryz.underlying292
  a63 := Tryz.isAgg292
  z63 := Tryz.sizeOf292
  v63 := Tryz.zeroValue292
  t64 := Tryz.underlying293
  a64 := Tryz.isAgg293
  z64 := Tryz.sizeOf293
  v64 := Tryz.zeroValue293 }
end Go.Proofs.YtlgcdneiebjkcaaGreatDoor
namespace Go.Proofs.YtlgcdneiebjkcaaGreatDoor
open Go.RowKit Go.Maps Go.ChangeMaps Go.MapKept Go.WideShapes
open Go.WideElems (Fit rd rg pl rd_key rd_val rg_of other_key rd_mk)
theorem ownsMap_ints {w : World} {P : Program} {k : TypeId} {b n : Nat} {D : DataW Value} (h : w.ownsMap P k raw b n D) (K : Keyed P k) (hk : P.underlying k = some (.int .i64)) :
    (intKeys D).Nodup ∧ (∀ c, c ∈ intKeys D ↔ lookD D (clit c) ≠ none) ∧ (intKeys D).length ≤ n ∧ Maps.size D ≤ n := by
  obtain ⟨es, hD, hpw, _⟩ := h.entries K
  obtain ⟨es', hD', hko⟩ := h.keysOf
  obtain rfl : es = es' := by rw [hD] at hD'; simpa using hD'
  have hint : ∀ p ∈ es, ∃ x, p.1 = .int .i64 x := fun p hp => by obtain ⟨v, hv⟩ := hko p hp; obtain ⟨x, _, hx, _⟩ := Maps.keyOf_i64 hk hv; exact ⟨x, hx⟩
  have hkd : intKeys D = es.map fun p => Go.intOf p.1 := by rw [hD]; rfl
  have hlen : es.length ≤ n := by
    obtain ⟨es2, clock, hb, F, hs, hD2⟩ := h
    rw [hD] at hD2
    have e1 : es = (es2.toList.map (rg P k raw)).foldr DataW.insert [] := by injection hD2
    rw [e1, length_sorted]
    simpa using hs
  rw [hkd]
  refine ⟨?_, fun c => ?_, by rw [List.length_map]; exact hlen, by rw [hD]; exact hlen⟩
  · refine List.pairwise_map.2 (hpw.imp_of_mem fun {p q} hp' hq' hne e => hne ?_)
    obtain ⟨a, ha⟩ := hint p hp'
    obtain ⟨d, hd⟩ := hint q hq'
    rw [ha, hd] at e ⊢
    have e2 : a = d := e
    rw [e2]
  · constructor
    · intro hs
      obtain ⟨p, hp, rfl⟩ := List.mem_map.1 hs
      obtain ⟨a, ha⟩ := hint p hp
      have hhas : Maps.has D (clit (Go.intOf p.1)) = true := by
        rw [hD]
        refine List.any_eq_true.2 ⟨p, hp, ?_⟩
        rw [ha]; simp [clit, Go.intOf, Lit.sameKey]
      obtain ⟨es2, clock, hb, F, _, hD2⟩ := h
      rw [hD2] at hhas
      obtain ⟨p2, hp2, hpk⟩ := List.any_eq_true.1 hhas
      obtain ⟨x, hx, rfl⟩ := List.mem_map.1 (mem_sorted.1 hp2)
      obtain ⟨y, hy⟩ := F.reads x hx
      obtain ⟨z, hz, hzd⟩ := rd_val hy
      have hkk : keyOf P k x.key = some (clit (Go.intOf p.1)) := by
        have := WideAt.sameKey_eq hpk
        rw [rg_of hy] at this
        rw [← this]; exact rd_key hy
      unfold lookD
      rw [hD2, if_pos hhas]
      have hat := (atKey_sorted (es2.toList.map (rg P k raw)) (Maps.fit_rising K F) _ (K.key hkk)).2 (rg P k raw x) (List.mem_map.2 ⟨x, hx, rfl⟩) (WideAt.sameKey_eq hpk)
      rw [hat, rg_of hy, hzd]
      cases hz
      simp
    · intro hs
      unfold lookD at hs
      by_cases hh : Maps.has D (clit c) = true
      · rw [hD] at hh
        obtain ⟨p, hp, hpk⟩ := List.any_eq_true.1 hh
        refine List.mem_map.2 ⟨p, hp, ?_⟩
        rw [WideAt.sameKey_eq hpk]
        rfl
      · rw [if_neg hh] at hs; exact absurd rfl hs
end Go.Proofs.YtlgcdneiebjkcaaGreatDoor
namespace Go.Proofs.YtlgcdneiebjkcaaGreatDoor
open Go.RowKit Go.Maps Go.Sort Go.Shelf
attribute [local go_sem] Oper.semAt_some
theorem sortsCl (m : Nat) : AnyZI.SortsIn Tryz.prog Tryz.sortedCl_ren Fence.wide m :=
  ⟨fun blk off cap ss W hH hblk hsz => callsIn_wide.2 (AnyM.slices_Sort_int Tryz.sortCl blk off cap ss W hH hblk hsz),
   fun p cap W => callsIn_wide.2 (AnyM.slices_Sort_int_none Tryz.sortCl p cap W)⟩
end Go.Proofs.YtlgcdneiebjkcaaGreatDoor
