/- RowOp, St5, StS: one text. -/
import Derived.Test.YtifcnammekbfoaaGreatDoorFinStateOnceQ1
import Derived.Test.YtifcnammekbfoaaGreatDoorFinStateOnceQ11
import Derived.Test.YtifcnammekbfoaaGreatDoorFinStateOnceQ4
/- An operation of an entry; a slice of them in memory. -/
namespace Go.Proofs.YtifcnammekbfoaaGreatDoor
open Go.RowKit
/-- An operation. -/
structure OpR where
  kind : Int
  key : ByteArray
  val : ByteArray
  old : ByteArray
  ver : Int
def OpR.none : OpR := ⟨0, ⟨#[]⟩, ⟨#[]⟩, ⟨#[]⟩, 0⟩
instance : Inhabited OpR := ⟨OpR.none⟩
def OpR.vals (c : OpR) : List Value := [.int .i64 c.kind, .string c.key, .string c.val, .string c.old, .int .i64 c.ver]
def opRAt (xs : List OpR) (j : Nat) : OpR := xs[j]?.getD OpR.none
def opRFlat (xs : List OpR) : List Value := xs.flatMap OpR.vals
theorem opRAt_eq (xs : List OpR) (i : Nat) (hi : i < xs.length) : opRAt xs i = xs[i] := by unfold opRAt; rw [List.getElem?_eq_getElem hi]; rfl
theorem opRAt_mem (xs : List OpR) (k : Nat) (h : k < xs.length) : opRAt xs k ∈ xs := by rw [opRAt_eq xs k h]; exact List.getElem_mem h
theorem opRFlat_length (xs : List OpR) : (opRFlat xs).length = xs.length * 5 := by
  induction xs with
  | nil => rfl
  | cons c xs ih => unfold opRFlat at ih ⊢; rw [List.flatMap_cons, List.length_append, ih]; simp [OpR.vals]; omega
theorem opRFlat_get (i : Nat) (hi : i < 5) : ∀ (xs : List OpR) (j : Nat), j < xs.length → (opRFlat xs)[j * 5 + i]? = (opRAt xs j).vals[i]? := by
  intro xs
  induction xs with
  | nil => intro j hj; simp at hj
  | cons c xs ih =>
    intro j hj
    unfold opRFlat at ih ⊢
    rw [List.flatMap_cons]
    cases j with
    | zero => rw [List.getElem?_append_left (by simp [OpR.vals]; omega)]; simp [opRAt]
    | succ j =>
      rw [List.getElem?_append_right (by simp [OpR.vals]; omega)]
      have e : (j + 1) * 5 + i - c.vals.length = j * 5 + i := by simp [OpR.vals]; omega
      rw [e, ih j (by simpa using hj)]
      simp [opRAt]
theorem opRFlat_append (xs ys : List OpR) : opRFlat (xs ++ ys) = opRFlat xs ++ opRFlat ys := by unfold opRFlat; rw [List.flatMap_append]
theorem opRFlat_one (c : OpR) : opRFlat [c] = c.vals := by simp [opRFlat]
theorem opRFlat_take (xs : List OpR) (i : Nat) : opRFlat (xs.take i) = (opRFlat xs).take (i * 5) := by
  by_cases h : i ≤ xs.length
  · have e : opRFlat xs = opRFlat (xs.take i) ++ opRFlat (xs.drop i) := by rw [← opRFlat_append, List.take_append_drop]
    have h2 : (opRFlat (xs.take i)).length = i * 5 := by rw [opRFlat_length, List.length_take]; omega
    rw [e, ← h2, List.take_left]
  · have h2 : (opRFlat xs).length ≤ i * 5 := by rw [opRFlat_length]; omega
    rw [List.take_of_length_le (show xs.length ≤ i by omega), List.take_of_length_le h2]
theorem opRFlat_drop (xs : List OpR) (i : Nat) : opRFlat (xs.drop i) = (opRFlat xs).drop (i * 5) := by
  by_cases h : i ≤ xs.length
  · have e : opRFlat xs = opRFlat (xs.take i) ++ opRFlat (xs.drop i) := by rw [← opRFlat_append, List.take_append_drop]
    have h2 : (opRFlat (xs.take i)).length = i * 5 := by rw [opRFlat_length, List.length_take]; omega
    rw [e, ← h2, List.drop_left]
  · have h2 : (opRFlat xs).length ≤ i * 5 := by rw [opRFlat_length]; omega
    rw [List.drop_of_length_le (show xs.length ≤ i by omega), List.drop_of_length_le h2]; rfl
/-- The cells of a row. -/
structure OpRRow (W : World) (b off : Nat) (xs : List OpR) : Prop where
  kind : ∀ j, j < xs.length → W.cell? ⟨b, off + j * 5, Option.none⟩ = some (.int .i64 (opRAt xs j).kind)
  key : ∀ j, j < xs.length → W.cell? ⟨b, off + j * 5 + 1, Option.none⟩ = some (.string (opRAt xs j).key)
  val : ∀ j, j < xs.length → W.cell? ⟨b, off + j * 5 + 2, Option.none⟩ = some (.string (opRAt xs j).val)
  old : ∀ j, j < xs.length → W.cell? ⟨b, off + j * 5 + 3, Option.none⟩ = some (.string (opRAt xs j).old)
  ver : ∀ j, j < xs.length → W.cell? ⟨b, off + j * 5 + 4, Option.none⟩ = some (.int .i64 (opRAt xs j).ver)
theorem OpRRow.grew {W W' : World} {b off : Nat} {xs : List OpR} (h : OpRRow W b off xs) (g : Grew W W') (hb : b < W.heap.size) : OpRRow W' b off xs :=
  ⟨fun j hj => (g.cells.1 _ _ hb).trans (h.kind j hj), fun j hj => (g.cells.1 _ _ hb).trans (h.key j hj), fun j hj => (g.cells.1 _ _ hb).trans (h.val j hj), fun j hj => (g.cells.1 _ _ hb).trans (h.old j hj), fun j hj => (g.cells.1 _ _ hb).trans (h.ver j hj)⟩
/-- A slice of them: empty, or a row. -/
def OpRsAt (W : World) (a : Option Addr) (xs : List OpR) : Prop := xs = [] ∨ ∃ b off, a = some ⟨b, off, Option.none⟩ ∧ b < W.heap.size ∧ OpRRow W b off xs
theorem OpRsAt.grew {W W' : World} {a : Option Addr} {xs : List OpR} (h : OpRsAt W a xs) (g : Grew W W') : OpRsAt W' a xs := by
  rcases h with h | ⟨b, off, e, hb, h⟩
  · exact .inl h
  · exact .inr ⟨b, off, e, Nat.lt_of_lt_of_le hb g.size, h.grew g hb⟩

def OpR.aggOf (c : OpR) : Value := .agg c.vals.toArray
end Go.Proofs.YtifcnammekbfoaaGreatDoor

/- The walk of state.step: one operation, done on a table. -/
set_option linter.unusedVariables false
set_option linter.unusedSectionVars false
set_option linter.unusedSimpArgs false
namespace Go.Proofs.YtifcnammekbfoaaGreatDoor
open Go.RowKit Go.Maps
attribute [local go_sem] Oper.semAt_some

theorem TabTurn.pre {w W w' : World} {F : Nat → Prop} {tb : Nat} {ys : List Pr} (h : TabTurn W F tb ys w') (g : Grew w W) : TabTurn w F tb ys w' := by
  obtain ⟨h1, F', h2, h3⟩ := h
  exact ⟨(g.only F).then h1, F', h2, fun j hj => (h3 j hj).imp id fun h => Nat.le_trans g.size h⟩
namespace Pl
/-- What an operation does to a table; whether it can be done. -/
def stepP (P : List Pr) (o : OpR) (v : Int) : List Pr × Bool :=
  if o.kind = 2 then (tdel P o.key, true)
  else if o.kind = 3 ∧ ((getT P o.key).isSome = false ∨ ((getT P o.key).getD Pr.none).val.toList ≠ o.old.toList) then (P, false)
  else if o.kind = 4 then (P, decide (((getT P o.key).getD Pr.none).ver = o.ver))
  else (putT P ⟨o.key, o.val, v⟩, decide (putN ⟨o.key, o.val, v⟩ = 0))
end Pl
/-- What is asked of an operation's texts. -/
structure OpSz (o : OpR) : Prop where
  key : o.key.size ≤ 70368744177664
  val : o.val.size ≤ 140737488351232

set_option maxRecDepth 100000 in
set_option maxHeartbeats 4000000 in
theorem step_any {S : Nat → Bool} (hS : TabS S) (E : Nat → Addr) {w : World} (hE : Errs S E w) {F : Nat → Prop} {tb : Nat} {P : List Pr} (h : TabAt w F tb P) (hx : P.length ≤ 1000000) (o : OpR) (ho : OpSz o) (v : Int) (hv : -9223372036854775808 ≤ v ∧ v < 9223372036854775808) :
    Calls Tryz.prog 76 #[.pointer (some ⟨tb, 0, none⟩), o.aggOf, .int .i64 v] w fun e w' => e = .returned (.bool (Pl.stepP P o v).2) ∧ TabTurn w F tb (Pl.stepP P o v).1 w' := by
  have HG := hid (fun W (g : Grew w W) => getTab_any hS E (hE.grew g) (h.grew g) hx o.key ho.key)
  have HD := hid (fun W (g : Grew w W) => delT_any hS E (hE.grew g) (h.grew g) hx o.key ho.key)
  have HP := hid (fun W (g : Grew w W) => putT_any hS E (hE.grew g) (h.grew g) hx o.key o.val v ho.key ho.val)
  have HT := hid h
  clear h hE ho
  generalize hR : Pl.stepP P o v = R at *
  unfold Pl.stepP at hR
  unfold OpR.aggOf OpR.vals
  obtain ⟨kind, key, val, old, ver⟩ := o
  dsimp only at *
  generalize hg : Pl.getT P key = r at *
  clear hg
  obtain ⟨Y, hY⟩ : ∃ Y, Y = w.alloc (.cells #[.int .i64 kind, .string key, .string val, .string old, .int .i64 ver] 130) := ⟨_, rfl⟩
  have gY : Grew w Y := by rw [hY]; exact (Grew.refl w).alloc _
  have hbY : w.heap.size < Y.heap.size := by rw [hY]; simp
  have c0 : Y.cell? ⟨w.heap.size, 0, none⟩ = some (.int .i64 kind) := by rw [hY]; simp [go_sem]
  have c1 : Y.cell? ⟨w.heap.size, 1, none⟩ = some (.string key) := by rw [hY]; simp [go_sem]
  have c2 : Y.cell? ⟨w.heap.size, 2, none⟩ = some (.string val) := by rw [hY]; simp [go_sem]
  have c3 : Y.cell? ⟨w.heap.size, 3, none⟩ = some (.string old) := by rw [hY]; simp [go_sem]
  have c4 : Y.cell? ⟨w.heap.size, 4, none⟩ = some (.int .i64 ver) := by rw [hY]; simp [go_sem]
  have HY := hid hY
  have HGY := hid gY
  clear hY gY
  go_enter Tryz.func76, Tryz.ntmps76
  go_wp2_with fail
  rw [← HY.out]
  refine (HG.out Y HGY.out).mono ?_
  rintro e w1 ⟨rfl, hg1⟩
  have d0 := (hg1.cells.1 _ 0 hbY).trans c0
  have d1 := (hg1.cells.1 _ 1 hbY).trans c1
  have d2 := (hg1.cells.1 _ 2 hbY).trans c2
  have d3 := (hg1.cells.1 _ 3 hbY).trans c3
  have d4 := (hg1.cells.1 _ 4 hbY).trans c4
  have hb1 := Nat.lt_of_lt_of_le hbY hg1.size
  have HG1 := hid (HGY.out.trans hg1)
  clear HG hg1 c0 c1 c2 c3 c4 hbY
  obtain ⟨is, his⟩ : ∃ is, is = r.isSome := ⟨_, rfl⟩
  obtain ⟨p, hp⟩ : ∃ p, p = r.getD Pr.none := ⟨_, rfl⟩
  rw [← his, ← hp]
  rw [← his, ← hp] at hR
  clear hp
  clear his
  obtain ⟨pk, pv, pn⟩ := p
  dsimp only [Pr.agg, Pr.vals] at hR ⊢
  have HR := hid hR
  clear hR
  obtain ⟨Z, hZ⟩ : ∃ Z, Z = w1.alloc (.cells #[.string pk, .string pv, .int .i64 pn] 104) := ⟨_, rfl⟩
  have HZ := hid hZ
  have gZ : Grew w1 Z := by rw [hZ]; exact (Grew.refl w1).alloc _
  have e0 := (gZ.cells.1 _ 0 hb1).trans d0
  have e1 := (gZ.cells.1 _ 1 hb1).trans d1
  have e2 := (gZ.cells.1 _ 2 hb1).trans d2
  have e3 := (gZ.cells.1 _ 3 hb1).trans d3
  have e4 := (gZ.cells.1 _ 4 hb1).trans d4
  have z1 : Z.cell? ⟨w1.heap.size, 1, none⟩ = some (.string pv) := by rw [hZ]; simp [go_sem]
  have z2 : Z.cell? ⟨w1.heap.size, 2, none⟩ = some (.int .i64 pn) := by rw [hZ]; simp [go_sem]
  have HGZ := hid (HG1.out.trans gZ)
  clear hZ gZ
  have HT1 := hid (TabTurn.of_grew HT.out HGZ.out)
  clear HT HG1
  by_cases k2 : kind = 2
  · subst k2
    have hR := HR.out
    rw [if_pos rfl] at hR
    subst hR
    clear HR
    go_wp2_with fail
    rw [← HZ.out]
    refine (HD.out Z HGZ.out).mono ?_
    rintro e w2 ⟨rfl, ht⟩
    have HX := hid (ht.pre HGZ.out)
    clear ht e0 e1 e2 e3 e4 z1 z2
    go_wp2_with fail
    go_ret
    exact ⟨rfl, HX.out⟩
  · by_cases k3 : kind = 3
    · subst k3
      cases is with
      | false =>
        have hR := HR.out
        rw [if_neg (by decide), if_pos ⟨rfl, .inl rfl⟩] at hR
        subst hR
        clear HR
        go_wp2_with fail
        rw [← HZ.out]
        clear e0 e1 e2 e3 e4 z1 z2
        go_wp2_with fail
        go_ret
        exact ⟨rfl, HT1.out⟩
      | true =>
        by_cases kv : pv.toList = old.toList
        · have hR := HR.out
          rw [if_neg (by decide), if_neg (by rintro ⟨_, h | h⟩; · cases h
                                             · exact h kv), if_neg (by decide)] at hR
          have hq : (pv.toList == old.toList) = true := by simpa using kv
          subst hR
          clear HR kv
          go_wp2_with fail
          rw [← HZ.out]
          refine (HP.out Z HGZ.out).mono ?_
          rintro e w2 ⟨rfl, ht⟩
          have HX := hid (ht.pre HGZ.out)
          clear ht e0 e1 e2 e3 e4 z1 z2 d0 d1 d2 d3 d4
          cases hpn : decide (Pl.putN ⟨key, val, v⟩ = 0) with
          | true =>
            rw [of_decide_eq_true hpn, errOf_zero]
            have HPN := hid hpn
            clear hpn
            go_wp2_with fail
            go_ret
            exact ⟨ret_bool HPN.out.symm, HX.out⟩
          | false =>
            rw [errOf_pos E _ (of_decide_eq_false hpn)]
            have HPN := hid hpn
            clear hpn
            go_wp2_with fail
            go_ret
            exact ⟨ret_bool HPN.out.symm, HX.out⟩
        · have hR := HR.out
          rw [if_neg (by decide), if_pos ⟨rfl, .inr kv⟩] at hR
          have hq : (pv.toList == old.toList) = false := by simpa using kv
          subst hR
          clear HR kv
          go_wp2_with fail
          rw [← HZ.out]
          clear e0 e1 e2 e3 e4 z1 z2
          go_wp2_with fail
          go_ret
          exact ⟨rfl, HT1.out⟩
    · by_cases k4 : kind = 4
      · subst k4
        have hR := HR.out
        rw [if_neg (by decide), if_neg (by simp), if_pos rfl] at hR
        subst hR
        clear HR
        go_wp2_with fail
        go_ret
        rw [← HZ.out]
        exact ⟨rfl, HT1.out⟩
      · have hR := HR.out
        rw [if_neg k2, if_neg (fun h => k3 h.1), if_neg k4] at hR
        subst hR
        clear HR
        go_wp2_with fail
        rw [← HZ.out]
        refine (HP.out Z HGZ.out).mono ?_
        rintro e w2 ⟨rfl, ht⟩
        have HX := hid (ht.pre HGZ.out)
        clear ht e0 e1 e2 e3 e4 z1 z2 d0 d1 d2 d3 d4
        cases hpn : decide (Pl.putN ⟨key, val, v⟩ = 0) with
        | true =>
          rw [of_decide_eq_true hpn, errOf_zero]
          have HPN := hid hpn
          clear hpn
          go_wp2_with fail
          go_ret
          exact ⟨ret_bool HPN.out.symm, HX.out⟩
        | false =>
          rw [errOf_pos E _ (of_decide_eq_false hpn)]
          have HPN := hid hpn
          clear hpn
          go_wp2_with fail
          go_ret
          exact ⟨ret_bool HPN.out.symm, HX.out⟩
end Go.Proofs.YtifcnammekbfoaaGreatDoor

/- The sentinels that a state's walks want. -/
namespace Go.Proofs.YtifcnammekbfoaaGreatDoor
def stS (k : Nat) : Bool := decide (k = 1) || decide (k = 2) || decide (k = 3) || decide (k = 4) || decide (k = 6) || decide (k = 7) || decide (k = 19)
theorem Errs.less {S T : Nat → Bool} {E : Nat → Addr} {w : World} (h : Errs S E w) (hT : ∀ k, T k = true → S k = true) : Errs T E w :=
  ⟨(by cases hh : T 0 with | false => rfl | true => (have := hT 0 hh; rw [h.pos] at this; cases this)), fun k hk => h.cell k (hT k hk), fun k hk => h.row k (hT k hk), fun j k hj hk => h.ne j k (hT j hj) (hT k hk)⟩
end Go.Proofs.YtifcnammekbfoaaGreatDoor
