/- Law39, Acts30, Acts39: one text. -/
import Derived.Test.YtbdagllflamabaaGreatDoorFinWatchSpansQ43
import Derived.Test.YtbdagllflamabaaGreatDoorFinWatchSpansQ4
import Derived.Deep.QuietTactic
import Derived.BigQuiet
import Derived.Test.YtbdagllflamabaaGreatDoorFinWatchSpansQ3
import Derived.Deep.AppendLies
set_option linter.unusedVariables false
set_option linter.unusedSectionVars false
set_option linter.unusedSimpArgs false
namespace Go.Proofs.YtbdagllflamabaaGreatDoor
open Go.RowKit Go.Maps
attribute [local go_sem] Oper.semAt_some uponV
theorem au_asks (a : Option Addr) {ks : List ByteArray} (h : Pl.Asks ⟨#[]⟩ ⟨#[]⟩ (enAu a) ks) : ks = [⟨#[97]⟩] := by
  have hm : ∀ k, k ∈ ks ↔ k = (⟨#[97]⟩ : ByteArray) := fun k => by
    rw [h.mem k]
    constructor
    · rintro ⟨_, _, ⟨o, ho, rfl⟩, _⟩
      simp [enAu] at ho; subst ho; rfl
    · rintro rfl
      exact ⟨rfl, by kernel_rfl, ⟨opAu, by simp [enAu], rfl⟩, by kernel_rfl⟩
  have hr := h.rise
  match ks, hm, hr with
  | [], hm, _ => exact absurd ((hm _).2 rfl) (by simp)
  | [x], hm, _ => rw [(hm x).1 (by simp)]
  | x :: y :: r, hm, hr =>
    have e1 := (hm x).1 (by simp)
    have e2 := (hm y).1 (by simp)
    subst e1; subst e2
    have := (List.pairwise_cons.1 hr).1 _ (List.mem_cons_self)
    have e : ¬ (Pl.compare ⟨#[97]⟩ ⟨#[97]⟩ < 0) := by decide
    exact absurd this e
theorem au_chg (a : Option Addr) : changesP AuP.init (Pl.applyA AuP.init (enAu a) 0).2 0 [⟨#[97]⟩] = [⟨0, ⟨#[97]⟩, ⟨#[]⟩, ⟨#[]⟩, 0, ⟨#[97]⟩, ⟨#[120]⟩, 1, false, true⟩] := by kernel_rfl
set_option maxRecDepth 100000 in
set_option maxHeartbeats 4000000 in
theorem alive39 (E : Nat → Addr) (w : World) (hE : Errs auS E w) : Calls Tryz.prog 18 #[] w fun e w' => e = .returned (.bool true) ∧ Grew w w' := by
  have HE := hid hE
  have HN := hid (newW_any E hE ⟨#[]⟩ ⟨#[]⟩ (by decide) (by decide) (by kernel_rfl))
  clear hE
  go_enter Tryz.func18, Tryz.ntmps18
  go_wp2_with fail
  refine HN.out.mono ?_
  rintro e w1 ⟨wb, ab, rfl, hg, hW, h⟩
  have HG := hid hg
  have HW := hid hW
  have HA := hid h
  clear hg hW h HN
  go_wp2_with fail
  obtain ⟨Y, hY⟩ : ∃ Y, Y = w1.alloc (.cells #[.int .i64 1, .string ⟨#[97]⟩, .string ⟨#[120]⟩, .string ⟨#[]⟩, .int .i64 0] 104) := ⟨_, rfl⟩
  have gY : Grew w1 Y := by rw [hY]; exact (Grew.refl w1).alloc _
  have hblk : Y.heap[w1.heap.size]? = some (.cells #[.int .i64 1, .string ⟨#[97]⟩, .string ⟨#[120]⟩, .string ⟨#[]⟩, .int .i64 0] 104 (0, 0)) := by rw [hY]; exact heap_alloc_new w1 _
  have HST : Hid (Calls Tryz.prog 22 #[.pointer (some ⟨wb, 0, none⟩), (enAu (some ⟨w1.heap.size, 0, none⟩)).agg, .int .i64 0] Y fun r w' => Grew w w' ∧ WtC w' wb ab ⟨#[]⟩ ⟨#[]⟩ 1 ∧ ∃ b off c, r = .returned (.tuple #[.slice (some ⟨b, off, none⟩) 1 c, .nilIface]) ∧ b < w'.heap.size ∧ w'.cell? ⟨b, off + 8, none⟩ = some (.bool false) ∧ w'.cell? ⟨b, off + 9, none⟩ = some (.bool true)) := by
    obtain ⟨L', h1, h2, h2w, h3⟩ := HA.out 1 (fun _ => 0)
    have hs := HG.out.size
    have hy := gY.size
    have hl : w1.heap.size < Y.heap.size := (Array.getElem?_eq_some_iff.1 hblk).1
    have hwb := cell_lt HW.out.c0
    have h4 : AuAt Y (fun j => if j < w1.heap.size then L' j else 0) 1 ab 1 AuP.init := h3.kept (gY.only fun _ => False) (fun _ _ h => h.elim) fun j hj => if_pos hj
    refine (stepW_any E HE.out (HG.out.trans gY) (HW.out.grew gY) (show (if wb < w1.heap.size then L' wb else 0) = 1 + 149 from (if_pos hwb).trans h2w) h4 (Nat.le_refl _) (fun j hj => by
      rw [if_pos (by omega), h1 j hj]; decide) auOk_init (by decide) (by decide) (enAu (some ⟨w1.heap.size, 0, none⟩)) (fun X hO => ops_au ((hO.block _ hl (by rw [if_neg (by omega)]; unfold Kin; omega)).trans hblk)) (sz_au _) (show (⟨#[]⟩ : ByteArray).size ≤ 300 from by decide) 0 (by decide) (by decide) (by decide) (by decide)).mono ?_
    rintro r w' ⟨q1, _, _, ks, hk, q2⟩
    obtain rfl := au_asks _ hk
    rw [au_err, au_chg] at q2
    rcases q2 with ⟨q, _⟩ | ⟨_, b, c, rfl, _, hc, hw⟩
    · exact absurd rfl q
    · rcases hc with h | ⟨b, off, e, hb, hR⟩
      · cases h
      · cases e
        exact ⟨q1, hw, b, 0, c, rfl, hb, hR.had 0 (by decide), hR.has 0 (by decide)⟩
  rw [← hY]
  clear hY HA gY hblk HW
  unfold En.agg En.vals at HST
  unfold enAu at HST
  dsimp only at HST
  refine HST.out.mono ?_
  rintro e w2 ⟨hg2, hW2, b, off, c, rfl, hb, p8, p9⟩
  have HG2 := hid hg2
  have HTO := hid (told_any hW2)
  clear hg2 hW2 HST
  go_wp2_with fail
  refine HTO.out.mono ?_
  rintro e w3 ⟨rfl, hg3⟩
  have HG3 := hid (HG2.out.trans hg3)
  clear hg3 HTO p8 p9
  go_wp2_with fail
  go_ret
  exact ⟨rfl, HG3.out⟩
end Go.Proofs.YtbdagllflamabaaGreatDoor
namespace Go.Proofs.YtbdagllflamabaaGreatDoor
open Go.RowKit
attribute [local go_sem] Oper.semAt_some
structure Ac where
  e : En
  at' : Int
def En.zero : En := ⟨0, 0, 0, 0, 0, 0, ⟨#[]⟩, 0, 0, 0, [], none, 0, none, 0, 0⟩
def Ac.vals (a : Ac) : List Value := a.e.vals ++ [.int .i64 a.at']
instance : Inhabited Ac := ⟨⟨En.zero, 0⟩⟩
def acAt (xs : List Ac) (j : Nat) : Ac := xs[j]?.getD default
theorem acAt_eq (xs : List Ac) (i : Nat) (hi : i < xs.length) : acAt xs i = xs[i] := by unfold acAt; rw [List.getElem?_eq_getElem hi]; rfl
structure AcsAt (W : World) (a : Option Addr) (xs : List Ac) : Prop where
  row : xs = [] ∨ ∃ b off, a = some ⟨b, off, none⟩ ∧ b < W.heap.size ∧ ∀ j, j < xs.length → ∀ k v, (acAt xs j).vals[k]? = some v → W.cell? ⟨b, off + j * 13 + k, none⟩ = some v
  ops : ∀ j, j < xs.length → OpRsAt W (acAt xs j).e.opsA (acAt xs j).e.ops
theorem AcsAt.grew {W W' : World} {a : Option Addr} {xs : List Ac} (h : AcsAt W a xs) (g : Grew W W') : AcsAt W' a xs := by
  refine ⟨?_, fun j hj => (h.ops j hj).grew g⟩
  rcases h.row with h0 | ⟨b, off, e, hb, hr⟩
  · exact .inl h0
  · exact .inr ⟨b, off, e, Nat.lt_of_lt_of_le hb g.size, fun j hj k v hv => (g.cells.1 _ _ hb).trans (hr j hj k v hv)⟩
theorem ac_cells {W : World} {b off : Nat} {a : Ac} (h : ∀ k v, a.vals[k]? = some v → W.cell? ⟨b, off + k, none⟩ = some v) : W.cell? ⟨b, off, none⟩ = some (.int .i64 a.e.kind) ∧ W.cell? ⟨b, off + 1, none⟩ = some (.int .i64 a.e.shard) ∧ W.cell? ⟨b, off + 2, none⟩ = some (.int .i64 a.e.other) ∧ W.cell? ⟨b, off + 3, none⟩ = some (.int .i64 a.e.server) ∧ W.cell? ⟨b, off + 4, none⟩ = some (.int .i64 a.e.client) ∧ W.cell? ⟨b, off + 5, none⟩ = some (.int .i64 a.e.seq) ∧ W.cell? ⟨b, off + 6, none⟩ = some (.slice a.e.opsA a.e.ops.length a.e.opsC) ∧ W.cell? ⟨b, off + 7, none⟩ = some (.string a.e.key) ∧ W.cell? ⟨b, off + 8, none⟩ = some (.int .i64 a.e.upto) ∧ W.cell? ⟨b, off + 9, none⟩ = some (.int .i64 a.e.part) ∧ W.cell? ⟨b, off + 10, none⟩ = some (.int .i64 a.e.parts) ∧ W.cell? ⟨b, off + 11, none⟩ = some (.slice a.e.dataA a.e.dataL a.e.dataC) ∧ W.cell? ⟨b, off + 12, none⟩ = some (.int .i64 a.at') :=
  ⟨h 0 _ rfl, h 1 _ rfl, h 2 _ rfl, h 3 _ rfl, h 4 _ rfl, h 5 _ rfl, h 6 _ rfl, h 7 _ rfl, h 8 _ rfl, h 9 _ rfl, h 10 _ rfl, h 11 _ rfl, h 12 _ rfl⟩
def OpR.long (o : OpR) : Bool := decide (300 < o.key.size) || decide (300 < o.val.size) || decide (300 < o.old.size)
def Ac.long (a : Ac) : Bool := decide (20 < a.e.ops.length) || decide (300 < a.e.key.size) || decide (600 < a.e.dataL) || a.e.ops.any OpR.long
theorem take_any_ac (xs : List Ac) (k : Nat) (h : k < xs.length) : (xs.take (k + 1)).any Ac.long = ((xs.take k).any Ac.long || (acAt xs k).long) := by
  rw [List.take_succ_eq_append_getElem h, acAt_eq xs k h, List.any_append]; simp
theorem any_of_ac (xs : List Ac) (k : Nat) (h : k < xs.length) (hl : (acAt xs k).long = true) : xs.any Ac.long = true := by
  rw [acAt_eq xs k h] at hl
  exact List.any_eq_true.2 ⟨xs[k], List.getElem_mem h, hl⟩
theorem take_any_op (xs : List OpR) (k : Nat) (h : k < xs.length) : (xs.take (k + 1)).any OpR.long = ((xs.take k).any OpR.long || (opRAt xs k).long) := by
  rw [List.take_succ_eq_append_getElem h, opRAt_eq xs k h, List.any_append]; simp
theorem any_of_op (xs : List OpR) (k : Nat) (h : k < xs.length) (hl : (opRAt xs k).long = true) : xs.any OpR.long = true := by
  rw [opRAt_eq xs k h] at hl
  exact List.any_eq_true.2 ⟨xs[k], List.getElem_mem h, hl⟩
def AcFits (a : Ac) : Prop := a.e.ops.length ≤ 9223372036854775807 ∧ a.e.key.size ≤ 9223372036854775807 ∧ a.e.dataL ≤ 9223372036854775807 ∧ ∀ j, j < a.e.ops.length → (opRAt a.e.ops j).key.size ≤ 9223372036854775807 ∧ (opRAt a.e.ops j).val.size ≤ 9223372036854775807 ∧ (opRAt a.e.ops j).old.size ≤ 9223372036854775807
end Go.Proofs.YtbdagllflamabaaGreatDoor
namespace Go.Proofs.YtbdagllflamabaaGreatDoor
open Go.RowKit Go.Maps
section
variable {P : Program}
theorem wpList_append_run (w : World) {ops : Array Oper} {rest : List Oper} {o : Oper} {a : Act} {Q : Exit → Act → World → Prop} (hgd : o.guard = none) (s x : Operand) (t t' : TypeId)
    (ho : o.op = .call { callee := .builtin .append, args := #[s, x], argTypes := #[t, t'] }) (v : Value) (w' : World) (hr : (Builtin.append_ #[t, t'] o.type #[a.eval s, a.eval x]).run P w = .ok v w')
    (h : wpList P ops Q rest (a.put o.dst v) w') : wpList P ops Q (o :: rest) a w := by
  unfold wpList
  rw [if_pos (by unfold Region.wanted; rw [hgd])]
  refine .inl ?_
  unfold Oper.wp execOp
  simp only [ho, resolve, invoke, builtin, Sem.run_bind, Sem.run_pure, Result.andThen_ok, List.map_toArray, List.map_cons, List.map_nil, hr]
  exact h
end
end Go.Proofs.YtbdagllflamabaaGreatDoor
namespace Go.Proofs.YtbdagllflamabaaGreatDoor
open Go.RowKit
attribute [local go_sem] Oper.semAt_some
def long39B (lo hi : ByteArray) (xs : List Ac) : Bool := decide (60 < xs.length) || decide (300 < lo.size) || decide (300 < hi.size) || xs.any Ac.long
theorem long39_short {lo hi : ByteArray} {xs : List Ac} (h : long39B lo hi xs = false) : xs.length ≤ 60 ∧ lo.size ≤ 300 ∧ hi.size ≤ 300 ∧ ∀ j, j < xs.length → (acAt xs j).e.ops.length ≤ 20 ∧ (acAt xs j).e.key.size ≤ 300 ∧ (acAt xs j).e.dataL ≤ 600 ∧ ∀ o ∈ (acAt xs j).e.ops, o.key.size ≤ 300 ∧ o.val.size ≤ 300 ∧ o.old.size ≤ 300 := by
  unfold long39B at h
  simp only [Bool.or_eq_false_iff, decide_eq_false_iff_not] at h
  refine ⟨by omega, by omega, by omega, fun j hj => ?_⟩
  have := List.any_eq_false.1 h.2 _ (List.getElem_mem hj)
  rw [← acAt_eq xs j hj] at this
  unfold Ac.long at this
  simp only [Bool.or_eq_true, decide_eq_true_eq, not_or] at this
  obtain ⟨⟨⟨h1, h2⟩, h3⟩, h4⟩ := this
  refine ⟨by omega, by omega, by omega, fun o ho => ?_⟩
  have h5 := List.any_eq_false.1 (by simpa using h4 : (acAt xs j).e.ops.any OpR.long = false) o ho
  unfold OpR.long at h5
  simp only [Bool.or_eq_true, decide_eq_true_eq, not_or] at h5
  omega
set_option maxRecDepth 100000 in
set_option maxHeartbeats 4000000 in
theorem long39_any (a : Option Addr) (cap : Nat) (xs : List Ac) (lo hi : ByteArray) (hlo : lo.size ≤ 9223372036854775807) (hhi : hi.size ≤ 9223372036854775807) (w : World) (hA : AcsAt w a xs) (hx : xs.length ≤ 9223372036854775807) (hk : ∀ j, j < xs.length → AcFits (acAt xs j)) :
    Calls Tryz.prog 19 #[.slice a xs.length cap, .agg #[.string lo, .string hi]] w fun e w' => e = .returned (.bool (long39B lo hi xs)) ∧ Grew w w' := by
  by_cases h60 : 60 < xs.length
  · have e : long39B lo hi xs = true := by unfold long39B; rw [decide_eq_true h60]; rfl
    rw [e]
    clear e
    have h1 : (60 : Int) < (xs.length : Int) := by omega
    go_enter Tryz.func19, Tryz.ntmps19
    go_wp2_with fail
    go_ret
    exact ⟨rfl, (Grew.refl w).alloc _⟩
  by_cases hs1 : (300 : Int) < (lo.size : Int)
  · have e : long39B lo hi xs = true := by unfold long39B; simp only [Bool.or_eq_true, decide_eq_true_eq]; omega
    have h1 : (xs.length : Int) ≤ 60 := by omega
    rw [e]
    clear e
    go_enter Tryz.func19, Tryz.ntmps19
    go_wp2_with fail
    go_ret
    exact ⟨rfl, (Grew.refl w).alloc _⟩
  by_cases hs2 : (300 : Int) < (hi.size : Int)
  · have e : long39B lo hi xs = true := by unfold long39B; simp only [Bool.or_eq_true, decide_eq_true_eq]; omega
    have h1 : (xs.length : Int) ≤ 60 := by omega
    rw [e]
    clear e
    go_enter Tryz.func19, Tryz.ntmps19
    go_wp2_with fail
    go_ret
    exact ⟨rfl, (Grew.refl w).alloc _⟩
  · have h1 : (xs.length : Int) ≤ 60 := by omega
    have e : long39B lo hi xs = xs.any Ac.long := by unfold long39B; rw [decide_eq_false h60, decide_eq_false (by omega), decide_eq_false (by omega)]; rfl
    have HE := hid e
    have HA := hid hA
    have HK := hid hk
    clear e h60 hA hk
    go_enter Tryz.func19, Tryz.ntmps19
    go_wp2_with fail
    go_loopw [27] (fun i wr => ∃ k : Nat, k ≤ xs.length ∧ i = .int .i64 k ∧ (xs.take k).any Ac.long = false ∧ Grew w wr) (fun i _ => xs.length - (intOf i).toNat)
    case atStart => exact ⟨0, Nat.zero_le _, rfl, rfl, (Grew.refl w).alloc _⟩
    case round =>
      obtain ⟨k, hk1, rfl, hno, hG⟩ := hrel
      obtain ⟨wo, rfl⟩ : ∃ wo : World, wo = wr := ⟨_, rfl⟩
      by_cases hlt : k < xs.length
      · rcases HA.out.row with h0 | ⟨b, off, rfl, hb, hR⟩
        · rw [h0] at hlt; simp at hlt
        obtain ⟨q0, q1, q2, q3, q4, q5, q6, q7, q8, q9, q10, q11, q12⟩ := ac_cells (W := wo) (b := b) (off := off + k * 13) (a := acAt xs k) (fun i v hv => (hG.cells.1 _ _ hb).trans (hR k hlt i v hv))
        have HOPS := hid (HA.out.ops k hlt)
        have HN := hid (take_any_ac xs k hlt)
        have HY := hid (any_of_ac xs k hlt)
        have HNO := hid hno
        obtain ⟨cl, ck, cd, co⟩ := HK.out k hlt
        have HCO := hid co
        clear hR hno co
        generalize acAt xs k = A at *
        obtain ⟨⟨kind, shard, other, server, client, seq, key, upto, part, parts, ops, opsA, opsC, dataA, dataL, dataC⟩, at'⟩ := A
        dsimp only at *
        by_cases l1 : (20 : Int) < (ops.length : Int)
        · have HL : Hid (Ac.long ⟨⟨kind, shard, other, server, client, seq, key, upto, part, parts, ops, opsA, opsC, dataA, dataL, dataC⟩, at'⟩ = true) := by
            unfold Hid Ac.long; rw [decide_eq_true (by dsimp only; omega)]; rfl
          go_wp2_with fail
          go_ret
          exact ⟨ret_bool (by rw [HE.out, HY.out HL.out]), (hG.alloc _).alloc _⟩
        by_cases l2 : (300 : Int) < (key.size : Int)
        · have HL : Hid (Ac.long ⟨⟨kind, shard, other, server, client, seq, key, upto, part, parts, ops, opsA, opsC, dataA, dataL, dataC⟩, at'⟩ = true) := by
            unfold Hid Ac.long; simp only [Bool.or_eq_true, decide_eq_true_eq]; omega
          go_wp2_with fail
          go_ret
          exact ⟨ret_bool (by rw [HE.out, HY.out HL.out]), (hG.alloc _).alloc _⟩
        by_cases l3 : (600 : Int) < (dataL : Int)
        · have HL : Hid (Ac.long ⟨⟨kind, shard, other, server, client, seq, key, upto, part, parts, ops, opsA, opsC, dataA, dataL, dataC⟩, at'⟩ = true) := by
            unfold Hid Ac.long; simp only [Bool.or_eq_true, decide_eq_true_eq]; omega
          go_wp2_with fail
          go_ret
          exact ⟨ret_bool (by rw [HE.out, HY.out HL.out]), (hG.alloc _).alloc _⟩
        have HL0 : Hid (Ac.long ⟨⟨kind, shard, other, server, client, seq, key, upto, part, parts, ops, opsA, opsC, dataA, dataL, dataC⟩, at'⟩ = ops.any OpR.long) := by
          unfold Hid Ac.long
          rw [decide_eq_false (by dsimp only; omega), decide_eq_false (by dsimp only; omega), decide_eq_false (by dsimp only; omega)]
          rfl
        go_wp2_with fail
        have HG2 := hid ((hG.alloc (Obj.cells #[.int .i64 kind, .int .i64 shard, .int .i64 other, .int .i64 server, .int .i64 client, .int .i64 seq, .slice opsA ops.length opsC, .string key, .int .i64 upto, .int .i64 part, .int .i64 parts, .slice dataA dataL dataC, .int .i64 at'] 59)).alloc (Obj.cells #[.int .i64 kind, .int .i64 shard, .int .i64 other, .int .i64 server, .int .i64 client, .int .i64 seq, .slice opsA ops.length opsC, .string key, .int .i64 upto, .int .i64 part, .int .i64 parts, .slice dataA dataL dataC] 26))
        clear q0 q1 q2 q3 q4 q5 q6 q7 q8 q9 q10 q11 q12
        have hG2 := HG2.out
        clear HG2
        generalize World.alloc (World.alloc wo _) _ = w2 at hG2 ⊢
        clear hG
        go_loopw [52] (fun i wr => ∃ m : Nat, m ≤ ops.length ∧ i = .int .i64 m ∧ (ops.take m).any OpR.long = false ∧ Grew w wr) (fun i _ => ops.length - (intOf i).toNat)
        case atStart => exact ⟨0, Nat.zero_le _, rfl, rfl, hG2⟩
        case round =>
          obtain ⟨m, hm1, rfl, hmo, hGm⟩ := hrel
          by_cases hml : m < ops.length
          · rcases HOPS.out with h0 | ⟨ob, ooff, rfl, hob, hOR⟩
            · rw [h0] at hml; simp at hml
            have p0 := (hGm.cells.1 ob (ooff + m * 5) hob).trans (hOR.kind m hml)
            have p1 := (hGm.cells.1 ob (ooff + m * 5 + 1) hob).trans (hOR.key m hml)
            have p2 := (hGm.cells.1 ob (ooff + m * 5 + 2) hob).trans (hOR.val m hml)
            have p3 := (hGm.cells.1 ob (ooff + m * 5 + 3) hob).trans (hOR.old m hml)
            have p4 := (hGm.cells.1 ob (ooff + m * 5 + 4) hob).trans (hOR.ver m hml)
            have HMN := hid (take_any_op ops m hml)
            have HMY := hid (any_of_op ops m hml)
            have HMO := hid hmo
            obtain ⟨b1, b2, b3⟩ := HCO.out m hml
            clear hOR hmo
            generalize opRAt ops m = O at *
            obtain ⟨okind, okey, oval, oold, over⟩ := O
            dsimp only at *
            by_cases o1 : (300 : Int) < (okey.size : Int)
            · have HL : Hid (OpR.long ⟨okind, okey, oval, oold, over⟩ = true) := by
                unfold Hid OpR.long; simp only [Bool.or_eq_true, decide_eq_true_eq]; omega
              go_wp2_with fail
              go_ret
              exact ⟨ret_bool (by rw [HE.out, HY.out (HL0.out.trans (HMY.out HL.out))]), hGm.alloc _⟩
            by_cases o2 : (300 : Int) < (oval.size : Int)
            · have HL : Hid (OpR.long ⟨okind, okey, oval, oold, over⟩ = true) := by
                unfold Hid OpR.long; simp only [Bool.or_eq_true, decide_eq_true_eq]; omega
              go_wp2_with fail
              go_ret
              exact ⟨ret_bool (by rw [HE.out, HY.out (HL0.out.trans (HMY.out HL.out))]), hGm.alloc _⟩
            by_cases o3 : (300 : Int) < (oold.size : Int)
            · have HL : Hid (OpR.long ⟨okind, okey, oval, oold, over⟩ = true) := by
                unfold Hid OpR.long; simp only [Bool.or_eq_true, decide_eq_true_eq]; omega
              go_wp2_with fail
              go_ret
              exact ⟨ret_bool (by rw [HE.out, HY.out (HL0.out.trans (HMY.out HL.out))]), hGm.alloc _⟩
            have HL : Hid (OpR.long ⟨okind, okey, oval, oold, over⟩ = false) := by
              unfold Hid OpR.long; simp only [Bool.or_eq_false_iff, decide_eq_false_iff_not]; omega
            go_wp2_with fail
            go_roundw
            case rel => exact ⟨m + 1, by omega, by go_num, by rw [HMN.out, HMO.out, HL.out]; rfl, hGm.alloc _⟩
            case measure => simp [intOf]; omega
          · obtain rfl : m = ops.length := by omega
            rw [List.take_length] at hmo
            have HMO := hid hmo
            clear hmo
            go_wp2_with fail
            go_roundw
            case rel => exact ⟨k + 1, by omega, by go_num, by rw [HN.out, HNO.out, HL0.out, HMO.out]; rfl, hGm⟩
            case measure => simp [intOf]; omega
      · obtain rfl : k = xs.length := by omega
        rw [List.take_length] at hno
        have HNO := hid hno
        clear hno
        go_wp2_with fail
        go_ret
        exact ⟨ret_bool (by rw [HE.out, HNO.out]), hG⟩
end Go.Proofs.YtbdagllflamabaaGreatDoor
