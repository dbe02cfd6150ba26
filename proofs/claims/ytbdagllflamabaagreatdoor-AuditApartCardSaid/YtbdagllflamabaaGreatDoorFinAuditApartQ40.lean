/- LawAu, Acts30: one text. -/
import Derived.Test.YtbdagllflamabaaGreatDoorFinAuditApartQ39
import Derived.Test.YtbdagllflamabaaGreatDoorFinAuditApartQ5
import Derived.Deep.QuietTactic
import Derived.BigQuiet
import Derived.Test.YtbdagllflamabaaGreatDoorFinAuditApartQ3
import Derived.Deep.AppendLies
set_option linter.unusedVariables false
set_option linter.unusedSectionVars false
set_option linter.unusedSimpArgs false
namespace Go.Proofs.YtbdagllflamabaaGreatDoor
open Go.RowKit Go.Maps
attribute [local go_sem] Oper.semAt_some uponV
def opAu : OpR := ⟨1, ⟨#[97]⟩, ⟨#[120]⟩, ⟨#[]⟩, 0⟩
def enAu (a : Option Addr) : En := ⟨1, 1, 0, 0, 1, 1, ⟨#[]⟩, 0, 0, 0, [opAu], a, 1, none, 0, 0⟩
theorem au_err (a : Option Addr) : (Pl.applyA AuP.init (enAu a) 0).1 = 0 := by kernel_rfl
theorem au_at (a : Option Addr) : (Pl.applyA AuP.init (enAu a) 0).2.at_ = 1 := by kernel_rfl
theorem au_get (a : Option Addr) : Pl.getAP (Pl.applyA AuP.init (enAu a) 0).2 ⟨#[97]⟩ = some ⟨⟨#[97]⟩, ⟨#[120]⟩, 1⟩ := by kernel_rfl
theorem ops_au {W : World} {ob : Nat} (h : W.heap[ob]? = some (.cells #[.int .i64 1, .string ⟨#[97]⟩, .string ⟨#[120]⟩, .string ⟨#[]⟩, .int .i64 0] 104 (0, 0))) : EnAt W (enAu (some ⟨ob, 0, none⟩)) := by
  have hlt := (Array.getElem?_eq_some_iff.1 h).1
  have hc : ∀ (i : Nat) v, (#[.int .i64 1, .string ⟨#[97]⟩, .string ⟨#[120]⟩, .string ⟨#[]⟩, .int .i64 0] : Array Value)[i]? = some v → W.cell? ⟨ob, i, none⟩ = some v := fun i v hv => by rw [cell_of_row _ ob i _ _ _ h]; simpa using hv
  refine ⟨.inr ⟨ob, 0, rfl, hlt, ?_, ?_, ?_, ?_, ?_⟩, by simp [enAu], fun o ho => ?_, fun e => by cases e⟩
  · intro j hj; obtain rfl : j = 0 := by simpa [enAu] using hj
    exact hc 0 _ rfl
  · intro j hj; obtain rfl : j = 0 := by simpa [enAu] using hj
    exact hc 1 _ rfl
  · intro j hj; obtain rfl : j = 0 := by simpa [enAu] using hj
    exact hc 2 _ rfl
  · intro j hj; obtain rfl : j = 0 := by simpa [enAu] using hj
    exact hc 3 _ rfl
  · intro j hj; obtain rfl : j = 0 := by simpa [enAu] using hj
    exact hc 4 _ rfl
  · simp [enAu] at ho; subst ho; exact ⟨by decide, by decide, by decide⟩
theorem sz_au (a : Option Addr) : EnSz (enAu a) := fun o ho => by simp [enAu] at ho; subst ho; exact ⟨by decide, by decide⟩
set_option maxRecDepth 100000 in
set_option maxHeartbeats 4000000 in
theorem alive30 (E : Nat → Addr) (w : World) (hE : Errs auS E w) : Calls Tryz.prog 8 #[] w fun e w' => e = .returned (.bool true) ∧ Grew w w' := by
  have HE := hid hE
  have HN := hid (newA_any E w (auS_st hE))
  clear hE
  go_enter Tryz.func8, Tryz.ntmps8
  go_wp2_with fail
  refine HN.out.mono ?_
  rintro e w1 ⟨ab, rfl, hg, h⟩
  have HG := hid hg
  have HA := hid h
  clear hg h HN
  go_wp2_with fail
  obtain ⟨Y, hY⟩ : ∃ Y, Y = w1.alloc (.cells #[.int .i64 1, .string ⟨#[97]⟩, .string ⟨#[120]⟩, .string ⟨#[]⟩, .int .i64 0] 104) := ⟨_, rfl⟩
  have gY : Grew w1 Y := by rw [hY]; exact (Grew.refl w1).alloc _
  have hblk : Y.heap[w1.heap.size]? = some (.cells #[.int .i64 1, .string ⟨#[97]⟩, .string ⟨#[120]⟩, .string ⟨#[]⟩, .int .i64 0] 104 (0, 0)) := by rw [hY]; exact heap_alloc_new w1 _
  have HAP : Hid (Calls Tryz.prog 11 #[.pointer (some ⟨ab, 0, none⟩), (enAu (some ⟨w1.heap.size, 0, none⟩)).agg, .int .i64 0] Y fun r w' => r = .returned .nilIface ∧ Grew w w' ∧ ∃ L, AuAt w' L 1 ab 6 (Pl.applyA AuP.init (enAu (some ⟨w1.heap.size, 0, none⟩)) 0).2) := by
    obtain ⟨L', h1, h2, h3⟩ := HA.out 1 (fun _ => 0)
    have hs := HG.out.size
    have hy := gY.size
    have hl : w1.heap.size < Y.heap.size := (Array.getElem?_eq_some_iff.1 hblk).1
    have h4 : AuAt Y (fun j => if j < w1.heap.size then L' j else 0) 1 ab 1 AuP.init := h3.kept (gY.only fun _ => False) (fun _ _ h => h.elim) fun j hj => if_pos hj
    have gX : ∀ X, Only (fun j => Kin 1 (if j < w1.heap.size then L' j else 0)) Y X → Grew w X := fun X hO => (((HG.out.trans gY).only (fun j => w.heap.size ≤ j)).then (hO.mono fun j hj => by
      by_cases q : j < w.heap.size
      · rw [if_pos (by omega), h1 j q] at hj
        unfold Kin at hj; omega
      · exact .inl (by omega))).grew fun j hj => hj
    refine (applyA_any E (fun X hO => HE.out.grew (gX X hO)) h4 auOk_init (by decide) (by decide) (enAu (some ⟨w1.heap.size, 0, none⟩)) (fun X hO => ops_au ((hO.block _ hl (by rw [if_neg (by omega)]; unfold Kin; omega)).trans hblk)) (sz_au _) (show (⟨#[]⟩ : ByteArray).size ≤ 300 from by decide) 0).mono ?_
    rintro r w' ⟨rfl, hO, L2, _, _, h5⟩
    exact ⟨by rw [au_err]; rfl, gX w' hO, L2, h5⟩
  rw [← hY]
  clear hY HA gY hblk
  unfold En.agg En.vals at HAP
  generalize hB : (Pl.applyA AuP.init (enAu (some ⟨w1.heap.size, 0, none⟩)) 0).2 = B at *
  have HB := hid (show AuOk B 1 ∧ Pl.getAP B ⟨#[97]⟩ = some ⟨⟨#[97]⟩, ⟨#[120]⟩, 1⟩ ∧ B.at_ = 1 from by
    rw [← hB]
    exact ⟨Pl.auOk_apply auOk_init (fun i P S hi => by
      unfold AuP.init at hi
      dsimp only at hi
      split at hi
      · cases hi; exact Pl.srt_nil
      · cases hi) _ _, au_get _, au_at _⟩)
  clear hB
  unfold enAu at HAP
  dsimp only at HAP
  refine HAP.out.mono ?_
  rintro e w2 ⟨rfl, hg2, L, h2⟩
  have HG2 := hid hg2
  have H2 := hid h2
  clear hg2 h2 HAP
  go_wp2_with fail
  refine (getA_any E (HE.out.grew HG2.out) H2.out HB.out.1 (by decide) ⟨#[97]⟩ (by decide)).mono ?_
  rintro e w3 ⟨rfl, hg3⟩
  rw [HB.out.2.1]
  have HG3 := hid hg3
  clear hg3
  dsimp only [Option.getD, Option.isSome, Pr.agg]
  go_wp2_with fail
  have gZ : Grew w3 (w3.alloc (.cells #[.string ⟨#[97]⟩, .string ⟨#[120]⟩, .int .i64 1] 42)) := (Grew.refl w3).alloc _
  have HT := hid (atA_any (H2.out.grew (HG3.out.trans gZ)))
  rw [HB.out.2.2] at HT
  have HGZ := hid (HG2.out.trans (HG3.out.trans gZ))
  clear gZ
  refine HT.out.mono ?_
  rintro e w4 ⟨rfl, hg4⟩
  have HG4 := hid (HGZ.out.trans hg4)
  clear hg4 HT
  go_wp2_with fail
  go_ret
  exact ⟨rfl, HG4.out⟩
end Go.Proofs.YtbdagllflamabaaGreatDoor
namespace Go.Proofs.YtbdagllflamabaaGreatDoor
open Go.RowKit
attribute [local go_sem] Oper.semAt_some
structure Ac where
  e : En
  at' : Int
def En.zero : En := ⟨0, 0, 0, 0, 0, 0, ⟨#[]⟩, 0, 0, 0, [], none, 0, none, 0, 0⟩
def Ac.vals (a : Ac) : List Value := a.e.vals ++ [.int .i64 a.at']
instance : Inhabited Ac := ⟨⟨En.zero, 0⟩⟩
def acAt (xs : List Ac) (j : Nat) : Ac := xs[j]?.getD default
theorem acAt_eq (xs : List Ac) (i : Nat) (hi : i < xs.length) : acAt xs i = xs[i] := by unfold acAt; rw [List.getElem?_eq_getElem hi]; rfl
structure AcsAt (W : World) (a : Option Addr) (xs : List Ac) : Prop where
  row : xs = [] ∨ ∃ b off, a = some ⟨b, off, none⟩ ∧ b < W.heap.size ∧ ∀ j, j < xs.length → ∀ k v, (acAt xs j).vals[k]? = some v → W.cell? ⟨b, off + j * 13 + k, none⟩ = some v
  ops : ∀ j, j < xs.length → OpRsAt W (acAt xs j).e.opsA (acAt xs j).e.ops
theorem AcsAt.grew {W W' : World} {a : Option Addr} {xs : List Ac} (h : AcsAt W a xs) (g : Grew W W') : AcsAt W' a xs := by
  refine ⟨?_, fun j hj => (h.ops j hj).grew g⟩
  rcases h.row with h0 | ⟨b, off, e, hb, hr⟩
  · exact .inl h0
  · exact .inr ⟨b, off, e, Nat.lt_of_lt_of_le hb g.size, fun j hj k v hv => (g.cells.1 _ _ hb).trans (hr j hj k v hv)⟩
theorem ac_cells {W : World} {b off : Nat} {a : Ac} (h : ∀ k v, a.vals[k]? = some v → W.cell? ⟨b, off + k, none⟩ = some v) : W.cell? ⟨b, off, none⟩ = some (.int .i64 a.e.kind) ∧ W.cell? ⟨b, off + 1, none⟩ = some (.int .i64 a.e.shard) ∧ W.cell? ⟨b, off + 2, none⟩ = some (.int .i64 a.e.other) ∧ W.cell? ⟨b, off + 3, none⟩ = some (.int .i64 a.e.server) ∧ W.cell? ⟨b, off + 4, none⟩ = some (.int .i64 a.e.client) ∧ W.cell? ⟨b, off + 5, none⟩ = some (.int .i64 a.e.seq) ∧ W.cell? ⟨b, off + 6, none⟩ = some (.slice a.e.opsA a.e.ops.length a.e.opsC) ∧ W.cell? ⟨b, off + 7, none⟩ = some (.string a.e.key) ∧ W.cell? ⟨b, off + 8, none⟩ = some (.int .i64 a.e.upto) ∧ W.cell? ⟨b, off + 9, none⟩ = some (.int .i64 a.e.part) ∧ W.cell? ⟨b, off + 10, none⟩ = some (.int .i64 a.e.parts) ∧ W.cell? ⟨b, off + 11, none⟩ = some (.slice a.e.dataA a.e.dataL a.e.dataC) ∧ W.cell? ⟨b, off + 12, none⟩ = some (.int .i64 a.at') :=
  ⟨h 0 _ rfl, h 1 _ rfl, h 2 _ rfl, h 3 _ rfl, h 4 _ rfl, h 5 _ rfl, h 6 _ rfl, h 7 _ rfl, h 8 _ rfl, h 9 _ rfl, h 10 _ rfl, h 11 _ rfl, h 12 _ rfl⟩
def OpR.long (o : OpR) : Bool := decide (300 < o.key.size) || decide (300 < o.val.size) || decide (300 < o.old.size)
def Ac.long (a : Ac) : Bool := decide (20 < a.e.ops.length) || decide (300 < a.e.key.size) || decide (600 < a.e.dataL) || a.e.ops.any OpR.long
def long30B (xs : List Ac) : Bool := decide (30 < xs.length) || xs.any Ac.long
theorem take_any_ac (xs : List Ac) (k : Nat) (h : k < xs.length) : (xs.take (k + 1)).any Ac.long = ((xs.take k).any Ac.long || (acAt xs k).long) := by
  rw [List.take_succ_eq_append_getElem h, acAt_eq xs k h, List.any_append]; simp
theorem any_of_ac (xs : List Ac) (k : Nat) (h : k < xs.length) (hl : (acAt xs k).long = true) : xs.any Ac.long = true := by
  rw [acAt_eq xs k h] at hl
  exact List.any_eq_true.2 ⟨xs[k], List.getElem_mem h, hl⟩
theorem take_any_op (xs : List OpR) (k : Nat) (h : k < xs.length) : (xs.take (k + 1)).any OpR.long = ((xs.take k).any OpR.long || (opRAt xs k).long) := by
  rw [List.take_succ_eq_append_getElem h, opRAt_eq xs k h, List.any_append]; simp
theorem any_of_op (xs : List OpR) (k : Nat) (h : k < xs.length) (hl : (opRAt xs k).long = true) : xs.any OpR.long = true := by
  rw [opRAt_eq xs k h] at hl
  exact List.any_eq_true.2 ⟨xs[k], List.getElem_mem h, hl⟩
theorem long30_short {xs : List Ac} (h : long30B xs = false) : xs.length ≤ 30 ∧ ∀ j, j < xs.length → (acAt xs j).e.ops.length ≤ 20 ∧ (acAt xs j).e.key.size ≤ 300 ∧ (acAt xs j).e.dataL ≤ 600 ∧ ∀ o ∈ (acAt xs j).e.ops, o.key.size ≤ 300 ∧ o.val.size ≤ 300 ∧ o.old.size ≤ 300 := by
  unfold long30B at h
  rw [Bool.or_eq_false_iff, decide_eq_false_iff_not] at h
  refine ⟨by omega, fun j hj => ?_⟩
  have := List.any_eq_false.1 h.2 _ (List.getElem_mem hj)
  rw [← acAt_eq xs j hj] at this
  unfold Ac.long at this
  simp only [Bool.or_eq_true, decide_eq_true_eq, not_or] at this
  obtain ⟨⟨⟨h1, h2⟩, h3⟩, h4⟩ := this
  refine ⟨by omega, by omega, by omega, fun o ho => ?_⟩
  have h5 := List.any_eq_false.1 (by simpa using h4 : (acAt xs j).e.ops.any OpR.long = false) o ho
  unfold OpR.long at h5
  simp only [Bool.or_eq_true, decide_eq_true_eq, not_or] at h5
  omega
def AcFits (a : Ac) : Prop := a.e.ops.length ≤ 9223372036854775807 ∧ a.e.key.size ≤ 9223372036854775807 ∧ a.e.dataL ≤ 9223372036854775807 ∧ ∀ j, j < a.e.ops.length → (opRAt a.e.ops j).key.size ≤ 9223372036854775807 ∧ (opRAt a.e.ops j).val.size ≤ 9223372036854775807 ∧ (opRAt a.e.ops j).old.size ≤ 9223372036854775807
set_option maxRecDepth 100000 in
set_option maxHeartbeats 4000000 in
theorem long30_any (a : Option Addr) (cap : Nat) (xs : List Ac) (w : World) (hA : AcsAt w a xs) (hx : xs.length ≤ 9223372036854775807) (hk : ∀ j, j < xs.length → AcFits (acAt xs j)) :
    Calls Tryz.prog 9 #[.slice a xs.length cap] w fun e w' => e = .returned (.bool (long30B xs)) ∧ Grew w w' := by
  by_cases h60 : 30 < xs.length
  · have e : long30B xs = true := by unfold long30B; rw [decide_eq_true h60]; rfl
    rw [e]
    clear e
    have h1 : (30 : Int) < (xs.length : Int) := by omega
    go_enter Tryz.func9, Tryz.ntmps9
    go_wp2_with fail
    go_ret
    exact ⟨rfl, Grew.refl w⟩
  · have h1 : (xs.length : Int) ≤ 30 := by omega
    have e : long30B xs = xs.any Ac.long := by unfold long30B; rw [decide_eq_false h60]; rfl
    have HE := hid e
    have HA := hid hA
    have HK := hid hk
    clear e h60 hA hk
    go_enter Tryz.func9, Tryz.ntmps9
    go_wp2_with fail
    go_loopw [13] (fun i wr => ∃ k : Nat, k ≤ xs.length ∧ i = .int .i64 k ∧ (xs.take k).any Ac.long = false ∧ Grew w wr) (fun i _ => xs.length - (intOf i).toNat)
    case atStart => exact ⟨0, Nat.zero_le _, rfl, rfl, Grew.refl w⟩
    case round =>
      obtain ⟨k, hk1, rfl, hno, hG⟩ := hrel
      obtain ⟨wo, rfl⟩ : ∃ wo : World, wo = wr := ⟨_, rfl⟩
      by_cases hlt : k < xs.length
      · rcases HA.out.row with h0 | ⟨b, off, rfl, hb, hR⟩
        · rw [h0] at hlt; simp at hlt
        obtain ⟨q0, q1, q2, q3, q4, q5, q6, q7, q8, q9, q10, q11, q12⟩ := ac_cells (W := wo) (b := b) (off := off + k * 13) (a := acAt xs k) (fun i v hv => (hG.cells.1 _ _ hb).trans (hR k hlt i v hv))
        have HOPS := hid (HA.out.ops k hlt)
        have HN := hid (take_any_ac xs k hlt)
        have HY := hid (any_of_ac xs k hlt)
        have HNO := hid hno
        obtain ⟨cl, ck, cd, co⟩ := HK.out k hlt
        have HCO := hid co
        clear hR hno co
        generalize acAt xs k = A at *
        obtain ⟨⟨kind, shard, other, server, client, seq, key, upto, part, parts, ops, opsA, opsC, dataA, dataL, dataC⟩, at'⟩ := A
        dsimp only at *
        by_cases l1 : (20 : Int) < (ops.length : Int)
        · have HL : Hid (Ac.long ⟨⟨kind, shard, other, server, client, seq, key, upto, part, parts, ops, opsA, opsC, dataA, dataL, dataC⟩, at'⟩ = true) := by
            unfold Hid Ac.long; rw [decide_eq_true (by dsimp only; omega)]; rfl
          go_wp2_with fail
          go_ret
          exact ⟨ret_bool (by rw [HE.out, HY.out HL.out]), (hG.alloc _).alloc _⟩
        by_cases l2 : (300 : Int) < (key.size : Int)
        · have HL : Hid (Ac.long ⟨⟨kind, shard, other, server, client, seq, key, upto, part, parts, ops, opsA, opsC, dataA, dataL, dataC⟩, at'⟩ = true) := by
            unfold Hid Ac.long; simp only [Bool.or_eq_true, decide_eq_true_eq]; omega
          go_wp2_with fail
          go_ret
          exact ⟨ret_bool (by rw [HE.out, HY.out HL.out]), (hG.alloc _).alloc _⟩
        by_cases l3 : (600 : Int) < (dataL : Int)
        · have HL : Hid (Ac.long ⟨⟨kind, shard, other, server, client, seq, key, upto, part, parts, ops, opsA, opsC, dataA, dataL, dataC⟩, at'⟩ = true) := by
            unfold Hid Ac.long; simp only [Bool.or_eq_true, decide_eq_true_eq]; omega
          go_wp2_with fail
          go_ret
          exact ⟨ret_bool (by rw [HE.out, HY.out HL.out]), (hG.alloc _).alloc _⟩
        have HL0 : Hid (Ac.long ⟨⟨kind, shard, other, server, client, seq, key, upto, part, parts, ops, opsA, opsC, dataA, dataL, dataC⟩, at'⟩ = ops.any OpR.long) := by
          unfold Hid Ac.long
          rw [decide_eq_false (by dsimp only; omega), decide_eq_false (by dsimp only; omega), decide_eq_false (by dsimp only; omega)]
          rfl
        go_wp2_with fail
        have HG2 := hid ((hG.alloc (Obj.cells #[.int .i64 kind, .int .i64 shard, .int .i64 other, .int .i64 server, .int .i64 client, .int .i64 seq, .slice opsA ops.length opsC, .string key, .int .i64 upto, .int .i64 part, .int .i64 parts, .slice dataA dataL dataC, .int .i64 at'] 28)).alloc (Obj.cells #[.int .i64 kind, .int .i64 shard, .int .i64 other, .int .i64 server, .int .i64 client, .int .i64 seq, .slice opsA ops.length opsC, .string key, .int .i64 upto, .int .i64 part, .int .i64 parts, .slice dataA dataL dataC] 26))
        clear q0 q1 q2 q3 q4 q5 q6 q7 q8 q9 q10 q11 q12
        have hG2 := HG2.out
        clear HG2
        generalize World.alloc (World.alloc wo _) _ = w2 at hG2 ⊢
        clear hG
        go_loopw [38] (fun i wr => ∃ m : Nat, m ≤ ops.length ∧ i = .int .i64 m ∧ (ops.take m).any OpR.long = false ∧ Grew w wr) (fun i _ => ops.length - (intOf i).toNat)
        case atStart => exact ⟨0, Nat.zero_le _, rfl, rfl, hG2⟩
        case round =>
          obtain ⟨m, hm1, rfl, hmo, hGm⟩ := hrel
          by_cases hml : m < ops.length
          · rcases HOPS.out with h0 | ⟨ob, ooff, rfl, hob, hOR⟩
            · rw [h0] at hml; simp at hml
            have p0 := (hGm.cells.1 ob (ooff + m * 5) hob).trans (hOR.kind m hml)
            have p1 := (hGm.cells.1 ob (ooff + m * 5 + 1) hob).trans (hOR.key m hml)
            have p2 := (hGm.cells.1 ob (ooff + m * 5 + 2) hob).trans (hOR.val m hml)
            have p3 := (hGm.cells.1 ob (ooff + m * 5 + 3) hob).trans (hOR.old m hml)
            have p4 := (hGm.cells.1 ob (ooff + m * 5 + 4) hob).trans (hOR.ver m hml)
            have HMN := hid (take_any_op ops m hml)
            have HMY := hid (any_of_op ops m hml)
            have HMO := hid hmo
            obtain ⟨b1, b2, b3⟩ := HCO.out m hml
            clear hOR hmo
            generalize opRAt ops m = O at *
            obtain ⟨okind, okey, oval, oold, over⟩ := O
            dsimp only at *
            by_cases o1 : (300 : Int) < (okey.size : Int)
            · have HL : Hid (OpR.long ⟨okind, okey, oval, oold, over⟩ = true) := by
                unfold Hid OpR.long; simp only [Bool.or_eq_true, decide_eq_true_eq]; omega
              go_wp2_with fail
              go_ret
              exact ⟨ret_bool (by rw [HE.out, HY.out (HL0.out.trans (HMY.out HL.out))]), hGm.alloc _⟩
            by_cases o2 : (300 : Int) < (oval.size : Int)
            · have HL : Hid (OpR.long ⟨okind, okey, oval, oold, over⟩ = true) := by
                unfold Hid OpR.long; simp only [Bool.or_eq_true, decide_eq_true_eq]; omega
              go_wp2_with fail
              go_ret
              exact ⟨ret_bool (by rw [HE.out, HY.out (HL0.out.trans (HMY.out HL.out))]), hGm.alloc _⟩
            by_cases o3 : (300 : Int) < (oold.size : Int)
            · have HL : Hid (OpR.long ⟨okind, okey, oval, oold, over⟩ = true) := by
                unfold Hid OpR.long; simp only [Bool.or_eq_true, decide_eq_true_eq]; omega
              go_wp2_with fail
              go_ret
              exact ⟨ret_bool (by rw [HE.out, HY.out (HL0.out.trans (HMY.out HL.out))]), hGm.alloc _⟩
            have HL : Hid (OpR.long ⟨okind, okey, oval, oold, over⟩ = false) := by
              unfold Hid OpR.long; simp only [Bool.or_eq_false_iff, decide_eq_false_iff_not]; omega
            go_wp2_with fail
            go_roundw
            case rel => exact ⟨m + 1, by omega, by go_num, by rw [HMN.out, HMO.out, HL.out]; rfl, hGm.alloc _⟩
            case measure => simp [intOf]; omega
          · obtain rfl : m = ops.length := by omega
            rw [List.take_length] at hmo
            have HMO := hid hmo
            clear hmo
            go_wp2_with fail
            go_roundw
            case rel => exact ⟨k + 1, by omega, by go_num, by rw [HN.out, HNO.out, HL0.out, HMO.out]; rfl, hGm⟩
            case measure => simp [intOf]; omega
      · obtain rfl : k = xs.length := by omega
        rw [List.take_length] at hno
        have HNO := hid hno
        clear hno
        go_wp2_with fail
        go_ret
        exact ⟨ret_bool (by rw [HE.out, HNO.out]), hG⟩
end Go.Proofs.YtbdagllflamabaaGreatDoor
namespace Go.Proofs.YtbdagllflamabaaGreatDoor
open Go.RowKit Go.Maps
theorem acVals_len (a : Ac) : a.vals.length = 13 := rfl
def acFlat (xs : List Ac) : List Value := xs.flatMap Ac.vals
theorem acFlat_cons (a : Ac) (xs : List Ac) : acFlat (a :: xs) = a.vals ++ acFlat xs := rfl
theorem acFlat_length (xs : List Ac) : (acFlat xs).length = xs.length * 13 := by
  induction xs with
  | nil => rfl
  | cons c xs ih => rw [acFlat_cons, List.length_append, ih, acVals_len, List.length_cons]; omega
theorem acFlat_get (k : Nat) (hk : k < 13) : ∀ (xs : List Ac) (j : Nat), j < xs.length → (acFlat xs)[j * 13 + k]? = (acAt xs j).vals[k]? := by
  intro xs
  induction xs with
  | nil => intro j hj; simp at hj
  | cons c xs ih =>
    intro j hj
    rw [acFlat_cons]
    cases j with
    | zero => rw [List.getElem?_append_left (by rw [acVals_len]; omega)]; simp [acAt]
    | succ j =>
      rw [List.getElem?_append_right (by rw [acVals_len]; omega), acVals_len]
      have e : (j + 1) * 13 + k - 13 = j * 13 + k := by omega
      rw [e, ih j (by simpa using hj)]
      simp [acAt]
theorem acVals_one (a : Ac) : ∀ u ∈ a.vals, u.oneCell' = true := by
  intro u hu
  simp only [Ac.vals, En.vals, List.cons_append, List.nil_append, List.mem_cons, List.not_mem_nil, or_false] at hu
  rcases hu with rfl | rfl | rfl | rfl | rfl | rfl | rfl | rfl | rfl | rfl | rfl | rfl | rfl <;> rfl
theorem acFlat_one (xs : List Ac) : ∀ u ∈ acFlat xs, u.oneCell' = true := by
  intro u hu
  obtain ⟨a, _, ha⟩ := List.mem_flatMap.1 hu
  exact acVals_one a u ha
theorem acFlat_cell {W : World} {b off : Nat} {xs : List Ac} (h : ∀ j, j < xs.length → ∀ k v, (acAt xs j).vals[k]? = some v → W.cell? ⟨b, off + j * 13 + k, none⟩ = some v) : ∀ t u, (acFlat xs)[t]? = some u → W.cell? ⟨b, off + t, none⟩ = some u := by
  intro t u ht
  have htl := (List.getElem?_eq_some_iff.1 ht).1
  rw [acFlat_length] at htl
  have h1 : t / 13 < xs.length := by omega
  have h2 := acFlat_get (t % 13) (Nat.mod_lt _ (by omega)) xs (t / 13) h1
  have e : t / 13 * 13 + t % 13 = t := by omega
  rw [e, ht] at h2
  have := h (t / 13) h1 (t % 13) u h2.symm
  rwa [Nat.add_assoc, e] at this
theorem acsAt_of {W : World} {B g cap : Nat} {xs : List Ac} (h : W.ownsRow B 28 13 (.slice (some ⟨g, 0, none⟩) xs.length cap) xs.length (acFlat xs)) (h0 : 0 < xs.length) (hops : ∀ j, j < xs.length → OpRsAt W (acAt xs j).e.opsA (acAt xs j).e.ops) : AcsAt W (some ⟨g, 0, none⟩) xs := by
  refine ⟨.inr ⟨g, 0, rfl, ?_, fun j hj k v hv => ?_⟩, hops⟩
  · obtain ⟨g', c', e', _, hlt⟩ := h.form h0
    cases e'; exact hlt
  · have hk : k < 13 := (List.getElem?_eq_some_iff.1 hv).1
    have := h.cellAt (j * 13 + k) (by omega)
    rw [acFlat_get k hk xs j hj, hv] at this
    rw [Nat.zero_add]
    exact this
theorem infoAct : (Tryz.prog.info? 28).map (fun i => (i.zero, i.size, i.bytes)) = some (some (.agg #[.int .i64 0, .int .i64 0, .int .i64 0, .int .i64 0, .int .i64 0, .int .i64 0, .slice none 0 0, .string ⟨#[]⟩, .int .i64 0, .int .i64 0, .int .i64 0, .slice none 0 0, .int .i64 0]), 13, 144) := by kernel_rfl
theorem actz_size : (Value.cells (.agg #[.int .i64 0, .int .i64 0, .int .i64 0, .int .i64 0, .int .i64 0, .int .i64 0, .slice none 0 0, .string ⟨#[]⟩, .int .i64 0, .int .i64 0, .int .i64 0, .slice none 0 0, .int .i64 0])).size = 13 := by kernel_rfl
section
variable {P : Program}
theorem wpList_append_run (w : World) {ops : Array Oper} {rest : List Oper} {o : Oper} {a : Act} {Q : Exit → Act → World → Prop} (hgd : o.guard = none) (s x : Operand) (t t' : TypeId)
    (ho : o.op = .call { callee := .builtin .append, args := #[s, x], argTypes := #[t, t'] }) (v : Value) (w' : World) (hr : (Builtin.append_ #[t, t'] o.type #[a.eval s, a.eval x]).run P w = .ok v w')
    (h : wpList P ops Q rest (a.put o.dst v) w') : wpList P ops Q (o :: rest) a w := by
  unfold wpList
  rw [if_pos (by unfold Region.wanted; rw [hgd])]
  refine .inl ?_
  unfold Oper.wp execOp
  simp only [ho, resolve, invoke, builtin, Sem.run_bind, Sem.run_pure, Result.andThen_ok, List.map_toArray, List.map_cons, List.map_nil, hr]
  exact h
end
theorem app_zero (B cap : Nat) (a : Option Addr) (w : World) : (Builtin.append_ #[22, 22] 22 #[.slice (some ⟨B, 0, none⟩) 1 1, .slice a 0 cap]).run Tryz.prog w = .ok (.slice (some ⟨B, 0, none⟩) 1 1) w := by
  cases a <;> kernel_rfl
theorem app_acts (w1 : World) (a : Option Addr) (cap : Nat) (xs : List Ac) (hA : AcsAt w1 a xs) (hbig : xs.length * 144 ≤ 140737488351232) (A : Ac) (hops : OpRsAt w1 A.e.opsA A.e.ops) :
    ∃ g c W', (Builtin.append_ #[22, 22] 22 #[.slice (some ⟨w1.heap.size, 0, none⟩) 1 1, .slice a xs.length cap]).run Tryz.prog (w1.alloc (.cells A.vals.toArray 28)) = .ok (.slice (some ⟨g, 0, none⟩) (1 + xs.length) c) W' ∧
      AcsAt W' (some ⟨g, 0, none⟩) (A :: xs) ∧ Grew w1 W' := by
  obtain ⟨i0, hi0, hz0, hz1, hz2⟩ := info_parts infoAct
  have hG : Grew w1 (w1.alloc (.cells A.vals.toArray 28)) := (Grew.refl w1).alloc _
  have hown : (w1.alloc (.cells A.vals.toArray 28)).ownsRow w1.heap.size 28 13 (.slice (some ⟨w1.heap.size, 0, none⟩) 1 1) 1 A.vals :=
    ownsRow_of_block (cur := A.vals) (Nat.le_refl _) (heap_alloc_new w1 _) (Nat.le_refl _) (by decide) rfl rfl
  have hopsW : ∀ W', Grew w1 W' → ∀ j, j < (A :: xs).length → OpRsAt W' (acAt (A :: xs) j).e.opsA (acAt (A :: xs) j).e.ops := by
    intro W' g j hj
    cases j with
    | zero => exact hops.grew g
    | succ j => exact (hA.ops j (by simpa using hj)).grew g
  by_cases hx : xs = []
  · subst hx
    refine ⟨w1.heap.size, 1, _, app_zero _ cap a _, ?_, hG⟩
    exact acsAt_of (B := w1.heap.size) (cap := 1) (xs := [A]) (by rw [acFlat_cons]; show World.ownsRow _ _ _ _ _ _ (A.vals ++ []); rw [List.append_nil]; exact hown) (by simp) (hopsW _ hG)
  · have h0 : 0 < xs.length := Nat.pos_of_ne_zero (fun h => hx (List.eq_nil_of_length_eq_zero h))
    rcases hA.row with h | ⟨b, off, rfl, hb, hr⟩
    · exact absurd h hx
    obtain ⟨g, c, W', hrun, h1, h2, h3, h4⟩ := run_append_lies (P := Tryz.prog) (w := w1.alloc (.cells A.vals.toArray 28)) 22 22 w1.heap.size 28 i0 _ 13 144 Tryz.underlying22 hi0 hz0 hz1 hz2 actz_size (by omega) _ 1 A.vals hown
      ⟨b, off, none⟩ xs.length cap (acFlat xs) (acFlat_length xs) (fun j u hj => by rw [Addr.add_lit]; exact (hG.cells.1 _ _ hb).trans (acFlat_cell hr j u hj)) (acFlat_one xs) h0 (by unfold maxLen; omega) (by omega) (by simp) _ rfl
    have hG2 : Grew w1 W' := ((hG.only (fun j => some j = Value.ownBlock (.slice (some ⟨w1.heap.size, 0, none⟩) 1 1))).then (Only.of_grownBy h2)).grew fun j hj => by
      have : j = w1.heap.size := Option.some.inj hj
      omega
    refine ⟨g, c, W', hrun, ?_, hG2⟩
    refine acsAt_of (B := w1.heap.size) (cap := c) (xs := A :: xs) ?_ (by simp) (hopsW _ hG2)
    rw [acFlat_cons, List.length_cons, Nat.add_comm xs.length 1]
    exact h1
end Go.Proofs.YtbdagllflamabaaGreatDoor
