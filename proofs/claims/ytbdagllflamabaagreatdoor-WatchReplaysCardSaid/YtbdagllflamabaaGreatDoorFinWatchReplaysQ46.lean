/- WtE, WtF: one text. -/
import Derived.Test.YtbdagllflamabaaGreatDoorFinWatchReplaysQ45
import Derived.Test.YtbdagllflamabaaGreatDoorFinWatchReplaysQ34
import Derived.Test.YtbdagllflamabaaGreatDoorFinWatchReplaysQ3
import Derived.Test.YtbdagllflamabaaGreatDoorFinWatchReplaysQ9
import Derived.Test.YtbdagllflamabaaGreatDoorFinWatchReplaysQ17
import Derived.Deep.Upon
set_option linter.unusedVariables false
set_option linter.unusedSectionVars false
set_option linter.unusedSimpArgs false
namespace Go.Proofs.YtbdagllflamabaaGreatDoor
open Go.RowKit Go.Maps
attribute [local go_sem] Oper.semAt_some
def Cg.same (c : Cg) : Bool := (c.wk.toList == c.nk.toList) && (c.wv.toList == c.nv.toList) && (c.wn == c.nn) && (c.had == c.has)
set_option maxRecDepth 100000 in
set_option maxHeartbeats 4000000 in
theorem step1_any (c : Cg) (w : World) : Calls Tryz.prog 57 #[c.agg] w fun e w' => e = .returned (.bool c.same) ∧ Grew w w' := by
  unfold Cg.same
  obtain ⟨c0, c1, c2, c3, c4, c5, c6, c7, c8, c9⟩ := c
  unfold Cg.agg
  dsimp only
  go_enter Tryz.func57, Tryz.ntmps57
  go_wp2_with fail
  all_goals (go_ret; exact ⟨ret_bool (by simp_all), (Grew.refl w).alloc _⟩)
theorem cg_cells {w : World} {B b cap : Nat} {xs : List Cg} (h : w.ownsRow B 64 10 (.slice (some ⟨b, 0, none⟩) xs.length cap) xs.length (cgFlat xs)) (j : Nat) (hj : j < xs.length) :
    w.cell? ⟨b, j * 10, none⟩ = some (.int .i64 (cgAt xs j).at_) ∧ w.cell? ⟨b, j * 10 + 1, none⟩ = some (.string (cgAt xs j).key) ∧ w.cell? ⟨b, j * 10 + 2, none⟩ = some (.string (cgAt xs j).wk) ∧ w.cell? ⟨b, j * 10 + 3, none⟩ = some (.string (cgAt xs j).wv) ∧ w.cell? ⟨b, j * 10 + 4, none⟩ = some (.int .i64 (cgAt xs j).wn) ∧ w.cell? ⟨b, j * 10 + 5, none⟩ = some (.string (cgAt xs j).nk) ∧ w.cell? ⟨b, j * 10 + 6, none⟩ = some (.string (cgAt xs j).nv) ∧ w.cell? ⟨b, j * 10 + 7, none⟩ = some (.int .i64 (cgAt xs j).nn) ∧ w.cell? ⟨b, j * 10 + 8, none⟩ = some (.bool (cgAt xs j).had) ∧ w.cell? ⟨b, j * 10 + 9, none⟩ = some (.bool (cgAt xs j).has) := by
  have key : ∀ i, i < 10 → w.cell? ⟨b, j * 10 + i, none⟩ = (cgAt xs j).vals[i]? := fun i hi => by
    rw [h.cellAt (j * 10 + i) (by omega), cgFlat_get i hi xs j hj]
  exact ⟨key 0 (by omega), key 1 (by omega), key 2 (by omega), key 3 (by omega), key 4 (by omega), key 5 (by omega), key 6 (by omega), key 7 (by omega), key 8 (by omega), key 9 (by omega)⟩
set_option maxRecDepth 100000 in
set_option maxHeartbeats 4000000 in
theorem idxCg (B b cap : Nat) (xs : List Cg) (w : World) (hA : w.ownsRow B 64 10 (.slice (some ⟨b, 0, none⟩) xs.length cap) xs.length (cgFlat xs)) (hx : xs.length ≤ 1000000) :
    Calls Tryz.prog 103 #[.slice (some ⟨b, 0, none⟩) xs.length cap, .func (.func 57) #[] #[]] w fun e w' => e = .returned (.int .i64 (idxI Cg.same xs)) ∧ Grew w w' := by
  have HP := hid step1_any
  have HA := hid hA
  clear hA
  go_enter Tryz.func103, Tryz.ntmps103
  go_wp2_with fail
  go_loopw [8] (fun i wr => ∃ k : Nat, k ≤ xs.length ∧ i = .int .i64 k ∧ Hid ((xs.take k).all (fun c => !Cg.same c) = true) ∧ Grew w wr) (fun i _ => xs.length - (intOf i).toNat)
  case atStart => exact ⟨0, Nat.zero_le _, rfl, rfl, Grew.refl w⟩
  case round =>
    obtain ⟨k, hk1, rfl, HN, hG⟩ := hrel
    by_cases hlt : k < xs.length
    · obtain ⟨q0, q1, q2, q3, q4, q5, q6, q7, q8, q9⟩ := cg_cells (ownsRow_grew hG HA.out) k hlt
      have HC := hid (HP.out (cgAt xs k))
      have hat : cgAt xs k = xs[k] := cgAt_eq xs k hlt
      have HS := hid (idx_some Cg.same xs k hlt HN.out)
      have HN2 := hid (idx_next Cg.same xs k hlt HN.out)
      rw [← hat] at HS HN2
      clear hat
      generalize cgAt xs k = c at *
      unfold Cg.agg at HC
      generalize hsm : Cg.same c = sm at *
      obtain ⟨c0, c1, c2, c3, c4, c5, c6, c7, c8, c9⟩ := c
      dsimp only at *
      cases sm with
      | true =>
        have HS2 := hid (HS.out (by trivial))
        clear hsm HS HN2
        go_wp2_with fail
        refine (HC.out _).mono ?_
        rintro e w1 ⟨rfl, hg1⟩
        go_wp2_with fail
        go_ret
        exact ⟨ret_int HS2.out.symm, hG.trans hg1⟩
      | false =>
        have HS2 := hid (HN2.out (by trivial))
        clear hsm HS HN2
        go_wp2_with fail
        refine (HC.out _).mono ?_
        rintro e w1 ⟨rfl, hg1⟩
        go_wp2_with fail
        go_roundw
        case rel => exact ⟨k + 1, by omega, by go_num, HS2, hG.trans hg1⟩
        case measure => simp [intOf]; omega
    · obtain rfl : k = xs.length := by omega
      have HE := hid (idx_none Cg.same xs (by have := HN.out; rwa [List.take_length] at this))
      go_wp2_with fail
      go_ret
      exact ⟨ret_int HE.out.symm, hG⟩
theorem cgFlat_setK (L : List Cg) (i : Nat) (hi : i < L.length) (c : Cg) : cgFlat (L.set i c) = (((((((((((cgFlat L).set (i * 10) (.int .i64 c.at_)).set (i * 10 + 1) (.string c.key)).set (i * 10 + 2) (.string c.wk)).set (i * 10 + 3) (.string c.wv)).set (i * 10 + 4) (.int .i64 c.wn)).set (i * 10 + 5) (.string c.nk)).set (i * 10 + 6) (.string c.nv)).set (i * 10 + 7) (.int .i64 c.nn)).set (i * 10 + 8) (.bool c.had)).set (i * 10 + 9) (.bool c.has)) := by
  apply List.ext_getElem?
  intro j
  by_cases hj : j < L.length * 10
  · obtain ⟨q, r, hr, rfl⟩ : ∃ q r, r < 10 ∧ j = q * 10 + r := ⟨j / 10, j % 10, Nat.mod_lt _ (by omega), by omega⟩
    have hq : q < L.length := by omega
    rw [cgFlat_get r hr (L.set i c) q (by rw [List.length_set]; exact hq)]
    have hl : (cgFlat L).length = L.length * 10 := cgFlat_length L
    rw [List.getElem?_set, List.getElem?_set, List.getElem?_set, List.getElem?_set, List.getElem?_set, List.getElem?_set, List.getElem?_set, List.getElem?_set, List.getElem?_set, List.getElem?_set]
    simp only [List.length_set, hl]
    by_cases hqi : q = i
    · subst hqi
      have : cgAt (L.set q c) q = c := by unfold cgAt; rw [List.getElem?_set_self hi]; rfl
      rw [this]
      match r, hr with
      | 0, _ => rw [if_neg (by omega), if_neg (by omega), if_neg (by omega), if_neg (by omega), if_neg (by omega), if_neg (by omega), if_neg (by omega), if_neg (by omega), if_neg (by omega), if_pos (by omega), if_pos (by omega)]; rfl
      | 1, _ => rw [if_neg (by omega), if_neg (by omega), if_neg (by omega), if_neg (by omega), if_neg (by omega), if_neg (by omega), if_neg (by omega), if_neg (by omega), if_pos (by omega), if_pos (by omega)]; rfl
      | 2, _ => rw [if_neg (by omega), if_neg (by omega), if_neg (by omega), if_neg (by omega), if_neg (by omega), if_neg (by omega), if_neg (by omega), if_pos (by omega), if_pos (by omega)]; rfl
      | 3, _ => rw [if_neg (by omega), if_neg (by omega), if_neg (by omega), if_neg (by omega), if_neg (by omega), if_neg (by omega), if_pos (by omega), if_pos (by omega)]; rfl
      | 4, _ => rw [if_neg (by omega), if_neg (by omega), if_neg (by omega), if_neg (by omega), if_neg (by omega), if_pos (by omega), if_pos (by omega)]; rfl
      | 5, _ => rw [if_neg (by omega), if_neg (by omega), if_neg (by omega), if_neg (by omega), if_pos (by omega), if_pos (by omega)]; rfl
      | 6, _ => rw [if_neg (by omega), if_neg (by omega), if_neg (by omega), if_pos (by omega), if_pos (by omega)]; rfl
      | 7, _ => rw [if_neg (by omega), if_neg (by omega), if_pos (by omega), if_pos (by omega)]; rfl
      | 8, _ => rw [if_neg (by omega), if_pos (by omega), if_pos (by omega)]; rfl
      | 9, _ => rw [if_pos (by omega), if_pos (by omega)]; rfl
    · have : cgAt (L.set i c) q = cgAt L q := by unfold cgAt; rw [List.getElem?_set_ne (fun e => hqi e.symm)]
      rw [this, if_neg (by omega), if_neg (by omega), if_neg (by omega), if_neg (by omega), if_neg (by omega), if_neg (by omega), if_neg (by omega), if_neg (by omega), if_neg (by omega), if_neg (by omega), cgFlat_get r hr L q hq]
  · have h1 : (cgFlat (L.set i c)).length = L.length * 10 := by rw [cgFlat_length, List.length_set]
    rw [List.getElem?_eq_none (by omega), List.getElem?_eq_none]
    simp only [List.length_set]
    rw [cgFlat_length]; omega
theorem zeroCgT (w : World) : (zeroValue 64).run Tryz.prog w = .ok (.agg #[.int .i64 0, .string ⟨#[]⟩, .string ⟨#[]⟩, .string ⟨#[]⟩, .int .i64 0, .string ⟨#[]⟩, .string ⟨#[]⟩, .int .i64 0, .bool false, .bool false]) w := by kernel_rfl
theorem zcCgT : (Value.cells (.agg #[.int .i64 0, .string ⟨#[]⟩, .string ⟨#[]⟩, .string ⟨#[]⟩, .int .i64 0, .string ⟨#[]⟩, .string ⟨#[]⟩, .int .i64 0, .bool false, .bool false])).size = 10 := by kernel_rfl
theorem zoCgT : ∀ v ∈ (Value.cells (.agg #[.int .i64 0, .string ⟨#[]⟩, .string ⟨#[]⟩, .string ⟨#[]⟩, .int .i64 0, .string ⟨#[]⟩, .string ⟨#[]⟩, .int .i64 0, .bool false, .bool false])).toList, v.oneCell' = true := by
  have h : (Value.cells (.agg #[.int .i64 0, .string ⟨#[]⟩, .string ⟨#[]⟩, .string ⟨#[]⟩, .int .i64 0, .string ⟨#[]⟩, .string ⟨#[]⟩, .int .i64 0, .bool false, .bool false])).toList.all (fun v => v.oneCell') = true := by kernel_rfl
  exact fun v hv => List.all_eq_true.1 h v hv
def newC (xs : List Cg) : List Cg := xs.filter fun c => !c.same
set_option maxRecDepth 100000 in
set_option maxHeartbeats 8000000 in
theorem delFCg (B b cap : Nat) (xs : List Cg) (w : World) (hA : w.ownsRow B 64 10 (.slice (some ⟨b, 0, none⟩) xs.length cap) xs.length (cgFlat xs)) (hx : xs.length ≤ 1000000) :
    Calls Tryz.prog 56 #[.slice (some ⟨b, 0, none⟩) xs.length cap, .func (.func 57) #[] #[]] w fun e w' => e = .returned (.slice (some ⟨b, 0, none⟩) (newC xs).length cap) ∧ w'.ownsRow B 64 10 (.slice (some ⟨b, 0, none⟩) (newC xs).length cap) (newC xs).length (cgFlat (newC xs)) ∧ Only (fun j => j = b) w w' := by
  have hbb : b < w.heap.size := by
    rcases hA.2 with ⟨h, _⟩ | ⟨g, c, cur, h, _, hq, _⟩
    · cases h
    · cases h; exact (Array.getElem?_eq_some_iff.1 hq).1
  have HI := hid (idxCg B b cap xs w hA hx)
  have HP := hid step1_any
  have HA := hid hA
  have hlen : xs.length ≤ cap := by
    rcases hA.2 with ⟨h, _⟩ | ⟨g, c, cur, h, _, _, hq, _⟩
    · cases h
    · cases h; exact hq
  clear hA
  rcases idx_is Cg.same xs with ⟨e1, n1⟩ | ⟨i0, hi0, e1, p1, p2⟩
  · have hall : newC xs = xs := by
      unfold newC
      rw [List.filter_eq_self]
      intro c hc
      have := List.any_eq_false.1 n1 c hc
      simpa using this
    rw [e1] at HI
    rw [hall]
    clear e1 n1 hall
    go_enter Tryz.func56, Tryz.ntmps56
    go_wp2_with fail
    refine HI.out.mono ?_
    rintro e w1 ⟨rfl, hg⟩
    have HG := hid hg
    clear hg
    go_wp2_with fail
    go_ret
    exact ⟨rfl, ownsRow_grew HG.out HA.out, HG.out.only _⟩
  · rw [e1] at HI
    have HS0 : Hid (xs.take i0 = newC (xs.take (i0 + 1))) := by
      unfold Hid newC
      rw [List.take_succ_eq_append_getElem hi0, List.filter_append]
      have h1 : (xs.take i0).filter (fun c => !c.same) = xs.take i0 := by
        rw [List.filter_eq_self]
        exact fun c hc => List.all_eq_true.1 p2 c hc
      have h2 : [xs[i0]].filter (fun c => !c.same) = [] := by simp [p1]
      rw [h1, h2, List.append_nil]
    have d1 : ((i0 : Int) == -1) = false := by rw [beq_eq_false_iff_ne]; omega
    have d2 : ¬ ((i0 : Int) = -1) := by omega
    clear e1 p1 p2
    go_enter Tryz.func56, Tryz.ntmps56
    go_wp2_with fail
    refine HI.out.mono ?_
    rintro e w1 ⟨rfl, hg⟩
    have HG := hid hg
    clear hg HI
    go_wp2_with fail
    go_loopw [5, 6] (fun i j wr => ∃ (i' j' : Nat) (L : List Cg), i' < j' ∧ j' ≤ xs.length ∧ i = .int .i64 i' ∧ j = .int .i64 j' ∧ Hid (L.length = xs.length) ∧ Hid (L.take i' = newC (xs.take j') ∧ L.drop j' = xs.drop j') ∧ Hid (wr.ownsRow B 64 10 (.slice (some ⟨b, 0, none⟩) xs.length cap) xs.length (cgFlat L)) ∧ Hid (Only (fun j => j = b) w wr)) (fun _ j _ => xs.length - (intOf j).toNat)
    case atStart => exact ⟨i0, i0 + 1, xs, by omega, by omega, rfl, by go_num, rfl, ⟨HS0.out, rfl⟩, ownsRow_grew HG.out HA.out, HG.out.only _⟩
    case round =>
      obtain ⟨i, j, L, hij, hj1, rfl, rfl, HL, HT, HR, HO⟩ := hrel
      obtain ⟨w2, rfl⟩ : ∃ w2 : World, w2 = wr := ⟨_, rfl⟩
      have HR' := HR.out
      have HL' := HL.out
      by_cases hlt : j < xs.length
      · have hcat : cgAt L j = xs[j] := by
          have h1 : (L.drop j)[0]? = (xs.drop j)[0]? := by rw [HT.out.2]
          rw [List.getElem?_drop, List.getElem?_drop, Nat.add_zero, List.getElem?_eq_getElem hlt] at h1
          unfold cgAt; rw [h1]; rfl
        rw [← HL'] at HR'
        obtain ⟨q0, q1, q2, q3, q4, q5, q6, q7, q8, q9⟩ := cg_cells HR' j (by omega)
        have hN1 : Cg.same (cgAt L j) = true → L.take i = newC (xs.take (j + 1)) := fun h => by
          rw [HT.out.1]
          unfold newC
          rw [List.take_succ_eq_append_getElem hlt, List.filter_append, ← hcat]
          have : [cgAt L j].filter (fun c => !c.same) = [] := by simp [h]
          rw [this, List.append_nil]
        have hN2 : Cg.same (cgAt L j) = false → (L.set i (cgAt L j)).take (i + 1) = newC (xs.take (j + 1)) := fun h => by
          unfold newC
          rw [List.take_succ_eq_append_getElem hlt, List.filter_append, ← hcat]
          have : [cgAt L j].filter (fun c => !c.same) = [cgAt L j] := by simp [h]
          rw [this, List.take_succ_eq_append_getElem (by rw [List.length_set]; omega), List.getElem_set_self, List.take_set_of_le (Nat.le_refl _), HT.out.1]
          rfl
        have hD1 : L.drop (j + 1) = xs.drop (j + 1) := by
          have := congrArg (List.drop 1) HT.out.2
          rwa [List.drop_drop, List.drop_drop] at this
        have hD2 : (L.set i (cgAt L j)).drop (j + 1) = xs.drop (j + 1) := by rw [List.drop_set_of_lt (by omega), hD1]
        have hF4 := cgFlat_setK L i (by omega) (cgAt L j)
        have HN1 := hid hN1
        have HN2 := hid hN2
        have HD1 := hid hD1
        have HD2 := hid hD2
        have HF4 := hid hF4
        have HC := hid (HP.out (cgAt L j))
        clear hN1 hN2 hD1 hD2 hF4 hcat HT HR'
        generalize cgAt L j = c at *
        unfold Cg.agg at HC
        generalize hsm : Cg.same c = sm at *
        obtain ⟨c0, c1, c2, c3, c4, c5, c6, c7, c8, c9⟩ := c
        dsimp only at *
        have hbl2 : b < w2.heap.size := Nat.lt_of_lt_of_le hbb HO.out.size
        have hiL : (i : Int) < (xs.length : Int) := by omega
        cases sm with
        | true =>
          have HX := hid (HN1.out (by trivial))
          clear hsm HN1 HN2 HD2 HF4
          go_wp2_with fail
          refine (HC.out _).mono ?_
          rintro e w3 ⟨rfl, hg3⟩
          have HG3 := hid (((Grew.refl w2).alloc _).trans hg3)
          clear hg3 q0 q1 q2 q3 q4 q5 q6 q7 q8 q9 HC
          go_wp2_with fail
          go_roundw
          case rel => exact ⟨i, j + 1, L, by omega, by omega, rfl, by go_num, HL, ⟨HX.out, HD1.out⟩, ownsRow_grew HG3.out HR.out, HO.out.then (HG3.out.only _)⟩
          case measure => simp [intOf]; omega
        | false =>
          have HX := hid (HN2.out (by trivial))
          clear hsm HN1 HN2 HD1
          go_wp2_with fail
          refine (HC.out _).mono ?_
          rintro e w3 ⟨rfl, hg3⟩
          have HG3 := hid (((Grew.refl w2).alloc _).trans hg3)
          have hz3 : w2.heap.size < (w2.alloc (Obj.cells #[.int .i64 c0, .string c1, .string c2, .string c3, .int .i64 c4, .string c5, .string c6, .int .i64 c7, .bool c8, .bool c9] 64)).heap.size := by simp
          have s0 : w3.cell? ⟨w2.heap.size, 0, none⟩ = some (.int .i64 c0) := (hg3.cells.1 _ _ hz3).trans (by simp [go_sem])
          have s1 : w3.cell? ⟨w2.heap.size, 1, none⟩ = some (.string c1) := (hg3.cells.1 _ _ hz3).trans (by simp [go_sem])
          have s2 : w3.cell? ⟨w2.heap.size, 2, none⟩ = some (.string c2) := (hg3.cells.1 _ _ hz3).trans (by simp [go_sem])
          have s3 : w3.cell? ⟨w2.heap.size, 3, none⟩ = some (.string c3) := (hg3.cells.1 _ _ hz3).trans (by simp [go_sem])
          have s4 : w3.cell? ⟨w2.heap.size, 4, none⟩ = some (.int .i64 c4) := (hg3.cells.1 _ _ hz3).trans (by simp [go_sem])
          have s5 : w3.cell? ⟨w2.heap.size, 5, none⟩ = some (.string c5) := (hg3.cells.1 _ _ hz3).trans (by simp [go_sem])
          have s6 : w3.cell? ⟨w2.heap.size, 6, none⟩ = some (.string c6) := (hg3.cells.1 _ _ hz3).trans (by simp [go_sem])
          have s7 : w3.cell? ⟨w2.heap.size, 7, none⟩ = some (.int .i64 c7) := (hg3.cells.1 _ _ hz3).trans (by simp [go_sem])
          have s8 : w3.cell? ⟨w2.heap.size, 8, none⟩ = some (.bool c8) := (hg3.cells.1 _ _ hz3).trans (by simp [go_sem])
          have s9 : w3.cell? ⟨w2.heap.size, 9, none⟩ = some (.bool c9) := (hg3.cells.1 _ _ hz3).trans (by simp [go_sem])
          have hR3 := ownsRow_grew HG3.out HR.out
          have HR3 := hid hR3
          have hii : L.length = xs.length := HL.out
          rw [← hii] at hR3
          obtain ⟨r0, r1, r2, r3, r4, r5, r6, r7, r8, r9⟩ := cg_cells hR3 i (by omega)
          have f0 : w3.frozen? ⟨b, i * 10, none⟩ = false := hR3.frozenAt _
          have f1 : w3.frozen? ⟨b, i * 10 + 1, none⟩ = false := hR3.frozenAt _
          have f2 : w3.frozen? ⟨b, i * 10 + 2, none⟩ = false := hR3.frozenAt _
          have f3 : w3.frozen? ⟨b, i * 10 + 3, none⟩ = false := hR3.frozenAt _
          have f4 : w3.frozen? ⟨b, i * 10 + 4, none⟩ = false := hR3.frozenAt _
          have f5 : w3.frozen? ⟨b, i * 10 + 5, none⟩ = false := hR3.frozenAt _
          have f6 : w3.frozen? ⟨b, i * 10 + 6, none⟩ = false := hR3.frozenAt _
          have f7 : w3.frozen? ⟨b, i * 10 + 7, none⟩ = false := hR3.frozenAt _
          have f8 : w3.frozen? ⟨b, i * 10 + 8, none⟩ = false := hR3.frozenAt _
          have f9 : w3.frozen? ⟨b, i * 10 + 9, none⟩ = false := hR3.frozenAt _
          clear hg3 q0 q1 q2 q3 q4 q5 q6 q7 q8 q9 HC hR3 hii hz3
          go_wp2_with fail
          go_roundw
          case rel =>
            obtain ⟨r1, g1⟩ := HR3.out.stored (i * 10) (.int .i64 c0)
            obtain ⟨r2, g2⟩ := r1.stored (i * 10 + 1) (.string c1)
            obtain ⟨r3, g3⟩ := r2.stored (i * 10 + 2) (.string c2)
            obtain ⟨r4, g4⟩ := r3.stored (i * 10 + 3) (.string c3)
            obtain ⟨r5, g5⟩ := r4.stored (i * 10 + 4) (.int .i64 c4)
            obtain ⟨r6, g6⟩ := r5.stored (i * 10 + 5) (.string c5)
            obtain ⟨r7, g7⟩ := r6.stored (i * 10 + 6) (.string c6)
            obtain ⟨r8, g8⟩ := r7.stored (i * 10 + 7) (.int .i64 c7)
            obtain ⟨r9, g9⟩ := r8.stored (i * 10 + 8) (.bool c8)
            obtain ⟨r10, g10⟩ := r9.stored (i * 10 + 9) (.bool c9)
            refine ⟨i + 1, j + 1, L.set i ⟨c0, c1, c2, c3, c4, c5, c6, c7, c8, c9⟩, by omega, by omega, by go_num, by go_num, hid (by rw [List.length_set]; exact HL.out), ⟨HX.out, HD2.out⟩, hid ?_, hid ?_⟩
            · rw [HF4.out]; exact r10
            · exact (HO.out.then (HG3.out.only _)).then ((Only.of_grownBy (g1.trans (g2.trans (g3.trans (g4.trans (g5.trans (g6.trans (g7.trans (g8.trans (g9.trans (g10))))))))))).mono fun j hj => .inl (Option.some.inj hj))
          case measure => simp [intOf]; omega
      · obtain rfl : j = xs.length := by omega
        have hti := HT.out.1
        rw [List.take_length] at hti
        have hni : (newC xs).length = i := by rw [← hti, List.length_take, HL']; omega
        obtain ⟨b', c', cur, e', hBb, hb', hnc, hcm, hcl, hxx⟩ := ownsRow_block HR' (by omega)
        cases e'
        have hclr : ∀ ty sc, (Builtin.clear_ #[60] ty #[.slice (some ⟨b, i * 10, none⟩) (xs.length - i) sc]).run Tryz.prog w2 = .ok (.tuple #[]) (w2.setRow b (spl cur (i * 10) (Builtin.zeroCells (Value.cells (.agg #[.int .i64 0, .string ⟨#[]⟩, .string ⟨#[]⟩, .string ⟨#[]⟩, .int .i64 0, .string ⟨#[]⟩, .string ⟨#[]⟩, .int .i64 0, .bool false, .bool false])) (xs.length - i)).toList).toArray) := fun ty sc =>
          run_clear_rows w2 60 64 ty _ 10 (xs.length - i) Tryz.underlying60 zeroCgT (by omega) zcCgT zoCgT b (i * 10) sc _ 64 hb' (by rw [hcl]; omega) (by omega)
        obtain ⟨Z, hZ⟩ : ∃ Z, Z = (Builtin.zeroCells (Value.cells (.agg #[.int .i64 0, .string ⟨#[]⟩, .string ⟨#[]⟩, .string ⟨#[]⟩, .int .i64 0, .string ⟨#[]⟩, .string ⟨#[]⟩, .int .i64 0, .bool false, .bool false])) (xs.length - i)).toList := ⟨_, rfl⟩
        have hZl : Z.length = (xs.length - i) * 10 := by rw [hZ, Array.length_toList, size_zeroCells, zcCgT]
        rw [← hZ] at hclr
        obtain ⟨W2, hW2⟩ : ∃ W2, W2 = w2.setRow b (spl cur (i * 10) Z).toArray := ⟨_, rfl⟩
        rw [← hW2] at hclr
        have HEND : Hid (W2.ownsRow B 64 10 (.slice (some ⟨b, 0, none⟩) i cap) i (cgFlat (newC xs)) ∧ Only (fun j => j = b) w W2) := by
          refine ⟨ownsRow_of_block (cur := spl cur (i * 10) Z) hBb (by rw [hW2]; exact setRow_heap _ _ _ _ _ _ hb') (by omega) hcm (by rw [spl_length _ _ _ (by rw [hZl, hcl]; omega), hcl]) ?_, ?_⟩
          · rw [spl_take_le _ _ _ _ (Nat.le_refl _) (by rw [hcl]; omega), ← hti, cgFlat_take, ← hxx, List.take_take, Nat.min_eq_left (by omega)]
          · rw [hW2]; exact HO.out.then (only_setRow w2 b _)
        have z1 : (i : Int) ≤ (xs.length : Int) := by omega
        have z2 : i ≤ xs.length := by omega
        have z3 : i ≤ cap := by omega
        have z4 : (i : Int) ≤ (cap : Int) := by omega
        have z5 : ¬ cap = i := by omega
        have HNI := hid hni
        clear hti hni hb' hcl hxx hZ hZl hW2 HR' HL' HT hnc hcm hBb
        go_wp2_with fail
        go_ret
        exact ⟨by rw [HNI.out]; rfl, by rw [HNI.out]; exact HEND.out.1, HEND.out.2⟩
theorem cgFlat_now (L : List Cg) (i : Nat) (hi : i < L.length) (p : Pr) (b : Bool) : cgFlat (L.set i ⟨(cgAt L i).at_, (cgAt L i).key, (cgAt L i).wk, (cgAt L i).wv, (cgAt L i).wn, p.key, p.val, p.ver, (cgAt L i).had, b⟩) = ((((cgFlat L).set (i * 10 + 5) (.string p.key)).set (i * 10 + 6) (.string p.val)).set (i * 10 + 7) (.int .i64 p.ver)).set (i * 10 + 9) (.bool b) := by
  apply List.ext_getElem?
  intro j
  by_cases hj : j < L.length * 10
  · obtain ⟨q, r, hr, rfl⟩ : ∃ q r, r < 10 ∧ j = q * 10 + r := ⟨j / 10, j % 10, Nat.mod_lt _ (by omega), by omega⟩
    have hq : q < L.length := by omega
    rw [cgFlat_get r hr (L.set i _) q (by rw [List.length_set]; exact hq)]
    have hl : (cgFlat L).length = L.length * 10 := cgFlat_length L
    rw [List.getElem?_set, List.getElem?_set, List.getElem?_set, List.getElem?_set]
    simp only [List.length_set, hl]
    by_cases hqi : q = i
    · subst hqi
      have e : ∀ c : Cg, cgAt (L.set q c) q = c := fun c => by unfold cgAt; rw [List.getElem?_set_self hi]; rfl
      rw [e]
      match r, hr with
      | 0, _ => rw [if_neg (by omega), if_neg (by omega), if_neg (by omega), if_neg (by omega), cgFlat_get 0 (by omega) L q hq]; rfl
      | 1, _ => rw [if_neg (by omega), if_neg (by omega), if_neg (by omega), if_neg (by omega), cgFlat_get 1 (by omega) L q hq]; rfl
      | 2, _ => rw [if_neg (by omega), if_neg (by omega), if_neg (by omega), if_neg (by omega), cgFlat_get 2 (by omega) L q hq]; rfl
      | 3, _ => rw [if_neg (by omega), if_neg (by omega), if_neg (by omega), if_neg (by omega), cgFlat_get 3 (by omega) L q hq]; rfl
      | 4, _ => rw [if_neg (by omega), if_neg (by omega), if_neg (by omega), if_neg (by omega), cgFlat_get 4 (by omega) L q hq]; rfl
      | 5, _ => rw [if_neg (by omega), if_neg (by omega), if_neg (by omega), if_pos (by omega), if_pos (by omega)]; rfl
      | 6, _ => rw [if_neg (by omega), if_neg (by omega), if_pos (by omega), if_pos (by omega)]; rfl
      | 7, _ => rw [if_neg (by omega), if_pos (by omega), if_pos (by omega)]; rfl
      | 8, _ => rw [if_neg (by omega), if_neg (by omega), if_neg (by omega), if_neg (by omega), cgFlat_get 8 (by omega) L q hq]; rfl
      | 9, _ => rw [if_pos (by omega), if_pos (by omega)]; rfl
    · have e : ∀ c : Cg, cgAt (L.set i c) q = cgAt L q := fun c => by unfold cgAt; rw [List.getElem?_set_ne (fun e => hqi e.symm)]
      rw [e, if_neg (by omega), if_neg (by omega), if_neg (by omega), if_neg (by omega), cgFlat_get r hr L q hq]
  · have h1 : ∀ c : Cg, (cgFlat (L.set i c)).length = L.length * 10 := fun c => by rw [cgFlat_length, List.length_set]
    rw [List.getElem?_eq_none (by rw [h1]; omega), List.getElem?_eq_none]
    simp only [List.length_set]
    rw [cgFlat_length]; omega
end Go.Proofs.YtbdagllflamabaaGreatDoor
namespace Go.Proofs.YtbdagllflamabaaGreatDoor
open Go.RowKit Go.Maps
attribute [local go_sem] Oper.semAt_some
theorem infoCgW : (Tryz.prog.info? 64).map (fun i => (i.zero, i.size, i.bytes)) = some (some (.agg #[.int .i64 0, .string ⟨#[]⟩, .string ⟨#[]⟩, .string ⟨#[]⟩, .int .i64 0, .string ⟨#[]⟩, .string ⟨#[]⟩, .int .i64 0, .bool false, .bool false]), 10, 112) := by kernel_rfl
theorem run_append_cgW {w : World} {B : Nat} {v : Value} {m : Nat} {ys : List Cg} (hown : w.ownsRow B 64 10 v m (cgFlat ys)) (c : Cg) {b : Nat} (hc : ∀ q u, c.vals[q]? = some u → w.cell? ⟨b, q, none⟩ = some u) (hbig : m ≤ 1000000) (hB : B ≤ w.heap.size) (ty : TypeId) :
    ∃ g cap w', (Builtin.append_ #[60, 60] ty #[v, .slice (some ⟨b, 0, none⟩) 1 1]).run Tryz.prog w = .ok (.slice (some ⟨g, 0, none⟩) (m + 1) cap) w' ∧ w'.ownsRow B 64 10 (.slice (some ⟨g, 0, none⟩) (m + 1) cap) (m + 1) (cgFlat (ys ++ [c])) ∧ w.grownBy w' v.ownBlock := by
  obtain ⟨i0, hi0, hz0, hz1, hz2⟩ := info_parts infoCgW
  obtain ⟨g, cap2, w2, h1, h2, h3, _, _⟩ := run_append_lies (P := Tryz.prog) (w := w) 60 ty B 64 i0 _ 10 112 Tryz.underlying60 hi0 hz0 hz1 hz2 rfl (by omega) v m (cgFlat ys) hown ⟨b, 0, none⟩ 1 1 c.vals rfl (fun j u hj => by rw [Addr.add_lit, Nat.zero_add]; exact hc j u hj) (cgVals_one c) (by omega) (by unfold maxLen; omega) (by omega) hB _ rfl
  refine ⟨g, cap2, w2, h1, ?_, h3⟩
  rw [cgFlat_append, cgFlat_one]
  exact h2
theorem infoCgR : (Tryz.prog.info? 140).map (fun i => (i.zero, i.size, i.bytes)) = some (some (.agg #[.int .i64 0, .string ⟨#[]⟩, .string ⟨#[]⟩, .string ⟨#[]⟩, .int .i64 0, .string ⟨#[]⟩, .string ⟨#[]⟩, .int .i64 0, .bool false, .bool false]), 10, 112) := by kernel_rfl
theorem run_append_cgR {w : World} {B : Nat} {v : Value} {m : Nat} {ys : List Cg} (hown : w.ownsRow B 140 10 v m (cgFlat ys)) (c : Cg) {b : Nat} (hc : ∀ q u, c.vals[q]? = some u → w.cell? ⟨b, q, none⟩ = some u) (hbig : m ≤ 1000000) (hB : B ≤ w.heap.size) (ty : TypeId) :
    ∃ g cap w', (Builtin.append_ #[70, 70] ty #[v, .slice (some ⟨b, 0, none⟩) 1 1]).run Tryz.prog w = .ok (.slice (some ⟨g, 0, none⟩) (m + 1) cap) w' ∧ w'.ownsRow B 140 10 (.slice (some ⟨g, 0, none⟩) (m + 1) cap) (m + 1) (cgFlat (ys ++ [c])) ∧ w.grownBy w' v.ownBlock := by
  obtain ⟨i0, hi0, hz0, hz1, hz2⟩ := info_parts infoCgR
  obtain ⟨g, cap2, w2, h1, h2, h3, _, _⟩ := run_append_lies (P := Tryz.prog) (w := w) 70 ty B 140 i0 _ 10 112 Tryz.underlying70 hi0 hz0 hz1 hz2 rfl (by omega) v m (cgFlat ys) hown ⟨b, 0, none⟩ 1 1 c.vals rfl (fun j u hj => by rw [Addr.add_lit, Nat.zero_add]; exact hc j u hj) (cgVals_one c) (by omega) (by unfold maxLen; omega) (by omega) hB _ rfl
  refine ⟨g, cap2, w2, h1, ?_, h3⟩
  rw [cgFlat_append, cgFlat_one]
  exact h2
theorem cg_block {w : World} {T : TypeId} {b : Nat} {c : Cg} (h : w.heap[b]? = some (.cells c.vals.toArray T (0, 0))) : ∀ q u, c.vals[q]? = some u → w.cell? ⟨b, q, none⟩ = some u := fun q u hq => by
  rw [cell_of_row w b q _ _ _ h]; simpa using hq
theorem take_cg (xs : List Cg) (k : Nat) (h : k < xs.length) : xs.take (k + 1) = xs.take k ++ [cgAt xs k] := by
  rw [List.take_succ_eq_append_getElem h, cgAt_eq xs k h]
set_option maxRecDepth 100000 in
set_option maxHeartbeats 4000000 in
theorem of39_any (a : Option Addr) (cap : Nat) (xs : List Cg) (w : World) (hA : CgsAt w a xs) (hx : xs.length ≤ 1000000) :
    Calls Tryz.prog 30 #[.slice a xs.length cap] w fun e w' => Grew w w' ∧ ∃ a' c', e = .returned (.slice a' xs.length c') ∧ CgsAt w' a' xs := by
  have HA := hid hA
  clear hA
  go_enter Tryz.func30, Tryz.ntmps30
  go_wp2_with fail
  obtain ⟨Y, hY⟩ : ∃ Y, Y = w.alloc (.cells #[] 140) := ⟨_, rfl⟩
  have gY : Grew w Y := by rw [hY]; exact (Grew.refl w).alloc _
  have hr0 : Y.ownsRow w.heap.size 140 10 (.slice (some ⟨w.heap.size, 0, none⟩) 0 0) 0 (cgFlat []) := by rw [hY]; exact ownsRow_of_block (cur := []) (Nat.le_refl _) (heap_alloc_new w _) (Nat.le_refl _) (by decide) rfl rfl
  have HR0 := hid hr0
  rw [← hY]
  clear hY hr0
  go_loopw [3, 9] (fun v i wr => ∃ k : Nat, k ≤ xs.length ∧ i = .int .i64 k ∧ Hid (wr.ownsRow w.heap.size 140 10 v k (cgFlat (xs.take k))) ∧ Grew w wr) (fun _ i _ => xs.length - (intOf i).toNat)
  case atStart => exact ⟨0, Nat.zero_le _, rfl, HR0, gY⟩
  case round =>
    obtain ⟨k, hk1, rfl, HV, hG⟩ := hrel
    obtain ⟨wo, rfl⟩ : ∃ wo : World, wo = wr := ⟨_, rfl⟩
    by_cases hlt : k < xs.length
    · rcases HA.out with h0 | ⟨b, off, rfl, hb, hR⟩
      · rw [h0] at hlt; simp at hlt
      have q0 := (hG.cells.1 b (off + k * 10) hb).trans (hR.at_ k hlt)
      have q1 := (hG.cells.1 b (off + k * 10 + 1) hb).trans (hR.key k hlt)
      have q2 := (hG.cells.1 b (off + k * 10 + 2) hb).trans (hR.wk k hlt)
      have q3 := (hG.cells.1 b (off + k * 10 + 3) hb).trans (hR.wv k hlt)
      have q4 := (hG.cells.1 b (off + k * 10 + 4) hb).trans (hR.wn k hlt)
      have q5 := (hG.cells.1 b (off + k * 10 + 5) hb).trans (hR.nk k hlt)
      have q6 := (hG.cells.1 b (off + k * 10 + 6) hb).trans (hR.nv k hlt)
      have q7 := (hG.cells.1 b (off + k * 10 + 7) hb).trans (hR.nn k hlt)
      have q8 := (hG.cells.1 b (off + k * 10 + 8) hb).trans (hR.had k hlt)
      have q9 := (hG.cells.1 b (off + k * 10 + 9) hb).trans (hR.has k hlt)
      have HNX := hid (take_cg xs k hlt)
      clear hR
      generalize cgAt xs k = c at *
      obtain ⟨c0, c1, c2, c3, c4, c5, c6, c7, c8, c9⟩ := c
      dsimp only at *
      obtain ⟨Z, hZ⟩ : ∃ Z, Z = (wo.alloc (.cells #[.int .i64 c0, .string c1, .string c2, .string c3, .int .i64 c4, .string c5, .string c6, .int .i64 c7, .bool c8, .bool c9] 64)).alloc (.cells #[.int .i64 c0, .string c1, .string c2, .string c3, .int .i64 c4, .string c5, .string c6, .int .i64 c7, .bool c8, .bool c9] 140) := ⟨_, rfl⟩
      have gZ : Grew wo Z := by rw [hZ]; exact ((Grew.refl wo).alloc _).alloc _
      have hblk : Z.heap[wo.heap.size + 1]? = some (.cells (Cg.vals ⟨c0, c1, c2, c3, c4, c5, c6, c7, c8, c9⟩).toArray 140 (0, 0)) := by
        have := heap_alloc_new (wo.alloc (.cells #[.int .i64 c0, .string c1, .string c2, .string c3, .int .i64 c4, .string c5, .string c6, .int .i64 c7, .bool c8, .bool c9] 64)) (.cells #[.int .i64 c0, .string c1, .string c2, .string c3, .int .i64 c4, .string c5, .string c6, .int .i64 c7, .bool c8, .bool c9] 140)
        rw [show (wo.alloc (.cells #[.int .i64 c0, .string c1, .string c2, .string c3, .int .i64 c4, .string c5, .string c6, .int .i64 c7, .bool c8, .bool c9] 64)).heap.size = wo.heap.size + 1 by simp] at this
        rw [hZ]; exact this
      obtain ⟨g, cp, W2, hrun, hown, hgb⟩ := run_append_cgR (ownsRow_grew gZ HV.out) _ (cg_block hblk) (by omega) (hG.trans gZ).size 70
      rw [← HNX.out] at hown
      have HRUN := hid hrun
      have HOWN := hid hown
      have HGW := hid ((((hG.trans gZ).only _).then (Only.of_grownBy hgb)).grew fun j hj => (HV.out.lt j hj.symm).1)
      have HZ := hid hZ
      clear hrun hown hgb hblk HNX HV gZ hZ
      go_wp2_with (at_builtin; rw [← HZ.out]; refine Lib.wpList_append_run _ rfl _ _ _ _ rfl _ _ rfl rfl _ _ HRUN.out ?_)
      clear q0 q1 q2 q3 q4 q5 q6 q7 q8 q9 HRUN
      go_wp2_with fail
      go_roundw
      case rel => exact ⟨k + 1, by omega, by go_num, HOWN, HGW.out⟩
      case measure => simp [intOf]; omega
    · obtain rfl : k = xs.length := by omega
      have hrow := HV.out
      rw [List.take_length] at hrow
      obtain ⟨a', c', rfl, hC⟩ := cgsAt_of hrow
      have HC := hid hC
      clear hrow HV hC
      go_wp2_with fail
      go_ret
      exact ⟨hG, a', c', rfl, HC.out⟩
end Go.Proofs.YtbdagllflamabaaGreatDoor
