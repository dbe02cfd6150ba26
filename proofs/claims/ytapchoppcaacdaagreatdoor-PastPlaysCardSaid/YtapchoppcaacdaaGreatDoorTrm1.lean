/- past.Trim's question to a change; slices.IndexFunc and DeleteFunc at changes. -/
import Derived.Test.YtapchoppcaacdaaGreatDoorPast6
import Derived.Test.YtapchoppcaacdaaGreatDoorRowK
import Derived.Test.YtapchoppcaacdaaGreatDoorInsCh
import Derived.Test.YtapchoppcaacdaaGreatDoorTrmP
set_option linter.unusedVariables false
set_option linter.unusedSectionVars false
set_option linter.unusedSimpArgs false
namespace Go.Proofs.YtapchoppcaacdaaGreatDoor
open Go.RowKit Go.Maps
attribute [local go_sem] Oper.semAt_some

theorem trim1_any (c : Ch) (tb : Nat) (to : Int) (w : World) (hc : w.cell? ⟨tb, 0, none⟩ = some (.int .i64 to)) :
    Calls Tryz.prog 86 #[c.agg, .pointer (some ⟨tb, 0, none⟩)] w fun e w' => e = .returned (.bool (decide (c.ver ≤ to))) ∧ Grew w w' := by
  obtain ⟨k, v, n, t⟩ := c
  unfold Ch.agg
  dsimp only
  have hb : tb < w.heap.size := cell_lt hc
  go_enter Tryz.func86, Tryz.ntmps86
  go_wp2_with fail
  go_ret
  exact ⟨rfl, (Grew.refl w).alloc _⟩

theorem idx_is {α : Type} (p : α → Bool) (xs : List α) : idxI p xs = -1 ∧ xs.any p = false ∨ ∃ i : Nat, ∃ h : i < xs.length, idxI p xs = (i : Nat) ∧ p xs[i] = true ∧ (xs.take i).all (fun c => !p c) = true := by
  unfold idxI
  cases h : xs.findIdx? p with
  | none =>
    refine .inl ⟨rfl, ?_⟩
    rw [List.findIdx?_eq_none_iff] at h
    rw [List.any_eq_false]
    intro x hx
    simpa using h x hx
  | some i =>
    obtain ⟨hi, h1, h2⟩ := List.findIdx?_eq_some_iff_getElem.1 h
    refine .inr ⟨i, hi, rfl, h1, ?_⟩
    rw [List.all_eq_true]
    intro c hc
    obtain ⟨j, hj, e⟩ := List.mem_iff_getElem.1 hc
    have hj' : j < i := by rw [List.length_take] at hj; omega
    have := h2 j hj'
    rw [← e, List.getElem_take]
    simpa using this
/-- The cells of a row of changes, one change at a time. -/
theorem ch_cells {w : World} {B b cap : Nat} {xs : List Ch} (h : w.ownsRow B 104 4 (.slice (some ⟨b, 0, none⟩) xs.length cap) xs.length (chFlat xs)) (j : Nat) (hj : j < xs.length) :
    w.cell? ⟨b, j * 4, none⟩ = some (.string (chAt xs j).key) ∧ w.cell? ⟨b, j * 4 + 1, none⟩ = some (.string (chAt xs j).val) ∧ w.cell? ⟨b, j * 4 + 2, none⟩ = some (.int .i64 (chAt xs j).ver) ∧ w.cell? ⟨b, j * 4 + 3, none⟩ = some (.bool (chAt xs j).there) := by
  have key : ∀ i, i < 4 → w.cell? ⟨b, j * 4 + i, none⟩ = (chAt xs j).vals[i]? := fun i hi => by
    rw [h.cellAt (j * 4 + i) (by omega), chFlat_get i hi xs j hj]
  exact ⟨key 0 (by omega), key 1 (by omega), key 2 (by omega), key 3 (by omega)⟩
theorem chAt_eq' (xs : List Ch) (j : Nat) (hj : j < xs.length) : chAt xs j = xs[j] := by unfold chAt; rw [List.getElem?_eq_getElem hj]; rfl

set_option maxRecDepth 100000 in
set_option maxHeartbeats 2000000 in
theorem idxCh (to : Int) (tb b cap : Nat) (xs : List Ch) (w : World) (hA : w.ownsRow 0 104 4 (.slice (some ⟨b, 0, none⟩) xs.length cap) xs.length (chFlat xs)) (hx : xs.length ≤ 1000000) (hc : w.cell? ⟨tb, 0, none⟩ = some (.int .i64 to)) :
    Calls Tryz.prog 125 #[.slice (some ⟨b, 0, none⟩) xs.length cap, .func (.func 86) #[] #[.pointer (some ⟨tb, 0, none⟩)]] w fun e w' => e = .returned (.int .i64 (idxI (fun c => decide (c.ver ≤ to)) xs)) ∧ Grew w w' := by
  have HP := hid (fun (c : Ch) W (g : Grew w W) => trim1_any c tb to W ((g.cells.1 _ _ (cell_lt hc)).trans hc))
  have HA := hid hA
  clear hA hc
  go_enter Tryz.func125, Tryz.ntmps125
  go_wp2_with fail
  go_loopw [8] (fun i wr => ∃ k : Nat, k ≤ xs.length ∧ i = .int .i64 k ∧ Hid ((xs.take k).all (fun c => !decide (c.ver ≤ to)) = true) ∧ Grew w wr) (fun i _ => xs.length - (intOf i).toNat)
  case atStart => exact ⟨0, Nat.zero_le _, rfl, rfl, Grew.refl w⟩
  case round =>
    obtain ⟨k, hk1, rfl, HN, hG⟩ := hrel
    by_cases hlt : k < xs.length
    · obtain ⟨q0, q1, q2, q3⟩ := ch_cells (ownsRow_grew hG HA.out) k hlt
      have HC := hid (HP.out (chAt xs k))
      have hat : chAt xs k = xs[k] := chAt_eq' xs k hlt
      have HS := hid (idx_some (fun c : Ch => decide (c.ver ≤ to)) xs k hlt HN.out)
      have HN2 := hid (idx_next (fun c : Ch => decide (c.ver ≤ to)) xs k hlt HN.out)
      rw [← hat] at HS HN2
      clear hat
      generalize chAt xs k = c at *
      unfold Ch.agg at HC
      obtain ⟨c0, c1, c2, c3⟩ := c
      dsimp only at *
      cases hpc : decide (c2 ≤ to) with
      | true =>
        rw [hpc] at HC
        have HS2 := hid (HS.out hpc)
        clear hpc HS HN2
        go_wp2_with fail
        refine (HC.out _ hG).mono ?_
        rintro e w1 ⟨rfl, hg1⟩
        go_wp2_with fail
        go_ret
        exact ⟨ret_int HS2.out.symm, hG.trans hg1⟩
      | false =>
        rw [hpc] at HC
        have HS2 := hid (HN2.out hpc)
        clear hpc HS HN2
        go_wp2_with fail
        refine (HC.out _ hG).mono ?_
        rintro e w1 ⟨rfl, hg1⟩
        go_wp2_with fail
        go_roundw
        case rel => exact ⟨k + 1, by omega, by go_num, HS2, hG.trans hg1⟩
        case measure => simp [intOf]; omega
    · obtain rfl : k = xs.length := by omega
      have HE := hid (idx_none (fun c : Ch => decide (c.ver ≤ to)) xs (by have := HN.out; rwa [List.take_length] at this))
      go_wp2_with fail
      go_ret
      exact ⟨ret_int HE.out.symm, hG⟩

theorem chFlat_append (xs ys : List Ch) : chFlat (xs ++ ys) = chFlat xs ++ chFlat ys := by unfold chFlat; rw [List.flatMap_append]
theorem chFlat_take (xs : List Ch) (i : Nat) : chFlat (xs.take i) = (chFlat xs).take (i * 4) := by
  by_cases h : i ≤ xs.length
  · have e : chFlat xs = chFlat (xs.take i) ++ chFlat (xs.drop i) := by rw [← chFlat_append, List.take_append_drop]
    have h2 : (chFlat (xs.take i)).length = i * 4 := by rw [chFlat_length, List.length_take, Nat.min_eq_left h]
    rw [e, ← h2, List.take_left]
  · rw [List.take_of_length_le (by omega), List.take_of_length_le (by rw [chFlat_length]; omega)]
theorem chFlat_one' (xs : List Ch) : ∀ u ∈ chFlat xs, u.oneCell' = true := by
  intro u hu
  unfold chFlat at hu
  obtain ⟨c, _, hc⟩ := List.mem_flatMap.1 hu
  simp [Ch.vals] at hc
  rcases hc with rfl | rfl | rfl | rfl <;> rfl
theorem chFlat_set4 (L : List Ch) (i : Nat) (hi : i < L.length) (c : Ch) : chFlat (L.set i c) = ((((chFlat L).set (i * 4) (.string c.key)).set (i * 4 + 1) (.string c.val)).set (i * 4 + 2) (.int .i64 c.ver)).set (i * 4 + 3) (.bool c.there) := by
  apply List.ext_getElem?
  intro j
  by_cases hj : j < L.length * 4
  · obtain ⟨q, r, hr, rfl⟩ : ∃ q r, r < 4 ∧ j = q * 4 + r := ⟨j / 4, j % 4, Nat.mod_lt _ (by omega), by omega⟩
    have hq : q < L.length := by omega
    rw [chFlat_get r hr (L.set i c) q (by rw [List.length_set]; exact hq)]
    have hl : (chFlat L).length = L.length * 4 := chFlat_length L
    rw [List.getElem?_set, List.getElem?_set, List.getElem?_set, List.getElem?_set]
    simp only [List.length_set, hl]
    by_cases hqi : q = i
    · subst hqi
      have : chAt (L.set q c) q = c := by unfold chAt; rw [List.getElem?_set_self hi]; rfl
      rw [this]
      match r, hr with
      | 0, _ => rw [if_neg (by omega), if_neg (by omega), if_neg (by omega), if_pos (by omega), if_pos (by omega)]; rfl
      | 1, _ => rw [if_neg (by omega), if_neg (by omega), if_pos (by omega), if_pos (by omega)]; rfl
      | 2, _ => rw [if_neg (by omega), if_pos (by omega), if_pos (by omega)]; rfl
      | 3, _ => rw [if_pos (by omega), if_pos (by omega)]; rfl
    · have : chAt (L.set i c) q = chAt L q := by unfold chAt; rw [List.getElem?_set_ne (fun e => hqi e.symm)]
      rw [this, if_neg (by omega), if_neg (by omega), if_neg (by omega), if_neg (by omega), chFlat_get r hr L q hq]
  · have h1 : (chFlat (L.set i c)).length = L.length * 4 := by rw [chFlat_length, List.length_set]
    rw [List.getElem?_eq_none (by omega), List.getElem?_eq_none]
    simp only [List.length_set]
    rw [chFlat_length]; omega

theorem run_clear_rows {P : Program} (w : World) (t e ty : TypeId) (z : Value) (k m : Nat) (ht : P.underlying t = some (.slice e)) (hv : ∀ w, (zeroValue e).run P w = .ok z w) (hk : 0 < k) (hz : z.cells.size = k) (h1 : ∀ v ∈ z.cells.toList, v.oneCell' = true) (b o c : Nat) (cur : List Value) (te : TypeId)
    (hg : w.heap[b]? = some (.cells cur.toArray te (0, 0))) (hfit : o + m * k ≤ cur.length) (hm : 0 < m) :
    (Builtin.clear_ #[t] ty #[.slice (some ⟨b, o, none⟩) m c]).run P w = .ok (.tuple #[]) (w.setRow b (spl cur o (Builtin.zeroCells z.cells m).toList).toArray) := by
  have hl : (Builtin.zeroCells z.cells m).toList.length = m * k := by rw [Array.length_toList, size_zeroCells, hz]
  have hz1 : ∀ v ∈ (Builtin.zeroCells z.cells m).toList, v.oneCell' = true := by
    intro v hv
    simp only [Builtin.zeroCells, Array.toList_map, List.mem_map, Array.mem_toList_iff, Array.mem_range] at hv
    obtain ⟨i, hi, rfl⟩ := hv
    have hlt : i % z.cells.size < z.cells.size := Nat.mod_lt _ (by omega)
    rw [getElem!_pos z.cells _ hlt]
    exact h1 _ (by simp)
  have hst := run_storeCells_at P b o te (Builtin.zeroCells z.cells m).toList 0 cur.toArray w hg (by rw [hl]; simpa using hfit) hz1
  obtain ⟨m, rfl⟩ : ∃ m0, m = m0 + 1 := ⟨m - 1, by omega⟩
  simp at hst
  simp [Builtin.clear_, run_underlying ht, hv, hst, spl]
theorem zeroChT (w : World) : (zeroValue 104).run Tryz.prog w = .ok (.agg #[.string ⟨#[]⟩, .string ⟨#[]⟩, .int .i64 0, .bool false]) w := by kernel_rfl
theorem zcChT : (Value.cells (.agg #[.string ⟨#[]⟩, .string ⟨#[]⟩, .int .i64 0, .bool false])).size = 4 := by kernel_rfl
theorem zoChT : ∀ v ∈ (Value.cells (.agg #[.string ⟨#[]⟩, .string ⟨#[]⟩, .int .i64 0, .bool false])).toList, v.oneCell' = true := by
  have h : (Value.cells (.agg #[.string ⟨#[]⟩, .string ⟨#[]⟩, .int .i64 0, .bool false])).toList.all (fun v => v.oneCell') = true := by kernel_rfl
  exact fun v hv => List.all_eq_true.1 h v hv

set_option maxRecDepth 100000 in
set_option maxHeartbeats 4000000 in
/-- slices.DeleteFunc of the elder ones: in place. -/
theorem delF (to : Int) (tb b cap : Nat) (xs : List Ch) (w : World) (hA : w.ownsRow 0 104 4 (.slice (some ⟨b, 0, none⟩) xs.length cap) xs.length (chFlat xs)) (hx : xs.length ≤ 1000000) (hc : w.cell? ⟨tb, 0, none⟩ = some (.int .i64 to)) (hne : tb ≠ b) :
    Calls Tryz.prog 85 #[.slice (some ⟨b, 0, none⟩) xs.length cap, .func (.func 86) #[] #[.pointer (some ⟨tb, 0, none⟩)]] w fun e w' => e = .returned (.slice (some ⟨b, 0, none⟩) (Pl.newer to xs).length cap) ∧ w'.ownsRow 0 104 4 (.slice (some ⟨b, 0, none⟩) (Pl.newer to xs).length cap) (Pl.newer to xs).length (chFlat (Pl.newer to xs)) ∧ Only (fun j => j = b) w w' := by
  have htb : tb < w.heap.size := cell_lt hc
  have hbb : b < w.heap.size := by
    rcases hA.2 with ⟨h, _⟩ | ⟨g, c, cur, h, _, hq, _⟩
    · cases h
    · cases h; exact (Array.getElem?_eq_some_iff.1 hq).1
  have HI := hid (idxCh to tb b cap xs w hA hx hc)
  have HP := hid (fun (c : Ch) W (g : Only (fun j => j = b) w W) => trim1_any c tb to W ((g.cell htb hne 0).trans hc))
  have HA := hid hA
  have hlen : xs.length ≤ cap := by
    rcases hA.2 with ⟨h, _⟩ | ⟨g, c, cur, h, _, _, hq, _⟩
    · cases h
    · cases h; exact hq
  clear hA hc
  rcases idx_is (fun c : Ch => decide (c.ver ≤ to)) xs with ⟨e1, n1⟩ | ⟨i0, hi0, e1, p1, p2⟩
  · have hall : Pl.newer to xs = xs := by
      unfold Pl.newer
      rw [List.filter_eq_self]
      intro c hc
      have := List.any_eq_false.1 n1 c hc
      simpa using this
    rw [e1] at HI
    rw [hall]
    clear e1 n1 hall
    go_enter Tryz.func85, Tryz.ntmps85
    go_wp2_with fail
    refine HI.out.mono ?_
    rintro e w1 ⟨rfl, hg⟩
    have HG := hid hg
    clear hg
    go_wp2_with fail
    go_ret
    exact ⟨rfl, ownsRow_grew HG.out HA.out, HG.out.only _⟩
  · rw [e1] at HI
    have HS0 : Hid (xs.take i0 = Pl.newer to (xs.take (i0 + 1))) := by
      unfold Hid Pl.newer
      rw [List.take_succ_eq_append_getElem hi0, List.filter_append]
      have h1 : (xs.take i0).filter (fun c => !decide (c.ver ≤ to)) = xs.take i0 := by
        rw [List.filter_eq_self]
        exact fun c hc => List.all_eq_true.1 p2 c hc
      have h2 : [xs[i0]].filter (fun c => !decide (c.ver ≤ to)) = [] := by simp [show xs[i0].ver ≤ to from of_decide_eq_true p1]
      rw [h1, h2, List.append_nil]
    have d1 : ((i0 : Int) == -1) = false := by rw [beq_eq_false_iff_ne]; omega
    have d2 : ¬ ((i0 : Int) = -1) := by omega
    clear e1 p1 p2
    go_enter Tryz.func85, Tryz.ntmps85
    go_wp2_with fail
    refine HI.out.mono ?_
    rintro e w1 ⟨rfl, hg⟩
    have HG := hid hg
    clear hg HI
    go_wp2_with fail
    go_loopw [5, 6] (fun i j wr => ∃ (i' j' : Nat) (L : List Ch), i' < j' ∧ j' ≤ xs.length ∧ i = .int .i64 i' ∧ j = .int .i64 j' ∧ Hid (L.length = xs.length) ∧ Hid (L.take i' = Pl.newer to (xs.take j') ∧ L.drop j' = xs.drop j') ∧ Hid (wr.ownsRow 0 104 4 (.slice (some ⟨b, 0, none⟩) xs.length cap) xs.length (chFlat L)) ∧ Hid (Only (fun j => j = b) w wr)) (fun _ j _ => xs.length - (intOf j).toNat)
    case atStart => exact ⟨i0, i0 + 1, xs, by omega, by omega, rfl, by go_num, rfl, ⟨HS0.out, rfl⟩, ownsRow_grew HG.out HA.out, HG.out.only _⟩
    case round =>
      obtain ⟨i, j, L, hij, hj1, rfl, rfl, HL, HT, HR, HO⟩ := hrel
      obtain ⟨w2, rfl⟩ : ∃ w2 : World, w2 = wr := ⟨_, rfl⟩
      have HR' := HR.out
      have HL' := HL.out
      by_cases hlt : j < xs.length
      · have hcat : chAt L j = xs[j] := by
          have h1 : (L.drop j)[0]? = (xs.drop j)[0]? := by rw [HT.out.2]
          rw [List.getElem?_drop, List.getElem?_drop, Nat.add_zero, List.getElem?_eq_getElem hlt] at h1
          unfold chAt; rw [h1]; rfl
        rw [← HL'] at HR'
        obtain ⟨q0, q1, q2, q3⟩ := ch_cells HR' j (by omega)
        have hN1 : decide ((chAt L j).ver ≤ to) = true → L.take i = Pl.newer to (xs.take (j + 1)) := fun h => by
          rw [HT.out.1]
          unfold Pl.newer
          rw [List.take_succ_eq_append_getElem hlt, List.filter_append, ← hcat]
          have : [chAt L j].filter (fun c => !decide (c.ver ≤ to)) = [] := by simp [h]
          rw [this, List.append_nil]
        have hN2 : decide ((chAt L j).ver ≤ to) = false → (L.set i (chAt L j)).take (i + 1) = Pl.newer to (xs.take (j + 1)) := fun h => by
          unfold Pl.newer
          rw [List.take_succ_eq_append_getElem hlt, List.filter_append, ← hcat]
          have : [chAt L j].filter (fun c => !decide (c.ver ≤ to)) = [chAt L j] := by simp [h]
          rw [this, List.take_succ_eq_append_getElem (by rw [List.length_set]; omega), List.getElem_set_self, List.take_set_of_le (Nat.le_refl _), HT.out.1]
          rfl
        have hD1 : L.drop (j + 1) = xs.drop (j + 1) := by
          have := congrArg (List.drop 1) HT.out.2
          rwa [List.drop_drop, List.drop_drop] at this
        have hD2 : (L.set i (chAt L j)).drop (j + 1) = xs.drop (j + 1) := by rw [List.drop_set_of_lt (by omega), hD1]
        have hF4 := chFlat_set4 L i (by omega) (chAt L j)
        have HN1 := hid hN1
        have HN2 := hid hN2
        have HD1 := hid hD1
        have HD2 := hid hD2
        have HF4 := hid hF4
        have HC := hid (HP.out (chAt L j))
        clear hN1 hN2 hD1 hD2 hF4 hcat HT HR'
        generalize chAt L j = c at *
        unfold Ch.agg at HC
        obtain ⟨c0, c1, c2, c3⟩ := c
        dsimp only at *
        have hbl2 : b < w2.heap.size := Nat.lt_of_lt_of_le hbb HO.out.size
        have hiL : (i : Int) < (xs.length : Int) := by omega
        cases hpc : decide (c2 ≤ to) with
        | true =>
          rw [hpc] at HC
          have HX := hid (HN1.out hpc)
          clear hpc HN1 HN2 HD2 HF4
          go_wp2_with fail
          refine (HC.out _ (HO.out.then (((Grew.refl w2).alloc _).only _))).mono ?_
          rintro e w3 ⟨rfl, hg3⟩
          have HG3 := hid (((Grew.refl w2).alloc _).trans hg3)
          clear hg3 q0 q1 q2 q3 HC
          go_wp2_with fail
          go_roundw
          case rel => exact ⟨i, j + 1, L, by omega, by omega, rfl, by go_num, HL, ⟨HX.out, HD1.out⟩, ownsRow_grew HG3.out HR.out, HO.out.then (HG3.out.only _)⟩
          case measure => simp [intOf]; omega
        | false =>
          rw [hpc] at HC
          have HX := hid (HN2.out hpc)
          clear hpc HN1 HN2 HD1
          go_wp2_with fail
          refine (HC.out _ (HO.out.then (((Grew.refl w2).alloc _).only _))).mono ?_
          rintro e w3 ⟨rfl, hg3⟩
          have HG3 := hid (((Grew.refl w2).alloc _).trans hg3)
          have hz3 : w2.heap.size < (w2.alloc (Obj.cells #[.string c0, .string c1, .int .i64 c2, .bool c3] 104)).heap.size := by simp
          have s0 : w3.cell? ⟨w2.heap.size, 0, none⟩ = some (.string c0) := (hg3.cells.1 _ _ hz3).trans (by simp [go_sem])
          have s1 : w3.cell? ⟨w2.heap.size, 1, none⟩ = some (.string c1) := (hg3.cells.1 _ _ hz3).trans (by simp [go_sem])
          have s2 : w3.cell? ⟨w2.heap.size, 2, none⟩ = some (.int .i64 c2) := (hg3.cells.1 _ _ hz3).trans (by simp [go_sem])
          have s3 : w3.cell? ⟨w2.heap.size, 3, none⟩ = some (.bool c3) := (hg3.cells.1 _ _ hz3).trans (by simp [go_sem])
          have hR3 := ownsRow_grew HG3.out HR.out
          have HR3 := hid hR3
          have hii : L.length = xs.length := HL.out
          rw [← hii] at hR3
          obtain ⟨r0, r1, r2, r3⟩ := ch_cells hR3 i (by omega)
          have f0 : w3.frozen? ⟨b, i * 4, none⟩ = false := hR3.frozenAt _
          have f1 : w3.frozen? ⟨b, i * 4 + 1, none⟩ = false := hR3.frozenAt _
          have f2 : w3.frozen? ⟨b, i * 4 + 2, none⟩ = false := hR3.frozenAt _
          have f3 : w3.frozen? ⟨b, i * 4 + 3, none⟩ = false := hR3.frozenAt _
          clear hg3 q0 q1 q2 q3 HC hR3 hii hz3
          go_wp2_with fail
          go_roundw
          case rel =>
            obtain ⟨r1, g1⟩ := HR3.out.stored (i * 4) (.string c0)
            obtain ⟨r2, g2⟩ := r1.stored (i * 4 + 1) (.string c1)
            obtain ⟨r3, g3⟩ := r2.stored (i * 4 + 2) (.int .i64 c2)
            obtain ⟨r4, g4⟩ := r3.stored (i * 4 + 3) (.bool c3)
            refine ⟨i + 1, j + 1, L.set i ⟨c0, c1, c2, c3⟩, by omega, by omega, by go_num, by go_num, hid (by rw [List.length_set]; exact HL.out), ⟨HX.out, HD2.out⟩, hid ?_, hid ?_⟩
            · rw [HF4.out]; exact r4
            · exact (HO.out.then (HG3.out.only _)).then ((Only.of_grownBy (g1.trans (g2.trans (g3.trans g4)))).mono fun j hj => .inl (Option.some.inj hj))
          case measure => simp [intOf]; omega
      · obtain rfl : j = xs.length := by omega
        have hti := HT.out.1
        rw [List.take_length] at hti
        have hni : (Pl.newer to xs).length = i := by rw [← hti, List.length_take, HL']; omega
        obtain ⟨b', c', cur, e', hBb, hb', hnc, hcm, hcl, hxx⟩ := ownsRow_block HR' (by omega)
        cases e'
        have hclr : ∀ ty sc, (Builtin.clear_ #[101] ty #[.slice (some ⟨b, i * 4, none⟩) (xs.length - i) sc]).run Tryz.prog w2 = .ok (.tuple #[]) (w2.setRow b (spl cur (i * 4) (Builtin.zeroCells (Value.cells (.agg #[.string ⟨#[]⟩, .string ⟨#[]⟩, .int .i64 0, .bool false])) (xs.length - i)).toList).toArray) := fun ty sc =>
          run_clear_rows w2 101 104 ty _ 4 (xs.length - i) Tryz.underlying101 zeroChT (by omega) zcChT zoChT b (i * 4) sc _ 104 hb' (by rw [hcl]; omega) (by omega)
        obtain ⟨Z, hZ⟩ : ∃ Z, Z = (Builtin.zeroCells (Value.cells (.agg #[.string ⟨#[]⟩, .string ⟨#[]⟩, .int .i64 0, .bool false])) (xs.length - i)).toList := ⟨_, rfl⟩
        have hZl : Z.length = (xs.length - i) * 4 := by rw [hZ, Array.length_toList, size_zeroCells, zcChT]
        rw [← hZ] at hclr
        obtain ⟨W2, hW2⟩ : ∃ W2, W2 = w2.setRow b (spl cur (i * 4) Z).toArray := ⟨_, rfl⟩
        rw [← hW2] at hclr
        have HEND : Hid (W2.ownsRow 0 104 4 (.slice (some ⟨b, 0, none⟩) i cap) i (chFlat (Pl.newer to xs)) ∧ Only (fun j => j = b) w W2) := by
          refine ⟨ownsRow_of_block (cur := spl cur (i * 4) Z) hBb (by rw [hW2]; exact setRow_heap _ _ _ _ _ _ hb') (by omega) hcm (by rw [spl_length _ _ _ (by rw [hZl, hcl]; omega), hcl]) ?_, ?_⟩
          · rw [spl_take_le _ _ _ _ (Nat.le_refl _) (by rw [hcl]; omega), ← hti, chFlat_take, ← hxx, List.take_take, Nat.min_eq_left (by omega)]
          · rw [hW2]; exact HO.out.then (only_setRow w2 b _)
        have z1 : (i : Int) ≤ (xs.length : Int) := by omega
        have z2 : i ≤ xs.length := by omega
        have z3 : i ≤ cap := by omega
        have z4 : (i : Int) ≤ (cap : Int) := by omega
        have z5 : ¬ cap = i := by omega
        have HNI := hid hni
        clear hti hni hb' hcl hxx hZ hZl hW2 HR' HL' HT hnc hcm hBb
        go_wp2_with fail
        go_ret
        exact ⟨by rw [HNI.out]; rfl, by rw [HNI.out]; exact HEND.out.1, HEND.out.2⟩
end Go.Proofs.YtapchoppcaacdaaGreatDoor
