/- ClrK, WtD, Aud1, RgnC: one text. -/
import Derived.Test.YtbdagllflamabaaGreatDoorFinWatchReplaysQ4
import Derived.Test.YtbdagllflamabaaGreatDoorFinWatchReplaysQ1
import Derived.Test.YtbdagllflamabaaGreatDoorFinWatchReplaysQ28
import Derived.Test.YtbdagllflamabaaGreatDoorFinWatchReplaysQ3
import Derived.Test.YtbdagllflamabaaGreatDoorFinWatchReplaysQ33
import Derived.Test.YtbdagllflamabaaGreatDoorFinWatchReplaysQ31
import Derived.Test.YtbdagllflamabaaGreatDoorFinWatchReplaysQ17
import Derived.Test.YtbdagllflamabaaGreatDoorFinWatchReplaysQ27
set_option linter.unusedVariables false
set_option linter.unusedSectionVars false
set_option linter.unusedSimpArgs false
namespace Go.Proofs.YtbdagllflamabaaGreatDoor
open Go.RowKit Go.Maps
theorem idx_is {α : Type} (p : α → Bool) (xs : List α) : idxI p xs = -1 ∧ xs.any p = false ∨ ∃ i : Nat, ∃ h : i < xs.length, idxI p xs = (i : Nat) ∧ p xs[i] = true ∧ (xs.take i).all (fun c => !p c) = true := by
  unfold idxI
  cases h : xs.findIdx? p with
  | none =>
    refine .inl ⟨rfl, ?_⟩
    rw [List.findIdx?_eq_none_iff] at h
    rw [List.any_eq_false]
    intro x hx
    simpa using h x hx
  | some i =>
    obtain ⟨hi, h1, h2⟩ := List.findIdx?_eq_some_iff_getElem.1 h
    refine .inr ⟨i, hi, rfl, h1, ?_⟩
    rw [List.all_eq_true]
    intro c hc
    obtain ⟨j, hj, e⟩ := List.mem_iff_getElem.1 hc
    have hj' : j < i := by rw [List.length_take] at hj; omega
    have := h2 j hj'
    rw [← e, List.getElem_take]
    simpa using this
theorem run_clear_rows {P : Program} (w : World) (t e ty : TypeId) (z : Value) (k m : Nat) (ht : P.underlying t = some (.slice e)) (hv : ∀ w, (zeroValue e).run P w = .ok z w) (hk : 0 < k) (hz : z.cells.size = k) (h1 : ∀ v ∈ z.cells.toList, v.oneCell' = true) (b o c : Nat) (cur : List Value) (te : TypeId)
    (hg : w.heap[b]? = some (.cells cur.toArray te (0, 0))) (hfit : o + m * k ≤ cur.length) (hm : 0 < m) :
    (Builtin.clear_ #[t] ty #[.slice (some ⟨b, o, none⟩) m c]).run P w = .ok (.tuple #[]) (w.setRow b (spl cur o (Builtin.zeroCells z.cells m).toList).toArray) := by
  have hl : (Builtin.zeroCells z.cells m).toList.length = m * k := by rw [Array.length_toList, size_zeroCells, hz]
  have hz1 : ∀ v ∈ (Builtin.zeroCells z.cells m).toList, v.oneCell' = true := by
    intro v hv
    simp only [Builtin.zeroCells, Array.toList_map, List.mem_map, Array.mem_toList_iff, Array.mem_range] at hv
    obtain ⟨i, hi, rfl⟩ := hv
    have hlt : i % z.cells.size < z.cells.size := Nat.mod_lt _ (by omega)
    rw [getElem!_pos z.cells _ hlt]
    exact h1 _ (by simp)
  have hst := run_storeCells_at P b o te (Builtin.zeroCells z.cells m).toList 0 cur.toArray w hg (by rw [hl]; simpa using hfit) hz1
  obtain ⟨m, rfl⟩ : ∃ m0, m = m0 + 1 := ⟨m - 1, by omega⟩
  simp at hst
  simp [Builtin.clear_, run_underlying ht, hv, hst, spl]
end Go.Proofs.YtbdagllflamabaaGreatDoor
namespace Go.Proofs.YtbdagllflamabaaGreatDoor
open Go.RowKit Go.Maps
attribute [local go_sem] Oper.semAt_some
theorem askW_any (S : Nat → Bool) (E : Nat → Addr) (hS : KeyS S) (lo hi key : ByteArray) (w : World) (hl : lo.size ≤ 70368744177664) (hh : hi.size ≤ 70368744177664) (hk : key.size ≤ 70368744177664) (hE : Errs S E w) (bb st : Nat) (hB : BoxSp w bb st lo hi) :
    Calls Tryz.prog 99 #[.string key, .pointer (some ⟨bb, 0, none⟩)] w fun e w' => e = .returned (.bool (!Pl.hasS lo hi key)) ∧ Grew w w' := by
  have HH := hid (has_span S E hS lo hi key w hl hh hk hE)
  obtain ⟨b0, b1, b2⟩ := hB
  clear hE
  generalize Pl.hasS lo hi key = b at *
  go_enter Tryz.func99, Tryz.ntmps99
  go_wp2_with fail
  refine HH.out.mono ?_
  rintro e w1 ⟨rfl, hg⟩
  clear HH b0 b1 b2
  go_wp2_with fail
  go_ret
  exact ⟨rfl, hg⟩
set_option maxRecDepth 100000 in
set_option maxHeartbeats 4000000 in
theorem idxW_any (p : ByteArray → Bool) (bb : Nat) (a : Option Addr) (cap : Nat) (xs : List ByteArray) (w : World) (hA : StrsAt w a xs) (hx : xs.length ≤ 1000000) (hP : ∀ W, Grew w W → ∀ k ∈ xs, Calls Tryz.prog 99 #[.string k, .pointer (some ⟨bb, 0, none⟩)] W fun e w' => e = .returned (.bool (p k)) ∧ Grew W w') :
    Calls Tryz.prog 152 #[.slice a xs.length cap, .func (.func 99) #[] #[.pointer (some ⟨bb, 0, none⟩)]] w fun e w' => e = .returned (.int .i64 (idxI p xs)) ∧ Grew w w' := by
  have HA := hid hA
  have HP := hid hP
  clear hA hP
  go_enter Tryz.func152, Tryz.ntmps152
  go_wp2_with fail
  go_loopw [8] (fun i wr => ∃ k : Nat, k ≤ xs.length ∧ i = .int .i64 k ∧ Hid ((xs.take k).all (fun c => !p c) = true) ∧ Grew w wr) (fun i _ => xs.length - (intOf i).toNat)
  case atStart => exact ⟨0, Nat.zero_le _, rfl, rfl, Grew.refl w⟩
  case round =>
    obtain ⟨k, hk1, rfl, HN, hG⟩ := hrel
    by_cases hlt : k < xs.length
    · rcases HA.out with h0 | ⟨b, off, rfl, hb, hR⟩
      · rw [h0] at hlt; simp at hlt
      have q0 := (hG.cells.1 b (off + k) hb).trans (hR k _ (List.getElem?_eq_getElem hlt))
      have HC := hid (fun W g => HP.out W g xs[k] (List.getElem_mem hlt))
      clear hR
      have HS := hid (idx_some p xs k hlt HN.out)
      have HN2 := hid (idx_next p xs k hlt HN.out)
      generalize xs[k] = c at *
      cases hpc : p c with
      | true =>
        rw [hpc] at HC
        have HS2 := hid (HS.out hpc)
        clear hpc HS HN2
        go_wp2_with fail
        refine (HC.out _ hG).mono ?_
        rintro e w1 ⟨rfl, hg1⟩
        go_wp2_with fail
        go_ret
        exact ⟨ret_int HS2.out.symm, hG.trans hg1⟩
      | false =>
        rw [hpc] at HC
        have HS2 := hid (HN2.out hpc)
        clear hpc HS HN2
        go_wp2_with fail
        refine (HC.out _ hG).mono ?_
        rintro e w1 ⟨rfl, hg1⟩
        go_wp2_with fail
        go_roundw
        case rel => exact ⟨k + 1, by omega, by go_num, HS2, hG.trans hg1⟩
        case measure => simp [intOf]; omega
    · obtain rfl : k = xs.length := by omega
      have HE := hid (idx_none p xs (by have := HN.out; rwa [List.take_length] at this))
      go_wp2_with fail
      go_ret
      exact ⟨ret_int HE.out.symm, hG⟩
theorem zeroStrT (w : World) : (zeroValue 9).run Tryz.prog w = .ok (.string ⟨#[]⟩) w := by kernel_rfl
theorem zcStrT : (Value.cells (.string ⟨#[]⟩)).size = 1 := by kernel_rfl
theorem zoStrT : ∀ v ∈ (Value.cells (.string ⟨#[]⟩)).toList, v.oneCell' = true := by
  have h : (Value.cells (.string ⟨#[]⟩)).toList.all (fun v => v.oneCell') = true := by kernel_rfl
  exact fun v hv => List.all_eq_true.1 h v hv
theorem str_cells {w : World} {B b cap : Nat} {xs : List ByteArray} (h : w.ownsRow B 9 1 (.slice (some ⟨b, 0, none⟩) xs.length cap) xs.length (strFlat xs)) (j : Nat) (hj : j < xs.length) : w.cell? ⟨b, j, none⟩ = some (.string xs[j]) := by
  rw [h.cellAt j (by omega)]
  unfold strFlat
  rw [List.getElem?_map, List.getElem?_eq_getElem hj]; rfl
set_option maxRecDepth 100000 in
set_option maxHeartbeats 4000000 in
theorem delFStr (p : ByteArray → Bool) (bb B b cap : Nat) (xs : List ByteArray) (w : World) (hA : w.ownsRow B 9 1 (.slice (some ⟨b, 0, none⟩) xs.length cap) xs.length (strFlat xs)) (hB : B ≤ w.heap.size) (hx : xs.length ≤ 1000000) (hP : ∀ W, Only (fun j => j = b) w W → ∀ k ∈ xs, Calls Tryz.prog 99 #[.string k, .pointer (some ⟨bb, 0, none⟩)] W fun e w' => e = .returned (.bool (p k)) ∧ Grew W w') :
    Calls Tryz.prog 97 #[.slice (some ⟨b, 0, none⟩) xs.length cap, .func (.func 99) #[] #[.pointer (some ⟨bb, 0, none⟩)]] w fun e w' => e = .returned (.slice (some ⟨b, 0, none⟩) (xs.filter fun c => !p c).length cap) ∧ w'.ownsRow B 9 1 (.slice (some ⟨b, 0, none⟩) (xs.filter fun c => !p c).length cap) (xs.filter fun c => !p c).length (strFlat (xs.filter fun c => !p c)) ∧ Only (fun j => j = b) w w' := by
  have hbb : b < w.heap.size := by
    rcases hA.2 with ⟨h, _⟩ | ⟨g, c, cur, h, _, hq, _⟩
    · cases h
    · cases h; exact (Array.getElem?_eq_some_iff.1 hq).1
  have hAS : StrsAt w (some ⟨b, 0, none⟩) xs := by
    obtain ⟨a', c', e, h⟩ := strsAt_of hA
    cases e; exact h
  have HI := hid (idxW_any p bb (some ⟨b, 0, none⟩) cap xs w hAS hx (fun W g k hk => hP W (g.only _) k hk))
  have HP := hid hP
  have HA := hid hA
  have hlen : xs.length ≤ cap := by
    rcases hA.2 with ⟨h, _⟩ | ⟨g, c, cur, h, _, _, hq, _⟩
    · cases h
    · cases h; exact hq
  clear hA hP hAS
  rcases idx_is p xs with ⟨e1, n1⟩ | ⟨i0, hi0, e1, p1, p2⟩
  · have hall : (xs.filter fun c => !p c) = xs := by
      rw [List.filter_eq_self]
      intro c hc
      have := List.any_eq_false.1 n1 c hc
      simpa using this
    rw [e1] at HI
    rw [hall]
    clear e1 n1 hall
    go_enter Tryz.func97, Tryz.ntmps97
    go_wp2_with fail
    refine HI.out.mono ?_
    rintro e w1 ⟨rfl, hg⟩
    have HG := hid hg
    clear hg
    go_wp2_with fail
    go_ret
    exact ⟨rfl, ownsRow_grew HG.out HA.out, HG.out.only _⟩
  · rw [e1] at HI
    have HS0 : Hid (xs.take i0 = (xs.take (i0 + 1)).filter fun c => !p c) := by
      unfold Hid
      rw [List.take_succ_eq_append_getElem hi0, List.filter_append]
      have h1 : (xs.take i0).filter (fun c => !p c) = xs.take i0 := by
        rw [List.filter_eq_self]
        exact fun c hc => List.all_eq_true.1 p2 c hc
      have h2 : [xs[i0]].filter (fun c => !p c) = [] := by simp [p1]
      rw [h1, h2, List.append_nil]
    have d1 : ((i0 : Int) == -1) = false := by rw [beq_eq_false_iff_ne]; omega
    have d2 : ¬ ((i0 : Int) = -1) := by omega
    clear e1 p1 p2
    go_enter Tryz.func97, Tryz.ntmps97
    go_wp2_with fail
    refine HI.out.mono ?_
    rintro e w1 ⟨rfl, hg⟩
    have HG := hid hg
    clear hg HI
    go_wp2_with fail
    go_loopw [5, 6] (fun i j wr => ∃ (i' j' : Nat) (L : List ByteArray), i' < j' ∧ j' ≤ xs.length ∧ i = .int .i64 i' ∧ j = .int .i64 j' ∧ Hid (L.length = xs.length) ∧ Hid (L.take i' = ((xs.take j').filter fun c => !p c) ∧ L.drop j' = xs.drop j') ∧ Hid (wr.ownsRow B 9 1 (.slice (some ⟨b, 0, none⟩) xs.length cap) xs.length (strFlat L)) ∧ Hid (Only (fun j => j = b) w wr)) (fun _ j _ => xs.length - (intOf j).toNat)
    case atStart => exact ⟨i0, i0 + 1, xs, by omega, by omega, rfl, by go_num, rfl, ⟨HS0.out, rfl⟩, ownsRow_grew HG.out HA.out, HG.out.only _⟩
    case round =>
      obtain ⟨i, j, L, hij, hj1, rfl, rfl, HL, HT, HR, HO⟩ := hrel
      obtain ⟨w2, rfl⟩ : ∃ w2 : World, w2 = wr := ⟨_, rfl⟩
      have HR' := HR.out
      have HL' := HL.out
      by_cases hlt : j < xs.length
      · have hlt2 : j < L.length := by omega
        have hcat : L[j] = xs[j] := by
          have h1 : (L.drop j)[0]? = (xs.drop j)[0]? := by rw [HT.out.2]
          rw [List.getElem?_drop, List.getElem?_drop, Nat.add_zero, List.getElem?_eq_getElem hlt, List.getElem?_eq_getElem hlt2] at h1
          exact Option.some.inj h1
        rw [← HL'] at HR'
        have q0 := str_cells HR' j hlt2
        have hN1 : p L[j] = true → L.take i = (xs.take (j + 1)).filter fun c => !p c := fun h => by
          rw [HT.out.1, List.take_succ_eq_append_getElem hlt, List.filter_append, ← hcat]
          have : [L[j]].filter (fun c => !p c) = [] := by simp [h]
          rw [this, List.append_nil]
        have hN2 : p L[j] = false → (L.set i L[j]).take (i + 1) = (xs.take (j + 1)).filter fun c => !p c := fun h => by
          rw [List.take_succ_eq_append_getElem hlt, List.filter_append, ← hcat]
          have : [L[j]].filter (fun c => !p c) = [L[j]] := by simp [h]
          rw [this, List.take_succ_eq_append_getElem (by rw [List.length_set]; omega), List.getElem_set_self, List.take_set_of_le (Nat.le_refl _), HT.out.1]
        have hD1 : L.drop (j + 1) = xs.drop (j + 1) := by
          have := congrArg (List.drop 1) HT.out.2
          rwa [List.drop_drop, List.drop_drop] at this
        have hD2 : (L.set i L[j]).drop (j + 1) = xs.drop (j + 1) := by rw [List.drop_set_of_lt (by omega), hD1]
        have hF4 : strFlat (L.set i L[j]) = (strFlat L).set i (.string L[j]) := by unfold strFlat; rw [List.map_set]
        have HN1 := hid hN1
        have HN2 := hid hN2
        have HD1 := hid hD1
        have HD2 := hid hD2
        have HF4 := hid hF4
        have HC := hid (fun W g => HP.out W g L[j] (by rw [hcat]; exact List.getElem_mem hlt))
        clear hN1 hN2 hD1 hD2 hF4 hcat HT HR'
        generalize L[j] = c at *
        have hbl2 : b < w2.heap.size := Nat.lt_of_lt_of_le hbb HO.out.size
        have hiL : (i : Int) < (xs.length : Int) := by omega
        cases hpc : p c with
        | true =>
          rw [hpc] at HC
          have HX := hid (HN1.out hpc)
          clear hpc HN1 HN2 HD2 HF4
          go_wp2_with fail
          refine (HC.out _ HO.out).mono ?_
          rintro e w3 ⟨rfl, hg3⟩
          have HG3 := hid hg3
          clear hg3 q0 HC
          go_wp2_with fail
          go_roundw
          case rel => exact ⟨i, j + 1, L, by omega, by omega, rfl, by go_num, HL, ⟨HX.out, HD1.out⟩, ownsRow_grew HG3.out HR.out, HO.out.then (HG3.out.only _)⟩
          case measure => simp [intOf]; omega
        | false =>
          rw [hpc] at HC
          have HX := hid (HN2.out hpc)
          clear hpc HN1 HN2 HD1
          go_wp2_with fail
          refine (HC.out _ HO.out).mono ?_
          rintro e w3 ⟨rfl, hg3⟩
          have HG3 := hid hg3
          have hR3 := ownsRow_grew HG3.out HR.out
          have HR3 := hid hR3
          have hii : L.length = xs.length := HL.out
          rw [← hii] at hR3
          have r0 := str_cells hR3 i (by omega)
          have f0 : w3.frozen? ⟨b, i, none⟩ = false := hR3.frozenAt _
          clear hg3 q0 HC hR3 hii
          go_wp2_with fail
          go_roundw
          case rel =>
            obtain ⟨r1, g1⟩ := HR3.out.stored i (.string c)
            refine ⟨i + 1, j + 1, L.set i c, by omega, by omega, by go_num, by go_num, hid (by rw [List.length_set]; exact HL.out), ⟨HX.out, HD2.out⟩, hid ?_, hid ?_⟩
            · rw [HF4.out]; exact r1
            · exact (HO.out.then (HG3.out.only _)).then ((Only.of_grownBy g1).mono fun j hj => .inl (Option.some.inj hj))
          case measure => simp [intOf]; omega
      · obtain rfl : j = xs.length := by omega
        have hti := HT.out.1
        rw [List.take_length] at hti
        have hni : (xs.filter fun c => !p c).length = i := by rw [← hti, List.length_take, HL']; omega
        obtain ⟨b', c', cur, e', hBb, hb', hnc, hcm, hcl, hxx⟩ := ownsRow_block HR' (by omega)
        cases e'
        have hclr : ∀ ty sc, (Builtin.clear_ #[128] ty #[.slice (some ⟨b, i, none⟩) (xs.length - i) sc]).run Tryz.prog w2 = .ok (.tuple #[]) (w2.setRow b (spl cur i (Builtin.zeroCells (Value.cells (.string ⟨#[]⟩)) (xs.length - i)).toList).toArray) := fun ty sc => by
          have := run_clear_rows (P := Tryz.prog) w2 128 9 ty _ 1 (xs.length - i) Tryz.underlying128 zeroStrT (by omega) zcStrT zoStrT b i sc _ 9 hb' (by rw [hcl]; omega) (by omega)
          exact this
        obtain ⟨Z, hZ⟩ : ∃ Z, Z = (Builtin.zeroCells (Value.cells (.string ⟨#[]⟩)) (xs.length - i)).toList := ⟨_, rfl⟩
        have hZl : Z.length = (xs.length - i) * 1 := by rw [hZ, Array.length_toList, size_zeroCells, zcStrT]
        rw [← hZ] at hclr
        obtain ⟨W2, hW2⟩ : ∃ W2, W2 = w2.setRow b (spl cur i Z).toArray := ⟨_, rfl⟩
        rw [← hW2] at hclr
        have HEND : Hid (W2.ownsRow B 9 1 (.slice (some ⟨b, 0, none⟩) i cap) i (strFlat (xs.filter fun c => !p c)) ∧ Only (fun j => j = b) w W2) := by
          refine ⟨ownsRow_of_block (cur := spl cur i Z) hBb (by rw [hW2]; exact setRow_heap _ _ _ _ _ _ hb') (by omega) hcm (by rw [spl_length _ _ _ (by rw [hZl, hcl]; omega), hcl]) ?_, ?_⟩
          · rw [Nat.mul_one, spl_take_le _ _ _ _ (Nat.le_refl _) (by rw [hcl]; omega), ← hti]
            have h2 : (cur.take (xs.length * 1)) = strFlat L := hxx
            rw [Nat.mul_one] at h2
            have h3 : strFlat (L.take i) = (strFlat L).take i := by unfold strFlat; rw [List.map_take]
            rw [h3, ← h2, List.take_take, Nat.min_eq_left (by omega)]
          · rw [hW2]; exact HO.out.then (only_setRow w2 b _)
        have z1 : (i : Int) ≤ (xs.length : Int) := by omega
        have z2 : i ≤ xs.length := by omega
        have z3 : i ≤ cap := by omega
        have z4 : (i : Int) ≤ (cap : Int) := by omega
        have z5 : ¬ cap = i := by omega
        have HNI := hid hni
        clear hti hni hb' hcl hxx hZ hZl hW2 HR' HL' HT hnc hcm hBb
        go_wp2_with fail
        go_ret
        exact ⟨by rw [HNI.out]; rfl, by rw [HNI.out]; exact HEND.out.1, HEND.out.2⟩
end Go.Proofs.YtbdagllflamabaaGreatDoor
namespace Go.Proofs.YtbdagllflamabaaGreatDoor
open Go.RowKit Go.Maps
attribute [local go_sem] Oper.semAt_some uponV
structure AuP where
  at_ : Int
  sh : ShSt
  st : Nat → Option (List Pr × (Int → Option An))
def lenS (v : Option (List Pr × (Int → Option An))) : Nat := match v with | none => 0 | some x => x.1.length
def totS (st : Nat → Option (List Pr × (Int → Option An))) : Nat := ((List.range 13).map fun i => lenS (st i)).sum
def updS (st : Nat → Option (List Pr × (Int → Option An))) (i : Nat) (v : Option (List Pr × (Int → Option An))) (j : Nat) : Option (List Pr × (Int → Option An)) := if j = i then v else st j
structure AuOk (A : AuP) (m : Nat) : Prop where
  inv : Pl.Inv A.sh m
  chain : Pl.Chain A.sh.xs
  dom : ∀ c ∈ A.sh.xs, ∃ P S, A.st c.id.toNat = some (P, S) ∧ Pl.InS c.lo c.hi P
  back : ∀ i, A.st i ≠ none → ∃ c ∈ A.sh.xs, c.id = (i : Int)
  few : totS A.st ≤ 8 * m
  sz : ∀ c ∈ A.sh.xs, c.lo.size ≤ 300 ∧ c.hi.size ≤ 300
structure AuIs (W : World) (L : Nat → Nat) (k ab sb mb nb n : Nat) (f : Lit → Option Value) (st : Nat → Nat) (A : AuP) : Prop where
  c0 : W.cell? ⟨ab, 0, none⟩ = some (.int .i64 A.at_)
  c1 : W.cell? ⟨ab, 1, none⟩ = some (.pointer (some ⟨sb, 0, none⟩))
  c2 : W.cell? ⟨ab, 2, none⟩ = some (.map (some mb))
  c3 : W.cell? ⟨ab, 3, none⟩ = some (.map (some nb))
  fz : ∀ i, W.frozen? ⟨ab, i, none⟩ = false
  lab : L ab = k
  lmb : L mb = k + 1
  lnb : L nb = k + 2
  sh : ∃ F, ShAt W F sb A.sh ∧ ∀ j, F j → L j = k + 3
  lm : ∃ m, m ≤ n ∧ LMap W Tryz.prog 3 mb m f
  val : ∀ i : Nat, f (clit i) = (A.st i).map fun _ => .pointer (some ⟨st i, 0, none⟩)
  lit : ∀ l, f l ≠ none → ∃ i : Nat, l = clit i
  la : ∃ fa m, m ≤ n ∧ LMap W Tryz.prog 3 nb m fa
  states : ∀ i P S, A.st i = some (P, S) → i ≤ 12 ∧ ∃ c ∈ A.sh.xs, c.id = (i : Int) ∧ ∃ Ft Fs m, m ≤ n ∧ StAt W Ft Fs (st i) m c.lo c.hi P S ∧ ∀ j, BlS Ft Fs (st i) j → L j = k + 20 + i
def AuAt (W : World) (L : Nat → Nat) (k ab n : Nat) (A : AuP) : Prop := ∃ sb mb nb f st, AuIs W L k ab sb mb nb n f st A
def Kin (k l : Nat) : Prop := k ≤ l ∧ l < k + 100
section
variable {W W' : World} {L L' : Nat → Nat} {T : Nat → Prop} {k ab sb mb nb n : Nat} {f : Lit → Option Value} {st : Nat → Nat} {A : AuP}
theorem ShAt.kept {F : Nat → Prop} {sb : Nat} {s : ShSt} (h : ShAt W F sb s) (g : Only T W W') (hT : ∀ j, F j → ¬ T j) : ShAt W' F sb s := SmAt.kept h g hT
theorem ShAt.lt {F : Nat → Prop} {sb : Nat} {s : ShSt} (h : ShAt W F sb s) : ∀ j, F j → j < W.heap.size := by
  obtain ⟨v, ve, h⟩ := h
  exact h.lt
theorem AuIs.ablt (h : AuIs W L k ab sb mb nb n f st A) : ab < W.heap.size := cell_lt h.c0
theorem AuIs.kept (h : AuIs W L k ab sb mb nb n f st A) (g : Only T W W') (hT : ∀ j, j < W.heap.size → T j → ¬ Kin k (L j)) (hL : ∀ j, j < W.heap.size → L' j = L j) : AuIs W' L' k ab sb mb nb n f st A := by
  have hk : ∀ j, j < W.heap.size → Kin k (L j) → ¬ T j := fun j hj hq ht => hT j hj ht hq
  have hab := h.ablt
  obtain ⟨m1, e1, h1⟩ := h.lm
  obtain ⟨fa, m2, e2, h2⟩ := h.la
  obtain ⟨F, h3, h4⟩ := h.sh
  have tab : ¬ T ab := hk ab hab (by rw [h.lab]; exact ⟨by omega, by omega⟩)
  refine ⟨(g.cell hab tab 0).trans h.c0, (g.cell hab tab 1).trans h.c1, (g.cell hab tab 2).trans h.c2, (g.cell hab tab 3).trans h.c3, fun i => (g.frozen hab tab i).trans (h.fz i), (hL ab hab).trans h.lab, (hL mb h1.lt).trans h.lmb, (hL nb h2.lt).trans h.lnb,
    ⟨F, h3.kept g fun j hj => hk j (h3.lt j hj) (by rw [h4 j hj]; exact ⟨by omega, by omega⟩), fun j hj => (hL j (h3.lt j hj)).trans (h4 j hj)⟩,
    ⟨m1, e1, h1.kept g (hk mb h1.lt (by rw [h.lmb]; exact ⟨by omega, by omega⟩))⟩, h.val, h.lit, ⟨fa, m2, e2, h2.kept g (hk nb h2.lt (by rw [h.lnb]; exact ⟨by omega, by omega⟩))⟩, fun i P S hi => ?_⟩
  obtain ⟨i12, c, hc, hid, Ft, Fs, m, hm, hS, hB⟩ := h.states i P S hi
  have ha := hS.all
  have hn : ∀ j, BlS Ft Fs (st i) j → ¬ T j := fun j hj => hk j (ha j hj) (by rw [hB j hj]; exact ⟨by omega, by omega⟩)
  exact ⟨i12, c, hc, hid, Ft, Fs, m, hm, hS.kept g (fun j hj => hn j (.inl hj)) (fun j hj => hn j (.inr (.inl hj))) (hn _ (.inr (.inr rfl))), fun j hj => (hL j (ha j hj)).trans (hB j hj)⟩
theorem AuAt.kept (h : AuAt W L k ab n A) (g : Only T W W') (hT : ∀ j, j < W.heap.size → T j → ¬ Kin k (L j)) (hL : ∀ j, j < W.heap.size → L' j = L j) : AuAt W' L' k ab n A := by
  obtain ⟨sb, mb, nb, f, st, h⟩ := h
  exact ⟨sb, mb, nb, f, st, h.kept g hT hL⟩
theorem AuIs.grew (h : AuIs W L k ab sb mb nb n f st A) (g : Grew W W') : AuIs W' L k ab sb mb nb n f st A := h.kept (g.only fun _ => False) (fun _ _ h => h.elim) (fun _ _ => rfl)
theorem AuAt.grew (h : AuAt W L k ab n A) (g : Grew W W') : AuAt W' L k ab n A := h.kept (g.only fun _ => False) (fun _ _ h => h.elim) (fun _ _ => rfl)
theorem AuIs.mono (h : AuIs W L k ab sb mb nb n f st A) {n' : Nat} (hn : n ≤ n') : AuIs W L k ab sb mb nb n' f st A := by
  obtain ⟨m1, e1, h1⟩ := h.lm
  obtain ⟨fa, m2, e2, h2⟩ := h.la
  refine { h with lm := ⟨m1, by omega, h1⟩, la := ⟨fa, m2, by omega, h2⟩, states := fun i P S hi => ?_ }
  obtain ⟨i12, c, hc, hid, Ft, Fs, m, hm, hS, hB⟩ := h.states i P S hi
  exact ⟨i12, c, hc, hid, Ft, Fs, m, by omega, hS, hB⟩
end
end Go.Proofs.YtbdagllflamabaaGreatDoor
namespace Go.Proofs.YtbdagllflamabaaGreatDoor
open Go.RowKit Go.Maps
structure JC (idx : List Nat) (M : Nat → (Nat → Value) → World → Prop) (L : Nat → Bool) (f : Nat → Value) (u : World) : Prop where
  ex : ∃ s, s ≤ idx.length ∧ (∀ j i, idx[j]? = some i → L i = decide (j < s)) ∧ M s f u
section
variable {idx : List Nat} {M : Nat → (Nat → Value) → World → Prop} {L : Nat → Bool} {f : Nat → Value} {u u' : World}
theorem JC.start (h : M 0 f u) : JC idx M (fun _ => false) f u := ⟨0, Nat.zero_le _, fun j i _ => by simp, h⟩
theorem JC.stage (h : JC idx M L f u) (j i : Nat) (hi : idx[j]? = some i) (hL : L i = false) (hp : ∀ k, j = k + 1 → ∃ i', idx[k]? = some i' ∧ L i' = true) : (∀ j' i', idx[j']? = some i' → L i' = decide (j' < j)) ∧ M j f u := by
  obtain ⟨s, hs, h1, h2⟩ := h.ex
  have e1 := h1 j i hi
  rw [hL] at e1
  have hsj : s ≤ j := by
    have := decide_eq_false_iff_not.1 e1.symm
    omega
  have hjs : j ≤ s := by
    cases j with
    | zero => exact Nat.zero_le _
    | succ k =>
      obtain ⟨i', hk, hLk⟩ := hp k rfl
      have e2 := h1 k i' hk
      rw [hLk] at e2
      have := decide_eq_true_iff.1 e2.symm
      omega
  obtain rfl : s = j := by omega
  exact ⟨h1, h2⟩
theorem JC.put (hn : idx.Nodup) (h : JC idx M L f u) (j i : Nat) (hi : idx[j]? = some i) (hL : L i = false) (hp : ∀ k, j = k + 1 → ∃ i', idx[k]? = some i' ∧ L i' = true) {v : Value} (hM : M (j + 1) (updV f i v) u') : JC idx M (plus L i) (updV f i v) u' := by
  obtain ⟨h1, _⟩ := h.stage j i hi hL hp
  obtain ⟨hj, hij⟩ := List.getElem?_eq_some_iff.1 hi
  refine ⟨j + 1, by omega, fun j' i' hi' => ?_, hM⟩
  by_cases e : i' = i
  · subst e
    obtain ⟨hj', hij'⟩ := List.getElem?_eq_some_iff.1 hi'
    have : j' = j := by
      rcases Nat.lt_trichotomy j' j with q | q | q
      · exact absurd (hij'.trans hij.symm) (List.pairwise_iff_getElem.1 hn j' j hj' hj q)
      · exact q
      · exact absurd (hij.trans hij'.symm) (List.pairwise_iff_getElem.1 hn j j' hj hj' q)
    subst this
    simp [plus]
  · rw [plus_ne e, h1 j' i' hi']
    have : j' ≠ j := fun q => e (by subst q; rw [hi] at hi'; exact (Option.some.inj hi').symm)
    exact decide_eq_decide.2 (by omega)
theorem JC.done (h : JC idx M L f u) (ha : ∀ i ∈ idx, L i = true) : M idx.length f u := by
  obtain ⟨s, hs, h1, h2⟩ := h.ex
  by_cases e : s = idx.length
  · exact e ▸ h2
  · have hlt : s < idx.length := by omega
    have q := h1 s _ (List.getElem?_eq_getElem hlt)
    rw [ha _ (List.getElem_mem hlt)] at q
    simp at q
end
end Go.Proofs.YtbdagllflamabaaGreatDoor
