/- Byt22, Byt23, Sm37: one text. -/
import Derived.Test.YtoiahcgaffffbaaGreatDoorFinDeltaBetweenQ5
import Derived.Test.YtoiahcgaffffbaaGreatDoorFinDeltaBetweenQ38
import Derived.Test.YtoiahcgaffffbaaGreatDoorFinDeltaBetweenQ39
import Derived.Test.YtoiahcgaffffbaaGreatDoorFinDeltaBetweenQ42
set_option linter.unusedVariables false
set_option linter.unusedSectionVars false
set_option linter.unusedSimpArgs false
namespace Go.Proofs.YtoiahcgaffffbaaGreatDoor
open Go.RowKit Go.Maps
attribute [local go_sem] Oper.semAt_some uponV
theorem Bz.set0 {w W : World} {V : List (Nat × List Value)} {g c : Nat} {x y : Int} {cs : List Int} (h : Bz w W V (.slice (some ⟨g, 0, none⟩) (x :: cs).length c) (x :: cs)) : Bz w (W.setCell ⟨g, 0, none⟩ (.int .u8 y)) V (.slice (some ⟨g, 0, none⟩) (y :: cs).length c) (y :: cs) := by
  obtain ⟨h1, h2⟩ := h.row.row.stored 0 (.int .u8 y)
  obtain ⟨k1, k2⟩ := h.row.next (v' := .slice (some ⟨g, 0, none⟩) (y :: cs).length c) (ds := y :: cs) ⟨_, _, rfl⟩ h1 h2 (fun j hj => .inl hj)
  exact h.next k1 k2
def RN22 (y : World) (T : TypeId) (x : Int × An) (i : Nat) (v : Value) (u : World) : Prop := (i = 21 → ∃ nb, v = .slice (some ⟨nb, 0, none⟩) 4 4 ∧ y.heap.size ≤ nb ∧ u.heap[nb]? = some (.cells (clVals x).toArray T (0, 0))) ∧ (i = 22 → v = .int .i64 4)
theorem RN22.mono (y : World) (T : TypeId) (x : Int × An) : MonoQ (RN22 y T x) := fun i v u u' h g => ⟨fun e => by
  obtain ⟨vb, h1, h2, h3⟩ := h.1 e
  exact ⟨vb, h1, h2, (g.below.block vb (Array.getElem?_eq_some_iff.1 h3).1).trans h3⟩, fun e => h.2 e⟩
set_option maxRecDepth 100000 in
set_option maxHeartbeats 8000000 in
theorem bytes22_any {w : World} {rb : Nat} {S : Int → Option An} (h : MSeen w rb S) :
    Calls Tryz.prog 146 #[.pointer (some ⟨rb, 0, none⟩)] w fun e w' => ∃ v, e = .returned v ∧ BytesV w.heap.size (seenB S) v w' ∧ Grew w w' := by
  have HS := hid h
  have HOK := hid h.ok
  have HB0 := hid (show Bz w (w.alloc (.cells #[.int .u8 0] 5)) [] (.slice (some ⟨w.heap.size, 0, none⟩) 1 1) (((clTo S 1).length : Int) :: clsB (clTo S 1)) from Bz.start ((Grew.refl w).alloc _) ⟨_, 1, rfl, World.ownsRow_lit w #[.int .u8 0] 1 (Nat.le_refl _) (by decide) rfl⟩)
  clear h
  go_enter Tryz.func146, Tryz.ntmps146
  go_wp2_with fail
  go_loopw [3, 4] (fun v i wr => ∃ k : Nat, 1 ≤ k ∧ k ≤ 5 ∧ i = .int .i64 k ∧ Hid (Bz w wr [] v (((clTo S k).length : Int) :: clsB (clTo S k)))) (fun _ i _ => 5 - (intOf i).toNat)
  case atStart => exact ⟨1, by omega, by omega, rfl, HB0.out⟩
  case round =>
    obtain ⟨k, hk1, hk5, rfl, HB⟩ := hrel
    by_cases hlt : k ≤ 4
    · have HSW := hid (HS.out.grew HB.out.grew)
      have HNX := hid (clTo_next S k hk1 hlt)
      have hcl := clTo_len S k
      have d0 := HSW.out.seq k (by omega)
      have d1 := HSW.out.code k (by omega)
      have d2 := HSW.out.at_ k (by omega)
      have hybr := HSW.out.lt
      have HCK := hid (fun a (h : S (k : Int) = some a) => (HOK.out _ a h).2.2)
      generalize hS : S (k : Int) = so at *
      cases so with
      | none =>
        have HE6 := hid (show clTo S (k + 1) = clTo S k from HNX.out.trans (List.append_nil _))
        clear hS HNX d1 d2 HCK hcl
        unfold seqO at d0
        dsimp only at d0
        have hB := HB.out
        rw [← HE6.out] at hB
        have HBB := hid hB
        clear hB
        obtain rfl | rfl | rfl | rfl : k = 1 ∨ k = 2 ∨ k = 3 ∨ k = 4 := by omega
        all_goals
          go_wp2_with fail
          go_roundw
          case rel =>
            first
              | exact ⟨2, by omega, by omega, by go_num, HBB⟩
              | exact ⟨3, by omega, by omega, by go_num, HBB⟩
              | exact ⟨4, by omega, by omega, by go_num, HBB⟩
              | exact ⟨5, by omega, by omega, by go_num, HBB⟩
          case measure => simp [intOf]
      | some a =>
        obtain ⟨xq, xk, xt⟩ := a
        obtain ⟨q1, q2, q3, q4, q5⟩ := HCK.out _ rfl
        have HE6 := hid (show clTo S (k + 1) = clTo S k ++ [((k : Int), ⟨xq, xk, xt⟩)] from HNX.out)
        have HL6 := hid (clTo_len S (k + 1))
        clear hS HNX HCK
        unfold seqO at d0
        unfold codeO at d1
        unfold atO at d2
        dsimp only at d0 d1 d2 q1 q2 q3 q4 q5
        have hq1 : 0 < xq := by omega
        have HE7 := hid (show ((clTo S (k + 1)).length : Int) = ((clTo S k).length : Int) + 1 ∧ clsB (clTo S (k + 1)) = clsB (clTo S k) ++ clB ((k : Int), ⟨xq, xk, xt⟩) from by
          rw [HE6.out]
          constructor
          · simp
          · simp [clsB])
        have hm4 : (clTo S (k + 1)).length ≤ 4 := HL6.out
        have HSTEP : Hid (∀ (W : World) v, Bz w W [] v ((((clTo S k).length : Int) + 1) :: (clsB (clTo S k) ++ clB ((k : Int), ⟨xq, xk, xt⟩))) → Bz w W [] v (((clTo S (k + 1)).length : Int) :: clsB (clTo S (k + 1)))) := fun W v h => by rw [HE7.out.2, HE7.out.1]; exact h
        have hm5 : ((clTo S k).length : Int) + 1 ≤ 4 := by have := HE7.out.1; omega
        have hlen : (clsB (clTo S k)).length ≤ 1000 := by
          have h1 := clsB_len (clTo S k) (fun x hx => by
            obtain ⟨c, _, hc⟩ := List.mem_filterMap.1 hx
            cases hc2 : S c with
            | none => rw [hc2] at hc; cases hc
            | some b => rw [hc2] at hc; cases hc; exact HOK.out _ _ hc2)
          omega
        clear HE6 HL6 HE7 hcl hm4
        obtain ⟨g, cp, hvf, _, hgl⟩ := HB.out.row.row.form (by simp)
        subst hvf
        have cg := HB.out.row.row.cellAt 0 (by simp)
        have fg := HB.out.row.row.frozenAt 0
        have HC0 := hid (show wr.cell? ⟨g, 0, none⟩ = some (.int .u8 ((clTo S k).length : Int)) from cg)
        have cg := HC0.out
        clear HC0
        have HBS := hid (fun y => HB.out.set0 (y := y))
        have hne : g ≠ rb := fun e => by have := (HB.out.row.row.lt g rfl).1; have := HS.out.lt; omega
        generalize hcs : clsB (clTo S k) = cs at *
        generalize hmm : ((clTo S k).length : Int) = m at *
        have hm0 : 0 ≤ m := by omega
        obtain ⟨n, hn⟩ : ∃ n, n = (m :: cs).length := ⟨_, rfl⟩
        have hn0 : (0 : Int) < (n : Int) := by rw [hn]; simp
        rw [← hn]
        have hB9 := HBS.out (m + 1)
        rw [show (((m + 1) :: cs : List Int)).length = n from hn.symm] at hB9
        have HB9 := hid hB9
        have hx1 := (show Only (fun j => j = g) wr (wr.setCell ⟨g, 0, none⟩ (.int .u8 (m + 1))) from Only.setCell wr ⟨g, 0, none⟩ _)
        have HX := hid (show (∀ i u, wr.cell? ⟨rb, i, none⟩ = some u → (wr.setCell ⟨g, 0, none⟩ (.int .u8 (m + 1))).cell? ⟨rb, i, none⟩ = some u) ∧ rb < (wr.setCell ⟨g, 0, none⟩ (.int .u8 (m + 1))).heap.size from ⟨fun i u hu => (hx1.cell hybr (fun e => hne e.symm) i).trans hu, Nat.lt_of_lt_of_le hybr hx1.size⟩)
        have HNL := hid (show n = (((m + 1) :: cs : List Int)).length from hn)
        clear hx1 hB9 HB HBS
        have hw := wrap_u8 (n := m + 1) (by omega) (by omega)
        clear hcs hmm
        obtain ⟨n0, hn0'⟩ : ∃ n0 : Nat, n0 = k := ⟨_, rfl⟩
        obtain ⟨n1, e1⟩ : ∃ n : Nat, (n : Int) = xq := ⟨xq.toNat, by omega⟩
        obtain ⟨n2, e2⟩ : ∃ n : Nat, (n : Int) = xk := ⟨xk.toNat, by omega⟩
        obtain ⟨n3, e3⟩ : ∃ n : Nat, (n : Int) = xt := ⟨xt.toNat, by omega⟩
        obtain ⟨ns, hns⟩ : ∃ ns : List Nat, ns = [n0, n1, n2, n3] := ⟨_, rfl⟩
        have HCB := hid (show clB ((k : Int), ⟨xq, xk, xt⟩) = ns.flatMap Pl.numB from by rw [hns, hn0', ← e1, ← e2, ← e3]; simp [clB])
        have HNB := hid (fun j (hj : j < 4) => show ∃ n, ns[j]? = some n ∧ n < 2000000000 from by
          rw [hns]
          match j, hj with
          | 0, _ => exact ⟨_, rfl, by omega⟩
          | 1, _ => exact ⟨_, rfl, by omega⟩
          | 2, _ => exact ⟨_, rfl, by omega⟩
          | 3, _ => exact ⟨_, rfl, by omega⟩)
        have HFL := hid (show (ns.flatMap Pl.numB).length ≤ 40 from by
          have a0 := Pl.numB_len 4 n0 (by omega)
          have a1 := Pl.numB_len 4 n1 (by omega)
          have a2 := Pl.numB_len 4 n2 (by omega)
          have a3 := Pl.numB_len 4 n3 (by omega)
          rw [hns]
          simp only [List.flatMap_cons, List.flatMap_nil, List.length_append, List.length_nil]
          omega)
        have HNL4 := hid (show ns.take 4 = ns from by rw [hns]; rfl)
        have HCV := hid (show (clVals ((k : Int), ⟨xq, xk, xt⟩)) = ns.map fun n : Nat => Value.int .i64 (n : Int) from by rw [hns, hn0', ← e1, ← e2, ← e3]; rfl)
        rw [HCB.out] at HSTEP
        have HRM := fun (y : World) => hid (RN22.mono y 3 ((k : Int), ⟨xq, xk, xt⟩))
        clear hns hn0' q1 q2 q3 q4 q5 e1 e2 e3
        obtain rfl | rfl | rfl | rfl : k = 1 ∨ k = 2 ∨ k = 3 ∨ k = 4 := by omega
        all_goals
          simp only [show ((1 : Nat) : Int) = 1 from rfl, show ((2 : Nat) : Int) = 2 from rfl, show ((3 : Nat) : Int) = 3 from rfl, show ((4 : Nat) : Int) = 4 from rfl]
          go_upto_region 7 with fail
          obtain ⟨X, hX⟩ : ∃ X, X = wr.setCell ⟨g, 0, none⟩ (.int .u8 (m + 1)) := ⟨_, rfl⟩
          rw [← hX] at HB9 HX ⊢
          have D0 := wd_cell (HX.out.1 _ _ d0)
          have D1 := wd_cell (HX.out.1 _ _ d1)
          have D2 := wd_cell (HX.out.1 _ _ d2)
          have hrX := HX.out.2
          simp only [Nat.reduceMul, Nat.reduceAdd] at D0 D1 D2
          clear hX d0 d1 d2 cg fg hw
          refine wp_region_mixS 24 [21, 22] (Grew X) Grew (JQ (RN22 X 3 _) X) (fun f a => (a.put (some 45) (f 21)).put (some 46) (f 22)) (by kernel_rfl) (by kernel_rfl) (fun _ _ => rfl) (JQ.start ..) (fun _ _ _ h => h.grew) Grew.refl (fun _ _ _ _ h g => h.more (HRM X).out g) ?_
          repeat (first
    | (refine mixS_loose (by rfl) (by rfl) ?_)
    | (refine mixS_plain (by rfl) (by rfl) (by rfl) (by first | exact Grew.refl | exact fun _ => rfl) (by rfl) ?_; intro K hK; go_big_quiet_op; go_big_quiet_on)
    | (refine mixS_skip (by rfl) (by rfl) (by rfl) ?_; simp only [Act.put, List.setIfInBounds_toArray, List.set_cons_zero, List.set_cons_succ]))
          refine mixS_nil ⟨⟨loose_of rfl (fun _ a => a) (fun _ _ => rfl) (fun _ => rfl) ?_, loose_of rfl (fun f a => a.put (some 45) (f 21)) (fun _ _ => rfl) (fun _ => rfl) ?_, trivial⟩, ?_⟩
          · intro L f u hJ hL hd
            have HJ := hid hJ
            clear hJ hL hd D0 D1 D2
            go_simp
            exact HJ.out.put (HRM X).out 21 ((Grew.refl u).alloc _) ⟨fun _ => ⟨_, rfl, HJ.out.grew.size, heap_alloc_new u _⟩, fun e => absurd e (by decide)⟩
          · intro L f u hJ hL hd
            obtain ⟨nb, e21, _⟩ := (hJ.at_ 21 (hd 21 rfl (by decide))).1 rfl
            have HJ := hid hJ
            clear hJ hL hd D0 D1 D2
            rw [e21]
            clear e21
            go_simp
            exact HJ.out.same (HRM X).out 22 ⟨fun e => absurd e (by decide), fun _ => rfl⟩
          intro f u hJ
          obtain ⟨nb, e21, hnb, hcells⟩ := (hJ.at_ 21 rfl).1 rfl
          have e22 := (hJ.at_ 22 rfl).2 rfl
          rw [HCV.out] at hcells
          have HBZ := hid (HB9.out.add hJ.grew nb (ns.map fun n : Nat => Value.int .i64 (n : Int)) hnb (Array.getElem?_eq_some_iff.1 hcells).1 (fun i v hv => by rw [cell_block hcells]; exact hv))
          clear hJ D0 D1 D2 hnb hcells HX
          dsimp only [List.drop]
          simp only [Act.put, List.setIfInBounds_toArray, List.set_cons_succ, List.set_cons_zero]
          rw [e21, e22]
          clear e21 e22 HRM
          generalize Value.slice (some ⟨g, 0, none⟩) n cp = vv at *
          go_wp2_with fail
          go_loopw [3, 47] (fun v i wr => ∃ (j : Nat) (es : List Int), j ≤ 4 ∧ i = .int .i64 j ∧ Hid (es = (m + 1) :: cs ++ (ns.take j).flatMap Pl.numB) ∧ Hid (Bz w wr [(nb, ns.map fun n : Nat => Value.int .i64 (n : Int))] v es)) (fun _ i _ => 4 - (intOf i).toNat)
          case atStart => exact ⟨0, _, by omega, rfl, by unfold Hid; simp, HBZ⟩
          case round =>
            obtain ⟨j, es, hj, rfl, HEj, HBj⟩ := hrel
            by_cases hj4 : j < 4
            · obtain ⟨n, hn1, hn2⟩ := HNB.out j hj4
              have u := HBj.out.c _ (List.mem_cons_self ..) j (.int .i64 n) (by dsimp only; rw [List.getElem?_map, hn1]; rfl)
              have hul := HBj.out.lt _ (List.mem_cons_self ..)
              dsimp only at u hul
              have htk : (ns.take (j + 1)).flatMap Pl.numB = (ns.take j).flatMap Pl.numB ++ Pl.numB n := by
                obtain ⟨hjl, hju⟩ := List.getElem?_eq_some_iff.1 hn1
                rw [List.take_succ_eq_append_getElem hjl, List.flatMap_append, hju]
                simp
              have htl : ((ns.take j).flatMap Pl.numB).length ≤ 40 := by
                have h := congrArg List.length (show (ns.take j).flatMap Pl.numB ++ (ns.drop j).flatMap Pl.numB = ns.flatMap Pl.numB by rw [← List.flatMap_append, List.take_append_drop])
                rw [List.length_append] at h
                have := HFL.out
                omega
              have HTK := hid (show es ++ Pl.numB n = (m + 1) :: cs ++ (ns.take (j + 1)).flatMap Pl.numB from by rw [HEj.out, htk, List.append_assoc])
              have lc : es.length ≤ 92000 := by rw [HEj.out, List.length_append, List.length_cons]; omega
              have l1 := Pl.numB_len 4 n (by omega)
              clear htk htl hn1 HEj
              go_wp2_with fail
              refine (num4v_any w.heap.size wr n HBj.out.grew.size (by omega)).mono ?_
              rintro e w10 ⟨v10, rfl, hr10, hg10⟩
              have HR10 := hid hr10
              have HB10 := hid (HBj.out.more hg10)
              clear hr10 hg10 HBj
              go_wp2_with (at_builtin; refine wpList_append_bz rfl _ _ rfl rfl HB10.out rfl HR10.out (by omega) ?_)
              intro d11 HD11 a11 c11 w11 hB11
              have HB11 := hid hB11
              clear hB11 HB10 HR10 u hul
              go_wp2_with fail
              go_roundw
              case rel => exact ⟨j + 1, d11, by omega, by go_num, by unfold Hid; rw [HD11.out]; exact HTK.out, HB11⟩
              case measure => simp [intOf]; omega
            · have hjn : j = 4 := by omega
              subst hjn
              rw [HNL4.out] at HEj
              have hB7 := HBj.out.tail
              rw [HEj.out] at hB7
              have HB7 := hid (HSTEP.out _ _ hB7)
              clear hB7 HBj
              go_wp2_with fail
              go_roundw
              case rel =>
                first
                  | exact ⟨2, by omega, by omega, by go_num, HB7⟩
                  | exact ⟨3, by omega, by omega, by go_num, HB7⟩
                  | exact ⟨4, by omega, by omega, by go_num, HB7⟩
                  | exact ⟨5, by omega, by omega, by go_num, HB7⟩
              case measure => simp [intOf]
    · have hk5' : k = 5 := by omega
      subst hk5'
      rw [clTo_all] at HB
      have HEQ := hid (show ((clients S).length : Int) :: clsB (clients S) = seenB S from by
        unfold seenB
        rw [show Pl.numB (clients S).length = [((clients S).length : Int)] from Pl.numB_small (by have := clients_len S; omega)]
        rfl)
      rw [HEQ.out] at HB
      obtain ⟨av, cv, rfl⟩ := HB.out.row.form
      have HF := hid (And.intro HB.out.row.row HB.out.grew)
      clear HEQ HB
      go_wp2_with fail
      go_ret
      exact ⟨.slice av (seenB S).length cv, by simp, ⟨av, cv, rfl, HF.out.1⟩, HF.out.2⟩
end Go.Proofs.YtoiahcgaffffbaaGreatDoor
namespace Go.Proofs.YtoiahcgaffffbaaGreatDoor
open Go.RowKit Go.Maps
attribute [local go_sem] Oper.semAt_some uponV
def RB23 (y : World) (ns ms : List Int) (ts : List ByteArray) (i : Nat) (v : Value) (u : World) : Prop :=
  (i = 14 → BytesV y.heap.size ns v u) ∧ (i = 15 → v = .string (strOfNums ns)) ∧ (i = 20 → BytesV y.heap.size ms v u) ∧ (i = 21 → v = .string (strOfNums ms)) ∧
  (i = 22 → ∃ nb, v = .slice (some ⟨nb, 0, none⟩) 4 4 ∧ y.heap.size ≤ nb ∧ u.heap[nb]? = some (.cells (ts.map Value.string).toArray 9 (0, 0))) ∧ (i = 23 → v = .int .i64 4)
theorem RB23.mono (y : World) (ns ms : List Int) (ts : List ByteArray) : MonoQ (RB23 y ns ms ts) := fun i v u u' h g => ⟨fun e => (h.1 e).grew g, h.2.1, fun e => (h.2.2.1 e).grew g, h.2.2.2.1, fun e => by
  obtain ⟨vb, h1, h2, h3⟩ := h.2.2.2.2.1 e
  exact ⟨vb, h1, h2, (g.below.block vb (Array.getElem?_eq_some_iff.1 h3).1).trans h3⟩, h.2.2.2.2.2⟩
set_option maxRecDepth 100000 in
set_option maxHeartbeats 8000000 in
theorem bytes23_any {w : World} {G : Nat → Prop} {ms sb : Nat} {lo hi : ByteArray} {P D : List Pr} {S : Int → Option An} (h : MsAt w G ms sb lo hi D S) (hT : Pl.Tt P D) (hg : Pl.Good P) (hx : P.length ≤ 1000) (hl : lo.size ≤ 300) (hh : hi.size ≤ 300) (hP : (Pl.tabB P).length ≤ 60000) (hS : (seenB S).length ≤ 1000) :
    Calls Tryz.prog 81 #[.pointer (some ⟨ms, 0, none⟩)] w fun e w' => ∃ v, e = .returned v ∧ BytesV w.heap.size (stB lo hi P S) v w' ∧ Grew w w' := by
  have hlen := stB_len hl hh hP hS
  obtain ⟨tb, h⟩ := h
  have H1 := hid (fun W (g : Grew w W) => bytes21_any ((h.tab.read).grew g) hT hg hx)
  have H2 := hid (fun W (g : Grew w W) => bytes22_any (h.seen.grew g))
  have c0 := h.c0
  have c1 := h.c1
  have c2 := h.c2
  have c3 := h.c3
  have hms : ms < w.heap.size := cell_lt c0
  clear h hT hg
  have HLEN := hid hlen
  have HEQ : Hid (stB lo hi P S = Pl.textB lo ++ Pl.textB hi ++ Pl.textB (strOfNums (Pl.tabB P)) ++ Pl.textB (strOfNums (seenB S))) := rfl
  have HSN := hid (show (strOfNums (Pl.tabB P)).size ≤ 60000 ∧ (strOfNums (seenB S)).size ≤ 60000 from ⟨by rw [strOfNums_size]; exact hP, by rw [strOfNums_size]; omega⟩)
  generalize stB lo hi P S = bs at *
  generalize Pl.tabB P = ns at *
  generalize seenB S = qs at *
  obtain ⟨Y, hY⟩ : ∃ Y, Y = w.alloc (.cells #[] 5) := ⟨_, rfl⟩
  have gY : Grew w Y := by rw [hY]; exact (Grew.refl w).alloc _
  have hB0 : BytesV w.heap.size [] (.slice (some ⟨w.heap.size, 0, none⟩) 0 0) Y := by
    rw [hY]
    exact ⟨_, 0, rfl, World.ownsRow_lit w #[] 0 (Nat.le_refl _) (by decide) rfl⟩
  have HY := hid hY
  have HB0 := hid hB0
  clear hB0 hY
  go_enter Tryz.func81, Tryz.ntmps81
  go_upto_region 2 with fail
  rw [← HY.out]
  have C0 := wd_cell ((gY.cells.1 _ 0 hms).trans c0)
  have C1 := wd_cell ((gY.cells.1 _ 1 hms).trans c1)
  have C2 := wd_cell ((gY.cells.1 _ 2 hms).trans c2)
  have C3 := wd_cell ((gY.cells.1 _ 3 hms).trans c3)
  have hmY := Nat.lt_of_lt_of_le hms gY.size
  have HGY := hid gY
  generalize Value.slice (some ⟨w.heap.size, 0, none⟩) 0 0 = v0 at *
  obtain ⟨ts, hts⟩ : ∃ ts : List ByteArray, ts = [lo, hi, strOfNums ns, strOfNums qs] := ⟨_, rfl⟩
  have HTS := hid hts
  have HRM := hid (RB23.mono Y ns qs ts)
  clear gY c0 c1 c2 c3 hts
  refine wp_region_mixS 25 [14, 15, 20, 21, 22, 23] (Grew Y) Grew (JQ (RB23 Y ns qs ts) Y) (fun f a => (((((a.put (some 21) (f 14)).put (some 22) (f 15)).put (some 27) (f 20)).put (some 28) (f 21)).put (some 29) (f 22)).put (some 30) (f 23)) (by kernel_rfl) (by kernel_rfl) (fun _ _ => rfl) (JQ.start ..) (fun _ _ _ h => h.grew) Grew.refl (fun _ _ _ _ h g => h.more HRM.out g) ?_
  repeat (first
    | (refine mixS_loose (by rfl) (by rfl) ?_)
    | (refine mixS_plain (by rfl) (by rfl) (by rfl) (by first | exact Grew.refl | exact fun _ => rfl) (by rfl) ?_; intro K hK; go_big_quiet_op; go_big_quiet_on)
    | (refine mixS_skip (by rfl) (by rfl) (by rfl) ?_; simp only [Act.put, List.setIfInBounds_toArray, List.set_cons_zero, List.set_cons_succ]))
  refine mixS_nil ⟨⟨loose_of rfl (fun _ a => a) (fun _ _ => rfl) (fun _ => rfl) ?_, loose_of rfl (fun f a => a.put (some 21) (f 14)) (fun _ _ => rfl) (fun _ => rfl) ?_, loose_of rfl (fun f a => a.put (some 21) (f 14)) (fun _ _ => rfl) (fun _ => rfl) ?_, loose_of rfl (fun f a => a.put (some 27) (f 20)) (fun _ _ => rfl) (fun _ => rfl) ?_, loose_of rfl (fun f a => (a.put (some 22) (f 15)).put (some 28) (f 21)) (fun _ _ => rfl) (fun _ => rfl) ?_, loose_of rfl (fun f a => a.put (some 29) (f 22)) (fun _ _ => rfl) (fun _ => rfl) ?_, trivial⟩, ?_⟩
  · intro L f u hJ hL hd
    have HJ := hid hJ
    clear hJ hL hd C0 C1 C2 C3
    go_simp
    refine (H1.out u (HGY.out.trans HJ.out.grew)).mono ?_
    rintro e u' ⟨a, c, rfl, hr, hg⟩
    exact ⟨_, rfl, HJ.out.put HRM.out 14 hg ⟨fun _ => ⟨_, _, rfl, ownsRow_base HJ.out.grew.size hr⟩, fun e => absurd e (by decide), fun e => absurd e (by decide), fun e => absurd e (by decide), fun e => absurd e (by decide), fun e => absurd e (by decide)⟩⟩
  · intro L f u hJ hL hd
    obtain ⟨a, c, e14, hr⟩ := (hJ.at_ 14 (hd 14 rfl (by decide))).1 rfl
    rw [e14] at hr
    obtain ⟨a', c', e', hA, hF, _⟩ := bytesAt_of hr
    cases e'
    have hcv := run_conv_bytes (w := u) rfl hA hF
    have HJ := hid hJ
    clear hJ hL hd C0 C1 C2 C3 hr hA hF
    rw [e14]
    clear e14
    go_simp
    exact HJ.out.same HRM.out 15 ⟨fun e => absurd e (by decide), fun _ => rfl, fun e => absurd e (by decide), fun e => absurd e (by decide), fun e => absurd e (by decide), fun e => absurd e (by decide)⟩
  · intro L f u hJ hL hd
    have HJ := hid hJ
    clear hJ hL hd C0 C1 C2 C3
    go_simp
    refine (H2.out u (HGY.out.trans HJ.out.grew)).mono ?_
    rintro e u' ⟨v, rfl, hr, hg⟩
    obtain ⟨a, c, rfl, hr⟩ := hr
    exact ⟨_, rfl, HJ.out.put HRM.out 20 hg ⟨fun e => absurd e (by decide), fun e => absurd e (by decide), fun _ => ⟨_, _, rfl, ownsRow_base HJ.out.grew.size hr⟩, fun e => absurd e (by decide), fun e => absurd e (by decide), fun e => absurd e (by decide)⟩⟩
  · intro L f u hJ hL hd
    obtain ⟨a, c, e14, hr⟩ := (hJ.at_ 20 (hd 20 rfl (by decide))).2.2.1 rfl
    rw [e14] at hr
    obtain ⟨a', c', e', hA, hF, _⟩ := bytesAt_of hr
    cases e'
    have hcv := run_conv_bytes (w := u) rfl hA hF
    have HJ := hid hJ
    clear hJ hL hd C0 C1 C2 C3 hr hA hF
    rw [e14]
    clear e14
    go_simp
    exact HJ.out.same HRM.out 21 ⟨fun e => absurd e (by decide), fun e => absurd e (by decide), fun e => absurd e (by decide), fun _ => rfl, fun e => absurd e (by decide), fun e => absurd e (by decide)⟩
  · intro L f u hJ hL hd
    have e15 := (hJ.at_ 15 (hd 15 rfl (by decide))).2.1 rfl
    have e21 := (hJ.at_ 21 (hd 21 rfl (by decide))).2.2.2.1 rfl
    have HJ := hid hJ
    clear hJ hL hd C0 C1 C2 C3
    rw [e15, e21]
    clear e15 e21
    go_simp
    exact HJ.out.put HRM.out 22 ((Grew.refl u).alloc _) ⟨fun e => absurd e (by decide), fun e => absurd e (by decide), fun e => absurd e (by decide), fun e => absurd e (by decide), fun _ => ⟨_, rfl, HJ.out.grew.size, by rw [HTS.out]; exact heap_alloc_new u _⟩, fun e => absurd e (by decide)⟩
  · intro L f u hJ hL hd
    obtain ⟨nb, e22, _⟩ := (hJ.at_ 22 (hd 22 rfl (by decide))).2.2.2.2.1 rfl
    have HJ := hid hJ
    clear hJ hL hd C0 C1 C2 C3
    rw [e22]
    clear e22
    go_simp
    exact HJ.out.same HRM.out 23 ⟨fun e => absurd e (by decide), fun e => absurd e (by decide), fun e => absurd e (by decide), fun e => absurd e (by decide), fun e => absurd e (by decide), fun _ => rfl⟩
  intro f u hJ
  obtain ⟨nb, e22, hnb, hcells⟩ := (hJ.at_ 22 rfl).2.2.2.2.1 rfl
  have e23 := (hJ.at_ 23 rfl).2.2.2.2.2 rfl
  have HB1 := hid ((Bz.start HGY.out HB0.out).add hJ.grew nb (ts.map Value.string) hnb (Array.getElem?_eq_some_iff.1 hcells).1 (fun i v hv => by rw [cell_block hcells]; simpa using hv))
  have HSL := hid (fun (j : Nat) (hj : j < 4) => show ∃ t, ts[j]? = some t ∧ t.size ≤ 60000 from by
    rw [HTS.out]
    have e2 := HSN.out
    match j, hj with
    | 0, _ => exact ⟨lo, rfl, by omega⟩
    | 1, _ => exact ⟨hi, rfl, by omega⟩
    | 2, _ => exact ⟨_, rfl, e2.1⟩
    | 3, _ => exact ⟨_, rfl, e2.2⟩)
  have HBS : Hid ((ts.take 4).flatMap Pl.textB = bs) := by
    unfold Hid
    rw [HEQ.out, HTS.out]
    simp [List.append_assoc]
  have HLT := hid (fun (j : Nat) (hj : j ≤ 4) => show ((ts.take j).flatMap Pl.textB).length ≤ 65000 from by
    have h4 : bs = ts.flatMap Pl.textB := by rw [HEQ.out, HTS.out]; simp [List.append_assoc]
    have h5 : (ts.take j).flatMap Pl.textB ++ (ts.drop j).flatMap Pl.textB = bs := by rw [h4, ← List.flatMap_append, List.take_append_drop]
    have h6 := congrArg List.length h5
    rw [List.length_append] at h6
    have := HLEN.out
    omega)
  clear hJ C0 C1 C2 C3 hnb hcells
  dsimp only [List.drop]
  simp only [Act.put, List.setIfInBounds_toArray, List.set_cons_succ, List.set_cons_zero]
  rw [e22, e23]
  clear e22 e23 HRM HTS
  go_wp2_with fail
  go_loopw [3, 31] (fun v i wr => ∃ (j : Nat) (es : List Int), j ≤ 4 ∧ i = .int .i64 j ∧ Hid (es = (ts.take j).flatMap Pl.textB) ∧ Hid (Bz w wr [(nb, ts.map Value.string)] v es)) (fun _ i _ => 4 - (intOf i).toNat)
  case atStart => exact ⟨0, _, by omega, rfl, by unfold Hid; simp, HB1⟩
  case round =>
    obtain ⟨j, es, hj, rfl, HEj, HBj⟩ := hrel
    by_cases hj4 : j < 4
    · obtain ⟨t, hn1, hn2⟩ := HSL.out j hj4
      have q := HBj.out.c _ (List.mem_cons_self ..) j (.string t) (by dsimp only; rw [List.getElem?_map, hn1]; rfl)
      have hul := HBj.out.lt _ (List.mem_cons_self ..)
      dsimp only at q hul
      have htk : (ts.take (j + 1)).flatMap Pl.textB = (ts.take j).flatMap Pl.textB ++ Pl.textB t := by
        obtain ⟨hjl, hju⟩ := List.getElem?_eq_some_iff.1 hn1
        rw [List.take_succ_eq_append_getElem hjl, List.flatMap_append, hju]
        simp
      have HTK := hid (show es ++ Pl.textB t = (ts.take (j + 1)).flatMap Pl.textB from by rw [HEj.out, htk])
      have lc : es.length ≤ 65000 := by rw [HEj.out]; exact HLT.out j (by omega)
      have l1 := Pl.textB_len t (by omega)
      clear htk hn1 HEj
      go_wp2_with fail
      refine (text4v_any w.heap.size wr t HBj.out.grew.size (by omega)).mono ?_
      rintro e w10 ⟨v10, rfl, hr10, hg10⟩
      have HR10 := hid hr10
      have HB10 := hid (HBj.out.more hg10)
      clear hr10 hg10 HBj
      go_wp2_with (at_builtin; refine wpList_append_bz rfl _ _ rfl rfl HB10.out rfl HR10.out (by omega) ?_)
      intro d11 HD11 a11 c11 w11 hB11
      have HB11 := hid hB11
      clear hB11 HB10 HR10 q hul
      go_wp2_with fail
      go_roundw
      case rel => exact ⟨j + 1, d11, by omega, by go_num, by unfold Hid; rw [HD11.out]; exact HTK.out, HB11⟩
      case measure => simp [intOf]; omega
    · have hjn : j = 4 := by omega
      subst hjn
      rw [HBS.out] at HEj
      have hB7 := HBj.out.tail
      obtain ⟨av, cv, rfl⟩ := hB7.row.form
      have HF := hid (show BytesV w.heap.size bs (.slice av es.length cv) wr ∧ Grew w wr from ⟨⟨av, cv, by rw [HEj.out], by rw [← HEj.out]; exact hB7.row.row⟩, hB7.grew⟩)
      clear hB7 HBj
      go_wp2_with fail
      go_ret
      exact ⟨.slice av es.length cv, by simp, HF.out⟩
end Go.Proofs.YtoiahcgaffffbaaGreatDoor
namespace Go.Proofs.YtoiahcgaffffbaaGreatDoor
open Go.RowKit Go.Maps
attribute [local go_sem] Oper.semAt_some uponV
def RSm (y : World) (bs : List Int) (i : Nat) (v : Value) (u : World) : Prop := (i = 6 → BytesV y.heap.size bs v u) ∧ (i = 7 → v = .string (strOfNums bs))
theorem RSm.mono (y : World) (bs : List Int) : MonoQ (RSm y bs) := fun i v u u' h g => ⟨fun e => (h.1 e).grew g, h.2⟩
set_option maxRecDepth 100000 in
set_option maxHeartbeats 4000000 in
theorem same37L_any {w : World} {G : Nat → Prop} {st ms sb : Nat} {lo hi : ByteArray} {P D : List Pr} {S : Int → Option An} (ha : StG w st lo hi P S) (h : MsAt w G ms sb lo hi D S) (hT : Pl.Tt P D) :
    Calls Tryz.prog 21 #[.pointer (some ⟨st, 0, none⟩), .pointer (some ⟨ms, 0, none⟩)] w fun e w' => e = .returned (.bool true) ∧ Grew w w' := by
  obtain ⟨Fa, Ga, na, ha1, ha2⟩ := ha.ex
  have hP : (Pl.tabB P).length ≤ 60000 := by have := Pl.tabB_len ha.good (by have := ha.few; omega); have := ha.few; omega
  have hS := Pl.seenB_len ha.ok
  have H1 := hid (bytesS_any ha2 (by have := ha.few; omega) (by omega) ha.lsz ha.hsz hP hS)
  have H2 := hid (fun W (g : Grew w W) => bytes23_any (h.grew g) hT ha.good (by have := ha.few; omega) ha.lsz ha.hsz hP hS)
  clear ha h hT ha2 hP hS
  generalize stB lo hi P S = bs at *
  go_enter Tryz.func21, Tryz.ntmps21
  go_wp2_with fail
  refine H1.out.mono ?_
  rintro e Y ⟨a1, c1, rfl, hr1, hg1⟩
  obtain ⟨a1', c1', e1, hA1, hF1, _⟩ := bytesAt_of hr1
  cases e1
  have HG1 := hid hg1
  have hcv : ∀ p : Wd (Grew Y), (convert 44 9 (.slice a1 bs.length c1)).run Tryz.prog p.w = .ok (.string (strOfNums bs)) p.w := fun p => run_conv_bytes rfl (hA1.grew p.ok) hF1
  clear hr1 hA1 hF1 hg1 H1
  go_upto_region 2 with fail
  have HRM := hid (RSm.mono Y bs)
  refine wp_region_mixS 8 [6, 7] (Grew Y) Grew (JQ (RSm Y bs) Y) (fun f a => (a.put (some 18) (f 6)).put (some 19) (f 7)) (by kernel_rfl) (by kernel_rfl) (fun _ _ => rfl) (JQ.start ..) (fun _ _ _ h => h.grew) Grew.refl (fun _ _ _ _ h g => h.more HRM.out g) ?_
  repeat (first
    | (refine mixS_loose (by rfl) (by rfl) ?_)
    | (refine mixS_plain (by rfl) (by rfl) (by rfl) (by first | exact Grew.refl | exact fun _ => rfl) (by rfl) ?_; intro K hK; go_big_quiet_op; go_big_quiet_on)
    | (refine mixS_skip (by rfl) (by rfl) (by rfl) ?_; simp only [Act.put, List.setIfInBounds_toArray, List.set_cons_zero, List.set_cons_succ]))
  refine mixS_done (by rfl) ⟨⟨loose_of rfl (fun _ a => a) (fun _ _ => rfl) (fun _ => rfl) ?_, loose_of rfl (fun f a => a.put (some 18) (f 6)) (fun _ _ => rfl) (fun _ => rfl) ?_, trivial⟩, ?_⟩
  · intro L f u hJ hL hd
    have HJ := hid hJ
    clear hJ hL hd hcv
    go_simp
    refine (H2.out u (HG1.out.trans HJ.out.grew)).mono ?_
    rintro e u' ⟨v, rfl, hr, hg⟩
    obtain ⟨a, c, rfl, hr⟩ := hr
    exact ⟨_, rfl, HJ.out.put HRM.out 6 hg ⟨fun _ => ⟨_, _, rfl, ownsRow_base HJ.out.grew.size hr⟩, fun e => absurd e (by decide)⟩⟩
  · intro L f u hJ hL hd
    obtain ⟨a, c, e14, hr⟩ := (hJ.at_ 6 (hd 6 rfl (by decide))).1 rfl
    rw [e14] at hr
    obtain ⟨a', c', e', hA, hF, _⟩ := bytesAt_of hr
    cases e'
    have hcv2 := run_conv_bytes (w := u) rfl hA hF
    have HJ := hid hJ
    clear hJ hL hd hcv hr hA hF
    rw [e14]
    clear e14
    go_simp
    exact HJ.out.same HRM.out 7 ⟨fun e => absurd e (by decide), fun _ => rfl⟩
  intro f u hJ
  have e7 := (hJ.at_ 7 rfl).2 rfl
  have HGU := hid (HG1.out.trans hJ.grew)
  clear hJ hcv HRM
  dsimp only [List.drop]
  simp only [Act.put, List.setIfInBounds_toArray, List.set_cons_succ, List.set_cons_zero]
  rw [e7]
  clear e7
  go_wp2_with fail
  go_ret
  exact ⟨rfl, HGU.out⟩
end Go.Proofs.YtoiahcgaffffbaaGreatDoor
