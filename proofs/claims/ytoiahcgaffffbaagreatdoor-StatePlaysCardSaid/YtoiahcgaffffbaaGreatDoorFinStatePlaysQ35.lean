/- Byt23, SmG, Sm37, Sm23: one text. -/
import Derived.Test.YtoiahcgaffffbaaGreatDoorFinStatePlaysQ34
import Derived.Test.YtoiahcgaffffbaaGreatDoorFinStatePlaysQ33
set_option linter.unusedVariables false
set_option linter.unusedSectionVars false
set_option linter.unusedSimpArgs false
namespace Go.Proofs.YtoiahcgaffffbaaGreatDoor
open Go.RowKit Go.Maps
attribute [local go_sem] Oper.semAt_some uponV
def RB23 (y : World) (ns ms : List Int) (ts : List ByteArray) (i : Nat) (v : Value) (u : World) : Prop :=
  (i = 14 → BytesV y.heap.size ns v u) ∧ (i = 15 → v = .string (strOfNums ns)) ∧ (i = 20 → BytesV y.heap.size ms v u) ∧ (i = 21 → v = .string (strOfNums ms)) ∧
  (i = 22 → ∃ nb, v = .slice (some ⟨nb, 0, none⟩) 4 4 ∧ y.heap.size ≤ nb ∧ u.heap[nb]? = some (.cells (ts.map Value.string).toArray 9 (0, 0))) ∧ (i = 23 → v = .int .i64 4)
theorem RB23.mono (y : World) (ns ms : List Int) (ts : List ByteArray) : MonoQ (RB23 y ns ms ts) := fun i v u u' h g => ⟨fun e => (h.1 e).grew g, h.2.1, fun e => (h.2.2.1 e).grew g, h.2.2.2.1, fun e => by
  obtain ⟨vb, h1, h2, h3⟩ := h.2.2.2.2.1 e
  exact ⟨vb, h1, h2, (g.below.block vb (Array.getElem?_eq_some_iff.1 h3).1).trans h3⟩, h.2.2.2.2.2⟩
def MsR (w : World) (ms : Nat) (lo hi : ByteArray) (D : List Pr) (S : Int → Option An) : Prop :=
  ∃ tb sb, w.cell? ⟨ms, 0, none⟩ = some (.string lo) ∧ w.cell? ⟨ms, 1, none⟩ = some (.string hi) ∧ w.cell? ⟨ms, 2, none⟩ = some (.pointer (some ⟨tb, 0, none⟩)) ∧ w.cell? ⟨ms, 3, none⟩ = some (.pointer (some ⟨sb, 0, none⟩)) ∧ MTab w tb D ∧ MSeen w sb S
theorem MsR.grew {w w' : World} {ms : Nat} {lo hi : ByteArray} {D : List Pr} {S : Int → Option An} (h : MsR w ms lo hi D S) (g : Grew w w') : MsR w' ms lo hi D S := by
  obtain ⟨tb, sb, c0, c1, c2, c3, h1, h2⟩ := h
  have l := cell_lt c0
  exact ⟨tb, sb, (g.cells.1 _ _ l).trans c0, (g.cells.1 _ _ l).trans c1, (g.cells.1 _ _ l).trans c2, (g.cells.1 _ _ l).trans c3, h1.grew g, h2.grew g⟩
theorem MsAt.r {w : World} {G : Nat → Prop} {ms sb : Nat} {lo hi : ByteArray} {D : List Pr} {S : Int → Option An} (h : MsAt w G ms sb lo hi D S) : MsR w ms lo hi D S := by
  obtain ⟨tb, h⟩ := h
  exact ⟨tb, sb, h.c0, h.c1, h.c2, h.c3, h.tab.read, h.seen⟩
set_option maxRecDepth 100000 in
set_option maxHeartbeats 8000000 in
theorem bytes23_any {w : World} {ms : Nat} {lo hi : ByteArray} {P D : List Pr} {S : Int → Option An} (h : MsR w ms lo hi D S) (hT : Pl.Tt P D) (hg : Pl.Good P) (hx : P.length ≤ 1000) (hl : lo.size ≤ 300) (hh : hi.size ≤ 300) (hP : (Pl.tabB P).length ≤ 60000) (hS : (seenB S).length ≤ 1000) :
    Calls Tryz.prog 81 #[.pointer (some ⟨ms, 0, none⟩)] w fun e w' => ∃ v, e = .returned v ∧ BytesV w.heap.size (stB lo hi P S) v w' ∧ Grew w w' := by
  have hlen := stB_len hl hh hP hS
  obtain ⟨tb, sb, c0, c1, c2, c3, h1, h2⟩ := h
  have H1 := hid (fun W (g : Grew w W) => bytes21_any (h1.grew g) hT hg hx)
  have H2 := hid (fun W (g : Grew w W) => bytes22_any (h2.grew g))
  have hms : ms < w.heap.size := cell_lt c0
  clear h1 h2 hT hg
  have HLEN := hid hlen
  have HEQ : Hid (stB lo hi P S = Pl.textB lo ++ Pl.textB hi ++ Pl.textB (strOfNums (Pl.tabB P)) ++ Pl.textB (strOfNums (seenB S))) := rfl
  have HSN := hid (show (strOfNums (Pl.tabB P)).size ≤ 60000 ∧ (strOfNums (seenB S)).size ≤ 60000 from ⟨by rw [strOfNums_size]; exact hP, by rw [strOfNums_size]; omega⟩)
  generalize stB lo hi P S = bs at *
  generalize Pl.tabB P = ns at *
  generalize seenB S = qs at *
  obtain ⟨Y, hY⟩ : ∃ Y, Y = w.alloc (.cells #[] 5) := ⟨_, rfl⟩
  have gY : Grew w Y := by rw [hY]; exact (Grew.refl w).alloc _
  have hB0 : BytesV w.heap.size [] (.slice (some ⟨w.heap.size, 0, none⟩) 0 0) Y := by
    rw [hY]
    exact ⟨_, 0, rfl, World.ownsRow_lit w #[] 0 (Nat.le_refl _) (by decide) rfl⟩
  have HY := hid hY
  have HB0 := hid hB0
  clear hB0 hY
  go_enter Tryz.func81, Tryz.ntmps81
  go_upto_region 2 with fail
  rw [← HY.out]
  have C0 := wd_cell ((gY.cells.1 _ 0 hms).trans c0)
  have C1 := wd_cell ((gY.cells.1 _ 1 hms).trans c1)
  have C2 := wd_cell ((gY.cells.1 _ 2 hms).trans c2)
  have C3 := wd_cell ((gY.cells.1 _ 3 hms).trans c3)
  have hmY := Nat.lt_of_lt_of_le hms gY.size
  have HGY := hid gY
  generalize Value.slice (some ⟨w.heap.size, 0, none⟩) 0 0 = v0 at *
  obtain ⟨ts, hts⟩ : ∃ ts : List ByteArray, ts = [lo, hi, strOfNums ns, strOfNums qs] := ⟨_, rfl⟩
  have HTS := hid hts
  have HRM := hid (RB23.mono Y ns qs ts)
  clear gY c0 c1 c2 c3 hts
  refine wp_region_mixS 25 [14, 15, 20, 21, 22, 23] (Grew Y) Grew (JQ (RB23 Y ns qs ts) Y) (fun f a => (((((a.put (some 21) (f 14)).put (some 22) (f 15)).put (some 27) (f 20)).put (some 28) (f 21)).put (some 29) (f 22)).put (some 30) (f 23)) (by kernel_rfl) (by kernel_rfl) (fun _ _ => rfl) (JQ.start ..) (fun _ _ _ h => h.grew) Grew.refl (fun _ _ _ _ h g => h.more HRM.out g) ?_
  repeat (first
    | (refine mixS_loose (by rfl) (by rfl) ?_)
    | (refine mixS_plain (by rfl) (by rfl) (by rfl) (by first | exact Grew.refl | exact fun _ => rfl) (by rfl) ?_; intro K hK; go_big_quiet_op; go_big_quiet_on)
    | (refine mixS_skip (by rfl) (by rfl) (by rfl) ?_; simp only [Act.put, List.setIfInBounds_toArray, List.set_cons_zero, List.set_cons_succ]))
  refine mixS_nil ⟨⟨loose_of rfl (fun _ a => a) (fun _ _ => rfl) (fun _ => rfl) ?_, loose_of rfl (fun f a => a.put (some 21) (f 14)) (fun _ _ => rfl) (fun _ => rfl) ?_, loose_of rfl (fun f a => a.put (some 21) (f 14)) (fun _ _ => rfl) (fun _ => rfl) ?_, loose_of rfl (fun f a => a.put (some 27) (f 20)) (fun _ _ => rfl) (fun _ => rfl) ?_, loose_of rfl (fun f a => (a.put (some 22) (f 15)).put (some 28) (f 21)) (fun _ _ => rfl) (fun _ => rfl) ?_, loose_of rfl (fun f a => a.put (some 29) (f 22)) (fun _ _ => rfl) (fun _ => rfl) ?_, trivial⟩, ?_⟩
  · intro L f u hJ hL hd
    have HJ := hid hJ
    clear hJ hL hd C0 C1 C2 C3
    go_simp
    refine (H1.out u (HGY.out.trans HJ.out.grew)).mono ?_
    rintro e u' ⟨a, c, rfl, hr, hg⟩
    exact ⟨_, rfl, HJ.out.put HRM.out 14 hg ⟨fun _ => ⟨_, _, rfl, ownsRow_base HJ.out.grew.size hr⟩, fun e => absurd e (by decide), fun e => absurd e (by decide), fun e => absurd e (by decide), fun e => absurd e (by decide), fun e => absurd e (by decide)⟩⟩
  · intro L f u hJ hL hd
    obtain ⟨a, c, e14, hr⟩ := (hJ.at_ 14 (hd 14 rfl (by decide))).1 rfl
    rw [e14] at hr
    obtain ⟨a', c', e', hA, hF, _⟩ := bytesAt_of hr
    cases e'
    have hcv := run_conv_bytes (w := u) rfl hA hF
    have HJ := hid hJ
    clear hJ hL hd C0 C1 C2 C3 hr hA hF
    rw [e14]
    clear e14
    go_simp
    exact HJ.out.same HRM.out 15 ⟨fun e => absurd e (by decide), fun _ => rfl, fun e => absurd e (by decide), fun e => absurd e (by decide), fun e => absurd e (by decide), fun e => absurd e (by decide)⟩
  · intro L f u hJ hL hd
    have HJ := hid hJ
    clear hJ hL hd C0 C1 C2 C3
    go_simp
    refine (H2.out u (HGY.out.trans HJ.out.grew)).mono ?_
    rintro e u' ⟨v, rfl, hr, hg⟩
    obtain ⟨a, c, rfl, hr⟩ := hr
    exact ⟨_, rfl, HJ.out.put HRM.out 20 hg ⟨fun e => absurd e (by decide), fun e => absurd e (by decide), fun _ => ⟨_, _, rfl, ownsRow_base HJ.out.grew.size hr⟩, fun e => absurd e (by decide), fun e => absurd e (by decide), fun e => absurd e (by decide)⟩⟩
  · intro L f u hJ hL hd
    obtain ⟨a, c, e14, hr⟩ := (hJ.at_ 20 (hd 20 rfl (by decide))).2.2.1 rfl
    rw [e14] at hr
    obtain ⟨a', c', e', hA, hF, _⟩ := bytesAt_of hr
    cases e'
    have hcv := run_conv_bytes (w := u) rfl hA hF
    have HJ := hid hJ
    clear hJ hL hd C0 C1 C2 C3 hr hA hF
    rw [e14]
    clear e14
    go_simp
    exact HJ.out.same HRM.out 21 ⟨fun e => absurd e (by decide), fun e => absurd e (by decide), fun e => absurd e (by decide), fun _ => rfl, fun e => absurd e (by decide), fun e => absurd e (by decide)⟩
  · intro L f u hJ hL hd
    have e15 := (hJ.at_ 15 (hd 15 rfl (by decide))).2.1 rfl
    have e21 := (hJ.at_ 21 (hd 21 rfl (by decide))).2.2.2.1 rfl
    have HJ := hid hJ
    clear hJ hL hd C0 C1 C2 C3
    rw [e15, e21]
    clear e15 e21
    go_simp
    exact HJ.out.put HRM.out 22 ((Grew.refl u).alloc _) ⟨fun e => absurd e (by decide), fun e => absurd e (by decide), fun e => absurd e (by decide), fun e => absurd e (by decide), fun _ => ⟨_, rfl, HJ.out.grew.size, by rw [HTS.out]; exact heap_alloc_new u _⟩, fun e => absurd e (by decide)⟩
  · intro L f u hJ hL hd
    obtain ⟨nb, e22, _⟩ := (hJ.at_ 22 (hd 22 rfl (by decide))).2.2.2.2.1 rfl
    have HJ := hid hJ
    clear hJ hL hd C0 C1 C2 C3
    rw [e22]
    clear e22
    go_simp
    exact HJ.out.same HRM.out 23 ⟨fun e => absurd e (by decide), fun e => absurd e (by decide), fun e => absurd e (by decide), fun e => absurd e (by decide), fun e => absurd e (by decide), fun _ => rfl⟩
  intro f u hJ
  obtain ⟨nb, e22, hnb, hcells⟩ := (hJ.at_ 22 rfl).2.2.2.2.1 rfl
  have e23 := (hJ.at_ 23 rfl).2.2.2.2.2 rfl
  have HB1 := hid ((Bz.start HGY.out HB0.out).add hJ.grew nb (ts.map Value.string) hnb (Array.getElem?_eq_some_iff.1 hcells).1 (fun i v hv => by rw [cell_block hcells]; simpa using hv))
  have HSL := hid (fun (j : Nat) (hj : j < 4) => show ∃ t, ts[j]? = some t ∧ t.size ≤ 60000 from by
    rw [HTS.out]
    have e2 := HSN.out
    match j, hj with
    | 0, _ => exact ⟨lo, rfl, by omega⟩
    | 1, _ => exact ⟨hi, rfl, by omega⟩
    | 2, _ => exact ⟨_, rfl, e2.1⟩
    | 3, _ => exact ⟨_, rfl, e2.2⟩)
  have HBS : Hid ((ts.take 4).flatMap Pl.textB = bs) := by
    unfold Hid
    rw [HEQ.out, HTS.out]
    simp [List.append_assoc]
  have HLT := hid (fun (j : Nat) (hj : j ≤ 4) => show ((ts.take j).flatMap Pl.textB).length ≤ 65000 from by
    have h4 : bs = ts.flatMap Pl.textB := by rw [HEQ.out, HTS.out]; simp [List.append_assoc]
    have h5 : (ts.take j).flatMap Pl.textB ++ (ts.drop j).flatMap Pl.textB = bs := by rw [h4, ← List.flatMap_append, List.take_append_drop]
    have h6 := congrArg List.length h5
    rw [List.length_append] at h6
    have := HLEN.out
    omega)
  clear hJ C0 C1 C2 C3 hnb hcells
  dsimp only [List.drop]
  simp only [Act.put, List.setIfInBounds_toArray, List.set_cons_succ, List.set_cons_zero]
  rw [e22, e23]
  clear e22 e23 HRM HTS
  go_wp2_with fail
  go_loopw [3, 31] (fun v i wr => ∃ (j : Nat) (es : List Int), j ≤ 4 ∧ i = .int .i64 j ∧ Hid (es = (ts.take j).flatMap Pl.textB) ∧ Hid (Bz w wr [(nb, ts.map Value.string)] v es)) (fun _ i _ => 4 - (intOf i).toNat)
  case atStart => exact ⟨0, _, by omega, rfl, by unfold Hid; simp, HB1⟩
  case round =>
    obtain ⟨j, es, hj, rfl, HEj, HBj⟩ := hrel
    by_cases hj4 : j < 4
    · obtain ⟨t, hn1, hn2⟩ := HSL.out j hj4
      have q := HBj.out.c _ (List.mem_cons_self ..) j (.string t) (by dsimp only; rw [List.getElem?_map, hn1]; rfl)
      have hul := HBj.out.lt _ (List.mem_cons_self ..)
      dsimp only at q hul
      have htk : (ts.take (j + 1)).flatMap Pl.textB = (ts.take j).flatMap Pl.textB ++ Pl.textB t := by
        obtain ⟨hjl, hju⟩ := List.getElem?_eq_some_iff.1 hn1
        rw [List.take_succ_eq_append_getElem hjl, List.flatMap_append, hju]
        simp
      have HTK := hid (show es ++ Pl.textB t = (ts.take (j + 1)).flatMap Pl.textB from by rw [HEj.out, htk])
      have lc : es.length ≤ 65000 := by rw [HEj.out]; exact HLT.out j (by omega)
      have l1 := Pl.textB_len t (by omega)
      clear htk hn1 HEj
      go_wp2_with fail
      refine (text4v_any w.heap.size wr t HBj.out.grew.size (by omega)).mono ?_
      rintro e w10 ⟨v10, rfl, hr10, hg10⟩
      have HR10 := hid hr10
      have HB10 := hid (HBj.out.more hg10)
      clear hr10 hg10 HBj
      go_wp2_with (at_builtin; refine wpList_append_bz rfl _ _ rfl rfl HB10.out rfl HR10.out (by omega) ?_)
      intro d11 HD11 a11 c11 w11 hB11
      have HB11 := hid hB11
      clear hB11 HB10 HR10 q hul
      go_wp2_with fail
      go_roundw
      case rel => exact ⟨j + 1, d11, by omega, by go_num, by unfold Hid; rw [HD11.out]; exact HTK.out, HB11⟩
      case measure => simp [intOf]; omega
    · have hjn : j = 4 := by omega
      subst hjn
      rw [HBS.out] at HEj
      have hB7 := HBj.out.tail
      obtain ⟨av, cv, rfl⟩ := hB7.row.form
      have HF := hid (show BytesV w.heap.size bs (.slice av es.length cv) wr ∧ Grew w wr from ⟨⟨av, cv, by rw [HEj.out], by rw [← HEj.out]; exact hB7.row.row⟩, hB7.grew⟩)
      clear hB7 HBj
      go_wp2_with fail
      go_ret
      exact ⟨.slice av es.length cv, by simp, HF.out⟩
end Go.Proofs.YtoiahcgaffffbaaGreatDoor
namespace Go.Proofs.YtoiahcgaffffbaaGreatDoor
open Go.RowKit Go.Maps
attribute [local go_sem] Oper.semAt_some uponV
end Go.Proofs.YtoiahcgaffffbaaGreatDoor
namespace Go.Proofs.YtoiahcgaffffbaaGreatDoor
open Go.RowKit Go.Maps
attribute [local go_sem] Oper.semAt_some uponV
def RSm (y : World) (bs : List Int) (i : Nat) (v : Value) (u : World) : Prop := (i = 6 → BytesV y.heap.size bs v u) ∧ (i = 7 → v = .string (strOfNums bs))
theorem RSm.mono (y : World) (bs : List Int) : MonoQ (RSm y bs) := fun i v u u' h g => ⟨fun e => (h.1 e).grew g, h.2⟩
end Go.Proofs.YtoiahcgaffffbaaGreatDoor
namespace Go.Proofs.YtoiahcgaffffbaaGreatDoor
open Go.RowKit Go.Maps
attribute [local go_sem] Oper.semAt_some uponV
def RVt (k : Nat) (R0 : Value → World → Prop) (vs : Nat → Option Value) (i : Nat) (v : Value) (u : World) : Prop := (i = k → R0 v u) ∧ ∀ c, vs i = some c → v = c
theorem RVt.mono {k : Nat} {R0 : Value → World → Prop} (h0 : ∀ v u u', R0 v u → Grew u u' → R0 v u') (vs : Nat → Option Value) : MonoQ (RVt k R0 vs) := fun i v u u' h g => ⟨fun e => h0 _ _ _ (h.1 e) g, h.2⟩
theorem RVt.val {k : Nat} {R0 : Value → World → Prop} {vs : Nat → Option Value} {i : Nat} {c : Value} {u : World} (hk : i ≠ k) (h : vs i = some c) : RVt k R0 vs i c u := ⟨fun e => absurd e hk, fun d hd => by rw [h] at hd; exact Option.some.inj hd⟩
def vSm (bs : List Int) (st ms : Nat) (lo hi : ByteArray) : Nat → Option Value
  | 7 => some (.string (strOfNums bs))
  | 8 => some (.bool true)
  | 9 => some (.bool true)
  | 10 => some (.bool true)
  | 11 => some (.pointer (some ⟨st, 0, none⟩))
  | 12 => some (.agg #[.string lo, .string hi])
  | 13 => some (.pointer (some ⟨ms, 0, none⟩))
  | 14 => some (.pointer (some ⟨ms, 0, none⟩))
  | 15 => some (.pointer (some ⟨ms, 0, none⟩))
  | 16 => some (.agg #[.string lo, .string hi])
  | _ => none
set_option maxRecDepth 100000 in
set_option maxHeartbeats 8000000 in
theorem same23L_any {w : World} {st ms : Nat} {lo hi : ByteArray} {P D : List Pr} {S : Int → Option An} (ha : StG w st lo hi P S) (h : MsR w ms lo hi D S) (hT : Pl.Tt P D) :
    Calls Tryz.prog 30 #[.pointer (some ⟨st, 0, none⟩), .pointer (some ⟨ms, 0, none⟩)] w fun e w' => e = .returned (.bool true) ∧ Grew w w' := by
  obtain ⟨Fa, Ga, na, ha1, ha2⟩ := ha.ex
  have hP : (Pl.tabB P).length ≤ 60000 := by have := Pl.tabB_len ha.good (by have := ha.few; omega); have := ha.few; omega
  have hS := Pl.seenB_len ha.ok
  have H1 := hid (bytesS_any ha2 (by have := ha.few; omega) (by omega) ha.lsz ha.hsz hP hS)
  have H2 := hid (fun W (g : Grew w W) => bytes23_any (h.grew g) hT ha.good (by have := ha.few; omega) ha.lsz ha.hsz hP hS)
  have H3 := hid (fun W (g : Grew w W) => spanS_any (ha2.grew g))
  obtain ⟨tb, sb, c0, c1, _, _, _, _⟩ := h
  have hms := cell_lt c0
  clear ha hT ha2 hP hS
  generalize stB lo hi P S = bs at *
  go_enter Tryz.func30, Tryz.ntmps30
  go_wp2_with fail
  refine H1.out.mono ?_
  rintro e Y ⟨a1, k1, rfl, hr1, hg1⟩
  obtain ⟨a1', k1', e1, hA1, hF1, _⟩ := bytesAt_of hr1
  cases e1
  have HG1 := hid hg1
  have hcv : ∀ p : Wd (Grew Y), (convert 44 9 (.slice a1 bs.length k1)).run Tryz.prog p.w = .ok (.string (strOfNums bs)) p.w := fun p => run_conv_bytes rfl (hA1.grew p.ok) hF1
  have d0 := hid ((hg1.cells.1 _ 0 hms).trans c0)
  have d1 := hid ((hg1.cells.1 _ 1 hms).trans c1)
  have hmY := Nat.lt_of_lt_of_le hms hg1.size
  clear hr1 hA1 hF1 hg1 H1 c0 c1
  go_upto_region 2 with fail
  have HRM := hid (RVt.mono (k := 6) (fun v u u' (h : BytesV Y.heap.size bs v u) g => h.grew g) (vSm bs st ms lo hi))
  refine wp_region_mixS 17 [6, 7, 8, 9, 10, 11, 12, 13, 14, 15, 16] (Grew Y) Grew (JQ (RVt 6 (BytesV Y.heap.size bs) (vSm bs st ms lo hi)) Y) (fun f a => ((((((((((a.put (some 18) (f 6)).put (some 19) (f 7)).put (some 20) (f 8)).put (some 21) (f 9)).put (some 22) (f 10)).put (some 23) (f 11)).put (some 24) (f 12)).put (some 25) (f 13)).put (some 26) (f 14)).put (some 27) (f 15)).put (some 28) (f 16)) (by kernel_rfl) (by kernel_rfl) (fun _ _ => rfl) (JQ.start ..) (fun _ _ _ h => h.grew) Grew.refl (fun _ _ _ _ h g => h.more HRM.out g) ?_
  repeat (first
    | (refine mixS_loose (by rfl) (by rfl) ?_)
    | (refine mixS_plain (by rfl) (by rfl) (by rfl) (by first | exact Grew.refl | exact fun _ => rfl) (by rfl) ?_; intro K hK; go_big_quiet_op; go_big_quiet_on)
    | (refine mixS_skip (by rfl) (by rfl) (by rfl) ?_; simp only [Act.put, List.setIfInBounds_toArray, List.set_cons_zero, List.set_cons_succ]))
  refine mixS_done (by rfl) ⟨⟨loose_of rfl (fun _ a => a) (fun _ _ => rfl) (fun _ => rfl) ?_, loose_of rfl (fun f a => a.put (some 18) (f 6)) (fun _ _ => rfl) (fun _ => rfl) ?_, loose_of rfl (fun f a => a.put (some 19) (f 7)) (fun _ _ => rfl) (fun _ => rfl) ?_, loose_of rfl (fun f a => a.put (some 20) (f 8)) (fun _ _ => rfl) (fun _ => rfl) ?_, loose_of rfl (fun f a => (a.put (some 18) (f 6)).put (some 21) (f 9)) (fun _ _ => rfl) (fun _ => rfl) ?_,
    loose_of2 rfl (fun f a => a.put (some 22) (f 10)) (fun _ _ => rfl) ?_, loose_of2 rfl (fun f a => (a.put (some 22) (f 10)).put (some 23) (f 11)) (fun _ _ => rfl) ?_, loose_of2 rfl (fun f a => a.put (some 22) (f 10)) (fun _ _ => rfl) ?_, loose_of2 rfl (fun f a => (a.put (some 22) (f 10)).put (some 25) (f 13)) (fun _ _ => rfl) ?_, loose_of2 rfl (fun f a => (a.put (some 22) (f 10)).put (some 26) (f 14)) (fun _ _ => rfl) ?_, loose_of2 rfl (fun f a => (a.put (some 22) (f 10)).put (some 27) (f 15)) (fun _ _ => rfl) ?_, trivial⟩, ?_⟩
  · intro L f u hJ hL hd
    have HJ := hid hJ
    clear hJ hL hd hcv
    go_simp
    refine (H2.out u (HG1.out.trans HJ.out.grew)).mono ?_
    rintro e u' ⟨v, rfl, hr, hg⟩
    obtain ⟨a, c, rfl, hr⟩ := hr
    exact ⟨_, rfl, HJ.out.put HRM.out 6 hg ⟨fun _ => ⟨_, _, rfl, ownsRow_base HJ.out.grew.size hr⟩, fun c hc => by cases hc⟩⟩
  · intro L f u hJ hL hd
    obtain ⟨a, c, e14, hr⟩ := (hJ.at_ 6 (hd 6 rfl (by decide))).1 rfl
    rw [e14] at hr
    obtain ⟨a', c', e', hA, hF, _⟩ := bytesAt_of hr
    cases e'
    have hcv2 := run_conv_bytes (w := u) rfl hA hF
    have HJ := hid hJ
    clear hJ hL hd hcv hr hA hF
    rw [e14]
    clear e14
    go_simp
    exact HJ.out.same HRM.out 7 (.val (by decide) rfl)
  · intro L f u hJ hL hd
    have e7 := (hJ.at_ 7 (hd 7 rfl (by decide))).2 _ rfl
    have HJ := hid hJ
    clear hJ hL hd hcv
    rw [e7]
    clear e7
    go_simp
    exact HJ.out.same HRM.out 8 (.val (by decide) rfl)
  · intro L f u hJ hL hd
    have e8 := (hJ.at_ 8 (hd 8 rfl (by decide))).2 _ rfl
    have HJ := hid hJ
    clear hJ hL hd hcv
    rw [e8]
    clear e8
    go_simp
    exact HJ.out.same HRM.out 9 (.val (by decide) rfl)
  · intro L f u hJ hL hd
    have e9 := (hJ.at_ 9 (hd 9 rfl (by decide))).2 _ rfl
    have HJ := hid hJ
    clear hJ hL hd hcv
    rw [e9]
    clear e9
    go_simp
    exact HJ.out.same HRM.out 10 (.val (by decide) rfl)
  · intro L f u hJ hL hd
    have e10 := (hJ.at_ 10 (hd 10 rfl (by decide))).2 _ rfl
    have HJ := hid hJ
    clear hJ hL hd hcv
    rw [e10]
    clear e10
    refine ⟨by rfl, ?_⟩
    go_simp
    exact HJ.out.same HRM.out 11 (.val (by decide) rfl)
  · intro L f u hJ hL hd
    have e10 := (hJ.at_ 10 (hd 10 rfl (by decide))).2 _ rfl
    have e11 := (hJ.at_ 11 (hd 11 rfl (by decide))).2 _ rfl
    have HJ := hid hJ
    clear hJ hL hd hcv
    rw [e10, e11]
    clear e10 e11
    refine ⟨by rfl, ?_⟩
    go_simp
    refine (H3.out u (HG1.out.trans HJ.out.grew)).mono ?_
    rintro e u' ⟨rfl, hg⟩
    exact ⟨_, rfl, HJ.out.put HRM.out 12 hg (.val (by decide) rfl)⟩
  · intro L f u hJ hL hd
    have e10 := (hJ.at_ 10 (hd 10 rfl (by decide))).2 _ rfl
    have HJ := hid hJ
    clear hJ hL hd hcv
    rw [e10]
    clear e10
    refine ⟨by rfl, ?_⟩
    go_simp
    exact HJ.out.same HRM.out 13 (.val (by decide) rfl)
  · intro L f u hJ hL hd
    have e10 := (hJ.at_ 10 (hd 10 rfl (by decide))).2 _ rfl
    have e13 := (hJ.at_ 13 (hd 13 rfl (by decide))).2 _ rfl
    have HJ := hid hJ
    clear hJ hL hd hcv
    rw [e10, e13]
    clear e10 e13
    refine ⟨by rfl, ?_⟩
    go_simp
    exact HJ.out.same HRM.out 14 (.val (by decide) rfl)
  · intro L f u hJ hL hd
    have e10 := (hJ.at_ 10 (hd 10 rfl (by decide))).2 _ rfl
    have e14 := (hJ.at_ 14 (hd 14 rfl (by decide))).2 _ rfl
    have HJ := hid hJ
    clear hJ hL hd hcv
    rw [e10, e14]
    clear e10 e14
    refine ⟨by rfl, ?_⟩
    go_simp
    exact HJ.out.same HRM.out 15 (.val (by decide) rfl)
  · intro L f u hJ hL hd
    have e10 := (hJ.at_ 10 (hd 10 rfl (by decide))).2 _ rfl
    have e15 := (hJ.at_ 15 (hd 15 rfl (by decide))).2 _ rfl
    have q0 := (hJ.grew.cells.1 _ 0 hmY).trans d0.out
    have q1 := (hJ.grew.cells.1 _ 1 hmY).trans d1.out
    have HJ := hid hJ
    clear hJ hL hd hcv
    rw [e10, e15]
    clear e10 e15
    refine ⟨by rfl, ?_⟩
    go_simp
    exact HJ.out.same HRM.out 16 (.val (by decide) rfl)
  intro f u hJ
  have e7 := (hJ.at_ 7 rfl).2 _ rfl
  have e8 := (hJ.at_ 8 rfl).2 _ rfl
  have e9 := (hJ.at_ 9 rfl).2 _ rfl
  have e10 := (hJ.at_ 10 rfl).2 _ rfl
  have e11 := (hJ.at_ 11 rfl).2 _ rfl
  have e12 := (hJ.at_ 12 rfl).2 _ rfl
  have e13 := (hJ.at_ 13 rfl).2 _ rfl
  have e14 := (hJ.at_ 14 rfl).2 _ rfl
  have e15 := (hJ.at_ 15 rfl).2 _ rfl
  have e16 := (hJ.at_ 16 rfl).2 _ rfl
  have HGU := hid (HG1.out.trans hJ.grew)
  generalize f 6 = v6 at *
  clear hJ hcv HRM
  dsimp only [List.drop]
  simp only [Act.put, List.setIfInBounds_toArray, List.set_cons_succ, List.set_cons_zero]
  rw [e7, e8, e9, e10, e11, e12, e13, e14, e15, e16]
  clear e7 e8 e9 e10 e11 e12 e13 e14 e15 e16
  go_wp2_with fail
  go_ret
  exact ⟨rfl, HGU.out⟩
end Go.Proofs.YtoiahcgaffffbaaGreatDoor
