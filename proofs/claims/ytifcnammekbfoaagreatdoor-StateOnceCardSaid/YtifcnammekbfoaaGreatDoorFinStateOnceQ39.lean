/- St2, St3, SamP: one text. -/
import Derived.Test.YtifcnammekbfoaaGreatDoorFinStateOnceQ34
import Derived.Test.YtifcnammekbfoaaGreatDoorFinStateOnceQ7
import Derived.Test.YtifcnammekbfoaaGreatDoorFinStateOnceQ2
import Derived.BigQuiet
/- The walks of state.Bytes, state.Same. -/
set_option linter.unusedVariables false
set_option linter.unusedSectionVars false
set_option linter.unusedSimpArgs false
namespace Go.Proofs.YtifcnammekbfoaaGreatDoor
open Go.RowKit Go.Maps
attribute [local go_sem] Oper.semAt_some uponV

/-- The four texts of a state, in a slice. -/
structure JTx (y : World) (t0 t1 t2 t3 : ByteArray) (L : Nat → Bool) (f : Nat → Value) (x : World) : Prop where
  grew : Grew y x
  ord : L 15 = true → L 14 = true
  row : L 14 = true → ∃ b, f 14 = .slice (some ⟨b, 0, none⟩) 4 4 ∧ y.heap.size ≤ b ∧ b < x.heap.size ∧ x.cell? ⟨b, 0, none⟩ = some (.string t0) ∧ x.cell? ⟨b, 1, none⟩ = some (.string t1) ∧ x.cell? ⟨b, 2, none⟩ = some (.string t2) ∧ x.cell? ⟨b, 3, none⟩ = some (.string t3)
  len : L 15 = true → f 15 = .int .i64 4
theorem stB_len {lo hi : ByteArray} {P : List Pr} {S : Int → Option An} (hl : lo.size ≤ 300) (hh : hi.size ≤ 300) (hP : (Pl.tabB P).length ≤ 60000) (hS : (seenB S).length ≤ 1000) : (stB lo hi P S).length ≤ 65000 := by
  unfold stB
  have h1 := Pl.textB_len lo (by omega)
  have h2 := Pl.textB_len hi (by omega)
  have h3 := Pl.textB_len (strOfNums (Pl.tabB P)) (by rw [strOfNums_size]; omega)
  have h4 := Pl.textB_len (strOfNums (seenB S)) (by rw [strOfNums_size]; omega)
  rw [strOfNums_size] at h3 h4
  simp only [List.length_append]
  omega

set_option maxRecDepth 100000 in
set_option maxHeartbeats 8000000 in
theorem bytesS_any {w : World} {Ft Fs : Nat → Prop} {st n : Nat} {lo hi : ByteArray} {P : List Pr} {S : Int → Option An} (h : StAt w Ft Fs st n lo hi P S) (hx : P.length ≤ 1000) (hn : n ≤ 1000000) (hl : lo.size ≤ 300) (hh : hi.size ≤ 300) (hP : (Pl.tabB P).length ≤ 60000) (hS : (seenB S).length ≤ 1000) :
    Calls Tryz.prog 42 #[.pointer (some ⟨st, 0, none⟩)] w fun e w' => ∃ a c, e = .returned (.tuple #[.slice a (stB lo hi P S).length c, .nilIface]) ∧ w'.ownsRow w.heap.size 5 1 (.slice a (stB lo hi P S).length c) (stB lo hi P S).length (u8Flat (stB lo hi P S)) ∧ Grew w w' := by
  have hlen := stB_len hl hh hP hS
  obtain ⟨tb, sb, h⟩ := h
  have HT := hid (fun W (g : Grew w W) => bytesT_any (h.tab.grew g) h.good hx (by omega))
  have HD := hid (fun W (g : Grew w W) => bytesD_any (h.seen.grew g) hn)
  have c0 := h.c0
  have HC1 := hid h.c1
  have HC2 := hid h.c2
  have HC3 := hid h.c3
  have hst : st < w.heap.size := cell_lt c0
  clear h
  have HLEN := hid hlen
  have HEQ : Hid (stB lo hi P S = Pl.textB lo ++ Pl.textB hi ++ Pl.textB (strOfNums (Pl.tabB P)) ++ Pl.textB (strOfNums (seenB S))) := rfl
  generalize stB lo hi P S = bs at *
  generalize Pl.tabB P = ns at *
  generalize seenB S = ms at *
  go_enter Tryz.func42, Tryz.ntmps42
  go_wp2_with fail
  refine (HT.out w (Grew.refl w)).mono ?_
  rintro e w1 ⟨a1, c1, rfl, hr1, hg1⟩
  obtain ⟨a1', c1', e1, hA1, hF1, _⟩ := bytesAt_of hr1
  cases e1
  have HA1 := hid (And.intro hA1 hF1)
  have HG1 := hid hg1
  have d3 := (hg1.cells.1 _ 3 hst).trans HC3.out
  have hst1 := Nat.lt_of_lt_of_le hst hg1.size
  clear hr1 hA1 hF1 hg1 c0
  go_wp2_with fail
  clear d3
  refine (HD.out w1 HG1.out).mono ?_
  rintro e w2 ⟨a2, c2, rfl, hr2, hg2⟩
  obtain ⟨a2', c2', e2, hA2, hF2, _⟩ := bytesAt_of hr2
  cases e2
  have HA2 := hid (And.intro hA2 hF2)
  have HG2 := hid (HG1.out.trans hg2)
  have HA12 := hid (HA1.out.1.grew hg2)
  clear hr2 hA2 hF2 hg2
  go_wp2_with fail
  obtain ⟨ob, hob⟩ : ∃ ob, ob = w2.heap.size := ⟨_, rfl⟩
  obtain ⟨Y, hY⟩ : ∃ Y, Y = w2.alloc (.cells #[.slice none 0 0, .nilIface] 118) := ⟨_, rfl⟩
  have hOY : OutAt Y (fun j => j = ob) ob [] := by rw [hY, hob]; exact OutAt.new w2 _
  have gY : Grew w2 Y := by rw [hY]; exact (Grew.refl w2).alloc _
  have hG := HG2.out.trans gY
  have C1 := wd_cell ((hG.cells.1 _ 1 hst).trans HC1.out)
  have C2 := wd_cell ((hG.cells.1 _ 2 hst).trans HC2.out)
  have K1 : ∀ p : Wd (Grew Y), (convert 37 9 (.slice a1 ns.length c1)).run Tryz.prog p.w = .ok (.string (strOfNums ns)) p.w := fun p => run_conv_bytes rfl (HA12.out.grew (gY.trans p.ok)) HA1.out.2
  have K2 : ∀ p : Wd (Grew Y), (convert 37 9 (.slice a2 ms.length c2)).run Tryz.prog p.w = .ok (.string (strOfNums ms)) p.w := fun p => run_conv_bytes rfl (HA2.out.1.grew (gY.trans p.ok)) HA2.out.2
  have hstY : st < Y.heap.size := Nat.lt_of_lt_of_le hst hG.size
  have hobY : ob < Y.heap.size := by rw [hY, hob]; simp
  have HGY := hid hG
  have HOY := hid hOY
  have HOB := hid (show w.heap.size ≤ ob from by rw [hob]; exact HG2.out.size)
  have HSN := hid (strOfNums_size ns)
  have HSM := hid (strOfNums_size ms)
  rw [← hob, ← hY]
  clear hY hob hOY gY hG
  generalize strOfNums ns = t2 at *
  generalize strOfNums ms = t3 at *
  refine wp_region_mixS 17 [14, 15] (Grew Y) Eq (JTx Y lo hi t2 t3) (fun f a => (a.put (some 48) (f 14)).put (some 49) (f 15)) (by kernel_rfl) (by kernel_rfl) (fun _ _ => rfl) ⟨(Grew.refl Y).drew, (fun h => by cases h), (fun h => by cases h), (fun h => by cases h)⟩ (fun _ _ _ h => h.grew) (fun _ => rfl) (fun _ _ _ _ h g => g ▸ h) ?_
  repeat (first
    | (refine mixS_loose (by rfl) (by rfl) ?_)
    | (refine mixS_plain (by rfl) (by rfl) (by rfl) (by first | exact Grew.refl | exact fun _ => rfl) (by rfl) ?_; intro K hK; go_big_quiet_op; go_big_quiet_on)
    | (refine mixS_skip (by rfl) (by rfl) (by rfl) ?_; simp only [Act.put, List.setIfInBounds_toArray, List.set_cons_zero, List.set_cons_succ]))
  refine mixS_nil ⟨⟨loose_of rfl (fun _ a => a) (fun _ _ => rfl) (fun _ => rfl) ?_, loose_of rfl (fun f a => a.put (some 48) (f 14)) (fun _ _ => rfl) (fun _ => rfl) ?_, trivial⟩, ?_⟩
  · intro L f x hJ hL hd
    have h15 : L 15 = false := bool_no fun h => by rw [hJ.ord h] at hL; cases hL
    have HJ := hid hJ
    have H15 := hid h15
    clear hJ hL hd C1 C2 K1 K2 h15
    go_simp
    refine ⟨HJ.out.grew.alloc _, fun h => plus_on, fun _ => ⟨x.heap.size, updV_same _ _ _, HJ.out.grew.size, by simp, by simp [go_sem], by simp [go_sem], by simp [go_sem], by simp [go_sem]⟩, fun h => ?_⟩
    rw [plus_ne (by decide), H15.out] at h; cases h
  · intro L f x hJ hL hd
    have l14 := hd 14 rfl (by decide)
    obtain ⟨b, e14, r1⟩ := hJ.row l14
    have HJ := hid hJ
    have HR := hid (And.intro e14 r1)
    have HL14 := hid l14
    clear hJ hL hd C1 C2 K1 K2 r1 l14
    rw [e14]
    clear e14
    go_simp
    refine ⟨HJ.out.grew, fun h => plus_up HL14.out, fun _ => ⟨b, ?_, HR.out.2⟩, fun _ => updV_same _ _ _⟩
    rw [updV_ne (by decide)]; exact HR.out.1
  intro f x hJ
  obtain ⟨b, e14, hb1, hb2, r0, r1, r2, r3⟩ := hJ.row rfl
  have e15 := hJ.len rfl
  have HGX := hid hJ.grew
  clear hJ C1 C2 K1 K2
  dsimp only [List.drop]
  simp only [Act.put, List.setIfInBounds_toArray, List.set_cons_succ, List.set_cons_zero]
  rw [e14, e15]
  clear e14 e15
  have HBB := hid (show b ≠ ob ∧ b < x.heap.size from ⟨by omega, hb2⟩)
  obtain ⟨ts, hts⟩ : ∃ ts : List ByteArray, ts = [lo, hi, t2, t3] := ⟨_, rfl⟩
  have HTS := hid hts
  have HSL := hid (fun (j : Nat) (hj : j < 4) => show ∃ u, ts[j]? = some u ∧ x.cell? ⟨b, j, none⟩ = some (.string u) ∧ u.size ≤ 60000 from by
    rw [hts]
    have e2 := HSN.out
    have e3 := HSM.out
    match j, hj with
    | 0, _ => exact ⟨lo, rfl, r0, by omega⟩
    | 1, _ => exact ⟨hi, rfl, r1, by omega⟩
    | 2, _ => exact ⟨t2, rfl, r2, by omega⟩
    | 3, _ => exact ⟨t3, rfl, r3, by omega⟩)
  have HLT := hid (fun (j : Nat) (hj : j ≤ 4) => show ((ts.take j).flatMap Pl.textB).length ≤ 65000 from by
    have h4 : bs = ts.flatMap Pl.textB := by rw [HEQ.out, hts]; simp [List.append_assoc]
    have h5 : (ts.take j).flatMap Pl.textB ++ (ts.drop j).flatMap Pl.textB = bs := by rw [h4, ← List.flatMap_append, List.take_append_drop]
    have h6 := congrArg List.length h5
    rw [List.length_append] at h6
    have := HLEN.out
    omega)
  have HBS : Hid ((ts.take 4).flatMap Pl.textB = bs) := by
    unfold Hid
    rw [HEQ.out, hts]
    simp [List.append_assoc]
  have HOX := hid (HOY.out.grew HGX.out)
  have hobx := Nat.lt_of_lt_of_le hobY HGX.out.size
  clear r0 r1 r2 r3 hb1 hb2 hts
  go_wp2_with fail
  go_loopw [9, 50] (fun u i wr => ∃ j : Nat, j ≤ 4 ∧ i = .int .i64 j ∧ Hid (OutTurn x (fun j => j = ob) ob ((ts.take j).flatMap Pl.textB) wr)) (fun _ i _ => 4 - (intOf i).toNat)
  case atStart => exact ⟨0, by omega, rfl, by unfold Hid; simpa using OutTurn.refl HOX.out⟩
  case round =>
    obtain ⟨j, hj, rfl, HT2⟩ := hrel
    obtain ⟨gO, G1, hO, hG1⟩ := HT2.out
    have HOA := hid hO
    have HGO := hid gO
    have HGG := hid hG1
    clear hO gO hG1
    by_cases hlt4 : j < 4
    · obtain ⟨u, hu1, hu2, hu3⟩ := HSL.out j hlt4
      have hc := (HGO.out.cell HBB.out.2 HBB.out.1 j).trans hu2
      have hcl : b < wr.heap.size := cell_lt hc
      have hlen2 := HLT.out j hj
      have htk : (ts.take (j + 1)).flatMap Pl.textB = (ts.take j).flatMap Pl.textB ++ Pl.textB u := by
        obtain ⟨hjl, hju⟩ := List.getElem?_eq_some_iff.1 hu1
        rw [List.take_succ_eq_append_getElem hjl, List.flatMap_append, hju]
        simp
      have HTK := hid htk
      have HN := hid (outText_any HOA.out u (by omega) (by omega))
      clear hu1 hu2 htk hlen2
      go_wp2_with fail
      refine HN.out.mono ?_
      rintro e w5 ⟨rfl, hT⟩
      have HT5 := hid (OutTurn.step HGO.out HGG.out hT)
      clear hT hc
      go_wp2_with fail
      go_roundw
      case rel => exact ⟨j + 1, by omega, by go_num, by unfold Hid; rw [HTK.out]; exact HT5.out⟩
      case measure => simp [intOf]; omega
    · have hj4 : j = 4 := by omega
      subst hj4
      rw [HBS.out] at HOA
      have HDN := hid (outDone_any HOA.out (by have := HLEN.out; omega))
      have hGr : Grew w wr := ((HGY.out.trans HGX.out).only (fun j => j = ob) |>.then HGO.out).grew (fun j (hj : j = ob) => by rw [hj]; exact HOB.out)
      have HGR := hid hGr
      clear hGr
      go_wp2_with fail
      refine HDN.out.mono ?_
      rintro e w5 ⟨a5, c5, rfl, hr5, hg5⟩
      have HR5 := hid (ownsRow_base HGR.out.size hr5)
      have HG5 := hid (HGR.out.trans hg5)
      clear hr5 hg5
      go_wp2_with fail
      go_ret2
      exact ⟨a5, c5, rfl, HR5.out, HG5.out⟩
end Go.Proofs.YtifcnammekbfoaaGreatDoor

/- The walks of slices.Equal at the same bytes, of state.Same at states that are the same; of state.New. -/
set_option linter.unusedVariables false
set_option linter.unusedSectionVars false
set_option linter.unusedSimpArgs false
namespace Go.Proofs.YtifcnammekbfoaaGreatDoor
open Go.RowKit Go.Maps
attribute [local go_sem] Oper.semAt_some uponV

theorem bytes_fields {w : World} {a : Option Addr} {ns : List Int} (h : BytesAt w a ns) (k : Nat) (hk : k < ns.length) : ∃ b off, a = some ⟨b, off, none⟩ ∧ b < w.heap.size ∧ w.cell? ⟨b, off + k, none⟩ = some (.int .u8 (ns[k]'hk)) := by
  rcases h with h | ⟨b, off, e, hb, hc⟩
  · rw [h] at hk; cases hk
  · exact ⟨b, off, e, hb, hc k _ (List.getElem?_eq_getElem hk)⟩

set_option maxRecDepth 100000 in
set_option maxHeartbeats 4000000 in
theorem equalB_any (w : World) (a b : Option Addr) (c d : Nat) (ns : List Int) (hA : BytesAt w a ns) (hB : BytesAt w b ns) (hn : ns.length ≤ 1000000) :
    Calls Tryz.prog 79 #[.slice a ns.length c, .slice b ns.length d] w fun e w' => e = .returned (.bool true) ∧ Grew w w' := by
  have HA := hid hA
  have HB := hid hB
  obtain ⟨m, hm⟩ : ∃ m, m = ns.length := ⟨_, rfl⟩
  have HM := hid hm
  rw [← hm] at hn ⊢
  clear hA hB hm
  go_enter Tryz.func79, Tryz.ntmps79
  go_wp2_with fail
  go_loopw [5, 13] (fun u i wr => ∃ k : Nat, k ≤ m ∧ i = .int .i64 k ∧ Hid (Grew w wr)) (fun _ i _ => m - (intOf i).toNat)
  case atStart => exact ⟨0, Nat.zero_le _, rfl, Grew.refl w⟩
  case round =>
    obtain ⟨k, hk, rfl, HG⟩ := hrel
    by_cases hlt : k < m
    · have hk' : k < ns.length := by rw [← HM.out]; exact hlt
      obtain ⟨b1, o1, rfl, hb1, hc1⟩ := bytes_fields HA.out k hk'
      obtain ⟨b2, o2, rfl, hb2, hc2⟩ := bytes_fields HB.out k hk'
      have C1 := wd_cell ((HG.out.cells.1 _ _ hb1).trans hc1)
      have C2 := wd_cell ((HG.out.cells.1 _ _ hb2).trans hc2)
      generalize ns[k] = q at *
      have hkI : (k : Int) < (m : Int) := by omega
      clear hc1 hc2 hk'
      go_wp2_with fail
      refine wp_region_still 9 (by kernel_rfl) (by kernel_rfl) (fun _ _ => rfl) ?_
      repeat (first
    | (refine mixS_plain (by rfl) (by rfl) (by rfl) (by first | exact Grew.refl | exact fun _ => rfl) (by rfl) ?_; intro K hK; go_big_quiet_op; go_big_quiet_on)
    | (refine mixS_skip (by rfl) (by rfl) (by rfl) ?_; simp only [Act.put, List.setIfInBounds_toArray, List.set_cons_zero, List.set_cons_succ]))
      refine mixS_nil ?_
      intro x hG
      have HGX := hid (HG.out.trans hG)
      clear C1 C2 hG
      dsimp only [List.drop]
      go_wp2_with fail
      go_roundw
      case rel => exact ⟨k + 1, by omega, by go_num, HGX⟩
      case measure => simp [intOf]; omega
    · have hkm : k = m := by omega
      subst hkm
      go_wp2_with fail
      go_ret
      exact ⟨rfl, HG.out⟩

set_option maxRecDepth 100000 in
set_option maxHeartbeats 4000000 in
theorem sameS_any {w : World} {Ft Fs Gt Gs : Nat → Prop} {st su n m : Nat} {lo hi : ByteArray} {P : List Pr} {S : Int → Option An} (h : StAt w Ft Fs st n lo hi P S) (k : StAt w Gt Gs su m lo hi P S) (hx : P.length ≤ 1000) (hn : n ≤ 1000000) (hm : m ≤ 1000000) (hl : lo.size ≤ 300) (hh : hi.size ≤ 300) (hP : (Pl.tabB P).length ≤ 60000) (hS : (seenB S).length ≤ 1000) :
    Calls Tryz.prog 23 #[.pointer (some ⟨st, 0, none⟩), .pointer (some ⟨su, 0, none⟩)] w fun e w' => e = .returned (.bool true) ∧ Grew w w' := by
  have HL := hid (stB_len hl hh hP hS)
  have H1 := hid (bytesS_any h hx hn hl hh hP hS)
  have H2 := hid (fun W (g : Grew w W) => bytesS_any (k.grew g) hx hm hl hh hP hS)
  clear h k
  generalize stB lo hi P S = bs at *
  go_enter Tryz.func23, Tryz.ntmps23
  go_wp2_with fail
  refine H1.out.mono ?_
  rintro e w1 ⟨a1, c1, rfl, hr1, hg1⟩
  obtain ⟨a1', c1', e1, hA1, _, _⟩ := bytesAt_of hr1
  cases e1
  have HA1 := hid hA1
  have HG1 := hid hg1
  clear hr1 hA1 hg1
  go_wp2_with fail
  refine (H2.out w1 HG1.out).mono ?_
  rintro e w2 ⟨a2, c2, rfl, hr2, hg2⟩
  obtain ⟨a2', c2', e2, hA2, _, _⟩ := bytesAt_of hr2
  cases e2
  have HEQ := hid (equalB_any w2 a1 a2 c1 c2 bs (HA1.out.grew hg2) hA2 (by have := HL.out; omega))
  have HG2 := hid (HG1.out.trans hg2)
  clear hr2 hA2 hg2
  go_wp2_with fail
  refine HEQ.out.mono ?_
  rintro e w3 ⟨rfl, hg3⟩
  have HG3 := hid (HG2.out.trans hg3)
  clear hg3
  go_wp2_with fail
  go_ret
  exact ⟨rfl, HG3.out⟩
end Go.Proofs.YtifcnammekbfoaaGreatDoor

/- tidewaterref21.SamePairs of two rows of the same pairs: true. -/
namespace Go.Proofs.YtifcnammekbfoaaGreatDoor
open Go.RowKit Go.Maps
attribute [local go_sem] Oper.semAt_some

set_option maxRecDepth 100000 in
set_option maxHeartbeats 1000000 in
theorem samePairs_same (w : World) (a b : Option Addr) (c d : Nat) (xs : List Pr) (hA : PairsAt w a xs) (hB : PairsAt w b xs) (hx : xs.length ≤ 1000000) :
    Calls Tryz.prog 21 #[.slice a xs.length c, .slice b xs.length d] w fun e w' => e = .returned (.bool true) ∧ Grew w w' := by
  have HA := hid hA
  have HB := hid hB
  have hbn : (xs.length : Int) ≤ 1000000 := by omega
  clear hA hB
  go_enter Tryz.func21, Tryz.ntmps21
  go_wp2_with fail
  go_loopw [13] (fun i wr => ∃ k : Nat, k ≤ xs.length ∧ i = .int .i64 k ∧ Grew w wr) (fun i _ => xs.length - (intOf i).toNat)
  case atStart => exact ⟨0, Nat.zero_le _, rfl, Grew.refl w⟩
  case round =>
    obtain ⟨k, hk1, rfl, hG⟩ := hrel
    by_cases hlt : k < xs.length
    · rcases HA.out with h0 | ⟨b1, off1, rfl, hb1, hR1⟩
      · rw [h0] at hlt; simp at hlt
      rcases HB.out with h0 | ⟨b2, off2, rfl, hb2, hR2⟩
      · rw [h0] at hlt; simp at hlt
      have q0 := (hG.cells.1 _ _ hb1).trans (hR1.key k hlt)
      have q1 := (hG.cells.1 _ _ hb1).trans (hR1.val k hlt)
      have q2 := (hG.cells.1 _ _ hb1).trans (hR1.ver k hlt)
      have p0 := (hG.cells.1 _ _ hb2).trans (hR2.key k hlt)
      have p1 := (hG.cells.1 _ _ hb2).trans (hR2.val k hlt)
      have p2 := (hG.cells.1 _ _ hb2).trans (hR2.ver k hlt)
      clear hR1 hR2
      generalize prAt xs k = e at *
      obtain ⟨ek, ev, en⟩ := e
      dsimp only at *
      have hltI : (k : Int) < (xs.length : Int) := by omega
      go_wp2_with fail
      go_quiet (fail)
      all_goals (
        go_wp2_with fail
        go_roundw
        case rel => exact ⟨k + 1, by omega, by go_num, hG.drewN _⟩
        case measure => simp [intOf]; omega)
    · obtain rfl : k = xs.length := by omega
      go_wp2_with fail
      go_ret
      exact ⟨rfl, hG⟩
end Go.Proofs.YtifcnammekbfoaaGreatDoor
