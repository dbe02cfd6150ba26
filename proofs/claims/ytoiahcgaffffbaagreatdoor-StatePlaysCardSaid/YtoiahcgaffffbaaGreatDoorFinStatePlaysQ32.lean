/- RdT, Conv, St2: one text. -/
import Derived.Test.YtoiahcgaffffbaaGreatDoorFinStatePlaysQ25
import Derived.Test.YtoiahcgaffffbaaGreatDoorFinStatePlaysQ24
import Derived.Test.YtoiahcgaffffbaaGreatDoorFinStatePlaysQ17
import Derived.Test.YtoiahcgaffffbaaGreatDoorFinStatePlaysQ4
import Derived.Laws.IdiomStrings
set_option linter.unusedVariables false
set_option linter.unusedSectionVars false
set_option linter.unusedSimpArgs false
namespace Go.Proofs.YtoiahcgaffffbaaGreatDoor
open Go.RowKit Go.Maps Go.Sort
attribute [local go_sem] Oper.semAt_some uponV
structure RdT (w wr : World) (ib nb tb : Nat) (P : List Pr) (k : Nat) : Prop where
  grew : Grew w wr
  inp : InAt wr ib nb (Pl.pairsB (P.drop k))
  tab : ∃ F, TabAt wr F tb (P.take k) ∧ ¬ F ib ∧ ¬ F nb ∧ ∀ j, F j → w.heap.size ≤ j
  new : w.heap.size ≤ ib
theorem RdT.more {w wr x : World} {ib nb tb : Nat} {P : List Pr} {k : Nat} (h : RdT w wr ib nb tb P k) (g : Grew wr x) : RdT w x ib nb tb P k := by
  obtain ⟨F, h1, h2⟩ := h.tab
  exact ⟨h.grew.trans g, h.inp.grew g, ⟨F, h1.grew g, h2⟩, h.new⟩
set_option maxRecDepth 100000 in
set_option maxHeartbeats 8000000 in
theorem readT_any {S : Nat → Bool} (hS : TabS S) (E : Nat → Addr) {w : World} (hE : Errs S E w) {a : Option Addr} {cap : Nat} {P : List Pr} (hA : BytesAt w a (Pl.tabB P)) (hf : SlForm a cap) (hs : Pl.Srt P) (hg : Pl.Good P) (hx : P.length ≤ 1000) :
    Calls Tryz.prog 92 #[.slice a (Pl.tabB P).length cap] w fun e w' => ∃ tb F, e = .returned (.tuple #[.pointer (some ⟨tb, 0, none⟩), .nilIface]) ∧ TabAt w' F tb P ∧ (∀ j, F j → w.heap.size ≤ j) ∧ Grew w w' := by
  have hlen := Pl.tabB_len hg (by omega)
  have hps := Pl.pairsB_len hg
  have HIR := hid (inRead_any w a _ cap (Pl.tabB P) rfl hA hf (by omega) (by unfold Pl.tabB; rw [List.length_append]; have := Pl.numB_pos P.length; omega))
  have HE := hid hE
  have HPL := hid hps
  obtain ⟨n, hn⟩ : ∃ n, n = P.length := ⟨_, rfl⟩
  have HN := hid hn
  have hn1 : n ≤ 1000 := by omega
  have hT0 : Pl.tabB P = Pl.numB n ++ Pl.pairsB P := by unfold Pl.tabB; rw [hn]
  have HT0 := hid hT0
  have HNX := hid (fun k hk => Pl.srt_next hs hg k hk)
  have HGD := hid (fun k hk => good_ver hg k hk)
  generalize (Pl.tabB P).length = z at *
  clear hlen hps hn hA hf hT0 hs hg hx hE
  go_enter Tryz.func92, Tryz.ntmps92
  go_wp2_with fail
  refine HIR.out.mono ?_
  rintro e w1 ⟨ib, nb, rfl, hib, hnb, hI, hg1⟩
  rw [HT0.out] at hI
  have HI := hid hI
  have HG1 := hid hg1
  have HIB := hid hib
  clear hI hg1 hib hnb HIR
  go_wp2_with fail
  refine (newT_any w1).mono ?_
  rintro e w2 ⟨rfl, hg2, hT2⟩
  have HI2 := hid (HI.out.grew hg2)
  have HT2 := hid hT2
  have HL2 := hid HI.out.lt
  have HG2 := hid (HG1.out.trans hg2)
  have HZ := hid HG1.out.size
  obtain ⟨tb, htb⟩ : ∃ tb, tb = w1.heap.size := ⟨_, rfl⟩
  rw [← htb] at HT2 HL2 ⊢
  rw [← htb] at HZ
  clear htb hg2 hT2
  go_wp2_with fail
  refine (inNum_any n 65536 (by omega) (by omega) HI2.out (by have := HPL.out; rw [← HN.out] at this; omega)).mono ?_
  rintro e w3 ⟨rfl, hO3, hI3⟩
  have HR0 : Hid (RdT w w3 ib nb tb P 0) := by
    have hlt := HL2.out
    refine ⟨((HG2.out.only _).then hO3).grew (fun j (hj : j = ib) => by rw [hj]; exact HIB.out), by simpa using hI3, ⟨_, by simpa using HT2.out.kept hO3 (fun j (hj : j = tb) (h2 : j = ib) => by omega), (fun h => by omega), (fun h => by omega), fun j (hj : j = tb) => by rw [hj]; exact HZ.out⟩, HIB.out⟩
  clear hO3 hI3 HI2 HT2 HL2 HG2 HZ HI HG1
  go_wp2_with fail
  go_loopw [6, 7, 8, 9] (fun r i _ _ wr => ∃ k : Nat, r = .bool true ∧ k ≤ n ∧ i = .int .i64 ((n - k : Nat) : Int) ∧ Hid (RdT w wr ib nb tb P k)) (fun _ i _ _ _ => (intOf i).toNat)
  case atStart => exact ⟨0, rfl, by omega, rfl, HR0⟩
  case round =>
    obtain ⟨k, rfl, hk, rfl, HR⟩ := hrel
    have HRi := hid HR.out.inp
    by_cases hlt : k < n
    · have hlt' : k < P.length := by rw [← HN.out]; exact hlt
      obtain ⟨v1, v2, v3, v4⟩ := HGD.out k hlt'
      obtain ⟨x1, x2, x3⟩ := HNX.out k hlt'
      have hin := HRi.out
      rw [Pl.pairsB_drop P k hlt'] at hin
      unfold Pl.pairB at hin
      have hrl : (Pl.pairsB (P.drop (k + 1))).length ≤ 170000 := by
        have h1 := HPL.out
        have h2 := congrArg List.length (show Pl.pairsB (P.take (k + 1)) ++ Pl.pairsB (P.drop (k + 1)) = Pl.pairsB P by unfold Pl.pairsB; rw [← List.flatMap_append, List.take_append_drop])
        rw [List.length_append] at h2
        rw [← HN.out] at h1
        omega
      have HX1 := hid x1
      have HX2 := hid x2
      have HX3 := hid x3
      clear x1 x2 x3 hlt'
      have HPR : Hid (0 < k → ∃ j, k = j + 1 ∧ prAt P j = prAt P (k - 1)) := fun h => ⟨k - 1, by omega, rfl⟩
      generalize hce : prAt P k = c at *
      have HCE := hid hce
      clear hce
      obtain ⟨ck, cv, cn⟩ := c
      dsimp only at *
      obtain ⟨vn, hvn⟩ : ∃ vn : Nat, vn = cn.toNat := ⟨_, rfl⟩
      rw [← hvn] at v1 v2 hin
      subst v1
      clear hvn
      have l1 := Pl.textB_len ck (by omega)
      have l2 := Pl.textB_len cv (by omega)
      have l3 := Pl.numB_len 8 vn (by omega)
      obtain ⟨rest, hrest⟩ : ∃ rest, rest = Pl.pairsB (P.drop (k + 1)) := ⟨_, rfl⟩
      rw [← hrest] at hin hrl
      have HREST := hid hrest
      have HIN : Hid (InAt wr ib nb (Pl.textB ck ++ (Pl.textB cv ++ (Pl.numB vn ++ rest)))) := by unfold Hid; simpa [List.append_assoc] using hin
      clear hin hrest
      have hpos : (0 : Int) < ((n - k : Nat) : Int) := by omega
      have hcast : ((n - k : Nat) : Int) = (n : Int) - (k : Int) := by omega
      have hpos' : (0 : Int) < (n : Int) - (k : Int) := by omega
      go_wp2_with fail
      refine (inErr_any HRi.out).mono ?_
      rintro e w4 ⟨rfl, hw4⟩
      subst hw4
      go_wp2_with fail
      -- key, value, version
      refine (inText_any ck 65536 (by omega) (by omega) HIN.out (by simp only [List.length_append]; omega)).mono ?_
      rintro e w5 ⟨rfl, hO5, hI5⟩
      have HI5 := hid hI5
      have HO5 := hid hO5
      clear hI5 hO5
      go_wp2_with fail
      refine (inText_any cv 65536 (by omega) (by omega) HI5.out (by simp only [List.length_append]; omega)).mono ?_
      rintro e w6 ⟨rfl, hO6, hI6⟩
      have HI6 := hid hI6
      have HO6 := hid (HO5.out.then hO6)
      clear hI6 hO6
      go_wp2_with fail
      refine (inNum_any vn 4096 (by omega) (by omega) HI6.out (by omega)).mono ?_
      rintro e w7 ⟨rfl, hO7, hI7⟩
      have HI7 := hid hI7
      have HO7 := hid (HO6.out.then hO7)
      clear hI7 hO7
      -- what is there now
      obtain ⟨F, hT, hF1, hF2, hF3⟩ := HR.out.tab
      have hT7 := hT.kept HO7.out (fun j hj (e : j = ib) => hF1 (by rw [← e]; exact hj))
      have HT7 := hid hT7
      have HF := hid (And.intro hF1 (And.intro hF2 hF3))
      have HG7 := hid (show Grew w w7 from ((HR.out.grew.only _).then HO7.out).grew (fun j (hj : j = ib) => by rw [hj]; exact HIB.out))
      obtain ⟨vt, hT7⟩ := hT7
      obtain ⟨at7, cap7, rfl, hA7⟩ := pairsAt_of hT7.row
      have c0 := hT7.cell
      have hl7 : (P.take k).length = k := by rw [List.length_take, ← HN.out]; omega
      rw [hl7] at c0
      have htb : tb < w7.heap.size := cell_lt c0
      have HA7 := hid hA7
      have HL7 := hid hl7
      clear hT hT7 hA7 hl7 hF1 hF2 hF3
      go_wp2_with fail
      obtain ⟨W8, hW8⟩ : ∃ W8, W8 = w7.alloc (.cells #[.string ck, .string cv, .int .i64 vn] 83) := ⟨_, rfl⟩
      have HW8 := hid hW8
      have g8 : Grew w7 W8 := by rw [hW8]; exact (Grew.refl w7).alloc _
      have P0 := wd_cell (w := W8) (show W8.cell? ⟨w7.heap.size, 0, none⟩ = some (.string ck) from by rw [hW8]; simp [go_sem])
      have P1 := wd_cell (w := W8) (show W8.cell? ⟨w7.heap.size, 1, none⟩ = some (.string cv) from by rw [hW8]; simp [go_sem])
      have P2 := wd_cell (w := W8) (show W8.cell? ⟨w7.heap.size, 2, none⟩ = some (.int .i64 vn) from by rw [hW8]; simp [go_sem])
      have C8 := wd_cell ((g8.cells.1 _ 0 htb).trans c0)
      have hz8 : w7.heap.size < W8.heap.size := by rw [hW8]; simp
      have htb8 : tb < W8.heap.size := Nat.lt_of_lt_of_le htb g8.size
      have HG8 := hid g8
      rw [← hW8]
      clear hW8 c0 g8 htb
      have HPUT := hid (fun x (g : Grew W8 x) => putT_any hS E (HE.out.grew (HG7.out.trans (HG8.out.trans g))) (HT7.out.grew (HG8.out.trans g)) (by rw [HL7.out]; omega) ck cv vn (by omega) (by omega))
      rw [HX2.out, HX1.out, show errOf E 0 = .nilIface from rfl] at HPUT
      have HRND := hid (fun (x x' : World) (hG : Grew W8 x) (hT : TabTurn x F tb (P.take (k + 1)) x') => show RdT w x' ib nb tb P (k + 1) from by
        obtain ⟨hO, F', h1, h2⟩ := hT
        have hG2 := HG8.out.trans hG
        have hs := hG2.size
        have hw := HG7.out.size
        have hlt := (HI7.out.grew hG2).lt
        have hlt7 := HI7.out.lt
        refine ⟨((HG7.out.trans hG2).only F |>.then hO).grew HF.out.2.2, ?_, ⟨F', h1, fun h => ?_, fun h => ?_, fun j hj => ?_⟩, HIB.out⟩
        · rw [← HREST.out]; exact (HI7.out.grew hG2).kept hO HF.out.1 HF.out.2.1
        · rcases h2 _ h with h | h
          · exact HF.out.1 h
          · omega
        · rcases h2 _ h with h | h
          · exact HF.out.2.1 h
          · omega
        · rcases h2 _ hj with h | h
          · exact HF.out.2.2 j h
          · omega)
      have HKN := hid (And.intro hk (And.intro hlt hcast))
      have hk9 : k < 1000000 := by omega
      have HSZ := hid v3
      clear hcast hpos hpos' l1 l2 l3 hrl v2 v3 v4 hlt hk HPR HCE
      by_cases hk0 : k = 0
      · subst hk0
        clear HX3 HSZ
        refine wp_region_still 25 (by kernel_rfl) (by kernel_rfl) (fun _ _ => rfl) ?_
        repeat (first
    | (refine mixS_skip (by rfl) (by rfl) (by rfl) ?_; simp only [Act.put, List.setIfInBounds_toArray, List.set_cons_zero, List.set_cons_succ])
    | (refine mixS_plain (by rfl) (by rfl) (by rfl) (by first | exact Grew.refl | exact fun _ => rfl) (by rfl) ?_; intro K hK; go_big_quiet_op; go_big_quiet_on))
        refine mixS_done (by rfl) ?_
        intro x hG
        have HGx := hid hG
        clear P0 P1 P2 C8 hG
        dsimp only [List.drop]
        go_wp2_with fail
        refine (HPUT.out x HGx.out).mono ?_
        rintro e x' ⟨rfl, hT⟩
        have HRN := hid (HRND.out x x' HGx.out hT)
        clear hT
        go_wp2_with fail
        go_roundw
        case rel =>
          obtain ⟨k1, k2, k3⟩ := HKN.out
          exact ⟨0 + 1, rfl, by omega, by go_num, HRN⟩
        case measure =>
          obtain ⟨k1, k2, k3⟩ := HKN.out
          simp [intOf]; omega
      · obtain ⟨j, rfl⟩ : ∃ j, k = j + 1 := ⟨k - 1, by omega⟩
        have hj : j < (P.take (j + 1)).length := by rw [HL7.out]; omega
        obtain ⟨pb, poff, rfl, hpb, hPR⟩ := pairs_fields HA7.out j hj
        have hpc := hPR.key j hj
        have K8 := wd_cell ((HG8.out.cells.1 pb (poff + j * 3) hpb).trans hpc)
        have hpk : prAt (P.take (j + 1)) j = prAt P j := by
          rw [prAt_eq _ j hj, prAt_eq P j (by rw [← HN.out]; have := HKN.out.1; omega), List.getElem_take]
        rw [hpk] at K8
        have hc1 : Pl.compare (prAt P j).key ck < 0 := HX3.out j (by omega)
        have hc2 := (HGD.out j (by rw [← HN.out]; have := HKN.out.1; omega)).2.2.1
        generalize (prAt P j).key = pk at *
        have HCMP := hid (fun x (g : Grew W8 x) => compare_any pk ck x (by omega) (by have := HSZ.out; omega))
        generalize Pl.compare pk ck = cc at *
        have hc3 : ¬ (0 : Int) ≤ cc := by omega
        clear hpk hc1 hc2 HSZ HX3
        clear hPR hpc hj
        refine wp_region_still 25 (by kernel_rfl) (by kernel_rfl) (fun _ _ => rfl) ?_
        repeat (first
    | (refine mixS_plain (by rfl) (by rfl) (by rfl) (by first | exact Grew.refl | exact fun _ => rfl) (by rfl) ?_; intro K hK; go_big_quiet_op; go_big_quiet_on)
    | (refine mixS_call (by rfl) (by rfl) (by rfl) (by rfl) (fun _ => by kernel_rfl) (fun u hu => HCMP.out u hu) ?_; simp only [Act.put, List.setIfInBounds_toArray, List.set_cons_zero, List.set_cons_succ])
    | (refine mixS_skip (by rfl) (by rfl) (by rfl) ?_; simp only [Act.put, List.setIfInBounds_toArray, List.set_cons_zero, List.set_cons_succ]))
        refine mixS_done (by rfl) ?_
        intro x hG
        have HGx := hid hG
        clear P0 P1 P2 C8 hG
        dsimp only [List.drop]
        go_wp2_with fail
        refine (HPUT.out x HGx.out).mono ?_
        rintro e x' ⟨rfl, hT⟩
        have HRN := hid (HRND.out x x' HGx.out hT)
        clear hT
        go_wp2_with fail
        go_roundw
        case rel =>
          obtain ⟨k1, k2, k3⟩ := HKN.out
          exact ⟨(j + 1) + 1, rfl, by omega, by go_num, HRN⟩
        case measure =>
          obtain ⟨k1, k2, k3⟩ := HKN.out
          simp [intOf]; omega
    · have hkn : k = n := by omega
      subst hkn
      have hdr : Pl.pairsB (P.drop k) = [] := by rw [HN.out, List.drop_length]; rfl
      rw [hdr] at HRi
      have HEND : Hid (∃ F, TabAt wr F tb P ∧ (∀ j, F j → w.heap.size ≤ j) ∧ Grew w wr) := by
        obtain ⟨F, h1, _, _, h4⟩ := HR.out.tab
        rw [HN.out, List.take_length] at h1
        exact ⟨F, h1, h4, HR.out.grew⟩
      have hz : ((k - k : Nat) : Int) = 0 := by omega
      clear hdr
      go_wp2_with fail
      refine (inEnd_any HRi.out).mono ?_
      rintro e w4 ⟨rfl, rfl⟩
      go_wp2_with fail
      go_ret2
      obtain ⟨F, h1, h2, h3⟩ := HEND.out
      exact ⟨tb, F, rfl, h1, h2, h3⟩
end Go.Proofs.YtoiahcgaffffbaaGreatDoor
namespace Go.Proofs.YtoiahcgaffffbaaGreatDoor
open Go.RowKit Go.Maps
attribute [local go_sem] Oper.semAt_some
theorem strNums_strOf {ns : List Int} (h : ∀ b ∈ ns, 0 ≤ b ∧ b < 256) : strNums (strOfNums ns) = ns := by
  unfold strNums strOfNums
  rw [List.map_map]
  conv => rhs; rw [← List.map_id ns]
  refine List.map_congr_left fun b hb => ?_
  obtain ⟨h1, h2⟩ := h b hb
  simp
  omega
theorem wpList_convert_run {P : Program} {ops : Array Oper} {rest : List Oper} {o : Oper} {a : Act} {w w' : World} {Q : Exit → Act → World → Prop} {s d : TypeId} (hg : o.guard = none) (x : Operand) (hop : o.op = Op.convert s d x) {vx v : Value} (hx : a.eval x = vx)
    (hrun : (convert s d vx).run P w = .ok v w') (hK : wpList P ops Q rest (a.put o.dst v) w') : wpList P ops Q (o :: rest) a w := by
  refine wpList_plain hg fun K' hK' => ?_
  unfold Oper.wp
  simp [execOp, hop, hx, hrun, Result.andThen]
  exact hK' _ _ hK
theorem conv_text (w : World) (s : ByteArray) : ∃ a cap w', (convert 9 44 (.string s)).run Tryz.prog w = .ok (.slice a s.size cap) w' ∧ Grew w w' ∧ BytesAt w' a (strNums s) ∧ SlForm a cap := by
  refine ⟨_, _, _, run_bytes_of_string w 9 44 5 s Tryz.underlying9 Tryz.underlying44 Tryz.underlying5, ((Grew.refl w).drew).alloc _, ?_, .inr ⟨_, _, rfl⟩⟩
  refine .inr ⟨_, _, rfl, by simp, fun j n hj => ?_⟩
  have hb := heap_alloc_new w.drew (.cells (bytesRow s (grownCap w s.size 0 5)) 5 ((bytesRow s (grownCap w s.size 0 5)).size, (bytesRow s (grownCap w s.size 0 5)).size + 1))
  have hj1 : j < s.data.size := by
    have := List.getElem?_eq_some_iff.1 hj
    obtain ⟨h1, _⟩ := this
    rw [strNums_length] at h1
    exact h1
  have hn : n = (s.data[j].toNat : Int) := by
    unfold strNums at hj
    rw [List.getElem?_map, Array.getElem?_toList, Array.getElem?_eq_getElem hj1] at hj
    simpa using hj.symm
  rw [Nat.zero_add]
  refine (cell_of_row _ w.heap.size j _ 5 _ hb).trans ?_
  rw [hn]
  exact bytesRow_at s _ j hj1
end Go.Proofs.YtoiahcgaffffbaaGreatDoor
namespace Go.Proofs.YtoiahcgaffffbaaGreatDoor
open Go.RowKit Go.Maps
attribute [local go_sem] Oper.semAt_some uponV
structure JTx (y : World) (t0 t1 t2 t3 : ByteArray) (L : Nat → Bool) (f : Nat → Value) (x : World) : Prop where
  grew : Grew y x
  ord : L 15 = true → L 14 = true
  row : L 14 = true → ∃ b, f 14 = .slice (some ⟨b, 0, none⟩) 4 4 ∧ y.heap.size ≤ b ∧ b < x.heap.size ∧ x.cell? ⟨b, 0, none⟩ = some (.string t0) ∧ x.cell? ⟨b, 1, none⟩ = some (.string t1) ∧ x.cell? ⟨b, 2, none⟩ = some (.string t2) ∧ x.cell? ⟨b, 3, none⟩ = some (.string t3)
  len : L 15 = true → f 15 = .int .i64 4
theorem stB_len {lo hi : ByteArray} {P : List Pr} {S : Int → Option An} (hl : lo.size ≤ 300) (hh : hi.size ≤ 300) (hP : (Pl.tabB P).length ≤ 60000) (hS : (seenB S).length ≤ 1000) : (stB lo hi P S).length ≤ 65000 := by
  unfold stB
  have h1 := Pl.textB_len lo (by omega)
  have h2 := Pl.textB_len hi (by omega)
  have h3 := Pl.textB_len (strOfNums (Pl.tabB P)) (by rw [strOfNums_size]; omega)
  have h4 := Pl.textB_len (strOfNums (seenB S)) (by rw [strOfNums_size]; omega)
  rw [strOfNums_size] at h3 h4
  simp only [List.length_append]
  omega
set_option maxRecDepth 100000 in
set_option maxHeartbeats 8000000 in
theorem bytesS_any {w : World} {Ft Fs : Nat → Prop} {st n : Nat} {lo hi : ByteArray} {P : List Pr} {S : Int → Option An} (h : StAt w Ft Fs st n lo hi P S) (hx : P.length ≤ 1000) (hn : n ≤ 1000000) (hl : lo.size ≤ 300) (hh : hi.size ≤ 300) (hP : (Pl.tabB P).length ≤ 60000) (hS : (seenB S).length ≤ 1000) :
    Calls Tryz.prog 31 #[.pointer (some ⟨st, 0, none⟩)] w fun e w' => ∃ a c, e = .returned (.tuple #[.slice a (stB lo hi P S).length c, .nilIface]) ∧ w'.ownsRow w.heap.size 5 1 (.slice a (stB lo hi P S).length c) (stB lo hi P S).length (u8Flat (stB lo hi P S)) ∧ Grew w w' := by
  have hlen := stB_len hl hh hP hS
  obtain ⟨tb, sb, h⟩ := h
  have HT := hid (fun W (g : Grew w W) => bytesT_any (h.tab.grew g) h.good hx (by omega))
  have HD := hid (fun W (g : Grew w W) => bytesD_any (h.seen.grew g) hn)
  have c0 := h.c0
  have HC1 := hid h.c1
  have HC2 := hid h.c2
  have HC3 := hid h.c3
  have hst : st < w.heap.size := cell_lt c0
  clear h
  have HLEN := hid hlen
  have HEQ : Hid (stB lo hi P S = Pl.textB lo ++ Pl.textB hi ++ Pl.textB (strOfNums (Pl.tabB P)) ++ Pl.textB (strOfNums (seenB S))) := rfl
  generalize stB lo hi P S = bs at *
  generalize Pl.tabB P = ns at *
  generalize seenB S = ms at *
  go_enter Tryz.func31, Tryz.ntmps31
  go_wp2_with fail
  refine (HT.out w (Grew.refl w)).mono ?_
  rintro e w1 ⟨a1, c1, rfl, hr1, hg1⟩
  obtain ⟨a1', c1', e1, hA1, hF1, _⟩ := bytesAt_of hr1
  cases e1
  have HA1 := hid (And.intro hA1 hF1)
  have HG1 := hid hg1
  have d3 := (hg1.cells.1 _ 3 hst).trans HC3.out
  have hst1 := Nat.lt_of_lt_of_le hst hg1.size
  clear hr1 hA1 hF1 hg1 c0
  go_wp2_with fail
  clear d3
  refine (HD.out w1 HG1.out).mono ?_
  rintro e w2 ⟨a2, c2, rfl, hr2, hg2⟩
  obtain ⟨a2', c2', e2, hA2, hF2, _⟩ := bytesAt_of hr2
  cases e2
  have HA2 := hid (And.intro hA2 hF2)
  have HG2 := hid (HG1.out.trans hg2)
  have HA12 := hid (HA1.out.1.grew hg2)
  clear hr2 hA2 hF2 hg2
  go_wp2_with fail
  obtain ⟨ob, hob⟩ : ∃ ob, ob = w2.heap.size := ⟨_, rfl⟩
  obtain ⟨Y, hY⟩ : ∃ Y, Y = w2.alloc (.cells #[.slice none 0 0, .nilIface] 151) := ⟨_, rfl⟩
  have hOY : OutAt Y (fun j => j = ob) ob [] := by rw [hY, hob]; exact OutAt.new w2 _
  have gY : Grew w2 Y := by rw [hY]; exact (Grew.refl w2).alloc _
  have hG := HG2.out.trans gY
  have C1 := wd_cell ((hG.cells.1 _ 1 hst).trans HC1.out)
  have C2 := wd_cell ((hG.cells.1 _ 2 hst).trans HC2.out)
  have K1 : ∀ p : Wd (Grew Y), (convert 44 9 (.slice a1 ns.length c1)).run Tryz.prog p.w = .ok (.string (strOfNums ns)) p.w := fun p => run_conv_bytes rfl (HA12.out.grew (gY.trans p.ok)) HA1.out.2
  have K2 : ∀ p : Wd (Grew Y), (convert 44 9 (.slice a2 ms.length c2)).run Tryz.prog p.w = .ok (.string (strOfNums ms)) p.w := fun p => run_conv_bytes rfl (HA2.out.1.grew (gY.trans p.ok)) HA2.out.2
  have hstY : st < Y.heap.size := Nat.lt_of_lt_of_le hst hG.size
  have hobY : ob < Y.heap.size := by rw [hY, hob]; simp
  have HGY := hid hG
  have HOY := hid hOY
  have HOB := hid (show w.heap.size ≤ ob from by rw [hob]; exact HG2.out.size)
  have HSN := hid (strOfNums_size ns)
  have HSM := hid (strOfNums_size ms)
  rw [← hob, ← hY]
  clear hY hob hOY gY hG
  generalize strOfNums ns = t2 at *
  generalize strOfNums ms = t3 at *
  refine wp_region_mixS 17 [14, 15] (Grew Y) Eq (JTx Y lo hi t2 t3) (fun f a => (a.put (some 48) (f 14)).put (some 49) (f 15)) (by kernel_rfl) (by kernel_rfl) (fun _ _ => rfl) ⟨(Grew.refl Y).drew, (fun h => by cases h), (fun h => by cases h), (fun h => by cases h)⟩ (fun _ _ _ h => h.grew) (fun _ => rfl) (fun _ _ _ _ h g => g ▸ h) ?_
  repeat (first
    | (refine mixS_loose (by rfl) (by rfl) ?_)
    | (refine mixS_plain (by rfl) (by rfl) (by rfl) (by first | exact Grew.refl | exact fun _ => rfl) (by rfl) ?_; intro K hK; go_big_quiet_op; go_big_quiet_on)
    | (refine mixS_skip (by rfl) (by rfl) (by rfl) ?_; simp only [Act.put, List.setIfInBounds_toArray, List.set_cons_zero, List.set_cons_succ]))
  refine mixS_nil ⟨⟨loose_of rfl (fun _ a => a) (fun _ _ => rfl) (fun _ => rfl) ?_, loose_of rfl (fun f a => a.put (some 48) (f 14)) (fun _ _ => rfl) (fun _ => rfl) ?_, trivial⟩, ?_⟩
  · intro L f x hJ hL hd
    have h15 : L 15 = false := bool_no fun h => by rw [hJ.ord h] at hL; cases hL
    have HJ := hid hJ
    have H15 := hid h15
    clear hJ hL hd C1 C2 K1 K2 h15
    go_simp
    refine ⟨HJ.out.grew.alloc _, fun h => plus_on, fun _ => ⟨x.heap.size, updV_same _ _ _, HJ.out.grew.size, by simp, by simp [go_sem], by simp [go_sem], by simp [go_sem], by simp [go_sem]⟩, fun h => ?_⟩
    rw [plus_ne (by decide), H15.out] at h; cases h
  · intro L f x hJ hL hd
    have l14 := hd 14 rfl (by decide)
    obtain ⟨b, e14, r1⟩ := hJ.row l14
    have HJ := hid hJ
    have HR := hid (And.intro e14 r1)
    have HL14 := hid l14
    clear hJ hL hd C1 C2 K1 K2 r1 l14
    rw [e14]
    clear e14
    go_simp
    refine ⟨HJ.out.grew, fun h => plus_up HL14.out, fun _ => ⟨b, ?_, HR.out.2⟩, fun _ => updV_same _ _ _⟩
    rw [updV_ne (by decide)]; exact HR.out.1
  intro f x hJ
  obtain ⟨b, e14, hb1, hb2, r0, r1, r2, r3⟩ := hJ.row rfl
  have e15 := hJ.len rfl
  have HGX := hid hJ.grew
  clear hJ C1 C2 K1 K2
  dsimp only [List.drop]
  simp only [Act.put, List.setIfInBounds_toArray, List.set_cons_succ, List.set_cons_zero]
  rw [e14, e15]
  clear e14 e15
  have HBB := hid (show b ≠ ob ∧ b < x.heap.size from ⟨by omega, hb2⟩)
  obtain ⟨ts, hts⟩ : ∃ ts : List ByteArray, ts = [lo, hi, t2, t3] := ⟨_, rfl⟩
  have HTS := hid hts
  have HSL := hid (fun (j : Nat) (hj : j < 4) => show ∃ u, ts[j]? = some u ∧ x.cell? ⟨b, j, none⟩ = some (.string u) ∧ u.size ≤ 60000 from by
    rw [hts]
    have e2 := HSN.out
    have e3 := HSM.out
    match j, hj with
    | 0, _ => exact ⟨lo, rfl, r0, by omega⟩
    | 1, _ => exact ⟨hi, rfl, r1, by omega⟩
    | 2, _ => exact ⟨t2, rfl, r2, by omega⟩
    | 3, _ => exact ⟨t3, rfl, r3, by omega⟩)
  have HLT := hid (fun (j : Nat) (hj : j ≤ 4) => show ((ts.take j).flatMap Pl.textB).length ≤ 65000 from by
    have h4 : bs = ts.flatMap Pl.textB := by rw [HEQ.out, hts]; simp [List.append_assoc]
    have h5 : (ts.take j).flatMap Pl.textB ++ (ts.drop j).flatMap Pl.textB = bs := by rw [h4, ← List.flatMap_append, List.take_append_drop]
    have h6 := congrArg List.length h5
    rw [List.length_append] at h6
    have := HLEN.out
    omega)
  have HBS : Hid ((ts.take 4).flatMap Pl.textB = bs) := by
    unfold Hid
    rw [HEQ.out, hts]
    simp [List.append_assoc]
  have HOX := hid (HOY.out.grew HGX.out)
  have hobx := Nat.lt_of_lt_of_le hobY HGX.out.size
  clear r0 r1 r2 r3 hb1 hb2 hts
  go_wp2_with fail
  go_loopw [9, 50] (fun u i wr => ∃ j : Nat, j ≤ 4 ∧ i = .int .i64 j ∧ Hid (OutTurn x (fun j => j = ob) ob ((ts.take j).flatMap Pl.textB) wr)) (fun _ i _ => 4 - (intOf i).toNat)
  case atStart => exact ⟨0, by omega, rfl, by unfold Hid; simpa using OutTurn.refl HOX.out⟩
  case round =>
    obtain ⟨j, hj, rfl, HT2⟩ := hrel
    obtain ⟨gO, G1, hO, hG1⟩ := HT2.out
    have HOA := hid hO
    have HGO := hid gO
    have HGG := hid hG1
    clear hO gO hG1
    by_cases hlt4 : j < 4
    · obtain ⟨u, hu1, hu2, hu3⟩ := HSL.out j hlt4
      have hc := (HGO.out.cell HBB.out.2 HBB.out.1 j).trans hu2
      have hcl : b < wr.heap.size := cell_lt hc
      have hlen2 := HLT.out j hj
      have htk : (ts.take (j + 1)).flatMap Pl.textB = (ts.take j).flatMap Pl.textB ++ Pl.textB u := by
        obtain ⟨hjl, hju⟩ := List.getElem?_eq_some_iff.1 hu1
        rw [List.take_succ_eq_append_getElem hjl, List.flatMap_append, hju]
        simp
      have HTK := hid htk
      have HN := hid (outText_any HOA.out u (by omega) (by omega))
      clear hu1 hu2 htk hlen2
      go_wp2_with fail
      refine HN.out.mono ?_
      rintro e w5 ⟨rfl, hT⟩
      have HT5 := hid (OutTurn.step HGO.out HGG.out hT)
      clear hT hc
      go_wp2_with fail
      go_roundw
      case rel => exact ⟨j + 1, by omega, by go_num, by unfold Hid; rw [HTK.out]; exact HT5.out⟩
      case measure => simp [intOf]; omega
    · have hj4 : j = 4 := by omega
      subst hj4
      rw [HBS.out] at HOA
      have HDN := hid (outDone_any HOA.out (by have := HLEN.out; omega))
      have hGr : Grew w wr := ((HGY.out.trans HGX.out).only (fun j => j = ob) |>.then HGO.out).grew (fun j (hj : j = ob) => by rw [hj]; exact HOB.out)
      have HGR := hid hGr
      clear hGr
      go_wp2_with fail
      refine HDN.out.mono ?_
      rintro e w5 ⟨a5, c5, rfl, hr5, hg5⟩
      have HR5 := hid (ownsRow_base HGR.out.size hr5)
      have HG5 := hid (HGR.out.trans hg5)
      clear hr5 hg5
      go_wp2_with fail
      go_ret2
      exact ⟨a5, c5, rfl, HR5.out, HG5.out⟩
end Go.Proofs.YtoiahcgaffffbaaGreatDoor
