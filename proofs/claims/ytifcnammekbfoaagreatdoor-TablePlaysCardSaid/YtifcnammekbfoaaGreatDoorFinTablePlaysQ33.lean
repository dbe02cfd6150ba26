/- RdT, Acts21: one text. -/
import Derived.Test.YtifcnammekbfoaaGreatDoorFinTablePlaysQ31
import Derived.Test.YtifcnammekbfoaaGreatDoorFinTablePlaysQ26
import Derived.Test.YtifcnammekbfoaaGreatDoorFinTablePlaysQ32
import Derived.Test.YtifcnammekbfoaaGreatDoorFinTablePlaysQ21
import Derived.Test.YtifcnammekbfoaaGreatDoorFinTablePlaysQ4
import Derived.Deep.QuietTactic
import Derived.BigQuiet
/- The walk of table.Read, where the bytes are a table's. -/
set_option linter.unusedVariables false
set_option linter.unusedSectionVars false
set_option linter.unusedSimpArgs false
namespace Go.Proofs.YtifcnammekbfoaaGreatDoor
open Go.RowKit Go.Maps Go.Sort
attribute [local go_sem] Oper.semAt_some uponV

/-- What a round of Read holds: k pairs are read. -/
structure RdT (w wr : World) (ib nb tb : Nat) (P : List Pr) (k : Nat) : Prop where
  grew : Grew w wr
  inp : InAt wr ib nb (Pl.pairsB (P.drop k))
  tab : ∃ F, TabAt wr F tb (P.take k) ∧ ¬ F ib ∧ ¬ F nb ∧ ∀ j, F j → w.heap.size ≤ j
  new : w.heap.size ≤ ib
theorem RdT.more {w wr x : World} {ib nb tb : Nat} {P : List Pr} {k : Nat} (h : RdT w wr ib nb tb P k) (g : Grew wr x) : RdT w x ib nb tb P k := by
  obtain ⟨F, h1, h2⟩ := h.tab
  exact ⟨h.grew.trans g, h.inp.grew g, ⟨F, h1.grew g, h2⟩, h.new⟩

set_option maxRecDepth 100000 in
set_option maxHeartbeats 8000000 in
theorem readT_any {S : Nat → Bool} (hS : TabS S) (E : Nat → Addr) {w : World} (hE : Errs S E w) {a : Option Addr} {cap : Nat} {P : List Pr} (hA : BytesAt w a (Pl.tabB P)) (hf : SlForm a cap) (hs : Pl.Srt P) (hg : Pl.Good P) (hx : P.length ≤ 1000) :
    Calls Tryz.prog 15 #[.slice a (Pl.tabB P).length cap] w fun e w' => ∃ tb F, e = .returned (.tuple #[.pointer (some ⟨tb, 0, none⟩), .nilIface]) ∧ TabAt w' F tb P ∧ (∀ j, F j → w.heap.size ≤ j) ∧ Grew w w' := by
  have hlen := Pl.tabB_len hg (by omega)
  have hps := Pl.pairsB_len hg
  have HIR := hid (inRead_any w a _ cap (Pl.tabB P) rfl hA hf (by omega) (by unfold Pl.tabB; rw [List.length_append]; have := Pl.numB_pos P.length; omega))
  have HE := hid hE
  have HPL := hid hps
  obtain ⟨n, hn⟩ : ∃ n, n = P.length := ⟨_, rfl⟩
  have HN := hid hn
  have hn1 : n ≤ 1000 := by omega
  have hT0 : Pl.tabB P = Pl.numB n ++ Pl.pairsB P := by unfold Pl.tabB; rw [hn]
  have HT0 := hid hT0
  have HNX := hid (fun k hk => Pl.srt_next hs hg k hk)
  have HGD := hid (fun k hk => good_ver hg k hk)
  generalize (Pl.tabB P).length = z at *
  clear hlen hps hn hA hf hT0 hs hg hx hE
  go_enter Tryz.func15, Tryz.ntmps15
  go_wp2_with fail
  refine HIR.out.mono ?_
  rintro e w1 ⟨ib, nb, rfl, hib, hnb, hI, hg1⟩
  rw [HT0.out] at hI
  have HI := hid hI
  have HG1 := hid hg1
  have HIB := hid hib
  clear hI hg1 hib hnb HIR
  go_wp2_with fail
  refine (newT_any w1).mono ?_
  rintro e w2 ⟨rfl, hg2, hT2⟩
  have HI2 := hid (HI.out.grew hg2)
  have HT2 := hid hT2
  have HL2 := hid HI.out.lt
  have HG2 := hid (HG1.out.trans hg2)
  have HZ := hid HG1.out.size
  obtain ⟨tb, htb⟩ : ∃ tb, tb = w1.heap.size := ⟨_, rfl⟩
  rw [← htb] at HT2 HL2 ⊢
  rw [← htb] at HZ
  clear htb hg2 hT2
  go_wp2_with fail
  refine (inNum_any n 65536 (by omega) (by omega) HI2.out (by have := HPL.out; rw [← HN.out] at this; omega)).mono ?_
  rintro e w3 ⟨rfl, hO3, hI3⟩
  have HR0 : Hid (RdT w w3 ib nb tb P 0) := by
    have hlt := HL2.out
    refine ⟨((HG2.out.only _).then hO3).grew (fun j (hj : j = ib) => by rw [hj]; exact HIB.out), by simpa using hI3, ⟨_, by simpa using HT2.out.kept hO3 (fun j (hj : j = tb) (h2 : j = ib) => by omega), (fun h => by omega), (fun h => by omega), fun j (hj : j = tb) => by rw [hj]; exact HZ.out⟩, HIB.out⟩
  clear hO3 hI3 HI2 HT2 HL2 HG2 HZ HI HG1
  go_wp2_with fail
  go_loopw [6, 7, 8, 9] (fun r i _ _ wr => ∃ k : Nat, r = .bool true ∧ k ≤ n ∧ i = .int .i64 ((n - k : Nat) : Int) ∧ Hid (RdT w wr ib nb tb P k)) (fun _ i _ _ _ => (intOf i).toNat)
  case atStart => exact ⟨0, rfl, by omega, rfl, HR0⟩
  case round =>
    obtain ⟨k, rfl, hk, rfl, HR⟩ := hrel
    have HRi := hid HR.out.inp
    by_cases hlt : k < n
    · have hlt' : k < P.length := by rw [← HN.out]; exact hlt
      obtain ⟨v1, v2, v3, v4⟩ := HGD.out k hlt'
      obtain ⟨x1, x2, x3⟩ := HNX.out k hlt'
      have hin := HRi.out
      rw [Pl.pairsB_drop P k hlt'] at hin
      unfold Pl.pairB at hin
      have hrl : (Pl.pairsB (P.drop (k + 1))).length ≤ 170000 := by
        have h1 := HPL.out
        have h2 := congrArg List.length (show Pl.pairsB (P.take (k + 1)) ++ Pl.pairsB (P.drop (k + 1)) = Pl.pairsB P by unfold Pl.pairsB; rw [← List.flatMap_append, List.take_append_drop])
        rw [List.length_append] at h2
        rw [← HN.out] at h1
        omega
      have HX1 := hid x1
      have HX2 := hid x2
      have HX3 := hid x3
      clear x1 x2 x3 hlt'
      have HPR : Hid (0 < k → ∃ j, k = j + 1 ∧ prAt P j = prAt P (k - 1)) := fun h => ⟨k - 1, by omega, rfl⟩
      generalize hce : prAt P k = c at *
      have HCE := hid hce
      clear hce
      obtain ⟨ck, cv, cn⟩ := c
      dsimp only at *
      obtain ⟨vn, hvn⟩ : ∃ vn : Nat, vn = cn.toNat := ⟨_, rfl⟩
      rw [← hvn] at v1 v2 hin
      subst v1
      clear hvn
      have l1 := Pl.textB_len ck (by omega)
      have l2 := Pl.textB_len cv (by omega)
      have l3 := Pl.numB_len 8 vn (by omega)
      obtain ⟨rest, hrest⟩ : ∃ rest, rest = Pl.pairsB (P.drop (k + 1)) := ⟨_, rfl⟩
      rw [← hrest] at hin hrl
      have HREST := hid hrest
      have HIN : Hid (InAt wr ib nb (Pl.textB ck ++ (Pl.textB cv ++ (Pl.numB vn ++ rest)))) := by unfold Hid; simpa [List.append_assoc] using hin
      clear hin hrest
      have hpos : (0 : Int) < ((n - k : Nat) : Int) := by omega
      have hcast : ((n - k : Nat) : Int) = (n : Int) - (k : Int) := by omega
      have hpos' : (0 : Int) < (n : Int) - (k : Int) := by omega
      go_wp2_with fail
      refine (inErr_any HRi.out).mono ?_
      rintro e w4 ⟨rfl, hw4⟩
      subst hw4
      go_wp2_with fail
      -- key, value, version
      refine (inText_any ck 65536 (by omega) (by omega) HIN.out (by simp only [List.length_append]; omega)).mono ?_
      rintro e w5 ⟨rfl, hO5, hI5⟩
      have HI5 := hid hI5
      have HO5 := hid hO5
      clear hI5 hO5
      go_wp2_with fail
      refine (inText_any cv 65536 (by omega) (by omega) HI5.out (by simp only [List.length_append]; omega)).mono ?_
      rintro e w6 ⟨rfl, hO6, hI6⟩
      have HI6 := hid hI6
      have HO6 := hid (HO5.out.then hO6)
      clear hI6 hO6
      go_wp2_with fail
      refine (inNum_any vn 4096 (by omega) (by omega) HI6.out (by omega)).mono ?_
      rintro e w7 ⟨rfl, hO7, hI7⟩
      have HI7 := hid hI7
      have HO7 := hid (HO6.out.then hO7)
      clear hI7 hO7
      -- what is there now
      obtain ⟨F, hT, hF1, hF2, hF3⟩ := HR.out.tab
      have hT7 := hT.kept HO7.out (fun j hj (e : j = ib) => hF1 (by rw [← e]; exact hj))
      have HT7 := hid hT7
      have HF := hid (And.intro hF1 (And.intro hF2 hF3))
      have HG7 := hid (show Grew w w7 from ((HR.out.grew.only _).then HO7.out).grew (fun j (hj : j = ib) => by rw [hj]; exact HIB.out))
      obtain ⟨vt, hT7⟩ := hT7
      obtain ⟨at7, cap7, rfl, hA7⟩ := pairsAt_of hT7.row
      have c0 := hT7.cell
      have hl7 : (P.take k).length = k := by rw [List.length_take, ← HN.out]; omega
      rw [hl7] at c0
      have htb : tb < w7.heap.size := cell_lt c0
      have HA7 := hid hA7
      have HL7 := hid hl7
      clear hT hT7 hA7 hl7 hF1 hF2 hF3
      go_wp2_with fail
      obtain ⟨W8, hW8⟩ : ∃ W8, W8 = w7.alloc (.cells #[.string ck, .string cv, .int .i64 vn] 104) := ⟨_, rfl⟩
      have HW8 := hid hW8
      have g8 : Grew w7 W8 := by rw [hW8]; exact (Grew.refl w7).alloc _
      have P0 := wd_cell (w := W8) (show W8.cell? ⟨w7.heap.size, 0, none⟩ = some (.string ck) from by rw [hW8]; simp [go_sem])
      have P1 := wd_cell (w := W8) (show W8.cell? ⟨w7.heap.size, 1, none⟩ = some (.string cv) from by rw [hW8]; simp [go_sem])
      have P2 := wd_cell (w := W8) (show W8.cell? ⟨w7.heap.size, 2, none⟩ = some (.int .i64 vn) from by rw [hW8]; simp [go_sem])
      have C8 := wd_cell ((g8.cells.1 _ 0 htb).trans c0)
      have hz8 : w7.heap.size < W8.heap.size := by rw [hW8]; simp
      have htb8 : tb < W8.heap.size := Nat.lt_of_lt_of_le htb g8.size
      have HG8 := hid g8
      rw [← hW8]
      clear hW8 c0 g8 htb
      have HPUT := hid (fun x (g : Grew W8 x) => putT_any hS E (HE.out.grew (HG7.out.trans (HG8.out.trans g))) (HT7.out.grew (HG8.out.trans g)) (by rw [HL7.out]; omega) ck cv vn (by omega) (by omega))
      rw [HX2.out, HX1.out, show errOf E 0 = .nilIface from rfl] at HPUT
      have HRND := hid (fun (x x' : World) (hG : Grew W8 x) (hT : TabTurn x F tb (P.take (k + 1)) x') => show RdT w x' ib nb tb P (k + 1) from by
        obtain ⟨hO, F', h1, h2⟩ := hT
        have hG2 := HG8.out.trans hG
        have hs := hG2.size
        have hw := HG7.out.size
        have hlt := (HI7.out.grew hG2).lt
        have hlt7 := HI7.out.lt
        refine ⟨((HG7.out.trans hG2).only F |>.then hO).grew HF.out.2.2, ?_, ⟨F', h1, fun h => ?_, fun h => ?_, fun j hj => ?_⟩, HIB.out⟩
        · rw [← HREST.out]; exact (HI7.out.grew hG2).kept hO HF.out.1 HF.out.2.1
        · rcases h2 _ h with h | h
          · exact HF.out.1 h
          · omega
        · rcases h2 _ h with h | h
          · exact HF.out.2.1 h
          · omega
        · rcases h2 _ hj with h | h
          · exact HF.out.2.2 j h
          · omega)
      have HKN := hid (And.intro hk (And.intro hlt hcast))
      have hk9 : k < 1000000 := by omega
      have HSZ := hid v3
      clear hcast hpos hpos' l1 l2 l3 hrl v2 v3 v4 hlt hk HPR HCE
      by_cases hk0 : k = 0
      · subst hk0
        clear HX3 HSZ
        refine wp_region_still 25 (by kernel_rfl) (by kernel_rfl) (fun _ _ => rfl) ?_
        repeat (first
    | (refine mixS_skip (by rfl) (by rfl) (by rfl) ?_; simp only [Act.put, List.setIfInBounds_toArray, List.set_cons_zero, List.set_cons_succ])
    | (refine mixS_plain (by rfl) (by rfl) (by rfl) (by first | exact Grew.refl | exact fun _ => rfl) (by rfl) ?_; intro K hK; go_big_quiet_op; go_big_quiet_on))
        refine mixS_done (by rfl) ?_
        intro x hG
        have HGx := hid hG
        clear P0 P1 P2 C8 hG
        dsimp only [List.drop]
        go_wp2_with fail
        refine (HPUT.out x HGx.out).mono ?_
        rintro e x' ⟨rfl, hT⟩
        have HRN := hid (HRND.out x x' HGx.out hT)
        clear hT
        go_wp2_with fail
        go_roundw
        case rel =>
          obtain ⟨k1, k2, k3⟩ := HKN.out
          exact ⟨0 + 1, rfl, by omega, by go_num, HRN⟩
        case measure =>
          obtain ⟨k1, k2, k3⟩ := HKN.out
          simp [intOf]; omega
      · obtain ⟨j, rfl⟩ : ∃ j, k = j + 1 := ⟨k - 1, by omega⟩
        have hj : j < (P.take (j + 1)).length := by rw [HL7.out]; omega
        obtain ⟨pb, poff, rfl, hpb, hPR⟩ := pairs_fields HA7.out j hj
        have hpc := hPR.key j hj
        have K8 := wd_cell ((HG8.out.cells.1 pb (poff + j * 3) hpb).trans hpc)
        have hpk : prAt (P.take (j + 1)) j = prAt P j := by
          rw [prAt_eq _ j hj, prAt_eq P j (by rw [← HN.out]; have := HKN.out.1; omega), List.getElem_take]
        rw [hpk] at K8
        have hc1 : Pl.compare (prAt P j).key ck < 0 := HX3.out j (by omega)
        have hc2 := (HGD.out j (by rw [← HN.out]; have := HKN.out.1; omega)).2.2.1
        generalize (prAt P j).key = pk at *
        have HCMP := hid (fun x (g : Grew W8 x) => compare_any pk ck x (by omega) (by have := HSZ.out; omega))
        generalize Pl.compare pk ck = cc at *
        have hc3 : ¬ (0 : Int) ≤ cc := by omega
        clear hpk hc1 hc2 HSZ HX3
        clear hPR hpc hj
        refine wp_region_still 25 (by kernel_rfl) (by kernel_rfl) (fun _ _ => rfl) ?_
        repeat (first
    | (refine mixS_plain (by rfl) (by rfl) (by rfl) (by first | exact Grew.refl | exact fun _ => rfl) (by rfl) ?_; intro K hK; go_big_quiet_op; go_big_quiet_on)
    | (refine mixS_call (by rfl) (by rfl) (by rfl) (by rfl) (fun _ => by kernel_rfl) (fun u hu => HCMP.out u hu) ?_; simp only [Act.put, List.setIfInBounds_toArray, List.set_cons_zero, List.set_cons_succ])
    | (refine mixS_skip (by rfl) (by rfl) (by rfl) ?_; simp only [Act.put, List.setIfInBounds_toArray, List.set_cons_zero, List.set_cons_succ]))
        refine mixS_done (by rfl) ?_
        intro x hG
        have HGx := hid hG
        clear P0 P1 P2 C8 hG
        dsimp only [List.drop]
        go_wp2_with fail
        refine (HPUT.out x HGx.out).mono ?_
        rintro e x' ⟨rfl, hT⟩
        have HRN := hid (HRND.out x x' HGx.out hT)
        clear hT
        go_wp2_with fail
        go_roundw
        case rel =>
          obtain ⟨k1, k2, k3⟩ := HKN.out
          exact ⟨(j + 1) + 1, rfl, by omega, by go_num, HRN⟩
        case measure =>
          obtain ⟨k1, k2, k3⟩ := HKN.out
          simp [intOf]; omega
    · have hkn : k = n := by omega
      subst hkn
      have hdr : Pl.pairsB (P.drop k) = [] := by rw [HN.out, List.drop_length]; rfl
      rw [hdr] at HRi
      have HEND : Hid (∃ F, TabAt wr F tb P ∧ (∀ j, F j → w.heap.size ≤ j) ∧ Grew w wr) := by
        obtain ⟨F, h1, _, _, h4⟩ := HR.out.tab
        rw [HN.out, List.take_length] at h1
        exact ⟨F, h1, h4, HR.out.grew⟩
      have hz : ((k - k : Nat) : Int) = 0 := by omega
      clear hdr
      go_wp2_with fail
      refine (inEnd_any HRi.out).mono ?_
      rintro e w4 ⟨rfl, rfl⟩
      go_wp2_with fail
      go_ret2
      obtain ⟨F, h1, h2, h3⟩ := HEND.out
      exact ⟨tb, F, rfl, h1, h2, h3⟩
end Go.Proofs.YtifcnammekbfoaaGreatDoor

/- The acts of tidewaterlaw21: how a list of them lies in memory; the walks of 'long' and of Num at any number. -/
namespace Go.Proofs.YtifcnammekbfoaaGreatDoor
open Go.RowKit

/-- An act. -/
structure Act21 where
  kind : Int
  ver : Int
  key : ByteArray
  val : ByteArray
  lo : ByteArray
  hi : ByteArray
def Act21.none : Act21 := ⟨0, 0, ⟨#[]⟩, ⟨#[]⟩, ⟨#[]⟩, ⟨#[]⟩⟩
def actAt21 (xs : List Act21) (j : Nat) : Act21 := xs[j]?.getD Act21.none
structure ActRow21 (W : World) (b off : Nat) (xs : List Act21) : Prop where
  kind : ∀ j, j < xs.length → W.cell? ⟨b, off + j * 6, Option.none⟩ = some (.int .i64 (actAt21 xs j).kind)
  ver : ∀ j, j < xs.length → W.cell? ⟨b, off + j * 6 + 1, Option.none⟩ = some (.int .i64 (actAt21 xs j).ver)
  key : ∀ j, j < xs.length → W.cell? ⟨b, off + j * 6 + 2, Option.none⟩ = some (.string (actAt21 xs j).key)
  val : ∀ j, j < xs.length → W.cell? ⟨b, off + j * 6 + 3, Option.none⟩ = some (.string (actAt21 xs j).val)
  lo : ∀ j, j < xs.length → W.cell? ⟨b, off + j * 6 + 4, Option.none⟩ = some (.string (actAt21 xs j).lo)
  hi : ∀ j, j < xs.length → W.cell? ⟨b, off + j * 6 + 5, Option.none⟩ = some (.string (actAt21 xs j).hi)
theorem ActRow21.grew {W W' : World} {b off : Nat} {xs : List Act21} (h : ActRow21 W b off xs) (g : Grew W W') (hb : b < W.heap.size) : ActRow21 W' b off xs :=
  ⟨fun j hj => (g.cells.1 _ _ hb).trans (h.kind j hj), fun j hj => (g.cells.1 _ _ hb).trans (h.ver j hj), fun j hj => (g.cells.1 _ _ hb).trans (h.key j hj), fun j hj => (g.cells.1 _ _ hb).trans (h.val j hj), fun j hj => (g.cells.1 _ _ hb).trans (h.lo j hj), fun j hj => (g.cells.1 _ _ hb).trans (h.hi j hj)⟩
/-- A slice of acts: empty, or a row. -/
def ActsAt21 (W : World) (a : Option Addr) (xs : List Act21) : Prop := xs = [] ∨ ∃ b off, a = some ⟨b, off, none⟩ ∧ b < W.heap.size ∧ ActRow21 W b off xs
theorem ActsAt21.grew {W W' : World} {a : Option Addr} {xs : List Act21} (h : ActsAt21 W a xs) (g : Grew W W') : ActsAt21 W' a xs := by
  rcases h with h | ⟨b, off, e, hb, h⟩
  · exact .inl h
  · exact .inr ⟨b, off, e, Nat.lt_of_lt_of_le hb g.size, h.grew g hb⟩
def Act21.long (a : Act21) : Bool := decide (300 < a.key.size) || decide (300 < a.val.size) || decide (300 < a.lo.size) || decide (300 < a.hi.size)
def long21B (xs : List Act21) : Bool := decide (80 < xs.length) || xs.any Act21.long
theorem actAt21_eq (xs : List Act21) (i : Nat) (hi : i < xs.length) : actAt21 xs i = xs[i] := by unfold actAt21; rw [List.getElem?_eq_getElem hi]; rfl
theorem take_any_snoc21 (xs : List Act21) (k : Nat) (h : k < xs.length) : (xs.take (k + 1)).any Act21.long = ((xs.take k).any Act21.long || (actAt21 xs k).long) := by
  rw [List.take_succ_eq_append_getElem h, actAt21_eq xs k h, List.any_append]; simp
theorem any_of_at21 (xs : List Act21) (k : Nat) (h : k < xs.length) (hl : (actAt21 xs k).long = true) : xs.any Act21.long = true := by
  rw [actAt21_eq xs k h] at hl
  exact List.any_eq_true.2 ⟨xs[k], List.getElem_mem h, hl⟩
theorem long21_short {xs : List Act21} (h : long21B xs = false) : xs.length ≤ 80 ∧ ∀ j, j < xs.length → (actAt21 xs j).key.size ≤ 300 ∧ (actAt21 xs j).val.size ≤ 300 ∧ (actAt21 xs j).lo.size ≤ 300 ∧ (actAt21 xs j).hi.size ≤ 300 := by
  unfold long21B at h
  rw [Bool.or_eq_false_iff, decide_eq_false_iff_not] at h
  refine ⟨by omega, fun j hj => ?_⟩
  have := List.any_eq_false.1 h.2 _ (List.getElem_mem hj)
  rw [← actAt21_eq xs j hj] at this
  unfold Act21.long at this
  simp only [Bool.or_eq_true, decide_eq_true_eq, not_or] at this
  omega

set_option maxRecDepth 100000 in
set_option maxHeartbeats 2000000 in
theorem long21_any (a : Option Addr) (cap : Nat) (xs : List Act21) (w : World) (hA : ActsAt21 w a xs) (hx : xs.length ≤ 9223372036854775807)
    (hk : ∀ j, j < xs.length → (actAt21 xs j).key.size ≤ 9223372036854775807 ∧ (actAt21 xs j).val.size ≤ 9223372036854775807 ∧ (actAt21 xs j).lo.size ≤ 9223372036854775807 ∧ (actAt21 xs j).hi.size ≤ 9223372036854775807) :
    Calls Tryz.prog 9 #[.slice a xs.length cap] w fun e w' => e = .returned (.bool (long21B xs)) ∧ Grew w w' := by
  by_cases h60 : 80 < xs.length
  · have e : long21B xs = true := by unfold long21B; rw [decide_eq_true h60]; rfl
    rw [e]
    clear e
    have h1 : (80 : Int) < (xs.length : Int) := by omega
    go_enter Tryz.func9, Tryz.ntmps9
    go_wp2_with fail
    go_ret
    exact ⟨rfl, Grew.refl w⟩
  · have h1 : (xs.length : Int) ≤ 80 := by omega
    have e : long21B xs = xs.any Act21.long := by unfold long21B; rw [decide_eq_false h60]; rfl
    have HE := hid e
    have HA := hid hA
    have HK := hid hk
    clear e h60 hA hk
    go_enter Tryz.func9, Tryz.ntmps9
    go_wp2_with fail
    go_loopw [10] (fun i wr => ∃ k : Nat, k ≤ xs.length ∧ i = .int .i64 k ∧ (xs.take k).any Act21.long = false ∧ Grew w wr) (fun i _ => xs.length - (intOf i).toNat)
    case atStart => exact ⟨0, Nat.zero_le _, rfl, rfl, Grew.refl w⟩
    case round =>
      obtain ⟨k, hk1, rfl, hno, hG⟩ := hrel
      by_cases hlt : k < xs.length
      · rcases HA.out with h0 | ⟨b, off, rfl, hb, hR⟩
        · rw [h0] at hlt; simp at hlt
        have q0 := (hG.cells.1 b (off + k * 6) hb).trans (hR.kind k hlt)
        have q1 := (hG.cells.1 b (off + k * 6 + 1) hb).trans (hR.ver k hlt)
        have q2 := (hG.cells.1 b (off + k * 6 + 2) hb).trans (hR.key k hlt)
        have q3 := (hG.cells.1 b (off + k * 6 + 3) hb).trans (hR.val k hlt)
        have q4 := (hG.cells.1 b (off + k * 6 + 4) hb).trans (hR.lo k hlt)
        have q5 := (hG.cells.1 b (off + k * 6 + 5) hb).trans (hR.hi k hlt)
        have HN := hid (take_any_snoc21 xs k hlt)
        have HY := hid (any_of_at21 xs k hlt)
        have HNO := hid hno
        clear hR hno
        obtain ⟨ck, cv, cl, ch⟩ := HK.out k hlt
        by_cases hl : 300 < (actAt21 xs k).key.size ∨ 300 < (actAt21 xs k).val.size ∨ 300 < (actAt21 xs k).lo.size ∨ 300 < (actAt21 xs k).hi.size
        · have HL : Hid ((actAt21 xs k).long = true) := by
            unfold Hid Act21.long
            simp only [Bool.or_eq_true, decide_eq_true_eq]; omega
          rcases hl with h | h | h | h
          · have h' : (300 : Int) < ((actAt21 xs k).key.size : Int) := by omega
            go_wp2_with fail
            go_ret
            exact ⟨ret_bool (by rw [HE.out, HY.out HL.out]), hG.alloc _⟩
          · have h' : (300 : Int) < ((actAt21 xs k).val.size : Int) := by omega
            by_cases g1 : (300 : Int) < ((actAt21 xs k).key.size : Int)
            all_goals
              go_wp2_with fail
              go_ret
              exact ⟨ret_bool (by rw [HE.out, HY.out HL.out]), hG.alloc _⟩
          · have h' : (300 : Int) < ((actAt21 xs k).lo.size : Int) := by omega
            by_cases g1 : (300 : Int) < ((actAt21 xs k).key.size : Int)
            all_goals by_cases g2 : (300 : Int) < ((actAt21 xs k).val.size : Int)
            all_goals
              go_wp2_with fail
              go_ret
              exact ⟨ret_bool (by rw [HE.out, HY.out HL.out]), hG.alloc _⟩
          · have h' : (300 : Int) < ((actAt21 xs k).hi.size : Int) := by omega
            by_cases g1 : (300 : Int) < ((actAt21 xs k).key.size : Int)
            all_goals by_cases g2 : (300 : Int) < ((actAt21 xs k).val.size : Int)
            all_goals by_cases g3 : (300 : Int) < ((actAt21 xs k).lo.size : Int)
            all_goals
              go_wp2_with fail
              go_ret
              exact ⟨ret_bool (by rw [HE.out, HY.out HL.out]), hG.alloc _⟩
        · have HL : Hid ((actAt21 xs k).long = false) := by
            unfold Hid Act21.long
            simp only [Bool.or_eq_false_iff, decide_eq_false_iff_not]; omega
          have g1 : ¬ (300 : Int) < ((actAt21 xs k).key.size : Int) := by omega
          have g2 : ¬ (300 : Int) < ((actAt21 xs k).val.size : Int) := by omega
          have g3 : ¬ (300 : Int) < ((actAt21 xs k).lo.size : Int) := by omega
          have g4 : ¬ (300 : Int) < ((actAt21 xs k).hi.size : Int) := by omega
          clear hl
          go_wp2_with fail
          go_roundw
          case rel => exact ⟨k + 1, by omega, by go_num, by rw [HN.out, HNO.out, HL.out]; rfl, hG.alloc _⟩
          case measure => simp [intOf]; omega
      · obtain rfl : k = xs.length := by omega
        rw [List.take_length] at hno
        have HNO := hid hno
        clear hno
        go_wp2_with fail
        go_ret
        exact ⟨ret_bool (by rw [HE.out, HNO.out]), hG⟩

end Go.Proofs.YtifcnammekbfoaaGreatDoor
