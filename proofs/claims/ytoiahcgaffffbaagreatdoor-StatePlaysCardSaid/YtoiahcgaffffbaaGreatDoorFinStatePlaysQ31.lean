/- RdD, AppC, RowV, DelP, Rt37, Rt37b: one text. -/
import Derived.Test.YtoiahcgaffffbaaGreatDoorFinStatePlaysQ25
import Derived.Test.YtoiahcgaffffbaaGreatDoorFinStatePlaysQ22
import Derived.Test.YtoiahcgaffffbaaGreatDoorFinStatePlaysQ4
import Derived.Test.YtoiahcgaffffbaaGreatDoorFinStatePlaysQ30
import Derived.Test.YtoiahcgaffffbaaGreatDoorFinStatePlaysQ28
import Derived.Test.YtoiahcgaffffbaaGreatDoorFinStatePlaysQ19
set_option linter.unusedVariables false
set_option linter.unusedSectionVars false
set_option linter.unusedSimpArgs false
namespace Go.Proofs.YtoiahcgaffffbaaGreatDoor
open Go.RowKit Go.Maps Go.Sort
attribute [local go_sem] Oper.semAt_some uponV
def seenL (xs : List (Int × An)) : Int → Option An := fun c => (xs.find? fun x => decide (x.1 = c)).map Prod.snd
instance : Inhabited (Int × An) := ⟨(0, ⟨0, 0, 0⟩)⟩
def clAt (xs : List (Int × An)) (k : Nat) : Int × An := xs[k]?.getD default
theorem clAt_eq (xs : List (Int × An)) (k : Nat) (h : k < xs.length) : clAt xs k = xs[k] := by unfold clAt; rw [List.getElem?_eq_getElem h]; rfl
structure ClRow (xs : List (Int × An)) : Prop where
  rise : (xs.map (·.1)).Pairwise fun a b => a < b
  ok : ∀ x ∈ xs, 1 ≤ x.1 ∧ x.1 ≤ 4 ∧ x.2.Ok
theorem clRow_of {S : Int → Option An} (h : ∀ c a, S c = some a → 1 ≤ c ∧ c ≤ 4 ∧ a.Ok) : ClRow (clients S) :=
  ⟨clients_rise S, fun x hx => h _ _ (mem_clients.1 hx).2⟩
theorem clRow_at {xs : List (Int × An)} (h : ClRow xs) (k : Nat) (hk : k < xs.length) : 1 ≤ (clAt xs k).1 ∧ (clAt xs k).1 ≤ 4 ∧ (clAt xs k).2.Ok := by
  rw [clAt_eq xs k hk]; exact h.ok _ (List.getElem_mem hk)
theorem clRow_lt {xs : List (Int × An)} (h : ClRow xs) (j k : Nat) (hj : j < k) (hk : k < xs.length) : (clAt xs j).1 < (clAt xs k).1 := by
  rw [clAt_eq xs j (by omega), clAt_eq xs k hk]
  have := List.pairwise_iff_getElem.1 h.rise j k (by simp; omega) (by simpa using hk) hj
  simpa using this
theorem clRow_len {xs : List (Int × An)} (h : ClRow xs) : xs.length ≤ 4 := by
  refine Classical.byContradiction fun hn => ?_
  have l1 := clRow_lt h 0 1 (by omega) (by omega)
  have l2 := clRow_lt h 1 2 (by omega) (by omega)
  have l3 := clRow_lt h 2 3 (by omega) (by omega)
  have l4 := clRow_lt h 3 4 (by omega) (by omega)
  have a := (clRow_at h 0 (by omega)).1
  have b := (clRow_at h 4 (by omega)).2.1
  omega
theorem seenL_none {xs : List (Int × An)} (h : ClRow xs) (k : Nat) (hk : k < xs.length) : seenL (xs.take k) (clAt xs k).1 = none := by
  unfold seenL
  rw [Option.map_eq_none_iff, List.find?_eq_none]
  intro x hx
  obtain ⟨j, hj, rfl⟩ := List.getElem_of_mem hx
  rw [List.length_take] at hj
  rw [List.getElem_take]
  have := clRow_lt h j k (by omega) hk
  rw [clAt_eq xs j (by omega)] at this
  simp; omega
theorem seenL_snoc {xs : List (Int × An)} (h : ClRow xs) (k : Nat) (hk : k < xs.length) : seenL (xs.take (k + 1)) = noteS (seenL (xs.take k)) (clAt xs k).1 (clAt xs k).2 := by
  have hn := seenL_none h k hk
  funext c
  unfold noteS
  by_cases e : c = (clAt xs k).1
  · subst e
    rw [if_pos rfl]
    unfold seenL at hn ⊢
    rw [Option.map_eq_none_iff] at hn
    rw [List.take_succ_eq_append_getElem hk, List.find?_append, hn, ← clAt_eq xs k hk]
    simp
  · rw [if_neg e]
    unfold seenL
    rw [List.take_succ_eq_append_getElem hk, List.find?_append, ← clAt_eq xs k hk]
    have : ([clAt xs k].find? fun x => decide (x.1 = c)) = none := by
      rw [List.find?_eq_none]
      intro x hx
      rw [List.mem_singleton] at hx
      subst hx
      simp only [decide_eq_true_eq]
      exact fun q => e q.symm
    rw [this, Option.or_none]
theorem seenL_clients {S : Int → Option An} (h : ∀ c a, S c = some a → 1 ≤ c ∧ c ≤ 4 ∧ a.Ok) : seenL (clients S) = S := by
  funext c
  unfold seenL
  cases hS : S c with
  | none =>
    rw [Option.map_eq_none_iff, List.find?_eq_none]
    intro x hx
    have := (mem_clients.1 hx).2
    simp only [decide_eq_true_eq]
    intro e
    rw [e, hS] at this; cases this
  | some a =>
    have hc := h c a hS
    have hm : (c, a) ∈ clients S := mem_clients.2 ⟨by dsimp only; omega, hS⟩
    cases hf : (clients S).find? fun x => decide (x.1 = c) with
    | none =>
      rw [List.find?_eq_none] at hf
      have := hf _ hm
      simp at this
    | some y =>
      have h1 := List.mem_of_find?_eq_some hf
      have h2 := List.find?_some hf
      have h3 := (mem_clients.1 h1).2
      simp only [decide_eq_true_eq] at h2
      rw [h2, hS] at h3
      show some y.2 = some a
      exact h3.symm
def befL (xs : List (Int × An)) (k : Nat) : Int := if k = 0 then 0 else (clAt xs (k - 1)).1
theorem befL_lt {xs : List (Int × An)} (h : ClRow xs) (k : Nat) (hk : k < xs.length) : befL xs k < (clAt xs k).1 := by
  unfold befL
  split
  · have := (clRow_at h k hk).1; omega
  · exact clRow_lt h (k - 1) k (by omega) hk
theorem clsB_drop (xs : List (Int × An)) (k : Nat) (hk : k < xs.length) : clsB (xs.drop k) = clB (clAt xs k) ++ clsB (xs.drop (k + 1)) := by
  rw [List.drop_eq_getElem_cons hk, clAt_eq xs k hk]; rfl
theorem clsB_len : ∀ (xs : List (Int × An)), (∀ x ∈ xs, 1 ≤ x.1 ∧ x.1 ≤ 4 ∧ x.2.Ok) → (clsB xs).length ≤ xs.length * 20 := by
  intro xs
  induction xs with
  | nil => intro _; simp [clsB]
  | cons x xs ih =>
    intro hm
    have e : clsB (x :: xs) = clB x ++ clsB xs := rfl
    obtain ⟨q1, q2, q3⟩ := hm x (by simp)
    have a1 := Pl.numB_len 4 x.1.toNat (by omega)
    have a2 := Pl.numB_len 4 x.2.seq.toNat (by have := q3.s1; have := q3.s2; omega)
    have a3 := Pl.numB_len 4 x.2.code.toNat (by have := q3.c1; omega)
    have a4 := Pl.numB_len 4 x.2.at_.toNat (by have := q3.a1; have := q3.a2; omega)
    have := ih fun y hy => hm y (by simp [hy])
    rw [e, List.length_append]
    unfold clB
    simp only [List.length_append, List.length_cons]
    omega
structure RdD (w wr : World) (ib nb sb : Nat) (xs : List (Int × An)) (k : Nat) : Prop where
  grew : Grew w wr
  inp : InAt wr ib nb (clsB (xs.drop k))
  seen : ∃ F, SeenAt wr F sb k (seenL (xs.take k)) ∧ ¬ F ib ∧ ¬ F nb ∧ ∀ j, F j → w.heap.size ≤ j
  new : w.heap.size ≤ ib
theorem RdD.more {w wr x : World} {ib nb sb : Nat} {xs : List (Int × An)} {k : Nat} (h : RdD w wr ib nb sb xs k) (g : Grew wr x) : RdD w x ib nb sb xs k := by
  obtain ⟨F, h1, h2⟩ := h.seen
  exact ⟨h.grew.trans g, h.inp.grew g, ⟨F, h1.grew g, h2⟩, h.new⟩
set_option maxRecDepth 100000 in
set_option maxHeartbeats 8000000 in
theorem readD_any {w : World} {a : Option Addr} {cap : Nat} {xs : List (Int × An)} (hA : BytesAt w a (Pl.numB xs.length ++ clsB xs)) (hf : SlForm a cap) (hr : ClRow xs) :
    Calls Tryz.prog 93 #[.slice a (Pl.numB xs.length ++ clsB xs).length cap] w fun e w' => ∃ sb F, e = .returned (.tuple #[.pointer (some ⟨sb, 0, none⟩), .nilIface]) ∧ SeenAt w' F sb xs.length (seenL xs) ∧ (∀ j, F j → w.heap.size ≤ j) ∧ Grew w w' := by
  have hl4 := clRow_len hr
  have hps := clsB_len xs hr.ok
  have hnp := Pl.numB_pos xs.length
  have hn1 := Pl.numB_len 0 xs.length (by omega)
  have HIR := hid (inRead_any w a _ cap (Pl.numB xs.length ++ clsB xs) rfl hA hf (by rw [List.length_append]; omega) (by rw [List.length_append]; omega))
  have HPL := hid hps
  obtain ⟨n, hn⟩ : ∃ n, n = xs.length := ⟨_, rfl⟩
  have HN := hid hn
  have hn2 : n ≤ 4 := by omega
  have HROW := hid hr
  rw [← hn] at HIR ⊢
  generalize hz : (Pl.numB n ++ clsB xs).length = z at *
  clear hps hnp hn1 hn hA hf hr hl4 hz
  go_enter Tryz.func93, Tryz.ntmps93
  go_wp2_with fail
  refine HIR.out.mono ?_
  rintro e w1 ⟨ib, nb, rfl, hib, hnb, hI, hg1⟩
  have HI := hid hI
  have HG1 := hid hg1
  have HIB := hid hib
  clear hI hg1 hib hnb HIR
  go_wp2_with fail
  refine (newD_any w1).mono ?_
  rintro e w2 ⟨sb, F0, rfl, hS2, hF0, hg2⟩
  have HI2 := hid (HI.out.grew hg2)
  have HS2 := hid hS2
  have HF0 := hid hF0
  have HL2 := hid HI.out.lt
  have HG2 := hid (HG1.out.trans hg2)
  have HZ := hid HG1.out.size
  clear hg2 hS2 hF0
  go_wp2_with fail
  refine (inNum_any n 4 (by omega) (by omega) HI2.out (by have := HPL.out; have := HN.out; omega)).mono ?_
  rintro e w3 ⟨rfl, hO3, hI3⟩
  have HR0 : Hid (RdD w w3 ib nb sb xs 0) := by
    have hlt := HL2.out
    refine ⟨((HG2.out.only _).then hO3).grew (fun j (hj : j = ib) => by rw [hj]; exact HIB.out), by simpa using hI3, ⟨F0, HS2.out.kept hO3 (fun j hj (h2 : j = ib) => by have := HF0.out j hj; omega), (fun h => by have := HF0.out _ h; omega), (fun h => by have := HF0.out _ h; omega), fun j hj => by have := HF0.out j hj; have := HZ.out; omega⟩, HIB.out⟩
  clear hO3 hI3 HI2 HS2 HF0 HL2 HG2 HZ HI HG1
  have hb0 : befL xs 0 = 0 := rfl
  go_wp2_with fail
  go_loopw [6, 7, 8] (fun bf ok i wr => ∃ k : Nat, ok = .bool true ∧ k ≤ n ∧ i = .int .i64 ((n - k : Nat) : Int) ∧ bf = .int .i64 (befL xs k) ∧ Hid (RdD w wr ib nb sb xs k)) (fun _ _ i _ => (intOf i).toNat)
  case atStart => exact ⟨0, rfl, by omega, rfl, rfl, HR0⟩
  case round =>
    obtain ⟨k, rfl, hk, rfl, rfl, HR⟩ := hrel
    by_cases hlt : k < n
    · have hlt' : k < xs.length := by rw [← HN.out]; exact hlt
      obtain ⟨r1, r2, r3⟩ := clRow_at HROW.out k hlt'
      have hbf := befL_lt HROW.out k hlt'
      have hin := HR.out.inp
      rw [clsB_drop xs k hlt'] at hin
      unfold clB at hin
      have HSN := hid (seenL_snoc HROW.out k hlt')
      have HNO := hid (seenL_none HROW.out k hlt')
      have HBF : Hid (befL xs (k + 1) = (clAt xs k).1) := by unfold Hid befL; rw [if_neg (by omega), Nat.add_sub_cancel]
      have hrl : (clsB (xs.drop (k + 1))).length ≤ 100 := by
        have h1 := HPL.out
        have h2 := congrArg List.length (show clsB (xs.take (k + 1)) ++ clsB (xs.drop (k + 1)) = clsB xs by unfold clsB; rw [← List.flatMap_append, List.take_append_drop])
        rw [List.length_append] at h2
        have := HN.out
        omega
      generalize clAt xs k = x at *
      obtain ⟨xc, xq, xk, xt⟩ := x
      dsimp only at *
      obtain ⟨s1, s2, c1, t1, t2⟩ := r3
      dsimp only at s1 s2 c1 t1 t2
      obtain ⟨vc, rfl⟩ : ∃ v : Nat, xc = v := ⟨xc.toNat, by omega⟩
      obtain ⟨vq, rfl⟩ : ∃ v : Nat, xq = v := ⟨xq.toNat, by omega⟩
      obtain ⟨vk, rfl⟩ : ∃ v : Nat, xk = v := ⟨xk.toNat, by omega⟩
      obtain ⟨vt, rfl⟩ : ∃ v : Nat, xt = v := ⟨xt.toNat, by omega⟩
      simp only [Int.toNat_natCast] at hin
      obtain ⟨rest, hrest⟩ : ∃ rest, rest = clsB (xs.drop (k + 1)) := ⟨_, rfl⟩
      rw [← hrest] at hin hrl
      have HREST := hid hrest
      have HIN : Hid (InAt wr ib nb (Pl.numB vc ++ (Pl.numB vq ++ (Pl.numB vk ++ (Pl.numB vt ++ rest))))) := by unfold Hid; simpa [List.append_assoc] using hin
      have HOK := hid (show (1 : Int) ≤ vc ∧ (vc : Int) ≤ 4 ∧ An.Ok ⟨vq, vk, vt⟩ from ⟨r1, r2, ⟨s1, s2, c1, t1, t2⟩⟩)
      have l2 := Pl.numB_len 4 vq (by omega)
      have l3 := Pl.numB_len 4 vk (by omega)
      have l4 := Pl.numB_len 4 vt (by omega)
      have hpos : (0 : Int) < ((n - k : Nat) : Int) := by omega
      have hcast : ((n - k : Nat) : Int) = (n : Int) - (k : Int) := by omega
      have hpos' : (0 : Int) < (n : Int) - (k : Int) := by omega
      have HBN := hid (show vc < 4611686018427387904 ∧ vq < 4611686018427387904 ∧ vk < 4611686018427387904 ∧ vt < 4611686018427387904 ∧ (vc : Int) ≤ 4 ∧ (vq : Int) ≤ 1073741824 ∧ (vk : Int) ≤ 2 ∧ (vt : Int) ≤ 4095 from ⟨by omega, by omega, by omega, by omega, by omega, by omega, by omega, by omega⟩)
      have HLN := hid (show (Pl.numB vq).length ≤ 5 ∧ (Pl.numB vk).length ≤ 5 ∧ (Pl.numB vt).length ≤ 5 ∧ rest.length ≤ 100 from ⟨l2, l3, l4, hrl⟩)
      clear hin hrest r1 r2 s1 s2 c1 t1 t2 l2 l3 l4 hrl hlt'
      go_wp2_with fail
      refine (inNum_any vc 4 HBN.out.1 HBN.out.2.2.2.2.1 HIN.out (by have := HLN.out; simp only [List.length_append]; omega)).mono ?_
      rintro e w4 ⟨rfl, hO4, hI4⟩
      have HI4 := hid hI4
      have HO4 := hid hO4
      clear hI4 hO4
      go_wp2_with fail
      refine (inNum_any vq 1073741824 HBN.out.2.1 HBN.out.2.2.2.2.2.1 HI4.out (by have := HLN.out; simp only [List.length_append]; omega)).mono ?_
      rintro e w5 ⟨rfl, hO5, hI5⟩
      have HI5 := hid hI5
      have HO5 := hid (HO4.out.then hO5)
      clear hI5 hO5
      go_wp2_with fail
      refine (inNum_any vk 2 HBN.out.2.2.1 HBN.out.2.2.2.2.2.2.1 HI5.out (by have := HLN.out; simp only [List.length_append]; omega)).mono ?_
      rintro e w6 ⟨rfl, hO6, hI6⟩
      have HI6 := hid hI6
      have HO6 := hid (HO5.out.then hO6)
      clear hI6 hO6
      go_wp2_with fail
      refine (inNum_any vt 4095 HBN.out.2.2.2.1 HBN.out.2.2.2.2.2.2.2 HI6.out (by have := HLN.out; omega)).mono ?_
      rintro e w7 ⟨rfl, hO7, hI7⟩
      have HI7 := hid hI7
      have HO7 := hid (HO6.out.then hO7)
      clear hI7 hO7
      obtain ⟨F, hT, hF1, hF2, hF3⟩ := HR.out.seen
      have hT7 := hT.kept HO7.out (fun j hj (e : j = ib) => hF1 (by rw [← e]; exact hj))
      have HT7 := hid hT7
      have HF := hid (And.intro hF1 (And.intro hF2 hF3))
      have HG7 := hid (show Grew w w7 from ((HR.out.grew.only _).then HO7.out).grew (fun j (hj : j = ib) => by rw [hj]; exact HIB.out))
      clear hT hT7 hF1 hF2 hF3
      go_upto_region 9 with fail
      obtain ⟨X, hX⟩ : ∃ X, X = w7.alloc (.cells #[.int .i64 vk, .int .i64 vt] 127) := ⟨_, rfl⟩
      have gX : Grew w7 X := by rw [hX]; exact (Grew.refl w7).alloc _
      have x0 : X.cell? ⟨w7.heap.size, 0, none⟩ = some (.int .i64 vk) := by rw [hX]; simp [go_sem]
      have x1 : X.cell? ⟨w7.heap.size, 1, none⟩ = some (.int .i64 vt) := by rw [hX]; simp [go_sem]
      have hxs : w7.heap.size < X.heap.size := by rw [hX]; simp
      have HGX := hid (HG7.out.trans gX)
      have HNT := hid (note_fresh (HT7.out.grew gX) (vc : Int) ⟨vq, vk, vt⟩ HOK.out.1 HOK.out.2.1 HOK.out.2.2 (by omega) (by rw [HNO.out]; rfl))
      rw [← HSN.out] at HNT
      have HRND := hid (fun (x' : World) (hT : SeenTurn X F sb (k + 1) (seenL (xs.take (k + 1))) x') => show RdD w x' ib nb sb xs (k + 1) from by
        obtain ⟨hO, h1⟩ := hT
        have hlt := (HI7.out.grew gX).lt
        refine ⟨((HGX.out.only F).then hO).grew HF.out.2.2, ?_, ⟨F, h1, HF.out⟩, HR.out.new⟩
        rw [← HREST.out]; exact (HI7.out.grew gX).kept hO HF.out.1 HF.out.2.1)
      rw [← hX]
      have hnb : ¬ (vc : Int) ≤ befL xs k := by omega
      have HKN := hid (And.intro hk (And.intro hlt hcast))
      have hk9 : k < 1000000 := by omega
      unfold ansAgg at HNT
      dsimp only at HNT
      generalize befL xs k = bb at *
      clear hX gX HT7 HI7 hbf hcast hpos hpos' HG7 HO7 HO6 HO5 HO4 HI6 HI5 HI4 HIN HLN HBN HOK HSN HNO HR
      go_wp2_with fail
      refine HNT.out.mono ?_
      rintro e w8 ⟨rfl, hT⟩
      have HRN := hid (HRND.out w8 hT)
      clear hT x0 x1 hxs HNT HRND
      go_wp2_with fail
      go_roundw
      case rel =>
        obtain ⟨k1, k2, k3⟩ := HKN.out
        exact ⟨k + 1, rfl, by omega, by go_num, by rw [HBF.out], HRN⟩
      case measure =>
        obtain ⟨k1, k2, k3⟩ := HKN.out
        simp [intOf]; omega
    · have hkn : k = n := by omega
      subst hkn
      have hdr : clsB (xs.drop k) = [] := by rw [HN.out, List.drop_length]; rfl
      have HRi := hid HR.out.inp
      rw [hdr] at HRi
      have HEND : Hid (∃ F, SeenAt wr F sb k (seenL xs) ∧ (∀ j, F j → w.heap.size ≤ j) ∧ Grew w wr) := by
        obtain ⟨F, h1, _, _, h4⟩ := HR.out.seen
        have h2 := h1
        rw [HN.out, List.take_length, ← HN.out] at h2
        exact ⟨F, h2, h4, HR.out.grew⟩
      have hz : ((k - k : Nat) : Int) = 0 := by omega
      clear hdr
      go_wp2_with fail
      refine (inEnd_any HRi.out).mono ?_
      rintro e w4 ⟨rfl, rfl⟩
      go_wp2_with fail
      go_ret2
      obtain ⟨F, h1, h2, h3⟩ := HEND.out
      exact ⟨sb, F, rfl, h1, h2, h3⟩
end Go.Proofs.YtoiahcgaffffbaaGreatDoor
namespace Go.Proofs.YtoiahcgaffffbaaGreatDoor
open Go.RowKit Go.Maps
attribute [local go_sem] Oper.semAt_some
def clVals (x : Int × An) : List Value := [.int .i64 x.1, .int .i64 x.2.seq, .int .i64 x.2.code, .int .i64 x.2.at_]
def clFlat (xs : List (Int × An)) : List Value := xs.flatMap clVals
structure ClsR (W : World) (b off : Nat) (xs : List (Int × An)) : Prop where
  id : ∀ j, j < xs.length → W.cell? ⟨b, off + j * 4, none⟩ = some (.int .i64 (clAt xs j).1)
  seq : ∀ j, j < xs.length → W.cell? ⟨b, off + j * 4 + 1, none⟩ = some (.int .i64 (clAt xs j).2.seq)
  code : ∀ j, j < xs.length → W.cell? ⟨b, off + j * 4 + 2, none⟩ = some (.int .i64 (clAt xs j).2.code)
  at_ : ∀ j, j < xs.length → W.cell? ⟨b, off + j * 4 + 3, none⟩ = some (.int .i64 (clAt xs j).2.at_)
def ClsAt (W : World) (a : Option Addr) (xs : List (Int × An)) : Prop := xs = [] ∨ ∃ b off, a = some ⟨b, off, none⟩ ∧ b < W.heap.size ∧ ClsR W b off xs
theorem ClsAt.grew {W W' : World} {a : Option Addr} {xs : List (Int × An)} (h : ClsAt W a xs) (g : Grew W W') : ClsAt W' a xs := by
  rcases h with h | ⟨b, off, e, hb, h⟩
  · exact .inl h
  · exact .inr ⟨b, off, e, Nat.lt_of_lt_of_le hb g.size, fun j hj => (g.cells.1 _ _ hb).trans (h.id j hj), fun j hj => (g.cells.1 _ _ hb).trans (h.seq j hj), fun j hj => (g.cells.1 _ _ hb).trans (h.code j hj), fun j hj => (g.cells.1 _ _ hb).trans (h.at_ j hj)⟩
end Go.Proofs.YtoiahcgaffffbaaGreatDoor
namespace Go.Proofs.YtoiahcgaffffbaaGreatDoor
open Go.RowKit Go.Maps
structure Rw (W : World) (B : Nat) (T : TypeId) (k db i : Nat) (v : Value) (n : Nat) (L : List Value) : Prop where
  cell : W.cell? ⟨db, i, none⟩ = some v
  froz : W.frozen? ⟨db, i, none⟩ = false
  row : W.ownsRow B T k v n L
  own : ∀ g, v.ownBlock = some g → g ≠ db
section
variable {W W' X X2 : World} {B : Nat} {T T' : TypeId} {k k' db i i' n n' m : Nat} {v v' u : Value} {L L' M : List Value} {S : Nat → Prop}
theorem Rw.kept (h : Rw W B T k db i v n L) (g : Only S W W') (h1 : ¬ S db) (h2 : ∀ b, v.ownBlock = some b → ¬ S b) : Rw W' B T k db i v n L :=
  ⟨(g.cell (cell_lt h.cell) h1 i).trans h.cell, (g.frozen (cell_lt h.cell) h1 i).trans h.froz, ownsRow_kept h.row g h2, h.own⟩
theorem Rw.grew (h : Rw W B T k db i v n L) (g : Grew W W') : Rw W' B T k db i v n L := h.kept (g.only fun _ => False) (fun h => h) fun _ _ h => h
theorem Rw.lt (h : Rw W B T k db i v n L) : ∀ g, v.ownBlock = some g → B ≤ g ∧ g < W.heap.size := fun g hg => h.row.lt g hg
theorem Rw.other (h : Rw W B T k db i u m M) (ho : Only (fun j => some j = v.ownBlock) W X2) (hi : i ≠ i') (hdb : v.ownBlock ≠ some db) (ha : ∀ g, u.ownBlock = some g → v.ownBlock ≠ some g) : Rw (X2.setCell ⟨db, i', none⟩ v') B T k db i u m M := by
  have h1 := h.kept ho (fun e => hdb e.symm) fun b hb e => ha b hb e.symm
  exact ⟨(World.cell?_setCell_other _ _ _ _ (by intro e; injection e with _ e2; exact hi e2.symm)).trans h1.cell, by rw [World.frozen?_setCell]; exact h1.froz, ownsRow_kept h1.row (Only.setCell X2 ⟨db, i', none⟩ v') fun b hb => h1.own b hb, h1.own⟩
end
theorem JV.three {vars : List FV} {w u : World} {L : Nat → Bool} {f : Nat → Value} (h : JV vars w L f u) {V : FV} (hV : V ∈ vars) (hL : L V.a = true) (h2 : V.vals.length = 3) :
    ∃ m a b c, f V.a = .pointer (some ⟨m, 0, none⟩) ∧ u.cell? ⟨m, 0, none⟩ = some a ∧ u.cell? ⟨m, 1, none⟩ = some b ∧ u.cell? ⟨m, 2, none⟩ = some c ∧ u.frozen? ⟨m, 0, none⟩ = false ∧ u.frozen? ⟨m, 1, none⟩ = false ∧ u.frozen? ⟨m, 2, none⟩ = false := by
  obtain ⟨vs, hl, ⟨m, h1, _, _, hc⟩, _⟩ := h.made V hV hL
  have hl3 := hl.trans h2
  match vs, hl3 with
  | [a, b, c], _ => exact ⟨m, a, b, c, h1, (hc 0 _ rfl).1, (hc 1 _ rfl).1, (hc 2 _ rfl).1, (hc 0 _ rfl).2, (hc 1 _ rfl).2, (hc 2 _ rfl).2⟩
structure BtD (w W : World) (TC : TypeId) (db : Nat) (lo hi : ByteArray) (A : List Pr) (K : List ByteArray) (C : List (Int × An)) (vp vk vc : Value) : Prop where
  grew : Grew w W
  new : w.heap.size ≤ db
  c0 : W.cell? ⟨db, 0, none⟩ = some (.string lo)
  c1 : W.cell? ⟨db, 1, none⟩ = some (.string hi)
  p : Rw W w.heap.size 83 3 db 2 vp A.length (prFlat A)
  k : Rw W w.heap.size 9 1 db 3 vk K.length (strFlat K)
  c : Rw W w.heap.size TC 4 db 4 vc C.length (clFlat C)
  pk : ∀ g, vp.ownBlock = some g → vk.ownBlock ≠ some g
  pc : ∀ g, vp.ownBlock = some g → vc.ownBlock ≠ some g
  kc : ∀ g, vk.ownBlock = some g → vc.ownBlock ≠ some g
section
variable {w W X X2 : World} {TC : TypeId} {db : Nat} {lo hi : ByteArray} {A A' : List Pr} {K K' : List ByteArray} {C C' : List (Int × An)} {vp vk vc v' : Value}
theorem BtD.more (h : BtD w W TC db lo hi A K C vp vk vc) (g : Grew W X) : BtD w X TC db lo hi A K C vp vk vc :=
  have l : db < W.heap.size := cell_lt h.c0
  ⟨h.grew.trans g, h.new, (g.cells.1 _ _ l).trans h.c0, (g.cells.1 _ _ l).trans h.c1, h.p.grew g, h.k.grew g, h.c.grew g, h.pk, h.pc, h.kc⟩
end
end Go.Proofs.YtoiahcgaffffbaaGreatDoor
namespace Go.Proofs.YtoiahcgaffffbaaGreatDoor
namespace Pl
def newB (P : List Pr) (p : Pr) : Bool := match getT P p.key with | none => true | some q => !(decide (q.key = p.key) && decide (q.val = p.val) && decide (q.ver = p.ver))
def pairsD (P Q : List Pr) : List Pr := Q.filter (newB P)
def goneB (Q : List Pr) (p : Pr) : Bool := !(getT Q p.key).isSome
def keysD (P Q : List Pr) : List ByteArray := (P.filter (goneB Q)).map Pr.key
end Pl
end Go.Proofs.YtoiahcgaffffbaaGreatDoor
namespace Go.Proofs.YtoiahcgaffffbaaGreatDoor
open Go.RowKit Go.Maps Go.Sort
attribute [local go_sem] Oper.semAt_some uponV
def RiseK (K : List ByteArray) : Prop := ∀ j, j + 1 < K.length → Pl.compare (K[j]?.getD ⟨#[]⟩) (K[j + 1]?.getD ⟨#[]⟩) < 0
end Go.Proofs.YtoiahcgaffffbaaGreatDoor
namespace Go.Proofs.YtoiahcgaffffbaaGreatDoor
open Go.RowKit Go.Maps Go.Sort
attribute [local go_sem] Oper.semAt_some uponV
structure BxR (W : World) (tx dx tb : Nat) (lo hi : ByteArray) : Prop where
  t0 : W.cell? ⟨tx, 0, none⟩ = some (.pointer (some ⟨tb, 0, none⟩))
  d0 : W.cell? ⟨dx, 0, none⟩ = some (.string lo)
  d1 : W.cell? ⟨dx, 1, none⟩ = some (.string hi)
theorem BxR.kept {W W' : World} {T : Nat → Prop} {tx dx tb : Nat} {lo hi : ByteArray} (h : BxR W tx dx tb lo hi) (g : Only T W W') (h1 : ¬ T tx) (h2 : ¬ T dx) : BxR W' tx dx tb lo hi :=
  ⟨(g.cell (cell_lt h.t0) h1 0).trans h.t0, (g.cell (cell_lt h.d0) h2 0).trans h.d0, (g.cell (cell_lt h.d0) h2 1).trans h.d1⟩
structure RkR (w0 W : World) (tx dx tb : Nat) (lo hi : ByteArray) (T : List Pr) : Prop where
  grew : Grew w0 W
  box : BxR W tx dx tb lo hi
  tab : ∃ F, TabAt W F tb T ∧ (¬ F tx ∧ ¬ F dx) ∧ ∀ j, F j → w0.heap.size ≤ j
theorem RkR.more {w0 W W' : World} {tx dx tb : Nat} {lo hi : ByteArray} {T : List Pr} (h : RkR w0 W tx dx tb lo hi T) (g : Grew W W') : RkR w0 W' tx dx tb lo hi T := by
  obtain ⟨F, h1, h2, h3⟩ := h.tab
  exact ⟨h.grew.trans g, h.box.kept (g.only fun _ => False) (fun h => h) (fun h => h), F, h1.grew g, h2, h3⟩
theorem RkR.step {w0 W W' : World} {tx dx tb : Nat} {lo hi : ByteArray} {T T' : List Pr} (h : RkR w0 W tx dx tb lo hi T) {F : Nat → Prop} (h2 : ¬ F tx ∧ ¬ F dx) (h3 : ∀ j, F j → w0.heap.size ≤ j) (t : TabTurn W F tb T' W') : RkR w0 W' tx dx tb lo hi T' := by
  obtain ⟨t1, F', t2, t3⟩ := t
  have l1 : tx < W.heap.size := cell_lt h.box.t0
  have l2 : dx < W.heap.size := cell_lt h.box.d0
  refine ⟨((h.grew.only F).then t1).grew h3, h.box.kept t1 h2.1 h2.2, F', t2, ⟨fun q => ?_, fun q => ?_⟩, fun j hj => ?_⟩
  · rcases t3 _ q with q | q
    · exact h2.1 q
    · omega
  · rcases t3 _ q with q | q
    · exact h2.2 q
    · omega
  · rcases t3 j hj with q | q
    · exact h3 j q
    · exact Nat.le_trans h.grew.size q
structure DlR (lo hi : ByteArray) (A : List Pr) (K : List ByteArray) (C : List (Int × An)) : Prop where
  span : Pl.rightS lo hi = true
  lsz : lo.size ≤ 300
  hsz : hi.size ≤ 300
  srt : Pl.Srt A
  good : Pl.Good A
  ins : Pl.InS lo hi A
  few : A.length ≤ 1000
  keys : ∀ k ∈ K, k.size ≤ 96 ∧ Pl.keyN k = 0
  kfew : K.length ≤ 1000
  rise : RiseK K
  cls : ClRow C
structure DlM (W : World) (ap ak ac : Option Addr) (A : List Pr) (K : List ByteArray) (C : List (Int × An)) : Prop where
  p : PairsAt W ap A
  k : StrsAt W ak K
  c : ClsAt W ac C
theorem DlM.grew {W W' : World} {ap ak ac : Option Addr} {A : List Pr} {K : List ByteArray} {C : List (Int × An)} (h : DlM W ap ak ac A K C) (g : Grew W W') : DlM W' ap ak ac A K C := ⟨h.p.grew g, h.k.grew g, h.c.grew g⟩
end Go.Proofs.YtoiahcgaffffbaaGreatDoor
