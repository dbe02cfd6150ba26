/- LawSP, Open23: one text. -/
import Derived.Test.YtoiahcgaffffbaaGreatDoorFinStatePlaysQ43
import Derived.Test.YtoiahcgaffffbaaGreatDoorFinStatePlaysQ30
import Derived.Deep.Slices
import Derived.ChangeSame
import Derived.ProofKit
import Derived.OpenShut
import Derived.SizedLaws
set_option linter.unusedVariables false
set_option linter.unusedSectionVars false
set_option linter.unusedSimpArgs false
namespace Go.Proofs.YtoiahcgaffffbaaGreatDoor
open Go.RowKit Go.Maps
attribute [local go_sem] Oper.semAt_some uponV
theorem clients_few (S : Int → Option An) : (clients S).length ≤ 4 := by
  rw [← clTo_all]; exact clTo_len S 5
theorem bytesG_any {w : World} {st : Nat} {lo hi : ByteArray} {P : List Pr} {S : Int → Option An} (h : StG w st lo hi P S) :
    Calls Tryz.prog 31 #[.pointer (some ⟨st, 0, none⟩)] w fun e w' => ∃ a c, e = .returned (.tuple #[.slice a (stB lo hi P S).length c, .nilIface]) ∧ BytesAt w' a (stB lo hi P S) ∧ SlForm a c ∧ Grew w w' := by
  obtain ⟨Fa, Ga, na, ha1, ha2⟩ := h.ex
  refine (bytesS_any ha2 (by have := h.few; omega) (by omega) h.lsz h.hsz (by have := Pl.tabB_len h.good (by have := h.few; omega); have := h.few; omega) (Pl.seenB_len h.ok)).mono ?_
  rintro e w' ⟨a, c, rfl, hr, hg⟩
  obtain ⟨a', c', e', hA, hF, _⟩ := bytesAt_of hr
  cases e'
  exact ⟨a, c, rfl, hA, hF, hg⟩
set_option maxRecDepth 100000 in
set_option maxHeartbeats 8000000 in
theorem statePlays_walk (E : Nat → Addr) (lo hi : ByteArray) (a : Option Addr) (cap : Nat) (xs : List Ac) (w : World) (hE : Errs allS E w) (hlo : lo.size ≤ 140737488351232) (hhi : hi.size ≤ 140737488351232) (hA : AcsAt w a xs) (hx : xs.length ≤ 9223372036854775807) (hk : ∀ j, j < xs.length → AcFits (acAt xs j)) :
    Calls Tryz.prog 4 #[.agg #[.string lo, .string hi], .slice a xs.length cap] w fun e w' => e = .returned (.bool true) ∧ Grew w w' := by
  have HAL := hid (fun W (g : Grew w W) => alive23 E W ((stS_all hE).grew g))
  have HLG := hid (fun W (g : Grew w W) => long23_any a cap xs W (hA.grew g) hx hk)
  cases hlg : long23B xs with
  | true =>
    rw [hlg] at HLG
    clear hE hA hk hlg
    go_enter Tryz.func4, Tryz.ntmps4
    go_upto_region 1 with fail
    obtain ⟨X, hX⟩ : ∃ X, X = w.alloc (.cells #[.string lo, .string hi] 23) := ⟨_, rfl⟩
    have gX : Grew w X := by rw [hX]; exact (Grew.refl w).alloc _
    have x0 : X.cell? ⟨w.heap.size, 0, none⟩ = some (.string lo) := by rw [hX]; simp [go_sem]
    have x1 : X.cell? ⟨w.heap.size, 1, none⟩ = some (.string hi) := by rw [hX]; simp [go_sem]
    have hxs : w.heap.size < X.heap.size := by rw [hX]; simp
    have HGX := hid gX
    rw [← hX]
    obtain ⟨xb, hxb⟩ : ∃ xb, xb = w.heap.size := ⟨_, rfl⟩
    rw [← hxb] at x0 x1 hxs ⊢
    clear hX gX hxb
    go_wp2_with fail
    refine (HAL.out X HGX.out).mono ?_
    rintro e w1 ⟨rfl, hg1⟩
    have HG1 := hid (HGX.out.trans hg1)
    have x0 := (hg1.cells.1 _ 0 hxs).trans x0
    have x1 := (hg1.cells.1 _ 1 hxs).trans x1
    have hxs := Nat.lt_of_lt_of_le hxs hg1.size
    clear hg1 HGX HAL
    go_wp2_with fail
    refine (HLG.out w1 HG1.out).mono ?_
    rintro e w2 ⟨rfl, hg2⟩
    have HG2 := hid (HG1.out.trans hg2)
    have x0 := (hg2.cells.1 _ 0 hxs).trans x0
    have x1 := (hg2.cells.1 _ 1 hxs).trans x1
    have hxs := Nat.lt_of_lt_of_le hxs hg2.size
    clear hg2 HG1 HLG
    go_wp2_with fail
    go_ret
    exact ⟨rfl, HG2.out⟩
  | false =>
    rw [hlg] at HLG
    obtain ⟨hx30, hsh⟩ := long23_short hlg
    clear hx hlg hk
    rcases Nat.lt_or_ge 300 lo.size with hl3 | hl3
    · have hl3' : (300 : Int) < (lo.size : Int) := by omega
      clear hE hA hsh
      go_enter Tryz.func4, Tryz.ntmps4
      go_upto_region 1 with fail
      obtain ⟨X, hX⟩ : ∃ X, X = w.alloc (.cells #[.string lo, .string hi] 23) := ⟨_, rfl⟩
      have gX : Grew w X := by rw [hX]; exact (Grew.refl w).alloc _
      have x0 : X.cell? ⟨w.heap.size, 0, none⟩ = some (.string lo) := by rw [hX]; simp [go_sem]
      have x1 : X.cell? ⟨w.heap.size, 1, none⟩ = some (.string hi) := by rw [hX]; simp [go_sem]
      have hxs : w.heap.size < X.heap.size := by rw [hX]; simp
      have HGX := hid gX
      rw [← hX]
      obtain ⟨xb, hxb⟩ : ∃ xb, xb = w.heap.size := ⟨_, rfl⟩
      rw [← hxb] at x0 x1 hxs ⊢
      clear hX gX hxb
      go_wp2_with fail
      refine (HAL.out X HGX.out).mono ?_
      rintro e w1 ⟨rfl, hg1⟩
      have HG1 := hid (HGX.out.trans hg1)
      have x0 := (hg1.cells.1 _ 0 hxs).trans x0
      have x1 := (hg1.cells.1 _ 1 hxs).trans x1
      have hxs := Nat.lt_of_lt_of_le hxs hg1.size
      clear hg1 HGX HAL
      go_wp2_with fail
      refine (HLG.out w1 HG1.out).mono ?_
      rintro e w2 ⟨rfl, hg2⟩
      have HG2 := hid (HG1.out.trans hg2)
      have x0 := (hg2.cells.1 _ 0 hxs).trans x0
      have x1 := (hg2.cells.1 _ 1 hxs).trans x1
      have hxs := Nat.lt_of_lt_of_le hxs hg2.size
      clear hg2 HG1 HLG
      go_wp2_with fail
      go_ret
      exact ⟨rfl, HG2.out⟩
    rcases Nat.lt_or_ge 300 hi.size with hh3 | hh3
    · have hl3' : ¬ (300 : Int) < (lo.size : Int) := by omega
      have hh3' : (300 : Int) < (hi.size : Int) := by omega
      clear hE hA hsh
      go_enter Tryz.func4, Tryz.ntmps4
      go_upto_region 1 with fail
      obtain ⟨X, hX⟩ : ∃ X, X = w.alloc (.cells #[.string lo, .string hi] 23) := ⟨_, rfl⟩
      have gX : Grew w X := by rw [hX]; exact (Grew.refl w).alloc _
      have x0 : X.cell? ⟨w.heap.size, 0, none⟩ = some (.string lo) := by rw [hX]; simp [go_sem]
      have x1 : X.cell? ⟨w.heap.size, 1, none⟩ = some (.string hi) := by rw [hX]; simp [go_sem]
      have hxs : w.heap.size < X.heap.size := by rw [hX]; simp
      have HGX := hid gX
      rw [← hX]
      obtain ⟨xb, hxb⟩ : ∃ xb, xb = w.heap.size := ⟨_, rfl⟩
      rw [← hxb] at x0 x1 hxs ⊢
      clear hX gX hxb
      go_wp2_with fail
      refine (HAL.out X HGX.out).mono ?_
      rintro e w1 ⟨rfl, hg1⟩
      have HG1 := hid (HGX.out.trans hg1)
      have x0 := (hg1.cells.1 _ 0 hxs).trans x0
      have x1 := (hg1.cells.1 _ 1 hxs).trans x1
      have hxs := Nat.lt_of_lt_of_le hxs hg1.size
      clear hg1 HGX HAL
      go_wp2_with fail
      refine (HLG.out w1 HG1.out).mono ?_
      rintro e w2 ⟨rfl, hg2⟩
      have HG2 := hid (HG1.out.trans hg2)
      have x0 := (hg2.cells.1 _ 0 hxs).trans x0
      have x1 := (hg2.cells.1 _ 1 hxs).trans x1
      have hxs := Nat.lt_of_lt_of_le hxs hg2.size
      clear hg2 HG1 HLG
      go_wp2_with fail
      go_ret
      exact ⟨rfl, HG2.out⟩
    have hl3' : ¬ (300 : Int) < (lo.size : Int) := by omega
    have hh3' : ¬ (300 : Int) < (hi.size : Int) := by omega
    have HRG := hid (fun W => ref_right lo hi W (by omega) (by omega))
    cases hr : Pl.rightS lo hi with
    | false =>
      rw [Pl.rightR_eq, hr] at HRG
      have HNW := hid (fun W (g : Grew w W) => newS_no E lo hi W (by omega) (by omega) (hE.grew g) hr)
      have HNM := hid (fun W (g : Grew w W) => num_all E 4 (by omega) W (hE.grew g))
      have hee : Hid (errOf E 4 = .iface 388 (.pointer (some (E 4)))) := errOf_pos E 4 (by omega)
      rw [hee.out] at HNW HNM
      clear hE hA hsh hee
      go_enter Tryz.func4, Tryz.ntmps4
      go_upto_region 1 with fail
      obtain ⟨X, hX⟩ : ∃ X, X = w.alloc (.cells #[.string lo, .string hi] 23) := ⟨_, rfl⟩
      have gX : Grew w X := by rw [hX]; exact (Grew.refl w).alloc _
      have x0 : X.cell? ⟨w.heap.size, 0, none⟩ = some (.string lo) := by rw [hX]; simp [go_sem]
      have x1 : X.cell? ⟨w.heap.size, 1, none⟩ = some (.string hi) := by rw [hX]; simp [go_sem]
      have hxs : w.heap.size < X.heap.size := by rw [hX]; simp
      have HGX := hid gX
      rw [← hX]
      obtain ⟨xb, hxb⟩ : ∃ xb, xb = w.heap.size := ⟨_, rfl⟩
      rw [← hxb] at x0 x1 hxs ⊢
      clear hX gX hxb
      go_wp2_with fail
      refine (HAL.out X HGX.out).mono ?_
      rintro e w1 ⟨rfl, hg1⟩
      have HG1 := hid (HGX.out.trans hg1)
      have x0 := (hg1.cells.1 _ 0 hxs).trans x0
      have x1 := (hg1.cells.1 _ 1 hxs).trans x1
      have hxs := Nat.lt_of_lt_of_le hxs hg1.size
      clear hg1 HGX HAL
      go_wp2_with fail
      refine (HLG.out w1 HG1.out).mono ?_
      rintro e w2 ⟨rfl, hg2⟩
      have HG2 := hid (HG1.out.trans hg2)
      have x0 := (hg2.cells.1 _ 0 hxs).trans x0
      have x1 := (hg2.cells.1 _ 1 hxs).trans x1
      have hxs := Nat.lt_of_lt_of_le hxs hg2.size
      clear hg2 HG1 HLG
      go_wp2_with fail
      refine (HNW.out w2 HG2.out).mono ?_
      rintro e w3 ⟨rfl, hg3⟩
      have HG3 := hid (HG2.out.trans hg3)
      have x0 := (hg3.cells.1 _ 0 hxs).trans x0
      have x1 := (hg3.cells.1 _ 1 hxs).trans x1
      have hxs := Nat.lt_of_lt_of_le hxs hg3.size
      clear hg3 HNW HG2
      go_wp2_with fail
      refine (HRG.out w3).mono ?_
      rintro e w4 ⟨rfl, hg4⟩
      have HG4 := hid (HG3.out.trans hg4)
      clear hg4 HRG HG3 x0 x1 hxs
      go_wp2_with fail
      refine (HNM.out w4 HG4.out).mono ?_
      rintro e w5 ⟨rfl, hg5⟩
      have HF := hid (HG4.out.trans hg5)
      clear hg5 HNM HG4
      go_wp2_with fail
      go_ret
      exact ⟨rfl, HF.out⟩
    | true =>
      rw [Pl.rightR_eq, hr] at HRG
      have HNW := hid (fun W (g : Grew w W) => newS_any allS E spanS_all.1 lo hi W (by omega) (by omega) (hE.grew g) hr Pl.good_nil)
      have HA := hid hA
      have HE := hid hE
      have HSH := hid hsh
      have HSP := hid (SpR.mk hl3 hh3 hr)
      clear hE hA hsh
      go_enter Tryz.func4, Tryz.ntmps4
      go_upto_region 1 with fail
      obtain ⟨X, hX⟩ : ∃ X, X = w.alloc (.cells #[.string lo, .string hi] 23) := ⟨_, rfl⟩
      have gX : Grew w X := by rw [hX]; exact (Grew.refl w).alloc _
      have x0 : X.cell? ⟨w.heap.size, 0, none⟩ = some (.string lo) := by rw [hX]; simp [go_sem]
      have x1 : X.cell? ⟨w.heap.size, 1, none⟩ = some (.string hi) := by rw [hX]; simp [go_sem]
      have hxs : w.heap.size < X.heap.size := by rw [hX]; simp
      have HGX := hid gX
      rw [← hX]
      obtain ⟨xb, hxb⟩ : ∃ xb, xb = w.heap.size := ⟨_, rfl⟩
      rw [← hxb] at x0 x1 hxs ⊢
      clear hX gX hxb
      go_wp2_with fail
      refine (HAL.out X HGX.out).mono ?_
      rintro e w1 ⟨rfl, hg1⟩
      have HG1 := hid (HGX.out.trans hg1)
      have x0 := (hg1.cells.1 _ 0 hxs).trans x0
      have x1 := (hg1.cells.1 _ 1 hxs).trans x1
      have hxs := Nat.lt_of_lt_of_le hxs hg1.size
      clear hg1 HGX HAL
      go_wp2_with fail
      refine (HLG.out w1 HG1.out).mono ?_
      rintro e w2 ⟨rfl, hg2⟩
      have HG2 := hid (HG1.out.trans hg2)
      have x0 := (hg2.cells.1 _ 0 hxs).trans x0
      have x1 := (hg2.cells.1 _ 1 hxs).trans x1
      have hxs := Nat.lt_of_lt_of_le hxs hg2.size
      clear hg2 HG1 HLG
      go_wp2_with fail
      refine (HNW.out w2 HG2.out).mono ?_
      rintro e w3 ⟨st, Gt, Gs, rfl, hS, ht, hsn, hc, hg3⟩
      have HS3 := hid (show StAt w3 Gt Gs st 0 lo hi [] (fun _ => none) ∧ (∀ j, BlS Gt Gs st j → w2.heap.size ≤ j) from ⟨hS, fun j hj => hj.elim (ht j) (fun q => q.elim (hsn j) (fun q => by rw [q]; exact hc))⟩)
      have HG3 := hid (HG2.out.trans hg3)
      have x0 := (hg3.cells.1 _ 0 hxs).trans x0
      have x1 := (hg3.cells.1 _ 1 hxs).trans x1
      have hxs := Nat.lt_of_lt_of_le hxs hg3.size
      clear hS ht hsn hc hg3 HNW
      go_wp2_with fail
      refine (HRG.out w3).mono ?_
      rintro e w4 ⟨rfl, hg4⟩
      have HG4 := hid (HG3.out.trans hg4)
      have HS4 := hid (HS3.out.1.grew hg4)
      have x0 := (hg4.cells.1 _ 0 hxs).trans x0
      have x1 := (hg4.cells.1 _ 1 hxs).trans x1
      have hxs := Nat.lt_of_lt_of_le hxs hg4.size
      clear hg4 HRG HG3
      go_wp2_with fail
      refine (new23_any w4 lo hi).mono ?_
      rintro e w5 ⟨ms, sb, G, rfl, hM, hm1, hm2, hm3, hg5⟩
      have HTW := hid (show TwS w w5 st ms 0 lo hi [] (fun _ => none) from by
        have hall := HS4.out.all
        have hz := HG2.out.size
        have hy := HG4.out.size
        refine ⟨HG4.out.trans hg5, ⟨Gt, Gs, G, sb, [], HS4.out.grew hg5, hM, Pl.Tt.nil, fun j hj => ⟨by have := HS3.out.2 j hj; omega, fun hq => ?_⟩, fun j hj => ?_⟩, Pl.inS_nil _ _⟩
        · have := hall j hj
          rcases hq with q | q | q
          · have := hm3 j q; omega
          · omega
          · omega
        · rcases hj with q | q | q
          · have := hm3 j q; omega
          · omega
          · omega)
      clear hM hm1 hm2 hm3 hg5 HS3 HS4 HG4 HG2 x0 x1 hxs hl3' hh3'
      go_wp2_with fail
      go_loopw [53] (fun i wr => ∃ k : Nat, k ≤ xs.length ∧ i = .int .i64 k ∧ Hid (∃ n lo' hi' P S, n ≤ k ∧ P.length ≤ 8 * k ∧ SpR lo' hi' ∧ TwS w wr st ms n lo' hi' P S)) (fun i _ => xs.length - (intOf i).toNat)
      case atStart => exact ⟨0, Nat.zero_le _, rfl, 0, lo, hi, [], _, Nat.le_refl _, by simp, HSP.out, HTW.out⟩
      case round =>
        obtain ⟨k, hk1, rfl, HK⟩ := hrel
        by_cases hlt : k < xs.length
        · rcases HA.out.row with h0 | ⟨b, off, rfl, hb, hR⟩
          · rw [h0] at hlt; simp at hlt
          obtain ⟨n, lo', hi', P, S, hn, hP, hsp, hT⟩ := HK.out
          have hG := hT.grew
          obtain ⟨q0, q1, q2, q3, q4, q5, q6, q7, q8, q9, q10, q11, q12, q13, q14⟩ := ac_cells (W := wr) (b := b) (off := off + k * 15) (a := acAt xs k) (fun i v hv => (hG.cells.1 _ _ hb).trans (hR k hlt i v hv))
          have hbr := Nat.lt_of_lt_of_le hb hG.size
          have HDO := hid (entry_ok (HA.out.ops k hlt) ⟨(HSH.out k hlt).1, (HSH.out k hlt).2.1, (HSH.out k hlt).2.2.2.2⟩)
          have HKY := hid (HSH.out k hlt).2.2.2.1
          have HT := hid hT
          have HNP := hid (And.intro hn (And.intro hP hsp))
          have hk9 : k < 1000000 := by omega
          clear hR hT hn hP hG hsp
          generalize acAt xs k = A at *
          have HD := hid (fun X (g : Grew wr X) => do23_any E HE.out (HT.out.more g) HNP.out.2.2 A (fun _ => HDO.out.1) HDO.out.2.1 HDO.out.2.2 HKY.out (by have := HNP.out.2.1; omega) (by have := HNP.out.1; omega))
          obtain ⟨fkd, fat, fky, ⟨kind, shard, other, server, client, seq, key, upto, part, parts, ops, opsA, opsC, dataA, dataL, dataC⟩⟩ := A
          unfold Ac.vals En.vals at HD
          dsimp only [List.cons_append, List.nil_append] at *
          go_upto_region 14 with fail
          clear q0 q1 q2 q3 q4 q5 q6 q7 q8 q9 q10 q11 q12 q13 q14 hbr
          obtain ⟨X, hX⟩ : ∃ X, X = wr.alloc (.cells #[.int .i64 fkd, .int .i64 fat, .string fky, .int .i64 kind, .int .i64 shard, .int .i64 other, .int .i64 server, .int .i64 client, .int .i64 seq, .slice opsA ops.length opsC, .string key, .int .i64 upto, .int .i64 part, .int .i64 parts, .slice dataA dataL dataC] 68) := ⟨_, rfl⟩
          have gX : Grew wr X := by rw [hX]; exact (Grew.refl wr).alloc _
          have HXB := hid (show ∀ (i : Nat) v, [Value.int .i64 fkd, .int .i64 fat, .string fky, .int .i64 kind, .int .i64 shard, .int .i64 other, .int .i64 server, .int .i64 client, .int .i64 seq, .slice opsA ops.length opsC, .string key, .int .i64 upto, .int .i64 part, .int .i64 parts, .slice dataA dataL dataC][i]? = some v → X.cell? ⟨wr.heap.size, i, none⟩ = some v from by
            intro i v hv
            rw [hX, cell_block (heap_alloc_new wr _)]
            exact hv)
          have hxs : wr.heap.size < X.heap.size := by rw [hX]; simp
          have HDX := hid (HD.out X gX)
          rw [← hX]
          obtain ⟨kb, hkb⟩ : ∃ kb, kb = wr.heap.size := ⟨_, rfl⟩
          rw [← hkb] at HXB hxs ⊢
          have d0 := HXB.out 0 _ rfl
          have d1 := HXB.out 1 _ rfl
          have d2 := HXB.out 2 _ rfl
          have d3 := HXB.out 3 _ rfl
          have d4 := HXB.out 4 _ rfl
          have d5 := HXB.out 5 _ rfl
          have d6 := HXB.out 6 _ rfl
          have d7 := HXB.out 7 _ rfl
          have d8 := HXB.out 8 _ rfl
          have d9 := HXB.out 9 _ rfl
          have d10 := HXB.out 10 _ rfl
          have d11 := HXB.out 11 _ rfl
          have d12 := HXB.out 12 _ rfl
          have d13 := HXB.out 13 _ rfl
          have d14 := HXB.out 14 _ rfl
          clear hX gX hkb HD HT HK
          go_wp2_with fail
          refine HDX.out.mono ?_
          rintro r x1 ⟨rfl, m, lo2, hi2, P2, S2, h1, h2, h3, h4⟩
          have HT2 := hid h4
          have HNP2 := hid (show m ≤ k + 1 ∧ P2.length ≤ 8 * (k + 1) ∧ SpR lo2 hi2 from ⟨by have := HNP.out.1; omega, by have := HNP.out.2.1; omega, h3⟩)
          have HSG := hid (h4.stg h3 (by have := HNP.out.2.1; omega) (by have := HNP.out.1; omega))
          clear h1 h2 h3 h4 HDX HNP d0 d1 d2 d3 d4 d5 d6 d7 d8 d9 d10 d11 d12 d13 d14 hxs
          go_wp2_with fail
          obtain ⟨sg, D2, sm, st2⟩ := HSG.out
          refine (same23L_any sg sm st2).mono ?_
          clear sg sm st2
          rintro r x2 ⟨rfl, hg⟩
          have HT3 := hid (HT2.out.more hg)
          clear hg HT2 HSG
          go_wp2_with fail
          go_roundw
          case rel => exact ⟨k + 1, by omega, by go_num, m, lo2, hi2, P2, S2, HNP2.out.1, HNP2.out.2.1, HNP2.out.2.2, HT3.out⟩
          case measure => simp [intOf]; omega
        · have hkn : k = xs.length := by omega
          subst hkn
          obtain ⟨n, lo', hi', P, S, hn, hP, hsp, hT⟩ := HK.out
          have HT := hid hT
          have HSG := hid (hT.stg hsp (by omega) (by omega))
          have hB := bytesG_any HSG.out.1
          have HSP2 := hid hsp
          have HFEW := hid (And.intro hn hP)
          clear hT hn hP hsp HK HTW HSP
          go_wp2_with fail
          refine hB.mono ?_
          clear hB
          rintro r x1 ⟨a1, c1, rfl, hA1, hf1, hg1⟩
          have HG1 := hid (HT.out.grew.trans hg1)
          have HR1 := hid (readS_any E ((stS_all HE.out).grew HG1.out) hA1 hf1 HSP2.out.lsz HSP2.out.hsz HSP2.out.span HSG.out.1.srt HSG.out.1.good HSG.out.1.ins (by have := HFEW.out.2; omega) HSG.out.1.ok)
          have HG1 := hid hg1
          clear hA1 hf1 hg1
          go_wp2_with fail
          refine HR1.out.mono ?_
          clear HR1
          rintro r x2 ⟨su, Ft2, Fs2, rfl, hS2, hB2, hg2⟩
          have HG2 := hid (HG1.out.trans hg2)
          have HS2 := hid (show StG x2 su lo' hi' P S from ⟨⟨Ft2, Fs2, _, by have := clients_few S; omega, hS2⟩, HSG.out.1.ins, HSG.out.1.few, HSP2.out.lsz, HSP2.out.hsz, HSP2.out.span⟩)
          clear hS2 hB2 hg2
          go_wp2_with fail
          obtain ⟨sg, D2, sm, st2⟩ := HSG.out
          refine (same23L_any HS2.out (sm.grew HG2.out) st2).mono ?_
          have HS1 := hid (sg.grew HG2.out)
          clear sg sm st2
          rintro r x3 ⟨rfl, hg3⟩
          have HS3 := hid (And.intro (HS2.out.grew hg3) (HS1.out.grew hg3))
          have HG3 := hid (HG2.out.trans hg3)
          clear hg3 HS1 HS2
          go_wp2_with fail
          refine (sameG_any HS3.out.1 HS3.out.2).mono ?_
          rintro r x4 ⟨rfl, hg4⟩
          have HF := hid ((HT.out.grew.trans HG3.out).trans hg4)
          clear hg4
          go_wp2_with fail
          go_ret
          exact ⟨by simp, HF.out⟩
end Go.Proofs.YtoiahcgaffffbaaGreatDoor
namespace Go.Proofs.YtoiahcgaffffbaaGreatDoor
open Go.RowKit Go.ChangeShapes Go.WideShapes Go.Deep
theorem cells_op23 : Tryz.prog.cellsOf 125 = 5 := by kernel_rfl
theorem cells_act23 : Tryz.prog.cellsOf 68 = 15 := by kernel_rfl
theorem cells_entry23 : Tryz.prog.cellsOf 66 = 12 := by kernel_rfl
theorem cells_ops23 : Tryz.prog.cellsOf 64 = 1 := by kernel_rfl
theorem cells_bytes23 : Tryz.prog.cellsOf 44 = 1 := by kernel_rfl
theorem cells_int23 : Tryz.prog.cellsOf 3 = 1 := by kernel_rfl
theorem cells_str23 : Tryz.prog.cellsOf 9 = 1 := by kernel_rfl
theorem bytes_act23 : Tryz.prog.bytesOf 68 = 168 := by kernel_rfl
section
variable {H : Type} {enc : TypeId × Value → H} {W : World} {base : Nat} {spare : Nat → Bool} {held : Bool} {n : Nat} {cs : List Value} {y : DataW H × List MemPlace}
theorem open_op23 (hl : cs.length = 5) (h : DataW.trod enc Tryz.prog W base spare held n 125 cs = some y) :
    ∃ x : OpR, cs = x.vals ∧ x.key.size ≤ 9223372036854775807 ∧ x.val.size ≤ 9223372036854775807 ∧ x.old.size ≤ 9223372036854775807 := by
  match cs, hl with
  | [c0, c1, c2, c3, c4], _ =>
    obtain ⟨xs, n', _, hx, _, hlen, hg⟩ := DataW.trod_struct Tryz.underlying125 h
    have g0 := hg 0 _ rfl
    have g1 := hg 1 _ rfl
    have g2 := hg 2 _ rfl
    have g3 := hg 3 _ rfl
    have g4 := hg 4 _ rfl
    match xs, hlen with
    | [y0, y1, y2, y3, y4], _ =>
      simp [cells_int23, cells_str23] at g0 g1 g2 g3 g4
      obtain ⟨k, e0, _⟩ := DataW.trod_int Tryz.underlying3 g0
      obtain ⟨s1, e1, _, w1⟩ := DataW.trod_string Tryz.underlying9 g1
      obtain ⟨s2, e2, _, w2⟩ := DataW.trod_string Tryz.underlying9 g2
      obtain ⟨s3, e3, _, w3⟩ := DataW.trod_string Tryz.underlying9 g3
      obtain ⟨v, e4, _⟩ := DataW.trod_int Tryz.underlying3 g4
      simp at e0 e1 e2 e3 e4
      subst e0 e1 e2 e3 e4
      unfold maxLen at w1 w2 w3
      exact ⟨⟨k, s1, s2, s3, v⟩, rfl, by dsimp only; omega, by dsimp only; omega, by dsimp only; omega⟩
set_option maxRecDepth 100000 in
theorem open_ops23 {c : Value} (h : DataW.trod enc Tryz.prog W base spare held n 64 [c] = some y) :
    ∃ a cap xs, c = .slice a xs.length cap ∧ OpRsAt W a xs ∧ xs.length ≤ 9223372036854775807 ∧ ∀ j, j < xs.length → (opRAt xs j).key.size ≤ 9223372036854775807 ∧ (opRAt xs j).val.size ≤ 9223372036854775807 ∧ (opRAt xs j).old.size ≤ 9223372036854775807 := by
  rcases open_slice Tryz.underlying64 h with ⟨hcs, _⟩ | ⟨a, len, cap, m, n, D, Pl, hcs, _, hl, hm, hmm, _, hi⟩
  · simp at hcs
    subst hcs
    exact ⟨none, 0, [], rfl, .inl rfl, by simp, fun j hj => absurd hj (Nat.not_lt_zero j)⟩
  · simp at hcs
    subst hcs
    have hlm : len ≤ m := by rw [hmm]; split <;> omega
    have each : ∀ i, i < len → ∃ x : OpR, (W.cell? (a.add (i * 5)) = some (.int .i64 x.kind) ∧ W.cell? (a.add (i * 5 + 1)) = some (.string x.key) ∧ W.cell? (a.add (i * 5 + 2)) = some (.string x.val) ∧ W.cell? (a.add (i * 5 + 3)) = some (.string x.old) ∧ W.cell? (a.add (i * 5 + 4)) = some (.int .i64 x.ver)) ∧ x.key.size ≤ 9223372036854775807 ∧ x.val.size ≤ 9223372036854775807 ∧ x.old.size ≤ 9223372036854775807 := by
      intro i hil
      obtain ⟨cs', hc, ht⟩ := hi i (by omega)
      rw [cells_op23] at hc
      obtain ⟨_, hlen, hat⟩ := World.cells?_some hc
      obtain ⟨x, rfl, hx⟩ := open_op23 hlen ht
      refine ⟨x, ⟨?_, ?_, ?_, ?_, ?_⟩, hx⟩
      · have := hat 0 (by omega); rw [add_add] at this; exact this
      · have := hat 1 (by omega); rw [add_add] at this; exact this
      · have := hat 2 (by omega); rw [add_add] at this; exact this
      · have := hat 3 (by omega); rw [add_add] at this; exact this
      · have := hat 4 (by omega); rw [add_add] at this; exact this
    obtain ⟨X, hX⟩ := choose_lt each
    have hlenX : ((List.range len).map X).length = len := by simp
    have hatX : ∀ j, j < len → opRAt ((List.range len).map X) j = X j := fun j hj => by unfold opRAt; simp [hj]
    refine ⟨some a, cap, (List.range len).map X, by rw [hlenX], ?_, by rw [hlenX]; unfold maxLen at hm; omega, ?_⟩
    · by_cases h0 : len = 0
      · left; rw [h0]; rfl
      · right
        obtain ⟨b, off, spot⟩ := a
        have hs : spot = none := by
          have := (hX 0 (by omega)).1.1
          simpa [Addr.add] using World.cell?_spot this
        subst hs
        refine ⟨b, off, rfl, block_lt_of_cell (by have := (hX 0 (by omega)).1.1; simpa [Addr.add] using this), ?_, ?_, ?_, ?_, ?_⟩ <;> intro j hj <;> rw [hlenX] at hj <;> rw [hatX j hj]
        · have := (hX j hj).1.1; rwa [Addr.add_lit] at this
        · have := (hX j hj).1.2.1; rwa [Addr.add_lit, ← Nat.add_assoc] at this
        · have := (hX j hj).1.2.2.1; rwa [Addr.add_lit, ← Nat.add_assoc] at this
        · have := (hX j hj).1.2.2.2.1; rwa [Addr.add_lit, ← Nat.add_assoc] at this
        · have := (hX j hj).1.2.2.2.2; rwa [Addr.add_lit, ← Nat.add_assoc] at this
    · intro j hj
      rw [hlenX] at hj
      rw [hatX j hj]
      exact (hX j hj).2
theorem open_bytes23 {c : Value} (h : DataW.trod enc Tryz.prog W base spare held n 44 [c] = some y) : ∃ a l cap, c = .slice a l cap ∧ l ≤ 9223372036854775807 := by
  rcases open_slice Tryz.underlying44 h with ⟨hcs, _⟩ | ⟨a, len, cap, m, n, D, Pl, hcs, _, hl, hm, _, _, _⟩
  · simp at hcs; exact ⟨none, 0, 0, hcs, Nat.zero_le _⟩
  · simp at hcs; unfold maxLen at hm; exact ⟨some a, len, cap, hcs, by omega⟩
theorem open_entry23 (hl : cs.length = 12) (h : DataW.trod enc Tryz.prog W base spare held n 66 cs = some y) :
    ∃ e : En, cs = e.vals ∧ OpRsAt W e.opsA e.ops ∧ AcFits ⟨0, 0, ⟨#[]⟩, e⟩ := by
  match cs, hl with
  | [c0, c1, c2, c3, c4, c5, c6, c7, c8, c9, c10, c11], _ =>
    obtain ⟨xs, n', _, hx, _, hlen, hg⟩ := DataW.trod_struct Tryz.underlying66 h
    have g0 := hg 0 _ rfl
    have g1 := hg 1 _ rfl
    have g2 := hg 2 _ rfl
    have g3 := hg 3 _ rfl
    have g4 := hg 4 _ rfl
    have g5 := hg 5 _ rfl
    have g6 := hg 6 _ rfl
    have g7 := hg 7 _ rfl
    have g8 := hg 8 _ rfl
    have g9 := hg 9 _ rfl
    have g10 := hg 10 _ rfl
    have g11 := hg 11 _ rfl
    match xs, hlen with
    | [y0, y1, y2, y3, y4, y5, y6, y7, y8, y9, y10, y11], _ =>
      simp [cells_int23, cells_str23, cells_ops23, cells_bytes23] at g0 g1 g2 g3 g4 g5 g6 g7 g8 g9 g10 g11
      obtain ⟨k0, e0, _⟩ := DataW.trod_int Tryz.underlying3 g0
      obtain ⟨k1, e1, _⟩ := DataW.trod_int Tryz.underlying3 g1
      obtain ⟨k2, e2, _⟩ := DataW.trod_int Tryz.underlying3 g2
      obtain ⟨k3, e3, _⟩ := DataW.trod_int Tryz.underlying3 g3
      obtain ⟨k4, e4, _⟩ := DataW.trod_int Tryz.underlying3 g4
      obtain ⟨k5, e5, _⟩ := DataW.trod_int Tryz.underlying3 g5
      obtain ⟨oa, oc, os, e6, hops, hol, hos⟩ := open_ops23 g6
      obtain ⟨s7, e7, _, w7⟩ := DataW.trod_string Tryz.underlying9 g7
      obtain ⟨k8, e8, _⟩ := DataW.trod_int Tryz.underlying3 g8
      obtain ⟨k9, e9, _⟩ := DataW.trod_int Tryz.underlying3 g9
      obtain ⟨k10, e10, _⟩ := DataW.trod_int Tryz.underlying3 g10
      obtain ⟨da, dl, dc, e11, hdl⟩ := open_bytes23 g11
      simp at e0 e1 e2 e3 e4 e5 e7 e8 e9 e10
      subst e0 e1 e2 e3 e4 e5 e6 e7 e8 e9 e10 e11
      unfold maxLen at w7
      exact ⟨⟨k0, k1, k2, k3, k4, k5, s7, k8, k9, k10, os, oa, oc, da, dl, dc⟩, rfl, hops, hol, by dsimp only; omega, hdl, Nat.zero_le _, hos⟩
set_option maxRecDepth 100000 in
theorem open_act23 (hl : cs.length = 15) (h : DataW.trod enc Tryz.prog W base spare held n 68 cs = some y) :
    ∃ x : Ac, cs = x.vals ∧ OpRsAt W x.e.opsA x.e.ops ∧ AcFits x := by
  obtain ⟨xs, n', _, hx, _, hlen, hg⟩ := DataW.trod_struct Tryz.underlying68 h
  have g0 := hg 0 _ rfl
  have g1 := hg 1 _ rfl
  have g2 := hg 2 _ rfl
  have g3 := hg 3 _ rfl
  match xs, hlen with
  | [y0, y1, y2, y3], _ =>
    change DataW.trod enc Tryz.prog W base spare held n' 3 ((cs.drop 0).take (Tryz.prog.cellsOf 3)) = some y0 at g0
    change DataW.trod enc Tryz.prog W base spare held n' 3 ((cs.drop 1).take (Tryz.prog.cellsOf 3)) = some y1 at g1
    change DataW.trod enc Tryz.prog W base spare held n' 9 ((cs.drop 2).take (Tryz.prog.cellsOf 9)) = some y2 at g2
    change DataW.trod enc Tryz.prog W base spare held n' 66 ((cs.drop 3).take (Tryz.prog.cellsOf 66)) = some y3 at g3
    rw [cells_entry23] at g3
    rw [cells_int23] at g0 g1
    rw [cells_str23] at g2
    obtain ⟨e, he, hops, hfit⟩ := open_entry23 (by rw [List.length_take, List.length_drop]; omega) g3
    obtain ⟨k0, hk0, _⟩ := DataW.trod_int Tryz.underlying3 g0
    obtain ⟨k1, hk1, _⟩ := DataW.trod_int Tryz.underlying3 g1
    obtain ⟨s2, hk2, _, w2⟩ := DataW.trod_string Tryz.underlying9 g2
    unfold maxLen at w2
    refine ⟨⟨k0, k1, s2, e⟩, ?_, hops, hfit.1, hfit.2.1, hfit.2.2.1, by dsimp only; omega, hfit.2.2.2.2⟩
    match cs, hl with
    | [c0, c1, c2, c3, c4, c5, c6, c7, c8, c9, c10, c11, c12, c13, c14], _ =>
      simp only [List.drop_zero, List.drop_succ_cons, List.take_succ_cons, List.take_zero] at hk0 hk1 hk2 he
      show _ = [Value.int .i64 k0, .int .i64 k1, .string s2] ++ e.vals
      rw [← he]
      simp only [List.cons.injEq, and_true] at hk0 hk1 hk2
      subst hk0 hk1 hk2
      rfl
end
set_option maxRecDepth 100000 in
theorem open_acts23 {H : Type} {enc : TypeId × Value → H} {W : World} {held : Bool} {base0 : Nat} {v : Value} {d : DataW H} {p : List MemPlace} (hv : Value.okWide Tryz.prog W .any base0 58 v)
    (h : DataW.Trod enc Tryz.prog W 0 (fun _ => true) held 58 v d p) :
    ∃ a cap xs, v = .slice a xs.length cap ∧ AcsAt W a xs ∧ (∀ j, j < xs.length → AcFits (acAt xs j)) ∧ (xs = [] ∨ ∃ es sp, d = .slice es sp ∧ es.length = xs.length) := by
  obtain ⟨a0, l0, c0, rfl⟩ := okWide_slice Tryz.underlying58 hv
  obtain ⟨fuel, hf⟩ := h
  rcases open_slice Tryz.underlying58 hf with ⟨hcs, _⟩ | ⟨a, len, cap, m, n, D, Pl, hcs, _, hl, hm, hmm, hx, hi⟩
  · simp [Value.cells] at hcs
    obtain ⟨rfl, rfl, rfl⟩ := hcs
    refine ⟨none, 0, [], rfl, ⟨.inl rfl, fun j hj => absurd hj (Nat.not_lt_zero j)⟩, fun j hj => absurd hj (Nat.not_lt_zero j), .inl rfl⟩
  · simp [Value.cells] at hcs
    obtain ⟨rfl, rfl, rfl⟩ := hcs
    simp only [if_true] at hmm
    subst hmm
    have each : ∀ i, i < l0 → ∃ x : Ac, (∀ k v, x.vals[k]? = some v → W.cell? (a.add (i * 15 + k)) = some v) ∧ OpRsAt W x.e.opsA x.e.ops ∧ AcFits x := by
      intro i hil
      obtain ⟨cs', hc, ht⟩ := hi i (by omega)
      rw [cells_act23] at hc
      obtain ⟨_, hlen, hat⟩ := World.cells?_some hc
      obtain ⟨x, rfl, hx1, hx2⟩ := open_act23 hlen ht
      refine ⟨x, fun k v hk => ?_, hx1, hx2⟩
      have hkl := (List.getElem?_eq_some_iff.1 hk).1
      have := hat k (by omega)
      rw [add_add] at this
      rw [this, hk]
    obtain ⟨X, hX⟩ := choose_lt each
    have hlenX : ((List.range l0).map X).length = l0 := by simp
    have hatX : ∀ j, j < l0 → acAt ((List.range l0).map X) j = X j := fun j hj => by unfold acAt; simp [hj]
    refine ⟨some a, m, (List.range l0).map X, by rw [hlenX], ⟨?_, ?_⟩, ?_, .inr ⟨(List.range l0).map D, _, (Prod.mk.inj hx).1, by simp⟩⟩
    · by_cases h0 : l0 = 0
      · left; rw [h0]; rfl
      · right
        obtain ⟨b, off, spot⟩ := a
        have hcell0 := (hX 0 (by omega)).1 0 _ rfl
        have hs : spot = none := by simpa [Addr.add] using World.cell?_spot hcell0
        subst hs
        refine ⟨b, off, rfl, block_lt_of_cell (by simpa [Addr.add] using hcell0), ?_⟩
        intro j hj k v hk
        rw [hlenX] at hj
        rw [hatX j hj] at hk
        have := (hX j hj).1 k v hk
        rwa [Addr.add_lit, ← Nat.add_assoc] at this
    · intro j hj
      rw [hlenX] at hj
      rw [hatX j hj]
      exact (hX j hj).2.1
    · intro j hj
      rw [hlenX] at hj
      rw [hatX j hj]
      exact (hX j hj).2.2
end Go.Proofs.YtoiahcgaffffbaaGreatDoor
