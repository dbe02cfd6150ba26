/- Do23w, SpanC, RgnC: one text. -/
import Derived.Test.YtoiahcgaffffbaaGreatDoorFinStatePlaysQ34
import Derived.Test.YtoiahcgaffffbaaGreatDoorFinStatePlaysQ30
import Derived.Test.YtoiahcgaffffbaaGreatDoorFinStatePlaysQ35
import Derived.Test.YtoiahcgaffffbaaGreatDoorFinStatePlaysQ8
import Derived.Test.YtoiahcgaffffbaaGreatDoorFinStatePlaysQ4
import Derived.Test.YtoiahcgaffffbaaGreatDoorFinStatePlaysQ25
set_option linter.unusedVariables false
set_option linter.unusedSectionVars false
set_option linter.unusedSimpArgs false
namespace Go.Proofs.YtoiahcgaffffbaaGreatDoor
open Go.RowKit Go.Maps
attribute [local go_sem] Oper.semAt_some uponV
theorem stS_all {E : Nat → Addr} {w : World} (h : Errs allS E w) : Errs stS E w := h.less fun k hk => by simp only [stS, allS, Bool.or_eq_true, Bool.and_eq_true, decide_eq_true_eq] at *; omega
theorem twS_write3 (E : Nat → Addr) {w0 U W : World} (hE : Errs stS E w0) {st ms n : Nat} {lo hi : ByteArray} {P : List Pr} {S : Int → Option An} (hU : TwS w0 U st ms n lo hi P S) (gU : Grew U W) (e : En) (hA : e.kind = 1 → EnAt w0 e) (hz : EnSz e) (hs : ∀ o ∈ e.ops, o.key.size ≤ 16777216) (at_ : Int) (hl : lo.size ≤ 16777216) (hh : hi.size ≤ 16777216) (hx : P.length ≤ 1000) (hn : n ≤ 1000000) :
    Calls Tryz.prog 57 #[.pointer (some ⟨st, 0, none⟩), e.agg, .int .i64 at_] W fun r W1 => r = .returned (.tuple #[ansAgg (Pl.writeG lo hi P S e at_).code (Pl.writeG lo hi P S e at_).at_, errOf E (Pl.writeG lo hi P S e at_).err]) ∧ Grew w0 W1 ∧ (∀ b, U.heap.size ≤ b → b < W.heap.size → b < W1.heap.size ∧ ∀ o, W1.cell? ⟨b, o, none⟩ = W.cell? ⟨b, o, none⟩) ∧
      ∀ W2, Grew W1 W2 → Calls Tryz.prog 58 #[.pointer (some ⟨ms, 0, none⟩), e.agg, .int .i64 at_] W2 fun r W3 => r = .returned (.tuple #[ansAgg (Pl.writeG lo hi P S e at_).code (Pl.writeG lo hi P S e at_).at_, .int .i64 ((Pl.writeG lo hi P S e at_).err : Nat)]) ∧ (∃ m, m ≤ n + 1 ∧ TwS w0 W3 st ms m lo hi (Pl.writeG lo hi P S e at_).P (Pl.writeG lo hi P S e at_).S) ∧ (∀ b, U.heap.size ≤ b → b < W2.heap.size → b < W3.heap.size ∧ ∀ o, W3.cell? ⟨b, o, none⟩ = W2.cell? ⟨b, o, none⟩) := by
  obtain ⟨Ft, Fs, G, sb, D, u1, u2, h3, h4, h5⟩ := hU.ex
  have hla := u1.all
  have hlb := u2.all
  have h1 := u1.grew gU
  have h2 := u2.grew gU
  have h := hU.more gU
  refine (writeG0_any E e (hE.grew h.grew) (fun h1 => (hA h1).grew h.grew) hz at_ h1 (by omega) (by omega) hx hn).mono ?_
  rintro r W1 ⟨hr, m, hm, hO, Ft1, hS1, hF1⟩
  have hg1 : Grew w0 W1 := ((h.grew.only _).then hO).grew fun j hj => (h4 j (hj.elim (fun q => .inr (.inr q)) (fun q => .inr (.inl q)))).1
  have hM1 : MsAt W1 G ms sb lo hi D S := h2.kept hO (fun j hj hq => (h4 j (hq.elim (fun q => .inr (.inr q)) (fun q => .inr (.inl q)))).2 (.inl hj)) (fun hq => (h4 ms (hq.elim (fun q => .inr (.inr q)) (fun q => .inr (.inl q)))).2 (.inr (.inl rfl))) (fun hq => (h4 sb (hq.elim (fun q => .inr (.inr q)) (fun q => .inr (.inl q)))).2 (.inr (.inr rfl)))
  have hA1 : ∀ j, BlS Ft1 Fs st j → w0.heap.size ≤ j ∧ ¬ BlM G ms sb j := by
    rintro j (hj | hj | hj)
    · rcases hF1 j hj with q | q
      · exact h4 j (.inl q)
      · have := h.grew.size
        have := gU.size
        exact ⟨by omega, fun hm => by have := hlb j hm; omega⟩
    · exact h4 j (.inr (.inl hj))
    · exact h4 j (.inr (.inr hj))
  have hla1 := hS1.all
  refine ⟨hr, hg1, fun b hb1 hb2 => ⟨by have := hO.size; omega, fun o => hO.cell hb2 (fun hq => by have := hla b (hq.elim (fun q => .inr (.inr q)) (fun q => .inr (.inl q))); omega) o⟩, fun W2 g2 => ?_⟩
  have hx2 : D.length ≤ 1000 := by rw [← h3.len]; exact hx
  refine (write23_any0 e (fun h1 => (hA h1).grew (hg1.trans g2)) hs (fun o ho => (hz o ho).2) at_ (hM1.grew g2) h3 hl hh hx2).mono ?_
  rintro r W3 ⟨hr2, D', ⟨hO2, G', hM', hG'⟩, hT'⟩
  refine ⟨hr2, ⟨m, hm, ⟨(((hg1.trans g2).only _).then hO2).grew fun j hj => h5 j (hj.elim (fun q => .inr (.inl q)) (fun q => q.elim (fun q => .inr (.inr q)) .inl)), ⟨Ft1, Fs, G', sb, D', ?_, hM', hT', ?_, ?_⟩, Pl.writeG_in h3.srt h.ins S e at_⟩⟩, fun b hb1 hb2 => ⟨by have := hO2.size; omega, fun o => hO2.cell hb2 (fun hq => by have := u2.all b (hq.elim (fun q => .inr (.inl q)) (fun q => q.elim (fun q => .inr (.inr q)) .inl)); omega) o⟩⟩
  · refine (hS1.grew g2).kept hO2 (fun j hj hq => (hA1 j (.inl hj)).2 ?_) (fun j hj hq => (hA1 j (.inr (.inl hj))).2 ?_) (fun hq => (hA1 st (.inr (.inr rfl))).2 ?_)
    all_goals exact hq.elim (fun q => .inr (.inl q)) (fun q => q.elim (fun q => .inr (.inr q)) .inl)
  · intro j hj
    refine ⟨(hA1 j hj).1, fun hq => ?_⟩
    rcases hq with q | q | q
    · rcases hG' j q with q | q
      · exact (hA1 j hj).2 (.inl q)
      · have := hla1 j hj
        have := g2.size
        omega
    · exact (hA1 j hj).2 (.inr (.inl q))
    · exact (hA1 j hj).2 (.inr (.inr q))
  · intro j hj
    rcases hj with q | q | q
    · rcases hG' j q with q | q
      · exact h5 j (.inl q)
      · have := (hg1.trans g2).size
        omega
    · exact h5 j (.inr (.inl q))
    · exact h5 j (.inr (.inr q))
theorem writeG_err (lo hi : ByteArray) (P : List Pr) (S : Int → Option An) (e : En) (at_ : Int) : (Pl.writeG lo hi P S e at_).err ≤ 19 := by
  unfold Pl.writeG
  repeat' split
  all_goals (dsimp only; omega)
set_option maxRecDepth 100000 in
set_option maxHeartbeats 8000000 in
theorem do23_write (E : Nat → Addr) {w0 U : World} (hE : Errs allS E w0) {st ms n : Nat} {lo hi : ByteArray} {P : List Pr} {S : Int → Option An} (hU : TwS w0 U st ms n lo hi P S) (at' : Int) (ky : ByteArray) (e : En) (hA : e.kind = 1 → EnAt w0 e) (hz : EnSz e) (hs : ∀ o ∈ e.ops, o.key.size ≤ 16777216) (hl : lo.size ≤ 300) (hh : hi.size ≤ 300) (hx : P.length ≤ 240) (hn : n ≤ 1000) :
    Calls Tryz.prog 29 #[.pointer (some ⟨st, 0, none⟩), .pointer (some ⟨ms, 0, none⟩), .agg (Ac.vals ⟨0, at', ky, e⟩).toArray] U fun r W => r = .returned (.bool true) ∧ ∃ m P' S', m ≤ n + 1 ∧ P'.length ≤ P.length + 8 ∧ TwS w0 W st ms m lo hi P' S' := by
  have HW := hid (fun X (g : Grew U X) => twS_write3 E (stS_all hE) hU g e hA hz hs at' (by omega) (by omega) (by omega) (by omega))
  have HER := hid (writeG_err lo hi P S e at')
  have HWL := hid (Pl.writeG_len lo hi P S e at')
  have HNUM := hid (fun k (hk : k ≤ 19) W (g : Grew w0 W) => num_all E k hk W (hE.grew g))
  have HG0 := hid hU.grew
  clear hE hU hA hz hs
  obtain ⟨kind, shard, other, server, client, seq, key, upto, part, parts, ops, opsA, opsC, dataA, dataL, dataC⟩ := e
  unfold Ac.vals
  unfold En.agg at HW
  unfold En.vals at HW ⊢
  dsimp only [List.cons_append, List.nil_append] at *
  generalize Pl.writeG lo hi P S _ at' = R at *
  obtain ⟨yc, ya, ye, YP, YS⟩ := R
  dsimp only at *
  unfold ansAgg at HW
  have HEE := hid (fun W (g : Grew w0 W) => HNUM.out ye HER.out W g)
  have HEC : Hid (errOf E ye = .nilIface ∨ ∃ u, errOf E ye = .iface 388 u) := by
    unfold Hid errOf
    split
    · exact .inl rfl
    · exact .inr ⟨_, rfl⟩
  generalize errOf E ye = ee at *
  go_enter Tryz.func29, Tryz.ntmps29
  go_upto_region 1 with fail
  obtain ⟨X, hX⟩ : ∃ X, X = U.alloc (.cells #[.int .i64 0, .int .i64 at', .string ky, .int .i64 kind, .int .i64 shard, .int .i64 other, .int .i64 server, .int .i64 client, .int .i64 seq, .slice opsA ops.length opsC, .string key, .int .i64 upto, .int .i64 part, .int .i64 parts, .slice dataA dataL dataC] 68) := ⟨_, rfl⟩
  have gX : Grew U X := by rw [hX]; exact (Grew.refl U).alloc _
  have HXB := hid (show ∀ (i : Nat) v, [Value.int .i64 0, .int .i64 at', .string ky, .int .i64 kind, .int .i64 shard, .int .i64 other, .int .i64 server, .int .i64 client, .int .i64 seq, .slice opsA ops.length opsC, .string key, .int .i64 upto, .int .i64 part, .int .i64 parts, .slice dataA dataL dataC][i]? = some v → X.cell? ⟨U.heap.size, i, none⟩ = some v from by
    intro i v hv
    rw [hX, cell_block (heap_alloc_new U _)]
    exact hv)
  have hxs : U.heap.size < X.heap.size := by rw [hX]; simp
  have HWX := hid (HW.out X gX)
  rw [← hX]
  obtain ⟨kb, hkb⟩ : ∃ kb, kb = U.heap.size := ⟨_, rfl⟩
  have HKB := hid (show U.heap.size ≤ kb ∧ kb < X.heap.size from ⟨by omega, by omega⟩)
  have HXS := hid gX.size
  rw [← hkb] at HXB hxs ⊢
  have d0 := HXB.out 0 _ rfl
  have d1 := HXB.out 1 _ rfl
  have d3 := HXB.out 3 _ rfl
  have d4 := HXB.out 4 _ rfl
  have d5 := HXB.out 5 _ rfl
  have d6 := HXB.out 6 _ rfl
  have d7 := HXB.out 7 _ rfl
  have d8 := HXB.out 8 _ rfl
  have d9 := HXB.out 9 _ rfl
  have d10 := HXB.out 10 _ rfl
  have d11 := HXB.out 11 _ rfl
  have d12 := HXB.out 12 _ rfl
  have d13 := HXB.out 13 _ rfl
  have d14 := HXB.out 14 _ rfl
  clear hX gX hkb HW
  go_wp2_with fail
  refine HWX.out.mono ?_
  rintro r W1 ⟨rfl, hg1, hb1, hw1⟩
  obtain ⟨hk1, hc1⟩ := hb1 kb HKB.out.1 HKB.out.2
  have d1 := (hc1 1).trans d1
  have d3 := (hc1 3).trans d3
  have d4 := (hc1 4).trans d4
  have d5 := (hc1 5).trans d5
  have d6 := (hc1 6).trans d6
  have d7 := (hc1 7).trans d7
  have d8 := (hc1 8).trans d8
  have d9 := (hc1 9).trans d9
  have d10 := (hc1 10).trans d10
  have d11 := (hc1 11).trans d11
  have d12 := (hc1 12).trans d12
  have d13 := (hc1 13).trans d13
  have d14 := (hc1 14).trans d14
  have HG1 := hid hg1
  have HW1 := hid hw1
  have HU1 := hid (show U.heap.size ≤ W1.heap.size from by have := HKB.out; omega)
  clear hg1 hb1 hw1 hc1 HWX hxs d0
  go_upto_region 4 with fail
  obtain ⟨X2, hX2⟩ : ∃ X2, X2 = W1.alloc (.cells #[.int .i64 yc, .int .i64 ya] 127) := ⟨_, rfl⟩
  have g2 : Grew W1 X2 := by rw [hX2]; exact (Grew.refl W1).alloc _
  obtain ⟨xb, hxb⟩ : ∃ xb, xb = W1.heap.size := ⟨_, rfl⟩
  have x0 : X2.cell? ⟨xb, 0, none⟩ = some (.int .i64 yc) := by rw [hX2, hxb]; simp [go_sem]
  have x1 : X2.cell? ⟨xb, 1, none⟩ = some (.int .i64 ya) := by rw [hX2, hxb]; simp [go_sem]
  have HXN := hid (show U.heap.size ≤ xb ∧ xb < X2.heap.size from ⟨by have := HU1.out; omega, cell_lt x0⟩)
  have HW2 := hid (HW1.out X2 g2)
  have d1 := (g2.cells.1 _ 1 hk1).trans d1
  have d3 := (g2.cells.1 _ 3 hk1).trans d3
  have d4 := (g2.cells.1 _ 4 hk1).trans d4
  have d5 := (g2.cells.1 _ 5 hk1).trans d5
  have d6 := (g2.cells.1 _ 6 hk1).trans d6
  have d7 := (g2.cells.1 _ 7 hk1).trans d7
  have d8 := (g2.cells.1 _ 8 hk1).trans d8
  have d9 := (g2.cells.1 _ 9 hk1).trans d9
  have d10 := (g2.cells.1 _ 10 hk1).trans d10
  have d11 := (g2.cells.1 _ 11 hk1).trans d11
  have d12 := (g2.cells.1 _ 12 hk1).trans d12
  have d13 := (g2.cells.1 _ 13 hk1).trans d13
  have d14 := (g2.cells.1 _ 14 hk1).trans d14
  have hk2 := Nat.lt_of_lt_of_le hk1 g2.size
  rw [← hX2, ← hxb]
  clear hX2 g2 hxb hk1 HW1
  go_wp2_with fail
  refine HW2.out.mono ?_
  rintro r W3 ⟨rfl, ⟨m, hm, hT⟩, hb3⟩
  obtain ⟨hx3, hc3⟩ := hb3 xb HXN.out.1 HXN.out.2
  have x0 := (hc3 0).trans x0
  have x1 := (hc3 1).trans x1
  have HT := hid (And.intro hm hT)
  clear hm hT hb3 hc3 HW2 d1 d3 d4 d5 d6 d7 d8 d9 d10 d11 d12 d13 d14 hk2
  go_upto_region 5 with fail
  obtain ⟨X4, hX4⟩ : ∃ X4, X4 = W3.alloc (.cells #[.int .i64 yc, .int .i64 ya] 127) := ⟨_, rfl⟩
  have g4 : Grew W3 X4 := by rw [hX4]; exact (Grew.refl W3).alloc _
  obtain ⟨zb, hzb⟩ : ∃ zb, zb = W3.heap.size := ⟨_, rfl⟩
  have z0 : X4.cell? ⟨zb, 0, none⟩ = some (.int .i64 yc) := by rw [hX4, hzb]; simp [go_sem]
  have z1 : X4.cell? ⟨zb, 1, none⟩ = some (.int .i64 ya) := by rw [hX4, hzb]; simp [go_sem]
  have x0 := (g4.cells.1 _ 0 hx3).trans x0
  have x1 := (g4.cells.1 _ 1 hx3).trans x1
  have hxl := cell_lt x0
  have hzl := cell_lt z0
  have HT4 := hid (HT.out.2.more g4)
  have HE4 := hid (HEE.out X4 HT4.out.grew)
  rw [← hX4, ← hzb]
  clear hX4 g4 hzb hx3
  rcases HEC.out with rfl | ⟨eu, rfl⟩
  all_goals
    go_wp2_with fail
    refine HE4.out.mono ?_
    rintro r W5 ⟨rfl, hg5⟩
    have HF := hid (HT4.out.more hg5)
    clear hg5 HE4 x0 x1 z0 z1
    go_wp2_with fail
    go_ret
    exact ⟨by simp, m, YP, YS, HT.out.1, HWL.out, HF.out⟩
end Go.Proofs.YtoiahcgaffffbaaGreatDoor
namespace Go.Proofs.YtoiahcgaffffbaaGreatDoor
open Go.RowKit
namespace Pl
def cutE (r : Bool) (k : Nat) (h : Bool) (lo key : ByteArray) : Nat :=
  if r = false then 4 else if k ≠ 0 then k else if h = false ∨ key.toList = lo.toList then 1 else 0
def cutA (e : Nat) (lo key : ByteArray) : ByteArray × ByteArray := if e = 0 then (lo, key) else (⟨#[]⟩, ⟨#[]⟩)
end Pl
abbrev noText : ByteArray := ⟨#[]⟩
def SpanS (S : Nat → Bool) : Prop := KeyS S ∧ S 1 = true ∧ S 4 = true
def CutPost (E : Nat → Addr) (lo hi key : ByteArray) (n : Nat) (w : World) (e : Ending) (w' : World) : Prop :=
  e = .returned (.tuple #[.agg #[.string (Pl.cutA n lo key).1, .string (Pl.cutA n lo key).2], .agg #[.string (Pl.cutA n key hi).1, .string (Pl.cutA n key hi).2], errOf E n]) ∧ Grew w w'
set_option maxHeartbeats 800000 in
theorem cut_any (S : Nat → Bool) (E : Nat → Addr) (hS : SpanS S) (lo hi key : ByteArray) (w : World) (hl : lo.size ≤ 70368744177664) (hh : hi.size ≤ 70368744177664) (hk : key.size ≤ 70368744177664) (hE : Errs S E w) :
    Calls Tryz.prog 150 #[.agg #[.string lo, .string hi], .string key] w (CutPost E lo hi key (Pl.cutE (Pl.rightS lo hi) (Pl.keyN key) (Pl.hasS lo hi key) lo key) w) := by
  have HE := hid hE
  obtain ⟨hK, s1, s4⟩ := hS
  obtain ⟨s2, s3, s6, s7⟩ := id hK
  have b4 : 0 < w.heap.size := cell_lt (hE.cell 4 s4)
  have b1 : 1 < w.heap.size := cell_lt (hE.cell 1 s1)
  clear hE
  cases h1 : Pl.rightS lo hi with
  | false =>
    have hn : Pl.cutE false (Pl.keyN key) (Pl.hasS lo hi key) lo key = 4 := rfl
    rw [hn]
    clear hn
    go_enter Tryz.func150, Tryz.ntmps150
    go_wp2_with fail
    refine (right_span S E hK lo hi _ hl hh (HE.out.grew ((((Grew.refl w).alloc _).alloc _).alloc _))).mono ?_
    rintro e w1 ⟨rfl, hg⟩
    have hG : Grew w w1 := ((((Grew.refl w).alloc _).alloc _).alloc _).trans hg
    obtain ⟨hc, hf⟩ := hg.cells
    have cw4 : w.cell? ⟨0, 0, none⟩ = some (.iface 388 (.pointer (some (E 4)))) := HE.out.cell 4 s4
    have c4 : w1.cell? ⟨0, 0, none⟩ = some (.iface 388 (.pointer (some (E 4)))) := (HE.out.grew hG).cell 4 s4
    go_wp2_with fail
    go_region
    go_wp2_with fail
    refine bodyPost_ret (v := .tuple #[.agg #[.string noText, .string noText], .agg #[.string noText, .string noText], errOf E 4]) (by simp [results, Tryz.results150, go_sem, hc]; rfl) rfl ⟨rfl, ?_⟩
    exact ((((hG.setCell (by simp) _).setCell (by simp) _).setCell (by simp; omega) _).setCell (by simp; omega) _).drew
  | true =>
    cases h2 : Pl.isKey key with
    | false =>
      have k0 : Pl.keyN key ≠ 0 := of_decide_eq_false h2
      have hn : Pl.cutE true (Pl.keyN key) (Pl.hasS lo hi key) lo key = Pl.keyN key := by unfold Pl.cutE; rw [if_neg (by decide), if_pos k0]
      have hA : ∀ a b, Pl.cutA (Pl.keyN key) a b = (noText, noText) := fun a b => by unfold Pl.cutA; rw [if_neg k0]
      have HK := hid (errOf_nokey E key h2)
      unfold CutPost
      rw [hn, hA, hA, HK.out]
      clear hn hA k0
      go_enter Tryz.func150, Tryz.ntmps150
      go_wp2_with fail
      refine (right_span S E hK lo hi _ hl hh (HE.out.grew ((((Grew.refl w).alloc _).alloc _).alloc _))).mono ?_
      rintro e w1 ⟨rfl, hg⟩
      have hG : Grew w w1 := ((((Grew.refl w).alloc _).alloc _).alloc _).trans hg
      have hz : w.heap.size < w1.heap.size ∧ w.heap.size + 1 < w1.heap.size ∧ w.heap.size + 1 + 1 < w1.heap.size := by have := hg.size; simp at this; omega
      obtain ⟨hz0, hz1, hz2⟩ := hz
      obtain ⟨hc, hf⟩ := hg.cells
      go_wp2_with fail
      refine (key_any S E s2 s3 s6 s7 key _ (by omega) (HE.out.grew hG)).mono ?_
      rw [HK.out]
      rintro e w2 ⟨rfl, hg2⟩
      obtain ⟨hc2, hf2⟩ := hg2.cells
      have hG2 : Grew w w2 := hG.trans hg2
      go_wp2_with fail
      refine bodyPost_ret (v := .tuple #[.agg #[.string noText, .string noText], .agg #[.string noText, .string noText], .iface 388 (.pointer (some (E (Pl.keyN key))))]) (by simp [results, Tryz.results150, go_sem, hc, hc2, hz1, hz2]) rfl ⟨rfl, ?_⟩
      exact (((hG2.setCell (by simp) _).setCell (by simp) _).setCell (by simp; omega) _).setCell (by simp; omega) _
    | true =>
      have k0 : Pl.keyN key = 0 := of_decide_eq_true h2
      have HK := hid (errOf_key E key h2)
      cases h3 : Pl.hasS lo hi key with
      | false =>
        have hn : Pl.cutE true (Pl.keyN key) false lo key = 1 := by unfold Pl.cutE; rw [if_neg (by decide), if_neg (by omega), if_pos (Or.inl rfl)]
        rw [hn]
        clear hn k0
        go_enter Tryz.func150, Tryz.ntmps150
        go_wp2_with fail
        refine (right_span S E hK lo hi _ hl hh (HE.out.grew ((((Grew.refl w).alloc _).alloc _).alloc _))).mono ?_
        rintro e w1 ⟨rfl, hg⟩
        have hG : Grew w w1 := ((((Grew.refl w).alloc _).alloc _).alloc _).trans hg
        have hz : w.heap.size < w1.heap.size ∧ w.heap.size + 1 < w1.heap.size ∧ w.heap.size + 1 + 1 < w1.heap.size := by have := hg.size; simp at this; omega
        obtain ⟨hz0, hz1, hz2⟩ := hz
        obtain ⟨hc, hf⟩ := hg.cells
        go_wp2_with fail
        refine (key_any S E s2 s3 s6 s7 key _ (by omega) (HE.out.grew hG)).mono ?_
        rw [HK.out]
        rintro e w2 ⟨rfl, hg2⟩
        obtain ⟨hc2, hf2⟩ := hg2.cells
        have hG2 : Grew w w2 := hG.trans hg2
        have hy : w.heap.size < w2.heap.size ∧ w.heap.size + 1 < w2.heap.size ∧ w.heap.size + 1 + 1 < w2.heap.size := by have := hg2.size; omega
        obtain ⟨hy0, hy1, hy2⟩ := hy
        go_wp2_with fail
        refine (has_span S E hK lo hi key _ hl hh hk (HE.out.grew hG2)).mono ?_
        rintro e w3 ⟨rfl, hg3⟩
        obtain ⟨hc3, hf3⟩ := hg3.cells
        have hG3 : Grew w w3 := hG2.trans hg3
        have c1 : w3.cell? ⟨1, 0, none⟩ = some (.iface 388 (.pointer (some (E 1)))) := (HE.out.grew hG3).cell 1 s1
        go_wp2_with fail
        go_region
        go_wp2_with fail
        refine bodyPost_ret (v := .tuple #[.agg #[.string noText, .string noText], .agg #[.string noText, .string noText], errOf E 1]) (by simp [results, Tryz.results150, go_sem, hc, hc2, hc3, hz1, hz2, hy1, hy2]; rfl) rfl ⟨rfl, ?_⟩
        exact ((((hG3.setCell (by simp) _).setCell (by simp) _).setCell (by simp; omega) _).setCell (by simp; omega) _).drew
      | true =>
        by_cases h4 : key.toList = lo.toList
        · have hn : Pl.cutE true (Pl.keyN key) true lo key = 1 := by unfold Pl.cutE; rw [if_neg (by decide), if_neg (by omega), if_pos (Or.inr h4)]
          rw [hn]
          have h5 : (key.toList == lo.toList) = true := by simpa using h4
          clear hn k0 h4
          go_enter Tryz.func150, Tryz.ntmps150
          go_wp2_with fail
          refine (right_span S E hK lo hi _ hl hh (HE.out.grew ((((Grew.refl w).alloc _).alloc _).alloc _))).mono ?_
          rintro e w1 ⟨rfl, hg⟩
          have hG : Grew w w1 := ((((Grew.refl w).alloc _).alloc _).alloc _).trans hg
          have hz : w.heap.size < w1.heap.size ∧ w.heap.size + 1 < w1.heap.size ∧ w.heap.size + 1 + 1 < w1.heap.size := by have := hg.size; simp at this; omega
          obtain ⟨hz0, hz1, hz2⟩ := hz
          obtain ⟨hc, hf⟩ := hg.cells
          go_wp2_with fail
          refine (key_any S E s2 s3 s6 s7 key _ (by omega) (HE.out.grew hG)).mono ?_
          rw [HK.out]
          rintro e w2 ⟨rfl, hg2⟩
          obtain ⟨hc2, hf2⟩ := hg2.cells
          have hG2 : Grew w w2 := hG.trans hg2
          have hy : w.heap.size < w2.heap.size ∧ w.heap.size + 1 < w2.heap.size ∧ w.heap.size + 1 + 1 < w2.heap.size := by have := hg2.size; omega
          obtain ⟨hy0, hy1, hy2⟩ := hy
          go_wp2_with fail
          refine (has_span S E hK lo hi key _ hl hh hk (HE.out.grew hG2)).mono ?_
          rintro e w3 ⟨rfl, hg3⟩
          obtain ⟨hc3, hf3⟩ := hg3.cells
          have hG3 : Grew w w3 := hG2.trans hg3
          have c1 : w3.cell? ⟨1, 0, none⟩ = some (.iface 388 (.pointer (some (E 1)))) := (HE.out.grew hG3).cell 1 s1
          go_wp2_with fail
          go_region
          go_wp2_with fail
          refine bodyPost_ret (v := .tuple #[.agg #[.string noText, .string noText], .agg #[.string noText, .string noText], errOf E 1]) (by simp [results, Tryz.results150, go_sem, hc, hc2, hc3, hz1, hz2, hy1, hy2]; rfl) rfl ⟨rfl, ?_⟩
          exact ((((hG3.setCell (by simp) _).setCell (by simp) _).setCell (by simp; omega) _).setCell (by simp; omega) _).drew
        · have hn : Pl.cutE true (Pl.keyN key) true lo key = 0 := by unfold Pl.cutE; rw [if_neg (by decide), if_neg (by omega), if_neg (by simpa using h4)]
          rw [hn]
          have h5 : (key.toList == lo.toList) = false := by simpa using h4
          clear hn k0 h4
          go_enter Tryz.func150, Tryz.ntmps150
          go_wp2_with fail
          refine (right_span S E hK lo hi _ hl hh (HE.out.grew ((((Grew.refl w).alloc _).alloc _).alloc _))).mono ?_
          rintro e w1 ⟨rfl, hg⟩
          have hG : Grew w w1 := ((((Grew.refl w).alloc _).alloc _).alloc _).trans hg
          have hz : w.heap.size < w1.heap.size ∧ w.heap.size + 1 < w1.heap.size ∧ w.heap.size + 1 + 1 < w1.heap.size := by have := hg.size; simp at this; omega
          obtain ⟨hz0, hz1, hz2⟩ := hz
          obtain ⟨hc, hf⟩ := hg.cells
          go_wp2_with fail
          refine (key_any S E s2 s3 s6 s7 key _ (by omega) (HE.out.grew hG)).mono ?_
          rw [HK.out]
          rintro e w2 ⟨rfl, hg2⟩
          obtain ⟨hc2, hf2⟩ := hg2.cells
          have hG2 : Grew w w2 := hG.trans hg2
          have hy : w.heap.size < w2.heap.size ∧ w.heap.size + 1 < w2.heap.size ∧ w.heap.size + 1 + 1 < w2.heap.size := by have := hg2.size; omega
          obtain ⟨hy0, hy1, hy2⟩ := hy
          go_wp2_with fail
          refine (has_span S E hK lo hi key _ hl hh hk (HE.out.grew hG2)).mono ?_
          rintro e w3 ⟨rfl, hg3⟩
          obtain ⟨hc3, hf3⟩ := hg3.cells
          have hG3 : Grew w w3 := hG2.trans hg3
          have l0 : w3.cell? ⟨w.heap.size, 0, none⟩ = some (.string lo) := by rw [hc3 _ _ hy0, hc2 _ _ hz0, hc _ _ (by simp; omega)]; simp [go_sem]
          have l1 : w3.cell? ⟨w.heap.size, 1, none⟩ = some (.string hi) := by rw [hc3 _ _ hy0, hc2 _ _ hz0, hc _ _ (by simp; omega)]; simp [go_sem]
          go_wp2_with fail
          go_region
          go_wp2_with fail
          refine bodyPost_ret (v := .tuple #[.agg #[.string lo, .string key], .agg #[.string key, .string hi], errOf E 0]) (by simp [results, Tryz.results150, go_sem, hc, hc2, hc3, hz1, hz2, hy1, hy2]; rfl) rfl ⟨rfl, ?_⟩
          exact ((((hG3.setCell (by simp) _).setCell (by simp) _).setCell (by simp; omega) _).setCell (by simp; omega) _).drew
end Go.Proofs.YtoiahcgaffffbaaGreatDoor
namespace Go.Proofs.YtoiahcgaffffbaaGreatDoor
open Go.RowKit Go.Maps
structure JC (idx : List Nat) (M : Nat → (Nat → Value) → World → Prop) (L : Nat → Bool) (f : Nat → Value) (u : World) : Prop where
  ex : ∃ s, s ≤ idx.length ∧ (∀ j i, idx[j]? = some i → L i = decide (j < s)) ∧ M s f u
section
variable {idx : List Nat} {M : Nat → (Nat → Value) → World → Prop} {L : Nat → Bool} {f : Nat → Value} {u u' : World}
theorem JC.start (h : M 0 f u) : JC idx M (fun _ => false) f u := ⟨0, Nat.zero_le _, fun j i _ => by simp, h⟩
theorem JC.stage (h : JC idx M L f u) (j i : Nat) (hi : idx[j]? = some i) (hL : L i = false) (hp : ∀ k, j = k + 1 → ∃ i', idx[k]? = some i' ∧ L i' = true) : (∀ j' i', idx[j']? = some i' → L i' = decide (j' < j)) ∧ M j f u := by
  obtain ⟨s, hs, h1, h2⟩ := h.ex
  have e1 := h1 j i hi
  rw [hL] at e1
  have hsj : s ≤ j := by
    have := decide_eq_false_iff_not.1 e1.symm
    omega
  have hjs : j ≤ s := by
    cases j with
    | zero => exact Nat.zero_le _
    | succ k =>
      obtain ⟨i', hk, hLk⟩ := hp k rfl
      have e2 := h1 k i' hk
      rw [hLk] at e2
      have := decide_eq_true_iff.1 e2.symm
      omega
  obtain rfl : s = j := by omega
  exact ⟨h1, h2⟩
theorem JC.put (hn : idx.Nodup) (h : JC idx M L f u) (j i : Nat) (hi : idx[j]? = some i) (hL : L i = false) (hp : ∀ k, j = k + 1 → ∃ i', idx[k]? = some i' ∧ L i' = true) {v : Value} (hM : M (j + 1) (updV f i v) u') : JC idx M (plus L i) (updV f i v) u' := by
  obtain ⟨h1, _⟩ := h.stage j i hi hL hp
  obtain ⟨hj, hij⟩ := List.getElem?_eq_some_iff.1 hi
  refine ⟨j + 1, by omega, fun j' i' hi' => ?_, hM⟩
  by_cases e : i' = i
  · subst e
    obtain ⟨hj', hij'⟩ := List.getElem?_eq_some_iff.1 hi'
    have : j' = j := by
      rcases Nat.lt_trichotomy j' j with q | q | q
      · exact absurd (hij'.trans hij.symm) (List.pairwise_iff_getElem.1 hn j' j hj' hj q)
      · exact q
      · exact absurd (hij.trans hij'.symm) (List.pairwise_iff_getElem.1 hn j j' hj hj' q)
    subst this
    simp [plus]
  · rw [plus_ne e, h1 j' i' hi']
    have : j' ≠ j := fun q => e (by subst q; rw [hi] at hi'; exact (Option.some.inj hi').symm)
    exact decide_eq_decide.2 (by omega)
theorem JC.done (h : JC idx M L f u) (ha : ∀ i ∈ idx, L i = true) : M idx.length f u := by
  obtain ⟨s, hs, h1, h2⟩ := h.ex
  by_cases e : s = idx.length
  · exact e ▸ h2
  · have hlt : s < idx.length := by omega
    have q := h1 s _ (List.getElem?_eq_getElem hlt)
    rw [ha _ (List.getElem_mem hlt)] at q
    simp at q
end
end Go.Proofs.YtoiahcgaffffbaaGreatDoor
