/- Acts37, Made: one text. -/
import Derived.Test.YtoiahcgaffffbaaGreatDoorFinDeltaBetweenQ48
import Derived.Test.YtoiahcgaffffbaaGreatDoorFinDeltaBetweenQ47
import Derived.Test.YtoiahcgaffffbaaGreatDoorFinDeltaBetweenQ29
import Derived.Test.YtoiahcgaffffbaaGreatDoorFinDeltaBetweenQ39
set_option linter.unusedVariables false
set_option linter.unusedSectionVars false
set_option linter.unusedSimpArgs false
namespace Go.Proofs.YtoiahcgaffffbaaGreatDoor
open Go.RowKit Go.Maps
attribute [local go_sem] Oper.semAt_some
instance : Inhabited En := ⟨En.zero⟩
def enAt (xs : List En) (j : Nat) : En := xs[j]?.getD default
theorem enAt_eq (xs : List En) (i : Nat) (hi : i < xs.length) : enAt xs i = xs[i] := by unfold enAt; rw [List.getElem?_eq_getElem hi]; rfl
structure EnsAt (W : World) (a : Option Addr) (xs : List En) : Prop where
  row : xs = [] ∨ ∃ b off, a = some ⟨b, off, none⟩ ∧ b < W.heap.size ∧ ∀ j, j < xs.length → ∀ k v, (enAt xs j).vals[k]? = some v → W.cell? ⟨b, off + j * 12 + k, none⟩ = some v
  ops : ∀ j, j < xs.length → OpRsAt W (enAt xs j).opsA (enAt xs j).ops
theorem EnsAt.grew {W W' : World} {a : Option Addr} {xs : List En} (h : EnsAt W a xs) (g : Grew W W') : EnsAt W' a xs := by
  refine ⟨?_, fun j hj => (h.ops j hj).grew g⟩
  rcases h.row with h0 | ⟨b, off, e, hb, hr⟩
  · exact .inl h0
  · exact .inr ⟨b, off, e, Nat.lt_of_lt_of_le hb g.size, fun j hj k v hv => (g.cells.1 _ _ hb).trans (hr j hj k v hv)⟩
theorem en_cells {W : World} {b off : Nat} {e : En} (h : ∀ k v, e.vals[k]? = some v → W.cell? ⟨b, off + k, none⟩ = some v) : W.cell? ⟨b, off, none⟩ = some (.int .i64 e.kind) ∧ W.cell? ⟨b, off + 1, none⟩ = some (.int .i64 e.shard) ∧ W.cell? ⟨b, off + 2, none⟩ = some (.int .i64 e.other) ∧ W.cell? ⟨b, off + 3, none⟩ = some (.int .i64 e.server) ∧ W.cell? ⟨b, off + 4, none⟩ = some (.int .i64 e.client) ∧ W.cell? ⟨b, off + 5, none⟩ = some (.int .i64 e.seq) ∧ W.cell? ⟨b, off + 6, none⟩ = some (.slice e.opsA e.ops.length e.opsC) ∧ W.cell? ⟨b, off + 7, none⟩ = some (.string e.key) ∧ W.cell? ⟨b, off + 8, none⟩ = some (.int .i64 e.upto) ∧ W.cell? ⟨b, off + 9, none⟩ = some (.int .i64 e.part) ∧ W.cell? ⟨b, off + 10, none⟩ = some (.int .i64 e.parts) ∧ W.cell? ⟨b, off + 11, none⟩ = some (.slice e.dataA e.dataL e.dataC) :=
  ⟨h 0 _ rfl, h 1 _ rfl, h 2 _ rfl, h 3 _ rfl, h 4 _ rfl, h 5 _ rfl, h 6 _ rfl, h 7 _ rfl, h 8 _ rfl, h 9 _ rfl, h 10 _ rfl, h 11 _ rfl⟩
def En.long (e : En) : Bool := decide (20 < e.ops.length) || e.ops.any OpR.long
theorem take_any_en (xs : List En) (k : Nat) (h : k < xs.length) : (xs.take (k + 1)).any En.long = ((xs.take k).any En.long || (enAt xs k).long) := by
  rw [List.take_succ_eq_append_getElem h, enAt_eq xs k h, List.any_append]; simp
theorem any_of_en (xs : List En) (k : Nat) (h : k < xs.length) (hl : (enAt xs k).long = true) : xs.any En.long = true := by
  rw [enAt_eq xs k h] at hl
  exact List.any_eq_true.2 ⟨xs[k], List.getElem_mem h, hl⟩
structure Md where
  lo : ByteArray
  hi : ByteArray
  es : List En
  a : Option Addr
  cap : Nat
instance : Inhabited Md := ⟨⟨⟨#[]⟩, ⟨#[]⟩, [], none, 0⟩⟩
def Md.vals (m : Md) : List Value := [.string m.lo, .string m.hi, .slice m.a m.es.length m.cap]
def Md.agg (m : Md) : Value := .agg m.vals.toArray
def Md.long (m : Md) : Bool := decide (30 < m.es.length) || decide (300 < m.lo.size) || decide (300 < m.hi.size) || m.es.any En.long
def EnFits (e : En) : Prop := e.ops.length ≤ 9223372036854775807 ∧ ∀ j, j < e.ops.length → (opRAt e.ops j).key.size ≤ 9223372036854775807 ∧ (opRAt e.ops j).val.size ≤ 9223372036854775807 ∧ (opRAt e.ops j).old.size ≤ 9223372036854775807
structure MdFits (m : Md) : Prop where
  lo : m.lo.size ≤ 9223372036854775807
  hi : m.hi.size ≤ 9223372036854775807
  es : m.es.length ≤ 9223372036854775807
  each : ∀ j, j < m.es.length → EnFits (enAt m.es j)
structure MdSh (m : Md) : Prop where
  lo : m.lo.size ≤ 300
  hi : m.hi.size ≤ 300
  es : m.es.length ≤ 30
  each : ∀ j, j < m.es.length → (enAt m.es j).ops.length ≤ 20 ∧ ∀ o ∈ (enAt m.es j).ops, o.key.size ≤ 300 ∧ o.val.size ≤ 300 ∧ o.old.size ≤ 300
theorem long37_short {m : Md} (h : m.long = false) : MdSh m := by
  unfold Md.long at h
  simp only [Bool.or_eq_false_iff, decide_eq_false_iff_not] at h
  obtain ⟨⟨⟨h1, h2⟩, h3⟩, h4⟩ := h
  refine ⟨by omega, by omega, by omega, fun j hj => ?_⟩
  have := List.any_eq_false.1 h4 _ (List.getElem_mem hj)
  rw [← enAt_eq m.es j hj] at this
  unfold En.long at this
  simp only [Bool.or_eq_true, decide_eq_true_eq, not_or] at this
  obtain ⟨h5, h6⟩ := this
  refine ⟨by omega, fun o ho => ?_⟩
  have h7 := List.any_eq_false.1 (by simpa using h6 : (enAt m.es j).ops.any OpR.long = false) o ho
  unfold OpR.long at h7
  simp only [Bool.or_eq_true, decide_eq_true_eq, not_or] at h7
  omega
set_option maxRecDepth 100000 in
set_option maxHeartbeats 4000000 in
theorem long37_any (m : Md) (w : World) (hA : EnsAt w m.a m.es) (hf : MdFits m) :
    Calls Tryz.prog 10 #[m.agg] w fun e w' => e = .returned (.bool m.long) ∧ Grew w w' := by
  obtain ⟨lo, hi, xs, a, cap⟩ := m
  obtain ⟨hl, hh, hx, hk⟩ := hf
  have HE0 : Hid (Md.long ⟨lo, hi, xs, a, cap⟩ = (decide (30 < xs.length) || decide (300 < lo.size) || decide (300 < hi.size) || xs.any En.long)) := rfl
  generalize Md.long ⟨lo, hi, xs, a, cap⟩ = bl at *
  unfold Md.agg Md.vals
  dsimp only at *
  have HA := hid hA
  have HK := hid hk
  have HG0 : Hid (Grew w (w.alloc (.cells #[.string lo, .string hi, .slice a xs.length cap] 26))) := (Grew.refl w).alloc _
  clear hA hk
  by_cases h30 : (30 : Int) < (xs.length : Int)
  · obtain rfl : bl = true := by rw [HE0.out, decide_eq_true (by omega)]; rfl
    go_enter Tryz.func10, Tryz.ntmps10
    go_wp2_with fail
    go_ret
    exact ⟨rfl, HG0.out⟩
  by_cases h31 : (300 : Int) < (lo.size : Int)
  · obtain rfl : bl = true := by rw [HE0.out, decide_eq_true (show 300 < lo.size by omega)]; simp
    go_enter Tryz.func10, Tryz.ntmps10
    go_wp2_with fail
    go_ret
    exact ⟨rfl, HG0.out⟩
  by_cases h32 : (300 : Int) < (hi.size : Int)
  · obtain rfl : bl = true := by rw [HE0.out, decide_eq_true (show 300 < hi.size by omega)]; simp
    go_enter Tryz.func10, Tryz.ntmps10
    go_wp2_with fail
    go_ret
    exact ⟨rfl, HG0.out⟩
  have HE : Hid (bl = xs.any En.long) := by
    unfold Hid
    rw [HE0.out, decide_eq_false (by omega), decide_eq_false (by omega), decide_eq_false (by omega)]; rfl
  have h1 : (xs.length : Int) ≤ 30 := by omega
  clear HE0 hl hh hx
  go_enter Tryz.func10, Tryz.ntmps10
  go_wp2_with fail
  go_loopw [28] (fun i wr => ∃ k : Nat, k ≤ xs.length ∧ i = .int .i64 k ∧ (xs.take k).any En.long = false ∧ Grew w wr) (fun i _ => xs.length - (intOf i).toNat)
  case atStart => exact ⟨0, Nat.zero_le _, rfl, rfl, HG0.out⟩
  case round =>
    obtain ⟨k, hk1, rfl, hno, hG⟩ := hrel
    obtain ⟨wo, rfl⟩ : ∃ wo : World, wo = wr := ⟨_, rfl⟩
    by_cases hlt : k < xs.length
    · rcases HA.out.row with h0 | ⟨b, off, rfl, hb, hR⟩
      · rw [h0] at hlt; simp at hlt
      obtain ⟨q0, q1, q2, q3, q4, q5, q6, q7, q8, q9, q10, q11⟩ := en_cells (W := wo) (b := b) (off := off + k * 12) (e := enAt xs k) (fun i v hv => (hG.cells.1 _ _ hb).trans (hR k hlt i v hv))
      have HOPS := hid (HA.out.ops k hlt)
      have HN := hid (take_any_en xs k hlt)
      have HY := hid (any_of_en xs k hlt)
      have HNO := hid hno
      obtain ⟨cl, co⟩ := HK.out k hlt
      have HCO := hid co
      clear hR hno co
      generalize enAt xs k = A at *
      obtain ⟨kind, shard, other, server, client, seq, key, upto, part, parts, ops, opsA, opsC, dataA, dataL, dataC⟩ := A
      dsimp only at *
      by_cases l1 : (20 : Int) < (ops.length : Int)
      · have HL : Hid (En.long ⟨kind, shard, other, server, client, seq, key, upto, part, parts, ops, opsA, opsC, dataA, dataL, dataC⟩ = true) := by
          unfold Hid En.long; rw [decide_eq_true (by dsimp only; omega)]; rfl
        go_wp2_with fail
        go_ret
        exact ⟨ret_bool (by rw [HE.out, HY.out HL.out]), hG.alloc _⟩
      have HL0 : Hid (En.long ⟨kind, shard, other, server, client, seq, key, upto, part, parts, ops, opsA, opsC, dataA, dataL, dataC⟩ = ops.any OpR.long) := by
        unfold Hid En.long
        rw [decide_eq_false (by dsimp only; omega)]
        rfl
      go_wp2_with fail
      have HG2 := hid (hG.alloc (Obj.cells #[.int .i64 kind, .int .i64 shard, .int .i64 other, .int .i64 server, .int .i64 client, .int .i64 seq, .slice opsA ops.length opsC, .string key, .int .i64 upto, .int .i64 part, .int .i64 parts, .slice dataA dataL dataC] 66))
      clear q0 q1 q2 q3 q4 q5 q6 q7 q8 q9 q10 q11
      have hG2 := HG2.out
      clear HG2
      generalize World.alloc wo _ = w2 at hG2 ⊢
      clear hG
      go_loopw [39] (fun i wr => ∃ m : Nat, m ≤ ops.length ∧ i = .int .i64 m ∧ (ops.take m).any OpR.long = false ∧ Grew w wr) (fun i _ => ops.length - (intOf i).toNat)
      case atStart => exact ⟨0, Nat.zero_le _, rfl, rfl, hG2⟩
      case round =>
        obtain ⟨m, hm1, rfl, hmo, hGm⟩ := hrel
        by_cases hml : m < ops.length
        · rcases HOPS.out with h0 | ⟨ob, ooff, rfl, hob, hOR⟩
          · rw [h0] at hml; simp at hml
          have p0 := (hGm.cells.1 ob (ooff + m * 5) hob).trans (hOR.kind m hml)
          have p1 := (hGm.cells.1 ob (ooff + m * 5 + 1) hob).trans (hOR.key m hml)
          have p2 := (hGm.cells.1 ob (ooff + m * 5 + 2) hob).trans (hOR.val m hml)
          have p3 := (hGm.cells.1 ob (ooff + m * 5 + 3) hob).trans (hOR.old m hml)
          have p4 := (hGm.cells.1 ob (ooff + m * 5 + 4) hob).trans (hOR.ver m hml)
          have HMN := hid (take_any_op ops m hml)
          have HMY := hid (any_of_op ops m hml)
          have HMO := hid hmo
          obtain ⟨b1, b2, b3⟩ := HCO.out m hml
          clear hOR hmo
          generalize opRAt ops m = O at *
          obtain ⟨okind, okey, oval, oold, over⟩ := O
          dsimp only at *
          by_cases o1 : (300 : Int) < (okey.size : Int)
          · have HL : Hid (OpR.long ⟨okind, okey, oval, oold, over⟩ = true) := by
              unfold Hid OpR.long; simp only [Bool.or_eq_true, decide_eq_true_eq]; omega
            go_wp2_with fail
            go_ret
            exact ⟨ret_bool (by rw [HE.out, HY.out (HL0.out.trans (HMY.out HL.out))]), hGm.alloc _⟩
          by_cases o2 : (300 : Int) < (oval.size : Int)
          · have HL : Hid (OpR.long ⟨okind, okey, oval, oold, over⟩ = true) := by
              unfold Hid OpR.long; simp only [Bool.or_eq_true, decide_eq_true_eq]; omega
            go_wp2_with fail
            go_ret
            exact ⟨ret_bool (by rw [HE.out, HY.out (HL0.out.trans (HMY.out HL.out))]), hGm.alloc _⟩
          by_cases o3 : (300 : Int) < (oold.size : Int)
          · have HL : Hid (OpR.long ⟨okind, okey, oval, oold, over⟩ = true) := by
              unfold Hid OpR.long; simp only [Bool.or_eq_true, decide_eq_true_eq]; omega
            go_wp2_with fail
            go_ret
            exact ⟨ret_bool (by rw [HE.out, HY.out (HL0.out.trans (HMY.out HL.out))]), hGm.alloc _⟩
          have HL : Hid (OpR.long ⟨okind, okey, oval, oold, over⟩ = false) := by
            unfold Hid OpR.long; simp only [Bool.or_eq_false_iff, decide_eq_false_iff_not]; omega
          go_wp2_with fail
          go_roundw
          case rel => exact ⟨m + 1, by omega, by go_num, by rw [HMN.out, HMO.out, HL.out]; rfl, hGm.alloc _⟩
          case measure => simp [intOf]; omega
        · obtain rfl : m = ops.length := by omega
          rw [List.take_length] at hmo
          have HMO := hid hmo
          clear hmo
          go_wp2_with fail
          go_roundw
          case rel => exact ⟨k + 1, by omega, by go_num, by rw [HN.out, HNO.out, HL0.out, HMO.out]; rfl, hGm⟩
          case measure => simp [intOf]; omega
    · obtain rfl : k = xs.length := by omega
      rw [List.take_length] at hno
      have HNO := hid hno
      clear hno
      go_wp2_with fail
      go_ret
      exact ⟨ret_bool (by rw [HE.out, HNO.out]), hG⟩
end Go.Proofs.YtoiahcgaffffbaaGreatDoor
namespace Go.Proofs.YtoiahcgaffffbaaGreatDoor
open Go.RowKit Go.Maps
attribute [local go_sem] Oper.semAt_some
theorem twS_write2 (E : Nat → Addr) {w0 U W : World} (hE : Errs stS E w0) {st ms n : Nat} {lo hi : ByteArray} {P : List Pr} {S : Int → Option An} (hU : TwS w0 U st ms n lo hi P S) (gU : Grew U W) (e : En) (hA : e.kind = 1 → EnAt w0 e) (hz : EnSz e) (hs : ∀ o ∈ e.ops, o.key.size ≤ 16777216) (at_ : Int) (hl : lo.size ≤ 16777216) (hh : hi.size ≤ 16777216) (hx : P.length ≤ 1000) (hn : n ≤ 1000000) :
    Calls Tryz.prog 57 #[.pointer (some ⟨st, 0, none⟩), e.agg, .int .i64 at_] W fun r W1 => r = .returned (.tuple #[ansAgg (Pl.writeG lo hi P S e at_).code (Pl.writeG lo hi P S e at_).at_, errOf E (Pl.writeG lo hi P S e at_).err]) ∧ Grew w0 W1 ∧ (∀ b, U.heap.size ≤ b → b < W.heap.size → b < W1.heap.size ∧ ∀ o, W1.cell? ⟨b, o, none⟩ = W.cell? ⟨b, o, none⟩) ∧
      ∀ W2, Grew W1 W2 → Calls Tryz.prog 58 #[.pointer (some ⟨ms, 0, none⟩), e.agg, .int .i64 at_] W2 fun r W3 => r = .returned (.tuple #[ansAgg (Pl.writeG lo hi P S e at_).code (Pl.writeG lo hi P S e at_).at_, .int .i64 ((Pl.writeG lo hi P S e at_).err : Nat)]) ∧ ∃ m, m ≤ n + 1 ∧ TwS w0 W3 st ms m lo hi (Pl.writeG lo hi P S e at_).P (Pl.writeG lo hi P S e at_).S := by
  obtain ⟨Ft, Fs, G, sb, D, u1, u2, h3, h4, h5⟩ := hU.ex
  have hla := u1.all
  have hlb := u2.all
  have h1 := u1.grew gU
  have h2 := u2.grew gU
  have h := hU.more gU
  refine (writeG0_any E e (hE.grew h.grew) (fun h1 => (hA h1).grew h.grew) hz at_ h1 (by omega) (by omega) hx hn).mono ?_
  rintro r W1 ⟨hr, m, hm, hO, Ft1, hS1, hF1⟩
  have hg1 : Grew w0 W1 := ((h.grew.only _).then hO).grew fun j hj => (h4 j (hj.elim (fun q => .inr (.inr q)) (fun q => .inr (.inl q)))).1
  have hM1 : MsAt W1 G ms sb lo hi D S := h2.kept hO (fun j hj hq => (h4 j (hq.elim (fun q => .inr (.inr q)) (fun q => .inr (.inl q)))).2 (.inl hj)) (fun hq => (h4 ms (hq.elim (fun q => .inr (.inr q)) (fun q => .inr (.inl q)))).2 (.inr (.inl rfl))) (fun hq => (h4 sb (hq.elim (fun q => .inr (.inr q)) (fun q => .inr (.inl q)))).2 (.inr (.inr rfl)))
  have hA1 : ∀ j, BlS Ft1 Fs st j → w0.heap.size ≤ j ∧ ¬ BlM G ms sb j := by
    rintro j (hj | hj | hj)
    · rcases hF1 j hj with q | q
      · exact h4 j (.inl q)
      · have := h.grew.size
        have := gU.size
        exact ⟨by omega, fun hm => by have := hlb j hm; omega⟩
    · exact h4 j (.inr (.inl hj))
    · exact h4 j (.inr (.inr hj))
  have hla1 := hS1.all
  refine ⟨hr, hg1, fun b hb1 hb2 => ⟨by have := hO.size; omega, fun o => hO.cell hb2 (fun hq => by have := hla b (hq.elim (fun q => .inr (.inr q)) (fun q => .inr (.inl q))); omega) o⟩, fun W2 g2 => ?_⟩
  have hx2 : D.length ≤ 1000 := by rw [← h3.len]; exact hx
  refine (write23_any0 e (fun h1 => (hA h1).grew (hg1.trans g2)) hs (fun o ho => (hz o ho).2) at_ (hM1.grew g2) h3 hl hh hx2).mono ?_
  rintro r W3 ⟨hr2, D', ⟨hO2, G', hM', hG'⟩, hT'⟩
  refine ⟨hr2, m, hm, ⟨(((hg1.trans g2).only _).then hO2).grew fun j hj => h5 j (hj.elim (fun q => .inr (.inl q)) (fun q => q.elim (fun q => .inr (.inr q)) .inl)), ⟨Ft1, Fs, G', sb, D', ?_, hM', hT', ?_, ?_⟩, Pl.writeG_in h3.srt h.ins S e at_⟩⟩
  · refine (hS1.grew g2).kept hO2 (fun j hj hq => (hA1 j (.inl hj)).2 ?_) (fun j hj hq => (hA1 j (.inr (.inl hj))).2 ?_) (fun hq => (hA1 st (.inr (.inr rfl))).2 ?_)
    all_goals exact hq.elim (fun q => .inr (.inl q)) (fun q => q.elim (fun q => .inr (.inr q)) .inl)
  · intro j hj
    refine ⟨(hA1 j hj).1, fun hq => ?_⟩
    rcases hq with q | q | q
    · rcases hG' j q with q | q
      · exact (hA1 j hj).2 (.inl q)
      · have := hla1 j hj
        have := g2.size
        omega
    · exact (hA1 j hj).2 (.inr (.inl q))
    · exact (hA1 j hj).2 (.inr (.inr q))
  · intro j hj
    rcases hj with q | q | q
    · rcases hG' j q with q | q
      · exact h5 j (.inl q)
      · have := (hg1.trans g2).size
        omega
    · exact h5 j (.inr (.inl q))
    · exact h5 j (.inr (.inr q))
def Md.spanLo (m : Md) : ByteArray := if Pl.rightR m.lo m.hi = true then m.lo else ⟨#[]⟩
def Md.spanHi (m : Md) : ByteArray := if Pl.rightR m.lo m.hi = true then m.hi else ⟨#[]⟩
theorem Md.span_right (m : Md) : Pl.rightS m.spanLo m.spanHi = true := by
  unfold Md.spanLo Md.spanHi
  cases h : Pl.rightR m.lo m.hi with
  | true => rw [if_pos rfl, if_pos rfl, ← Pl.rightR_eq]; exact h
  | false => rw [if_neg (by decide), if_neg (by decide)]; kernel_rfl
structure MdW (w W : World) (m : Md) (st ms : Nat) : Prop where
  ex : ∃ n P S, n ≤ 30 ∧ P.length ≤ 240 ∧ TwS w W st ms n m.spanLo m.spanHi P S
set_option maxRecDepth 100000 in
set_option maxHeartbeats 8000000 in
theorem madeL_any (E : Nat → Addr) (m : Md) (w : World) (hE : Errs stS E w) (hA : EnsAt w m.a m.es) (hs : MdSh m) :
    Calls Tryz.prog 11 #[m.agg] w fun e w' => ∃ st ms, e = .returned (.tuple #[.pointer (some ⟨st, 0, none⟩), .pointer (some ⟨ms, 0, none⟩)]) ∧ MdW w w' m st ms := by
  have HRS := hid m.span_right
  have HSL := hid (show m.spanLo.size ≤ 300 ∧ m.spanHi.size ≤ 300 from by
    unfold Md.spanLo Md.spanHi
    have := hs.lo
    have := hs.hi
    split
    · exact ⟨by omega, by omega⟩
    · exact ⟨by decide, by decide⟩)
  have HMW : Hid (∀ W st ms n P S, n ≤ 30 → P.length ≤ 240 → TwS w W st ms n m.spanLo m.spanHi P S → MdW w W m st ms) := fun W st ms n P S h1 h2 h3 => ⟨⟨n, P, S, h1, h2, h3⟩⟩
  have HSP : Hid ((Pl.rightR m.lo m.hi = true → m.spanLo = m.lo ∧ m.spanHi = m.hi) ∧ (Pl.rightR m.lo m.hi = false → m.spanLo = ⟨#[]⟩ ∧ m.spanHi = ⟨#[]⟩)) := by
    unfold Hid Md.spanLo Md.spanHi
    exact ⟨fun h => by rw [if_pos h, if_pos h]; exact ⟨rfl, rfl⟩, fun h => by rw [h, if_neg (by decide), if_neg (by decide)]; exact ⟨rfl, rfl⟩⟩
  obtain ⟨hl1, hl2, hl3, hl4⟩ := hs
  have HE := hid hE
  have HA := hid hA
  have HEA := hid hl4
  have HRR := hid (fun W => ref_right m.lo m.hi W (by omega) (by omega))
  generalize hmw : MdW w = MW at *
  generalize m.spanLo = lo' at *
  generalize m.spanHi = hi' at *
  obtain ⟨lo, hi, xs, a, cap⟩ := m
  dsimp only at *
  have HN := hid (fun W (g : Grew w W) => newS_any stS E ⟨rfl, rfl, rfl, rfl⟩ lo' hi' W (by have := HSL.out.1; omega) (by have := HSL.out.2; omega) (HE.out.grew g) HRS.out Pl.good_nil)
  unfold Md.agg Md.vals
  dsimp only
  clear hE hA hl1 hl2 hl4 hmw
  generalize Pl.rightR lo hi = rr at *
  go_enter Tryz.func11, Tryz.ntmps11
  go_wp2_with fail
  obtain ⟨Y, hY⟩ : ∃ Y, Y = w.alloc (.cells #[.string lo, .string hi, .slice a xs.length cap] 26) := ⟨_, rfl⟩
  have gY : Grew w Y := by rw [hY]; exact (Grew.refl w).alloc _
  have HY := hid (show Y.cell? ⟨w.heap.size, 0, none⟩ = some (.string lo) ∧ Y.cell? ⟨w.heap.size, 1, none⟩ = some (.string hi) ∧ Y.cell? ⟨w.heap.size, 2, none⟩ = some (.slice a xs.length cap) ∧ Y.frozen? ⟨w.heap.size, 0, none⟩ = false ∧ Y.frozen? ⟨w.heap.size, 1, none⟩ = false ∧ w.heap.size < Y.heap.size from by rw [hY]; exact ⟨by simp [go_sem], by simp [go_sem], by simp [go_sem], by simp [go_sem], by simp [go_sem], by simp⟩)
  have HGY := hid gY
  rw [← hY]
  clear hY gY
  refine (HRR.out Y).mono ?_
  rintro e w1 ⟨rfl, hg1⟩
  have HG1 := hid (HGY.out.trans hg1)
  obtain ⟨mx, hmx⟩ : ∃ mx, mx = w.heap.size := ⟨_, rfl⟩
  have HMX := hid (show w.heap.size ≤ mx from by omega)
  rw [← hmx] at HY ⊢
  have y0 := (hg1.cells.1 _ 0 HY.out.2.2.2.2.2).trans HY.out.1
  have y1 := (hg1.cells.1 _ 1 HY.out.2.2.2.2.2).trans HY.out.2.1
  have y2 := (hg1.cells.1 _ 2 HY.out.2.2.2.2.2).trans HY.out.2.2.1
  have r0 := (hg1.cells.2 _ 0 HY.out.2.2.2.2.2).trans HY.out.2.2.2.1
  have r1 := (hg1.cells.2 _ 1 HY.out.2.2.2.2.2).trans HY.out.2.2.2.2.1
  have hmw1 := Nat.lt_of_lt_of_le HY.out.2.2.2.2.2 hg1.size
  clear hg1 hmx HRR HY HGY
  go_upto_if 12 with fail
  go_cut [12] (fun s wx => wx.cell? ⟨mx, 0, none⟩ = some (.string lo') ∧ wx.cell? ⟨mx, 1, none⟩ = some (.string hi') ∧ wx.cell? ⟨mx, 2, none⟩ = some (.slice a xs.length cap) ∧ Grew w wx)
  case first =>
    cases rr with
    | true =>
      obtain ⟨rfl, rfl⟩ := HSP.out.1 rfl
      go_wp2_with fail
      go_meet
      exact ⟨y0, y1, y2, HG1.out⟩
    | false =>
      obtain ⟨rfl, rfl⟩ := HSP.out.2 rfl
      have HQ := hid (show Grew w ((w1.setCell ⟨mx, 0, none⟩ (.string ⟨#[]⟩)).setCell ⟨mx, 1, none⟩ (.string ⟨#[]⟩)) from (HG1.out.setCell HMX.out _).setCell HMX.out _)
      go_wp2_with fail
      go_meet
      exact ⟨by simp [go_sem, y0], by simp [go_sem, y1], by simp [go_sem, y2], HQ.out⟩
  case rest =>
    obtain ⟨z0, z1, z2, hgz⟩ := hcut
    have HGZ := hid hgz
    have hmz := cell_lt z0
    clear y0 y1 y2 r0 r1 hmw1 HG1 HSP hgz
    go_wp2_with fail
    refine (HN.out wc HGZ.out).mono ?_
    rintro e w3 ⟨cb, Gt, Gs, rfl, hS, ht, hsn, hc, hg3⟩
    have HS3 := hid (show StAt w3 Gt Gs cb 0 lo' hi' [] (fun _ => none) ∧ (∀ j, BlS Gt Gs cb j → wc.heap.size ≤ j) from ⟨hS, fun j hj => hj.elim (ht j) (fun q => q.elim (hsn j) (fun q => by rw [q]; exact hc))⟩)
    have z0 := (hg3.cells.1 _ 0 hmz).trans z0
    have z1 := (hg3.cells.1 _ 1 hmz).trans z1
    have z2 := (hg3.cells.1 _ 2 hmz).trans z2
    have hmz3 := Nat.lt_of_lt_of_le hmz hg3.size
    have HG3 := hid hg3
    clear hS ht hsn hc hg3 HN
    go_wp2_with fail
    refine (new23_any w3 lo' hi').mono ?_
    rintro e w4 ⟨ms, sb, G, rfl, hM, hm1, hm2, hm3, hg4⟩
    have HTW := hid (show TwS w w4 cb ms 0 lo' hi' [] (fun _ => none) from by
      have hall := HS3.out.1.all
      have h3 := HG3.out.size
      have hz := HGZ.out.size
      refine ⟨(HGZ.out.trans HG3.out).trans hg4, ⟨Gt, Gs, G, sb, [], HS3.out.1.grew hg4, hM, Pl.Tt.nil, fun j hj => ⟨by have := HS3.out.2 j hj; omega, fun hq => ?_⟩, fun j hj => ?_⟩, Pl.inS_nil _ _⟩
      · have := hall j hj
        rcases hq with q | q | q
        · have := hm3 j q; omega
        · omega
        · omega
      · rcases hj with q | q | q
        · have := hm3 j q; omega
        · omega
        · omega)
    have z2 := (hg4.cells.1 _ 2 hmz3).trans z2
    have hmz4 := Nat.lt_of_lt_of_le hmz3 hg4.size
    clear hM hm1 hm2 hm3 hg4 HS3 HG3 HGZ z0 z1 hmz hmz3
    go_wp2_with fail
    clear z2 hmz4
    go_loopw [29] (fun i wr => ∃ k : Nat, k ≤ xs.length ∧ i = .int .i64 k ∧ Hid (∃ n P S, n ≤ k ∧ P.length ≤ 8 * k ∧ TwS w wr cb ms n lo' hi' P S)) (fun i _ => xs.length - (intOf i).toNat)
    case atStart => exact ⟨0, Nat.zero_le _, rfl, 0, [], _, Nat.le_refl _, by simp, HTW.out⟩
    case round =>
      obtain ⟨k, hk1, rfl, HK⟩ := hrel
      by_cases hlt : k < xs.length
      · rcases HA.out.row with h0 | ⟨b, off, rfl, hb, hR⟩
        · rw [h0] at hlt; simp at hlt
        obtain ⟨n, P, S, hn, hP, hT⟩ := HK.out
        have hG := hT.grew
        obtain ⟨q0, q1, q2, q3, q4, q5, q6, q7, q8, q9, q10, q11⟩ := en_cells (W := wr) (b := b) (off := off + k * 12) (e := enAt xs k) (fun i v hv => (hG.cells.1 _ _ hb).trans (hR k hlt i v hv))
        have hbr := Nat.lt_of_lt_of_le hb hG.size
        have HOPS := hid (HA.out.ops k hlt)
        have HSZ := hid (HEA.out k hlt)
        have HT := hid hT
        have HNP := hid (And.intro hn hP)
        have hk9 : k < 1000000 := by omega
        clear hR hT hn hP hG
        generalize enAt xs k = A at *
        obtain ⟨kind, shard, other, server, client, seq, key, upto, part, parts, ops, opsA, opsC, dataA, dataL, dataC⟩ := A
        dsimp only at *
        go_upto_region 10 with fail
        clear q0 q1 q2 q3 q4 q5 q6 q7 q8 q9 q10 q11 hbr
        obtain ⟨X, hX⟩ : ∃ X, X = wr.alloc (.cells #[.int .i64 kind, .int .i64 shard, .int .i64 other, .int .i64 server, .int .i64 client, .int .i64 seq, .slice opsA ops.length opsC, .string key, .int .i64 upto, .int .i64 part, .int .i64 parts, .slice dataA dataL dataC] 66) := ⟨_, rfl⟩
        have gX : Grew wr X := by rw [hX]; exact (Grew.refl wr).alloc _
        have HXB := hid (show ∀ i v, (En.vals ⟨kind, shard, other, server, client, seq, key, upto, part, parts, ops, opsA, opsC, dataA, dataL, dataC⟩)[i]? = some v → X.cell? ⟨wr.heap.size, i, none⟩ = some v from by
          intro i v hv
          rw [hX, cell_block (heap_alloc_new wr _)]
          exact hv)
        have hxs : wr.heap.size < X.heap.size := by rw [hX]; simp
        have hEN : kind = 1 → EnAt w ⟨kind, shard, other, server, client, seq, key, upto, part, parts, ops, opsA, opsC, dataA, dataL, dataC⟩ := fun h1 => ⟨HOPS.out, by have := HSZ.out.1; dsimp only; omega, fun o ho => by have := HSZ.out.2 o ho; exact ⟨by omega, by omega, by omega⟩, fun h => absurd (h1.symm.trans h) (by decide)⟩
        have HWR := hid (twS_write2 E HE.out HT.out gX ⟨kind, shard, other, server, client, seq, key, upto, part, parts, ops, opsA, opsC, dataA, dataL, dataC⟩ hEN (fun o ho => by have := HSZ.out.2 o ho; exact ⟨by omega, by omega⟩) (fun o ho => by have := HSZ.out.2 o ho; omega) (k : Int) (by have := HSL.out.1; omega) (by have := HSL.out.2; omega) (by have := HNP.out.2; omega) (by have := HNP.out.1; omega))
        have HWL := hid (Pl.writeG_len lo' hi' P S ⟨kind, shard, other, server, client, seq, key, upto, part, parts, ops, opsA, opsC, dataA, dataL, dataC⟩ (k : Int))
        have HWT := hid (HT.out)
        unfold En.agg En.vals at HWR HXB
        dsimp only at HWR HXB
        generalize Pl.writeG lo' hi' P S ⟨kind, shard, other, server, client, seq, key, upto, part, parts, ops, opsA, opsC, dataA, dataL, dataC⟩ (k : Int) = R at *
        obtain ⟨yc, ya, ye, YP, YS⟩ := R
        dsimp only at *
        unfold ansAgg at HWR
        have d0 := HXB.out 0 _ rfl
        have d1 := HXB.out 1 _ rfl
        have d2 := HXB.out 2 _ rfl
        have d3 := HXB.out 3 _ rfl
        have d4 := HXB.out 4 _ rfl
        have d5 := HXB.out 5 _ rfl
        have d6 := HXB.out 6 _ rfl
        have d7 := HXB.out 7 _ rfl
        have d8 := HXB.out 8 _ rfl
        have d9 := HXB.out 9 _ rfl
        have d10 := HXB.out 10 _ rfl
        have d11 := HXB.out 11 _ rfl
        rw [← hX]
        obtain ⟨kb, hkb⟩ : ∃ kb, kb = wr.heap.size := ⟨_, rfl⟩
        have HKB := hid (show wr.heap.size ≤ kb ∧ kb < X.heap.size from ⟨by omega, by omega⟩)
        rw [← hkb] at d0 d1 d2 d3 d4 d5 d6 d7 d8 d9 d10 d11 hxs ⊢
        clear hX gX hEN HT HXB hkb
        go_wp2_with fail
        refine HWR.out.mono ?_
        rintro e w6 ⟨rfl, hg6, hb6, hw6⟩
        obtain ⟨hk6, hc6⟩ := hb6 kb HKB.out.1 HKB.out.2
        have d0 := (hc6 0).trans d0
        have d1 := (hc6 1).trans d1
        have d2 := (hc6 2).trans d2
        have d3 := (hc6 3).trans d3
        have d4 := (hc6 4).trans d4
        have d5 := (hc6 5).trans d5
        have d6 := (hc6 6).trans d6
        have d7 := (hc6 7).trans d7
        have d8 := (hc6 8).trans d8
        have d9 := (hc6 9).trans d9
        have d10 := (hc6 10).trans d10
        have d11 := (hc6 11).trans d11
        have HW6 := hid (hw6 w6 (Grew.refl w6))
        clear hg6 hb6 hw6 hc6 HWR hxs
        go_wp2_with fail
        refine HW6.out.mono ?_
        rintro e w7 ⟨rfl, n7, hn7, hT7⟩
        have HK7 := hid (show ∃ n P S, n ≤ k + 1 ∧ P.length ≤ 8 * (k + 1) ∧ TwS w w7 cb ms n lo' hi' P S from ⟨n7, YP, YS, by have := HNP.out.1; omega, by have := HNP.out.2; have := HWL.out; omega, hT7⟩)
        clear hn7 hT7 HW6 d0 d1 d2 d3 d4 d5 d6 d7 d8 d9 d10 d11 hk6 HWT HWL HNP
        go_wp2_with fail
        go_roundw
        case rel => exact ⟨k + 1, by omega, by go_num, HK7.out⟩
        case measure => simp [intOf]; omega
      · have hkn : k = xs.length := by omega
        subst hkn
        have HF := hid (show MW wr ⟨lo, hi, xs, a, cap⟩ cb ms from by
          obtain ⟨n, P, S, hn, hP, hT⟩ := HK.out
          exact HMW.out wr cb ms n P S (by omega) (by omega) hT)
        go_wp2_with fail
        go_ret2
        exact ⟨cb, ms, rfl, HF.out⟩
end Go.Proofs.YtoiahcgaffffbaaGreatDoor
