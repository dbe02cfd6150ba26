/- Acts37, RdD, AppC: one text. -/
import Derived.Test.YtifcnammekbfoaaGreatDoorFinDeltaChainQ33
import Derived.Test.YtifcnammekbfoaaGreatDoorFinDeltaChainQ26
import Derived.Test.YtifcnammekbfoaaGreatDoorFinDeltaChainQ23
import Derived.Test.YtifcnammekbfoaaGreatDoorFinDeltaChainQ4
import Derived.Test.YtifcnammekbfoaaGreatDoorFinDeltaChainQ32
/- What the laws of tidewaterlaw37 are given; the walk of Made.long. -/
set_option linter.unusedVariables false
set_option linter.unusedSectionVars false
set_option linter.unusedSimpArgs false
namespace Go.Proofs.YtifcnammekbfoaaGreatDoor
open Go.RowKit Go.Maps
attribute [local go_sem] Oper.semAt_some

instance : Inhabited En := ⟨En.zero⟩
def enAt (xs : List En) (j : Nat) : En := xs[j]?.getD default
theorem enAt_eq (xs : List En) (i : Nat) (hi : i < xs.length) : enAt xs i = xs[i] := by unfold enAt; rw [List.getElem?_eq_getElem hi]; rfl
/-- A slice of entries: empty, or a row; each one's operations lie where it says. -/
structure EnsAt (W : World) (a : Option Addr) (xs : List En) : Prop where
  row : xs = [] ∨ ∃ b off, a = some ⟨b, off, none⟩ ∧ b < W.heap.size ∧ ∀ j, j < xs.length → ∀ k v, (enAt xs j).vals[k]? = some v → W.cell? ⟨b, off + j * 12 + k, none⟩ = some v
  ops : ∀ j, j < xs.length → OpRsAt W (enAt xs j).opsA (enAt xs j).ops
theorem EnsAt.grew {W W' : World} {a : Option Addr} {xs : List En} (h : EnsAt W a xs) (g : Grew W W') : EnsAt W' a xs := by
  refine ⟨?_, fun j hj => (h.ops j hj).grew g⟩
  rcases h.row with h0 | ⟨b, off, e, hb, hr⟩
  · exact .inl h0
  · exact .inr ⟨b, off, e, Nat.lt_of_lt_of_le hb g.size, fun j hj k v hv => (g.cells.1 _ _ hb).trans (hr j hj k v hv)⟩
theorem en_cells {W : World} {b off : Nat} {e : En} (h : ∀ k v, e.vals[k]? = some v → W.cell? ⟨b, off + k, none⟩ = some v) : W.cell? ⟨b, off, none⟩ = some (.int .i64 e.kind) ∧ W.cell? ⟨b, off + 1, none⟩ = some (.int .i64 e.shard) ∧ W.cell? ⟨b, off + 2, none⟩ = some (.int .i64 e.other) ∧ W.cell? ⟨b, off + 3, none⟩ = some (.int .i64 e.server) ∧ W.cell? ⟨b, off + 4, none⟩ = some (.int .i64 e.client) ∧ W.cell? ⟨b, off + 5, none⟩ = some (.int .i64 e.seq) ∧ W.cell? ⟨b, off + 6, none⟩ = some (.slice e.opsA e.ops.length e.opsC) ∧ W.cell? ⟨b, off + 7, none⟩ = some (.string e.key) ∧ W.cell? ⟨b, off + 8, none⟩ = some (.int .i64 e.upto) ∧ W.cell? ⟨b, off + 9, none⟩ = some (.int .i64 e.part) ∧ W.cell? ⟨b, off + 10, none⟩ = some (.int .i64 e.parts) ∧ W.cell? ⟨b, off + 11, none⟩ = some (.slice e.dataA e.dataL e.dataC) :=
  ⟨h 0 _ rfl, h 1 _ rfl, h 2 _ rfl, h 3 _ rfl, h 4 _ rfl, h 5 _ rfl, h 6 _ rfl, h 7 _ rfl, h 8 _ rfl, h 9 _ rfl, h 10 _ rfl, h 11 _ rfl⟩
def En.long (e : En) : Bool := decide (20 < e.ops.length) || e.ops.any OpR.long
theorem take_any_en (xs : List En) (k : Nat) (h : k < xs.length) : (xs.take (k + 1)).any En.long = ((xs.take k).any En.long || (enAt xs k).long) := by
  rw [List.take_succ_eq_append_getElem h, enAt_eq xs k h, List.any_append]; simp
theorem any_of_en (xs : List En) (k : Nat) (h : k < xs.length) (hl : (enAt xs k).long = true) : xs.any En.long = true := by
  rw [enAt_eq xs k h] at hl
  exact List.any_eq_true.2 ⟨xs[k], List.getElem_mem h, hl⟩
/-- A state to be made: a span, Writes. -/
structure Md where
  lo : ByteArray
  hi : ByteArray
  es : List En
  a : Option Addr
  cap : Nat
instance : Inhabited Md := ⟨⟨⟨#[]⟩, ⟨#[]⟩, [], none, 0⟩⟩
def Md.vals (m : Md) : List Value := [.string m.lo, .string m.hi, .slice m.a m.es.length m.cap]
def Md.agg (m : Md) : Value := .agg m.vals.toArray
def Md.long (m : Md) : Bool := decide (30 < m.es.length) || decide (300 < m.lo.size) || decide (300 < m.hi.size) || m.es.any En.long
/-- What can be said of an entry's sizes; of a Made's. -/
def EnFits (e : En) : Prop := e.ops.length ≤ 9223372036854775807 ∧ ∀ j, j < e.ops.length → (opRAt e.ops j).key.size ≤ 9223372036854775807 ∧ (opRAt e.ops j).val.size ≤ 9223372036854775807 ∧ (opRAt e.ops j).old.size ≤ 9223372036854775807
structure MdFits (m : Md) : Prop where
  lo : m.lo.size ≤ 9223372036854775807
  hi : m.hi.size ≤ 9223372036854775807
  es : m.es.length ≤ 9223372036854775807
  each : ∀ j, j < m.es.length → EnFits (enAt m.es j)
/-- What a Made that is not long is. -/
structure MdSh (m : Md) : Prop where
  lo : m.lo.size ≤ 300
  hi : m.hi.size ≤ 300
  es : m.es.length ≤ 30
  each : ∀ j, j < m.es.length → (enAt m.es j).ops.length ≤ 20 ∧ ∀ o ∈ (enAt m.es j).ops, o.key.size ≤ 300 ∧ o.val.size ≤ 300 ∧ o.old.size ≤ 300
theorem long37_short {m : Md} (h : m.long = false) : MdSh m := by
  unfold Md.long at h
  simp only [Bool.or_eq_false_iff, decide_eq_false_iff_not] at h
  obtain ⟨⟨⟨h1, h2⟩, h3⟩, h4⟩ := h
  refine ⟨by omega, by omega, by omega, fun j hj => ?_⟩
  have := List.any_eq_false.1 h4 _ (List.getElem_mem hj)
  rw [← enAt_eq m.es j hj] at this
  unfold En.long at this
  simp only [Bool.or_eq_true, decide_eq_true_eq, not_or] at this
  obtain ⟨h5, h6⟩ := this
  refine ⟨by omega, fun o ho => ?_⟩
  have h7 := List.any_eq_false.1 (by simpa using h6 : (enAt m.es j).ops.any OpR.long = false) o ho
  unfold OpR.long at h7
  simp only [Bool.or_eq_true, decide_eq_true_eq, not_or] at h7
  omega
set_option maxRecDepth 100000 in
set_option maxHeartbeats 4000000 in
theorem long37_any (m : Md) (w : World) (hA : EnsAt w m.a m.es) (hf : MdFits m) :
    Calls Tryz.prog 25 #[m.agg] w fun e w' => e = .returned (.bool m.long) ∧ Grew w w' := by
  obtain ⟨lo, hi, xs, a, cap⟩ := m
  obtain ⟨hl, hh, hx, hk⟩ := hf
  have HE0 : Hid (Md.long ⟨lo, hi, xs, a, cap⟩ = (decide (30 < xs.length) || decide (300 < lo.size) || decide (300 < hi.size) || xs.any En.long)) := rfl
  generalize Md.long ⟨lo, hi, xs, a, cap⟩ = bl at *
  unfold Md.agg Md.vals
  dsimp only at *
  have HA := hid hA
  have HK := hid hk
  have HG0 : Hid (Grew w (w.alloc (.cells #[.string lo, .string hi, .slice a xs.length cap] 72))) := (Grew.refl w).alloc _
  clear hA hk
  by_cases h30 : (30 : Int) < (xs.length : Int)
  · obtain rfl : bl = true := by rw [HE0.out, decide_eq_true (by omega)]; rfl
    go_enter Tryz.func25, Tryz.ntmps25
    go_wp2_with fail
    go_ret
    exact ⟨rfl, HG0.out⟩
  by_cases h31 : (300 : Int) < (lo.size : Int)
  · obtain rfl : bl = true := by rw [HE0.out, decide_eq_true (show 300 < lo.size by omega)]; simp
    go_enter Tryz.func25, Tryz.ntmps25
    go_wp2_with fail
    go_ret
    exact ⟨rfl, HG0.out⟩
  by_cases h32 : (300 : Int) < (hi.size : Int)
  · obtain rfl : bl = true := by rw [HE0.out, decide_eq_true (show 300 < hi.size by omega)]; simp
    go_enter Tryz.func25, Tryz.ntmps25
    go_wp2_with fail
    go_ret
    exact ⟨rfl, HG0.out⟩
  have HE : Hid (bl = xs.any En.long) := by
    unfold Hid
    rw [HE0.out, decide_eq_false (by omega), decide_eq_false (by omega), decide_eq_false (by omega)]; rfl
  have h1 : (xs.length : Int) ≤ 30 := by omega
  clear HE0 hl hh hx
  go_enter Tryz.func25, Tryz.ntmps25
  go_wp2_with fail
  go_loopw [28] (fun i wr => ∃ k : Nat, k ≤ xs.length ∧ i = .int .i64 k ∧ (xs.take k).any En.long = false ∧ Grew w wr) (fun i _ => xs.length - (intOf i).toNat)
  case atStart => exact ⟨0, Nat.zero_le _, rfl, rfl, HG0.out⟩
  case round =>
    obtain ⟨k, hk1, rfl, hno, hG⟩ := hrel
    obtain ⟨wo, rfl⟩ : ∃ wo : World, wo = wr := ⟨_, rfl⟩
    by_cases hlt : k < xs.length
    · rcases HA.out.row with h0 | ⟨b, off, rfl, hb, hR⟩
      · rw [h0] at hlt; simp at hlt
      obtain ⟨q0, q1, q2, q3, q4, q5, q6, q7, q8, q9, q10, q11⟩ := en_cells (W := wo) (b := b) (off := off + k * 12) (e := enAt xs k) (fun i v hv => (hG.cells.1 _ _ hb).trans (hR k hlt i v hv))
      have HOPS := hid (HA.out.ops k hlt)
      have HN := hid (take_any_en xs k hlt)
      have HY := hid (any_of_en xs k hlt)
      have HNO := hid hno
      obtain ⟨cl, co⟩ := HK.out k hlt
      have HCO := hid co
      clear hR hno co
      generalize enAt xs k = A at *
      obtain ⟨kind, shard, other, server, client, seq, key, upto, part, parts, ops, opsA, opsC, dataA, dataL, dataC⟩ := A
      dsimp only at *
      by_cases l1 : (20 : Int) < (ops.length : Int)
      · have HL : Hid (En.long ⟨kind, shard, other, server, client, seq, key, upto, part, parts, ops, opsA, opsC, dataA, dataL, dataC⟩ = true) := by
          unfold Hid En.long; rw [decide_eq_true (by dsimp only; omega)]; rfl
        go_wp2_with fail
        go_ret
        exact ⟨ret_bool (by rw [HE.out, HY.out HL.out]), hG.alloc _⟩
      have HL0 : Hid (En.long ⟨kind, shard, other, server, client, seq, key, upto, part, parts, ops, opsA, opsC, dataA, dataL, dataC⟩ = ops.any OpR.long) := by
        unfold Hid En.long
        rw [decide_eq_false (by dsimp only; omega)]
        rfl
      go_wp2_with fail
      have HG2 := hid (hG.alloc (Obj.cells #[.int .i64 kind, .int .i64 shard, .int .i64 other, .int .i64 server, .int .i64 client, .int .i64 seq, .slice opsA ops.length opsC, .string key, .int .i64 upto, .int .i64 part, .int .i64 parts, .slice dataA dataL dataC] 52))
      clear q0 q1 q2 q3 q4 q5 q6 q7 q8 q9 q10 q11
      have hG2 := HG2.out
      clear HG2
      generalize World.alloc wo _ = w2 at hG2 ⊢
      clear hG
      go_loopw [39] (fun i wr => ∃ m : Nat, m ≤ ops.length ∧ i = .int .i64 m ∧ (ops.take m).any OpR.long = false ∧ Grew w wr) (fun i _ => ops.length - (intOf i).toNat)
      case atStart => exact ⟨0, Nat.zero_le _, rfl, rfl, hG2⟩
      case round =>
        obtain ⟨m, hm1, rfl, hmo, hGm⟩ := hrel
        by_cases hml : m < ops.length
        · rcases HOPS.out with h0 | ⟨ob, ooff, rfl, hob, hOR⟩
          · rw [h0] at hml; simp at hml
          have p0 := (hGm.cells.1 ob (ooff + m * 5) hob).trans (hOR.kind m hml)
          have p1 := (hGm.cells.1 ob (ooff + m * 5 + 1) hob).trans (hOR.key m hml)
          have p2 := (hGm.cells.1 ob (ooff + m * 5 + 2) hob).trans (hOR.val m hml)
          have p3 := (hGm.cells.1 ob (ooff + m * 5 + 3) hob).trans (hOR.old m hml)
          have p4 := (hGm.cells.1 ob (ooff + m * 5 + 4) hob).trans (hOR.ver m hml)
          have HMN := hid (take_any_op ops m hml)
          have HMY := hid (any_of_op ops m hml)
          have HMO := hid hmo
          obtain ⟨b1, b2, b3⟩ := HCO.out m hml
          clear hOR hmo
          generalize opRAt ops m = O at *
          obtain ⟨okind, okey, oval, oold, over⟩ := O
          dsimp only at *
          by_cases o1 : (300 : Int) < (okey.size : Int)
          · have HL : Hid (OpR.long ⟨okind, okey, oval, oold, over⟩ = true) := by
              unfold Hid OpR.long; simp only [Bool.or_eq_true, decide_eq_true_eq]; omega
            go_wp2_with fail
            go_ret
            exact ⟨ret_bool (by rw [HE.out, HY.out (HL0.out.trans (HMY.out HL.out))]), hGm.alloc _⟩
          by_cases o2 : (300 : Int) < (oval.size : Int)
          · have HL : Hid (OpR.long ⟨okind, okey, oval, oold, over⟩ = true) := by
              unfold Hid OpR.long; simp only [Bool.or_eq_true, decide_eq_true_eq]; omega
            go_wp2_with fail
            go_ret
            exact ⟨ret_bool (by rw [HE.out, HY.out (HL0.out.trans (HMY.out HL.out))]), hGm.alloc _⟩
          by_cases o3 : (300 : Int) < (oold.size : Int)
          · have HL : Hid (OpR.long ⟨okind, okey, oval, oold, over⟩ = true) := by
              unfold Hid OpR.long; simp only [Bool.or_eq_true, decide_eq_true_eq]; omega
            go_wp2_with fail
            go_ret
            exact ⟨ret_bool (by rw [HE.out, HY.out (HL0.out.trans (HMY.out HL.out))]), hGm.alloc _⟩
          have HL : Hid (OpR.long ⟨okind, okey, oval, oold, over⟩ = false) := by
            unfold Hid OpR.long; simp only [Bool.or_eq_false_iff, decide_eq_false_iff_not]; omega
          go_wp2_with fail
          go_roundw
          case rel => exact ⟨m + 1, by omega, by go_num, by rw [HMN.out, HMO.out, HL.out]; rfl, hGm.alloc _⟩
          case measure => simp [intOf]; omega
        · obtain rfl : m = ops.length := by omega
          rw [List.take_length] at hmo
          have HMO := hid hmo
          clear hmo
          go_wp2_with fail
          go_roundw
          case rel => exact ⟨k + 1, by omega, by go_num, by rw [HN.out, HNO.out, HL0.out, HMO.out]; rfl, hGm⟩
          case measure => simp [intOf]; omega
    · obtain rfl : k = xs.length := by omega
      rw [List.take_length] at hno
      have HNO := hid hno
      clear hno
      go_wp2_with fail
      go_ret
      exact ⟨ret_bool (by rw [HE.out, HNO.out]), hG⟩
end Go.Proofs.YtifcnammekbfoaaGreatDoor

/- The walk of dedup.Read, where the bytes are a Seen's. -/
set_option linter.unusedVariables false
set_option linter.unusedSectionVars false
set_option linter.unusedSimpArgs false
namespace Go.Proofs.YtifcnammekbfoaaGreatDoor
open Go.RowKit Go.Maps Go.Sort
attribute [local go_sem] Oper.semAt_some uponV

/-- What a row of clients has been answered. -/
def seenL (xs : List (Int × An)) : Int → Option An := fun c => (xs.find? fun x => decide (x.1 = c)).map Prod.snd
instance : Inhabited (Int × An) := ⟨(0, ⟨0, 0, 0⟩)⟩
def clAt (xs : List (Int × An)) (k : Nat) : Int × An := xs[k]?.getD default
theorem clAt_eq (xs : List (Int × An)) (k : Nat) (h : k < xs.length) : clAt xs k = xs[k] := by unfold clAt; rw [List.getElem?_eq_getElem h]; rfl
/-- A row of clients that rises. -/
structure ClRow (xs : List (Int × An)) : Prop where
  rise : (xs.map (·.1)).Pairwise fun a b => a < b
  ok : ∀ x ∈ xs, 1 ≤ x.1 ∧ x.1 ≤ 4 ∧ x.2.Ok
theorem clRow_of {S : Int → Option An} (h : ∀ c a, S c = some a → 1 ≤ c ∧ c ≤ 4 ∧ a.Ok) : ClRow (clients S) :=
  ⟨clients_rise S, fun x hx => h _ _ (mem_clients.1 hx).2⟩
theorem clRow_at {xs : List (Int × An)} (h : ClRow xs) (k : Nat) (hk : k < xs.length) : 1 ≤ (clAt xs k).1 ∧ (clAt xs k).1 ≤ 4 ∧ (clAt xs k).2.Ok := by
  rw [clAt_eq xs k hk]; exact h.ok _ (List.getElem_mem hk)
theorem clRow_lt {xs : List (Int × An)} (h : ClRow xs) (j k : Nat) (hj : j < k) (hk : k < xs.length) : (clAt xs j).1 < (clAt xs k).1 := by
  rw [clAt_eq xs j (by omega), clAt_eq xs k hk]
  have := List.pairwise_iff_getElem.1 h.rise j k (by simp; omega) (by simpa using hk) hj
  simpa using this
theorem clRow_len {xs : List (Int × An)} (h : ClRow xs) : xs.length ≤ 4 := by
  refine Classical.byContradiction fun hn => ?_
  have l1 := clRow_lt h 0 1 (by omega) (by omega)
  have l2 := clRow_lt h 1 2 (by omega) (by omega)
  have l3 := clRow_lt h 2 3 (by omega) (by omega)
  have l4 := clRow_lt h 3 4 (by omega) (by omega)
  have a := (clRow_at h 0 (by omega)).1
  have b := (clRow_at h 4 (by omega)).2.1
  omega
theorem seenL_none {xs : List (Int × An)} (h : ClRow xs) (k : Nat) (hk : k < xs.length) : seenL (xs.take k) (clAt xs k).1 = none := by
  unfold seenL
  rw [Option.map_eq_none_iff, List.find?_eq_none]
  intro x hx
  obtain ⟨j, hj, rfl⟩ := List.getElem_of_mem hx
  rw [List.length_take] at hj
  rw [List.getElem_take]
  have := clRow_lt h j k (by omega) hk
  rw [clAt_eq xs j (by omega)] at this
  simp; omega
theorem seenL_snoc {xs : List (Int × An)} (h : ClRow xs) (k : Nat) (hk : k < xs.length) : seenL (xs.take (k + 1)) = noteS (seenL (xs.take k)) (clAt xs k).1 (clAt xs k).2 := by
  have hn := seenL_none h k hk
  funext c
  unfold noteS
  by_cases e : c = (clAt xs k).1
  · subst e
    rw [if_pos rfl]
    unfold seenL at hn ⊢
    rw [Option.map_eq_none_iff] at hn
    rw [List.take_succ_eq_append_getElem hk, List.find?_append, hn, ← clAt_eq xs k hk]
    simp
  · rw [if_neg e]
    unfold seenL
    rw [List.take_succ_eq_append_getElem hk, List.find?_append, ← clAt_eq xs k hk]
    have : ([clAt xs k].find? fun x => decide (x.1 = c)) = none := by
      rw [List.find?_eq_none]
      intro x hx
      rw [List.mem_singleton] at hx
      subst hx
      simp only [decide_eq_true_eq]
      exact fun q => e q.symm
    rw [this, Option.or_none]
theorem seenL_clients {S : Int → Option An} (h : ∀ c a, S c = some a → 1 ≤ c ∧ c ≤ 4 ∧ a.Ok) : seenL (clients S) = S := by
  funext c
  unfold seenL
  cases hS : S c with
  | none =>
    rw [Option.map_eq_none_iff, List.find?_eq_none]
    intro x hx
    have := (mem_clients.1 hx).2
    simp only [decide_eq_true_eq]
    intro e
    rw [e, hS] at this; cases this
  | some a =>
    have hc := h c a hS
    have hm : (c, a) ∈ clients S := mem_clients.2 ⟨by dsimp only; omega, hS⟩
    cases hf : (clients S).find? fun x => decide (x.1 = c) with
    | none =>
      rw [List.find?_eq_none] at hf
      have := hf _ hm
      simp at this
    | some y =>
      have h1 := List.mem_of_find?_eq_some hf
      have h2 := List.find?_some hf
      have h3 := (mem_clients.1 h1).2
      simp only [decide_eq_true_eq] at h2
      rw [h2, hS] at h3
      show some y.2 = some a
      exact h3.symm
def befL (xs : List (Int × An)) (k : Nat) : Int := if k = 0 then 0 else (clAt xs (k - 1)).1
theorem befL_lt {xs : List (Int × An)} (h : ClRow xs) (k : Nat) (hk : k < xs.length) : befL xs k < (clAt xs k).1 := by
  unfold befL
  split
  · have := (clRow_at h k hk).1; omega
  · exact clRow_lt h (k - 1) k (by omega) hk
theorem clsB_drop (xs : List (Int × An)) (k : Nat) (hk : k < xs.length) : clsB (xs.drop k) = clB (clAt xs k) ++ clsB (xs.drop (k + 1)) := by
  rw [List.drop_eq_getElem_cons hk, clAt_eq xs k hk]; rfl
theorem clsB_len : ∀ (xs : List (Int × An)), (∀ x ∈ xs, 1 ≤ x.1 ∧ x.1 ≤ 4 ∧ x.2.Ok) → (clsB xs).length ≤ xs.length * 20 := by
  intro xs
  induction xs with
  | nil => intro _; simp [clsB]
  | cons x xs ih =>
    intro hm
    have e : clsB (x :: xs) = clB x ++ clsB xs := rfl
    obtain ⟨q1, q2, q3⟩ := hm x (by simp)
    have a1 := Pl.numB_len 4 x.1.toNat (by omega)
    have a2 := Pl.numB_len 4 x.2.seq.toNat (by have := q3.s1; have := q3.s2; omega)
    have a3 := Pl.numB_len 4 x.2.code.toNat (by have := q3.c1; omega)
    have a4 := Pl.numB_len 4 x.2.at_.toNat (by have := q3.a1; have := q3.a2; omega)
    have := ih fun y hy => hm y (by simp [hy])
    rw [e, List.length_append]
    unfold clB
    simp only [List.length_append, List.length_cons]
    omega

/-- What a round of Read holds: k clients are read. -/
structure RdD (w wr : World) (ib nb sb : Nat) (xs : List (Int × An)) (k : Nat) : Prop where
  grew : Grew w wr
  inp : InAt wr ib nb (clsB (xs.drop k))
  seen : ∃ F, SeenAt wr F sb k (seenL (xs.take k)) ∧ ¬ F ib ∧ ¬ F nb ∧ ∀ j, F j → w.heap.size ≤ j
  new : w.heap.size ≤ ib
theorem RdD.more {w wr x : World} {ib nb sb : Nat} {xs : List (Int × An)} {k : Nat} (h : RdD w wr ib nb sb xs k) (g : Grew wr x) : RdD w x ib nb sb xs k := by
  obtain ⟨F, h1, h2⟩ := h.seen
  exact ⟨h.grew.trans g, h.inp.grew g, ⟨F, h1.grew g, h2⟩, h.new⟩
set_option maxRecDepth 100000 in
set_option maxHeartbeats 8000000 in
theorem readD_any {w : World} {a : Option Addr} {cap : Nat} {xs : List (Int × An)} (hA : BytesAt w a (Pl.numB xs.length ++ clsB xs)) (hf : SlForm a cap) (hr : ClRow xs) :
    Calls Tryz.prog 95 #[.slice a (Pl.numB xs.length ++ clsB xs).length cap] w fun e w' => ∃ sb F, e = .returned (.tuple #[.pointer (some ⟨sb, 0, none⟩), .nilIface]) ∧ SeenAt w' F sb xs.length (seenL xs) ∧ (∀ j, F j → w.heap.size ≤ j) ∧ Grew w w' := by
  have hl4 := clRow_len hr
  have hps := clsB_len xs hr.ok
  have hnp := Pl.numB_pos xs.length
  have hn1 := Pl.numB_len 0 xs.length (by omega)
  have HIR := hid (inRead_any w a _ cap (Pl.numB xs.length ++ clsB xs) rfl hA hf (by rw [List.length_append]; omega) (by rw [List.length_append]; omega))
  have HPL := hid hps
  obtain ⟨n, hn⟩ : ∃ n, n = xs.length := ⟨_, rfl⟩
  have HN := hid hn
  have hn2 : n ≤ 4 := by omega
  have HROW := hid hr
  rw [← hn] at HIR ⊢
  generalize hz : (Pl.numB n ++ clsB xs).length = z at *
  clear hps hnp hn1 hn hA hf hr hl4 hz
  go_enter Tryz.func95, Tryz.ntmps95
  go_wp2_with fail
  refine HIR.out.mono ?_
  rintro e w1 ⟨ib, nb, rfl, hib, hnb, hI, hg1⟩
  have HI := hid hI
  have HG1 := hid hg1
  have HIB := hid hib
  clear hI hg1 hib hnb HIR
  go_wp2_with fail
  refine (newD_any w1).mono ?_
  rintro e w2 ⟨sb, F0, rfl, hS2, hF0, hg2⟩
  have HI2 := hid (HI.out.grew hg2)
  have HS2 := hid hS2
  have HF0 := hid hF0
  have HL2 := hid HI.out.lt
  have HG2 := hid (HG1.out.trans hg2)
  have HZ := hid HG1.out.size
  clear hg2 hS2 hF0
  go_wp2_with fail
  refine (inNum_any n 4 (by omega) (by omega) HI2.out (by have := HPL.out; have := HN.out; omega)).mono ?_
  rintro e w3 ⟨rfl, hO3, hI3⟩
  have HR0 : Hid (RdD w w3 ib nb sb xs 0) := by
    have hlt := HL2.out
    refine ⟨((HG2.out.only _).then hO3).grew (fun j (hj : j = ib) => by rw [hj]; exact HIB.out), by simpa using hI3, ⟨F0, HS2.out.kept hO3 (fun j hj (h2 : j = ib) => by have := HF0.out j hj; omega), (fun h => by have := HF0.out _ h; omega), (fun h => by have := HF0.out _ h; omega), fun j hj => by have := HF0.out j hj; have := HZ.out; omega⟩, HIB.out⟩
  clear hO3 hI3 HI2 HS2 HF0 HL2 HG2 HZ HI HG1
  have hb0 : befL xs 0 = 0 := rfl
  go_wp2_with fail
  go_loopw [6, 7, 8] (fun bf ok i wr => ∃ k : Nat, ok = .bool true ∧ k ≤ n ∧ i = .int .i64 ((n - k : Nat) : Int) ∧ bf = .int .i64 (befL xs k) ∧ Hid (RdD w wr ib nb sb xs k)) (fun _ _ i _ => (intOf i).toNat)
  case atStart => exact ⟨0, rfl, by omega, rfl, rfl, HR0⟩
  case round =>
    obtain ⟨k, rfl, hk, rfl, rfl, HR⟩ := hrel
    by_cases hlt : k < n
    · have hlt' : k < xs.length := by rw [← HN.out]; exact hlt
      obtain ⟨r1, r2, r3⟩ := clRow_at HROW.out k hlt'
      have hbf := befL_lt HROW.out k hlt'
      have hin := HR.out.inp
      rw [clsB_drop xs k hlt'] at hin
      unfold clB at hin
      have HSN := hid (seenL_snoc HROW.out k hlt')
      have HNO := hid (seenL_none HROW.out k hlt')
      have HBF : Hid (befL xs (k + 1) = (clAt xs k).1) := by unfold Hid befL; rw [if_neg (by omega), Nat.add_sub_cancel]
      have hrl : (clsB (xs.drop (k + 1))).length ≤ 100 := by
        have h1 := HPL.out
        have h2 := congrArg List.length (show clsB (xs.take (k + 1)) ++ clsB (xs.drop (k + 1)) = clsB xs by unfold clsB; rw [← List.flatMap_append, List.take_append_drop])
        rw [List.length_append] at h2
        have := HN.out
        omega
      generalize clAt xs k = x at *
      obtain ⟨xc, xq, xk, xt⟩ := x
      dsimp only at *
      obtain ⟨s1, s2, c1, t1, t2⟩ := r3
      dsimp only at s1 s2 c1 t1 t2
      obtain ⟨vc, rfl⟩ : ∃ v : Nat, xc = v := ⟨xc.toNat, by omega⟩
      obtain ⟨vq, rfl⟩ : ∃ v : Nat, xq = v := ⟨xq.toNat, by omega⟩
      obtain ⟨vk, rfl⟩ : ∃ v : Nat, xk = v := ⟨xk.toNat, by omega⟩
      obtain ⟨vt, rfl⟩ : ∃ v : Nat, xt = v := ⟨xt.toNat, by omega⟩
      simp only [Int.toNat_natCast] at hin
      obtain ⟨rest, hrest⟩ : ∃ rest, rest = clsB (xs.drop (k + 1)) := ⟨_, rfl⟩
      rw [← hrest] at hin hrl
      have HREST := hid hrest
      have HIN : Hid (InAt wr ib nb (Pl.numB vc ++ (Pl.numB vq ++ (Pl.numB vk ++ (Pl.numB vt ++ rest))))) := by unfold Hid; simpa [List.append_assoc] using hin
      have HOK := hid (show (1 : Int) ≤ vc ∧ (vc : Int) ≤ 4 ∧ An.Ok ⟨vq, vk, vt⟩ from ⟨r1, r2, ⟨s1, s2, c1, t1, t2⟩⟩)
      have l2 := Pl.numB_len 4 vq (by omega)
      have l3 := Pl.numB_len 4 vk (by omega)
      have l4 := Pl.numB_len 4 vt (by omega)
      have hpos : (0 : Int) < ((n - k : Nat) : Int) := by omega
      have hcast : ((n - k : Nat) : Int) = (n : Int) - (k : Int) := by omega
      have hpos' : (0 : Int) < (n : Int) - (k : Int) := by omega
      have HBN := hid (show vc < 4611686018427387904 ∧ vq < 4611686018427387904 ∧ vk < 4611686018427387904 ∧ vt < 4611686018427387904 ∧ (vc : Int) ≤ 4 ∧ (vq : Int) ≤ 1073741824 ∧ (vk : Int) ≤ 2 ∧ (vt : Int) ≤ 4095 from ⟨by omega, by omega, by omega, by omega, by omega, by omega, by omega, by omega⟩)
      have HLN := hid (show (Pl.numB vq).length ≤ 5 ∧ (Pl.numB vk).length ≤ 5 ∧ (Pl.numB vt).length ≤ 5 ∧ rest.length ≤ 100 from ⟨l2, l3, l4, hrl⟩)
      clear hin hrest r1 r2 s1 s2 c1 t1 t2 l2 l3 l4 hrl hlt'
      go_wp2_with fail
      refine (inNum_any vc 4 HBN.out.1 HBN.out.2.2.2.2.1 HIN.out (by have := HLN.out; simp only [List.length_append]; omega)).mono ?_
      rintro e w4 ⟨rfl, hO4, hI4⟩
      have HI4 := hid hI4
      have HO4 := hid hO4
      clear hI4 hO4
      go_wp2_with fail
      refine (inNum_any vq 1073741824 HBN.out.2.1 HBN.out.2.2.2.2.2.1 HI4.out (by have := HLN.out; simp only [List.length_append]; omega)).mono ?_
      rintro e w5 ⟨rfl, hO5, hI5⟩
      have HI5 := hid hI5
      have HO5 := hid (HO4.out.then hO5)
      clear hI5 hO5
      go_wp2_with fail
      refine (inNum_any vk 2 HBN.out.2.2.1 HBN.out.2.2.2.2.2.2.1 HI5.out (by have := HLN.out; simp only [List.length_append]; omega)).mono ?_
      rintro e w6 ⟨rfl, hO6, hI6⟩
      have HI6 := hid hI6
      have HO6 := hid (HO5.out.then hO6)
      clear hI6 hO6
      go_wp2_with fail
      refine (inNum_any vt 4095 HBN.out.2.2.2.1 HBN.out.2.2.2.2.2.2.2 HI6.out (by have := HLN.out; omega)).mono ?_
      rintro e w7 ⟨rfl, hO7, hI7⟩
      have HI7 := hid hI7
      have HO7 := hid (HO6.out.then hO7)
      clear hI7 hO7
      obtain ⟨F, hT, hF1, hF2, hF3⟩ := HR.out.seen
      have hT7 := hT.kept HO7.out (fun j hj (e : j = ib) => hF1 (by rw [← e]; exact hj))
      have HT7 := hid hT7
      have HF := hid (And.intro hF1 (And.intro hF2 hF3))
      have HG7 := hid (show Grew w w7 from ((HR.out.grew.only _).then HO7.out).grew (fun j (hj : j = ib) => by rw [hj]; exact HIB.out))
      clear hT hT7 hF1 hF2 hF3
      go_upto_region 9 with fail
      obtain ⟨X, hX⟩ : ∃ X, X = w7.alloc (.cells #[.int .i64 vk, .int .i64 vt] 57) := ⟨_, rfl⟩
      have gX : Grew w7 X := by rw [hX]; exact (Grew.refl w7).alloc _
      have x0 : X.cell? ⟨w7.heap.size, 0, none⟩ = some (.int .i64 vk) := by rw [hX]; simp [go_sem]
      have x1 : X.cell? ⟨w7.heap.size, 1, none⟩ = some (.int .i64 vt) := by rw [hX]; simp [go_sem]
      have hxs : w7.heap.size < X.heap.size := by rw [hX]; simp
      have HGX := hid (HG7.out.trans gX)
      have HNT := hid (note_fresh (HT7.out.grew gX) (vc : Int) ⟨vq, vk, vt⟩ HOK.out.1 HOK.out.2.1 HOK.out.2.2 (by omega) (by rw [HNO.out]; rfl))
      rw [← HSN.out] at HNT
      have HRND := hid (fun (x' : World) (hT : SeenTurn X F sb (k + 1) (seenL (xs.take (k + 1))) x') => show RdD w x' ib nb sb xs (k + 1) from by
        obtain ⟨hO, h1⟩ := hT
        have hlt := (HI7.out.grew gX).lt
        refine ⟨((HGX.out.only F).then hO).grew HF.out.2.2, ?_, ⟨F, h1, HF.out⟩, HR.out.new⟩
        rw [← HREST.out]; exact (HI7.out.grew gX).kept hO HF.out.1 HF.out.2.1)
      rw [← hX]
      have hnb : ¬ (vc : Int) ≤ befL xs k := by omega
      have HKN := hid (And.intro hk (And.intro hlt hcast))
      have hk9 : k < 1000000 := by omega
      unfold ansAgg at HNT
      dsimp only at HNT
      generalize befL xs k = bb at *
      clear hX gX HT7 HI7 hbf hcast hpos hpos' HG7 HO7 HO6 HO5 HO4 HI6 HI5 HI4 HIN HLN HBN HOK HSN HNO HR
      go_wp2_with fail
      refine HNT.out.mono ?_
      rintro e w8 ⟨rfl, hT⟩
      have HRN := hid (HRND.out w8 hT)
      clear hT x0 x1 hxs HNT HRND
      go_wp2_with fail
      go_roundw
      case rel =>
        obtain ⟨k1, k2, k3⟩ := HKN.out
        exact ⟨k + 1, rfl, by omega, by go_num, by rw [HBF.out], HRN⟩
      case measure =>
        obtain ⟨k1, k2, k3⟩ := HKN.out
        simp [intOf]; omega
    · have hkn : k = n := by omega
      subst hkn
      have hdr : clsB (xs.drop k) = [] := by rw [HN.out, List.drop_length]; rfl
      have HRi := hid HR.out.inp
      rw [hdr] at HRi
      have HEND : Hid (∃ F, SeenAt wr F sb k (seenL xs) ∧ (∀ j, F j → w.heap.size ≤ j) ∧ Grew w wr) := by
        obtain ⟨F, h1, _, _, h4⟩ := HR.out.seen
        have h2 := h1
        rw [HN.out, List.take_length, ← HN.out] at h2
        exact ⟨F, h2, h4, HR.out.grew⟩
      have hz : ((k - k : Nat) : Int) = 0 := by omega
      clear hdr
      go_wp2_with fail
      refine (inEnd_any HRi.out).mono ?_
      rintro e w4 ⟨rfl, rfl⟩
      go_wp2_with fail
      go_ret2
      obtain ⟨F, h1, h2, h3⟩ := HEND.out
      exact ⟨sb, F, rfl, h1, h2, h3⟩
end Go.Proofs.YtifcnammekbfoaaGreatDoor

/- Rows of clients (delta.Client, tidewaterref37.Client) and of texts; append of one. -/
set_option linter.unusedVariables false
set_option linter.unusedSectionVars false
set_option linter.unusedSimpArgs false
namespace Go.Proofs.YtifcnammekbfoaaGreatDoor
open Go.RowKit Go.Maps
attribute [local go_sem] Oper.semAt_some

def clVals (x : Int × An) : List Value := [.int .i64 x.1, .int .i64 x.2.seq, .int .i64 x.2.code, .int .i64 x.2.at_]
def clFlat (xs : List (Int × An)) : List Value := xs.flatMap clVals
theorem clFlat_length (xs : List (Int × An)) : (clFlat xs).length = xs.length * 4 := by
  induction xs with
  | nil => rfl
  | cons x xs ih => rw [show clFlat (x :: xs) = clVals x ++ clFlat xs from rfl, List.length_append, ih]; simp only [clVals, List.length_cons, List.length_nil]; omega
theorem clFlat_get (k : Nat) (hk : k < 4) : ∀ (xs : List (Int × An)) (j : Nat), j < xs.length → (clFlat xs)[j * 4 + k]? = (clVals (clAt xs j))[k]? := by
  intro xs
  induction xs with
  | nil => intro j hj; simp at hj
  | cons x xs ih =>
    intro j hj
    have e : clFlat (x :: xs) = clVals x ++ clFlat xs := rfl
    have l : (clVals x).length = 4 := rfl
    cases j with
    | zero => rw [e, List.getElem?_append_left (by omega), Nat.zero_mul, Nat.zero_add]; rfl
    | succ j =>
      rw [e, List.getElem?_append_right (by omega), l, show (j + 1) * 4 + k - 4 = j * 4 + k by omega, ih j (by simpa using hj)]
      rfl
/-- A slice of clients: empty, or a row. -/
structure ClsR (W : World) (b off : Nat) (xs : List (Int × An)) : Prop where
  id : ∀ j, j < xs.length → W.cell? ⟨b, off + j * 4, none⟩ = some (.int .i64 (clAt xs j).1)
  seq : ∀ j, j < xs.length → W.cell? ⟨b, off + j * 4 + 1, none⟩ = some (.int .i64 (clAt xs j).2.seq)
  code : ∀ j, j < xs.length → W.cell? ⟨b, off + j * 4 + 2, none⟩ = some (.int .i64 (clAt xs j).2.code)
  at_ : ∀ j, j < xs.length → W.cell? ⟨b, off + j * 4 + 3, none⟩ = some (.int .i64 (clAt xs j).2.at_)
def ClsAt (W : World) (a : Option Addr) (xs : List (Int × An)) : Prop := xs = [] ∨ ∃ b off, a = some ⟨b, off, none⟩ ∧ b < W.heap.size ∧ ClsR W b off xs
theorem ClsAt.grew {W W' : World} {a : Option Addr} {xs : List (Int × An)} (h : ClsAt W a xs) (g : Grew W W') : ClsAt W' a xs := by
  rcases h with h | ⟨b, off, e, hb, h⟩
  · exact .inl h
  · exact .inr ⟨b, off, e, Nat.lt_of_lt_of_le hb g.size, fun j hj => (g.cells.1 _ _ hb).trans (h.id j hj), fun j hj => (g.cells.1 _ _ hb).trans (h.seq j hj), fun j hj => (g.cells.1 _ _ hb).trans (h.code j hj), fun j hj => (g.cells.1 _ _ hb).trans (h.at_ j hj)⟩
theorem clsAt_of {W : World} {B : Nat} {T : TypeId} {v : Value} {xs : List (Int × An)} (h : W.ownsRow B T 4 v xs.length (clFlat xs)) : ∃ a cap, v = .slice a xs.length cap ∧ ClsAt W a xs := by
  rcases Nat.eq_zero_or_pos xs.length with h0 | h0
  · have hx : xs = [] := List.eq_nil_of_length_eq_zero h0
    rcases h.2 with ⟨rfl, _⟩ | ⟨g, cap, cur, rfl, _, hg, _⟩
    · exact ⟨none, 0, by rw [h0], .inl hx⟩
    · exact ⟨_, _, rfl, .inl hx⟩
  · obtain ⟨g, cap, rfl, _, hlt⟩ := h.form h0
    refine ⟨_, _, rfl, .inr ⟨g, 0, rfl, hlt, ?_, ?_, ?_, ?_⟩⟩ <;> intro j hj
    · have := h.cellAt (j * 4 + 0) (by omega); rw [clFlat_get 0 (by omega) xs j hj] at this; rw [Nat.zero_add]; exact this
    · have := h.cellAt (j * 4 + 1) (by omega); rw [clFlat_get 1 (by omega) xs j hj] at this; rw [Nat.zero_add]; exact this
    · have := h.cellAt (j * 4 + 2) (by omega); rw [clFlat_get 2 (by omega) xs j hj] at this; rw [Nat.zero_add]; exact this
    · have := h.cellAt (j * 4 + 3) (by omega); rw [clFlat_get 3 (by omega) xs j hj] at this; rw [Nat.zero_add]; exact this
theorem info_cl : (Tryz.prog.info? 149).map (fun i => (i.zero, i.size, i.bytes)) = some (some (.agg #[.int .i64 0, .int .i64 0, .int .i64 0, .int .i64 0]), 4, 32) := by kernel_rfl
/-- append(own, client), the client in a block of its own. -/
theorem run_append_cl {w : World} {B : Nat} {v : Value} {m : Nat} {xs : List (Int × An)} (hown : w.ownsRow B 149 4 v m (clFlat xs)) (kb : Nat) (x : Int × An) (hk : ∀ j u, (clVals x)[j]? = some u → w.cell? ⟨kb, j, none⟩ = some u) (hbig : m ≤ 1000000) (hB : B ≤ w.heap.size) (ty : TypeId) :
    ∃ v' w', (Builtin.append_ #[78, 78] ty #[v, .slice (some ⟨kb, 0, none⟩) 1 1]).run Tryz.prog w = .ok v' w' ∧ w'.ownsRow B 149 4 v' (m + 1) (clFlat (xs ++ [x])) ∧ w.grownBy w' v.ownBlock ∧ ∀ g, v'.ownBlock = some g → v.ownBlock = some g ∨ g = w.heap.size := by
  obtain ⟨i0, hi0, hz0, hz1, hz2⟩ := info_parts info_cl
  obtain ⟨g, cap2, w2, h1, h2, h3, h4, h5⟩ := run_append_lies (P := Tryz.prog) (w := w) 78 ty B 149 i0 _ 4 32 Tryz.underlying78 hi0 hz0 hz1 hz2 rfl (by omega) v m (clFlat xs) hown ⟨kb, 0, none⟩ 1 1 (clVals x) rfl (fun j u hj => by
    rw [Addr.add_lit, Nat.zero_add]
    exact hk j u hj) (fun u hu => by simp [clVals] at hu; rcases hu with rfl | rfl | rfl | rfl <;> rfl) (by omega) (by unfold maxLen; omega) (by omega) hB _ rfl
  refine ⟨_, w2, h1, ?_, h3, fun g' hg' => by
    have : g' = g := by simpa [Value.ownBlock] using hg'.symm
    subst this; exact h4⟩
  have e : clFlat (xs ++ [x]) = clFlat xs ++ clVals x := by simp [clFlat]
  rw [e]
  exact h2
end Go.Proofs.YtifcnammekbfoaaGreatDoor
