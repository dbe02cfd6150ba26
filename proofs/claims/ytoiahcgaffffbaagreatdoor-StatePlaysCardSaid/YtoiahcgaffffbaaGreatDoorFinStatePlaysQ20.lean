/- Dd4, PkB, CloneU8: one text. -/
import Derived.Test.YtoiahcgaffffbaaGreatDoorFinStatePlaysQ19
import Derived.RangeFuncNested
import Derived.RangeFuncBound
import Derived.RangeFuncCalls
import Derived.RangeFuncLeaves
import Derived.RangeFuncBox
import Derived.Shelf.Abstract
import Derived.Shelf.AbstractIn
import Derived.Shelf.RegionOpen
import Derived.OwnWalkIn
import Derived.TacticsInMore
import Derived.LoopNIn
import Derived.LoopIn
import Derived.Test.YtoiahcgaffffbaaGreatDoorFinStatePlaysQ1
import Derived.Test.YtoiahcgaffffbaaGreatDoorFinStatePlaysQ10
import Derived.Laws.BytesArg
import Derived.Lib.AppendStr
import Derived.Deep.AppendLies
import Derived.Deep.Upon
import Derived.Lib.AppendZeros
set_option linter.unusedVariables false
set_option linter.unusedSectionVars false
set_option linter.unusedSimpArgs false
namespace Go.Proofs.YtoiahcgaffffbaaGreatDoor
open Go.RowKit Go.Maps Go.Shelf
attribute [local go_sem] Oper.semAt_some
def clients (S : Int → Option An) : List (Int × An) := [1, 2, 3, 4].filterMap fun c => (S c).map fun a => (c, a)
theorem mem_clients {S : Int → Option An} {x : Int × An} : x ∈ clients S ↔ (x.1 = 1 ∨ x.1 = 2 ∨ x.1 = 3 ∨ x.1 = 4) ∧ S x.1 = some x.2 := by
  unfold clients
  rw [List.mem_filterMap]
  obtain ⟨c, a⟩ := x
  constructor
  · rintro ⟨d, hd, he⟩
    rw [Option.map_eq_some_iff] at he
    obtain ⟨b, hb, he⟩ := he
    cases he
    exact ⟨by simpa using hd, hb⟩
  · rintro ⟨h1, h2⟩
    exact ⟨c, by simpa using h1, by dsimp only at h2; rw [h2]; rfl⟩
theorem clients_rise (S : Int → Option An) : ((clients S).map (·.1)).Pairwise fun a b => a < b := by
  unfold clients
  rw [List.pairwise_map]
  refine List.Pairwise.filterMap (R := fun a b : Int => a < b) _ (fun a b hab x hx y hy => ?_) (by decide)
  rw [Option.map_eq_some_iff] at hx hy
  obtain ⟨_, _, rfl⟩ := hx
  obtain ⟨_, _, rfl⟩ := hy
  exact hab
theorem clients_len (S : Int → Option An) : (clients S).length ≤ 4 := by
  unfold clients
  exact Nat.le_trans (List.length_filterMap_le _ _) (by decide)
theorem rise_eq {l l' : List Int} (h : l.Pairwise fun a b => a < b) (h' : l'.Pairwise fun a b => a < b) (hm : ∀ x, x ∈ l ↔ x ∈ l') : l = l' := by
  have nd : l.Nodup := h.imp fun {a b} hab => by omega
  have nd' : l'.Nodup := h'.imp fun {a b} hab => by omega
  exact List.Perm.eq_of_pairwise (le := fun a b : Int => a < b) (fun a b _ _ h1 h2 => by omega) h h' ((List.perm_ext_iff_of_nodup nd nd').2 hm)
abbrev ClK := { x : Int × An // 1 ≤ x.1 ∧ x.1 ≤ 4 ∧ x.2.Ok }
def encCl (x : ClK) : Array Value := #[.int .i64 x.1.1, x.1.2.agg]
theorem clients_list {S : Int → Option An} (hok : ∀ c a, S c = some a → 1 ≤ c ∧ c ≤ 4 ∧ a.Ok) : ∃ xs : List ClK, xs.map Subtype.val = clients S := by
  refine ⟨(clients S).pmap Subtype.mk fun x hx => hok _ _ (mem_clients.1 hx).2, ?_⟩
  rw [List.map_pmap]
  simp
theorem LMap.below {w w' : World} {P : Program} {k : TypeId} {b n n₀ : Nat} {f : Lit → Option Value} (h : LMap w P k b n f) (g : Below n₀ w w') (hb : b < n₀) : LMap w' P k b n f := by
  obtain ⟨D, ⟨es, clock, h1, h2⟩, hf⟩ := h
  exact ⟨D, ⟨es, clock, (g.block b hb).trans h1, h2⟩, hf⟩
set_option maxRecDepth 100000 in
set_option maxHeartbeats 4000000 in
theorem rising_stops (n : Nat) (hn : 7 ≤ n) (Kp : World → World → Prop) (n₀ : Nat) {w : World} {F : Nat → Prop} {Bs sb mb nn : Nat} {f : Lit → Option Value} {S : Int → Option An} (h : SeenIs w F sb mb nn f S) (hnn : nn ≤ 1000000) (hBs : w.cell? ⟨Bs, 0, none⟩ = some (.pointer (some ⟨sb, 0, none⟩))) (h2 : sb < n₀) (h3 : mb < n₀) (hn₀ : n₀ ≤ w.heap.size)
    (hKt : ∀ {A B C : World}, Kp A B → Kp B C → Kp A C) (hKb : ∀ A B, Kp A B → Below n₀ A B)
    (hKc : ∀ W1 W2, Below w.heap.size w W1 → Kp W1 W2 → W2.cell? ⟨Bs, 0, none⟩ = some (.pointer (some ⟨sb, 0, none⟩)))
    (hKr : ∀ W W1 W2, Below w.heap.size w W → Below W.heap.size W W1 → Kp W1 W2 → ∀ (b : Nat) (o : Obj), W.heap.size ≤ b → W1.heap[b]? = some o → o.isCells = true → W2.heap[b]? = some o) :
    SeqStopsK Fence.wide n Tryz.prog 203 #[.pointer (some ⟨Bs, 0, none⟩)] encCl Kp (fun xs => xs.map Subtype.val = clients S) (fun _ => True) 4 w := by
  intro l J Jx W hW hJa hJxa hY h0
  have hG : Grew w W := hW
  have hsn : SeenIs W F sb mb nn f S := h.kept (hG.only fun _ => False) (fun _ _ h => h)
  have hBs' := (hG.cells.1 _ 0 (cell_lt hBs)).trans hBs
  have hc0 := hsn.c0
  have HSN := hid hsn
  have HKY := hid (fun mb W => (callsIn_wide (n := n - 1)).2 ((callsIn_wide (n := 5)).1 (AnyZI.keys_in Tryz.keysCl Fence.wide 5 trivial rfl mb W)))
  change Hid (∀ (mb' : Option Nat) (W : World), CallsIn Fence.wide (n - 1) Tryz.prog 205 #[.map mb'] W fun e w' => e = .returned (.func (.func 219) #[] #[.pointer (some ⟨W.heap.size, 0, none⟩)]) ∧ w' = W.alloc (.cells #[.map mb'] 231)) at HKY
  have gA : Grew W (W.alloc (.cells #[.map (some mb)] 231)) := (Grew.refl W).alloc _
  have HSO := hid ((callsIn_wide (n := n - 1)).2 ((callsIn_wide (n := 5)).1 (sortedCl_any (W.alloc (.cells #[.map (some mb)] 231)) mb nn f (hsn.lm.grew gA) hnn W.heap.size (by simp [go_sem]))))
  have hok := h.ok
  obtain ⟨xs, hxs⟩ := clients_list hok
  have hval := h.val
  have HXS := hid hxs
  have HMEM := hid (fun (ks : List Int) (hr : ks.Pairwise fun a b => a < b) (hm : ∀ c, c ∈ ks ↔ f (clit c) ≠ none) => show ks = xs.map (fun x => x.1.1) from by
    have e : xs.map (fun x => x.1.1) = (clients S).map (·.1) := by rw [← hxs, List.map_map]; rfl
    rw [e]
    refine rise_eq hr (clients_rise S) fun c => ?_
    rw [hm, hval, List.mem_map]
    constructor
    · intro hc
      cases hS : S c with
      | none => rw [hS] at hc; exact absurd rfl hc
      | some a => exact ⟨(c, a), mem_clients.2 ⟨by have := hok c a hS; omega, hS⟩, rfl⟩
    · rintro ⟨⟨d, a⟩, hd, rfl⟩
      rw [(mem_clients.1 hd).2]
      simp)
  have hxl : xs.length ≤ 4 := by have := congrArg List.length hxs; rw [List.length_map] at this; have := clients_len S; omega
  have HAT := hid (fun (x : ClK) (hx : x ∈ xs) => show S x.1.1 = some x.1.2 from by
    have : x.1 ∈ clients S := by rw [← hxs]; exact List.mem_map.2 ⟨x, hx, rfl⟩
    exact (mem_clients.1 this).2)
  have hfK : Fence.wide.fn 205 := trivial
  have hfS : Fence.wide.fn 204 := trivial
  clear hsn hG hxs hval hok gA
  refine callsIn_of_wp Tryz.func203 rfl trivial ?_ rfl
  simp only [Tryz.ntmps203, List.size_toArray, List.length_cons, List.length_nil, Nat.reduceAdd, Nat.reduceSub, Array.replicate_succ, Array.replicate_zero, List.push_toArray, List.append_toArray, List.nil_append, List.cons_append]
  gi_wp2
  refine ⟨fun _ => by omega, (HKY.out _ _).mono ?_⟩
  rintro e w' ⟨rfl, rfl⟩
  gi_wp2
  refine ⟨fun _ => by omega, HSO.out.mono ?_⟩
  rintro e W1 ⟨v, ks, rfl, hr, hm, hl, hrow, hb⟩
  have hks := HMEM.out ks hr hm
  subst hks
  have hBW : Below W.heap.size W W1 := (((Grew.refl W).alloc (.cells #[.map (some mb)] 231)).trans hb : Grew W W1)
  have HBW := hid hBW
  have hJ0 : J [] W1 := hJa [] W W1 none h0 ⟨hBW.os, hBW.tape, hBW.output, hBW.size, fun k hk _ => hBW.block k hk⟩ (fun r e => by cases e)
  rw [List.length_map] at hrow
  obtain ⟨m, hm'⟩ : ∃ m, m = xs.length := ⟨_, rfl⟩
  have HMX := hid hm'
  have hform : ∃ ao cap, v = .slice ao m cap := by
    rw [hm']
    rcases hrow.2 with ⟨h1, h2⟩ | ⟨b, c, cur, h1, _⟩
    · exact ⟨none, 0, by rw [h1, h2]⟩
    · exact ⟨_, _, h1⟩
  obtain ⟨ao, cap, rfl⟩ := hform
  have HROW := hid hrow
  have HJ0 := hid hJ0
  have hm4 : m ≤ 4 := by omega
  clear hrow hm hr hl hb hJ0 hm' HMEM hBW h0 HKY HSO
  gi_wp2
  gi_loopw [4, 12] (fun u i wr => ∃ k : Nat, k ≤ m ∧ i = .int .i64 k ∧ Hid (J (xs.take k) wr) ∧ Hid (wr = W1 ∨ Kp W1 wr)) (fun _ i _ => m - (intOf i).toNat)
  case atStart => exact ⟨0, Nat.zero_le _, rfl, by unfold Hid; simpa using HJ0.out, .inl rfl⟩
  case round =>
    obtain ⟨k, hk, rfl, HJ, HC⟩ := hrel
    have hBl : Below n₀ W wr := by
      rcases HC.out with rfl | hk'
      · exact HBW.out.mono (Nat.le_trans hn₀ hW.size)
      · exact (HBW.out.mono (Nat.le_trans hn₀ hW.size)).trans (hKb _ _ hk')
    have d0 : wr.cell? ⟨Bs, 0, none⟩ = some (.pointer (some ⟨sb, 0, none⟩)) := by
      rcases HC.out with rfl | hk'
      · exact (HBW.out.cell (p := ⟨Bs, 0, none⟩) (cell_lt hBs')).trans hBs'
      · exact hKc W1 wr (hW.trans (HBW.out.mono hW.size)) hk'
    have d1 := (hBl.cell (p := ⟨sb, 0, none⟩) h2).trans hc0
    have HLM := hid (HSN.out.lm.below hBl h3)
    by_cases hlt : k < m
    · obtain ⟨x, hx⟩ : ∃ x, x = xs[k]'(by rw [← HMX.out]; exact hlt) := ⟨_, rfl⟩
      have hxm : x ∈ xs := by rw [hx]; exact List.getElem_mem _
      have hrow := HROW.out
      rw [← HMX.out] at hrow
      obtain ⟨zb, capz, cur, e1, hzb, hheap, hz1, hz2, hz3, hz4⟩ := ownsRow_block hrow (by omega)
      have hzW : W.heap.size ≤ zb := Nat.le_trans (by simp) hzb
      have hheap' : wr.heap[zb]? = some (.cells cur.toArray 3 (0, 0)) := by
        rcases HC.out with rfl | hk'
        · exact hheap
        · exact hKr W W1 wr hW HBW.out hk' zb _ hzW hheap rfl
      have hcell : wr.cell? ⟨zb, k, none⟩ = some (.int .i64 x.1.1) := by
        have h5 : cur[k]? = some (.int .i64 x.1.1) := by
          have h6 : (cur.take (m * 1))[k]? = cur[k]? := by rw [List.getElem?_take, if_pos (by omega)]
          rw [← h6, hz4, List.map_map, List.getElem?_map, List.getElem?_eq_getElem (by rw [← HMX.out]; exact hlt), ← hx]
          rfl
        rw [cell_block hheap' k, h5]
      cases e1
      have hzlt : zb < wr.heap.size := (Array.getElem?_eq_some_iff.1 hheap').1
      have hlk : (Instr.lookup 231 (.map (some mb)) (.int .i64 x.1.1) false).run Tryz.prog wr = .ok x.1.2.agg wr := by
        have h7 := HLM.out.lookup cl_keyed Tryz.underlying231 (zero_last wr) (keyOf_int_mk Tryz.underlying3 (clit_wf (c := x.1.1) (by have := x.2.1; omega) (by have := x.2.2.1; omega)))
        rw [show (Lit.int .i64 x.1.1) = clit x.1.1 from rfl, HSN.out.val, HAT.out x hxm] at h7
        exact h7
      have htk : xs.take (k + 1) = xs.take k ++ [x] := by rw [List.take_succ_eq_append_getElem (by rw [← HMX.out]; exact hlt), hx]
      have HTK := hid htk
      obtain ⟨fn, tmps, assign, body, hy, hR⟩ := hY (xs.take k) x wr HJ.out (by rw [List.length_take]; omega)
      unfold encCl at hy
      have HKP := hid (fun W3 (hk3 : Kp wr W3) => show wr = W1 ∧ Kp W1 W3 ∨ Kp W1 W3 from by
        rcases HC.out with rfl | hk'
        · exact .inl ⟨rfl, hk3⟩
        · exact .inr (hKt hk' hk3))
      clear hrow hheap hheap' hz1 hz2 hz3 hz4 hzb hzW hx hxm htk hBl
      gi_wp2
      refine ⟨fun _ => by omega, hR.mono ?_⟩
      rintro e W3 (⟨rfl, hJ3, hk3⟩ | ⟨rfl, hJx3⟩)
      · have HJ3 := hid hJ3
        have HK3 := hid (HKP.out W3 hk3)
        clear hJ3 hk3
        gi_wp2
        go_roundw
        case rel => exact ⟨k + 1, by omega, by go_num, by unfold Hid; rw [HTK.out]; exact HJ3.out, by rcases HK3.out with ⟨_, h⟩ | h <;> exact .inr h⟩
        case measure => simp [intOf]; omega
      · gi_wp2
        refine bodyPost_ret (results_none rfl _ _ _) rfl ?_
        exact ⟨⟨_, rfl⟩, .inr ⟨_, trivial, hJx3⟩⟩
    · have hkm : k = m := by omega
      subst hkm
      have hJE : J xs wr := by have := HJ.out; rwa [HMX.out, List.take_length] at this
      have HJE := hid hJE
      clear hJE hBl
      gi_wp2
      go_end0
      exact ⟨⟨_, rfl⟩, .inl ⟨xs, HXS.out, HJE.out⟩⟩
end Go.Proofs.YtoiahcgaffffbaaGreatDoor
namespace Go.Proofs.YtoiahcgaffffbaaGreatDoor
open Go.RowKit Go.Maps
attribute [local go_sem] Oper.semAt_some
def u8Flat (ns : List Int) : List Value := ns.map (Value.int .u8)
theorem u8Flat_length (ns : List Int) : (u8Flat ns).length = ns.length := by simp [u8Flat]
theorem u8Flat_append (a b : List Int) : u8Flat (a ++ b) = u8Flat a ++ u8Flat b := by simp [u8Flat]
theorem u8Flat_one (ns : List Int) : ∀ u ∈ u8Flat ns, u.oneCell' = true := by
  intro u hu
  obtain ⟨n, _, rfl⟩ := List.mem_map.1 hu
  rfl
def strNums (s : ByteArray) : List Int := s.data.toList.map fun b => (b.toNat : Int)
theorem strNums_length (s : ByteArray) : (strNums s).length = s.size := by
  unfold strNums
  rw [List.length_map, Array.length_toList]; rfl
theorem strNums_flat (s : ByteArray) : u8Flat (strNums s) = Lib.strCells s := by
  unfold u8Flat strNums Lib.strCells
  rw [List.map_map]; rfl
theorem info_u8 : (Tryz.prog.info? 5).map (fun i => (i.zero, i.size, i.bytes)) = some (some (.int .u8 0), 1, 1) := by kernel_rfl
namespace Pl
def numB (n : Nat) : List Int := if n < 128 then [(n : Int)] else ((n % 128 + 128 : Nat) : Int) :: numB (n / 128)
termination_by n
decreasing_by omega
theorem numB_small {n : Nat} (h : n < 128) : numB n = [(n : Int)] := by rw [numB]; simp [h]
theorem numB_great {n : Nat} (h : ¬ n < 128) : numB n = ((n % 128 + 128 : Nat) : Int) :: numB (n / 128) := by rw [numB]; simp [h]
theorem numB_len (k : Nat) : ∀ n, n < 128 ^ (k + 1) → (numB n).length ≤ k + 1 := by
  induction k with
  | zero => intro n h; rw [numB_small (by simpa using h)]; simp
  | succ k ih =>
    intro n h
    by_cases hn : n < 128
    · rw [numB_small hn]; simp
    · rw [numB_great hn, List.length_cons]
      have := ih (n / 128) (by rw [Nat.div_lt_iff_lt_mul (by decide)]; rw [Nat.pow_succ] at h; exact h)
      omega
theorem numB_pos (n : Nat) : 0 < (numB n).length := by
  by_cases h : n < 128
  · rw [numB_small h]; simp
  · rw [numB_great h]; simp
theorem numB_byte (n : Nat) : ∀ b ∈ numB n, 0 ≤ b ∧ b < 256 := by
  induction n using Nat.strongRecOn with
  | ind n ih =>
    by_cases h : n < 128
    · rw [numB_small h]; intro b hb; rw [List.mem_singleton.1 hb]; omega
    · rw [numB_great h]
      intro b hb
      rcases List.mem_cons.1 hb with rfl | hb
      · omega
      · exact ih (n / 128) (by omega) b hb
def textB (s : ByteArray) : List Int := numB s.size ++ strNums s
theorem textB_len (s : ByteArray) (h : s.size < 2097152) : (textB s).length ≤ s.size + 3 := by
  unfold textB
  rw [List.length_append, strNums_length]
  have := numB_len 2 s.size (by simpa using h)
  omega
theorem strNums_byte (s : ByteArray) : ∀ b ∈ strNums s, 0 ≤ b ∧ b < 256 := by
  intro b hb
  obtain ⟨u, _, rfl⟩ := List.mem_map.1 hb
  have := u.toNat_lt
  omega
theorem textB_byte (s : ByteArray) : ∀ b ∈ textB s, 0 ≤ b ∧ b < 256 := by
  intro b hb
  rcases List.mem_append.1 hb with hb | hb
  · exact numB_byte _ b hb
  · exact strNums_byte s b hb
end Pl
def BytesAt (W : World) (a : Option Addr) (ns : List Int) : Prop := ns = [] ∨ ∃ b off, a = some ⟨b, off, none⟩ ∧ b < W.heap.size ∧ ∀ j n, ns[j]? = some n → W.cell? ⟨b, off + j, none⟩ = some (.int .u8 n)
theorem BytesAt.kept {S : Nat → Prop} {W W' : World} {a : Option Addr} {ns : List Int} (h : BytesAt W a ns) (g : Only S W W') (hS : ∀ b off, a = some ⟨b, off, none⟩ → ¬ S b) : BytesAt W' a ns := by
  rcases h with h | ⟨b, off, rfl, hb, hc⟩
  · exact .inl h
  · exact .inr ⟨b, off, rfl, Nat.lt_of_lt_of_le hb g.size, fun j n hj => (g.cell hb (hS b off rfl) _).trans (hc j n hj)⟩
theorem BytesAt.grew {W W' : World} {a : Option Addr} {ns : List Int} (h : BytesAt W a ns) (g : Grew W W') : BytesAt W' a ns := h.kept (g.only fun _ => False) (fun _ _ _ h => h)
theorem bytesAt_of {W : World} {B : Nat} {v : Value} {ns : List Int} (h : W.ownsRow B 5 1 v ns.length (u8Flat ns)) : ∃ a cap, v = .slice a ns.length cap ∧ BytesAt W a ns ∧ SlForm a cap ∧ ns.length ≤ cap := by
  rcases h.2 with ⟨h2, h3⟩ | ⟨b, cap, cur, e1, _, hb, hc, _⟩
  · refine ⟨none, 0, ?_, .inl (List.eq_nil_of_length_eq_zero h3), .inl ⟨rfl, rfl⟩, by omega⟩
    rw [h2, h3]
  · refine ⟨_, cap, e1, .inr ⟨b, 0, rfl, (Array.getElem?_eq_some_iff.1 hb).1, fun j n hj => ?_⟩, .inr ⟨_, _, rfl⟩, hc⟩
    have := h.cells (g := b) (by rw [e1]; rfl) j (.int .u8 n) (by unfold u8Flat; rw [List.getElem?_map, hj]; rfl)
    rwa [Addr.add_lit] at this
theorem BytesAt.drop {W : World} {b off : Nat} {ns : List Int} (h : BytesAt W (some ⟨b, off, none⟩) ns) (i : Nat) : BytesAt W (some ⟨b, off + i, none⟩) (ns.drop i) := by
  rcases h with h | ⟨b', off', e, hb, hc⟩
  · exact .inl (by rw [h]; simp)
  · cases e
    refine .inr ⟨b, off + i, rfl, hb, fun j n hj => ?_⟩
    rw [List.getElem?_drop] at hj
    have := hc (i + j) n hj
    rwa [← Nat.add_assoc] at this
theorem BytesAt.take {W : World} {a : Option Addr} {ns : List Int} (h : BytesAt W a ns) (i : Nat) : BytesAt W a (ns.take i) := by
  rcases h with h | ⟨b, off, rfl, hb, hc⟩
  · exact .inl (by rw [h]; simp)
  · refine .inr ⟨b, off, rfl, hb, fun j n hj => ?_⟩
    rw [List.getElem?_take] at hj
    split at hj
    · exact hc j n hj
    · cases hj
theorem run_append_bytes {w : World} {B : Nat} {v : Value} {m : Nat} {ys xs : List Int} (hown : w.ownsRow B 5 1 v m (u8Flat ys)) {ao : Option Addr} {n cap : Nat} (hn : n = xs.length) (hA : BytesAt w ao xs) (hf : SlForm ao cap) (hbig : m + n ≤ 100000000) (hB : B ≤ w.heap.size) (ty : TypeId) :
    ∃ a' cap' w', (Builtin.append_ #[44, 44] ty #[v, .slice ao n cap]).run Tryz.prog w = .ok (.slice a' (m + n) cap') w' ∧ w'.ownsRow B 5 1 (.slice a' (m + n) cap') (m + n) (u8Flat (ys ++ xs)) ∧ w.grownBy w' v.ownBlock ∧ ∀ g, Value.ownBlock (.slice a' (m + n) cap') = some g → v.ownBlock = some g ∨ g = w.heap.size := by
  obtain ⟨i0, hi0, hz0, hz1, hz2⟩ := info_parts info_u8
  subst hn
  rcases Nat.eq_zero_or_pos xs.length with h0 | h0
  · have e := List.eq_nil_of_length_eq_zero h0
    subst e
    have hsrc : Src Tryz.prog i0.size 44 (.slice ao 0 cap) 0 [] w := by
      rcases hf with ⟨rfl, rfl⟩ | ⟨b, off, rfl⟩
      · exact Src.ofNil w Tryz.underlying44 0
      · exact Src.ofSlice w Tryz.underlying44 ⟨b, off, none⟩ 0 cap [] (by simp) (fun j u hj => by simp at hj) (fun u hu => by cases hu)
    have hb : ∃ a' cap', v = .slice a' m cap' ∧ m ≤ cap' := by
      rcases hown.2 with ⟨rfl, h2⟩ | ⟨b, c, cur, rfl, _, _, h4, _⟩
      · subst h2; exact ⟨_, _, rfl, Nat.le_refl _⟩
      · exact ⟨_, _, rfl, h4⟩
    obtain ⟨a', cap', rfl, hc⟩ := hb
    exact ⟨a', cap', w, run_append_nothing w _ _ _ 5 i0 Tryz.underlying44 hi0 a' m cap' hc _ hsrc, by simpa using hown, ⟨rfl, rfl, rfl, Nat.le_refl _, fun _ _ _ => rfl⟩, fun g h => .inl h⟩
  · rcases hA with h1 | ⟨b, off, rfl, hb, hR⟩
    · rw [h1] at h0; simp at h0
    · obtain ⟨g, cap2, w2, h1, h2, h3, h4, h5⟩ := run_append_lies (P := Tryz.prog) (w := w) 44 ty B 5 i0 _ 1 1 Tryz.underlying44 hi0 hz0 hz1 hz2 rfl (by omega) v m (u8Flat ys) hown ⟨b, off, none⟩ xs.length cap (u8Flat xs) (by rw [u8Flat_length]; omega) (fun j u hj => by
          rw [Addr.add_lit]
          unfold u8Flat at hj
          rw [List.getElem?_map] at hj
          cases hq : xs[j]? with
          | none => rw [hq] at hj; cases hj
          | some q => rw [hq] at hj; cases hj; exact hR j q hq) (u8Flat_one xs) h0 (by unfold maxLen; omega) (by omega) hB _ rfl
      rw [← u8Flat_append] at h2
      exact ⟨_, _, w2, h1, h2, h3, fun g' hg' => by
        have : g' = g := by simpa [Value.ownBlock] using hg'.symm
        subst this; exact h4⟩
theorem run_append_text {w : World} {B : Nat} {v : Value} {m : Nat} {ys : List Int} (hown : w.ownsRow B 5 1 v m (u8Flat ys)) (s : ByteArray) (hbig : m + s.size ≤ 100000000) (hB : B ≤ w.heap.size) (ty : TypeId) :
    ∃ v' w', (Builtin.append_ #[44, 9] ty #[v, .string s]).run Tryz.prog w = .ok v' w' ∧ w'.ownsRow B 5 1 v' (m + s.size) (u8Flat (ys ++ strNums s)) ∧ w.grownBy w' v.ownBlock ∧ ∀ g, v'.ownBlock = some g → v.ownBlock = some g ∨ g = w.heap.size := by
  obtain ⟨i0, hi0, hz0, hz1, hz2⟩ := info_parts info_u8
  have hxl : (u8Flat ys).length = m := by simpa using hown.1
  obtain ⟨v', w', hr, h2, h3, h4⟩ := Lib.run_append_own_string (P := Tryz.prog) w B 44 9 ty 5 i0 Tryz.underlying44 Tryz.underlying9 hi0 hz0 hz1 hz2 v m (u8Flat ys) hown s (by unfold maxLen; omega) (by omega) hB
  refine ⟨v', w', hr, by rw [u8Flat_append, strNums_flat]; exact h2, h3, fun g hg => ?_⟩
  rcases hown.2 with ⟨rfl, rfl⟩ | ⟨b, cap, cur, rfl, hbg, hb, hnc, hcm, hcs, htake⟩
  · by_cases hm : s.size = 0
    · rw [(h4.2 ⟨rfl, hm⟩)] at hg; cases hg
    · have hr2 := run_append_nil_string (P := Tryz.prog) w 44 9 ty 5 i0 (.int .u8 0) Tryz.underlying44 Tryz.underlying9 hi0 hz0 s (by omega) (by omega) (by rw [hz2]; omega)
      rw [hr] at hr2
      cases hr2
      exact .inr (by simpa [Value.ownBlock] using hg.symm)
  · by_cases hroom : m + s.size ≤ cap
    · have hr2 := Lib.run_append_room_string (P := Tryz.prog) w 44 9 ty 5 i0 Tryz.underlying44 Tryz.underlying9 hi0 hz1 b m cap cur hb s hroom (by omega)
      rw [hr] at hr2
      cases hr2
      exact .inl hg
    · have hr2 := Lib.run_append_grow_string (P := Tryz.prog) w 44 9 ty 5 i0 (.int .u8 0) Tryz.underlying44 Tryz.underlying9 hi0 hz0 ⟨b, 0, none⟩ m cap (u8Flat ys) (by rw [hz1, hxl]; omega) (fun j u hj => hown.cells (g := b) rfl j u hj) s (by omega) (by omega) (by rw [hz2]; exact growslice_fits (by omega) (by omega))
      rw [hr] at hr2
      cases hr2
      exact .inr (by simpa [Value.ownBlock] using hg.symm)
end Go.Proofs.YtoiahcgaffffbaaGreatDoor
namespace Go.Proofs.YtoiahcgaffffbaaGreatDoor
open Go.RowKit Go.Maps
attribute [local go_sem] Oper.semAt_some
theorem infoCU8 : (Tryz.prog.info? 5).map (fun i => (i.zero, i.size, i.bytes)) = some (some (.int .u8 0), 1, 1) := by kernel_rfl
theorem zcCU8 : (Value.cells (.int .u8 0)).size = 1 := by kernel_rfl
theorem eqCU8 (gb off m c : Nat) (w : World) : (binOp .eql 44 (.slice (some ⟨gb, off, none⟩) m c) (.slice none 0 0)).run Tryz.prog w = .ok (.bool false) w := by kernel_rfl
theorem eqCnU8 (w : World) : (binOp .eql 44 (.slice none 0 0) (.slice none 0 0)).run Tryz.prog w = .ok (.bool true) w := by kernel_rfl
set_option maxRecDepth 100000 in
set_option maxHeartbeats 1000000 in
theorem cloneU8 (w : World) (gb off m c : Nat) (hm : 0 < m) (hbig : m ≤ 1000000) (news : List Value) (hl : news.length = m * 1) (hnews : ∀ j u, news[j]? = some u → w.cell? ⟨gb, off + j, none⟩ = some u) (h1 : ∀ u ∈ news, u.oneCell' = true) :
    Calls Tryz.prog 139 #[.slice (some ⟨gb, off, none⟩) m c] w fun e w' => ∃ g cap, e = .returned (.slice (some ⟨g, 0, none⟩) m cap) ∧ w'.ownsRow w.heap.size 5 1 (.slice (some ⟨g, 0, none⟩) m cap) m news ∧ Grew w w' := by
  obtain ⟨i0, hi0, hz0, hz1, hz2⟩ := info_parts infoCU8
  have had : gb < w.heap.size := by
    have h0 : 0 < news.length := by omega
    have h2 := World.block_lt_of_cell? _ _ (hnews 0 news[0] (List.getElem?_eq_getElem h0))
    exact h2
  have HN : Hid (∀ (t : TypeId) j u, news[j]? = some u → (w.alloc (.cells #[] t)).cell? ⟨gb, off + j, none⟩ = some u) := fun t j u hj => by
    have := hnews j u hj
    rw [← this]
    exact ((Grew.refl w).alloc _).below.cell (World.block_lt_of_cell? _ _ this)
  have HL := hid hl
  have H1 := hid h1
  have HO := hid (fun (t : TypeId) (h : t = 5) => show (w.alloc (.cells #[] t)).ownsRow w.heap.size 5 1 (.slice (some ⟨w.heap.size, 0, none⟩) 0 0) 0 [] from by
    subst h
    exact ownsRow_of_block (cur := []) (Nat.le_refl _) (heap_alloc_new w _) (Nat.le_refl _) (by decide) rfl rfl)
  clear hnews hl h1
  have hEq := eqCU8 gb off m c
  go_enter Tryz.func139, Tryz.ntmps139
  go_wp2_with (at_builtin; refine wpList_append_lies _ rfl _ _ 44 rfl w.heap.size 5 i0 _ 1 1 Tryz.underlying44 hi0 hz0 hz1 hz2 zcCU8 (by omega) (.slice (some ⟨w.heap.size, 0, none⟩) 0 0) 0 [] rfl (HO.out _ rfl) ⟨gb, off, none⟩ m c news rfl HL.out (fun j u hj => by rw [Addr.add_lit]; exact HN.out _ j u hj) H1.out (by omega) (by unfold maxLen; omega) (by omega) (by simp) _ rfl ?_)
  intro g cap w1 hown hgrow hat hlt
  have HO := hid hown
  have HG := hid hgrow
  clear hown hgrow hat
  go_wp2_with fail
  go_ret
  refine ⟨g, cap, by simp, by simpa using HO.out, ?_⟩
  refine (((Grew.refl w).alloc _).only (fun j => some j = Value.ownBlock (.slice (some ⟨w.heap.size, 0, none⟩) 0 0))).then (Only.of_grownBy HG.out) |>.grew ?_
  intro j hj
  have : j = w.heap.size := Option.some.inj hj
  omega
set_option maxRecDepth 100000 in
theorem cloneNilU8 (w : World) : Calls Tryz.prog 139 #[.slice none 0 0] w fun e w' => e = .returned (.slice none 0 0) ∧ Grew w w' := by
  have hEq := eqCnU8
  go_enter Tryz.func139, Tryz.ntmps139
  go_wp2_with fail
  go_ret
  exact ⟨rfl, Grew.refl w⟩
set_option maxRecDepth 100000 in
theorem cloneZeroU8 (w : World) (gb off c : Nat) : Calls Tryz.prog 139 #[.slice (some ⟨gb, off, none⟩) 0 c] w fun e w' => e = .returned (.slice (some ⟨w.heap.size, 0, none⟩) 0 0) ∧ w'.ownsRow w.heap.size 5 1 (.slice (some ⟨w.heap.size, 0, none⟩) 0 0) 0 [] ∧ Grew w w' := by
  obtain ⟨i0, hi0, hz0, hz1, hz2⟩ := info_parts infoCU8
  have HO := hid (fun (t : TypeId) (h : t = 5) => show (w.alloc (.cells #[] t)).ownsRow w.heap.size 5 1 (.slice (some ⟨w.heap.size, 0, none⟩) 0 0) 0 [] from by
    subst h
    exact ownsRow_of_block (cur := []) (Nat.le_refl _) (heap_alloc_new w _) (Nat.le_refl _) (by decide) rfl rfl)
  have HG := hid (fun (t : TypeId) => (Grew.refl w).alloc (.cells #[] t))
  have hS : ∀ W : World, Src Tryz.prog i0.size 44 (.slice (some ⟨gb, off, none⟩) 0 c) 0 [] W := fun W => Src.ofSlice W Tryz.underlying44 ⟨gb, off, none⟩ 0 c [] (by simp) (fun j u hj => by simp at hj) (fun u hu => by cases hu)
  have HS := hid hS
  clear hS
  have hEq := eqCU8 gb off 0 c
  go_enter Tryz.func139, Tryz.ntmps139
  go_wp2_with (at_builtin; refine Lib.wpList_append_run _ rfl _ _ _ _ rfl _ _ rfl rfl _ _ (run_append_nothing _ 44 44 _ 5 i0 Tryz.underlying44 hi0 _ 0 0 (Nat.le_refl _) _ (HS.out _)) ?_)
  go_wp2_with fail
  go_ret
  exact ⟨rfl, HO.out _ rfl, HG.out _⟩
end Go.Proofs.YtoiahcgaffffbaaGreatDoor
