/- Dd3, Dd4: one text. -/
import Derived.Test.YtifcnammekbfoaaGreatDoorFinStateOnceQ18
import Derived.Shelf.SlIterI.Nil
import Derived.Shelf.SortM.Plain
import Derived.Shelf.SortM.SortNone
import Derived.Lib.SlKeysI
import Derived.Maps.GroupsBeside
import Derived.RangeFuncNested
import Derived.RangeFuncBound
import Derived.RangeFuncCalls
import Derived.RangeFuncLeaves
import Derived.RangeFuncBox
import Derived.Shelf.Abstract
import Derived.Shelf.AbstractIn
import Derived.Shelf.RegionOpen
import Derived.OwnWalkIn
import Derived.TacticsInMore
import Derived.LoopNIn
import Derived.LoopIn
/- slices.Sorted(maps.Keys(..)) at the clients. -/
set_option linter.unusedVariables false
set_option linter.unusedSectionVars false
set_option linter.unusedSimpArgs false
namespace Go.Proofs.YtifcnammekbfoaaGreatDoor
open Go.Shelf
def Tryz.keysCl_ren : Go.Shelf.Ren := ⟨fun | 7 => 162 | 10 => 176 | n => n, fun | 23 => 190 | 26 => 3 | 3 => 204 | 28 => 258 | 0 => 0 | 27 => 257 | 33 => 272 | 4 => 4 | n => n, fun | n => n⟩
theorem Tryz.keysCl : Go.Proofs.SlLaysZI.n7 Tryz.prog Tryz.keysCl_ren := {
  mixed := by kernel_rfl
  f7 := ⟨Tryz.f162.name, by decide, Tryz.func162.trans (congrArg some (by kernel_rfl))⟩
  f10 := ⟨Tryz.f176.name, by decide, Tryz.func176.trans (congrArg some (by kernel_rfl))⟩
  t0 := Tryz.underlying0
  a0 := Tryz.isAgg0
  z0 := Tryz.sizeOf0
  v0 := Tryz.zeroValue0
  t4 := Tryz.underlying4
  a4 := Tryz.isAgg4
  z4 := Tryz.sizeOf4
  v4 := Tryz.zeroValue4
  t23 := Tryz.underlying190
  a23 := Tryz.isAgg190
  z23 := Tryz.sizeOf190
  v23 := Tryz.zeroValue190
  t26 := Tryz.underlying3
  a26 := Tryz.isAgg3
  z26 := Tryz.sizeOf3
  v26 := Tryz.zeroValue3
  t27 := Tryz.underlying257
  a27 := Tryz.isAgg257
  z27 := Tryz.sizeOf257
  v27 := Tryz.zeroValue257
  t28 := Tryz.underlying258
  a28 := Tryz.isAgg258
  z28 := Tryz.sizeOf258
  v28 := Tryz.zeroValue258
  t33 := Tryz.underlying272
  a33 := Tryz.isAgg272
  z33 := Tryz.sizeOf272
  v33 := Tryz.zeroValue272 }

def Tryz.sortedCl_ren : Go.Shelf.Ren := ⟨fun | 6 => 161 | 8 => 174 | 9 => 175 | 11 => 183 | 13 => 154 | 12 => 184 | 23 => 172 | 24 => 173 | 14 => 186 | 15 => 187 | 16 => 188 | 17 => 189 | 18 => 190 | 19 => 191 | 20 => 192 | 21 => 193 | 22 => 194 | 25 => 195 | 26 => 179 | 27 => 180 | 28 => 196 | 29 => 197 | 30 => 198 | 31 => 199 | n => n, fun | 26 => 3 | 28 => 258 | 24 => 159 | 0 => 0 | 3 => 3 | 37 => 55 | 48 => 268 | 50 => 270 | 4 => 4 | 40 => 262 | 39 => 261 | 45 => 169 | 5 => 5 | 9 => 9 | 51 => 274 | 55 => 278 | 57 => 282 | 58 => 283 | 33 => 272 | n => n, fun | n => n⟩
theorem Tryz.sortedCl : Go.Proofs.SlLaysZI.n6 Tryz.prog Tryz.sortedCl_ren := {
  mixed := by kernel_rfl
  f6 := ⟨Tryz.f161.name, by decide, Tryz.func161.trans (congrArg some (by kernel_rfl))⟩
  f8 := ⟨Tryz.f174.name, by decide, Tryz.func174.trans (congrArg some (by kernel_rfl))⟩
  f11 := ⟨Tryz.f183.name, by decide, Tryz.func183.trans (congrArg some (by kernel_rfl))⟩
  t0 := Tryz.underlying0
  a0 := Tryz.isAgg0
  z0 := Tryz.sizeOf0
  v0 := Tryz.zeroValue0
  t24 := Tryz.underlying159
  a24 := Tryz.isAgg159
  z24 := Tryz.sizeOf159
  v24 := Tryz.zeroValue159
  t26 := Tryz.underlying3
  a26 := Tryz.isAgg3
  z26 := Tryz.sizeOf3
  v26 := Tryz.zeroValue3
  t28 := Tryz.underlying258
  a28 := Tryz.isAgg258
  z28 := Tryz.sizeOf258
  v28 := Tryz.zeroValue258
  i26 := by kernel_rfl }

def Tryz.sortCl_ren : Go.Shelf.Ren := ⟨fun | 5 => 175 | 8 => 154 | 7 => 184 | 19 => 172 | 20 => 173 | 10 => 186 | 11 => 187 | 12 => 188 | 13 => 189 | 14 => 190 | 15 => 191 | 16 => 192 | 17 => 193 | 18 => 194 | 30 => 195 | 31 => 179 | 32 => 180 | 33 => 196 | 34 => 197 | 35 => 198 | 40 => 199 | n => n, fun | 23 => 159 | 25 => 3 | 3 => 3 | 32 => 55 | 22 => 159 | 0 => 0 | 44 => 268 | 46 => 270 | 4 => 4 | 36 => 262 | 35 => 261 | 41 => 169 | 5 => 5 | 9 => 9 | 53 => 274 | 57 => 278 | 63 => 282 | 64 => 283 | n => n, fun | n => n⟩
theorem Tryz.sortCl : Go.Proofs.SlLaysM.n5 Tryz.prog Tryz.sortCl_ren := {
  mixed := by kernel_rfl
  f5 := ⟨Tryz.f175.name, by decide, Tryz.func175.trans (congrArg some (by kernel_rfl))⟩
  f7 := ⟨Tryz.f184.name, by decide, Tryz.func184.trans (congrArg some (by kernel_rfl))⟩
  f8 := Tryz.func154.trans (congrArg some (by kernel_rfl))
  f10 := ⟨Tryz.f186.name, by decide, Tryz.func186.trans (congrArg some (by kernel_rfl))⟩
  f11 := ⟨Tryz.f187.name, by decide, Tryz.func187.trans (congrArg some (by kernel_rfl))⟩
  f12 := ⟨Tryz.f188.name, by decide, Tryz.func188.trans (congrArg some (by kernel_rfl))⟩
  f13 := ⟨Tryz.f189.name, by decide, Tryz.func189.trans (congrArg some (by kernel_rfl))⟩
  f14 := ⟨Tryz.f190.name, by decide, Tryz.func190.trans (congrArg some (by kernel_rfl))⟩
  f15 := ⟨Tryz.f191.name, by decide, Tryz.func191.trans (congrArg some (by kernel_rfl))⟩
  f16 := ⟨Tryz.f192.name, by decide, Tryz.func192.trans (congrArg some (by kernel_rfl))⟩
  f17 := ⟨Tryz.f193.name, by decide, Tryz.func193.trans (congrArg some (by kernel_rfl))⟩
  f18 := ⟨Tryz.f194.name, by decide, Tryz.func194.trans (congrArg some (by kernel_rfl))⟩
  f19 := Tryz.func172.trans (congrArg some (by kernel_rfl))
  f20 := Tryz.func173.trans (congrArg some (by kernel_rfl))
  f30 := ⟨Tryz.f195.name, by decide, Tryz.func195.trans (congrArg some (by kernel_rfl))⟩
  f31 := Tryz.func179.trans (congrArg some (by kernel_rfl))
  f32 := Tryz.func180.trans (congrArg some (by kernel_rfl))
  f33 := ⟨Tryz.f196.name, by decide, Tryz.func196.trans (congrArg some (by kernel_rfl))⟩
  f34 := ⟨Tryz.f197.name, by decide, Tryz.func197.trans (congrArg some (by kernel_rfl))⟩
  f35 := ⟨Tryz.f198.name, by decide, Tryz.func198.trans (congrArg some (by kernel_rfl))⟩
  f40 := ⟨Tryz.f199.name, by decide, Tryz.func199.trans (congrArg some (by kernel_rfl))⟩
  t0 := Tryz.underlying0
  a0 := Tryz.isAgg0
  z0 := Tryz.sizeOf0
  v0 := Tryz.zeroValue0
  t3 := Tryz.underlying3
  a3 := Tryz.isAgg3
  z3 := Tryz.sizeOf3
  v3 := Tryz.zeroValue3
  t4 := Tryz.underlying4
  a4 := Tryz.isAgg4
  z4 := Tryz.sizeOf4
  v4 := Tryz.zeroValue4
  t5 := Tryz.underlying5
  a5 := Tryz.isAgg5
  z5 := Tryz.sizeOf5
  v5 := Tryz.zeroValue5
  t9 := Tryz.underlying9
  a9 := Tryz.isAgg9
  z9 := Tryz.sizeOf9
  v9 := Tryz.zeroValue9
  t22 := Tryz.underlying159
  a22 := Tryz.isAgg159
  z22 := Tryz.sizeOf159
  v22 := Tryz.zeroValue159
  t23 := Tryz.underlying159
  a23 := Tryz.isAgg159
  z23 := Tryz.sizeOf159
  v23 := Tryz.zeroValue159
  t25 := Tryz.underlying3
  a25 := Tryz.isAgg3
  z25 := Tryz.sizeOf3
  v25 := Tryz.zeroValue3
  t32 := Tryz.underlying55
  a32 := Tryz.isAgg55
  z32 := Tryz.sizeOf55
  v32 := Tryz.zeroValue55
  t35 := Tryz.underlying261
  a35 := Tryz.isAgg261
  z35 := Tryz.sizeOf261
  v35 := Tryz.zeroValue261
  t36 := Tryz.underlying262
  a36 := Tryz.isAgg262
  z36 := Tryz.sizeOf262
  v36 := Tryz.zeroValue262
  t41 := Tryz.underlying169
  a41 := Tryz.isAgg169
  z41 := Tryz.sizeOf169
  v41 := Tryz.zeroValue169
  t44 := Tryz.underlying268
  a44 := Tryz.isAgg268
  z44 := Tryz.sizeOf268
  v44 := Tryz.zeroValue268
  t46 := Tryz.underlying270
  a46 := Tryz.isAgg270
  z46 := Tryz.sizeOf270
  v46 := Tryz.zeroValue270
  t53 := Tryz.underlying274
  a53 := Tryz.isAgg274
  z53 := Tryz.sizeOf274
  v53 := Tryz.zeroValue274
  t57 := Tryz.underlying278
  a57 := Tryz.isAgg278
  z57 := Tryz.sizeOf278
  v57 := Tryz.zeroValue278
  t63 := Tryz.underlying282
  a63 := Tryz.isAgg282
  z63 := Tryz.sizeOf282
  v63 := Tryz.zeroValue282
  t64 := Tryz.underlying283
  a64 := Tryz.isAgg283
  z64 := Tryz.sizeOf283
  v64 := Tryz.zeroValue283 }

end Go.Proofs.YtifcnammekbfoaaGreatDoor

namespace Go.Proofs.YtifcnammekbfoaaGreatDoor
open Go.RowKit Go.Maps Go.ChangeMaps Go.MapKept Go.WideShapes
open Go.WideElems (Fit rd rg pl rd_key rd_val rg_of other_key rd_mk)
theorem ownsMap_ints {w : World} {P : Program} {k : TypeId} {b n : Nat} {D : DataW Value} (h : w.ownsMap P k raw b n D) (K : Keyed P k) (hk : P.underlying k = some (.int .i64)) :
    (intKeys D).Nodup ∧ (∀ c, c ∈ intKeys D ↔ lookD D (clit c) ≠ none) ∧ (intKeys D).length ≤ n ∧ Maps.size D ≤ n := by
  obtain ⟨es, hD, hpw, _⟩ := h.entries K
  obtain ⟨es', hD', hko⟩ := h.keysOf
  obtain rfl : es = es' := by rw [hD] at hD'; simpa using hD'
  have hint : ∀ p ∈ es, ∃ x, p.1 = .int .i64 x := fun p hp => by obtain ⟨v, hv⟩ := hko p hp; obtain ⟨x, _, hx, _⟩ := Maps.keyOf_i64 hk hv; exact ⟨x, hx⟩
  have hkd : intKeys D = es.map fun p => Go.intOf p.1 := by rw [hD]; rfl
  have hlen : es.length ≤ n := by
    obtain ⟨es2, clock, hb, F, hs, hD2⟩ := h
    rw [hD] at hD2
    have e1 : es = (es2.toList.map (rg P k raw)).foldr DataW.insert [] := by injection hD2
    rw [e1, length_sorted]
    simpa using hs
  rw [hkd]
  refine ⟨?_, fun c => ?_, by rw [List.length_map]; exact hlen, by rw [hD]; exact hlen⟩
  · refine List.pairwise_map.2 (hpw.imp_of_mem fun {p q} hp' hq' hne e => hne ?_)
    obtain ⟨a, ha⟩ := hint p hp'
    obtain ⟨d, hd⟩ := hint q hq'
    rw [ha, hd] at e ⊢
    have e2 : a = d := e
    rw [e2]
  · constructor
    · intro hs
      obtain ⟨p, hp, rfl⟩ := List.mem_map.1 hs
      obtain ⟨a, ha⟩ := hint p hp
      have hhas : Maps.has D (clit (Go.intOf p.1)) = true := by
        rw [hD]
        refine List.any_eq_true.2 ⟨p, hp, ?_⟩
        rw [ha]; simp [clit, Go.intOf, Lit.sameKey]
      obtain ⟨es2, clock, hb, F, _, hD2⟩ := h
      rw [hD2] at hhas
      obtain ⟨p2, hp2, hpk⟩ := List.any_eq_true.1 hhas
      obtain ⟨x, hx, rfl⟩ := List.mem_map.1 (mem_sorted.1 hp2)
      obtain ⟨y, hy⟩ := F.reads x hx
      obtain ⟨z, hz, hzd⟩ := rd_val hy
      have hkk : keyOf P k x.key = some (clit (Go.intOf p.1)) := by
        have := WideAt.sameKey_eq hpk
        rw [rg_of hy] at this
        rw [← this]; exact rd_key hy
      unfold lookD
      rw [hD2, if_pos hhas]
      have hat := (atKey_sorted (es2.toList.map (rg P k raw)) (Maps.fit_rising K F) _ (K.key hkk)).2 (rg P k raw x) (List.mem_map.2 ⟨x, hx, rfl⟩) (WideAt.sameKey_eq hpk)
      rw [hat, rg_of hy, hzd]
      cases hz
      simp
    · intro hs
      unfold lookD at hs
      by_cases hh : Maps.has D (clit c) = true
      · rw [hD] at hh
        obtain ⟨p, hp, hpk⟩ := List.any_eq_true.1 hh
        refine List.mem_map.2 ⟨p, hp, ?_⟩
        rw [WideAt.sameKey_eq hpk]
        rfl
      · rw [if_neg hh] at hs; exact absurd rfl hs
end Go.Proofs.YtifcnammekbfoaaGreatDoor

namespace Go.Proofs.YtifcnammekbfoaaGreatDoor
open Go.RowKit Go.Maps Go.Sort Go.Shelf
attribute [local go_sem] Oper.semAt_some

/-- slices.Sort's two contracts, at the fence that asks nothing. -/
theorem sortsCl (m : Nat) : AnyZI.SortsIn Tryz.prog Tryz.sortedCl_ren Fence.wide m :=
  ⟨fun blk off cap ss W hH hblk hsz => callsIn_wide.2 (AnyM.slices_Sort_int Tryz.sortCl blk off cap ss W hH hblk hsz),
   fun p cap W => callsIn_wide.2 (AnyM.slices_Sort_int_none Tryz.sortCl p cap W)⟩

set_option maxRecDepth 100000 in
set_option maxHeartbeats 2000000 in
theorem sortedCl_any (w : World) (mb n : Nat) (f : Lit → Option Value) (h : LMap w Tryz.prog 3 mb n f) (hn : n ≤ 1000000) (Bm : Nat) (hBm : w.cell? ⟨Bm, 0, none⟩ = some (.map (some mb))) :
    CallsIn Fence.wide 5 Tryz.prog 161 #[.func (.func 176) #[] #[.pointer (some ⟨Bm, 0, none⟩)]] w fun e w' => ∃ (v : Value) (ks : List Int), e = .returned v ∧ (ks.Pairwise fun a b => a < b) ∧ (∀ c, c ∈ ks ↔ f (clit c) ≠ none) ∧ ks.length ≤ n ∧ w'.ownsRow w.heap.size 3 1 v ks.length (ks.map encZ) ∧ Below w.heap.size w w' := by
  obtain ⟨D, hown, hf⟩ := h
  obtain ⟨hnd, hmem, hlen, hsz⟩ := ownsMap_ints hown cl_keyed Tryz.underlying3
  have hBlt : Bm < w.heap.size := cell_lt hBm
  have hseq : SeqGives Fence.wide 2 Tryz.prog 176 #[.pointer (some ⟨Bm, 0, none⟩)] encZ (fun ss => ss.Perm (intKeys D)) (Maps.size D) w :=
    AnyZI.keys_gives (ρ := Tryz.keysCl_ren) { Tryz.keysCl with } Fence.wide _ trivial rfl (by omega) Bm mb n D w hBlt hBm hown
  have cS := AnyZI.sorted_in Tryz.sortedCl Fence.wide 5 trivial trivial trivial trivial rfl (by omega) (sortsCl _) (enters_of Tryz.func175 (by kernel_rfl) rfl) 176 #[.pointer (some ⟨Bm, 0, none⟩)] trivial (enters_of Tryz.func176 (by kernel_rfl) rfl) _ _ (by unfold maxLen; omega) (by omega) _ hseq
  change CallsIn _ _ Tryz.prog 161 _ _ _ at cS
  refine cS.mono ?_
  rintro e w' ⟨v, ss, rfl, hp, hrow, _, hb⟩
  have hm : (ss.mergeSort (fun x y => decide (x ≤ y))).Perm ss := List.mergeSort_perm _ _
  have hpp := hm.trans hp
  refine ⟨v, _, rfl, ?_, fun c => by rw [hpp.mem_iff, hmem, hf], by rw [hpp.length_eq]; exact hlen, by rw [hm.length_eq]; exact hrow, hb⟩
  have tr : ∀ a b c : Int, decide (a ≤ b) = true → decide (b ≤ c) = true → decide (a ≤ c) = true := fun a b c h1 h2 => by simp only [decide_eq_true_eq] at *; omega
  have to : ∀ a b : Int, (decide (a ≤ b) || decide (b ≤ a)) = true := fun a b => by simp only [Bool.or_eq_true, decide_eq_true_eq]; omega
  have h1 := List.pairwise_mergeSort tr to ss
  have h2 : (ss.mergeSort (fun x y => decide (x ≤ y))).Nodup := hpp.nodup_iff.2 hnd
  exact List.Pairwise.imp₂ (fun a b h3 h4 => by simp only [decide_eq_true_eq] at h3; omega) h1 h2
end Go.Proofs.YtifcnammekbfoaaGreatDoor

/- The clients, rising: plain; the iterator's contract. -/
set_option linter.unusedVariables false
set_option linter.unusedSectionVars false
set_option linter.unusedSimpArgs false
namespace Go.Proofs.YtifcnammekbfoaaGreatDoor
open Go.RowKit Go.Maps Go.Shelf
attribute [local go_sem] Oper.semAt_some

/-- The clients with what they have been answered, rising. -/
def clients (S : Int → Option An) : List (Int × An) := [1, 2, 3, 4].filterMap fun c => (S c).map fun a => (c, a)
theorem mem_clients {S : Int → Option An} {x : Int × An} : x ∈ clients S ↔ (x.1 = 1 ∨ x.1 = 2 ∨ x.1 = 3 ∨ x.1 = 4) ∧ S x.1 = some x.2 := by
  unfold clients
  rw [List.mem_filterMap]
  obtain ⟨c, a⟩ := x
  constructor
  · rintro ⟨d, hd, he⟩
    rw [Option.map_eq_some_iff] at he
    obtain ⟨b, hb, he⟩ := he
    cases he
    exact ⟨by simpa using hd, hb⟩
  · rintro ⟨h1, h2⟩
    exact ⟨c, by simpa using h1, by dsimp only at h2; rw [h2]; rfl⟩
theorem clients_rise (S : Int → Option An) : ((clients S).map (·.1)).Pairwise fun a b => a < b := by
  unfold clients
  rw [List.pairwise_map]
  refine List.Pairwise.filterMap (R := fun a b : Int => a < b) _ (fun a b hab x hx y hy => ?_) (by decide)
  rw [Option.map_eq_some_iff] at hx hy
  obtain ⟨_, _, rfl⟩ := hx
  obtain ⟨_, _, rfl⟩ := hy
  exact hab
theorem clients_len (S : Int → Option An) : (clients S).length ≤ 4 := by
  unfold clients
  exact Nat.le_trans (List.length_filterMap_le _ _) (by decide)
theorem rise_eq {l l' : List Int} (h : l.Pairwise fun a b => a < b) (h' : l'.Pairwise fun a b => a < b) (hm : ∀ x, x ∈ l ↔ x ∈ l') : l = l' := by
  have nd : l.Nodup := h.imp fun {a b} hab => by omega
  have nd' : l'.Nodup := h'.imp fun {a b} hab => by omega
  exact List.Perm.eq_of_pairwise (le := fun a b : Int => a < b) (fun a b _ _ h1 h2 => by omega) h h' ((List.perm_ext_iff_of_nodup nd nd').2 hm)
/-- A client with a right answer. -/
abbrev ClK := { x : Int × An // 1 ≤ x.1 ∧ x.1 ≤ 4 ∧ x.2.Ok }
def encCl (x : ClK) : Array Value := #[.int .i64 x.1.1, x.1.2.agg]
theorem clients_list {S : Int → Option An} (hok : ∀ c a, S c = some a → 1 ≤ c ∧ c ≤ 4 ∧ a.Ok) : ∃ xs : List ClK, xs.map Subtype.val = clients S := by
  refine ⟨(clients S).pmap Subtype.mk fun x hx => hok _ _ (mem_clients.1 hx).2, ?_⟩
  rw [List.map_pmap]
  simp

theorem LMap.below {w w' : World} {P : Program} {k : TypeId} {b n n₀ : Nat} {f : Lit → Option Value} (h : LMap w P k b n f) (g : Below n₀ w w') (hb : b < n₀) : LMap w' P k b n f := by
  obtain ⟨D, ⟨es, clock, h1, h2⟩, hf⟩ := h
  exact ⟨D, ⟨es, clock, (g.block b hb).trans h1, h2⟩, hf⟩

set_option maxRecDepth 100000 in
set_option maxHeartbeats 4000000 in
theorem rising_stops (n : Nat) (hn : 7 ≤ n) (Kp : World → World → Prop) (n₀ : Nat) {w : World} {F : Nat → Prop} {Bs sb mb nn : Nat} {f : Lit → Option Value} {S : Int → Option An} (h : SeenIs w F sb mb nn f S) (hnn : nn ≤ 1000000) (hBs : w.cell? ⟨Bs, 0, none⟩ = some (.pointer (some ⟨sb, 0, none⟩))) (h2 : sb < n₀) (h3 : mb < n₀) (hn₀ : n₀ ≤ w.heap.size)
    (hKt : ∀ {A B C : World}, Kp A B → Kp B C → Kp A C) (hKb : ∀ A B, Kp A B → Below n₀ A B)
    (hKc : ∀ W1 W2, Below w.heap.size w W1 → Kp W1 W2 → W2.cell? ⟨Bs, 0, none⟩ = some (.pointer (some ⟨sb, 0, none⟩)))
    (hKr : ∀ W W1 W2, Below w.heap.size w W → Below W.heap.size W W1 → Kp W1 W2 → ∀ (b : Nat) (o : Obj), W.heap.size ≤ b → W1.heap[b]? = some o → o.isCells = true → W2.heap[b]? = some o) :
    SeqStopsK Fence.wide n Tryz.prog 160 #[.pointer (some ⟨Bs, 0, none⟩)] encCl Kp (fun xs => xs.map Subtype.val = clients S) (fun _ => True) 4 w := by
  intro l J Jx W hW hJa hJxa hY h0
  have hG : Grew w W := hW
  have hsn : SeenIs W F sb mb nn f S := h.kept (hG.only fun _ => False) (fun _ _ h => h)
  have hBs' := (hG.cells.1 _ 0 (cell_lt hBs)).trans hBs
  have hc0 := hsn.c0
  have HSN := hid hsn
  have HKY := hid (fun mb W => (callsIn_wide (n := n - 1)).2 ((callsIn_wide (n := 5)).1 (AnyZI.keys_in Tryz.keysCl Fence.wide 5 trivial rfl mb W)))
  change Hid (∀ (mb' : Option Nat) (W : World), CallsIn Fence.wide (n - 1) Tryz.prog 162 #[.map mb'] W fun e w' => e = .returned (.func (.func 176) #[] #[.pointer (some ⟨W.heap.size, 0, none⟩)]) ∧ w' = W.alloc (.cells #[.map mb'] 190)) at HKY
  have gA : Grew W (W.alloc (.cells #[.map (some mb)] 190)) := (Grew.refl W).alloc _
  have HSO := hid ((callsIn_wide (n := n - 1)).2 ((callsIn_wide (n := 5)).1 (sortedCl_any (W.alloc (.cells #[.map (some mb)] 190)) mb nn f (hsn.lm.grew gA) hnn W.heap.size (by simp [go_sem]))))
  have hok := h.ok
  obtain ⟨xs, hxs⟩ := clients_list hok
  have hval := h.val
  have HXS := hid hxs
  have HMEM := hid (fun (ks : List Int) (hr : ks.Pairwise fun a b => a < b) (hm : ∀ c, c ∈ ks ↔ f (clit c) ≠ none) => show ks = xs.map (fun x => x.1.1) from by
    have e : xs.map (fun x => x.1.1) = (clients S).map (·.1) := by rw [← hxs, List.map_map]; rfl
    rw [e]
    refine rise_eq hr (clients_rise S) fun c => ?_
    rw [hm, hval, List.mem_map]
    constructor
    · intro hc
      cases hS : S c with
      | none => rw [hS] at hc; exact absurd rfl hc
      | some a => exact ⟨(c, a), mem_clients.2 ⟨by have := hok c a hS; omega, hS⟩, rfl⟩
    · rintro ⟨⟨d, a⟩, hd, rfl⟩
      rw [(mem_clients.1 hd).2]
      simp)
  have hxl : xs.length ≤ 4 := by have := congrArg List.length hxs; rw [List.length_map] at this; have := clients_len S; omega
  have HAT := hid (fun (x : ClK) (hx : x ∈ xs) => show S x.1.1 = some x.1.2 from by
    have : x.1 ∈ clients S := by rw [← hxs]; exact List.mem_map.2 ⟨x, hx, rfl⟩
    exact (mem_clients.1 this).2)
  have hfK : Fence.wide.fn 162 := trivial
  have hfS : Fence.wide.fn 161 := trivial
  clear hsn hG hxs hval hok gA
  refine callsIn_of_wp Tryz.func160 rfl trivial ?_ rfl
  simp only [Tryz.ntmps160, List.size_toArray, List.length_cons, List.length_nil, Nat.reduceAdd, Nat.reduceSub, Array.replicate_succ, Array.replicate_zero, List.push_toArray, List.append_toArray, List.nil_append, List.cons_append]
  gi_wp2
  refine ⟨fun _ => by omega, (HKY.out _ _).mono ?_⟩
  rintro e w' ⟨rfl, rfl⟩
  gi_wp2
  refine ⟨fun _ => by omega, HSO.out.mono ?_⟩
  rintro e W1 ⟨v, ks, rfl, hr, hm, hl, hrow, hb⟩
  have hks := HMEM.out ks hr hm
  subst hks
  have hBW : Below W.heap.size W W1 := (((Grew.refl W).alloc (.cells #[.map (some mb)] 190)).trans hb : Grew W W1)
  have HBW := hid hBW
  have hJ0 : J [] W1 := hJa [] W W1 none h0 ⟨hBW.os, hBW.tape, hBW.output, hBW.size, fun k hk _ => hBW.block k hk⟩ (fun r e => by cases e)
  rw [List.length_map] at hrow
  obtain ⟨m, hm'⟩ : ∃ m, m = xs.length := ⟨_, rfl⟩
  have HMX := hid hm'
  have hform : ∃ ao cap, v = .slice ao m cap := by
    rw [hm']
    rcases hrow.2 with ⟨h1, h2⟩ | ⟨b, c, cur, h1, _⟩
    · exact ⟨none, 0, by rw [h1, h2]⟩
    · exact ⟨_, _, h1⟩
  obtain ⟨ao, cap, rfl⟩ := hform
  have HROW := hid hrow
  have HJ0 := hid hJ0
  have hm4 : m ≤ 4 := by omega
  clear hrow hm hr hl hb hJ0 hm' HMEM hBW h0 HKY HSO
  gi_wp2
  gi_loopw [4, 12] (fun u i wr => ∃ k : Nat, k ≤ m ∧ i = .int .i64 k ∧ Hid (J (xs.take k) wr) ∧ Hid (wr = W1 ∨ Kp W1 wr)) (fun _ i _ => m - (intOf i).toNat)
  case atStart => exact ⟨0, Nat.zero_le _, rfl, by unfold Hid; simpa using HJ0.out, .inl rfl⟩
  case round =>
    obtain ⟨k, hk, rfl, HJ, HC⟩ := hrel
    have hBl : Below n₀ W wr := by
      rcases HC.out with rfl | hk'
      · exact HBW.out.mono (Nat.le_trans hn₀ hW.size)
      · exact (HBW.out.mono (Nat.le_trans hn₀ hW.size)).trans (hKb _ _ hk')
    have d0 : wr.cell? ⟨Bs, 0, none⟩ = some (.pointer (some ⟨sb, 0, none⟩)) := by
      rcases HC.out with rfl | hk'
      · exact (HBW.out.cell (p := ⟨Bs, 0, none⟩) (cell_lt hBs')).trans hBs'
      · exact hKc W1 wr (hW.trans (HBW.out.mono hW.size)) hk'
    have d1 := (hBl.cell (p := ⟨sb, 0, none⟩) h2).trans hc0
    have HLM := hid (HSN.out.lm.below hBl h3)
    by_cases hlt : k < m
    · obtain ⟨x, hx⟩ : ∃ x, x = xs[k]'(by rw [← HMX.out]; exact hlt) := ⟨_, rfl⟩
      have hxm : x ∈ xs := by rw [hx]; exact List.getElem_mem _
      have hrow := HROW.out
      rw [← HMX.out] at hrow
      obtain ⟨zb, capz, cur, e1, hzb, hheap, hz1, hz2, hz3, hz4⟩ := ownsRow_block hrow (by omega)
      have hzW : W.heap.size ≤ zb := Nat.le_trans (by simp) hzb
      have hheap' : wr.heap[zb]? = some (.cells cur.toArray 3 (0, 0)) := by
        rcases HC.out with rfl | hk'
        · exact hheap
        · exact hKr W W1 wr hW HBW.out hk' zb _ hzW hheap rfl
      have hcell : wr.cell? ⟨zb, k, none⟩ = some (.int .i64 x.1.1) := by
        have h5 : cur[k]? = some (.int .i64 x.1.1) := by
          have h6 : (cur.take (m * 1))[k]? = cur[k]? := by rw [List.getElem?_take, if_pos (by omega)]
          rw [← h6, hz4, List.map_map, List.getElem?_map, List.getElem?_eq_getElem (by rw [← HMX.out]; exact hlt), ← hx]
          rfl
        rw [cell_block hheap' k, h5]
      cases e1
      have hzlt : zb < wr.heap.size := (Array.getElem?_eq_some_iff.1 hheap').1
      have hlk : (Instr.lookup 190 (.map (some mb)) (.int .i64 x.1.1) false).run Tryz.prog wr = .ok x.1.2.agg wr := by
        have h7 := HLM.out.lookup cl_keyed Tryz.underlying190 (zero_last wr) (keyOf_int_mk Tryz.underlying3 (clit_wf (c := x.1.1) (by have := x.2.1; omega) (by have := x.2.2.1; omega)))
        rw [show (Lit.int .i64 x.1.1) = clit x.1.1 from rfl, HSN.out.val, HAT.out x hxm] at h7
        exact h7
      have htk : xs.take (k + 1) = xs.take k ++ [x] := by rw [List.take_succ_eq_append_getElem (by rw [← HMX.out]; exact hlt), hx]
      have HTK := hid htk
      obtain ⟨fn, tmps, assign, body, hy, hR⟩ := hY (xs.take k) x wr HJ.out (by rw [List.length_take]; omega)
      unfold encCl at hy
      have HKP := hid (fun W3 (hk3 : Kp wr W3) => show wr = W1 ∧ Kp W1 W3 ∨ Kp W1 W3 from by
        rcases HC.out with rfl | hk'
        · exact .inl ⟨rfl, hk3⟩
        · exact .inr (hKt hk' hk3))
      clear hrow hheap hheap' hz1 hz2 hz3 hz4 hzb hzW hx hxm htk hBl
      gi_wp2
      refine ⟨fun _ => by omega, hR.mono ?_⟩
      rintro e W3 (⟨rfl, hJ3, hk3⟩ | ⟨rfl, hJx3⟩)
      · have HJ3 := hid hJ3
        have HK3 := hid (HKP.out W3 hk3)
        clear hJ3 hk3
        gi_wp2
        go_roundw
        case rel => exact ⟨k + 1, by omega, by go_num, by unfold Hid; rw [HTK.out]; exact HJ3.out, by rcases HK3.out with ⟨_, h⟩ | h <;> exact .inr h⟩
        case measure => simp [intOf]; omega
      · gi_wp2
        refine bodyPost_ret (results_none rfl _ _ _) rfl ?_
        exact ⟨⟨_, rfl⟩, .inr ⟨_, trivial, hJx3⟩⟩
    · have hkm : k = m := by omega
      subst hkm
      have hJE : J xs wr := by have := HJ.out; rwa [HMX.out, List.take_length] at this
      have HJE := hid hJE
      clear hJE hBl
      gi_wp2
      go_end0
      exact ⟨⟨_, rfl⟩, .inl ⟨xs, HXS.out, HJE.out⟩⟩
end Go.Proofs.YtifcnammekbfoaaGreatDoor
