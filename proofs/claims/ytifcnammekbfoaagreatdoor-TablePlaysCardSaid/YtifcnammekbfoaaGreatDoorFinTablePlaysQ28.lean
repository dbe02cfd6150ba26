/- SortP, TabJ: one text. -/
import Derived.Test.YtifcnammekbfoaaGreatDoorFinTablePlaysQ16
import Derived.Test.YtifcnammekbfoaaGreatDoorFinTablePlaysQ1
import Derived.Test.YtifcnammekbfoaaGreatDoorFinTablePlaysQ6
import Derived.Test.YtifcnammekbfoaaGreatDoorFinTablePlaysQ17
import Derived.Test.YtifcnammekbfoaaGreatDoorFinTablePlaysQ18
import Derived.Test.YtifcnammekbfoaaGreatDoorFinTablePlaysQ12
import Derived.Shelf.SlSortCmp.NoneTotal
import Derived.BigQuiet
/- slices.SortFunc at a table's pairs, by key: the row is permuted and in order; nothing else turns. -/
set_option linter.unusedVariables false
namespace Go.Proofs.YtifcnammekbfoaaGreatDoor
open Go.Shelf
def Tryz.sortPair_ren : Go.Shelf.Ren := ⟨fun | 6 => 110 | 15 => 154 | 14 => 153 | 28 => 172 | 29 => 173 | 20 => 164 | 21 => 165 | 22 => 166 | 23 => 167 | 24 => 168 | 25 => 169 | 26 => 170 | 27 => 171 | 46 => 178 | 47 => 179 | 48 => 180 | 49 => 181 | 50 => 182 | 57 => 185 | n => n, fun | 22 => 28 | 24 => 104 | 25 => 181 | 3 => 3 | 39 => 55 | 0 => 0 | 53 => 268 | 55 => 270 | 4 => 4 | 46 => 262 | 45 => 261 | 50 => 169 | 5 => 5 | 9 => 9 | 66 => 274 | 70 => 278 | 76 => 282 | 77 => 283 | n => n, fun | n => n⟩
theorem Tryz.sortPair : Go.Proofs.SlLaysF0.n6 Tryz.prog Tryz.sortPair_ren := {
  mixed := by kernel_rfl
  f6 := ⟨Tryz.f110.name, by decide, Tryz.func110.trans (congrArg some (by kernel_rfl))⟩
  f14 := ⟨Tryz.f153.name, by decide, Tryz.func153.trans (congrArg some (by kernel_rfl))⟩
  f15 := Tryz.func154.trans (congrArg some (by kernel_rfl))
  f20 := ⟨Tryz.f164.name, by decide, Tryz.func164.trans (congrArg some (by kernel_rfl))⟩
  f21 := ⟨Tryz.f165.name, by decide, Tryz.func165.trans (congrArg some (by kernel_rfl))⟩
  f22 := ⟨Tryz.f166.name, by decide, Tryz.func166.trans (congrArg some (by kernel_rfl))⟩
  f23 := ⟨Tryz.f167.name, by decide, Tryz.func167.trans (congrArg some (by kernel_rfl))⟩
  f24 := ⟨Tryz.f168.name, by decide, Tryz.func168.trans (congrArg some (by kernel_rfl))⟩
  f25 := ⟨Tryz.f169.name, by decide, Tryz.func169.trans (congrArg some (by kernel_rfl))⟩
  f26 := ⟨Tryz.f170.name, by decide, Tryz.func170.trans (congrArg some (by kernel_rfl))⟩
  f27 := ⟨Tryz.f171.name, by decide, Tryz.func171.trans (congrArg some (by kernel_rfl))⟩
  f28 := Tryz.func172.trans (congrArg some (by kernel_rfl))
  f29 := Tryz.func173.trans (congrArg some (by kernel_rfl))
  f46 := ⟨Tryz.f178.name, by decide, Tryz.func178.trans (congrArg some (by kernel_rfl))⟩
  f47 := Tryz.func179.trans (congrArg some (by kernel_rfl))
  f48 := Tryz.func180.trans (congrArg some (by kernel_rfl))
  f49 := ⟨Tryz.f181.name, by decide, Tryz.func181.trans (congrArg some (by kernel_rfl))⟩
  f50 := ⟨Tryz.f182.name, by decide, Tryz.func182.trans (congrArg some (by kernel_rfl))⟩
  f57 := ⟨Tryz.f185.name, by decide, Tryz.func185.trans (congrArg some (by kernel_rfl))⟩
  t0 := Tryz.underlying0
  a0 := Tryz.isAgg0
  z0 := Tryz.sizeOf0
  v0 := Tryz.zeroValue0
  t3 := Tryz.underlying3
  a3 := Tryz.isAgg3
  z3 := Tryz.sizeOf3
  v3 := Tryz.zeroValue3
  t4 := Tryz.underlying4
  a4 := Tryz.isAgg4
  z4 := Tryz.sizeOf4
  v4 := Tryz.zeroValue4
  t5 := Tryz.underlying5
  a5 := Tryz.isAgg5
  z5 := Tryz.sizeOf5
  v5 := Tryz.zeroValue5
  t9 := Tryz.underlying9
  a9 := Tryz.isAgg9
  z9 := Tryz.sizeOf9
  v9 := Tryz.zeroValue9
  t22 := Tryz.underlying28
  a22 := Tryz.isAgg28
  z22 := Tryz.sizeOf28
  v22 := Tryz.zeroValue28
  t25 := Tryz.underlying181
  a25 := Tryz.isAgg181
  z25 := Tryz.sizeOf181
  v25 := Tryz.zeroValue181
  t39 := Tryz.underlying55
  a39 := Tryz.isAgg55
  z39 := Tryz.sizeOf55
  v39 := Tryz.zeroValue55
  t45 := Tryz.underlying261
  a45 := Tryz.isAgg261
  z45 := Tryz.sizeOf261
  v45 := Tryz.zeroValue261
  t46 := Tryz.underlying262
  a46 := Tryz.isAgg262
  z46 := Tryz.sizeOf262
  v46 := Tryz.zeroValue262
  t50 := Tryz.underlying169
  a50 := Tryz.isAgg169
  z50 := Tryz.sizeOf169
  v50 := Tryz.zeroValue169
  t53 := Tryz.underlying268
  a53 := Tryz.isAgg268
  z53 := Tryz.sizeOf268
  v53 := Tryz.zeroValue268
  t55 := Tryz.underlying270
  a55 := Tryz.isAgg270
  z55 := Tryz.sizeOf270
  v55 := Tryz.zeroValue270
  t66 := Tryz.underlying274
  a66 := Tryz.isAgg274
  z66 := Tryz.sizeOf274
  v66 := Tryz.zeroValue274
  t70 := Tryz.underlying278
  a70 := Tryz.isAgg278
  z70 := Tryz.sizeOf278
  v70 := Tryz.zeroValue278
  t76 := Tryz.underlying282
  a76 := Tryz.isAgg282
  z76 := Tryz.sizeOf282
  v76 := Tryz.zeroValue282
  t77 := Tryz.underlying283
  a77 := Tryz.isAgg283
  z77 := Tryz.sizeOf283
  v77 := Tryz.zeroValue283 }

end Go.Proofs.YtifcnammekbfoaaGreatDoor

namespace Go.Proofs.YtifcnammekbfoaaGreatDoor
open Go.RowKit Go.Shelf Go.Lib Go.Sort
attribute [local go_sem] Oper.semAt_some

/-- Right texts, by rising runes: a strict weak order. -/
theorem swoKey {α : Type} (f : α → ByteArray) (hf : ∀ x, Pl.Ok (f x)) : SWO (ltOf fun x y => Pl.compare (f x) (f y)) where
  irrefl x := by
    simp only [ltOf, Pl.compare_self (hf x)]; decide
  trans x y z h k := by
    simp only [ltOf, decide_eq_true_eq] at *
    exact Pl.compare_trans (hf x) (hf y) (hf z) h k
  ntrans x y z h k := by
    simp only [ltOf, decide_eq_false_iff_not] at *
    intro hz
    have s1 := Pl.compare_swap (hf x) (hf y)
    have s2 := Pl.compare_swap (hf y) (hf z)
    by_cases h1 : Pl.compare (f y) (f x) < 0
    · have := Pl.compare_trans (hf y) (hf x) (hf z) h1 hz
      omega
    · have h2 : Pl.compare (f x) (f y) = 0 := by omega
      have e := Pl.compare_zero (hf x) (hf y) h2
      rw [e] at hz; omega

/-- A row laid anew. -/
theorem ownsRow_putRow {w : World} {B : Nat} {e : TypeId} {k g cap n : Nat} {L : List Value} (ho : w.ownsRow B e k (.slice (some ⟨g, 0, none⟩) n cap) n L) (h0 : 0 < n) (F : Array Value) (hF : F.size = n * k) :
    (putRow id w g 0 F).ownsRow B e k (.slice (some ⟨g, 0, none⟩) n cap) n F.toList ∧ Only (fun j => j = g) w (putRow id w g 0 F) := by
  obtain ⟨g', cap', cur, e1, hB, hg, hn, hc, hl, hx⟩ := ownsRow_block ho h0
  cases e1
  have hnk : n * k ≤ cap * k := Nat.mul_le_mul_right k hn
  have hheap : (putRow id w g 0 F).heap[g]? = some (.cells ((putCells id 0 F cur.toArray).toList).toArray e (0, 0)) := by
    unfold putRow mapBlock
    dsimp only
    rw [Array.getElem?_modify, if_pos rfl, hg]
    simp [onCells]
  refine ⟨ownsRow_of_block hB hheap hn hc ?_ ?_, ⟨rfl, rfl, rfl, ?_, ?_⟩⟩
  · unfold putCells; simp [hl]
  · apply List.ext_getElem?
    intro t
    rw [List.getElem?_take]
    by_cases ht : t < n * k
    · rw [if_pos ht]
      have h1 : (putCells id 0 F cur.toArray).toList[t]? = some F[t]! := by
        unfold putCells
        rw [Array.getElem?_toList, Array.getElem?_mapIdx]
        have : cur.toArray[t]? = some cur[t] := by simp [List.getElem?_eq_getElem (show t < cur.length by omega)]
        rw [this]
        simp only [Option.map_some, Nat.zero_le, Nat.zero_add, Nat.sub_zero, true_and, id]
        rw [if_pos (by omega)]
      rw [h1, Array.getElem?_toList, getElem!_pos F t (by omega), Array.getElem?_eq_getElem (by omega)]
    · rw [if_neg ht, Array.getElem?_toList, Array.getElem?_eq_none (by omega)]
  · unfold putRow mapBlock; simp
  · intro j hj hne
    unfold putRow mapBlock
    dsimp only
    rw [Array.getElem?_modify, if_neg (fun h => hne h.symm)]

/-- A pair whose key is a right text. -/
structure PrK where
  val : Pr
  ok : Pl.Ok val.key ∧ val.key.size ≤ 70368744177664
instance : Inhabited PrK := ⟨⟨Pr.none, ⟨[], rfl⟩, by decide⟩⟩
def encPr (x : PrK) : List Value := x.1.vals
def cfPr (x y : PrK) : Int := Pl.compare x.1.key y.1.key

theorem flat_pr (d : Array PrK) : (flatK encPr 3 d).toList = prFlat (d.toList.map PrK.val) := by
  apply List.ext_getElem?
  intro t
  by_cases ht : t < d.size * 3
  · have h1 : (flatK encPr 3 d).toList[t]? = some (flatK encPr 3 d)[t]! := by
      rw [Array.getElem?_toList, Array.getElem?_eq_getElem (by rw [size_flatK]; exact ht), getElem!_pos _ t (by rw [size_flatK]; exact ht)]
    have h2 := prFlat_get (t % 3) (Nat.mod_lt _ (by decide)) (d.toList.map PrK.val) (t / 3) (by simp; omega)
    rw [show t / 3 * 3 + t % 3 = t by omega] at h2
    rw [h1, h2, get_flatK _ _ _ _ ht, prAt_eq _ _ (by simp; omega)]
    have h3 : (d.toList.map PrK.val)[t / 3]'(by simp; omega) = (d[t / 3]!).1 := by
      rw [getElem!_pos d (t / 3) (by omega)]; simp
    rw [h3]
    unfold encPr
    have h4 : t % 3 < 3 := Nat.mod_lt _ (by decide)
    generalize t % 3 = r at h4
    generalize (d[t / 3]!).1 = c
    unfold Pr.vals
    match r, h4 with
    | 0, _ => rfl
    | 1, _ => rfl
    | 2, _ => rfl
  · rw [List.getElem?_eq_none (by rw [Array.length_toList, size_flatK]; omega), List.getElem?_eq_none (by rw [prFlat_length]; simp; omega)]

theorem joinLess (x y : PrK) (W : World) : Calls Tryz.prog 111 #[.agg #[.string x.1.key, .string x.1.val, .int .i64 x.1.ver], .agg #[.string y.1.key, .string y.1.val, .int .i64 y.1.ver]] W fun e w' => e = .returned (.int .i64 (cfPr x y)) ∧ GrewD W w' := by
  have hc := fun W => compareD_any x.1.key y.1.key W x.2.2 y.2.2
  change ∀ W, Calls Tryz.prog 66 _ W (fun e w' => e = .returned (.int .i64 (cfPr x y)) ∧ _) at hc
  have HC := hid hc
  clear hc
  generalize cfPr x y = r at HC ⊢
  go_enter Tryz.func111, Tryz.ntmps111
  go_wp2_with fail
  refine (HC.out _).mono ?_
  rintro e w1 ⟨rfl, hg⟩
  go_wp2_with fail
  go_ret
  exact ⟨rfl, (((GrewD.refl W).alloc _).alloc _).trans hg⟩

theorem cmpPr (blk off size : Nat) (w : World) : CmpLays Tryz.prog 111 #[] encPr 3 cfPr blk off size w :=
  fun _ _ _ _ x y => (joinLess x y _).mono fun _ _ ⟨he, hg⟩ => ⟨he, hg.grown⟩

def prK (xs : List Pr) (hok : ∀ c ∈ xs, Pl.Ok c.key ∧ c.key.size ≤ 70368744177664) : Array PrK := (xs.attach.map fun c => (⟨c.1, hok c.1 c.2⟩ : PrK)).toArray
theorem prK_val (xs : List Pr) (hok) : (prK xs hok).toList.map PrK.val = xs := by unfold prK; simp
theorem prK_size (xs : List Pr) (hok) : (prK xs hok).size = xs.length := by unfold prK; simp

theorem holds_pr {w : World} {B g cap : Nat} {xs : List Pr} (ho : w.ownsRow B 104 3 (.slice (some ⟨g, 0, none⟩) xs.length cap) xs.length (prFlat xs)) (h0 : 0 < xs.length) (hok : ∀ c ∈ xs, Pl.Ok c.key ∧ c.key.size ≤ 70368744177664) : HoldsK encPr 3 w g 0 (prK xs hok) := by
  obtain ⟨g', cap', cur, e, hB, hg, hn, hc, hl, hx⟩ := ownsRow_block ho h0
  cases e
  intro t ht
  have ht' := ht
  rw [size_flatK, prK_size] at ht'
  refine ⟨?_, ?_⟩
  · rw [Nat.zero_add, cell_block hg t]
    have h1 : cur[t]? = (prFlat xs)[t]? := by rw [← hx, List.getElem?_take, if_pos ht']
    have h2 := flat_pr (prK xs hok)
    rw [prK_val] at h2
    rw [h1, ← h2, Array.getElem?_toList, Array.getElem?_eq_getElem ht, getElem!_pos _ t ht]; rfl
  · unfold World.frozen?
    dsimp only
    rw [hg]
    rfl

/-- The sort of pairs. -/
theorem sortPairs (w : World) (B g cap : Nat) (xs : List Pr) (ho : w.ownsRow B 104 3 (.slice (some ⟨g, 0, none⟩) xs.length cap) xs.length (prFlat xs)) (h0 : 0 < xs.length) (hbig : xs.length ≤ 1000000) (hok : ∀ c ∈ xs, Pl.Ok c.key ∧ c.key.size ≤ 70368744177664) :
    Calls Tryz.prog 110 #[.slice (some ⟨g, 0, none⟩) xs.length cap, .func (.func 111) #[] #[]] w fun e w' => e = .returned (.tuple #[]) ∧ Only (fun j => j = g) w w' ∧ ∃ zs : List Pr, zs.Perm xs ∧ zs.Pairwise (fun a b => ¬ Pl.compare b.key a.key < 0) ∧ w'.ownsRow B 104 3 (.slice (some ⟨g, 0, none⟩) zs.length cap) zs.length (prFlat zs) := by
  have hH := holds_pr ho h0 hok
  have hlt : g < w.heap.size := by
    obtain ⟨_, _, e, _, hlt⟩ := ho.form h0
    cases e
    exact hlt
  have eg : ∀ args w, (callFunc 111 args).run Tryz.prog w = .ok (.enter 111 args) w := enters_of Tryz.func111 (by kernel_rfl) rfl
  have hcon := AnyQ.slices_SortFunc Tryz.sortPair 3 Tryz.isAgg104 Tryz.sizeOf104 encPr (fun _ => rfl) (fun x v hv => by simp [encPr, Pr.vals] at hv; rcases hv with rfl | rfl | rfl <;> rfl) cfPr (swoKey (fun x : PrK => x.1.key) fun x => x.2.1) 111 #[] g 0 cap (prK xs hok) w eg (cmpPr g 0 _ w) hH hlt (by rw [prK_size]; omega)
  rw [prK_size] at hcon
  refine hcon.mono ?_
  rintro e w' ⟨he, d', n, os, hp, hd, hw⟩
  obtain ⟨hs, _, hperm⟩ := hp
  rw [prK_size] at hs
  have e1 : (prK xs hok).extract 0 xs.length = prK xs hok := by rw [← prK_size xs hok]; simp
  have e2 : d'.extract 0 xs.length = d' := by rw [← hs]; simp
  rw [e1, e2] at hperm
  have hlen : (d'.toList.map PrK.val).length = xs.length := by simp [hs]
  obtain ⟨hr, hO⟩ := ownsRow_putRow (w := Sort.ahead w n) (show (Sort.ahead w n).ownsRow B 104 3 _ _ _ from ho) h0 (flatK encPr 3 d') (by rw [size_flatK, hs])
  have hO1 : Only (fun j => j = g) w (putRow id (Sort.ahead w n) g 0 (flatK encPr 3 d')) := (Only.mono (show Only (fun j => j = g) w (Sort.ahead w n) from ⟨rfl, rfl, rfl, Nat.le_refl _, fun _ _ _ => rfl⟩) (fun _ h => .inl h)).then hO
  have hG : Grew (putRow id (Sort.ahead w n) g 0 (flatK encPr 3 d')) w' := by
    rw [hw]
    refine ⟨rfl, rfl, rfl, ?_, ?_⟩
    · unfold sortWorldK grow putRowK; simp
    · intro k hk
      show (_ ++ os)[k]? = _
      rw [Array.getElem?_append]
      exact if_pos hk
  refine ⟨he, hO1.grewT hG, d'.toList.map PrK.val, ?_, ?_, ?_⟩
  · have := hperm.map PrK.val
    rwa [prK_val] at this
  · rw [List.pairwise_map, List.pairwise_iff_getElem]
    intro i j hi hj hij
    have := hd i j (Nat.zero_le _) hij (by simpa [hs] using hj)
    rw [getElem!_pos d' i (by simpa using hi), getElem!_pos d' j (by simpa using hj)] at this
    unfold ltOf cfPr at this
    simpa using this
  · rw [hlen, ← flat_pr]
    exact ownsRow_grew hG hr
end Go.Proofs.YtifcnammekbfoaaGreatDoor

/- The walk of table.Join. -/
namespace Go.Proofs.YtifcnammekbfoaaGreatDoor
open Go.RowKit Go.Shelf Go.Lib Go.Sort Go.Maps
attribute [local go_sem] Oper.semAt_some

namespace Pl
/-- In order, by keys. -/
def Ordered (zs : List Pr) : Prop := zs.Pairwise fun a b => ¬ compare b.key a.key < 0
end Pl
/-- The sort of pairs, however many. -/
theorem sortP_any (w : World) (B : Nat) (a : Option Addr) (n cap : Nat) (xs : List Pr) (hn : n = xs.length) (ho : w.ownsRow B 104 3 (.slice a n cap) n (prFlat xs)) (hbig : n ≤ 1000000) (hok : ∀ c ∈ xs, Pl.Ok c.key ∧ c.key.size ≤ 70368744177664) :
    Calls Tryz.prog 110 #[.slice a n cap, .func (.func 111) #[] #[]] w fun e w' => e = .returned (.tuple #[]) ∧ Only (fun j => some j = Value.ownBlock (.slice a n cap)) w w' ∧ ∃ zs : List Pr, zs.Perm xs ∧ Pl.Ordered zs ∧ w'.ownsRow B 104 3 (.slice a n cap) n (prFlat zs) := by
  subst hn
  rcases Nat.eq_zero_or_pos xs.length with h0 | h0
  · have e := List.eq_nil_of_length_eq_zero h0
    subst e
    refine (AnyF.slices_SortFunc_none Tryz.sortPair a cap (.func (.func 111) #[] #[]) w).mono ?_
    rintro e w' ⟨rfl, rfl⟩
    exact ⟨rfl, ⟨rfl, rfl, rfl, Nat.le_refl _, fun _ _ _ => rfl⟩, [], .refl _, List.Pairwise.nil, ho⟩
  · obtain ⟨g, cap', e, _⟩ := ho.form h0
    cases e
    refine (sortPairs w B g cap xs ho h0 hbig hok).mono ?_
    rintro e w' ⟨rfl, hO, zs, hp, hs, hr⟩
    refine ⟨rfl, hO.mono fun j hj => .inl (by rw [hj]; rfl), zs, hp, hs, ?_⟩
    rwa [hp.length_eq] at hr

theorem toListJ_inj {a b : ByteArray} (h : a.toList = b.toList) : a = b := by
  rw [ByteArray.toList_eq, ByteArray.toList_eq] at h
  obtain ⟨⟨a⟩⟩ := a
  obtain ⟨⟨b⟩⟩ := b
  exact congrArg (fun l : List UInt8 => (⟨⟨l⟩⟩ : ByteArray)) h
/-- What a join leaves. -/
def JoinEnd (w : World) (F : Nat → Prop) (tb : Nat) (v : Value) (ys : List Pr) (e : Ending) (w' : World) : Prop :=
  ∃ zs : List Pr, zs.Perm ys ∧ Pl.Ordered zs ∧ ((Pl.dupN zs = true ∧ e = .returned v ∧ Grew w w') ∨ (Pl.dupN zs = false ∧ e = .returned .nilIface ∧ TabTurn w F tb zs w'))
theorem join_turn {w w3 : World} {F : Nat → Prop} {tb : Nat} {xs zs ys : List Pr} {v : Value} (h : TabAt w F tb xs) (g : Grew w w3) (hr : w3.ownsRow w.heap.size 104 3 v zs.length (prFlat zs)) (hp : zs.Perm ys) (hz : Pl.Ordered zs) (hd : Pl.dupN zs = false) (hk : ∀ c ∈ ys, Pl.keyN c.key = 0 ∧ c.key.size ≤ 70368744177664) :
    TabTurn w F tb zs (w3.setCell ⟨tb, 0, none⟩ v) := by
  have htb : tb < w.heap.size := tabAt_lt h _ (tabAt_foot h)
  have o5 := Only.setCell w3 ⟨tb, 0, none⟩ v
  obtain ⟨v0, hT⟩ := h
  have hc := (g.cells.1 _ 0 htb).trans hT.cell
  have hf := (g.cells.2 _ 0 htb).trans hT.fz
  have hk' : ∀ c ∈ zs, Pl.keyN c.key = 0 ∧ c.key.size ≤ 70368744177664 := fun c hc => hk c (hp.mem_iff.1 hc)
  refine ⟨(g.only F).then (o5.mono fun j hj => .inl (by subst hj; exact hT.foot0)), _, tabAt_mk (B := w.heap.size) (v := v) (by simp [World.cell?_setCell_same, hc]) (by rw [World.frozen?_setCell]; exact hf) (ownsRow_kept hr o5 (fun b hb e => by have := (hr.lt b hb).1; simp at e; omega)) (.inl htb) (Pl.srt_sorted (fun c hc => (hk' c hc).1) hz hd) (fun c hc => (hk' c hc).2), ?_⟩
  rintro j (rfl | ⟨_, hj⟩)
  · exact .inl hT.foot0
  · exact .inr hj

set_option maxRecDepth 100000 in
set_option maxHeartbeats 4000000 in
theorem joinT_any {S : Nat → Bool} (E : Nat → Addr) (hS18 : S 18 = true) {w : World} (hE : Errs S E w) {F G : Nat → Prop} {tb ob : Nat} {xs ys : List Pr} (h : TabAt w F tb xs) (k : TabAt w G ob ys) (hx : xs.length + ys.length ≤ 1000000) :
    Calls Tryz.prog 55 #[.pointer (some ⟨tb, 0, none⟩), .pointer (some ⟨ob, 0, none⟩)] w fun e w' => JoinEnd w F tb (.iface 293 (.pointer (some (E 18)))) (xs ++ ys) e w' := by
  have HT := hid h
  have hok : ∀ c ∈ xs ++ ys, Pl.keyN c.key = 0 ∧ c.key.size ≤ 70368744177664 := fun c hc => by
    rcases List.mem_append.1 hc with hc | hc
    · exact ⟨(tabAt_srt h).key c hc, tabAt_sz h c hc⟩
    · exact ⟨(tabAt_srt k).key c hc, tabAt_sz k c hc⟩
  have HEND := hid (fun (w3 : World) (v : Value) (zs : List Pr) (g : Grew w w3) hr hp hz hd => join_turn (w3 := w3) (zs := zs) (v := v) h g hr hp hz hd hok)
  have HOK := hid (fun c hc => And.intro (Pl.ok_key (hok c hc).1) (hok c hc).2)
  have htb : tb < w.heap.size := tabAt_lt h _ (tabAt_foot h)
  have hob : ob < w.heap.size := tabAt_lt k _ (tabAt_foot k)
  have g18 : w.cell? ⟨17, 0, none⟩ = some (.iface 293 (.pointer (some (E 18)))) := hE.cell 18 hS18
  have b18 : 17 < w.heap.size := cell_lt g18
  obtain ⟨v1, h⟩ := h
  obtain ⟨v2, k⟩ := k
  obtain ⟨a1, c1, rfl, A1⟩ := pairsAt_of h.row
  obtain ⟨a2, c2, rfl, A2⟩ := pairsAt_of k.row
  have F1 := slForm_of h.row
  have F2 := slForm_of k.row
  have C1 := h.cell
  have C2 := k.cell
  have fz := h.fz
  have HC := hid (fun (W : World) (g : Grew w W) vb h1 h2 => concatP W vb a1 a2 c1 c2 xs ys h1 h2 (A1.grew g) (A2.grew g) F1 F2 (by omega) (by omega))
  clear h k hE A1 A2 F1 F2 hok
  have E1 := wd_cell C1
  have E2 := wd_cell C2
  go_enter Tryz.func55, Tryz.ntmps55
  go_wp2_with fail
  refine wp_region_mix 8 [] (Grew w) Eq (fun _ _ x => x = w.drew) (fun _ a => a) (by kernel_rfl) (by kernel_rfl) (fun _ _ => rfl) rfl (fun _ _ x h => by rw [h]; exact (Grew.refl w).drew) (fun _ => rfl) (fun _ _ _ _ h g => g ▸ h) ?_
  repeat (first
    | (refine wpMix_loose (by rfl) (by rfl) ?_)
    | (refine wpMix_plain (by rfl) (by rfl) (by rfl) (by first | exact Grew.refl | exact fun _ => rfl) (by rfl) ?_; intro K hK; go_big_quiet_op; go_big_quiet_on)
    | (refine wpMix_skip (by rfl) (by rfl) (by rfl) ?_; simp only [Act.put, List.setIfInBounds_toArray, List.set_cons_zero, List.set_cons_succ]))
  refine wpMix_done (by rfl) ⟨trivial, ?_⟩
  rintro f0 x rfl
  dsimp only [List.drop]
  go_wp2_with fail
  refine (HC.out _ (((Grew.refl w).drew).alloc _) w.heap.size (by simp [go_sem]) (by simp [go_sem])).mono ?_
  rintro e w1 ⟨a, cap, rfl, hr, hg⟩
  have hG1 : Grew w w1 := (((Grew.refl w).drew).alloc _).trans hg
  have hB1 : w.heap.size ≤ (w.drew.alloc (.cells #[.slice a1 xs.length c1, .slice a2 ys.length c2] 28)).heap.size := (((Grew.refl w).drew).alloc _).size
  have hr1 : w1.ownsRow w.heap.size 104 3 (.slice a (xs.length + ys.length) cap) (xs.length + ys.length) (prFlat (xs ++ ys)) := by
    refine ⟨hr.1, ?_⟩
    rcases hr.2 with h | ⟨b, c, cur, e1, h5, h6⟩
    · exact .inl h
    · exact .inr ⟨b, c, cur, e1, by simp at h5; omega, h6⟩
  have hnl : Hid (xs.length + ys.length = (xs ++ ys).length) := List.length_append.symm
  have hSort := hid (sortP_any w1 w.heap.size a (xs.length + ys.length) cap (xs ++ ys) hnl.out hr1 hx HOK.out)
  have hown : ∀ j, some j = Value.ownBlock (.slice a (xs.length + ys.length) cap) → w.heap.size ≤ j := fun j hj => (hr1.lt j hj.symm).1
  have HOWN := hid hown
  have HG1 := hid hG1
  clear hr hg hB1 hr1 hown hG1 HC E1 E2
  obtain ⟨L, hL⟩ : ∃ L, L = xs ++ ys := ⟨_, rfl⟩
  have HL := hid hL
  rw [← hL] at hSort hnl HEND HOK
  clear hL
  generalize xs.length + ys.length = n at *
  go_wp2_with fail
  refine hSort.out.mono ?_
  rintro e w2 ⟨rfl, hO, zs, hp, hz, hr2⟩
  have hG2 : Grew w w2 := ((HG1.out.only _).then hO).grew HOWN.out
  obtain ⟨a', cap', e', A2⟩ := pairsAt_of (show w2.ownsRow w.heap.size 104 3 (.slice a n cap) zs.length (prFlat zs) by rw [hp.length_eq, ← hnl.out]; exact hr2)
  cases e'
  have HA2 := hid A2
  have HR2 := hid hr2
  have HP := hid hp
  have HZ := hid hz
  have HG2 := hid hG2
  clear hr2 hp hz hO A2 hnl hSort HOWN
  have C1' := (hG2.cells.1 _ 0 htb).trans C1
  have fz' := (hG2.cells.2 _ 0 htb).trans fz
  have g18' := (hG2.cells.1 _ 0 b18).trans g18
  have htb' := Nat.lt_of_lt_of_le htb hG2.size
  have b18' := Nat.lt_of_lt_of_le b18 hG2.size
  have hzB : (zs.length : Int) ≤ 1000000 := by omega
  clear C1 C2 g18 hG2 fz
  go_wp2_with fail
  go_loopw [21] (fun i wr => ∃ k : Nat, k ≤ zs.length ∧ i = .int .i64 k ∧ Hid (∀ j, j + 1 < k → (prAt zs j).key ≠ (prAt zs (j + 1)).key) ∧ Grew w2 wr) (fun i _ => zs.length - (intOf i).toNat)
  case atStart => exact ⟨0, Nat.zero_le _, rfl, fun j hj => absurd hj (by omega), Grew.refl _⟩
  case round =>
    obtain ⟨k, hk1, rfl, HN, hGk⟩ := hrel
    have g18k := (hGk.cells.1 _ 0 b18').trans g18'
    by_cases hlt : k < zs.length
    · rcases HA2.out with h0 | ⟨b, off, rfl, hb, hR⟩
      · rw [h0] at hlt; simp at hlt
      have hltI : (k : Int) < (zs.length : Int) := by omega
      cases k with
      | zero =>
        clear hR
        go_wp2_with fail
        go_quiet (fail)
        all_goals (
          go_wp2_with fail
          go_roundw
          case rel => exact ⟨0 + 1, by omega, by go_num, fun j hj => absurd hj (by omega), hGk.drewN _⟩
          case measure => simp [intOf]; omega)
      | succ m =>
        have q0 := (hGk.cells.1 b (off + (m + 1) * 3) hb).trans (hR.key (m + 1) hlt)
        have p0 := (hGk.cells.1 b (off + m * 3) hb).trans (hR.key m (by omega))
        have HD : Hid ((prAt zs m).key = (prAt zs (m + 1)).key → Pl.dupN zs = true) := fun h => Pl.dup_some m hlt h
        have HN2 : Hid ((prAt zs m).key ≠ (prAt zs (m + 1)).key → ∀ j, j + 1 < m + 1 + 1 → (prAt zs j).key ≠ (prAt zs (j + 1)).key) := fun h j hj => by
          by_cases hjm : j = m
          · subst hjm; exact h
          · exact HN.out j (by omega)
        clear hR
        generalize (prAt zs m).key = x0 at *
        generalize (prAt zs (m + 1)).key = x1 at *
        have i2 : ((m : Int) + 1) - 1 = (m : Int) := by omega
        have i3 : (m : Int) < (zs.length : Int) := by omega
        have i5 : m < zs.length := by omega
        have i6 : IntKind.i64.wrap (m : Int) = (m : Int) := IntWalk.i64_in _ (by omega)
        have hd2 : decide ((0 : Int) < (m : Int) + 1) = true := decide_eq_true (by omega)
        by_cases heq : x0 = x1
        · have HDD := hid (HD.out heq)
          subst heq
          have hbb : (x0.toList == x0.toList) = true := beq_self_eq_true _
          go_wp2_with fail
          go_quiet (fail)
          all_goals (
            go_wp2_with fail
            go_ret
            exact ⟨zs, HL.out ▸ HP.out, HZ.out, .inl ⟨HDD.out, rfl, (HG2.out.trans hGk).drewN _⟩⟩)
        · have HNN := hid (HN2.out heq)
          have hbb : (x1.toList == x0.toList) = false := beq_eq_false_iff_ne.2 fun h => heq (toListJ_inj h).symm
          clear HD HN2
          go_wp2_with fail
          go_quiet (fail)
          all_goals (
            go_wp2_with fail
            go_roundw
            case rel => exact ⟨m + 1 + 1, by omega, by go_num, HNN, hGk.drewN _⟩
            case measure => simp [intOf]; omega)
    · obtain rfl : k = zs.length := by omega
      have HDD : Hid (Pl.dupN zs = false) := Pl.dup_none fun i hi => HN.out i hi
      have HTT := hid (HEND.out wr _ zs (HG2.out.trans hGk) (ownsRow_grew hGk HR2.out) HP.out HZ.out HDD.out)
      have C1k := (hGk.cells.1 _ 0 htb').trans C1'
      have fk := (hGk.cells.2 _ 0 htb').trans fz'
      clear C1' fz'
      go_wp2_with fail
      go_ret
      exact ⟨zs, HL.out ▸ HP.out, HZ.out, .inr ⟨HDD.out, rfl, HTT.out⟩⟩
end Go.Proofs.YtifcnammekbfoaaGreatDoor
