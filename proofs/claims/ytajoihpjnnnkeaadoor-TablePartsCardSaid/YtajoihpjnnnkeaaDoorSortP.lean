/- slices.SortFunc at a table's pairs, by key: the row is permuted and in order; nothing else turns. -/
import Derived.Test.YtajoihpjnnnkeaaDoorCmpD
import Derived.Test.YtajoihpjnnnkeaaDoorRowK
import Derived.Test.YtajoihpjnnnkeaaDoorTab1
set_option linter.unusedVariables false
namespace Go.Proofs.YtajoihpjnnnkeaaDoor
open Go.Shelf
def Tryd.sortPair_ren : Go.Shelf.Ren := ⟨fun | 6 => 72 | 15 => 111 | 14 => 110 | 28 => 139 | 29 => 140 | 20 => 131 | 21 => 132 | 22 => 133 | 23 => 134 | 24 => 135 | 25 => 136 | 26 => 137 | 27 => 138 | 46 => 156 | 47 => 157 | 48 => 158 | 49 => 159 | 50 => 160 | 57 => 168 | n => n, fun | 22 => 61 | 24 => 64 | 25 => 132 | 3 => 3 | 39 => 78 | 0 => 0 | 53 => 219 | 55 => 221 | 4 => 4 | 46 => 213 | 45 => 212 | 50 => 122 | 5 => 5 | 9 => 9 | 66 => 241 | 70 => 245 | 76 => 253 | 77 => 254 | n => n, fun | n => n⟩
theorem Tryd.sortPair : Go.Proofs.SlLaysF0.n6 Tryd.prog Tryd.sortPair_ren := {
  mixed := by kernel_rfl
  f6 := ⟨Tryd.f72.name, by decide, Tryd.func72.trans (congrArg some (by kernel_rfl))⟩
  f14 := ⟨Tryd.f110.name, by decide, Tryd.func110.trans (congrArg some (by kernel_rfl))⟩
  f15 := Tryd.func111.trans (congrArg some (by kernel_rfl))
  f20 := ⟨Tryd.f131.name, by decide, Tryd.func131.trans (congrArg some (by kernel_rfl))⟩
  f21 := ⟨Tryd.f132.name, by decide, Tryd.func132.trans (congrArg some (by kernel_rfl))⟩
  f22 := ⟨Tryd.f133.name, by decide, Tryd.func133.trans (congrArg some (by kernel_rfl))⟩
  f23 := ⟨Tryd.f134.name, by decide, Tryd.func134.trans (congrArg some (by kernel_rfl))⟩
  f24 := ⟨Tryd.f135.name, by decide, Tryd.func135.trans (congrArg some (by kernel_rfl))⟩
  f25 := ⟨Tryd.f136.name, by decide, Tryd.func136.trans (congrArg some (by kernel_rfl))⟩
  f26 := ⟨Tryd.f137.name, by decide, Tryd.func137.trans (congrArg some (by kernel_rfl))⟩
  f27 := ⟨Tryd.f138.name, by decide, Tryd.func138.trans (congrArg some (by kernel_rfl))⟩
  f28 := Tryd.func139.trans (congrArg some (by kernel_rfl))
  f29 := Tryd.func140.trans (congrArg some (by kernel_rfl))
  f46 := ⟨Tryd.f156.name, by decide, Tryd.func156.trans (congrArg some (by kernel_rfl))⟩
  f47 := Tryd.func157.trans (congrArg some (by kernel_rfl))
  f48 := Tryd.func158.trans (congrArg some (by kernel_rfl))
  f49 := ⟨Tryd.f159.name, by decide, Tryd.func159.trans (congrArg some (by kernel_rfl))⟩
  f50 := ⟨Tryd.f160.name, by decide, Tryd.func160.trans (congrArg some (by kernel_rfl))⟩
  f57 := ⟨Tryd.f168.name, by decide, Tryd.func168.trans (congrArg some (by kernel_rfl))⟩
  t0 := Tryd.underlying0
  a0 := Tryd.isAgg0
  z0 := Tryd.sizeOf0
  v0 := Tryd.zeroValue0
  t3 := Tryd.underlying3
  a3 := Tryd.isAgg3
  z3 := Tryd.sizeOf3
  v3 := Tryd.zeroValue3
  t4 := Tryd.underlying4
  a4 := Tryd.isAgg4
  z4 := Tryd.sizeOf4
  v4 := Tryd.zeroValue4
  t5 := Tryd.underlying5
  a5 := Tryd.isAgg5
  z5 := Tryd.sizeOf5
  v5 := Tryd.zeroValue5
  t9 := Tryd.underlying9
  a9 := Tryd.isAgg9
  z9 := Tryd.sizeOf9
  v9 := Tryd.zeroValue9
  t22 := Tryd.underlying61
  a22 := Tryd.isAgg61
  z22 := Tryd.sizeOf61
  v22 := Tryd.zeroValue61
  t25 := Tryd.underlying132
  a25 := Tryd.isAgg132
  z25 := Tryd.sizeOf132
  v25 := Tryd.zeroValue132
  t39 := Tryd.underlying78
  a39 := Tryd.isAgg78
  z39 := Tryd.sizeOf78
  v39 := Tryd.zeroValue78
  t45 := Tryd.underlying212
  a45 := Tryd.isAgg212
  z45 := Tryd.sizeOf212
  v45 := Tryd.zeroValue212
  t46 := Tryd.underlying213
  a46 := Tryd.isAgg213
  z46 := Tryd.sizeOf213
  v46 := Tryd.zeroValue213
  t50 := Tryd.underlying122
  a50 := Tryd.isAgg122
  z50 := Tryd.sizeOf122
  v50 := Tryd.zeroValue122
  t53 := Tryd.underlying219
  a53 := Tryd.isAgg219
  z53 := Tryd.sizeOf219
  v53 := Tryd.zeroValue219
  t55 := Tryd.underlying221
  a55 := Tryd.isAgg221
  z55 := Tryd.sizeOf221
  v55 := Tryd.zeroValue221
  t66 := Tryd.underlying241
  a66 := Tryd.isAgg241
  z66 := Tryd.sizeOf241
  v66 := Tryd.zeroValue241
  t70 := Tryd.underlying245
  a70 := Tryd.isAgg245
  z70 := Tryd.sizeOf245
  v70 := Tryd.zeroValue245
  t76 := Tryd.underlying253
  a76 := Tryd.isAgg253
  z76 := Tryd.sizeOf253
  v76 := Tryd.zeroValue253
  t77 := Tryd.underlying254
  a77 := Tryd.isAgg254
  z77 := Tryd.sizeOf254
  v77 := Tryd.zeroValue254 }

end Go.Proofs.YtajoihpjnnnkeaaDoor

namespace Go.Proofs.YtajoihpjnnnkeaaDoor
open Go.RowKit Go.Shelf Go.Lib Go.Sort
attribute [local go_sem] Oper.semAt_some

/-- Right texts, by rising runes: a strict weak order. -/
theorem swoKey {α : Type} (f : α → ByteArray) (hf : ∀ x, Pl.Ok (f x)) : SWO (ltOf fun x y => Pl.compare (f x) (f y)) where
  irrefl x := by
    simp only [ltOf, Pl.compare_self (hf x)]; decide
  trans x y z h k := by
    simp only [ltOf, decide_eq_true_eq] at *
    exact Pl.compare_trans (hf x) (hf y) (hf z) h k
  ntrans x y z h k := by
    simp only [ltOf, decide_eq_false_iff_not] at *
    intro hz
    have s1 := Pl.compare_swap (hf x) (hf y)
    have s2 := Pl.compare_swap (hf y) (hf z)
    by_cases h1 : Pl.compare (f y) (f x) < 0
    · have := Pl.compare_trans (hf y) (hf x) (hf z) h1 hz
      omega
    · have h2 : Pl.compare (f x) (f y) = 0 := by omega
      have e := Pl.compare_zero (hf x) (hf y) h2
      rw [e] at hz; omega

/-- A row laid anew. -/
theorem ownsRow_putRow {w : World} {B : Nat} {e : TypeId} {k g cap n : Nat} {L : List Value} (ho : w.ownsRow B e k (.slice (some ⟨g, 0, none⟩) n cap) n L) (h0 : 0 < n) (F : Array Value) (hF : F.size = n * k) :
    (putRow id w g 0 F).ownsRow B e k (.slice (some ⟨g, 0, none⟩) n cap) n F.toList ∧ Only (fun j => j = g) w (putRow id w g 0 F) := by
  obtain ⟨g', cap', cur, e1, hB, hg, hn, hc, hl, hx⟩ := ownsRow_block ho h0
  cases e1
  have hnk : n * k ≤ cap * k := Nat.mul_le_mul_right k hn
  have hheap : (putRow id w g 0 F).heap[g]? = some (.cells ((putCells id 0 F cur.toArray).toList).toArray e (0, 0)) := by
    unfold putRow mapBlock
    dsimp only
    rw [Array.getElem?_modify, if_pos rfl, hg]
    simp [onCells]
  refine ⟨ownsRow_of_block hB hheap hn hc ?_ ?_, ⟨rfl, rfl, rfl, ?_, ?_⟩⟩
  · unfold putCells; simp [hl]
  · apply List.ext_getElem?
    intro t
    rw [List.getElem?_take]
    by_cases ht : t < n * k
    · rw [if_pos ht]
      have h1 : (putCells id 0 F cur.toArray).toList[t]? = some F[t]! := by
        unfold putCells
        rw [Array.getElem?_toList, Array.getElem?_mapIdx]
        have : cur.toArray[t]? = some cur[t] := by simp [List.getElem?_eq_getElem (show t < cur.length by omega)]
        rw [this]
        simp only [Option.map_some, Nat.zero_le, Nat.zero_add, Nat.sub_zero, true_and, id]
        rw [if_pos (by omega)]
      rw [h1, Array.getElem?_toList, getElem!_pos F t (by omega), Array.getElem?_eq_getElem (by omega)]
    · rw [if_neg ht, Array.getElem?_toList, Array.getElem?_eq_none (by omega)]
  · unfold putRow mapBlock; simp
  · intro j hj hne
    unfold putRow mapBlock
    dsimp only
    rw [Array.getElem?_modify, if_neg (fun h => hne h.symm)]

/-- A pair whose key is a right text. -/
structure PrK where
  val : Pr
  ok : Pl.Ok val.key ∧ val.key.size ≤ 70368744177664
instance : Inhabited PrK := ⟨⟨Pr.none, ⟨[], rfl⟩, by decide⟩⟩
def encPr (x : PrK) : List Value := x.1.vals
def cfPr (x y : PrK) : Int := Pl.compare x.1.key y.1.key

theorem flat_pr (d : Array PrK) : (flatK encPr 3 d).toList = prFlat (d.toList.map PrK.val) := by
  apply List.ext_getElem?
  intro t
  by_cases ht : t < d.size * 3
  · have h1 : (flatK encPr 3 d).toList[t]? = some (flatK encPr 3 d)[t]! := by
      rw [Array.getElem?_toList, Array.getElem?_eq_getElem (by rw [size_flatK]; exact ht), getElem!_pos _ t (by rw [size_flatK]; exact ht)]
    have h2 := prFlat_get (t % 3) (Nat.mod_lt _ (by decide)) (d.toList.map PrK.val) (t / 3) (by simp; omega)
    rw [show t / 3 * 3 + t % 3 = t by omega] at h2
    rw [h1, h2, get_flatK _ _ _ _ ht, prAt_eq _ _ (by simp; omega)]
    have h3 : (d.toList.map PrK.val)[t / 3]'(by simp; omega) = (d[t / 3]!).1 := by
      rw [getElem!_pos d (t / 3) (by omega)]; simp
    rw [h3]
    unfold encPr
    have h4 : t % 3 < 3 := Nat.mod_lt _ (by decide)
    generalize t % 3 = r at h4
    generalize (d[t / 3]!).1 = c
    unfold Pr.vals
    match r, h4 with
    | 0, _ => rfl
    | 1, _ => rfl
    | 2, _ => rfl
  · rw [List.getElem?_eq_none (by rw [Array.length_toList, size_flatK]; omega), List.getElem?_eq_none (by rw [prFlat_length]; simp; omega)]

theorem joinLess (x y : PrK) (W : World) : Calls Tryd.prog 73 #[.agg #[.string x.1.key, .string x.1.val, .int .i64 x.1.ver], .agg #[.string y.1.key, .string y.1.val, .int .i64 y.1.ver]] W fun e w' => e = .returned (.int .i64 (cfPr x y)) ∧ GrewD W w' := by
  have hc := fun W => compareD_any x.1.key y.1.key W x.2.2 y.2.2
  change ∀ W, Calls Tryd.prog 68 _ W (fun e w' => e = .returned (.int .i64 (cfPr x y)) ∧ _) at hc
  have HC := hid hc
  clear hc
  generalize cfPr x y = r at HC ⊢
  go_enter Tryd.func73, Tryd.ntmps73
  go_wp2_with fail
  refine (HC.out _).mono ?_
  rintro e w1 ⟨rfl, hg⟩
  go_wp2_with fail
  go_ret
  exact ⟨rfl, (((GrewD.refl W).alloc _).alloc _).trans hg⟩

theorem cmpPr (blk off size : Nat) (w : World) : CmpLays Tryd.prog 73 #[] encPr 3 cfPr blk off size w :=
  fun _ _ _ _ x y => (joinLess x y _).mono fun _ _ ⟨he, hg⟩ => ⟨he, hg.grown⟩

def prK (xs : List Pr) (hok : ∀ c ∈ xs, Pl.Ok c.key ∧ c.key.size ≤ 70368744177664) : Array PrK := (xs.attach.map fun c => (⟨c.1, hok c.1 c.2⟩ : PrK)).toArray
theorem prK_val (xs : List Pr) (hok) : (prK xs hok).toList.map PrK.val = xs := by unfold prK; simp
theorem prK_size (xs : List Pr) (hok) : (prK xs hok).size = xs.length := by unfold prK; simp

theorem holds_pr {w : World} {B g cap : Nat} {xs : List Pr} (ho : w.ownsRow B 64 3 (.slice (some ⟨g, 0, none⟩) xs.length cap) xs.length (prFlat xs)) (h0 : 0 < xs.length) (hok : ∀ c ∈ xs, Pl.Ok c.key ∧ c.key.size ≤ 70368744177664) : HoldsK encPr 3 w g 0 (prK xs hok) := by
  obtain ⟨g', cap', cur, e, hB, hg, hn, hc, hl, hx⟩ := ownsRow_block ho h0
  cases e
  intro t ht
  have ht' := ht
  rw [size_flatK, prK_size] at ht'
  refine ⟨?_, ?_⟩
  · rw [Nat.zero_add, cell_block hg t]
    have h1 : cur[t]? = (prFlat xs)[t]? := by rw [← hx, List.getElem?_take, if_pos ht']
    have h2 := flat_pr (prK xs hok)
    rw [prK_val] at h2
    rw [h1, ← h2, Array.getElem?_toList, Array.getElem?_eq_getElem ht, getElem!_pos _ t ht]; rfl
  · unfold World.frozen?
    dsimp only
    rw [hg]
    rfl

/-- The sort of pairs. -/
theorem sortPairs (w : World) (B g cap : Nat) (xs : List Pr) (ho : w.ownsRow B 64 3 (.slice (some ⟨g, 0, none⟩) xs.length cap) xs.length (prFlat xs)) (h0 : 0 < xs.length) (hbig : xs.length ≤ 1000000) (hok : ∀ c ∈ xs, Pl.Ok c.key ∧ c.key.size ≤ 70368744177664) :
    Calls Tryd.prog 72 #[.slice (some ⟨g, 0, none⟩) xs.length cap, .func (.func 73) #[] #[]] w fun e w' => e = .returned (.tuple #[]) ∧ Only (fun j => j = g) w w' ∧ ∃ zs : List Pr, zs.Perm xs ∧ zs.Pairwise (fun a b => ¬ Pl.compare b.key a.key < 0) ∧ w'.ownsRow B 64 3 (.slice (some ⟨g, 0, none⟩) zs.length cap) zs.length (prFlat zs) := by
  have hH := holds_pr ho h0 hok
  have hlt : g < w.heap.size := by
    obtain ⟨_, _, e, _, hlt⟩ := ho.form h0
    cases e
    exact hlt
  have eg : ∀ args w, (callFunc 73 args).run Tryd.prog w = .ok (.enter 73 args) w := enters_of Tryd.func73 (by kernel_rfl) rfl
  have hcon := AnyQ.slices_SortFunc Tryd.sortPair 3 Tryd.isAgg64 Tryd.sizeOf64 encPr (fun _ => rfl) (fun x v hv => by simp [encPr, Pr.vals] at hv; rcases hv with rfl | rfl | rfl <;> rfl) cfPr (swoKey (fun x : PrK => x.1.key) fun x => x.2.1) 73 #[] g 0 cap (prK xs hok) w eg (cmpPr g 0 _ w) hH hlt (by rw [prK_size]; omega)
  rw [prK_size] at hcon
  refine hcon.mono ?_
  rintro e w' ⟨he, d', n, os, hp, hd, hw⟩
  obtain ⟨hs, _, hperm⟩ := hp
  rw [prK_size] at hs
  have e1 : (prK xs hok).extract 0 xs.length = prK xs hok := by rw [← prK_size xs hok]; simp
  have e2 : d'.extract 0 xs.length = d' := by rw [← hs]; simp
  rw [e1, e2] at hperm
  have hlen : (d'.toList.map PrK.val).length = xs.length := by simp [hs]
  obtain ⟨hr, hO⟩ := ownsRow_putRow (w := Sort.ahead w n) (show (Sort.ahead w n).ownsRow B 64 3 _ _ _ from ho) h0 (flatK encPr 3 d') (by rw [size_flatK, hs])
  have hO1 : Only (fun j => j = g) w (putRow id (Sort.ahead w n) g 0 (flatK encPr 3 d')) := (Only.mono (show Only (fun j => j = g) w (Sort.ahead w n) from ⟨rfl, rfl, rfl, Nat.le_refl _, fun _ _ _ => rfl⟩) (fun _ h => .inl h)).then hO
  have hG : Grew (putRow id (Sort.ahead w n) g 0 (flatK encPr 3 d')) w' := by
    rw [hw]
    refine ⟨rfl, rfl, rfl, ?_, ?_⟩
    · unfold sortWorldK grow putRowK; simp
    · intro k hk
      show (_ ++ os)[k]? = _
      rw [Array.getElem?_append]
      exact if_pos hk
  refine ⟨he, hO1.grewT hG, d'.toList.map PrK.val, ?_, ?_, ?_⟩
  · have := hperm.map PrK.val
    rwa [prK_val] at this
  · rw [List.pairwise_map, List.pairwise_iff_getElem]
    intro i j hi hj hij
    have := hd i j (Nat.zero_le _) hij (by simpa [hs] using hj)
    rw [getElem!_pos d' i (by simpa using hi), getElem!_pos d' j (by simpa using hj)] at this
    unfold ltOf cfPr at this
    simpa using this
  · rw [hlen, ← flat_pr]
    exact ownsRow_grew hG hr
end Go.Proofs.YtajoihpjnnnkeaaDoor
