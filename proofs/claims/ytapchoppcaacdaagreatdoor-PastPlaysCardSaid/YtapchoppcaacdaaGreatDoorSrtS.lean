/- past.rising: the keys of which something is kept, rising. -/
import Derived.Test.YtapchoppcaacdaaGreatDoorCmpD0
import Derived.Test.YtapchoppcaacdaaGreatDoorCmpO
import Derived.Test.YtapchoppcaacdaaGreatDoorRowK
import Derived.Test.YtapchoppcaacdaaGreatDoorMapR
import Derived.Test.YtapchoppcaacdaaGreatDoorTrmP
import Derived.Test.YtapchoppcaacdaaGreatDoorPast6
import Derived.Shelf.SlSortCmp.Whole1
import Derived.Shelf.SlSortCmp.NoneTotal
import Derived.Shelf.SlIter.Collect
set_option linter.unusedVariables false
namespace Go.Proofs.YtapchoppcaacdaaGreatDoor
open Go.Shelf
def Tryz.sortStr_ren : Go.Shelf.Ren := ⟨fun | 6 => 145 | 15 => 138 | 14 => 163 | 28 => 156 | 29 => 157 | 20 => 173 | 21 => 174 | 22 => 175 | 23 => 176 | 24 => 177 | 25 => 178 | 26 => 179 | 27 => 180 | 46 => 184 | 47 => 166 | 48 => 167 | 49 => 185 | 50 => 186 | 57 => 196 | n => n, fun | 22 => 133 | 24 => 9 | 25 => 126 | 3 => 3 | 39 => 68 | 0 => 0 | 53 => 246 | 55 => 248 | 4 => 4 | 46 => 240 | 45 => 239 | 50 => 155 | 5 => 5 | 9 => 9 | 66 => 258 | 70 => 262 | 76 => 271 | 77 => 272 | n => n, fun | n => n⟩
theorem Tryz.sortStr : Go.Proofs.SlLaysF.n6 Tryz.prog Tryz.sortStr_ren := {
  mixed := by kernel_rfl
  f6 := ⟨Tryz.f145.name, by decide, Tryz.func145.trans (congrArg some (by kernel_rfl))⟩
  f14 := ⟨Tryz.f163.name, by decide, Tryz.func163.trans (congrArg some (by kernel_rfl))⟩
  f15 := Tryz.func138.trans (congrArg some (by kernel_rfl))
  f20 := ⟨Tryz.f173.name, by decide, Tryz.func173.trans (congrArg some (by kernel_rfl))⟩
  f21 := ⟨Tryz.f174.name, by decide, Tryz.func174.trans (congrArg some (by kernel_rfl))⟩
  f22 := ⟨Tryz.f175.name, by decide, Tryz.func175.trans (congrArg some (by kernel_rfl))⟩
  f23 := ⟨Tryz.f176.name, by decide, Tryz.func176.trans (congrArg some (by kernel_rfl))⟩
  f24 := ⟨Tryz.f177.name, by decide, Tryz.func177.trans (congrArg some (by kernel_rfl))⟩
  f25 := ⟨Tryz.f178.name, by decide, Tryz.func178.trans (congrArg some (by kernel_rfl))⟩
  f26 := ⟨Tryz.f179.name, by decide, Tryz.func179.trans (congrArg some (by kernel_rfl))⟩
  f27 := ⟨Tryz.f180.name, by decide, Tryz.func180.trans (congrArg some (by kernel_rfl))⟩
  f28 := Tryz.func156.trans (congrArg some (by kernel_rfl))
  f29 := Tryz.func157.trans (congrArg some (by kernel_rfl))
  f46 := ⟨Tryz.f184.name, by decide, Tryz.func184.trans (congrArg some (by kernel_rfl))⟩
  f47 := Tryz.func166.trans (congrArg some (by kernel_rfl))
  f48 := Tryz.func167.trans (congrArg some (by kernel_rfl))
  f49 := ⟨Tryz.f185.name, by decide, Tryz.func185.trans (congrArg some (by kernel_rfl))⟩
  f50 := ⟨Tryz.f186.name, by decide, Tryz.func186.trans (congrArg some (by kernel_rfl))⟩
  f57 := ⟨Tryz.f196.name, by decide, Tryz.func196.trans (congrArg some (by kernel_rfl))⟩
  t0 := Tryz.underlying0
  a0 := Tryz.isAgg0
  z0 := Tryz.sizeOf0
  v0 := Tryz.zeroValue0
  t3 := Tryz.underlying3
  a3 := Tryz.isAgg3
  z3 := Tryz.sizeOf3
  v3 := Tryz.zeroValue3
  t4 := Tryz.underlying4
  a4 := Tryz.isAgg4
  z4 := Tryz.sizeOf4
  v4 := Tryz.zeroValue4
  t5 := Tryz.underlying5
  a5 := Tryz.isAgg5
  z5 := Tryz.sizeOf5
  v5 := Tryz.zeroValue5
  t9 := Tryz.underlying9
  a9 := Tryz.isAgg9
  z9 := Tryz.sizeOf9
  v9 := Tryz.zeroValue9
  t22 := Tryz.underlying133
  a22 := Tryz.isAgg133
  z22 := Tryz.sizeOf133
  v22 := Tryz.zeroValue133
  a24 := Tryz.isAgg9
  z24 := Tryz.sizeOf9
  t25 := Tryz.underlying126
  a25 := Tryz.isAgg126
  z25 := Tryz.sizeOf126
  v25 := Tryz.zeroValue126
  t39 := Tryz.underlying68
  a39 := Tryz.isAgg68
  z39 := Tryz.sizeOf68
  v39 := Tryz.zeroValue68
  t45 := Tryz.underlying239
  a45 := Tryz.isAgg239
  z45 := Tryz.sizeOf239
  v45 := Tryz.zeroValue239
  t46 := Tryz.underlying240
  a46 := Tryz.isAgg240
  z46 := Tryz.sizeOf240
  v46 := Tryz.zeroValue240
  t50 := Tryz.underlying155
  a50 := Tryz.isAgg155
  z50 := Tryz.sizeOf155
  v50 := Tryz.zeroValue155
  t53 := Tryz.underlying246
  a53 := Tryz.isAgg246
  z53 := Tryz.sizeOf246
  v53 := Tryz.zeroValue246
  t55 := Tryz.underlying248
  a55 := Tryz.isAgg248
  z55 := Tryz.sizeOf248
  v55 := Tryz.zeroValue248
  t66 := Tryz.underlying258
  a66 := Tryz.isAgg258
  z66 := Tryz.sizeOf258
  v66 := Tryz.zeroValue258
  t70 := Tryz.underlying262
  a70 := Tryz.isAgg262
  z70 := Tryz.sizeOf262
  v70 := Tryz.zeroValue262
  t76 := Tryz.underlying271
  a76 := Tryz.isAgg271
  z76 := Tryz.sizeOf271
  v76 := Tryz.zeroValue271
  t77 := Tryz.underlying272
  a77 := Tryz.isAgg272
  z77 := Tryz.sizeOf272
  v77 := Tryz.zeroValue272 }

def Tryz.keysPast_ren : Go.Shelf.Ren := ⟨fun | 7 => 129 | 10 => 146 | n => n, fun | 23 => 85 | 26 => 9 | 3 => 101 | 28 => 206 | 0 => 0 | 27 => 205 | 33 => 110 | 4 => 4 | n => n, fun | n => n⟩
theorem Tryz.keysPast : Go.Proofs.SlLaysZ.n7 Tryz.prog Tryz.keysPast_ren := {
  mixed := by kernel_rfl
  f7 := ⟨Tryz.f129.name, by decide, Tryz.func129.trans (congrArg some (by kernel_rfl))⟩
  f10 := ⟨Tryz.f146.name, by decide, Tryz.func146.trans (congrArg some (by kernel_rfl))⟩
  t0 := Tryz.underlying0
  a0 := Tryz.isAgg0
  z0 := Tryz.sizeOf0
  v0 := Tryz.zeroValue0
  t4 := Tryz.underlying4
  a4 := Tryz.isAgg4
  z4 := Tryz.sizeOf4
  v4 := Tryz.zeroValue4
  t23 := Tryz.underlying85
  a23 := Tryz.isAgg85
  z23 := Tryz.sizeOf85
  v23 := Tryz.zeroValue85
  t26 := Tryz.underlying9
  a26 := Tryz.isAgg9
  z26 := Tryz.sizeOf9
  v26 := Tryz.zeroValue9
  t27 := Tryz.underlying205
  a27 := Tryz.isAgg205
  z27 := Tryz.sizeOf205
  v27 := Tryz.zeroValue205
  t28 := Tryz.underlying206
  a28 := Tryz.isAgg206
  z28 := Tryz.sizeOf206
  v28 := Tryz.zeroValue206
  t33 := Tryz.underlying110
  a33 := Tryz.isAgg110
  z33 := Tryz.sizeOf110
  v33 := Tryz.zeroValue110 }

def Tryz.collStr_ren : Go.Shelf.Ren := ⟨fun | 8 => 144 | 11 => 162 | n => n, fun | 26 => 9 | 28 => 206 | 24 => 133 | 0 => 0 | 33 => 110 | 4 => 4 | n => n, fun | n => n⟩
theorem Tryz.collStr : Go.Proofs.SlLaysZ.n8 Tryz.prog Tryz.collStr_ren := {
  mixed := by kernel_rfl
  f8 := ⟨Tryz.f144.name, by decide, Tryz.func144.trans (congrArg some (by kernel_rfl))⟩
  f11 := ⟨Tryz.f162.name, by decide, Tryz.func162.trans (congrArg some (by kernel_rfl))⟩
  t0 := Tryz.underlying0
  a0 := Tryz.isAgg0
  z0 := Tryz.sizeOf0
  v0 := Tryz.zeroValue0
  t24 := Tryz.underlying133
  a24 := Tryz.isAgg133
  z24 := Tryz.sizeOf133
  v24 := Tryz.zeroValue133
  t26 := Tryz.underlying9
  a26 := Tryz.isAgg9
  z26 := Tryz.sizeOf9
  v26 := Tryz.zeroValue9
  t28 := Tryz.underlying206
  a28 := Tryz.isAgg206
  z28 := Tryz.sizeOf206
  v28 := Tryz.zeroValue206
  i26 := by kernel_rfl }

end Go.Proofs.YtapchoppcaacdaaGreatDoor

namespace Go.Proofs.YtapchoppcaacdaaGreatDoor
open Go.RowKit Go.Shelf Go.Lib Go.Sort Go.Maps
attribute [local go_sem] Oper.semAt_some

/-- A right text. -/
structure StrK where
  val : ByteArray
  ok : Pl.Ok val ∧ val.size ≤ 70368744177664
instance : Inhabited StrK := ⟨⟨⟨#[]⟩, ⟨[], rfl⟩, by decide⟩⟩
def encS (x : StrK) : Value := .string x.val
def cfS (x y : StrK) : Int := Pl.compare x.val y.val
theorem swoS : SWO (ltOf cfS) where
  irrefl x := by
    unfold ltOf cfS
    rw [decide_eq_false_iff_not, Pl.compare_self x.2.1]; decide
  trans x y z h k := by
    unfold ltOf cfS at *
    rw [decide_eq_true_eq] at *
    exact Pl.compare_trans x.2.1 y.2.1 z.2.1 h k
  ntrans x y z h k := by
    unfold ltOf cfS at *
    rw [decide_eq_false_iff_not] at *
    intro hz
    have s1 := Pl.compare_swap x.2.1 y.2.1
    have s2 := Pl.compare_swap y.2.1 z.2.1
    by_cases h1 : Pl.compare y.1 x.1 < 0
    · have := Pl.compare_trans y.2.1 x.2.1 z.2.1 h1 hz
      omega
    · have h2 : Pl.compare x.1 y.1 = 0 := by omega
      have e := Pl.compare_zero x.2.1 y.2.1 h2
      rw [e] at hz; omega

theorem risingLess (x y : StrK) (W : World) : Calls Tryz.prog 130 #[.string x.val, .string y.val] W fun e w' => e = .returned (.int .i64 (cfS x y)) ∧ GrewD W w' := by
  have hc := fun W => compareD_any x.val y.val W x.2.2 y.2.2
  change ∀ W, Calls Tryz.prog 64 _ W (fun e w' => e = .returned (.int .i64 (cfS x y)) ∧ _) at hc
  have HC := hid hc
  clear hc
  generalize cfS x y = r at HC ⊢
  go_enter Tryz.func130, Tryz.ntmps130
  go_wp2_with fail
  refine (HC.out _).mono ?_
  rintro e w1 ⟨rfl, hg⟩
  go_wp2_with fail
  go_ret
  exact ⟨rfl, hg⟩
theorem cmpS (blk off size : Nat) (w : World) : CmpLays1 Tryz.prog 130 #[] encS cfS blk off size w :=
  fun _ _ _ _ x y => (risingLess x y _).mono fun _ _ ⟨he, hg⟩ => ⟨he, hg.grown⟩

def stK (xs : List ByteArray) (hok : ∀ c ∈ xs, Pl.Ok c ∧ c.size ≤ 70368744177664) : Array StrK := (xs.attach.map fun c => (⟨c.1, hok c.1 c.2⟩ : StrK)).toArray
theorem stK_val (xs : List ByteArray) (hok) : (stK xs hok).toList.map StrK.val = xs := by unfold stK; simp
theorem stK_size (xs : List ByteArray) (hok) : (stK xs hok).size = xs.length := by unfold stK; simp
def stFlat (xs : List ByteArray) : List Value := xs.map Value.string
theorem encS_list (d : Array StrK) : d.toList.map encS = stFlat (d.toList.map StrK.val) := by unfold stFlat encS; rw [List.map_map]; rfl

/-- A row of one cell laid anew. -/
theorem ownsRow_putRow1 {α : Type} [Inhabited α] (enc : α → Value) {w : World} {B : Nat} {e : TypeId} {g cap n : Nat} {L : List Value} (ho : w.ownsRow B e 1 (.slice (some ⟨g, 0, none⟩) n cap) n L) (h0 : 0 < n) (F : Array α) (hF : F.size = n) :
    (putRow enc w g 0 F).ownsRow B e 1 (.slice (some ⟨g, 0, none⟩) n cap) n (F.toList.map enc) ∧ Only (fun j => j = g) w (putRow enc w g 0 F) := by
  obtain ⟨g', cap', cur, e1, hB, hg, hn, hc, hl, hx⟩ := ownsRow_block ho h0
  cases e1
  have hheap : (putRow enc w g 0 F).heap[g]? = some (.cells ((putCells enc 0 F cur.toArray).toList).toArray e (0, 0)) := by
    unfold putRow mapBlock
    dsimp only
    rw [Array.getElem?_modify, if_pos rfl, hg]
    simp [onCells]
  refine ⟨ownsRow_of_block hB hheap hn hc ?_ ?_, ⟨rfl, rfl, rfl, ?_, ?_⟩⟩
  · unfold putCells; simp [hl]
  · apply List.ext_getElem?
    intro t
    rw [List.getElem?_take]
    by_cases ht : t < n * 1
    · rw [if_pos ht]
      have h1 : (putCells enc 0 F cur.toArray).toList[t]? = some (enc F[t]!) := by
        unfold putCells
        rw [Array.getElem?_toList, Array.getElem?_mapIdx]
        have : cur.toArray[t]? = some cur[t] := by simp [List.getElem?_eq_getElem (show t < cur.length by omega)]
        rw [this]
        simp only [Option.map_some, Nat.zero_le, Nat.zero_add, Nat.sub_zero, true_and]
        rw [if_pos (by omega)]
      rw [h1, List.getElem?_map, Array.getElem?_toList, getElem!_pos F t (by omega), Array.getElem?_eq_getElem (by omega)]; rfl
    · rw [if_neg ht, List.getElem?_eq_none (by simp; omega)]
  · unfold putRow mapBlock; simp
  · intro j hj hne
    unfold putRow mapBlock
    dsimp only
    rw [Array.getElem?_modify, if_neg (fun h => hne h.symm)]

/-- The sort of texts. -/
theorem sortStrs (w : World) (B g cap : Nat) (xs : List ByteArray) (ho : w.ownsRow B 9 1 (.slice (some ⟨g, 0, none⟩) xs.length cap) xs.length (stFlat xs)) (h0 : 0 < xs.length) (hbig : xs.length ≤ 1000000) (hok : ∀ c ∈ xs, Pl.Ok c ∧ c.size ≤ 70368744177664) :
    Calls Tryz.prog 145 #[.slice (some ⟨g, 0, none⟩) xs.length cap, .func (.func 130) #[] #[]] w fun e w' => e = .returned (.tuple #[]) ∧ Only (fun j => j = g) w w' ∧ ∃ zs : List ByteArray, zs.Perm xs ∧ zs.Pairwise (fun a b => ¬ Pl.compare b a < 0) ∧ w'.ownsRow B 9 1 (.slice (some ⟨g, 0, none⟩) zs.length cap) zs.length (stFlat zs) := by
  obtain ⟨g', cap', cur, e1, hB, hg, hn, hc, hl, hx⟩ := ownsRow_block ho h0
  cases e1
  have hlt : g < w.heap.size := (Array.getElem?_eq_some_iff.1 hg).1
  have hH : Holds encS w g 0 (stK xs hok) := by
    intro j hj
    have hj' := hj
    rw [stK_size] at hj'
    refine ⟨?_, by simp [World.frozen?, hg]⟩
    rw [Nat.zero_add, cell_block hg j]
    have h1 : cur[j]? = (stFlat xs)[j]? := by rw [← hx, List.getElem?_take, if_pos (by omega)]
    have h2 := encS_list (stK xs hok)
    rw [stK_val] at h2
    rw [h1, ← h2, List.getElem?_map, Array.getElem?_toList, Array.getElem?_eq_getElem hj, getElem!_pos _ j hj]; rfl
  have eg : ∀ args w, (callFunc 130 args).run Tryz.prog w = .ok (.enter 130 args) w := enters_of Tryz.func130 (by kernel_rfl) rfl
  have hcon := Any.slices_SortFunc Tryz.sortStr encS (fun _ => rfl) cfS swoS 130 #[] g 0 cap (stK xs hok) w eg (cmpS g 0 _ w) hH hlt (by rw [stK_size]; omega)
  rw [stK_size] at hcon
  refine hcon.mono ?_
  rintro e w' ⟨he, d', n, os, hp, hd, hw⟩
  obtain ⟨hs, _, hperm⟩ := hp
  rw [stK_size] at hs
  have e1 : (stK xs hok).extract 0 xs.length = stK xs hok := by rw [← stK_size xs hok]; simp
  have e2 : d'.extract 0 xs.length = d' := by rw [← hs]; simp
  rw [e1, e2] at hperm
  have hlen : (d'.toList.map StrK.val).length = xs.length := by simp [hs]
  obtain ⟨hr, hO⟩ := ownsRow_putRow1 encS (w := Sort.ahead w n) (show (Sort.ahead w n).ownsRow B 9 1 _ _ _ from ho) h0 d' hs
  have hO1 : Only (fun j => j = g) w (putRow encS (Sort.ahead w n) g 0 d') := (Only.mono (show Only (fun j => j = g) w (Sort.ahead w n) from ⟨rfl, rfl, rfl, Nat.le_refl _, fun _ _ _ => rfl⟩) (fun _ h => .inl h)).then hO
  have hG : Grew (putRow encS (Sort.ahead w n) g 0 d') w' := by
    rw [hw]
    refine ⟨rfl, rfl, rfl, ?_, ?_⟩
    · unfold sortWorld grow; simp
    · intro k hk
      show (_ ++ os)[k]? = _
      rw [Array.getElem?_append]
      exact if_pos hk
  refine ⟨he, hO1.grewT hG, d'.toList.map StrK.val, ?_, ?_, ?_⟩
  · have := hperm.map StrK.val
    rwa [stK_val] at this
  · rw [List.pairwise_map, List.pairwise_iff_getElem]
    intro i j hi hj hij
    have := hd i j (Nat.zero_le _) hij (by simpa [hs] using hj)
    rw [getElem!_pos d' i (by simpa using hi), getElem!_pos d' j (by simpa using hj)] at this
    unfold ltOf cfS at this
    simpa using this
  · rw [hlen, ← encS_list]
    exact ownsRow_grew hG hr

/-- A sort of texts that differ: in strict order. -/
theorem strict_of_sorted {zs : List ByteArray} (hok : ∀ c ∈ zs, Pl.Ok c) (hn : zs.Nodup) (hz : zs.Pairwise fun a b => ¬ Pl.compare b a < 0) : zs.Pairwise fun a b => Pl.compare a b < 0 := by
  refine (List.pairwise_iff_forall_sublist.2 fun {a b} hs => ?_)
  have ha : a ∈ zs := hs.subset (by simp)
  have hb : b ∈ zs := hs.subset (by simp)
  have h1 := List.pairwise_iff_forall_sublist.1 hz hs
  have h2 := List.pairwise_iff_forall_sublist.1 hn hs
  have s1 := Pl.compare_swap (hok a ha) (hok b hb)
  by_cases h3 : Pl.compare a b < 0
  · exact h3
  · have h4 : Pl.compare a b = 0 := by omega
    exact absurd (Pl.compare_zero (hok a ha) (hok b hb) h4) h2

set_option maxRecDepth 100000 in
set_option maxHeartbeats 2000000 in
theorem sortedFunc_any (w : World) (mb n : Nat) (f : Lit → Option Value) (h : LMap w Tryz.prog 9 mb n f) (hn : n ≤ 1000000) (hok : ∀ s, f (mlit s) ≠ none → Pl.Ok s ∧ s.size ≤ 70368744177664) (Bm : Nat) (hBm : w.cell? ⟨Bm, 0, none⟩ = some (.map (some mb))) :
    Calls Tryz.prog 128 #[.func (.func 146) #[] #[.pointer (some ⟨Bm, 0, none⟩)], .func (.func 130) #[] #[]] w fun e w' => ∃ (v : Value) (ks : List ByteArray), e = .returned v ∧ (ks.Pairwise fun a b => Pl.compare a b < 0) ∧ (∀ s, s ∈ ks ↔ f (mlit s) ≠ none) ∧ ks.length ≤ n ∧ w'.ownsRow w.heap.size 9 1 v ks.length (stFlat ks) ∧ Grew w w' := by
  obtain ⟨D, hown, hf⟩ := h
  obtain ⟨hnd, hmem, hlen, hsz⟩ := ownsMap_keys hown str_keyed Tryz.underlying9
  have hBlt : Bm < w.heap.size := cell_lt hBm
  have hseq : SeqGives Fence.wide 3 Tryz.prog 146 #[.pointer (some ⟨Bm, 0, none⟩)] encStr (fun ss => ss.Perm (strKeys D)) (Maps.size D) w :=
    AnyZ.keys_gives (ρ := Tryz.keysPast_ren) { Tryz.keysPast with } Fence.wide _ trivial rfl (by omega) Bm mb n D w hBlt hBm hown
  have cC := AnyZ.collect_in Tryz.collStr Fence.wide 5 trivial trivial rfl (by omega) 146 #[.pointer (some ⟨Bm, 0, none⟩)] trivial (enters_of Tryz.func146 (by kernel_rfl) rfl) _ _ (by unfold maxLen; omega) (by omega) w hseq
  change CallsIn _ _ Tryz.prog 144 _ _ _ at cC
  have HC := hid (callsIn_wide.1 cC)
  have HN := hid (fun (p : Option Addr) (cap : Nat) (fv : Value) (W : World) => AnyF.slices_SortFunc_none (P := Tryz.prog) (ρ := Tryz.sortStr_ren) { Tryz.sortStr with } p cap fv W)
  change Hid (∀ (p : Option Addr) (cap : Nat) (fv : Value) (W : World), Calls Tryz.prog 145 _ _ _) at HN
  have HS := hid sortStrs
  clear cC hseq
  go_enter Tryz.func128, Tryz.ntmps128
  go_wp2_with fail
  refine HC.out.mono ?_
  rintro e w1 ⟨v, ss, rfl, hperm, hrow, hnil, hb⟩
  have hG : Grew w w1 := hb
  have hp2 : (ss.map fun l => (⟨l.toArray⟩ : ByteArray)).Perm (keysD D) := hperm.map _
  have hxs : ∃ xs : List ByteArray, xs.Perm (keysD D) ∧ xs.length = ss.length ∧ stFlat xs = ss.map encStr := ⟨_, hp2, by simp, by unfold stFlat; rw [List.map_map]; rfl⟩
  clear hp2 hperm
  obtain ⟨xs, hp, hxl, hfl⟩ := hxs
  rw [← hxl, ← hfl] at hrow
  change w1.ownsRow w.heap.size 9 1 v xs.length (stFlat xs) at hrow
  have hnd' : xs.Nodup := hp.nodup_iff.2 hnd
  have hmem' : ∀ s, s ∈ xs ↔ f (mlit s) ≠ none := fun s => by rw [hp.mem_iff, hmem, hf]
  have hle : xs.length ≤ n := by rw [hp.length_eq]; exact hlen
  have hok' : ∀ c ∈ xs, Pl.Ok c ∧ c.size ≤ 70368744177664 := fun c hc => hok c ((hmem' c).1 hc)
  rcases Nat.eq_zero_or_pos xs.length with h0 | h0
  · have hx0 : xs = [] := List.eq_nil_of_length_eq_zero h0
    have hs0 : ss = [] := List.eq_nil_of_length_eq_zero (by omega)
    obtain rfl : v = .slice none 0 0 := hnil.2 hs0
    clear hfl hxl hnil hs0 HS
    go_wp2_with fail
    refine (HN.out _ _ _ _).mono ?_
    rintro e w2 ⟨rfl, rfl⟩
    go_wp2_with fail
    go_ret
    exact ⟨_, [], rfl, by simp, fun s => by rw [← hmem' s, hx0], by simp, World.ownsRow_nil _ _ _ _, hG⟩
  · obtain ⟨g, cap, rfl, _, _⟩ := hrow.form h0
    have HSS := hid (HS.out w1 w.heap.size g cap xs hrow h0 (by omega) hok')
    have hBg : ∀ j, j = g → w.heap.size ≤ j := by
      obtain ⟨g', cap', cur, e1, hB, _⟩ := ownsRow_block hrow h0
      cases e1
      rintro j rfl; exact hB
    have HX := hid (And.intro hnd' (And.intro hmem' hle))
    clear hfl hxl hnil HS hrow HN hmem' hnd' hnd hmem hf
    go_wp2_with fail
    refine HSS.out.mono ?_
    rintro e w2 ⟨rfl, ho, zs, hzp, hzs, hzr⟩
    have HZ := hid hzr
    have HZS := hid hzs
    clear hzs
    have hlz : zs.length = xs.length := hzp.length_eq
    clear hzr
    go_wp2_with fail
    go_ret
    obtain ⟨hnd', hmem', hle⟩ := HX.out
    refine ⟨_, zs, rfl, strict_of_sorted (fun c hc => (hok' c (hzp.mem_iff.1 hc)).1) (hzp.nodup_iff.2 hnd') (HZS.out.imp fun {a b} h => by omega), fun s => by rw [hzp.mem_iff, hmem'], by omega, ?_, ((hG.only _).then ho).grew hBg⟩
    have := HZ.out; rw [hlz] at this ⊢; exact this

/-- past.rising. -/
theorem rising_any {w : World} {F : Nat → Prop} {pb n : Nat} {K : ByteArray → List Ch} {fl : Int} (h : PastAt w F pb n K fl) (hn : n ≤ 1000000) (hK : Pl.GoodK K) (hsz : ∀ s, K s ≠ [] → s.size ≤ 70368744177664) :
    Calls Tryz.prog 89 #[.pointer (some ⟨pb, 0, none⟩)] w fun e w' => ∃ (v : Value) (ks : List ByteArray), e = .returned v ∧ Pl.Rising K ks ∧ ks.length ≤ n ∧ w'.ownsRow w.heap.size 9 1 v ks.length (stFlat ks) ∧ Grew w w' := by
  obtain ⟨⟨mb, f, h⟩, hF⟩ := h
  have hpres : ∀ s, f (mlit s) ≠ none ↔ K s ≠ [] := fun s => by
    have hp := h.pres s
    change (f (mlit s)).isSome = _ at hp
    cases hf : f (mlit s) with
    | none => rw [hf] at hp; cases hk : K s with
      | nil => simp
      | cons a l => rw [hk] at hp; simp at hp
    | some v => rw [hf] at hp; cases hk : K s with
      | nil => rw [hk] at hp; simp at hp
      | cons a l => simp
  have hok : ∀ s, f (mlit s) ≠ none → Pl.Ok s ∧ s.size ≤ 70368744177664 := fun s hs => ⟨Pl.ok_key ((hK s).2 ((hpres s).1 hs)), hsz s ((hpres s).1 hs)⟩
  have c0 := h.map0
  have hb : pb < w.heap.size := cell_lt c0
  have HK := hid (fun mb' W => callsIn_wide.1 (AnyZ.keys_in Tryz.keysPast Fence.wide 5 trivial rfl mb' W))
  change Hid (∀ (mb' : Option Nat) (W : World), Calls Tryz.prog 129 #[.map mb'] W fun e w' => e = .returned (.func (.func 146) #[] #[.pointer (some ⟨W.heap.size, 0, none⟩)]) ∧ w' = W.alloc (.cells #[.map mb'] 85)) at HK
  have HS := hid (sortedFunc_any (w.alloc (.cells #[.map (some mb)] 85)) mb n f (h.lm.grew ((Grew.refl w).alloc _)) hn hok w.heap.size (by simp [go_sem]))
  have HP := hid hpres
  clear h hF hpres hok
  go_enter Tryz.func89, Tryz.ntmps89
  go_wp2_with fail
  refine (HK.out _ _).mono ?_
  rintro e w1 ⟨rfl, rfl⟩
  go_wp2_with fail
  refine HS.out.mono ?_
  rintro e w2 ⟨v, ks, rfl, hp, hm, hl, hr, hg⟩
  have HX := hid (And.intro hp (And.intro hm (And.intro hl hr)))
  clear hp hm hl hr
  go_wp2_with fail
  go_ret
  obtain ⟨hp, hm, hl, hr⟩ := HX.out
  refine ⟨_, ks, rfl, ⟨hp, fun s => (hm s).trans (HP.out s)⟩, hl, ?_, ((Grew.refl w).alloc _).trans hg⟩
  exact ownsRow_base_a hr (by simp)
end Go.Proofs.YtapchoppcaacdaaGreatDoor
