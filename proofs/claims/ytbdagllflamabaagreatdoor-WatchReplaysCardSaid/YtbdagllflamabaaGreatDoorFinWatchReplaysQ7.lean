/- SrtW, Span1, SpanC: one text. -/
import Derived.Test.YtbdagllflamabaaGreatDoorFinWatchReplaysQ3
import Derived.Test.YtbdagllflamabaaGreatDoorFinWatchReplaysQ4
import Derived.Test.YtbdagllflamabaaGreatDoorFinWatchReplaysQ6
import Derived.Shelf.SlSortCmp.Whole1
import Derived.Shelf.SlSortCmp.NoneTotal
import Derived.Shelf.SlIter.Collect
set_option linter.unusedVariables false
namespace Go.Proofs.YtbdagllflamabaaGreatDoor
open Go.Shelf
def Tryz.sortStr_ren : Go.Shelf.Ren := ⟨fun | 6 => 100 | 15 => 154 | 14 => 153 | 28 => 187 | 29 => 188 | 20 => 179 | 21 => 180 | 22 => 181 | 23 => 182 | 24 => 183 | 25 => 184 | 26 => 185 | 27 => 186 | 46 => 198 | 47 => 199 | 48 => 200 | 49 => 201 | 50 => 202 | 57 => 216 | n => n, fun | 22 => 128 | 24 => 9 | 25 => 133 | 3 => 3 | 39 => 250 | 0 => 0 | 53 => 300 | 55 => 302 | 4 => 4 | 46 => 294 | 45 => 293 | 50 => 170 | 5 => 5 | 9 => 9 | 66 => 312 | 70 => 316 | 76 => 327 | 77 => 328 | n => n, fun | n => n⟩
theorem Tryz.sortStr : Go.Proofs.SlLaysF.n6 Tryz.prog Tryz.sortStr_ren := {
  mixed := by kernel_rfl
  f6 := ⟨Tryz.f100.name, by decide, Tryz.func100.trans (congrArg some (by kernel_rfl))⟩
  f14 := ⟨Tryz.f153.name, by decide, Tryz.func153.trans (congrArg some (by kernel_rfl))⟩
  f15 := Tryz.func154.trans (congrArg some (by kernel_rfl))
  f20 := ⟨Tryz.f179.name, by decide, Tryz.func179.trans (congrArg some (by kernel_rfl))⟩
  f21 := ⟨Tryz.f180.name, by decide, Tryz.func180.trans (congrArg some (by kernel_rfl))⟩
  f22 := ⟨Tryz.f181.name, by decide, Tryz.func181.trans (congrArg some (by kernel_rfl))⟩
  f23 := ⟨Tryz.f182.name, by decide, Tryz.func182.trans (congrArg some (by kernel_rfl))⟩
  f24 := ⟨Tryz.f183.name, by decide, Tryz.func183.trans (congrArg some (by kernel_rfl))⟩
  f25 := ⟨Tryz.f184.name, by decide, Tryz.func184.trans (congrArg some (by kernel_rfl))⟩
  f26 := ⟨Tryz.f185.name, by decide, Tryz.func185.trans (congrArg some (by kernel_rfl))⟩
  f27 := ⟨Tryz.f186.name, by decide, Tryz.func186.trans (congrArg some (by kernel_rfl))⟩
  f28 := Tryz.func187.trans (congrArg some (by kernel_rfl))
  f29 := Tryz.func188.trans (congrArg some (by kernel_rfl))
  f46 := ⟨Tryz.f198.name, by decide, Tryz.func198.trans (congrArg some (by kernel_rfl))⟩
  f47 := Tryz.func199.trans (congrArg some (by kernel_rfl))
  f48 := Tryz.func200.trans (congrArg some (by kernel_rfl))
  f49 := ⟨Tryz.f201.name, by decide, Tryz.func201.trans (congrArg some (by kernel_rfl))⟩
  f50 := ⟨Tryz.f202.name, by decide, Tryz.func202.trans (congrArg some (by kernel_rfl))⟩
  f57 := ⟨Tryz.f216.name, by decide, Tryz.func216.trans (congrArg some (by kernel_rfl))⟩
  t0 := Tryz.underlying0
  a0 := Tryz.isAgg0
  z0 := Tryz.sizeOf0
  v0 := Tryz.zeroValue0
  t3 := Tryz.underlying3
  a3 := Tryz.isAgg3
  z3 := Tryz.sizeOf3
  v3 := Tryz.zeroValue3
  t4 := Tryz.underlying4
  a4 := Tryz.isAgg4
  z4 := Tryz.sizeOf4
  v4 := Tryz.zeroValue4
  t5 := Tryz.underlying5
  a5 := Tryz.isAgg5
  z5 := Tryz.sizeOf5
  v5 := Tryz.zeroValue5
  t9 := Tryz.underlying9
  a9 := Tryz.isAgg9
  z9 := Tryz.sizeOf9
  v9 := Tryz.zeroValue9
  t22 := Tryz.underlying128
  a22 := Tryz.isAgg128
  z22 := Tryz.sizeOf128
  v22 := Tryz.zeroValue128
  a24 := Tryz.isAgg9
  z24 := Tryz.sizeOf9
  t25 := Tryz.underlying133
  a25 := Tryz.isAgg133
  z25 := Tryz.sizeOf133
  v25 := Tryz.zeroValue133
  t39 := Tryz.underlying250
  a39 := Tryz.isAgg250
  z39 := Tryz.sizeOf250
  v39 := Tryz.zeroValue250
  t45 := Tryz.underlying293
  a45 := Tryz.isAgg293
  z45 := Tryz.sizeOf293
  v45 := Tryz.zeroValue293
  t46 := Tryz.underlying294
  a46 := Tryz.isAgg294
  z46 := Tryz.sizeOf294
  v46 := Tryz.zeroValue294
  t50 := Tryz.underlying170
  a50 := Tryz.isAgg170
  z50 := Tryz.sizeOf170
  v50 := Tryz.zeroValue170
  t53 := Tryz.underlying300
  a53 := Tryz.isAgg300
  z53 := Tryz.sizeOf300
  v53 := Tryz.zeroValue300
  t55 := Tryz.underlying302
  a55 := Tryz.isAgg302
  z55 := Tryz.sizeOf302
  v55 := Tryz.zeroValue302
  t66 := Tryz.underlying312
  a66 := Tryz.isAgg312
  z66 := Tryz.sizeOf312
  v66 := Tryz.zeroValue312
  t70 := Tryz.underlying316
  a70 := Tryz.isAgg316
  z70 := Tryz.sizeOf316
  v70 := Tryz.zeroValue316
  t76 := Tryz.underlying327
  a76 := Tryz.isAgg327
  z76 := Tryz.sizeOf327
  v76 := Tryz.zeroValue327
  t77 := Tryz.underlying328
  a77 := Tryz.isAgg328
  z77 := Tryz.sizeOf328
  v77 := Tryz.zeroValue328 }
end Go.Proofs.YtbdagllflamabaaGreatDoor
namespace Go.Proofs.YtbdagllflamabaaGreatDoor
open Go.RowKit Go.Shelf Go.Lib Go.Sort Go.Maps
attribute [local go_sem] Oper.semAt_some
structure StrK where
  val : ByteArray
  ok : Pl.Ok val ∧ val.size ≤ 70368744177664
instance : Inhabited StrK := ⟨⟨⟨#[]⟩, ⟨[], rfl⟩, by decide⟩⟩
def encS (x : StrK) : Value := .string x.val
def cfS (x y : StrK) : Int := Pl.compare x.val y.val
theorem swoS : SWO (ltOf cfS) where
  irrefl x := by
    unfold ltOf cfS
    rw [decide_eq_false_iff_not, Pl.compare_self x.2.1]; decide
  trans x y z h k := by
    unfold ltOf cfS at *
    rw [decide_eq_true_eq] at *
    exact Pl.compare_trans x.2.1 y.2.1 z.2.1 h k
  ntrans x y z h k := by
    unfold ltOf cfS at *
    rw [decide_eq_false_iff_not] at *
    intro hz
    have s1 := Pl.compare_swap x.2.1 y.2.1
    have s2 := Pl.compare_swap y.2.1 z.2.1
    by_cases h1 : Pl.compare y.1 x.1 < 0
    · have := Pl.compare_trans y.2.1 x.2.1 z.2.1 h1 hz
      omega
    · have h2 : Pl.compare x.1 y.1 = 0 := by omega
      have e := Pl.compare_zero x.2.1 y.2.1 h2
      rw [e] at hz; omega
theorem askedLess (x y : StrK) (W : World) : Calls Tryz.prog 101 #[.string x.val, .string y.val] W fun e w' => e = .returned (.int .i64 (cfS x y)) ∧ GrewD W w' := by
  have hc := fun W => compareD_any x.val y.val W x.2.2 y.2.2
  change ∀ W, Calls Tryz.prog 59 _ W (fun e w' => e = .returned (.int .i64 (cfS x y)) ∧ _) at hc
  have HC := hid hc
  clear hc
  generalize cfS x y = r at HC ⊢
  go_enter Tryz.func101, Tryz.ntmps101
  go_wp2_with fail
  refine (HC.out _).mono ?_
  rintro e w1 ⟨rfl, hg⟩
  go_wp2_with fail
  go_ret
  exact ⟨rfl, hg⟩
theorem cmpS (blk off size : Nat) (w : World) : CmpLays1 Tryz.prog 101 #[] encS cfS blk off size w :=
  fun _ _ _ _ x y => (askedLess x y _).mono fun _ _ ⟨he, hg⟩ => ⟨he, hg.grown⟩
def stK (xs : List ByteArray) (hok : ∀ c ∈ xs, Pl.Ok c ∧ c.size ≤ 70368744177664) : Array StrK := (xs.attach.map fun c => (⟨c.1, hok c.1 c.2⟩ : StrK)).toArray
theorem stK_val (xs : List ByteArray) (hok) : (stK xs hok).toList.map StrK.val = xs := by unfold stK; simp
theorem stK_size (xs : List ByteArray) (hok) : (stK xs hok).size = xs.length := by unfold stK; simp
theorem encS_list (d : Array StrK) : d.toList.map encS = strFlat (d.toList.map StrK.val) := by unfold strFlat encS; rw [List.map_map]; rfl
theorem ownsRow_putRow1 {α : Type} [Inhabited α] (enc : α → Value) {w : World} {B : Nat} {e : TypeId} {g cap n : Nat} {L : List Value} (ho : w.ownsRow B e 1 (.slice (some ⟨g, 0, none⟩) n cap) n L) (h0 : 0 < n) (F : Array α) (hF : F.size = n) :
    (putRow enc w g 0 F).ownsRow B e 1 (.slice (some ⟨g, 0, none⟩) n cap) n (F.toList.map enc) ∧ Only (fun j => j = g) w (putRow enc w g 0 F) := by
  obtain ⟨g', cap', cur, e1, hB, hg, hn, hc, hl, hx⟩ := ownsRow_block ho h0
  cases e1
  have hheap : (putRow enc w g 0 F).heap[g]? = some (.cells ((putCells enc 0 F cur.toArray).toList).toArray e (0, 0)) := by
    unfold putRow mapBlock
    dsimp only
    rw [Array.getElem?_modify, if_pos rfl, hg]
    simp [onCells]
  refine ⟨ownsRow_of_block hB hheap hn hc ?_ ?_, ⟨rfl, rfl, rfl, ?_, ?_⟩⟩
  · unfold putCells; simp [hl]
  · apply List.ext_getElem?
    intro t
    rw [List.getElem?_take]
    by_cases ht : t < n * 1
    · rw [if_pos ht]
      have h1 : (putCells enc 0 F cur.toArray).toList[t]? = some (enc F[t]!) := by
        unfold putCells
        rw [Array.getElem?_toList, Array.getElem?_mapIdx]
        have : cur.toArray[t]? = some cur[t] := by simp [List.getElem?_eq_getElem (show t < cur.length by omega)]
        rw [this]
        simp only [Option.map_some, Nat.zero_le, Nat.zero_add, Nat.sub_zero, true_and]
        rw [if_pos (by omega)]
      rw [h1, List.getElem?_map, Array.getElem?_toList, getElem!_pos F t (by omega), Array.getElem?_eq_getElem (by omega)]; rfl
    · rw [if_neg ht, List.getElem?_eq_none (by simp; omega)]
  · unfold putRow mapBlock; simp
  · intro j hj hne
    unfold putRow mapBlock
    dsimp only
    rw [Array.getElem?_modify, if_neg (fun h => hne h.symm)]
theorem sortStrs (w : World) (B g cap : Nat) (xs : List ByteArray) (ho : w.ownsRow B 9 1 (.slice (some ⟨g, 0, none⟩) xs.length cap) xs.length (strFlat xs)) (h0 : 0 < xs.length) (hbig : xs.length ≤ 1000000) (hok : ∀ c ∈ xs, Pl.Ok c ∧ c.size ≤ 70368744177664) :
    Calls Tryz.prog 100 #[.slice (some ⟨g, 0, none⟩) xs.length cap, .func (.func 101) #[] #[]] w fun e w' => e = .returned (.tuple #[]) ∧ Only (fun j => j = g) w w' ∧ ∃ zs : List ByteArray, zs.Perm xs ∧ zs.Pairwise (fun a b => ¬ Pl.compare b a < 0) ∧ w'.ownsRow B 9 1 (.slice (some ⟨g, 0, none⟩) zs.length cap) zs.length (strFlat zs) := by
  obtain ⟨g', cap', cur, e1, hB, hg, hn, hc, hl, hx⟩ := ownsRow_block ho h0
  cases e1
  have hlt : g < w.heap.size := (Array.getElem?_eq_some_iff.1 hg).1
  have hH : Holds encS w g 0 (stK xs hok) := by
    intro j hj
    have hj' := hj
    rw [stK_size] at hj'
    refine ⟨?_, by simp [World.frozen?, hg]⟩
    rw [Nat.zero_add, cell_block hg j]
    have h1 : cur[j]? = (strFlat xs)[j]? := by rw [← hx, List.getElem?_take, if_pos (by omega)]
    have h2 := encS_list (stK xs hok)
    rw [stK_val] at h2
    rw [h1, ← h2, List.getElem?_map, Array.getElem?_toList, Array.getElem?_eq_getElem hj, getElem!_pos _ j hj]; rfl
  have eg : ∀ args w, (callFunc 101 args).run Tryz.prog w = .ok (.enter 101 args) w := enters_of Tryz.func101 (by kernel_rfl) rfl
  have hcon := Any.slices_SortFunc Tryz.sortStr encS (fun _ => rfl) cfS swoS 101 #[] g 0 cap (stK xs hok) w eg (cmpS g 0 _ w) hH hlt (by rw [stK_size]; omega)
  rw [stK_size] at hcon
  refine hcon.mono ?_
  rintro e w' ⟨he, d', n, os, hp, hd, hw⟩
  obtain ⟨hs, _, hperm⟩ := hp
  rw [stK_size] at hs
  have e1 : (stK xs hok).extract 0 xs.length = stK xs hok := by rw [← stK_size xs hok]; simp
  have e2 : d'.extract 0 xs.length = d' := by rw [← hs]; simp
  rw [e1, e2] at hperm
  have hlen : (d'.toList.map StrK.val).length = xs.length := by simp [hs]
  obtain ⟨hr, hO⟩ := ownsRow_putRow1 encS (w := Sort.ahead w n) (show (Sort.ahead w n).ownsRow B 9 1 _ _ _ from ho) h0 d' hs
  have hO1 : Only (fun j => j = g) w (putRow encS (Sort.ahead w n) g 0 d') := (Only.mono (show Only (fun j => j = g) w (Sort.ahead w n) from ⟨rfl, rfl, rfl, Nat.le_refl _, fun _ _ _ => rfl⟩) (fun _ h => .inl h)).then hO
  have hG : Grew (putRow encS (Sort.ahead w n) g 0 d') w' := by
    rw [hw]
    refine ⟨rfl, rfl, rfl, ?_, ?_⟩
    · unfold sortWorld grow; simp
    · intro k hk
      show (_ ++ os)[k]? = _
      rw [Array.getElem?_append]
      exact if_pos hk
  refine ⟨he, hO1.grewT hG, d'.toList.map StrK.val, ?_, ?_, ?_⟩
  · have := hperm.map StrK.val
    rwa [stK_val] at this
  · rw [List.pairwise_map, List.pairwise_iff_getElem]
    intro i j hi hj hij
    have := hd i j (Nat.zero_le _) hij (by simpa [hs] using hj)
    rw [getElem!_pos d' i (by simpa using hi), getElem!_pos d' j (by simpa using hj)] at this
    unfold ltOf cfS at this
    simpa using this
  · rw [hlen, ← encS_list]
    exact ownsRow_grew hG hr
theorem sortNone (p : Option Addr) (cap : Nat) (fv : Value) (W : World) : Calls Tryz.prog 100 #[.slice p 0 cap, fv] W fun e w' => e = .returned (.tuple #[]) ∧ w' = W :=
  AnyF.slices_SortFunc_none (P := Tryz.prog) (ρ := Tryz.sortStr_ren) { Tryz.sortStr with } p cap fv W
end Go.Proofs.YtbdagllflamabaaGreatDoor
namespace Go.Proofs.YtbdagllflamabaaGreatDoor
open Go.RowKit
namespace Pl
def isKey (s : ByteArray) : Bool := decide (keyN s = 0)
def none0 (s : ByteArray) : Bool := s.toList.isEmpty
def endB (s : ByteArray) : Bool := none0 s || isKey s
def lessB (key hi : ByteArray) : Bool := none0 hi || decide (compare key hi < 0)
def rightS (lo hi : ByteArray) : Bool := endB lo && endB hi && lessB lo hi
def hasS (lo hi key : ByteArray) : Bool := rightS lo hi && isKey key && decide (0 ≤ compare key lo) && lessB key hi
end Pl
theorem errOf_key (E : Nat → Addr) (s : ByteArray) (h : Pl.isKey s = true) : errOf E (Pl.keyN s) = .nilIface := by
  unfold Pl.isKey at h; rw [of_decide_eq_true h]; rfl
theorem errOf_nokey (E : Nat → Addr) (s : ByteArray) (h : Pl.isKey s = false) : errOf E (Pl.keyN s) = .iface 343 (.pointer (some (E (Pl.keyN s)))) :=
  errOf_pos E _ (of_decide_eq_false h)
def KeyS (S : Nat → Bool) : Prop := S 2 = true ∧ S 3 = true ∧ S 6 = true ∧ S 7 = true
set_option maxHeartbeats 400000 in
theorem end_any (S : Nat → Bool) (E : Nat → Addr) (hS : KeyS S) (s : ByteArray) (w : World) (hs : s.size ≤ 140737488351232) (hE : Errs S E w) :
    Calls Tryz.prog 53 #[.string s] w fun e w' => e = .returned (.bool (Pl.endB s)) ∧ Grew w w' := by
  obtain ⟨h2, h3, h6, h7⟩ := hS
  have hkey := key_any S E h2 h3 h6 h7 s w hs hE
  clear h2 h3 h6 h7 hE
  cases he : s.toList.isEmpty with
  | true =>
    have e : Pl.endB s = true := by unfold Pl.endB Pl.none0; rw [he]; rfl
    have e2 : s.toList = [] := by simpa using he
    have HE := hid e
    clear e hkey
    go_enter Tryz.func53, Tryz.ntmps53
    go_wp2
    go_ret
    exact ⟨ret_bool HE.out.symm, Grew.refl _⟩
  | false =>
    have e2 : (!s.toList.isEmpty) = true := by rw [he]; rfl
    have e3 : ¬ s.toList = [] := by simpa using he
    cases hk : Pl.isKey s with
    | true =>
      have e : Pl.endB s = true := by unfold Pl.endB; rw [hk]; simp
      have HE := hid e
      rw [errOf_key E s hk] at hkey
      have HK := hid hkey
      clear e hk hkey
      go_enter Tryz.func53, Tryz.ntmps53
      go_wp2_with (go_at_call 58; refine HK.out.mono ?_; rintro e w' ⟨rfl, hg⟩)
      go_ret
      exact ⟨ret_bool HE.out.symm, by assumption⟩
    | false =>
      have e : Pl.endB s = false := by unfold Pl.endB Pl.none0; rw [hk, he]; rfl
      have HE := hid e
      rw [errOf_nokey E s hk] at hkey
      have HK := hid hkey
      clear e hk hkey
      go_enter Tryz.func53, Tryz.ntmps53
      go_wp2_with (go_at_call 58; refine HK.out.mono ?_; rintro e w' ⟨rfl, hg⟩)
      go_ret
      exact ⟨ret_bool HE.out.symm, by assumption⟩
set_option maxHeartbeats 400000 in
theorem less_any (key hi : ByteArray) (w : World) (hk : key.size ≤ 70368744177664) (hh : hi.size ≤ 70368744177664) :
    Calls Tryz.prog 54 #[.string key, .string hi] w fun e w' => e = .returned (.bool (Pl.lessB key hi)) ∧ Grew w w' := by
  cases he : hi.toList.isEmpty with
  | true =>
    have e : Pl.lessB key hi = true := by unfold Pl.lessB Pl.none0; rw [he]; rfl
    have e2 : hi.toList = [] := by simpa using he
    have HE := hid e
    clear e
    go_enter Tryz.func54, Tryz.ntmps54
    go_wp2
    go_ret
    exact ⟨ret_bool HE.out.symm, Grew.refl _⟩
  | false =>
    have e2 : (!hi.toList.isEmpty) = true := by rw [he]; rfl
    have e3 : ¬ hi.toList = [] := by simpa using he
    have e : Pl.lessB key hi = decide (Pl.compare key hi < 0) := by unfold Pl.lessB Pl.none0; rw [he]; rfl
    have HE := hid e
    clear e
    go_enter Tryz.func54, Tryz.ntmps54
    go_wp2_with (go_at_call 59; refine (compare_any _ _ _ hk hh).mono ?_; rintro e w' ⟨rfl, hg⟩)
    go_ret
    exact ⟨ret_bool HE.out.symm, by assumption⟩
set_option maxHeartbeats 400000 in
theorem right_span (S : Nat → Bool) (E : Nat → Addr) (hS : KeyS S) (lo hi : ByteArray) (w : World) (hl : lo.size ≤ 70368744177664) (hh : hi.size ≤ 70368744177664) (hE : Errs S E w) :
    Calls Tryz.prog 20 #[.agg #[.string lo, .string hi]] w fun e w' => e = .returned (.bool (Pl.rightS lo hi)) ∧ Grew w w' := by
  have HE := hid hE
  have hle : lo.size ≤ 140737488351232 := by omega
  have hhe : hi.size ≤ 140737488351232 := by omega
  clear hE
  cases h1 : Pl.endB lo with
  | false =>
    have hr : Pl.rightS lo hi = false := by unfold Pl.rightS; rw [h1]; rfl
    have HR := hid hr
    clear hr
    go_enter Tryz.func20, Tryz.ntmps20
    go_wp2_with fail
    refine (end_any S E hS lo _ hle (HE.out.grew ((Grew.refl w).alloc _))).mono ?_
    rintro e w1 ⟨rfl, hg⟩
    go_wp2_with fail
    go_ret
    exact ⟨ret_bool HR.out.symm, ((Grew.refl w).alloc _).trans hg⟩
  | true =>
    cases h2 : Pl.endB hi with
    | false =>
      have hr : Pl.rightS lo hi = false := by unfold Pl.rightS; rw [h1, h2]; rfl
      have HR := hid hr
      clear hr
      go_enter Tryz.func20, Tryz.ntmps20
      go_wp2_with fail
      refine (end_any S E hS lo _ hle (HE.out.grew ((Grew.refl w).alloc _))).mono ?_
      rintro e w1 ⟨rfl, hg⟩
      have hG : Grew w w1 := ((Grew.refl w).alloc _).trans hg
      obtain ⟨hc, _⟩ := hg.cells
      go_wp2_with fail
      refine (end_any S E hS hi _ hhe (HE.out.grew hG)).mono ?_
      rintro e w2 ⟨rfl, hg2⟩
      go_wp2_with fail
      go_ret
      exact ⟨ret_bool HR.out.symm, hG.trans hg2⟩
    | true =>
      have hr : Pl.rightS lo hi = Pl.lessB lo hi := by unfold Pl.rightS; rw [h1, h2]; rfl
      have HR := hid hr
      clear hr
      go_enter Tryz.func20, Tryz.ntmps20
      go_wp2_with fail
      refine (end_any S E hS lo _ hle (HE.out.grew ((Grew.refl w).alloc _))).mono ?_
      rintro e w1 ⟨rfl, hg⟩
      have hG : Grew w w1 := ((Grew.refl w).alloc _).trans hg
      obtain ⟨hc, _⟩ := hg.cells
      go_wp2_with fail
      refine (end_any S E hS hi _ hhe (HE.out.grew hG)).mono ?_
      rintro e w2 ⟨rfl, hg2⟩
      have hz : w.heap.size < w1.heap.size := by have := hg.size; simp at this; omega
      obtain ⟨hc2, _⟩ := hg2.cells
      go_wp2_with fail
      refine (less_any lo hi _ hl hh).mono ?_
      rintro e w3 ⟨rfl, hg3⟩
      go_wp2_with fail
      go_ret
      exact ⟨ret_bool HR.out.symm, (hG.trans hg2).trans hg3⟩
end Go.Proofs.YtbdagllflamabaaGreatDoor
namespace Go.Proofs.YtbdagllflamabaaGreatDoor
open Go.RowKit
set_option maxHeartbeats 800000 in
theorem has_span (S : Nat → Bool) (E : Nat → Addr) (hS : KeyS S) (lo hi key : ByteArray) (w : World) (hl : lo.size ≤ 70368744177664) (hh : hi.size ≤ 70368744177664) (hk : key.size ≤ 70368744177664) (hE : Errs S E w) :
    Calls Tryz.prog 23 #[.agg #[.string lo, .string hi], .string key] w fun e w' => e = .returned (.bool (Pl.hasS lo hi key)) ∧ Grew w w' := by
  have HE := hid hE
  obtain ⟨s2, s3, s6, s7⟩ := id hS
  clear hE
  cases h1 : Pl.rightS lo hi with
  | false =>
    have hr : Pl.hasS lo hi key = false := by unfold Pl.hasS; rw [h1]; rfl
    have HR := hid hr
    clear hr
    go_enter Tryz.func23, Tryz.ntmps23
    go_wp2_with fail
    refine (right_span S E hS lo hi _ hl hh (HE.out.grew ((Grew.refl w).alloc _))).mono ?_
    rintro e w1 ⟨rfl, hg⟩
    go_wp2_with fail
    go_ret
    exact ⟨ret_bool HR.out.symm, ((Grew.refl w).alloc _).trans hg⟩
  | true =>
    cases h2 : Pl.isKey key with
    | false =>
      have hr : Pl.hasS lo hi key = false := by unfold Pl.hasS; rw [h1, h2]; rfl
      have HR := hid hr
      have HK := hid (errOf_nokey E key h2)
      clear hr
      go_enter Tryz.func23, Tryz.ntmps23
      go_wp2_with fail
      refine (right_span S E hS lo hi _ hl hh (HE.out.grew ((Grew.refl w).alloc _))).mono ?_
      rintro e w1 ⟨rfl, hg⟩
      have hG : Grew w w1 := ((Grew.refl w).alloc _).trans hg
      go_wp2_with fail
      refine (key_any S E s2 s3 s6 s7 key _ (by omega) (HE.out.grew hG)).mono ?_
      rw [HK.out]
      rintro e w2 ⟨rfl, hg2⟩
      go_wp2_with fail
      go_ret
      exact ⟨ret_bool HR.out.symm, hG.trans hg2⟩
    | true =>
      have HK := hid (errOf_key E key h2)
      by_cases h3 : 0 ≤ Pl.compare key lo
      · have hr : Pl.hasS lo hi key = Pl.lessB key hi := by unfold Pl.hasS; rw [h1, h2, decide_eq_true h3]; rfl
        have HR := hid hr
        clear hr
        go_enter Tryz.func23, Tryz.ntmps23
        go_wp2_with fail
        refine (right_span S E hS lo hi _ hl hh (HE.out.grew ((Grew.refl w).alloc _))).mono ?_
        rintro e w1 ⟨rfl, hg⟩
        have hG : Grew w w1 := ((Grew.refl w).alloc _).trans hg
        have hz : w.heap.size < w1.heap.size := by have := hg.size; simp at this; omega
        obtain ⟨hc, _⟩ := hg.cells
        go_wp2_with fail
        refine (key_any S E s2 s3 s6 s7 key _ (by omega) (HE.out.grew hG)).mono ?_
        rw [HK.out]
        rintro e w2 ⟨rfl, hg2⟩
        have hz2 : w.heap.size < w2.heap.size := by have := hg2.size; omega
        obtain ⟨hc2, _⟩ := hg2.cells
        go_wp2_with fail
        refine (compare_any key lo _ hk hl).mono ?_
        rintro e w3 ⟨rfl, hg3⟩
        obtain ⟨hc3, _⟩ := hg3.cells
        go_wp2_with fail
        refine (less_any key hi _ hk hh).mono ?_
        rintro e w4 ⟨rfl, hg4⟩
        go_wp2_with fail
        go_ret
        exact ⟨ret_bool HR.out.symm, ((hG.trans hg2).trans hg3).trans hg4⟩
      · have hr : Pl.hasS lo hi key = false := by unfold Pl.hasS; rw [h1, h2, decide_eq_false h3]; rfl
        have HR := hid hr
        clear hr
        go_enter Tryz.func23, Tryz.ntmps23
        go_wp2_with fail
        refine (right_span S E hS lo hi _ hl hh (HE.out.grew ((Grew.refl w).alloc _))).mono ?_
        rintro e w1 ⟨rfl, hg⟩
        have hG : Grew w w1 := ((Grew.refl w).alloc _).trans hg
        have hz : w.heap.size < w1.heap.size := by have := hg.size; simp at this; omega
        obtain ⟨hc, _⟩ := hg.cells
        go_wp2_with fail
        refine (key_any S E s2 s3 s6 s7 key _ (by omega) (HE.out.grew hG)).mono ?_
        rw [HK.out]
        rintro e w2 ⟨rfl, hg2⟩
        have hz2 : w.heap.size < w2.heap.size := by have := hg2.size; omega
        obtain ⟨hc2, _⟩ := hg2.cells
        go_wp2_with fail
        refine (compare_any key lo _ hk hl).mono ?_
        rintro e w3 ⟨rfl, hg3⟩
        go_wp2_with fail
        go_ret
        exact ⟨ret_bool HR.out.symm, (hG.trans hg2).trans hg3⟩
end Go.Proofs.YtbdagllflamabaaGreatDoor
namespace Go.Proofs.YtbdagllflamabaaGreatDoor
open Go.RowKit
namespace Pl
def cutE (r : Bool) (k : Nat) (h : Bool) (lo key : ByteArray) : Nat :=
  if r = false then 4 else if k ≠ 0 then k else if h = false ∨ key.toList = lo.toList then 1 else 0
def cutA (e : Nat) (lo key : ByteArray) : ByteArray × ByteArray := if e = 0 then (lo, key) else (⟨#[]⟩, ⟨#[]⟩)
end Pl
abbrev noText : ByteArray := ⟨#[]⟩
def SpanS (S : Nat → Bool) : Prop := KeyS S ∧ S 1 = true ∧ S 4 = true
def CutPost (E : Nat → Addr) (lo hi key : ByteArray) (n : Nat) (w : World) (e : Ending) (w' : World) : Prop :=
  e = .returned (.tuple #[.agg #[.string (Pl.cutA n lo key).1, .string (Pl.cutA n lo key).2], .agg #[.string (Pl.cutA n key hi).1, .string (Pl.cutA n key hi).2], errOf E n]) ∧ Grew w w'
set_option maxHeartbeats 800000 in
theorem cut_any (S : Nat → Bool) (E : Nat → Addr) (hS : SpanS S) (lo hi key : ByteArray) (w : World) (hl : lo.size ≤ 70368744177664) (hh : hi.size ≤ 70368744177664) (hk : key.size ≤ 70368744177664) (hE : Errs S E w) :
    Calls Tryz.prog 142 #[.agg #[.string lo, .string hi], .string key] w (CutPost E lo hi key (Pl.cutE (Pl.rightS lo hi) (Pl.keyN key) (Pl.hasS lo hi key) lo key) w) := by
  have HE := hid hE
  obtain ⟨hK, s1, s4⟩ := hS
  obtain ⟨s2, s3, s6, s7⟩ := id hK
  have b4 : 0 < w.heap.size := cell_lt (hE.cell 4 s4)
  have b1 : 1 < w.heap.size := cell_lt (hE.cell 1 s1)
  clear hE
  cases h1 : Pl.rightS lo hi with
  | false =>
    have hn : Pl.cutE false (Pl.keyN key) (Pl.hasS lo hi key) lo key = 4 := rfl
    rw [hn]
    clear hn
    go_enter Tryz.func142, Tryz.ntmps142
    go_wp2_with fail
    refine (right_span S E hK lo hi _ hl hh (HE.out.grew ((((Grew.refl w).alloc _).alloc _).alloc _))).mono ?_
    rintro e w1 ⟨rfl, hg⟩
    have hG : Grew w w1 := ((((Grew.refl w).alloc _).alloc _).alloc _).trans hg
    obtain ⟨hc, hf⟩ := hg.cells
    have cw4 : w.cell? ⟨0, 0, none⟩ = some (.iface 343 (.pointer (some (E 4)))) := HE.out.cell 4 s4
    have c4 : w1.cell? ⟨0, 0, none⟩ = some (.iface 343 (.pointer (some (E 4)))) := (HE.out.grew hG).cell 4 s4
    go_wp2_with fail
    go_region
    go_wp2_with fail
    refine bodyPost_ret (v := .tuple #[.agg #[.string noText, .string noText], .agg #[.string noText, .string noText], errOf E 4]) (by simp [results, Tryz.results142, go_sem, hc]; rfl) rfl ⟨rfl, ?_⟩
    exact ((((hG.setCell (by simp) _).setCell (by simp) _).setCell (by simp; omega) _).setCell (by simp; omega) _).drew
  | true =>
    cases h2 : Pl.isKey key with
    | false =>
      have k0 : Pl.keyN key ≠ 0 := of_decide_eq_false h2
      have hn : Pl.cutE true (Pl.keyN key) (Pl.hasS lo hi key) lo key = Pl.keyN key := by unfold Pl.cutE; rw [if_neg (by decide), if_pos k0]
      have hA : ∀ a b, Pl.cutA (Pl.keyN key) a b = (noText, noText) := fun a b => by unfold Pl.cutA; rw [if_neg k0]
      have HK := hid (errOf_nokey E key h2)
      unfold CutPost
      rw [hn, hA, hA, HK.out]
      clear hn hA k0
      go_enter Tryz.func142, Tryz.ntmps142
      go_wp2_with fail
      refine (right_span S E hK lo hi _ hl hh (HE.out.grew ((((Grew.refl w).alloc _).alloc _).alloc _))).mono ?_
      rintro e w1 ⟨rfl, hg⟩
      have hG : Grew w w1 := ((((Grew.refl w).alloc _).alloc _).alloc _).trans hg
      have hz : w.heap.size < w1.heap.size ∧ w.heap.size + 1 < w1.heap.size ∧ w.heap.size + 1 + 1 < w1.heap.size := by have := hg.size; simp at this; omega
      obtain ⟨hz0, hz1, hz2⟩ := hz
      obtain ⟨hc, hf⟩ := hg.cells
      go_wp2_with fail
      refine (key_any S E s2 s3 s6 s7 key _ (by omega) (HE.out.grew hG)).mono ?_
      rw [HK.out]
      rintro e w2 ⟨rfl, hg2⟩
      obtain ⟨hc2, hf2⟩ := hg2.cells
      have hG2 : Grew w w2 := hG.trans hg2
      go_wp2_with fail
      refine bodyPost_ret (v := .tuple #[.agg #[.string noText, .string noText], .agg #[.string noText, .string noText], .iface 343 (.pointer (some (E (Pl.keyN key))))]) (by simp [results, Tryz.results142, go_sem, hc, hc2, hz1, hz2]) rfl ⟨rfl, ?_⟩
      exact (((hG2.setCell (by simp) _).setCell (by simp) _).setCell (by simp; omega) _).setCell (by simp; omega) _
    | true =>
      have k0 : Pl.keyN key = 0 := of_decide_eq_true h2
      have HK := hid (errOf_key E key h2)
      cases h3 : Pl.hasS lo hi key with
      | false =>
        have hn : Pl.cutE true (Pl.keyN key) false lo key = 1 := by unfold Pl.cutE; rw [if_neg (by decide), if_neg (by omega), if_pos (Or.inl rfl)]
        rw [hn]
        clear hn k0
        go_enter Tryz.func142, Tryz.ntmps142
        go_wp2_with fail
        refine (right_span S E hK lo hi _ hl hh (HE.out.grew ((((Grew.refl w).alloc _).alloc _).alloc _))).mono ?_
        rintro e w1 ⟨rfl, hg⟩
        have hG : Grew w w1 := ((((Grew.refl w).alloc _).alloc _).alloc _).trans hg
        have hz : w.heap.size < w1.heap.size ∧ w.heap.size + 1 < w1.heap.size ∧ w.heap.size + 1 + 1 < w1.heap.size := by have := hg.size; simp at this; omega
        obtain ⟨hz0, hz1, hz2⟩ := hz
        obtain ⟨hc, hf⟩ := hg.cells
        go_wp2_with fail
        refine (key_any S E s2 s3 s6 s7 key _ (by omega) (HE.out.grew hG)).mono ?_
        rw [HK.out]
        rintro e w2 ⟨rfl, hg2⟩
        obtain ⟨hc2, hf2⟩ := hg2.cells
        have hG2 : Grew w w2 := hG.trans hg2
        have hy : w.heap.size < w2.heap.size ∧ w.heap.size + 1 < w2.heap.size ∧ w.heap.size + 1 + 1 < w2.heap.size := by have := hg2.size; omega
        obtain ⟨hy0, hy1, hy2⟩ := hy
        go_wp2_with fail
        refine (has_span S E hK lo hi key _ hl hh hk (HE.out.grew hG2)).mono ?_
        rintro e w3 ⟨rfl, hg3⟩
        obtain ⟨hc3, hf3⟩ := hg3.cells
        have hG3 : Grew w w3 := hG2.trans hg3
        have c1 : w3.cell? ⟨1, 0, none⟩ = some (.iface 343 (.pointer (some (E 1)))) := (HE.out.grew hG3).cell 1 s1
        go_wp2_with fail
        go_region
        go_wp2_with fail
        refine bodyPost_ret (v := .tuple #[.agg #[.string noText, .string noText], .agg #[.string noText, .string noText], errOf E 1]) (by simp [results, Tryz.results142, go_sem, hc, hc2, hc3, hz1, hz2, hy1, hy2]; rfl) rfl ⟨rfl, ?_⟩
        exact ((((hG3.setCell (by simp) _).setCell (by simp) _).setCell (by simp; omega) _).setCell (by simp; omega) _).drew
      | true =>
        by_cases h4 : key.toList = lo.toList
        · have hn : Pl.cutE true (Pl.keyN key) true lo key = 1 := by unfold Pl.cutE; rw [if_neg (by decide), if_neg (by omega), if_pos (Or.inr h4)]
          rw [hn]
          have h5 : (key.toList == lo.toList) = true := by simpa using h4
          clear hn k0 h4
          go_enter Tryz.func142, Tryz.ntmps142
          go_wp2_with fail
          refine (right_span S E hK lo hi _ hl hh (HE.out.grew ((((Grew.refl w).alloc _).alloc _).alloc _))).mono ?_
          rintro e w1 ⟨rfl, hg⟩
          have hG : Grew w w1 := ((((Grew.refl w).alloc _).alloc _).alloc _).trans hg
          have hz : w.heap.size < w1.heap.size ∧ w.heap.size + 1 < w1.heap.size ∧ w.heap.size + 1 + 1 < w1.heap.size := by have := hg.size; simp at this; omega
          obtain ⟨hz0, hz1, hz2⟩ := hz
          obtain ⟨hc, hf⟩ := hg.cells
          go_wp2_with fail
          refine (key_any S E s2 s3 s6 s7 key _ (by omega) (HE.out.grew hG)).mono ?_
          rw [HK.out]
          rintro e w2 ⟨rfl, hg2⟩
          obtain ⟨hc2, hf2⟩ := hg2.cells
          have hG2 : Grew w w2 := hG.trans hg2
          have hy : w.heap.size < w2.heap.size ∧ w.heap.size + 1 < w2.heap.size ∧ w.heap.size + 1 + 1 < w2.heap.size := by have := hg2.size; omega
          obtain ⟨hy0, hy1, hy2⟩ := hy
          go_wp2_with fail
          refine (has_span S E hK lo hi key _ hl hh hk (HE.out.grew hG2)).mono ?_
          rintro e w3 ⟨rfl, hg3⟩
          obtain ⟨hc3, hf3⟩ := hg3.cells
          have hG3 : Grew w w3 := hG2.trans hg3
          have c1 : w3.cell? ⟨1, 0, none⟩ = some (.iface 343 (.pointer (some (E 1)))) := (HE.out.grew hG3).cell 1 s1
          go_wp2_with fail
          go_region
          go_wp2_with fail
          refine bodyPost_ret (v := .tuple #[.agg #[.string noText, .string noText], .agg #[.string noText, .string noText], errOf E 1]) (by simp [results, Tryz.results142, go_sem, hc, hc2, hc3, hz1, hz2, hy1, hy2]; rfl) rfl ⟨rfl, ?_⟩
          exact ((((hG3.setCell (by simp) _).setCell (by simp) _).setCell (by simp; omega) _).setCell (by simp; omega) _).drew
        · have hn : Pl.cutE true (Pl.keyN key) true lo key = 0 := by unfold Pl.cutE; rw [if_neg (by decide), if_neg (by omega), if_neg (by simpa using h4)]
          rw [hn]
          have h5 : (key.toList == lo.toList) = false := by simpa using h4
          clear hn k0 h4
          go_enter Tryz.func142, Tryz.ntmps142
          go_wp2_with fail
          refine (right_span S E hK lo hi _ hl hh (HE.out.grew ((((Grew.refl w).alloc _).alloc _).alloc _))).mono ?_
          rintro e w1 ⟨rfl, hg⟩
          have hG : Grew w w1 := ((((Grew.refl w).alloc _).alloc _).alloc _).trans hg
          have hz : w.heap.size < w1.heap.size ∧ w.heap.size + 1 < w1.heap.size ∧ w.heap.size + 1 + 1 < w1.heap.size := by have := hg.size; simp at this; omega
          obtain ⟨hz0, hz1, hz2⟩ := hz
          obtain ⟨hc, hf⟩ := hg.cells
          go_wp2_with fail
          refine (key_any S E s2 s3 s6 s7 key _ (by omega) (HE.out.grew hG)).mono ?_
          rw [HK.out]
          rintro e w2 ⟨rfl, hg2⟩
          obtain ⟨hc2, hf2⟩ := hg2.cells
          have hG2 : Grew w w2 := hG.trans hg2
          have hy : w.heap.size < w2.heap.size ∧ w.heap.size + 1 < w2.heap.size ∧ w.heap.size + 1 + 1 < w2.heap.size := by have := hg2.size; omega
          obtain ⟨hy0, hy1, hy2⟩ := hy
          go_wp2_with fail
          refine (has_span S E hK lo hi key _ hl hh hk (HE.out.grew hG2)).mono ?_
          rintro e w3 ⟨rfl, hg3⟩
          obtain ⟨hc3, hf3⟩ := hg3.cells
          have hG3 : Grew w w3 := hG2.trans hg3
          have l0 : w3.cell? ⟨w.heap.size, 0, none⟩ = some (.string lo) := by rw [hc3 _ _ hy0, hc2 _ _ hz0, hc _ _ (by simp; omega)]; simp [go_sem]
          have l1 : w3.cell? ⟨w.heap.size, 1, none⟩ = some (.string hi) := by rw [hc3 _ _ hy0, hc2 _ _ hz0, hc _ _ (by simp; omega)]; simp [go_sem]
          go_wp2_with fail
          go_region
          go_wp2_with fail
          refine bodyPost_ret (v := .tuple #[.agg #[.string lo, .string key], .agg #[.string key, .string hi], errOf E 0]) (by simp [results, Tryz.results142, go_sem, hc, hc2, hc3, hz1, hz2, hy1, hy2]; rfl) rfl ⟨rfl, ?_⟩
          exact ((((hG3.setCell (by simp) _).setCell (by simp) _).setCell (by simp; omega) _).setCell (by simp; omega) _).drew
end Go.Proofs.YtbdagllflamabaaGreatDoor
