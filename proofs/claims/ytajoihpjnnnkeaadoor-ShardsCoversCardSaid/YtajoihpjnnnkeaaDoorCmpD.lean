/- runes.Compare again: blocks are laid, answers drawn, and that is all. What slices.SortFunc asks of a closure. Then: Plain: a row in strict order, sorted, is the row itself. No walk here. Then: The library's contract of slices.SortFunc, laid at api.Span: in plain declarations (by wip/lay.py). Then: slices.SortFunc at the spans of a chain: by Lo: the row stays. -/
import Derived.Test.YtajoihpjnnnkeaaDoorRunes3
import Derived.Shelf.SlSortCmp.WholeK
import Derived.Sort.Statements
import Derived.Shelf.SlSortCmp.Insertion
import Derived.Test.YtajoihpjnnnkeaaDoorKit
import Derived.Test.YtajoihpjnnnkeaaDoorTabP
set_option linter.unusedVariables false
namespace Go.Proofs.YtajoihpjnnnkeaaDoor
open Go.RowKit Go.Shelf Go.Lib Go.Sort

/-- Blocks laid, answers drawn: nothing else. -/
def GrewD (w w' : World) : Prop := Grew w w' ∧ w.drawn ≤ w'.drawn
theorem GrewD.refl (w : World) : GrewD w w := ⟨Grew.refl w, Nat.le_refl _⟩
theorem GrewD.trans {a b c : World} (h : GrewD a b) (k : GrewD b c) : GrewD a c := ⟨h.1.trans k.1, Nat.le_trans h.2 k.2⟩
theorem GrewD.alloc {a b : World} (h : GrewD a b) (o : Obj) : GrewD a (b.alloc o) := ⟨h.1.alloc o, h.2⟩
theorem GrewD.drew {a b : World} (h : GrewD a b) : GrewD a b.drew := ⟨h.1.drew, Nat.le_succ_of_le h.2⟩
theorem GrewD.iter {a b : World} (h : GrewD a b) (s : ByteArray) (p : Nat) : GrewD a (b.iter s p) := ⟨h.1.iter s p, h.2⟩
theorem GrewD.grown {w w' : World} (h : GrewD w w') : ∃ q os, w' = grow (w.drewN q) os := by
  obtain ⟨⟨h1, h2, h3, h4, h5⟩, h6⟩ := h
  refine ⟨w'.drawn - w.drawn, w'.heap.extract w.heap.size w'.heap.size, ?_⟩
  obtain ⟨hp, tp, dr, os, ou⟩ := w'
  obtain ⟨hp0, tp0, dr0, os0, ou0⟩ := w
  dsimp only at *
  subst h1 h2 h3
  unfold grow World.drewN
  dsimp only
  have e1 : dr0 + (dr - dr0) = dr := by omega
  have e2 : hp0 ++ hp.extract hp0.size hp.size = hp := by
    apply Array.ext_getElem?
    intro i
    rw [Array.getElem?_append]
    by_cases hi : i < hp0.size
    · rw [if_pos hi, h5 i hi]
    · rw [if_neg hi, Array.getElem?_extract]
      by_cases h7 : i < hp.size
      · rw [if_pos (by omega)]; congr 1; omega
      · rw [if_neg (by omega), Array.getElem?_eq_none (by omega)]
  rw [e1, e2]

set_option maxHeartbeats 400000 in
theorem listD_any (s : ByteArray) (l : List Nat) (w : World) (hs : s.size ≤ 70368744177664) (hr : Pl.runes s.data.toList = some l) :
    Calls Tryd.prog 106 #[.string s] w fun e w' => ∃ v, e = .returned v ∧ RuneRow w' v l ∧ GrewD w w' := by
  have hq : Pl.right s = true := by unfold Pl.right; rw [hr]; rfl
  have hf : Conv.runesFrom s s.size 0 #[] = (l.map fun c => Value.int .i32 (c : Nat)).toArray := by
    rw [runesFrom_list s s.size 0 l #[] (by omega) hr]; simp
  have hcv := fun W => run_runes_of_string (P := Tryd.prog) W 9 173 21 s Tryd.underlying9 Tryd.underlying173 Tryd.underlying21 (by have := size_runesFrom s s.size 0 #[]; simp at this; omega)
  rw [hf] at hcv
  have HF := hid hf
  have HR := hid hr
  clear hf hr
  go_enter Tryd.func106, Tryd.ntmps106
  go_wp2_with (go_at_call 69; refine (right_any _ _ (by omega)).mono ?_; rintro e w' ⟨rfl, p, rfl⟩)
  go_ret
  refine ⟨_, rfl, ⟨_, _, rfl, fun i hi => ?_⟩, (((GrewD.refl w).iter _ _).alloc _).drew⟩
  show (World.alloc _ _).cell? _ = _
  rw [cell_of_row _ _ _ _ _ _ (heap_alloc_new _ _), Array.getElem?_append_left (by simpa using hi)]
  simp [hi]

set_option maxHeartbeats 400000 in
theorem compareD_any (a b : ByteArray) (w : World) (ha : a.size ≤ 70368744177664) (hb : b.size ≤ 70368744177664) :
    Calls Tryd.prog 68 #[.string a, .string b] w fun e w' => e = .returned (.int .i64 (Pl.compare a b)) ∧ GrewD w w' := by
  cases hr : Pl.runes a.data.toList with
  | none =>
    have hq : Pl.right a = false := by unfold Pl.right; rw [hr]; rfl
    have hc : Pl.compare a b = 0 := by unfold Pl.compare; rw [hr]
    have HC := hid hc
    clear hc hr
    go_enter Tryd.func68, Tryd.ntmps68
    go_wp2_with (go_at_call 69; refine (right_any _ _ (by omega)).mono ?_; rintro e w' ⟨rfl, p, rfl⟩)
    go_ret
    exact ⟨ret_int HC.out.symm, (GrewD.refl w).iter _ _⟩
  | some x =>
    have hq : Pl.right a = true := by unfold Pl.right; rw [hr]; rfl
    cases hr2 : Pl.runes b.data.toList with
    | none =>
      have hq2 : Pl.right b = false := by unfold Pl.right; rw [hr2]; rfl
      have hc : Pl.compare a b = 0 := by unfold Pl.compare; rw [hr, hr2]
      have HC := hid hc
      clear hc hr hr2
      go_enter Tryd.func68, Tryd.ntmps68
      go_wp2_with fail
      refine (right_any a _ (by omega)).mono ?_
      rintro e w' ⟨rfl, p, rfl⟩
      go_wp2_with fail
      refine (right_any b _ (by omega)).mono ?_
      rintro e w' ⟨rfl, q, rfl⟩
      go_wp2_with fail
      go_ret
      exact ⟨ret_int HC.out.symm, ((GrewD.refl w).iter _ _).iter _ _⟩
    | some y =>
      have hq2 : Pl.right b = true := by unfold Pl.right; rw [hr2]; rfl
      have hc : Pl.compare a b = Pl.cmpNums x y := by unfold Pl.compare; rw [hr, hr2]
      have hx : x.length ≤ a.size := by simpa using Pl.runes_len _ _ x (Nat.le_refl _) hr
      have hy : y.length ≤ b.size := by simpa using Pl.runes_len _ _ y (Nat.le_refl _) hr2
      have HC := hid hc
      have HR := hid hr
      have HR2 := hid hr2
      clear hc hr hr2
      go_enter Tryd.func68, Tryd.ntmps68
      go_wp2_with fail
      refine (right_any a _ (by omega)).mono ?_
      rintro e w' ⟨rfl, p, rfl⟩
      go_wp2_with fail
      refine (right_any b _ (by omega)).mono ?_
      rintro e w' ⟨rfl, q, rfl⟩
      go_wp2_with fail
      refine (listD_any a x _ ha HR.out).mono ?_
      rintro e w1 ⟨v1, rfl, hv1, hg1⟩
      go_wp2_with fail
      refine (listD_any b y _ hb HR2.out).mono ?_
      rintro e w2 ⟨v2, rfl, hv2, hg2⟩
      go_wp2_with fail
      refine (compareFunc_any v1 v2 x y _ (hv1.grew hg2.1) hv2 (by omega)).mono ?_
      rintro e w' ⟨rfl, rfl⟩
      go_wp2_with fail
      go_ret
      exact ⟨ret_int HC.out.symm, (((GrewD.refl w).iter _ _).iter _ _).trans (hg1.trans hg2)⟩
end Go.Proofs.YtajoihpjnnnkeaaDoor

set_option linter.unusedVariables false
namespace Go.Proofs.YtajoihpjnnnkeaaDoor.Pl
open Go.Sort Go.Proofs

theorem perm_rise {α : Type} (lt : α → α → Prop) : ∀ (l l' : List α), l.Perm l' → l.Pairwise lt → l'.Pairwise (fun a b => ¬ lt b a) → (∀ a b, lt a b → ¬ lt b a) → l = l'
  | [], l', hp, _, _, _ => (List.Perm.nil_eq hp)
  | a :: l, [], hp, _, _, _ => by have := hp.length_eq; simp at this
  | a :: l, b :: l', hp, h1, h2, h3 => by
    rw [List.pairwise_cons] at h1 h2
    have hab : a = b := by
      have hb : b ∈ a :: l := hp.mem_iff.2 (List.mem_cons_self ..)
      have ha : a ∈ b :: l' := hp.mem_iff.1 (List.mem_cons_self ..)
      rcases List.mem_cons.1 hb with hb | hb
      · exact hb.symm
      · rcases List.mem_cons.1 ha with ha | ha
        · exact ha
        · exact absurd (h1.1 b hb) (h2.1 a ha)
    subst hab
    rw [perm_rise lt l l' (List.perm_cons a |>.1 hp) h1.2 h2.2 h3]

/-- A row in strict order, sorted, is the row itself. -/
theorem sorted_same {α : Type} [Inhabited α] (cf : α → α → Int) (hO : SWO (ltOf cf)) (d d' : Array α) (hs : ∀ i j, i < j → j < d.size → ltOf cf d[i]! d[j]! = true) (hp : PermIn 0 d.size d d') (hd : SortedIn (ltOf cf) 0 d.size d') : d' = d := by
  obtain ⟨h1, _, h3⟩ := hp
  have e1 : d.extract 0 d.size = d := by simp
  have e2 : d'.extract 0 d.size = d' := by rw [← h1]; simp
  rw [e1, e2] at h3
  have hasy : ∀ a b, ltOf cf a b = true → ¬ ltOf cf b a = true := by
    intro a b h k
    have := hO.trans a b a h k
    rw [hO.irrefl] at this; cases this
  have := perm_rise (fun a b => ltOf cf a b = true) d.toList d'.toList h3.symm ?_ ?_ hasy
  · exact (Array.ext' this).symm
  · rw [List.pairwise_iff_getElem]
    intro i j hi hj hij
    have := hs i j hij (by simpa using hj)
    rw [getElem!_pos d i (by simpa using hi), getElem!_pos d j (by simpa using hj)] at this
    simpa using this
  · rw [List.pairwise_iff_getElem]
    intro i j hi hj hij
    have := hd i j (Nat.zero_le _) hij (by rw [← h1]; simpa using hj)
    rw [getElem!_pos d' i (by simpa using hi), getElem!_pos d' j (by simpa using hj)] at this
    simpa using this
end Go.Proofs.YtajoihpjnnnkeaaDoor.Pl

namespace Go.Proofs.YtajoihpjnnnkeaaDoor
open Go.Shelf
def Tryd.sortSpan_ren : Go.Shelf.Ren := ⟨fun | 6 => 88 | 15 => 111 | 14 => 123 | 28 => 139 | 29 => 140 | 20 => 146 | 21 => 147 | 22 => 148 | 23 => 149 | 24 => 150 | 25 => 151 | 26 => 152 | 27 => 153 | 46 => 164 | 47 => 157 | 48 => 158 | 49 => 165 | 50 => 166 | 57 => 177 | n => n, fun | 22 => 85 | 24 => 38 | 25 => 157 | 3 => 3 | 39 => 78 | 0 => 0 | 53 => 219 | 55 => 221 | 4 => 4 | 46 => 213 | 45 => 212 | 50 => 122 | 5 => 5 | 9 => 9 | 66 => 241 | 70 => 245 | 76 => 253 | 77 => 254 | n => n, fun | n => n⟩
theorem Tryd.sortSpan : Go.Proofs.SlLaysF0.n6 Tryd.prog Tryd.sortSpan_ren := {
  mixed := by kernel_rfl
  f6 := ⟨Tryd.f88.name, by decide, Tryd.func88.trans (congrArg some (by kernel_rfl))⟩
  f14 := ⟨Tryd.f123.name, by decide, Tryd.func123.trans (congrArg some (by kernel_rfl))⟩
  f15 := Tryd.func111.trans (congrArg some (by kernel_rfl))
  f20 := ⟨Tryd.f146.name, by decide, Tryd.func146.trans (congrArg some (by kernel_rfl))⟩
  f21 := ⟨Tryd.f147.name, by decide, Tryd.func147.trans (congrArg some (by kernel_rfl))⟩
  f22 := ⟨Tryd.f148.name, by decide, Tryd.func148.trans (congrArg some (by kernel_rfl))⟩
  f23 := ⟨Tryd.f149.name, by decide, Tryd.func149.trans (congrArg some (by kernel_rfl))⟩
  f24 := ⟨Tryd.f150.name, by decide, Tryd.func150.trans (congrArg some (by kernel_rfl))⟩
  f25 := ⟨Tryd.f151.name, by decide, Tryd.func151.trans (congrArg some (by kernel_rfl))⟩
  f26 := ⟨Tryd.f152.name, by decide, Tryd.func152.trans (congrArg some (by kernel_rfl))⟩
  f27 := ⟨Tryd.f153.name, by decide, Tryd.func153.trans (congrArg some (by kernel_rfl))⟩
  f28 := Tryd.func139.trans (congrArg some (by kernel_rfl))
  f29 := Tryd.func140.trans (congrArg some (by kernel_rfl))
  f46 := ⟨Tryd.f164.name, by decide, Tryd.func164.trans (congrArg some (by kernel_rfl))⟩
  f47 := Tryd.func157.trans (congrArg some (by kernel_rfl))
  f48 := Tryd.func158.trans (congrArg some (by kernel_rfl))
  f49 := ⟨Tryd.f165.name, by decide, Tryd.func165.trans (congrArg some (by kernel_rfl))⟩
  f50 := ⟨Tryd.f166.name, by decide, Tryd.func166.trans (congrArg some (by kernel_rfl))⟩
  f57 := ⟨Tryd.f177.name, by decide, Tryd.func177.trans (congrArg some (by kernel_rfl))⟩
  t0 := Tryd.underlying0
  a0 := Tryd.isAgg0
  z0 := Tryd.sizeOf0
  v0 := Tryd.zeroValue0
  t3 := Tryd.underlying3
  a3 := Tryd.isAgg3
  z3 := Tryd.sizeOf3
  v3 := Tryd.zeroValue3
  t4 := Tryd.underlying4
  a4 := Tryd.isAgg4
  z4 := Tryd.sizeOf4
  v4 := Tryd.zeroValue4
  t5 := Tryd.underlying5
  a5 := Tryd.isAgg5
  z5 := Tryd.sizeOf5
  v5 := Tryd.zeroValue5
  t9 := Tryd.underlying9
  a9 := Tryd.isAgg9
  z9 := Tryd.sizeOf9
  v9 := Tryd.zeroValue9
  t22 := Tryd.underlying85
  a22 := Tryd.isAgg85
  z22 := Tryd.sizeOf85
  v22 := Tryd.zeroValue85
  t25 := Tryd.underlying157
  a25 := Tryd.isAgg157
  z25 := Tryd.sizeOf157
  v25 := Tryd.zeroValue157
  t39 := Tryd.underlying78
  a39 := Tryd.isAgg78
  z39 := Tryd.sizeOf78
  v39 := Tryd.zeroValue78
  t45 := Tryd.underlying212
  a45 := Tryd.isAgg212
  z45 := Tryd.sizeOf212
  v45 := Tryd.zeroValue212
  t46 := Tryd.underlying213
  a46 := Tryd.isAgg213
  z46 := Tryd.sizeOf213
  v46 := Tryd.zeroValue213
  t50 := Tryd.underlying122
  a50 := Tryd.isAgg122
  z50 := Tryd.sizeOf122
  v50 := Tryd.zeroValue122
  t53 := Tryd.underlying219
  a53 := Tryd.isAgg219
  z53 := Tryd.sizeOf219
  v53 := Tryd.zeroValue219
  t55 := Tryd.underlying221
  a55 := Tryd.isAgg221
  z55 := Tryd.sizeOf221
  v55 := Tryd.zeroValue221
  t66 := Tryd.underlying241
  a66 := Tryd.isAgg241
  z66 := Tryd.sizeOf241
  v66 := Tryd.zeroValue241
  t70 := Tryd.underlying245
  a70 := Tryd.isAgg245
  z70 := Tryd.sizeOf245
  v70 := Tryd.zeroValue245
  t76 := Tryd.underlying253
  a76 := Tryd.isAgg253
  z76 := Tryd.sizeOf253
  v76 := Tryd.zeroValue253
  t77 := Tryd.underlying254
  a77 := Tryd.isAgg254
  z77 := Tryd.sizeOf254
  v77 := Tryd.zeroValue254 }

end Go.Proofs.YtajoihpjnnnkeaaDoor

set_option linter.unusedVariables false
namespace Go.Proofs.YtajoihpjnnnkeaaDoor
open Go.RowKit Go.Shelf Go.Lib Go.Sort

/-- A span whose Lo is a right text. -/
def SpK := { p : ByteArray × ByteArray // Pl.Ok p.1 ∧ p.1.size ≤ 70368744177664 }
instance : Inhabited SpK := ⟨⟨(⟨#[]⟩, ⟨#[]⟩), ⟨[], rfl⟩, by decide⟩⟩
def encSp (x : SpK) : List Value := [.string x.1.1, .string x.1.2]
def cfSp (x y : SpK) : Int := Pl.compare x.1.1 y.1.1
theorem swoSp : SWO (ltOf cfSp) where
  irrefl x := by
    unfold ltOf cfSp
    rw [decide_eq_false_iff_not, Pl.compare_self x.2.1]; decide
  trans x y z h k := by
    unfold ltOf cfSp at *
    rw [decide_eq_true_eq] at *
    exact Pl.compare_trans x.2.1 y.2.1 z.2.1 h k
  ntrans x y z h k := by
    unfold ltOf cfSp at *
    rw [decide_eq_false_iff_not] at *
    intro hz
    have s1 := Pl.compare_swap x.2.1 y.2.1
    have s2 := Pl.compare_swap y.2.1 z.2.1
    by_cases h1 : Pl.compare y.1.1 x.1.1 < 0
    · have := Pl.compare_trans y.2.1 x.2.1 z.2.1 h1 hz
      omega
    · have h2 : Pl.compare x.1.1 y.1.1 = 0 := by omega
      have e := Pl.compare_zero x.2.1 y.2.1 h2
      rw [e] at hz; omega

theorem coversLess (x y : SpK) (W : World) : Calls Tryd.prog 89 #[.agg #[.string x.1.1, .string x.1.2], .agg #[.string y.1.1, .string y.1.2]] W fun e w' => e = .returned (.int .i64 (cfSp x y)) ∧ GrewD W w' := by
  have hc := fun W => compareD_any x.1.1 y.1.1 W x.2.2 y.2.2
  change ∀ W, Calls Tryd.prog 68 _ W (fun e w' => e = .returned (.int .i64 (cfSp x y)) ∧ _) at hc
  have HC := hid hc
  clear hc
  generalize cfSp x y = r at HC ⊢
  go_enter Tryd.func89, Tryd.ntmps89
  go_wp2_with fail
  refine (HC.out _).mono ?_
  rintro e w1 ⟨rfl, hg⟩
  go_wp2_with fail
  go_ret
  exact ⟨rfl, (((GrewD.refl W).alloc _).alloc _).trans hg⟩

theorem cmpSp (blk off size : Nat) (w : World) : CmpLays Tryd.prog 89 #[] encSp 2 cfSp blk off size w :=
  fun _ _ _ _ x y => (coversLess x y _).mono fun _ _ ⟨he, hg⟩ => ⟨he, hg.grown⟩

/-- The sort of a chain's spans. -/
theorem sort_same (blk off cap : Nat) (d : Array SpK) (w : World) (hH : HoldsK encSp 2 w blk off d) (hblk : blk < w.heap.size) (hsz : d.size < 4611686018427387904) (hs : ∀ i j, i < j → j < d.size → ltOf cfSp d[i]! d[j]! = true) :
    Calls Tryd.prog 88 #[.slice (some ⟨blk, off, none⟩) d.size cap, .func (.func 89) #[] #[]] w fun e w' => e = .returned (.tuple #[]) ∧ ∃ n os, w' = sortWorldK encSp 2 w blk off n d os := by
  have eg : ∀ args w, (callFunc 89 args).run Tryd.prog w = .ok (.enter 89 args) w := enters_of Tryd.func89 (by kernel_rfl) rfl
  have hcon := AnyQ.slices_SortFunc Tryd.sortSpan 2 Tryd.isAgg38 Tryd.sizeOf38 encSp (fun _ => rfl) (fun x v hv => by simp [encSp] at hv; rcases hv with rfl | rfl <;> rfl) cfSp swoSp 89 #[] blk off cap d w eg (cmpSp blk off d.size w) hH hblk hsz
  refine hcon.mono ?_
  rintro e w' ⟨he, d', n, os, hp, hd, hw⟩
  rw [Pl.sorted_same cfSp swoSp d d' hs hp hd] at hw
  exact ⟨he, n, os, hw⟩
end Go.Proofs.YtajoihpjnnnkeaaDoor
