/- runes.Compare again: blocks are laid, answers drawn, and that is all. What slices.SortFunc asks of a closure. Then: Plain: a row in strict order, sorted, is the row itself. No walk here. -/
import Derived.Test.YtajoihpjnnnkeaaDoorRunes3
import Derived.Shelf.SlSortCmp.WholeK
import Derived.Sort.Statements
import Derived.Shelf.SlSortCmp.Insertion
import Derived.Test.YtajoihpjnnnkeaaDoorKit
import Derived.Test.YtajoihpjnnnkeaaDoorTabP
set_option linter.unusedVariables false
namespace Go.Proofs.YtajoihpjnnnkeaaDoor
open Go.RowKit Go.Shelf Go.Lib Go.Sort

/-- Blocks laid, answers drawn: nothing else. -/
def GrewD (w w' : World) : Prop := Grew w w' ∧ w.drawn ≤ w'.drawn
theorem GrewD.refl (w : World) : GrewD w w := ⟨Grew.refl w, Nat.le_refl _⟩
theorem GrewD.trans {a b c : World} (h : GrewD a b) (k : GrewD b c) : GrewD a c := ⟨h.1.trans k.1, Nat.le_trans h.2 k.2⟩
theorem GrewD.alloc {a b : World} (h : GrewD a b) (o : Obj) : GrewD a (b.alloc o) := ⟨h.1.alloc o, h.2⟩
theorem GrewD.drew {a b : World} (h : GrewD a b) : GrewD a b.drew := ⟨h.1.drew, Nat.le_succ_of_le h.2⟩
theorem GrewD.iter {a b : World} (h : GrewD a b) (s : ByteArray) (p : Nat) : GrewD a (b.iter s p) := ⟨h.1.iter s p, h.2⟩
theorem GrewD.grown {w w' : World} (h : GrewD w w') : ∃ q os, w' = grow (w.drewN q) os := by
  obtain ⟨⟨h1, h2, h3, h4, h5⟩, h6⟩ := h
  refine ⟨w'.drawn - w.drawn, w'.heap.extract w.heap.size w'.heap.size, ?_⟩
  obtain ⟨hp, tp, dr, os, ou⟩ := w'
  obtain ⟨hp0, tp0, dr0, os0, ou0⟩ := w
  dsimp only at *
  subst h1 h2 h3
  unfold grow World.drewN
  dsimp only
  have e1 : dr0 + (dr - dr0) = dr := by omega
  have e2 : hp0 ++ hp.extract hp0.size hp.size = hp := by
    apply Array.ext_getElem?
    intro i
    rw [Array.getElem?_append]
    by_cases hi : i < hp0.size
    · rw [if_pos hi, h5 i hi]
    · rw [if_neg hi, Array.getElem?_extract]
      by_cases h7 : i < hp.size
      · rw [if_pos (by omega)]; congr 1; omega
      · rw [if_neg (by omega), Array.getElem?_eq_none (by omega)]
  rw [e1, e2]

set_option maxHeartbeats 400000 in
theorem listD_any (s : ByteArray) (l : List Nat) (w : World) (hs : s.size ≤ 70368744177664) (hr : Pl.runes s.data.toList = some l) :
    Calls Tryd.prog 106 #[.string s] w fun e w' => ∃ v, e = .returned v ∧ RuneRow w' v l ∧ GrewD w w' := by
  have hq : Pl.right s = true := by unfold Pl.right; rw [hr]; rfl
  have hf : Conv.runesFrom s s.size 0 #[] = (l.map fun c => Value.int .i32 (c : Nat)).toArray := by
    rw [runesFrom_list s s.size 0 l #[] (by omega) hr]; simp
  have hcv := fun W => run_runes_of_string (P := Tryd.prog) W 9 173 21 s Tryd.underlying9 Tryd.underlying173 Tryd.underlying21 (by have := size_runesFrom s s.size 0 #[]; simp at this; omega)
  rw [hf] at hcv
  have HF := hid hf
  have HR := hid hr
  clear hf hr
  go_enter Tryd.func106, Tryd.ntmps106
  go_wp2_with (go_at_call 69; refine (right_any _ _ (by omega)).mono ?_; rintro e w' ⟨rfl, p, rfl⟩)
  go_ret
  refine ⟨_, rfl, ⟨_, _, rfl, fun i hi => ?_⟩, (((GrewD.refl w).iter _ _).alloc _).drew⟩
  show (World.alloc _ _).cell? _ = _
  rw [cell_of_row _ _ _ _ _ _ (heap_alloc_new _ _), Array.getElem?_append_left (by simpa using hi)]
  simp [hi]

set_option maxHeartbeats 400000 in
theorem compareD_any (a b : ByteArray) (w : World) (ha : a.size ≤ 70368744177664) (hb : b.size ≤ 70368744177664) :
    Calls Tryd.prog 68 #[.string a, .string b] w fun e w' => e = .returned (.int .i64 (Pl.compare a b)) ∧ GrewD w w' := by
  cases hr : Pl.runes a.data.toList with
  | none =>
    have hq : Pl.right a = false := by unfold Pl.right; rw [hr]; rfl
    have hc : Pl.compare a b = 0 := by unfold Pl.compare; rw [hr]
    have HC := hid hc
    clear hc hr
    go_enter Tryd.func68, Tryd.ntmps68
    go_wp2_with (go_at_call 69; refine (right_any _ _ (by omega)).mono ?_; rintro e w' ⟨rfl, p, rfl⟩)
    go_ret
    exact ⟨ret_int HC.out.symm, (GrewD.refl w).iter _ _⟩
  | some x =>
    have hq : Pl.right a = true := by unfold Pl.right; rw [hr]; rfl
    cases hr2 : Pl.runes b.data.toList with
    | none =>
      have hq2 : Pl.right b = false := by unfold Pl.right; rw [hr2]; rfl
      have hc : Pl.compare a b = 0 := by unfold Pl.compare; rw [hr, hr2]
      have HC := hid hc
      clear hc hr hr2
      go_enter Tryd.func68, Tryd.ntmps68
      go_wp2_with fail
      refine (right_any a _ (by omega)).mono ?_
      rintro e w' ⟨rfl, p, rfl⟩
      go_wp2_with fail
      refine (right_any b _ (by omega)).mono ?_
      rintro e w' ⟨rfl, q, rfl⟩
      go_wp2_with fail
      go_ret
      exact ⟨ret_int HC.out.symm, ((GrewD.refl w).iter _ _).iter _ _⟩
    | some y =>
      have hq2 : Pl.right b = true := by unfold Pl.right; rw [hr2]; rfl
      have hc : Pl.compare a b = Pl.cmpNums x y := by unfold Pl.compare; rw [hr, hr2]
      have hx : x.length ≤ a.size := by simpa using Pl.runes_len _ _ x (Nat.le_refl _) hr
      have hy : y.length ≤ b.size := by simpa using Pl.runes_len _ _ y (Nat.le_refl _) hr2
      have HC := hid hc
      have HR := hid hr
      have HR2 := hid hr2
      clear hc hr hr2
      go_enter Tryd.func68, Tryd.ntmps68
      go_wp2_with fail
      refine (right_any a _ (by omega)).mono ?_
      rintro e w' ⟨rfl, p, rfl⟩
      go_wp2_with fail
      refine (right_any b _ (by omega)).mono ?_
      rintro e w' ⟨rfl, q, rfl⟩
      go_wp2_with fail
      refine (listD_any a x _ ha HR.out).mono ?_
      rintro e w1 ⟨v1, rfl, hv1, hg1⟩
      go_wp2_with fail
      refine (listD_any b y _ hb HR2.out).mono ?_
      rintro e w2 ⟨v2, rfl, hv2, hg2⟩
      go_wp2_with fail
      refine (compareFunc_any v1 v2 x y _ (hv1.grew hg2.1) hv2 (by omega)).mono ?_
      rintro e w' ⟨rfl, rfl⟩
      go_wp2_with fail
      go_ret
      exact ⟨ret_int HC.out.symm, (((GrewD.refl w).iter _ _).iter _ _).trans (hg1.trans hg2)⟩
end Go.Proofs.YtajoihpjnnnkeaaDoor

set_option linter.unusedVariables false
namespace Go.Proofs.YtajoihpjnnnkeaaDoor.Pl
open Go.Sort Go.Proofs

theorem perm_rise {α : Type} (lt : α → α → Prop) : ∀ (l l' : List α), l.Perm l' → l.Pairwise lt → l'.Pairwise (fun a b => ¬ lt b a) → (∀ a b, lt a b → ¬ lt b a) → l = l'
  | [], l', hp, _, _, _ => (List.Perm.nil_eq hp)
  | a :: l, [], hp, _, _, _ => by have := hp.length_eq; simp at this
  | a :: l, b :: l', hp, h1, h2, h3 => by
    rw [List.pairwise_cons] at h1 h2
    have hab : a = b := by
      have hb : b ∈ a :: l := hp.mem_iff.2 (List.mem_cons_self ..)
      have ha : a ∈ b :: l' := hp.mem_iff.1 (List.mem_cons_self ..)
      rcases List.mem_cons.1 hb with hb | hb
      · exact hb.symm
      · rcases List.mem_cons.1 ha with ha | ha
        · exact ha
        · exact absurd (h1.1 b hb) (h2.1 a ha)
    subst hab
    rw [perm_rise lt l l' (List.perm_cons a |>.1 hp) h1.2 h2.2 h3]

/-- A row in strict order, sorted, is the row itself. -/
theorem sorted_same {α : Type} [Inhabited α] (cf : α → α → Int) (hO : SWO (ltOf cf)) (d d' : Array α) (hs : ∀ i j, i < j → j < d.size → ltOf cf d[i]! d[j]! = true) (hp : PermIn 0 d.size d d') (hd : SortedIn (ltOf cf) 0 d.size d') : d' = d := by
  obtain ⟨h1, _, h3⟩ := hp
  have e1 : d.extract 0 d.size = d := by simp
  have e2 : d'.extract 0 d.size = d' := by rw [← h1]; simp
  rw [e1, e2] at h3
  have hasy : ∀ a b, ltOf cf a b = true → ¬ ltOf cf b a = true := by
    intro a b h k
    have := hO.trans a b a h k
    rw [hO.irrefl] at this; cases this
  have := perm_rise (fun a b => ltOf cf a b = true) d.toList d'.toList h3.symm ?_ ?_ hasy
  · exact (Array.ext' this).symm
  · rw [List.pairwise_iff_getElem]
    intro i j hi hj hij
    have := hs i j hij (by simpa using hj)
    rw [getElem!_pos d i (by simpa using hi), getElem!_pos d j (by simpa using hj)] at this
    simpa using this
  · rw [List.pairwise_iff_getElem]
    intro i j hi hj hij
    have := hd i j (Nat.zero_le _) hij (by rw [← h1]; simpa using hj)
    rw [getElem!_pos d' i (by simpa using hi), getElem!_pos d' j (by simpa using hj)] at this
    simpa using this
end Go.Proofs.YtajoihpjnnnkeaaDoor.Pl
