/- ConP, CmpD0, CmpD, TabQ, ClonePair, IdxCut: one text. -/
import Derived.Test.YtbdagllflamabaaGreatDoorFinAuditApartQ16
import Derived.Test.YtbdagllflamabaaGreatDoorFinAuditApartQ18
import Derived.Deep.Upon
import Derived.Lib.AppendZeros
import Derived.Deep.AppendLies
import Derived.Test.YtbdagllflamabaaGreatDoorFinAuditApartQ2
import Derived.Shelf.GgSortFunc.Insertion
import Derived.Test.YtbdagllflamabaaGreatDoorFinAuditApartQ1
import Derived.Shelf.SlSortCmp.WholeK
import Derived.Sort.Statements
import Derived.Shelf.SlSortCmp.Insertion
import Derived.Test.YtbdagllflamabaaGreatDoorFinAuditApartQ17
import Derived.Test.YtbdagllflamabaaGreatDoorFinAuditApartQ3
namespace Go.Proofs.YtbdagllflamabaaGreatDoor
open Go.RowKit Go.Maps
attribute [local go_sem] Oper.semAt_some
set_option maxRecDepth 100000 in
theorem growP_nil (w : World) : Calls Tryz.prog 196 #[.slice none 0 0, .int .i64 0] w fun e w' => e = .returned (.slice none 0 0) ∧ w' = w := by
  go_enter Tryz.func196, Tryz.ntmps196
  go_wp2_with fail
  go_ret
  exact ⟨rfl, rfl⟩
theorem zeroPair : (Value.cells (.agg #[.string ⟨#[]⟩, .string ⟨#[]⟩, .int .i64 0])).size = 3 := by kernel_rfl
set_option maxRecDepth 100000 in
theorem growP (w : World) (n : Nat) (h0 : 0 < n) (hn : n ≤ 2000000) : Calls Tryz.prog 196 #[.slice none 0 0, .int .i64 (n : Int)] w fun e w' => ∃ g cap, e = .returned (.slice (some ⟨g, 0, none⟩) 0 cap) ∧ w'.ownsRow w.heap.size 42 3 (.slice (some ⟨g, 0, none⟩) 0 cap) 0 [] ∧ Grew w w' := by
  obtain ⟨i0, hi0, hz0, hz1, hz2⟩ := info_parts infoPair
  have z1 : ¬ ((n : Int) < 0) := by omega
  have z2 : (n : Int) > 0 := by omega
  have z3 : IntKind.i64.wrap ((n : Int) - 0) = (n : Int) := by rw [show (n : Int) - 0 = (n : Int) by omega]; exact IntWalk.i64_in _ (by omega)
  have hge := grownCap_ge w n 0 42
  have hle := grownCap_le_maxLen w n 0 42 (by unfold maxLen; omega)
  have HO := hid (fun (c : Nat) (h1 : n ≤ c) (h2 : c ≤ maxLen) => show (w.drew.alloc (.cells (Builtin.zeroCells (Value.cells (.agg #[.string ⟨#[]⟩, .string ⟨#[]⟩, .int .i64 0])) n ++ Builtin.zeroCells (Value.cells (.agg #[.string ⟨#[]⟩, .string ⟨#[]⟩, .int .i64 0])) (c - n)) 42)).ownsRow w.heap.size 42 3 (.slice (some ⟨w.heap.size, 0, none⟩) 0 c) 0 [] from by
    refine ownsRow_of_block (cur := (Builtin.zeroCells (Value.cells (.agg #[.string ⟨#[]⟩, .string ⟨#[]⟩, .int .i64 0])) n ++ Builtin.zeroCells (Value.cells (.agg #[.string ⟨#[]⟩, .string ⟨#[]⟩, .int .i64 0])) (c - n)).toList) (Nat.le_refl _) ?_ (Nat.zero_le _) (by unfold maxLen at h2; omega) ?_ (by simp)
    · rw [Array.toArray_toList]; exact heap_alloc_new w.drew _
    · rw [Array.length_toList, Array.size_append, size_zeroCells, size_zeroCells, zeroPair]; omega)
  have HG := hid (fun (os : Obj) => ((Grew.refl w).drew).alloc os)
  have HOO := hid (HO.out _ hge hle)
  have HR := hid (Lib.run_append_nil_zeros (P := Tryz.prog) w 36 3 36 42 i0 _ .i64 .i64 Tryz.underlying36 Tryz.underlying3 hi0 hz0 n h0 (by omega) (by omega) (by rw [hz2]; omega))
  clear HO
  generalize hW : w.drew.alloc _ = W at HOO HR
  have HGW : Hid (Grew w W) := by rw [← hW]; exact HG.out _
  clear hW HG
  go_enter Tryz.func196, Tryz.ntmps196
  go_wp2_with (at_builtin; refine Lib.wpList_append_run _ rfl _ _ _ _ rfl _ _ rfl rfl _ _ HR.out ?_)
  go_wp2_with fail
  go_ret
  exact ⟨_, _, rfl, HOO.out, HGW.out⟩
set_option maxRecDepth 100000 in
set_option maxHeartbeats 2000000 in
theorem concatP (w : World) (vb : Nat) (a1 a2 : Option Addr) (c1 c2 : Nat) (xs ys : List Pr) (h1 : w.cell? ⟨vb, 0, none⟩ = some (.slice a1 xs.length c1)) (h2 : w.cell? ⟨vb, 1, none⟩ = some (.slice a2 ys.length c2)) (A1 : PairsAt w a1 xs) (A2 : PairsAt w a2 ys) (F1 : SlForm a1 c1) (F2 : SlForm a2 c2) (hx : xs.length ≤ 1000000) (hy : ys.length ≤ 1000000) :
    Calls Tryz.prog 176 #[.slice (some ⟨vb, 0, none⟩) 2 2] w fun e w' => ∃ a cap, e = .returned (.slice a (xs.length + ys.length) cap) ∧ w'.ownsRow w.heap.size 42 3 (.slice a (xs.length + ys.length) cap) (xs.length + ys.length) (prFlat (xs ++ ys)) ∧ Grew w w' := by
  have hvb : vb < w.heap.size := cell_lt h1
  have HX := hid (And.intro A1 (And.intro F1 hx))
  have HY := hid (And.intro A2 (And.intro F2 hy))
  have hG0 : ∀ W : World, Calls Tryz.prog 196 #[.slice none 0 0, .int .i64 ((xs.length : Int) + (ys.length : Int))] W fun e w' => ∃ a cap, e = .returned (.slice a 0 cap) ∧ w'.ownsRow W.heap.size 42 3 (.slice a 0 cap) 0 (prFlat []) ∧ Grew W w' := fun W => by
    rcases Nat.eq_zero_or_pos (xs.length + ys.length) with h0 | h0
    · have e : ((xs.length : Int) + (ys.length : Int)) = 0 := by omega
      rw [e]
      exact (growP_nil W).mono fun e w' ⟨he, hw⟩ => ⟨none, 0, he, World.ownsRow_nil _ _ _ _, by rw [hw]; exact Grew.refl W⟩
    · rw [← Int.natCast_add]
      exact (growP W _ h0 (by omega)).mono fun e w' ⟨g, cap, he, hr, hg⟩ => ⟨_, _, he, hr, hg⟩
  have HG0 := hid hG0
  have b1 : (xs.length : Int) ≤ 1000000 := by omega
  have b2 : (ys.length : Int) ≤ 1000000 := by omega
  clear hG0 A1 A2 F1 F2
  go_enter Tryz.func176, Tryz.ntmps176
  go_wp2_with fail
  go_loopw [11, 3] (fun i s wr => wr = w ∧ ((i = .int .i64 0 ∧ s = .int .i64 0) ∨ (i = .int .i64 1 ∧ s = .int .i64 xs.length) ∨ (i = .int .i64 2 ∧ s = .int .i64 ((xs.length : Int) + (ys.length : Int))))) (fun i _ _ => 2 - (intOf i).toNat)
  case atStart => exact ⟨rfl, .inl ⟨rfl, rfl⟩⟩
  case round =>
    obtain ⟨rfl, hrel⟩ := hrel
    rcases hrel with ⟨rfl, rfl⟩ | ⟨rfl, rfl⟩ | ⟨rfl, rfl⟩
    · go_wp2_with fail
      go_roundw
      case rel => exact ⟨trivial, .inr (.inl ⟨by go_num, by go_num⟩)⟩
      case measure => simp [intOf]
    · go_wp2_with fail
      go_roundw
      case rel => exact ⟨trivial, .inr (.inr ⟨by go_num, by go_num⟩)⟩
      case measure => simp [intOf]
    · go_wp2_with fail
      refine (HG0.out _).mono ?_
      rintro e w1 ⟨a, cap, rfl, hr, hg⟩
      have HS := hid (And.intro hr hg)
      have hsz := hg.size
      have g1 := (hg.cells.1 _ 0 hvb).trans h1
      have g2 := (hg.cells.1 _ 1 hvb).trans h2
      clear hr hg
      go_wp2_with fail
      go_loopw [27, 6] (fun i v wx => (i = .int .i64 0 ∧ ∃ a cap, v = .slice a 0 cap ∧ Hid (wx.ownsRow wr.heap.size 42 3 (.slice a 0 cap) 0 (prFlat []) ∧ Grew wr wx)) ∨ (i = .int .i64 1 ∧ ∃ a cap, v = .slice a xs.length cap ∧ Hid (wx.ownsRow wr.heap.size 42 3 (.slice a xs.length cap) xs.length (prFlat xs) ∧ Grew wr wx)) ∨ (i = .int .i64 2 ∧ ∃ a cap, v = .slice a (xs.length + ys.length) cap ∧ Hid (wx.ownsRow wr.heap.size 42 3 (.slice a (xs.length + ys.length) cap) (xs.length + ys.length) (prFlat (xs ++ ys)) ∧ Grew wr wx))) (fun i _ _ => 2 - (intOf i).toNat)
      case atStart => exact .inl ⟨rfl, a, cap, rfl, HS⟩
      case round =>
        rcases hrel with ⟨rfl, a, cap, rfl, HR⟩ | ⟨rfl, a, cap, rfl, HR⟩ | ⟨rfl, a, cap, rfl, HR⟩
        · have q1 := (HR.out.2.cells.1 _ 0 hvb).trans h1
          have HA := hid (HX.out.1.grew HR.out.2)
          clear g1 g2 h1 h2
          go_wp2_with (at_builtin; refine wpList_append_pairs rfl _ _ rfl rfl HR.out.1 rfl rfl HA.out HX.out.2.1 (by omega) HR.out.2.size ?_)
          intro a' cap' w2 hr2 hgr
          have HR2 := hid (And.intro hr2 (((HR.out.2.only (fun j => some j = Value.ownBlock (.slice a 0 cap))).then (Only.of_grownBy hgr)).grew (fun j hj => (HR.out.1.lt j hj.symm).1)))
          clear hr2 hgr
          go_wp2_with fail
          go_roundw
          case rel => exact .inr (.inl ⟨by go_num, a', cap', rfl, HR2⟩)
          case measure => simp [intOf]
        · have q2 := (HR.out.2.cells.1 _ 1 hvb).trans h2
          have HA := hid (HY.out.1.grew HR.out.2)
          clear g1 g2 h1 h2
          go_wp2_with (at_builtin; refine wpList_append_pairs rfl _ _ rfl rfl HR.out.1 rfl rfl HA.out HY.out.2.1 (by omega) HR.out.2.size ?_)
          intro a' cap' w2 hr2 hgr
          have HR2 := hid (And.intro hr2 (((HR.out.2.only (fun j => some j = Value.ownBlock (.slice a xs.length cap))).then (Only.of_grownBy hgr)).grew (fun j hj => (HR.out.1.lt j hj.symm).1)))
          clear hr2 hgr
          go_wp2_with fail
          go_roundw
          case rel => exact .inr (.inr ⟨by go_num, a', cap', rfl, HR2⟩)
          case measure => simp [intOf]
        · go_wp2_with fail
          go_ret
          exact ⟨a, cap, rfl, HR.out.1, HR.out.2⟩
end Go.Proofs.YtbdagllflamabaaGreatDoor
set_option linter.unusedVariables false
namespace Go.Proofs.YtbdagllflamabaaGreatDoor
open Go.RowKit Go.Shelf Go.Lib Go.Sort
def GrewD (w w' : World) : Prop := Grew w w' ∧ w.drawn ≤ w'.drawn
theorem GrewD.refl (w : World) : GrewD w w := ⟨Grew.refl w, Nat.le_refl _⟩
theorem GrewD.trans {a b c : World} (h : GrewD a b) (k : GrewD b c) : GrewD a c := ⟨h.1.trans k.1, Nat.le_trans h.2 k.2⟩
theorem GrewD.alloc {a b : World} (h : GrewD a b) (o : Obj) : GrewD a (b.alloc o) := ⟨h.1.alloc o, h.2⟩
theorem GrewD.drew {a b : World} (h : GrewD a b) : GrewD a b.drew := ⟨h.1.drew, Nat.le_succ_of_le h.2⟩
theorem GrewD.iter {a b : World} (h : GrewD a b) (s : ByteArray) (p : Nat) : GrewD a (b.iter s p) := ⟨h.1.iter s p, h.2⟩
theorem GrewD.grown {w w' : World} (h : GrewD w w') : ∃ q os, w' = grow (w.drewN q) os := by
  obtain ⟨⟨h1, h2, h3, h4, h5⟩, h6⟩ := h
  refine ⟨w'.drawn - w.drawn, w'.heap.extract w.heap.size w'.heap.size, ?_⟩
  obtain ⟨hp, tp, dr, os, ou⟩ := w'
  obtain ⟨hp0, tp0, dr0, os0, ou0⟩ := w
  dsimp only at *
  subst h1 h2 h3
  unfold grow World.drewN
  dsimp only
  have e1 : dr0 + (dr - dr0) = dr := by omega
  have e2 : hp0 ++ hp.extract hp0.size hp.size = hp := by
    apply Array.ext_getElem?
    intro i
    rw [Array.getElem?_append]
    by_cases hi : i < hp0.size
    · rw [if_pos hi, h5 i hi]
    · rw [if_neg hi, Array.getElem?_extract]
      by_cases h7 : i < hp.size
      · rw [if_pos (by omega)]; congr 1; omega
      · rw [if_neg (by omega), Array.getElem?_eq_none (by omega)]
  rw [e1, e2]
set_option maxHeartbeats 400000 in
theorem listD_any (s : ByteArray) (l : List Nat) (w : World) (hs : s.size ≤ 70368744177664) (hr : Pl.runes s.data.toList = some l) :
    Calls Tryz.prog 107 #[.string s] w fun e w' => ∃ v, e = .returned v ∧ RuneRow w' v l ∧ GrewD w w' := by
  have hq : Pl.right s = true := by unfold Pl.right; rw [hr]; rfl
  have hf : Conv.runesFrom s s.size 0 #[] = (l.map fun c => Value.int .i32 (c : Nat)).toArray := by
    rw [runesFrom_list s s.size 0 l #[] (by omega) hr]; simp
  have hcv := fun W => run_runes_of_string (P := Tryz.prog) W 9 179 21 s Tryz.underlying9 Tryz.underlying179 Tryz.underlying21 (by have := size_runesFrom s s.size 0 #[]; simp at this; omega)
  rw [hf] at hcv
  have HF := hid hf
  have HR := hid hr
  clear hf hr
  go_enter Tryz.func107, Tryz.ntmps107
  go_wp2_with (go_at_call 105; refine (right_any _ _ (by omega)).mono ?_; rintro e w' ⟨rfl, p, rfl⟩)
  go_ret
  refine ⟨_, rfl, ⟨_, _, rfl, fun i hi => ?_⟩, (((GrewD.refl w).iter _ _).alloc _).drew⟩
  show (World.alloc _ _).cell? _ = _
  rw [cell_of_row _ _ _ _ _ _ (heap_alloc_new _ _), Array.getElem?_append_left (by simpa using hi)]
  simp [hi]
set_option maxHeartbeats 400000 in
theorem compareD_any (a b : ByteArray) (w : World) (ha : a.size ≤ 70368744177664) (hb : b.size ≤ 70368744177664) :
    Calls Tryz.prog 59 #[.string a, .string b] w fun e w' => e = .returned (.int .i64 (Pl.compare a b)) ∧ GrewD w w' := by
  cases hr : Pl.runes a.data.toList with
  | none =>
    have hq : Pl.right a = false := by unfold Pl.right; rw [hr]; rfl
    have hc : Pl.compare a b = 0 := by unfold Pl.compare; rw [hr]
    have HC := hid hc
    clear hc hr
    go_enter Tryz.func59, Tryz.ntmps59
    go_wp2_with (go_at_call 105; refine (right_any _ _ (by omega)).mono ?_; rintro e w' ⟨rfl, p, rfl⟩)
    go_ret
    exact ⟨ret_int HC.out.symm, (GrewD.refl w).iter _ _⟩
  | some x =>
    have hq : Pl.right a = true := by unfold Pl.right; rw [hr]; rfl
    cases hr2 : Pl.runes b.data.toList with
    | none =>
      have hq2 : Pl.right b = false := by unfold Pl.right; rw [hr2]; rfl
      have hc : Pl.compare a b = 0 := by unfold Pl.compare; rw [hr, hr2]
      have HC := hid hc
      clear hc hr hr2
      go_enter Tryz.func59, Tryz.ntmps59
      go_wp2_with fail
      refine (right_any a _ (by omega)).mono ?_
      rintro e w' ⟨rfl, p, rfl⟩
      go_wp2_with fail
      refine (right_any b _ (by omega)).mono ?_
      rintro e w' ⟨rfl, q, rfl⟩
      go_wp2_with fail
      go_ret
      exact ⟨ret_int HC.out.symm, ((GrewD.refl w).iter _ _).iter _ _⟩
    | some y =>
      have hq2 : Pl.right b = true := by unfold Pl.right; rw [hr2]; rfl
      have hc : Pl.compare a b = Pl.cmpNums x y := by unfold Pl.compare; rw [hr, hr2]
      have hx : x.length ≤ a.size := by simpa using Pl.runes_len _ _ x (Nat.le_refl _) hr
      have hy : y.length ≤ b.size := by simpa using Pl.runes_len _ _ y (Nat.le_refl _) hr2
      have HC := hid hc
      have HR := hid hr
      have HR2 := hid hr2
      clear hc hr hr2
      go_enter Tryz.func59, Tryz.ntmps59
      go_wp2_with fail
      refine (right_any a _ (by omega)).mono ?_
      rintro e w' ⟨rfl, p, rfl⟩
      go_wp2_with fail
      refine (right_any b _ (by omega)).mono ?_
      rintro e w' ⟨rfl, q, rfl⟩
      go_wp2_with fail
      refine (listD_any a x _ ha HR.out).mono ?_
      rintro e w1 ⟨v1, rfl, hv1, hg1⟩
      go_wp2_with fail
      refine (listD_any b y _ hb HR2.out).mono ?_
      rintro e w2 ⟨v2, rfl, hv2, hg2⟩
      go_wp2_with fail
      refine (compareFunc_any v1 v2 x y _ (hv1.grew hg2.1) hv2 (by omega)).mono ?_
      rintro e w' ⟨rfl, rfl⟩
      go_wp2_with fail
      go_ret
      exact ⟨ret_int HC.out.symm, (((GrewD.refl w).iter _ _).iter _ _).trans (hg1.trans hg2)⟩
end Go.Proofs.YtbdagllflamabaaGreatDoor
namespace Go.Proofs.YtbdagllflamabaaGreatDoor.Pl
open Go.Sort Go.Proofs
theorem perm_rise {α : Type} (lt : α → α → Prop) : ∀ (l l' : List α), l.Perm l' → l.Pairwise lt → l'.Pairwise (fun a b => ¬ lt b a) → (∀ a b, lt a b → ¬ lt b a) → l = l'
  | [], l', hp, _, _, _ => (List.Perm.nil_eq hp)
  | a :: l, [], hp, _, _, _ => by have := hp.length_eq; simp at this
  | a :: l, b :: l', hp, h1, h2, h3 => by
    rw [List.pairwise_cons] at h1 h2
    have hab : a = b := by
      have hb : b ∈ a :: l := hp.mem_iff.2 (List.mem_cons_self ..)
      have ha : a ∈ b :: l' := hp.mem_iff.1 (List.mem_cons_self ..)
      rcases List.mem_cons.1 hb with hb | hb
      · exact hb.symm
      · rcases List.mem_cons.1 ha with ha | ha
        · exact ha
        · exact absurd (h1.1 b hb) (h2.1 a ha)
    subst hab
    rw [perm_rise lt l l' (List.perm_cons a |>.1 hp) h1.2 h2.2 h3]
end Go.Proofs.YtbdagllflamabaaGreatDoor.Pl
namespace Go.Proofs.YtbdagllflamabaaGreatDoor
namespace Pl
theorem compare_asymm {a b : ByteArray} (h : compare a b < 0) : ¬ compare b a < 0 := by
  have hab : Ok a ∧ Ok b := by
    unfold compare at h
    split at h
    · next x y hx hy => exact ⟨⟨x, hx⟩, ⟨y, hy⟩⟩
    · simp at h
  have := compare_swap hab.1 hab.2
  omega
theorem srt_take {xs : List Pr} (h : Srt xs) (n : Nat) : Srt (xs.take n) := srt_sub h (List.take_sublist _ _)
theorem srt_drop {xs : List Pr} (h : Srt xs) (n : Nat) : Srt (xs.drop n) := srt_sub h (List.drop_sublist _ _)
def cutN (xs : List Pr) (k : ByteArray) : Nat := if right k = true then pos xs k else xs.length
theorem cutN_le (xs : List Pr) (k : ByteArray) : cutN xs k ≤ xs.length := by unfold cutN; split; exact pos_le xs k; exact Nat.le_refl _
theorem right_ok {k : ByteArray} (h : right k = true) : Ok k := by
  unfold right at h
  cases hr : runes k.data.toList with
  | none => rw [hr] at h; cases h
  | some l => exact ⟨l, hr⟩
theorem idx_cut {xs : List Pr} (h : Srt xs) {k : ByteArray} (hk : right k = true) : idxI (fun c : Pr => decide (0 ≤ compare c.key k)) xs = if cutN xs k < xs.length then ((cutN xs k : Nat) : Int) else -1 := by
  have hp := pos_iff (right_ok hk) h
  unfold cutN
  rw [if_pos hk]
  have hall : ∀ m, m ≤ pos xs k → (xs.take m).all (fun c => !(decide (0 ≤ compare c.key k))) = true := by
    intro m hm
    rw [List.all_eq_true]
    intro c hc
    obtain ⟨j, hj, rfl⟩ := List.getElem_of_mem hc
    rw [List.length_take] at hj
    have := (hp j (by omega)).2 (by omega)
    rw [prAt_eq xs j (by omega)] at this
    rw [List.getElem_take]
    simpa using this
  by_cases hlt : pos xs k < xs.length
  · rw [if_pos hlt]
    refine idx_some _ xs _ hlt (hall _ (Nat.le_refl _)) ?_
    have := (hp _ hlt)
    rw [prAt_eq xs _ hlt] at this
    exact decide_eq_true (by omega)
  · rw [if_neg hlt]
    have := hall xs.length (by omega)
    rw [List.take_length] at this
    exact idx_none _ xs this
theorem join_self {xs zs : List Pr} (hs : Srt xs) (hp : zs.Perm xs) (hz : zs.Pairwise fun a b => ¬ compare b.key a.key < 0) : zs = xs :=
  (perm_rise (fun a b : Pr => compare a.key b.key < 0) xs zs hp.symm hs.rise hz fun _ _ h => compare_asymm h).symm
def dupN : List Pr → Bool
  | a :: b :: r => decide (a.key = b.key) || dupN (b :: r)
  | _ => false
theorem dup_none {xs : List Pr} (h : ∀ i, i + 1 < xs.length → (prAt xs i).key ≠ (prAt xs (i + 1)).key) : dupN xs = false := by
  induction xs with
  | nil => rfl
  | cons a xs ih =>
    cases xs with
    | nil => rfl
    | cons b r =>
      unfold dupN
      rw [ih (fun i hi => by have := h (i + 1) (by simpa using hi); simpa [prAt] using this), decide_eq_false (by have := h 0 (by simp); simpa [prAt] using this)]
      rfl
theorem dup_some {xs : List Pr} (i : Nat) (hi : i + 1 < xs.length) (h : (prAt xs i).key = (prAt xs (i + 1)).key) : dupN xs = true := by
  induction xs generalizing i with
  | nil => simp at hi
  | cons a xs ih =>
    cases xs with
    | nil => simp at hi
    | cons b r =>
      unfold dupN
      cases i with
      | zero => rw [decide_eq_true (by simpa [prAt] using h)]; rfl
      | succ i => rw [ih i (by simpa using hi) (by simpa [prAt] using h), Bool.or_true]
theorem srt_sorted {zs : List Pr} (hk : ∀ c ∈ zs, keyN c.key = 0) (hz : zs.Pairwise fun a b => ¬ compare b.key a.key < 0) (hd : dupN zs = false) : Srt zs := by
  refine ⟨hk, ?_⟩
  induction zs with
  | nil => exact List.Pairwise.nil
  | cons a zs ih =>
    rw [List.pairwise_cons] at hz
    cases zs with
    | nil => simp
    | cons b r =>
      unfold dupN at hd
      rw [Bool.or_eq_false_iff, decide_eq_false_iff_not] at hd
      have h2 := ih (fun c hc => hk c (List.mem_cons_of_mem _ hc)) hz.2 hd.2
      have ha : Ok a.key := ok_key (hk a (by simp))
      have hb : Ok b.key := ok_key (hk b (by simp))
      have hab : compare a.key b.key < 0 := by
        have h3 := hz.1 b (by simp)
        have h4 := compare_swap ha hb
        have h5 : compare a.key b.key ≠ 0 := fun h => hd.1 (compare_zero ha hb h)
        omega
      rw [List.pairwise_cons]
      refine ⟨fun c hc => ?_, h2⟩
      rcases List.mem_cons.1 hc with rfl | hc
      · exact hab
      · exact compare_trans ha hb (ok_key (hk c (by simp [hc]))) hab ((List.pairwise_cons.1 h2).1 c hc)
end Pl
end Go.Proofs.YtbdagllflamabaaGreatDoor
set_option linter.unusedSectionVars false
set_option linter.unusedSimpArgs false
namespace Go.Proofs.YtbdagllflamabaaGreatDoor
open Go.RowKit Go.Maps
attribute [local go_sem] Oper.semAt_some
theorem infoCPair : (Tryz.prog.info? 42).map (fun i => (i.zero, i.size, i.bytes)) = some (some (.agg #[.string ⟨#[]⟩, .string ⟨#[]⟩, .int .i64 0]), 3, 40) := by kernel_rfl
theorem zcCPair : (Value.cells (.agg #[.string ⟨#[]⟩, .string ⟨#[]⟩, .int .i64 0])).size = 3 := by kernel_rfl
theorem eqCPair (gb off m c : Nat) (w : World) : (binOp .eql 36 (.slice (some ⟨gb, off, none⟩) m c) (.slice none 0 0)).run Tryz.prog w = .ok (.bool false) w := by kernel_rfl
theorem eqCnPair (w : World) : (binOp .eql 36 (.slice none 0 0) (.slice none 0 0)).run Tryz.prog w = .ok (.bool true) w := by kernel_rfl
set_option maxRecDepth 100000 in
set_option maxHeartbeats 1000000 in
theorem clonePair (w : World) (gb off m c : Nat) (hm : 0 < m) (hbig : m ≤ 1000000) (news : List Value) (hl : news.length = m * 3) (hnews : ∀ j u, news[j]? = some u → w.cell? ⟨gb, off + j, none⟩ = some u) (h1 : ∀ u ∈ news, u.oneCell' = true) :
    Calls Tryz.prog 148 #[.slice (some ⟨gb, off, none⟩) m c] w fun e w' => ∃ g cap, e = .returned (.slice (some ⟨g, 0, none⟩) m cap) ∧ w'.ownsRow w.heap.size 42 3 (.slice (some ⟨g, 0, none⟩) m cap) m news ∧ Grew w w' := by
  obtain ⟨i0, hi0, hz0, hz1, hz2⟩ := info_parts infoCPair
  have had : gb < w.heap.size := by
    have h0 : 0 < news.length := by omega
    have h2 := World.block_lt_of_cell? _ _ (hnews 0 news[0] (List.getElem?_eq_getElem h0))
    exact h2
  have HN : Hid (∀ (t : TypeId) j u, news[j]? = some u → (w.alloc (.cells #[] t)).cell? ⟨gb, off + j, none⟩ = some u) := fun t j u hj => by
    have := hnews j u hj
    rw [← this]
    exact ((Grew.refl w).alloc _).below.cell (World.block_lt_of_cell? _ _ this)
  have HL := hid hl
  have H1 := hid h1
  have HO := hid (fun (t : TypeId) (h : t = 42) => show (w.alloc (.cells #[] t)).ownsRow w.heap.size 42 3 (.slice (some ⟨w.heap.size, 0, none⟩) 0 0) 0 [] from by
    subst h
    exact ownsRow_of_block (cur := []) (Nat.le_refl _) (heap_alloc_new w _) (Nat.le_refl _) (by decide) rfl rfl)
  clear hnews hl h1
  have hEq := eqCPair gb off m c
  go_enter Tryz.func148, Tryz.ntmps148
  go_wp2_with (at_builtin; refine wpList_append_lies _ rfl _ _ 36 rfl w.heap.size 42 i0 _ 3 40 Tryz.underlying36 hi0 hz0 hz1 hz2 zcCPair (by omega) (.slice (some ⟨w.heap.size, 0, none⟩) 0 0) 0 [] rfl (HO.out _ rfl) ⟨gb, off, none⟩ m c news rfl HL.out (fun j u hj => by rw [Addr.add_lit]; exact HN.out _ j u hj) H1.out (by omega) (by unfold maxLen; omega) (by omega) (by simp) _ rfl ?_)
  intro g cap w1 hown hgrow hat hlt
  have HO := hid hown
  have HG := hid hgrow
  clear hown hgrow hat
  go_wp2_with fail
  go_ret
  refine ⟨g, cap, by simp, by simpa using HO.out, ?_⟩
  refine (((Grew.refl w).alloc _).only (fun j => some j = Value.ownBlock (.slice (some ⟨w.heap.size, 0, none⟩) 0 0))).then (Only.of_grownBy HG.out) |>.grew ?_
  intro j hj
  have : j = w.heap.size := Option.some.inj hj
  omega
set_option maxRecDepth 100000 in
theorem cloneNilPair (w : World) : Calls Tryz.prog 148 #[.slice none 0 0] w fun e w' => e = .returned (.slice none 0 0) ∧ Grew w w' := by
  have hEq := eqCnPair
  go_enter Tryz.func148, Tryz.ntmps148
  go_wp2_with fail
  go_ret
  exact ⟨rfl, Grew.refl w⟩
set_option maxRecDepth 100000 in
theorem cloneZeroPair (w : World) (gb off c : Nat) : Calls Tryz.prog 148 #[.slice (some ⟨gb, off, none⟩) 0 c] w fun e w' => e = .returned (.slice (some ⟨w.heap.size, 0, none⟩) 0 0) ∧ w'.ownsRow w.heap.size 42 3 (.slice (some ⟨w.heap.size, 0, none⟩) 0 0) 0 [] ∧ Grew w w' := by
  obtain ⟨i0, hi0, hz0, hz1, hz2⟩ := info_parts infoCPair
  have HO := hid (fun (t : TypeId) (h : t = 42) => show (w.alloc (.cells #[] t)).ownsRow w.heap.size 42 3 (.slice (some ⟨w.heap.size, 0, none⟩) 0 0) 0 [] from by
    subst h
    exact ownsRow_of_block (cur := []) (Nat.le_refl _) (heap_alloc_new w _) (Nat.le_refl _) (by decide) rfl rfl)
  have HG := hid (fun (t : TypeId) => (Grew.refl w).alloc (.cells #[] t))
  have hS : ∀ W : World, Src Tryz.prog i0.size 36 (.slice (some ⟨gb, off, none⟩) 0 c) 0 [] W := fun W => Src.ofSlice W Tryz.underlying36 ⟨gb, off, none⟩ 0 c [] (by simp) (fun j u hj => by simp at hj) (fun u hu => by cases hu)
  have HS := hid hS
  clear hS
  have hEq := eqCPair gb off 0 c
  go_enter Tryz.func148, Tryz.ntmps148
  go_wp2_with (at_builtin; refine Lib.wpList_append_run _ rfl _ _ _ _ rfl _ _ rfl rfl _ _ (run_append_nothing _ 36 36 _ 42 i0 Tryz.underlying36 hi0 _ 0 0 (Nat.le_refl _) _ (HS.out _)) ?_)
  go_wp2_with fail
  go_ret
  exact ⟨rfl, HO.out _ rfl, HG.out _⟩
end Go.Proofs.YtbdagllflamabaaGreatDoor
namespace Go.Proofs.YtbdagllflamabaaGreatDoor
open Go.RowKit
attribute [local go_sem] Oper.semAt_some
def Pr.aggOf (c : Pr) : Value := .agg c.vals.toArray
set_option maxRecDepth 100000 in
set_option maxHeartbeats 1000000 in
theorem idxCut (p : Pr → Bool) (cb : Nat) (a : Option Addr) (cap : Nat) (xs : List Pr) (w : World) (hA : PairsAt w a xs) (hx : xs.length ≤ 1000000)
    (hp : ∀ j, j < xs.length → ∀ W, Grew w W → Calls Tryz.prog 175 #[(prAt xs j).aggOf, .pointer (some ⟨cb, 0, none⟩)] W fun e W' => e = .returned (.bool (p (prAt xs j))) ∧ Grew W W') :
    Calls Tryz.prog 174 #[.slice a xs.length cap, .func (.func 175) #[] #[.pointer (some ⟨cb, 0, none⟩)]] w fun e w' => e = .returned (.int .i64 (idxI p xs)) ∧ Grew w w' := by
  have HA := hid hA
  have HP := hid hp
  clear hA hp
  go_enter Tryz.func174, Tryz.ntmps174
  go_wp2_with fail
  go_loopw [8] (fun i wr => ∃ k : Nat, k ≤ xs.length ∧ i = .int .i64 k ∧ Hid ((xs.take k).all (fun c => !p c) = true) ∧ Grew w wr) (fun i _ => xs.length - (intOf i).toNat)
  case atStart => exact ⟨0, Nat.zero_le _, rfl, rfl, Grew.refl w⟩
  case round =>
    obtain ⟨k, hk1, rfl, HN, hG⟩ := hrel
    by_cases hlt : k < xs.length
    · rcases HA.out with h0 | ⟨b, off, rfl, hb, hR⟩
      · rw [h0] at hlt; simp at hlt
      have q0 := (hG.cells.1 b (off + k * 3) hb).trans (hR.key k hlt)
      have q1 := (hG.cells.1 b (off + k * 3 + 1) hb).trans (hR.val k hlt)
      have q2 := (hG.cells.1 b (off + k * 3 + 2) hb).trans (hR.ver k hlt)
      have HC := hid (HP.out k hlt)
      have hat : prAt xs k = xs[k] := prAt_eq xs k hlt
      have HAT := hid hat
      clear hR hat
      have HS := hid (idx_some p xs k hlt HN.out)
      have HN2 := hid (idx_next p xs k hlt HN.out)
      rw [← HAT.out] at HS HN2
      generalize prAt xs k = c at *
      clear HAT
      unfold Pr.aggOf at HC
      cases hpc : p c with
      | true =>
        rw [hpc] at HC
        have HS2 := hid (HS.out hpc)
        obtain ⟨c0, c1, c2⟩ := c
        dsimp only [Pr.vals] at *
        clear hpc HS HN2
        go_wp2_with fail
        refine (HC.out _ hG).mono ?_
        rintro e w1 ⟨rfl, hg1⟩
        go_wp2_with fail
        go_ret
        exact ⟨ret_int HS2.out.symm, hG.trans hg1⟩
      | false =>
        rw [hpc] at HC
        have HS2 := hid (HN2.out hpc)
        obtain ⟨c0, c1, c2⟩ := c
        dsimp only [Pr.vals] at *
        clear hpc HS HN2
        go_wp2_with fail
        refine (HC.out _ hG).mono ?_
        rintro e w1 ⟨rfl, hg1⟩
        go_wp2_with fail
        go_roundw
        case rel => exact ⟨k + 1, by omega, by go_num, HS2, hG.trans hg1⟩
        case measure => simp [intOf]; omega
    · obtain rfl : k = xs.length := by omega
      have HE := hid (idx_none p xs (by have := HN.out; rwa [List.take_length] at this))
      go_wp2_with fail
      go_ret
      exact ⟨ret_int HE.out.symm, hG⟩
end Go.Proofs.YtbdagllflamabaaGreatDoor
