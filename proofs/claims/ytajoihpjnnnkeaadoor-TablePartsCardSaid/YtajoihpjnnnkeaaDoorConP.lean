/- slices.Grow of nil and slices.Concat of two, at a table's pairs; append of pairs to an owned row. -/
import Derived.Test.YtajoihpjnnnkeaaDoorTab2
import Derived.Deep.Upon
import Derived.Lib.AppendZeros
import Derived.Deep.AppendLies
namespace Go.Proofs.YtajoihpjnnnkeaaDoor
open Go.RowKit Go.Maps
attribute [local go_sem] Oper.semAt_some

/-- The form of a slice's head. -/
def SlForm (a : Option Addr) (cap : Nat) : Prop := (a = none ∧ cap = 0) ∨ ∃ b off, a = some ⟨b, off, none⟩
theorem slForm_of {w : World} {B k : Nat} {e : TypeId} {a : Option Addr} {m n cap : Nat} {L : List Value} (h : w.ownsRow B e k (.slice a m cap) n L) : SlForm a cap := by
  rcases h.2 with ⟨h2, _⟩ | ⟨b, c, cur, e1, _⟩
  · cases h2; exact .inl ⟨rfl, rfl⟩
  · cases e1; exact .inr ⟨_, _, rfl⟩
/-- The cells of a row, one by one. -/
theorem PairRow.cells {W : World} {b off : Nat} {xs : List Pr} (h : PairRow W b off xs) : ∀ j u, (prFlat xs)[j]? = some u → W.cell? ⟨b, off + j, none⟩ = some u := by
  intro j u hj
  have hlt : j < xs.length * 3 := by have := (List.getElem?_eq_some_iff.1 hj).1; rwa [prFlat_length] at this
  have h2 := prFlat_get (j % 3) (Nat.mod_lt _ (by decide)) xs (j / 3) (by omega)
  rw [show j / 3 * 3 + j % 3 = j by omega, hj] at h2
  have q0 := h.key (j / 3) (by omega)
  have q1 := h.val (j / 3) (by omega)
  have q2 := h.ver (j / 3) (by omega)
  have e : off + j = off + j / 3 * 3 + j % 3 := by omega
  have h4 : j % 3 < 3 := Nat.mod_lt _ (by decide)
  rw [e]
  generalize j % 3 = r at *
  unfold Pr.vals at h2
  match r, h4 with
  | 0, _ => simp at h2; rw [h2]; exact q0
  | 1, _ => simp at h2; rw [h2]; exact q1
  | 2, _ => simp at h2; rw [h2]; exact q2

/-- append(own, pairs...), whatever the pairs. -/
theorem wpList_append_pairs {ops : Array Oper} {rest : List Oper} {o : Oper} {a : Act} {Q : Exit → Act → World → Prop} (hgd : o.guard = none) (s x : Operand)
    (ho : o.op = .call { callee := .builtin .append, args := #[s, x], argTypes := #[61, 61] }) {w : World} {B : Nat} {v : Value} {m : Nat} {ys xs : List Pr} (hs : a.eval s = v) (hown : w.ownsRow B 64 3 v m (prFlat ys))
    {ao : Option Addr} {n cap : Nat} (hx : a.eval x = .slice ao n cap) (hn : n = xs.length) (hA : PairsAt w ao xs) (hf : SlForm ao cap) (hbig : m + n ≤ 2000000) (hB : B ≤ w.heap.size)
    (h : ∀ a' cap' w', w'.ownsRow B 64 3 (.slice a' (m + n) cap') (m + n) (prFlat (ys ++ xs)) → w.grownBy w' v.ownBlock → wpList Tryd.prog ops Q rest (a.put o.dst (.slice a' (m + n) cap')) w') : wpList Tryd.prog ops Q (o :: rest) a w := by
  obtain ⟨i0, hi0, hz0, hz1, hz2⟩ := info_parts infoPair
  subst hn
  rcases Nat.eq_zero_or_pos xs.length with h0 | h0
  · have e := List.eq_nil_of_length_eq_zero h0
    subst e
    have hsrc : Src Tryd.prog i0.size 61 (.slice ao 0 cap) 0 [] w := by
      rcases hf with ⟨rfl, rfl⟩ | ⟨b, off, rfl⟩
      · exact Src.ofNil w Tryd.underlying61 0
      · exact Src.ofSlice w Tryd.underlying61 ⟨b, off, none⟩ 0 cap [] (by simp) (fun j u hj => by simp at hj) (fun u hu => by cases hu)
    have hb : ∃ a' cap', v = .slice a' m cap' ∧ m ≤ cap' := by
      rcases hown.2 with ⟨rfl, h2⟩ | ⟨b, c, cur, rfl, _, _, h4, _⟩
      · subst h2; exact ⟨_, _, rfl, Nat.le_refl _⟩
      · exact ⟨_, _, rfl, h4⟩
    obtain ⟨a', cap', rfl, hc⟩ := hb
    exact Lib.wpList_append_run w hgd s x _ _ ho _ _ hs hx _ _ (run_append_nothing w _ _ _ 64 i0 Tryd.underlying61 hi0 a' m cap' hc _ hsrc) (h a' cap' w (by simpa using hown) ⟨rfl, rfl, rfl, Nat.le_refl _, fun _ _ _ => rfl⟩)
  · rcases hA with h1 | ⟨b, off, rfl, hb, hR⟩
    · rw [h1] at h0; simp at h0
    · refine wpList_append_lies w hgd s x 61 ho B 64 i0 _ 3 40 Tryd.underlying61 hi0 hz0 hz1 hz2 rfl (by omega) v m (prFlat ys) hs hown ⟨b, off, none⟩ xs.length cap (prFlat xs) hx (prFlat_length xs) (fun j u hj => by rw [Addr.add_lit]; exact hR.cells j u hj) (prFlat_one' xs) h0 (by unfold maxLen; omega) (by omega) hB _ rfl ?_
      intro g cap2 w2 hown2 hgrow _ _
      rw [← prFlat_append] at hown2
      exact h _ _ _ hown2 hgrow

set_option maxRecDepth 100000 in
theorem growP_nil (w : World) : Calls Tryd.prog 109 #[.slice none 0 0, .int .i64 0] w fun e w' => e = .returned (.slice none 0 0) ∧ w' = w := by
  go_enter Tryd.func109, Tryd.ntmps109
  go_wp2_with fail
  go_ret
  exact ⟨rfl, rfl⟩

theorem zeroPair : (Value.cells (.agg #[.string ⟨#[]⟩, .string ⟨#[]⟩, .int .i64 0])).size = 3 := by kernel_rfl

set_option maxRecDepth 100000 in
theorem growP (w : World) (n : Nat) (h0 : 0 < n) (hn : n ≤ 2000000) : Calls Tryd.prog 109 #[.slice none 0 0, .int .i64 (n : Int)] w fun e w' => ∃ g cap, e = .returned (.slice (some ⟨g, 0, none⟩) 0 cap) ∧ w'.ownsRow w.heap.size 64 3 (.slice (some ⟨g, 0, none⟩) 0 cap) 0 [] ∧ Grew w w' := by
  obtain ⟨i0, hi0, hz0, hz1, hz2⟩ := info_parts infoPair
  have z1 : ¬ ((n : Int) < 0) := by omega
  have z2 : (n : Int) > 0 := by omega
  have z3 : IntKind.i64.wrap ((n : Int) - 0) = (n : Int) := by rw [show (n : Int) - 0 = (n : Int) by omega]; exact IntWalk.i64_in _ (by omega)
  have hge := grownCap_ge w n 0 64
  have hle := grownCap_le_maxLen w n 0 64 (by unfold maxLen; omega)
  have HO := hid (fun (c : Nat) (h1 : n ≤ c) (h2 : c ≤ maxLen) => show (w.drew.alloc (.cells (Builtin.zeroCells (Value.cells (.agg #[.string ⟨#[]⟩, .string ⟨#[]⟩, .int .i64 0])) n ++ Builtin.zeroCells (Value.cells (.agg #[.string ⟨#[]⟩, .string ⟨#[]⟩, .int .i64 0])) (c - n)) 64)).ownsRow w.heap.size 64 3 (.slice (some ⟨w.heap.size, 0, none⟩) 0 c) 0 [] from by
    refine ownsRow_of_block (cur := (Builtin.zeroCells (Value.cells (.agg #[.string ⟨#[]⟩, .string ⟨#[]⟩, .int .i64 0])) n ++ Builtin.zeroCells (Value.cells (.agg #[.string ⟨#[]⟩, .string ⟨#[]⟩, .int .i64 0])) (c - n)).toList) (Nat.le_refl _) ?_ (Nat.zero_le _) (by unfold maxLen at h2; omega) ?_ (by simp)
    · rw [Array.toArray_toList]; exact heap_alloc_new w.drew _
    · rw [Array.length_toList, Array.size_append, size_zeroCells, size_zeroCells, zeroPair]; omega)
  have HG := hid (fun (os : Obj) => ((Grew.refl w).drew).alloc os)
  have HOO := hid (HO.out _ hge hle)
  have HR := hid (Lib.run_append_nil_zeros (P := Tryd.prog) w 61 3 61 64 i0 _ .i64 .i64 Tryd.underlying61 Tryd.underlying3 hi0 hz0 n h0 (by omega) (by omega) (by rw [hz2]; omega))
  clear HO
  generalize hW : w.drew.alloc _ = W at HOO HR
  have HGW : Hid (Grew w W) := by rw [← hW]; exact HG.out _
  clear hW HG
  go_enter Tryd.func109, Tryd.ntmps109
  go_wp2_with (at_builtin; refine Lib.wpList_append_run _ rfl _ _ _ _ rfl _ _ rfl rfl _ _ HR.out ?_)
  go_wp2_with fail
  go_ret
  exact ⟨_, _, rfl, HOO.out, HGW.out⟩

set_option maxRecDepth 100000 in
set_option maxHeartbeats 2000000 in
theorem concatP (w : World) (vb : Nat) (a1 a2 : Option Addr) (c1 c2 : Nat) (xs ys : List Pr) (h1 : w.cell? ⟨vb, 0, none⟩ = some (.slice a1 xs.length c1)) (h2 : w.cell? ⟨vb, 1, none⟩ = some (.slice a2 ys.length c2)) (A1 : PairsAt w a1 xs) (A2 : PairsAt w a2 ys) (F1 : SlForm a1 c1) (F2 : SlForm a2 c2) (hx : xs.length ≤ 1000000) (hy : ys.length ≤ 1000000) :
    Calls Tryd.prog 71 #[.slice (some ⟨vb, 0, none⟩) 2 2] w fun e w' => ∃ a cap, e = .returned (.slice a (xs.length + ys.length) cap) ∧ w'.ownsRow w.heap.size 64 3 (.slice a (xs.length + ys.length) cap) (xs.length + ys.length) (prFlat (xs ++ ys)) ∧ Grew w w' := by
  have hvb : vb < w.heap.size := cell_lt h1
  have HX := hid (And.intro A1 (And.intro F1 hx))
  have HY := hid (And.intro A2 (And.intro F2 hy))
  have hG0 : ∀ W : World, Calls Tryd.prog 109 #[.slice none 0 0, .int .i64 ((xs.length : Int) + (ys.length : Int))] W fun e w' => ∃ a cap, e = .returned (.slice a 0 cap) ∧ w'.ownsRow W.heap.size 64 3 (.slice a 0 cap) 0 (prFlat []) ∧ Grew W w' := fun W => by
    rcases Nat.eq_zero_or_pos (xs.length + ys.length) with h0 | h0
    · have e : ((xs.length : Int) + (ys.length : Int)) = 0 := by omega
      rw [e]
      exact (growP_nil W).mono fun e w' ⟨he, hw⟩ => ⟨none, 0, he, World.ownsRow_nil _ _ _ _, by rw [hw]; exact Grew.refl W⟩
    · rw [← Int.natCast_add]
      exact (growP W _ h0 (by omega)).mono fun e w' ⟨g, cap, he, hr, hg⟩ => ⟨_, _, he, hr, hg⟩
  have HG0 := hid hG0
  have b1 : (xs.length : Int) ≤ 1000000 := by omega
  have b2 : (ys.length : Int) ≤ 1000000 := by omega
  clear hG0 A1 A2 F1 F2
  go_enter Tryd.func71, Tryd.ntmps71
  go_wp2_with fail
  go_loopw [11, 3] (fun i s wr => wr = w ∧ ((i = .int .i64 0 ∧ s = .int .i64 0) ∨ (i = .int .i64 1 ∧ s = .int .i64 xs.length) ∨ (i = .int .i64 2 ∧ s = .int .i64 ((xs.length : Int) + (ys.length : Int))))) (fun i _ _ => 2 - (intOf i).toNat)
  case atStart => exact ⟨rfl, .inl ⟨rfl, rfl⟩⟩
  case round =>
    obtain ⟨rfl, hrel⟩ := hrel
    rcases hrel with ⟨rfl, rfl⟩ | ⟨rfl, rfl⟩ | ⟨rfl, rfl⟩
    · go_wp2_with fail
      go_roundw
      case rel => exact ⟨trivial, .inr (.inl ⟨by go_num, by go_num⟩)⟩
      case measure => simp [intOf]
    · go_wp2_with fail
      go_roundw
      case rel => exact ⟨trivial, .inr (.inr ⟨by go_num, by go_num⟩)⟩
      case measure => simp [intOf]
    · go_wp2_with fail
      refine (HG0.out _).mono ?_
      rintro e w1 ⟨a, cap, rfl, hr, hg⟩
      have HS := hid (And.intro hr hg)
      have hsz := hg.size
      have g1 := (hg.cells.1 _ 0 hvb).trans h1
      have g2 := (hg.cells.1 _ 1 hvb).trans h2
      clear hr hg
      go_wp2_with fail
      go_loopw [27, 6] (fun i v wx => (i = .int .i64 0 ∧ ∃ a cap, v = .slice a 0 cap ∧ Hid (wx.ownsRow wr.heap.size 64 3 (.slice a 0 cap) 0 (prFlat []) ∧ Grew wr wx)) ∨ (i = .int .i64 1 ∧ ∃ a cap, v = .slice a xs.length cap ∧ Hid (wx.ownsRow wr.heap.size 64 3 (.slice a xs.length cap) xs.length (prFlat xs) ∧ Grew wr wx)) ∨ (i = .int .i64 2 ∧ ∃ a cap, v = .slice a (xs.length + ys.length) cap ∧ Hid (wx.ownsRow wr.heap.size 64 3 (.slice a (xs.length + ys.length) cap) (xs.length + ys.length) (prFlat (xs ++ ys)) ∧ Grew wr wx))) (fun i _ _ => 2 - (intOf i).toNat)
      case atStart => exact .inl ⟨rfl, a, cap, rfl, HS⟩
      case round =>
        rcases hrel with ⟨rfl, a, cap, rfl, HR⟩ | ⟨rfl, a, cap, rfl, HR⟩ | ⟨rfl, a, cap, rfl, HR⟩
        · have q1 := (HR.out.2.cells.1 _ 0 hvb).trans h1
          have HA := hid (HX.out.1.grew HR.out.2)
          clear g1 g2 h1 h2
          go_wp2_with (at_builtin; refine wpList_append_pairs rfl _ _ rfl rfl HR.out.1 rfl rfl HA.out HX.out.2.1 (by omega) HR.out.2.size ?_)
          intro a' cap' w2 hr2 hgr
          have HR2 := hid (And.intro hr2 (((HR.out.2.only (fun j => some j = Value.ownBlock (.slice a 0 cap))).then (Only.of_grownBy hgr)).grew (fun j hj => (HR.out.1.lt j hj.symm).1)))
          clear hr2 hgr
          go_wp2_with fail
          go_roundw
          case rel => exact .inr (.inl ⟨by go_num, a', cap', rfl, HR2⟩)
          case measure => simp [intOf]
        · have q2 := (HR.out.2.cells.1 _ 1 hvb).trans h2
          have HA := hid (HY.out.1.grew HR.out.2)
          clear g1 g2 h1 h2
          go_wp2_with (at_builtin; refine wpList_append_pairs rfl _ _ rfl rfl HR.out.1 rfl rfl HA.out HY.out.2.1 (by omega) HR.out.2.size ?_)
          intro a' cap' w2 hr2 hgr
          have HR2 := hid (And.intro hr2 (((HR.out.2.only (fun j => some j = Value.ownBlock (.slice a xs.length cap))).then (Only.of_grownBy hgr)).grew (fun j hj => (HR.out.1.lt j hj.symm).1)))
          clear hr2 hgr
          go_wp2_with fail
          go_roundw
          case rel => exact .inr (.inr ⟨by go_num, a', cap', rfl, HR2⟩)
          case measure => simp [intOf]
        · go_wp2_with fail
          go_ret
          exact ⟨a, cap, rfl, HR.out.1, HR.out.2⟩
end Go.Proofs.YtajoihpjnnnkeaaDoor
