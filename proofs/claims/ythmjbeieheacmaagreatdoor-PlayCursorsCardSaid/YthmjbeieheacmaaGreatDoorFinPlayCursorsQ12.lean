/- IntA, Law19a: one text. -/
import Derived.Test.YthmjbeieheacmaaGreatDoorFinPlayCursorsQ4
import Derived.Test.YthmjbeieheacmaaGreatDoorFinPlayCursorsQ5
import Derived.Test.YthmjbeieheacmaaGreatDoorFinPlayCursorsQ11
set_option linter.unusedVariables false
set_option linter.unusedSectionVars false
set_option linter.unusedSimpArgs false
namespace Go.Proofs.YthmjbeieheacmaaGreatDoor
open Go.RowKit Go.Maps
attribute [local go_sem] Oper.semAt_some
theorem run_append_ints {w : World} {B : Nat} {v : Value} {m : Nat} {ys xs : List Int} (hown : w.ownsRow B 3 1 v m (intFlat ys)) {ao : Option Addr} {n cap : Nat} (hn : n = xs.length) (hA : IntsAt w ao xs) (hf : SlForm ao cap) (hbig : m + n ≤ 1000000) (hB : B ≤ w.heap.size) (ty : TypeId) :
    ∃ a' cap' w', (Builtin.append_ #[22, 22] ty #[v, .slice ao n cap]).run Tryz.prog w = .ok (.slice a' (m + n) cap') w' ∧ w'.ownsRow B 3 1 (.slice a' (m + n) cap') (m + n) (intFlat (ys ++ xs)) ∧ w.grownBy w' v.ownBlock ∧ ∀ g, Value.ownBlock (.slice a' (m + n) cap') = some g → v.ownBlock = some g ∨ g = w.heap.size := by
  obtain ⟨i0, hi0, hz0, hz1, hz2⟩ := info_parts infoCI64
  subst hn
  rcases Nat.eq_zero_or_pos xs.length with h0 | h0
  · have e := List.eq_nil_of_length_eq_zero h0
    subst e
    have hsrc : Src Tryz.prog i0.size 22 (.slice ao 0 cap) 0 [] w := by
      rcases hf with ⟨rfl, rfl⟩ | ⟨b, off, rfl⟩
      · exact Src.ofNil w Tryz.underlying22 0
      · exact Src.ofSlice w Tryz.underlying22 ⟨b, off, none⟩ 0 cap [] (by simp) (fun j u hj => by simp at hj) (fun u hu => by cases hu)
    have hb : ∃ a' cap', v = .slice a' m cap' ∧ m ≤ cap' := by
      rcases hown.2 with ⟨rfl, h2⟩ | ⟨b, c, cur, rfl, _, _, h4, _⟩
      · subst h2; exact ⟨_, _, rfl, Nat.le_refl _⟩
      · exact ⟨_, _, rfl, h4⟩
    obtain ⟨a', cap', rfl, hc⟩ := hb
    exact ⟨a', cap', w, run_append_nothing w _ _ _ 3 i0 Tryz.underlying22 hi0 a' m cap' hc _ hsrc, by simpa using hown, ⟨rfl, rfl, rfl, Nat.le_refl _, fun _ _ _ => rfl⟩, fun g h => .inl h⟩
  · rcases hA with h1 | ⟨b, off, rfl, hb, hR⟩
    · rw [h1] at h0; simp at h0
    · obtain ⟨g, cap2, w2, h1, h2, h3, h4, h5⟩ := run_append_lies (P := Tryz.prog) (w := w) 22 ty B 3 i0 _ 1 8 Tryz.underlying22 hi0 hz0 hz1 hz2 rfl (by omega) v m (intFlat ys) hown ⟨b, off, none⟩ xs.length cap (intFlat xs) (by rw [intFlat_length]; omega) (fun j u hj => by
          rw [Addr.add_lit]
          have hjl : j < xs.length := by have := (List.getElem?_eq_some_iff.1 hj).1; rwa [intFlat_length] at this
          rw [intFlat_get xs j hjl] at hj
          cases hj
          exact hR j hjl) (intFlat_one xs) h0 (by unfold maxLen; omega) (by omega) hB _ rfl
      rw [← intFlat_append] at h2
      exact ⟨_, _, w2, h1, h2, h3, fun g' hg' => by
        have : g' = g := by simpa [Value.ownBlock] using hg'.symm
        subst this; exact h4⟩
theorem ints_one (w : World) (t : Int) : IntsAt (w.alloc (.cells #[.int .i64 t] 3)) (some ⟨w.heap.size, 0, none⟩) [t] := by
  have hb := heap_alloc_new w (.cells #[.int .i64 t] 3)
  refine .inr ⟨w.heap.size, 0, rfl, by simp, fun j hj => ?_⟩
  have : j = 0 := by simpa using hj
  subst this
  rw [cell_of_row _ _ _ _ _ _ hb]; rfl
end Go.Proofs.YthmjbeieheacmaaGreatDoor
namespace Go.Proofs.YthmjbeieheacmaaGreatDoor
open Go.RowKit Go.Maps
attribute [local go_sem] Oper.semAt_some
theorem plan_al (w : World) : PlanV ((w.alloc (.cells #[.int .i64 0] 3)).alloc (.cells #[.slice (some ⟨w.heap.size, 0, none⟩) 1 1] 22)) (.agg #[.int .i64 0, .slice (some ⟨w.heap.size + 1, 0, none⟩) 1 1]) 0 [[0]] := by
  have hb := heap_alloc_new (w.alloc (.cells #[.int .i64 0] 3)) (.cells #[.slice (some ⟨w.heap.size, 0, none⟩) 1 1] 22)
  rw [show (w.alloc (.cells #[.int .i64 0] 3)).heap.size = w.heap.size + 1 by simp] at hb
  refine ⟨⟨_, _, rfl, .inr ⟨w.heap.size + 1, 0, rfl, by simp, fun j c hj => ?_⟩⟩, by decide, fun c hc => by simp at hc; subst hc; decide⟩
  have h0 : j = 0 := by have := (List.getElem?_eq_some_iff.1 hj).1; simpa using this
  subst h0
  have hc : c = [0] := by simpa using hj.symm
  subst hc
  refine ⟨_, by rw [cell_of_row _ _ _ _ _ _ hb]; rfl, _, _, rfl, (ints_one w 0).grew ((Grew.refl _).alloc _), .inr ⟨_, _, rfl⟩⟩
set_option maxRecDepth 100000 in
set_option maxHeartbeats 8000000 in
theorem alive19 (E : Nat → Addr) (w : World) (hE : Errs allS E w) : Calls Tryz.prog 4 #[] w fun e w' => e = .returned (.bool true) ∧ Grew w w' := by
  have HE := hid hE
  have HB := hid (begin17_any _ _ 0 [[0]] (plan_al w) (by omega) (by omega))
  clear hE
  go_enter Tryz.func4, Tryz.ntmps4
  go_wp2_with fail
  refine HB.out.mono ?_
  rintro r w1 ⟨xb, lb, sq, ua, un, uc, ca, cl, cc, rfl, hg1, _, _, _, _, _, _, _, x4, hL⟩
  have hg1 : Grew w w1 := (((Grew.refl w).alloc _).alloc _).trans hg1
  have hxb := cell_lt x4
  have HL := hid hL
  have HG1 := hid hg1
  clear hL hg1 HB
  go_wp2_with fail
  have gA : Grew w1 (w1.alloc (.cells #[.int .i64 0, .int .i64 2] 3)) := (Grew.refl w1).alloc _
  have hb2 := heap_alloc_new w1 (.cells #[.int .i64 0, .int .i64 2] 3)
  have hi2 : IntsAt (w1.alloc (.cells #[.int .i64 0, .int .i64 2] 3)) (some ⟨w1.heap.size, 0, none⟩) [0, 2] := .inr ⟨w1.heap.size, 0, rfl, by simp, fun j hj => by
    rw [cell_of_row _ _ _ _ _ _ hb2]
    have : j = 0 ∨ j = 1 := by simp at hj; omega
    rcases this with rfl | rfl <;> rfl⟩
  refine (curNew_any E (HE.out.grew (HG1.out.trans gA)) (some ⟨w1.heap.size, 0, none⟩) 2 [0, 2] 3 hi2 (.inr ⟨_, _, rfl⟩) (by decide)).mono ?_
  rintro r w2 ⟨hg2, hV⟩
  have hrise : Pl.risesI (-1) [0, 2] = true := by decide
  have hV : ∃ cb G, r = .returned (.tuple #[.pointer (some ⟨cb, 0, none⟩), .nilIface]) ∧ CurAt w2 G cb 3 [0, 2] ∧ ∀ j, G j → (w1.alloc (.cells #[.int .i64 0, .int .i64 2] 3)).heap.size ≤ j := by
    rcases hV with ⟨h, _⟩ | ⟨_, h, _⟩ | ⟨_, _, _, h⟩
    · rw [hrise] at h; cases h
    · omega
    · exact h
  obtain ⟨cb, G, rfl, hC, hGn⟩ := hV
  have HG2 := hid (HG1.out.trans (gA.trans hg2))
  have HL2 := hid (HL.out.grew (gA.trans hg2))
  have y4 := ((gA.trans hg2).cells.1 _ 4 hxb).trans x4
  have HC := hid hC
  have HGN : Hid (∀ j, G j → w.heap.size ≤ j) := fun j hj => Nat.le_trans (HG1.out.trans gA).size (hGn j hj)
  clear hg2 hC hGn gA hb2 hi2 HL x4
  go_wp2_with fail
  refine (play0_any HL2.out).mono ?_
  rintro r w3 ⟨rfl, hg3⟩
  have HC3 := hid (HC.out.grew hg3)
  have HG3 := hid (HG2.out.trans hg3)
  clear hg3 HC HL2 y4
  go_wp2_with fail
  refine (curAt_any HC3.out).mono ?_
  rintro r w4 ⟨rfl, rfl⟩
  go_wp2_with fail
  refine (curAdd_any E (HE.out.grew HG3.out) HC3.out hrise (by decide) 1).mono ?_
  rintro r w5 hA
  rcases hA with ⟨h, _⟩ | ⟨_, rfl, hO5, G', hC5, hG5⟩
  · exact absurd h (by decide)
  have e1 : Pl.addI [0, 2] 1 = [0, 1, 2] := by decide
  rw [e1] at hC5
  have HC5 := hid hC5
  have HG5 : Hid (Grew w w5) := ((HG3.out.only G).then hO5).grew HGN.out
  clear hC5 hO5 hG5 e1 HC3
  go_wp2_with fail
  refine (curStreams_any HC5.out (by decide)).mono ?_
  rintro r w6 ⟨a6, c6, rfl, hA6, hg6⟩
  have HA6 := hid hA6
  have HG6 := hid (HG5.out.trans hg6)
  clear hA6 hg6 HC5
  go_wp2_with fail
  have gA : Grew w6 (w6.alloc (.cells #[.int .i64 0, .int .i64 1, .int .i64 2] 3)) := (Grew.refl w6).alloc _
  have hb3 := heap_alloc_new w6 (.cells #[.int .i64 0, .int .i64 1, .int .i64 2] 3)
  have hi3 : IntsAt (w6.alloc (.cells #[.int .i64 0, .int .i64 1, .int .i64 2] 3)) (some ⟨w6.heap.size, 0, none⟩) [0, 1, 2] := .inr ⟨w6.heap.size, 0, rfl, by simp, fun j hj => by
    rw [cell_of_row _ _ _ _ _ _ hb3]
    have : j = 0 ∨ j = 1 ∨ j = 2 := by simp at hj; omega
    rcases this with rfl | rfl | rfl <;> rfl⟩
  refine (sameInts_any a6 (some ⟨w6.heap.size, 0, none⟩) c6 3 [0, 1, 2] [0, 1, 2] _ (HA6.out.grew gA) hi3 (by decide) (by decide)).mono ?_
  rintro r w7 ⟨rfl, hg7⟩
  have HG7 := hid (HG6.out.trans (gA.trans hg7))
  clear hg7 gA hb3 hi3 HA6
  go_wp2_with fail
  go_ret
  exact ⟨by simp, HG7.out⟩
end Go.Proofs.YthmjbeieheacmaaGreatDoor
