/- The walks of the statements of layer 3: alive, long, SpanHas. -/
import Derived.Test.YtbkombicbgjlnaaDoorSpanP
import Derived.Test.YtbkombicbgjlnaaDoorRef03c
import Derived.Lib.QuietBelow
import Derived.BigQuiet
namespace Go.Proofs.YtbkombicbgjlnaaDoor
open Go.RowKit Go.Sort

abbrev mText : ByteArray := ⟨#[109]⟩
namespace Pl
theorem keyN_m : keyN mText = 0 := by decide +kernel
theorem isKey_m : isKey mText = true := by unfold isKey; rw [keyN_m]; rfl
theorem none0_e : none0 noText = true := by unfold none0; rw [ByteArray.toList_eq]; rfl
theorem rightS_e : rightS noText noText = true := by unfold rightS endB lessB; rw [none0_e]; rfl
theorem compare_m : compare mText noText = 1 := by decide +kernel
theorem hasS_m : hasS noText noText mText = true := by unfold hasS lessB; rw [rightS_e, isKey_m, compare_m, none0_e]; rfl
theorem cutE_m : cutE (rightS noText noText) (keyN mText) (hasS noText noText mText) noText mText = 0 := by
  rw [rightS_e, keyN_m, hasS_m]; unfold cutE; simp [ByteArray.toList_eq]
end Pl

theorem cut_alive (S : Nat → Bool) (E : Nat → Addr) (hS : SpanS S) (w : World) (hE : Errs S E w) :
    Calls Tryd.prog 22 #[.agg #[.string ⟨#[]⟩, .string ⟨#[]⟩], .string ⟨#[109]⟩] w fun e w' =>
      e = .returned (.tuple #[.agg #[.string ⟨#[]⟩, .string ⟨#[109]⟩], .agg #[.string ⟨#[109]⟩, .string ⟨#[]⟩], .nilIface]) ∧ Grew w w' := by
  refine (cut_any S E hS noText noText mText w (by decide) (by decide) (by decide) hE).mono ?_
  intro e w' h
  rw [Pl.cutE_m] at h
  exact h

set_option maxHeartbeats 800000 in
theorem alive03 (S : Nat → Bool) (E : Nat → Addr) (hS : SpanS S) (w : World) (hE : Errs S E w) :
    Calls Tryd.prog 20 #[] w fun e w' => e = .returned (.bool true) ∧ Grew w w' := by
  have HE := hid hE
  clear hE
  go_enter Tryd.func20, Tryd.ntmps20
  go_wp2_with fail
  refine (cut_alive S E hS _ HE.out).mono ?_
  rintro e w1 ⟨rfl, hg⟩
  go_wp2_with fail
  go_ret
  refine ⟨rfl, ?_⟩
  exact (hg.alloc _).alloc _

def longB (lo hi : ByteArray) : Bool := decide (300 < lo.size) || decide (300 < hi.size)

theorem long03 (lo hi : ByteArray) (w : World) (hl : lo.size ≤ 140737488351232) (hh : hi.size ≤ 140737488351232) :
    Calls Tryd.prog 21 #[.agg #[.string lo, .string hi]] w fun e w' => e = .returned (.bool (longB lo hi)) ∧ Grew w w' := by
  by_cases h1 : 300 < lo.size
  · have e : longB lo hi = true := by unfold longB; rw [decide_eq_true h1]; rfl
    rw [e]
    clear e
    have h2 : (300 : Int) < (lo.size : Int) := by omega
    go_enter Tryd.func21, Tryd.ntmps21
    go_wp2
    go_ret
    exact ⟨rfl, (Grew.refl w).alloc _⟩
  · have e : longB lo hi = decide ((300 : Int) < (hi.size : Int)) := by
      unfold longB; rw [decide_eq_false h1, Bool.false_or, Bool.eq_iff_iff]; simp; omega
    have HE := hid e
    clear e
    have h2 : ¬ (300 : Int) < (lo.size : Int) := by omega
    go_enter Tryd.func21, Tryd.ntmps21
    go_wp2
    go_ret
    exact ⟨ret_bool HE.out.symm, (Grew.refl w).alloc _⟩

theorem keyN_le (s : ByteArray) : Pl.keyN s ≤ 19 := by
  unfold Pl.keyN
  split
  · decide
  · unfold Pl.keyL
    repeat' split
    all_goals decide
theorem cutE_le (r : Bool) (k : Nat) (h : Bool) (lo key : ByteArray) (hk : k ≤ 19) : Pl.cutE r k h lo key ≤ 19 := by
  unfold Pl.cutE
  repeat' split
  all_goals omega

theorem num_any (E : Nat → Addr) (k : Nat) (hk : k ≤ 19) (w : World) (hE : Errs allS E w) :
    Calls Tryd.prog 19 #[errOf E k] w fun e w' => e = .returned (.int .i64 (k : Nat)) ∧ Grew w w' := by
  by_cases h0 : k = 0
  · subst h0
    exact (num_nil w).mono fun e w' ⟨he, hw⟩ => ⟨he, by rw [← hw]; exact Grew.refl _⟩
  · rw [errOf_pos E k h0]
    exact num_err E k (by omega) hk w hE

theorem spanS_all : SpanS allS := ⟨⟨rfl, rfl, rfl, rfl⟩, rfl, rfl⟩

theorem errOf_shape (E : Nat → Addr) (k : Nat) : errOf E k = .nilIface ∨ errOf E k = .iface 273 (.pointer (some (E k))) := by
  by_cases h : k = 0
  · subst h; exact .inl rfl
  · exact .inr (errOf_pos E k h)

set_option maxHeartbeats 2000000 in
set_option maxRecDepth 100000 in
theorem spanHas_walk (E : Nat → Addr) (lo hi key : ByteArray) (w : World) (hl : lo.size ≤ 140737488351232) (hh : hi.size ≤ 140737488351232) (hk : key.size ≤ 140737488351232) (hE : Errs allS E w) :
    Calls Tryd.prog 4 #[.agg #[.string lo, .string hi], .string key] w fun e w' => e = .returned (.bool true) ∧ Grew w w' := by
  have HE := hid hE
  clear hE
  go_enter Tryd.func4, Tryd.ntmps4
  go_wp2_with fail
  refine (alive03 allS E spanS_all _ (HE.out.grew ((Grew.refl w).alloc _))).mono ?_
  rintro e w1 ⟨rfl, hg1⟩
  have hz1 : w.heap.size < w1.heap.size := by have := hg1.size; simp at this; omega
  obtain ⟨hc1, _⟩ := hg1.cells
  have l0 : w1.cell? ⟨w.heap.size, 0, none⟩ = some (.string lo) := by rw [hc1 _ _ (by simp)]; simp [go_sem]
  have l1 : w1.cell? ⟨w.heap.size, 1, none⟩ = some (.string hi) := by rw [hc1 _ _ (by simp)]; simp [go_sem]
  have hG1 : Grew w w1 := ((Grew.refl w).alloc _).trans hg1
  clear hc1 hg1
  go_wp2_with fail
  refine (long03 lo hi _ hl hh).mono ?_
  rintro e w2 ⟨rfl, hg2⟩
  have hz2 : w.heap.size < w2.heap.size := by have := hg2.size; omega
  obtain ⟨hc2, _⟩ := hg2.cells
  have m0 : w2.cell? ⟨w.heap.size, 0, none⟩ = some (.string lo) := (hc2 _ _ hz1).trans l0
  have m1 : w2.cell? ⟨w.heap.size, 1, none⟩ = some (.string hi) := (hc2 _ _ hz1).trans l1
  have hG2 : Grew w w2 := hG1.trans hg2
  clear hc2 hg2 l0 l1 hz1 hG1
  cases h1 : longB lo hi with
  | true =>
    go_wp2_with fail
    go_ret
    exact ⟨rfl, hG2⟩
  | false =>
    by_cases h2 : 300 < key.size
    · have h3 : (300 : Int) < (key.size : Int) := by omega
      go_wp2_with fail
      go_ret
      exact ⟨rfl, hG2⟩
    · have h3 : ¬ (300 : Int) < (key.size : Int) := by omega
      have h4 : lo.size ≤ 300 ∧ hi.size ≤ 300 := by
        unfold longB at h1
        simp only [Bool.or_eq_false_iff, decide_eq_false_iff_not] at h1
        omega
      obtain ⟨h5, h6⟩ := h4
      go_wp2_with fail
      have hcut := cut_any allS E spanS_all lo hi key w2 (by omega) (by omega) (by omega) (HE.out.grew hG2)
      have hrcut := fun W => ref_cut lo hi key W (by omega) (by omega) (by omega)
      unfold CutPost at hcut
      unfold RefCutPost at hrcut
      rw [Pl.rightR_eq, Pl.hasR_eq] at hrcut
      have hn := cutE_le (Pl.rightS lo hi) (Pl.keyN key) (Pl.hasS lo hi key) lo key (keyN_le key)
      generalize Pl.cutE (Pl.rightS lo hi) (Pl.keyN key) (Pl.hasS lo hi key) lo key = n at hcut hrcut hn
      generalize (Pl.cutA n lo key).1 = a0 at hcut hrcut
      generalize (Pl.cutA n lo key).2 = a1 at hcut hrcut
      generalize (Pl.cutA n key hi).1 = b0 at hcut hrcut
      generalize (Pl.cutA n key hi).2 = b1 at hcut hrcut
      refine hcut.mono ?_
      rintro e w3 ⟨rfl, hg3⟩
      have hz3 : w.heap.size < w3.heap.size := by have := hg3.size; omega
      obtain ⟨hc3, _⟩ := hg3.cells
      have n0 : w3.cell? ⟨w.heap.size, 0, none⟩ = some (.string lo) := (hc3 _ _ hz2).trans m0
      have n1 : w3.cell? ⟨w.heap.size, 1, none⟩ = some (.string hi) := (hc3 _ _ hz2).trans m1
      have hG3 : Grew w w3 := hG2.trans hg3
      clear hc3 hg3 m0 m1 hcut
      go_wp2_with fail
      refine (hrcut _).mono ?_
      rintro e w4 ⟨rfl, hg4⟩
      have hz4 : w.heap.size < w4.heap.size ∧ w3.heap.size < w4.heap.size ∧ w3.heap.size + 1 < w4.heap.size := by have := hg4.size; simp at this; omega
      obtain ⟨hz40, hz41, hz42⟩ := hz4
      obtain ⟨hc4, _⟩ := hg4.cells
      have o0 : w4.cell? ⟨w.heap.size, 0, none⟩ = some (.string lo) := by rw [hc4 _ _ (by simp; omega)]; simp [go_sem, n0, hz3]
      have o1 : w4.cell? ⟨w.heap.size, 1, none⟩ = some (.string hi) := by rw [hc4 _ _ (by simp; omega)]; simp [go_sem, n1, hz3]
      have p0 : w4.cell? ⟨w3.heap.size, 0, none⟩ = some (.string a0) := by rw [hc4 _ _ (by simp; omega)]; simp [go_sem]
      have p1 : w4.cell? ⟨w3.heap.size, 1, none⟩ = some (.string a1) := by rw [hc4 _ _ (by simp; omega)]; simp [go_sem]
      have q0 : w4.cell? ⟨w3.heap.size + 1, 0, none⟩ = some (.string b0) := by rw [hc4 _ _ (by simp)]; simp [go_sem]
      have q1 : w4.cell? ⟨w3.heap.size + 1, 1, none⟩ = some (.string b1) := by rw [hc4 _ _ (by simp)]; simp [go_sem]
      have hG4 : Grew w w4 := ((hG3.alloc _).alloc _).trans hg4
      clear hc4 hg4 n0 n1 hrcut
      go_wp2_with fail
      obtain ⟨W5, hW5⟩ : ∃ W5, W5 = (w4.alloc (Obj.cells #[Value.string a0, Value.string a1] 28)).alloc (Obj.cells #[Value.string b0, Value.string b1] 28) := ⟨_, rfl⟩
      have s0 : W5.cell? ⟨w.heap.size, 0, none⟩ = some (.string lo) := by rw [hW5]; simp [go_sem, o0, hz40]
      have s1 : W5.cell? ⟨w.heap.size, 1, none⟩ = some (.string hi) := by rw [hW5]; simp [go_sem, o1, hz40]
      have t0 : W5.cell? ⟨w3.heap.size, 0, none⟩ = some (.string a0) := by rw [hW5]; simp [go_sem, p0, hz41]
      have t1 : W5.cell? ⟨w3.heap.size, 1, none⟩ = some (.string a1) := by rw [hW5]; simp [go_sem, p1, hz41]
      have u0 : W5.cell? ⟨w3.heap.size + 1, 0, none⟩ = some (.string b0) := by rw [hW5]; simp [go_sem, q0, hz41, hz42]
      have u1 : W5.cell? ⟨w3.heap.size + 1, 1, none⟩ = some (.string b1) := by rw [hW5]; simp [go_sem, q1, hz41, hz42]
      have v0 : W5.cell? ⟨w4.heap.size, 0, none⟩ = some (.string a0) := by rw [hW5]; simp [go_sem]
      have v1 : W5.cell? ⟨w4.heap.size, 1, none⟩ = some (.string a1) := by rw [hW5]; simp [go_sem]
      have x0 : W5.cell? ⟨w4.heap.size + 1, 0, none⟩ = some (.string b0) := by rw [hW5]; simp [go_sem]
      have x1 : W5.cell? ⟨w4.heap.size + 1, 1, none⟩ = some (.string b1) := by rw [hW5]; simp [go_sem]
      have hG5 : Grew w W5 := by rw [hW5]; exact (hG4.alloc _).alloc _
      rw [← hW5]
      clear hW5 o0 o1 p0 p1 q0 q1 hz40 hz41 hz42
      have S0 := cell_regrown s0
      have S1 := cell_regrown s1
      have T0 := cell_regrown t0
      have T1 := cell_regrown t1
      have U0 := cell_regrown u0
      have U1 := cell_regrown u1
      have V0 := cell_regrown v0
      have V1 := cell_regrown v1
      have X0 := cell_regrown x0
      have X1 := cell_regrown x1
      clear s0 s1 t0 t1 u0 u1 v0 v1 x0 x1
      have hGr : ∀ d os, Grew w (grow (redrawn W5 d) os) := fun d os => hG5.trans (below_regrown W5 d os)
      have c24 : ∀ d os, Calls Tryd.prog 24 #[.agg #[.string lo, .string hi]] (grow (redrawn W5 d) os) fun e w'' => e = .returned (.bool (Pl.rightS lo hi)) ∧ ∃ p : Regrown, w'' = grow (redrawn W5 p.d) p.os := fun d os => Calls.regrown_of (right_span allS E spanS_all.1 lo hi _ (by omega) (by omega) (HE.out.grew (hGr d os)))
      have c25 : ∀ d os, Calls Tryd.prog 25 #[.agg #[.string lo, .string hi]] (grow (redrawn W5 d) os) fun e w'' => e = .returned (.bool (Pl.rightS lo hi)) ∧ ∃ p : Regrown, w'' = grow (redrawn W5 p.d) p.os := fun d os => Calls.regrown_of (by rw [← Pl.rightR_eq]; exact ref_right lo hi _ (by omega) (by omega))
      have c26 : ∀ d os, Calls Tryd.prog 26 #[.agg #[.string lo, .string hi], .string key] (grow (redrawn W5 d) os) fun e w'' => e = .returned (.bool (Pl.hasS lo hi key)) ∧ ∃ p : Regrown, w'' = grow (redrawn W5 p.d) p.os := fun d os => Calls.regrown_of (has_span allS E spanS_all.1 lo hi key _ (by omega) (by omega) (by omega) (HE.out.grew (hGr d os)))
      have c27 : ∀ d os, Calls Tryd.prog 27 #[.agg #[.string lo, .string hi], .string key] (grow (redrawn W5 d) os) fun e w'' => e = .returned (.bool (Pl.hasS lo hi key)) ∧ ∃ p : Regrown, w'' = grow (redrawn W5 p.d) p.os := fun d os => Calls.regrown_of (by rw [← Pl.hasR_eq]; exact ref_has lo hi key _ (by omega) (by omega) (by omega))
      have c19 : ∀ d os, Calls Tryd.prog 19 #[errOf E n] (grow (redrawn W5 d) os) fun e w'' => e = .returned (.int .i64 (n : Nat)) ∧ ∃ p : Regrown, w'' = grow (redrawn W5 p.d) p.os := fun d os => Calls.regrown_of (num_any E n hn _ (HE.out.grew (hGr d os)))
      refine wp_region_quiet_below (by kernel_rfl) (by kernel_rfl) ?_
      repeat (go_big_quiet_step (first | exact c24 _ _ | exact c25 _ _ | exact c26 _ _ | exact c27 _ _ | exact c19 _ _))
      refine wpQuiet_nil ?_
      intro _ hw'
      obtain ⟨⟨dq, osq⟩, hw''⟩ := hw'
      subst hw''
      go_wp2
      go_ret
      exact ⟨rfl, hGr dq osq⟩
end Go.Proofs.YtbkombicbgjlnaaDoor
