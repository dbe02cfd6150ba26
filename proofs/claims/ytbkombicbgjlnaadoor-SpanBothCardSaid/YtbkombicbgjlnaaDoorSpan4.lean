/- The walk of package span: Meet. (Printed by wip/gen_meet.py.) -/
import Derived.Test.YtbkombicbgjlnaaDoorSpan3
namespace Go.Proofs.YtbkombicbgjlnaaDoor
open Go.RowKit

namespace Pl
/-- span.Meet: what both have in common. -/
def meetLo (alo blo : ByteArray) : ByteArray := if 0 < compare blo alo then blo else alo
def meetHi (ahi bhi : ByteArray) : ByteArray := if none0 ahi = true then bhi else if none0 bhi = true then ahi else if compare bhi ahi < 0 then bhi else ahi
def meetB (ra rb : Bool) (ok : Bool) : Bool := ra && rb && ok
def meetV (b : Bool) (lo hi : ByteArray) : ByteArray × ByteArray := if b then (lo, hi) else (⟨#[]⟩, ⟨#[]⟩)
end Pl

theorem Grew.at {a b : World} (g : Grew a b) {x : Addr} {v : Value} (h : a.cell? x = some v) : b.cell? x = some v := (g.below.cell (cell_lt h)).trans h
theorem Grew.fz {a b : World} (g : Grew a b) {x : Addr} {v : Value} (h : a.cell? x = some v) (f : a.frozen? x = false) : b.frozen? x = false := (g.below.frozen (cell_lt h)).trans f

/-- The boxes of a call of Meet: both spans, the result, and what is being made of them. -/
structure MB (w W : World) (B : Nat) (alo ahi blo bhi lo hi : ByteArray) : Prop where
  gr : Grew w W
  a0 : W.cell? ⟨w.heap.size, 0, none⟩ = some (.string alo)
  a1 : W.cell? ⟨w.heap.size, 1, none⟩ = some (.string ahi)
  b0 : W.cell? ⟨w.heap.size + 1, 0, none⟩ = some (.string blo)
  b1 : W.cell? ⟨w.heap.size + 1, 1, none⟩ = some (.string bhi)
  r0 : W.cell? ⟨w.heap.size + 1 + 1, 0, none⟩ = some (.string ⟨#[]⟩)
  r1 : W.cell? ⟨w.heap.size + 1 + 1, 1, none⟩ = some (.string ⟨#[]⟩)
  f0 : W.frozen? ⟨w.heap.size + 1 + 1, 0, none⟩ = false
  f1 : W.frozen? ⟨w.heap.size + 1 + 1, 1, none⟩ = false
  t0 : W.cell? ⟨B, 0, none⟩ = some (.string lo)
  t1 : W.cell? ⟨B, 1, none⟩ = some (.string hi)
  u0 : W.frozen? ⟨B, 0, none⟩ = false
  u1 : W.frozen? ⟨B, 1, none⟩ = false
  hB : w.heap.size + 1 + 1 < B

section
variable {w W W' : World} {B : Nat} {alo ahi blo bhi lo hi : ByteArray}
theorem MB.grew (h : MB w W B alo ahi blo bhi lo hi) (g : Grew W W') : MB w W' B alo ahi blo bhi lo hi :=
  ⟨h.gr.trans g, g.at h.a0, g.at h.a1, g.at h.b0, g.at h.b1, g.at h.r0, g.at h.r1, g.fz h.r0 h.f0, g.fz h.r1 h.f1, g.at h.t0, g.at h.t1, g.fz h.t0 h.u0, g.fz h.t1 h.u1, h.hB⟩
theorem set_same {W : World} {a : Addr} {v u : Value} (h : W.cell? a = some v) : (W.setCell a u).cell? a = some u := World.cell?_setCell_same' _ _ _ (by rw [h]; rfl)
theorem set_other {W : World} {a b : Addr} {v u : Value} (h : W.cell? b = some v) (hn : b ≠ a) : (W.setCell a u).cell? b = some v := by
  rw [World.cell?_setCell_other _ _ _ _ (Ne.symm hn)]; exact h
theorem MB.set0 (h : MB w W B alo ahi blo bhi lo hi) (x : ByteArray) : MB w (W.setCell ⟨B, 0, none⟩ (.string x)) B alo ahi blo bhi x hi := by
  have hb := h.hB
  have ne : ∀ k o, k < B → (⟨k, o, none⟩ : Addr) ≠ ⟨B, 0, none⟩ := fun k o hk e => by cases e; omega
  exact ⟨h.gr.setCell (by simp; omega) _, set_other h.a0 (ne _ _ (by omega)), set_other h.a1 (ne _ _ (by omega)), set_other h.b0 (ne _ _ (by omega)), set_other h.b1 (ne _ _ (by omega)), set_other h.r0 (ne _ _ (by omega)), set_other h.r1 (ne _ _ (by omega)),
    by rw [World.frozen?_setCell]; exact h.f0, by rw [World.frozen?_setCell]; exact h.f1, set_same h.t0, set_other h.t1 (by intro e; cases e), by rw [World.frozen?_setCell]; exact h.u0, by rw [World.frozen?_setCell]; exact h.u1, hb⟩
theorem MB.set1 (h : MB w W B alo ahi blo bhi lo hi) (x : ByteArray) : MB w (W.setCell ⟨B, 1, none⟩ (.string x)) B alo ahi blo bhi lo x := by
  have hb := h.hB
  have ne : ∀ k o, k < B → (⟨k, o, none⟩ : Addr) ≠ ⟨B, 1, none⟩ := fun k o hk e => by cases e; omega
  exact ⟨h.gr.setCell (by simp; omega) _, set_other h.a0 (ne _ _ (by omega)), set_other h.a1 (ne _ _ (by omega)), set_other h.b0 (ne _ _ (by omega)), set_other h.b1 (ne _ _ (by omega)), set_other h.r0 (ne _ _ (by omega)), set_other h.r1 (ne _ _ (by omega)),
    by rw [World.frozen?_setCell]; exact h.f0, by rw [World.frozen?_setCell]; exact h.f1, set_other h.t0 (by intro e; cases e), set_same h.t1, by rw [World.frozen?_setCell]; exact h.u0, by rw [World.frozen?_setCell]; exact h.u1, hb⟩
end

def MeetPost (v : ByteArray × ByteArray) (b : Bool) (w : World) (e : Ending) (w' : World) : Prop :=
  e = .returned (.tuple #[.agg #[.string v.1, .string v.2], .bool b]) ∧ Grew w w'

set_option maxHeartbeats 6400000 in
theorem meet_any (S : Nat → Bool) (E : Nat → Addr) (hK : KeyS S) (alo ahi blo bhi : ByteArray) (w : World) (h1 : alo.size ≤ 70368744177664) (h2 : ahi.size ≤ 70368744177664) (h3 : blo.size ≤ 70368744177664) (h4 : bhi.size ≤ 70368744177664) (hE : Errs S E w) :
    Calls Tryd.prog 30 #[.agg #[.string alo, .string ahi], .agg #[.string blo, .string bhi]] w
      (MeetPost (Pl.meetV (Pl.meetB (Pl.rightS alo ahi) (Pl.rightS blo bhi) (Pl.rightS (Pl.meetLo alo blo) (Pl.meetHi ahi bhi))) (Pl.meetLo alo blo) (Pl.meetHi ahi bhi)) (Pl.meetB (Pl.rightS alo ahi) (Pl.rightS blo bhi) (Pl.rightS (Pl.meetLo alo blo) (Pl.meetHi ahi bhi))) w) := by
  have HE := hid hE
  clear hE
  cases r1 : Pl.rightS alo ahi with
  | false =>
    have hb : Pl.meetB false (Pl.rightS blo bhi) (Pl.rightS (Pl.meetLo alo blo) (Pl.meetHi ahi bhi)) = false := rfl
    rw [hb]
    clear hb
    go_enter Tryd.func30, Tryd.ntmps30
    go_wp2_with fail
    refine (right_span S E hK alo ahi _ (by omega) (by omega) (HE.out.grew ((((Grew.refl w).alloc _).alloc _).alloc _))).mono ?_
    rintro e w1 ⟨rfl, hg⟩
    have hG : Grew w w1 := ((((Grew.refl w).alloc _).alloc _).alloc _).trans hg
    have hz : w.heap.size < w1.heap.size ∧ w.heap.size + 1 < w1.heap.size ∧ w.heap.size + 1 + 1 < w1.heap.size := by have := hg.size; simp at this; omega
    obtain ⟨hz0, hz1, hz2⟩ := hz
    obtain ⟨hc, hf⟩ := hg.cells
    go_wp2_with fail
    refine bodyPost_ret (v := .tuple #[.agg #[.string noText, .string noText], .bool false]) (by simp [results, Tryd.results30, go_sem, hc]) rfl ⟨rfl, ?_⟩
    exact (hG.setCell (by simp; omega) _).setCell (by simp; omega) _
  | true =>
    cases r2 : Pl.rightS blo bhi with
    | false =>
      have hb : Pl.meetB true false (Pl.rightS (Pl.meetLo alo blo) (Pl.meetHi ahi bhi)) = false := rfl
      rw [hb]
      clear hb
      go_enter Tryd.func30, Tryd.ntmps30
      go_wp2_with fail
      refine (right_span S E hK alo ahi _ (by omega) (by omega) (HE.out.grew ((((Grew.refl w).alloc _).alloc _).alloc _))).mono ?_
      rintro e w1 ⟨rfl, hg⟩
      have hG : Grew w w1 := ((((Grew.refl w).alloc _).alloc _).alloc _).trans hg
      have hz : w.heap.size < w1.heap.size ∧ w.heap.size + 1 < w1.heap.size ∧ w.heap.size + 1 + 1 < w1.heap.size := by have := hg.size; simp at this; omega
      obtain ⟨hz0, hz1, hz2⟩ := hz
      obtain ⟨hc, hf⟩ := hg.cells
      go_wp2_with fail
      refine (right_span S E hK blo bhi _ (by omega) (by omega) (HE.out.grew hG)).mono ?_
      rintro e w2 ⟨rfl, hg2⟩
      have hG2 : Grew w w2 := hG.trans hg2
      obtain ⟨hc2, hf2⟩ := hg2.cells
      go_wp2_with fail
      refine bodyPost_ret (v := .tuple #[.agg #[.string noText, .string noText], .bool false]) (by simp [results, Tryd.results30, go_sem, hc, hc2, hz2]) rfl ⟨rfl, ?_⟩
      exact (hG2.setCell (by simp; omega) _).setCell (by simp; omega) _
    | true =>
      by_cases k1 : 0 < Pl.compare blo alo
      · have hlo : Pl.meetLo alo blo = blo := by unfold Pl.meetLo; rw [if_pos k1]
        rw [hlo]
        clear hlo
        cases ea : ahi.toList.isEmpty with
        | true =>
          have ea2 : ahi.toList = [] := by simpa using ea
          have hhi : Pl.meetHi ahi bhi = bhi := by unfold Pl.meetHi; rw [if_pos (show Pl.none0 ahi = true from ea)]
          rw [hhi]
          clear hhi
          cases hok : Pl.rightS blo bhi with
          | false => cases (r2.symm.trans hok)
          | true =>
            have hb : Pl.meetB true true true = true := rfl
            rw [hb]
            clear hb
            go_enter Tryd.func30, Tryd.ntmps30
            go_wp2_with fail
            refine (right_span S E hK alo ahi _ (by omega) (by omega) (HE.out.grew ((((Grew.refl w).alloc _).alloc _).alloc _))).mono ?_
            rintro e w1 ⟨rfl, hg⟩
            have hG : Grew w w1 := ((((Grew.refl w).alloc _).alloc _).alloc _).trans hg
            have hz : w.heap.size < w1.heap.size ∧ w.heap.size + 1 < w1.heap.size ∧ w.heap.size + 1 + 1 < w1.heap.size := by have := hg.size; simp at this; omega
            obtain ⟨hz0, hz1, hz2⟩ := hz
            obtain ⟨hc, hf⟩ := hg.cells
            go_wp2_with fail
            refine (right_span S E hK blo bhi _ (by omega) (by omega) (HE.out.grew hG)).mono ?_
            rintro e w2 ⟨rfl, hg2⟩
            have hG2 : Grew w w2 := hG.trans hg2
            obtain ⟨hc2, hf2⟩ := hg2.cells
            have l0 : w2.cell? ⟨w.heap.size, 0, none⟩ = some (.string alo) := by rw [hc2 _ _ hz0, hc _ _ (by simp only [World.size_alloc]; omega)]; simp [go_sem]
            have l1 : w2.cell? ⟨w.heap.size, 1, none⟩ = some (.string ahi) := by rw [hc2 _ _ hz0, hc _ _ (by simp only [World.size_alloc]; omega)]; simp [go_sem]
            have l2 : w2.cell? ⟨w.heap.size + 1, 0, none⟩ = some (.string blo) := by rw [hc2 _ _ hz1, hc _ _ (by simp only [World.size_alloc]; omega)]; simp [go_sem]
            have l3 : w2.cell? ⟨w.heap.size + 1, 1, none⟩ = some (.string bhi) := by rw [hc2 _ _ hz1, hc _ _ (by simp only [World.size_alloc]; omega)]; simp [go_sem]
            have l4 : w2.cell? ⟨w.heap.size + 1 + 1, 0, none⟩ = some (.string ⟨#[]⟩) := by rw [hc2 _ _ hz2, hc _ _ (by simp only [World.size_alloc]; omega)]; simp [go_sem]
            have l5 : w2.cell? ⟨w.heap.size + 1 + 1, 1, none⟩ = some (.string ⟨#[]⟩) := by rw [hc2 _ _ hz2, hc _ _ (by simp only [World.size_alloc]; omega)]; simp [go_sem]
            have l6 : w2.frozen? ⟨w.heap.size + 1 + 1, 0, none⟩ = false := by rw [hf2 _ _ hz2, hf _ _ (by simp only [World.size_alloc]; omega)]; simp [go_sem]
            have l7 : w2.frozen? ⟨w.heap.size + 1 + 1, 1, none⟩ = false := by rw [hf2 _ _ hz2, hf _ _ (by simp only [World.size_alloc]; omega)]; simp [go_sem]
            have hy2 : w.heap.size + 1 + 1 < w2.heap.size := by have := hg2.size; omega
            have hy1 : w.heap.size + 1 < w2.heap.size := by omega
            have hy0 : w.heap.size < w2.heap.size := by omega
            have hmb : ∀ x y, MB w (w2.alloc (.cells #[.string x, .string y] 28)) w2.heap.size alo ahi blo bhi x y := fun x y =>
              ⟨hG2.alloc _, ((Grew.refl w2).alloc _).at l0, ((Grew.refl w2).alloc _).at l1, ((Grew.refl w2).alloc _).at l2, ((Grew.refl w2).alloc _).at l3, ((Grew.refl w2).alloc _).at l4, ((Grew.refl w2).alloc _).at l5, ((Grew.refl w2).alloc _).fz l4 l6, ((Grew.refl w2).alloc _).fz l5 l7, by simp [go_sem], by simp [go_sem], by simp [go_sem], by simp [go_sem], hy2⟩
            have HM := hid hmb
            clear hmb
            go_wp2_with fail
            refine (compare_any blo alo _ h3 h1).mono ?_
            rintro e w3 ⟨rfl, hg3⟩
            have M3 := (HM.out alo ahi).grew hg3
            obtain ⟨hgr, xa0, xa1, xb0, xb1, xr0, xr1, xf0, xf1, xt0, xt1, xu0, xu1, xB⟩ := id M3
            go_wp2_with fail
            have M5 := M3.set0 blo
            have M6 := M5.set1 bhi
            clear hgr xa0 xa1 xb0 xb1 xr0 xr1 xf0 xf1 xt0 xt1 xu0 xu1 xB
            refine (right_span S E hK blo bhi _ (by omega) (by omega) (HE.out.grew M6.gr)).mono ?_
            rintro e w9 ⟨rfl, hg9⟩
            have M9 := M6.grew hg9
            obtain ⟨hgr, xa0, xa1, xb0, xb1, xr0, xr1, xf0, xf1, xt0, xt1, xu0, xu1, xB⟩ := id M9
            go_wp2_with fail
            refine bodyPost_ret (v := .tuple #[.agg #[.string blo, .string bhi], .bool true]) (by simp [results, Tryd.results30, go_sem, xr0, xr1]) rfl ⟨rfl, ?_⟩
            exact (hgr.setCell (by simp; omega) _).setCell (by simp; omega) _
        | false =>
          have ea2 : ¬ ahi.toList = [] := by simpa using ea
          have ea3 : (!ahi.toList.isEmpty) = true := by rw [ea]; rfl
          cases eb : bhi.toList.isEmpty with
          | true =>
            have eb2 : bhi.toList = [] := by simpa using eb
            have hhi : Pl.meetHi ahi bhi = ahi := by unfold Pl.meetHi; rw [if_neg (by unfold Pl.none0; rw [ea]; decide), if_pos (show Pl.none0 bhi = true from eb)]
            rw [hhi]
            clear hhi
            cases hok : Pl.rightS blo ahi with
            | false =>
              have hb : Pl.meetB true true false = false := rfl
              rw [hb]
              clear hb
              go_enter Tryd.func30, Tryd.ntmps30
              go_wp2_with fail
              refine (right_span S E hK alo ahi _ (by omega) (by omega) (HE.out.grew ((((Grew.refl w).alloc _).alloc _).alloc _))).mono ?_
              rintro e w1 ⟨rfl, hg⟩
              have hG : Grew w w1 := ((((Grew.refl w).alloc _).alloc _).alloc _).trans hg
              have hz : w.heap.size < w1.heap.size ∧ w.heap.size + 1 < w1.heap.size ∧ w.heap.size + 1 + 1 < w1.heap.size := by have := hg.size; simp at this; omega
              obtain ⟨hz0, hz1, hz2⟩ := hz
              obtain ⟨hc, hf⟩ := hg.cells
              go_wp2_with fail
              refine (right_span S E hK blo bhi _ (by omega) (by omega) (HE.out.grew hG)).mono ?_
              rintro e w2 ⟨rfl, hg2⟩
              have hG2 : Grew w w2 := hG.trans hg2
              obtain ⟨hc2, hf2⟩ := hg2.cells
              have l0 : w2.cell? ⟨w.heap.size, 0, none⟩ = some (.string alo) := by rw [hc2 _ _ hz0, hc _ _ (by simp only [World.size_alloc]; omega)]; simp [go_sem]
              have l1 : w2.cell? ⟨w.heap.size, 1, none⟩ = some (.string ahi) := by rw [hc2 _ _ hz0, hc _ _ (by simp only [World.size_alloc]; omega)]; simp [go_sem]
              have l2 : w2.cell? ⟨w.heap.size + 1, 0, none⟩ = some (.string blo) := by rw [hc2 _ _ hz1, hc _ _ (by simp only [World.size_alloc]; omega)]; simp [go_sem]
              have l3 : w2.cell? ⟨w.heap.size + 1, 1, none⟩ = some (.string bhi) := by rw [hc2 _ _ hz1, hc _ _ (by simp only [World.size_alloc]; omega)]; simp [go_sem]
              have l4 : w2.cell? ⟨w.heap.size + 1 + 1, 0, none⟩ = some (.string ⟨#[]⟩) := by rw [hc2 _ _ hz2, hc _ _ (by simp only [World.size_alloc]; omega)]; simp [go_sem]
              have l5 : w2.cell? ⟨w.heap.size + 1 + 1, 1, none⟩ = some (.string ⟨#[]⟩) := by rw [hc2 _ _ hz2, hc _ _ (by simp only [World.size_alloc]; omega)]; simp [go_sem]
              have l6 : w2.frozen? ⟨w.heap.size + 1 + 1, 0, none⟩ = false := by rw [hf2 _ _ hz2, hf _ _ (by simp only [World.size_alloc]; omega)]; simp [go_sem]
              have l7 : w2.frozen? ⟨w.heap.size + 1 + 1, 1, none⟩ = false := by rw [hf2 _ _ hz2, hf _ _ (by simp only [World.size_alloc]; omega)]; simp [go_sem]
              have hy2 : w.heap.size + 1 + 1 < w2.heap.size := by have := hg2.size; omega
              have hy1 : w.heap.size + 1 < w2.heap.size := by omega
              have hy0 : w.heap.size < w2.heap.size := by omega
              have hmb : ∀ x y, MB w (w2.alloc (.cells #[.string x, .string y] 28)) w2.heap.size alo ahi blo bhi x y := fun x y =>
                ⟨hG2.alloc _, ((Grew.refl w2).alloc _).at l0, ((Grew.refl w2).alloc _).at l1, ((Grew.refl w2).alloc _).at l2, ((Grew.refl w2).alloc _).at l3, ((Grew.refl w2).alloc _).at l4, ((Grew.refl w2).alloc _).at l5, ((Grew.refl w2).alloc _).fz l4 l6, ((Grew.refl w2).alloc _).fz l5 l7, by simp [go_sem], by simp [go_sem], by simp [go_sem], by simp [go_sem], hy2⟩
              have HM := hid hmb
              clear hmb
              go_wp2_with fail
              refine (compare_any blo alo _ h3 h1).mono ?_
              rintro e w3 ⟨rfl, hg3⟩
              have M3 := (HM.out alo ahi).grew hg3
              obtain ⟨hgr, xa0, xa1, xb0, xb1, xr0, xr1, xf0, xf1, xt0, xt1, xu0, xu1, xB⟩ := id M3
              go_wp2_with fail
              have M5 := M3.set0 blo
              clear hgr xa0 xa1 xb0 xb1 xr0 xr1 xf0 xf1 xt0 xt1 xu0 xu1 xB
              refine (right_span S E hK blo ahi _ (by omega) (by omega) (HE.out.grew M5.gr)).mono ?_
              rintro e w9 ⟨rfl, hg9⟩
              have M9 := M5.grew hg9
              obtain ⟨hgr, xa0, xa1, xb0, xb1, xr0, xr1, xf0, xf1, xt0, xt1, xu0, xu1, xB⟩ := id M9
              go_wp2_with fail
              refine bodyPost_ret (v := .tuple #[.agg #[.string noText, .string noText], .bool false]) (by simp [results, Tryd.results30, go_sem, xr0, xr1]) rfl ⟨rfl, ?_⟩
              exact (hgr.setCell (by simp; omega) _).setCell (by simp; omega) _
            | true =>
              have hb : Pl.meetB true true true = true := rfl
              rw [hb]
              clear hb
              go_enter Tryd.func30, Tryd.ntmps30
              go_wp2_with fail
              refine (right_span S E hK alo ahi _ (by omega) (by omega) (HE.out.grew ((((Grew.refl w).alloc _).alloc _).alloc _))).mono ?_
              rintro e w1 ⟨rfl, hg⟩
              have hG : Grew w w1 := ((((Grew.refl w).alloc _).alloc _).alloc _).trans hg
              have hz : w.heap.size < w1.heap.size ∧ w.heap.size + 1 < w1.heap.size ∧ w.heap.size + 1 + 1 < w1.heap.size := by have := hg.size; simp at this; omega
              obtain ⟨hz0, hz1, hz2⟩ := hz
              obtain ⟨hc, hf⟩ := hg.cells
              go_wp2_with fail
              refine (right_span S E hK blo bhi _ (by omega) (by omega) (HE.out.grew hG)).mono ?_
              rintro e w2 ⟨rfl, hg2⟩
              have hG2 : Grew w w2 := hG.trans hg2
              obtain ⟨hc2, hf2⟩ := hg2.cells
              have l0 : w2.cell? ⟨w.heap.size, 0, none⟩ = some (.string alo) := by rw [hc2 _ _ hz0, hc _ _ (by simp only [World.size_alloc]; omega)]; simp [go_sem]
              have l1 : w2.cell? ⟨w.heap.size, 1, none⟩ = some (.string ahi) := by rw [hc2 _ _ hz0, hc _ _ (by simp only [World.size_alloc]; omega)]; simp [go_sem]
              have l2 : w2.cell? ⟨w.heap.size + 1, 0, none⟩ = some (.string blo) := by rw [hc2 _ _ hz1, hc _ _ (by simp only [World.size_alloc]; omega)]; simp [go_sem]
              have l3 : w2.cell? ⟨w.heap.size + 1, 1, none⟩ = some (.string bhi) := by rw [hc2 _ _ hz1, hc _ _ (by simp only [World.size_alloc]; omega)]; simp [go_sem]
              have l4 : w2.cell? ⟨w.heap.size + 1 + 1, 0, none⟩ = some (.string ⟨#[]⟩) := by rw [hc2 _ _ hz2, hc _ _ (by simp only [World.size_alloc]; omega)]; simp [go_sem]
              have l5 : w2.cell? ⟨w.heap.size + 1 + 1, 1, none⟩ = some (.string ⟨#[]⟩) := by rw [hc2 _ _ hz2, hc _ _ (by simp only [World.size_alloc]; omega)]; simp [go_sem]
              have l6 : w2.frozen? ⟨w.heap.size + 1 + 1, 0, none⟩ = false := by rw [hf2 _ _ hz2, hf _ _ (by simp only [World.size_alloc]; omega)]; simp [go_sem]
              have l7 : w2.frozen? ⟨w.heap.size + 1 + 1, 1, none⟩ = false := by rw [hf2 _ _ hz2, hf _ _ (by simp only [World.size_alloc]; omega)]; simp [go_sem]
              have hy2 : w.heap.size + 1 + 1 < w2.heap.size := by have := hg2.size; omega
              have hy1 : w.heap.size + 1 < w2.heap.size := by omega
              have hy0 : w.heap.size < w2.heap.size := by omega
              have hmb : ∀ x y, MB w (w2.alloc (.cells #[.string x, .string y] 28)) w2.heap.size alo ahi blo bhi x y := fun x y =>
                ⟨hG2.alloc _, ((Grew.refl w2).alloc _).at l0, ((Grew.refl w2).alloc _).at l1, ((Grew.refl w2).alloc _).at l2, ((Grew.refl w2).alloc _).at l3, ((Grew.refl w2).alloc _).at l4, ((Grew.refl w2).alloc _).at l5, ((Grew.refl w2).alloc _).fz l4 l6, ((Grew.refl w2).alloc _).fz l5 l7, by simp [go_sem], by simp [go_sem], by simp [go_sem], by simp [go_sem], hy2⟩
              have HM := hid hmb
              clear hmb
              go_wp2_with fail
              refine (compare_any blo alo _ h3 h1).mono ?_
              rintro e w3 ⟨rfl, hg3⟩
              have M3 := (HM.out alo ahi).grew hg3
              obtain ⟨hgr, xa0, xa1, xb0, xb1, xr0, xr1, xf0, xf1, xt0, xt1, xu0, xu1, xB⟩ := id M3
              go_wp2_with fail
              have M5 := M3.set0 blo
              clear hgr xa0 xa1 xb0 xb1 xr0 xr1 xf0 xf1 xt0 xt1 xu0 xu1 xB
              refine (right_span S E hK blo ahi _ (by omega) (by omega) (HE.out.grew M5.gr)).mono ?_
              rintro e w9 ⟨rfl, hg9⟩
              have M9 := M5.grew hg9
              obtain ⟨hgr, xa0, xa1, xb0, xb1, xr0, xr1, xf0, xf1, xt0, xt1, xu0, xu1, xB⟩ := id M9
              go_wp2_with fail
              refine bodyPost_ret (v := .tuple #[.agg #[.string blo, .string ahi], .bool true]) (by simp [results, Tryd.results30, go_sem, xr0, xr1]) rfl ⟨rfl, ?_⟩
              exact (hgr.setCell (by simp; omega) _).setCell (by simp; omega) _
          | false =>
            have eb2 : ¬ bhi.toList = [] := by simpa using eb
            have eb3 : (!bhi.toList.isEmpty) = true := by rw [eb]; rfl
            by_cases k2 : Pl.compare bhi ahi < 0
            · have hhi : Pl.meetHi ahi bhi = bhi := by unfold Pl.meetHi; rw [if_neg (by unfold Pl.none0; rw [ea]; decide), if_neg (by unfold Pl.none0; rw [eb]; decide), if_pos k2]
              rw [hhi]
              clear hhi
              cases hok : Pl.rightS blo bhi with
              | false => cases (r2.symm.trans hok)
              | true =>
                have hb : Pl.meetB true true true = true := rfl
                rw [hb]
                clear hb
                go_enter Tryd.func30, Tryd.ntmps30
                go_wp2_with fail
                refine (right_span S E hK alo ahi _ (by omega) (by omega) (HE.out.grew ((((Grew.refl w).alloc _).alloc _).alloc _))).mono ?_
                rintro e w1 ⟨rfl, hg⟩
                have hG : Grew w w1 := ((((Grew.refl w).alloc _).alloc _).alloc _).trans hg
                have hz : w.heap.size < w1.heap.size ∧ w.heap.size + 1 < w1.heap.size ∧ w.heap.size + 1 + 1 < w1.heap.size := by have := hg.size; simp at this; omega
                obtain ⟨hz0, hz1, hz2⟩ := hz
                obtain ⟨hc, hf⟩ := hg.cells
                go_wp2_with fail
                refine (right_span S E hK blo bhi _ (by omega) (by omega) (HE.out.grew hG)).mono ?_
                rintro e w2 ⟨rfl, hg2⟩
                have hG2 : Grew w w2 := hG.trans hg2
                obtain ⟨hc2, hf2⟩ := hg2.cells
                have l0 : w2.cell? ⟨w.heap.size, 0, none⟩ = some (.string alo) := by rw [hc2 _ _ hz0, hc _ _ (by simp only [World.size_alloc]; omega)]; simp [go_sem]
                have l1 : w2.cell? ⟨w.heap.size, 1, none⟩ = some (.string ahi) := by rw [hc2 _ _ hz0, hc _ _ (by simp only [World.size_alloc]; omega)]; simp [go_sem]
                have l2 : w2.cell? ⟨w.heap.size + 1, 0, none⟩ = some (.string blo) := by rw [hc2 _ _ hz1, hc _ _ (by simp only [World.size_alloc]; omega)]; simp [go_sem]
                have l3 : w2.cell? ⟨w.heap.size + 1, 1, none⟩ = some (.string bhi) := by rw [hc2 _ _ hz1, hc _ _ (by simp only [World.size_alloc]; omega)]; simp [go_sem]
                have l4 : w2.cell? ⟨w.heap.size + 1 + 1, 0, none⟩ = some (.string ⟨#[]⟩) := by rw [hc2 _ _ hz2, hc _ _ (by simp only [World.size_alloc]; omega)]; simp [go_sem]
                have l5 : w2.cell? ⟨w.heap.size + 1 + 1, 1, none⟩ = some (.string ⟨#[]⟩) := by rw [hc2 _ _ hz2, hc _ _ (by simp only [World.size_alloc]; omega)]; simp [go_sem]
                have l6 : w2.frozen? ⟨w.heap.size + 1 + 1, 0, none⟩ = false := by rw [hf2 _ _ hz2, hf _ _ (by simp only [World.size_alloc]; omega)]; simp [go_sem]
                have l7 : w2.frozen? ⟨w.heap.size + 1 + 1, 1, none⟩ = false := by rw [hf2 _ _ hz2, hf _ _ (by simp only [World.size_alloc]; omega)]; simp [go_sem]
                have hy2 : w.heap.size + 1 + 1 < w2.heap.size := by have := hg2.size; omega
                have hy1 : w.heap.size + 1 < w2.heap.size := by omega
                have hy0 : w.heap.size < w2.heap.size := by omega
                have hmb : ∀ x y, MB w (w2.alloc (.cells #[.string x, .string y] 28)) w2.heap.size alo ahi blo bhi x y := fun x y =>
                  ⟨hG2.alloc _, ((Grew.refl w2).alloc _).at l0, ((Grew.refl w2).alloc _).at l1, ((Grew.refl w2).alloc _).at l2, ((Grew.refl w2).alloc _).at l3, ((Grew.refl w2).alloc _).at l4, ((Grew.refl w2).alloc _).at l5, ((Grew.refl w2).alloc _).fz l4 l6, ((Grew.refl w2).alloc _).fz l5 l7, by simp [go_sem], by simp [go_sem], by simp [go_sem], by simp [go_sem], hy2⟩
                have HM := hid hmb
                clear hmb
                go_wp2_with fail
                refine (compare_any blo alo _ h3 h1).mono ?_
                rintro e w3 ⟨rfl, hg3⟩
                have M3 := (HM.out alo ahi).grew hg3
                obtain ⟨hgr, xa0, xa1, xb0, xb1, xr0, xr1, xf0, xf1, xt0, xt1, xu0, xu1, xB⟩ := id M3
                go_wp2_with fail
                have M4 := M3.set0 blo
                clear hgr xa0 xa1 xb0 xb1 xr0 xr1 xf0 xf1 xt0 xt1 xu0 xu1 xB
                refine (compare_any bhi ahi _ h4 h2).mono ?_
                rintro e w5 ⟨rfl, hg5⟩
                have M5 := M4.grew hg5
                obtain ⟨hgr, xa0, xa1, xb0, xb1, xr0, xr1, xf0, xf1, xt0, xt1, xu0, xu1, xB⟩ := id M5
                go_wp2_with fail
                have M6 := M5.set1 bhi
                clear hgr xa0 xa1 xb0 xb1 xr0 xr1 xf0 xf1 xt0 xt1 xu0 xu1 xB
                refine (right_span S E hK blo bhi _ (by omega) (by omega) (HE.out.grew M6.gr)).mono ?_
                rintro e w9 ⟨rfl, hg9⟩
                have M9 := M6.grew hg9
                obtain ⟨hgr, xa0, xa1, xb0, xb1, xr0, xr1, xf0, xf1, xt0, xt1, xu0, xu1, xB⟩ := id M9
                go_wp2_with fail
                refine bodyPost_ret (v := .tuple #[.agg #[.string blo, .string bhi], .bool true]) (by simp [results, Tryd.results30, go_sem, xr0, xr1]) rfl ⟨rfl, ?_⟩
                exact (hgr.setCell (by simp; omega) _).setCell (by simp; omega) _
            · have hhi : Pl.meetHi ahi bhi = ahi := by unfold Pl.meetHi; rw [if_neg (by unfold Pl.none0; rw [ea]; decide), if_neg (by unfold Pl.none0; rw [eb]; decide), if_neg k2]
              rw [hhi]
              clear hhi
              cases hok : Pl.rightS blo ahi with
              | false =>
                have hb : Pl.meetB true true false = false := rfl
                rw [hb]
                clear hb
                go_enter Tryd.func30, Tryd.ntmps30
                go_wp2_with fail
                refine (right_span S E hK alo ahi _ (by omega) (by omega) (HE.out.grew ((((Grew.refl w).alloc _).alloc _).alloc _))).mono ?_
                rintro e w1 ⟨rfl, hg⟩
                have hG : Grew w w1 := ((((Grew.refl w).alloc _).alloc _).alloc _).trans hg
                have hz : w.heap.size < w1.heap.size ∧ w.heap.size + 1 < w1.heap.size ∧ w.heap.size + 1 + 1 < w1.heap.size := by have := hg.size; simp at this; omega
                obtain ⟨hz0, hz1, hz2⟩ := hz
                obtain ⟨hc, hf⟩ := hg.cells
                go_wp2_with fail
                refine (right_span S E hK blo bhi _ (by omega) (by omega) (HE.out.grew hG)).mono ?_
                rintro e w2 ⟨rfl, hg2⟩
                have hG2 : Grew w w2 := hG.trans hg2
                obtain ⟨hc2, hf2⟩ := hg2.cells
                have l0 : w2.cell? ⟨w.heap.size, 0, none⟩ = some (.string alo) := by rw [hc2 _ _ hz0, hc _ _ (by simp only [World.size_alloc]; omega)]; simp [go_sem]
                have l1 : w2.cell? ⟨w.heap.size, 1, none⟩ = some (.string ahi) := by rw [hc2 _ _ hz0, hc _ _ (by simp only [World.size_alloc]; omega)]; simp [go_sem]
                have l2 : w2.cell? ⟨w.heap.size + 1, 0, none⟩ = some (.string blo) := by rw [hc2 _ _ hz1, hc _ _ (by simp only [World.size_alloc]; omega)]; simp [go_sem]
                have l3 : w2.cell? ⟨w.heap.size + 1, 1, none⟩ = some (.string bhi) := by rw [hc2 _ _ hz1, hc _ _ (by simp only [World.size_alloc]; omega)]; simp [go_sem]
                have l4 : w2.cell? ⟨w.heap.size + 1 + 1, 0, none⟩ = some (.string ⟨#[]⟩) := by rw [hc2 _ _ hz2, hc _ _ (by simp only [World.size_alloc]; omega)]; simp [go_sem]
                have l5 : w2.cell? ⟨w.heap.size + 1 + 1, 1, none⟩ = some (.string ⟨#[]⟩) := by rw [hc2 _ _ hz2, hc _ _ (by simp only [World.size_alloc]; omega)]; simp [go_sem]
                have l6 : w2.frozen? ⟨w.heap.size + 1 + 1, 0, none⟩ = false := by rw [hf2 _ _ hz2, hf _ _ (by simp only [World.size_alloc]; omega)]; simp [go_sem]
                have l7 : w2.frozen? ⟨w.heap.size + 1 + 1, 1, none⟩ = false := by rw [hf2 _ _ hz2, hf _ _ (by simp only [World.size_alloc]; omega)]; simp [go_sem]
                have hy2 : w.heap.size + 1 + 1 < w2.heap.size := by have := hg2.size; omega
                have hy1 : w.heap.size + 1 < w2.heap.size := by omega
                have hy0 : w.heap.size < w2.heap.size := by omega
                have hmb : ∀ x y, MB w (w2.alloc (.cells #[.string x, .string y] 28)) w2.heap.size alo ahi blo bhi x y := fun x y =>
                  ⟨hG2.alloc _, ((Grew.refl w2).alloc _).at l0, ((Grew.refl w2).alloc _).at l1, ((Grew.refl w2).alloc _).at l2, ((Grew.refl w2).alloc _).at l3, ((Grew.refl w2).alloc _).at l4, ((Grew.refl w2).alloc _).at l5, ((Grew.refl w2).alloc _).fz l4 l6, ((Grew.refl w2).alloc _).fz l5 l7, by simp [go_sem], by simp [go_sem], by simp [go_sem], by simp [go_sem], hy2⟩
                have HM := hid hmb
                clear hmb
                go_wp2_with fail
                refine (compare_any blo alo _ h3 h1).mono ?_
                rintro e w3 ⟨rfl, hg3⟩
                have M3 := (HM.out alo ahi).grew hg3
                obtain ⟨hgr, xa0, xa1, xb0, xb1, xr0, xr1, xf0, xf1, xt0, xt1, xu0, xu1, xB⟩ := id M3
                go_wp2_with fail
                have M4 := M3.set0 blo
                clear hgr xa0 xa1 xb0 xb1 xr0 xr1 xf0 xf1 xt0 xt1 xu0 xu1 xB
                refine (compare_any bhi ahi _ h4 h2).mono ?_
                rintro e w5 ⟨rfl, hg5⟩
                have M5 := M4.grew hg5
                obtain ⟨hgr, xa0, xa1, xb0, xb1, xr0, xr1, xf0, xf1, xt0, xt1, xu0, xu1, xB⟩ := id M5
                go_wp2_with fail
                clear hgr xa0 xa1 xb0 xb1 xr0 xr1 xf0 xf1 xt0 xt1 xu0 xu1 xB
                refine (right_span S E hK blo ahi _ (by omega) (by omega) (HE.out.grew M5.gr)).mono ?_
                rintro e w9 ⟨rfl, hg9⟩
                have M9 := M5.grew hg9
                obtain ⟨hgr, xa0, xa1, xb0, xb1, xr0, xr1, xf0, xf1, xt0, xt1, xu0, xu1, xB⟩ := id M9
                go_wp2_with fail
                refine bodyPost_ret (v := .tuple #[.agg #[.string noText, .string noText], .bool false]) (by simp [results, Tryd.results30, go_sem, xr0, xr1]) rfl ⟨rfl, ?_⟩
                exact (hgr.setCell (by simp; omega) _).setCell (by simp; omega) _
              | true =>
                have hb : Pl.meetB true true true = true := rfl
                rw [hb]
                clear hb
                go_enter Tryd.func30, Tryd.ntmps30
                go_wp2_with fail
                refine (right_span S E hK alo ahi _ (by omega) (by omega) (HE.out.grew ((((Grew.refl w).alloc _).alloc _).alloc _))).mono ?_
                rintro e w1 ⟨rfl, hg⟩
                have hG : Grew w w1 := ((((Grew.refl w).alloc _).alloc _).alloc _).trans hg
                have hz : w.heap.size < w1.heap.size ∧ w.heap.size + 1 < w1.heap.size ∧ w.heap.size + 1 + 1 < w1.heap.size := by have := hg.size; simp at this; omega
                obtain ⟨hz0, hz1, hz2⟩ := hz
                obtain ⟨hc, hf⟩ := hg.cells
                go_wp2_with fail
                refine (right_span S E hK blo bhi _ (by omega) (by omega) (HE.out.grew hG)).mono ?_
                rintro e w2 ⟨rfl, hg2⟩
                have hG2 : Grew w w2 := hG.trans hg2
                obtain ⟨hc2, hf2⟩ := hg2.cells
                have l0 : w2.cell? ⟨w.heap.size, 0, none⟩ = some (.string alo) := by rw [hc2 _ _ hz0, hc _ _ (by simp only [World.size_alloc]; omega)]; simp [go_sem]
                have l1 : w2.cell? ⟨w.heap.size, 1, none⟩ = some (.string ahi) := by rw [hc2 _ _ hz0, hc _ _ (by simp only [World.size_alloc]; omega)]; simp [go_sem]
                have l2 : w2.cell? ⟨w.heap.size + 1, 0, none⟩ = some (.string blo) := by rw [hc2 _ _ hz1, hc _ _ (by simp only [World.size_alloc]; omega)]; simp [go_sem]
                have l3 : w2.cell? ⟨w.heap.size + 1, 1, none⟩ = some (.string bhi) := by rw [hc2 _ _ hz1, hc _ _ (by simp only [World.size_alloc]; omega)]; simp [go_sem]
                have l4 : w2.cell? ⟨w.heap.size + 1 + 1, 0, none⟩ = some (.string ⟨#[]⟩) := by rw [hc2 _ _ hz2, hc _ _ (by simp only [World.size_alloc]; omega)]; simp [go_sem]
                have l5 : w2.cell? ⟨w.heap.size + 1 + 1, 1, none⟩ = some (.string ⟨#[]⟩) := by rw [hc2 _ _ hz2, hc _ _ (by simp only [World.size_alloc]; omega)]; simp [go_sem]
                have l6 : w2.frozen? ⟨w.heap.size + 1 + 1, 0, none⟩ = false := by rw [hf2 _ _ hz2, hf _ _ (by simp only [World.size_alloc]; omega)]; simp [go_sem]
                have l7 : w2.frozen? ⟨w.heap.size + 1 + 1, 1, none⟩ = false := by rw [hf2 _ _ hz2, hf _ _ (by simp only [World.size_alloc]; omega)]; simp [go_sem]
                have hy2 : w.heap.size + 1 + 1 < w2.heap.size := by have := hg2.size; omega
                have hy1 : w.heap.size + 1 < w2.heap.size := by omega
                have hy0 : w.heap.size < w2.heap.size := by omega
                have hmb : ∀ x y, MB w (w2.alloc (.cells #[.string x, .string y] 28)) w2.heap.size alo ahi blo bhi x y := fun x y =>
                  ⟨hG2.alloc _, ((Grew.refl w2).alloc _).at l0, ((Grew.refl w2).alloc _).at l1, ((Grew.refl w2).alloc _).at l2, ((Grew.refl w2).alloc _).at l3, ((Grew.refl w2).alloc _).at l4, ((Grew.refl w2).alloc _).at l5, ((Grew.refl w2).alloc _).fz l4 l6, ((Grew.refl w2).alloc _).fz l5 l7, by simp [go_sem], by simp [go_sem], by simp [go_sem], by simp [go_sem], hy2⟩
                have HM := hid hmb
                clear hmb
                go_wp2_with fail
                refine (compare_any blo alo _ h3 h1).mono ?_
                rintro e w3 ⟨rfl, hg3⟩
                have M3 := (HM.out alo ahi).grew hg3
                obtain ⟨hgr, xa0, xa1, xb0, xb1, xr0, xr1, xf0, xf1, xt0, xt1, xu0, xu1, xB⟩ := id M3
                go_wp2_with fail
                have M4 := M3.set0 blo
                clear hgr xa0 xa1 xb0 xb1 xr0 xr1 xf0 xf1 xt0 xt1 xu0 xu1 xB
                refine (compare_any bhi ahi _ h4 h2).mono ?_
                rintro e w5 ⟨rfl, hg5⟩
                have M5 := M4.grew hg5
                obtain ⟨hgr, xa0, xa1, xb0, xb1, xr0, xr1, xf0, xf1, xt0, xt1, xu0, xu1, xB⟩ := id M5
                go_wp2_with fail
                clear hgr xa0 xa1 xb0 xb1 xr0 xr1 xf0 xf1 xt0 xt1 xu0 xu1 xB
                refine (right_span S E hK blo ahi _ (by omega) (by omega) (HE.out.grew M5.gr)).mono ?_
                rintro e w9 ⟨rfl, hg9⟩
                have M9 := M5.grew hg9
                obtain ⟨hgr, xa0, xa1, xb0, xb1, xr0, xr1, xf0, xf1, xt0, xt1, xu0, xu1, xB⟩ := id M9
                go_wp2_with fail
                refine bodyPost_ret (v := .tuple #[.agg #[.string blo, .string ahi], .bool true]) (by simp [results, Tryd.results30, go_sem, xr0, xr1]) rfl ⟨rfl, ?_⟩
                exact (hgr.setCell (by simp; omega) _).setCell (by simp; omega) _
      · have hlo : Pl.meetLo alo blo = alo := by unfold Pl.meetLo; rw [if_neg k1]
        rw [hlo]
        clear hlo
        cases ea : ahi.toList.isEmpty with
        | true =>
          have ea2 : ahi.toList = [] := by simpa using ea
          have hhi : Pl.meetHi ahi bhi = bhi := by unfold Pl.meetHi; rw [if_pos (show Pl.none0 ahi = true from ea)]
          rw [hhi]
          clear hhi
          cases hok : Pl.rightS alo bhi with
          | false =>
            have hb : Pl.meetB true true false = false := rfl
            rw [hb]
            clear hb
            go_enter Tryd.func30, Tryd.ntmps30
            go_wp2_with fail
            refine (right_span S E hK alo ahi _ (by omega) (by omega) (HE.out.grew ((((Grew.refl w).alloc _).alloc _).alloc _))).mono ?_
            rintro e w1 ⟨rfl, hg⟩
            have hG : Grew w w1 := ((((Grew.refl w).alloc _).alloc _).alloc _).trans hg
            have hz : w.heap.size < w1.heap.size ∧ w.heap.size + 1 < w1.heap.size ∧ w.heap.size + 1 + 1 < w1.heap.size := by have := hg.size; simp at this; omega
            obtain ⟨hz0, hz1, hz2⟩ := hz
            obtain ⟨hc, hf⟩ := hg.cells
            go_wp2_with fail
            refine (right_span S E hK blo bhi _ (by omega) (by omega) (HE.out.grew hG)).mono ?_
            rintro e w2 ⟨rfl, hg2⟩
            have hG2 : Grew w w2 := hG.trans hg2
            obtain ⟨hc2, hf2⟩ := hg2.cells
            have l0 : w2.cell? ⟨w.heap.size, 0, none⟩ = some (.string alo) := by rw [hc2 _ _ hz0, hc _ _ (by simp only [World.size_alloc]; omega)]; simp [go_sem]
            have l1 : w2.cell? ⟨w.heap.size, 1, none⟩ = some (.string ahi) := by rw [hc2 _ _ hz0, hc _ _ (by simp only [World.size_alloc]; omega)]; simp [go_sem]
            have l2 : w2.cell? ⟨w.heap.size + 1, 0, none⟩ = some (.string blo) := by rw [hc2 _ _ hz1, hc _ _ (by simp only [World.size_alloc]; omega)]; simp [go_sem]
            have l3 : w2.cell? ⟨w.heap.size + 1, 1, none⟩ = some (.string bhi) := by rw [hc2 _ _ hz1, hc _ _ (by simp only [World.size_alloc]; omega)]; simp [go_sem]
            have l4 : w2.cell? ⟨w.heap.size + 1 + 1, 0, none⟩ = some (.string ⟨#[]⟩) := by rw [hc2 _ _ hz2, hc _ _ (by simp only [World.size_alloc]; omega)]; simp [go_sem]
            have l5 : w2.cell? ⟨w.heap.size + 1 + 1, 1, none⟩ = some (.string ⟨#[]⟩) := by rw [hc2 _ _ hz2, hc _ _ (by simp only [World.size_alloc]; omega)]; simp [go_sem]
            have l6 : w2.frozen? ⟨w.heap.size + 1 + 1, 0, none⟩ = false := by rw [hf2 _ _ hz2, hf _ _ (by simp only [World.size_alloc]; omega)]; simp [go_sem]
            have l7 : w2.frozen? ⟨w.heap.size + 1 + 1, 1, none⟩ = false := by rw [hf2 _ _ hz2, hf _ _ (by simp only [World.size_alloc]; omega)]; simp [go_sem]
            have hy2 : w.heap.size + 1 + 1 < w2.heap.size := by have := hg2.size; omega
            have hy1 : w.heap.size + 1 < w2.heap.size := by omega
            have hy0 : w.heap.size < w2.heap.size := by omega
            have hmb : ∀ x y, MB w (w2.alloc (.cells #[.string x, .string y] 28)) w2.heap.size alo ahi blo bhi x y := fun x y =>
              ⟨hG2.alloc _, ((Grew.refl w2).alloc _).at l0, ((Grew.refl w2).alloc _).at l1, ((Grew.refl w2).alloc _).at l2, ((Grew.refl w2).alloc _).at l3, ((Grew.refl w2).alloc _).at l4, ((Grew.refl w2).alloc _).at l5, ((Grew.refl w2).alloc _).fz l4 l6, ((Grew.refl w2).alloc _).fz l5 l7, by simp [go_sem], by simp [go_sem], by simp [go_sem], by simp [go_sem], hy2⟩
            have HM := hid hmb
            clear hmb
            go_wp2_with fail
            refine (compare_any blo alo _ h3 h1).mono ?_
            rintro e w3 ⟨rfl, hg3⟩
            have M3 := (HM.out alo ahi).grew hg3
            obtain ⟨hgr, xa0, xa1, xb0, xb1, xr0, xr1, xf0, xf1, xt0, xt1, xu0, xu1, xB⟩ := id M3
            go_wp2_with fail
            have M6 := M3.set1 bhi
            clear hgr xa0 xa1 xb0 xb1 xr0 xr1 xf0 xf1 xt0 xt1 xu0 xu1 xB
            refine (right_span S E hK alo bhi _ (by omega) (by omega) (HE.out.grew M6.gr)).mono ?_
            rintro e w9 ⟨rfl, hg9⟩
            have M9 := M6.grew hg9
            obtain ⟨hgr, xa0, xa1, xb0, xb1, xr0, xr1, xf0, xf1, xt0, xt1, xu0, xu1, xB⟩ := id M9
            go_wp2_with fail
            refine bodyPost_ret (v := .tuple #[.agg #[.string noText, .string noText], .bool false]) (by simp [results, Tryd.results30, go_sem, xr0, xr1]) rfl ⟨rfl, ?_⟩
            exact (hgr.setCell (by simp; omega) _).setCell (by simp; omega) _
          | true =>
            have hb : Pl.meetB true true true = true := rfl
            rw [hb]
            clear hb
            go_enter Tryd.func30, Tryd.ntmps30
            go_wp2_with fail
            refine (right_span S E hK alo ahi _ (by omega) (by omega) (HE.out.grew ((((Grew.refl w).alloc _).alloc _).alloc _))).mono ?_
            rintro e w1 ⟨rfl, hg⟩
            have hG : Grew w w1 := ((((Grew.refl w).alloc _).alloc _).alloc _).trans hg
            have hz : w.heap.size < w1.heap.size ∧ w.heap.size + 1 < w1.heap.size ∧ w.heap.size + 1 + 1 < w1.heap.size := by have := hg.size; simp at this; omega
            obtain ⟨hz0, hz1, hz2⟩ := hz
            obtain ⟨hc, hf⟩ := hg.cells
            go_wp2_with fail
            refine (right_span S E hK blo bhi _ (by omega) (by omega) (HE.out.grew hG)).mono ?_
            rintro e w2 ⟨rfl, hg2⟩
            have hG2 : Grew w w2 := hG.trans hg2
            obtain ⟨hc2, hf2⟩ := hg2.cells
            have l0 : w2.cell? ⟨w.heap.size, 0, none⟩ = some (.string alo) := by rw [hc2 _ _ hz0, hc _ _ (by simp only [World.size_alloc]; omega)]; simp [go_sem]
            have l1 : w2.cell? ⟨w.heap.size, 1, none⟩ = some (.string ahi) := by rw [hc2 _ _ hz0, hc _ _ (by simp only [World.size_alloc]; omega)]; simp [go_sem]
            have l2 : w2.cell? ⟨w.heap.size + 1, 0, none⟩ = some (.string blo) := by rw [hc2 _ _ hz1, hc _ _ (by simp only [World.size_alloc]; omega)]; simp [go_sem]
            have l3 : w2.cell? ⟨w.heap.size + 1, 1, none⟩ = some (.string bhi) := by rw [hc2 _ _ hz1, hc _ _ (by simp only [World.size_alloc]; omega)]; simp [go_sem]
            have l4 : w2.cell? ⟨w.heap.size + 1 + 1, 0, none⟩ = some (.string ⟨#[]⟩) := by rw [hc2 _ _ hz2, hc _ _ (by simp only [World.size_alloc]; omega)]; simp [go_sem]
            have l5 : w2.cell? ⟨w.heap.size + 1 + 1, 1, none⟩ = some (.string ⟨#[]⟩) := by rw [hc2 _ _ hz2, hc _ _ (by simp only [World.size_alloc]; omega)]; simp [go_sem]
            have l6 : w2.frozen? ⟨w.heap.size + 1 + 1, 0, none⟩ = false := by rw [hf2 _ _ hz2, hf _ _ (by simp only [World.size_alloc]; omega)]; simp [go_sem]
            have l7 : w2.frozen? ⟨w.heap.size + 1 + 1, 1, none⟩ = false := by rw [hf2 _ _ hz2, hf _ _ (by simp only [World.size_alloc]; omega)]; simp [go_sem]
            have hy2 : w.heap.size + 1 + 1 < w2.heap.size := by have := hg2.size; omega
            have hy1 : w.heap.size + 1 < w2.heap.size := by omega
            have hy0 : w.heap.size < w2.heap.size := by omega
            have hmb : ∀ x y, MB w (w2.alloc (.cells #[.string x, .string y] 28)) w2.heap.size alo ahi blo bhi x y := fun x y =>
              ⟨hG2.alloc _, ((Grew.refl w2).alloc _).at l0, ((Grew.refl w2).alloc _).at l1, ((Grew.refl w2).alloc _).at l2, ((Grew.refl w2).alloc _).at l3, ((Grew.refl w2).alloc _).at l4, ((Grew.refl w2).alloc _).at l5, ((Grew.refl w2).alloc _).fz l4 l6, ((Grew.refl w2).alloc _).fz l5 l7, by simp [go_sem], by simp [go_sem], by simp [go_sem], by simp [go_sem], hy2⟩
            have HM := hid hmb
            clear hmb
            go_wp2_with fail
            refine (compare_any blo alo _ h3 h1).mono ?_
            rintro e w3 ⟨rfl, hg3⟩
            have M3 := (HM.out alo ahi).grew hg3
            obtain ⟨hgr, xa0, xa1, xb0, xb1, xr0, xr1, xf0, xf1, xt0, xt1, xu0, xu1, xB⟩ := id M3
            go_wp2_with fail
            have M6 := M3.set1 bhi
            clear hgr xa0 xa1 xb0 xb1 xr0 xr1 xf0 xf1 xt0 xt1 xu0 xu1 xB
            refine (right_span S E hK alo bhi _ (by omega) (by omega) (HE.out.grew M6.gr)).mono ?_
            rintro e w9 ⟨rfl, hg9⟩
            have M9 := M6.grew hg9
            obtain ⟨hgr, xa0, xa1, xb0, xb1, xr0, xr1, xf0, xf1, xt0, xt1, xu0, xu1, xB⟩ := id M9
            go_wp2_with fail
            refine bodyPost_ret (v := .tuple #[.agg #[.string alo, .string bhi], .bool true]) (by simp [results, Tryd.results30, go_sem, xr0, xr1]) rfl ⟨rfl, ?_⟩
            exact (hgr.setCell (by simp; omega) _).setCell (by simp; omega) _
        | false =>
          have ea2 : ¬ ahi.toList = [] := by simpa using ea
          have ea3 : (!ahi.toList.isEmpty) = true := by rw [ea]; rfl
          cases eb : bhi.toList.isEmpty with
          | true =>
            have eb2 : bhi.toList = [] := by simpa using eb
            have hhi : Pl.meetHi ahi bhi = ahi := by unfold Pl.meetHi; rw [if_neg (by unfold Pl.none0; rw [ea]; decide), if_pos (show Pl.none0 bhi = true from eb)]
            rw [hhi]
            clear hhi
            cases hok : Pl.rightS alo ahi with
            | false => cases (r1.symm.trans hok)
            | true =>
              have hb : Pl.meetB true true true = true := rfl
              rw [hb]
              clear hb
              go_enter Tryd.func30, Tryd.ntmps30
              go_wp2_with fail
              refine (right_span S E hK alo ahi _ (by omega) (by omega) (HE.out.grew ((((Grew.refl w).alloc _).alloc _).alloc _))).mono ?_
              rintro e w1 ⟨rfl, hg⟩
              have hG : Grew w w1 := ((((Grew.refl w).alloc _).alloc _).alloc _).trans hg
              have hz : w.heap.size < w1.heap.size ∧ w.heap.size + 1 < w1.heap.size ∧ w.heap.size + 1 + 1 < w1.heap.size := by have := hg.size; simp at this; omega
              obtain ⟨hz0, hz1, hz2⟩ := hz
              obtain ⟨hc, hf⟩ := hg.cells
              go_wp2_with fail
              refine (right_span S E hK blo bhi _ (by omega) (by omega) (HE.out.grew hG)).mono ?_
              rintro e w2 ⟨rfl, hg2⟩
              have hG2 : Grew w w2 := hG.trans hg2
              obtain ⟨hc2, hf2⟩ := hg2.cells
              have l0 : w2.cell? ⟨w.heap.size, 0, none⟩ = some (.string alo) := by rw [hc2 _ _ hz0, hc _ _ (by simp only [World.size_alloc]; omega)]; simp [go_sem]
              have l1 : w2.cell? ⟨w.heap.size, 1, none⟩ = some (.string ahi) := by rw [hc2 _ _ hz0, hc _ _ (by simp only [World.size_alloc]; omega)]; simp [go_sem]
              have l2 : w2.cell? ⟨w.heap.size + 1, 0, none⟩ = some (.string blo) := by rw [hc2 _ _ hz1, hc _ _ (by simp only [World.size_alloc]; omega)]; simp [go_sem]
              have l3 : w2.cell? ⟨w.heap.size + 1, 1, none⟩ = some (.string bhi) := by rw [hc2 _ _ hz1, hc _ _ (by simp only [World.size_alloc]; omega)]; simp [go_sem]
              have l4 : w2.cell? ⟨w.heap.size + 1 + 1, 0, none⟩ = some (.string ⟨#[]⟩) := by rw [hc2 _ _ hz2, hc _ _ (by simp only [World.size_alloc]; omega)]; simp [go_sem]
              have l5 : w2.cell? ⟨w.heap.size + 1 + 1, 1, none⟩ = some (.string ⟨#[]⟩) := by rw [hc2 _ _ hz2, hc _ _ (by simp only [World.size_alloc]; omega)]; simp [go_sem]
              have l6 : w2.frozen? ⟨w.heap.size + 1 + 1, 0, none⟩ = false := by rw [hf2 _ _ hz2, hf _ _ (by simp only [World.size_alloc]; omega)]; simp [go_sem]
              have l7 : w2.frozen? ⟨w.heap.size + 1 + 1, 1, none⟩ = false := by rw [hf2 _ _ hz2, hf _ _ (by simp only [World.size_alloc]; omega)]; simp [go_sem]
              have hy2 : w.heap.size + 1 + 1 < w2.heap.size := by have := hg2.size; omega
              have hy1 : w.heap.size + 1 < w2.heap.size := by omega
              have hy0 : w.heap.size < w2.heap.size := by omega
              have hmb : ∀ x y, MB w (w2.alloc (.cells #[.string x, .string y] 28)) w2.heap.size alo ahi blo bhi x y := fun x y =>
                ⟨hG2.alloc _, ((Grew.refl w2).alloc _).at l0, ((Grew.refl w2).alloc _).at l1, ((Grew.refl w2).alloc _).at l2, ((Grew.refl w2).alloc _).at l3, ((Grew.refl w2).alloc _).at l4, ((Grew.refl w2).alloc _).at l5, ((Grew.refl w2).alloc _).fz l4 l6, ((Grew.refl w2).alloc _).fz l5 l7, by simp [go_sem], by simp [go_sem], by simp [go_sem], by simp [go_sem], hy2⟩
              have HM := hid hmb
              clear hmb
              go_wp2_with fail
              refine (compare_any blo alo _ h3 h1).mono ?_
              rintro e w3 ⟨rfl, hg3⟩
              have M3 := (HM.out alo ahi).grew hg3
              obtain ⟨hgr, xa0, xa1, xb0, xb1, xr0, xr1, xf0, xf1, xt0, xt1, xu0, xu1, xB⟩ := id M3
              go_wp2_with fail
              clear hgr xa0 xa1 xb0 xb1 xr0 xr1 xf0 xf1 xt0 xt1 xu0 xu1 xB
              refine (right_span S E hK alo ahi _ (by omega) (by omega) (HE.out.grew M3.gr)).mono ?_
              rintro e w9 ⟨rfl, hg9⟩
              have M9 := M3.grew hg9
              obtain ⟨hgr, xa0, xa1, xb0, xb1, xr0, xr1, xf0, xf1, xt0, xt1, xu0, xu1, xB⟩ := id M9
              go_wp2_with fail
              refine bodyPost_ret (v := .tuple #[.agg #[.string alo, .string ahi], .bool true]) (by simp [results, Tryd.results30, go_sem, xr0, xr1]) rfl ⟨rfl, ?_⟩
              exact (hgr.setCell (by simp; omega) _).setCell (by simp; omega) _
          | false =>
            have eb2 : ¬ bhi.toList = [] := by simpa using eb
            have eb3 : (!bhi.toList.isEmpty) = true := by rw [eb]; rfl
            by_cases k2 : Pl.compare bhi ahi < 0
            · have hhi : Pl.meetHi ahi bhi = bhi := by unfold Pl.meetHi; rw [if_neg (by unfold Pl.none0; rw [ea]; decide), if_neg (by unfold Pl.none0; rw [eb]; decide), if_pos k2]
              rw [hhi]
              clear hhi
              cases hok : Pl.rightS alo bhi with
              | false =>
                have hb : Pl.meetB true true false = false := rfl
                rw [hb]
                clear hb
                go_enter Tryd.func30, Tryd.ntmps30
                go_wp2_with fail
                refine (right_span S E hK alo ahi _ (by omega) (by omega) (HE.out.grew ((((Grew.refl w).alloc _).alloc _).alloc _))).mono ?_
                rintro e w1 ⟨rfl, hg⟩
                have hG : Grew w w1 := ((((Grew.refl w).alloc _).alloc _).alloc _).trans hg
                have hz : w.heap.size < w1.heap.size ∧ w.heap.size + 1 < w1.heap.size ∧ w.heap.size + 1 + 1 < w1.heap.size := by have := hg.size; simp at this; omega
                obtain ⟨hz0, hz1, hz2⟩ := hz
                obtain ⟨hc, hf⟩ := hg.cells
                go_wp2_with fail
                refine (right_span S E hK blo bhi _ (by omega) (by omega) (HE.out.grew hG)).mono ?_
                rintro e w2 ⟨rfl, hg2⟩
                have hG2 : Grew w w2 := hG.trans hg2
                obtain ⟨hc2, hf2⟩ := hg2.cells
                have l0 : w2.cell? ⟨w.heap.size, 0, none⟩ = some (.string alo) := by rw [hc2 _ _ hz0, hc _ _ (by simp only [World.size_alloc]; omega)]; simp [go_sem]
                have l1 : w2.cell? ⟨w.heap.size, 1, none⟩ = some (.string ahi) := by rw [hc2 _ _ hz0, hc _ _ (by simp only [World.size_alloc]; omega)]; simp [go_sem]
                have l2 : w2.cell? ⟨w.heap.size + 1, 0, none⟩ = some (.string blo) := by rw [hc2 _ _ hz1, hc _ _ (by simp only [World.size_alloc]; omega)]; simp [go_sem]
                have l3 : w2.cell? ⟨w.heap.size + 1, 1, none⟩ = some (.string bhi) := by rw [hc2 _ _ hz1, hc _ _ (by simp only [World.size_alloc]; omega)]; simp [go_sem]
                have l4 : w2.cell? ⟨w.heap.size + 1 + 1, 0, none⟩ = some (.string ⟨#[]⟩) := by rw [hc2 _ _ hz2, hc _ _ (by simp only [World.size_alloc]; omega)]; simp [go_sem]
                have l5 : w2.cell? ⟨w.heap.size + 1 + 1, 1, none⟩ = some (.string ⟨#[]⟩) := by rw [hc2 _ _ hz2, hc _ _ (by simp only [World.size_alloc]; omega)]; simp [go_sem]
                have l6 : w2.frozen? ⟨w.heap.size + 1 + 1, 0, none⟩ = false := by rw [hf2 _ _ hz2, hf _ _ (by simp only [World.size_alloc]; omega)]; simp [go_sem]
                have l7 : w2.frozen? ⟨w.heap.size + 1 + 1, 1, none⟩ = false := by rw [hf2 _ _ hz2, hf _ _ (by simp only [World.size_alloc]; omega)]; simp [go_sem]
                have hy2 : w.heap.size + 1 + 1 < w2.heap.size := by have := hg2.size; omega
                have hy1 : w.heap.size + 1 < w2.heap.size := by omega
                have hy0 : w.heap.size < w2.heap.size := by omega
                have hmb : ∀ x y, MB w (w2.alloc (.cells #[.string x, .string y] 28)) w2.heap.size alo ahi blo bhi x y := fun x y =>
                  ⟨hG2.alloc _, ((Grew.refl w2).alloc _).at l0, ((Grew.refl w2).alloc _).at l1, ((Grew.refl w2).alloc _).at l2, ((Grew.refl w2).alloc _).at l3, ((Grew.refl w2).alloc _).at l4, ((Grew.refl w2).alloc _).at l5, ((Grew.refl w2).alloc _).fz l4 l6, ((Grew.refl w2).alloc _).fz l5 l7, by simp [go_sem], by simp [go_sem], by simp [go_sem], by simp [go_sem], hy2⟩
                have HM := hid hmb
                clear hmb
                go_wp2_with fail
                refine (compare_any blo alo _ h3 h1).mono ?_
                rintro e w3 ⟨rfl, hg3⟩
                have M3 := (HM.out alo ahi).grew hg3
                obtain ⟨hgr, xa0, xa1, xb0, xb1, xr0, xr1, xf0, xf1, xt0, xt1, xu0, xu1, xB⟩ := id M3
                go_wp2_with fail
                clear hgr xa0 xa1 xb0 xb1 xr0 xr1 xf0 xf1 xt0 xt1 xu0 xu1 xB
                refine (compare_any bhi ahi _ h4 h2).mono ?_
                rintro e w5 ⟨rfl, hg5⟩
                have M5 := M3.grew hg5
                obtain ⟨hgr, xa0, xa1, xb0, xb1, xr0, xr1, xf0, xf1, xt0, xt1, xu0, xu1, xB⟩ := id M5
                go_wp2_with fail
                have M6 := M5.set1 bhi
                clear hgr xa0 xa1 xb0 xb1 xr0 xr1 xf0 xf1 xt0 xt1 xu0 xu1 xB
                refine (right_span S E hK alo bhi _ (by omega) (by omega) (HE.out.grew M6.gr)).mono ?_
                rintro e w9 ⟨rfl, hg9⟩
                have M9 := M6.grew hg9
                obtain ⟨hgr, xa0, xa1, xb0, xb1, xr0, xr1, xf0, xf1, xt0, xt1, xu0, xu1, xB⟩ := id M9
                go_wp2_with fail
                refine bodyPost_ret (v := .tuple #[.agg #[.string noText, .string noText], .bool false]) (by simp [results, Tryd.results30, go_sem, xr0, xr1]) rfl ⟨rfl, ?_⟩
                exact (hgr.setCell (by simp; omega) _).setCell (by simp; omega) _
              | true =>
                have hb : Pl.meetB true true true = true := rfl
                rw [hb]
                clear hb
                go_enter Tryd.func30, Tryd.ntmps30
                go_wp2_with fail
                refine (right_span S E hK alo ahi _ (by omega) (by omega) (HE.out.grew ((((Grew.refl w).alloc _).alloc _).alloc _))).mono ?_
                rintro e w1 ⟨rfl, hg⟩
                have hG : Grew w w1 := ((((Grew.refl w).alloc _).alloc _).alloc _).trans hg
                have hz : w.heap.size < w1.heap.size ∧ w.heap.size + 1 < w1.heap.size ∧ w.heap.size + 1 + 1 < w1.heap.size := by have := hg.size; simp at this; omega
                obtain ⟨hz0, hz1, hz2⟩ := hz
                obtain ⟨hc, hf⟩ := hg.cells
                go_wp2_with fail
                refine (right_span S E hK blo bhi _ (by omega) (by omega) (HE.out.grew hG)).mono ?_
                rintro e w2 ⟨rfl, hg2⟩
                have hG2 : Grew w w2 := hG.trans hg2
                obtain ⟨hc2, hf2⟩ := hg2.cells
                have l0 : w2.cell? ⟨w.heap.size, 0, none⟩ = some (.string alo) := by rw [hc2 _ _ hz0, hc _ _ (by simp only [World.size_alloc]; omega)]; simp [go_sem]
                have l1 : w2.cell? ⟨w.heap.size, 1, none⟩ = some (.string ahi) := by rw [hc2 _ _ hz0, hc _ _ (by simp only [World.size_alloc]; omega)]; simp [go_sem]
                have l2 : w2.cell? ⟨w.heap.size + 1, 0, none⟩ = some (.string blo) := by rw [hc2 _ _ hz1, hc _ _ (by simp only [World.size_alloc]; omega)]; simp [go_sem]
                have l3 : w2.cell? ⟨w.heap.size + 1, 1, none⟩ = some (.string bhi) := by rw [hc2 _ _ hz1, hc _ _ (by simp only [World.size_alloc]; omega)]; simp [go_sem]
                have l4 : w2.cell? ⟨w.heap.size + 1 + 1, 0, none⟩ = some (.string ⟨#[]⟩) := by rw [hc2 _ _ hz2, hc _ _ (by simp only [World.size_alloc]; omega)]; simp [go_sem]
                have l5 : w2.cell? ⟨w.heap.size + 1 + 1, 1, none⟩ = some (.string ⟨#[]⟩) := by rw [hc2 _ _ hz2, hc _ _ (by simp only [World.size_alloc]; omega)]; simp [go_sem]
                have l6 : w2.frozen? ⟨w.heap.size + 1 + 1, 0, none⟩ = false := by rw [hf2 _ _ hz2, hf _ _ (by simp only [World.size_alloc]; omega)]; simp [go_sem]
                have l7 : w2.frozen? ⟨w.heap.size + 1 + 1, 1, none⟩ = false := by rw [hf2 _ _ hz2, hf _ _ (by simp only [World.size_alloc]; omega)]; simp [go_sem]
                have hy2 : w.heap.size + 1 + 1 < w2.heap.size := by have := hg2.size; omega
                have hy1 : w.heap.size + 1 < w2.heap.size := by omega
                have hy0 : w.heap.size < w2.heap.size := by omega
                have hmb : ∀ x y, MB w (w2.alloc (.cells #[.string x, .string y] 28)) w2.heap.size alo ahi blo bhi x y := fun x y =>
                  ⟨hG2.alloc _, ((Grew.refl w2).alloc _).at l0, ((Grew.refl w2).alloc _).at l1, ((Grew.refl w2).alloc _).at l2, ((Grew.refl w2).alloc _).at l3, ((Grew.refl w2).alloc _).at l4, ((Grew.refl w2).alloc _).at l5, ((Grew.refl w2).alloc _).fz l4 l6, ((Grew.refl w2).alloc _).fz l5 l7, by simp [go_sem], by simp [go_sem], by simp [go_sem], by simp [go_sem], hy2⟩
                have HM := hid hmb
                clear hmb
                go_wp2_with fail
                refine (compare_any blo alo _ h3 h1).mono ?_
                rintro e w3 ⟨rfl, hg3⟩
                have M3 := (HM.out alo ahi).grew hg3
                obtain ⟨hgr, xa0, xa1, xb0, xb1, xr0, xr1, xf0, xf1, xt0, xt1, xu0, xu1, xB⟩ := id M3
                go_wp2_with fail
                clear hgr xa0 xa1 xb0 xb1 xr0 xr1 xf0 xf1 xt0 xt1 xu0 xu1 xB
                refine (compare_any bhi ahi _ h4 h2).mono ?_
                rintro e w5 ⟨rfl, hg5⟩
                have M5 := M3.grew hg5
                obtain ⟨hgr, xa0, xa1, xb0, xb1, xr0, xr1, xf0, xf1, xt0, xt1, xu0, xu1, xB⟩ := id M5
                go_wp2_with fail
                have M6 := M5.set1 bhi
                clear hgr xa0 xa1 xb0 xb1 xr0 xr1 xf0 xf1 xt0 xt1 xu0 xu1 xB
                refine (right_span S E hK alo bhi _ (by omega) (by omega) (HE.out.grew M6.gr)).mono ?_
                rintro e w9 ⟨rfl, hg9⟩
                have M9 := M6.grew hg9
                obtain ⟨hgr, xa0, xa1, xb0, xb1, xr0, xr1, xf0, xf1, xt0, xt1, xu0, xu1, xB⟩ := id M9
                go_wp2_with fail
                refine bodyPost_ret (v := .tuple #[.agg #[.string alo, .string bhi], .bool true]) (by simp [results, Tryd.results30, go_sem, xr0, xr1]) rfl ⟨rfl, ?_⟩
                exact (hgr.setCell (by simp; omega) _).setCell (by simp; omega) _
            · have hhi : Pl.meetHi ahi bhi = ahi := by unfold Pl.meetHi; rw [if_neg (by unfold Pl.none0; rw [ea]; decide), if_neg (by unfold Pl.none0; rw [eb]; decide), if_neg k2]
              rw [hhi]
              clear hhi
              cases hok : Pl.rightS alo ahi with
              | false => cases (r1.symm.trans hok)
              | true =>
                have hb : Pl.meetB true true true = true := rfl
                rw [hb]
                clear hb
                go_enter Tryd.func30, Tryd.ntmps30
                go_wp2_with fail
                refine (right_span S E hK alo ahi _ (by omega) (by omega) (HE.out.grew ((((Grew.refl w).alloc _).alloc _).alloc _))).mono ?_
                rintro e w1 ⟨rfl, hg⟩
                have hG : Grew w w1 := ((((Grew.refl w).alloc _).alloc _).alloc _).trans hg
                have hz : w.heap.size < w1.heap.size ∧ w.heap.size + 1 < w1.heap.size ∧ w.heap.size + 1 + 1 < w1.heap.size := by have := hg.size; simp at this; omega
                obtain ⟨hz0, hz1, hz2⟩ := hz
                obtain ⟨hc, hf⟩ := hg.cells
                go_wp2_with fail
                refine (right_span S E hK blo bhi _ (by omega) (by omega) (HE.out.grew hG)).mono ?_
                rintro e w2 ⟨rfl, hg2⟩
                have hG2 : Grew w w2 := hG.trans hg2
                obtain ⟨hc2, hf2⟩ := hg2.cells
                have l0 : w2.cell? ⟨w.heap.size, 0, none⟩ = some (.string alo) := by rw [hc2 _ _ hz0, hc _ _ (by simp only [World.size_alloc]; omega)]; simp [go_sem]
                have l1 : w2.cell? ⟨w.heap.size, 1, none⟩ = some (.string ahi) := by rw [hc2 _ _ hz0, hc _ _ (by simp only [World.size_alloc]; omega)]; simp [go_sem]
                have l2 : w2.cell? ⟨w.heap.size + 1, 0, none⟩ = some (.string blo) := by rw [hc2 _ _ hz1, hc _ _ (by simp only [World.size_alloc]; omega)]; simp [go_sem]
                have l3 : w2.cell? ⟨w.heap.size + 1, 1, none⟩ = some (.string bhi) := by rw [hc2 _ _ hz1, hc _ _ (by simp only [World.size_alloc]; omega)]; simp [go_sem]
                have l4 : w2.cell? ⟨w.heap.size + 1 + 1, 0, none⟩ = some (.string ⟨#[]⟩) := by rw [hc2 _ _ hz2, hc _ _ (by simp only [World.size_alloc]; omega)]; simp [go_sem]
                have l5 : w2.cell? ⟨w.heap.size + 1 + 1, 1, none⟩ = some (.string ⟨#[]⟩) := by rw [hc2 _ _ hz2, hc _ _ (by simp only [World.size_alloc]; omega)]; simp [go_sem]
                have l6 : w2.frozen? ⟨w.heap.size + 1 + 1, 0, none⟩ = false := by rw [hf2 _ _ hz2, hf _ _ (by simp only [World.size_alloc]; omega)]; simp [go_sem]
                have l7 : w2.frozen? ⟨w.heap.size + 1 + 1, 1, none⟩ = false := by rw [hf2 _ _ hz2, hf _ _ (by simp only [World.size_alloc]; omega)]; simp [go_sem]
                have hy2 : w.heap.size + 1 + 1 < w2.heap.size := by have := hg2.size; omega
                have hy1 : w.heap.size + 1 < w2.heap.size := by omega
                have hy0 : w.heap.size < w2.heap.size := by omega
                have hmb : ∀ x y, MB w (w2.alloc (.cells #[.string x, .string y] 28)) w2.heap.size alo ahi blo bhi x y := fun x y =>
                  ⟨hG2.alloc _, ((Grew.refl w2).alloc _).at l0, ((Grew.refl w2).alloc _).at l1, ((Grew.refl w2).alloc _).at l2, ((Grew.refl w2).alloc _).at l3, ((Grew.refl w2).alloc _).at l4, ((Grew.refl w2).alloc _).at l5, ((Grew.refl w2).alloc _).fz l4 l6, ((Grew.refl w2).alloc _).fz l5 l7, by simp [go_sem], by simp [go_sem], by simp [go_sem], by simp [go_sem], hy2⟩
                have HM := hid hmb
                clear hmb
                go_wp2_with fail
                refine (compare_any blo alo _ h3 h1).mono ?_
                rintro e w3 ⟨rfl, hg3⟩
                have M3 := (HM.out alo ahi).grew hg3
                obtain ⟨hgr, xa0, xa1, xb0, xb1, xr0, xr1, xf0, xf1, xt0, xt1, xu0, xu1, xB⟩ := id M3
                go_wp2_with fail
                clear hgr xa0 xa1 xb0 xb1 xr0 xr1 xf0 xf1 xt0 xt1 xu0 xu1 xB
                refine (compare_any bhi ahi _ h4 h2).mono ?_
                rintro e w5 ⟨rfl, hg5⟩
                have M5 := M3.grew hg5
                obtain ⟨hgr, xa0, xa1, xb0, xb1, xr0, xr1, xf0, xf1, xt0, xt1, xu0, xu1, xB⟩ := id M5
                go_wp2_with fail
                clear hgr xa0 xa1 xb0 xb1 xr0 xr1 xf0 xf1 xt0 xt1 xu0 xu1 xB
                refine (right_span S E hK alo ahi _ (by omega) (by omega) (HE.out.grew M5.gr)).mono ?_
                rintro e w9 ⟨rfl, hg9⟩
                have M9 := M5.grew hg9
                obtain ⟨hgr, xa0, xa1, xb0, xb1, xr0, xr1, xf0, xf1, xt0, xt1, xu0, xu1, xB⟩ := id M9
                go_wp2_with fail
                refine bodyPost_ret (v := .tuple #[.agg #[.string alo, .string ahi], .bool true]) (by simp [results, Tryd.results30, go_sem, xr0, xr1]) rfl ⟨rfl, ?_⟩
                exact (hgr.setCell (by simp; omega) _).setCell (by simp; omega) _
end Go.Proofs.YtbkombicbgjlnaaDoor
