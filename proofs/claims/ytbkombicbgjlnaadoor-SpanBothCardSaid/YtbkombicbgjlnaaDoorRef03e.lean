/- The walk of the document's package 03: Meet. (Printed by wip/gen_ref03e.py.) -/
import Derived.Test.YtbkombicbgjlnaaDoorSpan4
import Derived.Test.YtbkombicbgjlnaaDoorRef03d
namespace Go.Proofs.YtbkombicbgjlnaaDoor
open Go.RowKit

namespace Pl
def meetLoR (alo blo : ByteArray) : ByteArray := if Op.bytesLess alo.toList blo.toList = true then blo else alo
def meetHiR (ahi bhi : ByteArray) : ByteArray := if none0 ahi = true then bhi else if none0 bhi = true then ahi else if Op.bytesLess bhi.toList ahi.toList = true then bhi else ahi
def okR (lo hi : ByteArray) : Bool := none0 hi || Op.bytesLess lo.toList hi.toList

theorem meet_eq (alo ahi blo bhi : ByteArray) (h1 : rightS alo ahi = true) (h2 : rightS blo bhi = true) :
    meetLoR alo blo = meetLo alo blo ∧ meetHiR ahi bhi = meetHi ahi bhi ∧ okR (meetLo alo blo) (meetHi ahi bhi) = rightS (meetLo alo blo) (meetHi ahi bhi) := by
  obtain ⟨a1, a2⟩ := rightS_ends alo ahi h1
  obtain ⟨b1, b2⟩ := rightS_ends blo bhi h2
  have e1 : meetLoR alo blo = meetLo alo blo := by
    unfold meetLoR meetLo
    rw [← compare_gt blo alo (endB_runes _ b1) (endB_runes _ a1)]
    simp only [decide_eq_true_eq]
  have e2 : meetHiR ahi bhi = meetHi ahi bhi := by
    unfold meetHiR meetHi
    rw [← compare_lt bhi ahi (endB_runes _ b2) (endB_runes _ a2)]
    simp only [decide_eq_true_eq]
  refine ⟨e1, e2, ?_⟩
  have l : endB (meetLo alo blo) = true := by unfold meetLo; split <;> assumption
  have h : endB (meetHi ahi bhi) = true := by
    unfold meetHi
    repeat' split
    all_goals assumption
  unfold okR rightS
  rw [l, h, lessB_eq _ _ (endB_runes _ l) h]; rfl

theorem meetB_eq (alo ahi blo bhi : ByteArray) : meetB (rightR alo ahi) (rightR blo bhi) (okR (meetLoR alo blo) (meetHiR ahi bhi)) = meetB (rightS alo ahi) (rightS blo bhi) (rightS (meetLo alo blo) (meetHi ahi bhi)) := by
  rw [rightR_eq, rightR_eq]
  cases h1 : rightS alo ahi with
  | false => rfl
  | true =>
    cases h2 : rightS blo bhi with
    | false => rfl
    | true =>
      obtain ⟨e1, e2, e3⟩ := meet_eq alo ahi blo bhi h1 h2
      rw [e1, e2, e3]
theorem meetV_eq (alo ahi blo bhi : ByteArray) (b : Bool) (hb : b = meetB (rightS alo ahi) (rightS blo bhi) (rightS (meetLo alo blo) (meetHi ahi bhi))) :
    meetV b (meetLoR alo blo) (meetHiR ahi bhi) = meetV b (meetLo alo blo) (meetHi ahi bhi) := by
  cases b with
  | false => rfl
  | true =>
    unfold meetB at hb
    have hb' := hb.symm
    rw [Bool.and_eq_true, Bool.and_eq_true] at hb'
    obtain ⟨e1, e2, _⟩ := meet_eq alo ahi blo bhi hb'.1.1 hb'.1.2
    rw [e1, e2]
end Pl

theorem run_max_str {P : Program} (ts : Array TypeId) (t : TypeId) (a b : ByteArray) (w : World) : (Builtin.max_ ts t #[.string a, .string b]).run P w = .ok (.string (if Op.bytesLess a.toList b.toList = true then b else a)) w := by
  simp only [Builtin.max_, List.foldlM, Builtin.max2, Op.stringOp, Sem.run_bind, Sem.run_pure, Result.andThen_ok]
  cases h : Op.bytesLess a.toList b.toList <;> simp [asBool]

set_option maxHeartbeats 6400000 in
theorem ref_meet (alo ahi blo bhi : ByteArray) (w : World) (h1 : alo.size ≤ 16777216) (h2 : ahi.size ≤ 16777216) (h3 : blo.size ≤ 16777216) (h4 : bhi.size ≤ 16777216) :
    Calls Tryd.prog 31 #[.agg #[.string alo, .string ahi], .agg #[.string blo, .string bhi]] w
      (MeetPost (Pl.meetV (Pl.meetB (Pl.rightR alo ahi) (Pl.rightR blo bhi) (Pl.okR (Pl.meetLoR alo blo) (Pl.meetHiR ahi bhi))) (Pl.meetLoR alo blo) (Pl.meetHiR ahi bhi)) (Pl.meetB (Pl.rightR alo ahi) (Pl.rightR blo bhi) (Pl.okR (Pl.meetLoR alo blo) (Pl.meetHiR ahi bhi))) w) := by
  cases r1 : Pl.rightR alo ahi with
  | false =>
    have hb : Pl.meetB false (Pl.rightR blo bhi) (Pl.okR (Pl.meetLoR alo blo) (Pl.meetHiR ahi bhi)) = false := rfl
    rw [hb]
    clear hb
    go_enter Tryd.func31, Tryd.ntmps31
    go_wp2_with fail
    refine (ref_right alo ahi _ (by omega) (by omega)).mono ?_
    rintro e w1 ⟨rfl, hg⟩
    have hG : Grew w w1 := ((((Grew.refl w).alloc _).alloc _).alloc _).trans hg
    have hz : w.heap.size < w1.heap.size ∧ w.heap.size + 1 < w1.heap.size ∧ w.heap.size + 1 + 1 < w1.heap.size := by have := hg.size; simp at this; omega
    obtain ⟨hz0, hz1, hz2⟩ := hz
    obtain ⟨hc, hf⟩ := hg.cells
    go_wp2_with fail
    refine bodyPost_ret (v := .tuple #[.agg #[.string noText, .string noText], .bool false]) (by simp [results, Tryd.results31, go_sem, hc]) rfl ⟨rfl, ?_⟩
    exact (hG.setCell (by simp; omega) _).setCell (by simp; omega) _
  | true =>
    cases r2 : Pl.rightR blo bhi with
    | false =>
      have hb : Pl.meetB true false (Pl.okR (Pl.meetLoR alo blo) (Pl.meetHiR ahi bhi)) = false := rfl
      rw [hb]
      clear hb
      go_enter Tryd.func31, Tryd.ntmps31
      go_wp2_with fail
      refine (ref_right alo ahi _ (by omega) (by omega)).mono ?_
      rintro e w1 ⟨rfl, hg⟩
      have hG : Grew w w1 := ((((Grew.refl w).alloc _).alloc _).alloc _).trans hg
      have hz : w.heap.size < w1.heap.size ∧ w.heap.size + 1 < w1.heap.size ∧ w.heap.size + 1 + 1 < w1.heap.size := by have := hg.size; simp at this; omega
      obtain ⟨hz0, hz1, hz2⟩ := hz
      obtain ⟨hc, hf⟩ := hg.cells
      go_wp2_with fail
      refine (ref_right blo bhi _ (by omega) (by omega)).mono ?_
      rintro e w2 ⟨rfl, hg2⟩
      have hG2 : Grew w w2 := hG.trans hg2
      obtain ⟨hc2, hf2⟩ := hg2.cells
      go_wp2_with fail
      refine bodyPost_ret (v := .tuple #[.agg #[.string noText, .string noText], .bool false]) (by simp [results, Tryd.results31, go_sem, hc, hc2, hz2]) rfl ⟨rfl, ?_⟩
      exact (hG2.setCell (by simp; omega) _).setCell (by simp; omega) _
    | true =>
      cases k1 : Op.bytesLess alo.toList blo.toList with
      | true =>
        have hlo : Pl.meetLoR alo blo = blo := by unfold Pl.meetLoR; rw [if_pos k1]
        rw [hlo]
        clear hlo
        cases ea : ahi.toList.isEmpty with
        | true =>
          have ea2 : ahi.toList = [] := by simpa using ea
          have hhi : Pl.meetHiR ahi bhi = bhi := by unfold Pl.meetHiR; rw [if_pos (show Pl.none0 ahi = true from ea)]
          rw [hhi]
          clear hhi
          cases eb : bhi.toList.isEmpty with
          | true =>
            have eb2 : bhi.toList = [] := by simpa using eb
            have hb : Pl.meetB true true (Pl.okR blo bhi) = true := by unfold Pl.okR Pl.none0; rw [eb]; rfl
            rw [hb]
            clear hb
            have hmax : ∀ (ts : Array TypeId) (t : TypeId) (W : World), (Builtin.max_ ts t #[.string alo, .string blo]).run Tryd.prog W = .ok (.string blo) W := fun ts t W => by rw [run_max_str, if_pos]; exact k1
            go_enter Tryd.func31, Tryd.ntmps31
            go_wp2_with fail
            refine (ref_right alo ahi _ (by omega) (by omega)).mono ?_
            rintro e w1 ⟨rfl, hg⟩
            have hG : Grew w w1 := ((((Grew.refl w).alloc _).alloc _).alloc _).trans hg
            have hz : w.heap.size < w1.heap.size ∧ w.heap.size + 1 < w1.heap.size ∧ w.heap.size + 1 + 1 < w1.heap.size := by have := hg.size; simp at this; omega
            obtain ⟨hz0, hz1, hz2⟩ := hz
            obtain ⟨hc, hf⟩ := hg.cells
            go_wp2_with fail
            refine (ref_right blo bhi _ (by omega) (by omega)).mono ?_
            rintro e w2 ⟨rfl, hg2⟩
            have hG2 : Grew w w2 := hG.trans hg2
            obtain ⟨hc2, hf2⟩ := hg2.cells
            have l0 : w2.cell? ⟨w.heap.size, 0, none⟩ = some (.string alo) := by rw [hc2 _ _ hz0, hc _ _ (by simp only [World.size_alloc]; omega)]; simp [go_sem]
            have l1 : w2.cell? ⟨w.heap.size, 1, none⟩ = some (.string ahi) := by rw [hc2 _ _ hz0, hc _ _ (by simp only [World.size_alloc]; omega)]; simp [go_sem]
            have l2 : w2.cell? ⟨w.heap.size + 1, 0, none⟩ = some (.string blo) := by rw [hc2 _ _ hz1, hc _ _ (by simp only [World.size_alloc]; omega)]; simp [go_sem]
            have l3 : w2.cell? ⟨w.heap.size + 1, 1, none⟩ = some (.string bhi) := by rw [hc2 _ _ hz1, hc _ _ (by simp only [World.size_alloc]; omega)]; simp [go_sem]
            have l4 : w2.cell? ⟨w.heap.size + 1 + 1, 0, none⟩ = some (.string ⟨#[]⟩) := by rw [hc2 _ _ hz2, hc _ _ (by simp only [World.size_alloc]; omega)]; simp [go_sem]
            have l5 : w2.cell? ⟨w.heap.size + 1 + 1, 1, none⟩ = some (.string ⟨#[]⟩) := by rw [hc2 _ _ hz2, hc _ _ (by simp only [World.size_alloc]; omega)]; simp [go_sem]
            have l6 : w2.frozen? ⟨w.heap.size + 1 + 1, 0, none⟩ = false := by rw [hf2 _ _ hz2, hf _ _ (by simp only [World.size_alloc]; omega)]; simp [go_sem]
            have l7 : w2.frozen? ⟨w.heap.size + 1 + 1, 1, none⟩ = false := by rw [hf2 _ _ hz2, hf _ _ (by simp only [World.size_alloc]; omega)]; simp [go_sem]
            have hy2 : w.heap.size + 1 + 1 < w2.heap.size := by have := hg2.size; omega
            have hy1 : w.heap.size + 1 < w2.heap.size := by omega
            have hy0 : w.heap.size < w2.heap.size := by omega
            have hmb : ∀ x y, MB w (w2.alloc (.cells #[.string x, .string y] 28)) w2.heap.size alo ahi blo bhi x y := fun x y =>
              ⟨hG2.alloc _, ((Grew.refl w2).alloc _).at l0, ((Grew.refl w2).alloc _).at l1, ((Grew.refl w2).alloc _).at l2, ((Grew.refl w2).alloc _).at l3, ((Grew.refl w2).alloc _).at l4, ((Grew.refl w2).alloc _).at l5, ((Grew.refl w2).alloc _).fz l4 l6, ((Grew.refl w2).alloc _).fz l5 l7, by simp [go_sem], by simp [go_sem], by simp [go_sem], by simp [go_sem], hy2⟩
            have HM := hid hmb
            clear hmb
            obtain ⟨hgr, xa0, xa1, xb0, xb1, xr0, xr1, xf0, xf1, xt0, xt1, xu0, xu1, xB⟩ := HM.out blo ahi
            go_wp2_with fail
            refine bodyPost_ret (v := .tuple #[.agg #[.string blo, .string bhi], .bool true]) (by simp [results, Tryd.results31, go_sem, l4, l5, hy2]) rfl ⟨rfl, ?_⟩
            exact ((hG2.setCell (by simp; omega) _).setCell (by simp; omega) _).alloc _
          | false =>
            have eb2 : ¬ bhi.toList = [] := by simpa using eb
            have eb3 : (!bhi.toList.isEmpty) = true := by rw [eb]; rfl
            cases q1 : Op.bytesLess blo.toList bhi.toList with
            | false =>
              have hb : Pl.meetB true true (Pl.okR blo bhi) = false := by unfold Pl.okR Pl.none0; rw [eb, q1]; rfl
              rw [hb]
              clear hb
              have hmax : ∀ (ts : Array TypeId) (t : TypeId) (W : World), (Builtin.max_ ts t #[.string alo, .string blo]).run Tryd.prog W = .ok (.string blo) W := fun ts t W => by rw [run_max_str, if_pos]; exact k1
              go_enter Tryd.func31, Tryd.ntmps31
              go_wp2_with fail
              refine (ref_right alo ahi _ (by omega) (by omega)).mono ?_
              rintro e w1 ⟨rfl, hg⟩
              have hG : Grew w w1 := ((((Grew.refl w).alloc _).alloc _).alloc _).trans hg
              have hz : w.heap.size < w1.heap.size ∧ w.heap.size + 1 < w1.heap.size ∧ w.heap.size + 1 + 1 < w1.heap.size := by have := hg.size; simp at this; omega
              obtain ⟨hz0, hz1, hz2⟩ := hz
              obtain ⟨hc, hf⟩ := hg.cells
              go_wp2_with fail
              refine (ref_right blo bhi _ (by omega) (by omega)).mono ?_
              rintro e w2 ⟨rfl, hg2⟩
              have hG2 : Grew w w2 := hG.trans hg2
              obtain ⟨hc2, hf2⟩ := hg2.cells
              have l0 : w2.cell? ⟨w.heap.size, 0, none⟩ = some (.string alo) := by rw [hc2 _ _ hz0, hc _ _ (by simp only [World.size_alloc]; omega)]; simp [go_sem]
              have l1 : w2.cell? ⟨w.heap.size, 1, none⟩ = some (.string ahi) := by rw [hc2 _ _ hz0, hc _ _ (by simp only [World.size_alloc]; omega)]; simp [go_sem]
              have l2 : w2.cell? ⟨w.heap.size + 1, 0, none⟩ = some (.string blo) := by rw [hc2 _ _ hz1, hc _ _ (by simp only [World.size_alloc]; omega)]; simp [go_sem]
              have l3 : w2.cell? ⟨w.heap.size + 1, 1, none⟩ = some (.string bhi) := by rw [hc2 _ _ hz1, hc _ _ (by simp only [World.size_alloc]; omega)]; simp [go_sem]
              have l4 : w2.cell? ⟨w.heap.size + 1 + 1, 0, none⟩ = some (.string ⟨#[]⟩) := by rw [hc2 _ _ hz2, hc _ _ (by simp only [World.size_alloc]; omega)]; simp [go_sem]
              have l5 : w2.cell? ⟨w.heap.size + 1 + 1, 1, none⟩ = some (.string ⟨#[]⟩) := by rw [hc2 _ _ hz2, hc _ _ (by simp only [World.size_alloc]; omega)]; simp [go_sem]
              have l6 : w2.frozen? ⟨w.heap.size + 1 + 1, 0, none⟩ = false := by rw [hf2 _ _ hz2, hf _ _ (by simp only [World.size_alloc]; omega)]; simp [go_sem]
              have l7 : w2.frozen? ⟨w.heap.size + 1 + 1, 1, none⟩ = false := by rw [hf2 _ _ hz2, hf _ _ (by simp only [World.size_alloc]; omega)]; simp [go_sem]
              have hy2 : w.heap.size + 1 + 1 < w2.heap.size := by have := hg2.size; omega
              have hy1 : w.heap.size + 1 < w2.heap.size := by omega
              have hy0 : w.heap.size < w2.heap.size := by omega
              have hmb : ∀ x y, MB w (w2.alloc (.cells #[.string x, .string y] 28)) w2.heap.size alo ahi blo bhi x y := fun x y =>
                ⟨hG2.alloc _, ((Grew.refl w2).alloc _).at l0, ((Grew.refl w2).alloc _).at l1, ((Grew.refl w2).alloc _).at l2, ((Grew.refl w2).alloc _).at l3, ((Grew.refl w2).alloc _).at l4, ((Grew.refl w2).alloc _).at l5, ((Grew.refl w2).alloc _).fz l4 l6, ((Grew.refl w2).alloc _).fz l5 l7, by simp [go_sem], by simp [go_sem], by simp [go_sem], by simp [go_sem], hy2⟩
              have HM := hid hmb
              clear hmb
              obtain ⟨hgr, xa0, xa1, xb0, xb1, xr0, xr1, xf0, xf1, xt0, xt1, xu0, xu1, xB⟩ := HM.out blo ahi
              go_wp2_with fail
              refine bodyPost_ret (v := .tuple #[.agg #[.string noText, .string noText], .bool false]) (by simp [results, Tryd.results31, go_sem, l4, l5, hy2]) rfl ⟨rfl, ?_⟩
              exact ((hG2.setCell (by simp; omega) _).setCell (by simp; omega) _).alloc _
            | true =>
              have hb : Pl.meetB true true (Pl.okR blo bhi) = true := by unfold Pl.okR Pl.none0; rw [eb, q1]; rfl
              rw [hb]
              clear hb
              have hmax : ∀ (ts : Array TypeId) (t : TypeId) (W : World), (Builtin.max_ ts t #[.string alo, .string blo]).run Tryd.prog W = .ok (.string blo) W := fun ts t W => by rw [run_max_str, if_pos]; exact k1
              go_enter Tryd.func31, Tryd.ntmps31
              go_wp2_with fail
              refine (ref_right alo ahi _ (by omega) (by omega)).mono ?_
              rintro e w1 ⟨rfl, hg⟩
              have hG : Grew w w1 := ((((Grew.refl w).alloc _).alloc _).alloc _).trans hg
              have hz : w.heap.size < w1.heap.size ∧ w.heap.size + 1 < w1.heap.size ∧ w.heap.size + 1 + 1 < w1.heap.size := by have := hg.size; simp at this; omega
              obtain ⟨hz0, hz1, hz2⟩ := hz
              obtain ⟨hc, hf⟩ := hg.cells
              go_wp2_with fail
              refine (ref_right blo bhi _ (by omega) (by omega)).mono ?_
              rintro e w2 ⟨rfl, hg2⟩
              have hG2 : Grew w w2 := hG.trans hg2
              obtain ⟨hc2, hf2⟩ := hg2.cells
              have l0 : w2.cell? ⟨w.heap.size, 0, none⟩ = some (.string alo) := by rw [hc2 _ _ hz0, hc _ _ (by simp only [World.size_alloc]; omega)]; simp [go_sem]
              have l1 : w2.cell? ⟨w.heap.size, 1, none⟩ = some (.string ahi) := by rw [hc2 _ _ hz0, hc _ _ (by simp only [World.size_alloc]; omega)]; simp [go_sem]
              have l2 : w2.cell? ⟨w.heap.size + 1, 0, none⟩ = some (.string blo) := by rw [hc2 _ _ hz1, hc _ _ (by simp only [World.size_alloc]; omega)]; simp [go_sem]
              have l3 : w2.cell? ⟨w.heap.size + 1, 1, none⟩ = some (.string bhi) := by rw [hc2 _ _ hz1, hc _ _ (by simp only [World.size_alloc]; omega)]; simp [go_sem]
              have l4 : w2.cell? ⟨w.heap.size + 1 + 1, 0, none⟩ = some (.string ⟨#[]⟩) := by rw [hc2 _ _ hz2, hc _ _ (by simp only [World.size_alloc]; omega)]; simp [go_sem]
              have l5 : w2.cell? ⟨w.heap.size + 1 + 1, 1, none⟩ = some (.string ⟨#[]⟩) := by rw [hc2 _ _ hz2, hc _ _ (by simp only [World.size_alloc]; omega)]; simp [go_sem]
              have l6 : w2.frozen? ⟨w.heap.size + 1 + 1, 0, none⟩ = false := by rw [hf2 _ _ hz2, hf _ _ (by simp only [World.size_alloc]; omega)]; simp [go_sem]
              have l7 : w2.frozen? ⟨w.heap.size + 1 + 1, 1, none⟩ = false := by rw [hf2 _ _ hz2, hf _ _ (by simp only [World.size_alloc]; omega)]; simp [go_sem]
              have hy2 : w.heap.size + 1 + 1 < w2.heap.size := by have := hg2.size; omega
              have hy1 : w.heap.size + 1 < w2.heap.size := by omega
              have hy0 : w.heap.size < w2.heap.size := by omega
              have hmb : ∀ x y, MB w (w2.alloc (.cells #[.string x, .string y] 28)) w2.heap.size alo ahi blo bhi x y := fun x y =>
                ⟨hG2.alloc _, ((Grew.refl w2).alloc _).at l0, ((Grew.refl w2).alloc _).at l1, ((Grew.refl w2).alloc _).at l2, ((Grew.refl w2).alloc _).at l3, ((Grew.refl w2).alloc _).at l4, ((Grew.refl w2).alloc _).at l5, ((Grew.refl w2).alloc _).fz l4 l6, ((Grew.refl w2).alloc _).fz l5 l7, by simp [go_sem], by simp [go_sem], by simp [go_sem], by simp [go_sem], hy2⟩
              have HM := hid hmb
              clear hmb
              obtain ⟨hgr, xa0, xa1, xb0, xb1, xr0, xr1, xf0, xf1, xt0, xt1, xu0, xu1, xB⟩ := HM.out blo ahi
              go_wp2_with fail
              refine bodyPost_ret (v := .tuple #[.agg #[.string blo, .string bhi], .bool true]) (by simp [results, Tryd.results31, go_sem, l4, l5, hy2]) rfl ⟨rfl, ?_⟩
              exact ((hG2.setCell (by simp; omega) _).setCell (by simp; omega) _).alloc _
        | false =>
          have ea2 : ¬ ahi.toList = [] := by simpa using ea
          have ea3 : (!ahi.toList.isEmpty) = true := by rw [ea]; rfl
          cases eb : bhi.toList.isEmpty with
          | true =>
            have eb2 : bhi.toList = [] := by simpa using eb
            have hhi : Pl.meetHiR ahi bhi = ahi := by unfold Pl.meetHiR; rw [if_neg (by unfold Pl.none0; rw [ea]; decide), if_pos (show Pl.none0 bhi = true from eb)]
            rw [hhi]
            clear hhi
            cases q1 : Op.bytesLess blo.toList ahi.toList with
            | false =>
              have hb : Pl.meetB true true (Pl.okR blo ahi) = false := by unfold Pl.okR Pl.none0; rw [ea, q1]; rfl
              rw [hb]
              clear hb
              have hmax : ∀ (ts : Array TypeId) (t : TypeId) (W : World), (Builtin.max_ ts t #[.string alo, .string blo]).run Tryd.prog W = .ok (.string blo) W := fun ts t W => by rw [run_max_str, if_pos]; exact k1
              go_enter Tryd.func31, Tryd.ntmps31
              go_wp2_with fail
              refine (ref_right alo ahi _ (by omega) (by omega)).mono ?_
              rintro e w1 ⟨rfl, hg⟩
              have hG : Grew w w1 := ((((Grew.refl w).alloc _).alloc _).alloc _).trans hg
              have hz : w.heap.size < w1.heap.size ∧ w.heap.size + 1 < w1.heap.size ∧ w.heap.size + 1 + 1 < w1.heap.size := by have := hg.size; simp at this; omega
              obtain ⟨hz0, hz1, hz2⟩ := hz
              obtain ⟨hc, hf⟩ := hg.cells
              go_wp2_with fail
              refine (ref_right blo bhi _ (by omega) (by omega)).mono ?_
              rintro e w2 ⟨rfl, hg2⟩
              have hG2 : Grew w w2 := hG.trans hg2
              obtain ⟨hc2, hf2⟩ := hg2.cells
              have l0 : w2.cell? ⟨w.heap.size, 0, none⟩ = some (.string alo) := by rw [hc2 _ _ hz0, hc _ _ (by simp only [World.size_alloc]; omega)]; simp [go_sem]
              have l1 : w2.cell? ⟨w.heap.size, 1, none⟩ = some (.string ahi) := by rw [hc2 _ _ hz0, hc _ _ (by simp only [World.size_alloc]; omega)]; simp [go_sem]
              have l2 : w2.cell? ⟨w.heap.size + 1, 0, none⟩ = some (.string blo) := by rw [hc2 _ _ hz1, hc _ _ (by simp only [World.size_alloc]; omega)]; simp [go_sem]
              have l3 : w2.cell? ⟨w.heap.size + 1, 1, none⟩ = some (.string bhi) := by rw [hc2 _ _ hz1, hc _ _ (by simp only [World.size_alloc]; omega)]; simp [go_sem]
              have l4 : w2.cell? ⟨w.heap.size + 1 + 1, 0, none⟩ = some (.string ⟨#[]⟩) := by rw [hc2 _ _ hz2, hc _ _ (by simp only [World.size_alloc]; omega)]; simp [go_sem]
              have l5 : w2.cell? ⟨w.heap.size + 1 + 1, 1, none⟩ = some (.string ⟨#[]⟩) := by rw [hc2 _ _ hz2, hc _ _ (by simp only [World.size_alloc]; omega)]; simp [go_sem]
              have l6 : w2.frozen? ⟨w.heap.size + 1 + 1, 0, none⟩ = false := by rw [hf2 _ _ hz2, hf _ _ (by simp only [World.size_alloc]; omega)]; simp [go_sem]
              have l7 : w2.frozen? ⟨w.heap.size + 1 + 1, 1, none⟩ = false := by rw [hf2 _ _ hz2, hf _ _ (by simp only [World.size_alloc]; omega)]; simp [go_sem]
              have hy2 : w.heap.size + 1 + 1 < w2.heap.size := by have := hg2.size; omega
              have hy1 : w.heap.size + 1 < w2.heap.size := by omega
              have hy0 : w.heap.size < w2.heap.size := by omega
              have hmb : ∀ x y, MB w (w2.alloc (.cells #[.string x, .string y] 28)) w2.heap.size alo ahi blo bhi x y := fun x y =>
                ⟨hG2.alloc _, ((Grew.refl w2).alloc _).at l0, ((Grew.refl w2).alloc _).at l1, ((Grew.refl w2).alloc _).at l2, ((Grew.refl w2).alloc _).at l3, ((Grew.refl w2).alloc _).at l4, ((Grew.refl w2).alloc _).at l5, ((Grew.refl w2).alloc _).fz l4 l6, ((Grew.refl w2).alloc _).fz l5 l7, by simp [go_sem], by simp [go_sem], by simp [go_sem], by simp [go_sem], hy2⟩
              have HM := hid hmb
              clear hmb
              obtain ⟨hgr, xa0, xa1, xb0, xb1, xr0, xr1, xf0, xf1, xt0, xt1, xu0, xu1, xB⟩ := HM.out blo ahi
              go_wp2_with fail
              refine bodyPost_ret (v := .tuple #[.agg #[.string noText, .string noText], .bool false]) (by simp [results, Tryd.results31, go_sem, l4, l5, hy2]) rfl ⟨rfl, ?_⟩
              exact ((hG2.setCell (by simp; omega) _).setCell (by simp; omega) _).alloc _
            | true =>
              have hb : Pl.meetB true true (Pl.okR blo ahi) = true := by unfold Pl.okR Pl.none0; rw [ea, q1]; rfl
              rw [hb]
              clear hb
              have hmax : ∀ (ts : Array TypeId) (t : TypeId) (W : World), (Builtin.max_ ts t #[.string alo, .string blo]).run Tryd.prog W = .ok (.string blo) W := fun ts t W => by rw [run_max_str, if_pos]; exact k1
              go_enter Tryd.func31, Tryd.ntmps31
              go_wp2_with fail
              refine (ref_right alo ahi _ (by omega) (by omega)).mono ?_
              rintro e w1 ⟨rfl, hg⟩
              have hG : Grew w w1 := ((((Grew.refl w).alloc _).alloc _).alloc _).trans hg
              have hz : w.heap.size < w1.heap.size ∧ w.heap.size + 1 < w1.heap.size ∧ w.heap.size + 1 + 1 < w1.heap.size := by have := hg.size; simp at this; omega
              obtain ⟨hz0, hz1, hz2⟩ := hz
              obtain ⟨hc, hf⟩ := hg.cells
              go_wp2_with fail
              refine (ref_right blo bhi _ (by omega) (by omega)).mono ?_
              rintro e w2 ⟨rfl, hg2⟩
              have hG2 : Grew w w2 := hG.trans hg2
              obtain ⟨hc2, hf2⟩ := hg2.cells
              have l0 : w2.cell? ⟨w.heap.size, 0, none⟩ = some (.string alo) := by rw [hc2 _ _ hz0, hc _ _ (by simp only [World.size_alloc]; omega)]; simp [go_sem]
              have l1 : w2.cell? ⟨w.heap.size, 1, none⟩ = some (.string ahi) := by rw [hc2 _ _ hz0, hc _ _ (by simp only [World.size_alloc]; omega)]; simp [go_sem]
              have l2 : w2.cell? ⟨w.heap.size + 1, 0, none⟩ = some (.string blo) := by rw [hc2 _ _ hz1, hc _ _ (by simp only [World.size_alloc]; omega)]; simp [go_sem]
              have l3 : w2.cell? ⟨w.heap.size + 1, 1, none⟩ = some (.string bhi) := by rw [hc2 _ _ hz1, hc _ _ (by simp only [World.size_alloc]; omega)]; simp [go_sem]
              have l4 : w2.cell? ⟨w.heap.size + 1 + 1, 0, none⟩ = some (.string ⟨#[]⟩) := by rw [hc2 _ _ hz2, hc _ _ (by simp only [World.size_alloc]; omega)]; simp [go_sem]
              have l5 : w2.cell? ⟨w.heap.size + 1 + 1, 1, none⟩ = some (.string ⟨#[]⟩) := by rw [hc2 _ _ hz2, hc _ _ (by simp only [World.size_alloc]; omega)]; simp [go_sem]
              have l6 : w2.frozen? ⟨w.heap.size + 1 + 1, 0, none⟩ = false := by rw [hf2 _ _ hz2, hf _ _ (by simp only [World.size_alloc]; omega)]; simp [go_sem]
              have l7 : w2.frozen? ⟨w.heap.size + 1 + 1, 1, none⟩ = false := by rw [hf2 _ _ hz2, hf _ _ (by simp only [World.size_alloc]; omega)]; simp [go_sem]
              have hy2 : w.heap.size + 1 + 1 < w2.heap.size := by have := hg2.size; omega
              have hy1 : w.heap.size + 1 < w2.heap.size := by omega
              have hy0 : w.heap.size < w2.heap.size := by omega
              have hmb : ∀ x y, MB w (w2.alloc (.cells #[.string x, .string y] 28)) w2.heap.size alo ahi blo bhi x y := fun x y =>
                ⟨hG2.alloc _, ((Grew.refl w2).alloc _).at l0, ((Grew.refl w2).alloc _).at l1, ((Grew.refl w2).alloc _).at l2, ((Grew.refl w2).alloc _).at l3, ((Grew.refl w2).alloc _).at l4, ((Grew.refl w2).alloc _).at l5, ((Grew.refl w2).alloc _).fz l4 l6, ((Grew.refl w2).alloc _).fz l5 l7, by simp [go_sem], by simp [go_sem], by simp [go_sem], by simp [go_sem], hy2⟩
              have HM := hid hmb
              clear hmb
              obtain ⟨hgr, xa0, xa1, xb0, xb1, xr0, xr1, xf0, xf1, xt0, xt1, xu0, xu1, xB⟩ := HM.out blo ahi
              go_wp2_with fail
              refine bodyPost_ret (v := .tuple #[.agg #[.string blo, .string ahi], .bool true]) (by simp [results, Tryd.results31, go_sem, l4, l5, hy2]) rfl ⟨rfl, ?_⟩
              exact ((hG2.setCell (by simp; omega) _).setCell (by simp; omega) _).alloc _
          | false =>
            have eb2 : ¬ bhi.toList = [] := by simpa using eb
            have eb3 : (!bhi.toList.isEmpty) = true := by rw [eb]; rfl
            cases k2 : Op.bytesLess bhi.toList ahi.toList with
            | true =>
              have hhi : Pl.meetHiR ahi bhi = bhi := by unfold Pl.meetHiR; rw [if_neg (by unfold Pl.none0; rw [ea]; decide), if_neg (by unfold Pl.none0; rw [eb]; decide), if_pos k2]
              rw [hhi]
              clear hhi
              cases q1 : Op.bytesLess blo.toList bhi.toList with
              | false =>
                have hb : Pl.meetB true true (Pl.okR blo bhi) = false := by unfold Pl.okR Pl.none0; rw [eb, q1]; rfl
                rw [hb]
                clear hb
                have hmax : ∀ (ts : Array TypeId) (t : TypeId) (W : World), (Builtin.max_ ts t #[.string alo, .string blo]).run Tryd.prog W = .ok (.string blo) W := fun ts t W => by rw [run_max_str, if_pos]; exact k1
                go_enter Tryd.func31, Tryd.ntmps31
                go_wp2_with fail
                refine (ref_right alo ahi _ (by omega) (by omega)).mono ?_
                rintro e w1 ⟨rfl, hg⟩
                have hG : Grew w w1 := ((((Grew.refl w).alloc _).alloc _).alloc _).trans hg
                have hz : w.heap.size < w1.heap.size ∧ w.heap.size + 1 < w1.heap.size ∧ w.heap.size + 1 + 1 < w1.heap.size := by have := hg.size; simp at this; omega
                obtain ⟨hz0, hz1, hz2⟩ := hz
                obtain ⟨hc, hf⟩ := hg.cells
                go_wp2_with fail
                refine (ref_right blo bhi _ (by omega) (by omega)).mono ?_
                rintro e w2 ⟨rfl, hg2⟩
                have hG2 : Grew w w2 := hG.trans hg2
                obtain ⟨hc2, hf2⟩ := hg2.cells
                have l0 : w2.cell? ⟨w.heap.size, 0, none⟩ = some (.string alo) := by rw [hc2 _ _ hz0, hc _ _ (by simp only [World.size_alloc]; omega)]; simp [go_sem]
                have l1 : w2.cell? ⟨w.heap.size, 1, none⟩ = some (.string ahi) := by rw [hc2 _ _ hz0, hc _ _ (by simp only [World.size_alloc]; omega)]; simp [go_sem]
                have l2 : w2.cell? ⟨w.heap.size + 1, 0, none⟩ = some (.string blo) := by rw [hc2 _ _ hz1, hc _ _ (by simp only [World.size_alloc]; omega)]; simp [go_sem]
                have l3 : w2.cell? ⟨w.heap.size + 1, 1, none⟩ = some (.string bhi) := by rw [hc2 _ _ hz1, hc _ _ (by simp only [World.size_alloc]; omega)]; simp [go_sem]
                have l4 : w2.cell? ⟨w.heap.size + 1 + 1, 0, none⟩ = some (.string ⟨#[]⟩) := by rw [hc2 _ _ hz2, hc _ _ (by simp only [World.size_alloc]; omega)]; simp [go_sem]
                have l5 : w2.cell? ⟨w.heap.size + 1 + 1, 1, none⟩ = some (.string ⟨#[]⟩) := by rw [hc2 _ _ hz2, hc _ _ (by simp only [World.size_alloc]; omega)]; simp [go_sem]
                have l6 : w2.frozen? ⟨w.heap.size + 1 + 1, 0, none⟩ = false := by rw [hf2 _ _ hz2, hf _ _ (by simp only [World.size_alloc]; omega)]; simp [go_sem]
                have l7 : w2.frozen? ⟨w.heap.size + 1 + 1, 1, none⟩ = false := by rw [hf2 _ _ hz2, hf _ _ (by simp only [World.size_alloc]; omega)]; simp [go_sem]
                have hy2 : w.heap.size + 1 + 1 < w2.heap.size := by have := hg2.size; omega
                have hy1 : w.heap.size + 1 < w2.heap.size := by omega
                have hy0 : w.heap.size < w2.heap.size := by omega
                have hmb : ∀ x y, MB w (w2.alloc (.cells #[.string x, .string y] 28)) w2.heap.size alo ahi blo bhi x y := fun x y =>
                  ⟨hG2.alloc _, ((Grew.refl w2).alloc _).at l0, ((Grew.refl w2).alloc _).at l1, ((Grew.refl w2).alloc _).at l2, ((Grew.refl w2).alloc _).at l3, ((Grew.refl w2).alloc _).at l4, ((Grew.refl w2).alloc _).at l5, ((Grew.refl w2).alloc _).fz l4 l6, ((Grew.refl w2).alloc _).fz l5 l7, by simp [go_sem], by simp [go_sem], by simp [go_sem], by simp [go_sem], hy2⟩
                have HM := hid hmb
                clear hmb
                obtain ⟨hgr, xa0, xa1, xb0, xb1, xr0, xr1, xf0, xf1, xt0, xt1, xu0, xu1, xB⟩ := HM.out blo ahi
                go_wp2_with fail
                refine bodyPost_ret (v := .tuple #[.agg #[.string noText, .string noText], .bool false]) (by simp [results, Tryd.results31, go_sem, l4, l5, hy2]) rfl ⟨rfl, ?_⟩
                exact ((hG2.setCell (by simp; omega) _).setCell (by simp; omega) _).alloc _
              | true =>
                have hb : Pl.meetB true true (Pl.okR blo bhi) = true := by unfold Pl.okR Pl.none0; rw [eb, q1]; rfl
                rw [hb]
                clear hb
                have hmax : ∀ (ts : Array TypeId) (t : TypeId) (W : World), (Builtin.max_ ts t #[.string alo, .string blo]).run Tryd.prog W = .ok (.string blo) W := fun ts t W => by rw [run_max_str, if_pos]; exact k1
                go_enter Tryd.func31, Tryd.ntmps31
                go_wp2_with fail
                refine (ref_right alo ahi _ (by omega) (by omega)).mono ?_
                rintro e w1 ⟨rfl, hg⟩
                have hG : Grew w w1 := ((((Grew.refl w).alloc _).alloc _).alloc _).trans hg
                have hz : w.heap.size < w1.heap.size ∧ w.heap.size + 1 < w1.heap.size ∧ w.heap.size + 1 + 1 < w1.heap.size := by have := hg.size; simp at this; omega
                obtain ⟨hz0, hz1, hz2⟩ := hz
                obtain ⟨hc, hf⟩ := hg.cells
                go_wp2_with fail
                refine (ref_right blo bhi _ (by omega) (by omega)).mono ?_
                rintro e w2 ⟨rfl, hg2⟩
                have hG2 : Grew w w2 := hG.trans hg2
                obtain ⟨hc2, hf2⟩ := hg2.cells
                have l0 : w2.cell? ⟨w.heap.size, 0, none⟩ = some (.string alo) := by rw [hc2 _ _ hz0, hc _ _ (by simp only [World.size_alloc]; omega)]; simp [go_sem]
                have l1 : w2.cell? ⟨w.heap.size, 1, none⟩ = some (.string ahi) := by rw [hc2 _ _ hz0, hc _ _ (by simp only [World.size_alloc]; omega)]; simp [go_sem]
                have l2 : w2.cell? ⟨w.heap.size + 1, 0, none⟩ = some (.string blo) := by rw [hc2 _ _ hz1, hc _ _ (by simp only [World.size_alloc]; omega)]; simp [go_sem]
                have l3 : w2.cell? ⟨w.heap.size + 1, 1, none⟩ = some (.string bhi) := by rw [hc2 _ _ hz1, hc _ _ (by simp only [World.size_alloc]; omega)]; simp [go_sem]
                have l4 : w2.cell? ⟨w.heap.size + 1 + 1, 0, none⟩ = some (.string ⟨#[]⟩) := by rw [hc2 _ _ hz2, hc _ _ (by simp only [World.size_alloc]; omega)]; simp [go_sem]
                have l5 : w2.cell? ⟨w.heap.size + 1 + 1, 1, none⟩ = some (.string ⟨#[]⟩) := by rw [hc2 _ _ hz2, hc _ _ (by simp only [World.size_alloc]; omega)]; simp [go_sem]
                have l6 : w2.frozen? ⟨w.heap.size + 1 + 1, 0, none⟩ = false := by rw [hf2 _ _ hz2, hf _ _ (by simp only [World.size_alloc]; omega)]; simp [go_sem]
                have l7 : w2.frozen? ⟨w.heap.size + 1 + 1, 1, none⟩ = false := by rw [hf2 _ _ hz2, hf _ _ (by simp only [World.size_alloc]; omega)]; simp [go_sem]
                have hy2 : w.heap.size + 1 + 1 < w2.heap.size := by have := hg2.size; omega
                have hy1 : w.heap.size + 1 < w2.heap.size := by omega
                have hy0 : w.heap.size < w2.heap.size := by omega
                have hmb : ∀ x y, MB w (w2.alloc (.cells #[.string x, .string y] 28)) w2.heap.size alo ahi blo bhi x y := fun x y =>
                  ⟨hG2.alloc _, ((Grew.refl w2).alloc _).at l0, ((Grew.refl w2).alloc _).at l1, ((Grew.refl w2).alloc _).at l2, ((Grew.refl w2).alloc _).at l3, ((Grew.refl w2).alloc _).at l4, ((Grew.refl w2).alloc _).at l5, ((Grew.refl w2).alloc _).fz l4 l6, ((Grew.refl w2).alloc _).fz l5 l7, by simp [go_sem], by simp [go_sem], by simp [go_sem], by simp [go_sem], hy2⟩
                have HM := hid hmb
                clear hmb
                obtain ⟨hgr, xa0, xa1, xb0, xb1, xr0, xr1, xf0, xf1, xt0, xt1, xu0, xu1, xB⟩ := HM.out blo ahi
                go_wp2_with fail
                refine bodyPost_ret (v := .tuple #[.agg #[.string blo, .string bhi], .bool true]) (by simp [results, Tryd.results31, go_sem, l4, l5, hy2]) rfl ⟨rfl, ?_⟩
                exact ((hG2.setCell (by simp; omega) _).setCell (by simp; omega) _).alloc _
            | false =>
              have hhi : Pl.meetHiR ahi bhi = ahi := by unfold Pl.meetHiR; rw [if_neg (by unfold Pl.none0; rw [ea]; decide), if_neg (by unfold Pl.none0; rw [eb]; decide), if_neg (by rw [k2]; decide)]
              rw [hhi]
              clear hhi
              cases q1 : Op.bytesLess blo.toList ahi.toList with
              | false =>
                have hb : Pl.meetB true true (Pl.okR blo ahi) = false := by unfold Pl.okR Pl.none0; rw [ea, q1]; rfl
                rw [hb]
                clear hb
                have hmax : ∀ (ts : Array TypeId) (t : TypeId) (W : World), (Builtin.max_ ts t #[.string alo, .string blo]).run Tryd.prog W = .ok (.string blo) W := fun ts t W => by rw [run_max_str, if_pos]; exact k1
                go_enter Tryd.func31, Tryd.ntmps31
                go_wp2_with fail
                refine (ref_right alo ahi _ (by omega) (by omega)).mono ?_
                rintro e w1 ⟨rfl, hg⟩
                have hG : Grew w w1 := ((((Grew.refl w).alloc _).alloc _).alloc _).trans hg
                have hz : w.heap.size < w1.heap.size ∧ w.heap.size + 1 < w1.heap.size ∧ w.heap.size + 1 + 1 < w1.heap.size := by have := hg.size; simp at this; omega
                obtain ⟨hz0, hz1, hz2⟩ := hz
                obtain ⟨hc, hf⟩ := hg.cells
                go_wp2_with fail
                refine (ref_right blo bhi _ (by omega) (by omega)).mono ?_
                rintro e w2 ⟨rfl, hg2⟩
                have hG2 : Grew w w2 := hG.trans hg2
                obtain ⟨hc2, hf2⟩ := hg2.cells
                have l0 : w2.cell? ⟨w.heap.size, 0, none⟩ = some (.string alo) := by rw [hc2 _ _ hz0, hc _ _ (by simp only [World.size_alloc]; omega)]; simp [go_sem]
                have l1 : w2.cell? ⟨w.heap.size, 1, none⟩ = some (.string ahi) := by rw [hc2 _ _ hz0, hc _ _ (by simp only [World.size_alloc]; omega)]; simp [go_sem]
                have l2 : w2.cell? ⟨w.heap.size + 1, 0, none⟩ = some (.string blo) := by rw [hc2 _ _ hz1, hc _ _ (by simp only [World.size_alloc]; omega)]; simp [go_sem]
                have l3 : w2.cell? ⟨w.heap.size + 1, 1, none⟩ = some (.string bhi) := by rw [hc2 _ _ hz1, hc _ _ (by simp only [World.size_alloc]; omega)]; simp [go_sem]
                have l4 : w2.cell? ⟨w.heap.size + 1 + 1, 0, none⟩ = some (.string ⟨#[]⟩) := by rw [hc2 _ _ hz2, hc _ _ (by simp only [World.size_alloc]; omega)]; simp [go_sem]
                have l5 : w2.cell? ⟨w.heap.size + 1 + 1, 1, none⟩ = some (.string ⟨#[]⟩) := by rw [hc2 _ _ hz2, hc _ _ (by simp only [World.size_alloc]; omega)]; simp [go_sem]
                have l6 : w2.frozen? ⟨w.heap.size + 1 + 1, 0, none⟩ = false := by rw [hf2 _ _ hz2, hf _ _ (by simp only [World.size_alloc]; omega)]; simp [go_sem]
                have l7 : w2.frozen? ⟨w.heap.size + 1 + 1, 1, none⟩ = false := by rw [hf2 _ _ hz2, hf _ _ (by simp only [World.size_alloc]; omega)]; simp [go_sem]
                have hy2 : w.heap.size + 1 + 1 < w2.heap.size := by have := hg2.size; omega
                have hy1 : w.heap.size + 1 < w2.heap.size := by omega
                have hy0 : w.heap.size < w2.heap.size := by omega
                have hmb : ∀ x y, MB w (w2.alloc (.cells #[.string x, .string y] 28)) w2.heap.size alo ahi blo bhi x y := fun x y =>
                  ⟨hG2.alloc _, ((Grew.refl w2).alloc _).at l0, ((Grew.refl w2).alloc _).at l1, ((Grew.refl w2).alloc _).at l2, ((Grew.refl w2).alloc _).at l3, ((Grew.refl w2).alloc _).at l4, ((Grew.refl w2).alloc _).at l5, ((Grew.refl w2).alloc _).fz l4 l6, ((Grew.refl w2).alloc _).fz l5 l7, by simp [go_sem], by simp [go_sem], by simp [go_sem], by simp [go_sem], hy2⟩
                have HM := hid hmb
                clear hmb
                obtain ⟨hgr, xa0, xa1, xb0, xb1, xr0, xr1, xf0, xf1, xt0, xt1, xu0, xu1, xB⟩ := HM.out blo ahi
                go_wp2_with fail
                refine bodyPost_ret (v := .tuple #[.agg #[.string noText, .string noText], .bool false]) (by simp [results, Tryd.results31, go_sem, l4, l5, hy2]) rfl ⟨rfl, ?_⟩
                exact ((hG2.setCell (by simp; omega) _).setCell (by simp; omega) _).alloc _
              | true =>
                have hb : Pl.meetB true true (Pl.okR blo ahi) = true := by unfold Pl.okR Pl.none0; rw [ea, q1]; rfl
                rw [hb]
                clear hb
                have hmax : ∀ (ts : Array TypeId) (t : TypeId) (W : World), (Builtin.max_ ts t #[.string alo, .string blo]).run Tryd.prog W = .ok (.string blo) W := fun ts t W => by rw [run_max_str, if_pos]; exact k1
                go_enter Tryd.func31, Tryd.ntmps31
                go_wp2_with fail
                refine (ref_right alo ahi _ (by omega) (by omega)).mono ?_
                rintro e w1 ⟨rfl, hg⟩
                have hG : Grew w w1 := ((((Grew.refl w).alloc _).alloc _).alloc _).trans hg
                have hz : w.heap.size < w1.heap.size ∧ w.heap.size + 1 < w1.heap.size ∧ w.heap.size + 1 + 1 < w1.heap.size := by have := hg.size; simp at this; omega
                obtain ⟨hz0, hz1, hz2⟩ := hz
                obtain ⟨hc, hf⟩ := hg.cells
                go_wp2_with fail
                refine (ref_right blo bhi _ (by omega) (by omega)).mono ?_
                rintro e w2 ⟨rfl, hg2⟩
                have hG2 : Grew w w2 := hG.trans hg2
                obtain ⟨hc2, hf2⟩ := hg2.cells
                have l0 : w2.cell? ⟨w.heap.size, 0, none⟩ = some (.string alo) := by rw [hc2 _ _ hz0, hc _ _ (by simp only [World.size_alloc]; omega)]; simp [go_sem]
                have l1 : w2.cell? ⟨w.heap.size, 1, none⟩ = some (.string ahi) := by rw [hc2 _ _ hz0, hc _ _ (by simp only [World.size_alloc]; omega)]; simp [go_sem]
                have l2 : w2.cell? ⟨w.heap.size + 1, 0, none⟩ = some (.string blo) := by rw [hc2 _ _ hz1, hc _ _ (by simp only [World.size_alloc]; omega)]; simp [go_sem]
                have l3 : w2.cell? ⟨w.heap.size + 1, 1, none⟩ = some (.string bhi) := by rw [hc2 _ _ hz1, hc _ _ (by simp only [World.size_alloc]; omega)]; simp [go_sem]
                have l4 : w2.cell? ⟨w.heap.size + 1 + 1, 0, none⟩ = some (.string ⟨#[]⟩) := by rw [hc2 _ _ hz2, hc _ _ (by simp only [World.size_alloc]; omega)]; simp [go_sem]
                have l5 : w2.cell? ⟨w.heap.size + 1 + 1, 1, none⟩ = some (.string ⟨#[]⟩) := by rw [hc2 _ _ hz2, hc _ _ (by simp only [World.size_alloc]; omega)]; simp [go_sem]
                have l6 : w2.frozen? ⟨w.heap.size + 1 + 1, 0, none⟩ = false := by rw [hf2 _ _ hz2, hf _ _ (by simp only [World.size_alloc]; omega)]; simp [go_sem]
                have l7 : w2.frozen? ⟨w.heap.size + 1 + 1, 1, none⟩ = false := by rw [hf2 _ _ hz2, hf _ _ (by simp only [World.size_alloc]; omega)]; simp [go_sem]
                have hy2 : w.heap.size + 1 + 1 < w2.heap.size := by have := hg2.size; omega
                have hy1 : w.heap.size + 1 < w2.heap.size := by omega
                have hy0 : w.heap.size < w2.heap.size := by omega
                have hmb : ∀ x y, MB w (w2.alloc (.cells #[.string x, .string y] 28)) w2.heap.size alo ahi blo bhi x y := fun x y =>
                  ⟨hG2.alloc _, ((Grew.refl w2).alloc _).at l0, ((Grew.refl w2).alloc _).at l1, ((Grew.refl w2).alloc _).at l2, ((Grew.refl w2).alloc _).at l3, ((Grew.refl w2).alloc _).at l4, ((Grew.refl w2).alloc _).at l5, ((Grew.refl w2).alloc _).fz l4 l6, ((Grew.refl w2).alloc _).fz l5 l7, by simp [go_sem], by simp [go_sem], by simp [go_sem], by simp [go_sem], hy2⟩
                have HM := hid hmb
                clear hmb
                obtain ⟨hgr, xa0, xa1, xb0, xb1, xr0, xr1, xf0, xf1, xt0, xt1, xu0, xu1, xB⟩ := HM.out blo ahi
                go_wp2_with fail
                refine bodyPost_ret (v := .tuple #[.agg #[.string blo, .string ahi], .bool true]) (by simp [results, Tryd.results31, go_sem, l4, l5, hy2]) rfl ⟨rfl, ?_⟩
                exact ((hG2.setCell (by simp; omega) _).setCell (by simp; omega) _).alloc _
      | false =>
        have hlo : Pl.meetLoR alo blo = alo := by unfold Pl.meetLoR; rw [if_neg (by rw [k1]; decide)]
        rw [hlo]
        clear hlo
        cases ea : ahi.toList.isEmpty with
        | true =>
          have ea2 : ahi.toList = [] := by simpa using ea
          have hhi : Pl.meetHiR ahi bhi = bhi := by unfold Pl.meetHiR; rw [if_pos (show Pl.none0 ahi = true from ea)]
          rw [hhi]
          clear hhi
          cases eb : bhi.toList.isEmpty with
          | true =>
            have eb2 : bhi.toList = [] := by simpa using eb
            have hb : Pl.meetB true true (Pl.okR alo bhi) = true := by unfold Pl.okR Pl.none0; rw [eb]; rfl
            rw [hb]
            clear hb
            have hmax : ∀ (ts : Array TypeId) (t : TypeId) (W : World), (Builtin.max_ ts t #[.string alo, .string blo]).run Tryd.prog W = .ok (.string alo) W := fun ts t W => by rw [run_max_str, if_neg]; rw [k1]; decide
            go_enter Tryd.func31, Tryd.ntmps31
            go_wp2_with fail
            refine (ref_right alo ahi _ (by omega) (by omega)).mono ?_
            rintro e w1 ⟨rfl, hg⟩
            have hG : Grew w w1 := ((((Grew.refl w).alloc _).alloc _).alloc _).trans hg
            have hz : w.heap.size < w1.heap.size ∧ w.heap.size + 1 < w1.heap.size ∧ w.heap.size + 1 + 1 < w1.heap.size := by have := hg.size; simp at this; omega
            obtain ⟨hz0, hz1, hz2⟩ := hz
            obtain ⟨hc, hf⟩ := hg.cells
            go_wp2_with fail
            refine (ref_right blo bhi _ (by omega) (by omega)).mono ?_
            rintro e w2 ⟨rfl, hg2⟩
            have hG2 : Grew w w2 := hG.trans hg2
            obtain ⟨hc2, hf2⟩ := hg2.cells
            have l0 : w2.cell? ⟨w.heap.size, 0, none⟩ = some (.string alo) := by rw [hc2 _ _ hz0, hc _ _ (by simp only [World.size_alloc]; omega)]; simp [go_sem]
            have l1 : w2.cell? ⟨w.heap.size, 1, none⟩ = some (.string ahi) := by rw [hc2 _ _ hz0, hc _ _ (by simp only [World.size_alloc]; omega)]; simp [go_sem]
            have l2 : w2.cell? ⟨w.heap.size + 1, 0, none⟩ = some (.string blo) := by rw [hc2 _ _ hz1, hc _ _ (by simp only [World.size_alloc]; omega)]; simp [go_sem]
            have l3 : w2.cell? ⟨w.heap.size + 1, 1, none⟩ = some (.string bhi) := by rw [hc2 _ _ hz1, hc _ _ (by simp only [World.size_alloc]; omega)]; simp [go_sem]
            have l4 : w2.cell? ⟨w.heap.size + 1 + 1, 0, none⟩ = some (.string ⟨#[]⟩) := by rw [hc2 _ _ hz2, hc _ _ (by simp only [World.size_alloc]; omega)]; simp [go_sem]
            have l5 : w2.cell? ⟨w.heap.size + 1 + 1, 1, none⟩ = some (.string ⟨#[]⟩) := by rw [hc2 _ _ hz2, hc _ _ (by simp only [World.size_alloc]; omega)]; simp [go_sem]
            have l6 : w2.frozen? ⟨w.heap.size + 1 + 1, 0, none⟩ = false := by rw [hf2 _ _ hz2, hf _ _ (by simp only [World.size_alloc]; omega)]; simp [go_sem]
            have l7 : w2.frozen? ⟨w.heap.size + 1 + 1, 1, none⟩ = false := by rw [hf2 _ _ hz2, hf _ _ (by simp only [World.size_alloc]; omega)]; simp [go_sem]
            have hy2 : w.heap.size + 1 + 1 < w2.heap.size := by have := hg2.size; omega
            have hy1 : w.heap.size + 1 < w2.heap.size := by omega
            have hy0 : w.heap.size < w2.heap.size := by omega
            have hmb : ∀ x y, MB w (w2.alloc (.cells #[.string x, .string y] 28)) w2.heap.size alo ahi blo bhi x y := fun x y =>
              ⟨hG2.alloc _, ((Grew.refl w2).alloc _).at l0, ((Grew.refl w2).alloc _).at l1, ((Grew.refl w2).alloc _).at l2, ((Grew.refl w2).alloc _).at l3, ((Grew.refl w2).alloc _).at l4, ((Grew.refl w2).alloc _).at l5, ((Grew.refl w2).alloc _).fz l4 l6, ((Grew.refl w2).alloc _).fz l5 l7, by simp [go_sem], by simp [go_sem], by simp [go_sem], by simp [go_sem], hy2⟩
            have HM := hid hmb
            clear hmb
            obtain ⟨hgr, xa0, xa1, xb0, xb1, xr0, xr1, xf0, xf1, xt0, xt1, xu0, xu1, xB⟩ := HM.out alo ahi
            go_wp2_with fail
            refine bodyPost_ret (v := .tuple #[.agg #[.string alo, .string bhi], .bool true]) (by simp [results, Tryd.results31, go_sem, l4, l5, hy2]) rfl ⟨rfl, ?_⟩
            exact ((hG2.setCell (by simp; omega) _).setCell (by simp; omega) _).alloc _
          | false =>
            have eb2 : ¬ bhi.toList = [] := by simpa using eb
            have eb3 : (!bhi.toList.isEmpty) = true := by rw [eb]; rfl
            cases q1 : Op.bytesLess alo.toList bhi.toList with
            | false =>
              have hb : Pl.meetB true true (Pl.okR alo bhi) = false := by unfold Pl.okR Pl.none0; rw [eb, q1]; rfl
              rw [hb]
              clear hb
              have hmax : ∀ (ts : Array TypeId) (t : TypeId) (W : World), (Builtin.max_ ts t #[.string alo, .string blo]).run Tryd.prog W = .ok (.string alo) W := fun ts t W => by rw [run_max_str, if_neg]; rw [k1]; decide
              go_enter Tryd.func31, Tryd.ntmps31
              go_wp2_with fail
              refine (ref_right alo ahi _ (by omega) (by omega)).mono ?_
              rintro e w1 ⟨rfl, hg⟩
              have hG : Grew w w1 := ((((Grew.refl w).alloc _).alloc _).alloc _).trans hg
              have hz : w.heap.size < w1.heap.size ∧ w.heap.size + 1 < w1.heap.size ∧ w.heap.size + 1 + 1 < w1.heap.size := by have := hg.size; simp at this; omega
              obtain ⟨hz0, hz1, hz2⟩ := hz
              obtain ⟨hc, hf⟩ := hg.cells
              go_wp2_with fail
              refine (ref_right blo bhi _ (by omega) (by omega)).mono ?_
              rintro e w2 ⟨rfl, hg2⟩
              have hG2 : Grew w w2 := hG.trans hg2
              obtain ⟨hc2, hf2⟩ := hg2.cells
              have l0 : w2.cell? ⟨w.heap.size, 0, none⟩ = some (.string alo) := by rw [hc2 _ _ hz0, hc _ _ (by simp only [World.size_alloc]; omega)]; simp [go_sem]
              have l1 : w2.cell? ⟨w.heap.size, 1, none⟩ = some (.string ahi) := by rw [hc2 _ _ hz0, hc _ _ (by simp only [World.size_alloc]; omega)]; simp [go_sem]
              have l2 : w2.cell? ⟨w.heap.size + 1, 0, none⟩ = some (.string blo) := by rw [hc2 _ _ hz1, hc _ _ (by simp only [World.size_alloc]; omega)]; simp [go_sem]
              have l3 : w2.cell? ⟨w.heap.size + 1, 1, none⟩ = some (.string bhi) := by rw [hc2 _ _ hz1, hc _ _ (by simp only [World.size_alloc]; omega)]; simp [go_sem]
              have l4 : w2.cell? ⟨w.heap.size + 1 + 1, 0, none⟩ = some (.string ⟨#[]⟩) := by rw [hc2 _ _ hz2, hc _ _ (by simp only [World.size_alloc]; omega)]; simp [go_sem]
              have l5 : w2.cell? ⟨w.heap.size + 1 + 1, 1, none⟩ = some (.string ⟨#[]⟩) := by rw [hc2 _ _ hz2, hc _ _ (by simp only [World.size_alloc]; omega)]; simp [go_sem]
              have l6 : w2.frozen? ⟨w.heap.size + 1 + 1, 0, none⟩ = false := by rw [hf2 _ _ hz2, hf _ _ (by simp only [World.size_alloc]; omega)]; simp [go_sem]
              have l7 : w2.frozen? ⟨w.heap.size + 1 + 1, 1, none⟩ = false := by rw [hf2 _ _ hz2, hf _ _ (by simp only [World.size_alloc]; omega)]; simp [go_sem]
              have hy2 : w.heap.size + 1 + 1 < w2.heap.size := by have := hg2.size; omega
              have hy1 : w.heap.size + 1 < w2.heap.size := by omega
              have hy0 : w.heap.size < w2.heap.size := by omega
              have hmb : ∀ x y, MB w (w2.alloc (.cells #[.string x, .string y] 28)) w2.heap.size alo ahi blo bhi x y := fun x y =>
                ⟨hG2.alloc _, ((Grew.refl w2).alloc _).at l0, ((Grew.refl w2).alloc _).at l1, ((Grew.refl w2).alloc _).at l2, ((Grew.refl w2).alloc _).at l3, ((Grew.refl w2).alloc _).at l4, ((Grew.refl w2).alloc _).at l5, ((Grew.refl w2).alloc _).fz l4 l6, ((Grew.refl w2).alloc _).fz l5 l7, by simp [go_sem], by simp [go_sem], by simp [go_sem], by simp [go_sem], hy2⟩
              have HM := hid hmb
              clear hmb
              obtain ⟨hgr, xa0, xa1, xb0, xb1, xr0, xr1, xf0, xf1, xt0, xt1, xu0, xu1, xB⟩ := HM.out alo ahi
              go_wp2_with fail
              refine bodyPost_ret (v := .tuple #[.agg #[.string noText, .string noText], .bool false]) (by simp [results, Tryd.results31, go_sem, l4, l5, hy2]) rfl ⟨rfl, ?_⟩
              exact ((hG2.setCell (by simp; omega) _).setCell (by simp; omega) _).alloc _
            | true =>
              have hb : Pl.meetB true true (Pl.okR alo bhi) = true := by unfold Pl.okR Pl.none0; rw [eb, q1]; rfl
              rw [hb]
              clear hb
              have hmax : ∀ (ts : Array TypeId) (t : TypeId) (W : World), (Builtin.max_ ts t #[.string alo, .string blo]).run Tryd.prog W = .ok (.string alo) W := fun ts t W => by rw [run_max_str, if_neg]; rw [k1]; decide
              go_enter Tryd.func31, Tryd.ntmps31
              go_wp2_with fail
              refine (ref_right alo ahi _ (by omega) (by omega)).mono ?_
              rintro e w1 ⟨rfl, hg⟩
              have hG : Grew w w1 := ((((Grew.refl w).alloc _).alloc _).alloc _).trans hg
              have hz : w.heap.size < w1.heap.size ∧ w.heap.size + 1 < w1.heap.size ∧ w.heap.size + 1 + 1 < w1.heap.size := by have := hg.size; simp at this; omega
              obtain ⟨hz0, hz1, hz2⟩ := hz
              obtain ⟨hc, hf⟩ := hg.cells
              go_wp2_with fail
              refine (ref_right blo bhi _ (by omega) (by omega)).mono ?_
              rintro e w2 ⟨rfl, hg2⟩
              have hG2 : Grew w w2 := hG.trans hg2
              obtain ⟨hc2, hf2⟩ := hg2.cells
              have l0 : w2.cell? ⟨w.heap.size, 0, none⟩ = some (.string alo) := by rw [hc2 _ _ hz0, hc _ _ (by simp only [World.size_alloc]; omega)]; simp [go_sem]
              have l1 : w2.cell? ⟨w.heap.size, 1, none⟩ = some (.string ahi) := by rw [hc2 _ _ hz0, hc _ _ (by simp only [World.size_alloc]; omega)]; simp [go_sem]
              have l2 : w2.cell? ⟨w.heap.size + 1, 0, none⟩ = some (.string blo) := by rw [hc2 _ _ hz1, hc _ _ (by simp only [World.size_alloc]; omega)]; simp [go_sem]
              have l3 : w2.cell? ⟨w.heap.size + 1, 1, none⟩ = some (.string bhi) := by rw [hc2 _ _ hz1, hc _ _ (by simp only [World.size_alloc]; omega)]; simp [go_sem]
              have l4 : w2.cell? ⟨w.heap.size + 1 + 1, 0, none⟩ = some (.string ⟨#[]⟩) := by rw [hc2 _ _ hz2, hc _ _ (by simp only [World.size_alloc]; omega)]; simp [go_sem]
              have l5 : w2.cell? ⟨w.heap.size + 1 + 1, 1, none⟩ = some (.string ⟨#[]⟩) := by rw [hc2 _ _ hz2, hc _ _ (by simp only [World.size_alloc]; omega)]; simp [go_sem]
              have l6 : w2.frozen? ⟨w.heap.size + 1 + 1, 0, none⟩ = false := by rw [hf2 _ _ hz2, hf _ _ (by simp only [World.size_alloc]; omega)]; simp [go_sem]
              have l7 : w2.frozen? ⟨w.heap.size + 1 + 1, 1, none⟩ = false := by rw [hf2 _ _ hz2, hf _ _ (by simp only [World.size_alloc]; omega)]; simp [go_sem]
              have hy2 : w.heap.size + 1 + 1 < w2.heap.size := by have := hg2.size; omega
              have hy1 : w.heap.size + 1 < w2.heap.size := by omega
              have hy0 : w.heap.size < w2.heap.size := by omega
              have hmb : ∀ x y, MB w (w2.alloc (.cells #[.string x, .string y] 28)) w2.heap.size alo ahi blo bhi x y := fun x y =>
                ⟨hG2.alloc _, ((Grew.refl w2).alloc _).at l0, ((Grew.refl w2).alloc _).at l1, ((Grew.refl w2).alloc _).at l2, ((Grew.refl w2).alloc _).at l3, ((Grew.refl w2).alloc _).at l4, ((Grew.refl w2).alloc _).at l5, ((Grew.refl w2).alloc _).fz l4 l6, ((Grew.refl w2).alloc _).fz l5 l7, by simp [go_sem], by simp [go_sem], by simp [go_sem], by simp [go_sem], hy2⟩
              have HM := hid hmb
              clear hmb
              obtain ⟨hgr, xa0, xa1, xb0, xb1, xr0, xr1, xf0, xf1, xt0, xt1, xu0, xu1, xB⟩ := HM.out alo ahi
              go_wp2_with fail
              refine bodyPost_ret (v := .tuple #[.agg #[.string alo, .string bhi], .bool true]) (by simp [results, Tryd.results31, go_sem, l4, l5, hy2]) rfl ⟨rfl, ?_⟩
              exact ((hG2.setCell (by simp; omega) _).setCell (by simp; omega) _).alloc _
        | false =>
          have ea2 : ¬ ahi.toList = [] := by simpa using ea
          have ea3 : (!ahi.toList.isEmpty) = true := by rw [ea]; rfl
          cases eb : bhi.toList.isEmpty with
          | true =>
            have eb2 : bhi.toList = [] := by simpa using eb
            have hhi : Pl.meetHiR ahi bhi = ahi := by unfold Pl.meetHiR; rw [if_neg (by unfold Pl.none0; rw [ea]; decide), if_pos (show Pl.none0 bhi = true from eb)]
            rw [hhi]
            clear hhi
            cases q1 : Op.bytesLess alo.toList ahi.toList with
            | false =>
              have hb : Pl.meetB true true (Pl.okR alo ahi) = false := by unfold Pl.okR Pl.none0; rw [ea, q1]; rfl
              rw [hb]
              clear hb
              have hmax : ∀ (ts : Array TypeId) (t : TypeId) (W : World), (Builtin.max_ ts t #[.string alo, .string blo]).run Tryd.prog W = .ok (.string alo) W := fun ts t W => by rw [run_max_str, if_neg]; rw [k1]; decide
              go_enter Tryd.func31, Tryd.ntmps31
              go_wp2_with fail
              refine (ref_right alo ahi _ (by omega) (by omega)).mono ?_
              rintro e w1 ⟨rfl, hg⟩
              have hG : Grew w w1 := ((((Grew.refl w).alloc _).alloc _).alloc _).trans hg
              have hz : w.heap.size < w1.heap.size ∧ w.heap.size + 1 < w1.heap.size ∧ w.heap.size + 1 + 1 < w1.heap.size := by have := hg.size; simp at this; omega
              obtain ⟨hz0, hz1, hz2⟩ := hz
              obtain ⟨hc, hf⟩ := hg.cells
              go_wp2_with fail
              refine (ref_right blo bhi _ (by omega) (by omega)).mono ?_
              rintro e w2 ⟨rfl, hg2⟩
              have hG2 : Grew w w2 := hG.trans hg2
              obtain ⟨hc2, hf2⟩ := hg2.cells
              have l0 : w2.cell? ⟨w.heap.size, 0, none⟩ = some (.string alo) := by rw [hc2 _ _ hz0, hc _ _ (by simp only [World.size_alloc]; omega)]; simp [go_sem]
              have l1 : w2.cell? ⟨w.heap.size, 1, none⟩ = some (.string ahi) := by rw [hc2 _ _ hz0, hc _ _ (by simp only [World.size_alloc]; omega)]; simp [go_sem]
              have l2 : w2.cell? ⟨w.heap.size + 1, 0, none⟩ = some (.string blo) := by rw [hc2 _ _ hz1, hc _ _ (by simp only [World.size_alloc]; omega)]; simp [go_sem]
              have l3 : w2.cell? ⟨w.heap.size + 1, 1, none⟩ = some (.string bhi) := by rw [hc2 _ _ hz1, hc _ _ (by simp only [World.size_alloc]; omega)]; simp [go_sem]
              have l4 : w2.cell? ⟨w.heap.size + 1 + 1, 0, none⟩ = some (.string ⟨#[]⟩) := by rw [hc2 _ _ hz2, hc _ _ (by simp only [World.size_alloc]; omega)]; simp [go_sem]
              have l5 : w2.cell? ⟨w.heap.size + 1 + 1, 1, none⟩ = some (.string ⟨#[]⟩) := by rw [hc2 _ _ hz2, hc _ _ (by simp only [World.size_alloc]; omega)]; simp [go_sem]
              have l6 : w2.frozen? ⟨w.heap.size + 1 + 1, 0, none⟩ = false := by rw [hf2 _ _ hz2, hf _ _ (by simp only [World.size_alloc]; omega)]; simp [go_sem]
              have l7 : w2.frozen? ⟨w.heap.size + 1 + 1, 1, none⟩ = false := by rw [hf2 _ _ hz2, hf _ _ (by simp only [World.size_alloc]; omega)]; simp [go_sem]
              have hy2 : w.heap.size + 1 + 1 < w2.heap.size := by have := hg2.size; omega
              have hy1 : w.heap.size + 1 < w2.heap.size := by omega
              have hy0 : w.heap.size < w2.heap.size := by omega
              have hmb : ∀ x y, MB w (w2.alloc (.cells #[.string x, .string y] 28)) w2.heap.size alo ahi blo bhi x y := fun x y =>
                ⟨hG2.alloc _, ((Grew.refl w2).alloc _).at l0, ((Grew.refl w2).alloc _).at l1, ((Grew.refl w2).alloc _).at l2, ((Grew.refl w2).alloc _).at l3, ((Grew.refl w2).alloc _).at l4, ((Grew.refl w2).alloc _).at l5, ((Grew.refl w2).alloc _).fz l4 l6, ((Grew.refl w2).alloc _).fz l5 l7, by simp [go_sem], by simp [go_sem], by simp [go_sem], by simp [go_sem], hy2⟩
              have HM := hid hmb
              clear hmb
              obtain ⟨hgr, xa0, xa1, xb0, xb1, xr0, xr1, xf0, xf1, xt0, xt1, xu0, xu1, xB⟩ := HM.out alo ahi
              go_wp2_with fail
              refine bodyPost_ret (v := .tuple #[.agg #[.string noText, .string noText], .bool false]) (by simp [results, Tryd.results31, go_sem, l4, l5, hy2]) rfl ⟨rfl, ?_⟩
              exact ((hG2.setCell (by simp; omega) _).setCell (by simp; omega) _).alloc _
            | true =>
              have hb : Pl.meetB true true (Pl.okR alo ahi) = true := by unfold Pl.okR Pl.none0; rw [ea, q1]; rfl
              rw [hb]
              clear hb
              have hmax : ∀ (ts : Array TypeId) (t : TypeId) (W : World), (Builtin.max_ ts t #[.string alo, .string blo]).run Tryd.prog W = .ok (.string alo) W := fun ts t W => by rw [run_max_str, if_neg]; rw [k1]; decide
              go_enter Tryd.func31, Tryd.ntmps31
              go_wp2_with fail
              refine (ref_right alo ahi _ (by omega) (by omega)).mono ?_
              rintro e w1 ⟨rfl, hg⟩
              have hG : Grew w w1 := ((((Grew.refl w).alloc _).alloc _).alloc _).trans hg
              have hz : w.heap.size < w1.heap.size ∧ w.heap.size + 1 < w1.heap.size ∧ w.heap.size + 1 + 1 < w1.heap.size := by have := hg.size; simp at this; omega
              obtain ⟨hz0, hz1, hz2⟩ := hz
              obtain ⟨hc, hf⟩ := hg.cells
              go_wp2_with fail
              refine (ref_right blo bhi _ (by omega) (by omega)).mono ?_
              rintro e w2 ⟨rfl, hg2⟩
              have hG2 : Grew w w2 := hG.trans hg2
              obtain ⟨hc2, hf2⟩ := hg2.cells
              have l0 : w2.cell? ⟨w.heap.size, 0, none⟩ = some (.string alo) := by rw [hc2 _ _ hz0, hc _ _ (by simp only [World.size_alloc]; omega)]; simp [go_sem]
              have l1 : w2.cell? ⟨w.heap.size, 1, none⟩ = some (.string ahi) := by rw [hc2 _ _ hz0, hc _ _ (by simp only [World.size_alloc]; omega)]; simp [go_sem]
              have l2 : w2.cell? ⟨w.heap.size + 1, 0, none⟩ = some (.string blo) := by rw [hc2 _ _ hz1, hc _ _ (by simp only [World.size_alloc]; omega)]; simp [go_sem]
              have l3 : w2.cell? ⟨w.heap.size + 1, 1, none⟩ = some (.string bhi) := by rw [hc2 _ _ hz1, hc _ _ (by simp only [World.size_alloc]; omega)]; simp [go_sem]
              have l4 : w2.cell? ⟨w.heap.size + 1 + 1, 0, none⟩ = some (.string ⟨#[]⟩) := by rw [hc2 _ _ hz2, hc _ _ (by simp only [World.size_alloc]; omega)]; simp [go_sem]
              have l5 : w2.cell? ⟨w.heap.size + 1 + 1, 1, none⟩ = some (.string ⟨#[]⟩) := by rw [hc2 _ _ hz2, hc _ _ (by simp only [World.size_alloc]; omega)]; simp [go_sem]
              have l6 : w2.frozen? ⟨w.heap.size + 1 + 1, 0, none⟩ = false := by rw [hf2 _ _ hz2, hf _ _ (by simp only [World.size_alloc]; omega)]; simp [go_sem]
              have l7 : w2.frozen? ⟨w.heap.size + 1 + 1, 1, none⟩ = false := by rw [hf2 _ _ hz2, hf _ _ (by simp only [World.size_alloc]; omega)]; simp [go_sem]
              have hy2 : w.heap.size + 1 + 1 < w2.heap.size := by have := hg2.size; omega
              have hy1 : w.heap.size + 1 < w2.heap.size := by omega
              have hy0 : w.heap.size < w2.heap.size := by omega
              have hmb : ∀ x y, MB w (w2.alloc (.cells #[.string x, .string y] 28)) w2.heap.size alo ahi blo bhi x y := fun x y =>
                ⟨hG2.alloc _, ((Grew.refl w2).alloc _).at l0, ((Grew.refl w2).alloc _).at l1, ((Grew.refl w2).alloc _).at l2, ((Grew.refl w2).alloc _).at l3, ((Grew.refl w2).alloc _).at l4, ((Grew.refl w2).alloc _).at l5, ((Grew.refl w2).alloc _).fz l4 l6, ((Grew.refl w2).alloc _).fz l5 l7, by simp [go_sem], by simp [go_sem], by simp [go_sem], by simp [go_sem], hy2⟩
              have HM := hid hmb
              clear hmb
              obtain ⟨hgr, xa0, xa1, xb0, xb1, xr0, xr1, xf0, xf1, xt0, xt1, xu0, xu1, xB⟩ := HM.out alo ahi
              go_wp2_with fail
              refine bodyPost_ret (v := .tuple #[.agg #[.string alo, .string ahi], .bool true]) (by simp [results, Tryd.results31, go_sem, l4, l5, hy2]) rfl ⟨rfl, ?_⟩
              exact ((hG2.setCell (by simp; omega) _).setCell (by simp; omega) _).alloc _
          | false =>
            have eb2 : ¬ bhi.toList = [] := by simpa using eb
            have eb3 : (!bhi.toList.isEmpty) = true := by rw [eb]; rfl
            cases k2 : Op.bytesLess bhi.toList ahi.toList with
            | true =>
              have hhi : Pl.meetHiR ahi bhi = bhi := by unfold Pl.meetHiR; rw [if_neg (by unfold Pl.none0; rw [ea]; decide), if_neg (by unfold Pl.none0; rw [eb]; decide), if_pos k2]
              rw [hhi]
              clear hhi
              cases q1 : Op.bytesLess alo.toList bhi.toList with
              | false =>
                have hb : Pl.meetB true true (Pl.okR alo bhi) = false := by unfold Pl.okR Pl.none0; rw [eb, q1]; rfl
                rw [hb]
                clear hb
                have hmax : ∀ (ts : Array TypeId) (t : TypeId) (W : World), (Builtin.max_ ts t #[.string alo, .string blo]).run Tryd.prog W = .ok (.string alo) W := fun ts t W => by rw [run_max_str, if_neg]; rw [k1]; decide
                go_enter Tryd.func31, Tryd.ntmps31
                go_wp2_with fail
                refine (ref_right alo ahi _ (by omega) (by omega)).mono ?_
                rintro e w1 ⟨rfl, hg⟩
                have hG : Grew w w1 := ((((Grew.refl w).alloc _).alloc _).alloc _).trans hg
                have hz : w.heap.size < w1.heap.size ∧ w.heap.size + 1 < w1.heap.size ∧ w.heap.size + 1 + 1 < w1.heap.size := by have := hg.size; simp at this; omega
                obtain ⟨hz0, hz1, hz2⟩ := hz
                obtain ⟨hc, hf⟩ := hg.cells
                go_wp2_with fail
                refine (ref_right blo bhi _ (by omega) (by omega)).mono ?_
                rintro e w2 ⟨rfl, hg2⟩
                have hG2 : Grew w w2 := hG.trans hg2
                obtain ⟨hc2, hf2⟩ := hg2.cells
                have l0 : w2.cell? ⟨w.heap.size, 0, none⟩ = some (.string alo) := by rw [hc2 _ _ hz0, hc _ _ (by simp only [World.size_alloc]; omega)]; simp [go_sem]
                have l1 : w2.cell? ⟨w.heap.size, 1, none⟩ = some (.string ahi) := by rw [hc2 _ _ hz0, hc _ _ (by simp only [World.size_alloc]; omega)]; simp [go_sem]
                have l2 : w2.cell? ⟨w.heap.size + 1, 0, none⟩ = some (.string blo) := by rw [hc2 _ _ hz1, hc _ _ (by simp only [World.size_alloc]; omega)]; simp [go_sem]
                have l3 : w2.cell? ⟨w.heap.size + 1, 1, none⟩ = some (.string bhi) := by rw [hc2 _ _ hz1, hc _ _ (by simp only [World.size_alloc]; omega)]; simp [go_sem]
                have l4 : w2.cell? ⟨w.heap.size + 1 + 1, 0, none⟩ = some (.string ⟨#[]⟩) := by rw [hc2 _ _ hz2, hc _ _ (by simp only [World.size_alloc]; omega)]; simp [go_sem]
                have l5 : w2.cell? ⟨w.heap.size + 1 + 1, 1, none⟩ = some (.string ⟨#[]⟩) := by rw [hc2 _ _ hz2, hc _ _ (by simp only [World.size_alloc]; omega)]; simp [go_sem]
                have l6 : w2.frozen? ⟨w.heap.size + 1 + 1, 0, none⟩ = false := by rw [hf2 _ _ hz2, hf _ _ (by simp only [World.size_alloc]; omega)]; simp [go_sem]
                have l7 : w2.frozen? ⟨w.heap.size + 1 + 1, 1, none⟩ = false := by rw [hf2 _ _ hz2, hf _ _ (by simp only [World.size_alloc]; omega)]; simp [go_sem]
                have hy2 : w.heap.size + 1 + 1 < w2.heap.size := by have := hg2.size; omega
                have hy1 : w.heap.size + 1 < w2.heap.size := by omega
                have hy0 : w.heap.size < w2.heap.size := by omega
                have hmb : ∀ x y, MB w (w2.alloc (.cells #[.string x, .string y] 28)) w2.heap.size alo ahi blo bhi x y := fun x y =>
                  ⟨hG2.alloc _, ((Grew.refl w2).alloc _).at l0, ((Grew.refl w2).alloc _).at l1, ((Grew.refl w2).alloc _).at l2, ((Grew.refl w2).alloc _).at l3, ((Grew.refl w2).alloc _).at l4, ((Grew.refl w2).alloc _).at l5, ((Grew.refl w2).alloc _).fz l4 l6, ((Grew.refl w2).alloc _).fz l5 l7, by simp [go_sem], by simp [go_sem], by simp [go_sem], by simp [go_sem], hy2⟩
                have HM := hid hmb
                clear hmb
                obtain ⟨hgr, xa0, xa1, xb0, xb1, xr0, xr1, xf0, xf1, xt0, xt1, xu0, xu1, xB⟩ := HM.out alo ahi
                go_wp2_with fail
                refine bodyPost_ret (v := .tuple #[.agg #[.string noText, .string noText], .bool false]) (by simp [results, Tryd.results31, go_sem, l4, l5, hy2]) rfl ⟨rfl, ?_⟩
                exact ((hG2.setCell (by simp; omega) _).setCell (by simp; omega) _).alloc _
              | true =>
                have hb : Pl.meetB true true (Pl.okR alo bhi) = true := by unfold Pl.okR Pl.none0; rw [eb, q1]; rfl
                rw [hb]
                clear hb
                have hmax : ∀ (ts : Array TypeId) (t : TypeId) (W : World), (Builtin.max_ ts t #[.string alo, .string blo]).run Tryd.prog W = .ok (.string alo) W := fun ts t W => by rw [run_max_str, if_neg]; rw [k1]; decide
                go_enter Tryd.func31, Tryd.ntmps31
                go_wp2_with fail
                refine (ref_right alo ahi _ (by omega) (by omega)).mono ?_
                rintro e w1 ⟨rfl, hg⟩
                have hG : Grew w w1 := ((((Grew.refl w).alloc _).alloc _).alloc _).trans hg
                have hz : w.heap.size < w1.heap.size ∧ w.heap.size + 1 < w1.heap.size ∧ w.heap.size + 1 + 1 < w1.heap.size := by have := hg.size; simp at this; omega
                obtain ⟨hz0, hz1, hz2⟩ := hz
                obtain ⟨hc, hf⟩ := hg.cells
                go_wp2_with fail
                refine (ref_right blo bhi _ (by omega) (by omega)).mono ?_
                rintro e w2 ⟨rfl, hg2⟩
                have hG2 : Grew w w2 := hG.trans hg2
                obtain ⟨hc2, hf2⟩ := hg2.cells
                have l0 : w2.cell? ⟨w.heap.size, 0, none⟩ = some (.string alo) := by rw [hc2 _ _ hz0, hc _ _ (by simp only [World.size_alloc]; omega)]; simp [go_sem]
                have l1 : w2.cell? ⟨w.heap.size, 1, none⟩ = some (.string ahi) := by rw [hc2 _ _ hz0, hc _ _ (by simp only [World.size_alloc]; omega)]; simp [go_sem]
                have l2 : w2.cell? ⟨w.heap.size + 1, 0, none⟩ = some (.string blo) := by rw [hc2 _ _ hz1, hc _ _ (by simp only [World.size_alloc]; omega)]; simp [go_sem]
                have l3 : w2.cell? ⟨w.heap.size + 1, 1, none⟩ = some (.string bhi) := by rw [hc2 _ _ hz1, hc _ _ (by simp only [World.size_alloc]; omega)]; simp [go_sem]
                have l4 : w2.cell? ⟨w.heap.size + 1 + 1, 0, none⟩ = some (.string ⟨#[]⟩) := by rw [hc2 _ _ hz2, hc _ _ (by simp only [World.size_alloc]; omega)]; simp [go_sem]
                have l5 : w2.cell? ⟨w.heap.size + 1 + 1, 1, none⟩ = some (.string ⟨#[]⟩) := by rw [hc2 _ _ hz2, hc _ _ (by simp only [World.size_alloc]; omega)]; simp [go_sem]
                have l6 : w2.frozen? ⟨w.heap.size + 1 + 1, 0, none⟩ = false := by rw [hf2 _ _ hz2, hf _ _ (by simp only [World.size_alloc]; omega)]; simp [go_sem]
                have l7 : w2.frozen? ⟨w.heap.size + 1 + 1, 1, none⟩ = false := by rw [hf2 _ _ hz2, hf _ _ (by simp only [World.size_alloc]; omega)]; simp [go_sem]
                have hy2 : w.heap.size + 1 + 1 < w2.heap.size := by have := hg2.size; omega
                have hy1 : w.heap.size + 1 < w2.heap.size := by omega
                have hy0 : w.heap.size < w2.heap.size := by omega
                have hmb : ∀ x y, MB w (w2.alloc (.cells #[.string x, .string y] 28)) w2.heap.size alo ahi blo bhi x y := fun x y =>
                  ⟨hG2.alloc _, ((Grew.refl w2).alloc _).at l0, ((Grew.refl w2).alloc _).at l1, ((Grew.refl w2).alloc _).at l2, ((Grew.refl w2).alloc _).at l3, ((Grew.refl w2).alloc _).at l4, ((Grew.refl w2).alloc _).at l5, ((Grew.refl w2).alloc _).fz l4 l6, ((Grew.refl w2).alloc _).fz l5 l7, by simp [go_sem], by simp [go_sem], by simp [go_sem], by simp [go_sem], hy2⟩
                have HM := hid hmb
                clear hmb
                obtain ⟨hgr, xa0, xa1, xb0, xb1, xr0, xr1, xf0, xf1, xt0, xt1, xu0, xu1, xB⟩ := HM.out alo ahi
                go_wp2_with fail
                refine bodyPost_ret (v := .tuple #[.agg #[.string alo, .string bhi], .bool true]) (by simp [results, Tryd.results31, go_sem, l4, l5, hy2]) rfl ⟨rfl, ?_⟩
                exact ((hG2.setCell (by simp; omega) _).setCell (by simp; omega) _).alloc _
            | false =>
              have hhi : Pl.meetHiR ahi bhi = ahi := by unfold Pl.meetHiR; rw [if_neg (by unfold Pl.none0; rw [ea]; decide), if_neg (by unfold Pl.none0; rw [eb]; decide), if_neg (by rw [k2]; decide)]
              rw [hhi]
              clear hhi
              cases q1 : Op.bytesLess alo.toList ahi.toList with
              | false =>
                have hb : Pl.meetB true true (Pl.okR alo ahi) = false := by unfold Pl.okR Pl.none0; rw [ea, q1]; rfl
                rw [hb]
                clear hb
                have hmax : ∀ (ts : Array TypeId) (t : TypeId) (W : World), (Builtin.max_ ts t #[.string alo, .string blo]).run Tryd.prog W = .ok (.string alo) W := fun ts t W => by rw [run_max_str, if_neg]; rw [k1]; decide
                go_enter Tryd.func31, Tryd.ntmps31
                go_wp2_with fail
                refine (ref_right alo ahi _ (by omega) (by omega)).mono ?_
                rintro e w1 ⟨rfl, hg⟩
                have hG : Grew w w1 := ((((Grew.refl w).alloc _).alloc _).alloc _).trans hg
                have hz : w.heap.size < w1.heap.size ∧ w.heap.size + 1 < w1.heap.size ∧ w.heap.size + 1 + 1 < w1.heap.size := by have := hg.size; simp at this; omega
                obtain ⟨hz0, hz1, hz2⟩ := hz
                obtain ⟨hc, hf⟩ := hg.cells
                go_wp2_with fail
                refine (ref_right blo bhi _ (by omega) (by omega)).mono ?_
                rintro e w2 ⟨rfl, hg2⟩
                have hG2 : Grew w w2 := hG.trans hg2
                obtain ⟨hc2, hf2⟩ := hg2.cells
                have l0 : w2.cell? ⟨w.heap.size, 0, none⟩ = some (.string alo) := by rw [hc2 _ _ hz0, hc _ _ (by simp only [World.size_alloc]; omega)]; simp [go_sem]
                have l1 : w2.cell? ⟨w.heap.size, 1, none⟩ = some (.string ahi) := by rw [hc2 _ _ hz0, hc _ _ (by simp only [World.size_alloc]; omega)]; simp [go_sem]
                have l2 : w2.cell? ⟨w.heap.size + 1, 0, none⟩ = some (.string blo) := by rw [hc2 _ _ hz1, hc _ _ (by simp only [World.size_alloc]; omega)]; simp [go_sem]
                have l3 : w2.cell? ⟨w.heap.size + 1, 1, none⟩ = some (.string bhi) := by rw [hc2 _ _ hz1, hc _ _ (by simp only [World.size_alloc]; omega)]; simp [go_sem]
                have l4 : w2.cell? ⟨w.heap.size + 1 + 1, 0, none⟩ = some (.string ⟨#[]⟩) := by rw [hc2 _ _ hz2, hc _ _ (by simp only [World.size_alloc]; omega)]; simp [go_sem]
                have l5 : w2.cell? ⟨w.heap.size + 1 + 1, 1, none⟩ = some (.string ⟨#[]⟩) := by rw [hc2 _ _ hz2, hc _ _ (by simp only [World.size_alloc]; omega)]; simp [go_sem]
                have l6 : w2.frozen? ⟨w.heap.size + 1 + 1, 0, none⟩ = false := by rw [hf2 _ _ hz2, hf _ _ (by simp only [World.size_alloc]; omega)]; simp [go_sem]
                have l7 : w2.frozen? ⟨w.heap.size + 1 + 1, 1, none⟩ = false := by rw [hf2 _ _ hz2, hf _ _ (by simp only [World.size_alloc]; omega)]; simp [go_sem]
                have hy2 : w.heap.size + 1 + 1 < w2.heap.size := by have := hg2.size; omega
                have hy1 : w.heap.size + 1 < w2.heap.size := by omega
                have hy0 : w.heap.size < w2.heap.size := by omega
                have hmb : ∀ x y, MB w (w2.alloc (.cells #[.string x, .string y] 28)) w2.heap.size alo ahi blo bhi x y := fun x y =>
                  ⟨hG2.alloc _, ((Grew.refl w2).alloc _).at l0, ((Grew.refl w2).alloc _).at l1, ((Grew.refl w2).alloc _).at l2, ((Grew.refl w2).alloc _).at l3, ((Grew.refl w2).alloc _).at l4, ((Grew.refl w2).alloc _).at l5, ((Grew.refl w2).alloc _).fz l4 l6, ((Grew.refl w2).alloc _).fz l5 l7, by simp [go_sem], by simp [go_sem], by simp [go_sem], by simp [go_sem], hy2⟩
                have HM := hid hmb
                clear hmb
                obtain ⟨hgr, xa0, xa1, xb0, xb1, xr0, xr1, xf0, xf1, xt0, xt1, xu0, xu1, xB⟩ := HM.out alo ahi
                go_wp2_with fail
                refine bodyPost_ret (v := .tuple #[.agg #[.string noText, .string noText], .bool false]) (by simp [results, Tryd.results31, go_sem, l4, l5, hy2]) rfl ⟨rfl, ?_⟩
                exact ((hG2.setCell (by simp; omega) _).setCell (by simp; omega) _).alloc _
              | true =>
                have hb : Pl.meetB true true (Pl.okR alo ahi) = true := by unfold Pl.okR Pl.none0; rw [ea, q1]; rfl
                rw [hb]
                clear hb
                have hmax : ∀ (ts : Array TypeId) (t : TypeId) (W : World), (Builtin.max_ ts t #[.string alo, .string blo]).run Tryd.prog W = .ok (.string alo) W := fun ts t W => by rw [run_max_str, if_neg]; rw [k1]; decide
                go_enter Tryd.func31, Tryd.ntmps31
                go_wp2_with fail
                refine (ref_right alo ahi _ (by omega) (by omega)).mono ?_
                rintro e w1 ⟨rfl, hg⟩
                have hG : Grew w w1 := ((((Grew.refl w).alloc _).alloc _).alloc _).trans hg
                have hz : w.heap.size < w1.heap.size ∧ w.heap.size + 1 < w1.heap.size ∧ w.heap.size + 1 + 1 < w1.heap.size := by have := hg.size; simp at this; omega
                obtain ⟨hz0, hz1, hz2⟩ := hz
                obtain ⟨hc, hf⟩ := hg.cells
                go_wp2_with fail
                refine (ref_right blo bhi _ (by omega) (by omega)).mono ?_
                rintro e w2 ⟨rfl, hg2⟩
                have hG2 : Grew w w2 := hG.trans hg2
                obtain ⟨hc2, hf2⟩ := hg2.cells
                have l0 : w2.cell? ⟨w.heap.size, 0, none⟩ = some (.string alo) := by rw [hc2 _ _ hz0, hc _ _ (by simp only [World.size_alloc]; omega)]; simp [go_sem]
                have l1 : w2.cell? ⟨w.heap.size, 1, none⟩ = some (.string ahi) := by rw [hc2 _ _ hz0, hc _ _ (by simp only [World.size_alloc]; omega)]; simp [go_sem]
                have l2 : w2.cell? ⟨w.heap.size + 1, 0, none⟩ = some (.string blo) := by rw [hc2 _ _ hz1, hc _ _ (by simp only [World.size_alloc]; omega)]; simp [go_sem]
                have l3 : w2.cell? ⟨w.heap.size + 1, 1, none⟩ = some (.string bhi) := by rw [hc2 _ _ hz1, hc _ _ (by simp only [World.size_alloc]; omega)]; simp [go_sem]
                have l4 : w2.cell? ⟨w.heap.size + 1 + 1, 0, none⟩ = some (.string ⟨#[]⟩) := by rw [hc2 _ _ hz2, hc _ _ (by simp only [World.size_alloc]; omega)]; simp [go_sem]
                have l5 : w2.cell? ⟨w.heap.size + 1 + 1, 1, none⟩ = some (.string ⟨#[]⟩) := by rw [hc2 _ _ hz2, hc _ _ (by simp only [World.size_alloc]; omega)]; simp [go_sem]
                have l6 : w2.frozen? ⟨w.heap.size + 1 + 1, 0, none⟩ = false := by rw [hf2 _ _ hz2, hf _ _ (by simp only [World.size_alloc]; omega)]; simp [go_sem]
                have l7 : w2.frozen? ⟨w.heap.size + 1 + 1, 1, none⟩ = false := by rw [hf2 _ _ hz2, hf _ _ (by simp only [World.size_alloc]; omega)]; simp [go_sem]
                have hy2 : w.heap.size + 1 + 1 < w2.heap.size := by have := hg2.size; omega
                have hy1 : w.heap.size + 1 < w2.heap.size := by omega
                have hy0 : w.heap.size < w2.heap.size := by omega
                have hmb : ∀ x y, MB w (w2.alloc (.cells #[.string x, .string y] 28)) w2.heap.size alo ahi blo bhi x y := fun x y =>
                  ⟨hG2.alloc _, ((Grew.refl w2).alloc _).at l0, ((Grew.refl w2).alloc _).at l1, ((Grew.refl w2).alloc _).at l2, ((Grew.refl w2).alloc _).at l3, ((Grew.refl w2).alloc _).at l4, ((Grew.refl w2).alloc _).at l5, ((Grew.refl w2).alloc _).fz l4 l6, ((Grew.refl w2).alloc _).fz l5 l7, by simp [go_sem], by simp [go_sem], by simp [go_sem], by simp [go_sem], hy2⟩
                have HM := hid hmb
                clear hmb
                obtain ⟨hgr, xa0, xa1, xb0, xb1, xr0, xr1, xf0, xf1, xt0, xt1, xu0, xu1, xB⟩ := HM.out alo ahi
                go_wp2_with fail
                refine bodyPost_ret (v := .tuple #[.agg #[.string alo, .string ahi], .bool true]) (by simp [results, Tryd.results31, go_sem, l4, l5, hy2]) rfl ⟨rfl, ?_⟩
                exact ((hG2.setCell (by simp; omega) _).setCell (by simp; omega) _).alloc _
end Go.Proofs.YtbkombicbgjlnaaDoor
