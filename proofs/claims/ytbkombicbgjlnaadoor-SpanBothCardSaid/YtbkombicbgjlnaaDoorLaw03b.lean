/- The walk of the statement SpanBoth. -/
import Derived.Test.YtbkombicbgjlnaaDoorLaw03
import Derived.Test.YtbkombicbgjlnaaDoorRef03e
namespace Go.Proofs.YtbkombicbgjlnaaDoor
open Go.RowKit Go.Sort

theorem joinE_le (ra rb : Bool) (a b c d : ByteArray) : Pl.joinE ra rb a b c d ≤ 19 := by
  unfold Pl.joinE
  repeat' split
  all_goals decide

/-- A span's box, somewhere. -/
def Box2 (W : World) (b : Nat) (lo hi : ByteArray) : Prop := W.cell? ⟨b, 0, none⟩ = some (.string lo) ∧ W.cell? ⟨b, 1, none⟩ = some (.string hi) ∧ b < W.heap.size
theorem Box2.grew {W W' : World} {b : Nat} {lo hi : ByteArray} (h : Box2 W b lo hi) (g : Grew W W') : Box2 W' b lo hi := ⟨g.at h.1, g.at h.2.1, Nat.lt_of_lt_of_le h.2.2 g.size⟩
theorem Box2.new (W : World) (lo hi : ByteArray) (t : TypeId) : Box2 (W.alloc (.cells #[.string lo, .string hi] t)) W.heap.size lo hi := ⟨by simp [go_sem], by simp [go_sem], by simp⟩
theorem Box2.alloc {W : World} {b : Nat} {lo hi : ByteArray} (h : Box2 W b lo hi) (o : Obj) : Box2 (W.alloc o) b lo hi := h.grew ((Grew.refl W).alloc o)

set_option maxHeartbeats 2000000 in
set_option maxRecDepth 100000 in
theorem spanBoth_walk (E : Nat → Addr) (alo ahi blo bhi : ByteArray) (w : World) (z1 : alo.size ≤ 140737488351232) (z2 : ahi.size ≤ 140737488351232) (z3 : blo.size ≤ 140737488351232) (z4 : bhi.size ≤ 140737488351232) (hE : Errs allS E w) :
    Calls Tryd.prog 5 #[.agg #[.string alo, .string ahi], .agg #[.string blo, .string bhi]] w fun e w' => e = .returned (.bool true) ∧ Grew w w' := by
  have HE := hid hE
  clear hE
  go_enter Tryd.func5, Tryd.ntmps5
  go_wp2_with fail
  refine (alive03 allS E spanS_all _ (HE.out.grew (((Grew.refl w).alloc _).alloc _))).mono ?_
  rintro e w1 ⟨rfl, hg1⟩
  have A1 := hid (((Box2.new w alo ahi 28).alloc (.cells #[.string blo, .string bhi] 28)).grew hg1)
  have B1 := hid ((Box2.new (w.alloc (.cells #[.string alo, .string ahi] 28)) blo bhi 28).grew hg1)
  rw [World.size_alloc] at B1
  have hG1 : Grew w w1 := (((Grew.refl w).alloc _).alloc _).trans hg1
  clear hg1
  obtain ⟨xa0, xa1, _⟩ := A1.out
  obtain ⟨xb0, xb1, _⟩ := B1.out
  go_wp2_with fail
  refine (long03 alo ahi _ z1 z2).mono ?_
  rintro e w2 ⟨rfl, hg2⟩
  have A2 := hid (A1.out.grew hg2)
  have B2 := hid (B1.out.grew hg2)
  have hG2 : Grew w w2 := hG1.trans hg2
  clear xa0 xa1 xb0 xb1 A1 B1 hg2 hG1
  obtain ⟨xa0, xa1, _⟩ := A2.out
  obtain ⟨xb0, xb1, _⟩ := B2.out
  cases q1 : longB alo ahi with
  | true =>
    go_wp2_with fail
    go_ret
    exact ⟨rfl, hG2⟩
  | false =>
    go_wp2_with fail
    refine (long03 blo bhi _ z3 z4).mono ?_
    rintro e w3 ⟨rfl, hg3⟩
    have A3 := hid (A2.out.grew hg3)
    have B3 := hid (B2.out.grew hg3)
    have hG3 : Grew w w3 := hG2.trans hg3
    clear xa0 xa1 xb0 xb1 A2 B2 hg3 hG2
    obtain ⟨xa0, xa1, _⟩ := A3.out
    obtain ⟨xb0, xb1, _⟩ := B3.out
    cases q2 : longB blo bhi with
    | true =>
      go_wp2_with fail
      go_ret
      exact ⟨rfl, hG3⟩
    | false =>
      have hsz : alo.size ≤ 300 ∧ ahi.size ≤ 300 ∧ blo.size ≤ 300 ∧ bhi.size ≤ 300 := by
        unfold longB at q1 q2
        simp only [Bool.or_eq_false_iff, decide_eq_false_iff_not] at q1 q2
        omega
      obtain ⟨y1, y2, y3, y4⟩ := hsz
      have hj := join_any allS E spanS_all alo ahi blo bhi w3 (by omega) (by omega) (by omega) (by omega) (HE.out.grew hG3)
      have hrj := fun W => ref_join alo ahi blo bhi W (by omega) (by omega) (by omega) (by omega)
      have hm := fun W (h : Errs allS E W) => meet_any allS E spanS_all.1 alo ahi blo bhi W (by omega) (by omega) (by omega) (by omega) h
      have hrm := fun W => ref_meet alo ahi blo bhi W (by omega) (by omega) (by omega) (by omega)
      unfold JoinPost at hj
      unfold RefJoinPost at hrj
      unfold MeetPost at hm hrm
      rw [Pl.rightR_eq, Pl.rightR_eq] at hrj
      rw [Pl.meetB_eq, Pl.meetV_eq alo ahi blo bhi _ rfl] at hrm
      have hn := joinE_le (Pl.rightS alo ahi) (Pl.rightS blo bhi) alo ahi blo bhi
      generalize Pl.joinE (Pl.rightS alo ahi) (Pl.rightS blo bhi) alo ahi blo bhi = n at hj hrj hn
      generalize (Pl.joinV (Pl.rightS alo ahi) (Pl.rightS blo bhi) alo ahi blo bhi).1 = j0 at hj hrj
      generalize (Pl.joinV (Pl.rightS alo ahi) (Pl.rightS blo bhi) alo ahi blo bhi).2 = j1 at hj hrj
      generalize Pl.meetB (Pl.rightS alo ahi) (Pl.rightS blo bhi) (Pl.rightS (Pl.meetLo alo blo) (Pl.meetHi ahi bhi)) = mb at hm hrm
      generalize (Pl.meetV mb (Pl.meetLo alo blo) (Pl.meetHi ahi bhi)).1 = m0 at hm hrm
      generalize (Pl.meetV mb (Pl.meetLo alo blo) (Pl.meetHi ahi bhi)).2 = m1 at hm hrm
      clear q1 q2
      go_wp2_with fail
      refine hj.mono ?_
      rintro e w4 ⟨rfl, hg4⟩
      have A4 := hid (A3.out.grew hg4)
      have B4 := hid (B3.out.grew hg4)
      have hG4 : Grew w w4 := hG3.trans hg4
      clear xa0 xa1 xb0 xb1 A3 B3 hg4 hG3 hj
      have A4' := hid (A4.out.alloc (.cells #[.string j0, .string j1] 28))
      have B4' := hid (B4.out.alloc (.cells #[.string j0, .string j1] 28))
      have J4 := hid (Box2.new w4 j0 j1 28)
      obtain ⟨xa0, xa1, _⟩ := A4'.out
      obtain ⟨xb0, xb1, _⟩ := B4'.out
      go_wp2_with fail
      refine (hrj _).mono ?_
      rintro e w5 ⟨rfl, hg5⟩
      have hG5 : Grew w w5 := (hG4.alloc _).trans hg5
      have A5 := hid ((A4'.out.grew hg5).alloc (.cells #[.string j0, .string j1] 28))
      have B5 := hid ((B4'.out.grew hg5).alloc (.cells #[.string j0, .string j1] 28))
      have J5 := hid ((J4.out.grew hg5).alloc (.cells #[.string j0, .string j1] 28))
      have K5 := hid (Box2.new w5 j0 j1 28)
      clear xa0 xa1 xb0 xb1 A4 B4 A4' B4' J4 hg5 hG4 hrj
      obtain ⟨xa0, xa1, _⟩ := A5.out
      obtain ⟨xb0, xb1, _⟩ := B5.out
      go_wp2_with fail
      refine (hm _ (HE.out.grew (hG5.alloc _))).mono ?_
      rintro e w6 ⟨rfl, hg6⟩
      have hG6 : Grew w w6 := (hG5.alloc _).trans hg6
      have A6 := hid ((A5.out.grew hg6).alloc (.cells #[.string m0, .string m1] 28))
      have B6 := hid ((B5.out.grew hg6).alloc (.cells #[.string m0, .string m1] 28))
      have J6 := hid ((J5.out.grew hg6).alloc (.cells #[.string m0, .string m1] 28))
      have K6 := hid ((K5.out.grew hg6).alloc (.cells #[.string m0, .string m1] 28))
      have M6 := hid (Box2.new w6 m0 m1 28)
      clear xa0 xa1 xb0 xb1 A5 B5 J5 K5 hg6 hG5 hm
      obtain ⟨xa0, xa1, _⟩ := A6.out
      obtain ⟨xb0, xb1, _⟩ := B6.out
      go_wp2_with fail
      refine (hrm _).mono ?_
      rintro e w7 ⟨rfl, hg7⟩
      have hG7 : Grew w w7 := (hG6.alloc _).trans hg7
      have J7 := hid ((J6.out.grew hg7).alloc (.cells #[.string m0, .string m1] 28))
      have K7 := hid ((K6.out.grew hg7).alloc (.cells #[.string m0, .string m1] 28))
      have M7 := hid ((M6.out.grew hg7).alloc (.cells #[.string m0, .string m1] 28))
      have N7 := hid (Box2.new w7 m0 m1 28)
      clear xa0 xa1 xb0 xb1 A6 B6 J6 K6 M6 hg7 hG6 hrm
      obtain ⟨xa0, xa1, _⟩ := J7.out
      obtain ⟨xb0, xb1, _⟩ := K7.out
      go_wp2_with fail
      refine (num_any E n hn _ (HE.out.grew (hG7.alloc _))).mono ?_
      rintro e w8 ⟨rfl, hg8⟩
      have M8 := M7.out.grew hg8
      have N8 := N7.out.grew hg8
      have hG8 : Grew w w8 := (hG7.alloc _).trans hg8
      clear xa0 xa1 xb0 xb1 J7 K7 M7 N7 hg8 hG7
      obtain ⟨xa0, xa1, _⟩ := M8
      obtain ⟨xb0, xb1, _⟩ := N8
      go_wp2_with fail
      go_ret
      exact ⟨rfl, hG8⟩
end Go.Proofs.YtbkombicbgjlnaaDoor
