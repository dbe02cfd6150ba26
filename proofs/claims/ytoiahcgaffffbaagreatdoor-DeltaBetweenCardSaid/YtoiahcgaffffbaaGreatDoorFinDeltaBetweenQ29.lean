/- St4, Law23, Law23p, St11: one text. -/
import Derived.Test.YtoiahcgaffffbaaGreatDoorFinDeltaBetweenQ26
import Derived.Test.YtoiahcgaffffbaaGreatDoorFinDeltaBetweenQ8
import Derived.Test.YtoiahcgaffffbaaGreatDoorFinDeltaBetweenQ28
import Derived.Test.YtoiahcgaffffbaaGreatDoorFinDeltaBetweenQ13
set_option linter.unusedVariables false
set_option linter.unusedSectionVars false
set_option linter.unusedSimpArgs false
namespace Go.Proofs.YtoiahcgaffffbaaGreatDoor
open Go.RowKit Go.Maps
attribute [local go_sem] Oper.semAt_some uponV
def JTab (y : World) (f : Nat → Value) (x : World) : Prop := ∃ cb Fc, f 0 = .pointer (some ⟨cb, 0, none⟩) ∧ TabAt x Fc cb [] ∧ ∀ j, Fc j → y.heap.size ≤ j
def JSeen (y : World) (f : Nat → Value) (x : World) : Prop := ∃ db Gs, f 2 = .pointer (some ⟨db, 0, none⟩) ∧ SeenAt x Gs db 0 (fun _ => none) ∧ ∀ j, Gs j → y.heap.size ≤ j
def JBoth (y : World) (f : Nat → Value) (x : World) : Prop := ∃ cb Fc db Gs, f 0 = .pointer (some ⟨cb, 0, none⟩) ∧ TabAt x Fc cb [] ∧ (∀ j, Fc j → y.heap.size ≤ j) ∧ f 2 = .pointer (some ⟨db, 0, none⟩) ∧ SeenAt x Gs db 0 (fun _ => none) ∧ (∀ j, Gs j → y.heap.size ≤ j) ∧ ∀ j, Fc j → ¬ Gs j
structure JNew (y : World) (L : Nat → Bool) (f : Nat → Value) (x : World) : Prop where
  grew : Grew y x
  tab : L 0 = true → JTab y f x
  seen : L 2 = true → JSeen y f x
  both : L 0 = true → L 2 = true → JBoth y f x
theorem JNew.one {y x x' : World} {L : Nat → Bool} {f : Nat → Value} (h : JNew y L f x) (hL : L 0 = false) {cb : Nat} {Fc : Nat → Prop} (hT : TabAt x' Fc cb []) (hF : ∀ j, Fc j → x.heap.size ≤ j) (g : Grew x x') :
    JNew y (plus L 0) (updV f 0 (.pointer (some ⟨cb, 0, none⟩))) x' := by
  have hF2 : ∀ j, Fc j → y.heap.size ≤ j := fun j hj => Nat.le_trans h.grew.size (hF j hj)
  have hs : plus L 0 2 = true → L 2 = true := fun h => by rwa [plus_ne (by decide)] at h
  refine ⟨h.grew.trans g, fun _ => ⟨cb, Fc, updV_same _ _ _, hT, hF2⟩, fun h2 => ?_, fun _ h2 => ?_⟩
  · obtain ⟨db, Gs, e, hS, hG⟩ := h.seen (hs h2)
    exact ⟨db, Gs, by rw [updV_ne (by decide)]; exact e, hS.grew g, hG⟩
  · obtain ⟨db, Gs, e, hS, hG⟩ := h.seen (hs h2)
    exact ⟨cb, Fc, db, Gs, updV_same _ _ _, hT, hF2, by rw [updV_ne (by decide)]; exact e, hS.grew g, hG, fun j hj hj2 => by have := hF j hj; have := hS.lt j hj2; omega⟩
theorem JNew.two {y x x' : World} {L : Nat → Bool} {f : Nat → Value} (h : JNew y L f x) (hL : L 2 = false) {db : Nat} {Gs : Nat → Prop} (hT : SeenAt x' Gs db 0 (fun _ => none)) (hF : ∀ j, Gs j → x.heap.size ≤ j) (g : Grew x x') :
    JNew y (plus L 2) (updV f 2 (.pointer (some ⟨db, 0, none⟩))) x' := by
  have hF2 : ∀ j, Gs j → y.heap.size ≤ j := fun j hj => Nat.le_trans h.grew.size (hF j hj)
  have hs : plus L 2 0 = true → L 0 = true := fun h => by rwa [plus_ne (by decide)] at h
  refine ⟨h.grew.trans g, fun h2 => ?_, fun _ => ⟨db, Gs, updV_same _ _ _, hT, hF2⟩, fun h2 _ => ?_⟩
  · obtain ⟨cb, Fc, e, hS, hG⟩ := h.tab (hs h2)
    exact ⟨cb, Fc, by rw [updV_ne (by decide)]; exact e, hS.grew g, hG⟩
  · obtain ⟨cb, Fc, e, hS, hG⟩ := h.tab (hs h2)
    exact ⟨cb, Fc, db, Gs, by rw [updV_ne (by decide)]; exact e, hS.grew g, hG, updV_same _ _ _, hT, hF2, fun j hj hj2 => by have := hF j hj2; have := tabAt_lt hS j hj; omega⟩
set_option maxRecDepth 100000 in
set_option maxHeartbeats 4000000 in
theorem newS_any (S : Nat → Bool) (E : Nat → Addr) (hS : KeyS S) (lo hi : ByteArray) (w : World) (hl : lo.size ≤ 70368744177664) (hh : hi.size ≤ 70368744177664) (hE : Errs S E w) (hr : Pl.rightS lo hi = true) (hgood : Pl.Good []) :
    Calls Tryz.prog 25 #[.agg #[.string lo, .string hi]] w fun e w' => ∃ cb Gt Gs, e = .returned (.tuple #[.pointer (some ⟨cb, 0, none⟩), .nilIface]) ∧ StAt w' Gt Gs cb 0 lo hi [] (fun _ => none) ∧ (∀ j, Gt j → w.heap.size ≤ j) ∧ (∀ j, Gs j → w.heap.size ≤ j) ∧ w.heap.size ≤ cb ∧ Grew w w' := by
  have HR := hid (fun W (g : Grew w W) => right_span S E hS lo hi W hl hh (hE.grew g))
  rw [hr] at HR
  have HG := hid hgood
  clear hE hr hgood hS hl hh
  go_enter Tryz.func25, Tryz.ntmps25
  go_wp2_with fail
  refine (HR.out _ ((Grew.refl w).alloc _)).mono ?_
  rintro e w1 ⟨rfl, hg1⟩
  have HG1 := hid (((Grew.refl w).alloc _).trans hg1)
  have C0 := wd_cell (w := w1) (show w1.cell? ⟨w.heap.size, 0, none⟩ = some (.string lo) from (hg1.cells.1 _ _ (by simp)).trans (by simp [go_sem]))
  have C1 := wd_cell (w := w1) (show w1.cell? ⟨w.heap.size, 1, none⟩ = some (.string hi) from (hg1.cells.1 _ _ (by simp)).trans (by simp [go_sem]))
  clear HR hg1
  go_wp2_with fail
  refine wp_region_mixS 3 [0, 2] (Grew w1) Eq (JNew w1) (fun f a => (a.put (some 8) (f 0)).put (some 10) (f 2)) (by kernel_rfl) (by kernel_rfl) (fun _ _ => rfl) ⟨(Grew.refl w1).drew, (fun h => by cases h), (fun h => by cases h), (fun h => by cases h)⟩ (fun _ _ _ h => h.grew) (fun _ => rfl) (fun _ _ _ _ h g => g ▸ h) ?_
  repeat (first
    | (refine mixS_loose (by rfl) (by rfl) ?_)
    | (refine mixS_plain (by rfl) (by rfl) (by rfl) (by first | exact Grew.refl | exact fun _ => rfl) (by rfl) ?_; intro K hK; go_big_quiet_op; go_big_quiet_on)
    | (refine mixS_skip (by rfl) (by rfl) (by rfl) ?_; simp only [Act.put, List.setIfInBounds_toArray, List.set_cons_zero, List.set_cons_succ]))
  refine mixS_done (by rfl) ⟨⟨loose_of rfl (fun _ a => a) (fun _ _ => rfl) (fun _ => rfl) ?_, loose_of rfl (fun f a => a.put (some 8) (f 0)) (fun _ _ => rfl) (fun _ => rfl) ?_, trivial⟩, ?_⟩
  · intro L f x hJ hL hd
    have HJ := hid hJ
    have HL := hid hL
    clear hJ hL hd C0 C1
    go_simp
    refine (newT_any x).mono ?_
    rintro e x' ⟨rfl, hg, hT⟩
    exact ⟨_, rfl, HJ.out.one HL.out hT (fun j hj => by rw [hj]; exact Nat.le_refl _) hg⟩
  · intro L f x hJ hL hd
    have HJ := hid hJ
    have HL := hid hL
    clear hJ hL hd C0 C1
    go_simp
    refine (newD_any x).mono ?_
    rintro e x' ⟨sb, F, rfl, hT, hF, hg⟩
    exact ⟨_, rfl, HJ.out.two HL.out hT hF hg⟩
  intro f x hJ
  obtain ⟨cb, Fc, db, Gs, e0, hT, hF, e2, hS, hG2, hdis⟩ := hJ.both rfl rfl
  have hgx := hJ.grew
  have HF : Hid (StAt (x.alloc (.cells #[.pointer (some ⟨cb, 0, none⟩), .string lo, .string hi, .pointer (some ⟨db, 0, none⟩)] 91)) Fc Gs x.heap.size 0 lo hi [] (fun _ => none) ∧ Grew w (x.alloc (.cells #[.pointer (some ⟨cb, 0, none⟩), .string lo, .string hi, .pointer (some ⟨db, 0, none⟩)] 91)) ∧ w.heap.size ≤ x.heap.size ∧ (∀ j, Fc j → w.heap.size ≤ j) ∧ ∀ j, Gs j → w.heap.size ≤ j) := by
    have gA : Grew x (x.alloc (.cells #[.pointer (some ⟨cb, 0, none⟩), .string lo, .string hi, .pointer (some ⟨db, 0, none⟩)] 91)) := (Grew.refl x).alloc _
    have gW := HG1.out.trans hgx
    refine ⟨⟨cb, db, by simp [go_sem], by simp [go_sem], by simp [go_sem], by simp [go_sem], by simp [go_sem], hT.grew gA, hS.grew gA, HG.out, fun j hj => ⟨hdis j hj, fun e => ?_⟩, fun j hj e => ?_⟩, gW.trans gA, gW.size, fun j hj => Nat.le_trans HG1.out.size (hF j hj), fun j hj => Nat.le_trans HG1.out.size (hG2 j hj)⟩
    · have := tabAt_lt hT j hj; omega
    · have := hS.lt j hj; omega
  clear hT hF hS hG2 hdis hgx hJ C0 C1
  dsimp only [List.drop]
  simp only [Act.put, List.setIfInBounds_toArray, List.set_cons_succ, List.set_cons_zero]
  rw [e0, e2]
  clear e0 e2
  go_wp2_with fail
  go_ret2
  exact ⟨_, Fc, Gs, rfl, HF.out.1, HF.out.2.2.2.1, HF.out.2.2.2.2, HF.out.2.2.1, HF.out.2.1⟩
end Go.Proofs.YtoiahcgaffffbaaGreatDoor
namespace Go.Proofs.YtoiahcgaffffbaaGreatDoor
open Go.RowKit Go.Maps
attribute [local go_sem] Oper.semAt_some
def opA : OpR := ⟨3, ⟨#[97]⟩, ⟨#[]⟩, ⟨#[]⟩, 0⟩
def enA (a : Option Addr) : En := ⟨1, 1, 0, 0, 1, 1, ⟨#[]⟩, 0, 0, 0, [opA], a, 1, none, 0, 0⟩
theorem right_nil : Pl.rightS ⟨#[]⟩ ⟨#[]⟩ = true := by kernel_rfl
theorem right_enA (a : Option Addr) : Pl.rightB (enA a) = true := by
  have : Pl.opRightB opA = true := by kernel_rfl
  unfold Pl.rightB Pl.wriB enA
  simp [this, Pl.withinB]
theorem code_enA : Pl.codeW [] [opA] 3 = 2 := by kernel_rfl
theorem has_opA : Pl.hasS ⟨#[]⟩ ⟨#[]⟩ opA.key = true := by kernel_rfl
set_option maxRecDepth 100000 in
set_option maxHeartbeats 4000000 in
theorem alive23 (E : Nat → Addr) (w : World) (hE : Errs stS E w) : Calls Tryz.prog 23 #[] w fun e w' => e = .returned (.bool true) ∧ Grew w w' := by
  have HE := hid hE
  have HN := hid (newS_any stS E ⟨rfl, rfl, rfl, rfl⟩ ⟨#[]⟩ ⟨#[]⟩ w (by decide) (by decide) hE right_nil Pl.good_nil)
  clear hE
  go_enter Tryz.func23, Tryz.ntmps23
  go_wp2_with fail
  refine HN.out.mono ?_
  rintro e w1 ⟨cb, Gt, Gs, rfl, hS, ht, hs, hc, hg⟩
  have HS := hid hS
  have HG := hid hg
  have HB := hid (And.intro ht (And.intro hs hc))
  clear hS hg ht hs hc HN
  go_wp2_with fail
  have hOp : OpRsAt (w1.alloc (.cells #[.int .i64 3, .string ⟨#[97]⟩, .string ⟨#[]⟩, .string ⟨#[]⟩, .int .i64 0] 125)) (some ⟨w1.heap.size, 0, none⟩) [opA] := by
    refine .inr ⟨w1.heap.size, 0, rfl, by simp, ?_, ?_, ?_, ?_, ?_⟩ <;> intro j hj <;> obtain rfl : j = 0 := by simpa using hj
    all_goals simp [go_sem, opRAt, opA]
  have g2 : Grew w1 (w1.alloc (.cells #[.int .i64 3, .string ⟨#[97]⟩, .string ⟨#[]⟩, .string ⟨#[]⟩, .int .i64 0] 125)) := (Grew.refl w1).alloc _
  have HW := hid (writeS_new E (enA (some ⟨w1.heap.size, 0, none⟩)) (HE.out.grew (HG.out.trans g2)) ⟨hOp, by simp [enA], fun o ho => by simp [enA] at ho; subst ho; exact ⟨by decide, by decide, by decide⟩, fun _ => (by decide : (⟨#[]⟩ : ByteArray).size ≤ 140737488351232)⟩ 3 (HS.out.grew g2) rfl (right_enA _) (by decide) (by decide) (by decide) (by decide) (fun o ho => by simp [enA] at ho; subst ho; decide) (fun o ho => by simp [enA] at ho; subst ho; exact has_opA) (fun o ho => by simp [enA] at ho; subst ho; decide) (by simp) (by decide) rfl)
  have hcd : Pl.codeW [] (enA (some ⟨w1.heap.size, 0, none⟩)).ops 3 = 2 := code_enA
  rw [hcd] at HW
  have HG2 := hid g2
  clear hOp g2 hcd
  unfold En.agg En.vals enA at HW
  dsimp only at HW
  simp only [List.length_cons, List.length_nil] at HW
  refine HW.out.mono ?_
  rintro e w2 ⟨rfl, hw⟩
  have HGF := hid (show Grew w w2 from (((HG.out.trans HG2.out).only (fun j => j = cb ∨ Gs j)).then hw.1).grew (fun j hj => by
    rcases hj with rfl | hj
    · exact HB.out.2.2
    · exact HB.out.2.1 j hj))
  clear hw HW
  unfold ansAgg
  go_wp2_with fail
  go_ret
  exact ⟨rfl, HGF.out.alloc _⟩
end Go.Proofs.YtoiahcgaffffbaaGreatDoor
namespace Go.Proofs.YtoiahcgaffffbaaGreatDoor
open Go.RowKit Go.Maps
attribute [local go_sem] Oper.semAt_some
namespace Pl
structure WrR where
  code : Int
  at_ : Int
  err : Nat
  P : List Pr
  S : Int → Option An
def writeP (P : List Pr) (S : Int → Option An) (e : En) (at_ : Int) : WrR :=
  if ¬ (e.kind = 1 ∧ rightB e = true) then ⟨0, 0, 4, P, S⟩
  else if at_ < 0 ∨ 4096 ≤ at_ then ⟨0, 0, 1, P, S⟩
  else if askN (S e.client) e.seq = 1 then ⟨codeW P e.ops at_, at_, 0, tabW P e.ops at_, noteS S e.client ⟨e.seq, codeW P e.ops at_, at_⟩⟩
  else if askN (S e.client) e.seq = 2 then ⟨(askA (S e.client) e.seq).1, (askA (S e.client) e.seq).2, 0, P, S⟩
  else ⟨4, 0, 0, P, S⟩
theorem op_has {e : En} (hk : e.kind = 1) (hr : rightB e = true) : ∀ o ∈ e.ops, hasS ⟨#[]⟩ ⟨#[]⟩ o.key = true := by
  intro o ho
  unfold rightB at hr
  rw [if_pos hk] at hr
  unfold wriB at hr
  simp only [Bool.and_eq_true] at hr
  have h := hr.2
  rw [Bool.not_eq_true', List.any_eq_false] at h
  have h2 : opRightB o = true := by have := h o ho; simpa using this
  refine hasS_all ?_
  unfold opRightB at h2
  by_cases q : keyN o.key = 0
  · exact q
  · exfalso; revert h2; simp [q]
end Pl
def EnSz (e : En) : Prop := ∀ o ∈ e.ops, o.key.size ≤ 70368744177664 ∧ o.val.size ≤ 140737488351232
theorem write_any (E : Nat → Addr) (e : En) {w : World} (hE : Errs stS E w) (hA : EnAt w e) (hz : EnSz e) (at_ : Int) {Ft Fs : Nat → Prop} {st n : Nat} {P : List Pr} {S : Int → Option An} (h : StAt w Ft Fs st n ⟨#[]⟩ ⟨#[]⟩ P S) (hx : P.length ≤ 1000) (hn : n ≤ 1000000) :
    Calls Tryz.prog 57 #[.pointer (some ⟨st, 0, none⟩), e.agg, .int .i64 at_] w fun r w' => r = .returned (.tuple #[ansAgg (Pl.writeP P S e at_).code (Pl.writeP P S e at_).at_, errOf E (Pl.writeP P S e at_).err]) ∧ ∃ m, m ≤ n + 1 ∧ Wrote w w' Ft Fs st m ⟨#[]⟩ ⟨#[]⟩ (Pl.writeP P S e at_).P (Pl.writeP P S e at_).S := by
  have still : ∀ {w'}, Grew w w' → ∃ m, m ≤ n + 1 ∧ Wrote w w' Ft Fs st m ⟨#[]⟩ ⟨#[]⟩ P S := fun {w'} g => ⟨n, by omega, g.only _, Ft, h.grew g, fun _ hj => .inl hj⟩
  unfold Pl.writeP
  by_cases h1 : e.kind = 1 ∧ Pl.rightB e = true
  · rw [if_neg (not_not_intro h1)]
    by_cases h2 : at_ < 0 ∨ 4096 ≤ at_
    · rw [if_pos h2]
      refine (writeS_range E e w hE hA at_ st h1.1 h1.2 h2).mono ?_
      rintro r w' ⟨hr, hg⟩
      exact ⟨hr, still hg⟩
    · rw [if_neg h2]
      by_cases h3 : askN (S e.client) e.seq = 1
      · rw [if_pos h3]
        refine (writeS_new E e hE hA at_ h h1.1 h1.2 (by omega) (by omega) (by decide) (by decide) (fun o ho => (hz o ho).1) (Pl.op_has h1.1 h1.2) (fun o ho => (hz o ho).2) hx hn h3).mono ?_
        rintro r w' ⟨hr, hg⟩
        exact ⟨hr, n + 1, Nat.le_refl _, hg⟩
      · rw [if_neg h3]
        refine (writeS_seen E e hE hA at_ h h1.1 h1.2 (by omega) (by omega) (by decide) (by decide) (fun o ho => (hz o ho).1) (Pl.op_has h1.1 h1.2) h3).mono ?_
        rintro r w' ⟨hr, hg⟩
        by_cases h4 : askN (S e.client) e.seq = 2
        · rw [if_pos h4] at hr ⊢
          exact ⟨hr, still hg⟩
        · rw [if_neg h4] at hr ⊢
          exact ⟨hr, still hg⟩
  · rw [if_pos h1]
    refine (writeS_form E e w hE hA at_ st h1).mono ?_
    rintro r w' ⟨hr, hg⟩
    exact ⟨hr, still hg⟩
namespace Pl
def Had (S : Int → Option An) (e : En) (c a : Int) : Prop := ∃ b, S e.client = some b ∧ (e.seq < b.seq ∨ (b.seq = e.seq ∧ b.code = c ∧ b.at_ = a))
theorem write_len (P : List Pr) (S : Int → Option An) (e : En) (at_ : Int) : (writeP P S e at_).P.length ≤ P.length + 8 := by
  unfold writeP
  by_cases h1 : e.kind = 1 ∧ rightB e = true
  · rw [if_neg (not_not_intro h1)]
    split
    · dsimp only; omega
    · split
      · have := tabW_len P e.ops at_; have := (right_seq h1.1 h1.2).2.2; dsimp only; omega
      · split <;> (dsimp only; omega)
  · rw [if_pos h1]; dsimp only; omega
theorem write_table (P : List Pr) (S : Int → Option An) (e : En) (at_ : Int) (h : (writeP P S e at_).err ≠ 0 ∨ (writeP P S e at_).code ≠ 1 ∨ (writeP P S e at_).at_ ≠ at_) : (writeP P S e at_).P = P := by
  unfold writeP at h ⊢
  split
  · rfl
  · next h1 =>
    rw [if_neg h1] at h
    split
    · rfl
    · next h2 =>
      rw [if_neg h2] at h
      split
      · next h3 =>
        rw [if_pos h3] at h
        rcases h with h | h | h
        · exact absurd rfl h
        · exact tabW_clash h
        · exact absurd rfl h
      · split <;> rfl
theorem write_first (P : List Pr) (e : En) (at_ : Int) (h : (writeP P (fun _ => none) e at_).err = 0) :
    (e.kind = 1 ∧ rightB e = true) ∧ ¬ (at_ < 0 ∨ 4096 ≤ at_) ∧ Had (writeP P (fun _ => none) e at_).S e (writeP P (fun _ => none) e at_).code (writeP P (fun _ => none) e at_).at_ := by
  unfold writeP at h ⊢
  by_cases h1 : e.kind = 1 ∧ rightB e = true
  · rw [if_neg (not_not_intro h1)] at h ⊢
    by_cases h2 : at_ < 0 ∨ 4096 ≤ at_
    · rw [if_pos h2] at h; cases h
    · rw [if_neg h2, if_pos (show askN none e.seq = 1 from rfl)] at h ⊢
      exact ⟨h1, h2, ⟨e.seq, codeW P e.ops at_, at_⟩, if_pos rfl, .inr ⟨rfl, rfl, rfl⟩⟩
  · rw [if_pos h1] at h; cases h
theorem write_had {P : List Pr} {S : Int → Option An} {f : En} {c a : Int} (hh : Had S f c a) (e : En) (at_ : Int) : Had (writeP P S e at_).S f c a := by
  unfold writeP
  split
  · exact hh
  · split
    · exact hh
    · split
      · next h3 =>
        obtain ⟨b, hb, hq⟩ := hh
        by_cases hc : e.client = f.client
        · refine ⟨_, by dsimp only; unfold noteS; rw [if_pos hc.symm], .inl ?_⟩
          rw [hc, hb] at h3
          unfold askN at h3
          dsimp only at h3 ⊢
          have : b.seq < e.seq := by
            by_cases q : b.seq < e.seq
            · exact q
            · rw [if_neg q] at h3; split at h3 <;> cases h3
          rcases hq with hq | hq <;> omega
        · exact ⟨b, by dsimp only; unfold noteS; rw [if_neg (fun h => hc h.symm)]; exact hb, hq⟩
      · split <;> exact hh
theorem write_again {P : List Pr} {S : Int → Option An} {f : En} {c a : Int} (hh : Had S f c a) (hr : f.kind = 1 ∧ rightB f = true) (at_ : Int) (ha : ¬ (at_ < 0 ∨ 4096 ≤ at_)) :
    (writeP P S f at_).err = 0 ∧ (writeP P S f at_).P = P ∧ (writeP P S f at_).S = S ∧ (((writeP P S f at_).code = c ∧ (writeP P S f at_).at_ = a) ∨ (writeP P S f at_).code = 4) := by
  obtain ⟨b, hb, hq⟩ := hh
  have hlt : ¬ b.seq < f.seq := by omega
  by_cases q : f.seq = b.seq
  · have e1 : askN (S f.client) f.seq = 2 := by rw [hb]; show (if b.seq < f.seq then (1 : Int) else if f.seq = b.seq then 2 else 3) = 2; rw [if_neg hlt, if_pos q]
    have e2 : askA (S f.client) f.seq = (b.code, b.at_) := by rw [hb]; show (if b.seq < f.seq then ((0 : Int), (0 : Int)) else if f.seq = b.seq then (b.code, b.at_) else (0, 0)) = _; rw [if_neg hlt, if_pos q]
    have e3 : writeP P S f at_ = ⟨b.code, b.at_, 0, P, S⟩ := by
      unfold writeP
      rw [if_neg (not_not_intro hr), if_neg ha, e1, e2, if_neg (by decide), if_pos rfl]
    rw [e3]
    refine ⟨rfl, rfl, rfl, .inl ?_⟩
    rcases hq with hq | hq
    · omega
    · exact hq.2
  · have e1 : askN (S f.client) f.seq = 3 := by rw [hb]; show (if b.seq < f.seq then (1 : Int) else if f.seq = b.seq then 2 else 3) = 3; rw [if_neg hlt, if_neg q]
    have e3 : writeP P S f at_ = ⟨4, 0, 0, P, S⟩ := by
      unfold writeP
      rw [if_neg (not_not_intro hr), if_neg ha, e1, if_neg (by decide), if_neg (by decide)]
    rw [e3]
    exact ⟨rfl, rfl, rfl, .inr rfl⟩
theorem seenB_len {S : Int → Option An} (h : ∀ c a, S c = some a → 1 ≤ c ∧ c ≤ 4 ∧ a.Ok) : (seenB S).length ≤ 1000 := by
  have h1 : ∀ xs : List (Int × An), (∀ x ∈ xs, S x.1 = some x.2) → (clsB xs).length ≤ xs.length * 20 := by
    intro xs
    induction xs with
    | nil => intro _; simp [clsB]
    | cons x xs ih =>
      intro hm
      have e : clsB (x :: xs) = clB x ++ clsB xs := rfl
      obtain ⟨q1, q2, q3⟩ := h _ _ (hm x (by simp))
      have a1 := numB_len 4 x.1.toNat (by omega)
      have a2 := numB_len 4 x.2.seq.toNat (by have := q3.s1; have := q3.s2; omega)
      have a3 := numB_len 4 x.2.code.toNat (by have := q3.c1; omega)
      have a4 := numB_len 4 x.2.at_.toNat (by have := q3.a1; have := q3.a2; omega)
      have := ih fun y hy => hm y (by simp [hy])
      rw [e, List.length_append]
      unfold clB
      simp only [List.length_append, List.length_cons]
      omega
  have h2 := h1 (clients S) fun x hx => (mem_clients.1 hx).2
  have h3 := clients_len S
  have h4 := numB_len 0 (clients S).length (by omega)
  unfold seenB
  rw [List.length_append]
  omega
end Pl
end Go.Proofs.YtoiahcgaffffbaaGreatDoor
namespace Go.Proofs.YtoiahcgaffffbaaGreatDoor
open Go.RowKit Go.Maps
attribute [local go_sem] Oper.semAt_some uponV
set_option maxRecDepth 100000 in
set_option maxHeartbeats 4000000 in
theorem writeS_moved (E : Nat → Addr) (e : En) {w : World} (hE : Errs stS E w) (hA : EnAt w e) (at_ : Int) {Ft Fs : Nat → Prop} {st n : Nat} {lo hi : ByteArray} {P : List Pr} {S : Int → Option An} (h : StAt w Ft Fs st n lo hi P S) (hk : e.kind = 1) (hr : Pl.rightB e = true) (h0 : 0 ≤ at_) (h1 : at_ < 4096) (hl : lo.size ≤ 70368744177664) (hh : hi.size ≤ 70368744177664) (hsz : ∀ o ∈ e.ops, o.key.size ≤ 70368744177664) (hin : (e.ops.any fun o => !Pl.hasS lo hi o.key) = true) :
    Calls Tryz.prog 57 #[.pointer (some ⟨st, 0, none⟩), e.agg, .int .i64 at_] w fun r w' => r = .returned (.tuple #[ansAgg 3 0, .nilIface]) ∧ Grew w w' := by
  have hT : KeyT stS := ⟨rfl, rfl, rfl, rfl⟩
  have hKS : KeyS stS := ⟨rfl, rfl, rfl, rfl⟩
  have hR := fun W (g : Grew w W) => rightE_any hT E e W (hE.grew g) (hA.grew g)
  rw [hr] at hR
  have HR := hid hR
  have HW := hid (WrIn.start w st e)
  have HKEYS := hid (fun W (g : Grew w W) => keysE_any hT E e W (hE.grew g) (hA.grew g) hk hr)
  have hany : ((e.ops.map OpR.key).any fun k => !Pl.hasS lo hi k) = true := by
    rw [List.any_map]; exact hin
  have hfew := hA.few
  have hANY := fun W (g : Grew w W) (a : Option Addr) (cap : Nat) (k : StrsAt W a (e.ops.map OpR.key)) (hB : BoxSp W w.heap.size st lo hi) => anyKey_any stS E hKS lo hi a cap (e.ops.map OpR.key) W hl hh (hE.grew g) w.heap.size st hB k (by simpa using hfew) (fun k hkm => by obtain ⟨o, ho, rfl⟩ := List.mem_map.1 hkm; exact hsz o ho)
  rw [hany, List.length_map] at hANY
  have HANY := hid hANY
  obtain ⟨tb, sb, h⟩ := h
  have HST := hid h
  have hstl : st < w.heap.size := cell_lt h.c0
  obtain ⟨Y, hY⟩ : ∃ Y, Y = (((w.alloc (.cells #[.pointer (some ⟨st, 0, none⟩)] 28)).alloc (.cells e.vals.toArray 66)).alloc (.cells #[.int .i64 0, .int .i64 0] 127)) := ⟨_, rfl⟩
  rw [← hY] at HW
  have HYE := hid hY
  clear hY hE hA hr hR hany hANY h hin hsz
  unfold En.agg at *
  obtain ⟨kind, shard, other, server, client, seq, key, upto, part, parts, ops, opsA, opsC, dataA, dataL, dataC⟩ := e
  unfold En.vals at HR HYE HKEYS ⊢
  dsimp only at *
  subst hk
  unfold ansAgg at *
  go_enter Tryz.func57, Tryz.ntmps57
  go_wp2_with fail
  rw [← HYE.out]
  refine (HR.out Y HW.out.grew).mono ?_
  rintro e w1 ⟨rfl, hg1⟩
  have HW1 := hid (HW.out.more hg1)
  have hl1 := HW1.out.lt
  have d0 : w1.cell? ⟨w.heap.size + 1, 0, none⟩ = some (.int .i64 1) := HW1.out.ent 0 _ rfl
  have d1 : w1.cell? ⟨w.heap.size + 1, 1, none⟩ = some (.int .i64 shard) := HW1.out.ent 1 _ rfl
  have d2 : w1.cell? ⟨w.heap.size + 1, 2, none⟩ = some (.int .i64 other) := HW1.out.ent 2 _ rfl
  have d3 : w1.cell? ⟨w.heap.size + 1, 3, none⟩ = some (.int .i64 server) := HW1.out.ent 3 _ rfl
  have d4 : w1.cell? ⟨w.heap.size + 1, 4, none⟩ = some (.int .i64 client) := HW1.out.ent 4 _ rfl
  have d5 : w1.cell? ⟨w.heap.size + 1, 5, none⟩ = some (.int .i64 seq) := HW1.out.ent 5 _ rfl
  have d6 : w1.cell? ⟨w.heap.size + 1, 6, none⟩ = some (.slice opsA ops.length opsC) := HW1.out.ent 6 _ rfl
  have d7 : w1.cell? ⟨w.heap.size + 1, 7, none⟩ = some (.string key) := HW1.out.ent 7 _ rfl
  have d8 : w1.cell? ⟨w.heap.size + 1, 8, none⟩ = some (.int .i64 upto) := HW1.out.ent 8 _ rfl
  have d9 : w1.cell? ⟨w.heap.size + 1, 9, none⟩ = some (.int .i64 part) := HW1.out.ent 9 _ rfl
  have d10 : w1.cell? ⟨w.heap.size + 1, 10, none⟩ = some (.int .i64 parts) := HW1.out.ent 10 _ rfl
  have d11 : w1.cell? ⟨w.heap.size + 1, 11, none⟩ = some (.slice dataA dataL dataC) := HW1.out.ent 11 _ rfl
  have k0 : ¬ at_ < 0 := by omega
  have k1 : ¬ 4096 ≤ at_ := by omega
  clear hg1 HW HR
  go_wp2_with fail
  refine (HKEYS.out w1 HW1.out.grew).mono ?_
  rintro e w2 ⟨⟨v, rfl, hown⟩, hg2⟩
  obtain ⟨a, cap, rfl, hks⟩ := strsAt_of (by rw [List.length_map]; exact hown)
  rw [List.length_map]
  have HW2 := hid (HW1.out.more hg2)
  have HKS := hid hks
  clear hg2 hown hks HKEYS d0 d1 d2 d3 d4 d5 d6 d7 d8 d9 d10 d11
  go_wp2_with fail
  refine (HANY.out w2 HW2.out.grew a cap HKS.out ⟨HW2.out.box, (HW2.out.grew.cells.1 _ _ hstl).trans HST.out.c1, (HW2.out.grew.cells.1 _ _ hstl).trans HST.out.c2⟩).mono ?_
  rintro e w3 ⟨rfl, hg3⟩
  have HW3 := hid (HW2.out.more hg3)
  clear hg3 HKS HANY HW1 HW2 hl1
  have a0 := HW3.out.a0
  have a1 := HW3.out.a1
  have f0 := HW3.out.f0
  have f1 := HW3.out.f1
  have hl3 := HW3.out.lt
  go_wp2_with fail
  refine bodyPost_ret (v := .tuple #[.agg #[.int .i64 3, .int .i64 0], .nilIface]) (by simp [results, Tryz.results57, go_sem, a0, a1, f0, f1]) rfl ⟨rfl, ?_⟩
  exact (HW3.out.grew.setCell (show w.heap.size ≤ w.heap.size + 2 by omega) _).setCell (show w.heap.size ≤ w.heap.size + 2 by omega) _
namespace Pl
def writeG (lo hi : ByteArray) (P : List Pr) (S : Int → Option An) (e : En) (at_ : Int) : WrR :=
  if ¬ (e.kind = 1 ∧ rightB e = true) then ⟨0, 0, 4, P, S⟩
  else if at_ < 0 ∨ 4096 ≤ at_ then ⟨0, 0, 1, P, S⟩
  else if (e.ops.any fun o => !hasS lo hi o.key) = true then ⟨3, 0, 0, P, S⟩
  else if askN (S e.client) e.seq = 1 then ⟨codeW P e.ops at_, at_, 0, tabW P e.ops at_, noteS S e.client ⟨e.seq, codeW P e.ops at_, at_⟩⟩
  else if askN (S e.client) e.seq = 2 then ⟨(askA (S e.client) e.seq).1, (askA (S e.client) e.seq).2, 0, P, S⟩
  else ⟨4, 0, 0, P, S⟩
theorem any_has {lo hi : ByteArray} {ops : List OpR} (h : ¬ (ops.any fun o => !hasS lo hi o.key) = true) : ∀ o ∈ ops, hasS lo hi o.key = true := by
  intro o ho
  cases hh : hasS lo hi o.key with
  | true => rfl
  | false => exact absurd (List.any_eq_true.2 ⟨o, ho, by rw [hh]; rfl⟩) h
end Pl
theorem writeG_any (E : Nat → Addr) (e : En) {w : World} (hE : Errs stS E w) (hA : EnAt w e) (hz : EnSz e) (at_ : Int) {Ft Fs : Nat → Prop} {st n : Nat} {lo hi : ByteArray} {P : List Pr} {S : Int → Option An} (h : StAt w Ft Fs st n lo hi P S) (hl : lo.size ≤ 70368744177664) (hh : hi.size ≤ 70368744177664) (hx : P.length ≤ 1000) (hn : n ≤ 1000000) :
    Calls Tryz.prog 57 #[.pointer (some ⟨st, 0, none⟩), e.agg, .int .i64 at_] w fun r w' => r = .returned (.tuple #[ansAgg (Pl.writeG lo hi P S e at_).code (Pl.writeG lo hi P S e at_).at_, errOf E (Pl.writeG lo hi P S e at_).err]) ∧ ∃ m, m ≤ n + 1 ∧ Wrote w w' Ft Fs st m lo hi (Pl.writeG lo hi P S e at_).P (Pl.writeG lo hi P S e at_).S := by
  have still : ∀ {w'}, Grew w w' → ∃ m, m ≤ n + 1 ∧ Wrote w w' Ft Fs st m lo hi P S := fun {w'} g => ⟨n, by omega, g.only _, Ft, h.grew g, fun _ hj => .inl hj⟩
  unfold Pl.writeG
  by_cases h1 : e.kind = 1 ∧ Pl.rightB e = true
  · rw [if_neg (not_not_intro h1)]
    by_cases h2 : at_ < 0 ∨ 4096 ≤ at_
    · rw [if_pos h2]
      refine (writeS_range E e w hE hA at_ st h1.1 h1.2 h2).mono ?_
      rintro r w' ⟨hr, hg⟩
      exact ⟨hr, still hg⟩
    · rw [if_neg h2]
      by_cases h5 : (e.ops.any fun o => !Pl.hasS lo hi o.key) = true
      · rw [if_pos h5]
        refine (writeS_moved E e hE hA at_ h h1.1 h1.2 (by omega) (by omega) hl hh (fun o ho => (hz o ho).1) h5).mono ?_
        rintro r w' ⟨hr, hg⟩
        exact ⟨hr, still hg⟩
      · rw [if_neg h5]
        by_cases h3 : askN (S e.client) e.seq = 1
        · rw [if_pos h3]
          refine (writeS_new E e hE hA at_ h h1.1 h1.2 (by omega) (by omega) hl hh (fun o ho => (hz o ho).1) (Pl.any_has h5) (fun o ho => (hz o ho).2) hx hn h3).mono ?_
          rintro r w' ⟨hr, hg⟩
          exact ⟨hr, n + 1, Nat.le_refl _, hg⟩
        · rw [if_neg h3]
          refine (writeS_seen E e hE hA at_ h h1.1 h1.2 (by omega) (by omega) hl hh (fun o ho => (hz o ho).1) (Pl.any_has h5) h3).mono ?_
          rintro r w' ⟨hr, hg⟩
          by_cases h4 : askN (S e.client) e.seq = 2
          · rw [if_pos h4] at hr ⊢
            exact ⟨hr, still hg⟩
          · rw [if_neg h4] at hr ⊢
            exact ⟨hr, still hg⟩
  · rw [if_pos h1]
    refine (writeS_form E e w hE hA at_ st h1).mono ?_
    rintro r w' ⟨hr, hg⟩
    exact ⟨hr, still hg⟩
end Go.Proofs.YtoiahcgaffffbaaGreatDoor
