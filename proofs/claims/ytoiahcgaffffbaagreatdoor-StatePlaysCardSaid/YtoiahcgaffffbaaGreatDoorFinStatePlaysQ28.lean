/- St4, Law23, Law23p, St11, Wr23p: one text. -/
import Derived.Test.YtoiahcgaffffbaaGreatDoorFinStatePlaysQ25
import Derived.Test.YtoiahcgaffffbaaGreatDoorFinStatePlaysQ8
import Derived.Test.YtoiahcgaffffbaaGreatDoorFinStatePlaysQ27
import Derived.Test.YtoiahcgaffffbaaGreatDoorFinStatePlaysQ13
import Derived.Test.YtoiahcgaffffbaaGreatDoorFinStatePlaysQ23
set_option linter.unusedVariables false
set_option linter.unusedSectionVars false
set_option linter.unusedSimpArgs false
namespace Go.Proofs.YtoiahcgaffffbaaGreatDoor
open Go.RowKit Go.Maps
attribute [local go_sem] Oper.semAt_some uponV
def JTab (y : World) (f : Nat → Value) (x : World) : Prop := ∃ cb Fc, f 0 = .pointer (some ⟨cb, 0, none⟩) ∧ TabAt x Fc cb [] ∧ ∀ j, Fc j → y.heap.size ≤ j
def JSeen (y : World) (f : Nat → Value) (x : World) : Prop := ∃ db Gs, f 2 = .pointer (some ⟨db, 0, none⟩) ∧ SeenAt x Gs db 0 (fun _ => none) ∧ ∀ j, Gs j → y.heap.size ≤ j
def JBoth (y : World) (f : Nat → Value) (x : World) : Prop := ∃ cb Fc db Gs, f 0 = .pointer (some ⟨cb, 0, none⟩) ∧ TabAt x Fc cb [] ∧ (∀ j, Fc j → y.heap.size ≤ j) ∧ f 2 = .pointer (some ⟨db, 0, none⟩) ∧ SeenAt x Gs db 0 (fun _ => none) ∧ (∀ j, Gs j → y.heap.size ≤ j) ∧ ∀ j, Fc j → ¬ Gs j
structure JNew (y : World) (L : Nat → Bool) (f : Nat → Value) (x : World) : Prop where
  grew : Grew y x
  tab : L 0 = true → JTab y f x
  seen : L 2 = true → JSeen y f x
  both : L 0 = true → L 2 = true → JBoth y f x
theorem JNew.one {y x x' : World} {L : Nat → Bool} {f : Nat → Value} (h : JNew y L f x) (hL : L 0 = false) {cb : Nat} {Fc : Nat → Prop} (hT : TabAt x' Fc cb []) (hF : ∀ j, Fc j → x.heap.size ≤ j) (g : Grew x x') :
    JNew y (plus L 0) (updV f 0 (.pointer (some ⟨cb, 0, none⟩))) x' := by
  have hF2 : ∀ j, Fc j → y.heap.size ≤ j := fun j hj => Nat.le_trans h.grew.size (hF j hj)
  have hs : plus L 0 2 = true → L 2 = true := fun h => by rwa [plus_ne (by decide)] at h
  refine ⟨h.grew.trans g, fun _ => ⟨cb, Fc, updV_same _ _ _, hT, hF2⟩, fun h2 => ?_, fun _ h2 => ?_⟩
  · obtain ⟨db, Gs, e, hS, hG⟩ := h.seen (hs h2)
    exact ⟨db, Gs, by rw [updV_ne (by decide)]; exact e, hS.grew g, hG⟩
  · obtain ⟨db, Gs, e, hS, hG⟩ := h.seen (hs h2)
    exact ⟨cb, Fc, db, Gs, updV_same _ _ _, hT, hF2, by rw [updV_ne (by decide)]; exact e, hS.grew g, hG, fun j hj hj2 => by have := hF j hj; have := hS.lt j hj2; omega⟩
theorem JNew.two {y x x' : World} {L : Nat → Bool} {f : Nat → Value} (h : JNew y L f x) (hL : L 2 = false) {db : Nat} {Gs : Nat → Prop} (hT : SeenAt x' Gs db 0 (fun _ => none)) (hF : ∀ j, Gs j → x.heap.size ≤ j) (g : Grew x x') :
    JNew y (plus L 2) (updV f 2 (.pointer (some ⟨db, 0, none⟩))) x' := by
  have hF2 : ∀ j, Gs j → y.heap.size ≤ j := fun j hj => Nat.le_trans h.grew.size (hF j hj)
  have hs : plus L 2 0 = true → L 0 = true := fun h => by rwa [plus_ne (by decide)] at h
  refine ⟨h.grew.trans g, fun h2 => ?_, fun _ => ⟨db, Gs, updV_same _ _ _, hT, hF2⟩, fun h2 _ => ?_⟩
  · obtain ⟨cb, Fc, e, hS, hG⟩ := h.tab (hs h2)
    exact ⟨cb, Fc, by rw [updV_ne (by decide)]; exact e, hS.grew g, hG⟩
  · obtain ⟨cb, Fc, e, hS, hG⟩ := h.tab (hs h2)
    exact ⟨cb, Fc, db, Gs, by rw [updV_ne (by decide)]; exact e, hS.grew g, hG, updV_same _ _ _, hT, hF2, fun j hj hj2 => by have := hF j hj2; have := tabAt_lt hS j hj; omega⟩
set_option maxRecDepth 100000 in
set_option maxHeartbeats 4000000 in
theorem newS_any (S : Nat → Bool) (E : Nat → Addr) (hS : KeyS S) (lo hi : ByteArray) (w : World) (hl : lo.size ≤ 70368744177664) (hh : hi.size ≤ 70368744177664) (hE : Errs S E w) (hr : Pl.rightS lo hi = true) (hgood : Pl.Good []) :
    Calls Tryz.prog 25 #[.agg #[.string lo, .string hi]] w fun e w' => ∃ cb Gt Gs, e = .returned (.tuple #[.pointer (some ⟨cb, 0, none⟩), .nilIface]) ∧ StAt w' Gt Gs cb 0 lo hi [] (fun _ => none) ∧ (∀ j, Gt j → w.heap.size ≤ j) ∧ (∀ j, Gs j → w.heap.size ≤ j) ∧ w.heap.size ≤ cb ∧ Grew w w' := by
  have HR := hid (fun W (g : Grew w W) => right_span S E hS lo hi W hl hh (hE.grew g))
  rw [hr] at HR
  have HG := hid hgood
  clear hE hr hgood hS hl hh
  go_enter Tryz.func25, Tryz.ntmps25
  go_wp2_with fail
  refine (HR.out _ ((Grew.refl w).alloc _)).mono ?_
  rintro e w1 ⟨rfl, hg1⟩
  have HG1 := hid (((Grew.refl w).alloc _).trans hg1)
  have C0 := wd_cell (w := w1) (show w1.cell? ⟨w.heap.size, 0, none⟩ = some (.string lo) from (hg1.cells.1 _ _ (by simp)).trans (by simp [go_sem]))
  have C1 := wd_cell (w := w1) (show w1.cell? ⟨w.heap.size, 1, none⟩ = some (.string hi) from (hg1.cells.1 _ _ (by simp)).trans (by simp [go_sem]))
  clear HR hg1
  go_wp2_with fail
  refine wp_region_mixS 3 [0, 2] (Grew w1) Eq (JNew w1) (fun f a => (a.put (some 8) (f 0)).put (some 10) (f 2)) (by kernel_rfl) (by kernel_rfl) (fun _ _ => rfl) ⟨(Grew.refl w1).drew, (fun h => by cases h), (fun h => by cases h), (fun h => by cases h)⟩ (fun _ _ _ h => h.grew) (fun _ => rfl) (fun _ _ _ _ h g => g ▸ h) ?_
  repeat (first
    | (refine mixS_loose (by rfl) (by rfl) ?_)
    | (refine mixS_plain (by rfl) (by rfl) (by rfl) (by first | exact Grew.refl | exact fun _ => rfl) (by rfl) ?_; intro K hK; go_big_quiet_op; go_big_quiet_on)
    | (refine mixS_skip (by rfl) (by rfl) (by rfl) ?_; simp only [Act.put, List.setIfInBounds_toArray, List.set_cons_zero, List.set_cons_succ]))
  refine mixS_done (by rfl) ⟨⟨loose_of rfl (fun _ a => a) (fun _ _ => rfl) (fun _ => rfl) ?_, loose_of rfl (fun f a => a.put (some 8) (f 0)) (fun _ _ => rfl) (fun _ => rfl) ?_, trivial⟩, ?_⟩
  · intro L f x hJ hL hd
    have HJ := hid hJ
    have HL := hid hL
    clear hJ hL hd C0 C1
    go_simp
    refine (newT_any x).mono ?_
    rintro e x' ⟨rfl, hg, hT⟩
    exact ⟨_, rfl, HJ.out.one HL.out hT (fun j hj => by rw [hj]; exact Nat.le_refl _) hg⟩
  · intro L f x hJ hL hd
    have HJ := hid hJ
    have HL := hid hL
    clear hJ hL hd C0 C1
    go_simp
    refine (newD_any x).mono ?_
    rintro e x' ⟨sb, F, rfl, hT, hF, hg⟩
    exact ⟨_, rfl, HJ.out.two HL.out hT hF hg⟩
  intro f x hJ
  obtain ⟨cb, Fc, db, Gs, e0, hT, hF, e2, hS, hG2, hdis⟩ := hJ.both rfl rfl
  have hgx := hJ.grew
  have HF : Hid (StAt (x.alloc (.cells #[.pointer (some ⟨cb, 0, none⟩), .string lo, .string hi, .pointer (some ⟨db, 0, none⟩)] 91)) Fc Gs x.heap.size 0 lo hi [] (fun _ => none) ∧ Grew w (x.alloc (.cells #[.pointer (some ⟨cb, 0, none⟩), .string lo, .string hi, .pointer (some ⟨db, 0, none⟩)] 91)) ∧ w.heap.size ≤ x.heap.size ∧ (∀ j, Fc j → w.heap.size ≤ j) ∧ ∀ j, Gs j → w.heap.size ≤ j) := by
    have gA : Grew x (x.alloc (.cells #[.pointer (some ⟨cb, 0, none⟩), .string lo, .string hi, .pointer (some ⟨db, 0, none⟩)] 91)) := (Grew.refl x).alloc _
    have gW := HG1.out.trans hgx
    refine ⟨⟨cb, db, by simp [go_sem], by simp [go_sem], by simp [go_sem], by simp [go_sem], fun i => by simp [go_sem], hT.grew gA, hS.grew gA, HG.out, fun j hj => ⟨hdis j hj, fun e => ?_⟩, fun j hj e => ?_⟩, gW.trans gA, gW.size, fun j hj => Nat.le_trans HG1.out.size (hF j hj), fun j hj => Nat.le_trans HG1.out.size (hG2 j hj)⟩
    · have := tabAt_lt hT j hj; omega
    · have := hS.lt j hj; omega
  clear hT hF hS hG2 hdis hgx hJ C0 C1
  dsimp only [List.drop]
  simp only [Act.put, List.setIfInBounds_toArray, List.set_cons_succ, List.set_cons_zero]
  rw [e0, e2]
  clear e0 e2
  go_wp2_with fail
  go_ret2
  exact ⟨_, Fc, Gs, rfl, HF.out.1, HF.out.2.2.2.1, HF.out.2.2.2.2, HF.out.2.2.1, HF.out.2.1⟩
end Go.Proofs.YtoiahcgaffffbaaGreatDoor
namespace Go.Proofs.YtoiahcgaffffbaaGreatDoor
open Go.RowKit Go.Maps
attribute [local go_sem] Oper.semAt_some
def opA : OpR := ⟨3, ⟨#[97]⟩, ⟨#[]⟩, ⟨#[]⟩, 0⟩
def enA (a : Option Addr) : En := ⟨1, 1, 0, 0, 1, 1, ⟨#[]⟩, 0, 0, 0, [opA], a, 1, none, 0, 0⟩
theorem right_nil : Pl.rightS ⟨#[]⟩ ⟨#[]⟩ = true := by kernel_rfl
theorem right_enA (a : Option Addr) : Pl.rightB (enA a) = true := by
  have : Pl.opRightB opA = true := by kernel_rfl
  unfold Pl.rightB Pl.wriB enA
  simp [this, Pl.withinB]
theorem code_enA : Pl.codeW [] [opA] 3 = 2 := by kernel_rfl
theorem has_opA : Pl.hasS ⟨#[]⟩ ⟨#[]⟩ opA.key = true := by kernel_rfl
set_option maxRecDepth 100000 in
set_option maxHeartbeats 4000000 in
theorem alive23 (E : Nat → Addr) (w : World) (hE : Errs stS E w) : Calls Tryz.prog 23 #[] w fun e w' => e = .returned (.bool true) ∧ Grew w w' := by
  have HE := hid hE
  have HN := hid (newS_any stS E ⟨rfl, rfl, rfl, rfl⟩ ⟨#[]⟩ ⟨#[]⟩ w (by decide) (by decide) hE right_nil Pl.good_nil)
  clear hE
  go_enter Tryz.func23, Tryz.ntmps23
  go_wp2_with fail
  refine HN.out.mono ?_
  rintro e w1 ⟨cb, Gt, Gs, rfl, hS, ht, hs, hc, hg⟩
  have HS := hid hS
  have HG := hid hg
  have HB := hid (And.intro ht (And.intro hs hc))
  clear hS hg ht hs hc HN
  go_wp2_with fail
  have hOp : OpRsAt (w1.alloc (.cells #[.int .i64 3, .string ⟨#[97]⟩, .string ⟨#[]⟩, .string ⟨#[]⟩, .int .i64 0] 125)) (some ⟨w1.heap.size, 0, none⟩) [opA] := by
    refine .inr ⟨w1.heap.size, 0, rfl, by simp, ?_, ?_, ?_, ?_, ?_⟩ <;> intro j hj <;> obtain rfl : j = 0 := by simpa using hj
    all_goals simp [go_sem, opRAt, opA]
  have g2 : Grew w1 (w1.alloc (.cells #[.int .i64 3, .string ⟨#[97]⟩, .string ⟨#[]⟩, .string ⟨#[]⟩, .int .i64 0] 125)) := (Grew.refl w1).alloc _
  have HW := hid (writeS_new E (enA (some ⟨w1.heap.size, 0, none⟩)) (HE.out.grew (HG.out.trans g2)) ⟨hOp, by simp [enA], fun o ho => by simp [enA] at ho; subst ho; exact ⟨by decide, by decide, by decide⟩, fun _ => (by decide : (⟨#[]⟩ : ByteArray).size ≤ 140737488351232)⟩ 3 (HS.out.grew g2) rfl (right_enA _) (by decide) (by decide) (by decide) (by decide) (fun o ho => by simp [enA] at ho; subst ho; decide) (fun o ho => by simp [enA] at ho; subst ho; exact has_opA) (fun o ho => by simp [enA] at ho; subst ho; decide) (by simp) (by decide) rfl)
  have hcd : Pl.codeW [] (enA (some ⟨w1.heap.size, 0, none⟩)).ops 3 = 2 := code_enA
  rw [hcd] at HW
  have HG2 := hid g2
  clear hOp g2 hcd
  unfold En.agg En.vals enA at HW
  dsimp only at HW
  simp only [List.length_cons, List.length_nil] at HW
  refine HW.out.mono ?_
  rintro e w2 ⟨rfl, hw⟩
  have HGF := hid (show Grew w w2 from (((HG.out.trans HG2.out).only (fun j => j = cb ∨ Gs j)).then hw.1).grew (fun j hj => by
    rcases hj with rfl | hj
    · exact HB.out.2.2
    · exact HB.out.2.1 j hj))
  clear hw HW
  unfold ansAgg
  go_wp2_with fail
  go_ret
  exact ⟨rfl, HGF.out.alloc _⟩
end Go.Proofs.YtoiahcgaffffbaaGreatDoor
namespace Go.Proofs.YtoiahcgaffffbaaGreatDoor
open Go.RowKit Go.Maps
attribute [local go_sem] Oper.semAt_some
namespace Pl
structure WrR where
  code : Int
  at_ : Int
  err : Nat
  P : List Pr
  S : Int → Option An
end Pl
def EnSz (e : En) : Prop := ∀ o ∈ e.ops, o.key.size ≤ 70368744177664 ∧ o.val.size ≤ 140737488351232
namespace Pl
theorem seenB_len {S : Int → Option An} (h : ∀ c a, S c = some a → 1 ≤ c ∧ c ≤ 4 ∧ a.Ok) : (seenB S).length ≤ 1000 := by
  have h1 : ∀ xs : List (Int × An), (∀ x ∈ xs, S x.1 = some x.2) → (clsB xs).length ≤ xs.length * 20 := by
    intro xs
    induction xs with
    | nil => intro _; simp [clsB]
    | cons x xs ih =>
      intro hm
      have e : clsB (x :: xs) = clB x ++ clsB xs := rfl
      obtain ⟨q1, q2, q3⟩ := h _ _ (hm x (by simp))
      have a1 := numB_len 4 x.1.toNat (by omega)
      have a2 := numB_len 4 x.2.seq.toNat (by have := q3.s1; have := q3.s2; omega)
      have a3 := numB_len 4 x.2.code.toNat (by have := q3.c1; omega)
      have a4 := numB_len 4 x.2.at_.toNat (by have := q3.a1; have := q3.a2; omega)
      have := ih fun y hy => hm y (by simp [hy])
      rw [e, List.length_append]
      unfold clB
      simp only [List.length_append, List.length_cons]
      omega
  have h2 := h1 (clients S) fun x hx => (mem_clients.1 hx).2
  have h3 := clients_len S
  have h4 := numB_len 0 (clients S).length (by omega)
  unfold seenB
  rw [List.length_append]
  omega
end Pl
end Go.Proofs.YtoiahcgaffffbaaGreatDoor
namespace Go.Proofs.YtoiahcgaffffbaaGreatDoor
open Go.RowKit Go.Maps
attribute [local go_sem] Oper.semAt_some uponV
set_option maxRecDepth 100000 in
set_option maxHeartbeats 4000000 in
theorem writeS_moved (E : Nat → Addr) (e : En) {w : World} (hE : Errs stS E w) (hA : EnAt w e) (at_ : Int) {Ft Fs : Nat → Prop} {st n : Nat} {lo hi : ByteArray} {P : List Pr} {S : Int → Option An} (h : StAt w Ft Fs st n lo hi P S) (hk : e.kind = 1) (hr : Pl.rightB e = true) (h0 : 0 ≤ at_) (h1 : at_ < 4096) (hl : lo.size ≤ 70368744177664) (hh : hi.size ≤ 70368744177664) (hsz : ∀ o ∈ e.ops, o.key.size ≤ 70368744177664) (hin : (e.ops.any fun o => !Pl.hasS lo hi o.key) = true) :
    Calls Tryz.prog 57 #[.pointer (some ⟨st, 0, none⟩), e.agg, .int .i64 at_] w fun r w' => r = .returned (.tuple #[ansAgg 3 0, .nilIface]) ∧ Grew w w' := by
  have hT : KeyT stS := ⟨rfl, rfl, rfl, rfl⟩
  have hKS : KeyS stS := ⟨rfl, rfl, rfl, rfl⟩
  have hR := fun W (g : Grew w W) => rightE_any hT E e W (hE.grew g) (hA.grew g)
  rw [hr] at hR
  have HR := hid hR
  have HW := hid (WrIn.start w st e)
  have HKEYS := hid (fun W (g : Grew w W) => keysE_any hT E e W (hE.grew g) (hA.grew g) hk hr)
  have hany : ((e.ops.map OpR.key).any fun k => !Pl.hasS lo hi k) = true := by
    rw [List.any_map]; exact hin
  have hfew := hA.few
  have hANY := fun W (g : Grew w W) (a : Option Addr) (cap : Nat) (k : StrsAt W a (e.ops.map OpR.key)) (hB : BoxSp W w.heap.size st lo hi) => anyKey_any stS E hKS lo hi a cap (e.ops.map OpR.key) W hl hh (hE.grew g) w.heap.size st hB k (by simpa using hfew) (fun k hkm => by obtain ⟨o, ho, rfl⟩ := List.mem_map.1 hkm; exact hsz o ho)
  rw [hany, List.length_map] at hANY
  have HANY := hid hANY
  obtain ⟨tb, sb, h⟩ := h
  have HST := hid h
  have hstl : st < w.heap.size := cell_lt h.c0
  obtain ⟨Y, hY⟩ : ∃ Y, Y = (((w.alloc (.cells #[.pointer (some ⟨st, 0, none⟩)] 28)).alloc (.cells e.vals.toArray 66)).alloc (.cells #[.int .i64 0, .int .i64 0] 127)) := ⟨_, rfl⟩
  rw [← hY] at HW
  have HYE := hid hY
  clear hY hE hA hr hR hany hANY h hin hsz
  unfold En.agg at *
  obtain ⟨kind, shard, other, server, client, seq, key, upto, part, parts, ops, opsA, opsC, dataA, dataL, dataC⟩ := e
  unfold En.vals at HR HYE HKEYS ⊢
  dsimp only at *
  subst hk
  unfold ansAgg at *
  go_enter Tryz.func57, Tryz.ntmps57
  go_wp2_with fail
  rw [← HYE.out]
  refine (HR.out Y HW.out.grew).mono ?_
  rintro e w1 ⟨rfl, hg1⟩
  have HW1 := hid (HW.out.more hg1)
  have hl1 := HW1.out.lt
  have d0 : w1.cell? ⟨w.heap.size + 1, 0, none⟩ = some (.int .i64 1) := HW1.out.ent 0 _ rfl
  have d1 : w1.cell? ⟨w.heap.size + 1, 1, none⟩ = some (.int .i64 shard) := HW1.out.ent 1 _ rfl
  have d2 : w1.cell? ⟨w.heap.size + 1, 2, none⟩ = some (.int .i64 other) := HW1.out.ent 2 _ rfl
  have d3 : w1.cell? ⟨w.heap.size + 1, 3, none⟩ = some (.int .i64 server) := HW1.out.ent 3 _ rfl
  have d4 : w1.cell? ⟨w.heap.size + 1, 4, none⟩ = some (.int .i64 client) := HW1.out.ent 4 _ rfl
  have d5 : w1.cell? ⟨w.heap.size + 1, 5, none⟩ = some (.int .i64 seq) := HW1.out.ent 5 _ rfl
  have d6 : w1.cell? ⟨w.heap.size + 1, 6, none⟩ = some (.slice opsA ops.length opsC) := HW1.out.ent 6 _ rfl
  have d7 : w1.cell? ⟨w.heap.size + 1, 7, none⟩ = some (.string key) := HW1.out.ent 7 _ rfl
  have d8 : w1.cell? ⟨w.heap.size + 1, 8, none⟩ = some (.int .i64 upto) := HW1.out.ent 8 _ rfl
  have d9 : w1.cell? ⟨w.heap.size + 1, 9, none⟩ = some (.int .i64 part) := HW1.out.ent 9 _ rfl
  have d10 : w1.cell? ⟨w.heap.size + 1, 10, none⟩ = some (.int .i64 parts) := HW1.out.ent 10 _ rfl
  have d11 : w1.cell? ⟨w.heap.size + 1, 11, none⟩ = some (.slice dataA dataL dataC) := HW1.out.ent 11 _ rfl
  have k0 : ¬ at_ < 0 := by omega
  have k1 : ¬ 4096 ≤ at_ := by omega
  clear hg1 HW HR
  go_wp2_with fail
  refine (HKEYS.out w1 HW1.out.grew).mono ?_
  rintro e w2 ⟨⟨v, rfl, hown⟩, hg2⟩
  obtain ⟨a, cap, rfl, hks⟩ := strsAt_of (by rw [List.length_map]; exact hown)
  rw [List.length_map]
  have HW2 := hid (HW1.out.more hg2)
  have HKS := hid hks
  clear hg2 hown hks HKEYS d0 d1 d2 d3 d4 d5 d6 d7 d8 d9 d10 d11
  go_wp2_with fail
  refine (HANY.out w2 HW2.out.grew a cap HKS.out ⟨HW2.out.box, (HW2.out.grew.cells.1 _ _ hstl).trans HST.out.c1, (HW2.out.grew.cells.1 _ _ hstl).trans HST.out.c2⟩).mono ?_
  rintro e w3 ⟨rfl, hg3⟩
  have HW3 := hid (HW2.out.more hg3)
  clear hg3 HKS HANY HW1 HW2 hl1
  have a0 := HW3.out.a0
  have a1 := HW3.out.a1
  have f0 := HW3.out.f0
  have f1 := HW3.out.f1
  have hl3 := HW3.out.lt
  go_wp2_with fail
  refine bodyPost_ret (v := .tuple #[.agg #[.int .i64 3, .int .i64 0], .nilIface]) (by simp [results, Tryz.results57, go_sem, a0, a1, f0, f1]) rfl ⟨rfl, ?_⟩
  exact (HW3.out.grew.setCell (show w.heap.size ≤ w.heap.size + 2 by omega) _).setCell (show w.heap.size ≤ w.heap.size + 2 by omega) _
namespace Pl
def writeG (lo hi : ByteArray) (P : List Pr) (S : Int → Option An) (e : En) (at_ : Int) : WrR :=
  if ¬ (e.kind = 1 ∧ rightB e = true) then ⟨0, 0, 4, P, S⟩
  else if at_ < 0 ∨ 4096 ≤ at_ then ⟨0, 0, 1, P, S⟩
  else if (e.ops.any fun o => !hasS lo hi o.key) = true then ⟨3, 0, 0, P, S⟩
  else if askN (S e.client) e.seq = 1 then ⟨codeW P e.ops at_, at_, 0, tabW P e.ops at_, noteS S e.client ⟨e.seq, codeW P e.ops at_, at_⟩⟩
  else if askN (S e.client) e.seq = 2 then ⟨(askA (S e.client) e.seq).1, (askA (S e.client) e.seq).2, 0, P, S⟩
  else ⟨4, 0, 0, P, S⟩
theorem any_has {lo hi : ByteArray} {ops : List OpR} (h : ¬ (ops.any fun o => !hasS lo hi o.key) = true) : ∀ o ∈ ops, hasS lo hi o.key = true := by
  intro o ho
  cases hh : hasS lo hi o.key with
  | true => rfl
  | false => exact absurd (List.any_eq_true.2 ⟨o, ho, by rw [hh]; rfl⟩) h
end Pl
end Go.Proofs.YtoiahcgaffffbaaGreatDoor
namespace Go.Proofs.YtoiahcgaffffbaaGreatDoor
namespace Pl
def refOp (D : List Pr) (o : OpR) (v : Int) : List Pr :=
  if o.kind = 1 then put21 D ⟨o.key, o.val, v⟩
  else if o.kind = 2 then D.eraseP (isK o.key)
  else if o.kind = 3 then put21 D ⟨o.key, o.val, v⟩
  else D
def refBad (D : List Pr) (o : OpR) : Bool :=
  if o.kind = 3 then !((D.find? (isK o.key)).isSome && decide (((D.find? (isK o.key)).getD Pr.none).val.toList = o.old.toList))
  else if o.kind = 4 then !decide (((D.find? (isK o.key)).getD Pr.none).ver = o.ver)
  else false
def refRun (ops : List OpR) (v : Int) (s : List Pr × Int) : List Pr × Int := ops.foldl (fun s o => (refOp s.1 o v, if refBad s.1 o = true then 2 else s.2)) s
theorem refRun_snoc (ops : List OpR) (v : Int) (s : List Pr × Int) (k : Nat) (h : k < ops.length) :
    refRun (ops.take (k + 1)) v s = (refOp (refRun (ops.take k) v s).1 (opRAt ops k) v, if refBad (refRun (ops.take k) v s).1 (opRAt ops k) = true then 2 else (refRun (ops.take k) v s).2) := by
  unfold refRun
  rw [List.take_succ_eq_append_getElem h, opRAt_eq ops k h, List.foldl_append]; rfl
theorem refOp_len (D : List Pr) (o : OpR) (v : Int) : (refOp D o v).length ≤ D.length + 1 := by
  unfold refOp
  split
  · exact put21_len _ _
  · split
    · have := List.length_eraseP_le (p := isK o.key) (l := D); omega
    · split
      · exact put21_len _ _
      · omega
theorem refRun_len (ops : List OpR) (v : Int) : ∀ s : List Pr × Int, (refRun ops v s).1.length ≤ s.1.length + ops.length := by
  induction ops with
  | nil => intro s; simp [refRun]
  | cons o os ih =>
    intro s
    have h1 := ih (refOp s.1 o v, if refBad s.1 o = true then 2 else s.2)
    have h2 := refOp_len s.1 o v
    show (refRun os v _).1.length ≤ _
    simp only [List.length_cons]
    dsimp only at h1
    omega
theorem refRun_two (ops : List OpR) (v : Int) : ∀ D, (refRun ops v (D, 2)).2 = 2 := by
  induction ops with
  | nil => intro D; rfl
  | cons o os ih =>
    intro D
    show (refRun os v (_, if refBad D o = true then 2 else 2)).2 = 2
    rw [ite_self]
    exact ih _
theorem tt_op {P D : List Pr} (h : Tt P D) {o : OpR} (hr : opRightB o = true) {v : Int} (h1 : 1 ≤ v) (h2 : v ≤ 4096) :
    refBad D o = !(stepP P o v).2 ∧ ((stepP P o v).2 = true → Tt (stepP P o v).1 (refOp D o v)) := by
  have hg := h.get o.key
  unfold opRightB at hr
  by_cases hk : keyN o.key ≠ 0
  · rw [if_pos hk] at hr; cases hr
  · rw [if_neg hk] at hr
    have hk0 : keyN o.key = 0 := by simpa using hk
    unfold stepP refBad refOp
    by_cases k1 : o.kind = 1
    · rw [if_pos k1] at hr
      have hv := of_decide_eq_true hr
      have hp : putN ⟨o.key, o.val, v⟩ = 0 := by
        unfold putN; rw [if_neg hk]
        dsimp only
        rw [if_neg (by omega), if_neg (by omega)]
      rw [if_neg (by omega), if_neg (fun q => by omega), if_neg (by omega), if_neg (by omega), if_neg (by omega), if_pos k1]
      exact ⟨by simp [hp], fun _ => h.put _⟩
    · rw [if_neg k1] at hr
      by_cases k2 : o.kind = 2
      · rw [if_pos k2, if_neg (by omega), if_neg (by omega), if_neg (by omega), if_pos k2]
        exact ⟨rfl, fun _ => h.del _⟩
      · rw [if_neg k2] at hr
        by_cases k3 : o.kind = 3
        · rw [if_pos k3] at hr
          simp only [Bool.and_eq_true, decide_eq_true_eq] at hr
          have hp : putN ⟨o.key, o.val, v⟩ = 0 := by
            unfold putN; rw [if_neg hk]
            dsimp only
            rw [if_neg (by omega), if_neg (by omega)]
          rw [if_neg k2, if_pos k3, if_neg k1, if_neg k2, if_pos k3, hg]
          by_cases q : (D.find? (isK o.key)).isSome = false ∨ ((D.find? (isK o.key)).getD Pr.none).val.toList ≠ o.old.toList
          · rw [if_pos ⟨k3, q⟩]
            refine ⟨?_, fun h => by cases h⟩
            rcases q with q | q
            · rw [q]; rfl
            · rw [decide_eq_false q, Bool.and_false]
          · rw [if_neg (fun hh => q hh.2), if_neg (by omega)]
            refine ⟨?_, fun _ => h.put _⟩
            have q1 : (D.find? (isK o.key)).isSome = true := by
              cases hs : (D.find? (isK o.key)).isSome with
              | true => rfl
              | false => exact absurd (.inl hs) q
            have q2 : ((D.find? (isK o.key)).getD Pr.none).val.toList = o.old.toList := Classical.byContradiction fun hn => q (.inr hn)
            rw [q1, decide_eq_true q2, hp]; rfl
        · rw [if_neg k3] at hr
          by_cases k4 : o.kind = 4
          · rw [if_neg k2, if_neg k3, if_pos k4, if_neg k1, if_neg k2, if_neg k3, if_neg (show ¬ (o.kind = 3 ∧ ((getT P o.key).isSome = false ∨ ((getT P o.key).getD Pr.none).val.toList ≠ o.old.toList)) from fun q => k3 q.1), if_pos k4, hg]
            exact ⟨rfl, fun _ => h⟩
          · rw [if_neg k4] at hr; cases hr
theorem tt_run (v : Int) (h1 : 1 ≤ v) (h2 : v ≤ 4096) : ∀ (ops : List OpR) {P D : List Pr}, Tt P D → (∀ o ∈ ops, opRightB o = true) →
    ((runOps ops v P).2 = true → (refRun ops v (D, 1)).2 = 1 ∧ Tt (runOps ops v P).1 (refRun ops v (D, 1)).1) ∧ ((runOps ops v P).2 = false → (refRun ops v (D, 1)).2 = 2) := by
  intro ops
  induction ops with
  | nil => intro P D h _; exact ⟨fun _ => ⟨rfl, h⟩, (fun h => by cases h)⟩
  | cons o os ih =>
    intro P D h hr
    obtain ⟨a, b⟩ := tt_op h (hr o (by simp)) h1 h2
    rw [runOps_cons]
    show (_ → (refRun os v (refOp D o v, if refBad D o = true then 2 else 1)).2 = 1 ∧ Tt _ (refRun os v (refOp D o v, if refBad D o = true then 2 else 1)).1) ∧ (_ → (refRun os v (refOp D o v, if refBad D o = true then 2 else 1)).2 = 2)
    cases hs : (stepP P o v).2 with
    | true =>
      rw [hs] at a b
      rw [a]
      simp only [if_true, Bool.not_true, Bool.false_eq_true, if_false]
      exact ih (b rfl) fun o ho => hr o (by simp [ho])
    | false =>
      rw [hs] at a
      rw [a]
      simp only [Bool.false_eq_true, if_false, Bool.not_false, if_true]
      exact ⟨(fun h => by cases h), fun _ => refRun_two os v _⟩
theorem right_ops {e : En} (hk : e.kind = 1) (hr : rightB e = true) : ∀ o ∈ e.ops, opRightB o = true := by
  intro o ho
  unfold rightB at hr
  rw [if_pos hk] at hr
  unfold wriB at hr
  simp only [Bool.and_eq_true] at hr
  have h := hr.2
  rw [Bool.not_eq_true', List.any_eq_false] at h
  have := h o ho
  simpa using this
def refTab (D : List Pr) (ops : List OpR) (at_ : Int) : List Pr := if (refRun ops (at_ + 1) (D, 1)).2 = 1 then (refRun ops (at_ + 1) (D, 1)).1 else D
theorem tt_write {P D : List Pr} (h : Tt P D) {e : En} (hk : e.kind = 1) (hr : rightB e = true) {at_ : Int} (h0 : 0 ≤ at_) (h1 : at_ < 4096) :
    (refRun e.ops (at_ + 1) (D, 1)).2 = codeW P e.ops at_ ∧ Tt (tabW P e.ops at_) (refTab D e.ops at_) := by
  obtain ⟨a, b⟩ := tt_run (at_ + 1) (by omega) (by omega) e.ops h (right_ops hk hr)
  unfold codeW tabW refTab
  cases hs : (runOps e.ops (at_ + 1) P).2 with
  | true =>
    obtain ⟨c, d⟩ := a hs
    rw [c, if_pos rfl, if_pos rfl, if_pos rfl]
    exact ⟨rfl, d⟩
  | false =>
    have c := b hs
    rw [c, if_neg (by decide), if_neg (by decide), if_neg (by decide)]
    exact ⟨rfl, h⟩
end Pl
end Go.Proofs.YtoiahcgaffffbaaGreatDoor
