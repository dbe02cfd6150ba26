/- St4, Law23p, St11, Wr23p, Ref23w, Wr23, CutP: one text. -/
import Derived.Test.YtbdagllflamabaaGreatDoorFinWatchReplaysQ28
import Derived.Test.YtbdagllflamabaaGreatDoorFinWatchReplaysQ7
import Derived.Test.YtbdagllflamabaaGreatDoorFinWatchReplaysQ30
import Derived.Test.YtbdagllflamabaaGreatDoorFinWatchReplaysQ24
import Derived.Test.YtbdagllflamabaaGreatDoorFinWatchReplaysQ27
import Derived.Test.YtbdagllflamabaaGreatDoorFinWatchReplaysQ22
import Derived.Test.YtbdagllflamabaaGreatDoorFinWatchReplaysQ10
set_option linter.unusedVariables false
set_option linter.unusedSectionVars false
set_option linter.unusedSimpArgs false
namespace Go.Proofs.YtbdagllflamabaaGreatDoor
open Go.RowKit Go.Maps
attribute [local go_sem] Oper.semAt_some uponV
def JTab (y : World) (f : Nat → Value) (x : World) : Prop := ∃ cb Fc, f 0 = .pointer (some ⟨cb, 0, none⟩) ∧ TabAt x Fc cb [] ∧ ∀ j, Fc j → y.heap.size ≤ j
def JSeen (y : World) (f : Nat → Value) (x : World) : Prop := ∃ db Gs, f 2 = .pointer (some ⟨db, 0, none⟩) ∧ SeenAt x Gs db 0 (fun _ => none) ∧ ∀ j, Gs j → y.heap.size ≤ j
def JBoth (y : World) (f : Nat → Value) (x : World) : Prop := ∃ cb Fc db Gs, f 0 = .pointer (some ⟨cb, 0, none⟩) ∧ TabAt x Fc cb [] ∧ (∀ j, Fc j → y.heap.size ≤ j) ∧ f 2 = .pointer (some ⟨db, 0, none⟩) ∧ SeenAt x Gs db 0 (fun _ => none) ∧ (∀ j, Gs j → y.heap.size ≤ j) ∧ ∀ j, Fc j → ¬ Gs j
structure JNew (y : World) (L : Nat → Bool) (f : Nat → Value) (x : World) : Prop where
  grew : Grew y x
  tab : L 0 = true → JTab y f x
  seen : L 2 = true → JSeen y f x
  both : L 0 = true → L 2 = true → JBoth y f x
theorem JNew.one {y x x' : World} {L : Nat → Bool} {f : Nat → Value} (h : JNew y L f x) (hL : L 0 = false) {cb : Nat} {Fc : Nat → Prop} (hT : TabAt x' Fc cb []) (hF : ∀ j, Fc j → x.heap.size ≤ j) (g : Grew x x') :
    JNew y (plus L 0) (updV f 0 (.pointer (some ⟨cb, 0, none⟩))) x' := by
  have hF2 : ∀ j, Fc j → y.heap.size ≤ j := fun j hj => Nat.le_trans h.grew.size (hF j hj)
  have hs : plus L 0 2 = true → L 2 = true := fun h => by rwa [plus_ne (by decide)] at h
  refine ⟨h.grew.trans g, fun _ => ⟨cb, Fc, updV_same _ _ _, hT, hF2⟩, fun h2 => ?_, fun _ h2 => ?_⟩
  · obtain ⟨db, Gs, e, hS, hG⟩ := h.seen (hs h2)
    exact ⟨db, Gs, by rw [updV_ne (by decide)]; exact e, hS.grew g, hG⟩
  · obtain ⟨db, Gs, e, hS, hG⟩ := h.seen (hs h2)
    exact ⟨cb, Fc, db, Gs, updV_same _ _ _, hT, hF2, by rw [updV_ne (by decide)]; exact e, hS.grew g, hG, fun j hj hj2 => by have := hF j hj; have := hS.lt j hj2; omega⟩
theorem JNew.two {y x x' : World} {L : Nat → Bool} {f : Nat → Value} (h : JNew y L f x) (hL : L 2 = false) {db : Nat} {Gs : Nat → Prop} (hT : SeenAt x' Gs db 0 (fun _ => none)) (hF : ∀ j, Gs j → x.heap.size ≤ j) (g : Grew x x') :
    JNew y (plus L 2) (updV f 2 (.pointer (some ⟨db, 0, none⟩))) x' := by
  have hF2 : ∀ j, Gs j → y.heap.size ≤ j := fun j hj => Nat.le_trans h.grew.size (hF j hj)
  have hs : plus L 2 0 = true → L 0 = true := fun h => by rwa [plus_ne (by decide)] at h
  refine ⟨h.grew.trans g, fun h2 => ?_, fun _ => ⟨db, Gs, updV_same _ _ _, hT, hF2⟩, fun h2 _ => ?_⟩
  · obtain ⟨cb, Fc, e, hS, hG⟩ := h.tab (hs h2)
    exact ⟨cb, Fc, by rw [updV_ne (by decide)]; exact e, hS.grew g, hG⟩
  · obtain ⟨cb, Fc, e, hS, hG⟩ := h.tab (hs h2)
    exact ⟨cb, Fc, db, Gs, by rw [updV_ne (by decide)]; exact e, hS.grew g, hG, updV_same _ _ _, hT, hF2, fun j hj hj2 => by have := hF j hj2; have := tabAt_lt hS j hj; omega⟩
theorem right_nil : Pl.rightS ⟨#[]⟩ ⟨#[]⟩ = true := by kernel_rfl
set_option maxRecDepth 100000 in
set_option maxHeartbeats 4000000 in
theorem newS_any (S : Nat → Bool) (E : Nat → Addr) (hS : KeyS S) (lo hi : ByteArray) (w : World) (hl : lo.size ≤ 70368744177664) (hh : hi.size ≤ 70368744177664) (hE : Errs S E w) (hr : Pl.rightS lo hi = true) (hgood : Pl.Good []) :
    Calls Tryz.prog 41 #[.agg #[.string lo, .string hi]] w fun e w' => ∃ cb Gt Gs, e = .returned (.tuple #[.pointer (some ⟨cb, 0, none⟩), .nilIface]) ∧ StAt w' Gt Gs cb 0 lo hi [] (fun _ => none) ∧ (∀ j, Gt j → w.heap.size ≤ j) ∧ (∀ j, Gs j → w.heap.size ≤ j) ∧ w.heap.size ≤ cb ∧ Grew w w' := by
  have HR := hid (fun W (g : Grew w W) => right_span S E hS lo hi W hl hh (hE.grew g))
  rw [hr] at HR
  have HG := hid hgood
  clear hE hr hgood hS hl hh
  go_enter Tryz.func41, Tryz.ntmps41
  go_wp2_with fail
  refine (HR.out _ ((Grew.refl w).alloc _)).mono ?_
  rintro e w1 ⟨rfl, hg1⟩
  have HG1 := hid (((Grew.refl w).alloc _).trans hg1)
  have C0 := wd_cell (w := w1) (show w1.cell? ⟨w.heap.size, 0, none⟩ = some (.string lo) from (hg1.cells.1 _ _ (by simp)).trans (by simp [go_sem]))
  have C1 := wd_cell (w := w1) (show w1.cell? ⟨w.heap.size, 1, none⟩ = some (.string hi) from (hg1.cells.1 _ _ (by simp)).trans (by simp [go_sem]))
  clear HR hg1
  go_wp2_with fail
  refine wp_region_mixS 3 [0, 2] (Grew w1) Eq (JNew w1) (fun f a => (a.put (some 8) (f 0)).put (some 10) (f 2)) (by kernel_rfl) (by kernel_rfl) (fun _ _ => rfl) ⟨(Grew.refl w1).drew, (fun h => by cases h), (fun h => by cases h), (fun h => by cases h)⟩ (fun _ _ _ h => h.grew) (fun _ => rfl) (fun _ _ _ _ h g => g ▸ h) ?_
  repeat (first
    | (refine mixS_loose (by rfl) (by rfl) ?_)
    | (refine mixS_plain (by rfl) (by rfl) (by rfl) (by first | exact Grew.refl | exact fun _ => rfl) (by rfl) ?_; intro K hK; go_big_quiet_op; go_big_quiet_on)
    | (refine mixS_skip (by rfl) (by rfl) (by rfl) ?_; simp only [Act.put, List.setIfInBounds_toArray, List.set_cons_zero, List.set_cons_succ]))
  refine mixS_done (by rfl) ⟨⟨loose_of rfl (fun _ a => a) (fun _ _ => rfl) (fun _ => rfl) ?_, loose_of rfl (fun f a => a.put (some 8) (f 0)) (fun _ _ => rfl) (fun _ => rfl) ?_, trivial⟩, ?_⟩
  · intro L f x hJ hL hd
    have HJ := hid hJ
    have HL := hid hL
    clear hJ hL hd C0 C1
    go_simp
    refine (newT_any x).mono ?_
    rintro e x' ⟨rfl, hg, hT⟩
    exact ⟨_, rfl, HJ.out.one HL.out hT (fun j hj => by rw [hj]; exact Nat.le_refl _) hg⟩
  · intro L f x hJ hL hd
    have HJ := hid hJ
    have HL := hid hL
    clear hJ hL hd C0 C1
    go_simp
    refine (newD_any x).mono ?_
    rintro e x' ⟨sb, F, rfl, hT, hF, hg⟩
    exact ⟨_, rfl, HJ.out.two HL.out hT hF hg⟩
  intro f x hJ
  obtain ⟨cb, Fc, db, Gs, e0, hT, hF, e2, hS, hG2, hdis⟩ := hJ.both rfl rfl
  have hgx := hJ.grew
  have HF : Hid (StAt (x.alloc (.cells #[.pointer (some ⟨cb, 0, none⟩), .string lo, .string hi, .pointer (some ⟨db, 0, none⟩)] 51)) Fc Gs x.heap.size 0 lo hi [] (fun _ => none) ∧ Grew w (x.alloc (.cells #[.pointer (some ⟨cb, 0, none⟩), .string lo, .string hi, .pointer (some ⟨db, 0, none⟩)] 51)) ∧ w.heap.size ≤ x.heap.size ∧ (∀ j, Fc j → w.heap.size ≤ j) ∧ ∀ j, Gs j → w.heap.size ≤ j) := by
    have gA : Grew x (x.alloc (.cells #[.pointer (some ⟨cb, 0, none⟩), .string lo, .string hi, .pointer (some ⟨db, 0, none⟩)] 51)) := (Grew.refl x).alloc _
    have gW := HG1.out.trans hgx
    refine ⟨⟨cb, db, by simp [go_sem], by simp [go_sem], by simp [go_sem], by simp [go_sem], fun i => by simp [go_sem], hT.grew gA, hS.grew gA, HG.out, fun j hj => ⟨hdis j hj, fun e => ?_⟩, fun j hj e => ?_⟩, gW.trans gA, gW.size, fun j hj => Nat.le_trans HG1.out.size (hF j hj), fun j hj => Nat.le_trans HG1.out.size (hG2 j hj)⟩
    · have := tabAt_lt hT j hj; omega
    · have := hS.lt j hj; omega
  clear hT hF hS hG2 hdis hgx hJ C0 C1
  dsimp only [List.drop]
  simp only [Act.put, List.setIfInBounds_toArray, List.set_cons_succ, List.set_cons_zero]
  rw [e0, e2]
  clear e0 e2
  go_wp2_with fail
  go_ret2
  exact ⟨_, Fc, Gs, rfl, HF.out.1, HF.out.2.2.2.1, HF.out.2.2.2.2, HF.out.2.2.1, HF.out.2.1⟩
end Go.Proofs.YtbdagllflamabaaGreatDoor
namespace Go.Proofs.YtbdagllflamabaaGreatDoor
open Go.RowKit Go.Maps
attribute [local go_sem] Oper.semAt_some
namespace Pl
structure WrR where
  code : Int
  at_ : Int
  err : Nat
  P : List Pr
  S : Int → Option An
end Pl
def EnSz (e : En) : Prop := ∀ o ∈ e.ops, o.key.size ≤ 70368744177664 ∧ o.val.size ≤ 140737488351232
namespace Pl
end Pl
end Go.Proofs.YtbdagllflamabaaGreatDoor
namespace Go.Proofs.YtbdagllflamabaaGreatDoor
open Go.RowKit Go.Maps
attribute [local go_sem] Oper.semAt_some uponV
set_option maxRecDepth 100000 in
set_option maxHeartbeats 4000000 in
theorem writeS_moved (E : Nat → Addr) (e : En) {w : World} (hE : Errs stS E w) (hA : EnAt w e) (at_ : Int) {Ft Fs : Nat → Prop} {st n : Nat} {lo hi : ByteArray} {P : List Pr} {S : Int → Option An} (h : StAt w Ft Fs st n lo hi P S) (hk : e.kind = 1) (hr : Pl.rightB e = true) (h0 : 0 ≤ at_) (h1 : at_ < 4096) (hl : lo.size ≤ 70368744177664) (hh : hi.size ≤ 70368744177664) (hsz : ∀ o ∈ e.ops, o.key.size ≤ 70368744177664) (hin : (e.ops.any fun o => !Pl.hasS lo hi o.key) = true) :
    Calls Tryz.prog 82 #[.pointer (some ⟨st, 0, none⟩), e.agg, .int .i64 at_] w fun r w' => r = .returned (.tuple #[ansAgg 3 0, .nilIface]) ∧ Grew w w' := by
  have hT : KeyT stS := ⟨rfl, rfl, rfl, rfl⟩
  have hKS : KeyS stS := ⟨rfl, rfl, rfl, rfl⟩
  have hR := fun W (g : Grew w W) => rightE_any hT E e W (hE.grew g) (hA.grew g)
  rw [hr] at hR
  have HR := hid hR
  have HW := hid (WrIn.start w st e)
  have HKEYS := hid (fun W (g : Grew w W) => keysE_any hT E e W (hE.grew g) (hA.grew g) hk hr)
  have hany : ((e.ops.map OpR.key).any fun k => !Pl.hasS lo hi k) = true := by
    rw [List.any_map]; exact hin
  have hfew := hA.few
  have hANY := fun W (g : Grew w W) (a : Option Addr) (cap : Nat) (k : StrsAt W a (e.ops.map OpR.key)) (hB : BoxSp W w.heap.size st lo hi) => anyKey_any stS E hKS lo hi a cap (e.ops.map OpR.key) W hl hh (hE.grew g) w.heap.size st hB k (by simpa using hfew) (fun k hkm => by obtain ⟨o, ho, rfl⟩ := List.mem_map.1 hkm; exact hsz o ho)
  rw [hany, List.length_map] at hANY
  have HANY := hid hANY
  obtain ⟨tb, sb, h⟩ := h
  have HST := hid h
  have hstl : st < w.heap.size := cell_lt h.c0
  obtain ⟨Y, hY⟩ : ∃ Y, Y = (((w.alloc (.cells #[.pointer (some ⟨st, 0, none⟩)] 43)).alloc (.cells e.vals.toArray 26)).alloc (.cells #[.int .i64 0, .int .i64 0] 91)) := ⟨_, rfl⟩
  rw [← hY] at HW
  have HYE := hid hY
  clear hY hE hA hr hR hany hANY h hin hsz
  unfold En.agg at *
  obtain ⟨kind, shard, other, server, client, seq, key, upto, part, parts, ops, opsA, opsC, dataA, dataL, dataC⟩ := e
  unfold En.vals at HR HYE HKEYS ⊢
  dsimp only at *
  subst hk
  unfold ansAgg at *
  go_enter Tryz.func82, Tryz.ntmps82
  go_wp2_with fail
  rw [← HYE.out]
  refine (HR.out Y HW.out.grew).mono ?_
  rintro e w1 ⟨rfl, hg1⟩
  have HW1 := hid (HW.out.more hg1)
  have hl1 := HW1.out.lt
  have d0 : w1.cell? ⟨w.heap.size + 1, 0, none⟩ = some (.int .i64 1) := HW1.out.ent 0 _ rfl
  have d1 : w1.cell? ⟨w.heap.size + 1, 1, none⟩ = some (.int .i64 shard) := HW1.out.ent 1 _ rfl
  have d2 : w1.cell? ⟨w.heap.size + 1, 2, none⟩ = some (.int .i64 other) := HW1.out.ent 2 _ rfl
  have d3 : w1.cell? ⟨w.heap.size + 1, 3, none⟩ = some (.int .i64 server) := HW1.out.ent 3 _ rfl
  have d4 : w1.cell? ⟨w.heap.size + 1, 4, none⟩ = some (.int .i64 client) := HW1.out.ent 4 _ rfl
  have d5 : w1.cell? ⟨w.heap.size + 1, 5, none⟩ = some (.int .i64 seq) := HW1.out.ent 5 _ rfl
  have d6 : w1.cell? ⟨w.heap.size + 1, 6, none⟩ = some (.slice opsA ops.length opsC) := HW1.out.ent 6 _ rfl
  have d7 : w1.cell? ⟨w.heap.size + 1, 7, none⟩ = some (.string key) := HW1.out.ent 7 _ rfl
  have d8 : w1.cell? ⟨w.heap.size + 1, 8, none⟩ = some (.int .i64 upto) := HW1.out.ent 8 _ rfl
  have d9 : w1.cell? ⟨w.heap.size + 1, 9, none⟩ = some (.int .i64 part) := HW1.out.ent 9 _ rfl
  have d10 : w1.cell? ⟨w.heap.size + 1, 10, none⟩ = some (.int .i64 parts) := HW1.out.ent 10 _ rfl
  have d11 : w1.cell? ⟨w.heap.size + 1, 11, none⟩ = some (.slice dataA dataL dataC) := HW1.out.ent 11 _ rfl
  have k0 : ¬ at_ < 0 := by omega
  have k1 : ¬ 4096 ≤ at_ := by omega
  clear hg1 HW HR
  go_wp2_with fail
  refine (HKEYS.out w1 HW1.out.grew).mono ?_
  rintro e w2 ⟨⟨v, rfl, hown⟩, hg2⟩
  obtain ⟨a, cap, rfl, hks⟩ := strsAt_of (by rw [List.length_map]; exact hown)
  rw [List.length_map]
  have HW2 := hid (HW1.out.more hg2)
  have HKS := hid hks
  clear hg2 hown hks HKEYS d0 d1 d2 d3 d4 d5 d6 d7 d8 d9 d10 d11
  go_wp2_with fail
  refine (HANY.out w2 HW2.out.grew a cap HKS.out ⟨HW2.out.box, (HW2.out.grew.cells.1 _ _ hstl).trans HST.out.c1, (HW2.out.grew.cells.1 _ _ hstl).trans HST.out.c2⟩).mono ?_
  rintro e w3 ⟨rfl, hg3⟩
  have HW3 := hid (HW2.out.more hg3)
  clear hg3 HKS HANY HW1 HW2 hl1
  have a0 := HW3.out.a0
  have a1 := HW3.out.a1
  have f0 := HW3.out.f0
  have f1 := HW3.out.f1
  have hl3 := HW3.out.lt
  go_wp2_with fail
  refine bodyPost_ret (v := .tuple #[.agg #[.int .i64 3, .int .i64 0], .nilIface]) (by simp [results, Tryz.results82, go_sem, a0, a1, f0, f1]) rfl ⟨rfl, ?_⟩
  exact (HW3.out.grew.setCell (show w.heap.size ≤ w.heap.size + 2 by omega) _).setCell (show w.heap.size ≤ w.heap.size + 2 by omega) _
namespace Pl
def writeG (lo hi : ByteArray) (P : List Pr) (S : Int → Option An) (e : En) (at_ : Int) : WrR :=
  if ¬ (e.kind = 1 ∧ rightB e = true) then ⟨0, 0, 4, P, S⟩
  else if at_ < 0 ∨ 4096 ≤ at_ then ⟨0, 0, 1, P, S⟩
  else if (e.ops.any fun o => !hasS lo hi o.key) = true then ⟨3, 0, 0, P, S⟩
  else if askN (S e.client) e.seq = 1 then ⟨codeW P e.ops at_, at_, 0, tabW P e.ops at_, noteS S e.client ⟨e.seq, codeW P e.ops at_, at_⟩⟩
  else if askN (S e.client) e.seq = 2 then ⟨(askA (S e.client) e.seq).1, (askA (S e.client) e.seq).2, 0, P, S⟩
  else ⟨4, 0, 0, P, S⟩
theorem any_has {lo hi : ByteArray} {ops : List OpR} (h : ¬ (ops.any fun o => !hasS lo hi o.key) = true) : ∀ o ∈ ops, hasS lo hi o.key = true := by
  intro o ho
  cases hh : hasS lo hi o.key with
  | true => rfl
  | false => exact absurd (List.any_eq_true.2 ⟨o, ho, by rw [hh]; rfl⟩) h
end Pl
theorem writeG_any (E : Nat → Addr) (e : En) {w : World} (hE : Errs stS E w) (hA : EnAt w e) (hz : EnSz e) (at_ : Int) {Ft Fs : Nat → Prop} {st n : Nat} {lo hi : ByteArray} {P : List Pr} {S : Int → Option An} (h : StAt w Ft Fs st n lo hi P S) (hl : lo.size ≤ 70368744177664) (hh : hi.size ≤ 70368744177664) (hx : P.length ≤ 1000) (hn : n ≤ 1000000) :
    Calls Tryz.prog 82 #[.pointer (some ⟨st, 0, none⟩), e.agg, .int .i64 at_] w fun r w' => r = .returned (.tuple #[ansAgg (Pl.writeG lo hi P S e at_).code (Pl.writeG lo hi P S e at_).at_, errOf E (Pl.writeG lo hi P S e at_).err]) ∧ ∃ m, m ≤ n + 1 ∧ Wrote w w' Ft Fs st m lo hi (Pl.writeG lo hi P S e at_).P (Pl.writeG lo hi P S e at_).S := by
  have still : ∀ {w'}, Grew w w' → ∃ m, m ≤ n + 1 ∧ Wrote w w' Ft Fs st m lo hi P S := fun {w'} g => ⟨n, by omega, g.only _, Ft, h.grew g, fun _ hj => .inl hj⟩
  unfold Pl.writeG
  by_cases h1 : e.kind = 1 ∧ Pl.rightB e = true
  · rw [if_neg (not_not_intro h1)]
    by_cases h2 : at_ < 0 ∨ 4096 ≤ at_
    · rw [if_pos h2]
      refine (writeS_range E e w hE hA at_ st h1.1 h1.2 h2).mono ?_
      rintro r w' ⟨hr, hg⟩
      exact ⟨hr, still hg⟩
    · rw [if_neg h2]
      by_cases h5 : (e.ops.any fun o => !Pl.hasS lo hi o.key) = true
      · rw [if_pos h5]
        refine (writeS_moved E e hE hA at_ h h1.1 h1.2 (by omega) (by omega) hl hh (fun o ho => (hz o ho).1) h5).mono ?_
        rintro r w' ⟨hr, hg⟩
        exact ⟨hr, still hg⟩
      · rw [if_neg h5]
        by_cases h3 : askN (S e.client) e.seq = 1
        · rw [if_pos h3]
          refine (writeS_new E e hE hA at_ h h1.1 h1.2 (by omega) (by omega) hl hh (fun o ho => (hz o ho).1) (Pl.any_has h5) (fun o ho => (hz o ho).2) hx hn h3).mono ?_
          rintro r w' ⟨hr, hg⟩
          exact ⟨hr, n + 1, Nat.le_refl _, hg⟩
        · rw [if_neg h3]
          refine (writeS_seen E e hE hA at_ h h1.1 h1.2 (by omega) (by omega) hl hh (fun o ho => (hz o ho).1) (Pl.any_has h5) h3).mono ?_
          rintro r w' ⟨hr, hg⟩
          by_cases h4 : askN (S e.client) e.seq = 2
          · rw [if_pos h4] at hr ⊢
            exact ⟨hr, still hg⟩
          · rw [if_neg h4] at hr ⊢
            exact ⟨hr, still hg⟩
  · rw [if_pos h1]
    refine (writeS_form E e w hE hA at_ st h1).mono ?_
    rintro r w' ⟨hr, hg⟩
    exact ⟨hr, still hg⟩
end Go.Proofs.YtbdagllflamabaaGreatDoor
namespace Go.Proofs.YtbdagllflamabaaGreatDoor
namespace Pl
end Pl
end Go.Proofs.YtbdagllflamabaaGreatDoor
namespace Go.Proofs.YtbdagllflamabaaGreatDoor
open Go.RowKit Go.Maps
attribute [local go_sem] Oper.semAt_some uponV
structure WrM (w W : World) (e : En) : Prop where
  grew : Grew w W
  lt : w.heap.size + 2 < W.heap.size
  ent : ∀ j u, e.vals[j]? = some u → W.cell? ⟨w.heap.size, j, none⟩ = some u
  a0 : W.cell? ⟨w.heap.size + 1, 0, none⟩ = some (.int .i64 0)
  a1 : W.cell? ⟨w.heap.size + 1, 1, none⟩ = some (.int .i64 0)
  f0 : W.frozen? ⟨w.heap.size + 1, 0, none⟩ = false
  f1 : W.frozen? ⟨w.heap.size + 1, 1, none⟩ = false
  n0 : W.cell? ⟨w.heap.size + 2, 0, none⟩ = some (.int .i64 0)
  n1 : W.cell? ⟨w.heap.size + 2, 1, none⟩ = some (.int .i64 0)
theorem WrM.more {w W W' : World} {e : En} (h : WrM w W e) (g : Grew W W') : WrM w W' e :=
  have l := h.lt
  ⟨h.grew.trans g, Nat.lt_of_lt_of_le h.lt g.size, fun j u hj => (g.cells.1 _ _ (by omega)).trans (h.ent j u hj), (g.cells.1 _ _ (by omega)).trans h.a0, (g.cells.1 _ _ (by omega)).trans h.a1, (g.cells.2 _ _ (by omega)).trans h.f0, (g.cells.2 _ _ (by omega)).trans h.f1, (g.cells.1 _ _ (by omega)).trans h.n0, (g.cells.1 _ _ (by omega)).trans h.n1⟩
theorem WrM.start (w : World) (e : En) : WrM w (((w.alloc (.cells e.vals.toArray 26)).alloc (.cells #[.int .i64 0, .int .i64 0] 91)).alloc (.cells #[.int .i64 0, .int .i64 0] 91)) e := by
  refine ⟨(((Grew.refl w).alloc _).alloc _).alloc _, by simp, fun j u hj => ?_, by simp [go_sem], by simp [go_sem], by simp [go_sem], by simp [go_sem], by simp [go_sem], by simp [go_sem]⟩
  have h1 := ((Grew.refl (w.alloc (.cells e.vals.toArray 26))).alloc (.cells #[.int .i64 0, .int .i64 0] 91)).alloc (.cells #[.int .i64 0, .int .i64 0] 91)
  rw [h1.cells.1 w.heap.size j (by simp), cell_block (heap_alloc_new w _)]
  simpa using hj
theorem WrM.only {w W W' : World} {e : En} {T : Nat → Prop} (h : WrM w W e) (g : Only T W W') (hT : ∀ j, T j → j < w.heap.size ∨ w.heap.size + 2 < j) (hG : Grew w W') : WrM w W' e :=
  have l := h.lt
  have n : ∀ i, i ≤ 2 → ¬ T (w.heap.size + i) := fun i hi q => by have := hT _ q; omega
  ⟨hG, Nat.lt_of_lt_of_le h.lt g.size, fun j u hj => (g.cell (by omega) (n 0 (by omega)) _).trans (h.ent j u hj), (g.cell (by omega) (n 1 (by omega)) _).trans h.a0, (g.cell (by omega) (n 1 (by omega)) _).trans h.a1, (g.frozen (by omega) (n 1 (by omega)) _).trans h.f0, (g.frozen (by omega) (n 1 (by omega)) _).trans h.f1, (g.cell (by omega) (n 2 (by omega)) _).trans h.n0, (g.cell (by omega) (n 2 (by omega)) _).trans h.n1⟩
structure WrMC (w W : World) (e : En) : Prop where
  lt : w.heap.size + 2 < W.heap.size
  ent : ∀ j u, e.vals[j]? = some u → W.cell? ⟨w.heap.size, j, none⟩ = some u
  a0 : W.cell? ⟨w.heap.size + 1, 0, none⟩ = some (.int .i64 0)
  a1 : W.cell? ⟨w.heap.size + 1, 1, none⟩ = some (.int .i64 0)
  f0 : W.frozen? ⟨w.heap.size + 1, 0, none⟩ = false
  f1 : W.frozen? ⟨w.heap.size + 1, 1, none⟩ = false
theorem WrM.c {w W : World} {e : En} (h : WrM w W e) : WrMC w W e := ⟨h.lt, h.ent, h.a0, h.a1, h.f0, h.f1⟩
theorem WrMC.only {w W W' : World} {e : En} {T : Nat → Prop} (h : WrMC w W e) (g : Only T W W') (hT : ∀ j, T j → j < w.heap.size ∨ w.heap.size + 2 < j) : WrMC w W' e :=
  have l := h.lt
  have n : ∀ i, i ≤ 2 → ¬ T (w.heap.size + i) := fun i hi q => by have := hT _ q; omega
  ⟨Nat.lt_of_lt_of_le h.lt g.size, fun j u hj => (g.cell (by omega) (n 0 (by omega)) _).trans (h.ent j u hj), (g.cell (by omega) (n 1 (by omega)) _).trans h.a0, (g.cell (by omega) (n 1 (by omega)) _).trans h.a1, (g.frozen (by omega) (n 1 (by omega)) _).trans h.f0, (g.frozen (by omega) (n 1 (by omega)) _).trans h.f1⟩
theorem WrMC.more {w W W' : World} {e : En} (h : WrMC w W e) (g : Grew W W') : WrMC w W' e := h.only (g.only fun _ => False) (fun _ h => h.elim)
structure WrL (u W : World) (cb : Nat) (D : List Pr) : Prop where
  grew : Grew u W
  tab : ∃ G, RtAt W G cb D ∧ ∀ j, G j → u.heap.size ≤ j
theorem WrL.more {u W W' : World} {cb : Nat} {D : List Pr} (h : WrL u W cb D) (g : Grew W W') : WrL u W' cb D := by
  obtain ⟨G, h1, h2⟩ := h.tab
  exact ⟨h.grew.trans g, G, h1.grew g, h2⟩
theorem WrL.step {u W W' : World} {cb : Nat} {D D' : List Pr} (h : WrL u W cb D) {G : Nat → Prop} (h2 : ∀ j, G j → u.heap.size ≤ j) (t : RtTurn W G cb D' W') : WrL u W' cb D' := by
  obtain ⟨t1, G', t2, t3⟩ := t
  refine ⟨((h.grew.only _).then t1).grew h2, G', t2, fun j hj => ?_⟩
  rcases t3 j hj with q | q
  · exact h2 j q
  · exact Nat.le_trans h.grew.size q
theorem MsIs.note {w w' : World} {G : Nat → Prop} {ms tb sb : Nat} {lo hi : ByteArray} {D : List Pr} {S S' : Int → Option An} (h : MsIs w G ms tb sb lo hi D S) (g : Only (fun j => j = sb) w w') (hs : MSeen w' sb S') : MsIs w' G ms tb sb lo hi D S' where
  c0 := (g.cell (cell_lt h.c0) h.ne 0).trans h.c0
  c1 := (g.cell (cell_lt h.c0) h.ne 1).trans h.c1
  c2 := (g.cell (cell_lt h.c0) h.ne 2).trans h.c2
  c3 := (g.cell (cell_lt h.c0) h.ne 3).trans h.c3
  f0 := (g.frozen (cell_lt h.c0) h.ne 0).trans h.f0
  f1 := (g.frozen (cell_lt h.c0) h.ne 1).trans h.f1
  f2 := (g.frozen (cell_lt h.c0) h.ne 2).trans h.f2
  tab := h.tab.kept g fun j hj => (h.apart j hj).2
  seen := hs
  ne := h.ne
  apart := h.apart
theorem MsIs.lay {w : World} {G G' : Nat → Prop} {ms tb cb sb : Nat} {lo hi : ByteArray} {D D' : List Pr} {S : Int → Option An} (h : MsIs w G ms tb sb lo hi D S) (ht : RtAt w G' cb D') (hG : ∀ j, G' j → j ≠ ms ∧ j ≠ sb) : MsIs (w.setCell ⟨ms, 2, none⟩ (.pointer (some ⟨cb, 0, none⟩))) G' ms cb sb lo hi D' S where
  c0 := (World.cell?_setCell_other _ _ _ _ (by intro e; injection e with _ e2; cases e2)).trans h.c0
  c1 := (World.cell?_setCell_other _ _ _ _ (by intro e; injection e with _ e2; cases e2)).trans h.c1
  c2 := World.cell?_setCell_same' _ _ _ (by rw [h.c2]; rfl)
  c3 := (World.cell?_setCell_other _ _ _ _ (by intro e; injection e with _ e2; cases e2)).trans h.c3
  f0 := by rw [World.frozen?_setCell]; exact h.f0
  f1 := by rw [World.frozen?_setCell]; exact h.f1
  f2 := by rw [World.frozen?_setCell]; exact h.f2
  tab := ht.kept (Only.setCell w ⟨ms, 2, none⟩ _) fun j hj => (hG j hj).1
  seen := h.seen.kept (Only.setCell w ⟨ms, 2, none⟩ _) fun e => h.ne e.symm
  ne := h.ne
  apart := hG
end Go.Proofs.YtbdagllflamabaaGreatDoor
namespace Go.Proofs.YtbdagllflamabaaGreatDoor
open Go.RowKit Go.Maps
attribute [local go_sem] Oper.semAt_some
namespace Pl
def InS (lo hi : ByteArray) (P : List Pr) : Prop := ∀ c ∈ P, hasS lo hi c.key = true
theorem inS_nil (lo hi : ByteArray) : InS lo hi [] := fun c h => by cases h
theorem step_mem {P : List Pr} (h : Srt P) (o : OpR) (v : Int) : ∀ c ∈ (stepP P o v).1, c ∈ P ∨ c.key = o.key := by
  intro c hc
  unfold stepP at hc
  split at hc
  · exact .inl ((mem_del h _ _).1 hc).1
  · split at hc
    · exact .inl hc
    · split at hc
      · exact .inl hc
      · unfold putT at hc
        dsimp only at hc
        split at hc
        · next hp =>
          rcases (mem_put h (putN_zero hp).1 _).1 hc with hq | hq
          · exact .inr (by rw [hq])
          · exact .inl hq.1
        · exact .inl hc
theorem step_srt {P : List Pr} (h : Srt P) (o : OpR) (v : Int) : Srt (stepP P o v).1 := by
  unfold stepP
  split
  · exact srt_del h _
  · split
    · exact h
    · split
      · exact h
      · unfold putT
        dsimp only
        split
        · next hp => exact srt_put h (putN_zero hp).1
        · exact h
theorem runOps_in {lo hi : ByteArray} (v : Int) : ∀ (ops : List OpR) {P : List Pr}, Srt P → InS lo hi P → (∀ o ∈ ops, hasS lo hi o.key = true) → InS lo hi (runOps ops v P).1 := by
  intro ops
  induction ops with
  | nil => intro P _ h _; exact h
  | cons o os ih =>
    intro P hs h ho
    have h1 : InS lo hi (stepP P o v).1 := fun c hc => by
      rcases step_mem hs o v c hc with q | q
      · exact h c q
      · rw [q]; exact ho o (by simp)
    rw [runOps_cons]
    split
    · exact ih (step_srt hs o v) h1 fun x hx => ho x (by simp [hx])
    · exact h1
theorem writeG_in {lo hi : ByteArray} {P : List Pr} (hs : Srt P) (h : InS lo hi P) (S : Int → Option An) (e : En) (at_ : Int) : InS lo hi (writeG lo hi P S e at_).P := by
  unfold writeG
  split
  · exact h
  · split
    · exact h
    · split
      · exact h
      · next hq =>
        split
        · show InS lo hi (tabW P e.ops at_)
          unfold tabW
          split
          · exact runOps_in _ _ hs h (any_has hq)
          · exact h
        · split <;> exact h
theorem writeG_len (lo hi : ByteArray) (P : List Pr) (S : Int → Option An) (e : En) (at_ : Int) : (writeG lo hi P S e at_).P.length ≤ P.length + 8 := by
  unfold writeG
  by_cases h1 : e.kind = 1 ∧ rightB e = true
  · rw [if_neg (not_not_intro h1)]
    split
    · dsimp only; omega
    · split
      · dsimp only; omega
      · split
        · have := tabW_len P e.ops at_; have := (right_seq h1.1 h1.2).2.2; dsimp only; omega
        · split <;> (dsimp only; omega)
  · rw [if_pos h1]; dsimp only; omega
end Pl
def BlS (Ft Fs : Nat → Prop) (st j : Nat) : Prop := Ft j ∨ Fs j ∨ j = st
def BlM (G : Nat → Prop) (ms sb j : Nat) : Prop := G j ∨ j = ms ∨ j = sb
structure TwS (w0 W : World) (st ms n : Nat) (lo hi : ByteArray) (P : List Pr) (S : Int → Option An) : Prop where
  grew : Grew w0 W
  ex : ∃ Ft Fs G sb D, StAt W Ft Fs st n lo hi P S ∧ MsAt W G ms sb lo hi D S ∧ Pl.Tt P D ∧ (∀ j, BlS Ft Fs st j → w0.heap.size ≤ j ∧ ¬ BlM G ms sb j) ∧ (∀ j, BlM G ms sb j → w0.heap.size ≤ j)
  ins : Pl.InS lo hi P
section
variable {w0 W W' : World} {st ms n : Nat} {lo hi : ByteArray} {P : List Pr} {S : Int → Option An}
theorem StAt.all {W : World} {Ft Fs : Nat → Prop} {st n : Nat} {lo hi : ByteArray} {P : List Pr} {S : Int → Option An} (h : StAt W Ft Fs st n lo hi P S) : ∀ j, BlS Ft Fs st j → j < W.heap.size := by
  obtain ⟨tb, sb, h⟩ := h
  rintro j (hj | hj | rfl)
  · exact tabAt_lt h.tab j hj
  · exact h.seen.lt j hj
  · exact cell_lt h.c0
theorem MsAt.all {W : World} {G : Nat → Prop} {ms sb : Nat} {lo hi : ByteArray} {D : List Pr} {S : Int → Option An} (h : MsAt W G ms sb lo hi D S) : ∀ j, BlM G ms sb j → j < W.heap.size := by
  obtain ⟨a, b, c⟩ := h.lt
  rintro j (hj | rfl | rfl)
  · exact c j hj
  · exact a
  · exact b
theorem TwS.more (h : TwS w0 W st ms n lo hi P S) (g : Grew W W') : TwS w0 W' st ms n lo hi P S := by
  obtain ⟨Ft, Fs, G, sb, D, h1, h2, h3⟩ := h.ex
  exact ⟨h.grew.trans g, ⟨Ft, Fs, G, sb, D, h1.grew g, h2.grew g, h3⟩, h.ins⟩
end
end Go.Proofs.YtbdagllflamabaaGreatDoor
namespace Go.Proofs.YtbdagllflamabaaGreatDoor
namespace Pl
theorem key_right {s : ByteArray} (h : keyN s = 0) : right s = true := by
  obtain ⟨l, hl⟩ := ok_key h
  unfold right
  rw [hl]; rfl
theorem has_right {lo hi key : ByteArray} (h : hasS lo hi key = true) : rightS lo hi = true ∧ isKey key = true ∧ 0 ≤ compare key lo ∧ lessB key hi = true := by
  unfold hasS at h
  simp only [Bool.and_eq_true, decide_eq_true_eq] at h
  exact ⟨h.1.1.1, h.1.1.2, h.1.2, h.2⟩
theorem none0_iff (b : ByteArray) : none0 b = true ↔ b = ⟨#[]⟩ := by
  unfold none0
  rw [ByteArray.toList_eq]
  constructor
  · intro h
    have : b.data.toList = [] := List.isEmpty_iff.1 h
    cases b with
    | mk d => simp at this; rw [this]
  · rintro rfl; rfl
theorem ok_none : Ok ⟨#[]⟩ := ⟨[], rfl⟩
theorem ok_isKey {s : ByteArray} (h : isKey s = true) : Ok s := ok_key (by unfold isKey at h; simpa using h)
theorem ok_end {s : ByteArray} (h : endB s = true) : Ok s := by
  unfold endB at h
  rw [Bool.or_eq_true] at h
  rcases h with h | h
  · rw [(none0_iff s).1 h]; exact ok_none
  · exact ok_isKey h
theorem key_none {k : ByteArray} (h : isKey k = true) : none0 k = false := by
  cases hn : none0 k with
  | false => rfl
  | true =>
    rw [(none0_iff k).1 hn] at h
    exact absurd h (by decide)
theorem cut_join {lo hi key : ByteArray} (h : hasS lo hi key = true) (hne : key.toList ≠ lo.toList) :
    rightS lo key = true ∧ rightS key hi = true ∧ joinE (rightS lo key) (rightS key hi) lo key key hi = 0 ∧ joinV (rightS lo key) (rightS key hi) lo key key hi = (lo, hi) := by
  obtain ⟨h1, h2, h3, h4⟩ := has_right h
  unfold rightS at h1
  simp only [Bool.and_eq_true] at h1
  obtain ⟨⟨e1, e2⟩, e3⟩ := h1
  have hek : endB key = true := by unfold endB; rw [h2]; simp
  have hlt : lessB lo key = true := by
    unfold lessB
    rw [key_none h2, Bool.false_or, decide_eq_true_eq]
    have hz : compare key lo ≠ 0 := by
      intro hz
      have := compare_zero (ok_isKey h2) (ok_end e1) hz
      exact hne (by rw [this])
    have := compare_swap (ok_isKey h2) (ok_end e1)
    omega
  have r1 : rightS lo key = true := by unfold rightS; rw [e1, hek, hlt]; rfl
  have r2 : rightS key hi = true := by unfold rightS; rw [e2, hek, h4]; rfl
  refine ⟨r1, r2, ?_, ?_⟩
  · unfold joinE; rw [r1, r2, key_none h2]; simp
  · unfold joinV; rw [r1, r2, key_none h2]; simp
theorem cutE_zero {lo hi key : ByteArray} (h : cutE (rightS lo hi) (keyN key) (hasS lo hi key) lo key = 0) : keyN key = 0 ∧ hasS lo hi key = true ∧ key.toList ≠ lo.toList := by
  unfold cutE at h
  split at h
  · cases h
  · split at h
    · omega
    · split at h
      · cases h
      · rename_i h1 h2 h3
        refine ⟨by omega, ?_, fun e => h3 (.inr e)⟩
        cases e : hasS lo hi key with
        | true => rfl
        | false => exact absurd (.inl e) h3
theorem cut_cases {P : List Pr} {lo hi key : ByteArray} (hP : Srt P) (hin : InS lo hi P) (h : cutE (rightS lo hi) (keyN key) (hasS lo hi key) lo key = 0) :
    rightS lo key = true ∧ rightS key hi = true ∧ InS lo key (P.take (cutN P key)) ∧ InS key hi (P.drop (cutN P key)) ∧ key.size ≤ 96 := by
  obtain ⟨h1, h2, h3⟩ := cutE_zero h
  obtain ⟨r1, r2, _, _⟩ := cut_join h2 h3
  have hk : isKey key = true := by unfold isKey; rw [h1]; rfl
  have hok := ok_isKey hk
  have hr : right key = true := key_right h1
  have hn : cutN P key = pos P key := by unfold cutN; rw [if_pos hr]
  rw [hn]
  refine ⟨r1, r2, fun c hc => ?_, fun c hc => ?_, key_size h1⟩
  · obtain ⟨hm, hlt⟩ := (mem_take_pos hP hok c).1 hc
    obtain ⟨_, q2, q3, _⟩ := has_right (hin c hm)
    unfold hasS
    rw [r1, q2]
    have : lessB c.key key = true := by unfold lessB; rw [decide_eq_true hlt, Bool.or_true]
    rw [this, decide_eq_true q3]; rfl
  · obtain ⟨hm, hlt⟩ := (mem_drop_pos hP hok c).1 hc
    obtain ⟨_, q2, _, q4⟩ := has_right (hin c hm)
    unfold hasS
    rw [r2, q2, q4, decide_eq_true (show 0 ≤ compare c.key key by omega)]; rfl
end Pl
end Go.Proofs.YtbdagllflamabaaGreatDoor
