/- St1, Ref22, Ref23, R5, St5, StS, St7: one text. -/
import Derived.Test.YtbdagllflamabaaGreatDoorFinWatchReplaysQ20
import Derived.Test.YtbdagllflamabaaGreatDoorFinWatchReplaysQ27
import Derived.Test.YtbdagllflamabaaGreatDoorFinWatchReplaysQ18
import Derived.BigQuiet
import Derived.Test.YtbdagllflamabaaGreatDoorFinWatchReplaysQ26
import Derived.Test.YtbdagllflamabaaGreatDoorFinWatchReplaysQ5
import Derived.Test.YtbdagllflamabaaGreatDoorFinWatchReplaysQ22
import Derived.Deep.DeepCutAuto
import Derived.Test.YtbdagllflamabaaGreatDoorFinWatchReplaysQ4
import Derived.Test.YtbdagllflamabaaGreatDoorFinWatchReplaysQ2
import Derived.Test.YtbdagllflamabaaGreatDoorFinWatchReplaysQ6
import Derived.Test.YtbdagllflamabaaGreatDoorFinWatchReplaysQ7
set_option linter.unusedVariables false
set_option linter.unusedSectionVars false
set_option linter.unusedSimpArgs false
namespace Go.Proofs.YtbdagllflamabaaGreatDoor
open Go.RowKit Go.Maps
attribute [local go_sem] Oper.semAt_some uponV
structure StIs (w : World) (Ft Fs : Nat → Prop) (st tb sb n : Nat) (lo hi : ByteArray) (P : List Pr) (S : Int → Option An) : Prop where
  c0 : w.cell? ⟨st, 0, none⟩ = some (.pointer (some ⟨tb, 0, none⟩))
  c1 : w.cell? ⟨st, 1, none⟩ = some (.string lo)
  c2 : w.cell? ⟨st, 2, none⟩ = some (.string hi)
  c3 : w.cell? ⟨st, 3, none⟩ = some (.pointer (some ⟨sb, 0, none⟩))
  f0 : ∀ i, w.frozen? ⟨st, i, none⟩ = false
  tab : TabAt w Ft tb P
  seen : SeenAt w Fs sb n S
  good : Pl.Good P
  apart : ∀ j, Ft j → ¬ Fs j ∧ j ≠ st
  own : ∀ j, Fs j → j ≠ st
def StAt (w : World) (Ft Fs : Nat → Prop) (st n : Nat) (lo hi : ByteArray) (P : List Pr) (S : Int → Option An) : Prop := ∃ tb sb, StIs w Ft Fs st tb sb n lo hi P S
section
variable {w w' : World} {Ft Fs T : Nat → Prop} {st tb sb n : Nat} {lo hi : ByteArray} {P : List Pr} {S : Int → Option An}
theorem StIs.kept (h : StIs w Ft Fs st tb sb n lo hi P S) (g : Only T w w') (h1 : ∀ j, Ft j → ¬ T j) (h2 : ∀ j, Fs j → ¬ T j) (h3 : ¬ T st) : StIs w' Ft Fs st tb sb n lo hi P S where
  c0 := (g.cell (cell_lt h.c0) h3 0).trans h.c0
  c1 := (g.cell (cell_lt h.c0) h3 1).trans h.c1
  c2 := (g.cell (cell_lt h.c0) h3 2).trans h.c2
  c3 := (g.cell (cell_lt h.c0) h3 3).trans h.c3
  f0 := fun i => (g.frozen (cell_lt h.c0) h3 i).trans (h.f0 i)
  tab := h.tab.kept g h1
  seen := h.seen.kept g h2
  good := h.good
  apart := h.apart
  own := h.own
theorem StAt.kept (h : StAt w Ft Fs st n lo hi P S) (g : Only T w w') (h1 : ∀ j, Ft j → ¬ T j) (h2 : ∀ j, Fs j → ¬ T j) (h3 : ¬ T st) : StAt w' Ft Fs st n lo hi P S := by
  obtain ⟨tb, sb, h⟩ := h
  exact ⟨tb, sb, h.kept g h1 h2 h3⟩
theorem StAt.grew (h : StAt w Ft Fs st n lo hi P S) (g : Grew w w') : StAt w' Ft Fs st n lo hi P S := h.kept (g.only fun _ => False) (fun _ _ h => h) (fun _ _ h => h) (fun h => h)
end
structure JCpy (y : World) (n : Nat) (P : List Pr) (S : Int → Option An) (L : Nat → Bool) (f : Nat → Value) (x : World) : Prop where
  grew : Grew y x
  ord : L 13 = true → L 4 = true
  tab : L 4 = true → ∃ cb Fc, f 4 = .pointer (some ⟨cb, 0, none⟩) ∧ TabAt x Fc cb P ∧ (∀ j, Fc j → y.heap.size ≤ j) ∧ (L 13 = true → ∃ db Gs, f 13 = .pointer (some ⟨db, 0, none⟩) ∧ SeenAt x Gs db n S ∧ (∀ j, Gs j → y.heap.size ≤ j) ∧ ∀ j, Fc j → ¬ Gs j)
set_option maxRecDepth 100000 in
set_option maxHeartbeats 4000000 in
theorem copyS_any {w : World} {Ft Fs : Nat → Prop} {st n : Nat} {lo hi : ByteArray} {P : List Pr} {S : Int → Option An} (h : StAt w Ft Fs st n lo hi P S) (hx : P.length ≤ 1000) :
    Calls Tryz.prog 50 #[.pointer (some ⟨st, 0, none⟩)] w fun e w' => ∃ cb Gt Gs, e = .returned (.pointer (some ⟨cb, 0, none⟩)) ∧ StAt w' Gt Gs cb n lo hi P S ∧ w.heap.size ≤ cb ∧ (∀ j, Gt j → w.heap.size ≤ j) ∧ (∀ j, Gs j → w.heap.size ≤ j) ∧ Grew w w' := by
  obtain ⟨tb, sb, h⟩ := h
  have HC := hid (fun W (g : Grew w W) => copyT_any (h.tab.grew g) (by omega))
  have HD := hid (fun W (g : Grew w W) => copyD_any (h.seen.grew g))
  have HG := hid h.good
  have c0 := h.c0
  have hst : st < w.heap.size := cell_lt c0
  have C0 := wd_cell h.c0
  have C1 := wd_cell h.c1
  have C2 := wd_cell h.c2
  have C3 := wd_cell h.c3
  have HC3 := hid h.c3
  clear h c0
  go_enter Tryz.func50, Tryz.ntmps50
  go_wp2_with fail
  refine wp_region_mixS 14 [4, 13] (Grew w) Eq (JCpy w n P S) (fun f a => (a.put (some 7) (f 4)).put (some 16) (f 13)) (by kernel_rfl) (by kernel_rfl) (fun _ _ => rfl) ⟨(Grew.refl w).drew, (fun h => by cases h), (fun h => by cases h)⟩ (fun _ _ _ h => h.grew) (fun _ => rfl) (fun _ _ _ _ h g => g ▸ h) ?_
  repeat (first
    | (refine mixS_loose (by rfl) (by rfl) ?_)
    | (refine mixS_plain (by rfl) (by rfl) (by rfl) (by first | exact Grew.refl | exact fun _ => rfl) (by rfl) ?_; intro K hK; go_big_quiet_op; go_big_quiet_on)
    | (refine mixS_skip (by rfl) (by rfl) (by rfl) ?_; simp only [Act.put, List.setIfInBounds_toArray, List.set_cons_zero, List.set_cons_succ]))
  refine mixS_done (by rfl) ⟨⟨loose_of rfl (fun _ a => a) (fun _ _ => rfl) (fun _ => rfl) ?_, loose_of rfl (fun f a => a.put (some 7) (f 4)) (fun _ _ => rfl) (fun _ => rfl) ?_, trivial⟩, ?_⟩
  · intro L f x hJ hL hd
    have h13 : L 13 = false := bool_no fun h => by rw [hJ.ord h] at hL; cases hL
    have HJ := hid hJ
    have H13 := hid h13
    clear hJ hL hd C0 C1 C2 C3 h13
    go_simp
    refine (HC.out x HJ.out.grew).mono ?_
    rintro e x' ⟨⟨cb, Fc, rfl, hT, hF⟩, hg⟩
    refine ⟨_, rfl, HJ.out.grew.trans hg, fun h => plus_on, fun _ => ⟨cb, Fc, updV_same _ _ _, hT, fun j hj => Nat.le_trans HJ.out.grew.size (hF j hj), fun h => ?_⟩⟩
    rw [plus_ne (by decide), H13.out] at h; cases h
  · intro L f x hJ hL hd
    have l4 := hd 4 rfl (by decide)
    obtain ⟨cb, Fc, e4, hT, hF, _⟩ := hJ.tab l4
    have HJ := hid hJ
    have HT := hid (And.intro e4 (And.intro hT hF))
    have HL4 := hid l4
    clear hJ hL hd C0 C1 C2 C3 hT hF l4
    rw [e4]
    clear e4
    go_simp
    refine (HD.out x HJ.out.grew).mono ?_
    rintro e x' ⟨db, Gs, rfl, hS, hG2, hg⟩
    refine ⟨_, rfl, HJ.out.grew.trans hg, fun h => plus_up HL4.out, fun _ => ⟨cb, Fc, ?_, HT.out.2.1.grew hg, HT.out.2.2, fun _ => ⟨db, Gs, updV_same _ _ _, hS, fun j hj => Nat.le_trans HJ.out.grew.size (hG2 j hj), fun j hj hj2 => ?_⟩⟩⟩
    · rw [updV_ne (by decide)]; exact HT.out.1
    · have h1 := tabAt_lt HT.out.2.1 j hj
      have h2 := hG2 j hj2
      omega
  intro f x hJ
  obtain ⟨cb, Fc, e4, hT, hF, h13⟩ := hJ.tab rfl
  obtain ⟨db, Gs, e13, hS, hG2, hdis⟩ := h13 rfl
  have hgx := hJ.grew
  have HF : Hid (StAt (x.alloc (.cells #[.pointer (some ⟨cb, 0, none⟩), .string lo, .string hi, .pointer (some ⟨db, 0, none⟩)] 51)) Fc Gs x.heap.size n lo hi P S ∧ Grew w (x.alloc (.cells #[.pointer (some ⟨cb, 0, none⟩), .string lo, .string hi, .pointer (some ⟨db, 0, none⟩)] 51)) ∧ w.heap.size ≤ x.heap.size ∧ (∀ j, Fc j → w.heap.size ≤ j) ∧ ∀ j, Gs j → w.heap.size ≤ j) := by
    have gA : Grew x (x.alloc (.cells #[.pointer (some ⟨cb, 0, none⟩), .string lo, .string hi, .pointer (some ⟨db, 0, none⟩)] 51)) := (Grew.refl x).alloc _
    refine ⟨⟨cb, db, by simp [go_sem], by simp [go_sem], by simp [go_sem], by simp [go_sem], fun i => by simp [go_sem], hT.grew gA, hS.grew gA, HG.out, fun j hj => ⟨hdis j hj, fun e => ?_⟩, fun j hj e => ?_⟩, hgx.trans gA, hgx.size, hF, hG2⟩
    · have := tabAt_lt hT j hj; omega
    · have := hS.lt j hj; omega
  clear hT hF h13 hS hG2 hdis hgx hJ C0 C1 C2 C3
  dsimp only [List.drop]
  simp only [Act.put, List.setIfInBounds_toArray, List.set_cons_succ, List.set_cons_zero]
  rw [e4, e13]
  clear e4 e13
  go_wp2_with fail
  go_ret
  exact ⟨_, Fc, Gs, rfl, HF.out.1, HF.out.2.2.1, HF.out.2.2.2.1, HF.out.2.2.2.2, HF.out.2.1⟩
end Go.Proofs.YtbdagllflamabaaGreatDoor
namespace Go.Proofs.YtbdagllflamabaaGreatDoor
open Go.RowKit Go.Maps
attribute [local go_sem] Oper.semAt_some
def seqO (o : Option An) : Int := match o with | none => 0 | some a => a.seq
def codeO (o : Option An) : Int := match o with | none => 0 | some a => a.code
def atO (o : Option An) : Int := match o with | none => 0 | some a => a.at_
structure MSeen (w : World) (rb : Nat) (S : Int → Option An) : Prop where
  seq : ∀ c : Nat, c < 5 → w.cell? ⟨rb, c, none⟩ = some (.int .i64 (seqO (S c)))
  code : ∀ c : Nat, c < 5 → w.cell? ⟨rb, 5 + c * 2, none⟩ = some (.int .i64 (codeO (S c)))
  at_ : ∀ c : Nat, c < 5 → w.cell? ⟨rb, 6 + c * 2, none⟩ = some (.int .i64 (atO (S c)))
  froz : ∀ o, o < 15 → w.frozen? ⟨rb, o, none⟩ = false
  ok : ∀ c a, S c = some a → 1 ≤ c ∧ c ≤ 4 ∧ a.Ok
section
variable {w w' : World} {T : Nat → Prop} {rb : Nat} {S : Int → Option An}
theorem MSeen.lt (h : MSeen w rb S) : rb < w.heap.size := cell_lt (h.seq 0 (by decide))
theorem MSeen.kept (h : MSeen w rb S) (g : Only T w w') (hT : ¬ T rb) : MSeen w' rb S where
  seq := fun c hc => (g.cell h.lt hT _).trans (h.seq c hc)
  code := fun c hc => (g.cell h.lt hT _).trans (h.code c hc)
  at_ := fun c hc => (g.cell h.lt hT _).trans (h.at_ c hc)
  froz := fun o ho => (g.frozen h.lt hT _).trans (h.froz o ho)
  ok := h.ok
theorem MSeen.grew (h : MSeen w rb S) (g : Grew w w') : MSeen w' rb S := h.kept (g.only fun _ => False) (fun h => h)
theorem MSeen.new (w : World) (T : TypeId) : MSeen (w.alloc (.cells #[.int .i64 0, .int .i64 0, .int .i64 0, .int .i64 0, .int .i64 0, .int .i64 0, .int .i64 0, .int .i64 0, .int .i64 0, .int .i64 0, .int .i64 0, .int .i64 0, .int .i64 0, .int .i64 0, .int .i64 0] T)) w.heap.size (fun _ => none) := by
  refine ⟨?_, ?_, ?_, ?_, fun c a h => by cases h⟩
  · intro c hc
    obtain rfl | rfl | rfl | rfl | rfl : c = 0 ∨ c = 1 ∨ c = 2 ∨ c = 3 ∨ c = 4 := by omega
    all_goals simp [go_sem, seqO]
  · intro c hc
    obtain rfl | rfl | rfl | rfl | rfl : c = 0 ∨ c = 1 ∨ c = 2 ∨ c = 3 ∨ c = 4 := by omega
    all_goals simp [go_sem, codeO]
  · intro c hc
    obtain rfl | rfl | rfl | rfl | rfl : c = 0 ∨ c = 1 ∨ c = 2 ∨ c = 3 ∨ c = 4 := by omega
    all_goals simp [go_sem, atO]
  · intro o ho
    simp [go_sem]
end
theorem set_off {w : World} {b o o' : Nat} {v u : Value} (h : w.cell? ⟨b, o', none⟩ = some u) : (w.setCell ⟨b, o, none⟩ v).cell? ⟨b, o', none⟩ = some (if o' = o then v else u) := by
  by_cases e : o' = o
  · subst e
    rw [if_pos rfl]
    exact World.cell?_setCell_same' _ _ _ (by rw [h]; rfl)
  · rw [if_neg e, World.cell?_setCell_other _ _ _ _ (fun q => e (by injection q with q1 q2; exact q2.symm))]
    exact h
theorem MSeen.note {w : World} {rb : Nat} {S : Int → Option An} (h : MSeen w rb S) (c : Nat) (a : An) (h1 : 1 ≤ c) (h2 : c ≤ 4) (h3 : a.Ok) :
    MSeen (((w.setCell ⟨rb, c, none⟩ (.int .i64 a.seq)).setCell ⟨rb, 5 + c * 2, none⟩ (.int .i64 a.code)).setCell ⟨rb, 6 + c * 2, none⟩ (.int .i64 a.at_)) rb (noteS S c a) ∧ Only (fun j => j = rb) w (((w.setCell ⟨rb, c, none⟩ (.int .i64 a.seq)).setCell ⟨rb, 5 + c * 2, none⟩ (.int .i64 a.code)).setCell ⟨rb, 6 + c * 2, none⟩ (.int .i64 a.at_)) := by
  refine ⟨⟨fun j hj => ?_, fun j hj => ?_, fun j hj => ?_, fun o ho => ?_, fun d b hb => ?_⟩, ((Only.setCell w ⟨rb, c, none⟩ _).then (Only.setCell _ ⟨rb, 5 + c * 2, none⟩ _)).then (Only.setCell _ ⟨rb, 6 + c * 2, none⟩ _)⟩
  · rw [set_off (set_off (set_off (h.seq j hj))), if_neg (by omega), if_neg (by omega)]
    unfold noteS
    by_cases e : j = c
    · subst e; rw [if_pos rfl, if_pos rfl]; rfl
    · rw [if_neg e, if_neg (by omega)]
  · rw [set_off (set_off (set_off (h.code j hj))), if_neg (show ¬ 5 + j * 2 = 6 + c * 2 by omega)]
    unfold noteS
    by_cases e : j = c
    · subst e; rw [if_pos rfl, if_pos rfl]; rfl
    · rw [if_neg (show ¬ 5 + j * 2 = 5 + c * 2 by omega), if_neg (show ¬ 5 + j * 2 = c by omega), if_neg (show ¬ (j : Int) = c by omega)]
  · rw [set_off (set_off (set_off (h.at_ j hj)))]
    unfold noteS
    by_cases e : j = c
    · subst e; rw [if_pos rfl, if_pos rfl]; rfl
    · rw [if_neg (show ¬ 6 + j * 2 = 6 + c * 2 by omega), if_neg (show ¬ 6 + j * 2 = 5 + c * 2 by omega), if_neg (show ¬ 6 + j * 2 = c by omega), if_neg (show ¬ (j : Int) = c by omega)]
  · simp only [World.frozen?_setCell]
    exact h.froz o ho
  · unfold noteS at hb
    by_cases e : d = c
    · rw [if_pos e] at hb
      injection hb with hb
      subst hb
      exact ⟨by omega, by omega, h3⟩
    · rw [if_neg e] at hb; exact h.ok d b hb
end Go.Proofs.YtbdagllflamabaaGreatDoor
namespace Go.Proofs.YtbdagllflamabaaGreatDoor
open Go.RowKit Go.Maps
attribute [local go_sem] Oper.semAt_some
structure MsIs (w : World) (G : Nat → Prop) (ms tb sb : Nat) (lo hi : ByteArray) (D : List Pr) (S : Int → Option An) : Prop where
  c0 : w.cell? ⟨ms, 0, none⟩ = some (.string lo)
  c1 : w.cell? ⟨ms, 1, none⟩ = some (.string hi)
  c2 : w.cell? ⟨ms, 2, none⟩ = some (.pointer (some ⟨tb, 0, none⟩))
  c3 : w.cell? ⟨ms, 3, none⟩ = some (.pointer (some ⟨sb, 0, none⟩))
  f0 : w.frozen? ⟨ms, 0, none⟩ = false
  f1 : w.frozen? ⟨ms, 1, none⟩ = false
  f2 : w.frozen? ⟨ms, 2, none⟩ = false
  tab : RtAt w G tb D
  seen : MSeen w sb S
  ne : ms ≠ sb
  apart : ∀ j, G j → j ≠ ms ∧ j ≠ sb
def MsAt (w : World) (G : Nat → Prop) (ms sb : Nat) (lo hi : ByteArray) (D : List Pr) (S : Int → Option An) : Prop := ∃ tb, MsIs w G ms tb sb lo hi D S
section
variable {w w' : World} {G T : Nat → Prop} {ms tb sb : Nat} {lo hi : ByteArray} {D : List Pr} {S : Int → Option An}
theorem MsIs.kept (h : MsIs w G ms tb sb lo hi D S) (g : Only T w w') (h1 : ∀ j, G j → ¬ T j) (h2 : ¬ T ms) (h3 : ¬ T sb) : MsIs w' G ms tb sb lo hi D S where
  c0 := (g.cell (cell_lt h.c0) h2 0).trans h.c0
  c1 := (g.cell (cell_lt h.c0) h2 1).trans h.c1
  c2 := (g.cell (cell_lt h.c0) h2 2).trans h.c2
  c3 := (g.cell (cell_lt h.c0) h2 3).trans h.c3
  f0 := (g.frozen (cell_lt h.c0) h2 0).trans h.f0
  f1 := (g.frozen (cell_lt h.c0) h2 1).trans h.f1
  f2 := (g.frozen (cell_lt h.c0) h2 2).trans h.f2
  tab := h.tab.kept g h1
  seen := h.seen.kept g h3
  ne := h.ne
  apart := h.apart
theorem MsAt.kept (h : MsAt w G ms sb lo hi D S) (g : Only T w w') (h1 : ∀ j, G j → ¬ T j) (h2 : ¬ T ms) (h3 : ¬ T sb) : MsAt w' G ms sb lo hi D S := by
  obtain ⟨tb, h⟩ := h
  exact ⟨tb, h.kept g h1 h2 h3⟩
theorem MsAt.grew (h : MsAt w G ms sb lo hi D S) (g : Grew w w') : MsAt w' G ms sb lo hi D S := h.kept (g.only fun _ => False) (fun _ _ h => h) (fun h => h) (fun h => h)
theorem MsAt.lt (h : MsAt w G ms sb lo hi D S) : ms < w.heap.size ∧ sb < w.heap.size ∧ ∀ j, G j → j < w.heap.size := by
  obtain ⟨tb, h⟩ := h
  exact ⟨cell_lt h.c0, h.seen.lt, h.tab.lt⟩
end
def MsTurn (w : World) (G : Nat → Prop) (ms sb : Nat) (lo hi : ByteArray) (D : List Pr) (S : Int → Option An) (w' : World) : Prop :=
  Only (fun j => j = ms ∨ j = sb ∨ G j) w w' ∧ ∃ G', MsAt w' G' ms sb lo hi D S ∧ ∀ j, G' j → G j ∨ w.heap.size ≤ j
theorem MsTurn.of_grew {w w' : World} {G : Nat → Prop} {ms sb : Nat} {lo hi : ByteArray} {D : List Pr} {S : Int → Option An} (h : MsAt w G ms sb lo hi D S) (g : Grew w w') : MsTurn w G ms sb lo hi D S w' := ⟨g.only _, G, h.grew g, fun _ hj => .inl hj⟩
end Go.Proofs.YtbdagllflamabaaGreatDoor
namespace Go.Proofs.YtbdagllflamabaaGreatDoor
open Go.RowKit
attribute [local go_sem] Oper.semAt_some
structure EnSm (e : En) : Prop where
  key : e.key.size ≤ 16777216
  ops : ∀ o ∈ e.ops, o.key.size ≤ 16777216
end Go.Proofs.YtbdagllflamabaaGreatDoor
namespace Go.Proofs.YtbdagllflamabaaGreatDoor
open Go.RowKit Go.Maps
attribute [local go_sem] Oper.semAt_some
theorem TabTurn.pre {w W w' : World} {F : Nat → Prop} {tb : Nat} {ys : List Pr} (h : TabTurn W F tb ys w') (g : Grew w W) : TabTurn w F tb ys w' := by
  obtain ⟨h1, F', h2, h3⟩ := h
  exact ⟨(g.only F).then h1, F', h2, fun j hj => (h3 j hj).imp id fun h => Nat.le_trans g.size h⟩
namespace Pl
def stepP (P : List Pr) (o : OpR) (v : Int) : List Pr × Bool :=
  if o.kind = 2 then (tdel P o.key, true)
  else if o.kind = 3 ∧ ((getT P o.key).isSome = false ∨ ((getT P o.key).getD Pr.none).val.toList ≠ o.old.toList) then (P, false)
  else if o.kind = 4 then (P, decide (((getT P o.key).getD Pr.none).ver = o.ver))
  else (putT P ⟨o.key, o.val, v⟩, decide (putN ⟨o.key, o.val, v⟩ = 0))
end Pl
structure OpSz (o : OpR) : Prop where
  key : o.key.size ≤ 70368744177664
  val : o.val.size ≤ 140737488351232
set_option maxRecDepth 100000 in
set_option maxHeartbeats 4000000 in
theorem step_any {S : Nat → Bool} (hS : TabS S) (E : Nat → Addr) {w : World} (hE : Errs S E w) {F : Nat → Prop} {tb : Nat} {P : List Pr} (h : TabAt w F tb P) (hx : P.length ≤ 1000000) (o : OpR) (ho : OpSz o) (v : Int) (hv : -9223372036854775808 ≤ v ∧ v < 9223372036854775808) :
    Calls Tryz.prog 138 #[.pointer (some ⟨tb, 0, none⟩), o.aggOf, .int .i64 v] w fun e w' => e = .returned (.bool (Pl.stepP P o v).2) ∧ TabTurn w F tb (Pl.stepP P o v).1 w' := by
  have HG := hid (fun W (g : Grew w W) => getTab_any hS E (hE.grew g) (h.grew g) hx o.key ho.key)
  have HD := hid (fun W (g : Grew w W) => delT_any hS E (hE.grew g) (h.grew g) hx o.key ho.key)
  have HP := hid (fun W (g : Grew w W) => putT_any hS E (hE.grew g) (h.grew g) hx o.key o.val v ho.key ho.val)
  have HT := hid h
  clear h hE ho
  generalize hR : Pl.stepP P o v = R at *
  unfold Pl.stepP at hR
  unfold OpR.aggOf OpR.vals
  obtain ⟨kind, key, val, old, ver⟩ := o
  dsimp only at *
  generalize hg : Pl.getT P key = r at *
  clear hg
  obtain ⟨Y, hY⟩ : ∃ Y, Y = w.alloc (.cells #[.int .i64 kind, .string key, .string val, .string old, .int .i64 ver] 104) := ⟨_, rfl⟩
  have gY : Grew w Y := by rw [hY]; exact (Grew.refl w).alloc _
  have hbY : w.heap.size < Y.heap.size := by rw [hY]; simp
  have c0 : Y.cell? ⟨w.heap.size, 0, none⟩ = some (.int .i64 kind) := by rw [hY]; simp [go_sem]
  have c1 : Y.cell? ⟨w.heap.size, 1, none⟩ = some (.string key) := by rw [hY]; simp [go_sem]
  have c2 : Y.cell? ⟨w.heap.size, 2, none⟩ = some (.string val) := by rw [hY]; simp [go_sem]
  have c3 : Y.cell? ⟨w.heap.size, 3, none⟩ = some (.string old) := by rw [hY]; simp [go_sem]
  have c4 : Y.cell? ⟨w.heap.size, 4, none⟩ = some (.int .i64 ver) := by rw [hY]; simp [go_sem]
  have HY := hid hY
  have HGY := hid gY
  clear hY gY
  go_enter Tryz.func138, Tryz.ntmps138
  go_wp2_with fail
  rw [← HY.out]
  refine (HG.out Y HGY.out).mono ?_
  rintro e w1 ⟨rfl, hg1⟩
  have d0 := (hg1.cells.1 _ 0 hbY).trans c0
  have d1 := (hg1.cells.1 _ 1 hbY).trans c1
  have d2 := (hg1.cells.1 _ 2 hbY).trans c2
  have d3 := (hg1.cells.1 _ 3 hbY).trans c3
  have d4 := (hg1.cells.1 _ 4 hbY).trans c4
  have hb1 := Nat.lt_of_lt_of_le hbY hg1.size
  have HG1 := hid (HGY.out.trans hg1)
  clear HG hg1 c0 c1 c2 c3 c4 hbY
  obtain ⟨is, his⟩ : ∃ is, is = r.isSome := ⟨_, rfl⟩
  obtain ⟨p, hp⟩ : ∃ p, p = r.getD Pr.none := ⟨_, rfl⟩
  rw [← his, ← hp]
  rw [← his, ← hp] at hR
  clear hp
  clear his
  obtain ⟨pk, pv, pn⟩ := p
  dsimp only [Pr.agg, Pr.vals] at hR ⊢
  have HR := hid hR
  clear hR
  obtain ⟨Z, hZ⟩ : ∃ Z, Z = w1.alloc (.cells #[.string pk, .string pv, .int .i64 pn] 42) := ⟨_, rfl⟩
  have HZ := hid hZ
  have gZ : Grew w1 Z := by rw [hZ]; exact (Grew.refl w1).alloc _
  have e0 := (gZ.cells.1 _ 0 hb1).trans d0
  have e1 := (gZ.cells.1 _ 1 hb1).trans d1
  have e2 := (gZ.cells.1 _ 2 hb1).trans d2
  have e3 := (gZ.cells.1 _ 3 hb1).trans d3
  have e4 := (gZ.cells.1 _ 4 hb1).trans d4
  have z1 : Z.cell? ⟨w1.heap.size, 1, none⟩ = some (.string pv) := by rw [hZ]; simp [go_sem]
  have z2 : Z.cell? ⟨w1.heap.size, 2, none⟩ = some (.int .i64 pn) := by rw [hZ]; simp [go_sem]
  have HGZ := hid (HG1.out.trans gZ)
  clear hZ gZ
  have HT1 := hid (TabTurn.of_grew HT.out HGZ.out)
  clear HT HG1
  by_cases k2 : kind = 2
  · subst k2
    have hR := HR.out
    rw [if_pos rfl] at hR
    subst hR
    clear HR
    go_wp2_with fail
    rw [← HZ.out]
    refine (HD.out Z HGZ.out).mono ?_
    rintro e w2 ⟨rfl, ht⟩
    have HX := hid (ht.pre HGZ.out)
    clear ht e0 e1 e2 e3 e4 z1 z2
    go_wp2_with fail
    go_ret
    exact ⟨rfl, HX.out⟩
  · by_cases k3 : kind = 3
    · subst k3
      cases is with
      | false =>
        have hR := HR.out
        rw [if_neg (by decide), if_pos ⟨rfl, .inl rfl⟩] at hR
        subst hR
        clear HR
        go_wp2_with fail
        rw [← HZ.out]
        clear e0 e1 e2 e3 e4 z1 z2
        go_wp2_with fail
        go_ret
        exact ⟨rfl, HT1.out⟩
      | true =>
        by_cases kv : pv.toList = old.toList
        · have hR := HR.out
          rw [if_neg (by decide), if_neg (by rintro ⟨_, h | h⟩; · cases h
                                             · exact h kv), if_neg (by decide)] at hR
          have hq : (pv.toList == old.toList) = true := by simpa using kv
          subst hR
          clear HR kv
          go_wp2_with fail
          rw [← HZ.out]
          refine (HP.out Z HGZ.out).mono ?_
          rintro e w2 ⟨rfl, ht⟩
          have HX := hid (ht.pre HGZ.out)
          clear ht e0 e1 e2 e3 e4 z1 z2 d0 d1 d2 d3 d4
          cases hpn : decide (Pl.putN ⟨key, val, v⟩ = 0) with
          | true =>
            rw [of_decide_eq_true hpn, errOf_zero]
            have HPN := hid hpn
            clear hpn
            go_wp2_with fail
            go_ret
            exact ⟨ret_bool HPN.out.symm, HX.out⟩
          | false =>
            rw [errOf_pos E _ (of_decide_eq_false hpn)]
            have HPN := hid hpn
            clear hpn
            go_wp2_with fail
            go_ret
            exact ⟨ret_bool HPN.out.symm, HX.out⟩
        · have hR := HR.out
          rw [if_neg (by decide), if_pos ⟨rfl, .inr kv⟩] at hR
          have hq : (pv.toList == old.toList) = false := by simpa using kv
          subst hR
          clear HR kv
          go_wp2_with fail
          rw [← HZ.out]
          clear e0 e1 e2 e3 e4 z1 z2
          go_wp2_with fail
          go_ret
          exact ⟨rfl, HT1.out⟩
    · by_cases k4 : kind = 4
      · subst k4
        have hR := HR.out
        rw [if_neg (by decide), if_neg (by simp), if_pos rfl] at hR
        subst hR
        clear HR
        go_wp2_with fail
        go_ret
        rw [← HZ.out]
        exact ⟨rfl, HT1.out⟩
      · have hR := HR.out
        rw [if_neg k2, if_neg (fun h => k3 h.1), if_neg k4] at hR
        subst hR
        clear HR
        go_wp2_with fail
        rw [← HZ.out]
        refine (HP.out Z HGZ.out).mono ?_
        rintro e w2 ⟨rfl, ht⟩
        have HX := hid (ht.pre HGZ.out)
        clear ht e0 e1 e2 e3 e4 z1 z2 d0 d1 d2 d3 d4
        cases hpn : decide (Pl.putN ⟨key, val, v⟩ = 0) with
        | true =>
          rw [of_decide_eq_true hpn, errOf_zero]
          have HPN := hid hpn
          clear hpn
          go_wp2_with fail
          go_ret
          exact ⟨ret_bool HPN.out.symm, HX.out⟩
        | false =>
          rw [errOf_pos E _ (of_decide_eq_false hpn)]
          have HPN := hid hpn
          clear hpn
          go_wp2_with fail
          go_ret
          exact ⟨ret_bool HPN.out.symm, HX.out⟩
end Go.Proofs.YtbdagllflamabaaGreatDoor
namespace Go.Proofs.YtbdagllflamabaaGreatDoor
def stS (k : Nat) : Bool := decide (k = 1) || decide (k = 2) || decide (k = 3) || decide (k = 4) || decide (k = 6) || decide (k = 7) || decide (k = 19)
theorem Errs.less {S T : Nat → Bool} {E : Nat → Addr} {w : World} (h : Errs S E w) (hT : ∀ k, T k = true → S k = true) : Errs T E w :=
  ⟨(by cases hh : T 0 with | false => rfl | true => (have := hT 0 hh; rw [h.pos] at this; cases this)), fun k hk => h.cell k (hT k hk), fun k hk => h.row k (hT k hk), fun j k hj hk => h.ne j k (hT j hj) (hT k hk)⟩
end Go.Proofs.YtbdagllflamabaaGreatDoor
namespace Go.Proofs.YtbdagllflamabaaGreatDoor
open Go.RowKit Go.Maps
attribute [local go_sem] Oper.semAt_some
def StrsAt (W : World) (a : Option Addr) (ks : List ByteArray) : Prop := ks = [] ∨ ∃ b off, a = some ⟨b, off, none⟩ ∧ b < W.heap.size ∧ ∀ j n, ks[j]? = some n → W.cell? ⟨b, off + j, none⟩ = some (.string n)
theorem StrsAt.grew {W W' : World} {a : Option Addr} {ks : List ByteArray} (h : StrsAt W a ks) (g : Grew W W') : StrsAt W' a ks := by
  rcases h with h | ⟨b, off, rfl, hb, hc⟩
  · exact .inl h
  · exact .inr ⟨b, off, rfl, Nat.lt_of_lt_of_le hb g.size, fun j n hj => (g.cells.1 _ _ hb).trans (hc j n hj)⟩
theorem strsAt_of {W : World} {B : Nat} {v : Value} {ks : List ByteArray} (h : W.ownsRow B 9 1 v ks.length (strFlat ks)) : ∃ a cap, v = .slice a ks.length cap ∧ StrsAt W a ks := by
  rcases h.2 with ⟨h2, h3⟩ | ⟨b, cap, cur, e1, _, hb, hc, _⟩
  · refine ⟨none, 0, ?_, .inl (List.eq_nil_of_length_eq_zero h3)⟩
    rw [h2, h3]
  · refine ⟨_, cap, e1, .inr ⟨b, 0, rfl, (Array.getElem?_eq_some_iff.1 hb).1, fun j n hj => ?_⟩⟩
    have := h.cells (g := b) (by rw [e1]; rfl) j (.string n) (by unfold strFlat; rw [List.getElem?_map, hj]; rfl)
    rwa [Addr.add_lit] at this
structure BoxSp (w : World) (bb st : Nat) (lo hi : ByteArray) : Prop where
  box : w.cell? ⟨bb, 0, none⟩ = some (.pointer (some ⟨st, 0, none⟩))
  c1 : w.cell? ⟨st, 1, none⟩ = some (.string lo)
  c2 : w.cell? ⟨st, 2, none⟩ = some (.string hi)
theorem BoxSp.grew {w w' : World} {bb st : Nat} {lo hi : ByteArray} (h : BoxSp w bb st lo hi) (g : Grew w w') : BoxSp w' bb st lo hi :=
  ⟨(g.cells.1 _ _ (cell_lt h.box)).trans h.box, (g.cells.1 _ _ (cell_lt h.c1)).trans h.c1, (g.cells.1 _ _ (cell_lt h.c1)).trans h.c2⟩
theorem askKey_any (S : Nat → Bool) (E : Nat → Addr) (hS : KeyS S) (lo hi key : ByteArray) (w : World) (hl : lo.size ≤ 70368744177664) (hh : hi.size ≤ 70368744177664) (hk : key.size ≤ 70368744177664) (hE : Errs S E w) (bb st : Nat) (hB : BoxSp w bb st lo hi) :
    Calls Tryz.prog 136 #[.string key, .pointer (some ⟨bb, 0, none⟩)] w fun e w' => e = .returned (.bool (!Pl.hasS lo hi key)) ∧ Grew w w' := by
  have HH := hid (has_span S E hS lo hi key w hl hh hk hE)
  obtain ⟨b0, b1, b2⟩ := hB
  clear hE
  generalize Pl.hasS lo hi key = b at *
  go_enter Tryz.func136, Tryz.ntmps136
  go_wp2_with fail
  refine HH.out.mono ?_
  rintro e w1 ⟨rfl, hg⟩
  clear HH b0 b1 b2
  go_wp2_with fail
  go_ret
  exact ⟨rfl, hg⟩
set_option maxRecDepth 100000 in
set_option maxHeartbeats 4000000 in
theorem idxKey_any (S : Nat → Bool) (E : Nat → Addr) (hS : KeyS S) (lo hi : ByteArray) (a : Option Addr) (cap : Nat) (xs : List ByteArray) (w : World) (hl : lo.size ≤ 70368744177664) (hh : hi.size ≤ 70368744177664) (hE : Errs S E w) (bb st : Nat) (hB : BoxSp w bb st lo hi) (hA : StrsAt w a xs) (hx : xs.length ≤ 1000000) (hk : ∀ k ∈ xs, k.size ≤ 70368744177664) :
    Calls Tryz.prog 152 #[.slice a xs.length cap, .func (.func 136) #[] #[.pointer (some ⟨bb, 0, none⟩)]] w fun e w' => e = .returned (.int .i64 (idxI (fun k => !Pl.hasS lo hi k) xs)) ∧ Grew w w' := by
  have HA := hid hA
  obtain ⟨p, hp⟩ : ∃ p : ByteArray → Bool, p = fun k => !Pl.hasS lo hi k := ⟨_, rfl⟩
  have hpk : ∀ k, (!Pl.hasS lo hi k) = p k := by intro k; rw [hp]
  have hP := fun W (g : Grew w W) k (hm : k ∈ xs) => askKey_any S E hS lo hi k W hl hh (hk k hm) (hE.grew g) bb st (hB.grew g)
  simp only [hpk] at hP
  rw [← hp]
  have HP := hid hP
  clear hA hE hB hP hpk hp
  go_enter Tryz.func152, Tryz.ntmps152
  go_wp2_with fail
  go_loopw [8] (fun i wr => ∃ k : Nat, k ≤ xs.length ∧ i = .int .i64 k ∧ Hid ((xs.take k).all (fun c => !p c) = true) ∧ Grew w wr) (fun i _ => xs.length - (intOf i).toNat)
  case atStart => exact ⟨0, Nat.zero_le _, rfl, rfl, Grew.refl w⟩
  case round =>
    obtain ⟨k, hk1, rfl, HN, hG⟩ := hrel
    by_cases hlt : k < xs.length
    · rcases HA.out with h0 | ⟨b, off, rfl, hb, hR⟩
      · rw [h0] at hlt; simp at hlt
      have q0 := (hG.cells.1 b (off + k) hb).trans (hR k _ (List.getElem?_eq_getElem hlt))
      have HC := hid (fun W g => HP.out W g xs[k] (List.getElem_mem hlt))
      clear hR
      have HS := hid (idx_some p xs k hlt HN.out)
      have HN2 := hid (idx_next p xs k hlt HN.out)
      generalize xs[k] = c at *
      cases hpc : p c with
      | true =>
        rw [hpc] at HC
        have HS2 := hid (HS.out hpc)
        clear hpc HS HN2
        go_wp2_with fail
        refine (HC.out _ hG).mono ?_
        rintro e w1 ⟨rfl, hg1⟩
        go_wp2_with fail
        go_ret
        exact ⟨ret_int HS2.out.symm, hG.trans hg1⟩
      | false =>
        rw [hpc] at HC
        have HS2 := hid (HN2.out hpc)
        clear hpc HS HN2
        go_wp2_with fail
        refine (HC.out _ hG).mono ?_
        rintro e w1 ⟨rfl, hg1⟩
        go_wp2_with fail
        go_roundw
        case rel => exact ⟨k + 1, by omega, by go_num, HS2, hG.trans hg1⟩
        case measure => simp [intOf]; omega
    · obtain rfl : k = xs.length := by omega
      have HE := hid (idx_none p xs (by have := HN.out; rwa [List.take_length] at this))
      go_wp2_with fail
      go_ret
      exact ⟨ret_int HE.out.symm, hG⟩
set_option maxHeartbeats 1000000 in
theorem anyKey_any (S : Nat → Bool) (E : Nat → Addr) (hS : KeyS S) (lo hi : ByteArray) (a : Option Addr) (cap : Nat) (xs : List ByteArray) (w : World) (hl : lo.size ≤ 70368744177664) (hh : hi.size ≤ 70368744177664) (hE : Errs S E w) (bb st : Nat) (hB : BoxSp w bb st lo hi) (hA : StrsAt w a xs) (hx : xs.length ≤ 1000000) (hk : ∀ k ∈ xs, k.size ≤ 70368744177664) :
    Calls Tryz.prog 135 #[.slice a xs.length cap, .func (.func 136) #[] #[.pointer (some ⟨bb, 0, none⟩)]] w fun e w' => e = .returned (.bool (xs.any fun k => !Pl.hasS lo hi k)) ∧ Grew w w' := by
  have HI := hid (idxKey_any S E hS lo hi a cap xs w hl hh hE bb st hB hA hx hk)
  have HG := hid (idx_ge (fun k => !Pl.hasS lo hi k) xs)
  clear hE hA hB
  generalize idxI (fun k => !Pl.hasS lo hi k) xs = n at *
  go_enter Tryz.func135, Tryz.ntmps135
  go_wp2_with fail
  refine HI.out.mono ?_
  rintro e w1 ⟨rfl, hg⟩
  go_wp2_with fail
  go_ret
  exact ⟨ret_bool HG.out, hg⟩
end Go.Proofs.YtbdagllflamabaaGreatDoor
