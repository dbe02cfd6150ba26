/- Dd1, Span1, NewS0, RowOp, Rows20, IdxSh, SpanC, Ent1: one text. -/
import Derived.Test.YtlgcdneiebjkcaaGreatDoorFinServeNewQ1
import Derived.Test.YtlgcdneiebjkcaaGreatDoorFinServeNewQ4
import Derived.Test.YtlgcdneiebjkcaaGreatDoorFinServeNewQ3
import Derived.Test.YtlgcdneiebjkcaaGreatDoorFinServeNewQ7
import Derived.Maps.Keyed
import Derived.Laws.Externs
import Derived.Test.YtlgcdneiebjkcaaGreatDoorFinServeNewQ12
import Derived.Test.YtlgcdneiebjkcaaGreatDoorFinServeNewQ11
import Derived.Deep.QuietTactic
import Derived.BigQuiet
set_option linter.unusedVariables false
set_option linter.unusedSectionVars false
set_option linter.unusedSimpArgs false
namespace Go.Proofs.YtlgcdneiebjkcaaGreatDoor
open Go.RowKit Go.Maps
attribute [local go_sem] Oper.semAt_some
structure An where
  seq : Int
  code : Int
  at_ : Int
def An.agg (a : An) : Value := .agg #[.int .i64 a.seq, .int .i64 a.code, .int .i64 a.at_]
structure An.Ok (a : An) : Prop where
  s1 : 1 ≤ a.seq
  s2 : a.seq ≤ 1073741824
  c1 : a.code = 1 ∨ a.code = 2
  a1 : 0 ≤ a.at_
  a2 : a.at_ < 4096
structure SeenIs (w : World) (F : Nat → Prop) (sb mb n : Nat) (f : Lit → Option Value) (S : Int → Option An) : Prop where
  c0 : w.cell? ⟨sb, 0, none⟩ = some (.map (some mb))
  lm : LMap w Tryz.prog 3 mb n f
  val : ∀ c, f (clit c) = (S c).map An.agg
  lit : ∀ l, f l ≠ none → ∃ c, l = clit c
  ok : ∀ c a, S c = some a → 1 ≤ c ∧ c ≤ 4 ∧ a.Ok
  foot0 : F sb
  foot1 : F mb
  ne : sb ≠ mb
  lt : ∀ j, F j → j < w.heap.size
def SeenAt (w : World) (F : Nat → Prop) (sb n : Nat) (S : Int → Option An) : Prop := ∃ mb f, SeenIs w F sb mb n f S
section
variable {w w' : World} {F T : Nat → Prop} {sb mb n : Nat} {f : Lit → Option Value} {S : Int → Option An}
theorem SeenIs.kept (h : SeenIs w F sb mb n f S) (g : Only T w w') (hT : ∀ j, F j → ¬ T j) : SeenIs w' F sb mb n f S where
  c0 := (g.cell (cell_lt h.c0) (hT _ h.foot0) 0).trans h.c0
  lm := h.lm.kept g (hT _ h.foot1)
  val := h.val
  lit := h.lit
  ok := h.ok
  foot0 := h.foot0
  foot1 := h.foot1
  ne := h.ne
  lt := fun j hj => Nat.lt_of_lt_of_le (h.lt j hj) g.size
theorem SeenAt.kept (h : SeenAt w F sb n S) (g : Only T w w') (hT : ∀ j, F j → ¬ T j) : SeenAt w' F sb n S := by
  obtain ⟨mb, f, h⟩ := h
  exact ⟨mb, f, h.kept g hT⟩
theorem SeenAt.grew (h : SeenAt w F sb n S) (g : Grew w w') : SeenAt w' F sb n S := h.kept (g.only fun _ => False) (fun _ _ h => h)
theorem SeenAt.lt (h : SeenAt w F sb n S) : ∀ j, F j → j < w.heap.size := by obtain ⟨mb, f, h⟩ := h; exact h.lt
theorem SeenAt.ok (h : SeenAt w F sb n S) : ∀ c a, S c = some a → 1 ≤ c ∧ c ≤ 4 ∧ a.Ok := by obtain ⟨mb, f, h⟩ := h; exact h.ok
end
set_option maxRecDepth 100000 in
theorem newD_any (w : World) : Calls Tryz.prog 247 #[] w fun e w' => ∃ sb F, e = .returned (.pointer (some ⟨sb, 0, none⟩)) ∧ SeenAt w' F sb 0 (fun _ => none) ∧ (∀ j, F j → w.heap.size ≤ j) ∧ Grew w w' := by
  have hM := LMap.made w Tryz.prog 3
  have g1 : Grew w (w.alloc (.map #[] 0)) := (Grew.refl w).alloc _
  have HF : Hid (∃ F, SeenAt ((w.alloc (.map #[] 0)).alloc (.cells #[.map (some w.heap.size)] 340)) F (w.heap.size + 1) 0 (fun _ => none) ∧ (∀ j, F j → w.heap.size ≤ j) ∧ Grew w ((w.alloc (.map #[] 0)).alloc (.cells #[.map (some w.heap.size)] 340))) := by
    refine ⟨fun j => j = w.heap.size ∨ j = w.heap.size + 1, ⟨w.heap.size, _, ⟨by simp [go_sem], hM.grew ((Grew.refl _).alloc _), fun c => rfl, (fun l h => absurd rfl h), (fun c a h => by cases h), .inr rfl, .inl rfl, by omega, fun j hj => ?_⟩⟩, fun j hj => ?_, g1.alloc _⟩
    · simp; rcases hj with hj | hj <;> omega
    · rcases hj with hj | hj <;> omega
  clear hM g1
  have hmm := @run_makeMap Tryz.prog
  go_enter Tryz.func247, Tryz.ntmps247
  go_wp2_with fail
  go_ret
  obtain ⟨F, h1, h2, h3⟩ := HF.out
  exact ⟨_, F, rfl, h1, h2, h3⟩
end Go.Proofs.YtlgcdneiebjkcaaGreatDoor
namespace Go.Proofs.YtlgcdneiebjkcaaGreatDoor
open Go.RowKit
namespace Pl
def isKey (s : ByteArray) : Bool := decide (keyN s = 0)
def none0 (s : ByteArray) : Bool := s.toList.isEmpty
def endB (s : ByteArray) : Bool := none0 s || isKey s
def lessB (key hi : ByteArray) : Bool := none0 hi || decide (compare key hi < 0)
def rightS (lo hi : ByteArray) : Bool := endB lo && endB hi && lessB lo hi
def hasS (lo hi key : ByteArray) : Bool := rightS lo hi && isKey key && decide (0 ≤ compare key lo) && lessB key hi
end Pl
theorem errOf_key (E : Nat → Addr) (s : ByteArray) (h : Pl.isKey s = true) : errOf E (Pl.keyN s) = .nilIface := by
  unfold Pl.isKey at h; rw [of_decide_eq_true h]; rfl
theorem errOf_nokey (E : Nat → Addr) (s : ByteArray) (h : Pl.isKey s = false) : errOf E (Pl.keyN s) = .iface 476 (.pointer (some (E (Pl.keyN s)))) :=
  errOf_pos E _ (of_decide_eq_false h)
def KeyS (S : Nat → Bool) : Prop := S 2 = true ∧ S 3 = true ∧ S 6 = true ∧ S 7 = true
set_option maxHeartbeats 400000 in
theorem end_any (S : Nat → Bool) (E : Nat → Addr) (hS : KeyS S) (s : ByteArray) (w : World) (hs : s.size ≤ 140737488351232) (hE : Errs S E w) :
    Calls Tryz.prog 150 #[.string s] w fun e w' => e = .returned (.bool (Pl.endB s)) ∧ Grew w w' := by
  obtain ⟨h2, h3, h6, h7⟩ := hS
  have hkey := key_any S E h2 h3 h6 h7 s w hs hE
  clear h2 h3 h6 h7 hE
  cases he : s.toList.isEmpty with
  | true =>
    have e : Pl.endB s = true := by unfold Pl.endB Pl.none0; rw [he]; rfl
    have e2 : s.toList = [] := by simpa using he
    have HE := hid e
    clear e hkey
    go_enter Tryz.func150, Tryz.ntmps150
    go_wp2
    go_ret
    exact ⟨ret_bool HE.out.symm, Grew.refl _⟩
  | false =>
    have e2 : (!s.toList.isEmpty) = true := by rw [he]; rfl
    have e3 : ¬ s.toList = [] := by simpa using he
    cases hk : Pl.isKey s with
    | true =>
      have e : Pl.endB s = true := by unfold Pl.endB; rw [hk]; simp
      have HE := hid e
      rw [errOf_key E s hk] at hkey
      have HK := hid hkey
      clear e hk hkey
      go_enter Tryz.func150, Tryz.ntmps150
      go_wp2_with (go_at_call 44; refine HK.out.mono ?_; rintro e w' ⟨rfl, hg⟩)
      go_ret
      exact ⟨ret_bool HE.out.symm, by assumption⟩
    | false =>
      have e : Pl.endB s = false := by unfold Pl.endB Pl.none0; rw [hk, he]; rfl
      have HE := hid e
      rw [errOf_nokey E s hk] at hkey
      have HK := hid hkey
      clear e hk hkey
      go_enter Tryz.func150, Tryz.ntmps150
      go_wp2_with (go_at_call 44; refine HK.out.mono ?_; rintro e w' ⟨rfl, hg⟩)
      go_ret
      exact ⟨ret_bool HE.out.symm, by assumption⟩
set_option maxHeartbeats 400000 in
theorem less_any (key hi : ByteArray) (w : World) (hk : key.size ≤ 70368744177664) (hh : hi.size ≤ 70368744177664) :
    Calls Tryz.prog 110 #[.string key, .string hi] w fun e w' => e = .returned (.bool (Pl.lessB key hi)) ∧ Grew w w' := by
  cases he : hi.toList.isEmpty with
  | true =>
    have e : Pl.lessB key hi = true := by unfold Pl.lessB Pl.none0; rw [he]; rfl
    have e2 : hi.toList = [] := by simpa using he
    have HE := hid e
    clear e
    go_enter Tryz.func110, Tryz.ntmps110
    go_wp2
    go_ret
    exact ⟨ret_bool HE.out.symm, Grew.refl _⟩
  | false =>
    have e2 : (!hi.toList.isEmpty) = true := by rw [he]; rfl
    have e3 : ¬ hi.toList = [] := by simpa using he
    have e : Pl.lessB key hi = decide (Pl.compare key hi < 0) := by unfold Pl.lessB Pl.none0; rw [he]; rfl
    have HE := hid e
    clear e
    go_enter Tryz.func110, Tryz.ntmps110
    go_wp2_with (go_at_call 109; refine (compare_any _ _ _ hk hh).mono ?_; rintro e w' ⟨rfl, hg⟩)
    go_ret
    exact ⟨ret_bool HE.out.symm, by assumption⟩
set_option maxHeartbeats 400000 in
theorem right_span (S : Nat → Bool) (E : Nat → Addr) (hS : KeyS S) (lo hi : ByteArray) (w : World) (hl : lo.size ≤ 70368744177664) (hh : hi.size ≤ 70368744177664) (hE : Errs S E w) :
    Calls Tryz.prog 108 #[.agg #[.string lo, .string hi]] w fun e w' => e = .returned (.bool (Pl.rightS lo hi)) ∧ Grew w w' := by
  have HE := hid hE
  have hle : lo.size ≤ 140737488351232 := by omega
  have hhe : hi.size ≤ 140737488351232 := by omega
  clear hE
  cases h1 : Pl.endB lo with
  | false =>
    have hr : Pl.rightS lo hi = false := by unfold Pl.rightS; rw [h1]; rfl
    have HR := hid hr
    clear hr
    go_enter Tryz.func108, Tryz.ntmps108
    go_wp2_with fail
    refine (end_any S E hS lo _ hle (HE.out.grew ((Grew.refl w).alloc _))).mono ?_
    rintro e w1 ⟨rfl, hg⟩
    go_wp2_with fail
    go_ret
    exact ⟨ret_bool HR.out.symm, ((Grew.refl w).alloc _).trans hg⟩
  | true =>
    cases h2 : Pl.endB hi with
    | false =>
      have hr : Pl.rightS lo hi = false := by unfold Pl.rightS; rw [h1, h2]; rfl
      have HR := hid hr
      clear hr
      go_enter Tryz.func108, Tryz.ntmps108
      go_wp2_with fail
      refine (end_any S E hS lo _ hle (HE.out.grew ((Grew.refl w).alloc _))).mono ?_
      rintro e w1 ⟨rfl, hg⟩
      have hG : Grew w w1 := ((Grew.refl w).alloc _).trans hg
      obtain ⟨hc, _⟩ := hg.cells
      go_wp2_with fail
      refine (end_any S E hS hi _ hhe (HE.out.grew hG)).mono ?_
      rintro e w2 ⟨rfl, hg2⟩
      go_wp2_with fail
      go_ret
      exact ⟨ret_bool HR.out.symm, hG.trans hg2⟩
    | true =>
      have hr : Pl.rightS lo hi = Pl.lessB lo hi := by unfold Pl.rightS; rw [h1, h2]; rfl
      have HR := hid hr
      clear hr
      go_enter Tryz.func108, Tryz.ntmps108
      go_wp2_with fail
      refine (end_any S E hS lo _ hle (HE.out.grew ((Grew.refl w).alloc _))).mono ?_
      rintro e w1 ⟨rfl, hg⟩
      have hG : Grew w w1 := ((Grew.refl w).alloc _).trans hg
      obtain ⟨hc, _⟩ := hg.cells
      go_wp2_with fail
      refine (end_any S E hS hi _ hhe (HE.out.grew hG)).mono ?_
      rintro e w2 ⟨rfl, hg2⟩
      have hz : w.heap.size < w1.heap.size := by have := hg.size; simp at this; omega
      obtain ⟨hc2, _⟩ := hg2.cells
      go_wp2_with fail
      refine (less_any lo hi _ hl hh).mono ?_
      rintro e w3 ⟨rfl, hg3⟩
      go_wp2_with fail
      go_ret
      exact ⟨ret_bool HR.out.symm, (hG.trans hg2).trans hg3⟩
end Go.Proofs.YtlgcdneiebjkcaaGreatDoor
namespace Go.Proofs.YtlgcdneiebjkcaaGreatDoor
open Go.RowKit
set_option maxHeartbeats 800000 in
theorem has_span (S : Nat → Bool) (E : Nat → Addr) (hS : KeyS S) (lo hi key : ByteArray) (w : World) (hl : lo.size ≤ 70368744177664) (hh : hi.size ≤ 70368744177664) (hk : key.size ≤ 70368744177664) (hE : Errs S E w) :
    Calls Tryz.prog 73 #[.agg #[.string lo, .string hi], .string key] w fun e w' => e = .returned (.bool (Pl.hasS lo hi key)) ∧ Grew w w' := by
  have HE := hid hE
  obtain ⟨s2, s3, s6, s7⟩ := id hS
  clear hE
  cases h1 : Pl.rightS lo hi with
  | false =>
    have hr : Pl.hasS lo hi key = false := by unfold Pl.hasS; rw [h1]; rfl
    have HR := hid hr
    clear hr
    go_enter Tryz.func73, Tryz.ntmps73
    go_wp2_with fail
    refine (right_span S E hS lo hi _ hl hh (HE.out.grew ((Grew.refl w).alloc _))).mono ?_
    rintro e w1 ⟨rfl, hg⟩
    go_wp2_with fail
    go_ret
    exact ⟨ret_bool HR.out.symm, ((Grew.refl w).alloc _).trans hg⟩
  | true =>
    cases h2 : Pl.isKey key with
    | false =>
      have hr : Pl.hasS lo hi key = false := by unfold Pl.hasS; rw [h1, h2]; rfl
      have HR := hid hr
      have HK := hid (errOf_nokey E key h2)
      clear hr
      go_enter Tryz.func73, Tryz.ntmps73
      go_wp2_with fail
      refine (right_span S E hS lo hi _ hl hh (HE.out.grew ((Grew.refl w).alloc _))).mono ?_
      rintro e w1 ⟨rfl, hg⟩
      have hG : Grew w w1 := ((Grew.refl w).alloc _).trans hg
      go_wp2_with fail
      refine (key_any S E s2 s3 s6 s7 key _ (by omega) (HE.out.grew hG)).mono ?_
      rw [HK.out]
      rintro e w2 ⟨rfl, hg2⟩
      go_wp2_with fail
      go_ret
      exact ⟨ret_bool HR.out.symm, hG.trans hg2⟩
    | true =>
      have HK := hid (errOf_key E key h2)
      by_cases h3 : 0 ≤ Pl.compare key lo
      · have hr : Pl.hasS lo hi key = Pl.lessB key hi := by unfold Pl.hasS; rw [h1, h2, decide_eq_true h3]; rfl
        have HR := hid hr
        clear hr
        go_enter Tryz.func73, Tryz.ntmps73
        go_wp2_with fail
        refine (right_span S E hS lo hi _ hl hh (HE.out.grew ((Grew.refl w).alloc _))).mono ?_
        rintro e w1 ⟨rfl, hg⟩
        have hG : Grew w w1 := ((Grew.refl w).alloc _).trans hg
        have hz : w.heap.size < w1.heap.size := by have := hg.size; simp at this; omega
        obtain ⟨hc, _⟩ := hg.cells
        go_wp2_with fail
        refine (key_any S E s2 s3 s6 s7 key _ (by omega) (HE.out.grew hG)).mono ?_
        rw [HK.out]
        rintro e w2 ⟨rfl, hg2⟩
        have hz2 : w.heap.size < w2.heap.size := by have := hg2.size; omega
        obtain ⟨hc2, _⟩ := hg2.cells
        go_wp2_with fail
        refine (compare_any key lo _ hk hl).mono ?_
        rintro e w3 ⟨rfl, hg3⟩
        obtain ⟨hc3, _⟩ := hg3.cells
        go_wp2_with fail
        refine (less_any key hi _ hk hh).mono ?_
        rintro e w4 ⟨rfl, hg4⟩
        go_wp2_with fail
        go_ret
        exact ⟨ret_bool HR.out.symm, ((hG.trans hg2).trans hg3).trans hg4⟩
      · have hr : Pl.hasS lo hi key = false := by unfold Pl.hasS; rw [h1, h2, decide_eq_false h3]; rfl
        have HR := hid hr
        clear hr
        go_enter Tryz.func73, Tryz.ntmps73
        go_wp2_with fail
        refine (right_span S E hS lo hi _ hl hh (HE.out.grew ((Grew.refl w).alloc _))).mono ?_
        rintro e w1 ⟨rfl, hg⟩
        have hG : Grew w w1 := ((Grew.refl w).alloc _).trans hg
        have hz : w.heap.size < w1.heap.size := by have := hg.size; simp at this; omega
        obtain ⟨hc, _⟩ := hg.cells
        go_wp2_with fail
        refine (key_any S E s2 s3 s6 s7 key _ (by omega) (HE.out.grew hG)).mono ?_
        rw [HK.out]
        rintro e w2 ⟨rfl, hg2⟩
        have hz2 : w.heap.size < w2.heap.size := by have := hg2.size; omega
        obtain ⟨hc2, _⟩ := hg2.cells
        go_wp2_with fail
        refine (compare_any key lo _ hk hl).mono ?_
        rintro e w3 ⟨rfl, hg3⟩
        go_wp2_with fail
        go_ret
        exact ⟨ret_bool HR.out.symm, (hG.trans hg2).trans hg3⟩
end Go.Proofs.YtlgcdneiebjkcaaGreatDoor
namespace Go.Proofs.YtlgcdneiebjkcaaGreatDoor
open Go.RowKit Go.Maps
attribute [local go_sem] Oper.semAt_some uponV
theorem tabAt_lt0 {w : World} {F : Nat → Prop} {tb : Nat} {xs : List Pr} (h : TabAt w F tb xs) : ∀ j, F j → j < w.heap.size := by obtain ⟨v, h⟩ := h; exact h.lt
def JTab (y : World) (f : Nat → Value) (x : World) : Prop := ∃ cb Fc, f 0 = .pointer (some ⟨cb, 0, none⟩) ∧ TabAt x Fc cb [] ∧ ∀ j, Fc j → y.heap.size ≤ j
def JSeen (y : World) (f : Nat → Value) (x : World) : Prop := ∃ db Gs, f 2 = .pointer (some ⟨db, 0, none⟩) ∧ SeenAt x Gs db 0 (fun _ => none) ∧ ∀ j, Gs j → y.heap.size ≤ j
def JBoth (y : World) (f : Nat → Value) (x : World) : Prop := ∃ cb Fc db Gs, f 0 = .pointer (some ⟨cb, 0, none⟩) ∧ TabAt x Fc cb [] ∧ (∀ j, Fc j → y.heap.size ≤ j) ∧ f 2 = .pointer (some ⟨db, 0, none⟩) ∧ SeenAt x Gs db 0 (fun _ => none) ∧ (∀ j, Gs j → y.heap.size ≤ j) ∧ ∀ j, Fc j → ¬ Gs j
structure JNew (y : World) (L : Nat → Bool) (f : Nat → Value) (x : World) : Prop where
  grew : Grew y x
  tab : L 0 = true → JTab y f x
  seen : L 2 = true → JSeen y f x
  both : L 0 = true → L 2 = true → JBoth y f x
theorem JNew.one {y x x' : World} {L : Nat → Bool} {f : Nat → Value} (h : JNew y L f x) (hL : L 0 = false) {cb : Nat} {Fc : Nat → Prop} (hT : TabAt x' Fc cb []) (hF : ∀ j, Fc j → x.heap.size ≤ j) (g : Grew x x') :
    JNew y (plus L 0) (updV f 0 (.pointer (some ⟨cb, 0, none⟩))) x' := by
  have hF2 : ∀ j, Fc j → y.heap.size ≤ j := fun j hj => Nat.le_trans h.grew.size (hF j hj)
  have hs : plus L 0 2 = true → L 2 = true := fun h => by rwa [plus_ne (by decide)] at h
  refine ⟨h.grew.trans g, fun _ => ⟨cb, Fc, updV_same _ _ _, hT, hF2⟩, fun h2 => ?_, fun _ h2 => ?_⟩
  · obtain ⟨db, Gs, e, hS, hG⟩ := h.seen (hs h2)
    exact ⟨db, Gs, by rw [updV_ne (by decide)]; exact e, hS.grew g, hG⟩
  · obtain ⟨db, Gs, e, hS, hG⟩ := h.seen (hs h2)
    exact ⟨cb, Fc, db, Gs, updV_same _ _ _, hT, hF2, by rw [updV_ne (by decide)]; exact e, hS.grew g, hG, fun j hj hj2 => by have := hF j hj; have := hS.lt j hj2; omega⟩
theorem JNew.two {y x x' : World} {L : Nat → Bool} {f : Nat → Value} (h : JNew y L f x) (hL : L 2 = false) {db : Nat} {Gs : Nat → Prop} (hT : SeenAt x' Gs db 0 (fun _ => none)) (hF : ∀ j, Gs j → x.heap.size ≤ j) (g : Grew x x') :
    JNew y (plus L 2) (updV f 2 (.pointer (some ⟨db, 0, none⟩))) x' := by
  have hF2 : ∀ j, Gs j → y.heap.size ≤ j := fun j hj => Nat.le_trans h.grew.size (hF j hj)
  have hs : plus L 2 0 = true → L 0 = true := fun h => by rwa [plus_ne (by decide)] at h
  refine ⟨h.grew.trans g, fun h2 => ?_, fun _ => ⟨db, Gs, updV_same _ _ _, hT, hF2⟩, fun h2 _ => ?_⟩
  · obtain ⟨cb, Fc, e, hS, hG⟩ := h.tab (hs h2)
    exact ⟨cb, Fc, by rw [updV_ne (by decide)]; exact e, hS.grew g, hG⟩
  · obtain ⟨cb, Fc, e, hS, hG⟩ := h.tab (hs h2)
    exact ⟨cb, Fc, db, Gs, by rw [updV_ne (by decide)]; exact e, hS.grew g, hG, updV_same _ _ _, hT, hF2, fun j hj hj2 => by have := hF j hj2; have := tabAt_lt0 hS j hj; omega⟩
theorem right_nil : Pl.rightS ⟨#[]⟩ ⟨#[]⟩ = true := by kernel_rfl
set_option maxRecDepth 100000 in
set_option maxHeartbeats 4000000 in
theorem newS0_any (S : Nat → Bool) (E : Nat → Addr) (hS : KeyS S) (lo hi : ByteArray) (w : World) (hl : lo.size ≤ 70368744177664) (hh : hi.size ≤ 70368744177664) (hE : Errs S E w) (hr : Pl.rightS lo hi = true) :
    Calls Tryz.prog 214 #[.agg #[.string lo, .string hi]] w fun e w' => ∃ st cb Fc, e = .returned (.tuple #[.pointer (some ⟨st, 0, none⟩), .nilIface]) ∧ w'.cell? ⟨st, 0, none⟩ = some (.pointer (some ⟨cb, 0, none⟩)) ∧ TabAt w' Fc cb [] ∧ (∀ j, Fc j → w.heap.size ≤ j) ∧ w.heap.size ≤ st ∧ Grew w w' := by
  have HR := hid (fun W (g : Grew w W) => right_span S E hS lo hi W hl hh (hE.grew g))
  rw [hr] at HR
  clear hE hr hS hl hh
  go_enter Tryz.func214, Tryz.ntmps214
  go_wp2_with fail
  refine (HR.out _ ((Grew.refl w).alloc _)).mono ?_
  rintro e w1 ⟨rfl, hg1⟩
  have HG1 := hid (((Grew.refl w).alloc _).trans hg1)
  have C0 := wd_cell (w := w1) (show w1.cell? ⟨w.heap.size, 0, none⟩ = some (.string lo) from (hg1.cells.1 _ _ (by simp)).trans (by simp [go_sem]))
  have C1 := wd_cell (w := w1) (show w1.cell? ⟨w.heap.size, 1, none⟩ = some (.string hi) from (hg1.cells.1 _ _ (by simp)).trans (by simp [go_sem]))
  clear HR hg1
  go_wp2_with fail
  refine wp_region_mixS 3 [0, 2] (Grew w1) Eq (JNew w1) (fun f a => (a.put (some 8) (f 0)).put (some 10) (f 2)) (by kernel_rfl) (by kernel_rfl) (fun _ _ => rfl) ⟨(Grew.refl w1).drew, (fun h => by cases h), (fun h => by cases h), (fun h => by cases h)⟩ (fun _ _ _ h => h.grew) (fun _ => rfl) (fun _ _ _ _ h g => g ▸ h) ?_
  repeat (first
    | refine mxL ?_
    | (refine mxP ?_; intros; go_big_quiet_op; go_big_quiet_on)
    | (refine mxK ?_; simp only [Act.put, List.setIfInBounds_toArray, List.set_cons_zero, List.set_cons_succ]))
  refine mixS_done (by rfl) ⟨⟨loose_of rfl (fun _ a => a) (fun _ _ => rfl) (fun _ => rfl) ?_, loose_of rfl (fun f a => a.put (some 8) (f 0)) (fun _ _ => rfl) (fun _ => rfl) ?_, trivial⟩, ?_⟩
  · intro L f x hJ hL hd
    have HJ := hid hJ
    have HL := hid hL
    clear hJ hL hd C0 C1
    go_simp
    refine (newT_any x).mono ?_
    rintro e x' ⟨rfl, hg, hT⟩
    exact ⟨_, rfl, HJ.out.one HL.out hT (fun j hj => by rw [hj]; exact Nat.le_refl _) hg⟩
  · intro L f x hJ hL hd
    have HJ := hid hJ
    have HL := hid hL
    clear hJ hL hd C0 C1
    go_simp
    refine (newD_any x).mono ?_
    rintro e x' ⟨sb, F, rfl, hT, hF, hg⟩
    exact ⟨_, rfl, HJ.out.two HL.out hT hF hg⟩
  intro f x hJ
  obtain ⟨cb, Fc, db, Gs, e0, hT, hF, e2, hS, hG2, hdis⟩ := hJ.both rfl rfl
  have hgx := hJ.grew
  have HF : Hid (((x.alloc (.cells #[.pointer (some ⟨cb, 0, none⟩), .string lo, .string hi, .pointer (some ⟨db, 0, none⟩)] 83)).cell? ⟨x.heap.size, 0, none⟩ = some (.pointer (some ⟨cb, 0, none⟩)) ∧ TabAt (x.alloc (.cells #[.pointer (some ⟨cb, 0, none⟩), .string lo, .string hi, .pointer (some ⟨db, 0, none⟩)] 83)) Fc cb []) ∧ ((∀ j, Fc j → w.heap.size ≤ j) ∧ w.heap.size ≤ x.heap.size) ∧ Grew w (x.alloc (.cells #[.pointer (some ⟨cb, 0, none⟩), .string lo, .string hi, .pointer (some ⟨db, 0, none⟩)] 83))) := by
    have gA : Grew x (x.alloc (.cells #[.pointer (some ⟨cb, 0, none⟩), .string lo, .string hi, .pointer (some ⟨db, 0, none⟩)] 83)) := (Grew.refl x).alloc _
    exact ⟨⟨by simp [go_sem], hT.grew gA⟩, ⟨fun j hj => Nat.le_trans HG1.out.size (hF j hj), (HG1.out.trans hgx).size⟩, (HG1.out.trans hgx).trans gA⟩
  clear hT hF hS hG2 hdis hgx hJ C0 C1
  dsimp only [List.drop]
  simp only [Act.put, List.setIfInBounds_toArray, List.set_cons_succ, List.set_cons_zero]
  rw [e0, e2]
  clear e0 e2
  go_wp2_with fail
  go_ret2
  exact ⟨_, cb, Fc, rfl, HF.out.1.1, HF.out.1.2, HF.out.2.1.1, HF.out.2.1.2, HF.out.2.2⟩
end Go.Proofs.YtlgcdneiebjkcaaGreatDoor
namespace Go.Proofs.YtlgcdneiebjkcaaGreatDoor
open Go.RowKit
structure OpR where
  kind : Int
  key : ByteArray
  val : ByteArray
  old : ByteArray
  ver : Int
def OpR.none : OpR := ⟨0, ⟨#[]⟩, ⟨#[]⟩, ⟨#[]⟩, 0⟩
instance : Inhabited OpR := ⟨OpR.none⟩
def OpR.vals (c : OpR) : List Value := [.int .i64 c.kind, .string c.key, .string c.val, .string c.old, .int .i64 c.ver]
def opRAt (xs : List OpR) (j : Nat) : OpR := xs[j]?.getD OpR.none
structure OpRRow (W : World) (b off : Nat) (xs : List OpR) : Prop where
  kind : ∀ j, j < xs.length → W.cell? ⟨b, off + j * 5, Option.none⟩ = some (.int .i64 (opRAt xs j).kind)
  key : ∀ j, j < xs.length → W.cell? ⟨b, off + j * 5 + 1, Option.none⟩ = some (.string (opRAt xs j).key)
  val : ∀ j, j < xs.length → W.cell? ⟨b, off + j * 5 + 2, Option.none⟩ = some (.string (opRAt xs j).val)
  old : ∀ j, j < xs.length → W.cell? ⟨b, off + j * 5 + 3, Option.none⟩ = some (.string (opRAt xs j).old)
  ver : ∀ j, j < xs.length → W.cell? ⟨b, off + j * 5 + 4, Option.none⟩ = some (.int .i64 (opRAt xs j).ver)
theorem OpRRow.grew {W W' : World} {b off : Nat} {xs : List OpR} (h : OpRRow W b off xs) (g : Grew W W') (hb : b < W.heap.size) : OpRRow W' b off xs :=
  ⟨fun j hj => (g.cells.1 _ _ hb).trans (h.kind j hj), fun j hj => (g.cells.1 _ _ hb).trans (h.key j hj), fun j hj => (g.cells.1 _ _ hb).trans (h.val j hj), fun j hj => (g.cells.1 _ _ hb).trans (h.old j hj), fun j hj => (g.cells.1 _ _ hb).trans (h.ver j hj)⟩
def OpRsAt (W : World) (a : Option Addr) (xs : List OpR) : Prop := xs = [] ∨ ∃ b off, a = some ⟨b, off, Option.none⟩ ∧ b < W.heap.size ∧ OpRRow W b off xs
theorem OpRsAt.grew {W W' : World} {a : Option Addr} {xs : List OpR} (h : OpRsAt W a xs) (g : Grew W W') : OpRsAt W' a xs := by
  rcases h with h | ⟨b, off, e, hb, h⟩
  · exact .inl h
  · exact .inr ⟨b, off, e, Nat.lt_of_lt_of_le hb g.size, h.grew g hb⟩
def OpR.aggOf (c : OpR) : Value := .agg c.vals.toArray
end Go.Proofs.YtlgcdneiebjkcaaGreatDoor
namespace Go.Proofs.YtlgcdneiebjkcaaGreatDoor
open Go.RowKit
structure Sh where
  id : Int
  server : Int
  since : Int
  lo : ByteArray
  hi : ByteArray
def Sh.none : Sh := ⟨0, 0, 0, ⟨#[]⟩, ⟨#[]⟩⟩
instance : Inhabited Sh := ⟨Sh.none⟩
def Sh.vals (c : Sh) : List Value := [.int .i64 c.id, .int .i64 c.server, .int .i64 c.since, .string c.lo, .string c.hi]
def shAt (xs : List Sh) (j : Nat) : Sh := xs[j]?.getD Sh.none
def shFlat (xs : List Sh) : List Value := xs.flatMap Sh.vals
theorem shAt_eq (xs : List Sh) (i : Nat) (hi : i < xs.length) : shAt xs i = xs[i] := by unfold shAt; rw [List.getElem?_eq_getElem hi]; rfl
theorem shAt_mem (xs : List Sh) (k : Nat) (h : k < xs.length) : shAt xs k ∈ xs := by rw [shAt_eq xs k h]; exact List.getElem_mem h
theorem shFlat_length (xs : List Sh) : (shFlat xs).length = xs.length * 5 := by
  induction xs with
  | nil => rfl
  | cons c xs ih => unfold shFlat at ih ⊢; rw [List.flatMap_cons, List.length_append, ih]; simp [Sh.vals]; omega
theorem shFlat_get (i : Nat) (hi : i < 5) : ∀ (xs : List Sh) (j : Nat), j < xs.length → (shFlat xs)[j * 5 + i]? = (shAt xs j).vals[i]? := by
  intro xs
  induction xs with
  | nil => intro j hj; simp at hj
  | cons c xs ih =>
    intro j hj
    unfold shFlat at ih ⊢
    rw [List.flatMap_cons]
    cases j with
    | zero => rw [List.getElem?_append_left (by simp [Sh.vals]; omega)]; simp [shAt]
    | succ j =>
      rw [List.getElem?_append_right (by simp [Sh.vals]; omega)]
      have e : (j + 1) * 5 + i - c.vals.length = j * 5 + i := by simp [Sh.vals]; omega
      rw [e, ih j (by simpa using hj)]
      simp [shAt]
structure ShRow (W : World) (b off : Nat) (xs : List Sh) : Prop where
  id : ∀ j, j < xs.length → W.cell? ⟨b, off + j * 5, Option.none⟩ = some (.int .i64 (shAt xs j).id)
  server : ∀ j, j < xs.length → W.cell? ⟨b, off + j * 5 + 1, Option.none⟩ = some (.int .i64 (shAt xs j).server)
  since : ∀ j, j < xs.length → W.cell? ⟨b, off + j * 5 + 2, Option.none⟩ = some (.int .i64 (shAt xs j).since)
  lo : ∀ j, j < xs.length → W.cell? ⟨b, off + j * 5 + 3, Option.none⟩ = some (.string (shAt xs j).lo)
  hi : ∀ j, j < xs.length → W.cell? ⟨b, off + j * 5 + 4, Option.none⟩ = some (.string (shAt xs j).hi)
theorem ShRow.grew {W W' : World} {b off : Nat} {xs : List Sh} (h : ShRow W b off xs) (g : Grew W W') (hb : b < W.heap.size) : ShRow W' b off xs :=
  ⟨fun j hj => (g.cells.1 _ _ hb).trans (h.id j hj), fun j hj => (g.cells.1 _ _ hb).trans (h.server j hj), fun j hj => (g.cells.1 _ _ hb).trans (h.since j hj), fun j hj => (g.cells.1 _ _ hb).trans (h.lo j hj), fun j hj => (g.cells.1 _ _ hb).trans (h.hi j hj)⟩
def ShsAt (W : World) (a : Option Addr) (xs : List Sh) : Prop := xs = [] ∨ ∃ b off, a = some ⟨b, off, Option.none⟩ ∧ b < W.heap.size ∧ ShRow W b off xs
theorem ShsAt.grew {W W' : World} {a : Option Addr} {xs : List Sh} (h : ShsAt W a xs) (g : Grew W W') : ShsAt W' a xs := by
  rcases h with h | ⟨b, off, e, hb, h⟩
  · exact .inl h
  · exact .inr ⟨b, off, e, Nat.lt_of_lt_of_le hb g.size, h.grew g hb⟩
theorem shsAt_of {W : World} {B : Nat} {v : Value} {xs : List Sh} (h : W.ownsRow B 91 5 v xs.length (shFlat xs)) : ∃ a cap, v = .slice a xs.length cap ∧ ShsAt W a xs := by
  rcases Nat.eq_zero_or_pos xs.length with h0 | h0
  · have hx : xs = [] := List.eq_nil_of_length_eq_zero h0
    rcases h.2 with ⟨rfl, _⟩ | ⟨g, cap, cur, rfl, _, hg, _⟩
    · exact ⟨Option.none, 0, by rw [h0], .inl hx⟩
    · exact ⟨_, _, rfl, .inl hx⟩
  · obtain ⟨g, cap, rfl, _, hlt⟩ := h.form h0
    refine ⟨_, _, rfl, .inr ⟨g, 0, rfl, hlt, ?_, ?_, ?_, ?_, ?_⟩⟩ <;> intro j hj
    · have := h.cellAt (j * 5 + 0) (by omega); rw [shFlat_get 0 (by omega) xs j hj] at this; rw [Nat.zero_add]; exact this
    · have := h.cellAt (j * 5 + 1) (by omega); rw [shFlat_get 1 (by omega) xs j hj] at this; rw [Nat.zero_add]; exact this
    · have := h.cellAt (j * 5 + 2) (by omega); rw [shFlat_get 2 (by omega) xs j hj] at this; rw [Nat.zero_add]; exact this
    · have := h.cellAt (j * 5 + 3) (by omega); rw [shFlat_get 3 (by omega) xs j hj] at this; rw [Nat.zero_add]; exact this
    · have := h.cellAt (j * 5 + 4) (by omega); rw [shFlat_get 4 (by omega) xs j hj] at this; rw [Nat.zero_add]; exact this
theorem shFlat_one' (xs : List Sh) : ∀ u ∈ shFlat xs, u.oneCell' = true := by
  intro u hu
  unfold shFlat at hu
  obtain ⟨c, _, hc⟩ := List.mem_flatMap.1 hu
  simp [Sh.vals] at hc
  rcases hc with rfl | rfl | rfl | rfl | rfl <;> rfl
def Sh.aggOf (c : Sh) : Value := .agg c.vals.toArray
end Go.Proofs.YtlgcdneiebjkcaaGreatDoor
namespace Go.Proofs.YtlgcdneiebjkcaaGreatDoor
open Go.RowKit
attribute [local go_sem] Oper.semAt_some
end Go.Proofs.YtlgcdneiebjkcaaGreatDoor
namespace Go.Proofs.YtlgcdneiebjkcaaGreatDoor
open Go.RowKit
attribute [local go_sem] Oper.semAt_some
set_option maxRecDepth 100000 in
set_option maxHeartbeats 1000000 in
theorem idxShardOwner (p : Sh → Bool) (cb : Nat) (a : Option Addr) (cap : Nat) (xs : List Sh) (w : World) (hA : ShsAt w a xs) (hx : xs.length ≤ 1000000)
    (hp : ∀ j, j < xs.length → ∀ W, Grew w W → Calls Tryz.prog 72 #[(shAt xs j).aggOf, .pointer (some ⟨cb, 0, none⟩)] W fun e W' => e = .returned (.bool (p (shAt xs j))) ∧ Grew W W') :
    Calls Tryz.prog 71 #[.slice a xs.length cap, .func (.func 72) #[] #[.pointer (some ⟨cb, 0, none⟩)]] w fun e w' => e = .returned (.int .i64 (idxI p xs)) ∧ Grew w w' := by
  have HA := hid hA
  have HP := hid hp
  clear hA hp
  go_enter Tryz.func71, Tryz.ntmps71
  go_wp2_with fail
  go_loopw [8] (fun i wr => ∃ k : Nat, k ≤ xs.length ∧ i = .int .i64 k ∧ Hid ((xs.take k).all (fun c => !p c) = true) ∧ Grew w wr) (fun i _ => xs.length - (intOf i).toNat)
  case atStart => exact ⟨0, Nat.zero_le _, rfl, rfl, Grew.refl w⟩
  case round =>
    obtain ⟨k, hk1, rfl, HN, hG⟩ := hrel
    by_cases hlt : k < xs.length
    · rcases HA.out with h0 | ⟨b, off, rfl, hb, hR⟩
      · rw [h0] at hlt; simp at hlt
      have q0 := (hG.cells.1 b (off + k * 5) hb).trans (hR.id k hlt)
      have q1 := (hG.cells.1 b (off + k * 5 + 1) hb).trans (hR.server k hlt)
      have q2 := (hG.cells.1 b (off + k * 5 + 2) hb).trans (hR.since k hlt)
      have q3 := (hG.cells.1 b (off + k * 5 + 3) hb).trans (hR.lo k hlt)
      have q4 := (hG.cells.1 b (off + k * 5 + 4) hb).trans (hR.hi k hlt)
      have HC := hid (HP.out k hlt)
      have hat : shAt xs k = xs[k] := shAt_eq xs k hlt
      have HAT := hid hat
      clear hR hat
      have HS := hid (idx_some p xs k hlt HN.out)
      have HN2 := hid (idx_next p xs k hlt HN.out)
      rw [← HAT.out] at HS HN2
      generalize shAt xs k = c at *
      clear HAT
      unfold Sh.aggOf at HC
      cases hpc : p c with
      | true =>
        rw [hpc] at HC
        have HS2 := hid (HS.out hpc)
        obtain ⟨c0, c1, c2, c3, c4⟩ := c
        dsimp only [Sh.vals] at *
        clear hpc HS HN2
        go_wp2_with fail
        refine (HC.out _ hG).mono ?_
        rintro e w1 ⟨rfl, hg1⟩
        go_wp2_with fail
        go_ret
        exact ⟨ret_int HS2.out.symm, hG.trans hg1⟩
      | false =>
        rw [hpc] at HC
        have HS2 := hid (HN2.out hpc)
        obtain ⟨c0, c1, c2, c3, c4⟩ := c
        dsimp only [Sh.vals] at *
        clear hpc HS HN2
        go_wp2_with fail
        refine (HC.out _ hG).mono ?_
        rintro e w1 ⟨rfl, hg1⟩
        go_wp2_with fail
        go_roundw
        case rel => exact ⟨k + 1, by omega, by go_num, HS2, hG.trans hg1⟩
        case measure => simp [intOf]; omega
    · obtain rfl : k = xs.length := by omega
      have HE := hid (idx_none p xs (by have := HN.out; rwa [List.take_length] at this))
      go_wp2_with fail
      go_ret
      exact ⟨ret_int HE.out.symm, hG⟩
end Go.Proofs.YtlgcdneiebjkcaaGreatDoor
namespace Go.Proofs.YtlgcdneiebjkcaaGreatDoor
open Go.RowKit
namespace Pl
end Pl
def SpanS (S : Nat → Bool) : Prop := KeyS S ∧ S 1 = true ∧ S 4 = true
end Go.Proofs.YtlgcdneiebjkcaaGreatDoor
namespace Go.Proofs.YtlgcdneiebjkcaaGreatDoor
open Go.RowKit
attribute [local go_sem] Oper.semAt_some
namespace Pl
end Pl
structure KeyT (S : Nat → Bool) : Prop where
  h2 : S 2 = true
  h3 : S 3 = true
  h6 : S 6 = true
  h7 : S 7 = true
def OpR.agg (o : OpR) : Value := .agg #[.int .i64 o.kind, .string o.key, .string o.val, .string o.old, .int .i64 o.ver]
namespace Pl
end Pl
end Go.Proofs.YtlgcdneiebjkcaaGreatDoor
namespace Go.Proofs.YtlgcdneiebjkcaaGreatDoor
open Go.RowKit
attribute [local go_sem] Oper.semAt_some
namespace Pl
end Pl
end Go.Proofs.YtlgcdneiebjkcaaGreatDoor
