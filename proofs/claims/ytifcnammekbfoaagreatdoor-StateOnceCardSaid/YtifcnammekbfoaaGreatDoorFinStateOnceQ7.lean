/- Span1, ScanP: one text. -/
import Derived.Test.YtifcnammekbfoaaGreatDoorFinStateOnceQ5
import Derived.Test.YtifcnammekbfoaaGreatDoorFinStateOnceQ6
/- The walks of package span: end, less, Right, Has. Then: The walks of package span: Has, Cut. -/
namespace Go.Proofs.YtifcnammekbfoaaGreatDoor
open Go.RowKit

namespace Pl
def isKey (s : ByteArray) : Bool := decide (keyN s = 0)
def none0 (s : ByteArray) : Bool := s.toList.isEmpty
def endB (s : ByteArray) : Bool := none0 s || isKey s
def lessB (key hi : ByteArray) : Bool := none0 hi || decide (compare key hi < 0)
def rightS (lo hi : ByteArray) : Bool := endB lo && endB hi && lessB lo hi
def hasS (lo hi key : ByteArray) : Bool := rightS lo hi && isKey key && decide (0 ≤ compare key lo) && lessB key hi
end Pl

theorem errOf_key (E : Nat → Addr) (s : ByteArray) (h : Pl.isKey s = true) : errOf E (Pl.keyN s) = .nilIface := by
  unfold Pl.isKey at h; rw [of_decide_eq_true h]; rfl
theorem errOf_nokey (E : Nat → Addr) (s : ByteArray) (h : Pl.isKey s = false) : errOf E (Pl.keyN s) = .iface 293 (.pointer (some (E (Pl.keyN s)))) :=
  errOf_pos E _ (of_decide_eq_false h)

/-- The sentinels that runes.Key may hand back. -/
def KeyS (S : Nat → Bool) : Prop := S 2 = true ∧ S 3 = true ∧ S 6 = true ∧ S 7 = true

set_option maxHeartbeats 400000 in
theorem end_any (S : Nat → Bool) (E : Nat → Addr) (hS : KeyS S) (s : ByteArray) (w : World) (hs : s.size ≤ 140737488351232) (hE : Errs S E w) :
    Calls Tryz.prog 120 #[.string s] w fun e w' => e = .returned (.bool (Pl.endB s)) ∧ Grew w w' := by
  obtain ⟨h2, h3, h6, h7⟩ := hS
  have hkey := key_any S E h2 h3 h6 h7 s w hs hE
  clear h2 h3 h6 h7 hE
  cases he : s.toList.isEmpty with
  | true =>
    have e : Pl.endB s = true := by unfold Pl.endB Pl.none0; rw [he]; rfl
    have e2 : s.toList = [] := by simpa using he
    have HE := hid e
    clear e hkey
    go_enter Tryz.func120, Tryz.ntmps120
    go_wp2
    go_ret
    exact ⟨ret_bool HE.out.symm, Grew.refl _⟩
  | false =>
    have e2 : (!s.toList.isEmpty) = true := by rw [he]; rfl
    have e3 : ¬ s.toList = [] := by simpa using he
    cases hk : Pl.isKey s with
    | true =>
      have e : Pl.endB s = true := by unfold Pl.endB; rw [hk]; simp
      have HE := hid e
      rw [errOf_key E s hk] at hkey
      have HK := hid hkey
      clear e hk hkey
      go_enter Tryz.func120, Tryz.ntmps120
      go_wp2_with (go_at_call 96; refine HK.out.mono ?_; rintro e w' ⟨rfl, hg⟩)
      go_ret
      exact ⟨ret_bool HE.out.symm, by assumption⟩
    | false =>
      have e : Pl.endB s = false := by unfold Pl.endB Pl.none0; rw [hk, he]; rfl
      have HE := hid e
      rw [errOf_nokey E s hk] at hkey
      have HK := hid hkey
      clear e hk hkey
      go_enter Tryz.func120, Tryz.ntmps120
      go_wp2_with (go_at_call 96; refine HK.out.mono ?_; rintro e w' ⟨rfl, hg⟩)
      go_ret
      exact ⟨ret_bool HE.out.symm, by assumption⟩

set_option maxHeartbeats 400000 in
theorem less_any (key hi : ByteArray) (w : World) (hk : key.size ≤ 70368744177664) (hh : hi.size ≤ 70368744177664) :
    Calls Tryz.prog 121 #[.string key, .string hi] w fun e w' => e = .returned (.bool (Pl.lessB key hi)) ∧ Grew w w' := by
  cases he : hi.toList.isEmpty with
  | true =>
    have e : Pl.lessB key hi = true := by unfold Pl.lessB Pl.none0; rw [he]; rfl
    have e2 : hi.toList = [] := by simpa using he
    have HE := hid e
    clear e
    go_enter Tryz.func121, Tryz.ntmps121
    go_wp2
    go_ret
    exact ⟨ret_bool HE.out.symm, Grew.refl _⟩
  | false =>
    have e2 : (!hi.toList.isEmpty) = true := by rw [he]; rfl
    have e3 : ¬ hi.toList = [] := by simpa using he
    have e : Pl.lessB key hi = decide (Pl.compare key hi < 0) := by unfold Pl.lessB Pl.none0; rw [he]; rfl
    have HE := hid e
    clear e
    go_enter Tryz.func121, Tryz.ntmps121
    go_wp2_with (go_at_call 66; refine (compare_any _ _ _ hk hh).mono ?_; rintro e w' ⟨rfl, hg⟩)
    go_ret
    exact ⟨ret_bool HE.out.symm, by assumption⟩

/-- A span as a value. -/
abbrev spanV (lo hi : ByteArray) : Value := .agg #[.string lo, .string hi]

set_option maxHeartbeats 400000 in
theorem right_span (S : Nat → Bool) (E : Nat → Addr) (hS : KeyS S) (lo hi : ByteArray) (w : World) (hl : lo.size ≤ 70368744177664) (hh : hi.size ≤ 70368744177664) (hE : Errs S E w) :
    Calls Tryz.prog 68 #[.agg #[.string lo, .string hi]] w fun e w' => e = .returned (.bool (Pl.rightS lo hi)) ∧ Grew w w' := by
  have HE := hid hE
  have hle : lo.size ≤ 140737488351232 := by omega
  have hhe : hi.size ≤ 140737488351232 := by omega
  clear hE
  cases h1 : Pl.endB lo with
  | false =>
    have hr : Pl.rightS lo hi = false := by unfold Pl.rightS; rw [h1]; rfl
    have HR := hid hr
    clear hr
    go_enter Tryz.func68, Tryz.ntmps68
    go_wp2_with fail
    refine (end_any S E hS lo _ hle (HE.out.grew ((Grew.refl w).alloc _))).mono ?_
    rintro e w1 ⟨rfl, hg⟩
    go_wp2_with fail
    go_ret
    exact ⟨ret_bool HR.out.symm, ((Grew.refl w).alloc _).trans hg⟩
  | true =>
    cases h2 : Pl.endB hi with
    | false =>
      have hr : Pl.rightS lo hi = false := by unfold Pl.rightS; rw [h1, h2]; rfl
      have HR := hid hr
      clear hr
      go_enter Tryz.func68, Tryz.ntmps68
      go_wp2_with fail
      refine (end_any S E hS lo _ hle (HE.out.grew ((Grew.refl w).alloc _))).mono ?_
      rintro e w1 ⟨rfl, hg⟩
      have hG : Grew w w1 := ((Grew.refl w).alloc _).trans hg
      obtain ⟨hc, _⟩ := hg.cells
      go_wp2_with fail
      refine (end_any S E hS hi _ hhe (HE.out.grew hG)).mono ?_
      rintro e w2 ⟨rfl, hg2⟩
      go_wp2_with fail
      go_ret
      exact ⟨ret_bool HR.out.symm, hG.trans hg2⟩
    | true =>
      have hr : Pl.rightS lo hi = Pl.lessB lo hi := by unfold Pl.rightS; rw [h1, h2]; rfl
      have HR := hid hr
      clear hr
      go_enter Tryz.func68, Tryz.ntmps68
      go_wp2_with fail
      refine (end_any S E hS lo _ hle (HE.out.grew ((Grew.refl w).alloc _))).mono ?_
      rintro e w1 ⟨rfl, hg⟩
      have hG : Grew w w1 := ((Grew.refl w).alloc _).trans hg
      obtain ⟨hc, _⟩ := hg.cells
      go_wp2_with fail
      refine (end_any S E hS hi _ hhe (HE.out.grew hG)).mono ?_
      rintro e w2 ⟨rfl, hg2⟩
      have hz : w.heap.size < w1.heap.size := by have := hg.size; simp at this; omega
      obtain ⟨hc2, _⟩ := hg2.cells
      go_wp2_with fail
      refine (less_any lo hi _ hl hh).mono ?_
      rintro e w3 ⟨rfl, hg3⟩
      go_wp2_with fail
      go_ret
      exact ⟨ret_bool HR.out.symm, (hG.trans hg2).trans hg3⟩
end Go.Proofs.YtifcnammekbfoaaGreatDoor

namespace Go.Proofs.YtifcnammekbfoaaGreatDoor
open Go.RowKit

set_option maxHeartbeats 800000 in
theorem has_span (S : Nat → Bool) (E : Nat → Addr) (hS : KeyS S) (lo hi key : ByteArray) (w : World) (hl : lo.size ≤ 70368744177664) (hh : hi.size ≤ 70368744177664) (hk : key.size ≤ 70368744177664) (hE : Errs S E w) :
    Calls Tryz.prog 74 #[.agg #[.string lo, .string hi], .string key] w fun e w' => e = .returned (.bool (Pl.hasS lo hi key)) ∧ Grew w w' := by
  have HE := hid hE
  obtain ⟨s2, s3, s6, s7⟩ := id hS
  clear hE
  cases h1 : Pl.rightS lo hi with
  | false =>
    have hr : Pl.hasS lo hi key = false := by unfold Pl.hasS; rw [h1]; rfl
    have HR := hid hr
    clear hr
    go_enter Tryz.func74, Tryz.ntmps74
    go_wp2_with fail
    refine (right_span S E hS lo hi _ hl hh (HE.out.grew ((Grew.refl w).alloc _))).mono ?_
    rintro e w1 ⟨rfl, hg⟩
    go_wp2_with fail
    go_ret
    exact ⟨ret_bool HR.out.symm, ((Grew.refl w).alloc _).trans hg⟩
  | true =>
    cases h2 : Pl.isKey key with
    | false =>
      have hr : Pl.hasS lo hi key = false := by unfold Pl.hasS; rw [h1, h2]; rfl
      have HR := hid hr
      have HK := hid (errOf_nokey E key h2)
      clear hr
      go_enter Tryz.func74, Tryz.ntmps74
      go_wp2_with fail
      refine (right_span S E hS lo hi _ hl hh (HE.out.grew ((Grew.refl w).alloc _))).mono ?_
      rintro e w1 ⟨rfl, hg⟩
      have hG : Grew w w1 := ((Grew.refl w).alloc _).trans hg
      go_wp2_with fail
      refine (key_any S E s2 s3 s6 s7 key _ (by omega) (HE.out.grew hG)).mono ?_
      rw [HK.out]
      rintro e w2 ⟨rfl, hg2⟩
      go_wp2_with fail
      go_ret
      exact ⟨ret_bool HR.out.symm, hG.trans hg2⟩
    | true =>
      have HK := hid (errOf_key E key h2)
      by_cases h3 : 0 ≤ Pl.compare key lo
      · have hr : Pl.hasS lo hi key = Pl.lessB key hi := by unfold Pl.hasS; rw [h1, h2, decide_eq_true h3]; rfl
        have HR := hid hr
        clear hr
        go_enter Tryz.func74, Tryz.ntmps74
        go_wp2_with fail
        refine (right_span S E hS lo hi _ hl hh (HE.out.grew ((Grew.refl w).alloc _))).mono ?_
        rintro e w1 ⟨rfl, hg⟩
        have hG : Grew w w1 := ((Grew.refl w).alloc _).trans hg
        have hz : w.heap.size < w1.heap.size := by have := hg.size; simp at this; omega
        obtain ⟨hc, _⟩ := hg.cells
        go_wp2_with fail
        refine (key_any S E s2 s3 s6 s7 key _ (by omega) (HE.out.grew hG)).mono ?_
        rw [HK.out]
        rintro e w2 ⟨rfl, hg2⟩
        have hz2 : w.heap.size < w2.heap.size := by have := hg2.size; omega
        obtain ⟨hc2, _⟩ := hg2.cells
        go_wp2_with fail
        refine (compare_any key lo _ hk hl).mono ?_
        rintro e w3 ⟨rfl, hg3⟩
        obtain ⟨hc3, _⟩ := hg3.cells
        go_wp2_with fail
        refine (less_any key hi _ hk hh).mono ?_
        rintro e w4 ⟨rfl, hg4⟩
        go_wp2_with fail
        go_ret
        exact ⟨ret_bool HR.out.symm, ((hG.trans hg2).trans hg3).trans hg4⟩
      · have hr : Pl.hasS lo hi key = false := by unfold Pl.hasS; rw [h1, h2, decide_eq_false h3]; rfl
        have HR := hid hr
        clear hr
        go_enter Tryz.func74, Tryz.ntmps74
        go_wp2_with fail
        refine (right_span S E hS lo hi _ hl hh (HE.out.grew ((Grew.refl w).alloc _))).mono ?_
        rintro e w1 ⟨rfl, hg⟩
        have hG : Grew w w1 := ((Grew.refl w).alloc _).trans hg
        have hz : w.heap.size < w1.heap.size := by have := hg.size; simp at this; omega
        obtain ⟨hc, _⟩ := hg.cells
        go_wp2_with fail
        refine (key_any S E s2 s3 s6 s7 key _ (by omega) (HE.out.grew hG)).mono ?_
        rw [HK.out]
        rintro e w2 ⟨rfl, hg2⟩
        have hz2 : w.heap.size < w2.heap.size := by have := hg2.size; omega
        obtain ⟨hc2, _⟩ := hg2.cells
        go_wp2_with fail
        refine (compare_any key lo _ hk hl).mono ?_
        rintro e w3 ⟨rfl, hg3⟩
        go_wp2_with fail
        go_ret
        exact ⟨ret_bool HR.out.symm, (hG.trans hg2).trans hg3⟩
end Go.Proofs.YtifcnammekbfoaaGreatDoor

/- Plain: what a scan of a table tells. -/
namespace Go.Proofs.YtifcnammekbfoaaGreatDoor
namespace Pl
/-- table.Scan. -/
def scanT (xs : List Pr) (lo hi : ByteArray) (limit : Int) : List Pr := (xs.filter fun c => hasS lo hi c.key).take limit.toNat
/-- .. behind k pairs. -/
theorem scan_snoc (xs : List Pr) (lo hi : ByteArray) (limit : Int) (k : Nat) (hk : k < xs.length) :
    scanT (xs.take (k + 1)) lo hi limit = scanT (xs.take k) lo hi limit ++ if ((scanT (xs.take k) lo hi limit).length : Int) < limit ∧ hasS lo hi (prAt xs k).key = true then [prAt xs k] else [] := by
  unfold scanT
  rw [List.take_succ_eq_append_getElem hk, ← prAt_eq xs k hk, List.filter_append]
  by_cases hh : hasS lo hi (prAt xs k).key = true
  · rw [List.filter_cons_of_pos (by simpa using hh), List.filter_nil]
    generalize (xs.take k).filter _ = L
    by_cases hlt : ((L.take limit.toNat).length : Int) < limit
    · rw [if_pos ⟨hlt, hh⟩]
      rw [List.length_take] at hlt
      rw [List.take_of_length_le (show L.length ≤ limit.toNat by omega), List.take_of_length_le (by simp; omega)]
    · rw [if_neg (fun h => hlt h.1), List.append_nil]
      rw [List.length_take] at hlt
      rw [List.take_append_of_le_length (by omega)]
  · rw [List.filter_cons_of_neg (by simpa using hh), List.filter_nil, List.append_nil, if_neg (fun h => hh h.2), List.append_nil]
end Pl
end Go.Proofs.YtifcnammekbfoaaGreatDoor
