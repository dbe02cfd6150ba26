/- The walk of past.note, where it refuses. -/
import Derived.Test.YtapchoppcaacdaaGreatDoorPast3
import Derived.Lib.QuietBelow
import Derived.BigQuiet
import Derived.Deep.QuietTactic
import Derived.RegionTactic
namespace Go.Proofs.YtapchoppcaacdaaGreatDoor
open Go.RowKit Go.Maps Go.Sort

namespace Pl
/-- The version of the last change; 0: there is none. -/
def lastV (xs : List Ch) : Int := (chAt xs (xs.length - 1)).ver
def staleB (xs : List Ch) (fl v : Int) : Bool := decide (v ≤ fl) || (decide (0 < xs.length) && decide (v ≤ lastV xs))
/-- past.note: the error's number. -/
def noteE (K : ByteArray → List Ch) (fl : Int) (c : Ch) : Nat :=
  if keyN c.key ≠ 0 then keyN c.key else if 64 < c.val.size then 3 else if c.ver < 1 ∨ 4096 < c.ver then 1 else if staleB (K c.key) fl c.ver = true then 19 else 0
end Pl

structure NoteS (S : Nat → Bool) : Prop where
  h1 : S 1 = true
  h2 : S 2 = true
  h3 : S 3 = true
  h6 : S 6 = true
  h7 : S 7 = true
  h19 : S 19 = true

/-- The look-up of a key, in every world behind. -/
theorem PastIs.look {w w' : World} {F : Nat → Prop} {pb mb n : Nat} {f : Lit → Option Value} {K : ByteArray → List Ch} {fl : Int} (h : PastIs w F pb mb f n K fl) (g : Grew w w') (key : ByteArray) (hk : key.size ≤ maxLen) :
    (Instr.lookup 85 (.map (some mb)) (.string key) false).run Tryz.prog w' = .ok ((f (slit key)).getD nilS) w' :=
  (h.lm.grew g).lookup str_keyed Tryz.underlying85 (zero_slice _) (WideMaps.keyOf_string_mk Tryz.underlying9 hk)

set_option maxRecDepth 100000 in
set_option maxHeartbeats 2000000 in
theorem note_err (S : Nat → Bool) (E : Nat → Addr) (hS : NoteS S) {w : World} (hE : Errs S E w) {F : Nat → Prop} {pb mb n : Nat} {f : Lit → Option Value} {K : ByteArray → List Ch} {fl : Int} (h : PastIs w F pb mb f n K fl) (hn : n ≤ 1000000) (c : Ch) (hk : c.key.size ≤ maxLen) (hk2 : c.key.size ≤ 140737488351232) (hv : c.val.size ≤ 140737488351232) (he : Pl.noteE K fl c ≠ 0) :
    Calls Tryz.prog 79 #[.pointer (some ⟨pb, 0, none⟩), c.agg] w fun e w' => e = .returned (errOf E (Pl.noteE K fl c)) ∧ Grew w w' := by
  have HE := hid hE
  have HP := hid h
  have c0 := h.map0
  have c1 := h.flr
  have g1 : w.cell? ⟨1, 0, none⟩ = some (.iface 288 (.pointer (some (E 1)))) := hE.cell 1 hS.h1
  have g3 : w.cell? ⟨4, 0, none⟩ = some (.iface 288 (.pointer (some (E 3)))) := hE.cell 3 hS.h3
  have g19 : w.cell? ⟨18, 0, none⟩ = some (.iface 288 (.pointer (some (E 19)))) := hE.cell 19 hS.h19
  have b1 : 1 < w.heap.size := cell_lt g1
  have b3 : 4 < w.heap.size := cell_lt g3
  have b19 : 18 < w.heap.size := cell_lt g19
  have b0 : 0 < w.heap.size := Nat.lt_of_le_of_lt (Nat.zero_le _) b1
  have hb : pb < w.heap.size := cell_lt c0
  obtain ⟨a, len, cap, hs, hC⟩ := h.slice c.key
  have hlk := fun W (g : Grew w W) => h.look g c.key hk
  rw [hs] at hlk
  have HLK := hid hlk
  clear hE h hs hlk
  obtain ⟨ck, cv, cn, ct⟩ := c
  dsimp only at hk hk2 hv hC HLK
  unfold Ch.agg
  by_cases hkn : Pl.keyN ck = 0
  · have HK : Hid (errOf E (Pl.keyN ck) = .nilIface) := by unfold Hid; rw [hkn]; rfl
    by_cases h64 : 64 < cv.size
    · have e1 : Pl.noteE K fl ⟨ck, cv, cn, ct⟩ = 3 := by unfold Pl.noteE; rw [if_neg (by simp [hkn]), if_pos h64]
      rw [e1]
      clear e1 he hkn
      dsimp only
      have h64' : (64 : Int) < (cv.size : Int) := by omega
      go_enter Tryz.func79, Tryz.ntmps79
      go_wp2_with fail
      refine (key_any S E hS.h2 hS.h3 hS.h6 hS.h7 ck _ hk2 (HE.out.grew ((Grew.refl w).alloc _))).mono ?_
      rw [HK.out]
      rintro e w1 ⟨rfl, hg⟩
      have hz : w.heap.size < w1.heap.size := by have := hg.size; simp at this; omega
      have hG : Grew w w1 := ((Grew.refl w).alloc _).trans hg
      obtain ⟨hc, hf⟩ := hg.cells
      have hlk := HLK.out _ hG.drew
      go_wp2_with fail
      go_region
      go_wp2_with fail
      go_ret
      exact ⟨rfl, hG.drew⟩
    · have h64' : (cv.size : Int) ≤ 64 := by omega
      by_cases hr1 : cn < 1
      · have e1 : Pl.noteE K fl ⟨ck, cv, cn, ct⟩ = 1 := by unfold Pl.noteE; rw [if_neg (by simp [hkn]), if_neg h64, if_pos (.inl hr1)]
        rw [e1]
        clear e1 he hkn
        dsimp only
        go_enter Tryz.func79, Tryz.ntmps79
        go_wp2_with fail
        refine (key_any S E hS.h2 hS.h3 hS.h6 hS.h7 ck _ hk2 (HE.out.grew ((Grew.refl w).alloc _))).mono ?_
        rw [HK.out]
        rintro e w1 ⟨rfl, hg⟩
        have hz : w.heap.size < w1.heap.size := by have := hg.size; simp at this; omega
        have hG : Grew w w1 := ((Grew.refl w).alloc _).trans hg
        obtain ⟨hc, hf⟩ := hg.cells
        have hlk := HLK.out _ hG.drew
        go_wp2_with fail
        go_region
        go_wp2_with fail
        go_ret
        exact ⟨rfl, hG.drew⟩
      · by_cases hr2 : 4096 < cn
        · have e1 : Pl.noteE K fl ⟨ck, cv, cn, ct⟩ = 1 := by unfold Pl.noteE; rw [if_neg (by simp [hkn]), if_neg h64, if_pos (.inr hr2)]
          rw [e1]
          clear e1 he hkn
          dsimp only
          go_enter Tryz.func79, Tryz.ntmps79
          go_wp2_with fail
          refine (key_any S E hS.h2 hS.h3 hS.h6 hS.h7 ck _ hk2 (HE.out.grew ((Grew.refl w).alloc _))).mono ?_
          rw [HK.out]
          rintro e w1 ⟨rfl, hg⟩
          have hz : w.heap.size < w1.heap.size := by have := hg.size; simp at this; omega
          have hG : Grew w w1 := ((Grew.refl w).alloc _).trans hg
          obtain ⟨hc, hf⟩ := hg.cells
          have hlk := HLK.out _ hG.drew
          go_wp2_with fail
          go_region
          go_wp2_with fail
          go_ret
          exact ⟨rfl, hG.drew⟩
        · have e1 : Pl.noteE K fl ⟨ck, cv, cn, ct⟩ = if Pl.staleB (K ck) fl cn = true then 19 else 0 := by unfold Pl.noteE; rw [if_neg (by simp [hkn]), if_neg h64, if_neg (show ¬ (cn < 1 ∨ 4096 < cn) by omega)]
          rw [e1] at he ⊢
          have hst : Pl.staleB (K ck) fl cn = true := by
            cases hst : Pl.staleB (K ck) fl cn with
            | true => rfl
            | false => rw [hst] at he; simp at he
          rw [if_pos hst]
          clear e1 he hkn
          dsimp only
          by_cases hfl : cn ≤ fl
          · have hd : decide (cn ≤ fl) = true := decide_eq_true hfl
            go_enter Tryz.func79, Tryz.ntmps79
            go_wp2_with fail
            refine (key_any S E hS.h2 hS.h3 hS.h6 hS.h7 ck _ hk2 (HE.out.grew ((Grew.refl w).alloc _))).mono ?_
            rw [HK.out]
            rintro e w1 ⟨rfl, hg⟩
            have hz : w.heap.size < w1.heap.size := by have := hg.size; simp at this; omega
            have hG : Grew w w1 := ((Grew.refl w).alloc _).trans hg
            obtain ⟨hc, hf⟩ := hg.cells
            have hlk := HLK.out _ hG.drew
            go_wp2_with fail
            go_region
            go_wp2_with fail
            go_quiet (fail)
            go_wp2_with fail
            go_ret
            exact ⟨rfl, hG.drewN _⟩
          · have hd : decide (cn ≤ fl) = false := decide_eq_false hfl
            unfold Pl.staleB at hst
            rw [hd, Bool.false_or, Bool.and_eq_true, decide_eq_true_eq, decide_eq_true_eq] at hst
            obtain ⟨hl0, hl1⟩ := hst
            obtain ⟨m, hm⟩ : ∃ m, (K ck).length = m + 1 := ⟨(K ck).length - 1, by omega⟩
            rcases hC with ⟨e, hx⟩ | ⟨b, cap', e, hbb, hR⟩
            · rw [hx] at hm; simp at hm
            · cases e
              have hq := hR.ver m (by omega)
              have hl2 : cn ≤ (chAt (K ck) m).ver := by unfold Pl.lastV at hl1; rw [hm] at hl1; exact hl1
              rw [hm] at HLK
              have hd2 : decide (cn ≤ (chAt (K ck) m).ver) = true := decide_eq_true hl2
              have hmB : m < 1000000 := by have := HP.out.len ck; omega
              have i2 : (m : Int) + 1 - 1 = (m : Int) := by omega
              have i0 : (0 : Int) ≤ (m : Int) := by omega
              have i1 : (m : Int) < (m : Int) + 1 := by omega
              have hd3 : decide ((0 : Int) < (m : Int) + 1) = true := decide_eq_true (by omega)
              have hd4 : decide ((0 : Int) < ((m + 1 : Nat) : Int)) = true := decide_eq_true (by omega)
              clear hR hl1
              go_enter Tryz.func79, Tryz.ntmps79
              go_wp2_with fail
              refine (key_any S E hS.h2 hS.h3 hS.h6 hS.h7 ck _ hk2 (HE.out.grew ((Grew.refl w).alloc _))).mono ?_
              rw [HK.out]
              rintro e w1 ⟨rfl, hg⟩
              have hz : w.heap.size < w1.heap.size := by have := hg.size; simp at this; omega
              have hG : Grew w w1 := ((Grew.refl w).alloc _).trans hg
              obtain ⟨hc, hf⟩ := hg.cells
              have hlk := HLK.out _ hG.drew
              go_wp2_with fail
              go_region
              go_wp2_with fail
              go_quiet (fail)
              go_wp2_with fail
              go_ret
              exact ⟨rfl, hG.drewN _⟩
  · have e1 : Pl.noteE K fl ⟨ck, cv, cn, ct⟩ = Pl.keyN ck := by unfold Pl.noteE; rw [if_pos hkn]
    have HK := hid (errOf_ne E _ hkn)
    rw [e1, HK.out]
    clear e1 he
    dsimp only
    go_enter Tryz.func79, Tryz.ntmps79
    go_wp2_with fail
    refine (key_any S E hS.h2 hS.h3 hS.h6 hS.h7 ck _ hk2 (HE.out.grew ((Grew.refl w).alloc _))).mono ?_
    rw [HK.out]
    rintro e w1 ⟨rfl, hg⟩
    have hG : Grew w w1 := ((Grew.refl w).alloc _).trans hg
    go_wp2_with fail
    go_ret
    exact ⟨rfl, hG⟩
end Go.Proofs.YtapchoppcaacdaaGreatDoor
