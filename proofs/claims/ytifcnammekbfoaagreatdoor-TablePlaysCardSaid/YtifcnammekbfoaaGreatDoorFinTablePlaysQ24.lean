/- Same21, M21, Num19: one text. -/
import Derived.Test.YtifcnammekbfoaaGreatDoorFinTablePlaysQ22
import Derived.Test.YtifcnammekbfoaaGreatDoorFinTablePlaysQ23
import Derived.Test.YtifcnammekbfoaaGreatDoorFinTablePlaysQ21
import Derived.Test.YtifcnammekbfoaaGreatDoorFinTablePlaysQ4
import Derived.Test.YtifcnammekbfoaaGreatDoorFinTablePlaysQ5
/- The walk of tidewaterlaw21.same (printed by gen_same21.py). -/
set_option linter.unusedVariables false
set_option linter.unusedSectionVars false
set_option linter.unusedSimpArgs false
namespace Go.Proofs.YtifcnammekbfoaaGreatDoor
open Go.RowKit Go.Maps Go.Sort
attribute [local go_sem] Oper.semAt_some uponV

theorem JT.any {vs : Nat → Option Value} {od : List (Nat × Nat)} {s : Nat} {R : World → Prop} {X : Nat → Option (World → Value → Prop)} {L : Nat → Bool} {f : Nat → Value} {x : World} (h : JT vs od s R R X L f x) : R x := by
  cases hl : L s
  · exact h.a hl
  · exact h.d hl
def xSame (P : List Pr) (i : Nat) : Option (World → Value → Prop) := if i = 11 ∨ i = 13 then some (fun x v => ∃ a c, v = .slice a P.length c ∧ PairsAt x a P) else none
def vsSame (tb rb n : Nat) (a : Option Addr) (cap : Nat) (i : Nat) : Option Value := (([some (.pointer (some ⟨tb, 0, none⟩)), some (.int .i64 (n : Nat)), some (.pointer (some ⟨rb, 0, none⟩)), some (.pointer (some ⟨rb, 0, none⟩)), some (.pointer (some ⟨rb, 0, none⟩)), some (.slice a n cap), some (.int .i64 (n : Nat)), some (.bool true), some (.bool true), some (.pointer (some ⟨tb, 0, none⟩)), some (.agg #[.string ⟨#[]⟩, .string ⟨#[]⟩]), none, some (.pointer (some ⟨rb, 0, none⟩)), none, some (.bool true), some (.bool true)] : List (Option Value))[i]?).getD none

set_option maxRecDepth 100000 in
set_option maxHeartbeats 8000000 in
theorem same21_any {S : Nat → Bool} (hS : TabS S) (E : Nat → Addr) {w : World} (hE : Errs S E w) {F : Nat → Prop} {tb rb : Nat} {P D : List Pr} (h : TabAt w F tb P) (k : MTab w rb D) (hT : Pl.Tt P D) (hx : P.length ≤ 1000) :
    Calls Tryz.prog 12 #[.pointer (some ⟨tb, 0, none⟩), .pointer (some ⟨rb, 0, none⟩)] w fun e w' => e = .returned (.bool true) ∧ Grew w w' := by
  obtain ⟨a, cap, k0, k1⟩ := k
  obtain ⟨n, hn⟩ : ∃ n, n = P.length := ⟨_, rfl⟩
  have hlen := hT.len
  obtain ⟨R, hR⟩ : ∃ R : World → Prop, R = fun x => Grew w x := ⟨_, rfl⟩
  have HK := hid hT.key
  have HLN := hid (fun x (g : R x) => show Calls Tryz.prog 46 #[.pointer (some ⟨tb, 0, none⟩)] x fun e w' => e = .returned (.int .i64 (n : Nat)) ∧ Grew x w' from by
    rw [hR] at g
    refine (lenT_any (h.grew g)).mono ?_
    rintro e w' ⟨rfl, rfl⟩
    exact ⟨by rw [hn], Grew.refl _⟩)
  have HC0 := hid (fun x (g : R x) => show x.cell? ⟨rb, 0, none⟩ = some (.slice a n cap) from by rw [hR] at g; rw [hn, hlen]; exact (g.cells.1 _ _ (cell_lt k0)).trans k0)
  have H11 := hid (fun x (g : R x) => show Calls Tryz.prog 20 #[.pointer (some ⟨tb, 0, none⟩), .agg #[.string ⟨#[]⟩, .string ⟨#[]⟩], .int .i64 1000] x fun e w' => (∃ v, e = .returned v ∧ ∃ a c, v = .slice a P.length c ∧ PairsAt w' a P) ∧ Grew x w' from by
    rw [hR] at g
    refine (scanT_any hS E (hE.grew g) (h.grew g) (by omega) ⟨#[]⟩ ⟨#[]⟩ 1000 (by decide) (by decide)).mono ?_
    rintro e w' ⟨⟨v, rfl, hr⟩, hg⟩
    have hall : Pl.scanT P ⟨#[]⟩ ⟨#[]⟩ 1000 = P := by
      unfold Pl.scanT
      rw [scan_all hT.srt]
      exact List.take_of_length_le (by simpa using hx)
    rw [hall] at hr
    exact ⟨⟨v, rfl, pairsAt_of hr⟩, hg⟩)
  have H13 := hid (fun x (g : R x) => show Calls Tryz.prog 56 #[.pointer (some ⟨rb, 0, none⟩)] x fun e w' => (∃ v, e = .returned v ∧ ∃ a c, v = .slice a P.length c ∧ PairsAt w' a P) ∧ Grew x w' from by
    rw [hR] at g
    refine (sorted21_any (MTab.grew ⟨a, cap, k0, k1⟩ g) (by omega) HK.out hT.ap).mono ?_
    rintro e w' ⟨⟨v, zs, rfl, hp, hs, hr⟩, hg⟩
    obtain rfl := hT.sorted hp hs
    exact ⟨⟨v, rfl, pairsAt_of hr⟩, hg⟩)
  have HST : Hid (StT R R (xSame P)) := by
    refine ⟨fun x x' g h => ?_, fun x x' g h => ?_, fun i p hp x x' v g h => ?_⟩
    · rw [hR] at h ⊢; exact h.trans g
    · rw [hR] at h ⊢; exact h.trans g
    · unfold xSame at hp
      split at hp
      · cases hp
        obtain ⟨a, c, e, hP⟩ := h
        exact ⟨a, c, e, hP.grew g⟩
      · cases hp
  have HR0 : Hid (R w) := by unfold Hid; rw [hR]; exact Grew.refl w
  have HEND := hid (fun x (g : R x) => show Grew w x from by rw [hR] at g; exact g)
  clear hR hn hlen k0 k1 h hE HK
  go_enter Tryz.func12, Tryz.ntmps12
  go_wp2_with fail
  refine wp_region_mix 16 [0, 1, 2, 3, 4, 5, 6, 7, 8, 9, 10, 11, 12, 13, 14, 15] (fun _ => True) Eq (JT (vsSame tb rb n a cap) [] 8 R R (xSame P)) (fun f a => (((((((((((((((a.put (some 5) (f 0)).put (some 6) (f 1)).put (some 7) (f 2)).put (some 8) (f 3)).put (some 9) (f 4)).put (some 10) (f 5)).put (some 11) (f 6)).put (some 12) (f 7)).put (some 13) (f 8)).put (some 14) (f 9)).put (some 15) (f 10)).put (some 16) (f 11)).put (some 17) (f 12)).put (some 18) (f 13)).put (some 19) (f 14)).put (some 20) (f 15)) (by kernel_rfl) (by kernel_rfl) (fun _ _ => rfl) (JT.start (HST.out.r0 _ _ (Grew.refl w).drew HR0.out)) (fun _ _ _ _ => trivial) (fun _ => rfl) (fun _ _ _ _ h g => g ▸ h) ?_
  iterate 16 (refine wpMix_loose (by rfl) (by rfl) ?_)
  refine wpMix_done (by rfl) ⟨⟨loose_of2 rfl (fun _ a => a) (fun _ _ => rfl) ?_, loose_of2 rfl (fun f a => a.put (some 5) (f 0)) (fun _ _ => rfl) ?_, loose_of2 rfl (fun _ a => a) (fun _ _ => rfl) ?_, loose_of2 rfl (fun f a => a.put (some 7) (f 2)) (fun _ _ => rfl) ?_, loose_of2 rfl (fun f a => a.put (some 8) (f 3)) (fun _ _ => rfl) ?_, loose_of2 rfl (fun f a => a.put (some 9) (f 4)) (fun _ _ => rfl) ?_, loose_of2 rfl (fun f a => a.put (some 10) (f 5)) (fun _ _ => rfl) ?_, loose_of2 rfl (fun f a => (a.put (some 6) (f 1)).put (some 11) (f 6)) (fun _ _ => rfl) ?_, loose_of2 rfl (fun f a => (a.put (some 6) (f 1)).put (some 12) (f 7)) (fun _ _ => rfl) ?_, loose_of2 rfl (fun f a => a.put (some 13) (f 8)) (fun _ _ => rfl) ?_, loose_of2 rfl (fun f a => a.put (some 13) (f 8)) (fun _ _ => rfl) ?_, loose_of2 rfl (fun f a => ((a.put (some 13) (f 8)).put (some 14) (f 9)).put (some 15) (f 10)) (fun _ _ => rfl) ?_, loose_of2 rfl (fun f a => a.put (some 13) (f 8)) (fun _ _ => rfl) ?_, loose_of2 rfl (fun f a => ((a.put (some 13) (f 8)).put (some 16) (f 11)).put (some 17) (f 12)) (fun _ _ => rfl) ?_, loose_of2 rfl (fun f a => ((a.put (some 13) (f 8)).put (some 16) (f 11)).put (some 18) (f 13)) (fun _ _ => rfl) ?_, loose_of2 rfl (fun f a => (a.put (some 13) (f 8)).put (some 19) (f 14)) (fun _ _ => rfl) ?_, trivial⟩, ?_⟩
  · intro L f x hJ hL hd
    have hR := hJ.any
    have HR := hid hR
    have HJ := hid hJ
    have HL := hid hL
    clear hJ hL hd hR
    refine ⟨rfl, ?_⟩
    go_simp
    exact HJ.out.put 0 _ rfl (by decide) rfl (fun _ h => by cases h)
  · intro L f x hJ hL hd
    have l0 := hd 0 rfl (by decide)
    have q0 := hJ.val 0 _ l0 rfl
    have hR := hJ.any
    have HR := hid hR
    have HJ := hid hJ
    have HL := hid hL
    have HL0 := hid l0
    clear hJ hL hd hR l0
    rw [q0]
    refine ⟨rfl, ?_⟩
    go_simp
    refine (HLN.out x HR.out).mono ?_
    rintro r x' ⟨rfl, hg⟩
    exact ⟨_, rfl, (HJ.out.more HST.out hg).put 1 _ rfl (by decide) rfl (fun _ h => by cases h)⟩
  · intro L f x hJ hL hd
    have hR := hJ.any
    have HR := hid hR
    have HJ := hid hJ
    have HL := hid hL
    clear hJ hL hd hR
    refine ⟨rfl, ?_⟩
    go_simp
    exact HJ.out.put 2 _ rfl (by decide) rfl (fun _ h => by cases h)
  · intro L f x hJ hL hd
    have l2 := hd 2 rfl (by decide)
    have q2 := hJ.val 2 _ l2 rfl
    have hR := hJ.any
    have HR := hid hR
    have HJ := hid hJ
    have HL := hid hL
    have HL2 := hid l2
    clear hJ hL hd hR l2
    rw [q2]
    refine ⟨rfl, ?_⟩
    go_simp
    exact HJ.out.put 3 _ rfl (by decide) rfl (fun _ h => by cases h)
  · intro L f x hJ hL hd
    have l3 := hd 3 rfl (by decide)
    have q3 := hJ.val 3 _ l3 rfl
    have hR := hJ.any
    have HR := hid hR
    have HJ := hid hJ
    have HL := hid hL
    have HL3 := hid l3
    clear hJ hL hd hR l3
    rw [q3]
    refine ⟨rfl, ?_⟩
    go_simp
    exact HJ.out.put 4 _ rfl (by decide) rfl (fun _ h => by cases h)
  · intro L f x hJ hL hd
    have l4 := hd 4 rfl (by decide)
    have q4 := hJ.val 4 _ l4 rfl
    have hR := hJ.any
    have HR := hid hR
    have d5 := HC0.out x hR
    have hrb5 := cell_lt d5
    have HJ := hid hJ
    have HL := hid hL
    have HL4 := hid l4
    clear hJ hL hd hR l4
    rw [q4]
    refine ⟨rfl, ?_⟩
    go_simp
    exact HJ.out.put 5 _ rfl (by decide) rfl (fun _ h => by cases h)
  · intro L f x hJ hL hd
    have l5 := hd 5 rfl (by decide)
    have q5 := hJ.val 5 _ l5 rfl
    have hR := hJ.any
    have HR := hid hR
    have HJ := hid hJ
    have HL := hid hL
    have HL5 := hid l5
    clear hJ hL hd hR l5
    rw [q5]
    refine ⟨rfl, ?_⟩
    go_simp
    exact HJ.out.put 6 _ rfl (by decide) rfl (fun _ h => by cases h)
  · intro L f x hJ hL hd
    have l1 := hd 1 rfl (by decide)
    have l6 := hd 6 rfl (by decide)
    have q1 := hJ.val 1 _ l1 rfl
    have q6 := hJ.val 6 _ l6 rfl
    have hR := hJ.any
    have HR := hid hR
    have HJ := hid hJ
    have HL := hid hL
    have HL1 := hid l1
    have HL6 := hid l6
    clear hJ hL hd hR l1 l6
    rw [q1, q6]
    refine ⟨rfl, ?_⟩
    go_simp
    exact HJ.out.put 7 _ rfl (by decide) rfl (fun _ h => by cases h)
  · intro L f x hJ hL hd
    have l1 := hd 1 rfl (by decide)
    have l7 := hd 7 rfl (by decide)
    have q1 := hJ.val 1 _ l1 rfl
    have q7 := hJ.val 7 _ l7 rfl
    have hR := hJ.any
    have HR := hid hR
    have HJ := hid hJ
    have HL := hid hL
    have HL1 := hid l1
    have HL7 := hid l7
    clear hJ hL hd hR l1 l7
    rw [q1, q7]
    refine ⟨rfl, ?_⟩
    go_simp
    exact HJ.out.switch _ rfl rfl HL.out HR.out (fun _ h => by cases h)
  · intro L f x hJ hL hd
    have l8 := hd 8 rfl (by decide)
    have q8 := hJ.val 8 _ l8 rfl
    have hR := hJ.any
    have HR := hid hR
    have HJ := hid hJ
    have HL := hid hL
    have HL8 := hid l8
    clear hJ hL hd hR l8
    rw [q8]
    refine ⟨rfl, ?_⟩
    go_simp
    exact HJ.out.put 9 _ rfl (by decide) rfl (fun _ h => by cases h)
  · intro L f x hJ hL hd
    have l8 := hd 8 rfl (by decide)
    have q8 := hJ.val 8 _ l8 rfl
    have hR := hJ.any
    have HR := hid hR
    have HJ := hid hJ
    have HL := hid hL
    have HL8 := hid l8
    clear hJ hL hd hR l8
    rw [q8]
    refine ⟨rfl, ?_⟩
    go_simp
    exact HJ.out.put 10 _ rfl (by decide) rfl (fun _ h => by cases h)
  · intro L f x hJ hL hd
    have l8 := hd 8 rfl (by decide)
    have l9 := hd 9 rfl (by decide)
    have l10 := hd 10 rfl (by decide)
    have q8 := hJ.val 8 _ l8 rfl
    have q9 := hJ.val 9 _ l9 rfl
    have q10 := hJ.val 10 _ l10 rfl
    have hR := hJ.any
    have HR := hid hR
    have HJ := hid hJ
    have HL := hid hL
    have HL8 := hid l8
    have HL9 := hid l9
    have HL10 := hid l10
    clear hJ hL hd hR l8 l9 l10
    rw [q8, q9, q10]
    refine ⟨rfl, ?_⟩
    go_simp
    refine (H11.out x HR.out).mono ?_
    rintro r x' ⟨⟨v, rfl, hp⟩, hg⟩
    exact ⟨_, rfl, (HJ.out.more HST.out hg).putX 11 _ _ rfl rfl (by decide) HL8.out hp (fun _ h => by cases h)⟩
  · intro L f x hJ hL hd
    have l8 := hd 8 rfl (by decide)
    have q8 := hJ.val 8 _ l8 rfl
    have hR := hJ.any
    have HR := hid hR
    have HJ := hid hJ
    have HL := hid hL
    have HL8 := hid l8
    clear hJ hL hd hR l8
    rw [q8]
    refine ⟨rfl, ?_⟩
    go_simp
    exact HJ.out.put 12 _ rfl (by decide) rfl (fun _ h => by cases h)
  · intro L f x hJ hL hd
    have l8 := hd 8 rfl (by decide)
    have l11 := hd 11 rfl (by decide)
    have l12 := hd 12 rfl (by decide)
    have q8 := hJ.val 8 _ l8 rfl
    have q12 := hJ.val 12 _ l12 rfl
    obtain ⟨a11, c11, e11, P11⟩ := hJ.ex 11 _ rfl l11
    have HP11 := hid P11
    have hR := hJ.any
    have HR := hid hR
    have HJ := hid hJ
    have HL := hid hL
    have HL8 := hid l8
    have HL11 := hid l11
    have HL12 := hid l12
    clear hJ hL hd hR P11 l8 l11 l12
    rw [q8, q12, e11]
    refine ⟨rfl, ?_⟩
    go_simp
    refine (H13.out x HR.out).mono ?_
    rintro r x' ⟨⟨v, rfl, hp⟩, hg⟩
    exact ⟨_, rfl, (HJ.out.more HST.out hg).putX 13 _ _ rfl rfl (by decide) HL8.out hp (fun _ h => by cases h)⟩
  · intro L f x hJ hL hd
    have l8 := hd 8 rfl (by decide)
    have l11 := hd 11 rfl (by decide)
    have l13 := hd 13 rfl (by decide)
    have q8 := hJ.val 8 _ l8 rfl
    obtain ⟨a11, c11, e11, P11⟩ := hJ.ex 11 _ rfl l11
    have HP11 := hid P11
    obtain ⟨a13, c13, e13, P13⟩ := hJ.ex 13 _ rfl l13
    have HP13 := hid P13
    have hR := hJ.any
    have HR := hid hR
    have HJ := hid hJ
    have HL := hid hL
    have HL8 := hid l8
    have HL11 := hid l11
    have HL13 := hid l13
    clear hJ hL hd hR P11 P13 l8 l11 l13
    rw [q8, e11, e13]
    refine ⟨rfl, ?_⟩
    go_simp
    refine (samePairs_same _ _ _ _ _ P HP11.out HP13.out (by omega)).mono ?_
    rintro r x' ⟨rfl, hg⟩
    exact ⟨_, rfl, (HJ.out.more HST.out hg).put 14 _ rfl (by decide) rfl (fun _ h => by cases h)⟩
  · intro L f x hJ hL hd
    have l8 := hd 8 rfl (by decide)
    have l14 := hd 14 rfl (by decide)
    have q8 := hJ.val 8 _ l8 rfl
    have q14 := hJ.val 14 _ l14 rfl
    have hR := hJ.any
    have HR := hid hR
    have HJ := hid hJ
    have HL := hid hL
    have HL8 := hid l8
    have HL14 := hid l14
    clear hJ hL hd hR l8 l14
    rw [q8, q14]
    refine ⟨rfl, ?_⟩
    go_simp
    exact HJ.out.put 15 _ rfl (by decide) rfl (fun _ h => by cases h)
  intro f x hJ
  have q15 := hJ.val 15 _ rfl rfl
  have HF := hid (HEND.out x hJ.any)
  clear hJ
  dsimp only [List.drop]
  simp only [Act.put, List.setIfInBounds_toArray, List.set_cons_succ, List.set_cons_zero]
  rw [q15]
  clear q15
  go_wp2_with fail
  go_ret
  exact ⟨rfl, HF.out⟩
end Go.Proofs.YtifcnammekbfoaaGreatDoor

/- The two tables of tidewaterlaw21 in memory: apart, made since w0; B = blocks that stay as they are. No walk in it. -/
set_option linter.unusedVariables false
namespace Go.Proofs.YtifcnammekbfoaaGreatDoor
open Go.RowKit Go.Maps

structure M21 (w0 w : World) (tb rb : Nat) (P D : List Pr) (B : Nat → Obj → Prop) : Prop where
  grew : Grew w0 w
  keep : ∀ j o, B j o → w.heap[j]? = some o
  ex : ∃ F G, TabAt w F tb P ∧ RtAt w G rb D ∧ (∀ j, F j → w0.heap.size ≤ j ∧ ¬ G j ∧ ∀ o, ¬ B j o) ∧ (∀ j, G j → w0.heap.size ≤ j ∧ ∀ o, ¬ B j o)
section
variable {w0 w w' : World} {tb rb : Nat} {P D : List Pr} {B : Nat → Obj → Prop}
theorem M21.lt (h : M21 w0 w tb rb P D B) {j : Nat} {o : Obj} (hb : B j o) : j < w.heap.size := (Array.getElem?_eq_some_iff.1 (h.keep j o hb)).1
theorem M21.more (h : M21 w0 w tb rb P D B) (g : Grew w w') : M21 w0 w' tb rb P D B := by
  obtain ⟨hg, hk, F, G, h1, h2, h3, h4⟩ := h
  exact ⟨hg.trans g, fun j o hb => (g.below.block j (Array.getElem?_eq_some_iff.1 (hk j o hb)).1).trans (hk j o hb), F, G, h1.grew g, h2.grew g, h3, h4⟩
theorem M21.less {B' : Nat → Obj → Prop} (h : M21 w0 w tb rb P D B) (hB : ∀ j o, B' j o → B j o) : M21 w0 w tb rb P D B' := by
  obtain ⟨hg, hk, F, G, h1, h2, h3, h4⟩ := h
  exact ⟨hg, fun j o hb => hk j o (hB j o hb), F, G, h1, h2, fun j hj => ⟨(h3 j hj).1, (h3 j hj).2.1, fun o hb => (h3 j hj).2.2 o (hB j o hb)⟩, fun j hj => ⟨(h4 j hj).1, fun o hb => (h4 j hj).2 o (hB j o hb)⟩⟩
/-- A block that is made since is one more that stays. -/
theorem M21.box (h : M21 w0 w tb rb P D B) (g : Grew w w') {b : Nat} {q : Obj} (hb : w.heap.size ≤ b) (hq : w'.heap[b]? = some q) : M21 w0 w' tb rb P D (fun j o => B j o ∨ (j = b ∧ o = q)) := by
  have hm := h.more g
  obtain ⟨_, hk, F, G, h1, h2, h3, h4⟩ := h
  have f1 := fun j hj => tabAt_lt h1 j hj
  have f2 := fun j hj => h2.lt j hj
  refine ⟨hm.grew, fun j o hb' => ?_, F, G, h1.grew g, h2.grew g, fun j hj => ⟨(h3 j hj).1, (h3 j hj).2.1, fun o hb' => ?_⟩, fun j hj => ⟨(h4 j hj).1, fun o hb' => ?_⟩⟩
  · rcases hb' with hb' | ⟨rfl, rfl⟩
    · exact hm.keep j o hb'
    · exact hq
  · rcases hb' with hb' | ⟨rfl, rfl⟩
    · exact (h3 j hj).2.2 o hb'
    · have := f1 j hj; omega
  · rcases hb' with hb' | ⟨rfl, rfl⟩
    · exact (h4 j hj).2 o hb'
    · have := f2 j hj; omega
theorem M21.tab (h : M21 w0 w tb rb P D B) : ∃ F, TabAt w F tb P ∧ ∀ w' P', TabTurn w F tb P' w' → M21 w0 w' tb rb P' D B := by
  have hlt := fun {j : Nat} {o : Obj} (hb : B j o) => h.lt hb
  obtain ⟨hg, hk, F, G, h1, h2, h3, h4⟩ := h
  refine ⟨F, h1, fun w' P' hT => ?_⟩
  obtain ⟨hO, F', h5, h6⟩ := hT
  have hs := hg.size
  refine ⟨((hg.only _).then hO).grew fun j hj => (h3 j hj).1, fun j o hb => (hO.block j (hlt hb) fun hF => (h3 j hF).2.2 o hb).trans (hk j o hb), F', G, h5, h2.kept hO fun j hj hF => (h3 j hF).2.1 hj, fun j hj => ?_, h4⟩
  rcases h6 j hj with h | h
  · exact h3 j h
  · exact ⟨Nat.le_trans hs h, fun hG => by have := h2.lt j hG; omega, fun o hb => by have := hlt hb; omega⟩
theorem M21.rt (h : M21 w0 w tb rb P D B) : ∃ G, RtAt w G rb D ∧ ∀ w' D', RtTurn w G rb D' w' → M21 w0 w' tb rb P D' B := by
  have hlt := fun {j : Nat} {o : Obj} (hb : B j o) => h.lt hb
  obtain ⟨hg, hk, F, G, h1, h2, h3, h4⟩ := h
  refine ⟨G, h2, fun w' D' hT => ?_⟩
  obtain ⟨hO, G', h5, h6⟩ := hT
  have hs := hg.size
  refine ⟨((hg.only _).then hO).grew fun j hj => (h4 j hj).1, fun j o hb => (hO.block j (hlt hb) fun hG => (h4 j hG).2 o hb).trans (hk j o hb), F, G', h1.kept hO fun j hj hG => (h3 j hj).2.1 hG, h5, fun j hj => ⟨(h3 j hj).1, fun hG => ?_, (h3 j hj).2.2⟩, fun j hj => ?_⟩
  · rcases h6 j hG with h | h
    · exact (h3 j hj).2.1 h
    · have := tabAt_lt h1 j hj; omega
  · rcases h6 j hj with h | h
    · exact h4 j h
    · exact ⟨Nat.le_trans hs h, fun o hb => by have := hlt hb; omega⟩
theorem M21.read (h : M21 w0 w tb rb P D B) : MTab w rb D := by
  obtain ⟨_, _, F, G, h1, h2, _⟩ := h
  exact h2.read
end
end Go.Proofs.YtifcnammekbfoaaGreatDoor

/- tidewaternum.Num at any number; the numbers of a key. -/
set_option linter.unusedVariables false
set_option linter.unusedSimpArgs false
namespace Go.Proofs.YtifcnammekbfoaaGreatDoor
open Go.RowKit
theorem num_all (E : Nat → Addr) (k : Nat) (hk : k ≤ 19) (w : World) (hE : Errs allS E w) :
    Calls Tryz.prog 38 #[errOf E k] w fun e w' => e = .returned (.int .i64 (k : Nat)) ∧ Grew w w' := by
  by_cases h0 : k = 0
  · subst h0
    exact (num_nil w).mono fun e w' ⟨he, hw⟩ => ⟨he, by rw [← hw]; exact Grew.refl _⟩
  · rw [errOf_pos E k h0]
    exact num_err E k (by omega) hk w hE
theorem keyN_vals (s : ByteArray) : Pl.keyN s = 0 ∨ Pl.keyN s = 2 ∨ Pl.keyN s = 3 ∨ Pl.keyN s = 6 ∨ Pl.keyN s = 7 := by
  unfold Pl.keyN
  split
  · omega
  · unfold Pl.keyL
    repeat' split
    all_goals omega

end Go.Proofs.YtifcnammekbfoaaGreatDoor
