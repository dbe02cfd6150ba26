/- The walk of tidewaterlaw21.alive. -/
import Derived.Test.YtajoihpjnnnkeaaDoorTab4
import Derived.Test.YtajoihpjnnnkeaaDoorActs21
namespace Go.Proofs.YtajoihpjnnnkeaaDoor
open Go.RowKit Go.Maps
attribute [local go_sem] Oper.semAt_some

abbrev aTxt : ByteArray := ⟨#[97]⟩
abbrev xTxt : ByteArray := ⟨#[120]⟩
abbrev alivePr : Pr := ⟨aTxt, xTxt, 1⟩
namespace Pl
theorem keyN_aT : keyN aTxt = 0 := by decide +kernel
theorem put_alive21 : putN alivePr = 0 := by
  unfold putN
  rw [if_neg (by rw [show alivePr.key = aTxt from rfl, keyN_aT]; simp), if_neg (by decide), if_neg (by decide)]
theorem putT_alive21 : putT [] alivePr = [alivePr] := by
  unfold putT; rw [if_pos put_alive21]; rfl
theorem getT_alive21 : getT [alivePr] aTxt = some alivePr := by
  have h : Srt [alivePr] := ⟨by intro c hc; rw [List.mem_singleton.1 hc]; exact keyN_aT, by simp⟩
  exact getT_mem h (c := alivePr) (by simp)
end Pl

theorem scan_alive {S : Nat → Bool} (hS : TabS S) (E : Nat → Addr) {w : World} (hE : Errs S E w) {F : Nat → Prop} {tb : Nat} (h : TabAt w F tb []) :
    Calls Tryd.prog 26 #[.pointer (some ⟨tb, 0, none⟩), .agg #[.string ⟨#[]⟩, .string ⟨#[]⟩], .int .i64 5] w fun e w' => (∃ a cap, e = .returned (.slice a 0 cap)) ∧ Grew w w' := by
  refine (scanT_any hS E hE h (by decide) ⟨#[]⟩ ⟨#[]⟩ 5 (by decide) (by decide)).mono ?_
  rintro e w' ⟨⟨v, rfl, hrow⟩, hg⟩
  obtain ⟨a, cap, rfl, _⟩ := pairsAt_of hrow
  exact ⟨⟨a, cap, rfl⟩, hg⟩
theorem put_alive21 {S : Nat → Bool} (hS : TabS S) (E : Nat → Addr) {w : World} (hE : Errs S E w) {F : Nat → Prop} {tb : Nat} (h : TabAt w F tb []) :
    Calls Tryd.prog 25 #[.pointer (some ⟨tb, 0, none⟩), .string aTxt, .string xTxt, .int .i64 1] w fun e w' => e = .returned .nilIface ∧ TabTurn w F tb [alivePr] w' := by
  refine (putT_any hS E hE h (by decide) aTxt xTxt 1 (by decide) (by decide)).mono ?_
  rintro e w' ⟨rfl, hT⟩
  rw [show (⟨aTxt, xTxt, 1⟩ : Pr) = alivePr from rfl, Pl.put_alive21]
  rw [show (⟨aTxt, xTxt, 1⟩ : Pr) = alivePr from rfl, Pl.putT_alive21] at hT
  exact ⟨rfl, hT⟩
theorem get_alive21 {S : Nat → Bool} (hS : TabS S) (E : Nat → Addr) {w : World} (hE : Errs S E w) {F : Nat → Prop} {tb : Nat} (h : TabAt w F tb [alivePr]) :
    Calls Tryd.prog 27 #[.pointer (some ⟨tb, 0, none⟩), .string aTxt] w fun e w' => e = .returned (.tuple #[.agg #[.string aTxt, .string xTxt, .int .i64 1], .bool true]) ∧ Grew w w' := by
  refine (getTab_any hS E hE h (by decide) aTxt (by decide)).mono ?_
  rw [Pl.getT_alive21]
  exact fun e w' h => h

set_option maxRecDepth 100000 in
set_option maxHeartbeats 2000000 in
theorem alive21 {S : Nat → Bool} (hS : TabS S) (E : Nat → Addr) (w : World) (hE : Errs S E w) :
    Calls Tryd.prog 22 #[] w fun e w' => e = .returned (.bool true) ∧ Grew w w' := by
  have HE := hid hE
  clear hE
  go_enter Tryd.func22, Tryd.ntmps22
  go_wp2_with fail
  refine (newT_any _).mono ?_
  rintro e w1 ⟨rfl, hg1, hT⟩
  have HT := hid hT
  clear hT
  go_wp2_with fail
  refine (scan_alive hS E (HE.out.grew hg1) HT.out).mono ?_
  rintro e w2 ⟨⟨a, cap, rfl⟩, hg2⟩
  have hG2 := hg1.trans hg2
  have HT2 := hid (HT.out.grew hg2)
  go_wp2_with fail
  refine (put_alive21 hS E (HE.out.grew hG2) HT2.out).mono ?_
  rintro e w3 ⟨rfl, hT3⟩
  obtain ⟨hG3, F3, hP3, hF3⟩ := hT3.grew (fun j hj => by subst hj; exact Nat.le_refl _) hG2
  have HT3 := hid hP3
  clear hT3 hP3 hF3
  go_wp2_with fail
  refine (get_alive21 hS E (HE.out.grew hG3) HT3.out).mono ?_
  rintro e w4 ⟨rfl, hg4⟩
  have hG4 := hG3.trans hg4
  have HT4 := hid ((HT3.out.grew hg4).grew ((Grew.refl _).alloc (.cells #[.string aTxt, .string xTxt, .int .i64 1] 64)))
  go_wp2_with fail
  refine (lenT_any HT4.out).mono ?_
  rintro e w5 ⟨rfl, rfl⟩
  go_wp2_with fail
  go_ret
  exact ⟨rfl, hG4.alloc _⟩
end Go.Proofs.YtajoihpjnnnkeaaDoor
