/- The walk of tidewaterlaw38.alive. -/
import Derived.Test.YtapchoppcaacdaaGreatDoorPast6
import Derived.Test.YtapchoppcaacdaaGreatDoorActs38
namespace Go.Proofs.YtapchoppcaacdaaGreatDoor
open Go.RowKit Go.Maps Go.Sort

abbrev aText : ByteArray := ⟨#[97]⟩
abbrev xText : ByteArray := ⟨#[120]⟩
abbrev aliveCh : Ch := ⟨aText, xText, 3, true⟩
namespace Pl
abbrev noK : ByteArray → List Ch := fun _ => []
theorem keyN_a : keyN aText = 0 := by decide +kernel
theorem note_alive : noteE noK 0 aliveCh = 0 := by
  unfold noteE
  rw [if_neg (by rw [show aliveCh.key = aText from rfl, keyN_a]; simp), if_neg (by decide), if_neg (by decide), if_neg (by decide)]
theorem noteK_alive : noteK noK 0 aliveCh aText = [aliveCh] := by
  unfold noteK; rw [if_pos note_alive, addK_same noK aliveCh]; rfl
theorem get_alive2 : getE aText 0 2 = 0 ∧ getC (noteK noK 0 aliveCh) aText 0 2 = none := by
  have h : getE aText 0 2 = 0 := by unfold getE; rw [keyN_a]; decide
  refine ⟨h, ?_⟩
  unfold getC look
  rw [if_pos h, noteK_alive]
  decide
theorem get_alive3 : getE aText 0 3 = 0 ∧ getC (noteK noK 0 aliveCh) aText 0 3 = some aliveCh := by
  have h : getE aText 0 3 = 0 := by unfold getE; rw [keyN_a]; decide
  refine ⟨h, ?_⟩
  unfold getC look
  rw [if_pos h, noteK_alive]
  rfl
end Pl
theorem noteS_all : NoteS allS := ⟨rfl, rfl, rfl, rfl, rfl, rfl⟩

theorem getP_any (E : Nat → Addr) {w : World} (hE : Errs allS E w) {F : Nat → Prop} {pb n : Nat} {K : ByteArray → List Ch} {fl : Int} (h : PastAt w F pb n K fl) (hn : n ≤ 1000000) (key : ByteArray) (hk2 : key.size ≤ 140737488351232) (v : Int) :
    Calls Tryz.prog 32 #[.pointer (some ⟨pb, 0, none⟩), .string key, .int .i64 v] w fun e w' => e = .returned (.tuple #[((Pl.getC K key fl v).getD Ch.none).pair, .bool (Pl.getC K key fl v).isSome, errOf E (Pl.getE key fl v)]) ∧ Grew w w' := by
  obtain ⟨⟨mb, f, h⟩, hF⟩ := h
  exact get_any allS E rfl rfl rfl rfl rfl hE h hn key (by unfold maxLen; omega) hk2 v

theorem put_alive (E : Nat → Addr) {w : World} (hE : Errs allS E w) {F : Nat → Prop} {pb : Nat} (h : PastAt w F pb 0 Pl.noK 0) :
    Calls Tryz.prog 31 #[.pointer (some ⟨pb, 0, none⟩), .string aText, .string xText, .int .i64 3] w fun e w' => e = .returned .nilIface ∧ PastTurn w F pb 1 (Pl.noteK Pl.noK 0 aliveCh) 0 w' := by
  refine (put_any allS E noteS_all hE h (by decide) aText xText 3 (by decide) (by decide)).mono ?_
  rintro e w' ⟨rfl, hT⟩
  rw [show (⟨aText, xText, 3, true⟩ : Ch) = aliveCh from rfl, Pl.note_alive]
  exact ⟨rfl, hT⟩
theorem get_alive2 (E : Nat → Addr) {w : World} (hE : Errs allS E w) {F : Nat → Prop} {pb : Nat} (h : PastAt w F pb 1 (Pl.noteK Pl.noK 0 aliveCh) 0) :
    Calls Tryz.prog 32 #[.pointer (some ⟨pb, 0, none⟩), .string aText, .int .i64 2] w fun e w' => e = .returned (.tuple #[.agg #[.string ⟨#[]⟩, .string ⟨#[]⟩, .int .i64 0], .bool false, .nilIface]) ∧ Grew w w' := by
  refine (getP_any E hE h (by decide) aText (by decide) 2).mono ?_
  rw [Pl.get_alive2.1, Pl.get_alive2.2]
  exact fun e w' h => h
theorem get_alive3 (E : Nat → Addr) {w : World} (hE : Errs allS E w) {F : Nat → Prop} {pb : Nat} (h : PastAt w F pb 1 (Pl.noteK Pl.noK 0 aliveCh) 0) :
    Calls Tryz.prog 32 #[.pointer (some ⟨pb, 0, none⟩), .string aText, .int .i64 3] w fun e w' => e = .returned (.tuple #[.agg #[.string aText, .string xText, .int .i64 3], .bool true, .nilIface]) ∧ Grew w w' := by
  refine (getP_any E hE h (by decide) aText (by decide) 3).mono ?_
  rw [Pl.get_alive3.1, Pl.get_alive3.2]
  exact fun e w' h => h

theorem newP_any (w : World) : Calls Tryz.prog 8 #[] w fun e w' => ∃ pb, e = .returned (.pointer (some ⟨pb, 0, none⟩)) ∧ w.heap.size ≤ pb ∧ Grew w w' ∧ ∃ F, PastAt w' F pb 0 Pl.noK 0 ∧ ∀ j, F j → w.heap.size ≤ j := by
  refine (new_past w).mono ?_
  rintro e w' ⟨rfl, hg, hp⟩
  refine ⟨_, rfl, Nat.le_succ _, hg, fun j => w.heap.size ≤ j ∧ j < w'.heap.size, ⟨⟨w.heap.size, fun _ => none, ?_⟩, fun j hj => hj.2⟩, fun j hj => hj.1⟩
  exact ⟨hp.map0, hp.flr, hp.fz, hp.lm, ⟨Nat.le_succ _, cell_lt hp.map0⟩, ⟨Nat.le_refl _, hp.lm.lt⟩, hp.row, hp.pres, hp.len, hp.ne, (fun s v g h => by cases h), hp.apart⟩

theorem PastTurn.grew {w0 w w' : World} {F : Nat → Prop} {pb n : Nat} {K : ByteArray → List Ch} {fl : Int} (h : PastTurn w F pb n K fl w') (hF : ∀ j, F j → w0.heap.size ≤ j) (g : Grew w0 w) : Grew w0 w' ∧ ∃ F', PastAt w' F' pb n K fl ∧ ∀ j, F' j → w0.heap.size ≤ j := by
  obtain ⟨h1, F', h2, h3⟩ := h
  refine ⟨((g.only F).then h1).grew hF, F', h2, fun j hj => ?_⟩
  rcases h3 j hj with h | h
  · exact hF j h
  · have := g.size; omega

set_option maxRecDepth 100000 in
set_option maxHeartbeats 2000000 in
theorem alive38 (E : Nat → Addr) (w : World) (hE : Errs allS E w) :
    Calls Tryz.prog 6 #[] w fun e w' => e = .returned (.bool true) ∧ Grew w w' := by
  have HE := hid hE
  clear hE
  go_enter Tryz.func6, Tryz.ntmps6
  go_wp2_with fail
  refine (newP_any _).mono ?_
  rintro e w1 ⟨pb, rfl, hpb, hg1, F, hP, hF⟩
  have HP := hid hP
  have HF := hid hF
  clear hP hF
  go_wp2_with fail
  refine (put_alive E (HE.out.grew hg1) HP.out).mono ?_
  rintro e w2 ⟨rfl, hT⟩
  obtain ⟨hg2, F2, hP2, hF2⟩ := hT.grew HF.out hg1
  have HP2 := hid hP2
  clear hP2 hT hF2 hg1 hpb
  go_wp2_with fail
  refine (get_alive2 E (HE.out.grew hg2) HP2.out).mono ?_
  rintro e w3 ⟨rfl, hg3⟩
  have hG3 := hg2.trans hg3
  have HP3 := hid ((HP2.out.grew hg3).grew ((Grew.refl _).alloc (.cells #[.string ⟨#[]⟩, .string ⟨#[]⟩, .int .i64 0] 82)))
  go_wp2_with fail
  refine (get_alive3 E (HE.out.grew (hG3.alloc _)) HP3.out).mono ?_
  rintro e w4 ⟨rfl, hg4⟩
  have hG4 := (hG3.alloc _).trans hg4
  go_wp2_with fail
  go_ret
  exact ⟨rfl, hG4.alloc _⟩
end Go.Proofs.YtapchoppcaacdaaGreatDoor
