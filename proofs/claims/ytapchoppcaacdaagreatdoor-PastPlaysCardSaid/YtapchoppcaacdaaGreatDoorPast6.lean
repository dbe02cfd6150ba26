/- The walks of past.note (all ways), Put, Del, History. -/
import Derived.Test.YtapchoppcaacdaaGreatDoorPast5
namespace Go.Proofs.YtapchoppcaacdaaGreatDoor
open Go.RowKit Go.Maps Go.Sort
attribute [local go_sem] Oper.semAt_some

namespace Pl
/-- What is kept behind a note. -/
noncomputable def noteK (K : ByteArray → List Ch) (fl : Int) (c : Ch) : ByteArray → List Ch := if noteE K fl c = 0 then addK K c else K
end Pl

theorem PastIs.mono {w : World} {F : Nat → Prop} {pb mb n m : Nat} {f : Lit → Option Value} {K : ByteArray → List Ch} {fl : Int} (h : PastIs w F pb mb f n K fl) (hm : n ≤ m) : PastIs w F pb mb f m K fl :=
  ⟨h.map0, h.flr, h.fz, h.lm.mono hm, h.foot0, h.foot1, h.row, h.pres, fun s => Nat.le_trans (h.len s) hm, h.ne, h.foot, h.apart⟩

/-- A past that owns blocks of this world alone. -/
def PastAt (w : World) (F : Nat → Prop) (pb n : Nat) (K : ByteArray → List Ch) (fl : Int) : Prop := (∃ mb f, PastIs w F pb mb f n K fl) ∧ ∀ j, F j → j < w.heap.size
/-- What a call does that writes into a past alone. -/
def PastTurn (w : World) (F : Nat → Prop) (pb n : Nat) (K : ByteArray → List Ch) (fl : Int) (w' : World) : Prop :=
  Only F w w' ∧ ∃ F', PastAt w' F' pb n K fl ∧ ∀ j, F' j → F j ∨ w.heap.size ≤ j
theorem PastAt.mono {w : World} {F : Nat → Prop} {pb n m : Nat} {K : ByteArray → List Ch} {fl : Int} (h : PastAt w F pb n K fl) (hm : n ≤ m) : PastAt w F pb m K fl := by
  obtain ⟨⟨mb, f, h⟩, hF⟩ := h; exact ⟨⟨mb, f, h.mono hm⟩, hF⟩
theorem PastAt.kept {w w' : World} {F S : Nat → Prop} {pb n : Nat} {K : ByteArray → List Ch} {fl : Int} (h : PastAt w F pb n K fl) (g : Only S w w') (hS : ∀ j, F j → ¬ S j) : PastAt w' F pb n K fl := by
  obtain ⟨⟨mb, f, h⟩, hF⟩ := h; exact ⟨⟨mb, f, h.kept g hS⟩, fun j hj => Nat.lt_of_lt_of_le (hF j hj) g.size⟩
theorem PastAt.grew {w w' : World} {F : Nat → Prop} {pb n : Nat} {K : ByteArray → List Ch} {fl : Int} (h : PastAt w F pb n K fl) (g : Grew w w') : PastAt w' F pb n K fl := h.kept (g.only fun _ => False) (fun _ _ h => h)

theorem note_any (S : Nat → Bool) (E : Nat → Addr) (hS : NoteS S) {w : World} (hE : Errs S E w) {F : Nat → Prop} {pb n : Nat} {K : ByteArray → List Ch} {fl : Int} (h : PastAt w F pb n K fl) (hn : n ≤ 1000000) (c : Ch) (hk2 : c.key.size ≤ 140737488351232) (hv : c.val.size ≤ 140737488351232) :
    Calls Tryz.prog 79 #[.pointer (some ⟨pb, 0, none⟩), c.agg] w fun e w' => e = .returned (errOf E (Pl.noteE K fl c)) ∧ PastTurn w F pb (n + 1) (Pl.noteK K fl c) fl w' := by
  obtain ⟨⟨mb, f, h⟩, hF⟩ := h
  have hk : c.key.size ≤ maxLen := by unfold maxLen; omega
  unfold Pl.noteK
  by_cases he : Pl.noteE K fl c = 0
  · rw [if_pos he, he]
    refine (note_ok S E hS hE h hF hn c hk hk2 hv he).mono ?_
    rintro e w' ⟨rfl, ho, F', f', hp, hF'⟩
    refine ⟨rfl, ho, F', ⟨⟨mb, f', hp⟩, ?_⟩, ?_⟩
    · intro j hj
      rcases hF' j hj with h1 | h1
      · exact Nat.lt_of_lt_of_le (hF j h1) ho.size
      · exact h1.2
    · intro j hj
      rcases hF' j hj with h1 | h1
      · exact .inl h1
      · exact .inr h1.1
  · rw [if_neg he]
    refine (note_err S E hS hE h hn c hk hk2 hv he).mono ?_
    rintro e w' ⟨rfl, hg⟩
    exact ⟨rfl, hg.only F, F, ⟨⟨mb, f, (h.grew hg).mono (Nat.le_succ n)⟩, fun j hj => Nat.lt_of_lt_of_le (hF j hj) hg.size⟩, fun j hj => .inl hj⟩

theorem put_any (S : Nat → Bool) (E : Nat → Addr) (hS : NoteS S) {w : World} (hE : Errs S E w) {F : Nat → Prop} {pb n : Nat} {K : ByteArray → List Ch} {fl : Int} (h : PastAt w F pb n K fl) (hn : n ≤ 1000000) (key val : ByteArray) (v : Int) (hk2 : key.size ≤ 140737488351232) (hv : val.size ≤ 140737488351232) :
    Calls Tryz.prog 31 #[.pointer (some ⟨pb, 0, none⟩), .string key, .string val, .int .i64 v] w fun e w' => e = .returned (errOf E (Pl.noteE K fl ⟨key, val, v, true⟩)) ∧ PastTurn w F pb (n + 1) (Pl.noteK K fl ⟨key, val, v, true⟩) fl w' := by
  have HN := hid (note_any S E hS hE h hn ⟨key, val, v, true⟩ hk2 hv)
  clear h hE
  go_enter Tryz.func31, Tryz.ntmps31
  go_wp2_with fail
  refine HN.out.mono ?_
  rintro e w' ⟨rfl, hT⟩
  have HT := hid hT
  clear hT
  go_wp2_with fail
  go_ret
  exact ⟨rfl, HT.out⟩
theorem del_any (S : Nat → Bool) (E : Nat → Addr) (hS : NoteS S) {w : World} (hE : Errs S E w) {F : Nat → Prop} {pb n : Nat} {K : ByteArray → List Ch} {fl : Int} (h : PastAt w F pb n K fl) (hn : n ≤ 1000000) (key : ByteArray) (v : Int) (hk2 : key.size ≤ 140737488351232) :
    Calls Tryz.prog 35 #[.pointer (some ⟨pb, 0, none⟩), .string key, .int .i64 v] w fun e w' => e = .returned (errOf E (Pl.noteE K fl ⟨key, ⟨#[]⟩, v, false⟩)) ∧ PastTurn w F pb (n + 1) (Pl.noteK K fl ⟨key, ⟨#[]⟩, v, false⟩) fl w' := by
  have HN := hid (note_any S E hS hE h hn ⟨key, ⟨#[]⟩, v, false⟩ hk2 (Nat.zero_le _))
  clear h hE
  go_enter Tryz.func35, Tryz.ntmps35
  go_wp2_with fail
  refine HN.out.mono ?_
  rintro e w' ⟨rfl, hT⟩
  have HT := hid hT
  clear hT
  go_wp2_with fail
  go_ret
  exact ⟨rfl, HT.out⟩

def Ch.pvals (c : Ch) : List Value := [.string c.key, .string c.val, .int .i64 c.ver]
def pFlat (xs : List Ch) : List Value := xs.flatMap Ch.pvals
theorem pFlat_snoc (xs : List Ch) (c : Ch) : pFlat (xs ++ [c]) = pFlat xs ++ c.pvals := by unfold pFlat; rw [List.flatMap_append]; simp
theorem info_pair : (Tryz.prog.info? 82).map (fun i => (i.zero, i.size, i.bytes)) = some (some (.agg #[.string ⟨#[]⟩, .string ⟨#[]⟩, .int .i64 0]), 3, 40) := by kernel_rfl
theorem take_snoc_ch (xs : List Ch) (k : Nat) (h : k < xs.length) : xs.take (k + 1) = xs.take k ++ [chAt xs k] := by
  rw [List.take_succ_eq_append_getElem h, Pl.chAt_eq xs k h]

end Go.Proofs.YtapchoppcaacdaaGreatDoor
