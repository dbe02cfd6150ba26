/- tidewaterlaw20.ShardsAgain: the map, the shards that were, the entry in its variable: what stays of them, call by call. -/
import Derived.Test.YtajoihpjnnnkeaaDoorLaw20
import Derived.Test.YtajoihpjnnnkeaaDoorActs20
set_option linter.unusedVariables false
set_option linter.unusedSectionVars false
set_option linter.unusedSimpArgs false
namespace Go.Proofs.YtajoihpjnnnkeaaDoor
open Go.RowKit Go.Maps

/-- The map (state s), a row of shards that were told, an entry in a variable; base: the world at first. -/
structure AgAt (w W : World) (F : Nat → Prop) (sb : Nat) (s : ShSt) (gw cw : Nat) (ws : List Sh) (e : En) : Prop where
  st : StAt W F sb s
  low : ∀ j, F j → w.heap.size < j
  far : ¬ F gw
  row : W.ownsRow 0 40 5 (.slice (some ⟨gw, 0, none⟩) ws.length cw) ws.length (shFlat ws)
  rlt : gw < W.heap.size
  gne : w.heap.size < gw
  box : EnBox W w.heap.size e
  blt : w.heap.size < W.heap.size
  grew : Grew w W
section
variable {w W W' : World} {F F' : Nat → Prop} {sb : Nat} {s s' : ShSt} {gw cw : Nat} {ws : List Sh} {e : En}
theorem AgAt.turn (h : AgAt w W F sb s gw cw ws e) (ho : Only F W W') (h' : StAt W' F' sb s') (hF' : ∀ j, F' j → F j ∨ W.heap.size ≤ j) : AgAt w W' F' sb s' gw cw ws e := by
  have hlow : ∀ j, F' j → w.heap.size < j := fun j hj => by
    rcases hF' j hj with h1 | h1
    · exact h.low j h1
    · have := h.blt; omega
  refine ⟨h', hlow, fun hg => ?_, ownsRow_keep ho h.row (fun b hb e => ?_), Nat.lt_of_lt_of_le h.rlt ho.size, h.gne, h.box.only ho h.blt (fun hb => Nat.lt_irrefl _ (h.low _ hb)), Nat.lt_of_lt_of_le h.blt ho.size, ?_⟩
  · rcases hF' _ hg with h1 | h1
    · exact h.far h1
    · have := h.rlt; omega
  · have : gw = b := Option.some.inj hb
    subst this; exact h.far e
  · exact ((h.grew.only F).then ho).grew fun j hj => Nat.le_of_lt (h.low j hj)
theorem AgAt.more (h : AgAt w W F sb s gw cw ws e) (g : Grew W W') : AgAt w W' F sb s gw cw ws e := h.turn (g.only F) (h.st.grew g) fun _ => .inl
end

section
variable {S : Nat → Bool} (hS : ShdS S) (E : Nat → Addr) {w W : World} (hE : Errs S E w) {F : Nat → Prop} {sb : Nat} {s : ShSt} {gw cw : Nat} {ws : List Sh} {e : En} (h : AgAt w W F sb s gw cw ws e) (hx : s.xs.length ≤ 1000)
include hS hE h hx
theorem ag_apply (hne : s.ne ≤ 1000000) (e' : En) (hA : EnAt W e') (hkey : e'.key.size ≤ 70368744177664) (at' : Int) :
    Calls Tryd.prog 11 #[.pointer (some ⟨sb, 0, none⟩), e'.agg, .int .i64 at'] W fun r W' => r = .returned (.bool (Pl.applyB s.xs s.used e' at')) ∧ ∃ F', AgAt w W' F' sb (Pl.applyP s e' at') gw cw ws e := by
  refine (apply_any hS E (hE.grew h.grew) h.st hx hne e' hA hkey at').mono ?_
  rintro r W' ⟨hr, ho, F', h', hF'⟩
  exact ⟨hr, F', h.turn ho h' hF'⟩
theorem ag_counts (e' : En) (hA : EnAt W e') (hkey : e'.key.size ≤ 70368744177664) :
    Calls Tryd.prog 13 #[.pointer (some ⟨sb, 0, none⟩), e'.agg] W fun r W' => r = .returned (.bool (Pl.countsB s.xs s.used e')) ∧ AgAt w W' F sb s gw cw ws e := by
  refine (counts_any hS E (hE.grew h.grew) h.st (by omega) e' hA hkey).mono ?_
  rintro r W' ⟨hr, g⟩
  exact ⟨hr, h.more g⟩
end
section
variable {w W : World} {F : Nat → Prop} {sb : Nat} {s : ShSt} {gw cw : Nat} {ws : List Sh} {e : En} (h : AgAt w W F sb s gw cw ws e) (hx : s.xs.length ≤ 1000)
include h hx
theorem ag_shards (h0 : 0 < s.xs.length) : Calls Tryd.prog 12 #[.pointer (some ⟨sb, 0, none⟩)] W fun r W' => ∃ g cap, r = .returned (.slice (some ⟨g, 0, none⟩) s.xs.length cap) ∧ W'.ownsRow 0 40 5 (.slice (some ⟨g, 0, none⟩) s.xs.length cap) s.xs.length (shFlat s.xs) ∧ AgAt w W' F sb s gw cw ws e ∧ W.heap.size ≤ g := by
  refine (shards_any h.st hx h0).mono ?_
  rintro r W' ⟨g, cap, hr, hrow, g1⟩
  obtain ⟨g', c', e', hb, _⟩ := hrow.form h0
  cases e'
  exact ⟨g, cap, hr, ownsRow_base (Nat.zero_le _) hrow, h.more g1, hb⟩
theorem ag_shard (id : Int) : Calls Tryd.prog 14 #[.pointer (some ⟨sb, 0, none⟩), .int .i64 id] W fun r W' => r = .returned (.tuple #[(Pl.shardV s.xs id).aggOf, .bool (decide (0 ≤ Pl.findM s.xs id))]) ∧ AgAt w W' F sb s gw cw ws e := by
  refine (shardM_any h.st hx id).mono ?_
  rintro r W' ⟨hr, g⟩
  exact ⟨hr, h.more g⟩
end
end Go.Proofs.YtajoihpjnnnkeaaDoor
