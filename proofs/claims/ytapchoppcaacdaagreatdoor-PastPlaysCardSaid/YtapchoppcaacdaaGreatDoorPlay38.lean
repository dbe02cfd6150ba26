/- What is kept behind a list of acts (tidewaterlaw38). -/
import Derived.Test.YtapchoppcaacdaaGreatDoorLaw38
set_option linter.unusedVariables false
namespace Go.Proofs.YtapchoppcaacdaaGreatDoor
open Go.RowKit Go.Maps Go.Sort

/-- The change that an act notes. -/
def actCh (a : Act38) : Ch := if a.kind = 0 then ⟨a.key, a.val, a.ver, true⟩ else ⟨a.key, ⟨#[]⟩, a.ver, false⟩
namespace Pl
noncomputable def playK (xs : List Act38) : ByteArray → List Ch := xs.foldl (fun K a => noteK K 0 (actCh a)) noK
theorem playK_snoc (xs : List Act38) (k : Nat) (h : k < xs.length) : playK (xs.take (k + 1)) = noteK (playK (xs.take k)) 0 (actCh (actAt38 xs k)) := by
  unfold playK
  rw [List.take_succ_eq_append_getElem h, actAt38_eq xs k h, List.foldl_append]; rfl
theorem good_note {K : ByteArray → List Ch} {fl : Int} {c : Ch} (hK : GoodK K) (hg : c.there = false → c.val = ⟨#[]⟩) : GoodK (noteK K fl c) := by
  unfold noteK
  split
  · next h => exact good_add hK h hg
  · exact hK
theorem gone_act (a : Act38) : (actCh a).there = false → (actCh a).val = ⟨#[]⟩ := by
  unfold actCh; split
  · intro h; cases h
  · intro _; rfl
theorem good_fold : ∀ (xs : List Act38) (K : ByteArray → List Ch), GoodK K → GoodK (xs.foldl (fun K a => noteK K 0 (actCh a)) K)
  | [], _, h => h
  | a :: xs, _, h => good_fold xs _ (good_note h (gone_act a))
theorem good_play (xs : List Act38) : GoodK (playK xs) := good_fold xs _ good_nil

theorem chAt_mem (xs : List Ch) (k : Nat) (h : k < xs.length) : chAt xs k ∈ xs := by rw [chAt_eq xs k h]; exact List.getElem_mem h
theorem getE_pos {key : ByteArray} {v : Int} (h : keyN key = 0) (hv : 0 ≤ v) : getE key 0 v = 0 := by
  unfold getE; rw [if_neg (by simp [h]), if_neg (by omega)]
end Pl

namespace Pl
theorem play_key (s : ByteArray) : ∀ (xs : List Act38) (K : ByteArray → List Ch), (xs.foldl (fun K a => noteK K 0 (actCh a)) K) s ≠ [] → K s ≠ [] ∨ ∃ a ∈ xs, a.key = s := by
  intro xs
  induction xs with
  | nil => intro K h; exact .inl h
  | cons a xs ih =>
    intro K h
    rcases ih _ h with h1 | ⟨c, hc, e⟩
    · replace h1 : noteK K 0 (actCh a) s ≠ [] := h1
      by_cases hs : s = (actCh a).key
      · refine .inr ⟨a, by simp, ?_⟩
        rw [hs]; unfold actCh; split <;> rfl
      · refine .inl ?_
        unfold noteK at h1
        split at h1
        · rwa [addK_other _ _ _ hs] at h1
        · exact h1
    · exact .inr ⟨c, List.mem_cons_of_mem _ hc, e⟩
theorem play_size {xs : List Act38} (hx : ∀ j, j < xs.length → (actAt38 xs j).key.size ≤ 300) (s : ByteArray) (h : playK xs s ≠ []) : s.size ≤ 300 := by
  rcases play_key s xs _ h with h | ⟨a, ha, rfl⟩
  · exact absurd rfl h
  · obtain ⟨j, hj, rfl⟩ := List.getElem_of_mem ha
    have := hx j hj
    rwa [actAt38_eq xs j hj] at this
end Pl
theorem keyN_vals (s : ByteArray) : Pl.keyN s = 0 ∨ Pl.keyN s = 2 ∨ Pl.keyN s = 3 ∨ Pl.keyN s = 6 ∨ Pl.keyN s = 7 := by
  unfold Pl.keyN
  split
  · omega
  · unfold Pl.keyL
    repeat' split
    all_goals omega

end Go.Proofs.YtapchoppcaacdaaGreatDoor
