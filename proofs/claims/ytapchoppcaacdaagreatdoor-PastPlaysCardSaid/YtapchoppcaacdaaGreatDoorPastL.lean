/- The plain law of pasts: what is kept of a key rises; what is told at each version of it; nothing below the first. -/
import Derived.Test.YtapchoppcaacdaaGreatDoorPast4
namespace Go.Proofs.YtapchoppcaacdaaGreatDoor
namespace Pl
noncomputable def addK (K : ByteArray → List Ch) (c : Ch) (s : ByteArray) : List Ch := open Classical in if s = c.key then K s ++ [c] else K s
theorem addK_same (K : ByteArray → List Ch) (c : Ch) : addK K c c.key = K c.key ++ [c] := by unfold addK; rw [if_pos rfl]
theorem addK_other (K : ByteArray → List Ch) (c : Ch) (s : ByteArray) (h : s ≠ c.key) : addK K c s = K s := by unfold addK; rw [if_neg h]

/-- What a list of changes of one key is like. -/
structure GoodL (s : ByteArray) (xs : List Ch) : Prop where
  key : ∀ c ∈ xs, c.key = s
  one : ∀ c ∈ xs, 1 ≤ c.ver
  top : ∀ c ∈ xs, c.ver ≤ 4096
  gone : ∀ c ∈ xs, c.there = false → c.val = ⟨#[]⟩
  rise : xs.Pairwise fun a b => a.ver < b.ver
def GoodK (K : ByteArray → List Ch) : Prop := ∀ s, GoodL s (K s) ∧ (K s ≠ [] → keyN s = 0)
theorem good_nil : GoodK fun _ => [] := fun s => ⟨⟨by simp, by simp, by simp, by simp, by simp⟩, by simp⟩

theorem noteE_zero {K : ByteArray → List Ch} {fl : Int} {c : Ch} (h : noteE K fl c = 0) : keyN c.key = 0 ∧ c.val.size ≤ 64 ∧ 1 ≤ c.ver ∧ c.ver ≤ 4096 ∧ staleB (K c.key) fl c.ver = false := by
  unfold noteE at h
  by_cases h1 : keyN c.key = 0
  · rw [if_neg (by simp [h1])] at h
    by_cases h2 : 64 < c.val.size
    · rw [if_pos h2] at h; cases h
    · rw [if_neg h2] at h
      by_cases h3 : c.ver < 1 ∨ 4096 < c.ver
      · rw [if_pos h3] at h; cases h
      · rw [if_neg h3] at h
        refine ⟨h1, by omega, by omega, by omega, ?_⟩
        cases hs : staleB (K c.key) fl c.ver with
        | false => rfl
        | true => rw [hs] at h; simp at h
  · rw [if_pos h1] at h; exact absurd h h1

theorem good_add {K : ByteArray → List Ch} {fl : Int} {c : Ch} (hK : GoodK K) (h : noteE K fl c = 0) (hg : c.there = false → c.val = ⟨#[]⟩) : GoodK (addK K c) := by
  obtain ⟨h1, _, h3, h4, h5⟩ := noteE_zero h
  intro s
  by_cases hs : s = c.key
  · subst hs
    rw [addK_same]
    obtain ⟨g, _⟩ := hK c.key
    refine ⟨⟨?_, ?_, ?_, ?_, ?_⟩, fun _ => h1⟩
    · intro x hx; rcases List.mem_append.1 hx with hx | hx
      · exact g.key x hx
      · rw [List.mem_singleton.1 hx]
    · intro x hx; rcases List.mem_append.1 hx with hx | hx
      · exact g.one x hx
      · rw [List.mem_singleton.1 hx]; exact h3
    · intro x hx; rcases List.mem_append.1 hx with hx | hx
      · exact g.top x hx
      · rw [List.mem_singleton.1 hx]; exact h4
    · intro x hx; rcases List.mem_append.1 hx with hx | hx
      · exact g.gone x hx
      · rw [List.mem_singleton.1 hx]; exact hg
    · rw [List.pairwise_append]
      refine ⟨g.rise, by simp, ?_⟩
      intro a ha b hb
      rw [List.mem_singleton.1 hb]
      unfold staleB at h5
      rw [Bool.or_eq_false_iff, Bool.and_eq_false_iff, decide_eq_false_iff_not, decide_eq_false_iff_not, decide_eq_false_iff_not] at h5
      have hpos : 0 < (K c.key).length := List.length_pos_of_mem ha
      have hl : lastV (K c.key) < c.ver := by
        rcases h5.2 with h | h
        · exact absurd hpos h
        · omega
      obtain ⟨i, hi, rfl⟩ := List.getElem_of_mem ha
      unfold lastV chAt at hl
      rw [List.getElem?_eq_getElem (by omega), Option.getD_some] at hl
      rcases Nat.lt_or_ge i ((K c.key).length - 1) with hlt | hge
      · have := List.pairwise_iff_getElem.1 g.rise i ((K c.key).length - 1) hi (by omega) hlt
        omega
      · obtain rfl : i = (K c.key).length - 1 := by omega
        exact hl
  · rw [addK_other K c s hs]; exact hK s

theorem chAt_eq (xs : List Ch) (i : Nat) (hi : i < xs.length) : chAt xs i = xs[i] := by unfold chAt; rw [List.getElem?_eq_getElem hi]; rfl
theorem rise_at {xs : List Ch} (h : xs.Pairwise fun a b => a.ver < b.ver) {i j : Nat} (hij : i < j) (hj : j < xs.length) : (chAt xs i).ver < (chAt xs j).ver := by
  rw [chAt_eq xs i (by omega), chAt_eq xs j hj]
  exact List.pairwise_iff_getElem.1 h i j (by omega) hj hij
theorem last_at {xs : List Ch} (h : xs.Pairwise fun a b => a.ver < b.ver) {i : Nat} (hi : i < xs.length) : last xs (chAt xs i).ver = some (chAt xs i) := by
  unfold last
  rw [chAt_eq xs i hi]
  have e : xs.reverse = (xs.drop (i + 1)).reverse ++ (xs[i] :: (xs.take i).reverse) := by
    have h1 : xs = xs.take i ++ (xs[i] :: xs.drop (i + 1)) := by
      rw [← List.drop_eq_getElem_cons hi, List.take_append_drop]
    conv => lhs; rw [h1]
    simp
  rw [e, List.find?_append]
  have h2 : (xs.drop (i + 1)).reverse.find? (fun c => decide (c.ver ≤ xs[i].ver)) = none := by
    rw [List.find?_eq_none]
    intro c hc
    rw [List.mem_reverse] at hc
    obtain ⟨j, hj, rfl⟩ := List.getElem_of_mem hc
    rw [List.getElem_drop]
    rw [List.length_drop] at hj
    have := List.pairwise_iff_getElem.1 h i (i + 1 + j) hi (by omega) (by omega)
    simp; omega
  rw [h2]
  simp
theorem last_below {xs : List Ch} (h : xs.Pairwise fun a b => a.ver < b.ver) (hi : 0 < xs.length) : last xs ((chAt xs 0).ver - 1) = none := by
  unfold last
  rw [List.find?_eq_none]
  intro c hc
  rw [List.mem_reverse] at hc
  obtain ⟨j, hj, rfl⟩ := List.getElem_of_mem hc
  rcases Nat.eq_zero_or_pos j with rfl | hj0
  · rw [chAt_eq xs 0 hi]; simp; omega
  · have := rise_at h hj0 hj
    rw [chAt_eq xs j hj] at this
    simp; omega
theorem last_nil (v : Int) : last [] v = none := rfl
end Pl
end Go.Proofs.YtapchoppcaacdaaGreatDoor
