/- The plain law of a trim: what is told from there on stays; no more is kept. -/
import Derived.Test.YtapchoppcaacdaaGreatDoorPastL
import Derived.Test.YtapchoppcaacdaaGreatDoorSpan1
set_option linter.unusedVariables false
namespace Go.Proofs.YtapchoppcaacdaaGreatDoor
namespace Pl
/-- What of a row is not elder. -/
def newer (to : Int) (xs : List Ch) : List Ch := xs.filter fun c => !decide (c.ver ≤ to)
/-- The last that is elder, if it is there. -/
def keepL (to : Int) (xs : List Ch) : List Ch := match last xs to with | some c => if c.there = true then [c] else [] | none => []
/-- What Trim leaves of a row. -/
def trimL (to : Int) (xs : List Ch) : List Ch := keepL to xs ++ newer to xs
theorem trim_nil (to : Int) : trimL to [] = [] := rfl
theorem last_snoc (xs : List Ch) (c : Ch) (v : Int) : last (xs ++ [c]) v = if c.ver ≤ v then some c else last xs v := by
  unfold last
  rw [List.reverse_append]
  show List.find? _ (c :: xs.reverse) = _
  rw [List.find?_cons]
  by_cases h : c.ver ≤ v
  · rw [decide_eq_true h, if_pos h]
  · rw [decide_eq_false h, if_neg h]
theorem newer_snoc (to : Int) (xs : List Ch) (c : Ch) : newer to (xs ++ [c]) = if c.ver ≤ to then newer to xs else newer to xs ++ [c] := by
  unfold newer
  rw [List.filter_append]
  by_cases h : c.ver ≤ to
  · rw [if_pos h, List.filter_cons_of_neg (by simp [h]), List.filter_nil, List.append_nil]
  · rw [if_neg h, List.filter_cons_of_pos (by simp [h]), List.filter_nil]
theorem snoc_cases (xs : List Ch) : xs = [] ∨ ∃ ys c, xs = ys ++ [c] := by
  rcases Nat.eq_zero_or_pos xs.length with h | h
  · exact .inl (List.eq_nil_of_length_eq_zero h)
  · have hne : xs ≠ [] := List.length_pos_iff.1 h
    exact .inr ⟨xs.dropLast, xs.getLast hne, (List.dropLast_concat_getLast hne).symm⟩
theorem trim_le {to : Int} {xs : List Ch} {c : Ch} (hr : (xs ++ [c]).Pairwise fun a b => a.ver < b.ver) (h : c.ver ≤ to) : trimL to (xs ++ [c]) = if c.there = true then [c] else [] := by
  have hn : newer to xs = [] := by
    unfold newer
    rw [List.filter_eq_nil_iff]
    intro a ha
    have := (List.pairwise_append.1 hr).2.2 a ha c (List.mem_singleton.2 rfl)
    simp; omega
  unfold trimL keepL
  rw [last_snoc, if_pos h, newer_snoc, if_pos h, hn, List.append_nil]
theorem trim_gt {to : Int} {xs : List Ch} {c : Ch} (h : ¬ c.ver ≤ to) : trimL to (xs ++ [c]) = trimL to xs ++ [c] := by
  unfold trimL keepL
  rw [last_snoc, if_neg h, newer_snoc, if_neg h, List.append_assoc]
theorem trim_sub {to : Int} : ∀ (n : Nat) (xs : List Ch), xs.length = n → (xs.Pairwise fun a b => a.ver < b.ver) → (trimL to xs).Sublist xs := by
  intro n
  induction n with
  | zero => intro xs hx _; rw [List.eq_nil_of_length_eq_zero hx, trim_nil]; exact List.Sublist.refl _
  | succ n ih =>
    intro xs hx hr
    rcases snoc_cases xs with rfl | ⟨ys, c, rfl⟩
    · simp at hx
    · have hr' := (List.pairwise_append.1 hr).1
      by_cases h : c.ver ≤ to
      · rw [trim_le hr h]
        by_cases ht : c.there = true
        · rw [if_pos ht]; exact List.sublist_append_right _ _
        · rw [if_neg ht]; exact List.nil_sublist _
      · rw [trim_gt h]
        exact (ih ys (by simpa using hx) hr').append (List.Sublist.refl _)
theorem look_snoc (xs : List Ch) (c : Ch) (v : Int) : look (xs ++ [c]) v = if c.ver ≤ v then (if c.there = true then some c else none) else look xs v := by
  unfold look
  rw [last_snoc]
  by_cases h : c.ver ≤ v
  · rw [if_pos h, if_pos h]; cases ht : c.there <;> simp [Option.filter, ht]
  · rw [if_neg h, if_neg h]
theorem look_trim {to v : Int} (hv : to ≤ v) : ∀ (n : Nat) (xs : List Ch), xs.length = n → (xs.Pairwise fun a b => a.ver < b.ver) → look (trimL to xs) v = look xs v := by
  intro n
  induction n with
  | zero => intro xs hx _; rw [List.eq_nil_of_length_eq_zero hx, trim_nil]
  | succ n ih =>
    intro xs hx hr
    rcases snoc_cases xs with rfl | ⟨ys, c, rfl⟩
    · simp at hx
    · have hr' := (List.pairwise_append.1 hr).1
      rw [look_snoc]
      by_cases h : c.ver ≤ to
      · rw [trim_le hr h, if_pos (Int.le_trans h hv)]
        by_cases ht : c.there = true
        · rw [if_pos ht, if_pos ht]
          have := look_snoc [] c v
          rw [List.nil_append] at this
          rw [this, if_pos (Int.le_trans h hv), if_pos ht]
        · rw [if_neg ht, if_neg ht]; rfl
      · rw [trim_gt h, look_snoc, ih ys (by simpa using hx) hr']
theorem good_trim {K : ByteArray → List Ch} (to : Int) (h : GoodK K) : GoodK fun s => trimL to (K s) := by
  intro s
  obtain ⟨g, hk⟩ := h s
  have hs := trim_sub (to := to) _ (K s) rfl g.rise
  refine ⟨⟨fun c hc => g.key c (hs.subset hc), fun c hc => g.one c (hs.subset hc), fun c hc => g.top c (hs.subset hc), fun c hc => g.gone c (hs.subset hc), g.rise.sublist hs⟩, fun hne => hk fun e => hne ?_⟩
  show trimL to (K s) = []
  rw [e, trim_nil]

/-- The keys of which something is kept, rising. -/
def Rising (K : ByteArray → List Ch) (ks : List ByteArray) : Prop := (ks.Pairwise fun a b => compare a b < 0) ∧ ∀ s, s ∈ ks ↔ K s ≠ []
theorem cmpNums_asymm : ∀ (x y : List Nat), cmpNums x y < 0 → ¬ cmpNums y x < 0 := by
  intro x
  induction x with
  | nil => intro y h; cases y <;> simp [cmpNums] at h ⊢
  | cons a x ih =>
    intro y h
    cases y with
    | nil => simp [cmpNums] at h
    | cons b y =>
      unfold cmpNums at h ⊢
      by_cases h1 : a < b
      · have : ¬ (b < a) := by omega
        simp [h1, this]
      · by_cases h2 : b < a
        · simp [h1, h2] at h
        · simp [h1, h2] at h ⊢
          have := ih y h
          omega
theorem cmp_asymm {a b : ByteArray} (h : compare a b < 0) : ¬ compare b a < 0 := by
  unfold compare at h ⊢
  cases h1 : runes a.data.toList with
  | none => rw [h1] at h; simp at h
  | some x =>
    cases h2 : runes b.data.toList with
    | none => rw [h1, h2] at h; simp at h
    | some y => rw [h1, h2] at h; exact cmpNums_asymm x y h
theorem rising_nodup {K : ByteArray → List Ch} {ks : List ByteArray} (h : Rising K ks) : ks.Nodup :=
  h.1.imp fun {a b} hlt e => by subst e; exact cmp_asymm hlt hlt
theorem rising_same {K : ByteArray → List Ch} {ks ls : List ByteArray} (h : Rising K ks) (g : Rising K ls) : ks = ls :=
  List.Perm.eq_of_pairwise (le := fun a b => compare a b < 0) (fun a b _ _ h1 h2 => absurd h2 (cmp_asymm h1)) h.1 g.1
    ((List.perm_ext_iff_of_nodup (rising_nodup h) (rising_nodup g)).2 fun s => (h.2 s).trans (g.2 s).symm)
/-- What Scan tells. -/
def scanL (K : ByteArray → List Ch) (ks : List ByteArray) (v : Int) (lo hi : ByteArray) : List Ch := ks.filterMap fun s => if hasS lo hi s = true then look (K s) v else none
theorem rising_trim {K : ByteArray → List Ch} {ks : List ByteArray} (h : Rising K ks) (to : Int) : Rising (fun s => trimL to (K s)) (ks.filter fun s => !(trimL to (K s)).isEmpty) := by
  refine ⟨h.1.filter _, fun s => ?_⟩
  rw [List.mem_filter, h.2 s]
  constructor
  · rintro ⟨_, h2⟩ e; replace e : trimL to (K s) = [] := e; rw [e] at h2; simp at h2
  · intro h2
    refine ⟨fun e => h2 (by show trimL to (K s) = []; rw [e, trim_nil]), ?_⟩
    cases ht : trimL to (K s) with
    | nil => exact absurd ht h2
    | cons a l => rfl
theorem scan_trim {K : ByteArray → List Ch} (hK : GoodK K) {to v : Int} (hv : to ≤ v) (lo hi : ByteArray) (ks : List ByteArray) : scanL (fun s => trimL to (K s)) (ks.filter fun s => !(trimL to (K s)).isEmpty) v lo hi = scanL K ks v lo hi := by
  unfold scanL
  rw [List.filterMap_filter]
  congr 1
  funext s
  have hl := look_trim hv _ (K s) rfl (hK s).1.rise
  cases ht : trimL to (K s) with
  | nil =>
    rw [ht] at hl
    have h0 : look ([] : List Ch) v = none := rfl
    rw [h0] at hl
    rw [← hl]
    simp
  | cons a l =>
    have h2 : look (trimL to (K s)) v = look (K s) v := by rw [ht]; rw [ht] at hl; exact hl
    show (if (!(a :: l).isEmpty) = true then if hasS lo hi s = true then look (trimL to (K s)) v else none else none) = _
    rw [h2]
    simp
/-- How many changes are kept. -/
def LenIs (K : ByteArray → List Ch) (n : Nat) : Prop := ∃ ks : List ByteArray, ks.Nodup ∧ (∀ s, s ∈ ks ↔ K s ≠ []) ∧ n = (ks.map fun s => (K s).length).sum
theorem sum_filter (K : ByteArray → List Ch) : ∀ ks : List ByteArray, ((ks.filter fun s => !(K s).isEmpty).map fun s => (K s).length).sum = (ks.map fun s => (K s).length).sum := by
  intro ks
  induction ks with
  | nil => rfl
  | cons a ks ih =>
    rw [List.filter_cons, List.map_cons, List.sum_cons]
    cases h : K a with
    | nil => simp [ih]
    | cons c l =>
      simp only [List.isEmpty_cons, Bool.not_false, if_true]
      rw [List.map_cons, List.sum_cons, ih, h]
theorem len_over {K : ByteArray → List Ch} {n : Nat} (h : LenIs K n) {ks : List ByteArray} (hn : ks.Nodup) (hk : ∀ s, K s ≠ [] → s ∈ ks) : n = (ks.map fun s => (K s).length).sum := by
  obtain ⟨ls, h1, h2, rfl⟩ := h
  rw [← sum_filter K ks]
  have hp : ls.Perm (ks.filter fun s => !(K s).isEmpty) := (List.perm_ext_iff_of_nodup h1 (hn.filter _)).2 fun s => by
    rw [h2 s, List.mem_filter]
    constructor
    · intro hs
      refine ⟨hk s hs, ?_⟩
      cases ht : K s with
      | nil => exact absurd ht hs
      | cons a l => rfl
    · rintro ⟨_, h3⟩ e; rw [e] at h3; simp at h3
  exact (hp.map _).sum_nat
theorem len_same {K : ByteArray → List Ch} {n m : Nat} (h : LenIs K n) (g : LenIs K m) : n = m := by
  obtain ⟨ls, h1, h2, rfl⟩ := g
  exact len_over h h1 fun s hs => (h2 s).2 hs
theorem sum_le (f g : ByteArray → Nat) (h : ∀ s, f s ≤ g s) : ∀ ks : List ByteArray, (ks.map f).sum ≤ (ks.map g).sum := by
  intro ks
  induction ks with
  | nil => exact Nat.le_refl _
  | cons a ks ih => rw [List.map_cons, List.sum_cons, List.map_cons, List.sum_cons]; have := h a; omega
theorem len_le {K L : ByteArray → List Ch} {n m : Nat} (h : LenIs L n) (g : LenIs K m) (hl : ∀ s, (L s).length ≤ (K s).length) : n ≤ m := by
  obtain ⟨ks, h1, h2, rfl⟩ := g
  have e := len_over h h1 fun s hs => (h2 s).2 fun e => hs (List.eq_nil_of_length_eq_zero (by have := hl s; rw [e] at this; simpa using this))
  rw [e]
  exact sum_le _ _ hl ks
theorem trim_length {K : ByteArray → List Ch} (hK : GoodK K) (to : Int) (s : ByteArray) : (trimL to (K s)).length ≤ (K s).length := (trim_sub _ (K s) rfl (hK s).1.rise).length_le
end Pl
end Go.Proofs.YtapchoppcaacdaaGreatDoor
