/- The plain law of tables that are cut and joined: the whole span scans all; where a cut cuts; a sort of what is in order. -/
import Derived.Test.YtajoihpjnnnkeaaDoorTabP
import Derived.Test.YtajoihpjnnnkeaaDoorSpan1
import Derived.Test.YtajoihpjnnnkeaaDoorIdxP
import Derived.Test.YtajoihpjnnnkeaaDoorCmpD
namespace Go.Proofs.YtajoihpjnnnkeaaDoor
namespace Pl
theorem compare_asymm {a b : ByteArray} (h : compare a b < 0) : ¬ compare b a < 0 := by
  have hab : Ok a ∧ Ok b := by
    unfold compare at h
    split at h
    · next x y hx hy => exact ⟨⟨x, hx⟩, ⟨y, hy⟩⟩
    · simp at h
  have := compare_swap hab.1 hab.2
  omega
theorem hasS_all {k : ByteArray} (h : keyN k = 0) : hasS ⟨#[]⟩ ⟨#[]⟩ k = true := by
  unfold hasS
  have h1 : rightS ⟨#[]⟩ ⟨#[]⟩ = true := by decide +kernel
  have h2 : isKey k = true := by unfold isKey; rw [h]; rfl
  have h3 : decide (0 ≤ compare k ⟨#[]⟩) = true := by
    refine decide_eq_true ?_
    obtain ⟨l, hl⟩ := ok_key h
    unfold compare
    rw [hl]
    have : runes (⟨#[]⟩ : ByteArray).data.toList = some [] := by rfl
    rw [this]
    cases l with
    | nil => decide
    | cons a l => show (0 : Int) ≤ cmpNums (a :: l) []; unfold cmpNums; decide
  have h4 : lessB k ⟨#[]⟩ = true := by
    unfold lessB none0
    rw [show (⟨#[]⟩ : ByteArray).toList.isEmpty = true from by decide +kernel]; rfl
  rw [h1, h2, h3, h4]; rfl
theorem srt_take {xs : List Pr} (h : Srt xs) (n : Nat) : Srt (xs.take n) := srt_sub h (List.take_sublist _ _)
theorem srt_drop {xs : List Pr} (h : Srt xs) (n : Nat) : Srt (xs.drop n) := srt_sub h (List.drop_sublist _ _)
/-- Where a cut cuts. -/
def cutN (xs : List Pr) (k : ByteArray) : Nat := if right k = true then pos xs k else xs.length
theorem cutN_le (xs : List Pr) (k : ByteArray) : cutN xs k ≤ xs.length := by unfold cutN; split; exact pos_le xs k; exact Nat.le_refl _
theorem right_ok {k : ByteArray} (h : right k = true) : Ok k := by
  unfold right at h
  cases hr : runes k.data.toList with
  | none => rw [hr] at h; cases h
  | some l => exact ⟨l, hr⟩
theorem idx_cut {xs : List Pr} (h : Srt xs) {k : ByteArray} (hk : right k = true) : idxI (fun c : Pr => decide (0 ≤ compare c.key k)) xs = if cutN xs k < xs.length then ((cutN xs k : Nat) : Int) else -1 := by
  have hp := pos_iff (right_ok hk) h
  unfold cutN
  rw [if_pos hk]
  have hall : ∀ m, m ≤ pos xs k → (xs.take m).all (fun c => !(decide (0 ≤ compare c.key k))) = true := by
    intro m hm
    rw [List.all_eq_true]
    intro c hc
    obtain ⟨j, hj, rfl⟩ := List.getElem_of_mem hc
    rw [List.length_take] at hj
    have := (hp j (by omega)).2 (by omega)
    rw [prAt_eq xs j (by omega)] at this
    rw [List.getElem_take]
    simpa using this
  by_cases hlt : pos xs k < xs.length
  · rw [if_pos hlt]
    refine idx_some _ xs _ hlt (hall _ (Nat.le_refl _)) ?_
    have := (hp _ hlt)
    rw [prAt_eq xs _ hlt] at this
    exact decide_eq_true (by omega)
  · rw [if_neg hlt]
    have := hall xs.length (by omega)
    rw [List.take_length] at this
    exact idx_none _ xs this
theorem join_self {xs zs : List Pr} (hs : Srt xs) (hp : zs.Perm xs) (hz : zs.Pairwise fun a b => ¬ compare b.key a.key < 0) : zs = xs :=
  (perm_rise (fun a b : Pr => compare a.key b.key < 0) xs zs hp.symm hs.rise hz fun _ _ h => compare_asymm h).symm
/-- Two pairs that follow one another and have one key. -/
def dupN : List Pr → Bool
  | a :: b :: r => decide (a.key = b.key) || dupN (b :: r)
  | _ => false
theorem dup_none {xs : List Pr} (h : ∀ i, i + 1 < xs.length → (prAt xs i).key ≠ (prAt xs (i + 1)).key) : dupN xs = false := by
  induction xs with
  | nil => rfl
  | cons a xs ih =>
    cases xs with
    | nil => rfl
    | cons b r =>
      unfold dupN
      rw [ih (fun i hi => by have := h (i + 1) (by simpa using hi); simpa [prAt] using this), decide_eq_false (by have := h 0 (by simp); simpa [prAt] using this)]
      rfl
theorem dup_some {xs : List Pr} (i : Nat) (hi : i + 1 < xs.length) (h : (prAt xs i).key = (prAt xs (i + 1)).key) : dupN xs = true := by
  induction xs generalizing i with
  | nil => simp at hi
  | cons a xs ih =>
    cases xs with
    | nil => simp at hi
    | cons b r =>
      unfold dupN
      cases i with
      | zero => rw [decide_eq_true (by simpa [prAt] using h)]; rfl
      | succ i => rw [ih i (by simpa using hi) (by simpa [prAt] using h), Bool.or_true]
theorem srt_nodup {xs : List Pr} (h : Srt xs) : dupN xs = false := dup_none fun i hi e => by
  have h1 := List.pairwise_iff_getElem.1 h.rise i (i + 1) (by omega) hi (by omega)
  rw [prAt_eq xs i (by omega), prAt_eq xs (i + 1) hi] at e
  have hok : Ok (xs[i + 1]).key := ok_key (h.key _ (List.getElem_mem hi))
  rw [e, compare_self hok] at h1
  simp at h1
/-- What is in order, without two of one key, rises. -/
theorem srt_sorted {zs : List Pr} (hk : ∀ c ∈ zs, keyN c.key = 0) (hz : zs.Pairwise fun a b => ¬ compare b.key a.key < 0) (hd : dupN zs = false) : Srt zs := by
  refine ⟨hk, ?_⟩
  induction zs with
  | nil => exact List.Pairwise.nil
  | cons a zs ih =>
    rw [List.pairwise_cons] at hz
    cases zs with
    | nil => simp
    | cons b r =>
      unfold dupN at hd
      rw [Bool.or_eq_false_iff, decide_eq_false_iff_not] at hd
      have h2 := ih (fun c hc => hk c (List.mem_cons_of_mem _ hc)) hz.2 hd.2
      have ha : Ok a.key := ok_key (hk a (by simp))
      have hb : Ok b.key := ok_key (hk b (by simp))
      have hab : compare a.key b.key < 0 := by
        have h3 := hz.1 b (by simp)
        have h4 := compare_swap ha hb
        have h5 : compare a.key b.key ≠ 0 := fun h => hd.1 (compare_zero ha hb h)
        omega
      rw [List.pairwise_cons]
      refine ⟨fun c hc => ?_, h2⟩
      rcases List.mem_cons.1 hc with rfl | hc
      · exact hab
      · exact compare_trans ha hb (ok_key (hk c (by simp [hc]))) hab ((List.pairwise_cons.1 h2).1 c hc)
end Pl
theorem scan_all {xs : List Pr} (h : Pl.Srt xs) : xs.filter (fun c => Pl.hasS ⟨#[]⟩ ⟨#[]⟩ c.key) = xs := List.filter_eq_self.2 fun c hc => Pl.hasS_all (h.key c hc)
end Go.Proofs.YtajoihpjnnnkeaaDoor
