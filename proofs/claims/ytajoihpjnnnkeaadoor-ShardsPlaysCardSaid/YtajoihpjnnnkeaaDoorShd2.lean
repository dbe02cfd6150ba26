/- What shards.Counts answers, plain. -/
import Derived.Test.YtajoihpjnnnkeaaDoorShd1
import Derived.Test.YtajoihpjnnnkeaaDoorSpan3
import Derived.Lib.QuietBelow
import Derived.BigQuiet
import Derived.Deep.RegionWith
namespace Go.Proofs.YtajoihpjnnnkeaaDoor
open Go.RowKit Go.Maps Go.Sort
attribute [local go_sem] Oper.semAt_some

/-- The sentinels that a map of shards answers with. -/
structure ShdS (S : Nat → Bool) : Prop where
  h1 : S 1 = true
  h2 : S 2 = true
  h3 : S 3 = true
  h4 : S 4 = true
  h6 : S 6 = true
  h7 : S 7 = true
theorem ShdS.key {S : Nat → Bool} (h : ShdS S) : KeyT S := ⟨h.h2, h.h3, h.h6, h.h7⟩
theorem ShdS.keyS {S : Nat → Bool} (h : ShdS S) : KeyS S := ⟨h.h2, h.h3, h.h6, h.h7⟩
theorem ShdS.span {S : Nat → Bool} (h : ShdS S) : SpanS S := ⟨h.keyS, h.h1, h.h4⟩

namespace Pl
theorem findM_cases (xs : List Sh) (id : Int) : findM xs id = -1 ∨ ∃ i, i < xs.length ∧ findM xs id = (i : Nat) ∧ (shAt xs i).id = id := by
  unfold findM idxI
  cases hf : xs.findIdx? (fun c => c.id == id) with
  | none => exact .inl rfl
  | some i =>
    obtain ⟨hi, hp, _⟩ := List.findIdx?_eq_some_iff_getElem.1 hf
    exact .inr ⟨i, hi, rfl, by rw [shAt_eq xs i hi]; exact beq_iff_eq.1 hp⟩
/-- Does an entry count? -/
def countsB (xs : List Sh) (used : Nat → Bool) (e : En) : Bool :=
  if rightB e = false then false
  else if findM xs e.shard < 0 then false
  else if e.kind = 2 then true
  else if e.kind = 3 then !used e.other.toNat && hasS (shAt xs (findM xs e.shard).toNat).lo (shAt xs (findM xs e.shard).toNat).hi e.key && !decide (e.key.toList = (shAt xs (findM xs e.shard).toNat).lo.toList)
  else if e.kind = 4 then
    if findM xs e.other < 0 then false
    else decide (joinE (rightS (shAt xs (findM xs e.shard).toNat).lo (shAt xs (findM xs e.shard).toNat).hi) (rightS (shAt xs (findM xs e.other).toNat).lo (shAt xs (findM xs e.other).toNat).hi) (shAt xs (findM xs e.shard).toNat).lo (shAt xs (findM xs e.shard).toNat).hi (shAt xs (findM xs e.other).toNat).lo (shAt xs (findM xs e.other).toNat).hi = 0)
  else false
theorem right_other {e : En} (h : rightB e = true) (hk : e.kind = 3) : 1 ≤ e.other ∧ e.other ≤ 12 := by
  unfold rightB at h
  rw [if_neg (by omega), if_neg (by omega), if_pos hk] at h
  unfold splB withinB at h
  simp only [Bool.and_eq_true, decide_eq_true_eq] at h
  exact h.1.1.1.2
end Pl
end Go.Proofs.YtajoihpjnnnkeaaDoor
