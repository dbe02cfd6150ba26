/- Plain: what a scan of a table tells. -/
import Derived.Test.YtapchoppcaacdaaGreatDoorTab1
import Derived.Test.YtapchoppcaacdaaGreatDoorSpan1
namespace Go.Proofs.YtapchoppcaacdaaGreatDoor
namespace Pl
/-- table.Scan. -/
def scanT (xs : List Pr) (lo hi : ByteArray) (limit : Int) : List Pr := (xs.filter fun c => hasS lo hi c.key).take limit.toNat
/-- .. behind k pairs. -/
theorem scan_snoc (xs : List Pr) (lo hi : ByteArray) (limit : Int) (k : Nat) (hk : k < xs.length) :
    scanT (xs.take (k + 1)) lo hi limit = scanT (xs.take k) lo hi limit ++ if ((scanT (xs.take k) lo hi limit).length : Int) < limit ∧ hasS lo hi (prAt xs k).key = true then [prAt xs k] else [] := by
  unfold scanT
  rw [List.take_succ_eq_append_getElem hk, ← prAt_eq xs k hk, List.filter_append]
  by_cases hh : hasS lo hi (prAt xs k).key = true
  · rw [List.filter_cons_of_pos (by simpa using hh), List.filter_nil]
    generalize (xs.take k).filter _ = L
    by_cases hlt : ((L.take limit.toNat).length : Int) < limit
    · rw [if_pos ⟨hlt, hh⟩]
      rw [List.length_take] at hlt
      rw [List.take_of_length_le (show L.length ≤ limit.toNat by omega), List.take_of_length_le (by simp; omega)]
    · rw [if_neg (fun h => hlt h.1), List.append_nil]
      rw [List.length_take] at hlt
      rw [List.take_append_of_le_length (by omega)]
  · rw [List.filter_cons_of_neg (by simpa using hh), List.filter_nil, List.append_nil, if_neg (fun h => hh h.2), List.append_nil]
end Pl
end Go.Proofs.YtapchoppcaacdaaGreatDoor
