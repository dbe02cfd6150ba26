/- Plain: what the operations of a Write do to a table. -/
import Derived.Test.YtifcnammekbfoaaGreatDoorFinStateOnceQ12
import Derived.Test.YtifcnammekbfoaaGreatDoorFinStateOnceQ31
set_option linter.unusedVariables false
set_option linter.unusedSimpArgs false
namespace Go.Proofs.YtifcnammekbfoaaGreatDoor
open Go.RowKit Go.Maps
namespace Pl
theorem good_step {P : List Pr} (h : Good P) (o : OpR) (v : Int) : Good (stepP P o v).1 := by
  unfold stepP
  split
  · exact h.del _
  · split
    · exact h
    · split
      · exact h
      · exact h.put _
theorem step_len (P : List Pr) (o : OpR) (v : Int) : (stepP P o v).1.length ≤ P.length + 1 := by
  unfold stepP
  split
  · have := (tdel_sub P o.key).length_le; dsimp only; omega
  · split
    · dsimp only; omega
    · split
      · dsimp only; omega
      · exact putT_len P _
/-- The operations, one by one, as far as they can be done. -/
def runOps : List OpR → Int → List Pr → List Pr × Bool
  | [], _, P => (P, true)
  | o :: os, v, P => if (stepP P o v).2 = true then runOps os v (stepP P o v).1 else ((stepP P o v).1, false)
theorem runOps_cons (o : OpR) (os : List OpR) (v : Int) (P : List Pr) : runOps (o :: os) v P = if (stepP P o v).2 = true then runOps os v (stepP P o v).1 else ((stepP P o v).1, false) := rfl
theorem runOps_append (a b : List OpR) (v : Int) : ∀ P, runOps (a ++ b) v P = if (runOps a v P).2 = true then runOps b v (runOps a v P).1 else runOps a v P := by
  induction a with
  | nil => intro P; simp [runOps]
  | cons o os ih =>
    intro P
    rw [List.cons_append, runOps_cons, runOps_cons]
    cases hb : (stepP P o v).2 with
    | true => simp only [if_true]; exact ih _
    | false => simp
theorem runOps_good (a : List OpR) (v : Int) : ∀ P, Good P → Good (runOps a v P).1 := by
  induction a with
  | nil => intro P h; exact h
  | cons o os ih =>
    intro P h
    rw [runOps_cons]
    split
    · exact ih _ (good_step h o v)
    · exact good_step h o v
theorem runOps_len (a : List OpR) (v : Int) : ∀ P, (runOps a v P).1.length ≤ P.length + a.length := by
  induction a with
  | nil => intro P; simp [runOps]
  | cons o os ih =>
    intro P
    rw [runOps_cons]
    have := step_len P o v
    split
    · have := ih (stepP P o v).1; simp only [List.length_cons]; omega
    · simp only [List.length_cons]; omega
theorem runOps_next {ops : List OpR} {v : Int} {P Q : List Pr} {k : Nat} (hk : k < ops.length) (h : runOps (ops.take k) v P = (Q, true)) :
    runOps (ops.take (k + 1)) v P = stepP Q (opRAt ops k) v ∧ ((stepP Q (opRAt ops k) v).2 = false → (runOps ops v P).2 = false) := by
  have e : ∀ o, runOps [o] v Q = stepP Q o v := by
    intro o
    rw [runOps_cons]
    cases hb : (stepP Q o v).2 with
    | true => rw [if_pos rfl]; show ((stepP Q o v).1, true) = _; rw [← hb]
    | false => rw [if_neg (by decide), ← hb]
  have h1 : runOps (ops.take (k + 1)) v P = stepP Q (opRAt ops k) v := by
    rw [List.take_succ_eq_append_getElem hk, runOps_append, h, if_pos rfl, ← opRAt_eq ops k hk]
    exact e _
  refine ⟨h1, fun hf => ?_⟩
  have h2 : runOps ops v P = runOps (ops.take (k + 1) ++ ops.drop (k + 1)) v P := by rw [List.take_append_drop]
  rw [h2, runOps_append, h1, hf, if_neg (by decide), hf]
/-- What a Write answers; the table behind it. -/
def codeW (P : List Pr) (ops : List OpR) (at_ : Int) : Int := if (runOps ops (at_ + 1) P).2 = true then 1 else 2
def tabW (P : List Pr) (ops : List OpR) (at_ : Int) : List Pr := if (runOps ops (at_ + 1) P).2 = true then (runOps ops (at_ + 1) P).1 else P
theorem tabW_good {P : List Pr} (h : Good P) (ops : List OpR) (at_ : Int) : Good (tabW P ops at_) := by
  unfold tabW; split
  · exact runOps_good _ _ _ h
  · exact h
theorem tabW_len (P : List Pr) (ops : List OpR) (at_ : Int) : (tabW P ops at_).length ≤ P.length + ops.length := by
  unfold tabW; split
  · exact runOps_len _ _ _
  · omega
theorem codeW_or (P : List Pr) (ops : List OpR) (at_ : Int) : codeW P ops at_ = 1 ∨ codeW P ops at_ = 2 := by
  unfold codeW; split
  · exact .inl rfl
  · exact .inr rfl
theorem tabW_clash {P : List Pr} {ops : List OpR} {at_ : Int} (h : codeW P ops at_ ≠ 1) : tabW P ops at_ = P := by
  unfold codeW at h; unfold tabW
  by_cases q : (runOps ops (at_ + 1) P).2 = true
  · rw [if_pos q] at h; exact absurd rfl h
  · rw [if_neg q]
end Pl
end Go.Proofs.YtifcnammekbfoaaGreatDoor
