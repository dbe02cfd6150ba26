/- Plain: the operations of a Write on the document's table, beside the program's. No program in it. -/
import Derived.Test.YtoiahcgaffffbaaGreatDoorFinDeltaBetweenQ29
import Derived.Test.YtoiahcgaffffbaaGreatDoorFinDeltaBetweenQ24
set_option linter.unusedVariables false
set_option linter.unusedSimpArgs false
namespace Go.Proofs.YtoiahcgaffffbaaGreatDoor
namespace Pl
def refOp (D : List Pr) (o : OpR) (v : Int) : List Pr :=
  if o.kind = 1 then put21 D ⟨o.key, o.val, v⟩
  else if o.kind = 2 then D.eraseP (isK o.key)
  else if o.kind = 3 then put21 D ⟨o.key, o.val, v⟩
  else D
def refBad (D : List Pr) (o : OpR) : Bool :=
  if o.kind = 3 then !((D.find? (isK o.key)).isSome && decide (((D.find? (isK o.key)).getD Pr.none).val.toList = o.old.toList))
  else if o.kind = 4 then !decide (((D.find? (isK o.key)).getD Pr.none).ver = o.ver)
  else false
def refRun (ops : List OpR) (v : Int) (s : List Pr × Int) : List Pr × Int := ops.foldl (fun s o => (refOp s.1 o v, if refBad s.1 o = true then 2 else s.2)) s
theorem refRun_snoc (ops : List OpR) (v : Int) (s : List Pr × Int) (k : Nat) (h : k < ops.length) :
    refRun (ops.take (k + 1)) v s = (refOp (refRun (ops.take k) v s).1 (opRAt ops k) v, if refBad (refRun (ops.take k) v s).1 (opRAt ops k) = true then 2 else (refRun (ops.take k) v s).2) := by
  unfold refRun
  rw [List.take_succ_eq_append_getElem h, opRAt_eq ops k h, List.foldl_append]; rfl
theorem refOp_len (D : List Pr) (o : OpR) (v : Int) : (refOp D o v).length ≤ D.length + 1 := by
  unfold refOp
  split
  · exact put21_len _ _
  · split
    · have := List.length_eraseP_le (p := isK o.key) (l := D); omega
    · split
      · exact put21_len _ _
      · omega
theorem refRun_len (ops : List OpR) (v : Int) : ∀ s : List Pr × Int, (refRun ops v s).1.length ≤ s.1.length + ops.length := by
  induction ops with
  | nil => intro s; simp [refRun]
  | cons o os ih =>
    intro s
    have h1 := ih (refOp s.1 o v, if refBad s.1 o = true then 2 else s.2)
    have h2 := refOp_len s.1 o v
    show (refRun os v _).1.length ≤ _
    simp only [List.length_cons]
    dsimp only at h1
    omega
theorem refRun_two (ops : List OpR) (v : Int) : ∀ D, (refRun ops v (D, 2)).2 = 2 := by
  induction ops with
  | nil => intro D; rfl
  | cons o os ih =>
    intro D
    show (refRun os v (_, if refBad D o = true then 2 else 2)).2 = 2
    rw [ite_self]
    exact ih _
theorem tt_op {P D : List Pr} (h : Tt P D) {o : OpR} (hr : opRightB o = true) {v : Int} (h1 : 1 ≤ v) (h2 : v ≤ 4096) :
    refBad D o = !(stepP P o v).2 ∧ ((stepP P o v).2 = true → Tt (stepP P o v).1 (refOp D o v)) := by
  have hg := h.get o.key
  unfold opRightB at hr
  by_cases hk : keyN o.key ≠ 0
  · rw [if_pos hk] at hr; cases hr
  · rw [if_neg hk] at hr
    have hk0 : keyN o.key = 0 := by simpa using hk
    unfold stepP refBad refOp
    by_cases k1 : o.kind = 1
    · rw [if_pos k1] at hr
      have hv := of_decide_eq_true hr
      have hp : putN ⟨o.key, o.val, v⟩ = 0 := by
        unfold putN; rw [if_neg hk]
        dsimp only
        rw [if_neg (by omega), if_neg (by omega)]
      rw [if_neg (by omega), if_neg (fun q => by omega), if_neg (by omega), if_neg (by omega), if_neg (by omega), if_pos k1]
      exact ⟨by simp [hp], fun _ => h.put _⟩
    · rw [if_neg k1] at hr
      by_cases k2 : o.kind = 2
      · rw [if_pos k2, if_neg (by omega), if_neg (by omega), if_neg (by omega), if_pos k2]
        exact ⟨rfl, fun _ => h.del _⟩
      · rw [if_neg k2] at hr
        by_cases k3 : o.kind = 3
        · rw [if_pos k3] at hr
          simp only [Bool.and_eq_true, decide_eq_true_eq] at hr
          have hp : putN ⟨o.key, o.val, v⟩ = 0 := by
            unfold putN; rw [if_neg hk]
            dsimp only
            rw [if_neg (by omega), if_neg (by omega)]
          rw [if_neg k2, if_pos k3, if_neg k1, if_neg k2, if_pos k3, hg]
          by_cases q : (D.find? (isK o.key)).isSome = false ∨ ((D.find? (isK o.key)).getD Pr.none).val.toList ≠ o.old.toList
          · rw [if_pos ⟨k3, q⟩]
            refine ⟨?_, fun h => by cases h⟩
            rcases q with q | q
            · rw [q]; rfl
            · rw [decide_eq_false q, Bool.and_false]
          · rw [if_neg (fun hh => q hh.2), if_neg (by omega)]
            refine ⟨?_, fun _ => h.put _⟩
            have q1 : (D.find? (isK o.key)).isSome = true := by
              cases hs : (D.find? (isK o.key)).isSome with
              | true => rfl
              | false => exact absurd (.inl hs) q
            have q2 : ((D.find? (isK o.key)).getD Pr.none).val.toList = o.old.toList := Classical.byContradiction fun hn => q (.inr hn)
            rw [q1, decide_eq_true q2, hp]; rfl
        · rw [if_neg k3] at hr
          by_cases k4 : o.kind = 4
          · rw [if_neg k2, if_neg k3, if_pos k4, if_neg k1, if_neg k2, if_neg k3, if_neg (show ¬ (o.kind = 3 ∧ ((getT P o.key).isSome = false ∨ ((getT P o.key).getD Pr.none).val.toList ≠ o.old.toList)) from fun q => k3 q.1), if_pos k4, hg]
            exact ⟨rfl, fun _ => h⟩
          · rw [if_neg k4] at hr; cases hr
theorem tt_run (v : Int) (h1 : 1 ≤ v) (h2 : v ≤ 4096) : ∀ (ops : List OpR) {P D : List Pr}, Tt P D → (∀ o ∈ ops, opRightB o = true) →
    ((runOps ops v P).2 = true → (refRun ops v (D, 1)).2 = 1 ∧ Tt (runOps ops v P).1 (refRun ops v (D, 1)).1) ∧ ((runOps ops v P).2 = false → (refRun ops v (D, 1)).2 = 2) := by
  intro ops
  induction ops with
  | nil => intro P D h _; exact ⟨fun _ => ⟨rfl, h⟩, (fun h => by cases h)⟩
  | cons o os ih =>
    intro P D h hr
    obtain ⟨a, b⟩ := tt_op h (hr o (by simp)) h1 h2
    rw [runOps_cons]
    show (_ → (refRun os v (refOp D o v, if refBad D o = true then 2 else 1)).2 = 1 ∧ Tt _ (refRun os v (refOp D o v, if refBad D o = true then 2 else 1)).1) ∧ (_ → (refRun os v (refOp D o v, if refBad D o = true then 2 else 1)).2 = 2)
    cases hs : (stepP P o v).2 with
    | true =>
      rw [hs] at a b
      rw [a]
      simp only [if_true, Bool.not_true, Bool.false_eq_true, if_false]
      exact ih (b rfl) fun o ho => hr o (by simp [ho])
    | false =>
      rw [hs] at a
      rw [a]
      simp only [Bool.false_eq_true, if_false, Bool.not_false, if_true]
      exact ⟨(fun h => by cases h), fun _ => refRun_two os v _⟩
theorem right_ops {e : En} (hk : e.kind = 1) (hr : rightB e = true) : ∀ o ∈ e.ops, opRightB o = true := by
  intro o ho
  unfold rightB at hr
  rw [if_pos hk] at hr
  unfold wriB at hr
  simp only [Bool.and_eq_true] at hr
  have h := hr.2
  rw [Bool.not_eq_true', List.any_eq_false] at h
  have := h o ho
  simpa using this
def refTab (D : List Pr) (ops : List OpR) (at_ : Int) : List Pr := if (refRun ops (at_ + 1) (D, 1)).2 = 1 then (refRun ops (at_ + 1) (D, 1)).1 else D
theorem tt_write {P D : List Pr} (h : Tt P D) {e : En} (hk : e.kind = 1) (hr : rightB e = true) {at_ : Int} (h0 : 0 ≤ at_) (h1 : at_ < 4096) :
    (refRun e.ops (at_ + 1) (D, 1)).2 = codeW P e.ops at_ ∧ Tt (tabW P e.ops at_) (refTab D e.ops at_) := by
  obtain ⟨a, b⟩ := tt_run (at_ + 1) (by omega) (by omega) e.ops h (right_ops hk hr)
  unfold codeW tabW refTab
  cases hs : (runOps e.ops (at_ + 1) P).2 with
  | true =>
    obtain ⟨c, d⟩ := a hs
    rw [c, if_pos rfl, if_pos rfl, if_pos rfl]
    exact ⟨rfl, d⟩
  | false =>
    have c := b hs
    rw [c, if_neg (by decide), if_neg (by decide), if_neg (by decide)]
    exact ⟨rfl, h⟩
end Pl
end Go.Proofs.YtoiahcgaffffbaaGreatDoor
