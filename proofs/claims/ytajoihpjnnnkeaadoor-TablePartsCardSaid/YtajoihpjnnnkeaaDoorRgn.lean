/- A region that draws its order, by what each operation leaves: one walk an operation, whatever the order. No program here. -/
import Derived.Test.YtajoihpjnnnkeaaDoorKit
import Derived.BigQuiet
import Derived.StillTail
set_option linter.unusedVariables false
namespace Go.Proofs.YtajoihpjnnnkeaaDoor
open Go

section
variable {P : Program} {ops : Array Oper}

/-- The operations' values. -/
def updV (f : Nat → Value) (i : Nat) (v : Value) (j : Nat) : Value := if j = i then v else f j
theorem updV_same (f : Nat → Value) (i : Nat) (v : Value) : updV f i v i = v := if_pos rfl
theorem updV_ne {f : Nat → Value} {i j : Nat} {v : Value} (h : j ≠ i) : updV f i v j = f j := if_neg h

/-- The frame when the operations of L have come up. -/
def actGo (L : Nat → Bool) (f : Nat → Value) : List Oper → Nat → Act → Act
  | [], _, a => a
  | o :: l, k, a => actGo L f l (k + 1) (if L k then a.put o.dst (f k) else a)

/-- No two operations yield into one temporary. -/
def Apart (ops : Array Oper) : Prop := ∀ (i j : Nat) (oi oj : Oper), ops[i]? = some oi → ops[j]? = some oj → i ≠ j → ∀ d, oi.dst = some d → oj.dst ≠ some d
def apartB (ops : Array Oper) : Bool := (List.range ops.size).all fun i => (List.range ops.size).all fun j => i == j || (match (ops[i]?).bind (·.dst), (ops[j]?).bind (·.dst) with | some d, some e => d != e | _, _ => true)
theorem apart_of (h : apartB ops = true) : Apart ops := by
  intro i j oi oj hi hj hne d hd he
  have hil := (Array.getElem?_eq_some_iff.1 hi).1
  have hjl := (Array.getElem?_eq_some_iff.1 hj).1
  unfold apartB at h
  rw [List.all_eq_true] at h
  have h1 := h i (List.mem_range.2 hil)
  rw [List.all_eq_true] at h1
  have h2 := h1 j (List.mem_range.2 hjl)
  rw [hi, hj] at h2
  simp [hd, he, hne] at h2

theorem actGo_put (hA : Apart ops) (L : Nat → Bool) (f : Nat → Value) : ∀ (l : List Oper) (k : Nat) (a : Act) (i : Nat) (oi : Oper) (v : Value), (∀ j, l[j]? = ops[k + j]?) → ops[i]? = some oi → i < k → actGo L f l k (a.put oi.dst v) = (actGo L f l k a).put oi.dst v
  | [], _, _, _, _, _, _, _, _ => rfl
  | o :: l, k, a, i, oi, v, hl, hi, hk => by
    have h0 : ops[k]? = some o := by simpa using (hl 0).symm
    have hl' : ∀ j, l[j]? = ops[k + 1 + j]? := fun j => by have := hl (j + 1); simpa [Nat.add_assoc, Nat.add_comm 1 j] using this
    unfold actGo
    rw [← actGo_put hA L f l (k + 1) _ i oi v hl' hi (by omega)]
    congr 1
    split
    · exact Act.put_comm a v (f k) (fun d hd => hA i k oi o hi h0 (by omega) d hd)
    · rfl
theorem actGo_same (L M : Nat → Bool) (f g : Nat → Value) : ∀ (l : List Oper) (k : Nat) (a : Act), (∀ j, k ≤ j → L j = M j) → (∀ j, k ≤ j → f j = g j) → actGo L f l k a = actGo M g l k a
  | [], _, _, _, _ => rfl
  | o :: l, k, a, h1, h2 => by
    unfold actGo
    rw [h1 k (Nat.le_refl _), h2 k (Nat.le_refl _)]
    exact actGo_same L M f g l (k + 1) _ (fun j hj => h1 j (by omega)) (fun j hj => h2 j (by omega))
theorem actGo_set (hA : Apart ops) (L M : Nat → Bool) (f : Nat → Value) (i : Nat) (oi : Oper) (v : Value) (hi : ops[i]? = some oi) (hL : L i = false) (hM : ∀ j, M j = (if j = i then true else L j)) : ∀ (l : List Oper) (k : Nat) (a : Act), (∀ j, l[j]? = ops[k + j]?) → k ≤ i → i < k + l.length → actGo M (updV f i v) l k a = (actGo L f l k a).put oi.dst v
  | [], k, _, _, h1, h2 => by simp at h2; omega
  | o :: l, k, a, hl, h1, h2 => by
    have h0 : ops[k]? = some o := by simpa using (hl 0).symm
    have hl' : ∀ j, l[j]? = ops[k + 1 + j]? := fun j => by have := hl (j + 1); simpa [Nat.add_assoc, Nat.add_comm 1 j] using this
    unfold actGo
    by_cases hk : k = i
    · subst hk
      rw [hi] at h0
      cases h0
      rw [hM, if_pos rfl, updV_same, hL]
      simp only [if_true, Bool.false_eq_true, if_false]
      rw [actGo_put hA M (updV f k v) l (k + 1) a k oi v hl' hi (by omega)]
      congr 1
      exact actGo_same M L (updV f k v) f l (k + 1) a (fun j hj => by rw [hM, if_neg (by omega)]) (fun j hj => updV_ne (by omega))
    · rw [hM, if_neg hk, updV_ne hk]
      exact actGo_set hA L M f i oi v hi hL hM l (k + 1) _ hl' (by omega) (by simp only [List.length_cons] at h2; omega)

theorem exec_actGo (hA : Apart ops) (o : Oper) (hsel : ∀ cs b, o.op ≠ .select cs b) (L M : Nat → Bool) (f : Nat → Value) (hML : ∀ j, M j = true → L j = true) (hfree : ∀ j oj, ops[j]? = some oj → L j = true → M j = false → ∀ d, oj.dst = some d → d ∉ o.looksAt ops) : ∀ (l : List Oper) (k : Nat) (a : Act), (∀ j, l[j]? = ops[k + j]?) →
    execOp (actGo L f l k a).eval o = execOp (actGo M f l k a).eval o ∧ Region.wanted o (yielded ops (actGo L f l k a).tmps) = Region.wanted o (yielded ops (actGo M f l k a).tmps)
  | [], _, _, _ => ⟨rfl, rfl⟩
  | oj :: l, k, a, hl => by
    have h0 : ops[k]? = some oj := by simpa using (hl 0).symm
    have hl' : ∀ j, l[j]? = ops[k + 1 + j]? := fun j => by have := hl (j + 1); simpa [Nat.add_assoc, Nat.add_comm 1 j] using this
    unfold actGo
    cases hm : M k with
    | true => rw [hML k hm]; exact exec_actGo hA o hsel L M f hML hfree l (k + 1) _ hl'
    | false =>
      cases hL : L k with
      | false => exact exec_actGo hA o hsel L M f hML hfree l (k + 1) _ hl'
      | true =>
        simp only [if_true, Bool.false_eq_true, if_false]
        rw [actGo_put hA L f l (k + 1) a k oj (f k) hl' h0 (by omega), execOp_put o hsel _ _ _ (hfree k oj h0 hL hm), wanted_put o _ _ _ (hfree k oj h0 hL hm)]
        exact exec_actGo hA o hsel L M f hML hfree l (k + 1) _ hl'

/-- What is asked of one operation's outcome: its value, and the world. -/
def uponV (P : Program) (K : Value → World → Prop) : Result Next → Prop
  | .ok (.value u) w' => K u w'
  | .ok .skip w' => K undef w'
  | .ok (.enter f args) w' => Calls P f args w' (fun e w'' => ∃ v, e = .returned v ∧ K v w'')
  | _ => False
theorem upon_of_uponV {o : Oper} {a : Act} {K : Value → World → Prop} {next : Act → World → Prop} {Q : Exit → Act → World → Prop} (h : ∀ v w', K v w' → next (a.put o.dst v) w') : ∀ r, uponV P K r → o.upon P a next Q r
  | .ok (.value u) w', hr => h u w' hr
  | .ok .skip w', hr => h _ w' hr
  | .ok (.enter f args) w', hr => by
    refine Calls.mono hr fun e w'' he => ?_
    obtain ⟨v, rfl, hv⟩ := he
    exact h v w'' hv
  | .ok (.defer d) w', hr => hr.elim
  | .ok (.row row args) w', hr => hr.elim
  | .halt x w', hr => hr.elim

/-- On which operations one waits. -/
def depsOf (o : Oper) : List Nat := (o.after.toList.filter (Region.binds .any)).map (·.on)
/-- One waits for all that it looks at, and for elder ones alone. -/
def waitsB (ops : Array Oper) : Bool := (List.range ops.size).all fun i => match ops[i]? with
  | none => true
  | some o => (depsOf o).all (fun j => decide (j < i)) && (List.range ops.size).all fun j => match (ops[j]?).bind (·.dst) with
    | none => true
    | some d => (depsOf o).contains j || j == i || !(o.looksAt ops).contains d
theorem waits_of (h : waitsB ops = true) {i : Nat} {o : Oper} (hi : ops[i]? = some o) : (∀ j ∈ depsOf o, j < i) ∧ ∀ j oj, ops[j]? = some oj → j ∉ depsOf o → j ≠ i → ∀ d, oj.dst = some d → d ∉ o.looksAt ops := by
  have hil := (Array.getElem?_eq_some_iff.1 hi).1
  unfold waitsB at h
  rw [List.all_eq_true] at h
  have h1 := h i (List.mem_range.2 hil)
  rw [hi] at h1
  simp only [Bool.and_eq_true, List.all_eq_true, decide_eq_true_eq] at h1
  refine ⟨h1.1, fun j oj hj hnd hne d hd hmem => ?_⟩
  have h2 := h1.2 j (List.mem_range.2 (Array.getElem?_eq_some_iff.1 hj).1)
  rw [hj] at h2
  simp [hd, hnd, hne, hmem] at h2

/-- L, and i besides. -/
abbrev plus (L : Nat → Bool) (i : Nat) (j : Nat) : Bool := if j = i then true else L j
/-- What one operation is to show: from what holds of those that have come up, itself not among them, those that it waits for among them. -/
def StepOk (P : Program) (ops : Array Oper) (a0 : Act) (J : (Nat → Bool) → (Nat → Value) → World → Prop) (i : Nat) (o : Oper) : Prop :=
  ∀ (L : Nat → Bool) (f : Nat → Value) (w : World), J L f w → L i = false → (∀ j ∈ depsOf o, L j = true) →
    if Region.wanted o (yielded ops (actGo (fun j => (depsOf o).contains j) f ops.toList 0 a0).tmps) = true then
      uponV P (fun v w' => J (plus L i) (updV f i v) w') ((execOp (actGo (fun j => (depsOf o).contains j) f ops.toList 0 a0).eval o).run P w)
    else J (plus L i) (updV f i undef) w

theorem ready_free {listed : Array Bool} {i : Nat} (h : i ∈ Region.ready .any ops listed) : listed.getD i true = false ∧ ∃ o, ops[i]? = some o ∧ ∀ j ∈ depsOf o, listed.getD j false = true := by
  obtain ⟨h1, o, h2, h3⟩ := mem_ready.1 h
  refine ⟨h1, o, h2, fun j hj => ?_⟩
  obtain ⟨e, he, rfl⟩ := List.mem_map.1 hj
  obtain ⟨he1, he2⟩ := List.mem_filter.1 he
  exact h3 e (by simpa using he1) he2

theorem canon_of {n : Nat} {listed : Array Bool} (inv : HeadInv .any ops n listed) (hall : ∀ i, i < n → listed.getD i false = true) : listed = (List.replicate n true ++ List.replicate (ops.size - n) false).toArray ∨ ops.size < n := by
  by_cases hn : ops.size < n
  · exact .inr hn
  refine .inl (Array.ext_getElem? fun i => ?_)
  have e2 : (List.replicate n true ++ List.replicate (ops.size - n) false).toArray[i]? = (List.replicate n true ++ List.replicate (ops.size - n) false)[i]? := by simp
  rw [e2]
  by_cases h1 : i < n
  · have hs : i < listed.size := by rw [inv.size]; omega
    have := hall i h1
    simp [hs] at this
    rw [List.getElem?_append_left (by simpa using h1), List.getElem?_replicate, if_pos h1, Array.getElem?_eq_getElem hs, this]
  · rw [List.getElem?_append_right (by simpa using h1), List.length_replicate, List.getElem?_replicate]
    by_cases h2 : i < ops.size
    · have hs : i < listed.size := by rw [inv.size]; omega
      have := inv.tail i (by omega) h2
      simp [hs] at this
      rw [if_pos (by omega), Array.getElem?_eq_getElem hs, this]
    · rw [if_neg (by omega), Array.getElem?_eq_none (by rw [inv.size]; omega)]

theorem wpAny_inv {Q : Exit → Act → World → Prop} {a0 : Act} {J : (Nat → Bool) → (Nat → Value) → World → Prop} (n : Nat) (hn : n ≤ ops.size) (hsel : Region.noSelect ops = true) (hA : Apart ops) (hW : waitsB ops = true)
    (htail : n = ops.size ∨ (n < ops.size ∧ Region.sinkB .any ops n = true ∧ Region.chainB .any ops n = true)) (hseq : Region.seqB .any ops (ops.size - n) n (List.replicate n true ++ List.replicate (ops.size - n) false).toArray = true)
    (hstep : ∀ i o, i < n → ops[i]? = some o → StepOk P ops a0 J i o)
    (hend : ∀ f w, J (fun j => decide (j < n)) f w → wpList P ops Q (ops.toList.drop n) (actGo (fun j => decide (j < n)) f ops.toList 0 a0) w) :
    ∀ (fuel : Nat) (listed : Array Bool) (f : Nat → Value) (w : World), listed.toList.count false = fuel → HeadInv .any ops n listed → J (fun j => listed.getD j false) f w →
      wpAny P .any ops Q fuel listed (actGo (fun j => listed.getD j false) f ops.toList 0 a0) w := by
  have hdone : ∀ (fuel : Nat) (listed : Array Bool) (f : Nat → Value) (w : World), listed.toList.count false = fuel → HeadInv .any ops n listed → J (fun j => listed.getD j false) f w → (∀ i, i < n → listed.getD i false = true) →
      wpAny P .any ops Q fuel listed (actGo (fun j => listed.getD j false) f ops.toList 0 a0) w := by
    intro fuel listed f w hc inv hi hall
    rcases canon_of inv hall with hcan | h
    · have hgo : ∀ (l : List Oper) (k : Nat) (a : Act), (∀ j, j < l.length → k + j < ops.size) → actGo (fun j => listed.getD j false) f l k a = actGo (fun j => decide (j < n)) f l k a := by
        intro l
        induction l with
        | nil => intro k a _; rfl
        | cons o l ih =>
          intro k a hk
          unfold actGo
          have e : listed.getD k false = decide (k < n) := by
            by_cases hkn : k < n
            · rw [hall k hkn]; simp [hkn]
            · have hko : k < ops.size := by have := hk 0 (by simp); simpa using this
              rw [getD_both (inv.tail k (by omega) hko)]; simp [hkn]
          rw [e]
          exact ih (k + 1) _ (fun j hj => by have := hk (j + 1) (by simp; omega); omega)
      rw [hgo _ 0 a0 (fun j hj => by simpa using hj)]
      have hfuel : fuel = (ops.toList.drop n).length := by
        rw [← hc, hcan]
        simp [List.count_append, List.count_replicate]
      have eL : (fun j => listed.getD j false) = (fun j => decide (j < n)) := by
        funext k
        by_cases hkn : k < n
        · rw [hall k hkn]; simp [hkn]
        · by_cases hko : k < ops.size
          · rw [getD_both (inv.tail k (by omega) hko)]; simp [hkn]
          · have : ¬ k < listed.size := by rw [inv.size]; exact hko
            simp [Array.getD, this, hkn]
      rw [eL] at hi
      have h2 := hend f w hi
      rw [hfuel]
      refine wpAny_of_seq (ops.toList.drop n) n listed _ w (fun j => by simp) ?_ h2
      rw [hcan]
      simpa using hseq
    · omega
  intro fuel
  induction fuel with
  | zero =>
    intro listed f w hc inv hi
    refine hdone 0 listed f w hc inv hi fun i hin => ?_
    cases hl : listed.getD i false with
    | true => rfl
    | false =>
      exfalso
      have hlt : i < listed.size := by rw [inv.size]; omega
      have hm : false ∈ listed.toList := by
        simp [hlt] at hl
        rw [← hl]
        exact Array.getElem_mem_toList hlt
      have := List.count_pos_iff.2 hm
      omega
  | succ fuel ih =>
    intro listed f w hc inv hi
    by_cases hall : ∀ i, i < n → listed.getD i false = true
    · exact hdone _ listed f w hc inv hi hall
    obtain ⟨i0, hi0, hl0⟩ : ∃ i, i < n ∧ listed.getD i false = false := by
      refine Classical.byContradiction fun hno => hall fun i hin => ?_
      cases hl : listed.getD i false with
      | true => rfl
      | false => exact absurd ⟨i, hin, hl⟩ hno
    have hl0' : listed.getD i0 true = false := getD_in (by rw [inv.size]; omega) hl0
    have hlow : ∀ i ∈ Region.ready .any ops listed, i < n := by
      intro i hmem
      rcases htail with h | ⟨h1, h2, h3⟩
      · obtain ⟨_, o, ho, _⟩ := ready_free hmem
        have := (Array.getElem?_eq_some_iff.1 ho).1
        omega
      · rcases Nat.lt_or_ge i n with h | h
        · exact h
        · exact absurd hmem (tail_waits h2 h3 h1 inv _ i0 rfl hi0 hl0' i h)
    refine ⟨fun hr => ?_, fun i hmem => ?_⟩
    · exfalso
      have hall : ∀ m i, i < m → i < n → listed.getD i false = true := by
        intro m
        induction m with
        | zero => intro i h; omega
        | succ m ih =>
          intro i him hin
          by_cases hl : listed.getD i false = true
          · exact hl
          · exfalso
            have hio : i < ops.size := by omega
            have hmem : i ∈ Region.ready .any ops listed := by
              refine mem_ready.2 ⟨?_, ops[i], Array.getElem?_eq_getElem hio, fun e he hb => ?_⟩
              · exact getD_in (by rw [inv.size]; omega) (by simpa using hl)
              · have hw := (waits_of hW (Array.getElem?_eq_getElem hio)).1 e.on (List.mem_map.2 ⟨e, List.mem_filter.2 ⟨by simpa using he, hb⟩, rfl⟩)
                exact ih e.on (by omega) (by omega)
            rw [hr] at hmem
            cases hmem
      rw [hall (i0 + 1) i0 (by omega) hi0] at hl0
      cases hl0
    obtain ⟨hfree, o, ho, hdeps⟩ := ready_free hmem
    have hin := hlow i hmem
    have hlt : i < ops.size := (Array.getElem?_eq_some_iff.1 ho).1
    have hli : listed.getD i false = false := getD_both hfree
    have hst := hstep i o hin ho (fun j => listed.getD j false) f w hi hli hdeps
    have hex := exec_actGo hA o (Region.noSelect_spec hsel i o · · ho) (fun j => listed.getD j false) (fun j => (depsOf o).contains j) f (fun j hj => hdeps j (by simpa using hj))
      (fun j oj hj hL hM => (waits_of hW ho).2 j oj hj (by simpa using hM) (fun e => by rw [e] at hL; rw [hli] at hL; cases hL)) ops.toList 0 a0 (fun j => by simp)
    have hcount : (listed.setIfInBounds i true).toList.count false = fuel := by
      have hll : i < listed.toList.length := by rw [Array.length_toList, inv.size]; omega
      have hg : listed.toList[i] = false := by
        have : i < listed.size := by rw [inv.size]; omega
        simp [this] at hli
        simpa using hli
      rw [Array.toList_setIfInBounds, List.count_set hll]
      simp only [hg, beq_self_eq_true, if_true]
      have : (true == false) = false := rfl
      simp only [this, Bool.false_eq_true, if_false]
      omega
    have hnext : ∀ v w', J (plus (fun j => listed.getD j false) i) (updV f i v) w' → wpAny P .any ops Q fuel (listed.setIfInBounds i true) ((actGo (fun j => listed.getD j false) f ops.toList 0 a0).put o.dst v) w' := by
      intro v w' hRi
      have hset : ∀ j, (listed.setIfInBounds i true).getD j false = (if j = i then true else listed.getD j false) := by
        intro j
        by_cases hj : j = i
        · subst hj
          have : j < listed.size := by rw [inv.size]; omega
          simp [this]
        · rw [if_neg hj]; exact getD_set_ne false (Ne.symm hj)
      rw [← actGo_set hA (fun j => listed.getD j false) (fun j => (listed.setIfInBounds i true).getD j false) f i o v ho hli hset ops.toList 0 a0 (fun j => by simp) (by omega) (by simpa using hlt)]
      refine ih _ _ _ hcount (inv.set hmem hin) ?_
      rw [funext hset]
      exact hRi
    unfold wpOp
    simp only [ho]
    rw [hex.2]
    split
    · next hw =>
      rw [if_pos hw] at hst
      refine .inl ?_
      unfold Oper.wp
      rw [hex.1]
      exact upon_of_uponV hnext _ hst
    · next hw =>
      rw [if_neg hw] at hst
      exact hnext _ _ hst

theorem wp_region_inv {id : Nat} {Q : Exit → Act → World → Prop} {a0 : Act} {w : World} {l : List Oper} {J : (Nat → Bool) → (Nat → Value) → World → Prop} (n : Nat) (hn : n ≤ l.length)
    (hm : P.follows .mixedOrders = true) (hsel : Region.noSelect l.toArray = true) (hA : Apart l.toArray) (hW : waitsB l.toArray = true)
    (htail : n = l.toArray.size ∨ (n < l.toArray.size ∧ Region.sinkB .any l.toArray n = true ∧ Region.chainB .any l.toArray n = true)) (hseq : Region.seqB .any l.toArray (l.toArray.size - n) n (List.replicate n true ++ List.replicate (l.toArray.size - n) false).toArray = true)
    (h0 : J (fun _ => false) (fun _ => undef) w.drew)
    (hstep : ∀ i o, i < n → l[i]? = some o → StepOk P l.toArray a0 J i o)
    (hend : ∀ f w, J (fun j => decide (j < n)) f w → wpList P l.toArray Q (l.drop n) (actGo (fun j => decide (j < n)) f l 0 a0) w) : (Code.region id l.toArray true).wp P Q a0 w := by
  refine wp_region_any hm ?_
  have := wpAny_inv (P := P) (ops := l.toArray) (Q := Q) (a0 := a0) (J := J) n (by simpa using hn) hsel hA hW htail hseq
    (fun i o h1 h2 => hstep i o h1 (by simpa using h2)) (fun f w h1 => by simpa using hend f w h1) l.toArray.size (Array.replicate l.toArray.size false) (fun _ => undef) w.drew (by simp)
    ⟨by simp, fun j oj hj hl => (by rw [getD_replicate_false] at hl; cases hl), fun t _ ht => (by have : t < l.length := (by simpa using ht); simp [this])⟩ (by rw [funext (getD_replicate_false _)]; exact h0)
  rw [show actGo (fun j => (Array.replicate l.toArray.size false).getD j false) (fun _ => undef) l.toArray.toList 0 a0 = a0 from ?_] at this
  · exact this
  · have hz : ∀ (l' : List Oper) (k : Nat) (a : Act), actGo (fun j => (Array.replicate l.toArray.size false).getD j false) (fun _ => undef) l' k a = a := by
      intro l'
      induction l' with
      | nil => intro k a; rfl
      | cons o l' ih => intro k a; unfold actGo; rw [ih, getD_replicate_false]; rfl
    exact hz _ _ _
end
end Go.Proofs.YtajoihpjnnnkeaaDoor
