/- A region that draws its order, by what each operation leaves: one walk an operation, whatever the order. No program here. Then: A region that draws its order, one walk: what is steady by its value, what is loose (an allocation, a store, a call that writes) by its own post. No program here. -/
import Derived.Test.YtlgcdneiebjkcaaGreatDoorFinServeNewQ1
import Derived.BigQuiet
import Derived.StillTail
set_option linter.unusedVariables false
namespace Go.Proofs.YtlgcdneiebjkcaaGreatDoor
open Go
section
variable {P : Program} {ops : Array Oper}
def updV (f : Nat → Value) (i : Nat) (v : Value) (j : Nat) : Value := if j = i then v else f j
theorem updV_same (f : Nat → Value) (i : Nat) (v : Value) : updV f i v i = v := if_pos rfl
theorem updV_ne {f : Nat → Value} {i j : Nat} {v : Value} (h : j ≠ i) : updV f i v j = f j := if_neg h
def actGo (L : Nat → Bool) (f : Nat → Value) : List Oper → Nat → Act → Act
  | [], _, a => a
  | o :: l, k, a => actGo L f l (k + 1) (if L k then a.put o.dst (f k) else a)
def Apart (ops : Array Oper) : Prop := ∀ (i j : Nat) (oi oj : Oper), ops[i]? = some oi → ops[j]? = some oj → i ≠ j → ∀ d, oi.dst = some d → oj.dst ≠ some d
def apartB (ops : Array Oper) : Bool := (List.range ops.size).all fun i => (List.range ops.size).all fun j => i == j || (match (ops[i]?).bind (·.dst), (ops[j]?).bind (·.dst) with | some d, some e => d != e | _, _ => true)
theorem apart_of (h : apartB ops = true) : Apart ops := by
  intro i j oi oj hi hj hne d hd he
  have hil := (Array.getElem?_eq_some_iff.1 hi).1
  have hjl := (Array.getElem?_eq_some_iff.1 hj).1
  unfold apartB at h
  rw [List.all_eq_true] at h
  have h1 := h i (List.mem_range.2 hil)
  rw [List.all_eq_true] at h1
  have h2 := h1 j (List.mem_range.2 hjl)
  rw [hi, hj] at h2
  simp [hd, he, hne] at h2
theorem actGo_put (hA : Apart ops) (L : Nat → Bool) (f : Nat → Value) : ∀ (l : List Oper) (k : Nat) (a : Act) (i : Nat) (oi : Oper) (v : Value), (∀ j, l[j]? = ops[k + j]?) → ops[i]? = some oi → i < k → actGo L f l k (a.put oi.dst v) = (actGo L f l k a).put oi.dst v
  | [], _, _, _, _, _, _, _, _ => rfl
  | o :: l, k, a, i, oi, v, hl, hi, hk => by
    have h0 : ops[k]? = some o := by simpa using (hl 0).symm
    have hl' : ∀ j, l[j]? = ops[k + 1 + j]? := fun j => by have := hl (j + 1); simpa [Nat.add_assoc, Nat.add_comm 1 j] using this
    unfold actGo
    rw [← actGo_put hA L f l (k + 1) _ i oi v hl' hi (by omega)]
    congr 1
    split
    · exact Act.put_comm a v (f k) (fun d hd => hA i k oi o hi h0 (by omega) d hd)
    · rfl
theorem actGo_same (L M : Nat → Bool) (f g : Nat → Value) : ∀ (l : List Oper) (k : Nat) (a : Act), (∀ j, k ≤ j → L j = M j) → (∀ j, k ≤ j → f j = g j) → actGo L f l k a = actGo M g l k a
  | [], _, _, _, _ => rfl
  | o :: l, k, a, h1, h2 => by
    unfold actGo
    rw [h1 k (Nat.le_refl _), h2 k (Nat.le_refl _)]
    exact actGo_same L M f g l (k + 1) _ (fun j hj => h1 j (by omega)) (fun j hj => h2 j (by omega))
theorem actGo_set (hA : Apart ops) (L M : Nat → Bool) (f : Nat → Value) (i : Nat) (oi : Oper) (v : Value) (hi : ops[i]? = some oi) (hL : L i = false) (hM : ∀ j, M j = (if j = i then true else L j)) : ∀ (l : List Oper) (k : Nat) (a : Act), (∀ j, l[j]? = ops[k + j]?) → k ≤ i → i < k + l.length → actGo M (updV f i v) l k a = (actGo L f l k a).put oi.dst v
  | [], k, _, _, h1, h2 => by simp at h2; omega
  | o :: l, k, a, hl, h1, h2 => by
    have h0 : ops[k]? = some o := by simpa using (hl 0).symm
    have hl' : ∀ j, l[j]? = ops[k + 1 + j]? := fun j => by have := hl (j + 1); simpa [Nat.add_assoc, Nat.add_comm 1 j] using this
    unfold actGo
    by_cases hk : k = i
    · subst hk
      rw [hi] at h0
      cases h0
      rw [hM, if_pos rfl, updV_same, hL]
      simp only [if_true, Bool.false_eq_true, if_false]
      rw [actGo_put hA M (updV f k v) l (k + 1) a k oi v hl' hi (by omega)]
      congr 1
      exact actGo_same M L (updV f k v) f l (k + 1) a (fun j hj => by rw [hM, if_neg (by omega)]) (fun j hj => updV_ne (by omega))
    · rw [hM, if_neg hk, updV_ne hk]
      exact actGo_set hA L M f i oi v hi hL hM l (k + 1) _ hl' (by omega) (by simp only [List.length_cons] at h2; omega)
theorem exec_actGo (hA : Apart ops) (o : Oper) (hsel : ∀ cs b, o.op ≠ .select cs b) (L M : Nat → Bool) (f : Nat → Value) (hML : ∀ j, M j = true → L j = true) (hfree : ∀ j oj, ops[j]? = some oj → L j = true → M j = false → ∀ d, oj.dst = some d → d ∉ o.looksAt ops) : ∀ (l : List Oper) (k : Nat) (a : Act), (∀ j, l[j]? = ops[k + j]?) →
    execOp (actGo L f l k a).eval o = execOp (actGo M f l k a).eval o ∧ Region.wanted o (yielded ops (actGo L f l k a).tmps) = Region.wanted o (yielded ops (actGo M f l k a).tmps)
  | [], _, _, _ => ⟨rfl, rfl⟩
  | oj :: l, k, a, hl => by
    have h0 : ops[k]? = some oj := by simpa using (hl 0).symm
    have hl' : ∀ j, l[j]? = ops[k + 1 + j]? := fun j => by have := hl (j + 1); simpa [Nat.add_assoc, Nat.add_comm 1 j] using this
    unfold actGo
    cases hm : M k with
    | true => rw [hML k hm]; exact exec_actGo hA o hsel L M f hML hfree l (k + 1) _ hl'
    | false =>
      cases hL : L k with
      | false => exact exec_actGo hA o hsel L M f hML hfree l (k + 1) _ hl'
      | true =>
        simp only [if_true, Bool.false_eq_true, if_false]
        rw [actGo_put hA L f l (k + 1) a k oj (f k) hl' h0 (by omega), execOp_put o hsel _ _ _ (hfree k oj h0 hL hm), wanted_put o _ _ _ (hfree k oj h0 hL hm)]
        exact exec_actGo hA o hsel L M f hML hfree l (k + 1) _ hl'
def uponV (P : Program) (K : Value → World → Prop) : Result Next → Prop
  | .ok (.value u) w' => K u w'
  | .ok .skip w' => K undef w'
  | .ok (.enter f args) w' => Calls P f args w' (fun e w'' => ∃ v, e = .returned v ∧ K v w'')
  | _ => False
theorem upon_of_uponV {o : Oper} {a : Act} {K : Value → World → Prop} {next : Act → World → Prop} {Q : Exit → Act → World → Prop} (h : ∀ v w', K v w' → next (a.put o.dst v) w') : ∀ r, uponV P K r → o.upon P a next Q r
  | .ok (.value u) w', hr => h u w' hr
  | .ok .skip w', hr => h _ w' hr
  | .ok (.enter f args) w', hr => by
    refine Calls.mono hr fun e w'' he => ?_
    obtain ⟨v, rfl, hv⟩ := he
    exact h v w'' hv
  | .ok (.defer d) w', hr => hr.elim
  | .ok (.row row args) w', hr => hr.elim
  | .halt x w', hr => hr.elim
def depsOf (o : Oper) : List Nat := (o.after.toList.filter (Region.binds .any)).map (·.on)
def waitsB (ops : Array Oper) (n : Nat) : Bool := (List.range ops.size).all fun i => match ops[i]? with
  | none => true
  | some o => (depsOf o).all (fun j => decide (j < i)) && (List.range n).all fun j => match (ops[j]?).bind (·.dst) with
    | none => true
    | some d => (depsOf o).contains j || j == i || !(o.looksAt ops).contains d
theorem waits_of {n : Nat} (h : waitsB ops n = true) {i : Nat} {o : Oper} (hi : ops[i]? = some o) : (∀ j ∈ depsOf o, j < i) ∧ ∀ j oj, j < n → ops[j]? = some oj → j ∉ depsOf o → j ≠ i → ∀ d, oj.dst = some d → d ∉ o.looksAt ops := by
  have hil := (Array.getElem?_eq_some_iff.1 hi).1
  unfold waitsB at h
  rw [List.all_eq_true] at h
  have h1 := h i (List.mem_range.2 hil)
  rw [hi] at h1
  simp only [Bool.and_eq_true, List.all_eq_true, decide_eq_true_eq] at h1
  refine ⟨h1.1, fun j oj hjn hj hnd hne d hd hmem => ?_⟩
  have h2 := h1.2 j (List.mem_range.2 hjn)
  rw [hj] at h2
  simp [hd, hnd, hne, hmem] at h2
abbrev plus (L : Nat → Bool) (i : Nat) (j : Nat) : Bool := if j = i then true else L j
def StepOk (P : Program) (ops : Array Oper) (a0 : Act) (J : (Nat → Bool) → (Nat → Value) → World → Prop) (i : Nat) (o : Oper) : Prop :=
  ∀ (L : Nat → Bool) (f : Nat → Value) (w : World), J L f w → L i = false → (∀ j ∈ depsOf o, L j = true) →
    if Region.wanted o (yielded ops (actGo (fun j => (depsOf o).contains j) f ops.toList 0 a0).tmps) = true then
      uponV P (fun v w' => J (plus L i) (updV f i v) w') ((execOp (actGo (fun j => (depsOf o).contains j) f ops.toList 0 a0).eval o).run P w)
    else J (plus L i) (updV f i undef) w
theorem ready_free {listed : Array Bool} {i : Nat} (h : i ∈ Region.ready .any ops listed) : listed.getD i true = false ∧ ∃ o, ops[i]? = some o ∧ ∀ j ∈ depsOf o, listed.getD j false = true := by
  obtain ⟨h1, o, h2, h3⟩ := mem_ready.1 h
  refine ⟨h1, o, h2, fun j hj => ?_⟩
  obtain ⟨e, he, rfl⟩ := List.mem_map.1 hj
  obtain ⟨he1, he2⟩ := List.mem_filter.1 he
  exact h3 e (by simpa using he1) he2
theorem canon_of {n : Nat} {listed : Array Bool} (inv : HeadInv .any ops n listed) (hall : ∀ i, i < n → listed.getD i false = true) : listed = (List.replicate n true ++ List.replicate (ops.size - n) false).toArray ∨ ops.size < n := by
  by_cases hn : ops.size < n
  · exact .inr hn
  refine .inl (Array.ext_getElem? fun i => ?_)
  have e2 : (List.replicate n true ++ List.replicate (ops.size - n) false).toArray[i]? = (List.replicate n true ++ List.replicate (ops.size - n) false)[i]? := by simp
  rw [e2]
  by_cases h1 : i < n
  · have hs : i < listed.size := by rw [inv.size]; omega
    have := hall i h1
    simp [hs] at this
    rw [List.getElem?_append_left (by simpa using h1), List.getElem?_replicate, if_pos h1, Array.getElem?_eq_getElem hs, this]
  · rw [List.getElem?_append_right (by simpa using h1), List.length_replicate, List.getElem?_replicate]
    by_cases h2 : i < ops.size
    · have hs : i < listed.size := by rw [inv.size]; omega
      have := inv.tail i (by omega) h2
      simp [hs] at this
      rw [if_pos (by omega), Array.getElem?_eq_getElem hs, this]
    · rw [if_neg (by omega), Array.getElem?_eq_none (by rw [inv.size]; omega)]
theorem wpAny_inv {Q : Exit → Act → World → Prop} {a0 : Act} {J : (Nat → Bool) → (Nat → Value) → World → Prop} (n : Nat) (hn : n ≤ ops.size) (hsel : Region.noSelect ops = true) (hA : Apart ops) (hW : waitsB ops n = true)
    (htail : n = ops.size ∨ (n < ops.size ∧ Region.sinkB .any ops n = true ∧ Region.chainB .any ops n = true)) (hseq : Region.seqB .any ops (ops.size - n) n (List.replicate n true ++ List.replicate (ops.size - n) false).toArray = true)
    (hstep : ∀ i o, i < n → ops[i]? = some o → StepOk P ops a0 J i o)
    (hend : ∀ f w, J (fun j => decide (j < n)) f w → wpList P ops Q (ops.toList.drop n) (actGo (fun j => decide (j < n)) f ops.toList 0 a0) w) :
    ∀ (fuel : Nat) (listed : Array Bool) (f : Nat → Value) (w : World), listed.toList.count false = fuel → HeadInv .any ops n listed → J (fun j => listed.getD j false) f w →
      wpAny P .any ops Q fuel listed (actGo (fun j => listed.getD j false) f ops.toList 0 a0) w := by
  have hdone : ∀ (fuel : Nat) (listed : Array Bool) (f : Nat → Value) (w : World), listed.toList.count false = fuel → HeadInv .any ops n listed → J (fun j => listed.getD j false) f w → (∀ i, i < n → listed.getD i false = true) →
      wpAny P .any ops Q fuel listed (actGo (fun j => listed.getD j false) f ops.toList 0 a0) w := by
    intro fuel listed f w hc inv hi hall
    rcases canon_of inv hall with hcan | h
    · have hgo : ∀ (l : List Oper) (k : Nat) (a : Act), (∀ j, j < l.length → k + j < ops.size) → actGo (fun j => listed.getD j false) f l k a = actGo (fun j => decide (j < n)) f l k a := by
        intro l
        induction l with
        | nil => intro k a _; rfl
        | cons o l ih =>
          intro k a hk
          unfold actGo
          have e : listed.getD k false = decide (k < n) := by
            by_cases hkn : k < n
            · rw [hall k hkn]; simp [hkn]
            · have hko : k < ops.size := by have := hk 0 (by simp); simpa using this
              rw [getD_both (inv.tail k (by omega) hko)]; simp [hkn]
          rw [e]
          exact ih (k + 1) _ (fun j hj => by have := hk (j + 1) (by simp; omega); omega)
      rw [hgo _ 0 a0 (fun j hj => by simpa using hj)]
      have hfuel : fuel = (ops.toList.drop n).length := by
        rw [← hc, hcan]
        simp [List.count_append, List.count_replicate]
      have eL : (fun j => listed.getD j false) = (fun j => decide (j < n)) := by
        funext k
        by_cases hkn : k < n
        · rw [hall k hkn]; simp [hkn]
        · by_cases hko : k < ops.size
          · rw [getD_both (inv.tail k (by omega) hko)]; simp [hkn]
          · have : ¬ k < listed.size := by rw [inv.size]; exact hko
            simp [Array.getD, this, hkn]
      rw [eL] at hi
      have h2 := hend f w hi
      rw [hfuel]
      refine wpAny_of_seq (ops.toList.drop n) n listed _ w (fun j => by simp) ?_ h2
      rw [hcan]
      simpa using hseq
    · omega
  intro fuel
  induction fuel with
  | zero =>
    intro listed f w hc inv hi
    refine hdone 0 listed f w hc inv hi fun i hin => ?_
    cases hl : listed.getD i false with
    | true => rfl
    | false =>
      exfalso
      have hlt : i < listed.size := by rw [inv.size]; omega
      have hm : false ∈ listed.toList := by
        simp [hlt] at hl
        rw [← hl]
        exact Array.getElem_mem_toList hlt
      have := List.count_pos_iff.2 hm
      omega
  | succ fuel ih =>
    intro listed f w hc inv hi
    by_cases hall : ∀ i, i < n → listed.getD i false = true
    · exact hdone _ listed f w hc inv hi hall
    obtain ⟨i0, hi0, hl0⟩ : ∃ i, i < n ∧ listed.getD i false = false := by
      refine Classical.byContradiction fun hno => hall fun i hin => ?_
      cases hl : listed.getD i false with
      | true => rfl
      | false => exact absurd ⟨i, hin, hl⟩ hno
    have hl0' : listed.getD i0 true = false := getD_in (by rw [inv.size]; omega) hl0
    have hlow : ∀ i ∈ Region.ready .any ops listed, i < n := by
      intro i hmem
      rcases htail with h | ⟨h1, h2, h3⟩
      · obtain ⟨_, o, ho, _⟩ := ready_free hmem
        have := (Array.getElem?_eq_some_iff.1 ho).1
        omega
      · rcases Nat.lt_or_ge i n with h | h
        · exact h
        · exact absurd hmem (tail_waits h2 h3 h1 inv _ i0 rfl hi0 hl0' i h)
    refine ⟨fun hr => ?_, fun i hmem => ?_⟩
    · exfalso
      have hall : ∀ m i, i < m → i < n → listed.getD i false = true := by
        intro m
        induction m with
        | zero => intro i h; omega
        | succ m ih =>
          intro i him hin
          by_cases hl : listed.getD i false = true
          · exact hl
          · exfalso
            have hio : i < ops.size := by omega
            have hmem : i ∈ Region.ready .any ops listed := by
              refine mem_ready.2 ⟨?_, ops[i], Array.getElem?_eq_getElem hio, fun e he hb => ?_⟩
              · exact getD_in (by rw [inv.size]; omega) (by simpa using hl)
              · have hw := (waits_of hW (Array.getElem?_eq_getElem hio)).1 e.on (List.mem_map.2 ⟨e, List.mem_filter.2 ⟨by simpa using he, hb⟩, rfl⟩)
                exact ih e.on (by omega) (by omega)
            rw [hr] at hmem
            cases hmem
      rw [hall (i0 + 1) i0 (by omega) hi0] at hl0
      cases hl0
    obtain ⟨hfree, o, ho, hdeps⟩ := ready_free hmem
    have hin := hlow i hmem
    have hlt : i < ops.size := (Array.getElem?_eq_some_iff.1 ho).1
    have hli : listed.getD i false = false := getD_both hfree
    have hst := hstep i o hin ho (fun j => listed.getD j false) f w hi hli hdeps
    have hex := exec_actGo hA o (Region.noSelect_spec hsel i o · · ho) (fun j => listed.getD j false) (fun j => (depsOf o).contains j) f (fun j hj => hdeps j (by simpa using hj))
      (fun j oj hj hL hM => (waits_of hW ho).2 j oj (Nat.lt_of_not_le fun hge => by rw [getD_both (inv.tail j hge (Array.getElem?_eq_some_iff.1 hj).1)] at hL; cases hL) hj (by simpa using hM) (fun e => by rw [e] at hL; rw [hli] at hL; cases hL)) ops.toList 0 a0 (fun j => by simp)
    have hcount : (listed.setIfInBounds i true).toList.count false = fuel := by
      have hll : i < listed.toList.length := by rw [Array.length_toList, inv.size]; omega
      have hg : listed.toList[i] = false := by
        have : i < listed.size := by rw [inv.size]; omega
        simp [this] at hli
        simpa using hli
      rw [Array.toList_setIfInBounds, List.count_set hll]
      simp only [hg, beq_self_eq_true, if_true]
      have : (true == false) = false := rfl
      simp only [this, Bool.false_eq_true, if_false]
      omega
    have hnext : ∀ v w', J (plus (fun j => listed.getD j false) i) (updV f i v) w' → wpAny P .any ops Q fuel (listed.setIfInBounds i true) ((actGo (fun j => listed.getD j false) f ops.toList 0 a0).put o.dst v) w' := by
      intro v w' hRi
      have hset : ∀ j, (listed.setIfInBounds i true).getD j false = (if j = i then true else listed.getD j false) := by
        intro j
        by_cases hj : j = i
        · subst hj
          have : j < listed.size := by rw [inv.size]; omega
          simp [this]
        · rw [if_neg hj]; exact getD_set_ne false (Ne.symm hj)
      rw [← actGo_set hA (fun j => listed.getD j false) (fun j => (listed.setIfInBounds i true).getD j false) f i o v ho hli hset ops.toList 0 a0 (fun j => by simp) (by omega) (by simpa using hlt)]
      refine ih _ _ _ hcount (inv.set hmem hin) ?_
      rw [funext hset]
      exact hRi
    unfold wpOp
    simp only [ho]
    rw [hex.2]
    split
    · next hw =>
      rw [if_pos hw] at hst
      refine .inl ?_
      unfold Oper.wp
      rw [hex.1]
      exact upon_of_uponV hnext _ hst
    · next hw =>
      rw [if_neg hw] at hst
      exact hnext _ _ hst
theorem wp_region_inv {id : Nat} {Q : Exit → Act → World → Prop} {a0 : Act} {w : World} {l : List Oper} {J : (Nat → Bool) → (Nat → Value) → World → Prop} (n : Nat) (hn : n ≤ l.length)
    (hm : P.follows .mixedOrders = true) (hsel : Region.noSelect l.toArray = true) (hA : Apart l.toArray) (hW : waitsB l.toArray n = true)
    (htail : n = l.toArray.size ∨ (n < l.toArray.size ∧ Region.sinkB .any l.toArray n = true ∧ Region.chainB .any l.toArray n = true)) (hseq : Region.seqB .any l.toArray (l.toArray.size - n) n (List.replicate n true ++ List.replicate (l.toArray.size - n) false).toArray = true)
    (h0 : J (fun _ => false) (fun _ => undef) w.drew)
    (hstep : ∀ i o, i < n → l[i]? = some o → StepOk P l.toArray a0 J i o)
    (hend : ∀ f w, J (fun j => decide (j < n)) f w → wpList P l.toArray Q (l.drop n) (actGo (fun j => decide (j < n)) f l 0 a0) w) : (Code.region id l.toArray true).wp P Q a0 w := by
  refine wp_region_any hm ?_
  have := wpAny_inv (P := P) (ops := l.toArray) (Q := Q) (a0 := a0) (J := J) n (by simpa using hn) hsel hA hW htail hseq
    (fun i o h1 h2 => hstep i o h1 (by simpa using h2)) (fun f w h1 => by simpa using hend f w h1) l.toArray.size (Array.replicate l.toArray.size false) (fun _ => undef) w.drew (by simp)
    ⟨by simp, fun j oj hj hl => (by rw [getD_replicate_false] at hl; cases hl), fun t _ ht => (by have : t < l.length := (by simpa using ht); simp [this])⟩ (by rw [funext (getD_replicate_false _)]; exact h0)
  rw [show actGo (fun j => (Array.replicate l.toArray.size false).getD j false) (fun _ => undef) l.toArray.toList 0 a0 = a0 from ?_] at this
  · exact this
  · have hz : ∀ (l' : List Oper) (k : Nat) (a : Act), actGo (fun j => (Array.replicate l.toArray.size false).getD j false) (fun _ => undef) l' k a = a := by
      intro l'
      induction l' with
      | nil => intro k a; rfl
      | cons o l' ih => intro k a; unfold actGo; rw [ih, getD_replicate_false]; rfl
    exact hz _ _ _
end
end Go.Proofs.YtlgcdneiebjkcaaGreatDoor
namespace Go.Proofs.YtlgcdneiebjkcaaGreatDoor
open Go
section
variable {P : Program} {ops : Array Oper}
theorem actGo_cons (L : Nat → Bool) (f : Nat → Value) (o : Oper) (l : List Oper) (k : Nat) (a : Act) : actGo L f (o :: l) k a = actGo L f l (k + 1) (if L k then a.put o.dst (f k) else a) := rfl
theorem actGo_none (L : Nat → Bool) (f : Nat → Value) : ∀ (l : List Oper) (k : Nat) (a : Act), (∀ j, k ≤ j → L j = false) → actGo L f l k a = a
  | [], _, _, _ => rfl
  | o :: l, k, a, h => by
    unfold actGo
    rw [h k (Nat.le_refl _)]
    exact actGo_none L f l (k + 1) a (fun j hj => h j (by omega))
theorem actGo_on (L M : Nat → Bool) (f g : Nat → Value) : ∀ (l : List Oper) (k : Nat) (a : Act), (∀ j, k ≤ j → j < k + l.length → L j = M j) → (∀ j, k ≤ j → j < k + l.length → L j = true → f j = g j) → actGo L f l k a = actGo M g l k a
  | [], _, _, _, _ => rfl
  | o :: l, k, a, h1, h2 => by
    unfold actGo
    have hk := h1 k (Nat.le_refl _) (by simp)
    rw [← hk]
    have e : (if L k = true then a.put o.dst (f k) else a) = (if L k = true then a.put o.dst (g k) else a) := by
      by_cases h : L k = true
      · rw [if_pos h, if_pos h, h2 k (Nat.le_refl _) (by simp) h]
      · rw [if_neg h, if_neg h]
    rw [e]
    exact actGo_on L M f g l (k + 1) _ (fun j hj hl => h1 j (by omega) (by simp only [List.length_cons]; omega)) (fun j hj hl => h2 j (by omega) (by simp only [List.length_cons]; omega))
theorem actGo_union (hA : Apart ops) (A B : Nat → Bool) (f g : Nat → Value) (hAB : ∀ j, A j = true → B j = false) : ∀ (l : List Oper) (k : Nat) (a : Act), (∀ j, l[j]? = ops[k + j]?) → actGo B f l k (actGo A g l k a) = actGo (fun j => A j || B j) (fun j => if B j then f j else g j) l k a
  | [], _, _, _ => rfl
  | o :: l, k, a, hl => by
    have h0 : ops[k]? = some o := by simpa using (hl 0).symm
    have hl' : ∀ j, l[j]? = ops[k + 1 + j]? := fun j => by have := hl (j + 1); simpa [Nat.add_assoc, Nat.add_comm 1 j] using this
    have IH := actGo_union hA A B f g hAB l (k + 1)
    rw [actGo_cons B, actGo_cons A, actGo_cons]
    cases hb : B k with
    | true =>
      have ha : A k = false := by
        cases ha : A k with
        | false => rfl
        | true => rw [hAB k ha] at hb; cases hb
      simp only [ha, Bool.false_eq_true, if_false, if_true, Bool.or_true]
      rw [← actGo_put hA A g l (k + 1) a k o (f k) hl' h0 (by omega)]
      rw [IH _ hl']
    | false =>
      simp only [Bool.false_eq_true, if_false, Bool.or_false]
      rw [IH _ hl']
theorem uponV_mono {K K' : Value → World → Prop} (h : ∀ v w, K v w → K' v w) : ∀ r, uponV P K r → uponV P K' r
  | .ok (.value u) w', hr => h u w' hr
  | .ok .skip w', hr => h _ w' hr
  | .ok (.enter f args) w', hr => Calls.mono hr fun _ _ ⟨v, h1, h2⟩ => ⟨v, h1, h v _ h2⟩
  | .ok (.defer d) w', hr => hr.elim
  | .ok (.row row args) w', hr => hr.elim
  | .halt x w', hr => hr.elim
def Steady (P : Program) (I : World → Prop) (T : World → World → Prop) (o : Oper) (a : Act) (v : Value) : Prop :=
  ∀ w, I w → uponV P (fun u w' => T w w' ∧ u = v) ((execOp a.eval o).run P w)
def wpMix (P : Program) (ops : Array Oper) (n : Nat) (Z : List Nat) (I : World → Prop) (T : World → World → Prop) (K : Act → Prop) : List Oper → Nat → Act → Prop
  | [], _, a => K a
  | o :: l, k, a => if decide (k < n) = true then (if Z.contains k = true then wpMix P ops n Z I T K l (k + 1) a else if Region.wanted o (yielded ops a.tmps) = true then ∃ v, Steady P I T o a v ∧ wpMix P ops n Z I T K l (k + 1) (a.put o.dst v) else wpMix P ops n Z I T K l (k + 1) (a.put o.dst undef)) else K a
abbrev quietL (n : Nat) (Z : List Nat) (j : Nat) : Bool := decide (j < n) && !Z.contains j
theorem quietL_ge (n : Nat) (Z : List Nat) {j : Nat} (h : n ≤ j) : quietL n Z j = false := by
  have : decide (j < n) = false := by simp; omega
  unfold quietL; rw [this]; rfl
theorem wpMix_spec {n : Nat} {Z : List Nat} {I : World → Prop} {T : World → World → Prop} {K : Act → Prop} : ∀ (l : List Oper) (k : Nat) (a : Act), wpMix P ops n Z I T K l k a →
    ∃ c : Nat → Value, K (actGo (quietL n Z) c l k a) ∧ ∀ i o, l[i]? = some o → k + i < n → Z.contains (k + i) = false →
      (Region.wanted o (yielded ops (actGo (quietL (k + i) Z) c l k a).tmps) = true ∧ Steady P I T o (actGo (quietL (k + i) Z) c l k a) (c (k + i))) ∨ (Region.wanted o (yielded ops (actGo (quietL (k + i) Z) c l k a).tmps) = false ∧ c (k + i) = undef)
  | [], k, a, h => ⟨fun _ => undef, h, fun i o hi => by simp at hi⟩
  | o :: l, k, a, h => by
    unfold wpMix at h
    by_cases hk : k < n
    · rw [if_pos (by simpa using hk)] at h
      by_cases hz : Z.contains k = true
      · rw [if_pos hz] at h
        obtain ⟨c, h1, h2⟩ := wpMix_spec l (k + 1) a h
        refine ⟨c, ?_, ?_⟩
        · unfold actGo
          have e : quietL n Z k = false := by unfold quietL; rw [hz]; simp
          rw [e]; exact h1
        · intro i o' hi hin hiz
          match i, hi with
          | 0, hi => rw [Nat.add_zero, hz] at hiz; cases hiz
          | i + 1, hi =>
            have e : k + (i + 1) = k + 1 + i := by omega
            have e2 : quietL (k + 1 + i) Z k = false := by unfold quietL; rw [hz]; simp
            have := h2 i o' (by simpa using hi) (by omega) (by rw [← e]; exact hiz)
            rw [e]
            unfold actGo
            rw [e2]
            exact this
      · rw [if_neg hz] at h
        have hz' : Z.contains k = false := by simpa using hz
        have key : ∀ v, wpMix P ops n Z I T K l (k + 1) (a.put o.dst v) → ((Region.wanted o (yielded ops a.tmps) = true ∧ Steady P I T o a v) ∨ (Region.wanted o (yielded ops a.tmps) = false ∧ v = undef)) →
            ∃ c : Nat → Value, K (actGo (quietL n Z) c (o :: l) k a) ∧ ∀ i o', (o :: l)[i]? = some o' → k + i < n → Z.contains (k + i) = false →
              (Region.wanted o' (yielded ops (actGo (quietL (k + i) Z) c (o :: l) k a).tmps) = true ∧ Steady P I T o' (actGo (quietL (k + i) Z) c (o :: l) k a) (c (k + i))) ∨ (Region.wanted o' (yielded ops (actGo (quietL (k + i) Z) c (o :: l) k a).tmps) = false ∧ c (k + i) = undef) := by
          intro v hv hs
          obtain ⟨c, h1, h2⟩ := wpMix_spec l (k + 1) _ hv
          refine ⟨updV c k v, ?_, ?_⟩
          · unfold actGo
            have e : quietL n Z k = true := by unfold quietL; rw [hz']; simpa using hk
            rw [e, updV_same]
            simp only [if_true]
            rw [actGo_same (quietL n Z) (quietL n Z) (updV c k v) c l (k + 1) _ (fun _ _ => rfl) (fun j hj => updV_ne (by omega))]
            exact h1
          · intro i o' hi hin hiz
            match i, hi with
            | 0, hi =>
              have : o = o' := by simpa using hi
              subst this
              rw [Nat.add_zero, actGo_none (quietL k Z) _ (o :: l) k a (fun j hj => quietL_ge k Z hj), updV_same]
              exact hs
            | i + 1, hi =>
              have e : k + (i + 1) = k + 1 + i := by omega
              have e2 : quietL (k + 1 + i) Z k = true := by unfold quietL; rw [hz']; simp; omega
              have := h2 i o' (by simpa using hi) (by omega) (by rw [← e]; exact hiz)
              rw [e, updV_ne (by omega : k + 1 + i ≠ k)]
              unfold actGo
              rw [e2, updV_same]
              simp only [if_true]
              rw [actGo_same (quietL (k + 1 + i) Z) (quietL (k + 1 + i) Z) (updV c k v) c l (k + 1) _ (fun _ _ => rfl) (fun j hj => updV_ne (by omega))]
              exact this
        split at h
        · next hw => obtain ⟨v, hv1, hv2⟩ := h; exact key v hv2 (.inl ⟨hw, hv1⟩)
        · next hw => exact key undef h (.inr ⟨by simpa using hw, rfl⟩)
    · rw [if_neg (by simpa using hk)] at h
      refine ⟨fun _ => undef, ?_, fun i o' _ hin _ => by omega⟩
      rw [actGo_none (quietL n Z) _ (o :: l) k a (fun j hj => quietL_ge n Z (by omega))]
      exact h
def mixB (ops : Array Oper) (n : Nat) (Z : List Nat) : Bool :=
  decide (n ≤ ops.size) && Region.noSelect ops && apartB ops && waitsB ops n && (decide (n = ops.size) || (decide (n < ops.size) && Region.sinkB .any ops n && Region.chainB .any ops n)) &&
  Region.seqB .any ops (ops.size - n) n (List.replicate n true ++ List.replicate (ops.size - n) false).toArray &&
  (Z.all fun i => decide (i < n)) &&
  ((List.range n).all fun i => Z.contains i || match ops[i]? with | none => true | some o => Z.all fun j => match (ops[j]?).bind (·.dst) with | none => true | some d => !(o.looksAt ops).contains d)
def LooseStep (P : Program) (l : List Oper) (Z : List Nat) (J : (Nat → Bool) → (Nat → Value) → World → Prop) (a : Act) (i : Nat) : Prop :=
  ∀ o, l[i]? = some o → ∀ (L : Nat → Bool) (f : Nat → Value) (w : World), J L f w → L i = false → (∀ j, Z.contains j = true → j ∈ depsOf o → L j = true) →
    if Region.wanted o (yielded l.toArray (actGo (fun j => Z.contains j && (depsOf o).contains j) f l 0 a).tmps) = true then
      uponV P (fun v w' => J (plus L i) (updV f i v) w') ((execOp (actGo (fun j => Z.contains j && (depsOf o).contains j) f l 0 a).eval o).run P w)
    else J (plus L i) (updV f i undef) w
def AllZ (p : Nat → Prop) : List Nat → Prop
  | [] => True
  | i :: l => p i ∧ AllZ p l
theorem allZ_mem {p : Nat → Prop} : ∀ {l : List Nat}, AllZ p l → ∀ i ∈ l, p i
  | _ :: l, h, i, hi => by
    rcases List.mem_cons.1 hi with rfl | hi
    · exact h.1
    · exact allZ_mem h.2 i hi
theorem loose_of {l : List Oper} {Z : List Nat} {J : (Nat → Bool) → (Nat → Value) → World → Prop} {a : Act} {i : Nat} {o : Oper} (ho : l[i]? = some o) (g : (Nat → Value) → Act → Act)
    (hg : ∀ f a, actGo (fun j => Z.contains j && (depsOf o).contains j) f l 0 a = g f a) (hw : ∀ f, Region.wanted o (yielded l.toArray (g f a).tmps) = true)
    (h : ∀ (L : Nat → Bool) (f : Nat → Value) (w : World), J L f w → L i = false → (∀ j, Z.contains j = true → j ∈ depsOf o → L j = true) → uponV P (fun v w' => J (plus L i) (updV f i v) w') ((execOp (g f a).eval o).run P w)) : LooseStep P l Z J a i := by
  intro o' ho' L f w hi hL hV
  have : o = o' := Option.some.inj (ho.symm.trans ho')
  subst this
  rw [hg, if_pos (hw f)]
  exact h L f w hi hL hV
theorem wp_region_mix {id : Nat} {Q : Exit → Act → World → Prop} {a0 : Act} {w : World} {l : List Oper} (n : Nat) (Z : List Nat) (I : World → Prop) (T : World → World → Prop) (J : (Nat → Bool) → (Nat → Value) → World → Prop) (g : (Nat → Value) → Act → Act)
    (hm : P.follows .mixedOrders = true) (hB : mixB l.toArray n Z = true) (hg : ∀ f a, actGo (fun j => Z.contains j) f l 0 a = g f a)
    (h0 : J (fun _ => false) (fun _ => undef) w.drew) (hI : ∀ L f w, J L f w → I w) (hT : ∀ w, T w w) (hmono : ∀ L f w w', J L f w → T w w' → J L f w')
    (h : wpMix P l.toArray n Z I T (fun a => AllZ (LooseStep P l Z J a) Z ∧ ∀ (f : Nat → Value) (w : World), J (fun j => Z.contains j) f w → wpList P l.toArray Q (l.drop n) (g f a) w) l 0 a0) :
    (Code.region id l.toArray true).wp P Q a0 w := by
  unfold mixB at hB
  simp only [Bool.and_eq_true, Bool.or_eq_true, decide_eq_true_eq] at hB
  obtain ⟨⟨⟨⟨⟨⟨⟨hn, hsel⟩, hAp⟩, hW⟩, htail⟩, hseq⟩, hZ⟩, hQ⟩ := hB
  have hA := apart_of hAp
  obtain ⟨c, ⟨hL, hE⟩, hS⟩ := wpMix_spec l 0 a0 h
  simp only [Nat.zero_add] at hS
  have hZn : ∀ i, Z.contains i = true → i < n := by
    intro i hi
    have h1 := List.all_eq_true.1 hZ i (by simpa using hi)
    simpa using h1
  have hQn : ∀ i o, l[i]? = some o → i < n → Z.contains i = false → ∀ j oj, l[j]? = some oj → Z.contains j = true → ∀ d, oj.dst = some d → d ∉ o.looksAt l.toArray := by
    intro i o ho hin hiz j oj hj hjz d hd hmem
    have h1 := List.all_eq_true.1 hQ i (List.mem_range.2 hin)
    have e : l.toArray[i]? = some o := by simpa using ho
    rw [hiz, e] at h1
    simp only [Bool.false_or] at h1
    have h2 := List.all_eq_true.1 h1 j (by simpa using hjz)
    have e2 : l.toArray[j]? = some oj := by simpa using hj
    rw [e2] at h2
    simp [hd, hmem] at h2
  -- what holds of all: the loose ones by J, the steady ones by their values
  refine wp_region_inv (J := fun L f w => (∀ j, j < n → L j = true → Z.contains j = false → f j = c j) ∧ J (fun j => Z.contains j && L j) (fun j => if Z.contains j = true then f j else undef) w) n (by simpa using hn) hm hsel hA hW
    (by rcases htail with h | ⟨⟨h1, h2⟩, h3⟩; exact .inl h; exact .inr ⟨h1, h2, h3⟩) hseq ⟨(fun j _ h => (by cases h)), ?_⟩ ?_ ?_
  · have e1 : (fun j => Z.contains j && false) = (fun _ => false) := funext fun j => Bool.and_false _
    have e2 : (fun j => if Z.contains j = true then undef else undef) = (fun _ : Nat => undef) := funext fun j => ite_self _
    rw [e1, e2]; exact h0
  · intro i o hin hio L f w hJ hLi hdeps
    obtain ⟨hR, hJZ⟩ := hJ
    have hi := hI _ _ _ hJZ
    have hoi : l.toArray[i]? = some o := by simpa using hio
    have hlt : i < l.length := (List.getElem?_eq_some_iff.1 hio).1
    obtain ⟨hw1, hw2⟩ := waits_of hW hoi
    by_cases hz : Z.contains i = true
    · have hLS := allZ_mem hL i (by simpa using hz) o hio (fun j => Z.contains j && L j) (fun j => if Z.contains j = true then f j else undef) w hJZ (by rw [hLi, Bool.and_false]) (fun j hjz hjd => by rw [hjz, hdeps j hjd]; rfl)
      have eP : plus (fun j => Z.contains j && L j) i = (fun j => Z.contains j && plus L i j) := by
        funext j
        by_cases hj : j = i
        · subst hj; simp only [plus, if_true, hz, Bool.and_self]
        · simp only [plus, if_neg hj]
      have eV : ∀ v, updV (fun j => if Z.contains j = true then f j else undef) i v = (fun j => if Z.contains j = true then updV f i v j else undef) := by
        intro v
        funext j
        by_cases hj : j = i
        · subst hj; rw [updV_same, updV_same, if_pos hz]
        · rw [updV_ne hj, updV_ne hj]
      rw [eP] at hLS
      simp only [eV] at hLS
      have eU := actGo_union (ops := l.toArray) hA (quietL n Z) (fun j => Z.contains j && (depsOf o).contains j) (fun j => if Z.contains j = true then f j else undef) c (fun j hj => by simp only [quietL, Bool.and_eq_true, Bool.not_eq_true'] at hj; simp only [hj.2, Bool.false_and]) l 0 a0 (fun j => by simp)
      have hex := exec_actGo hA o (Region.noSelect_spec hsel i o · · hoi) (fun j => quietL n Z j || (Z.contains j && (depsOf o).contains j)) (fun j => (depsOf o).contains j) (fun j => if (Z.contains j && (depsOf o).contains j) = true then (if Z.contains j = true then f j else undef) else c j)
        (fun j hj => by
          have hji := hw1 j (by simpa using hj)
          cases hjz : Z.contains j with
          | true => simp only [quietL, hjz, hj, Bool.and_self, Bool.or_true]
          | false => simp only [quietL, hjz, Bool.not_false, Bool.and_true, Bool.false_and, Bool.or_false, decide_eq_true_eq]; omega)
        (fun j oj hj hjL hjM d hd hmem => by
          by_cases hji : j = i
          · subst hji
            simp only [quietL, hz, Bool.not_true, Bool.and_false, Bool.false_or, Bool.true_and] at hjL
            rw [hjM] at hjL; cases hjL
          · have hjn : j < n := by
              cases hq : quietL n Z j with
              | true => simp only [quietL, Bool.and_eq_true, decide_eq_true_eq] at hq; exact hq.1
              | false => rw [hq, Bool.false_or, Bool.and_eq_true] at hjL; exact hZn j hjL.1
            exact hw2 j oj hjn hj (by simpa using hjM) hji d hd hmem) l 0 a0 (fun j => by simp)
      have eF : actGo (fun j => (depsOf o).contains j) (fun j => if (Z.contains j && (depsOf o).contains j) = true then (if Z.contains j = true then f j else undef) else c j) l 0 a0 = actGo (fun j => (depsOf o).contains j) f l 0 a0 := by
        refine actGo_on _ _ _ _ l 0 a0 (fun _ _ _ => rfl) (fun j _ _ hj => ?_)
        have hjd : j ∈ depsOf o := by simpa using hj
        cases hjz : Z.contains j with
        | true => rw [if_pos (by rw [hj]; rfl), if_pos rfl]
        | false =>
          rw [if_neg (by simp)]
          exact (hR j (by have := hw1 j hjd; omega) (hdeps j hjd) hjz).symm
      rw [eF] at hex
      rw [eU, hex.1, hex.2] at hLS
      have hRi : ∀ v j, j < n → plus L i j = true → Z.contains j = false → updV f i v j = c j := by
        intro v j hjn hjL hjz
        have hne : j ≠ i := by intro e; subst e; rw [hz] at hjz; cases hjz
        rw [updV_ne hne]
        simp only [plus, if_neg hne] at hjL
        exact hR j hjn hjL hjz
      by_cases hwt : Region.wanted o (yielded l.toArray (actGo (fun j => (depsOf o).contains j) f l 0 a0).tmps) = true
      · rw [if_pos hwt] at hLS ⊢
        refine uponV_mono (fun v w' h => ⟨hRi v, h⟩) _ hLS
      · rw [if_neg hwt] at hLS ⊢
        exact ⟨hRi undef, hLS⟩
    · have hz' : Z.contains i = false := by simpa using hz
      have hSi := hS i o hio hin hz'
      have h1 := exec_actGo hA o (Region.noSelect_spec hsel i o · · hoi) (fun j => (depsOf o).contains j) (fun j => (depsOf o).contains j && !Z.contains j) f (fun j hj => (by simp only [Bool.and_eq_true] at hj; exact hj.1))
        (fun j oj hj hjL hjM d hd => hQn i o hio hin hz' j oj (by simpa using hj) (by rw [hjL] at hjM; simpa using hjM) d hd) l 0 a0 (fun j => by simp)
      have h2 := exec_actGo hA o (Region.noSelect_spec hsel i o · · hoi) (quietL i Z) (fun j => (depsOf o).contains j && !Z.contains j) c
        (fun j hj => by
          simp only [Bool.and_eq_true] at hj
          have := hw1 j (by simpa using hj.1)
          simp only [quietL, hj.2, Bool.and_true, decide_eq_true_eq]; exact this)
        (fun j oj hj hjL hjM d hd hmem => by
          simp only [quietL, Bool.and_eq_true, decide_eq_true_eq] at hjL
          rw [hjL.2, Bool.and_true] at hjM
          exact hw2 j oj (by omega) hj (by simpa using hjM) (by omega) d hd hmem) l 0 a0 (fun j => by simp)
      have e : actGo (fun j => (depsOf o).contains j && !Z.contains j) f l 0 a0 = actGo (fun j => (depsOf o).contains j && !Z.contains j) c l 0 a0 := by
        refine actGo_on _ _ _ _ l 0 a0 (fun _ _ _ => rfl) (fun j _ _ hj => ?_)
        simp only [Bool.and_eq_true, Bool.not_eq_true'] at hj
        have hjd : j ∈ depsOf o := by simpa using hj.1
        exact hR j (by have := hw1 j hjd; omega) (hdeps j hjd) hj.2
      rw [h1.1, h1.2, e, ← h2.1, ← h2.2]
      have key : ∀ w' v, T w w' → v = c i → (∀ j, j < n → plus L i j = true → Z.contains j = false → updV f i v j = c j) ∧ J (fun j => Z.contains j && plus L i j) (fun j => if Z.contains j = true then updV f i v j else undef) w' := by
        intro w' v ht hv
        refine ⟨fun j hjn hjL hjz => ?_, ?_⟩
        · by_cases hj : j = i
          · subst hj; rw [updV_same]; exact hv
          · rw [updV_ne hj]
            simp only [plus, if_neg hj] at hjL
            exact hR j hjn hjL hjz
        · have e1 : (fun j => Z.contains j && plus L i j) = (fun j => Z.contains j && L j) := by
            funext j
            by_cases hj : j = i
            · subst hj; rw [hz']; rfl
            · simp only [plus, if_neg hj]
          have e2 : (fun j => if Z.contains j = true then updV f i v j else undef) = (fun j => if Z.contains j = true then f j else undef) := by
            funext j
            by_cases hj : j = i
            · subst hj; rw [hz']; rfl
            · rw [updV_ne hj]
          rw [e1, e2]
          exact hmono _ _ _ _ hJZ ht
      rcases hSi with ⟨hs1, hs2⟩ | ⟨hs1, hs2⟩
      · rw [if_pos hs1]; exact uponV_mono (fun v w' h => key w' v h.1 h.2) _ (hs2 w hi)
      · rw [if_neg (by rw [hs1]; simp)]
        exact key w undef (hT w) hs2.symm
  · intro f w hJ
    obtain ⟨hR, hJZ⟩ := hJ
    have eU := actGo_union (ops := l.toArray) hA (quietL n Z) (fun j => Z.contains j) (fun j => if Z.contains j = true then f j else undef) c (fun j hj => by simp only [quietL, Bool.and_eq_true, Bool.not_eq_true'] at hj; exact hj.2) l 0 a0 (fun j => by simp)
    have eD : actGo (fun j => decide (j < n)) f l 0 a0 = actGo (fun j => Z.contains j) (fun j => if Z.contains j = true then f j else undef) l 0 (actGo (quietL n Z) c l 0 a0) := by
      rw [eU]
      refine actGo_on _ _ _ _ l 0 a0 (fun j _ _ => ?_) (fun j _ _ hj => ?_)
      · cases hjz : Z.contains j with
        | true => have := hZn j hjz; simp [this]
        | false => simp only [quietL, hjz, Bool.not_false, Bool.and_true, Bool.or_false]
      · have hjn : j < n := by simpa using hj
        cases hjz : Z.contains j with
        | true => simp
        | false => simpa using hR j hjn (by simpa using hjn) hjz
    have e1 : (fun j => Z.contains j && decide (j < n)) = (fun j => Z.contains j) := by
      funext j
      cases hjz : Z.contains j with
      | true => have := hZn j hjz; simp [this]
      | false => rfl
    rw [e1] at hJZ
    rw [eD, hg]
    exact hE _ w hJZ
/-! ### The steps of the walk -/
section
variable {n k : Nat} {Z : List Nat} {I : World → Prop} {T : World → World → Prop} {K : Act → Prop} {o : Oper} {l : List Oper} {a : Act}
theorem wpMix_nil (h : K a) : wpMix P ops n Z I T K [] k a := h
theorem wpMix_done (hk : decide (k < n) = false) (h : K a) : wpMix P ops n Z I T K (o :: l) k a := by
  unfold wpMix; rw [if_neg (by rw [hk]; simp)]; exact h
theorem wpMix_loose (hk : decide (k < n) = true) (hz : Z.contains k = true) (h : wpMix P ops n Z I T K l (k + 1) a) : wpMix P ops n Z I T K (o :: l) k a := by
  unfold wpMix; rw [if_pos hk, if_pos hz]; exact h
theorem wpMix_skip (hk : decide (k < n) = true) (hz : Z.contains k = false) (hw : Region.wanted o (yielded ops a.tmps) = false) (h : wpMix P ops n Z I T K l (k + 1) (a.put o.dst undef)) : wpMix P ops n Z I T K (o :: l) k a := by
  unfold wpMix; rw [if_pos hk, if_neg (by rw [hz]; simp), if_neg (by rw [hw]; simp)]; exact h
def callB : Op → Bool
  | .call _ => true
  | _ => false
theorem wpMix_call (hcall : callB o.op = true) (hk : decide (k < n) = true) (hz : Z.contains k = false) (hw : Region.wanted o (yielded ops a.tmps) = true) {fn : FuncId} {args : Array Value} {v : Value} (hx : ∀ w, (execOp a.eval o).run P w = .ok (.enter fn args) w)
    (hc : ∀ w, I w → Calls P fn args w fun e w' => e = .returned v ∧ T w w') (h : wpMix P ops n Z I T K l (k + 1) (a.put o.dst v)) : wpMix P ops n Z I T K (o :: l) k a := by
  unfold wpMix; rw [if_pos hk, if_neg (by rw [hz]; simp), if_pos hw]
  refine ⟨v, fun w hi => ?_, h⟩
  rw [hx]
  exact (hc w hi).mono fun e w' ⟨h1, h2⟩ => ⟨v, h1, h2, rfl⟩
def plainB : Op → Bool
  | .move _ | .assign _ | .pick .. | .build .. | .load .. | .binOp .. | .unOp .. | .convert .. | .slice .. | .fieldAddr .. | .field .. | .indexAddr .. | .index .. | .lookup .. | .extract .. | .nilCheck _ | .makeInterface .. | .makeFunc .. => true
  | _ => false
theorem v_enter {s : Sem Value} {w w' : World} {f : FuncId} {args : Array Value} (h : (s >>= fun x => Pure.pure (Next.value x) : Sem Next).run P w = .ok (.enter f args) w') : False := by
  rw [Sem.run_bind] at h
  generalize s.run P w = r at h
  cases r <;> simp at h
theorem plain_enter {ρ : Operand → Value} {w w' : World} {f : FuncId} {args : Array Value} (hp : plainB o.op = true) (h : (execOp ρ o).run P w = .ok (.enter f args) w') : False := by
  obtain ⟨dst, op, type, pos, after, guard⟩ := o
  cases op <;> first | (simp only [plainB] at hp; cases hp; done) | skip
  case nilCheck x =>
    simp only [execOp] at h
    split at h
    · simp [runtimePanic] at h
    · simp [runtimePanic] at h
    · simp [runtimePanic] at h
    · split at h
      · simp [runtimePanic] at h
      · simp only [Sem.run_bind] at h
        generalize Sem.run P program w = r at h
        cases r with
        | halt x w1 => simp [Result.andThen] at h
        | ok p' w1 =>
          simp only [Result.andThen] at h
          generalize Sem.run P (nilAhead _ _ _ _) w1 = r2 at h
          cases r2 with
          | halt x w1 => simp at h
          | ok b w2 =>
            simp only at h
            split at h
            · simp [unsupported] at h
            · simp at h
      · simp at h
    · simp at h
  case pick c x y =>
    simp only [execOp] at h
    rw [Sem.run_bind] at h
    generalize (asBool (ρ c)).run P w = r at h
    cases r <;> simp at h
  all_goals (simp only [execOp] at h; first | exact v_enter h | (simp at h))
structure Wd (I : World → Prop) where
  w : World
  ok : I w
theorem wpMix_plain (hk : decide (k < n) = true) (hz : Z.contains k = false) (hp : plainB o.op = true) (hT : ∀ w, T w w) (hw : Region.wanted o (yielded ops a.tmps) = true)
    (h : ∀ K' : Act → Prop, (∀ a, wpMix P ops n Z I T K l (k + 1) a → K' a) → o.quiet P a (fun w => ∃ p : Wd I, w = p.w) K') : wpMix P ops n Z I T K (o :: l) k a := by
  unfold wpMix; rw [if_pos hk, if_neg (by rw [hz]; simp), if_pos hw]
  obtain ⟨v, h1, h2⟩ := h _ (fun _ h => h)
  refine ⟨v, fun w hi => ?_, h2⟩
  have h3 := h1 w ⟨⟨w, hi⟩, rfl⟩
  unfold Oper.quietAt at h3
  generalize hr : (execOp a.eval o).run P w = r at h3
  cases r with
  | ok x w' =>
    cases x <;> simp only [Oper.quietUpon] at h3
    case value u => obtain ⟨rfl, rfl⟩ := h3; exact ⟨hT _, rfl⟩
    case skip => obtain ⟨rfl, rfl⟩ := h3; exact ⟨hT _, rfl⟩
    case enter f args => exact (plain_enter hp hr).elim
  | halt x w' => simp only [Oper.quietUpon] at h3
theorem la1 {l : List Oper} {Z : List Nat} {J : (Nat → Bool) → (Nat → Value) → World → Prop} {a : Act} {i : Nat} {o : Oper} (ho : l[i]? = some o) (g : (Nat → Value) → Act → Act)
    (h : ∀ (L : Nat → Bool) (f : Nat → Value) (w : World), J L f w → L i = false → (∀ j, Z.contains j = true → j ∈ depsOf o → L j = true) → uponV P (fun v w' => J (plus L i) (updV f i v) w') ((execOp (g f a).eval o).run P w))
    (hg : ∀ f a, actGo (fun j => Z.contains j && (depsOf o).contains j) f l 0 a = g f a := by exact fun _ _ => rfl) (hw : ∀ f, Region.wanted o (yielded l.toArray (g f a).tmps) = true := by exact fun _ => rfl) : LooseStep P l Z J a i := loose_of ho g hg hw h
theorem ra1 {id : Nat} {Q : Exit → Act → World → Prop} {a0 : Act} {w : World} {l : List Oper} (n : Nat) (Z : List Nat) (I : World → Prop) (T : World → World → Prop) (J : (Nat → Bool) → (Nat → Value) → World → Prop) (g : (Nat → Value) → Act → Act)
    (h0 : J (fun _ => false) (fun _ => undef) w.drew) (hI : ∀ L f w, J L f w → I w) (hT : ∀ w, T w w) (hmono : ∀ L f w w', J L f w → T w w' → J L f w')
    (h : wpMix P l.toArray n Z I T (fun a => AllZ (LooseStep P l Z J a) Z ∧ ∀ (f : Nat → Value) (w : World), J (fun j => Z.contains j) f w → wpList P l.toArray Q (l.drop n) (g f a) w) l 0 a0)
    (hm : P.follows .mixedOrders = true := by kernel_rfl) (hB : mixB l.toArray n Z = true := by kernel_rfl) (hg : ∀ f a, actGo (fun j => Z.contains j) f l 0 a = g f a := by exact fun _ _ => rfl) :
    (Code.region id l.toArray true).wp P Q a0 w := wp_region_mix n Z I T J g hm hB hg h0 hI hT hmono h
end
end
end Go.Proofs.YtlgcdneiebjkcaaGreatDoor
