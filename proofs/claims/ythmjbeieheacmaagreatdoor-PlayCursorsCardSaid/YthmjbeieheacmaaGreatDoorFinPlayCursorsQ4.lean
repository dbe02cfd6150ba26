/- IntC, RgnT, RgnA: one text. -/
import Derived.Test.YthmjbeieheacmaaGreatDoorFinPlayCursorsQ1
import Derived.Test.YthmjbeieheacmaaGreatDoorFinPlayCursorsQ3
set_option linter.unusedVariables false
set_option linter.unusedSectionVars false
set_option linter.unusedSimpArgs false
namespace Go.Proofs.YthmjbeieheacmaaGreatDoor
open Go.RowKit Go.Maps
attribute [local go_sem] Oper.semAt_some
theorem intFlat_get (us : List Int) (j : Nat) (hj : j < us.length) : (intFlat us)[j]? = some (.int .i64 (us[j]?.getD 0)) := by
  unfold intFlat
  rw [List.getElem?_map, List.getElem?_eq_getElem hj]; rfl
theorem cloneI_any (w : World) (a : Option Addr) (n cap : Nat) (us : List Int) (hn : n = us.length) (hA : IntsAt w a us) (hf : SlForm a cap) (hx : us.length ≤ 1000000) :
    Calls Tryz.prog 15 #[.slice a n cap] w fun e w' => ∃ a' c', e = .returned (.slice a' n c') ∧ w'.ownsRow w.heap.size 3 1 (.slice a' n c') us.length (intFlat us) ∧ Grew w w' := by
  subst hn
  rcases Nat.eq_zero_or_pos us.length with h0 | h0
  · have e := List.eq_nil_of_length_eq_zero h0
    subst e
    rcases hf with ⟨rfl, rfl⟩ | ⟨b, off, rfl⟩
    · exact (cloneNilI64 w).mono fun e w' ⟨he, hg⟩ => ⟨_, _, he, World.ownsRow_nil _ _ _ _, hg⟩
    · exact (cloneZeroI64 w b off cap).mono fun e w' ⟨he, hr, hg⟩ => ⟨_, _, he, hr, hg⟩
  · rcases hA with h1 | ⟨b, off, rfl, hb, hR⟩
    · rw [h1] at h0; simp at h0
    · refine (cloneI64 w b off us.length cap h0 hx (intFlat us) (by rw [intFlat_length]; omega) (fun j u hj => ?_) (intFlat_one us)).mono fun e w' ⟨g, cap, he, hr, hg⟩ => ⟨_, _, he, hr, hg⟩
      have hjl : j < us.length := by have := (List.getElem?_eq_some_iff.1 hj).1; rwa [intFlat_length] at this
      rw [intFlat_get us j hjl] at hj
      cases hj
      exact hR j hjl
set_option maxRecDepth 100000 in
theorem nan_any (x : Int) (w : World) : Calls Tryz.prog 57 #[.int .i64 x] w fun e w' => e = .returned (.bool false) ∧ w' = w := by
  go_enter Tryz.func57, Tryz.ntmps57
  go_wp2
  go_ret
  exact ⟨by simp, rfl⟩
set_option maxRecDepth 100000 in
theorem nanS_any (x : Int) (w : World) : Calls Tryz.prog 35 #[.int .i64 x] w fun e w' => e = .returned (.bool false) ∧ w' = w := by
  go_enter Tryz.func35, Tryz.ntmps35
  go_wp2
  go_ret
  exact ⟨by simp, rfl⟩
set_option maxRecDepth 100000 in
theorem lessI_any (x y : Int) (w : World) : Calls Tryz.prog 34 #[.int .i64 x, .int .i64 y] w fun e w' => e = .returned (.bool (decide (x < y))) ∧ w' = w := by
  have H := hid (fun W => nan_any x W)
  go_enter Tryz.func34, Tryz.ntmps34
  go_wp2_with fail
  refine (H.out _).mono ?_
  rintro e w1 ⟨rfl, rfl⟩
  go_wp2_with fail
  go_ret
  exact ⟨by simp, rfl⟩
set_option maxRecDepth 100000 in
set_option maxHeartbeats 4000000 in
theorem bsearchI_any (a : Option Addr) (cap : Nat) (us : List Int) (t : Int) (w : World) (hA : IntsAt w a us) (hx : us.length ≤ 1000000)
    (p : Nat) (hp : p ≤ us.length) (hpos : ∀ j, j < us.length → (us[j]?.getD 0 < t ↔ j < p)) :
    Calls Tryz.prog 17 #[.slice a us.length cap, .int .i64 t] w fun e w' => e = .returned (.tuple #[.int .i64 (p : Int), .bool (decide (p < us.length ∧ us[p]?.getD 0 = t))]) ∧ Grew w w' := by
  have HA := hid hA
  have HP := hid hpos
  have HL := hid lessI_any
  have HN := hid nanS_any
  clear hA hpos
  go_enter Tryz.func17, Tryz.ntmps17
  go_wp2_with fail
  go_loopw [7, 8] (fun i j wr => ∃ l r : Nat, l ≤ p ∧ p ≤ r ∧ r ≤ us.length ∧ i = .int .i64 l ∧ j = .int .i64 r ∧ Grew w wr) (fun i j _ => (intOf j).toNat - (intOf i).toNat)
  case atStart => exact ⟨0, us.length, Nat.zero_le _, hp, Nat.le_refl _, rfl, rfl, Grew.refl w⟩
  case round =>
    obtain ⟨l, r, hl, hr, hrx, rfl, rfl, hG⟩ := hrel
    by_cases hlt : l < r
    · obtain ⟨m, hm⟩ : ∃ m, m = (l + r) / 2 := ⟨_, rfl⟩
      have hm1 : l ≤ m := by omega
      have hm2 : m < r := by omega
      have hm3 : m < us.length := by omega
      have hm4 : (m : Int) < (us.length : Int) := by omega
      have hme : ((l : Int) + (r : Int)) / 2 = (m : Int) := by omega
      clear hm
      rcases HA.out with h0 | ⟨b, off, rfl, hb, hR⟩
      · rw [h0] at hm3; simp at hm3
      have q0 := (hG.cells.1 _ _ hb).trans (hR m hm3)
      have HPm := hid (HP.out m hm3)
      clear hR
      generalize us[m]?.getD 0 = u at *
      by_cases hc : u < t
      · have hmp := HPm.out.1 hc
        have hd : decide (u < t) = true := decide_eq_true hc
        go_wp2_with fail
        refine (HL.out _ _ _).mono ?_
        rintro e w1 ⟨rfl, rfl⟩
        rw [hd]
        go_wp2_with fail
        go_roundw
        case rel => exact ⟨m + 1, r, by omega, hr, hrx, by go_num, rfl, hG⟩
        case measure => simp [intOf]; omega
      · have hmp : p ≤ m := Nat.le_of_not_lt fun h => hc (HPm.out.2 h)
        have hd : decide (u < t) = false := decide_eq_false hc
        go_wp2_with fail
        refine (HL.out _ _ _).mono ?_
        rintro e w1 ⟨rfl, rfl⟩
        rw [hd]
        go_wp2_with fail
        go_roundw
        case rel => exact ⟨l, m, hl, hmp, by omega, rfl, rfl, hG⟩
        case measure => simp [intOf]; omega
    · obtain rfl : l = p := by omega
      obtain rfl : r = l := by omega
      by_cases hpx : r < us.length
      · rcases HA.out with h0 | ⟨b, off, rfl, hb, hR⟩
        · rw [h0] at hpx; simp at hpx
        have q0 := (hG.cells.1 _ _ hb).trans (hR r hpx)
        have hpx2 : (r : Int) < (us.length : Int) := by omega
        clear hR
        have HB : Hid (decide (r < us.length ∧ us[r]?.getD 0 = t) = (us[r]?.getD 0 == t)) := by
          unfold Hid
          rw [Bool.eq_iff_iff]; simp [hpx]
        obtain ⟨u, hu⟩ : ∃ u, u = us[r]?.getD 0 := ⟨_, rfl⟩
        rw [← hu] at q0
        have HB : Hid (decide (r < us.length ∧ us[r]?.getD 0 = t) = (u == t)) := by rw [hu]; exact HB
        clear hu
        cases hut : (u == t) with
        | true =>
          rw [hut] at HB
          go_wp2_with fail
          go_ret2
          exact ⟨by rw [HB.out]; rfl, hG⟩
        | false =>
          rw [hut] at HB
          go_wp2_with fail
          refine (HN.out _ _).mono ?_
          rintro e w1 ⟨rfl, rfl⟩
          go_wp2_with fail
          go_ret2
          exact ⟨by rw [HB.out]; rfl, hG⟩
      · have hpx2 : ¬ (r : Int) < (us.length : Int) := by omega
        have HB : Hid (decide (r < us.length ∧ us[r]?.getD 0 = t) = false) := decide_eq_false fun h => hpx h.1
        go_wp2_with fail
        go_ret2
        exact ⟨rfl, hG⟩
set_option maxRecDepth 100000 in
set_option maxHeartbeats 4000000 in
theorem sameInts_any (a1 a2 : Option Addr) (c1 c2 : Nat) (us vs : List Int) (w : World) (h1 : IntsAt w a1 us) (h2 : IntsAt w a2 vs) (hx : us.length ≤ 1000000) (hy : vs.length ≤ 1000000) :
    Calls Tryz.prog 8 #[.slice a1 us.length c1, .slice a2 vs.length c2] w fun e w' => e = .returned (.bool (decide (us = vs))) ∧ Grew w w' := by
  have H1 := hid h1
  have H2 := hid h2
  clear h1 h2
  by_cases hl : us.length = vs.length
  · have HE := hid hl
    obtain ⟨n, hn⟩ : ∃ n, n = us.length := ⟨_, rfl⟩
    rw [← hl, ← hn]
    rw [← hn] at hx
    have HN := hid (And.intro hn (hn.trans hl))
    clear hn hl hy
    have HQ := hid (fun (h : ∀ j, j < n → us[j]?.getD 0 = vs[j]?.getD 0) => show us = vs from by
      apply List.ext_getElem (HN.out.1.symm.trans HN.out.2)
      intro i i1 i2
      have := h i (by have := HN.out.1; omega)
      rwa [List.getElem?_eq_getElem i1, List.getElem?_eq_getElem i2] at this)
    go_enter Tryz.func8, Tryz.ntmps8
    go_wp2_with fail
    go_loopw [5, 13] (fun _ i wr => ∃ k : Nat, k ≤ n ∧ i = .int .i64 k ∧ Hid (∀ j, j < k → us[j]?.getD 0 = vs[j]?.getD 0) ∧ Grew w wr) (fun _ i _ => n - (intOf i).toNat)
    case atStart => exact ⟨0, Nat.zero_le _, rfl, fun j hj => absurd hj (Nat.not_lt_zero j), Grew.refl w⟩
    case round =>
      obtain ⟨k, hk, rfl, HS, hG⟩ := hrel
      by_cases hlt : k < n
      · rcases H1.out with h0 | ⟨b1, o1, rfl, hb1, hR1⟩
        · have := HN.out.1; rw [h0] at this; simp at this; omega
        rcases H2.out with h0 | ⟨b2, o2, rfl, hb2, hR2⟩
        · have := HN.out.2; rw [h0] at this; simp at this; omega
        have q1 := (hG.cells.1 b1 (o1 + k) hb1).trans (hR1 k (by have := HN.out.1; omega))
        have q2 := (hG.cells.1 b2 (o2 + k) hb2).trans (hR2 k (by have := HN.out.2; omega))
        have HNX := hid (fun (h : us[k]?.getD 0 = vs[k]?.getD 0) => show ∀ j, j < k + 1 → us[j]?.getD 0 = vs[j]?.getD 0 from fun j hj => by
          rcases Nat.lt_or_ge j k with h1 | h1
          · exact HS.out j h1
          · obtain rfl : j = k := by omega
            exact h)
        have HNO := hid (fun (h : us[k]?.getD 0 ≠ vs[k]?.getD 0) => show us ≠ vs from fun e => h (by rw [e]))
        clear hR1 hR2
        generalize us[k]?.getD 0 = u at *
        generalize vs[k]?.getD 0 = v at *
        have hkn : (k : Int) < (n : Int) := by omega
        cases huv : (u == v) with
        | true =>
          have hne : (u != v) = false := by simp [bne, huv]
          have HX := hid (HNX.out (by simpa using huv))
          have Q1 := wd_cell q1
          have Q2 := wd_cell q2
          clear HNX HNO q1 q2
          go_wp2_with fail
          refine wp_region_still 9 (by kernel_rfl) (by kernel_rfl) (fun _ _ => rfl) ?_
          repeat (first
    | (refine mxP ?_; intros; go_big_quiet_op; go_big_quiet_on)
    | (refine mxK ?_; simp only [Act.put, List.setIfInBounds_toArray, List.set_cons_zero, List.set_cons_succ]))
          refine mixS_nil ?_
          intro x hx2
          have hG := hG.trans hx2
          clear Q1 Q2 hx2
          dsimp only [List.drop]
          go_wp2_with fail
          go_roundw
          case rel => exact ⟨k + 1, by omega, by go_num, HX, hG⟩
          case measure => simp [intOf]; omega
        | false =>
          have hne : (u != v) = true := by simp [bne, huv]
          have HX := hid (HNO.out (by simpa using huv))
          have Q1 := wd_cell q1
          have Q2 := wd_cell q2
          clear HNX HNO q1 q2
          go_wp2_with fail
          refine wp_region_still 9 (by kernel_rfl) (by kernel_rfl) (fun _ _ => rfl) ?_
          repeat (first
    | (refine mxP ?_; intros; go_big_quiet_op; go_big_quiet_on)
    | (refine mxK ?_; simp only [Act.put, List.setIfInBounds_toArray, List.set_cons_zero, List.set_cons_succ]))
          refine mixS_nil ?_
          intro x hx2
          have hG := hG.trans hx2
          clear Q1 Q2 hx2
          dsimp only [List.drop]
          go_wp2_with fail
          go_ret
          exact ⟨ret_bool (decide_eq_false HX.out).symm, hG⟩
      · obtain rfl : k = n := by omega
        have HX := hid (HQ.out HS.out)
        go_wp2_with fail
        go_ret
        exact ⟨ret_bool (decide_eq_true HX.out).symm, hG⟩
  · have h3 : ((us.length : Int) == (vs.length : Int)) = false := by simp; omega
    have h4 : ((us.length : Int) != (vs.length : Int)) = true := by simp; omega
    have HX : Hid (decide (us = vs) = false) := decide_eq_false fun e => hl (by rw [e])
    go_enter Tryz.func8, Tryz.ntmps8
    go_wp2_with fail
    go_ret
    exact ⟨ret_bool HX.out.symm, Grew.refl w⟩
end Go.Proofs.YthmjbeieheacmaaGreatDoor
namespace Go.Proofs.YthmjbeieheacmaaGreatDoor
open Go.RowKit Go.Maps
theorem loose_of2 {P : Program} {l : List Oper} {Z : List Nat} {J : (Nat → Bool) → (Nat → Value) → World → Prop} {a : Act} {i : Nat} {o : Oper} (ho : l[i]? = some o) (g : (Nat → Value) → Act → Act)
    (hg : ∀ f a, actGo (fun j => Z.contains j && (depsOf o).contains j) f l 0 a = g f a)
    (h : ∀ (L : Nat → Bool) (f : Nat → Value) (w : World), J L f w → L i = false → (∀ j, Z.contains j = true → j ∈ depsOf o → L j = true) → Region.wanted o (yielded l.toArray (g f a).tmps) = true ∧ uponV P (fun v w' => J (plus L i) (updV f i v) w') ((execOp (g f a).eval o).run P w)) : LooseStep P l Z J a i := by
  intro o' ho' L f w hi hL hV
  have : o = o' := Option.some.inj (ho.symm.trans ho')
  subst this
  rw [hg]
  obtain ⟨h1, h2⟩ := h L f w hi hL hV
  rw [if_pos h1]
  exact h2
theorem la2 {P : Program} {l : List Oper} {Z : List Nat} {J : (Nat → Bool) → (Nat → Value) → World → Prop} {a : Act} {i : Nat} {o : Oper} (ho : l[i]? = some o) (g : (Nat → Value) → Act → Act)
    (h : ∀ (L : Nat → Bool) (f : Nat → Value) (w : World), J L f w → L i = false → (∀ j, Z.contains j = true → j ∈ depsOf o → L j = true) → Region.wanted o (yielded l.toArray (g f a).tmps) = true ∧ uponV P (fun v w' => J (plus L i) (updV f i v) w') ((execOp (g f a).eval o).run P w))
    (hg : ∀ f a, actGo (fun j => Z.contains j && (depsOf o).contains j) f l 0 a = g f a := by exact fun _ _ => rfl) : LooseStep P l Z J a i := loose_of2 ho g hg h
structure JT (vs : Nat → Option Value) (od : List (Nat × Nat)) (s : Nat) (R0 R1 : World → Prop) (X : Nat → Option (World → Value → Prop)) (L : Nat → Bool) (f : Nat → Value) (x : World) : Prop where
  val : ∀ i v, L i = true → vs i = some v → f i = v
  ord : ∀ p ∈ od, L p.1 = true → L p.2 = true
  a : L s = false → R0 x
  d : L s = true → R1 x
  ex : ∀ i p, X i = some p → L i = true → p x (f i)
  xo : ∀ i p, X i = some p → L i = true → L s = true
structure StT (R0 R1 : World → Prop) (X : Nat → Option (World → Value → Prop)) : Prop where
  r0 : ∀ x x', Grew x x' → R0 x → R0 x'
  r1 : ∀ x x', Grew x x' → R1 x → R1 x'
  x : ∀ i p, X i = some p → ∀ x x' v, Grew x x' → p x v → p x' v
section
variable {vs : Nat → Option Value} {od : List (Nat × Nat)} {s : Nat} {R0 R1 : World → Prop} {X : Nat → Option (World → Value → Prop)} {L : Nat → Bool} {f : Nat → Value} {x x' : World}
theorem JT.start (h : R0 x) : JT vs od s R0 R1 X (fun _ => false) f x :=
  ⟨fun _ _ h => (by cases h), fun _ _ h => (by cases h), fun _ => h, fun h => (by cases h), fun _ _ _ h => (by cases h), fun _ _ _ h => (by cases h)⟩
theorem JT.more (st : StT R0 R1 X) (h : JT vs od s R0 R1 X L f x) (g : Grew x x') : JT vs od s R0 R1 X L f x' :=
  ⟨h.val, h.ord, fun hl => st.r0 _ _ g (h.a hl), fun hl => st.r1 _ _ g (h.d hl), fun i p hp hl => st.x i p hp _ _ _ g (h.ex i p hp hl), h.xo⟩
theorem plus_ne {L : Nat → Bool} {i j : Nat} (h : j ≠ i) : plus L i j = L j := by simp only [plus, if_neg h]
theorem plus_on {L : Nat → Bool} {i : Nat} : plus L i i = true := by simp [plus]
theorem plus_up {L : Nat → Bool} {i j : Nat} (h : L j = true) : plus L i j = true := by simp only [plus]; split; rfl; exact h
theorem ord_plus {od : List (Nat × Nat)} {L : Nat → Bool} {i : Nat} (h : ∀ p ∈ od, L p.1 = true → L p.2 = true) (ho : ∀ p ∈ od, p.1 = i → L p.2 = true) : ∀ p ∈ od, plus L i p.1 = true → plus L i p.2 = true := by
  intro p hp hl
  by_cases hi : p.1 = i
  · exact plus_up (ho p hp hi)
  · rw [plus_ne hi] at hl; exact plus_up (h p hp hl)
theorem val_plus {vs : Nat → Option Value} {L : Nat → Bool} {f : Nat → Value} {i : Nat} {v : Value} (h : ∀ i v, L i = true → vs i = some v → f i = v) (hv : ∀ u, vs i = some u → v = u) : ∀ j u, plus L i j = true → vs j = some u → updV f i v j = u := by
  intro j u hl hu
  by_cases hj : j = i
  · subst hj; rw [updV_same]; exact hv u hu
  · rw [plus_ne hj] at hl; rw [updV_ne hj]; exact h j u hl hu
theorem JT.put (h : JT vs od s R0 R1 X L f x) (i : Nat) (v : Value) (hv : vs i = some v) (hs : s ≠ i) (hX : X i = none) (ho : ∀ p ∈ od, p.1 = i → L p.2 = true) : JT vs od s R0 R1 X (plus L i) (updV f i v) x := by
  refine ⟨val_plus h.val (fun u hu => by rw [hv] at hu; exact Option.some.inj hu), ord_plus h.ord ho, fun hl => h.a (by rwa [plus_ne hs] at hl), fun hl => h.d (by rwa [plus_ne hs] at hl), fun j p hp hl => ?_, fun j p hp hl => ?_⟩
  · have hj : j ≠ i := fun e => by subst e; rw [hX] at hp; cases hp
    rw [plus_ne hj] at hl
    rw [updV_ne hj]; exact h.ex j p hp hl
  · have hj : j ≠ i := fun e => by subst e; rw [hX] at hp; cases hp
    rw [plus_ne hj] at hl
    exact plus_up (h.xo j p hp hl)
end
end Go.Proofs.YthmjbeieheacmaaGreatDoor
namespace Go.Proofs.YthmjbeieheacmaaGreatDoor
open Go.RowKit Go.Maps
structure JA (c b a : Nat) (ds : Nat → Option (Value → Value)) (e : TypeId) (size : Nat) (y : World) (R : Value → World → Prop) (N : Value → List Value) (v : Value) (n : Nat) (xs : List Value) (L : Nat → Bool) (f : Nat → Value) (u : World) : Prop where
  pre : L a = false → Grew y u
  only : Only (fun j => some j = v.ownBlock) y u
  hc : L c = true → L a = false → R (f c) u
  hb : L b = true → L a = false → ∃ k, f b = .slice (some ⟨k, 0, none⟩) 1 1 ∧ u.heap[k]? = some (.cells (N (f c)).toArray e (0, 0))
  ha : L a = true → ∃ x0, Grew y x0 ∧ R (f c) x0 ∧ AppD e size v n xs (N (f c)) x0 (f a) u
  oc : L b = true → L c = true
  ob : L a = true → L b = true
  od : ∀ i g, ds i = some g → L i = true → L c = true ∧ f i = g (f c)
section
variable {c b a : Nat} {ds : Nat → Option (Value → Value)} {e : TypeId} {size : Nat} {y : World} {R : Value → World → Prop} {N : Value → List Value} {v : Value} {n : Nat} {xs : List Value} {L : Nat → Bool} {f : Nat → Value} {u : World}
theorem JA.start (f : Nat → Value) : JA c b a ds e size y R N v n xs (fun _ => false) f y.drew :=
  ⟨fun _ => (Grew.refl y).drew, ((Grew.refl y).drew).only _, fun h => (by cases h), fun h => (by cases h), fun h => (by cases h), fun h => (by cases h), fun h => (by cases h), fun _ _ _ h => (by cases h)⟩
theorem JA.atCall (h : JA c b a ds e size y R N v n xs L f u) (hL : L c = false) (hcb : c ≠ b := by decide) (hca : c ≠ a := by decide) (hd : ds c = none := by rfl) : Grew y u ∧ ∀ r u', Grew u u' → R r u' → JA c b a ds e size y R N v n xs (plus L c) (updV f c r) u' := by
  have hbF : L b = false := by cases hb : L b with | false => rfl | true => have := h.oc hb; rw [hL] at this; cases this
  have haF : L a = false := by cases ha : L a with | false => rfl | true => have := h.ob ha; rw [hbF] at this; cases this
  refine ⟨h.pre haF, fun r u' g hr => ⟨fun _ => (h.pre haF).trans g, ((h.pre haF).trans g).only _, fun _ _ => (by rw [updV_same]; exact hr), fun q => ?_, fun q => ?_, fun _ => plus_on, fun q => ?_, fun i gg hi q => ?_⟩⟩
  · rw [plus_ne (Ne.symm hcb), hbF] at q; cases q
  · rw [plus_ne (Ne.symm hca), haF] at q; cases q
  · rw [plus_ne (Ne.symm hca), haF] at q; cases q
  · have hic : i ≠ c := fun e => by rw [e, hd] at hi; cases hi
    rw [plus_ne hic] at q
    have := (h.od i gg hi q).1
    rw [hL] at this; cases this
theorem JA.atMake (h : JA c b a ds e size y R N v n xs L f u) (hL : L b = false) (hc : L c = true) (hR : ∀ r x x', R r x → Grew x x' → R r x') (hbc : b ≠ c := by decide) (hba : b ≠ a := by decide) (hd : ds b = none := by rfl) : Grew y u ∧ R (f c) u ∧ JA c b a ds e size y R N v n xs (plus L b) (updV f b (.slice (some ⟨u.heap.size, 0, none⟩) 1 1)) (u.alloc (.cells (N (f c)).toArray e)) := by
  have haF : L a = false := by cases ha : L a with | false => rfl | true => have := h.ob ha; rw [hL] at this; cases this
  have gA : Grew u (u.alloc (.cells (N (f c)).toArray e)) := (Grew.refl u).alloc _
  have ec : updV f b (.slice (some ⟨u.heap.size, 0, none⟩) 1 1) c = f c := updV_ne (Ne.symm hbc)
  have la : plus L b a = false := (plus_ne (Ne.symm hba)).trans haF
  refine ⟨h.pre haF, h.hc hc haF, ⟨fun _ => (h.pre haF).trans gA, ((h.pre haF).trans gA).only _, fun _ _ => ?_, fun _ _ => ⟨u.heap.size, updV_same _ _ _, ?_⟩, fun q => ?_, fun _ => ?_, fun q => ?_, fun i gg hi q => ?_⟩⟩
  · rw [ec]; exact hR _ _ _ (h.hc hc haF) gA
  · rw [ec]; exact heap_alloc_new u _
  · rw [la] at q; cases q
  · rw [plus_ne (Ne.symm hbc)]; exact hc
  · rw [la] at q; cases q
  · have hib : i ≠ b := fun e => by rw [e, hd] at hi; cases hi
    rw [plus_ne hib] at q
    rw [plus_ne (Ne.symm hbc), ec, updV_ne hib]
    exact h.od i gg hi q
theorem JA.atApp (h : JA c b a ds e size y R N v n xs L f u) (hL : L a = false) (hb : L b = true) (hac : a ≠ c := by decide) (hab : a ≠ b := by decide) (hd : ds a = none := by rfl) : Grew y u ∧ R (f c) u ∧ (∃ k, f b = .slice (some ⟨k, 0, none⟩) 1 1 ∧ u.heap[k]? = some (.cells (N (f c)).toArray e (0, 0))) ∧ ∀ r u', AppD e size v n xs (N (f c)) u r u' → JA c b a ds e size y R N v n xs (plus L a) (updV f a r) u' := by
  have hc := h.oc hb
  refine ⟨h.pre hL, h.hc hc hL, h.hb hb hL, fun r u' hD => ?_⟩
  have ec : updV f a r c = f c := updV_ne (Ne.symm hac)
  refine ⟨fun q => ?_, (((h.pre hL).only _).then hD.only), fun _ q => ?_, fun _ q => ?_, fun _ => ⟨u, h.pre hL, ?_, ?_⟩, fun _ => ?_, fun _ => ?_, fun i gg hi q => ?_⟩
  · rw [plus_on] at q; cases q
  · rw [plus_on] at q; cases q
  · rw [plus_on] at q; cases q
  · rw [ec]; exact h.hc hc hL
  · rw [ec, updV_same]; exact hD
  · rw [plus_ne (Ne.symm hac)]; exact hc
  · rw [plus_ne (Ne.symm hab)]; exact hb
  · have hia : i ≠ a := fun e => by rw [e, hd] at hi; cases hi
    rw [plus_ne hia] at q
    rw [plus_ne (Ne.symm hac), ec, updV_ne hia]
    exact h.od i gg hi q
theorem JA.ex (h : JA c b a ds e size y R N v n xs L f u) (hc : L c = true) : ∃ x, R (f c) x := by
  cases ha : L a with
  | false => exact ⟨u, h.hc hc ha⟩
  | true => obtain ⟨x0, _, h2, _⟩ := h.ha ha; exact ⟨x0, h2⟩
end
end Go.Proofs.YthmjbeieheacmaaGreatDoor
