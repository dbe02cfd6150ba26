/- A map of shards in memory: what a store leaves. -/
import Derived.Test.YtbdagllflamabaaGreatDoorFinWatchReplaysQ10
import Derived.Test.YtbdagllflamabaaGreatDoorFinWatchReplaysQ12
set_option linter.unusedSectionVars false
set_option linter.unusedVariables false
namespace Go.Proofs.YtbdagllflamabaaGreatDoor
open Go.RowKit Go.Maps
attribute [local go_sem] Oper.semAt_some
def ShTurn (w : World) (F : Nat → Prop) (sb : Nat) (ys : List Sh) (used : Nat → Bool) (ne : Nat) (evs : List Value) (w' : World) : Prop := Only F w w' ∧ ∃ F', SmAt w' F' sb ys used ne evs ∧ ∀ j, F' j → F j ∨ w.heap.size ≤ j
section
variable {w u : World} {F : Nat → Prop} {sb : Nat} {v ve : Value} {xs ys : List Sh} {used : Nat → Bool} {ne : Nat} {evs : List Value}
theorem ShTurn.of_grew (h : SmAt w F sb xs used ne evs) (g : Grew w u) : ShTurn w F sb xs used ne evs u := ⟨g.only F, F, h.grew g, fun _ => .inl⟩
theorem ShTurn.grew {w0 : World} (h : ShTurn w F sb ys used ne evs u) (hF : ∀ j, F j → w0.heap.size ≤ j) (g : Grew w0 w) : Grew w0 u ∧ ∃ F', SmAt u F' sb ys used ne evs ∧ ∀ j, F' j → w0.heap.size ≤ j := by
  obtain ⟨h1, F', h2, h3⟩ := h
  refine ⟨((g.only F).then h1).grew hF, F', h2, fun j hj => ?_⟩
  rcases h3 j hj with h | h
  · exact hF j h
  · have := g.size; omega
theorem ShTurn.trans {w1 w2 : World} {F1 : Nat → Prop} {xs1 : List Sh} {used1 : Nat → Bool} {ne1 : Nat} {evs1 : List Value} (o1 : Only F w w1) (hF1 : ∀ j, F1 j → F j ∨ w.heap.size ≤ j) (h : ShTurn w1 F1 sb xs1 used1 ne1 evs1 w2) : ShTurn w F sb xs1 used1 ne1 evs1 w2 := by
  obtain ⟨h1, F', h2, h3⟩ := h
  refine ⟨o1.trans h1 hF1, F', h2, fun j hj => ?_⟩
  rcases h3 j hj with h | h
  · exact hF1 j h
  · exact .inr (Nat.le_trans o1.size h)
theorem SmIs.row_turn (h : SmIs w F sb v ve xs used ne evs) (ho : Only (fun j => some j = v.ownBlock) w u) (hr : u.ownsRow 0 118 5 v ys.length (shFlat ys)) (hsz : ∀ c ∈ ys, c.lo.size ≤ 70368744177664 ∧ c.hi.size ≤ 70368744177664) : SmIs u F sb v ve ys used ne evs := by
  have n0 : ¬ some sb = v.ownBlock := fun e => (h.foot1 sb e.symm).2 rfl
  refine ⟨(ho.cell h.blt n0 0).trans h.live, fun i hi => (ho.cell h.blt n0 _).trans (h.used i hi), (ho.cell h.blt n0 _).trans h.ev, fun i hi => (ho.frozen h.blt n0 _).trans (h.fz i hi), hr, ?_, hsz, h.foot0, h.foot1, h.foot2, fun j hj => Nat.lt_of_lt_of_le (h.lt j hj) ho.size, h.nil⟩
  exact ownsRow_keep ho h.erow (fun b hb e => (h.foot2 b hb).2.2 e.symm)
theorem shFlat_set (xs : List Sh) (i : Nat) (hi : i < xs.length) (c : Sh) : shFlat (xs.set i c) = (shFlat xs).take (i * 5) ++ c.vals ++ (shFlat xs).drop ((i + 1) * 5) := by
  rw [List.set_eq_take_append_cons_drop, if_pos hi, shFlat_append, ← shFlat_take, ← shFlat_drop, List.append_assoc]
  congr 1
theorem sh_cell (h : SmIs w F sb v ve xs used ne evs) {b cap : Nat} (hv : v = .slice (some ⟨b, 0, none⟩) xs.length cap) (i : Nat) (hi : i < xs.length) (k : Nat) (hk : k < 5) : w.cell? ⟨b, i * 5 + k, none⟩ = (shAt xs i).vals[k]? := by
  subst hv
  have := h.row.cellAt (i * 5 + k) (by omega)
  rw [shFlat_get k hk xs i hi] at this
  exact this
theorem SmIs.cut3 {b cap : Nat} (h : SmIs w F sb (.slice (some ⟨b, 0, none⟩) xs.length cap) ve xs used ne evs) (i : Nat) (hi : i < xs.length) (lo hi' : ByteArray) (n : Int) (hlo : lo.size ≤ 70368744177664) (hhi : hi'.size ≤ 70368744177664) :
    SmIs (((w.setCell ⟨b, i * 5 + 3, none⟩ (.string lo)).setCell ⟨b, i * 5 + 4, none⟩ (.string hi')).setCell ⟨b, i * 5 + 2, none⟩ (.int .i64 n)) F sb (.slice (some ⟨b, 0, none⟩) xs.length cap) ve (xs.set i ⟨(shAt xs i).id, (shAt xs i).server, n, lo, hi'⟩) used ne evs := by
  obtain ⟨r1, g1⟩ := h.row.stored (i * 5 + 3) (.string lo)
  obtain ⟨r2, g2⟩ := r1.stored (i * 5 + 4) (.string hi')
  obtain ⟨r3, g3⟩ := r2.stored (i * 5 + 2) (.int .i64 n)
  have hlen : (xs.set i ⟨(shAt xs i).id, (shAt xs i).server, n, lo, hi'⟩).length = xs.length := List.length_set
  refine h.row_turn ((Only.of_grownBy (g1.trans (g2.trans g3))).mono fun j hj => .inl hj) ?_ ?_
  · rw [hlen]
    have e : shFlat (xs.set i ⟨(shAt xs i).id, (shAt xs i).server, n, lo, hi'⟩) = (((shFlat xs).set (i * 5 + 3) (.string lo)).set (i * 5 + 4) (.string hi')).set (i * 5 + 2) (.int .i64 n) := by
      rw [shFlat_set xs i hi]
      have hfl : (shFlat xs).length = xs.length * 5 := shFlat_length xs
      have g0 := shFlat_get 0 (by omega) xs i hi
      have g1 := shFlat_get 1 (by omega) xs i hi
      generalize shAt xs i = c at *
      obtain ⟨c0, c1, c2, c3, c4⟩ := c
      generalize shFlat xs = L at *
      simp only [Sh.vals, List.getElem?_cons_zero, List.getElem?_cons_succ, Nat.add_zero] at g0 g1
      apply List.ext_getElem?
      intro j
      rw [List.getElem?_append, List.getElem?_append, List.getElem?_take, List.getElem?_drop, List.getElem?_set, List.getElem?_set, List.getElem?_set]
      simp only [List.length_append, List.length_take, List.length_set, Sh.vals, List.length_cons, List.length_nil]
      rw [Nat.min_eq_left (show i * 5 ≤ L.length by omega)]
      by_cases h1 : j < i * 5
      · rw [if_pos (by omega), if_pos h1, if_pos h1, if_neg (by omega), if_neg (by omega), if_neg (by omega)]
      · by_cases h2 : j = i * 5
        · subst h2; rw [if_pos (by omega), if_neg h1, if_neg (by omega), if_neg (by omega), if_neg (by omega), g0]; simp
        · by_cases h3 : j = i * 5 + 1
          · subst h3; rw [if_pos (by omega), if_neg h1, if_neg (by omega), if_neg (by omega), if_neg (by omega), g1]; simp
          · by_cases h4 : j = i * 5 + 2
            · subst h4; rw [if_pos (by omega), if_neg h1, if_pos rfl, if_pos (by omega)]; simp
            · by_cases h5 : j = i * 5 + 3
              · subst h5; rw [if_pos (by omega), if_neg h1, if_neg (by omega), if_neg (by omega), if_pos rfl, if_pos (by omega)]; simp
              · by_cases h6 : j = i * 5 + 4
                · subst h6; rw [if_pos (by omega), if_neg h1, if_neg (by omega), if_pos rfl, if_pos (by omega)]; simp
                · rw [if_neg (by omega), if_neg (by omega), if_neg (by omega), if_neg (by omega)]
                  congr 1; omega
    rw [e]
    exact r3
  · intro c hc
    rcases List.mem_or_eq_of_mem_set hc with hc | rfl
    · exact h.sz c hc
    · exact ⟨hlo, hhi⟩
theorem SmIs.serv {b cap : Nat} (h : SmIs w F sb (.slice (some ⟨b, 0, none⟩) xs.length cap) ve xs used ne evs) (i : Nat) (hi : i < xs.length) (n : Int) :
    SmIs (w.setCell ⟨b, i * 5 + 1, none⟩ (.int .i64 n)) F sb (.slice (some ⟨b, 0, none⟩) xs.length cap) ve (xs.set i ⟨(shAt xs i).id, n, (shAt xs i).since, (shAt xs i).lo, (shAt xs i).hi⟩) used ne evs := by
  obtain ⟨r1, g1⟩ := h.row.stored (i * 5 + 1) (.int .i64 n)
  have hlen : (xs.set i ⟨(shAt xs i).id, n, (shAt xs i).since, (shAt xs i).lo, (shAt xs i).hi⟩).length = xs.length := List.length_set
  refine h.row_turn ((Only.of_grownBy g1).mono fun j hj => .inl hj) ?_ ?_
  · rw [hlen]
    have e : shFlat (xs.set i ⟨(shAt xs i).id, n, (shAt xs i).since, (shAt xs i).lo, (shAt xs i).hi⟩) = (shFlat xs).set (i * 5 + 1) (.int .i64 n) := by
      rw [shFlat_set xs i hi]
      have hfl : (shFlat xs).length = xs.length * 5 := shFlat_length xs
      have g0 := shFlat_get 0 (by omega) xs i hi
      have g2 := shFlat_get 2 (by omega) xs i hi
      have g3 := shFlat_get 3 (by omega) xs i hi
      have g4 := shFlat_get 4 (by omega) xs i hi
      generalize shAt xs i = c at *
      obtain ⟨c0, c1, c2, c3, c4⟩ := c
      generalize shFlat xs = L at *
      simp only [Sh.vals, List.getElem?_cons_zero, List.getElem?_cons_succ, Nat.add_zero] at g0 g2 g3 g4
      apply List.ext_getElem?
      intro j
      rw [List.getElem?_append, List.getElem?_append, List.getElem?_take, List.getElem?_drop, List.getElem?_set]
      simp only [List.length_append, List.length_take, Sh.vals, List.length_cons, List.length_nil]
      rw [Nat.min_eq_left (show i * 5 ≤ L.length by omega)]
      by_cases h1 : j < i * 5
      · rw [if_pos (by omega), if_pos h1, if_pos h1, if_neg (by omega)]
      · by_cases h2 : j = i * 5
        · subst h2; rw [if_pos (by omega), if_neg h1, if_neg (by omega), g0]; simp
        · by_cases h3 : j = i * 5 + 1
          · subst h3; rw [if_pos (by omega), if_neg h1, if_pos rfl, if_pos (by omega)]; simp
          · by_cases h4 : j = i * 5 + 2
            · subst h4; rw [if_pos (by omega), if_neg h1, if_neg (by omega), g2]; simp
            · by_cases h5 : j = i * 5 + 3
              · subst h5; rw [if_pos (by omega), if_neg h1, if_neg (by omega), g3]; simp
              · by_cases h6 : j = i * 5 + 4
                · subst h6; rw [if_pos (by omega), if_neg h1, if_neg (by omega), g4]; simp
                · rw [if_neg (by omega), if_neg (by omega)]
                  congr 1; omega
    rw [e]
    exact r1
  · intro c hc
    rcases List.mem_or_eq_of_mem_set hc with hc | rfl
    · exact h.sz c hc
    · exact h.sz (shAt xs i) (shAt_mem xs i hi)
theorem SmIs.live_set (h : SmIs w F sb v ve xs used ne evs) (ho : Only (fun j => some j = v.ownBlock) w u) {r : Value} (hform : ∀ g, r.ownBlock = some g → v.ownBlock = some g ∨ w.heap.size ≤ g) (hr : u.ownsRow 0 118 5 r ys.length (shFlat ys)) (hsz : ∀ c ∈ ys, c.lo.size ≤ 70368744177664 ∧ c.hi.size ≤ 70368744177664) :
    ShTurn w F sb ys used ne evs (u.setCell ⟨sb, 0, none⟩ r) := by
  have n0 : ¬ some sb = v.ownBlock := fun e => (h.foot1 sb e.symm).2 rfl
  have hb := h.blt
  have hb2 : sb < u.heap.size := Nat.lt_of_lt_of_le hb ho.size
  have hc : u.cell? ⟨sb, 0, none⟩ = some v := (ho.cell hb n0 0).trans h.live
  have o2 := Only.setCell u ⟨sb, 0, none⟩ r
  have hgsb : ∀ g, r.ownBlock = some g → g ≠ sb := by
    intro g hg
    rcases hform g hg with h1 | h1
    · exact (h.foot1 g h1).2
    · omega
  have hlt : ∀ g, r.ownBlock = some g → g < u.heap.size := by
    intro g hg
    rcases hr.2 with ⟨e, _⟩ | ⟨b, c, cur, e, _, hh, _⟩
    · rw [e] at hg; cases hg
    · rw [e] at hg; cases hg; exact (Array.getElem?_eq_some_iff.1 hh).1
  have cne : ∀ k, k ≠ 0 → (u.setCell ⟨sb, 0, none⟩ r).cell? ⟨sb, k, none⟩ = u.cell? ⟨sb, k, none⟩ := fun k hk => World.cell?_setCell_other _ _ _ _ (fun e => hk (by injection e with _ e2; exact e2.symm))
  refine ⟨(ho.mono fun j hj => .inl (h.foot1 j hj.symm).1).then (o2.mono fun j hj => .inl (by subst hj; exact h.foot0)), fun j => F j ∨ r.ownBlock = some j, ⟨r, ve, ?_⟩, ?_⟩
  · refine ⟨by simp [World.cell?_setCell_same, hc], fun i hi => ?_, ?_, fun i hi => ?_, ?_, ?_, hsz, .inl h.foot0, fun g hg => ⟨.inr hg, hgsb g hg⟩, fun g hg => ?_, ?_, h.nil⟩
    · rw [cne _ (by omega)]; exact (ho.cell hb n0 _).trans (h.used i hi)
    · rw [cne _ (by omega)]; exact (ho.cell hb n0 _).trans h.ev
    · rw [World.frozen?_setCell]; exact (ho.frozen hb n0 _).trans (h.fz i hi)
    · exact ownsRow_keep o2 hr (fun b hb e => hgsb b hb e)
    · have he := ownsRow_keep ho h.erow (fun b hb e => (h.foot2 b hb).2.2 e.symm)
      exact ownsRow_keep o2 he (fun b hb e => (h.foot2 b hb).2.1 e)
    · obtain ⟨h1, h2, h3⟩ := h.foot2 g hg
      refine ⟨.inl h1, h2, fun e => ?_⟩
      rcases hform g e with h4 | h4
      · exact h3 h4
      · have := h.lt g h1; omega
    · intro j hj
      rcases hj with hj | hj
      · exact Nat.lt_of_lt_of_le (h.lt j hj) (Nat.le_trans ho.size o2.size)
      · exact Nat.lt_of_lt_of_le (hlt j hj) o2.size
  · intro j hj
    rcases hj with hj | hj
    · exact .inl hj
    · rcases hform j hj with h1 | h1
      · exact .inl (h.foot1 j h1).1
      · exact .inr h1
theorem SmIs.used_set (h : SmIs w F sb v ve xs used ne evs) (k : Nat) (hk : k < 13) : SmIs (w.setCell ⟨sb, 1 + k, none⟩ (.bool true)) F sb v ve xs (fun j => if j = k then true else used j) ne evs := by
  have ho := Only.setCell w ⟨sb, 1 + k, none⟩ (.bool true)
  have cne : ∀ o, o ≠ 1 + k → (w.setCell ⟨sb, 1 + k, none⟩ (.bool true)).cell? ⟨sb, o, none⟩ = w.cell? ⟨sb, o, none⟩ := fun o hne => World.cell?_setCell_other _ _ _ _ (fun e => hne (by injection e with _ e2; exact e2.symm))
  refine ⟨by rw [cne _ (by omega)]; exact h.live, fun i hi => ?_, by rw [cne _ (by omega)]; exact h.ev, fun i hi => by rw [World.frozen?_setCell]; exact h.fz i hi, ownsRow_keep ho h.row (fun b hb e => (h.foot1 b hb).2 e), ownsRow_keep ho h.erow (fun b hb e => (h.foot2 b hb).2.1 e), h.sz, h.foot0, h.foot1, h.foot2, fun j hj => Nat.lt_of_lt_of_le (h.lt j hj) ho.size, h.nil⟩
  by_cases hik : i = k
  · subst hik
    rw [if_pos rfl]
    have := h.used i hi
    simp [World.cell?_setCell_same, this]
  · rw [if_neg hik, cne _ (by omega)]
    exact h.used i hi
end
end Go.Proofs.YtbdagllflamabaaGreatDoor
