/- Cur, Cur2, Play0, News: one text. -/
import Derived.Test.YthmjbeieheacmaaGreatDoorFinPlayCursorsQ4
import Derived.Test.YthmjbeieheacmaaGreatDoorFinPlayCursorsQ6
import Derived.Test.YthmjbeieheacmaaGreatDoorFinPlayCursorsQ5
set_option linter.unusedVariables false
set_option linter.unusedSectionVars false
set_option linter.unusedSimpArgs false
namespace Go.Proofs.YthmjbeieheacmaaGreatDoor
open Go.RowKit Go.Maps
attribute [local go_sem] Oper.semAt_some
namespace Pl
def streamB (s : Int) : Bool := decide (0 ≤ s) && decide (s ≤ 12)
def risesI (last : Int) : List Int → Bool
  | [] => true
  | s :: r => decide (last < s) && streamB s && risesI s r
def cutI (us : List Int) (t : Int) : Nat := us.countP fun u => decide (u < t)
def addI (us : List Int) (t : Int) : List Int := if t ∈ us then us else us.take (cutI us t) ++ [t] ++ us.drop (cutI us t)
theorem risesI_gt : ∀ (us : List Int) (last : Int), risesI last us = true → ∀ u ∈ us, last < u
  | [], _, _, u, hu => by cases hu
  | s :: r, last, h, u, hu => by
    simp only [risesI, Bool.and_eq_true, decide_eq_true_eq] at h
    rcases List.mem_cons.1 hu with rfl | hu
    · exact h.1.1
    · have := risesI_gt r s h.2 u hu
      omega
theorem risesI_tail {s : Int} {r : List Int} {last : Int} (h : risesI last (s :: r) = true) : risesI s r = true := by
  simp only [risesI, Bool.and_eq_true] at h; exact h.2
theorem cutI_le (us : List Int) (t : Int) : cutI us t ≤ us.length := List.countP_le_length
theorem cutI_pos : ∀ (us : List Int) (last : Int) (t : Int), risesI last us = true → ∀ j, j < us.length → (us[j]?.getD 0 < t ↔ j < cutI us t)
  | [], _, _, _, j, hj => by simp at hj
  | s :: r, last, t, h, j, hj => by
    have h' := risesI_tail h
    have hg := risesI_gt r s h'
    have e : cutI (s :: r) t = cutI r t + (if s < t then 1 else 0) := by unfold cutI; rw [List.countP_cons]; simp
    by_cases hst : s < t
    · rw [e, if_pos hst]
      cases j with
      | zero => simp; exact hst
      | succ j =>
        have := cutI_pos r s t h' j (by simpa using hj)
        rw [List.getElem?_cons_succ, this]; omega
    · have h0 : cutI r t = 0 := by
        unfold cutI
        rw [List.countP_eq_zero]
        intro u hu
        have := hg u hu
        simp; omega
      rw [e, if_neg hst, h0]
      constructor
      · intro hlt
        cases j with
        | zero => simp at hlt; omega
        | succ j =>
          rw [List.getElem?_cons_succ] at hlt
          have hjr : j < r.length := by simpa using hj
          rw [List.getElem?_eq_getElem hjr] at hlt
          have := hg _ (List.getElem_mem hjr)
          simp at hlt; omega
      · intro h; omega
theorem mem_cut {us : List Int} {last t : Int} (h : risesI last us = true) : t ∈ us ↔ (cutI us t < us.length ∧ us[cutI us t]?.getD 0 = t) := by
  constructor
  · intro hm
    obtain ⟨i, hi, rfl⟩ := List.getElem_of_mem hm
    have hp := cutI_pos us last us[i] h
    have h1 : ¬ i < cutI us us[i] := fun hlt => by
      have := (hp i hi).2 hlt
      rw [List.getElem?_eq_getElem hi] at this
      simp at this
    have h2 : ¬ cutI us us[i] < i := fun hlt => by
      have hc : cutI us us[i] < us.length := by omega
      have h3 : ¬ us[cutI us us[i]]?.getD 0 < us[i] := fun q => by have := (hp _ hc).1 q; omega
      rw [List.getElem?_eq_getElem hc] at h3
      have h4 : ∀ (l : List Int) (m : Int), risesI m l = true → ∀ a b (hb : b < l.length), (hab : a < b) → l[a] < l[b] := by
        intro l
        induction l with
        | nil => intro m _ a b hb; simp at hb
        | cons s r ih =>
          intro m hr a b hb hab
          cases b with
          | zero => omega
          | succ b =>
            cases a with
            | zero => exact risesI_gt r s (risesI_tail hr) _ (List.getElem_mem _)
            | succ a => exact ih s (risesI_tail hr) a b (by simpa using hb) (by omega)
      exact h3 (h4 us last h _ _ hi hlt)
    have e : cutI us us[i] = i := by omega
    rw [e]
    exact ⟨hi, by rw [List.getElem?_eq_getElem hi]; rfl⟩
  · rintro ⟨h1, h2⟩
    rw [List.getElem?_eq_getElem h1] at h2
    exact h2 ▸ List.getElem_mem h1
theorem addI_mem (us : List Int) (t x : Int) : x ∈ addI us t ↔ x ∈ us ∨ x = t := by
  unfold addI
  split
  · next h => exact ⟨.inl, fun q => q.elim id (fun e => e ▸ h)⟩
  · rw [List.mem_append, List.mem_append, List.mem_singleton]
    constructor
    · rintro ((h | h) | h)
      · exact .inl (List.mem_of_mem_take h)
      · exact .inr h
      · exact .inl (List.mem_of_mem_drop h)
    · rintro (h | h)
      · rw [← List.take_append_drop (cutI us t) us, List.mem_append] at h
        rcases h with h | h
        · exact .inl (.inl h)
        · exact .inr h
      · exact .inl (.inr h)
theorem cutI_cons_lt {s t : Int} {r : List Int} (h : s < t) : cutI (s :: r) t = cutI r t + 1 := by unfold cutI; rw [List.countP_cons]; simp [h]
theorem cutI_zero {s t : Int} {r : List Int} {last : Int} (hr : risesI last (s :: r) = true) (h : ¬ s < t) : cutI (s :: r) t = 0 := by
  unfold cutI
  rw [List.countP_eq_zero]
  intro u hu
  rcases List.mem_cons.1 hu with rfl | hu
  · simpa using h
  · have := risesI_gt r s (risesI_tail hr) u hu
    simp; omega
theorem put_rises : ∀ (us : List Int) (last t : Int), risesI last us = true → last < t → streamB t = true → t ∉ us → risesI last (us.take (cutI us t) ++ [t] ++ us.drop (cutI us t)) = true
  | [], last, t, _, hl, ht, _ => by simp [risesI, hl, ht]
  | s :: r, last, t, h, hl, ht, hm => by
    by_cases hs : s < t
    · rw [cutI_cons_lt hs]
      have ih := put_rises r s t (risesI_tail h) hs ht (fun q => hm (List.mem_cons_of_mem _ q))
      simp only [risesI, Bool.and_eq_true] at h
      simp only [List.take_succ_cons, List.drop_succ_cons, List.cons_append, risesI, Bool.and_eq_true]
      exact ⟨h.1, ih⟩
    · rw [cutI_zero h hs]
      have hne : s ≠ t := fun e => hm (by rw [e]; simp)
      simp only [risesI, Bool.and_eq_true, decide_eq_true_eq] at h
      simp only [List.take_zero, List.nil_append, List.drop_zero, List.cons_append, risesI, Bool.and_eq_true, decide_eq_true_eq]
      exact ⟨⟨hl, ht⟩, ⟨⟨by omega, h.1.2⟩, h.2⟩⟩
theorem addI_rises {us : List Int} {t : Int} (h : risesI (-1) us = true) (ht : streamB t = true) : risesI (-1) (addI us t) = true := by
  unfold addI
  split
  · exact h
  · next hm =>
    have : 0 ≤ t := by simp only [streamB, Bool.and_eq_true, decide_eq_true_eq] at ht; exact ht.1
    exact put_rises us (-1) t h (by omega) ht hm
theorem rises_ext : ∀ (us vs : List Int) (l : Int), risesI l us = true → risesI l vs = true → (∀ x, x ∈ us ↔ x ∈ vs) → us = vs
  | [], [], _, _, _, _ => rfl
  | [], v :: r, _, _, _, h => by have := (h v).2 (by simp); cases this
  | s :: r, [], _, _, _, h => by have := (h s).1 (by simp); cases this
  | s :: r, v :: q, l, h1, h2, h => by
    have g1 := risesI_gt r s (risesI_tail h1)
    have g2 := risesI_gt q v (risesI_tail h2)
    have e : s = v := by
      have a := (h s).1 (by simp)
      have b := (h v).2 (by simp)
      rcases List.mem_cons.1 a with a | a
      · exact a
      · rcases List.mem_cons.1 b with b | b
        · exact b.symm
        · have := g1 v b; have := g2 s a; omega
    subst e
    rw [rises_ext r q s (risesI_tail h1) (risesI_tail h2) (fun x => ?_)]
    constructor
    · intro hx
      rcases List.mem_cons.1 ((h x).1 (List.mem_cons_of_mem _ hx)) with e | e
      · have := g1 x hx; omega
      · exact e
    · intro hx
      rcases List.mem_cons.1 ((h x).2 (List.mem_cons_of_mem _ hx)) with e | e
      · have := g2 x hx; omega
      · exact e
theorem addI_len (us : List Int) (t : Int) : (addI us t).length ≤ us.length + 1 := by
  unfold addI
  have := cutI_le us t
  split
  · omega
  · simp; omega
end Pl
structure CurIs (w : World) (G : Nat → Prop) (cb : Nat) (v : Value) (at_ : Int) (us : List Int) : Prop where
  c0 : w.cell? ⟨cb, 0, none⟩ = some v
  c1 : w.cell? ⟨cb, 1, none⟩ = some (.int .i64 at_)
  fz : w.frozen? ⟨cb, 0, none⟩ = false
  row : w.ownsRow 0 3 1 v us.length (intFlat us)
  foot : G cb
  own : ∀ g, v.ownBlock = some g → G g ∧ g ≠ cb
  lt : ∀ j, G j → j < w.heap.size
def CurAt (w : World) (G : Nat → Prop) (cb : Nat) (at_ : Int) (us : List Int) : Prop := ∃ v, CurIs w G cb v at_ us
theorem CurIs.kept {w w' : World} {G S : Nat → Prop} {cb : Nat} {v : Value} {at_ : Int} {us : List Int} (h : CurIs w G cb v at_ us) (g : Only S w w') (hS : ∀ j, G j → ¬ S j) : CurIs w' G cb v at_ us :=
  ⟨(g.cell (cell_lt h.c0) (hS _ h.foot) 0).trans h.c0, (g.cell (cell_lt h.c0) (hS _ h.foot) 1).trans h.c1, (g.frozen (cell_lt h.c0) (hS _ h.foot) 0).trans h.fz, ownsRow_kept h.row g fun b hb => hS b (h.own b hb).1, h.foot, h.own, fun j hj => Nat.lt_of_lt_of_le (h.lt j hj) g.size⟩
theorem CurAt.grew {w w' : World} {G : Nat → Prop} {cb : Nat} {at_ : Int} {us : List Int} (h : CurAt w G cb at_ us) (g : Grew w w') : CurAt w' G cb at_ us := by
  obtain ⟨v, h⟩ := h
  exact ⟨v, h.kept (g.only fun _ => False) (fun _ _ h => h)⟩
set_option maxRecDepth 100000 in
theorem streamP_any (s : Int) (w : World) : Calls Tryz.prog 14 #[.int .i64 s] w fun e w' => e = .returned (.bool (Pl.streamB s)) ∧ w' = w := by
  by_cases h1 : 0 ≤ s
  · by_cases h2 : s ≤ 12
    · have HB : Hid (Pl.streamB s = true) := by simp [Hid, Pl.streamB, h1, h2]
      go_enter Tryz.func14, Tryz.ntmps14
      go_wp2
      go_ret
      exact ⟨ret_bool HB.out.symm, rfl⟩
    · have HB : Hid (Pl.streamB s = false) := by simp [Hid, Pl.streamB, h1, h2]
      go_enter Tryz.func14, Tryz.ntmps14
      go_wp2
      go_ret
      exact ⟨ret_bool HB.out.symm, rfl⟩
  · have HB : Hid (Pl.streamB s = false) := by simp [Hid, Pl.streamB, h1]
    go_enter Tryz.func14, Tryz.ntmps14
    go_wp2
    go_ret
    exact ⟨ret_bool HB.out.symm, rfl⟩
set_option maxRecDepth 100000 in
theorem curAt_any {w : World} {G : Nat → Prop} {cb : Nat} {at_ : Int} {us : List Int} (h : CurAt w G cb at_ us) : Calls Tryz.prog 7 #[.pointer (some ⟨cb, 0, none⟩)] w fun e w' => e = .returned (.int .i64 at_) ∧ w' = w := by
  obtain ⟨v, h⟩ := h
  have c1 := h.c1
  clear h
  go_enter Tryz.func7, Tryz.ntmps7
  go_wp2
  go_ret
  exact ⟨rfl, rfl⟩
set_option maxRecDepth 100000 in
theorem curStreams_any {w : World} {G : Nat → Prop} {cb : Nat} {at_ : Int} {us : List Int} (h : CurAt w G cb at_ us) (hl : us.length ≤ 100000) : Calls Tryz.prog 9 #[.pointer (some ⟨cb, 0, none⟩)] w fun e w' => ∃ a c, e = .returned (.slice a us.length c) ∧ IntsAt w' a us ∧ Grew w w' := by
  obtain ⟨v, h⟩ := h
  obtain ⟨a, cap, rfl, hA, hf⟩ := intsAt_row h.row
  have HC := hid (cloneI_any w a us.length cap us rfl hA hf (by omega))
  have c0 := h.c0
  clear h hA hf
  go_enter Tryz.func9, Tryz.ntmps9
  go_wp2_with fail
  refine HC.out.mono ?_
  rintro e w1 ⟨a', c', rfl, hr, hg⟩
  obtain ⟨a2, c2, e2, hA2⟩ := intsAt_of hr
  injection e2 with e2 _ e3
  subst e2 e3
  have HA := hid hA2
  have HG := hid hg
  clear hr hg hA2 HC
  go_wp2_with fail
  go_ret
  exact ⟨_, _, rfl, HA.out, HG.out⟩
end Go.Proofs.YthmjbeieheacmaaGreatDoor
namespace Go.Proofs.YthmjbeieheacmaaGreatDoor
open Go.RowKit Go.Maps
attribute [local go_sem] Oper.semAt_some
def CurNewV (E : Nat → Addr) (w : World) (at_ : Int) (us : List Int) (e : Ending) (w' : World) : Prop := Grew w w' ∧
  ((Pl.risesI (-1) us = false ∧ e = .returned (.tuple #[.pointer none, errOf E 4])) ∨
   (Pl.risesI (-1) us = true ∧ (at_ < 0 ∨ 4096 < at_) ∧ e = .returned (.tuple #[.pointer none, errOf E 1])) ∨
   (Pl.risesI (-1) us = true ∧ 0 ≤ at_ ∧ at_ ≤ 4096 ∧ ∃ cb G, e = .returned (.tuple #[.pointer (some ⟨cb, 0, none⟩), .nilIface]) ∧ CurAt w' G cb at_ us ∧ ∀ j, G j → w.heap.size ≤ j))
set_option maxRecDepth 100000 in
set_option maxHeartbeats 4000000 in
theorem curNew_any (E : Nat → Addr) {w : World} (hE : Errs allS E w) (a : Option Addr) (cap : Nat) (us : List Int) (at_ : Int) (hA : IntsAt w a us) (hf : SlForm a cap) (hx : us.length ≤ 1000) :
    Calls Tryz.prog 5 #[.slice a us.length cap, .int .i64 at_] w (CurNewV E w at_ us) := by
  have HE := hid hE
  have HA := hid hA
  have HF := hid hf
  have HS := hid streamP_any
  clear hE hA hf
  generalize hQ : CurNewV E w at_ us = QQ
  have HQ := hid hQ
  clear hQ
  go_enter Tryz.func5, Tryz.ntmps5
  go_wp2_with fail
  go_loopw [6, 8, 11] (fun l _ i wr => ∃ (k : Nat) (last : Int), l = .int .i64 last ∧ i = .int .i64 k ∧ k ≤ us.length ∧ Hid (Pl.risesI (-1) us = Pl.risesI last (us.drop k)) ∧ Hid (Grew w wr)) (fun _ _ i _ => us.length - (intOf i).toNat)
  case atStart => exact ⟨0, -1, rfl, rfl, Nat.zero_le _, rfl, Grew.refl w⟩
  case round =>
    obtain ⟨k, last, rfl, rfl, hk, HR, HG⟩ := hrel
    by_cases hlt : k < us.length
    · rcases HA.out with h0 | ⟨b, off, rfl, hb, hRw⟩
      · rw [h0] at hlt; simp at hlt
      have q0 := (HG.out.cells.1 b (off + k) hb).trans (hRw k hlt)
      have hd : us.drop k = us[k] :: us.drop (k + 1) := List.drop_eq_getElem_cons hlt
      have hat : us[k]?.getD 0 = us[k] := by rw [List.getElem?_eq_getElem hlt]; rfl
      rw [hat] at q0
      rw [hd] at HR
      clear hRw hd hat
      generalize us[k] = u at *
      have g4 : wr.cell? ⟨0, 0, none⟩ = some (.iface 280 (.pointer (some (E 4)))) := (HE.out.grew HG.out).cell 4 rfl
      have hbad : ∀ X, Hid (Pl.risesI (-1) us = false → Grew w X → QQ (.returned (.tuple #[.pointer none, .iface 280 (.pointer (some (E 4)))])) X) := fun X h g => by rw [← HQ.out]; exact ⟨g, .inl ⟨h, rfl⟩⟩
      by_cases hl : u ≤ last
      · have HB : Hid (Pl.risesI (-1) us = false) := by
          unfold Hid; rw [HR.out]; simp only [Pl.risesI]; rw [decide_eq_false (by omega)]; rfl
        go_wp2_with fail
        go_region
        go_wp2_with fail
        exact hbad _ HB.out HG.out.drew
      · cases hs : Pl.streamB u with
        | false =>
          have HB : Hid (Pl.risesI (-1) us = false) := by
            unfold Hid; rw [HR.out]; simp only [Pl.risesI]; rw [hs]; simp
          go_wp2_with fail
          refine (HS.out _ _).mono ?_
          rintro e w1 ⟨rfl, rfl⟩
          rw [hs]
          go_wp2_with fail
          go_region
          go_wp2_with fail
          exact hbad _ HB.out HG.out.drew
        | true =>
          have HN : Hid (Pl.risesI (-1) us = Pl.risesI u (us.drop (k + 1))) := by
            unfold Hid; rw [HR.out]; simp only [Pl.risesI]; rw [hs, decide_eq_true (by omega)]; rfl
          go_wp2_with fail
          refine (HS.out _ _).mono ?_
          rintro e w1 ⟨rfl, rfl⟩
          rw [hs]
          go_wp2_with fail
          go_roundw
          case rel => exact ⟨k + 1, u, rfl, by go_num, by omega, HN, HG⟩
          case measure => simp [intOf]; omega
    · obtain rfl : k = us.length := by omega
      have HT : Hid (Pl.risesI (-1) us = true) := by unfold Hid; rw [HR.out, List.drop_length]; rfl
      have g1 : wr.cell? ⟨1, 0, none⟩ = some (.iface 280 (.pointer (some (E 1)))) := (HE.out.grew HG.out).cell 1 rfl
      have hbad : ∀ X, Hid ((at_ < 0 ∨ 4096 < at_) → Grew w X → QQ (.returned (.tuple #[.pointer none, .iface 280 (.pointer (some (E 1)))])) X) := fun X h g => by rw [← HQ.out]; exact ⟨g, .inr (.inl ⟨HT.out, h, rfl⟩)⟩
      by_cases h0 : at_ < 0
      · go_wp2_with fail
        go_region
        go_wp2_with fail
        exact hbad _ (.inl h0) HG.out.drew
      · by_cases h1 : 4096 < at_
        · go_wp2_with fail
          go_region
          go_wp2_with fail
          exact hbad _ (.inr h1) HG.out.drew
        · have HC := hid (cloneI_any wr a us.length cap us rfl (HA.out.grew HG.out) HF.out (by omega))
          go_wp2_with fail
          refine HC.out.mono ?_
          rintro e w1 ⟨a', c', rfl, hr, hg⟩
          have HR1 := hid hr
          have HG1 := hid hg
          clear hr hg HC
          go_wp2_with fail
          rw [← HQ.out]
          have gA : Grew w1 (w1.alloc (.cells #[.slice a' us.length c', .int .i64 at_] 54)) := (Grew.refl w1).alloc _
          have hb := heap_alloc_new w1 (.cells #[.slice a' us.length c', .int .i64 at_] 54)
          refine ⟨(HG.out.trans HG1.out).trans gA, .inr (.inr ⟨HT.out, by omega, by omega, w1.heap.size, fun j => j = w1.heap.size ∨ Value.ownBlock (.slice a' us.length c') = some j, rfl, ⟨_, ⟨by rw [cell_of_row _ _ _ _ _ _ hb]; rfl, by rw [cell_of_row _ _ _ _ _ _ hb]; rfl, by simp [go_sem], ownsRow_zero (ownsRow_grew gA HR1.out), .inl rfl, fun g hg => ⟨.inr hg, fun e => ?_⟩, fun j hj => ?_⟩⟩, fun j hj => ?_⟩)⟩
          · have := (HR1.out.lt g hg).2; omega
          · rcases hj with rfl | hj
            · simp
            · have := (HR1.out.lt j hj).2; simp; omega
          · have s1 := HG.out.size
            have s2 := HG1.out.size
            rcases hj with rfl | hj
            · omega
            · have := (HR1.out.lt j hj).1; omega
def CurAddV (E : Nat → Addr) (w : World) (G : Nat → Prop) (cb : Nat) (at_ : Int) (us : List Int) (s : Int) (e : Ending) (w' : World) : Prop :=
  (Pl.streamB s = false ∧ e = .returned (errOf E 1) ∧ w' = w) ∨ (Pl.streamB s = true ∧ e = .returned .nilIface ∧ Only G w w' ∧ ∃ G', CurAt w' G' cb at_ (Pl.addI us s) ∧ ∀ j, G' j → G j ∨ w.heap.size ≤ j)
set_option maxRecDepth 100000 in
set_option maxHeartbeats 4000000 in
theorem curAdd_any (E : Nat → Addr) {w : World} (hE : Errs allS E w) {G : Nat → Prop} {cb : Nat} {at_ : Int} {us : List Int} (h : CurAt w G cb at_ us) (hr : Pl.risesI (-1) us = true) (hl : us.length ≤ 1000) (s : Int) :
    Calls Tryz.prog 10 #[.pointer (some ⟨cb, 0, none⟩), .int .i64 s] w (CurAddV E w G cb at_ us s) := by
  have g1 : w.cell? ⟨1, 0, none⟩ = some (.iface 280 (.pointer (some (E 1)))) := hE.cell 1 rfl
  obtain ⟨v, h⟩ := h
  obtain ⟨a, cap, rfl, hA, hf⟩ := intsAt_row h.row
  have HB := hid (bsearchI_any a cap us s w hA (by omega) (Pl.cutI us s) (Pl.cutI_le us s) (Pl.cutI_pos us (-1) s hr))
  have HD := hid h
  have HS := hid streamP_any
  have c0 := h.c0
  have f0 := h.fz
  have hcb := cell_lt c0
  have hne : ¬ some cb = Value.ownBlock (.slice a us.length cap) := fun e => (h.own _ e.symm).2 rfl
  have HM := hid (Pl.mem_cut (t := s) hr)
  have hcl := Pl.cutI_le us s
  clear h hA hf hE
  generalize hQ : CurAddV E w G cb at_ us s = QQ
  have HQ := hid hQ
  clear hQ
  cases hs : Pl.streamB s with
  | false =>
    go_enter Tryz.func10, Tryz.ntmps10
    go_wp2_with fail
    refine (HS.out _ _).mono ?_
    rintro e w1 ⟨rfl, rfl⟩
    rw [hs]
    go_wp2_with fail
    rw [← HQ.out]
    exact .inl ⟨hs, rfl, rfl⟩
  | true =>
    by_cases hm : s ∈ us
    · have hd : decide (Pl.cutI us s < us.length ∧ us[Pl.cutI us s]?.getD 0 = s) = true := decide_eq_true (HM.out.1 hm)
      rw [hd] at HB
      go_enter Tryz.func10, Tryz.ntmps10
      go_wp2_with fail
      refine (HS.out _ _).mono ?_
      rintro e w1 ⟨rfl, rfl⟩
      rw [hs]
      go_wp2_with fail
      refine HB.out.mono ?_
      rintro e w2 ⟨rfl, hg⟩
      have HG := hid hg
      clear hg HB
      go_wp2_with fail
      rw [← HQ.out]
      refine .inr ⟨hs, rfl, HG.out.only _, G, ⟨.slice a us.length cap, ?_⟩, fun j hj => .inl hj⟩
      unfold Pl.addI
      rw [if_pos hm]
      exact HD.out.kept (HG.out.only fun _ => False) (fun _ _ h => h)
    · have hd : decide (Pl.cutI us s < us.length ∧ us[Pl.cutI us s]?.getD 0 = s) = false := decide_eq_false fun q => hm (HM.out.2 q)
      rw [hd] at HB
      have HADD : Hid (Pl.addI us s = us.take (Pl.cutI us s) ++ [s] ++ us.drop (Pl.cutI us s)) := by unfold Hid Pl.addI; rw [if_neg hm]
      clear hm hd
      generalize Pl.cutI us s = p at *
      go_enter Tryz.func10, Tryz.ntmps10
      go_wp2_with fail
      refine (HS.out _ _).mono ?_
      rintro e w1 ⟨rfl, rfl⟩
      rw [hs]
      go_wp2_with fail
      refine HB.out.mono ?_
      rintro e w2 ⟨rfl, hg⟩
      have x0 := (hg.cells.1 _ 0 hcb).trans c0
      have HG := hid hg
      clear hg HB
      go_wp2_with fail
      have gA : Grew w2 (w2.alloc (.cells #[.int .i64 s] 3)) := (Grew.refl w2).alloc _
      have hvb := heap_alloc_new w2 (.cells #[.int .i64 s] 3)
      have hGA : Grew w1 (w2.alloc (.cells #[.int .i64 s] 3)) := HG.out.trans gA
      have hrow := ownsRow_grew hGA HD.out.row
      refine (insI64 _ 0 a us.length cap (intFlat us) hrow (Nat.zero_le _) (intFlat_one us) p hcl w2.heap.size [.int .i64 s] 1 hvb rfl (fun u hu => by rw [List.mem_singleton.1 hu]; rfl) (by omega) (fun e => by have := HD.out.lt _ (HD.out.own _ e).1; have := HG.out.size; omega)).mono ?_
      rintro e w3 ⟨r, rfl, ⟨g, c2, rfl, hg2⟩, hrow3, hgr⟩
      have hO : Only (fun j => some j = Value.ownBlock (.slice a us.length cap)) w1 w3 := (hGA.only _).then (Only.of_grownBy hgr)
      have y0 := (hO.cell hcb hne 0).trans c0
      have y1 := (hO.cell hcb hne 1).trans HD.out.c1
      have yf := (hO.frozen hcb hne 0).trans f0
      have hg3 : some g = Value.ownBlock (.slice a us.length cap) ∨ w1.heap.size ≤ g := by
        rcases hg2 with e | e
        · exact .inl e.symm
        · have := HG.out.size; simp at e; right; omega
      rw [Nat.mul_one, show List.take p (intFlat us) ++ [Value.int .i64 s] ++ List.drop p (intFlat us) = intFlat (us.take p ++ [s] ++ us.drop p) by simp [intFlat, List.map_take, List.map_drop], ← HADD.out] at hrow3
      have hlen : (Pl.addI us s).length = us.length + 1 := by rw [HADD.out]; simp; omega
      have HO := hid hO
      have HROW := hid hrow3
      have HF := hid (And.intro hg3 (And.intro y1 hlen))
      clear gA hvb hGA hrow hrow3 hgr hO hg2 hg3 y1 c0 f0 x0 hlen
      go_wp2_with fail
      rw [← HQ.out]
      obtain ⟨hg3, y1, hlen⟩ := HF.out
      have oZ : Only (fun j => j = cb) w3 (w3.setCell ⟨cb, 0, none⟩ (.slice (some ⟨g, 0, none⟩) (us.length + 1) c2)) := Only.setCell w3 ⟨cb, 0, none⟩ _
      have hgb := HROW.out.lt g rfl
      have hgcb : g ≠ cb := by
        rcases hg3 with e | e
        · exact fun q => hne (by rw [← q]; exact e)
        · omega
      refine .inr ⟨hs, rfl, (HO.out.mono fun j e => .inl (HD.out.own j e.symm).1).then (oZ.mono fun j e => .inl (by rw [e]; exact HD.out.foot)), fun j => G j ∨ j = g, ⟨_, ⟨World.cell?_setCell_same' _ _ _ (by rw [y0]; rfl), (World.cell?_setCell_other w3 ⟨cb, 0, none⟩ ⟨cb, 1, none⟩ _ (fun e => by cases e)).trans y1, (World.frozen?_setCell _ _ _ _).trans yf, ?_, .inl HD.out.foot, fun j hj => ?_, fun j hj => ?_⟩⟩, fun j hj => ?_⟩
      · rw [hlen]
        exact ownsRow_kept HROW.out oZ (fun j hj e => by have : j = g := by simpa [Value.ownBlock] using hj.symm
                                                         omega)
      · have : j = g := by simpa [Value.ownBlock] using hj.symm
        exact ⟨.inr this, by omega⟩
      · have s1 := HO.out.size
        have s2 := oZ.size
        rcases hj with e | rfl
        · have := HD.out.lt j e; omega
        · omega
      · rcases hj with e | rfl
        · exact .inl e
        · rcases hg3 with e | e
          · exact .inl (HD.out.own j e.symm).1
          · exact .inr e
end Go.Proofs.YthmjbeieheacmaaGreatDoor
namespace Go.Proofs.YthmjbeieheacmaaGreatDoor
open Go.RowKit Go.Maps
attribute [local go_sem] Oper.semAt_some
set_option maxRecDepth 100000 in
theorem len64_0 (w : World) : Calls Tryz.prog 85 #[.int .u64 0] w fun e w' => e = .returned (.int .i64 0) ∧ w' = w := by
  go_enter Tryz.func85, Tryz.ntmps85
  go_wp2
  go_ret
  exact ⟨by kernel_rfl, rfl⟩
set_option maxRecDepth 100000 in
theorem len_0 (w : World) : Calls Tryz.prog 53 #[.int .u64 0] w fun e w' => e = .returned (.int .i64 0) ∧ w' = w := by
  have H := hid (len64_0 w)
  go_enter Tryz.func53, Tryz.ntmps53
  go_wp2_with fail
  refine H.out.mono ?_
  rintro e w1 ⟨rfl, rfl⟩
  go_wp2_with fail
  go_ret
  exact ⟨rfl, rfl⟩
set_option maxRecDepth 100000 in
theorem insI_0 (w : World) : Calls Tryz.prog 76 #[.slice none 0 0, .int .i64 0, .int .i64 0] w fun e w' => e = .returned (.tuple #[]) ∧ w' = w := by
  go_enter Tryz.func76, Tryz.ntmps76
  go_wp2_with fail
  refine wp_loop_rounds 1 ?_
  rw [rounds_succ]
  go_wp2
  go_end0
  exact ⟨rfl, rfl⟩
set_option maxRecDepth 100000 in
theorem pdqI_0 (w : World) : Calls Tryz.prog 52 #[.slice none 0 0, .int .i64 0, .int .i64 0, .int .i64 0] w fun e w' => e = .returned (.tuple #[]) ∧ w' = w := by
  have H := hid (insI_0 w)
  go_enter Tryz.func52, Tryz.ntmps52
  go_wp2_with fail
  refine wp_loop_rounds 1 ?_
  rw [rounds_succ]
  go_wp2_with fail
  refine H.out.mono ?_
  rintro e w1 ⟨rfl, rfl⟩
  go_wp2_with fail
  refine bodyPost_ret (v := .tuple #[]) (by simp [results, Tryz.f52, go_sem]) rfl ?_
  exact ⟨rfl, rfl⟩
set_option maxRecDepth 100000 in
theorem sortI_0 (w : World) : Calls Tryz.prog 29 #[.slice none 0 0] w fun e w' => e = .returned (.tuple #[]) ∧ w' = w := by
  have H := hid (len_0 w)
  have H2 := hid (pdqI_0 w)
  go_enter Tryz.func29, Tryz.ntmps29
  go_wp2_with fail
  refine H.out.mono ?_
  rintro e w1 ⟨rfl, rfl⟩
  go_wp2_with fail
  refine H2.out.mono ?_
  rintro e w1 ⟨rfl, rfl⟩
  go_wp2_with fail
  go_end0
  exact ⟨rfl, rfl⟩
set_option maxRecDepth 100000 in
theorem compI_0 (w : World) : Calls Tryz.prog 30 #[.slice none 0 0] w fun e w' => e = .returned (.slice none 0 0) ∧ w' = w := by
  go_enter Tryz.func30, Tryz.ntmps30
  go_wp2
  go_ret
  exact ⟨rfl, rfl⟩
set_option maxRecDepth 100000 in
theorem idxI_0 (f : Value) (w : World) : Calls Tryz.prog 49 #[.slice none 0 0, f] w fun e w' => e = .returned (.int .i64 (-1)) ∧ w' = w := by
  go_enter Tryz.func49, Tryz.ntmps49
  go_wp2_with fail
  refine wp_loop_rounds 1 ?_
  rw [rounds_succ]
  go_wp2
  go_ret
  exact ⟨rfl, rfl⟩
set_option maxRecDepth 100000 in
theorem hasI_0 (f : Value) (w : World) : Calls Tryz.prog 26 #[.slice none 0 0, f] w fun e w' => e = .returned (.bool false) ∧ w' = w := by
  have H := hid (idxI_0 f w)
  go_enter Tryz.func26, Tryz.ntmps26
  go_wp2_with fail
  refine H.out.mono ?_
  rintro e w1 ⟨rfl, rfl⟩
  go_wp2_with fail
  go_ret
  exact ⟨rfl, rfl⟩
structure LogC (w : World) (lb sq : Nat) (e n : Int) : Prop where
  c1 : w.cell? ⟨lb, 1, none⟩ = some (.int .i64 e)
  c3 : w.cell? ⟨lb, 3, none⟩ = some (.pointer (some ⟨sq, 0, none⟩))
  s0 : w.cell? ⟨sq, 0, none⟩ = some (.int .i64 e)
  s1 : w.cell? ⟨sq, 1, none⟩ = some (.int .i64 n)
theorem LogC.kept {S : Nat → Prop} {w w' : World} {lb sq : Nat} {e n : Int} (h : LogC w lb sq e n) (g : Only S w w') (h1 : ¬ S lb) (h2 : ¬ S sq) : LogC w' lb sq e n :=
  ⟨(g.cell (cell_lt h.c1) h1 1).trans h.c1, (g.cell (cell_lt h.c1) h1 3).trans h.c3, (g.cell (cell_lt h.s0) h2 0).trans h.s0, (g.cell (cell_lt h.s0) h2 1).trans h.s1⟩
theorem LogC.grew {w w' : World} {lb sq : Nat} {e n : Int} (h : LogC w lb sq e n) (g : Grew w w') : LogC w' lb sq e n := h.kept (g.only fun _ => False) (fun h => h) (fun h => h)
set_option maxRecDepth 100000 in
theorem tokNext_any {w : World} {sq : Nat} {e n : Int} (s0 : w.cell? ⟨sq, 0, none⟩ = some (.int .i64 e)) (s1 : w.cell? ⟨sq, 1, none⟩ = some (.int .i64 n)) : Calls Tryz.prog 48 #[.pointer (some ⟨sq, 0, none⟩), .int .i64 e] w fun e w' => e = .returned (.tuple #[.int .i64 n, .nilIface]) ∧ Grew w w' := by
  go_enter Tryz.func48, Tryz.ntmps48
  go_wp2_with fail
  try go_region
  go_wp2_with fail
  go_ret2
  exact ⟨rfl, by first | exact Grew.refl w | exact (Grew.refl w).drew⟩
set_option maxRecDepth 100000 in
theorem logTail_any {w : World} {lb sq : Nat} {e n : Int} (h : LogC w lb sq e n) : Calls Tryz.prog 25 #[.pointer (some ⟨lb, 0, none⟩)] w fun e w' => e = .returned (.tuple #[.int .i64 n, .nilIface]) ∧ Grew w w' := by
  have c3 := h.c3
  have H := hid (fun u (g : Grew w u) => tokNext_any (h.grew g).s0 (h.grew g).s1)
  have C1 := wd_cell h.c1
  have C3 := wd_cell h.c3
  clear h
  go_enter Tryz.func25, Tryz.ntmps25
  go_wp2_with fail
  refine wp_region_still 14 (by kernel_rfl) (by kernel_rfl) (fun _ _ => rfl) ?_
  repeat (first
    | (refine mxP ?_; intros; go_big_quiet_op; go_big_quiet_on)
    | (refine mxC (fun _ => by kernel_rfl) (fun u hu => H.out u hu) ?_; simp only [Act.put, List.setIfInBounds_toArray, List.set_cons_zero, List.set_cons_succ])
    | (refine mxK ?_; simp only [Act.put, List.setIfInBounds_toArray, List.set_cons_zero, List.set_cons_succ]))
  refine mixS_nil ?_
  intro x hx
  clear C1 C3 c3 H
  dsimp only [List.drop]
  go_wp2_with fail
  go_ret2
  exact ⟨rfl, hx⟩
set_option maxRecDepth 100000 in
set_option maxHeartbeats 4000000 in
theorem play0_any {w : World} {lb sq : Nat} {e : Int} (h : LogC w lb sq e 0) : Calls Tryz.prog 13 #[.pointer (some ⟨lb, 0, none⟩), .slice none 0 0, .int .i64 0, .int .i64 0] w fun e w' => e = .returned (.tuple #[.slice none 0 0, .nilIface]) ∧ Grew w w' := by
  have H := hid (logTail_any h)
  have HC := hid hasI_0
  have HS := hid sortI_0
  have HM := hid compI_0
  clear h
  go_enter Tryz.func13, Tryz.ntmps13
  go_wp2_with fail
  refine H.out.mono ?_
  rintro e w1 ⟨rfl, hg⟩
  go_wp2_with fail
  refine (HC.out _ _).mono ?_
  rintro e w2 ⟨rfl, rfl⟩
  go_wp2_with fail
  refine wp_loop_rounds 1 ?_
  rw [rounds_succ]
  go_wp2_with fail
  refine (HS.out _).mono ?_
  rintro e w2 ⟨rfl, rfl⟩
  go_wp2_with fail
  refine (HM.out _).mono ?_
  rintro e w2 ⟨rfl, rfl⟩
  go_wp2_with fail
  refine wp_loop_rounds 1 ?_
  rw [rounds_succ]
  go_wp2_with fail
  go_ret2
  exact ⟨rfl, hg⟩
end Go.Proofs.YthmjbeieheacmaaGreatDoor
namespace Go.Proofs.YthmjbeieheacmaaGreatDoor
open Go.RowKit Go.Maps
attribute [local go_sem] Oper.semAt_some uponV
set_option maxRecDepth 100000 in
theorem risesT_0 (w : World) : Calls Tryz.prog 45 #[.slice none 0 0] w fun e w' => e = .returned (.bool true) ∧ w' = w := by
  go_enter Tryz.func45, Tryz.ntmps45
  go_wp2_with fail
  refine wp_loop_rounds 1 ?_
  rw [rounds_succ]
  go_wp2
  go_ret
  exact ⟨rfl, rfl⟩
set_option maxRecDepth 100000 in
set_option maxHeartbeats 4000000 in
theorem tokNew_any (e : Int) (h0 : 0 ≤ e) (h1 : e ≤ 1073741824) (w : World) : Calls Tryz.prog 21 #[.int .i64 e, .int .i64 0, .slice none 0 0] w fun r w' => r = .returned (.tuple #[.pointer (some ⟨w.heap.size, 0, none⟩), .nilIface]) ∧ w' = w.alloc (.cells #[.int .i64 e, .int .i64 0, .slice none 0 0, .slice none 0 0, .slice none 0 0, .slice none 0 0, .slice none 0 0, .slice none 0 0, .slice none 0 0, .slice none 0 0, .slice none 0 0, .slice none 0 0, .slice none 0 0, .slice none 0 0, .slice none 0 0] 109) := by
  have H := hid risesT_0
  have i0 : ¬ e < 0 := by omega
  have i1 : ¬ (1073741824 : Int) < e := by omega
  go_enter Tryz.func21, Tryz.ntmps21
  go_wp2_with fail
  refine wp_loop_rounds 1 ?_
  rw [rounds_succ]
  go_wp2_with fail
  refine (H.out _).mono ?_
  rintro e w1 ⟨rfl, rfl⟩
  go_wp2_with fail
  go_ret2
  exact ⟨rfl, rfl⟩
set_option maxRecDepth 100000 in
theorem right13_0 (w : World) (b : Nat) : Calls Tryz.prog 73 #[.slice (some ⟨b, 0, none⟩) 0 0] w fun e w' => e = .returned (.bool true) ∧ w' = w := by
  go_enter Tryz.func73, Tryz.ntmps73
  go_wp2_with fail
  refine wp_loop_rounds 1 ?_
  rw [rounds_succ]
  go_wp2
  go_ret
  exact ⟨rfl, rfl⟩
set_option maxRecDepth 100000 in
set_option maxHeartbeats 4000000 in
theorem new13_any (e : Int) (h0 : 0 ≤ e) (h1 : e ≤ 1073741824) (w : World) : Calls Tryz.prog 47 #[.int .i64 e, .int .i64 0, .slice none 0 0] w fun r w' => r = .returned (.tuple #[.pointer (some ⟨w.heap.size, 0, none⟩), .int .i64 0]) ∧ w' = (w.alloc (.cells #[.int .i64 e, .int .i64 0, .slice none 0 0, .slice none 0 0, .slice none 0 0, .slice none 0 0, .slice none 0 0, .slice none 0 0, .slice none 0 0, .slice none 0 0, .slice none 0 0, .slice none 0 0, .slice none 0 0, .slice none 0 0, .slice none 0 0] 172)).alloc (.cells #[] 3) := by
  have H := hid right13_0
  have i0 : ¬ e < 0 := by omega
  have i1 : ¬ (1073741824 : Int) < e := by omega
  go_enter Tryz.func47, Tryz.ntmps47
  go_wp2_with fail
  refine wp_loop_rounds 1 ?_
  rw [rounds_succ]
  go_wp2_with fail
  refine (H.out _ _).mono ?_
  rintro e w1 ⟨rfl, rfl⟩
  go_wp2_with fail
  refine wp_loop_rounds 1 ?_
  rw [rounds_succ]
  go_wp2_with fail
  go_ret2
  exact ⟨rfl, rfl⟩
set_option maxRecDepth 100000 in
theorem new09_any (n : Int) (w : World) : Calls Tryz.prog 46 #[.int .i64 n] w fun r w' => r = .returned (.pointer (some ⟨w.heap.size + 1, 0, none⟩)) ∧ w' = (w.alloc (.cells #[.int .i64 n, .slice none 0 0] 168)).alloc (.cells #[.pointer (some ⟨w.heap.size, 0, none⟩), .slice none 0 0, .slice none 0 0, .slice none 0 0, .int .i64 0, .int .i64 0, .int .i64 0] 170) := by
  go_enter Tryz.func46, Tryz.ntmps46
  go_wp2
  go_ret
  exact ⟨by simp, rfl⟩
end Go.Proofs.YthmjbeieheacmaaGreatDoor
