/- The walk of past.note, where it accepts. -/
import Derived.Test.YtapchoppcaacdaaGreatDoorPastL
import Derived.Deep.RegionHeld3
import Derived.Deep.AppendLies
import Derived.StillTactics
namespace Go.Proofs.YtapchoppcaacdaaGreatDoor
open Go.RowKit Go.Maps Go.Sort

theorem info_ch : (Tryz.prog.info? 104).map (fun i => (i.zero, i.size, i.bytes)) = some (some (.agg #[.string ⟨#[]⟩, .string ⟨#[]⟩, .int .i64 0, .bool false]), 4, 48) := by kernel_rfl

/-- A row outside what may have turned stays. -/
theorem ownsRow_only {S : Nat → Prop} {w w' : World} (g : Only S w w') {B : Nat} {e : TypeId} {k : Nat} {v : Value} {n : Nat} {xs : List Value} (h : w.ownsRow B e k v n xs) (hS : ∀ b, v.ownBlock = some b → ¬ S b) : w'.ownsRow B e k v n xs := by
  refine ⟨h.1, ?_⟩
  rcases h.2 with h2 | ⟨b, cap, cur, e1, h2, h3, h4⟩
  · exact .inl h2
  · refine .inr ⟨b, cap, cur, e1, h2, (g.block b (Array.getElem?_eq_some_iff.1 h3).1 (hS b (by rw [e1]; rfl))).trans h3, h4⟩
theorem slit_inj {s t : ByteArray} (h : slit s = slit t) : s = t := by
  unfold slit at h
  have h1 : s.data.toList = t.data.toList := by injection h
  obtain ⟨⟨a⟩⟩ := s
  obtain ⟨⟨b⟩⟩ := t
  exact congrArg (fun l : List UInt8 => (⟨⟨l⟩⟩ : ByteArray)) h1
theorem lset_same (f : Lit → Option Value) (l : Lit) (v : Option Value) : lset f l v l = v := by unfold lset; rw [if_pos rfl]
theorem lset_other (f : Lit → Option Value) (l : Lit) (v : Option Value) (m : Lit) (h : m ≠ l) : lset f l v m = f m := by unfold lset; rw [if_neg h]
theorem chFlat_snoc (xs : List Ch) (c : Ch) : chFlat (xs ++ [c]) = chFlat xs ++ c.vals := by unfold chFlat; rw [List.flatMap_append]; simp

/-- The past behind the store. -/
theorem note_end {w W w2 w3 : World} {F : Nat → Prop} {pb mb n : Nat} {f : Lit → Option Value} {K : ByteArray → List Ch} {fl : Int} (h : PastIs w F pb mb f n K fl) (hF : ∀ j, F j → j < w.heap.size) (gW : Grew w W) (c : Ch) (sv : Value) (hsv : (f (slit c.key)).getD nilS = sv)
    (gg capg m : Nat) (ys : List Value) (hm : m = (K c.key).length + 1) (hy : ys = chFlat (K c.key) ++ c.vals) (hown1 : w2.ownsRow 0 104 4 (.slice (some ⟨gg, 0, none⟩) m capg) m ys) (o : Obj) (hgrow : (W.alloc o).drew.grownBy w2 sv.ownBlock) (hat : sv.ownBlock = some gg ∨ gg = W.heap.size + 1) (hlt : gg < w2.heap.size)
    (hlm3 : LMap w3 Tryz.prog 9 mb (n + 1) (lset f (slit c.key) (some (.slice (some ⟨gg, 0, none⟩) m capg)))) (htn3 : w2.mapTurned w3 mb) :
    Only F w w3 ∧ ∃ F' f', PastIs w3 F' pb mb f' (n + 1) (Pl.addK K c) fl ∧ ∀ j, F' j → F j ∨ w.heap.size ≤ j ∧ j < w3.heap.size := by
  have hsF : ∀ g, sv.ownBlock = some g → F g ∧ g ≠ pb ∧ g ≠ mb := by
    intro g hg
    cases hf : f (slit c.key) with
    | none => rw [hf] at hsv; subst hsv; cases hg
    | some v => rw [hf] at hsv; subst hsv; exact h.foot _ _ _ hf hg
  have hmbF : F mb := h.foot1
  have hmb : mb < w.heap.size := h.lm.lt
  have g2 : Only (fun j => some j = sv.ownBlock) w w2 := ((gW.alloc o).drew.only _).then (Only.of_grownBy hgrow)
  have g3 : Only (fun j => some j = sv.ownBlock ∨ j = mb) w w3 := (g2.mono fun j hj => .inl (.inl hj)).then ((Only.of_turned htn3).mono fun j hj => .inl (.inr hj))
  have hgg : F gg ∧ gg ≠ pb ∧ gg ≠ mb ∨ w.heap.size ≤ gg := by
    rcases hat with e | e
    · exact .inl (hsF gg e)
    · right; have := gW.size; omega
  have hpb : pb < w.heap.size := cell_lt h.map0
  have hggpb : gg ≠ pb := by rcases hgg with ⟨_, e, _⟩ | e; exact e; omega
  have hggmb : gg ≠ mb := by rcases hgg with ⟨_, _, e⟩ | e; exact e; omega
  have hsz3 : w2.heap.size ≤ w3.heap.size := (Only.of_turned htn3).size
  have nS : ¬ (some pb = sv.ownBlock ∨ pb = mb) := by
    rintro (e | e)
    · exact (hsF pb e.symm).2.1 rfl
    · exact h.ne e
  refine ⟨g3.mono fun j hj => .inl ?_, fun j => F j ∨ j = gg, _, ⟨?_, ?_, ?_, hlm3, .inl h.foot0, .inl hmbF, ?_, ?_, ?_, h.ne, ?_, ?_⟩, ?_⟩
  · rcases hj with e | rfl
    · exact (hsF j e.symm).1
    · exact hmbF
  · exact (g3.cell (cell_lt h.map0) nS 0).trans h.map0
  · exact (g3.cell (cell_lt h.map0) nS 1).trans h.flr
  · exact (g3.frozen (cell_lt h.map0) nS 1).trans h.fz
  · intro s
    by_cases hs : s = c.key
    · subst hs
      rw [lset_same, Pl.addK_same, chFlat_snoc, ← hy, List.length_append, List.length_singleton, ← hm]
      exact ownsRow_only (Only.of_turned htn3) hown1 (fun b hb e => hggmb (by cases hb; exact e))
    · rw [lset_other _ _ _ _ (fun e => hs (slit_inj e)), Pl.addK_other _ _ _ hs]
      refine ownsRow_only g3 (h.row s) ?_
      intro b hb
      cases hf : f (slit s) with
      | none => rw [hf] at hb; cases hb
      | some v =>
        rw [hf] at hb
        rintro (e | e)
        · cases hc : f (slit c.key) with
          | none => rw [hc] at hsv; subst hsv; cases e
          | some u => rw [hc] at hsv; subst hsv; exact hs (h.apart s c.key v u b hf hc hb e.symm)
        · exact (h.foot _ _ _ hf hb).2.2 e
  · intro s
    by_cases hs : s = c.key
    · subst hs; rw [lset_same, Pl.addK_same]; simp
    · rw [lset_other _ _ _ _ (fun e => hs (slit_inj e)), Pl.addK_other _ _ _ hs]; exact h.pres s
  · intro s
    by_cases hs : s = c.key
    · subst hs; rw [Pl.addK_same, List.length_append, List.length_singleton]; have := h.len c.key; omega
    · rw [Pl.addK_other _ _ _ hs]; have := h.len s; omega
  · intro s v g hf hg
    by_cases hs : s = c.key
    · subst hs; rw [lset_same] at hf; cases hf; cases hg; exact ⟨.inr rfl, hggpb, hggmb⟩
    · rw [lset_other _ _ _ _ (fun e => hs (slit_inj e))] at hf
      obtain ⟨q1, q2⟩ := h.foot s v g hf hg
      exact ⟨.inl q1, q2⟩
  · intro s t u v g hu hv hgu hgv
    have key : ∀ s v, s ≠ c.key → f (slit s) = some v → v.ownBlock = some gg → False := by
      intro s v hs hv hg
      rcases hat with e | e
      · cases hc : f (slit c.key) with
        | none => rw [hc] at hsv; subst hsv; cases e
        | some u => rw [hc] at hsv; subst hsv; exact hs (h.apart s c.key v u gg hv hc hg e)
      · have := hF _ (h.foot s v gg hv hg).1
        have := gW.size
        omega
    by_cases hs : s = c.key
    · by_cases ht : t = c.key
      · rw [hs, ht]
      · subst hs
        rw [lset_same] at hu; cases hu; cases hgu
        rw [lset_other _ _ _ _ (fun e => ht (slit_inj e))] at hv
        exact (key t v ht hv hgv).elim
    · by_cases ht : t = c.key
      · subst ht
        rw [lset_same] at hv; cases hv; cases hgv
        rw [lset_other _ _ _ _ (fun e => hs (slit_inj e))] at hu
        exact (key s u hs hu hgu).elim
      · rw [lset_other _ _ _ _ (fun e => hs (slit_inj e))] at hu
        rw [lset_other _ _ _ _ (fun e => ht (slit_inj e))] at hv
        exact h.apart s t u v g hu hv hgu hgv
  · intro j hj
    rcases hj with hj | rfl
    · exact .inl hj
    · rcases hgg with hgg | hgg
      · exact .inl hgg.1
      · exact .inr ⟨hgg, by omega⟩

set_option maxRecDepth 100000 in
set_option maxHeartbeats 4000000 in
theorem note_ok (S : Nat → Bool) (E : Nat → Addr) (hS : NoteS S) {w : World} (hE : Errs S E w) {F : Nat → Prop} {pb mb n : Nat} {f : Lit → Option Value} {K : ByteArray → List Ch} {fl : Int} (h : PastIs w F pb mb f n K fl) (hF : ∀ j, F j → j < w.heap.size) (hn : n ≤ 1000000) (c : Ch) (hk : c.key.size ≤ maxLen) (hk2 : c.key.size ≤ 140737488351232) (hv : c.val.size ≤ 140737488351232) (he : Pl.noteE K fl c = 0) :
    Calls Tryz.prog 79 #[.pointer (some ⟨pb, 0, none⟩), c.agg] w fun e w' => e = .returned .nilIface ∧ Only F w w' ∧ ∃ F' f', PastIs w' F' pb mb f' (n + 1) (Pl.addK K c) fl ∧ ∀ j, F' j → F j ∨ w.heap.size ≤ j ∧ j < w'.heap.size := by
  have HE := hid hE
  have HP := hid h
  have c0 := h.map0
  have c1 := h.flr
  have hb : pb < w.heap.size := cell_lt c0
  obtain ⟨a, len, cap, hs, hC⟩ := h.slice c.key
  have hlk := fun W (g : Grew w W) => h.look g c.key hk
  have hfar : ∀ g, ((f (slit c.key)).getD nilS).ownBlock = some g → g < w.heap.size ∧ g ≠ pb ∧ g ≠ mb := by
    intro g hg
    cases hf : f (slit c.key) with
    | none => rw [hf] at hg; cases hg
    | some v =>
      rw [hf] at hg
      obtain ⟨q1, q2⟩ := h.foot _ _ _ hf hg
      exact ⟨hF _ q1, q2⟩
  have hrow := h.row c.key
  have hlen := h.len c.key
  have hlk2 : ∀ W', LMap W' Tryz.prog 9 mb n f → (Instr.lookup 85 (.map (some mb)) (.string c.key) false).run Tryz.prog W' = .ok ((f (slit c.key)).getD nilS) W' := fun W' hm => hm.lookup str_keyed Tryz.underlying85 (zero_slice _) (WideMaps.keyOf_string_mk Tryz.underlying9 hk)
  rw [hs] at hlk hfar hrow hlk2
  have HLK := hid hlk
  have HL2 := hid hlk2
  have HFA := hid hfar
  have HRW := hid hrow
  have HF := hid hF
  clear hE h hlk hlk2 hfar hrow hF
  obtain ⟨ck, cv, cn, ct⟩ := c
  dsimp only at hk hk2 hv hC HLK HL2 hs HFA HRW hlen
  unfold Pl.noteE at he
  dsimp only at he
  by_cases hkn : Pl.keyN ck = 0
  · rw [if_neg (by simp [hkn])] at he
    by_cases h64 : 64 < cv.size
    · rw [if_pos h64] at he; cases he
    rw [if_neg h64] at he
    by_cases hr : cn < 1 ∨ 4096 < cn
    · rw [if_pos hr] at he; cases he
    rw [if_neg hr] at he
    have hst : Pl.staleB (K ck) fl cn = false := by
      cases hst : Pl.staleB (K ck) fl cn with
      | false => rfl
      | true => rw [hst] at he; simp at he
    unfold Pl.staleB at hst
    rw [Bool.or_eq_false_iff, decide_eq_false_iff_not] at hst
    obtain ⟨hfl, hst⟩ := hst
    have hd : decide (cn ≤ fl) = false := decide_eq_false hfl
    have HK : Hid (errOf E (Pl.keyN ck) = .nilIface) := by unfold Hid; rw [hkn]; rfl
    have h64' : (cv.size : Int) ≤ 64 := by omega
    have hr1 : 1 ≤ cn := by omega
    have hr2 : cn ≤ 4096 := by omega
    clear he h64 hr hkn
    rcases hC with ⟨e, hx⟩ | ⟨b, cap', e, hbb, hR⟩
    · cases e
      unfold Ch.agg
      dsimp only
      go_enter Tryz.func79, Tryz.ntmps79
      go_wp2_with fail
      refine (key_any S E hS.h2 hS.h3 hS.h6 hS.h7 ck _ hk2 (HE.out.grew ((Grew.refl w).alloc _))).mono ?_
      rw [HK.out]
      rintro e w1 ⟨rfl, hg⟩
      have hz : w.heap.size < w1.heap.size := by have := hg.size; simp at this; omega
      have hG : Grew w w1 := ((Grew.refl w).alloc _).trans hg
      obtain ⟨hc, hf⟩ := hg.cells
      have hlk := HLK.out _ hG.drew
      go_wp2_with fail
      go_region
      go_wp2_with fail
      go_quiet (fail)
      go_wp2_with fail
      have hCc : ChCells w1 w.heap.size ⟨ck, cv, cn, ct⟩ := ⟨by rw [hc _ _ (by simp)]; simp [go_sem], by rw [hc _ _ (by simp)]; simp [go_sem], by rw [hc _ _ (by simp)]; simp [go_sem], by rw [hc _ _ (by simp)]; simp [go_sem]⟩
      have hlm := (HP.out.grew hG).lm
      have hrw := ((HP.out.grew hG).row ck)
      clear hlk
      generalize hW : w1.drew.drewN _ = W
      have gW : Grew w1 W := by rw [← hW]; exact ((Grew.refl w1).drew).drewN _
      clear hW
      have p0 : W.cell? ⟨pb, 0, none⟩ = some (.map (some mb)) := (HP.out.grew (hG.trans gW)).map0
      have k0 : W.cell? ⟨w.heap.size, 0, none⟩ = some (.string ck) := (gW.cells.1 _ _ hz).trans hCc.1
      have k1 : W.cell? ⟨w.heap.size, 1, none⟩ = some (.string cv) := (gW.cells.1 _ _ hz).trans hCc.2.1
      have k2 : W.cell? ⟨w.heap.size, 2, none⟩ = some (.int .i64 cn) := (gW.cells.1 _ _ hz).trans hCc.2.2.1
      have k3 : W.cell? ⟨w.heap.size, 3, none⟩ = some (.bool ct) := (gW.cells.1 _ _ hz).trans hCc.2.2.2
      have hzW : w.heap.size < W.heap.size := Nat.lt_of_lt_of_le hz gW.size
      have hbW : pb < W.heap.size := by omega
      have hmb : mb < w.heap.size := HP.out.lm.lt
      have hne : pb ≠ mb := HP.out.ne
      have hlW := hlm.grew gW
      have hlk0 := HL2.out W hlW
      have hlk1 := HL2.out W.drew (hlW.grew (Grew.refl W).drew)
      have hlkA := fun o => HL2.out (W.drew.alloc o) (hlW.grew ((Grew.refl W).drew.alloc o))
      have hlkB := fun o => HL2.out (W.alloc o).drew (hlW.grew ((Grew.refl W).alloc o).drew)
      obtain ⟨i0, hi0, hz0, hz1, hz2⟩ := info_parts info_ch
      clear hc hf
      go_region_held3 (fun w' => w'.cell? ⟨pb, 0, none⟩ = some (.map (some mb)) ∧ w'.cell? ⟨w.heap.size, 0, none⟩ = some (.string ck) ∧ w'.cell? ⟨w.heap.size, 1, none⟩ = some (.string cv) ∧ w'.cell? ⟨w.heap.size, 2, none⟩ = some (.int .i64 cn) ∧ w'.cell? ⟨w.heap.size, 3, none⟩ = some (.bool ct))
        (first
          | (go_split_ands
             exact ⟨by go_keep, by go_keep, by go_keep, by go_keep, by go_keep⟩)
          | (go_split_ands
             refine ⟨?_, ?_, ?_, ?_, ?_⟩ <;> (rw [hgrow.cell_far _ (by simp; omega) (by simp [Value.ownBlock])]; go_keep))
          | (go_split_ands
             refine ⟨?_, ?_, ?_, ?_, ?_⟩ <;> (rw [htn3.grown.cell_far _ (by have := hgrow.size; simp at this ⊢; omega) (by simp; omega)]; assumption)))
        ((refine step_append_lies _ (by rfl) _ _ _ (by rfl) 0 104 i0 _ 4 48 Tryz.underlying101 hi0 hz0 hz1 hz2 rfl (by omega) (.slice none 0 0) 0 [] (by rfl) (World.ownsRow_nil _ _ _ _)
            ⟨W.heap.size, 0, none⟩ 1 1 [.string ck, .string cv, .int .i64 cn, .bool ct] (by rfl) (by rfl) (World.news_of_block (cs := #[.string ck, .string cv, .int .i64 cn, .bool ct]) (t := 104) (fr := (0, 0)) (heap_alloc_new W _)) (by simp [Value.oneCell'])
            (by omega) (by decide) (by decide) (Nat.zero_le _) (W.heap.size + 1) (by simp) ?_; intro gg capg w2 hown1 hgrow hat hlt
          obtain ⟨w3, hst3, hlm3, htn3⟩ := ((hlW.grew (((Grew.refl W).alloc (.cells #[.string ck, .string cv, .int .i64 cn, .bool ct] 104)).drew)).kept (Only.of_grownBy hgrow) (by simp [Value.ownBlock])).store (val := .slice (some ⟨gg, 0, none⟩) (0 + 1) capg) str_keyed Tryz.underlying85 (by unfold maxLen; omega) (WideMaps.keyOf_string_mk Tryz.underlying9 hk)))
      all_goals (
        go_wp2_with fail
        go_ret
        exact ⟨rfl, note_end HP.out HF.out (hG.trans gW) ⟨ck, cv, cn, ct⟩ (.slice none 0 0) hs gg capg _ _ (by rw [hx]; rfl) (by rw [hx]; rfl) hown1 _ hgrow hat hlt hlm3 htn3⟩)
    · cases e
      have hne0 : K ck ≠ [] := by
        intro hx
        have hp := HP.out.pres ck
        rw [hx] at hp
        have hs' := hs
        cases hf : f (slit ck) with
        | none => rw [hf] at hs'; cases hs'
        | some v => rw [hf] at hp; cases hp
      obtain ⟨m, hm⟩ : ∃ m, (K ck).length = m + 1 := ⟨(K ck).length - 1, by have := List.length_pos_iff.2 hne0; omega⟩
      have hq := hR.ver m (by omega)
      have hl2 : ¬ cn ≤ (chAt (K ck) m).ver := by
        rw [hm] at hst
        have h1 : decide (0 < m + 1) = true := decide_eq_true (by omega)
        rw [h1, Bool.true_and, decide_eq_false_iff_not] at hst
        unfold Pl.lastV at hst
        rw [hm] at hst
        exact hst
      have HM := hid hm
      rw [hm] at HLK HRW HL2 HFA
      have hd2 : decide (cn ≤ (chAt (K ck) m).ver) = false := decide_eq_false hl2
      have hmB : m < 1000000 := by have := HP.out.len ck; omega
      have i2 : (m : Int) + 1 - 1 = (m : Int) := by omega
      have i0 : (0 : Int) ≤ (m : Int) := by omega
      have i1 : (m : Int) < (m : Int) + 1 := by omega
      have hd3 : decide ((0 : Int) < (m : Int) + 1) = true := decide_eq_true (by omega)
      have hd4 : decide ((0 : Int) < ((m + 1 : Nat) : Int)) = true := decide_eq_true (by omega)
      clear hR hst hl2 hm hne0 hlen
      unfold Ch.agg
      dsimp only
      go_enter Tryz.func79, Tryz.ntmps79
      go_wp2_with fail
      refine (key_any S E hS.h2 hS.h3 hS.h6 hS.h7 ck _ hk2 (HE.out.grew ((Grew.refl w).alloc _))).mono ?_
      rw [HK.out]
      rintro e w1 ⟨rfl, hg⟩
      have hz : w.heap.size < w1.heap.size := by have := hg.size; simp at this; omega
      have hG : Grew w w1 := ((Grew.refl w).alloc _).trans hg
      obtain ⟨hc, hf⟩ := hg.cells
      have hlk := HLK.out _ hG.drew
      go_wp2_with fail
      go_region
      go_wp2_with fail
      go_quiet (fail)
      go_wp2_with fail
      have hCc : ChCells w1 w.heap.size ⟨ck, cv, cn, ct⟩ := ⟨by rw [hc _ _ (by simp)]; simp [go_sem], by rw [hc _ _ (by simp)]; simp [go_sem], by rw [hc _ _ (by simp)]; simp [go_sem], by rw [hc _ _ (by simp)]; simp [go_sem]⟩
      have hlm := (HP.out.grew hG).lm
      have hrw := ((HP.out.grew hG).row ck)
      clear hlk
      generalize hW : w1.drew.drewN _ = W
      have gW : Grew w1 W := by rw [← hW]; exact ((Grew.refl w1).drew).drewN _
      clear hW
      have p0 : W.cell? ⟨pb, 0, none⟩ = some (.map (some mb)) := (HP.out.grew (hG.trans gW)).map0
      have k0 : W.cell? ⟨w.heap.size, 0, none⟩ = some (.string ck) := (gW.cells.1 _ _ hz).trans hCc.1
      have k1 : W.cell? ⟨w.heap.size, 1, none⟩ = some (.string cv) := (gW.cells.1 _ _ hz).trans hCc.2.1
      have k2 : W.cell? ⟨w.heap.size, 2, none⟩ = some (.int .i64 cn) := (gW.cells.1 _ _ hz).trans hCc.2.2.1
      have k3 : W.cell? ⟨w.heap.size, 3, none⟩ = some (.bool ct) := (gW.cells.1 _ _ hz).trans hCc.2.2.2
      have hzW : w.heap.size < W.heap.size := Nat.lt_of_lt_of_le hz gW.size
      have hbW : pb < W.heap.size := by omega
      have hmb : mb < w.heap.size := HP.out.lm.lt
      have hne : pb ≠ mb := HP.out.ne
      have hlW := hlm.grew gW
      have hlk0 := HL2.out W hlW
      have hlk1 := HL2.out W.drew (hlW.grew (Grew.refl W).drew)
      have hlkA := fun o => HL2.out (W.drew.alloc o) (hlW.grew ((Grew.refl W).drew.alloc o))
      have hlkB := fun o => HL2.out (W.alloc o).drew (hlW.grew ((Grew.refl W).alloc o).drew)
      obtain ⟨it0, hi0, hz0, hz1, hz2⟩ := info_parts info_ch
      have hfarb := HFA.out b rfl
      clear i2 i0 i1 hd3 hd4 hd2
      clear hc hf
      go_region_held3 (fun w' => w'.cell? ⟨pb, 0, none⟩ = some (.map (some mb)) ∧ w'.cell? ⟨w.heap.size, 0, none⟩ = some (.string ck) ∧ w'.cell? ⟨w.heap.size, 1, none⟩ = some (.string cv) ∧ w'.cell? ⟨w.heap.size, 2, none⟩ = some (.int .i64 cn) ∧ w'.cell? ⟨w.heap.size, 3, none⟩ = some (.bool ct))
        (first
          | (go_split_ands
             exact ⟨by go_keep, by go_keep, by go_keep, by go_keep, by go_keep⟩)
          | (go_split_ands
             refine ⟨?_, ?_, ?_, ?_, ?_⟩ <;> (rw [hgrow.cell_far _ (by simp; omega) (by simp [Value.ownBlock]; omega)]; go_keep))
          | (go_split_ands
             refine ⟨?_, ?_, ?_, ?_, ?_⟩ <;> (rw [htn3.grown.cell_far _ (by have := hgrow.size; simp at this ⊢; omega) (by simp; omega)]; assumption)))
        ((refine step_append_lies _ (by rfl) _ _ _ (by rfl) 0 104 it0 _ 4 48 Tryz.underlying101 hi0 hz0 hz1 hz2 rfl (by omega) (.slice (some ⟨b, 0, none⟩) (m + 1) cap) (m + 1) (chFlat (K ck)) (by rfl) (ownsRow_only ((((Grew.refl W).alloc _).drew).only fun _ => False) (ownsRow_only (gW.only fun _ => False) (ownsRow_only (hG.only fun _ => False) HRW.out (fun _ _ h => h)) (fun _ _ h => h)) (fun _ _ h => h))
            ⟨W.heap.size, 0, none⟩ 1 1 [.string ck, .string cv, .int .i64 cn, .bool ct] (by rfl) (by rfl) (World.news_of_block (cs := #[.string ck, .string cv, .int .i64 cn, .bool ct]) (t := 104) (fr := (0, 0)) (heap_alloc_new W _)) (by simp [Value.oneCell'])
            (by omega) (by unfold maxLen; omega) (by omega) (Nat.zero_le _) (W.heap.size + 1) (by simp) ?_; intro gg capg w2 hown1 hgrow hat hlt
          obtain ⟨w3, hst3, hlm3, htn3⟩ := ((hlW.grew (((Grew.refl W).alloc (.cells #[.string ck, .string cv, .int .i64 cn, .bool ct] 104)).drew)).kept (Only.of_grownBy hgrow) (by simp [Value.ownBlock]; exact fun e => hfarb.2.2 e.symm)).store (val := .slice (some ⟨gg, 0, none⟩) (m + 1 + 1) capg) str_keyed Tryz.underlying85 (by unfold maxLen; omega) (WideMaps.keyOf_string_mk Tryz.underlying9 hk)))
      all_goals (
        go_wp2_with fail
        go_ret
        exact ⟨rfl, note_end HP.out HF.out (hG.trans gW) ⟨ck, cv, cn, ct⟩ (.slice (some ⟨b, 0, none⟩) (m + 1) cap) (by rw [← HM.out]; exact hs) gg capg _ _ (by rw [HM.out]) rfl hown1 _ hgrow hat hlt hlm3 htn3⟩)
  · rw [if_pos hkn] at he; exact absurd he hkn
end Go.Proofs.YtapchoppcaacdaaGreatDoor
