/- Do21, Do21g: one text. -/
import Derived.Test.YtifcnammekbfoaaGreatDoorFinTablePlaysQ24
/- The acts of tidewaterlaw21.do (printed by gen_do21.py). -/
set_option linter.unusedVariables false
set_option linter.unusedSectionVars false
set_option linter.unusedSimpArgs false
namespace Go.Proofs.YtifcnammekbfoaaGreatDoor
open Go.RowKit Go.Maps Go.Sort
attribute [local go_sem] Oper.semAt_some uponV
theorem box_cell21 {x : World} {bb : Nat} {cs : Array Value} {t : TypeId} (h : x.heap[bb]? = some (.cells cs t (0, 0))) (i : Nat) : x.cell? ⟨bb, i, none⟩ = cs[i]? := by
  simp [World.cell?, h]

def vsdo21_del (tb rb bb : Nat) (av : Int) (akey aval alo ahi : ByteArray) (r : Value) (i : Nat) : Option Value := (([some (.pointer (some ⟨tb, 0, none⟩)), some (.pointer (some ⟨bb, 2, none⟩)), some (.string akey), some r, some (.pointer (some ⟨rb, 0, none⟩)), some (.pointer (some ⟨bb, 2, none⟩)), some (.string akey)] : List (Option Value))[i]?).getD none
set_option maxRecDepth 100000 in
set_option maxHeartbeats 8000000 in
theorem do21_del {S : Nat → Bool} (hS : TabS S) (E : Nat → Addr) {w0 w : World} (hE : Errs S E w0) {tb rb : Nat} {P D : List Pr} {B : Nat → Obj → Prop} (h : M21 w0 w tb rb P D B) (hT : Pl.Tt P D) (hx : P.length ≤ 1000) (av : Int) (akey aval alo ahi : ByteArray) (sk : akey.size ≤ 300) (sv : aval.size ≤ 300) (sl : alo.size ≤ 300) (sh : ahi.size ≤ 300) :
    Calls Tryz.prog 11 #[.pointer (some ⟨tb, 0, none⟩), .pointer (some ⟨rb, 0, none⟩), .agg #[.int .i64 1, .int .i64 av, .string akey, .string aval, .string alo, .string ahi]] w fun e w' => e = .returned (.bool true) ∧ M21 w0 w' tb rb (Pl.tdel P akey) (D.eraseP (Pl.isK akey)) B := by
  have HE := hid hE
  have hlen := hT.len
  have HGE := hid (hT.get akey)
  obtain ⟨B2, hBl, hB2, hW⟩ : ∃ B2 : Nat → Obj → Prop, (∀ j o, B j o → B2 j o) ∧ B2 w.heap.size (.cells #[.int .i64 1, .int .i64 av, .string akey, .string aval, .string alo, .string ahi] 34) ∧ M21 w0 (w.alloc (.cells #[.int .i64 1, .int .i64 av, .string akey, .string aval, .string alo, .string ahi] 34)) tb rb P D B2 := ⟨_, fun j o h => .inl h, .inr ⟨rfl, rfl⟩, h.box ((Grew.refl w).alloc _) (Nat.le_refl _) (heap_alloc_new w _)⟩
  obtain ⟨R0, hR0⟩ : ∃ R0 : World → Prop, R0 = fun x => M21 w0 x tb rb P D B2 := ⟨_, rfl⟩
  obtain ⟨R1, hR1⟩ : ∃ R1 : World → Prop, R1 = fun x => M21 w0 x tb rb (Pl.tdel P akey) D B2 := ⟨_, rfl⟩
  have HST : Hid (StT R0 R1 (fun _ => none)) := ⟨fun x x' g h => by rw [hR0] at h ⊢; exact h.more g, fun x x' g h => by rw [hR1] at h ⊢; exact h.more g, fun i p hp => by cases hp⟩
  have HTC := hid (fun x (g : R0 x) => show Calls Tryz.prog 48 #[.pointer (some ⟨tb, 0, none⟩), .string akey] x fun e w' => e = .returned (.bool (Pl.getT P akey).isSome) ∧ R1 w' from by
    rw [hR0] at g; rw [hR1]
    obtain ⟨F, h1, h2⟩ := g.tab
    refine (delT_any hS E (HE.out.grew g.grew) h1 (by omega) akey (by omega)).mono ?_
    rintro e w' ⟨rfl, ht⟩
    exact ⟨rfl, h2 _ _ ht⟩)
  have HBX := hid (fun x (g : R0 x ∨ R1 x) => show x.heap[w.heap.size]? = some (.cells #[.int .i64 1, .int .i64 av, .string akey, .string aval, .string alo, .string ahi] 34 (0, 0)) from by
    rw [hR0, hR1] at g
    rcases g with g | g <;> exact g.keep _ _ hB2)
  have HTL := hid (fun x (g : R1 x) => show M21 w0 x tb rb (Pl.tdel P akey) D B2 from by rw [hR1] at g; exact g)
  have HR0 : Hid (R0 (w.alloc (.cells #[.int .i64 1, .int .i64 av, .string akey, .string aval, .string alo, .string ahi] 34))) := by unfold Hid; rw [hR0]; exact hW
  have HBL := hid hBl
  clear hR0 hR1 hW hB2 hBl h hE
  go_enter Tryz.func11, Tryz.ntmps11
  go_wp2_with fail
  generalize hYY : World.alloc w _ = Y at HR0 ⊢
  clear hYY
  obtain ⟨bb, hbb⟩ : ∃ bb, bb = w.heap.size := ⟨_, rfl⟩
  rw [← hbb] at HBX ⊢
  clear hbb
  have HBOX := hid (fun (L : Nat → Bool) (f : Nat → Value) (x : World) (h : JT (vsdo21_del tb rb bb av akey aval alo ahi (.bool (Pl.getT P akey).isSome)) [] 3 R0 R1 (fun _ => none) L f x) => show x.heap[bb]? = some (.cells #[.int .i64 1, .int .i64 av, .string akey, .string aval, .string alo, .string ahi] 34 (0, 0)) from by
    cases hl : L 3
    · exact HBX.out x (.inl (h.a hl))
    · exact HBX.out x (.inr (h.d hl)))
  have hb0 := HBX.out Y (.inl HR0.out)
  have e0 : Y.cell? ⟨bb, 0, none⟩ = _ := box_cell21 hb0 0
  clear hb0
  go_wp2_with fail
  clear e0
  refine wp_region_mix 7 [0, 1, 2, 3, 4, 5, 6] (fun _ => True) Eq (JT (vsdo21_del tb rb bb av akey aval alo ahi (.bool (Pl.getT P akey).isSome)) [] 3 R0 R1 (fun _ => none)) (fun f a => ((((((a.put (some 38) (f 0)).put (some 39) (f 1)).put (some 40) (f 2)).put (some 41) (f 3)).put (some 42) (f 4)).put (some 43) (f 5)).put (some 44) (f 6)) (by kernel_rfl) (by kernel_rfl) (fun _ _ => rfl) (JT.start (HST.out.r0 _ _ (Grew.refl Y).drew HR0.out)) (fun _ _ _ _ => trivial) (fun _ => rfl) (fun _ _ _ _ h g => g ▸ h) ?_
  iterate 7 (refine wpMix_loose (by rfl) (by rfl) ?_)
  refine wpMix_done (by rfl) ⟨⟨loose_of2 rfl (fun _ a => a) (fun _ _ => rfl) ?_, loose_of2 rfl (fun _ a => a) (fun _ _ => rfl) ?_, loose_of2 rfl (fun f a => a.put (some 39) (f 1)) (fun _ _ => rfl) ?_, loose_of2 rfl (fun f a => (a.put (some 38) (f 0)).put (some 40) (f 2)) (fun _ _ => rfl) ?_, loose_of2 rfl (fun _ a => a) (fun _ _ => rfl) ?_, loose_of2 rfl (fun _ a => a) (fun _ _ => rfl) ?_, loose_of2 rfl (fun f a => a.put (some 43) (f 5)) (fun _ _ => rfl) ?_, trivial⟩, ?_⟩
  · intro L f x hJ hL hd
    have HJ := hid hJ
    have HL := hid hL
    clear hJ hL hd
    refine ⟨rfl, ?_⟩
    go_simp
    exact HJ.out.put 0 _ rfl (by decide) rfl (fun _ h => by cases h)
  · intro L f x hJ hL hd
    have HJ := hid hJ
    have HL := hid hL
    clear hJ hL hd
    refine ⟨rfl, ?_⟩
    go_simp
    exact HJ.out.put 1 _ rfl (by decide) rfl (fun _ h => by cases h)
  · intro L f x hJ hL hd
    have l1 := hd 1 rfl (by decide)
    have q1 := hJ.val 1 _ l1 rfl
    have hbx := HBOX.out L f x hJ
    have d2 : x.cell? ⟨bb, 2, none⟩ = _ := box_cell21 hbx 2
    clear hbx
    have HJ := hid hJ
    have HL := hid hL
    have HL1 := hid l1
    clear hJ hL hd l1
    rw [q1]
    refine ⟨rfl, ?_⟩
    go_simp
    exact HJ.out.put 2 _ rfl (by decide) rfl (fun _ h => by cases h)
  · intro L f x hJ hL hd
    have l0 := hd 0 rfl (by decide)
    have l2 := hd 2 rfl (by decide)
    have q0 := hJ.val 0 _ l0 rfl
    have q2 := hJ.val 2 _ l2 rfl
    have hR := hJ.a hL
    have HR := hid hR
    have HJ := hid hJ
    have HL := hid hL
    have HL0 := hid l0
    have HL2 := hid l2
    clear hJ hL hd hR l0 l2
    rw [q0, q2]
    refine ⟨rfl, ?_⟩
    go_simp
    refine (HTC.out x HR.out).mono ?_
    rintro r x' ⟨rfl, hT⟩
    exact ⟨_, rfl, HJ.out.switch _ rfl rfl HL.out hT (fun _ h => by cases h)⟩
  · intro L f x hJ hL hd
    have HJ := hid hJ
    have HL := hid hL
    clear hJ hL hd
    refine ⟨rfl, ?_⟩
    go_simp
    exact HJ.out.put 4 _ rfl (by decide) rfl (fun _ h => by cases h)
  · intro L f x hJ hL hd
    have HJ := hid hJ
    have HL := hid hL
    clear hJ hL hd
    refine ⟨rfl, ?_⟩
    go_simp
    exact HJ.out.put 5 _ rfl (by decide) rfl (fun _ h => by cases h)
  · intro L f x hJ hL hd
    have l5 := hd 5 rfl (by decide)
    have q5 := hJ.val 5 _ l5 rfl
    have hbx := HBOX.out L f x hJ
    have d2 : x.cell? ⟨bb, 2, none⟩ = _ := box_cell21 hbx 2
    clear hbx
    have HJ := hid hJ
    have HL := hid hL
    have HL5 := hid l5
    clear hJ hL hd l5
    rw [q5]
    refine ⟨rfl, ?_⟩
    go_simp
    exact HJ.out.put 6 _ rfl (by decide) rfl (fun _ h => by cases h)
  intro f x hJ
  have q3 := hJ.val 3 _ rfl rfl
  have q4 := hJ.val 4 _ rfl rfl
  have q6 := hJ.val 6 _ rfl rfl
  have hm := HTL.out x (hJ.d rfl)
  clear hJ
  obtain ⟨G, k1, k2⟩ := hm.rt
  have HRC := hid (del21_any k1 (by omega) akey)
  have HK2 := hid k2
  clear hm k1 k2
  dsimp only [List.drop]
  simp only [Act.put, List.setIfInBounds_toArray, List.set_cons_succ, List.set_cons_zero]
  rw [q3, q4, q6]
  clear q3 q4 q6
  go_wp2_with fail
  refine HRC.out.mono ?_
  rintro e x' ⟨rfl, ht⟩
  have HF := hid ((HK2.out _ _ ht).less HBL.out)
  clear ht
  go_wp2_with fail
  go_ret
  exact ⟨by rw [HGE.out]; simp, HF.out⟩

def vsdo21_put (tb rb bb : Nat) (av : Int) (akey aval alo ahi : ByteArray) (r : Value) (i : Nat) : Option Value := (([some (.pointer (some ⟨tb, 0, none⟩)), some (.pointer (some ⟨bb, 2, none⟩)), some (.string akey), some (.pointer (some ⟨bb, 3, none⟩)), some (.string aval), some (.pointer (some ⟨bb, 1, none⟩)), some (.int .i64 av), some r, some (.int .i64 (Pl.putN ⟨akey, aval, av⟩ : Nat)), some (.pointer (some ⟨rb, 0, none⟩)), some (.pointer (some ⟨bb, 2, none⟩)), some (.string akey), some (.pointer (some ⟨bb, 3, none⟩)), some (.string aval), some (.pointer (some ⟨bb, 1, none⟩)), some (.int .i64 av)] : List (Option Value))[i]?).getD none
set_option maxRecDepth 100000 in
set_option maxHeartbeats 8000000 in
theorem do21_put (E : Nat → Addr) {w0 w : World} (hE : Errs allS E w0) {tb rb : Nat} {P D : List Pr} {B : Nat → Obj → Prop} (h : M21 w0 w tb rb P D B) (hT : Pl.Tt P D) (hx : P.length ≤ 1000) (av : Int) (akey aval alo ahi : ByteArray) (sk : akey.size ≤ 300) (sv : aval.size ≤ 300) (sl : alo.size ≤ 300) (sh : ahi.size ≤ 300) :
    Calls Tryz.prog 11 #[.pointer (some ⟨tb, 0, none⟩), .pointer (some ⟨rb, 0, none⟩), .agg #[.int .i64 0, .int .i64 av, .string akey, .string aval, .string alo, .string ahi]] w fun e w' => e = .returned (.bool true) ∧ M21 w0 w' tb rb (Pl.putT P ⟨akey, aval, av⟩) (Pl.put21 D ⟨akey, aval, av⟩) B := by
  have HE := hid hE
  have hlen := hT.len
  have hp19 : Pl.putN ⟨akey, aval, av⟩ ≤ 19 := by have := keyN_vals akey; unfold Pl.putN; dsimp only; split; omega; split; omega; split <;> omega
  obtain ⟨B2, hBl, hB2, hW⟩ : ∃ B2 : Nat → Obj → Prop, (∀ j o, B j o → B2 j o) ∧ B2 w.heap.size (.cells #[.int .i64 0, .int .i64 av, .string akey, .string aval, .string alo, .string ahi] 34) ∧ M21 w0 (w.alloc (.cells #[.int .i64 0, .int .i64 av, .string akey, .string aval, .string alo, .string ahi] 34)) tb rb P D B2 := ⟨_, fun j o h => .inl h, .inr ⟨rfl, rfl⟩, h.box ((Grew.refl w).alloc _) (Nat.le_refl _) (heap_alloc_new w _)⟩
  obtain ⟨R0, hR0⟩ : ∃ R0 : World → Prop, R0 = fun x => M21 w0 x tb rb P D B2 := ⟨_, rfl⟩
  obtain ⟨R1, hR1⟩ : ∃ R1 : World → Prop, R1 = fun x => M21 w0 x tb rb (Pl.putT P ⟨akey, aval, av⟩) D B2 := ⟨_, rfl⟩
  have HST : Hid (StT R0 R1 (fun _ => none)) := ⟨fun x x' g h => by rw [hR0] at h ⊢; exact h.more g, fun x x' g h => by rw [hR1] at h ⊢; exact h.more g, fun i p hp => by cases hp⟩
  have HTC := hid (fun x (g : R0 x) => show Calls Tryz.prog 44 #[.pointer (some ⟨tb, 0, none⟩), .string akey, .string aval, .int .i64 av] x fun e w' => e = .returned (errOf E (Pl.putN ⟨akey, aval, av⟩)) ∧ R1 w' from by
    rw [hR0] at g; rw [hR1]
    obtain ⟨F, h1, h2⟩ := g.tab
    refine (putT_any ⟨rfl, rfl, rfl, rfl, rfl⟩ E (HE.out.grew g.grew) h1 (by omega) akey aval av (by omega) (by omega)).mono ?_
    rintro e w' ⟨rfl, ht⟩
    exact ⟨rfl, h2 _ _ ht⟩)
  have HBX := hid (fun x (g : R0 x ∨ R1 x) => show x.heap[w.heap.size]? = some (.cells #[.int .i64 0, .int .i64 av, .string akey, .string aval, .string alo, .string ahi] 34 (0, 0)) from by
    rw [hR0, hR1] at g
    rcases g with g | g <;> exact g.keep _ _ hB2)
  have HTL := hid (fun x (g : R1 x) => show M21 w0 x tb rb (Pl.putT P ⟨akey, aval, av⟩) D B2 from by rw [hR1] at g; exact g)
  have HR0 : Hid (R0 (w.alloc (.cells #[.int .i64 0, .int .i64 av, .string akey, .string aval, .string alo, .string ahi] 34))) := by unfold Hid; rw [hR0]; exact hW
  have HBL := hid hBl
  have HNM := hid (fun x (g : R1 x) => show Calls Tryz.prog 38 #[errOf E (Pl.putN ⟨akey, aval, av⟩)] x fun e w' => e = .returned (.int .i64 (Pl.putN ⟨akey, aval, av⟩ : Nat)) ∧ Grew x w' from by
    rw [hR1] at g
    exact num_all E _ hp19 x (HE.out.grew g.grew))
  clear hR0 hR1 hW hB2 hBl h hE
  go_enter Tryz.func11, Tryz.ntmps11
  go_wp2_with fail
  generalize hYY : World.alloc w _ = Y at HR0 ⊢
  clear hYY
  obtain ⟨bb, hbb⟩ : ∃ bb, bb = w.heap.size := ⟨_, rfl⟩
  rw [← hbb] at HBX ⊢
  clear hbb
  have HBOX := hid (fun (L : Nat → Bool) (f : Nat → Value) (x : World) (h : JT (vsdo21_put tb rb bb av akey aval alo ahi (errOf E (Pl.putN ⟨akey, aval, av⟩))) [] 7 R0 R1 (fun _ => none) L f x) => show x.heap[bb]? = some (.cells #[.int .i64 0, .int .i64 av, .string akey, .string aval, .string alo, .string ahi] 34 (0, 0)) from by
    cases hl : L 7
    · exact HBX.out x (.inl (h.a hl))
    · exact HBX.out x (.inr (h.d hl)))
  have hb0 := HBX.out Y (.inl HR0.out)
  have e0 : Y.cell? ⟨bb, 0, none⟩ = _ := box_cell21 hb0 0
  clear hb0
  go_wp2_with fail
  clear e0
  refine wp_region_mix 16 [0, 1, 2, 3, 4, 5, 6, 7, 8, 9, 10, 11, 12, 13, 14, 15] (fun _ => True) Eq (JT (vsdo21_put tb rb bb av akey aval alo ahi (errOf E (Pl.putN ⟨akey, aval, av⟩))) [] 7 R0 R1 (fun _ => none)) (fun f a => (((((((((((((((a.put (some 18) (f 0)).put (some 19) (f 1)).put (some 20) (f 2)).put (some 21) (f 3)).put (some 22) (f 4)).put (some 23) (f 5)).put (some 24) (f 6)).put (some 25) (f 7)).put (some 26) (f 8)).put (some 27) (f 9)).put (some 28) (f 10)).put (some 29) (f 11)).put (some 30) (f 12)).put (some 31) (f 13)).put (some 32) (f 14)).put (some 33) (f 15)) (by kernel_rfl) (by kernel_rfl) (fun _ _ => rfl) (JT.start (HST.out.r0 _ _ (Grew.refl Y).drew HR0.out)) (fun _ _ _ _ => trivial) (fun _ => rfl) (fun _ _ _ _ h g => g ▸ h) ?_
  iterate 16 (refine wpMix_loose (by rfl) (by rfl) ?_)
  refine wpMix_done (by rfl) ⟨⟨loose_of2 rfl (fun _ a => a) (fun _ _ => rfl) ?_, loose_of2 rfl (fun _ a => a) (fun _ _ => rfl) ?_, loose_of2 rfl (fun f a => a.put (some 19) (f 1)) (fun _ _ => rfl) ?_, loose_of2 rfl (fun _ a => a) (fun _ _ => rfl) ?_, loose_of2 rfl (fun f a => a.put (some 21) (f 3)) (fun _ _ => rfl) ?_, loose_of2 rfl (fun _ a => a) (fun _ _ => rfl) ?_, loose_of2 rfl (fun f a => a.put (some 23) (f 5)) (fun _ _ => rfl) ?_, loose_of2 rfl (fun f a => (((a.put (some 18) (f 0)).put (some 20) (f 2)).put (some 22) (f 4)).put (some 24) (f 6)) (fun _ _ => rfl) ?_, loose_of2 rfl (fun f a => a.put (some 25) (f 7)) (fun _ _ => rfl) ?_, loose_of2 rfl (fun _ a => a) (fun _ _ => rfl) ?_, loose_of2 rfl (fun _ a => a) (fun _ _ => rfl) ?_, loose_of2 rfl (fun f a => a.put (some 28) (f 10)) (fun _ _ => rfl) ?_, loose_of2 rfl (fun _ a => a) (fun _ _ => rfl) ?_, loose_of2 rfl (fun f a => a.put (some 30) (f 12)) (fun _ _ => rfl) ?_, loose_of2 rfl (fun _ a => a) (fun _ _ => rfl) ?_, loose_of2 rfl (fun f a => a.put (some 32) (f 14)) (fun _ _ => rfl) ?_, trivial⟩, ?_⟩
  · intro L f x hJ hL hd
    have HJ := hid hJ
    have HL := hid hL
    clear hJ hL hd
    refine ⟨rfl, ?_⟩
    go_simp
    exact HJ.out.put 0 _ rfl (by decide) rfl (fun _ h => by cases h)
  · intro L f x hJ hL hd
    have HJ := hid hJ
    have HL := hid hL
    clear hJ hL hd
    refine ⟨rfl, ?_⟩
    go_simp
    exact HJ.out.put 1 _ rfl (by decide) rfl (fun _ h => by cases h)
  · intro L f x hJ hL hd
    have l1 := hd 1 rfl (by decide)
    have q1 := hJ.val 1 _ l1 rfl
    have hbx := HBOX.out L f x hJ
    have d2 : x.cell? ⟨bb, 2, none⟩ = _ := box_cell21 hbx 2
    clear hbx
    have HJ := hid hJ
    have HL := hid hL
    have HL1 := hid l1
    clear hJ hL hd l1
    rw [q1]
    refine ⟨rfl, ?_⟩
    go_simp
    exact HJ.out.put 2 _ rfl (by decide) rfl (fun _ h => by cases h)
  · intro L f x hJ hL hd
    have HJ := hid hJ
    have HL := hid hL
    clear hJ hL hd
    refine ⟨rfl, ?_⟩
    go_simp
    exact HJ.out.put 3 _ rfl (by decide) rfl (fun _ h => by cases h)
  · intro L f x hJ hL hd
    have l3 := hd 3 rfl (by decide)
    have q3 := hJ.val 3 _ l3 rfl
    have hbx := HBOX.out L f x hJ
    have d3 : x.cell? ⟨bb, 3, none⟩ = _ := box_cell21 hbx 3
    clear hbx
    have HJ := hid hJ
    have HL := hid hL
    have HL3 := hid l3
    clear hJ hL hd l3
    rw [q3]
    refine ⟨rfl, ?_⟩
    go_simp
    exact HJ.out.put 4 _ rfl (by decide) rfl (fun _ h => by cases h)
  · intro L f x hJ hL hd
    have HJ := hid hJ
    have HL := hid hL
    clear hJ hL hd
    refine ⟨rfl, ?_⟩
    go_simp
    exact HJ.out.put 5 _ rfl (by decide) rfl (fun _ h => by cases h)
  · intro L f x hJ hL hd
    have l5 := hd 5 rfl (by decide)
    have q5 := hJ.val 5 _ l5 rfl
    have hbx := HBOX.out L f x hJ
    have d1 : x.cell? ⟨bb, 1, none⟩ = _ := box_cell21 hbx 1
    clear hbx
    have HJ := hid hJ
    have HL := hid hL
    have HL5 := hid l5
    clear hJ hL hd l5
    rw [q5]
    refine ⟨rfl, ?_⟩
    go_simp
    exact HJ.out.put 6 _ rfl (by decide) rfl (fun _ h => by cases h)
  · intro L f x hJ hL hd
    have l0 := hd 0 rfl (by decide)
    have l2 := hd 2 rfl (by decide)
    have l4 := hd 4 rfl (by decide)
    have l6 := hd 6 rfl (by decide)
    have q0 := hJ.val 0 _ l0 rfl
    have q2 := hJ.val 2 _ l2 rfl
    have q4 := hJ.val 4 _ l4 rfl
    have q6 := hJ.val 6 _ l6 rfl
    have hR := hJ.a hL
    have HR := hid hR
    have HJ := hid hJ
    have HL := hid hL
    have HL0 := hid l0
    have HL2 := hid l2
    have HL4 := hid l4
    have HL6 := hid l6
    clear hJ hL hd hR l0 l2 l4 l6
    rw [q0, q2, q4, q6]
    refine ⟨rfl, ?_⟩
    go_simp
    refine (HTC.out x HR.out).mono ?_
    rintro r x' ⟨rfl, hT⟩
    exact ⟨_, rfl, HJ.out.switch _ rfl rfl HL.out hT (fun _ h => by cases h)⟩
  · intro L f x hJ hL hd
    have l7 := hd 7 rfl (by decide)
    have q7 := hJ.val 7 _ l7 rfl
    have hR := hJ.d l7
    have HR := hid hR
    have HJ := hid hJ
    have HL := hid hL
    have HL7 := hid l7
    clear hJ hL hd hR l7
    rw [q7]
    refine ⟨rfl, ?_⟩
    go_simp
    refine (HNM.out x HR.out).mono ?_
    rintro r x' ⟨rfl, hg⟩
    exact ⟨_, rfl, (HJ.out.more HST.out hg).put 8 _ rfl (by decide) rfl (fun _ h => by cases h)⟩
  · intro L f x hJ hL hd
    have HJ := hid hJ
    have HL := hid hL
    clear hJ hL hd
    refine ⟨rfl, ?_⟩
    go_simp
    exact HJ.out.put 9 _ rfl (by decide) rfl (fun _ h => by cases h)
  · intro L f x hJ hL hd
    have HJ := hid hJ
    have HL := hid hL
    clear hJ hL hd
    refine ⟨rfl, ?_⟩
    go_simp
    exact HJ.out.put 10 _ rfl (by decide) rfl (fun _ h => by cases h)
  · intro L f x hJ hL hd
    have l10 := hd 10 rfl (by decide)
    have q10 := hJ.val 10 _ l10 rfl
    have hbx := HBOX.out L f x hJ
    have d2 : x.cell? ⟨bb, 2, none⟩ = _ := box_cell21 hbx 2
    clear hbx
    have HJ := hid hJ
    have HL := hid hL
    have HL10 := hid l10
    clear hJ hL hd l10
    rw [q10]
    refine ⟨rfl, ?_⟩
    go_simp
    exact HJ.out.put 11 _ rfl (by decide) rfl (fun _ h => by cases h)
  · intro L f x hJ hL hd
    have HJ := hid hJ
    have HL := hid hL
    clear hJ hL hd
    refine ⟨rfl, ?_⟩
    go_simp
    exact HJ.out.put 12 _ rfl (by decide) rfl (fun _ h => by cases h)
  · intro L f x hJ hL hd
    have l12 := hd 12 rfl (by decide)
    have q12 := hJ.val 12 _ l12 rfl
    have hbx := HBOX.out L f x hJ
    have d3 : x.cell? ⟨bb, 3, none⟩ = _ := box_cell21 hbx 3
    clear hbx
    have HJ := hid hJ
    have HL := hid hL
    have HL12 := hid l12
    clear hJ hL hd l12
    rw [q12]
    refine ⟨rfl, ?_⟩
    go_simp
    exact HJ.out.put 13 _ rfl (by decide) rfl (fun _ h => by cases h)
  · intro L f x hJ hL hd
    have HJ := hid hJ
    have HL := hid hL
    clear hJ hL hd
    refine ⟨rfl, ?_⟩
    go_simp
    exact HJ.out.put 14 _ rfl (by decide) rfl (fun _ h => by cases h)
  · intro L f x hJ hL hd
    have l14 := hd 14 rfl (by decide)
    have q14 := hJ.val 14 _ l14 rfl
    have hbx := HBOX.out L f x hJ
    have d1 : x.cell? ⟨bb, 1, none⟩ = _ := box_cell21 hbx 1
    clear hbx
    have HJ := hid hJ
    have HL := hid hL
    have HL14 := hid l14
    clear hJ hL hd l14
    rw [q14]
    refine ⟨rfl, ?_⟩
    go_simp
    exact HJ.out.put 15 _ rfl (by decide) rfl (fun _ h => by cases h)
  intro f x hJ
  have q8 := hJ.val 8 _ rfl rfl
  have q9 := hJ.val 9 _ rfl rfl
  have q11 := hJ.val 11 _ rfl rfl
  have q13 := hJ.val 13 _ rfl rfl
  have q15 := hJ.val 15 _ rfl rfl
  have hm := HTL.out x (hJ.d rfl)
  clear hJ
  obtain ⟨G, k1, k2⟩ := hm.rt
  have HRC := hid (put21_any k1 (by omega) akey aval av (by omega) (by omega))
  have HK2 := hid k2
  clear hm k1 k2
  dsimp only [List.drop]
  simp only [Act.put, List.setIfInBounds_toArray, List.set_cons_succ, List.set_cons_zero]
  rw [q8, q9, q11, q13, q15]
  clear q8 q9 q11 q13 q15
  go_wp2_with fail
  refine HRC.out.mono ?_
  rintro e x' ⟨rfl, ht⟩
  have HF := hid ((HK2.out _ _ ht).less HBL.out)
  clear ht
  go_wp2_with fail
  go_ret
  exact ⟨by simp, HF.out⟩
end Go.Proofs.YtifcnammekbfoaaGreatDoor

/- tidewaterlaw21.do: a Get. -/
set_option linter.unusedVariables false
set_option linter.unusedSimpArgs false
namespace Go.Proofs.YtifcnammekbfoaaGreatDoor
open Go.RowKit Go.Maps Go.Sort
attribute [local go_sem] Oper.semAt_some

set_option maxRecDepth 100000 in
set_option maxHeartbeats 4000000 in
theorem do21_get {S : Nat → Bool} (hS : TabS S) (E : Nat → Addr) {w0 w : World} (hE : Errs S E w0) {tb rb : Nat} {P D : List Pr} {B : Nat → Obj → Prop} (h : M21 w0 w tb rb P D B) (hT : Pl.Tt P D) (hx : P.length ≤ 1000) (av : Int) (akey aval alo ahi : ByteArray) (sk : akey.size ≤ 300) :
    Calls Tryz.prog 11 #[.pointer (some ⟨tb, 0, none⟩), .pointer (some ⟨rb, 0, none⟩), .agg #[.int .i64 2, .int .i64 av, .string akey, .string aval, .string alo, .string ahi]] w fun e w' => e = .returned (.bool true) ∧ M21 w0 w' tb rb P D B := by
  have hlen := hT.len
  have HM := hid h
  have HG1 := hid (fun W (g : Grew w W) => show Calls Tryz.prog 45 #[.pointer (some ⟨tb, 0, none⟩), .string akey] W fun e w' => e = .returned (.tuple #[((Pl.getT P akey).getD Pr.none).agg, .bool (Pl.getT P akey).isSome]) ∧ Grew W w' from by
    obtain ⟨F, h1, _⟩ := (h.more g).tab
    exact getTab_any hS E (hE.grew (h.more g).grew) h1 (by omega) akey (by omega))
  have HG2 := hid (fun W (g : Grew w W) => get21_any (h.more g).read (by omega) akey)
  rw [← hT.get akey] at HG2
  generalize (Pl.getT P akey).isSome = is at *
  generalize (Pl.getT P akey).getD Pr.none = p at *
  clear h hE
  obtain ⟨pk, pv, pn⟩ := p
  unfold Pr.agg at *
  dsimp only at *
  go_enter Tryz.func11, Tryz.ntmps11
  go_wp2_with fail
  have hz0 : w.heap.size < (w.alloc (.cells #[.int .i64 2, .int .i64 av, .string akey, .string aval, .string alo, .string ahi] 34)).heap.size := by simp
  refine (HG1.out _ ((Grew.refl w).alloc _)).mono ?_
  rintro e w1 ⟨rfl, hg⟩
  have hz : w.heap.size < w1.heap.size := Nat.lt_of_lt_of_le hz0 hg.size
  have hG1 := ((Grew.refl w).alloc (.cells #[.int .i64 2, .int .i64 av, .string akey, .string aval, .string alo, .string ahi] 34)).trans hg
  have k2 : w1.cell? ⟨w.heap.size, 2, none⟩ = some (.string akey) := by rw [hg.cells.1 _ _ hz0]; simp [go_sem]
  clear hg hz0
  go_wp2_with fail
  have hz1 : w1.heap.size < (w1.alloc (.cells #[.string pk, .string pv, .int .i64 pn] 104)).heap.size := by simp
  have hA1 : Grew w1 (w1.alloc (.cells #[.string pk, .string pv, .int .i64 pn] 104)) := (Grew.refl w1).alloc _
  refine (HG2.out _ (hG1.trans hA1)).mono ?_
  rintro e w2 ⟨rfl, hg⟩
  have hz2 := Nat.lt_of_lt_of_le hz1 hg.size
  have m0 : w2.cell? ⟨w1.heap.size, 0, none⟩ = some (.string pk) := by rw [hg.cells.1 _ _ hz1]; simp [go_sem]
  have m1 : w2.cell? ⟨w1.heap.size, 1, none⟩ = some (.string pv) := by rw [hg.cells.1 _ _ hz1]; simp [go_sem]
  have m2 : w2.cell? ⟨w1.heap.size, 2, none⟩ = some (.int .i64 pn) := by rw [hg.cells.1 _ _ hz1]; simp [go_sem]
  have HF := hid ((HM.out.more ((hG1.trans hA1).trans hg)).more ((Grew.refl w2).alloc (.cells #[.string pk, .string pv, .int .i64 pn] 104)))
  clear hg hz1 hA1
  go_wp2_with fail
  go_ret
  exact ⟨by simp, HF.out⟩
end Go.Proofs.YtifcnammekbfoaaGreatDoor
