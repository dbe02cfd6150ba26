/- Aud12, Aud15: one text. -/
import Derived.Test.YtbdagllflamabaaGreatDoorFinWatchReplaysQ39
import Derived.Test.YtbdagllflamabaaGreatDoorFinWatchReplaysQ43
import Derived.Test.YtbdagllflamabaaGreatDoorFinWatchReplaysQ42
set_option linter.unusedVariables false
set_option linter.unusedSectionVars false
set_option linter.unusedSimpArgs false
namespace Go.Proofs.YtbdagllflamabaaGreatDoor
open Go.RowKit Go.Maps
attribute [local go_sem] Oper.semAt_some uponV
theorem run_clone_ans {w : World} {mb : Nat} {es : Array MapEntry} {clock : Nat} (h : w.heap[mb]? = some (.map es clock)) : (callFunc 91 #[.iface 97 (.map (some mb))]).run Tryz.prog w = .ok (.value (.iface 97 (.map (some w.heap.size)))) (w.alloc (.map es clock)) := by
  rw [run_callFunc_extern (P := Tryz.prog) (e := Extern.MapsClone.clone) Tryz.func91 (by kernel_rfl) (by kernel_rfl) (by kernel_rfl) (by kernel_rfl)]
  have h2 : (Extern.MapsClone.clone #[.iface 97 (.map (some mb))]).run Tryz.prog w = .ok (.iface 97 (.map (some w.heap.size))) (w.alloc (.map es clock)) := by
    have e : Extern.MapsClone.clone #[.iface 97 (.map (some mb))] = (getObj mb >>= fun o => match o with
      | .map es c => newObj (.map es c) >>= fun r => pure (.iface 97 (.map (some r)))
      | _ => stuck "maps.clone: a map expected") := rfl
    rw [e]
    rw [Sem.run_bind, Go.run_getObj_map w mb es clock h]
    rfl
  rw [h2]
  rfl
set_option maxRecDepth 100000 in
set_option maxHeartbeats 2000000 in
theorem cloneAns_any {w : World} {mb n : Nat} {f : Lit → Option Value} (h : LMap w Tryz.prog 3 mb n f) :
    Calls Tryz.prog 49 #[.map (some mb)] w fun e w' => e = .returned (.map (some w.heap.size)) ∧ LMap w' Tryz.prog 3 w.heap.size n f ∧ Grew w w' ∧ w.heap.size < w'.heap.size := by
  obtain ⟨es, clock, hb, hL⟩ := h.again
  have hcl := run_clone_ans hb
  have heq : (binOp .eql 97 (.map (some mb)) (.map none)).run Tryz.prog w = .ok (.bool false) w := by kernel_rfl
  have hta : ∀ (x : Nat) (W : World), (Instr.typeAssert (.iface 97 (.map (some x))) 20 97 false).run Tryz.prog W = .ok (.map (some x)) W := fun x W => by kernel_rfl
  have hF := hid (And.intro hL (And.intro ((Grew.refl w).alloc (.map es clock)) (show w.heap.size < (w.alloc (.map es clock)).heap.size by simp)))
  clear hL h
  go_enter Tryz.func49, Tryz.ntmps49
  go_wp2_with fail
  go_ret
  exact ⟨rfl, hF.out⟩
theorem MRange.cnt_le {w : World} {P : Program} {k : TypeId} {b n r cnt : Nat} {f : Lit → Option Value} {left : Lit → Bool} (h : MRange w P k b r n f left cnt) : cnt ≤ n := by
  obtain ⟨D, h, _⟩ := h
  obtain ⟨es, clock, since, seen, c0, hb, F, hs, rfl, hr, hold, rfl, hl1, hl2, hsc, hsk⟩ := h
  refine Nat.le_trans ?_ hs
  unfold leftOf
  rw [← Array.length_toList, Array.toList_filter, ← Array.length_toList]
  exact List.length_filter_le _ _
structure CpyR (W wr : World) (L : Nat → Nat) (k' ob sob mbo nbo mb r n : Nat) (f : Lit → Option Value) (A : AuP) (sto : Nat → Nat) (fo : Lit → Option Value) (q : Nat) (left : Lit → Bool) (cnt : Nat) (Lr : Nat → Nat) : Prop where
  grew : Grew W wr
  rng : MRange wr Tryz.prog 3 mb r n f left cnt
  cntq : q + cnt ≤ n
  c0 : wr.cell? ⟨ob, 0, none⟩ = some (.int .i64 A.at_)
  c1 : wr.cell? ⟨ob, 1, none⟩ = some (.pointer (some ⟨sob, 0, none⟩))
  c2 : wr.cell? ⟨ob, 2, none⟩ = some (.map (some mbo))
  c3 : wr.cell? ⟨ob, 3, none⟩ = some (.map (some nbo))
  fz : ∀ i, wr.frozen? ⟨ob, i, none⟩ = false
  lm : LMap wr Tryz.prog 3 mbo q fo
  val : ∀ i : Nat, fo (clit i) = if left (clit i) = true then none else (A.st i).map fun _ => .pointer (some ⟨sto i, 0, none⟩)
  lit : ∀ l, fo l ≠ none → ∃ i : Nat, l = clit i
  la : ∃ fa m, m ≤ n ∧ LMap wr Tryz.prog 3 nbo m fa
  sh : ∃ F, ShAt wr F sob A.sh ∧ ∀ j, F j → Lr j = k' + 3
  lab0 : ∀ j, j < W.heap.size → Lr j = L j
  lab1 : ∀ j, W.heap.size ≤ j → Kin k' (Lr j)
  lob : Lr ob = k'
  lmb : Lr mbo = k' + 1
  lnb : Lr nbo = k' + 2
  lr : Lr r = k' + 90
  nr : W.heap.size ≤ r
  nmb : W.heap.size ≤ mbo
  states : ∀ i P S, A.st i = some (P, S) → left (clit i) = false → i ≤ 12 ∧ ∃ c ∈ A.sh.xs, c.id = (i : Int) ∧ ∃ Ft Fs m, m ≤ n ∧ StAt wr Ft Fs (sto i) m c.lo c.hi P S ∧ ∀ j, BlS Ft Fs (sto i) j → Lr j = k' + 20 + i
section
variable {W wr w' : World} {L : Nat → Nat} {k' ob sob mbo nbo mb r n : Nat} {f : Lit → Option Value} {A : AuP} {sto sto' : Nat → Nat} {fo fo' : Lit → Option Value} {q q' : Nat} {left left' : Lit → Bool} {cnt cnt' : Nat} {Lr Lr' : Nat → Nat}
theorem CpyR.step (h : CpyR W wr L k' ob sob mbo nbo mb r n f A sto fo q left cnt Lr) (hO : Only (fun j => j = r ∨ j = mbo) wr w') (hL : ∀ j, j < wr.heap.size → Lr' j = Lr j) (hN : ∀ j, wr.heap.size ≤ j → Kin k' (Lr' j)) (hrng : MRange w' Tryz.prog 3 mb r n f left' cnt') (hq : q' + cnt' ≤ n) (hlm : LMap w' Tryz.prog 3 mbo q' fo')
    (hval : ∀ i : Nat, fo' (clit i) = if left' (clit i) = true then none else (A.st i).map fun _ => .pointer (some ⟨sto' i, 0, none⟩)) (hlit : ∀ l, fo' l ≠ none → ∃ i : Nat, l = clit i)
    (hst : ∀ i P S, A.st i = some (P, S) → left' (clit i) = false → (left (clit i) = false ∧ sto' i = sto i) ∨ (i ≤ 12 ∧ ∃ c ∈ A.sh.xs, c.id = (i : Int) ∧ ∃ Ft Fs m, m ≤ n ∧ StAt w' Ft Fs (sto' i) m c.lo c.hi P S ∧ ∀ j, BlS Ft Fs (sto' i) j → Lr' j = k' + 20 + i)) : CpyR W w' L k' ob sob mbo nbo mb r n f A sto' fo' q' left' cnt' Lr' := by
  have hob := cell_lt h.c0
  have hr := h.rng.lt
  have hmb := h.lm.lt
  have nT : ∀ j, Lr j ≠ k' + 1 → Lr j ≠ k' + 90 → ¬ (j = r ∨ j = mbo) := fun j h1 h2 e => by
    rcases e with e | e
    · exact h2 (by rw [e]; exact h.lr)
    · exact h1 (by rw [e]; exact h.lmb)
  have tob := nT ob (by rw [h.lob]; omega) (by rw [h.lob]; omega)
  obtain ⟨F, h3, h4⟩ := h.sh
  obtain ⟨fa, m2, e2, h2⟩ := h.la
  have gWw : Grew W w' := ((h.grew.only _).then hO).grew fun j hj => by
    rcases hj with e | e
    · rw [e]; exact h.nr
    · rw [e]; exact h.nmb
  refine ⟨gWw, hrng, hq, (hO.cell hob tob 0).trans h.c0, (hO.cell hob tob 1).trans h.c1, (hO.cell hob tob 2).trans h.c2, (hO.cell hob tob 3).trans h.c3, fun i => (hO.frozen hob tob i).trans (h.fz i), hlm, hval, hlit, ⟨fa, m2, e2, h2.kept hO (nT nbo (by rw [h.lnb]; omega) (by rw [h.lnb]; omega))⟩,
    ⟨F, h3.kept hO fun j hj => nT j (by rw [h4 j hj]; omega) (by rw [h4 j hj]; omega), fun j hj => (hL j (h3.lt j hj)).trans (h4 j hj)⟩, fun j hj => (hL j (Nat.lt_of_lt_of_le hj h.grew.size)).trans (h.lab0 j hj), fun j hj => ?_, (hL ob hob).trans h.lob, (hL mbo hmb).trans h.lmb, (hL nbo h2.lt).trans h.lnb, (hL r hr).trans h.lr, h.nr, h.nmb, fun i P S hi hl => ?_⟩
  · rcases Nat.lt_or_ge j wr.heap.size with q | q
    · rw [hL j q]; exact h.lab1 j hj
    · exact hN j q
  · rcases hst i P S hi hl with ⟨e1, e2⟩ | e
    · obtain ⟨i12, c, hc, hcid, Ft, Fs, m, hm, hS, hB⟩ := h.states i P S hi e1
      have ha := hS.all
      rw [e2]
      have hn : ∀ j, BlS Ft Fs (sto i) j → ¬ (j = r ∨ j = mbo) := fun j hj => nT j (by rw [hB j hj]; omega) (by rw [hB j hj]; omega)
      exact ⟨i12, c, hc, hcid, Ft, Fs, m, hm, hS.kept hO (fun j hj => hn j (.inl hj)) (fun j hj => hn j (.inr (.inl hj))) (hn _ (.inr (.inr rfl))), fun j hj => (hL j (ha j hj)).trans (hB j hj)⟩
    · exact e
theorem CpyR.done (h : CpyR W wr L k' ob sob mbo nbo mb r n f A sto fo q left cnt Lr) (hl : ∀ l, left l = false) : AuIs wr Lr k' ob sob mbo nbo n fo sto A := by
  refine ⟨h.c0, h.c1, h.c2, h.c3, h.fz, h.lob, h.lmb, h.lnb, h.sh, ⟨q, by have := h.cntq; omega, h.lm⟩, fun i => ?_, h.lit, h.la, fun i P S hi => h.states i P S hi (hl _)⟩
  rw [h.val, if_neg (by rw [hl]; simp)]
end
def CpyV (y : World) (m : Nat) (lo hi : ByteArray) (P : List Pr) (S : Int → Option An) (v : Value) (u : World) : Prop := Grew y u ∧ ∃ cb Gt Gs, v = .pointer (some ⟨cb, 0, none⟩) ∧ StAt u Gt Gs cb m lo hi P S ∧ ∀ j, BlS Gt Gs cb j → y.heap.size ≤ j
def RCpy (s : ShSt) (m : Nat) (fa : Lit → Option Value) (i : Nat) (v : Value) (F : Nat → Prop) (x : World) : Prop :=
  (i = 8 → ∃ cb, v = .pointer (some ⟨cb, 0, none⟩) ∧ ShAt x F cb s) ∧ (i = 9 → ∃ b, v = .map (some b) ∧ LMap x Tryz.prog 3 b 0 (fun _ => none) ∧ F b) ∧ (i = 14 → ∃ b, v = .map (some b) ∧ LMap x Tryz.prog 3 b m fa ∧ F b)
theorem rcpy_mono (s : ShSt) (m : Nat) (fa : Lit → Option Value) : MonoD (RCpy s m fa) := fun i v F x x' h g => ⟨fun e => by obtain ⟨cb, e1, e2⟩ := h.1 e; exact ⟨cb, e1, e2.grew g⟩, fun e => by obtain ⟨b, e1, e2, e3⟩ := h.2.1 e; exact ⟨b, e1, e2.grew g, e3⟩, fun e => by obtain ⟨b, e1, e2, e3⟩ := h.2.2 e; exact ⟨b, e1, e2.grew g, e3⟩⟩
set_option maxRecDepth 100000 in
set_option maxHeartbeats 4000000 in
theorem copyA_any {W : World} {L : Nat → Nat} {k ab n : Nat} {A : AuP} (h : AuAt W L k ab n A) (hx : ∀ i P S, A.st i = some (P, S) → P.length ≤ 1000) (h0 : 0 < A.sh.xs.length) (h1 : A.sh.xs.length ≤ 1000000) (hev : ∀ u ∈ A.sh.evs, u.oneCell' = true) (hne : A.sh.ne ≤ 1000000) (hn : n ≤ 1000000) (k' : Nat) :
    Calls Tryz.prog 14 #[.pointer (some ⟨ab, 0, none⟩)] W fun e w' => ∃ cb, e = .returned (.pointer (some ⟨cb, 0, none⟩)) ∧ Grew W w' ∧ ∃ L', (∀ j, j < W.heap.size → L' j = L j) ∧ (∀ j, W.heap.size ≤ j → Kin k' (L' j)) ∧ AuAt w' L' k' cb n A := by
  obtain ⟨sb, mb, nb, f, st, h⟩ := h
  obtain ⟨F, hS, _⟩ := h.sh
  obtain ⟨fa, ma, hma, hla⟩ := h.la
  obtain ⟨ms, hms, hlm⟩ := h.lm
  have c0 := h.c0
  have c1 := h.c1
  have c2 := h.c2
  have c3 := h.c3
  have hab := cell_lt c0
  have HCM := hid (fun X (g : Grew W X) => copyM_any (hS.grew g) h0 h1 hev hne)
  have HCA := hid (fun X (g : Grew W X) => cloneAns_any (hla.grew g))
  have HLM := hid (fun X (g : Grew W X) => (hlm.mono hms).grew g)
  have HH := hid h
  have HX := hid hx
  have HMA := hid hma
  clear h hS hla hlm hms hma hx hev
  have C0 := wd_cell c0
  have C1 := wd_cell c1
  have C2 := wd_cell c2
  have C3 := wd_cell c3
  have hmm := @run_makeMap Tryz.prog
  go_enter Tryz.func14, Tryz.ntmps14
  go_upto_region 1 with fail
  refine wp_region_mixS 15 [8, 9, 14] (Grew W) Eq (JDn (RCpy A.sh ma fa) W) (fun f a => ((a.put (some 14) (f 8)).put (some 15) (f 9)).put (some 20) (f 14)) (by kernel_rfl) (by kernel_rfl) (fun _ _ => rfl) (JDn.start _ W _) (fun _ _ _ h => h.grew) (fun _ => rfl) (fun _ _ _ _ h g => g ▸ h) ?_
  repeat (first
    | (refine mixS_loose (by rfl) (by rfl) ?_)
    | (refine mixS_plain (by rfl) (by rfl) (by rfl) (by first | exact Grew.refl | exact fun _ => rfl) (by rfl) ?_; intro K hK; go_big_quiet_op; go_big_quiet_on)
    | (refine mixS_skip (by rfl) (by rfl) (by rfl) ?_; simp only [Act.put, List.setIfInBounds_toArray, List.set_cons_zero, List.set_cons_succ]))
  refine mixS_done (by rfl) ⟨⟨loose_of rfl (fun _ a => a) (fun _ _ => rfl) (fun _ => rfl) ?_, loose_of rfl (fun _ a => a) (fun _ _ => rfl) (fun _ => rfl) ?_, loose_of rfl (fun f a => a.put (some 14) (f 8)) (fun _ _ => rfl) (fun _ => rfl) ?_, trivial⟩, ?_⟩
  · intro L0 f0 u hJ hL hd
    have HJ := hid hJ
    have HL := hid hL
    clear hJ hL hd C0 C1 C2 C3 hmm
    go_simp
    refine (HCM.out u HJ.out.grew).mono ?_
    rintro e u' ⟨cb, rfl, hg, hcb, F', hS', hF'⟩
    exact ⟨_, rfl, HJ.out.put (rcpy_mono _ _ _) 8 HL.out hg ⟨fun _ => ⟨cb, rfl, hS'⟩, (fun e => by omega), (fun e => by omega)⟩ fun j hj => ⟨hF' j hj, hS'.lt j hj⟩⟩
  · intro L0 f0 u hJ hL hd
    have HJ := hid hJ
    have HL := hid hL
    clear hJ hL hd C0 C1 C2 C3
    go_simp
    exact HJ.out.put (rcpy_mono _ _ _) 9 HL.out ((Grew.refl u).alloc _) (F := fun j => j = u.heap.size) ⟨(fun e => by omega), (fun _ => ⟨_, rfl, LMap.made _ _ _, rfl⟩), (fun e => by omega)⟩ (fun j hj => by subst hj; simp)
  · intro L0 f0 u hJ hL hd
    have HJ := hid hJ
    have HL := hid hL
    clear hJ hL hd C0 C1 C2 C3 hmm
    go_simp
    refine (HCA.out u HJ.out.grew).mono ?_
    rintro e u' ⟨rfl, hl, hg, hz⟩
    exact ⟨_, rfl, HJ.out.put (rcpy_mono _ _ _) 14 HL.out hg (F := fun j => j = u.heap.size) ⟨(fun e => by omega), (fun e => by omega), fun _ => ⟨_, rfl, hl, rfl⟩⟩ (fun j hj => by subst hj; exact ⟨Nat.le_refl _, hz⟩)⟩
  intro f0 u hJ
  obtain ⟨φ, hφ, hap⟩ := hJ.ex
  obtain ⟨⟨q8, _, _⟩, n8⟩ := hφ 8 rfl
  obtain ⟨⟨_, q9, _⟩, n9⟩ := hφ 9 rfl
  obtain ⟨⟨_, _, q14⟩, n14⟩ := hφ 14 rfl
  obtain ⟨cb, e8, hS8⟩ := q8 rfl
  obtain ⟨mbo, e9, hM9, hb9⟩ := q9 rfl
  obtain ⟨nbo, e14, hM14, hb14⟩ := q14 rfl
  have HU := hid hJ.grew
  have HS8 := hid (And.intro hS8 (And.intro hM9 hM14))
  have HN := hid (show (∀ j, φ 8 j → W.heap.size ≤ j ∧ j < u.heap.size ∧ j ≠ mbo ∧ j ≠ nbo) ∧ W.heap.size ≤ mbo ∧ mbo < u.heap.size ∧ W.heap.size ≤ nbo ∧ nbo < u.heap.size ∧ mbo ≠ nbo from
    ⟨fun j hj => ⟨(n8 j hj).1, (n8 j hj).2, fun e => hap 8 9 rfl rfl (by decide) j hj (e ▸ hb9), fun e => hap 8 14 rfl rfl (by decide) j hj (e ▸ hb14)⟩, (n9 _ hb9).1, (n9 _ hb9).2, (n14 _ hb14).1, (n14 _ hb14).2, fun e => hap 9 14 rfl rfl (by decide) mbo hb9 (e ▸ hb14)⟩)
  clear hJ hφ hap q8 q9 q14 n8 n9 n14 hS8 hM9 hM14 hb9 hb14 C0 C1 C2 C3 HCM HCA hmm
  dsimp only [List.drop]
  simp only [Act.put, List.setIfInBounds_toArray, List.set_cons_succ, List.set_cons_zero]
  rw [e8, e9, e14]
  clear e8 e9 e14
  go_upto_region 2 with fail
  obtain ⟨Y, hY⟩ : ∃ Y, Y = u.alloc (.cells #[.int .i64 A.at_, .pointer (some ⟨cb, 0, none⟩), .map (some mbo), .map (some nbo)] 109) := ⟨_, rfl⟩
  have gY : Grew u Y := by rw [hY]; exact (Grew.refl u).alloc _
  obtain ⟨ob, hob⟩ : ∃ ob, ob = u.heap.size := ⟨_, rfl⟩
  have HO := hid (show Y.cell? ⟨ob, 0, none⟩ = some (.int .i64 A.at_) ∧ Y.cell? ⟨ob, 1, none⟩ = some (.pointer (some ⟨cb, 0, none⟩)) ∧ Y.cell? ⟨ob, 2, none⟩ = some (.map (some mbo)) ∧ Y.cell? ⟨ob, 3, none⟩ = some (.map (some nbo)) ∧ ∀ i, Y.frozen? ⟨ob, i, none⟩ = false from by
    rw [hY, hob]
    exact ⟨by simp [go_sem], by simp [go_sem], by simp [go_sem], by simp [go_sem], fun i => by simp [go_sem]⟩)
  have hobY : ob < Y.heap.size := by rw [hY, hob]; simp
  have HGY := hid gY
  have HWY := hid (HU.out.trans gY)
  have HOB := hid (show u.heap.size = ob from hob.symm)
  rw [← hY, ← hob]
  clear hY hob gY
  have d2 := (HWY.out.cells.1 _ 2 hab).trans c2
  have habY := Nat.lt_of_lt_of_le hab HWY.out.size
  go_wp2_with (at_range; refine wpList_range_M rfl _ rfl cl_keyed Tryz.underlying107 rfl (HLM.out Y HWY.out) ?_)
  intro w5 left5 cnt5 hr5 hl5 hg5 hs5
  obtain ⟨r, hr⟩ : ∃ r, r = Y.heap.size := ⟨_, rfl⟩
  rw [← hr] at hr5 ⊢
  have HR0 : Hid (∃ Lr, CpyR W w5 L k' ob cb mbo nbo mb r n f A (fun _ => 0) (fun _ => none) 0 left5 cnt5 Lr) := by
    classical
    obtain ⟨n1, n2, n3, n4, n5, n6⟩ := HN.out
    obtain ⟨s1, s2, s3⟩ := HS8.out
    obtain ⟨o0, o1, o2, o3, o4⟩ := HO.out
    have e0 := HOB.out
    have e1 := HGY.out.size
    have e2 := HU.out.size
    have gA := (HGY.out.trans hg5)
    refine ⟨fun j => if j < W.heap.size then L j else if j = ob then k' else if j = mbo then k' + 1 else if j = nbo then k' + 2 else if φ 8 j then k' + 3 else k' + 90, HWY.out.trans hg5, hr5, by have := hr5.cnt_le; omega, (hg5.cells.1 _ _ hobY).trans o0, (hg5.cells.1 _ _ hobY).trans o1, (hg5.cells.1 _ _ hobY).trans o2, (hg5.cells.1 _ _ hobY).trans o3, fun i => (hg5.cells.2 _ i hobY).trans (o4 i), s2.grew gA, fun i => ?_, fun l hl => absurd rfl hl, ⟨fa, ma, HMA.out, s3.grew gA⟩, ⟨φ 8, s1.grew gA, fun j hj => ?_⟩, fun j hj => if_pos hj, fun j hj => ?_, ?_, ?_, ?_, ?_, by omega, n2, fun i P S hi hl => ?_⟩
    · by_cases hq : left5 (clit i) = true
      · rw [if_pos hq]
      · rw [if_neg hq]
        have h1 := hl5 _ (by simpa using hq)
        rw [HH.out.val] at h1
        cases hA : A.st i with
        | none => rfl
        | some v => rw [hA] at h1; cases h1
    · obtain ⟨a1, a2, a3, a4⟩ := n1 j hj
      rw [if_neg (by omega), if_neg (by omega), if_neg a3, if_neg a4, if_pos hj]
    · rw [if_neg (by omega)]
      unfold Kin
      repeat' split
      all_goals omega
    · rw [if_neg (by omega), if_pos rfl]
    · rw [if_neg (by omega), if_neg (by omega), if_pos rfl]
    · rw [if_neg (by omega), if_neg (by omega), if_neg (by omega), if_pos rfl]
    · rw [if_neg (by omega), if_neg (by omega), if_neg (by omega), if_neg (by omega), if_neg (fun q => by have := (n1 r q).2.1; omega)]
    · have h1 := hl5 _ hl
      rw [HH.out.val, hi] at h1
      cases h1
  clear hr5 hl5 hg5 hs5 HLM HS8 HN HMA HO HGY HWY HOB HU d2 habY hobY hr c0 c1 c2 c3
  go_wp2_with fail
  go_loopw [4, 5] (fun _ _ wx => ∃ (sto : Nat → Nat) (fo : Lit → Option Value) (q : Nat) (left : Lit → Bool) (cnt : Nat) (Lr : Nat → Nat), Hid (CpyR W wx L k' ob cb mbo nbo mb r n f A sto fo q left cnt Lr)) (fun _ _ wx => wx.rangeLeft mb r)
  case atStart =>
    obtain ⟨Lr, h⟩ := HR0.out
    exact ⟨_, _, 0, left5, cnt5, Lr, h⟩
  case round =>
    obtain ⟨sto, fo, q, left, cnt, Lr, HC⟩ := hrel
    obtain ⟨wo, rfl⟩ : ∃ wo : World, wo = wr := ⟨_, rfl⟩
    have hR := HC.out.rng
    have HMEAS := hid hR.left_eq
    go_wp2_with (at_next; refine wpList_next_MI rfl _ rfl Tryz.underlying3 cl_keyed r left cnt rfl hR ?_ ?_)
    · intro hl0
      have HD := hid (HC.out.done hl0)
      clear hR hl0
      go_wp2_with fail
      go_ret
      exact ⟨ob, rfl, HC.out.grew, Lr, HC.out.lab0, HC.out.lab1, cb, mbo, nbo, fo, sto, HD.out⟩
    · intro c v w6 cnt6 hwf hlc hfc hR6 hlt6 ho6 hs6 hen
      obtain ⟨i, hi⟩ := HH.out.lit (clit c) (by rw [hfc]; simp)
      obtain rfl : c = (i : Int) := by unfold clit at hi; injection hi
      have hvi := HH.out.val i
      rw [hfc] at hvi
      cases hA : A.st i with
      | none => rw [hA] at hvi; cases hvi
      | some ps =>
        obtain ⟨P, S⟩ := ps
        rw [hA] at hvi
        have hv : v = .pointer (some ⟨st i, 0, none⟩) := Option.some.inj hvi
        subst hv
        obtain ⟨i12, cc, hc, hcid, Ft, Fs, m, hm, hS, hB⟩ := HH.out.states i P S hA
        have hPx := HX.out i P S hA
        have nor : ¬ ob = r := fun e => by have a := HC.out.lob; have b := HC.out.lr; rw [e] at a; omega
        have nmr : ¬ mbo = r := fun e => by have a := HC.out.lmb; have b := HC.out.lr; rw [e] at a; omega
        have g6 : Grew W w6 := ((HC.out.grew.only _).then ho6).grew fun j hj => by rw [hj]; exact HC.out.nr
        have o2 := (ho6.cell (cell_lt HC.out.c2) nor 2).trans HC.out.c2
        have hob6 := cell_lt o2
        have HLMO := hid (HC.out.lm.kept ho6 nmr)
        have HCP := hid (fun X (g : Grew w6 X) => copyS_any (hS.grew (g6.trans g)) hPx)
        have HI := hid (And.intro i12 (And.intro hc (And.intro hcid (And.intro hm hA))))
        have H6 := hid (And.intro ho6 (And.intro hs6 (And.intro hlc hR6)))
        have HLT := hid hlt6
        obtain ⟨sp, hsp⟩ : ∃ sp, st i = sp := ⟨_, rfl⟩
        rw [hsp] at hen HCP ⊢
        clear hS hB hm hPx hvi hfc hi ho6 hs6 hlc hR6 hA hR i12 hc hcid hlt6
        go_upto_region 5 with fail
        have O2 := wd_cell o2
        refine wp_region_mixS 7 [6] (Grew w6) Eq (JE 6 (Grew w6) (CpyV w6 m cc.lo cc.hi P S) (fun _ => none)) (fun f a => a.put (some 39) (f 6)) (by kernel_rfl) (by kernel_rfl) (fun _ _ => rfl) (JE.start (Grew.refl w6).drew _) (fun L0 _ _ h => ?_) (fun _ => rfl) (fun _ _ _ _ h g => g ▸ h) ?_
        · cases hL : L0 6 with
          | false => exact h.pre hL
          | true => exact (h.post hL).1
        repeat (first
    | (refine mixS_loose (by rfl) (by rfl) ?_)
    | (refine mixS_plain (by rfl) (by rfl) (by rfl) (by first | exact Grew.refl | exact fun _ => rfl) (by rfl) ?_; intro K hK; go_big_quiet_op; go_big_quiet_on)
    | (refine mixS_skip (by rfl) (by rfl) (by rfl) ?_; simp only [Act.put, List.setIfInBounds_toArray, List.set_cons_zero, List.set_cons_succ]))
        refine mixS_done (by rfl) ⟨⟨loose_of rfl (fun _ a => a) (fun _ _ => rfl) (fun _ => rfl) ?_, trivial⟩, ?_⟩
        · intro L0' f0 u hJ hL hd
          have HJ := hid hJ
          have HL := hid hL
          clear hJ hL hd O2
          go_simp
          have hg := HJ.out.pre HL.out
          refine (HCP.out u hg).mono ?_
          rintro e u' ⟨cb2, Gt, Gs, rfl, hS2, h1, h2, h3, hg2⟩
          have hs := hg.size
          exact ⟨_, rfl, HJ.out.call HL.out rfl ⟨hg.trans hg2, cb2, Gt, Gs, rfl, hS2, fun j hj => by
            rcases hj with a | a | a
            · have := h2 j a; omega
            · have := h3 j a; omega
            · omega⟩⟩
        intro f0 u hJ
        obtain ⟨gu, cb2, Gt, Gs, e6, hS2, hB2⟩ := hJ.post rfl
        have HGU := hid gu
        have HS2 := hid (And.intro hS2 hB2)
        obtain ⟨w7, hrun, r1, r2⟩ := (HLMO.out.grew gu).store (val := .pointer (some ⟨cb2, 0, none⟩)) cl_keyed Tryz.underlying107 (by have := HC.out.cntq; unfold maxLen; omega) (keyOf_int_mk Tryz.underlying3 hwf)
        have HRUN := hid hrun
        have HR := hid (And.intro r1 r2)
        clear hJ gu hS2 hB2 O2 hrun r1 r2 HCP
        dsimp only [List.drop]
        simp only [Act.put, List.setIfInBounds_toArray, List.set_cons_succ, List.set_cons_zero]
        rw [e6]
        clear e6
        go_wp2_with (at_mapUpdate; refine wpList_update_run rfl _ _ _ rfl rfl rfl rfl HRUN.out ?_)
        go_wp2_with fail
        have HNEW : Hid (MRange w7 Tryz.prog 3 mb r n f (fun z => left z && !z.sameKey (clit (i : Int))) cnt6 ∧ ∃ Lr', CpyR W w7 L k' ob cb mbo nbo mb r n f A (fun z => if z = i then cb2 else sto z) (lset fo (clit (i : Int)) (some (.pointer (some ⟨cb2, 0, none⟩)))) (q + 1) (fun z => left z && !z.sameKey (clit (i : Int))) cnt6 Lr') := by
          obtain ⟨ho6, hs6, hlc, hR6⟩ := H6.out
          obtain ⟨i12, hc, hcid, hm, hA⟩ := HI.out
          have hO7 : Only (fun j => j = mbo) u w7 := Only.of_turned HR.out.2
          have hmbW : mb < W.heap.size := by obtain ⟨_, _, x⟩ := HH.out.lm; exact x.lt
          have nmb : ¬ mb = mbo := fun e => by have := HC.out.nmb; omega
          have nr : ¬ r = mbo := fun e => nmr e.symm
          have hrng := (hR6.grew HGU.out).kept hO7 nmb nr
          have hus := HGU.out.size
          have hO : Only (fun j => j = r ∨ j = mbo) wo w7 := ((ho6.mono fun j hj => .inl (.inl hj)).then (HGU.out.only _)).then (hO7.mono fun j hj => .inl (.inr hj))
          have lft : ∀ z : Nat, (left (clit (z : Int)) && !(clit (z : Int)).sameKey (clit (i : Int))) = if z = i then false else left (clit (z : Int)) := fun z => by
            rw [clit_same]
            by_cases e : z = i
            · rw [if_pos e, decide_eq_true (by omega)]; simp
            · rw [if_neg e, decide_eq_false (by omega)]; simp
          have hB7 : ∀ j, BlS Gt Gs cb2 j → ¬ j = mbo := fun j hj e => by have := HS2.out.2 j hj; have := HLMO.out.lt; omega
          refine ⟨hrng, fun j => if j < wo.heap.size then Lr j else k' + 20 + i, HC.out.step hO (fun j hj => if_pos hj) (fun j hj => ?_) hrng (by have := HC.out.cntq; have := HLT.out; omega) HR.out.1 (fun z => ?_) (fun l hl => ?_) (fun z P2 S2 hz hl => ?_)⟩
          · rw [if_neg (by omega)]
            unfold Kin; omega
          · rw [lft]
            by_cases e : z = i
            · subst e
              rw [lset_same, if_pos rfl, hA]
              simp
            · rw [lset_ne _ _ (fun x => e (clit_inj x)), HC.out.val, if_neg e, if_neg e]
          · by_cases e : l = clit (i : Int)
            · exact ⟨i, e⟩
            · rw [lset_ne _ _ e] at hl; exact HC.out.lit l hl
          · rw [lft] at hl
            by_cases e : z = i
            · subst e
              rw [hA] at hz
              cases hz
              refine .inr ⟨i12, cc, hc, hcid, Gt, Gs, m, hm, ?_, fun j hj => ?_⟩
              · rw [if_pos rfl]
                exact HS2.out.1.kept hO7 (fun j hj => hB7 j (.inl hj)) (fun j hj => hB7 j (.inr (.inl hj))) (hB7 _ (.inr (.inr rfl)))
              · rw [if_pos rfl] at hj
                have := HS2.out.2 j hj
                rw [if_neg (by omega)]
            · rw [if_neg e] at hl
              exact .inl ⟨hl, if_neg e⟩
        clear o2
        go_roundw
        case rel =>
          obtain ⟨_, Lr', h⟩ := HNEW.out
          exact ⟨_, _, q + 1, _, cnt6, Lr', h⟩
        case measure => rw [HNEW.out.1.left_eq, HMEAS.out]; exact HLT.out
end Go.Proofs.YtbdagllflamabaaGreatDoor
namespace Go.Proofs.YtbdagllflamabaaGreatDoor
open Go.RowKit Go.Maps
attribute [local go_sem] Oper.semAt_some uponV
theorem AuAt.srt {W : World} {L : Nat → Nat} {k ab n : Nat} {A : AuP} (h : AuAt W L k ab n A) : ∀ i P S, A.st i = some (P, S) → Pl.Srt P := fun q P S hq => by
  obtain ⟨sb, mb, nb, f, st, h⟩ := h
  obtain ⟨_, c, _, _, Ft, Fs, m, _, ⟨tb, sb', hT⟩, _⟩ := h.states q P S hq
  exact tabAt_srt hT.tab
theorem AuOk.len {A : AuP} {m : Nat} (h : AuOk A m) (hm : m ≤ 120) : ∀ i P S, A.st i = some (P, S) → P.length ≤ 1000 := fun q P S hA => by
  have hq := h.lt (i := q) (by rw [hA]; simp)
  have a := len_tot A.st q (by omega)
  have b := h.few
  rw [hA] at a
  unfold lenS at a
  dsimp only at a
  omega
theorem getA_any (E : Nat → Addr) {W : World} (hE : Errs auS E W) {L : Nat → Nat} {k ab n m0 : Nat} {A : AuP} (h : AuAt W L k ab n A) (hOk : AuOk A m0) (hm0 : m0 ≤ 120) (key : ByteArray) (hk : key.size ≤ 70368744177664) :
    Calls Tryz.prog 17 #[.pointer (some ⟨ab, 0, none⟩), .string key] W fun e w' => e = .returned (.tuple #[((Pl.getAP A key).getD Pr.none).agg, .bool (Pl.getAP A key).isSome]) ∧ Grew W w' := by
  have hl : A.sh.xs.length ≤ 1000 := by have := hOk.inv.len; omega
  by_cases hn : Pl.ownerI A.sh.xs key < 0
  · rw [Pl.getAP_none hn]
    exact getA_none E (auS_st hE) h hl key hk hn
  · obtain ⟨i, hi, hid, P, S, hP, hg⟩ := Pl.getAP_has hOk hn
    rw [hg]
    exact getA_some E (auS_st hE) h hl key hk hn i (by omega) hid hP (hOk.len hm0 i P S hP)
theorem AuAt.apply (E : Nat → Addr) {w0 W U : World} (hE : Errs auS E w0) (g0 : Grew w0 W) (gU : Grew W U) {L : Nat → Nat} {k ab n m0 : Nat} {A : AuP} (h : AuAt W L k ab n A) (hL : ∀ j, j < w0.heap.size → L j < k) (hOk : AuOk A m0) (hm0 : m0 ≤ 120) (hn : n ≤ 90000) (e : En) (hA : EnAt w0 e) (hz : EnSz e) (hkz : e.key.size ≤ 300) (at' : Int) :
    Calls Tryz.prog 11 #[.pointer (some ⟨ab, 0, none⟩), e.agg, .int .i64 at'] U fun r w' => r = .returned (errOf E (Pl.applyA A e at').1) ∧ Grew w0 w' ∧ Only (fun j => Kin k (L j)) W w' ∧ ∃ L', (∀ j, j < W.heap.size → L' j = L j) ∧ (∀ j, W.heap.size ≤ j → Kin k (L' j)) ∧ AuAt w' L' k ab (n + 5) (Pl.applyA A e at').2 := by
  have hWU := gU.size
  have h0W := g0.size
  have h1 : AuAt U (fun j => if j < W.heap.size then L j else k + 50) k ab n A := h.kept (gU.only fun _ => False) (fun _ _ h => h.elim) fun j hj => if_pos hj
  have gX : ∀ X, Only (fun j => Kin k (if j < W.heap.size then L j else k + 50)) U X → Grew w0 X := fun X hO => (((g0.trans gU).only (fun j => w0.heap.size ≤ j)).then (hO.mono fun j hj => by
    by_cases q : j < w0.heap.size
    · rw [if_pos (by omega)] at hj
      have := hL j q
      unfold Kin at hj
      omega
    · exact .inl (by omega))).grew fun j hj => hj
  refine (applyA_any E (fun X hO => hE.grew (gX X hO)) h1 hOk hm0 hn e (fun X hO => hA.grew (gX X hO)) hz hkz at').mono ?_
  rintro r w' ⟨rfl, hO, L', h2, h3, h4⟩
  dsimp only at hO h2
  refine ⟨rfl, gX w' hO, (gU.only _).trans hO (fun j hj => ?_), L', fun j hj => ?_, fun j hj => ?_, h4⟩
  · by_cases q : j < W.heap.size
    · rw [if_pos q] at hj; exact .inl hj
    · exact .inr (by omega)
  · rw [h2 j (by omega), if_pos hj]
  · by_cases q : j < U.heap.size
    · rw [h2 j q, if_neg (by omega)]; unfold Kin; omega
    · exact h3 j (by omega)
structure AuR (w0 W : World) (ab n m : Nat) (A : AuP) : Prop where
  grew : Grew w0 W
  ex : ∃ L, (∀ j, j < w0.heap.size → L j = 0) ∧ (∀ j, L j ≤ 200) ∧ AuAt W L 1 ab n A
  ok : AuOk A m
  ev : ∀ u ∈ A.sh.evs, u.oneCell' = true
structure AuR2 (w0 w1 W : World) (ab cb n n2 m m2 : Nat) (A C : AuP) : Prop where
  grew : Grew w0 W
  size : w0.heap.size ≤ w1.heap.size ∧ w1.heap.size ≤ W.heap.size
  ex : ∃ L, (∀ j, j < w0.heap.size → L j = 0) ∧ (∀ j, j < w1.heap.size → L j ≤ 200) ∧ AuAt W L 1 ab n A ∧ AuAt W L 201 cb n2 C
  ok : AuOk A m
  ev : ∀ u ∈ A.sh.evs, u.oneCell' = true
  ok2 : AuOk C m2
  ev2 : ∀ u ∈ C.sh.evs, u.oneCell' = true
section
variable {w0 w1 W U : World} {ab cb n n2 m m2 : Nat} {A C : AuP}
theorem AuR.more (h : AuR w0 W ab n m A) (g : Grew W U) : AuR w0 U ab n m A := by
  obtain ⟨L, h1, h2, h3⟩ := h.ex
  exact ⟨h.grew.trans g, ⟨L, h1, h2, h3.grew g⟩, h.ok, h.ev⟩
theorem AuR2.more (h : AuR2 w0 w1 W ab cb n n2 m m2 A C) (g : Grew W U) : AuR2 w0 w1 U ab cb n n2 m m2 A C := by
  obtain ⟨L, h1, hl, h2, h3⟩ := h.ex
  exact ⟨h.grew.trans g, ⟨h.size.1, Nat.le_trans h.size.2 g.size⟩, ⟨L, h1, hl, h2.grew g, h3.grew g⟩, h.ok, h.ev, h.ok2, h.ev2⟩
theorem AuR2.two (h : AuR2 w0 w1 W ab cb n n2 m m2 A C) : ∃ L, AuAt W L 1 ab n A ∧ AuAt W L 201 cb n2 C := by
  obtain ⟨L, h1, _, h2, h3⟩ := h.ex
  exact ⟨L, h2, h3⟩
theorem AuR.apply (E : Nat → Addr) (hE : Errs auS E w0) (h : AuR w0 W ab n m A) (gU : Grew W U) (hm : m ≤ 119) (hn : n ≤ 90000) (e : En) (hA : EnAt w0 e) (hz : EnSz e) (hkz : e.key.size ≤ 300) (at' : Int) :
    Calls Tryz.prog 11 #[.pointer (some ⟨ab, 0, none⟩), e.agg, .int .i64 at'] U fun r w' => r = .returned (errOf E (Pl.applyA A e at').1) ∧ AuR w0 w' ab (n + 5) (m + 1) (Pl.applyA A e at').2 := by
  obtain ⟨L, h1, hl, h2⟩ := h.ex
  refine (h2.apply E hE h.grew gU (fun j hj => by rw [h1 j hj]; omega) h.ok (by omega) hn e hA hz hkz at').mono ?_
  rintro r w' ⟨rfl, g, hO, L', h3, h4, h5⟩
  refine ⟨rfl, g, ⟨L', fun j hj => (h3 j (Nat.lt_of_lt_of_le hj h.grew.size)).trans (h1 j hj), fun j => ?_, h5⟩, Pl.auOk_apply h.ok h2.srt e at', Pl.evs_apply h.ev e at'⟩
  rcases Nat.lt_or_ge j W.heap.size with q | q
  · rw [h3 j q]; exact hl j
  · have := h4 j q; unfold Kin at this; omega
theorem AuR.copy (h : AuR w0 W ab n m A) (gU : Grew W U) (hm : m ≤ 120) (hn : n ≤ 90000) :
    Calls Tryz.prog 14 #[.pointer (some ⟨ab, 0, none⟩)] U fun e w' => ∃ cb, e = .returned (.pointer (some ⟨cb, 0, none⟩)) ∧ Grew U w' ∧ AuR2 w0 U w' ab cb n n m m A A := by
  obtain ⟨L, h1, hl, h2⟩ := (h.more gU).ex
  have g0 := h.grew.trans gU
  refine (copyA_any h2 (h.ok.len hm) h.ok.inv.pos (by have := h.ok.inv.len; omega) h.ev (by have := h.ok.inv.few; omega) (by omega) 201).mono ?_
  rintro e w' ⟨cb, rfl, g, L', h3, h4, h5⟩
  exact ⟨cb, rfl, g, g0.trans g, ⟨g0.size, g.size⟩, ⟨L', fun j hj => (h3 j (Nat.lt_of_lt_of_le hj g0.size)).trans (h1 j hj), fun j hj => by rw [h3 j hj]; exact hl j, h2.kept (g.only fun _ => False) (fun _ _ h => h.elim) h3, h5⟩, h.ok, h.ev, h.ok, h.ev⟩
end
end Go.Proofs.YtbdagllflamabaaGreatDoor
