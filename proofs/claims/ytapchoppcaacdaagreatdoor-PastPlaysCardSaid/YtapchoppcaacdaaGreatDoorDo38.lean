/- Do38, Do38b: one text. -/
import Derived.Test.YtapchoppcaacdaaGreatDoorRef38
import Derived.Test.YtapchoppcaacdaaGreatDoorTw38
import Derived.Test.YtapchoppcaacdaaGreatDoorPlay38
import Derived.Test.YtapchoppcaacdaaGreatDoorSamP
/- The walk of tidewaterlaw38.do (printed by gen_do38.py). -/
set_option linter.unusedVariables false
set_option linter.unusedSimpArgs false
namespace Go.Proofs.YtapchoppcaacdaaGreatDoor
open Go.RowKit Go.Maps Go.Sort
attribute [local go_sem] Oper.semAt_some

/-- The program's past and the document's, apart from each other, from all that lay in w0, and from the blocks of B. -/
def TwoX (w0 W : World) (pb wb n : Nat) (K : ByteArray → List Ch) (A : List Ch) (fl : Int) (B : Nat → Obj → Prop) : Prop :=
  Grew w0 W ∧ (∀ j o, B j o → W.heap[j]? = some o) ∧ ∃ F G, PastAt W F pb n K fl ∧ RefAt W G wb A fl ∧ (∀ j, F j → w0.heap.size ≤ j ∧ ∀ o, ¬ B j o) ∧ (∀ j, G j → w0.heap.size ≤ j ∧ ∀ o, ¬ B j o) ∧ ∀ j, F j → ¬ G j
section
variable {w0 W W' : World} {pb wb n : Nat} {B : Nat → Obj → Prop} {K : ByteArray → List Ch} {A : List Ch} {fl : Int}
theorem TwoX.grew (h : TwoX w0 W pb wb n K A fl B) (g : Grew W W') : TwoX w0 W' pb wb n K A fl B := by
  obtain ⟨h0, hb, F, G, h1, h2, h3⟩ := h
  exact ⟨h0.trans g, fun j o hj => (g.block j (Array.getElem?_eq_some_iff.1 (hb j o hj)).1).trans (hb j o hj), F, G, h1.grew g, h2.grew g, h3⟩
theorem TwoX.box (h : TwoX w0 W pb wb n K A fl B) {b2 : Nat} {ob : Obj} (h1 : W.heap.size ≤ b2) (h2 : W'.heap[b2]? = some ob) (g : Grew W W') : TwoX w0 W' pb wb n K A fl (fun j o => B j o ∨ (j = b2 ∧ o = ob)) := by
  obtain ⟨h0, hb, F, G, p1, p2, p3, p4, p5⟩ := h
  refine ⟨h0.trans g, fun j o hj => ?_, F, G, p1.grew g, p2.grew g, fun j hj => ⟨(p3 j hj).1, ?_⟩, fun j hj => ⟨(p4 j hj).1, ?_⟩, p5⟩
  · rcases hj with hj | ⟨rfl, rfl⟩
    · exact (g.block j (Array.getElem?_eq_some_iff.1 (hb j o hj)).1).trans (hb j o hj)
    · exact h2
  · rintro o (h | ⟨rfl, rfl⟩)
    · exact (p3 j hj).2 o h
    · have := p1.2 _ hj; omega
  · rintro o (h | ⟨rfl, rfl⟩)
    · exact (p4 j hj).2 o h
    · have := p2.lt _ hj; omega
theorem TwoX.less {B' : Nat → Obj → Prop} (h : TwoX w0 W pb wb n K A fl B') (hB : ∀ j o, B j o → B' j o) : TwoX w0 W pb wb n K A fl B := by
  obtain ⟨h0, hb, F, G, p1, p2, p3, p4, p5⟩ := h
  exact ⟨h0, fun j o hj => hb j o (hB j o hj), F, G, p1, p2, fun j hj => ⟨(p3 j hj).1, fun o h => (p3 j hj).2 o (hB j o h)⟩, fun j hj => ⟨(p4 j hj).1, fun o h => (p4 j hj).2 o (hB j o h)⟩, p5⟩
theorem TwoX.mono (h : TwoX w0 W pb wb n K A fl B) {m : Nat} (hm : n ≤ m) : TwoX w0 W pb wb m K A fl B := by
  obtain ⟨h0, hb, F, G, h1, h2, h3⟩ := h
  exact ⟨h0, hb, F, G, h1.mono hm, h2, h3⟩
theorem TwoX.left (h : TwoX w0 W pb wb n K A fl B) : ∃ F, PastAt W F pb n K fl ∧ (∀ j o, B j o → ¬ F j) ∧ (∀ j, F j → w0.heap.size ≤ j) ∧ ∀ (W1 W' : World) (n' : Nat) (K' : ByteArray → List Ch) (fl' : Int), Grew W W1 → PastTurn W1 F pb n' K' fl' W' → ∃ F' G, Grew w0 W' ∧ (∀ j o, B j o → W'.heap[j]? = some o) ∧ PastAt W' F' pb n' K' fl' ∧ RefAt W' G wb A fl ∧ (∀ j, F' j → w0.heap.size ≤ j ∧ ∀ o, ¬ B j o) ∧ (∀ j, G j → w0.heap.size ≤ j ∧ ∀ o, ¬ B j o) ∧ ∀ j, F' j → ¬ G j := by
  obtain ⟨h0, hb, F, G, h1, h2, h3, h4, h5⟩ := h
  refine ⟨F, h1, fun j o hj hf => (h3 j hf).2 o hj, fun j hj => (h3 j hj).1, fun W1 W' n' K' fl' g ⟨ho, F', hp, hF'⟩ => ⟨F', G, ?_, ?_, hp, (h2.grew g).kept ho (fun j hj hf => h5 j hf hj), ?_, h4, ?_⟩⟩
  · exact (((h0.trans g).only _).then ho).grew fun j hj => (h3 j hj).1
  · intro j o hj
    have hlt := (Array.getElem?_eq_some_iff.1 (hb j o hj)).1
    exact (ho.block j (Nat.lt_of_lt_of_le hlt g.size) (fun hf => (h3 j hf).2 o hj)).trans ((g.block j hlt).trans (hb j o hj))
  · intro j hj
    rcases hF' j hj with h | h
    · exact h3 j h
    · have h6 := (h0.trans g).size; have h7 := g.size; exact ⟨by omega, fun o h => by have := (Array.getElem?_eq_some_iff.1 (hb j o h)).1; omega⟩
  · intro j hj hG
    rcases hF' j hj with h | h
    · exact h5 j h hG
    · have := (h2.grew g).lt j hG; omega
end
/-- .. where the floors differ for a moment: the program's past has been called, the document's not yet. -/
def TwoM (w0 W : World) (pb wb n : Nat) (K : ByteArray → List Ch) (fl' : Int) (A : List Ch) (fl : Int) (B : Nat → Obj → Prop) : Prop :=
  ∃ F' G, Grew w0 W ∧ (∀ j o, B j o → W.heap[j]? = some o) ∧ PastAt W F' pb n K fl' ∧ RefAt W G wb A fl ∧ (∀ j, F' j → w0.heap.size ≤ j ∧ ∀ o, ¬ B j o) ∧ (∀ j, G j → w0.heap.size ≤ j ∧ ∀ o, ¬ B j o) ∧ ∀ j, F' j → ¬ G j
theorem TwoM.grew {w0 W W' : World} {pb wb n : Nat} {B : Nat → Obj → Prop} {K : ByteArray → List Ch} {A : List Ch} {fl fl' : Int} (h : TwoM w0 W pb wb n K fl' A fl B) (g : Grew W W') : TwoM w0 W' pb wb n K fl' A fl B := by
  obtain ⟨F, G, h0, hb, h1, h2, h3⟩ := h
  exact ⟨F, G, h0.trans g, fun j o hj => (g.block j (Array.getElem?_eq_some_iff.1 (hb j o hj)).1).trans (hb j o hj), h1.grew g, h2.grew g, h3⟩
theorem TwoM.right {w0 W : World} {pb wb n : Nat} {B : Nat → Obj → Prop} {K : ByteArray → List Ch} {A : List Ch} {fl fl' : Int} (h : TwoM w0 W pb wb n K fl' A fl B) : ∃ G, RefAt W G wb A fl ∧ ∀ (W' : World) (A' : List Ch), RefTurn W G wb A' fl' W' → TwoX w0 W' pb wb n K A' fl' B := by
  obtain ⟨F, G, h0, hb, h1, h2, h3, h4, h5⟩ := h
  refine ⟨G, h2, fun W' A' ⟨ho, G', hp, hG'⟩ => ⟨?_, ?_, F, G', h1.kept ho (fun j hf hg => h5 j hf hg), hp, h3, ?_, ?_⟩⟩
  · exact ((h0.only _).then ho).grew fun j hj => (h4 j hj).1
  · intro j o hj
    have hlt := (Array.getElem?_eq_some_iff.1 (hb j o hj)).1
    exact (ho.block j hlt (fun hf => (h4 j hf).2 o hj)).trans (hb j o hj)
  · intro j hj
    rcases hG' j hj with h | h
    · exact h4 j h
    · have := h0.size; exact ⟨by omega, fun o h => by have := (Array.getElem?_eq_some_iff.1 (hb j o h)).1; omega⟩
  · intro j hF hj
    rcases hG' j hj with h | h
    · exact h5 j hF h
    · have := h1.2 j hF; omega

/-- The region's loose operations: a is the call that turns the past (R holds behind it), b the question behind it. -/
structure JB (Y : World) (F : Nat → Prop) (a b : Nat) (R : World → Prop) (va vb : Value) (L : Nat → Bool) (f : Nat → Value) (x : World) : Prop where
  ord : L b = true → L a = true
  grew : L a = false → Grew Y x
  only : Only F Y x
  past : L a = true → R x
  fa : L a = true → f a = va
  fb : L b = true → f b = vb
section
variable {Y x x' : World} {F : Nat → Prop} {a b : Nat} {R : World → Prop} {va vb : Value} {L : Nat → Bool} {f : Nat → Value}
theorem JB.start (Y : World) : JB Y F a b R va vb (fun _ => false) f Y.drew := ⟨fun h => (by cases h), fun _ => (Grew.refl Y).drew, (Grew.refl Y).drew.only _, fun h => (by cases h), fun h => (by cases h), fun h => (by cases h)⟩
theorem JB.sa (hab : b ≠ a) (h : JB Y F a b R va vb L f x) (hL : L a = false) (hR : R x') (ho : Only F x x') : JB Y F a b R va vb (plus L a) (updV f a va) x' := by
  have hb : L b = false := by cases hl : L b with | false => rfl | true => rw [h.ord hl] at hL; cases hL
  have hp : plus L a b = false := by simp only [plus, if_neg hab]; exact hb
  refine ⟨fun hl => ?_, fun hl => ?_, h.only.then ho, fun _ => hR, fun _ => updV_same _ _ _, fun hl => ?_⟩
  · rw [hp] at hl; cases hl
  · simp [plus] at hl
  · rw [hp] at hl; cases hl
theorem JB.sb (hab : b ≠ a) (h : JB Y F a b R va vb L f x) (ha : L a = true) (g : Grew x x') (hR : R x') : JB Y F a b R va vb (plus L b) (updV f b vb) x' := by
  have hp : plus L b a = true := by simp only [plus, if_neg (Ne.symm hab)]; exact ha
  refine ⟨fun _ => hp, fun hl => ?_, h.only.grewT g, fun _ => hR, fun _ => ?_, fun _ => updV_same _ _ _⟩
  · rw [hp] at hl; cases hl
  · rw [updV_ne (Ne.symm hab)]; exact h.fa ha
end

theorem getF_any (E : Nat → Addr) {w : World} (hE : Errs allS E w) {F : Nat → Prop} {pb n : Nat} {K : ByteArray → List Ch} {fl : Int} (h : PastAt w F pb n K fl) (hn : n ≤ 1000000) (key : ByteArray) (hk2 : key.size ≤ 140737488351232) (v : Int) :
    Calls Tryz.prog 32 #[.pointer (some ⟨pb, 0, none⟩), .string key, .int .i64 v] w fun e w' => e = .returned (.tuple #[((Pl.getC K key fl v).getD Ch.none).pair, .bool (Pl.getC K key fl v).isSome, errOf E (Pl.getE key fl v)]) ∧ Grew w w' := by
  obtain ⟨⟨mb, f, h⟩, _⟩ := h
  exact get_any allS E rfl rfl rfl rfl rfl hE h hn key (by unfold maxLen; omega) hk2 v

/-- The values of an act. -/
def Act38.vals (a : Act38) : Array Value := #[.int .i64 a.kind, .int .i64 a.ver, .string a.key, .string a.val, .string a.lo, .string a.hi]
def Act38.agg (a : Act38) : Value := .agg a.vals
structure Small38 (a : Act38) : Prop where
  key : a.key.size ≤ 300
  val : a.val.size ≤ 300
  lo : a.lo.size ≤ 300
  hi : a.hi.size ≤ 300
namespace Pl
/-- What an act leaves. -/
noncomputable def stepK (K : ByteArray → List Ch) (fl : Int) (a : Act38) : ByteArray → List Ch := if a.kind = 0 then noteK K fl ⟨a.key, a.val, a.ver, true⟩ else if a.kind = 1 then noteK K fl ⟨a.key, ⟨#[]⟩, a.ver, false⟩ else if a.kind = 2 then trimK K fl a.ver else K
noncomputable def stepA (A : List Ch) (fl : Int) (a : Act38) : List Ch := if a.kind = 0 then (if noteE (histL A fl) fl ⟨a.key, a.val, a.ver, true⟩ = 0 then A ++ [⟨a.key, a.val, a.ver, true⟩] else A) else if a.kind = 1 then (if noteE (histL A fl) fl ⟨a.key, ⟨#[]⟩, a.ver, false⟩ = 0 then A ++ [⟨a.key, ⟨#[]⟩, a.ver, false⟩] else A) else A
def stepF (fl : Int) (a : Act38) : Int := if a.kind = 2 then trimF fl a.ver else fl
theorem Tw.step {A : List Ch} {fl : Int} {K : ByteArray → List Ch} (h : Tw A fl K) {a : Act38} (ha : Small38 a) : Tw (stepA A fl a) (stepF fl a) (stepK K fl a) := by
  unfold stepA stepF stepK
  by_cases h0 : a.kind = 0
  · rw [if_pos h0, if_pos h0, if_neg (show ¬ a.kind = 2 by omega)]
    exact h.noted (c := ⟨a.key, a.val, a.ver, true⟩) (fun h => by cases h) ha.key
  · rw [if_neg h0, if_neg h0]
    by_cases h1 : a.kind = 1
    · rw [if_pos h1, if_pos h1, if_neg (show ¬ a.kind = 2 by omega)]
      exact h.noted (c := ⟨a.key, ⟨#[]⟩, a.ver, false⟩) (fun _ => rfl) ha.key
    · rw [if_neg h1, if_neg h1]
      by_cases h2 : a.kind = 2
      · rw [if_pos h2, if_pos h2]; exact h.trim _
      · rw [if_neg h2, if_neg h2]; exact h
theorem stepA_len (A : List Ch) (fl : Int) (a : Act38) : (stepA A fl a).length ≤ A.length + 1 := by
  unfold stepA
  split
  · split <;> simp
  · split
    · split <;> simp
    · omega
theorem noteE_le (K : ByteArray → List Ch) (fl : Int) (c : Ch) : noteE K fl c ≤ 19 := by
  unfold noteE
  have := keyN_vals c.key
  split
  · omega
  · split
    · omega
    · split
      · omega
      · split <;> omega
theorem getE_le (k : ByteArray) (fl v : Int) : getE k fl v ≤ 19 := by
  unfold getE
  have := keyN_vals k
  split
  · omega
  · split <;> omega
theorem trimE_le (to : Int) : trimE to ≤ 19 := by unfold trimE; split <;> omega
theorem scanE_le (lo hi : ByteArray) (fl v : Int) : scanE lo hi fl v ≤ 19 := by
  unfold scanE
  split
  · omega
  · split <;> omega
end Pl

set_option maxRecDepth 100000 in
set_option maxHeartbeats 4000000 in
theorem do38_put (E : Nat → Addr) {w0 w : World} (hE : Errs allS E w0) {pb wb n : Nat} {B : Nat → Obj → Prop} {K : ByteArray → List Ch} {A : List Ch} {fl : Int} (h : TwoX w0 w pb wb n K A fl B) (hT : Pl.Tw A fl K) (hn : n ≤ 1000) (hA : A.length ≤ 1000) (c : Act38) (hs : Small38 c) (hk : c.kind = 0) :
    Calls Tryz.prog 9 #[.pointer (some ⟨pb, 0, none⟩), .pointer (some ⟨wb, 0, none⟩), c.agg] w fun e w' => e = .returned (.bool true) ∧ TwoX w0 w' pb wb (n + 1) (Pl.stepK K fl c) (Pl.stepA A fl c) (Pl.stepF fl c) B := by
  have HE := hid hE
  have HTW := hid hT
  have HSM := hid hs
  obtain ⟨ak, av, akey, aval, alo, ahi⟩ := c
  have sk := hs.key
  have sv := hs.val
  have sl := hs.lo
  have sh := hs.hi
  unfold Act38.agg Act38.vals
  dsimp only at *
  obtain ⟨B2, hBl, ⟨ob, hB2⟩, hW⟩ : ∃ B2 : Nat → Obj → Prop, (∀ j o, B j o → B2 j o) ∧ (∃ ob, B2 w.heap.size ob) ∧ TwoX w0 (w.alloc (.cells #[.int .i64 ak, .int .i64 av, .string akey, .string aval, .string alo, .string ahi] 34)) pb wb n K A fl B2 := ⟨_, fun j o h => .inl h, ⟨_, .inr ⟨rfl, rfl⟩⟩, h.box (Nat.le_refl _) (heap_alloc_new w _) ((Grew.refl w).alloc _)⟩
  have HT0 := hid hW
  have HBL := hid hBl
  have HB2 := hid hB2
  clear hs h hW hBl hB2
  subst hk
  have HCK : Hid (Pl.stepK K fl ⟨0, av, akey, aval, alo, ahi⟩ = Pl.noteK K fl ⟨akey, aval, av, true⟩) := rfl
  have HCA : Hid (Pl.stepA A fl ⟨0, av, akey, aval, alo, ahi⟩ = if Pl.noteE (Pl.histL A fl) fl ⟨akey, aval, av, true⟩ = 0 then A ++ [⟨akey, aval, av, true⟩] else A) := rfl
  have HCF : Hid (Pl.stepF fl ⟨0, av, akey, aval, alo, ahi⟩ = fl) := rfl
  clear hE hT
  go_enter Tryz.func9, Tryz.ntmps9
  go_wp2_with fail
  generalize hYY : World.alloc w _ = Y at HT0 ⊢
  have c0 : Y.cell? ⟨w.heap.size, 0, none⟩ = some (.int .i64 0) := by rw [← hYY]; simp [go_sem]
  have c1 : Y.cell? ⟨w.heap.size, 1, none⟩ = some (.int .i64 av) := by rw [← hYY]; simp [go_sem]
  have c2 : Y.cell? ⟨w.heap.size, 2, none⟩ = some (.string akey) := by rw [← hYY]; simp [go_sem]
  have c3 : Y.cell? ⟨w.heap.size, 3, none⟩ = some (.string aval) := by rw [← hYY]; simp [go_sem]
  clear hYY
  obtain ⟨F, hP, hFb', hFl, hgo⟩ := HT0.out.left
  have hFb := hFb' w.heap.size ob HB2.out
  have HP := hid hP
  have HGO := hid hgo
  have HEY := hid (HE.out.grew HT0.out.1)
  have hle : (Pl.noteE K fl ⟨akey, aval, av, true⟩) ≤ 19 := Pl.noteE_le _ _ _
  have X1 := wd_only (S := F) (w := Y) c1 hFb
  have X2 := wd_only (S := F) (w := Y) c2 hFb
  have X3 := wd_only (S := F) (w := Y) c3 hFb
  clear hP hgo
  refine wp_region_mix 18 [7, 8] (Only F Y) Eq (JB Y F 7 8 (fun x => TwoM w0 x pb wb (n + 1) (Pl.noteK K fl ⟨akey, aval, av, true⟩) (fl) A fl B2) (errOf E (Pl.noteE K fl ⟨akey, aval, av, true⟩)) (.int .i64 ((Pl.noteE K fl ⟨akey, aval, av, true⟩) : Nat))) (fun f a => (a.put (some 28) (f 7)).put (some 29) (f 8)) (by kernel_rfl) (by kernel_rfl) (fun _ _ => rfl) (JB.start Y) (fun L f x h => h.only) (fun _ => rfl) (fun _ _ _ _ h g => g ▸ h) ?_
  repeat (first
    | (refine wpMix_loose (by rfl) (by rfl) ?_)
    | (refine wpMix_plain (by rfl) (by rfl) (by rfl) (by first | exact Grew.refl | exact fun _ => rfl) (by rfl) ?_; intro K hK; go_big_quiet_op; go_big_quiet_on)
    | (refine wpMix_skip (by rfl) (by rfl) (by rfl) ?_; simp only [Act.put, List.setIfInBounds_toArray, List.set_cons_zero, List.set_cons_succ]))
  refine wpMix_done (by rfl) ⟨⟨loose_of rfl (fun _ a => a) (fun _ _ => rfl) (fun _ => rfl) ?_, loose_of rfl (fun f a => a.put (some 28) (f 7)) (fun _ _ => rfl) (fun _ => rfl) ?_, trivial⟩, ?_⟩
  · intro L f x hJ hL hd
    clear X1 X2 X3
    have HJ := hid hJ
    have HL := hid hL
    have hG := hJ.grew hL
    clear hJ hL
    go_simp
    refine (put_any allS E noteS_all (HEY.out.grew hG) (HP.out.grew hG) (by omega) akey aval av (by omega) (by omega)).mono ?_
    rintro e x' ⟨rfl, hT⟩
    exact ⟨_, rfl, HJ.out.sa (by decide) HL.out (HGO.out x x' _ _ _ hG hT) hT.1⟩
  · intro L f x hJ hL hd
    clear X1 X2 X3
    have la := hd 7 rfl (by decide)
    have HJ := hid hJ
    have HLA := hid la
    have hfa := hJ.fa la
    have hR := hJ.past la
    clear hJ hL la hd
    rw [hfa]
    go_simp
    have hGx : Grew w0 x := by obtain ⟨_, _, h0, _⟩ := hR; exact h0
    refine (num_all E (Pl.noteE K fl ⟨akey, aval, av, true⟩) hle x (HE.out.grew hGx)).mono ?_
    rintro e x' ⟨rfl, hg⟩
    exact ⟨_, rfl, HJ.out.sb (by decide) HLA.out hg (hR.grew hg)⟩
  rintro f x hJ
  have hR := hJ.past rfl
  have hfa := hJ.fa rfl
  have hfb := hJ.fb rfl
  have x0 := (hJ.only.cell (cell_lt c0) hFb 0).trans c0
  have x1 := (hJ.only.cell (cell_lt c0) hFb 1).trans c1
  have x2 := (hJ.only.cell (cell_lt c0) hFb 2).trans c2
  have x3 := (hJ.only.cell (cell_lt c0) hFb 3).trans c3
  have hzx : w.heap.size < x.heap.size := cell_lt x0
  rw [hfa, hfb]
  obtain ⟨G, hRef, hdone⟩ := hR.right
  have HD := hid hdone
  have HRF := hid hRef
  clear hJ hfa hfb hR hdone hRef X1 X2 X3
  dsimp only [List.drop]
  go_wp2_with fail
  refine ((note38_any HRF.out (by omega) ⟨akey, aval, av, true⟩ (by dsimp only; omega) (by dsimp only; omega))).mono ?_
  rintro e x' ⟨rfl, hT⟩
  have HF := hid (HD.out x' _ hT)
  clear hT
  go_wp2_with fail
  go_ret
  exact ⟨by rw [← HTW.out.hist]; simp, by rw [HCK.out, HCA.out, HCF.out]; exact (HF.out).less HBL.out⟩

set_option maxRecDepth 100000 in
set_option maxHeartbeats 4000000 in
theorem do38_del (E : Nat → Addr) {w0 w : World} (hE : Errs allS E w0) {pb wb n : Nat} {B : Nat → Obj → Prop} {K : ByteArray → List Ch} {A : List Ch} {fl : Int} (h : TwoX w0 w pb wb n K A fl B) (hT : Pl.Tw A fl K) (hn : n ≤ 1000) (hA : A.length ≤ 1000) (c : Act38) (hs : Small38 c) (hk : c.kind = 1) :
    Calls Tryz.prog 9 #[.pointer (some ⟨pb, 0, none⟩), .pointer (some ⟨wb, 0, none⟩), c.agg] w fun e w' => e = .returned (.bool true) ∧ TwoX w0 w' pb wb (n + 1) (Pl.stepK K fl c) (Pl.stepA A fl c) (Pl.stepF fl c) B := by
  have HE := hid hE
  have HTW := hid hT
  have HSM := hid hs
  obtain ⟨ak, av, akey, aval, alo, ahi⟩ := c
  have sk := hs.key
  have sv := hs.val
  have sl := hs.lo
  have sh := hs.hi
  unfold Act38.agg Act38.vals
  dsimp only at *
  obtain ⟨B2, hBl, ⟨ob, hB2⟩, hW⟩ : ∃ B2 : Nat → Obj → Prop, (∀ j o, B j o → B2 j o) ∧ (∃ ob, B2 w.heap.size ob) ∧ TwoX w0 (w.alloc (.cells #[.int .i64 ak, .int .i64 av, .string akey, .string aval, .string alo, .string ahi] 34)) pb wb n K A fl B2 := ⟨_, fun j o h => .inl h, ⟨_, .inr ⟨rfl, rfl⟩⟩, h.box (Nat.le_refl _) (heap_alloc_new w _) ((Grew.refl w).alloc _)⟩
  have HT0 := hid hW
  have HBL := hid hBl
  have HB2 := hid hB2
  clear hs h hW hBl hB2
  subst hk
  have HCK : Hid (Pl.stepK K fl ⟨1, av, akey, aval, alo, ahi⟩ = Pl.noteK K fl ⟨akey, ⟨#[]⟩, av, false⟩) := rfl
  have HCA : Hid (Pl.stepA A fl ⟨1, av, akey, aval, alo, ahi⟩ = if Pl.noteE (Pl.histL A fl) fl ⟨akey, ⟨#[]⟩, av, false⟩ = 0 then A ++ [⟨akey, ⟨#[]⟩, av, false⟩] else A) := rfl
  have HCF : Hid (Pl.stepF fl ⟨1, av, akey, aval, alo, ahi⟩ = fl) := rfl
  clear hE hT
  go_enter Tryz.func9, Tryz.ntmps9
  go_wp2_with fail
  generalize hYY : World.alloc w _ = Y at HT0 ⊢
  have c0 : Y.cell? ⟨w.heap.size, 0, none⟩ = some (.int .i64 1) := by rw [← hYY]; simp [go_sem]
  have c1 : Y.cell? ⟨w.heap.size, 1, none⟩ = some (.int .i64 av) := by rw [← hYY]; simp [go_sem]
  have c2 : Y.cell? ⟨w.heap.size, 2, none⟩ = some (.string akey) := by rw [← hYY]; simp [go_sem]
  have c3 : Y.cell? ⟨w.heap.size, 3, none⟩ = some (.string aval) := by rw [← hYY]; simp [go_sem]
  clear hYY
  obtain ⟨F, hP, hFb', hFl, hgo⟩ := HT0.out.left
  have hFb := hFb' w.heap.size ob HB2.out
  have HP := hid hP
  have HGO := hid hgo
  have HEY := hid (HE.out.grew HT0.out.1)
  have hle : (Pl.noteE K fl ⟨akey, ⟨#[]⟩, av, false⟩) ≤ 19 := Pl.noteE_le _ _ _
  have X1 := wd_only (S := F) (w := Y) c1 hFb
  have X2 := wd_only (S := F) (w := Y) c2 hFb
  clear hP hgo
  refine wp_region_mix 14 [5, 6] (Only F Y) Eq (JB Y F 5 6 (fun x => TwoM w0 x pb wb (n + 1) (Pl.noteK K fl ⟨akey, ⟨#[]⟩, av, false⟩) (fl) A fl B2) (errOf E (Pl.noteE K fl ⟨akey, ⟨#[]⟩, av, false⟩)) (.int .i64 ((Pl.noteE K fl ⟨akey, ⟨#[]⟩, av, false⟩) : Nat))) (fun f a => (a.put (some 48) (f 5)).put (some 49) (f 6)) (by kernel_rfl) (by kernel_rfl) (fun _ _ => rfl) (JB.start Y) (fun L f x h => h.only) (fun _ => rfl) (fun _ _ _ _ h g => g ▸ h) ?_
  repeat (first
    | (refine wpMix_loose (by rfl) (by rfl) ?_)
    | (refine wpMix_plain (by rfl) (by rfl) (by rfl) (by first | exact Grew.refl | exact fun _ => rfl) (by rfl) ?_; intro K hK; go_big_quiet_op; go_big_quiet_on)
    | (refine wpMix_skip (by rfl) (by rfl) (by rfl) ?_; simp only [Act.put, List.setIfInBounds_toArray, List.set_cons_zero, List.set_cons_succ]))
  refine wpMix_done (by rfl) ⟨⟨loose_of rfl (fun _ a => a) (fun _ _ => rfl) (fun _ => rfl) ?_, loose_of rfl (fun f a => a.put (some 48) (f 5)) (fun _ _ => rfl) (fun _ => rfl) ?_, trivial⟩, ?_⟩
  · intro L f x hJ hL hd
    clear X1 X2
    have HJ := hid hJ
    have HL := hid hL
    have hG := hJ.grew hL
    clear hJ hL
    go_simp
    refine (del_any allS E noteS_all (HEY.out.grew hG) (HP.out.grew hG) (by omega) akey av (by omega)).mono ?_
    rintro e x' ⟨rfl, hT⟩
    exact ⟨_, rfl, HJ.out.sa (by decide) HL.out (HGO.out x x' _ _ _ hG hT) hT.1⟩
  · intro L f x hJ hL hd
    clear X1 X2
    have la := hd 5 rfl (by decide)
    have HJ := hid hJ
    have HLA := hid la
    have hfa := hJ.fa la
    have hR := hJ.past la
    clear hJ hL la hd
    rw [hfa]
    go_simp
    have hGx : Grew w0 x := by obtain ⟨_, _, h0, _⟩ := hR; exact h0
    refine (num_all E (Pl.noteE K fl ⟨akey, ⟨#[]⟩, av, false⟩) hle x (HE.out.grew hGx)).mono ?_
    rintro e x' ⟨rfl, hg⟩
    exact ⟨_, rfl, HJ.out.sb (by decide) HLA.out hg (hR.grew hg)⟩
  rintro f x hJ
  have hR := hJ.past rfl
  have hfa := hJ.fa rfl
  have hfb := hJ.fb rfl
  have x0 := (hJ.only.cell (cell_lt c0) hFb 0).trans c0
  have x1 := (hJ.only.cell (cell_lt c0) hFb 1).trans c1
  have x2 := (hJ.only.cell (cell_lt c0) hFb 2).trans c2
  have x3 := (hJ.only.cell (cell_lt c0) hFb 3).trans c3
  have hzx : w.heap.size < x.heap.size := cell_lt x0
  rw [hfa, hfb]
  obtain ⟨G, hRef, hdone⟩ := hR.right
  have HD := hid hdone
  have HRF := hid hRef
  clear hJ hfa hfb hR hdone hRef X1 X2
  dsimp only [List.drop]
  go_wp2_with fail
  refine ((note38_any HRF.out (by omega) ⟨akey, ⟨#[]⟩, av, false⟩ (by dsimp only; omega) (by dsimp only; decide))).mono ?_
  rintro e x' ⟨rfl, hT⟩
  have HF := hid (HD.out x' _ hT)
  clear hT
  go_wp2_with fail
  go_ret
  exact ⟨by rw [← HTW.out.hist]; simp, by rw [HCK.out, HCA.out, HCF.out]; exact (HF.out).less HBL.out⟩

set_option maxRecDepth 100000 in
set_option maxHeartbeats 4000000 in
theorem do38_trim (E : Nat → Addr) {w0 w : World} (hE : Errs allS E w0) {pb wb n : Nat} {B : Nat → Obj → Prop} {K : ByteArray → List Ch} {A : List Ch} {fl : Int} (h : TwoX w0 w pb wb n K A fl B) (hT : Pl.Tw A fl K) (hn : n ≤ 1000) (hA : A.length ≤ 1000) (c : Act38) (hs : Small38 c) (hk : c.kind = 2) :
    Calls Tryz.prog 9 #[.pointer (some ⟨pb, 0, none⟩), .pointer (some ⟨wb, 0, none⟩), c.agg] w fun e w' => e = .returned (.bool true) ∧ TwoX w0 w' pb wb (n + 1) (Pl.stepK K fl c) (Pl.stepA A fl c) (Pl.stepF fl c) B := by
  have HE := hid hE
  have HTW := hid hT
  have HSM := hid hs
  obtain ⟨ak, av, akey, aval, alo, ahi⟩ := c
  have sk := hs.key
  have sv := hs.val
  have sl := hs.lo
  have sh := hs.hi
  unfold Act38.agg Act38.vals
  dsimp only at *
  obtain ⟨B2, hBl, ⟨ob, hB2⟩, hW⟩ : ∃ B2 : Nat → Obj → Prop, (∀ j o, B j o → B2 j o) ∧ (∃ ob, B2 w.heap.size ob) ∧ TwoX w0 (w.alloc (.cells #[.int .i64 ak, .int .i64 av, .string akey, .string aval, .string alo, .string ahi] 34)) pb wb n K A fl B2 := ⟨_, fun j o h => .inl h, ⟨_, .inr ⟨rfl, rfl⟩⟩, h.box (Nat.le_refl _) (heap_alloc_new w _) ((Grew.refl w).alloc _)⟩
  have HT0 := hid hW
  have HBL := hid hBl
  have HB2 := hid hB2
  clear hs h hW hBl hB2
  subst hk
  have HCK : Hid (Pl.stepK K fl ⟨2, av, akey, aval, alo, ahi⟩ = Pl.trimK K fl av) := rfl
  have HCA : Hid (Pl.stepA A fl ⟨2, av, akey, aval, alo, ahi⟩ = A) := rfl
  have HCF : Hid (Pl.stepF fl ⟨2, av, akey, aval, alo, ahi⟩ = Pl.trimF fl av) := rfl
  clear hE hT
  go_enter Tryz.func9, Tryz.ntmps9
  go_wp2_with fail
  generalize hYY : World.alloc w _ = Y at HT0 ⊢
  have c0 : Y.cell? ⟨w.heap.size, 0, none⟩ = some (.int .i64 2) := by rw [← hYY]; simp [go_sem]
  have c1 : Y.cell? ⟨w.heap.size, 1, none⟩ = some (.int .i64 av) := by rw [← hYY]; simp [go_sem]
  have c2 : Y.cell? ⟨w.heap.size, 2, none⟩ = some (.string akey) := by rw [← hYY]; simp [go_sem]
  have c3 : Y.cell? ⟨w.heap.size, 3, none⟩ = some (.string aval) := by rw [← hYY]; simp [go_sem]
  clear hYY
  obtain ⟨F, hP, hFb', hFl, hgo⟩ := HT0.out.left
  have hFb := hFb' w.heap.size ob HB2.out
  have HP := hid hP
  have HGO := hid hgo
  have HEY := hid (HE.out.grew HT0.out.1)
  have hle : (Pl.trimE av) ≤ 19 := Pl.trimE_le _
  have X1 := wd_only (S := F) (w := Y) c1 hFb
  clear hP hgo
  refine wp_region_mix 8 [3, 4] (Only F Y) Eq (JB Y F 3 4 (fun x => TwoM w0 x pb wb (n) (Pl.trimK K fl av) (Pl.trimF fl av) A fl B2) (errOf E (Pl.trimE av)) (.int .i64 ((Pl.trimE av) : Nat))) (fun f a => (a.put (some 64) (f 3)).put (some 65) (f 4)) (by kernel_rfl) (by kernel_rfl) (fun _ _ => rfl) (JB.start Y) (fun L f x h => h.only) (fun _ => rfl) (fun _ _ _ _ h g => g ▸ h) ?_
  repeat (first
    | (refine wpMix_loose (by rfl) (by rfl) ?_)
    | (refine wpMix_plain (by rfl) (by rfl) (by rfl) (by first | exact Grew.refl | exact fun _ => rfl) (by rfl) ?_; intro K hK; go_big_quiet_op; go_big_quiet_on)
    | (refine wpMix_skip (by rfl) (by rfl) (by rfl) ?_; simp only [Act.put, List.setIfInBounds_toArray, List.set_cons_zero, List.set_cons_succ]))
  refine wpMix_done (by rfl) ⟨⟨loose_of rfl (fun _ a => a) (fun _ _ => rfl) (fun _ => rfl) ?_, loose_of rfl (fun f a => a.put (some 64) (f 3)) (fun _ _ => rfl) (fun _ => rfl) ?_, trivial⟩, ?_⟩
  · intro L f x hJ hL hd
    clear X1
    have HJ := hid hJ
    have HL := hid hL
    have hG := hJ.grew hL
    clear hJ hL
    go_simp
    refine (trimP_any allS E rfl (HEY.out.grew hG) (HP.out.grew hG) (by omega) HTW.out.good av).mono ?_
    rintro e x' ⟨rfl, hT⟩
    exact ⟨_, rfl, HJ.out.sa (by decide) HL.out (HGO.out x x' _ _ _ hG hT) hT.1⟩
  · intro L f x hJ hL hd
    clear X1
    have la := hd 3 rfl (by decide)
    have HJ := hid hJ
    have HLA := hid la
    have hfa := hJ.fa la
    have hR := hJ.past la
    clear hJ hL la hd
    rw [hfa]
    go_simp
    have hGx : Grew w0 x := by obtain ⟨_, _, h0, _⟩ := hR; exact h0
    refine (num_all E (Pl.trimE av) hle x (HE.out.grew hGx)).mono ?_
    rintro e x' ⟨rfl, hg⟩
    exact ⟨_, rfl, HJ.out.sb (by decide) HLA.out hg (hR.grew hg)⟩
  rintro f x hJ
  have hR := hJ.past rfl
  have hfa := hJ.fa rfl
  have hfb := hJ.fb rfl
  have x0 := (hJ.only.cell (cell_lt c0) hFb 0).trans c0
  have x1 := (hJ.only.cell (cell_lt c0) hFb 1).trans c1
  have x2 := (hJ.only.cell (cell_lt c0) hFb 2).trans c2
  have x3 := (hJ.only.cell (cell_lt c0) hFb 3).trans c3
  have hzx : w.heap.size < x.heap.size := cell_lt x0
  rw [hfa, hfb]
  obtain ⟨G, hRef, hdone⟩ := hR.right
  have HD := hid hdone
  have HRF := hid hRef
  clear hJ hfa hfb hR hdone hRef X1
  dsimp only [List.drop]
  go_wp2_with fail
  refine ((trim38_any HRF.out av)).mono ?_
  rintro e x' ⟨rfl, hT⟩
  have HF := hid (HD.out x' _ hT)
  clear hT
  go_wp2_with fail
  go_ret
  exact ⟨by simp, by rw [HCK.out, HCA.out, HCF.out]; exact (HF.out.mono (Nat.le_succ n)).less HBL.out⟩

theorem get_agg (o : Option Ch) : ((o.map toPr).getD Pr.none).agg = (o.getD Ch.none).pair := by cases o <;> rfl

set_option maxRecDepth 100000 in
set_option maxHeartbeats 4000000 in
theorem do38_get (E : Nat → Addr) {w0 w : World} (hE : Errs allS E w0) {pb wb n : Nat} {B : Nat → Obj → Prop} {K : ByteArray → List Ch} {A : List Ch} {fl : Int} (h : TwoX w0 w pb wb n K A fl B) (hT : Pl.Tw A fl K) (hn : n ≤ 1000) (hA : A.length ≤ 1000) (c : Act38) (hs : Small38 c) (hk : c.kind = 3) :
    Calls Tryz.prog 9 #[.pointer (some ⟨pb, 0, none⟩), .pointer (some ⟨wb, 0, none⟩), c.agg] w fun e w' => e = .returned (.bool true) ∧ TwoX w0 w' pb wb (n + 1) (Pl.stepK K fl c) (Pl.stepA A fl c) (Pl.stepF fl c) B := by
  have HE := hid hE
  have HTW := hid hT
  have HSM := hid hs
  obtain ⟨ak, av, akey, aval, alo, ahi⟩ := c
  have sk := hs.key
  have sv := hs.val
  have sl := hs.lo
  have sh := hs.hi
  unfold Act38.agg Act38.vals
  dsimp only at *
  obtain ⟨B2, hBl, ⟨ob, hB2⟩, hW⟩ : ∃ B2 : Nat → Obj → Prop, (∀ j o, B j o → B2 j o) ∧ (∃ ob, B2 w.heap.size ob) ∧ TwoX w0 (w.alloc (.cells #[.int .i64 ak, .int .i64 av, .string akey, .string aval, .string alo, .string ahi] 34)) pb wb n K A fl B2 := ⟨_, fun j o h => .inl h, ⟨_, .inr ⟨rfl, rfl⟩⟩, h.box (Nat.le_refl _) (heap_alloc_new w _) ((Grew.refl w).alloc _)⟩
  have HT0 := hid hW
  have HBL := hid hBl
  have HB2 := hid hB2
  clear hs h hW hBl hB2
  subst hk
  have HCK : Hid (Pl.stepK K fl ⟨3, av, akey, aval, alo, ahi⟩ = K) := rfl
  have HCA : Hid (Pl.stepA A fl ⟨3, av, akey, aval, alo, ahi⟩ = A) := rfl
  have HCF : Hid (Pl.stepF fl ⟨3, av, akey, aval, alo, ahi⟩ = fl) := rfl
  have hle := Pl.getE_le akey fl av
  have HG1 := hid (fun W (g : TwoX w0 W pb wb n K A fl B2) => by
    obtain ⟨F, hP, _⟩ := g.left
    exact getF_any E (HE.out.grew g.1) hP (by omega) akey (by omega) av)
  have HG2 := hid (fun W (g : TwoX w0 W pb wb n K A fl B2) => by
    obtain ⟨_, _, F, G, _, hR, _⟩ := g
    exact get38_any hR.read (by omega) akey (by omega) av)
  simp only [HTW.out.get, get_agg, Option.isSome_map] at HG2
  have HNM := hid (fun W (g : Grew w0 W) => num_all E (Pl.getE akey fl av) hle W (HE.out.grew g))
  clear hE hT
  generalize (Pl.getC K akey fl av).getD Ch.none = cc at *
  generalize (Pl.getC K akey fl av).isSome = ib at *
  generalize Pl.getE akey fl av = ge at *
  obtain ⟨gk, gv, gn, gt⟩ := cc
  unfold Ch.pair at HG1 HG2
  dsimp only at HG1 HG2
  go_enter Tryz.func9, Tryz.ntmps9
  go_wp2_with fail
  generalize hYY : World.alloc w _ = Y at HT0 ⊢
  have c0 : Y.cell? ⟨w.heap.size, 0, none⟩ = some (.int .i64 3) := by rw [← hYY]; simp [go_sem]
  have c1 : Y.cell? ⟨w.heap.size, 1, none⟩ = some (.int .i64 av) := by rw [← hYY]; simp [go_sem]
  have c2 : Y.cell? ⟨w.heap.size, 2, none⟩ = some (.string akey) := by rw [← hYY]; simp [go_sem]
  have hzY : w.heap.size < Y.heap.size := cell_lt c0
  clear hYY
  refine (HG1.out Y HT0.out).mono ?_
  rintro e w1 ⟨rfl, hg1⟩
  have HT1 := hid (HT0.out.grew (hg1.alloc (Obj.cells #[.string gk, .string gv, .int .i64 gn] 82)))
  have d1 := (hg1.cells.1 _ _ hzY).trans c1
  have d2 := (hg1.cells.1 _ _ hzY).trans c2
  have hz1 := Nat.lt_of_lt_of_le hzY hg1.size
  go_wp2_with fail
  refine (HG2.out _ HT1.out).mono ?_
  rintro e w2 ⟨rfl, hg2⟩
  have k0 : w2.cell? ⟨w1.heap.size, 0, none⟩ = some (.string gk) := by rw [hg2.cells.1 _ _ (by simp)]; simp [go_sem]
  have k1 : w2.cell? ⟨w1.heap.size, 1, none⟩ = some (.string gv) := by rw [hg2.cells.1 _ _ (by simp)]; simp [go_sem]
  have k2 : w2.cell? ⟨w1.heap.size, 2, none⟩ = some (.int .i64 gn) := by rw [hg2.cells.1 _ _ (by simp)]; simp [go_sem]
  have hz2 : w1.heap.size < w2.heap.size := by have := hg2.size; simp at this; omega
  have HT2 := hid ((HT1.out.grew hg2).grew ((Grew.refl w2).alloc (Obj.cells #[.string gk, .string gv, .int .i64 gn] 82)))
  clear hg1 hg2 HT0 HT1
  go_wp2_with fail
  refine (HNM.out _ HT2.out.1).mono ?_
  rintro e w3 ⟨rfl, hg3⟩
  have HT3 := hid (HT2.out.grew hg3)
  clear hg3 HT2
  go_wp2_with fail
  go_ret
  exact ⟨by simp, by rw [HCK.out, HCA.out, HCF.out]; exact (HT3.out.mono (Nat.le_succ n)).less HBL.out⟩
end Go.Proofs.YtapchoppcaacdaaGreatDoor

/- The walk of tidewaterlaw38.do: a scan; every act. -/
set_option linter.unusedVariables false
set_option linter.unusedSimpArgs false
namespace Go.Proofs.YtapchoppcaacdaaGreatDoor
open Go.RowKit Go.Maps Go.Sort
attribute [local go_sem] Oper.semAt_some

namespace Pl
theorem Tw.ksize {A : List Ch} {fl : Int} {K : ByteArray → List Ch} (h : Tw A fl K) (s : ByteArray) (hs : K s ≠ []) : s.size ≤ 300 := by
  have hb : BK A s ≠ [] := fun e => hs (by rw [h.row, e, trim_nil])
  obtain ⟨c, hc⟩ := List.exists_mem_of_ne_nil _ hb
  rw [← bk_key hc]; exact h.size c (bk_mem hc)
theorem scanE_zero {lo hi : ByteArray} {fl v : Int} (h : scanE lo hi fl v = 0) : fl ≤ v := by
  unfold scanE at h
  split at h
  · cases h
  · split at h
    · cases h
    · omega
end Pl

set_option maxRecDepth 100000 in
set_option maxHeartbeats 4000000 in
theorem do38_scan (E : Nat → Addr) {w0 w : World} (hE : Errs allS E w0) {pb wb n : Nat} {B : Nat → Obj → Prop} {K : ByteArray → List Ch} {A : List Ch} {fl : Int} (h : TwoX w0 w pb wb n K A fl B) (hT : Pl.Tw A fl K) (hn : n ≤ 1000) (hA : A.length ≤ 1000) (c : Act38) (hs : Small38 c) (hk : c.kind ≠ 0 ∧ c.kind ≠ 1 ∧ c.kind ≠ 2 ∧ c.kind ≠ 3) :
    Calls Tryz.prog 9 #[.pointer (some ⟨pb, 0, none⟩), .pointer (some ⟨wb, 0, none⟩), c.agg] w fun e w' => e = .returned (.bool true) ∧ TwoX w0 w' pb wb (n + 1) (Pl.stepK K fl c) (Pl.stepA A fl c) (Pl.stepF fl c) B := by
  have HE := hid hE
  have HTW := hid hT
  have HSM := hid hs
  obtain ⟨ak, av, akey, aval, alo, ahi⟩ := c
  have sk := hs.key
  have sv := hs.val
  have sl := hs.lo
  have sh := hs.hi
  unfold Act38.agg Act38.vals
  dsimp only at *
  obtain ⟨B2, hBl, ⟨ob, hB2⟩, hW⟩ : ∃ B2 : Nat → Obj → Prop, (∀ j o, B j o → B2 j o) ∧ (∃ ob, B2 w.heap.size ob) ∧ TwoX w0 (w.alloc (.cells #[.int .i64 ak, .int .i64 av, .string akey, .string aval, .string alo, .string ahi] 34)) pb wb n K A fl B2 := ⟨_, fun j o h => .inl h, ⟨_, .inr ⟨rfl, rfl⟩⟩, h.box (Nat.le_refl _) (heap_alloc_new w _) ((Grew.refl w).alloc _)⟩
  have HT0 := hid hW
  have HBL := hid hBl
  have HB2 := hid hB2
  clear hs h hW hBl hB2
  obtain ⟨n0, n1, n2, n3⟩ := hk
  have HCK : Hid (Pl.stepK K fl ⟨ak, av, akey, aval, alo, ahi⟩ = K) := by unfold Hid Pl.stepK; dsimp only; rw [if_neg n0, if_neg n1, if_neg n2]
  have HCA : Hid (Pl.stepA A fl ⟨ak, av, akey, aval, alo, ahi⟩ = A) := by unfold Hid Pl.stepA; dsimp only; rw [if_neg n0, if_neg n1]
  have HCF : Hid (Pl.stepF fl ⟨ak, av, akey, aval, alo, ahi⟩ = fl) := by unfold Hid Pl.stepF; dsimp only; rw [if_neg n2]
  have hle := Pl.scanE_le alo ahi fl av
  have HZ := hid (@Pl.scanE_zero alo ahi fl av)
  have HG1 := hid (fun W (g : TwoX w0 W pb wb n K A fl B2) => by
    obtain ⟨F, hP, _⟩ := g.left
    exact scanP_any allS E ⟨rfl, rfl, rfl, rfl⟩ rfl rfl (HE.out.grew g.1) hP (by omega) HTW.out.good (fun s hs => by have := HTW.out.ksize s hs; omega) alo ahi av (by omega) (by omega))
  have HG2 := hid (fun W (g : TwoX w0 W pb wb n K A fl B2) => by
    obtain ⟨_, _, F, G, _, hR, _⟩ := g
    exact scan38_any hR.read (by omega) alo ahi av (by omega) (by omega) (fun c hc => (HTW.out.tabKey av c hc).1) (HTW.out.apart av) (fun c hc => by have := (HTW.out.tabKey av c hc).2; omega))
  have HNM := hid (fun W (g : Grew w0 W) => num_all E (Pl.scanE alo ahi fl av) hle W (HE.out.grew g))
  clear hE hT
  generalize Pl.scanE alo ahi fl av = ge at *
  have b0 : (ak == 0) = false := beq_eq_false_iff_ne.2 n0
  have b1 : (ak == 1) = false := beq_eq_false_iff_ne.2 n1
  have b2 : (ak == 2) = false := beq_eq_false_iff_ne.2 n2
  have b3 : (ak == 3) = false := beq_eq_false_iff_ne.2 n3
  go_enter Tryz.func9, Tryz.ntmps9
  go_wp2_with fail
  generalize hYY : World.alloc w _ = Y at HT0 ⊢
  have c0 : Y.cell? ⟨w.heap.size, 0, none⟩ = some (.int .i64 ak) := by rw [← hYY]; simp [go_sem]
  have c1 : Y.cell? ⟨w.heap.size, 1, none⟩ = some (.int .i64 av) := by rw [← hYY]; simp [go_sem]
  have c4 : Y.cell? ⟨w.heap.size, 4, none⟩ = some (.string alo) := by rw [← hYY]; simp [go_sem]
  have c5 : Y.cell? ⟨w.heap.size, 5, none⟩ = some (.string ahi) := by rw [← hYY]; simp [go_sem]
  have hzY : w.heap.size < Y.heap.size := cell_lt c0
  clear hYY
  refine (HG1.out Y HT0.out).mono ?_
  rintro e w1 ⟨⟨v1, L1, rfl, h1, h2, hn1, hrow1⟩, hg1⟩
  have HX1 := hid (And.intro h1 (And.intro h2 (And.intro hn1 hrow1)))
  have HT1 := hid (HT0.out.grew hg1)
  have d1 := (hg1.cells.1 _ _ hzY).trans c1
  have d4 := (hg1.cells.1 _ _ hzY).trans c4
  have d5 := (hg1.cells.1 _ _ hzY).trans c5
  have hz1 := Nat.lt_of_lt_of_le hzY hg1.size
  clear h1 h2 hn1 hrow1 hg1
  go_wp2_with fail
  refine (HG2.out _ HT1.out).mono ?_
  rintro e w2 ⟨⟨v2, L2, rfl, h1, h2, hrow2⟩, hg2⟩
  have hLL : L1.map toPr = L2 := by
    by_cases hz : ge = 0
    · obtain ⟨ks, hks, e1⟩ := HX1.out.1 hz
      obtain ⟨zs, hp, hss, e2⟩ := h1 hz
      rw [e1, e2]
      refine HTW.out.scan (HZ.out hz) hks hp hss ?_
      have h5 := hp.length_eq
      rw [List.length_map] at h5
      have h6 := List.length_filter_le (Pl.tabB A av) A
      unfold Pl.tableL at h5
      omega
    · rw [HX1.out.2.1 hz, h2 hz]; rfl
  obtain ⟨a1, cap1, rfl, hA1⟩ := pairs_of_p (ownsRow_grew hg2 HX1.out.2.2.2)
  have hz2 : (L1.map toPr).length ≤ 1000000 := by rw [List.length_map]; have := HX1.out.2.2.1; omega
  rw [← hLL] at hrow2
  obtain ⟨a2, cap2, rfl, hA2⟩ := pairsAt_of hrow2
  have HA1 := hid hA1
  have HA2 := hid hA2
  have HT2 := hid (HT1.out.grew hg2)
  clear h1 h2 hrow2 hg2 hLL HX1 hA1 hA2
  generalize L1.map toPr = Z at *
  go_wp2_with fail
  refine (samePairs_same _ _ _ _ _ Z HA1.out HA2.out hz2).mono ?_
  rintro e w3 ⟨rfl, hg3⟩
  have HT3 := hid (HT2.out.grew hg3)
  clear hg3
  go_wp2_with fail
  refine (HNM.out _ HT3.out.1).mono ?_
  rintro e w4 ⟨rfl, hg4⟩
  have HT4 := hid (HT3.out.grew hg4)
  clear hg4
  go_wp2_with fail
  go_ret
  exact ⟨by simp, by rw [HCK.out, HCA.out, HCF.out]; exact (HT4.out.mono (Nat.le_succ n)).less HBL.out⟩

theorem do38_any (E : Nat → Addr) {w0 w : World} (hE : Errs allS E w0) {pb wb n : Nat} {B : Nat → Obj → Prop} {K : ByteArray → List Ch} {A : List Ch} {fl : Int} (h : TwoX w0 w pb wb n K A fl B) (hT : Pl.Tw A fl K) (hn : n ≤ 1000) (hA : A.length ≤ 1000) (c : Act38) (hs : Small38 c) :
    Calls Tryz.prog 9 #[.pointer (some ⟨pb, 0, none⟩), .pointer (some ⟨wb, 0, none⟩), c.agg] w fun e w' => e = .returned (.bool true) ∧ TwoX w0 w' pb wb (n + 1) (Pl.stepK K fl c) (Pl.stepA A fl c) (Pl.stepF fl c) B := by
  by_cases h0 : c.kind = 0
  · exact do38_put E hE h hT hn hA c hs h0
  by_cases h1 : c.kind = 1
  · exact do38_del E hE h hT hn hA c hs h1
  by_cases h2 : c.kind = 2
  · exact do38_trim E hE h hT hn hA c hs h2
  by_cases h3 : c.kind = 3
  · exact do38_get E hE h hT hn hA c hs h3
  exact do38_scan E hE h hT hn hA c hs ⟨h0, h1, h2, h3⟩
end Go.Proofs.YtapchoppcaacdaaGreatDoor
