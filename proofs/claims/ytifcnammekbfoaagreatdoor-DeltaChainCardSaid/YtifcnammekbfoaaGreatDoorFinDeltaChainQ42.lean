/- tidewaterlaw37.DeltaChain returns true. -/
import Derived.Test.YtifcnammekbfoaaGreatDoorFinDeltaChainQ41
set_option linter.unusedVariables false
set_option linter.unusedSectionVars false
set_option linter.unusedSimpArgs false
namespace Go.Proofs.YtifcnammekbfoaaGreatDoor
open Go.RowKit Go.Maps
attribute [local go_sem] Oper.semAt_some uponV

def mdAt (xs : List Md) (j : Nat) : Md := xs[j]?.getD default
theorem mdAt_eq (xs : List Md) (i : Nat) (hi : i < xs.length) : mdAt xs i = xs[i] := by unfold mdAt; rw [List.getElem?_eq_getElem hi]; rfl
/-- A slice of Mades: empty, or a row; each one's entries lie where it says. -/
structure MdsAt (W : World) (a : Option Addr) (xs : List Md) : Prop where
  row : xs = [] ∨ ∃ b off, a = some ⟨b, off, none⟩ ∧ b < W.heap.size ∧ ∀ j, j < xs.length → ∀ k v, (mdAt xs j).vals[k]? = some v → W.cell? ⟨b, off + j * 3 + k, none⟩ = some v
  each : ∀ j, j < xs.length → EnsAt W (mdAt xs j).a (mdAt xs j).es
/-- A state that has been made. -/
structure SI where
  st : Nat
  lo : ByteArray
  hi : ByteArray
  P : List Pr
  S : Int → Option An
instance : Inhabited SI := ⟨⟨0, ⟨#[]⟩, ⟨#[]⟩, [], fun _ => none⟩⟩
def siAt (xs : List SI) (j : Nat) : SI := xs[j]?.getD default
theorem siAt_eq (xs : List SI) (i : Nat) (hi : i < xs.length) : siAt xs i = xs[i] := by unfold siAt; rw [List.getElem?_eq_getElem hi]; rfl
def SI.G (W : World) (s : SI) : Prop := StG W s.st s.lo s.hi s.P s.S
def ptFlat (xs : List SI) : List Value := xs.map fun s => .pointer (some ⟨s.st, 0, none⟩)
theorem ptFlat_length (xs : List SI) : (ptFlat xs).length = xs.length := by simp [ptFlat]
theorem info_pt : (Tryz.prog.info? 47).map (fun i => (i.zero, i.size, i.bytes)) = some (some (.pointer none), 1, 8) := by kernel_rfl
/-- append(own, pointer), the pointer in a block of its own. -/
theorem run_append_pt {w : World} {B : Nat} {v : Value} {m : Nat} {xs : List SI} (hown : w.ownsRow B 47 1 v m (ptFlat xs)) (kb : Nat) (s : SI) (hk : w.cell? ⟨kb, 0, none⟩ = some (.pointer (some ⟨s.st, 0, none⟩))) (hbig : m ≤ 1000000) (hB : B ≤ w.heap.size) (ty : TypeId) :
    ∃ v' w', (Builtin.append_ #[69, 69] ty #[v, .slice (some ⟨kb, 0, none⟩) 1 1]).run Tryz.prog w = .ok v' w' ∧ w'.ownsRow B 47 1 v' (m + 1) (ptFlat (xs ++ [s])) ∧ w.grownBy w' v.ownBlock ∧ ∀ g, v'.ownBlock = some g → v.ownBlock = some g ∨ g = w.heap.size := by
  obtain ⟨i0, hi0, hz0, hz1, hz2⟩ := info_parts info_pt
  obtain ⟨g, cap2, w2, h1, h2, h3, h4, h5⟩ := run_append_lies (P := Tryz.prog) (w := w) 69 ty B 47 i0 _ 1 8 Tryz.underlying69 hi0 hz0 hz1 hz2 rfl (by omega) v m (ptFlat xs) hown ⟨kb, 0, none⟩ 1 1 [.pointer (some ⟨s.st, 0, none⟩)] rfl (fun j u hj => by
    rw [Addr.add_lit]
    cases j with
    | zero => cases hj; exact hk
    | succ j => simp at hj) (fun u hu => by simp at hu; subst hu; rfl) (by omega) (by unfold maxLen; omega) (by omega) hB _ rfl
  refine ⟨_, w2, h1, ?_, h3, fun g' hg' => by
    have : g' = g := by simpa [Value.ownBlock] using hg'.symm
    subst this; exact h4⟩
  have e : ptFlat (xs ++ [s]) = ptFlat xs ++ [.pointer (some ⟨s.st, 0, none⟩)] := by simp [ptFlat]
  rw [e]
  exact h2
theorem ownsRow_nonePt (w : World) : (w.alloc (.cells #[] 47)).ownsRow w.heap.size 47 1 (.slice (some ⟨w.heap.size, 0, none⟩) 0 0) 0 (ptFlat []) := by
  have HO := hid (fun (t : TypeId) (h : t = 47) => show (w.alloc (.cells #[] t)).ownsRow w.heap.size 47 1 (.slice (some ⟨w.heap.size, 0, none⟩) 0 0) 0 [] from by
    subst h
    exact ownsRow_of_block (cur := []) (Nat.le_refl _) (heap_alloc_new w _) (Nat.le_refl _) (by decide) rfl rfl)
  exact HO.out _ rfl
/-- A row of states' pointers. -/
theorem ptsAt_of {W : World} {B : Nat} {v : Value} {xs : List SI} (h : W.ownsRow B 47 1 v xs.length (ptFlat xs)) (h0 : 0 < xs.length) : ∃ g c, v = .slice (some ⟨g, 0, none⟩) xs.length c ∧ g < W.heap.size ∧ ∀ j, j < xs.length → W.cell? ⟨g, j, none⟩ = some (.pointer (some ⟨(siAt xs j).st, 0, none⟩)) := by
  obtain ⟨g, cap, rfl, _, hlt⟩ := h.form h0
  refine ⟨g, cap, rfl, hlt, fun j hj => ?_⟩
  have := h.cellAt j (by omega)
  unfold ptFlat at this
  rw [List.getElem?_map, List.getElem?_eq_getElem hj, ← siAt_eq xs j hj] at this
  exact this
/-- A state whose blocks are apart from the row v. -/
structure SIk (w W : World) (v : Value) (s : SI) : Prop where
  ex : ∃ Ft Fs n, n ≤ 1000 ∧ StAt W Ft Fs s.st n s.lo s.hi s.P s.S ∧ ∀ j, BlS Ft Fs s.st j → v.ownBlock ≠ some j
  ins : Pl.InS s.lo s.hi s.P
  few : s.P.length ≤ 250
  lsz : s.lo.size ≤ 300
  hsz : s.hi.size ≤ 300
  span : Pl.rightS s.lo s.hi = true
theorem SIk.g {w W : World} {v : Value} {s : SI} (h : SIk w W v s) : s.G W := by
  obtain ⟨Ft, Fs, n, h1, h2, _⟩ := h.ex
  exact ⟨⟨Ft, Fs, n, h1, h2⟩, h.ins, h.few, h.lsz, h.hsz, h.span⟩
theorem SIk.grew {w W W' : World} {v : Value} {s : SI} (h : SIk w W v s) (g : Grew W W') : SIk w W' v s := by
  obtain ⟨Ft, Fs, n, h1, h2, h3⟩ := h.ex
  exact ⟨⟨Ft, Fs, n, h1, h2.grew g, h3⟩, h.ins, h.few, h.lsz, h.hsz, h.span⟩
/-- What the first loop holds: k states are made. -/
structure LpC (w W : World) (v : Value) (k : Nat) : Prop where
  grew : Grew w W
  ex : ∃ sts : List SI, sts.length = k ∧ W.ownsRow w.heap.size 47 1 v k (ptFlat sts) ∧ ∀ s ∈ sts, SIk w W v s
theorem LpC.more {w W W' : World} {v : Value} {k : Nat} (h : LpC w W v k) (g : Grew W W') : LpC w W' v k := by
  obtain ⟨sts, h1, h2, h3⟩ := h.ex
  exact ⟨h.grew.trans g, sts, h1, ownsRow_grew g h2, fun s hs => (h3 s hs).grew g⟩
theorem LpC.app {w w6 w7 : World} {v : Value} {k : Nat} (h : LpC w w6 v k) (hk : k ≤ 1000) {m : Md} (hs : MdSh m) {st ms : Nat} (hM : MdW w6 w7 m st ms) (ty : TypeId) :
    ∃ v3 w3, (Builtin.append_ #[69, 69] ty #[v, .slice (some ⟨w7.heap.size, 0, none⟩) 1 1]).run Tryz.prog (w7.alloc (.cells #[.pointer (some ⟨st, 0, none⟩)] 47)) = .ok v3 w3 ∧ LpC w w3 v3 (k + 1) := by
  obtain ⟨sts, hl, hrow, hS⟩ := h.ex
  obtain ⟨n, P, S, hn, hP, hT⟩ := hM.ex
  obtain ⟨Ft, Fs, G, sb, D, h1, _, _, h4, _⟩ := hT.ex
  have g67 := hT.grew
  obtain ⟨Z, hZ⟩ : ∃ Z, Z = w7.alloc (.cells #[.pointer (some ⟨st, 0, none⟩)] 47) := ⟨_, rfl⟩
  have gZ : Grew w7 Z := by rw [hZ]; exact (Grew.refl w7).alloc _
  have z0 : Z.cell? ⟨w7.heap.size, 0, none⟩ = some (.pointer (some ⟨st, 0, none⟩)) := by rw [hZ, cell_block (heap_alloc_new w7 _)]; rfl
  rw [← hZ]
  have g6Z := g67.trans gZ
  have hlt := hrow.lt
  obtain ⟨v3, w3, hrun, hrow3, hgr, how⟩ := run_append_pt (w := Z) (ownsRow_grew g6Z hrow) w7.heap.size ⟨st, m.spanLo, m.spanHi, P, S⟩ z0 (by omega) (by have := h.grew.size; have := g6Z.size; omega) ty
  have hO : Only (fun j => some j = v.ownBlock) Z w3 := Only.of_grownBy hgr
  have hap : ∀ j, j < Z.heap.size → v.ownBlock ≠ some j → v3.ownBlock ≠ some j := fun j hj hn hq => by
    rcases how j hq with q | q
    · exact hn q
    · omega
  refine ⟨v3, w3, hrun, ((h.grew.trans g6Z).only _ |>.then hO).grew (fun j hj => (hlt j hj.symm).1), sts ++ [⟨st, m.spanLo, m.spanHi, P, S⟩], by simp [hl], hrow3, fun s hs' => ?_⟩
  rcases List.mem_append.1 hs' with q | q
  · have hk := hS s q
    obtain ⟨Ft', Fs', n', k1, k2, k3⟩ := hk.ex
    have hal := k2.all
    have hZs := g6Z.size
    refine ⟨⟨Ft', Fs', n', k1, (k2.grew g6Z).kept hO (fun j hj e => k3 j (.inl hj) e.symm) (fun j hj e => k3 j (.inr (.inl hj)) e.symm) (fun e => k3 _ (.inr (.inr rfl)) e.symm), fun j hj => hap j ?_ (k3 j hj)⟩, hk.ins, hk.few, hk.lsz, hk.hsz, hk.span⟩
    have := hal j hj
    omega
  · simp only [List.mem_singleton] at q
    subst q
    have hal := h1.all
    have hnv : ∀ j, BlS Ft Fs st j → v.ownBlock ≠ some j := fun j hj e => by
      have := (h4 j hj).1
      have := (hlt j e).2
      omega
    have hlo : m.spanLo.size ≤ 300 := by unfold Md.spanLo; have := hs.lo; split; omega; decide
    have hhi : m.spanHi.size ≤ 300 := by unfold Md.spanHi; have := hs.hi; split; omega; decide
    have hZs := gZ.size
    refine ⟨⟨Ft, Fs, n, by omega, (h1.grew gZ).kept hO (fun j hj e => hnv j (.inl hj) e.symm) (fun j hj e => hnv j (.inr (.inl hj)) e.symm) (fun e => hnv _ (.inr (.inr rfl)) e.symm), fun j hj => hap j ?_ (hnv j hj)⟩, hT.ins, show P.length ≤ 250 by omega, hlo, hhi, m.span_right⟩
    have := hal j hj
    omega
/-- Between and Apply in a region that draws its order. -/
structure JCh (w : World) (lo hi : ByteArray) (P Q : List Pr) (S : Int → Option An) (L : Nat → Bool) (f : Nat → Value) (W : World) : Prop where
  grew : Grew w W
  o11 : L 11 = true → L 10 = true
  o12 : L 12 = true → L 11 = true
  o13 : L 13 = true → L 12 = true
  o14 : L 14 = true → L 12 = true
  o15 : L 15 = true → L 13 = true
  b : L 10 = true → DlV W (f 10) lo hi P Q S
  a : L 11 = true → ∃ st, StG W st lo hi Q S ∧ f 11 = .tuple #[.pointer (some ⟨st, 0, none⟩), .nilIface] ∧ (L 12 = true → f 12 = .tuple #[.pointer (some ⟨st, 0, none⟩), .nilIface]) ∧ (L 13 = true → f 13 = .pointer (some ⟨st, 0, none⟩)) ∧ (L 14 = true → f 14 = .nilIface) ∧ (L 15 = true → f 15 = .pointer (some ⟨st, 0, none⟩))
section
variable {w W W' : World} {lo hi : ByteArray} {P Q : List Pr} {S : Int → Option An} {L : Nat → Bool} {f : Nat → Value}
theorem JCh.start (w : World) (lo hi : ByteArray) (P Q : List Pr) (S : Int → Option An) : JCh w lo hi P Q S (fun _ => false) (fun _ => undef) w.drew :=
  ⟨(Grew.refl w).drew, (fun h => by cases h), (fun h => by cases h), (fun h => by cases h), (fun h => by cases h), (fun h => by cases h), (fun h => by cases h), fun h => by cases h⟩
theorem JCh.more (h : JCh w lo hi P Q S L f W) (g : Grew W W') : JCh w lo hi P Q S L f W' :=
  ⟨h.grew.trans g, h.o11, h.o12, h.o13, h.o14, h.o15, fun q => (h.b q).grew g, fun q => by obtain ⟨st, h1, h2⟩ := h.a q; exact ⟨st, h1.grew g, h2⟩⟩
theorem JCh.s10 (h : JCh w lo hi P Q S L f W) (h0 : L 10 = false) (g : Grew W W') {v : Value} (hv : DlV W' v lo hi P Q S) : JCh w lo hi P Q S (plus L 10) (updV f 10 v) W' := by
  have n11 : L 11 = false := bool_no fun q => by rw [h.o11 q] at h0; cases h0
  have n12 : L 12 = false := bool_no fun q => by rw [h.o12 q] at n11; cases n11
  have n13 : L 13 = false := bool_no fun q => by rw [h.o13 q] at n12; cases n12
  have n14 : L 14 = false := bool_no fun q => by rw [h.o14 q] at n12; cases n12
  have n15 : L 15 = false := bool_no fun q => by rw [h.o15 q] at n13; cases n13
  refine ⟨h.grew.trans g, ?_, ?_, ?_, ?_, ?_, fun _ => by rw [updV_same]; exact hv, ?_⟩
  all_goals intro q; rw [plus_ne (by decide)] at q
  · rw [n11] at q; cases q
  · rw [n12] at q; cases q
  · rw [n13] at q; cases q
  · rw [n14] at q; cases q
  · rw [n15] at q; cases q
  · rw [n11] at q; cases q
theorem JCh.s11 (h : JCh w lo hi P Q S L f W) (h0 : L 11 = false) (h10 : L 10 = true) (g : Grew W W') {st : Nat} (hs : StG W' st lo hi Q S) : JCh w lo hi P Q S (plus L 11) (updV f 11 (.tuple #[.pointer (some ⟨st, 0, none⟩), .nilIface])) W' := by
  have n12 : L 12 = false := bool_no fun q => by rw [h.o12 q] at h0; cases h0
  have n13 : L 13 = false := bool_no fun q => by rw [h.o13 q] at n12; cases n12
  have n14 : L 14 = false := bool_no fun q => by rw [h.o14 q] at n12; cases n12
  have n15 : L 15 = false := bool_no fun q => by rw [h.o15 q] at n13; cases n13
  refine ⟨h.grew.trans g, fun _ => plus_up h10, ?_, ?_, ?_, ?_, fun _ => by rw [updV_ne (by decide)]; exact (h.b h10).grew g, fun _ => ⟨st, hs, updV_same _ _ _, ?_, ?_, ?_, ?_⟩⟩
  all_goals intro q; rw [plus_ne (by decide)] at q
  · rw [n12] at q; cases q
  · rw [n13] at q; cases q
  · rw [n14] at q; cases q
  · rw [n15] at q; cases q
  · rw [n12] at q; cases q
  · rw [n13] at q; cases q
  · rw [n14] at q; cases q
  · rw [n15] at q; cases q
theorem JCh.s12 (h : JCh w lo hi P Q S L f W) (h0 : L 12 = false) (h11 : L 11 = true) : JCh w lo hi P Q S (plus L 12) (updV f 12 (f 11)) W := by
  have n13 : L 13 = false := bool_no fun q => by rw [h.o13 q] at h0; cases h0
  have n14 : L 14 = false := bool_no fun q => by rw [h.o14 q] at h0; cases h0
  have n15 : L 15 = false := bool_no fun q => by rw [h.o15 q] at n13; cases n13
  obtain ⟨st, k1, k2, k3, k4, k5, k6⟩ := h.a h11
  refine ⟨h.grew, fun q => ?_, fun _ => plus_up h11, ?_, ?_, ?_, fun q => ?_, fun _ => ⟨st, k1, ?_, fun _ => ?_, ?_, ?_, ?_⟩⟩
  · exact plus_up (h.o11 h11)
  · intro q; rw [plus_ne (by decide), n13] at q; cases q
  · intro q; rw [plus_ne (by decide), n14] at q; cases q
  · intro q; rw [plus_ne (by decide), n15] at q; cases q
  · rw [updV_ne (by decide)]; exact h.b (h.o11 h11)
  · rw [updV_ne (by decide)]; exact k2
  · rw [updV_same]; exact k2
  · intro q; rw [plus_ne (by decide), n13] at q; cases q
  · intro q; rw [plus_ne (by decide), n14] at q; cases q
  · intro q; rw [plus_ne (by decide), n15] at q; cases q
theorem JCh.s13 (h : JCh w lo hi P Q S L f W) (h0 : L 13 = false) (h12 : L 12 = true) : ∃ st, f 12 = .tuple #[.pointer (some ⟨st, 0, none⟩), .nilIface] ∧ JCh w lo hi P Q S (plus L 13) (updV f 13 (.pointer (some ⟨st, 0, none⟩))) W := by
  have n15 : L 15 = false := bool_no fun q => by rw [h.o15 q] at h0; cases h0
  obtain ⟨st, k1, k2, k3, k4, k5, k6⟩ := h.a (h.o12 h12)
  refine ⟨st, k3 h12, h.grew, fun q => ?_, fun q => ?_, fun _ => plus_up h12, fun q => plus_up h12, ?_, fun q => ?_, fun _ => ⟨st, k1, ?_, fun q => ?_, fun _ => ?_, fun q => ?_, ?_⟩⟩
  · exact plus_up (h.o11 (h.o12 h12))
  · exact plus_up (h.o12 h12)
  · intro q; rw [plus_ne (by decide), n15] at q; cases q
  · rw [updV_ne (by decide)]; exact h.b (h.o11 (h.o12 h12))
  · rw [updV_ne (by decide)]; exact k2
  · rw [updV_ne (by decide)]; exact k3 h12
  · rw [updV_same]
  · rw [updV_ne (by decide)]; rw [plus_ne (by decide)] at q; exact k5 q
  · intro q; rw [plus_ne (by decide), n15] at q; cases q
theorem JCh.s14 (h : JCh w lo hi P Q S L f W) (h0 : L 14 = false) (h12 : L 12 = true) : ∃ st, f 12 = .tuple #[.pointer (some ⟨st, 0, none⟩), .nilIface] ∧ JCh w lo hi P Q S (plus L 14) (updV f 14 .nilIface) W := by
  obtain ⟨st, k1, k2, k3, k4, k5, k6⟩ := h.a (h.o12 h12)
  refine ⟨st, k3 h12, h.grew, fun q => ?_, fun q => ?_, fun q => plus_up h12, fun q => plus_up h12, fun q => ?_, fun q => ?_, fun _ => ⟨st, k1, ?_, fun q => ?_, fun q => ?_, fun q => ?_, fun q => ?_⟩⟩
  · exact plus_up (h.o11 (h.o12 h12))
  · exact plus_up (h.o12 h12)
  · rw [plus_ne (by decide)] at q; exact plus_up (h.o15 q)
  · rw [updV_ne (by decide)]; exact h.b (h.o11 (h.o12 h12))
  · rw [updV_ne (by decide)]; exact k2
  · rw [updV_ne (by decide)]; exact k3 h12
  · rw [updV_ne (by decide)]; rw [plus_ne (by decide)] at q; exact k4 q
  · rw [updV_same]
  · rw [updV_ne (by decide)]; rw [plus_ne (by decide)] at q; exact k6 q
theorem JCh.s15 (h : JCh w lo hi P Q S L f W) (h13 : L 13 = true) : JCh w lo hi P Q S (plus L 15) (updV f 15 (f 13)) W := by
  have h12 := h.o13 h13
  obtain ⟨st, k1, k2, k3, k4, k5, k6⟩ := h.a (h.o12 h12)
  refine ⟨h.grew, fun q => ?_, fun q => ?_, fun q => plus_up h12, fun q => plus_up h12, fun q => plus_up h13, fun q => ?_, fun _ => ⟨st, k1, ?_, fun q => ?_, fun q => ?_, fun q => ?_, fun q => ?_⟩⟩
  · exact plus_up (h.o11 (h.o12 h12))
  · exact plus_up (h.o12 h12)
  · rw [updV_ne (by decide)]; exact h.b (h.o11 (h.o12 h12))
  · rw [updV_ne (by decide)]; exact k2
  · rw [updV_ne (by decide)]; exact k3 h12
  · rw [updV_ne (by decide)]; exact k4 h13
  · rw [updV_ne (by decide)]; rw [plus_ne (by decide)] at q; exact k5 q
  · rw [updV_same]; exact k4 h13
end
/-- What the second loop holds: x is a state with the contents of states[j]. -/
def ChL (w W : World) (s : SI) (x : Value) : Prop := ∃ xb, x = .pointer (some ⟨xb, 0, none⟩) ∧ StG W xb s.lo s.hi s.P s.S ∧ Grew w W
set_option maxRecDepth 100000 in
set_option maxHeartbeats 2000000 in
theorem deltaChain_walk (E : Nat → Addr) (a : Option Addr) (cap : Nat) (xs : List Md) (w : World) (hE : Errs stS E w) (hA : MdsAt w a xs) (hx : xs.length ≤ 9223372036854775807) (hf : ∀ j, j < xs.length → MdFits (mdAt xs j)) :
    Calls Tryz.prog 5 #[.slice a xs.length cap] w fun e w' => e = .returned (.bool true) ∧ Grew w w' := by
  have HE := hid hE
  have HA := hid hA
  have HF := hid hf
  have HAL := hid (alive37 E w hE)
  clear hE hA hf
  by_cases h5 : (5 : Int) < (xs.length : Int)
  · go_enter Tryz.func5, Tryz.ntmps5
    go_wp2_with fail
    refine HAL.out.mono ?_
    rintro e w1 ⟨rfl, hg1⟩
    go_wp2_with fail
    go_ret
    exact ⟨rfl, hg1⟩
  by_cases h0 : xs.length = 0
  · obtain rfl : xs = [] := List.eq_nil_of_length_eq_zero h0
    clear h0 h5
    simp only [List.length_nil] at *
    go_enter Tryz.func5, Tryz.ntmps5
    go_wp2_with fail
    refine HAL.out.mono ?_
    rintro e w1 ⟨rfl, hg1⟩
    go_wp2_with fail
    go_ret
    exact ⟨rfl, hg1⟩
  have hx5 : (xs.length : Int) ≤ 5 := by omega
  have hx0 : ((xs.length : Int) == 0) = false := beq_eq_false_iff_ne.mpr (by omega)
  have HX0 := hid (show 0 < xs.length from by omega)
  clear h5 h0
  go_enter Tryz.func5, Tryz.ntmps5
  go_wp2_with fail
  refine HAL.out.mono ?_
  rintro e w1 ⟨rfl, hg1⟩
  have HL1 := hid (show LpC w (w1.alloc (.cells #[] 47)) (.slice (some ⟨w1.heap.size, 0, none⟩) 0 0) 0 from ⟨hg1.trans ((Grew.refl w1).alloc _), [], rfl, ownsRow_base hg1.size (ownsRow_nonePt w1), fun s hs => by cases hs⟩)
  clear hg1 HAL
  go_wp2_with fail
  go_loopw [3, 27] (fun v i wr => ∃ k : Nat, k ≤ xs.length ∧ i = .int .i64 k ∧ Hid (LpC w wr v k)) (fun _ i _ => xs.length - (intOf i).toNat)
  case atStart => exact ⟨0, Nat.zero_le _, rfl, HL1.out⟩
  case round =>
    obtain ⟨k, hk1, rfl, HL⟩ := hrel
    by_cases hlt : k < xs.length
    · rcases HA.out.row with h0 | ⟨b, off, rfl, hb, hR⟩
      · rw [h0] at hlt; simp at hlt
      have hG := HL.out.grew
      have q0 := (hG.cells.1 _ _ hb).trans (hR k hlt 0 _ rfl)
      have q1 := (hG.cells.1 _ _ hb).trans (hR k hlt 1 _ rfl)
      have q2 := (hG.cells.1 _ _ hb).trans (hR k hlt 2 _ rfl)
      simp only [Nat.add_zero] at q0
      have hbr := Nat.lt_of_lt_of_le hb hG.size
      have HEN := hid ((HA.out.each k hlt).grew hG)
      have HMF := hid (HF.out k hlt)
      have hk9 : k < 1000000 := by omega
      clear hR hG
      generalize mdAt xs k = A at *
      obtain ⟨lo, hi, es, ma, mc⟩ := A
      dsimp only at *
      go_upto_region 9 with fail
      clear q0 q1 q2 hbr
      obtain ⟨X, hX⟩ : ∃ X, X = wr.alloc (.cells #[.string lo, .string hi, .slice ma es.length mc] 72) := ⟨_, rfl⟩
      have gX : Grew wr X := by rw [hX]; exact (Grew.refl wr).alloc _
      have d0 : X.cell? ⟨wr.heap.size, 0, none⟩ = some (.string lo) := by rw [hX, cell_block (heap_alloc_new wr _)]; rfl
      have d1 : X.cell? ⟨wr.heap.size, 1, none⟩ = some (.string hi) := by rw [hX, cell_block (heap_alloc_new wr _)]; rfl
      have d2 : X.cell? ⟨wr.heap.size, 2, none⟩ = some (.slice ma es.length mc) := by rw [hX, cell_block (heap_alloc_new wr _)]; rfl
      have HLX := hid (HL.out.more gX)
      have HENX := hid (HEN.out.grew gX)
      have HLN := hid (long37_any ⟨lo, hi, es, ma, mc⟩ X HENX.out HMF.out)
      unfold Md.agg Md.vals at HLN
      dsimp only at HLN
      rw [← hX]
      obtain ⟨kb, hkb⟩ : ∃ kb, kb = wr.heap.size := ⟨_, rfl⟩
      rw [← hkb] at d0 d1 d2 ⊢
      have hkbX := cell_lt d0
      clear hX gX hkb HL HEN
      cases hlg : Md.long ⟨lo, hi, es, ma, mc⟩ with
      | true =>
        rw [hlg] at HLN
        clear hlg
        go_wp2_with fail
        refine HLN.out.mono ?_
        rintro e w6 ⟨rfl, hg6⟩
        have HG6 := hid (HLX.out.grew.trans hg6)
        clear hg6 HLX
        go_wp2_with fail
        go_ret
        exact ⟨rfl, HG6.out⟩
      | false =>
        rw [hlg] at HLN
        have HSH := hid (long37_short hlg)
        clear hlg
        go_wp2_with fail
        refine HLN.out.mono ?_
        rintro e w6 ⟨rfl, hg6⟩
        have d0 := (hg6.cells.1 _ 0 hkbX).trans d0
        have d1 := (hg6.cells.1 _ 1 hkbX).trans d1
        have d2 := (hg6.cells.1 _ 2 hkbX).trans d2
        have hkb6 := cell_lt d0
        have HL6 := hid (HLX.out.more hg6)
        have HMD := hid (madeL_any E ⟨lo, hi, es, ma, mc⟩ w6 (HE.out.grew HL6.out.grew) (HENX.out.grew hg6) HSH.out)
        unfold Md.agg Md.vals at HMD
        dsimp only at HMD
        clear hg6 HLX hkbX HENX HLN HMF
        go_wp2_with fail
        refine HMD.out.mono ?_
        rintro e w7 ⟨st, ms, rfl, hM⟩
        obtain ⟨v3, w3, hrun, hL3⟩ := HL6.out.app (by omega) HSH.out hM 69
        have HRUN := hid hrun
        have HL3 := hid hL3
        clear hM hrun hL3 HMD HL6 HSH d0 d1 d2 hkb6
        go_wp2_with (at_builtin; refine Lib.wpList_append_run _ rfl _ _ _ _ rfl _ _ rfl rfl _ _ HRUN.out ?_)
        go_roundw
        case rel => exact ⟨k + 1, by omega, by go_num, HL3.out⟩
        case measure => simp [intOf]; omega
    · have hkn : k = xs.length := by omega
      subst hkn
      obtain ⟨wq, hwq⟩ : ∃ q, q = wr := ⟨_, rfl⟩
      subst hwq
      obtain ⟨sts, hsl, hrow, hsG⟩ := HL.out.ex
      have HWG := hid HL.out.grew
      rw [← hsl] at hrow
      obtain ⟨g, c, rfl, hgl, hC⟩ := ptsAt_of hrow (by have := HX0.out; omega)
      have HC := hid hC
      have HSG := hid (fun (j : Nat) (hj : j < sts.length) => show (siAt sts j).G wq from SIk.g (hsG _ (by rw [siAt_eq sts j hj]; exact List.getElem_mem hj)))
      clear hrow hC hsG HA HF HL1 HL hk1 hlt
      have hx6 : xs.length ≤ 5 := by omega
      have hx1 := HX0.out
      clear hx5 hx0 HX0 hx
      generalize xs.length = n at *
      rw [hsl] at HC HSG ⊢
      obtain ⟨m, rfl⟩ : ∃ m, n = m + 1 := ⟨n - 1, by omega⟩
      have s0 := HSG.out 0 (by omega)
      unfold SI.G at s0
      have HCP := hid (copyG_any s0)
      have c0 := HC.out 0 (by omega)
      clear s0
      go_wp2_with fail
      refine HCP.out.mono ?_
      rintro e w2 ⟨cb, rfl, hcb, hg2⟩
      have HCH := hid (show ChL wq w2 (siAt sts 0) (.pointer (some ⟨cb, 0, none⟩)) from ⟨cb, rfl, hcb, hg2⟩)
      clear hcb hg2 c0 HCP
      go_wp2_with fail
      go_loopw [8, 9] (fun x i wr => ∃ j : Nat, j ≤ m ∧ i = .int .i64 ((j + 1 : Nat) : Int) ∧ Hid (ChL wq wr (siAt sts j) x)) (fun _ i _ => m + 1 - (intOf i).toNat)
      case atStart => exact ⟨0, Nat.zero_le _, rfl, HCH.out⟩
      case round =>
        obtain ⟨j, hj, rfl, HLP⟩ := hrel
        obtain ⟨xb, rfl, hxb, hg5⟩ := HLP.out
        have hg5l := Nat.lt_of_lt_of_le hgl hg5.size
        by_cases hlt : j + 1 < m + 1
        · have C0 := wd_cell ((hg5.cells.1 g j hgl).trans (HC.out j (by omega)))
          have C1 := wd_cell ((hg5.cells.1 g (j + 1) hgl).trans (HC.out (j + 1) hlt))
          have a0 := (HSG.out j (by omega)).grew hg5
          have a1 := (HSG.out (j + 1) hlt).grew hg5
          generalize siAt sts j = A at *
          generalize hB : siAt sts (j + 1) = B at *
          have HB := hid hB
          obtain ⟨sa, loA, hiA, PA, SA⟩ := A
          obtain ⟨sb, loB, hiB, PB, SB⟩ := B
          dsimp only at C0 C1 a0 a1 hxb
          have HBT := hid (fun W (gg : Grew wr W) => btwG_any E (HE.out.grew ((HWG.out.trans hg5).trans gg)) (a0.grew gg) (a1.grew gg))
          have HAP := hid (fun W (gg : Grew wr W) v (hv : DlV W v loB hiB PA PB SB) => aplG_any E (sa := sa) (loa := loA) (hia := hiA) (SA := SA) (HE.out.grew ((HWG.out.trans hg5).trans gg)) (hxb.grew gg) (a1.grew gg) hv)
          have HG5 := hid hg5
          clear a0 a1 hxb hg5 HLP hB
          go_upto_region 20 with fail
          refine wp_region_mixS 16 [10, 11, 12, 13, 14, 15] (Grew wr) Grew (JCh wr loB hiB PA PB SB) (fun f a => (((((a.put (some 66) (f 10)).put (some 67) (f 11)).put (some 55) (f 12)).put (some 68) (f 13)).put (some 69) (f 14)).put (some 10) (f 15)) (by kernel_rfl) (by kernel_rfl) (fun _ _ => rfl) (JCh.start ..) (fun _ _ _ h => h.grew) Grew.refl (fun _ _ _ _ h g => h.more g) ?_
          repeat (first
    | (refine mixS_loose (by rfl) (by rfl) ?_)
    | (refine mixS_plain (by rfl) (by rfl) (by rfl) (by first | exact Grew.refl | exact fun _ => rfl) (by rfl) ?_; intro K hK; go_big_quiet_op; go_big_quiet_on)
    | (refine mixS_skip (by rfl) (by rfl) (by rfl) ?_; simp only [Act.put, List.setIfInBounds_toArray, List.set_cons_zero, List.set_cons_succ]))
          refine mixS_done (by rfl) ⟨⟨loose_of rfl (fun _ a => a) (fun _ _ => rfl) (fun _ => rfl) ?_, loose_of rfl (fun f a => a.put (some 66) (f 10)) (fun _ _ => rfl) (fun _ => rfl) ?_, loose_of rfl (fun f a => a.put (some 67) (f 11)) (fun _ _ => rfl) (fun _ => rfl) ?_, loose_of rfl (fun f a => a.put (some 55) (f 12)) (fun _ _ => rfl) (fun _ => rfl) ?_, loose_of rfl (fun f a => a.put (some 55) (f 12)) (fun _ _ => rfl) (fun _ => rfl) ?_, loose_of rfl (fun f a => (((a.put (some 66) (f 10)).put (some 67) (f 11)).put (some 55) (f 12)).put (some 68) (f 13)) (fun _ _ => rfl) (fun _ => rfl) ?_, trivial⟩, ?_⟩
          · intro L f u hJ hL hd
            have HJ := hid hJ
            have H0 := hid hL
            clear hJ hL hd C0 C1
            go_simp
            refine (HBT.out u HJ.out.grew).mono ?_
            rintro e u' ⟨v, rfl, hv, hg⟩
            exact ⟨_, rfl, HJ.out.s10 H0.out hg hv⟩
          · intro L f u hJ hL hd
            have l10 := hd 10 rfl (by decide)
            have HJ := hid hJ
            have H0 := hid hL
            have H10 := hid l10
            clear hJ hL hd C0 C1 l10
            go_simp
            refine (HAP.out u HJ.out.grew _ (HJ.out.b H10.out)).mono ?_
            rintro e u' ⟨st, rfl, hs, _, hg⟩
            exact ⟨_, rfl, HJ.out.s11 H0.out H10.out hg hs⟩
          · intro L f u hJ hL hd
            have HJ := hid (hJ.s12 hL (hd 11 rfl (by decide)))
            clear hJ hL hd C0 C1
            go_simp
            exact HJ.out
          · intro L f u hJ hL hd
            obtain ⟨st, e12, hJ'⟩ := hJ.s13 hL (hd 12 rfl (by decide))
            have HJ := hid hJ'
            clear hJ hJ' hL hd C0 C1
            rw [e12]
            clear e12
            go_simp
            exact HJ.out
          · intro L f u hJ hL hd
            obtain ⟨st, e12, hJ'⟩ := hJ.s14 hL (hd 12 rfl (by decide))
            have HJ := hid hJ'
            clear hJ hJ' hL hd C0 C1
            rw [e12]
            clear e12
            go_simp
            exact HJ.out
          · intro L f u hJ hL hd
            have HJ := hid (hJ.s15 (hd 13 rfl (by decide)))
            clear hJ hL hd C0 C1
            go_simp
            exact HJ.out
          intro f u hJ
          obtain ⟨st, hs, e11, e12, e13, e14, e15⟩ := hJ.a rfl
          have e12 := e12 rfl
          have e13 := e13 rfl
          have e14 := e14 rfl
          have e15 := e15 rfl
          have HCH5 := hid (show ChL wq u ⟨sb, loB, hiB, PB, SB⟩ (.pointer (some ⟨st, 0, none⟩)) from ⟨st, rfl, hs, HG5.out.trans hJ.grew⟩)
          clear hJ hs C0 C1 HBT HAP
          dsimp only [List.drop]
          simp only [Act.put, List.setIfInBounds_toArray, List.set_cons_succ, List.set_cons_zero]
          rw [e11, e12, e13, e14, e15]
          clear e11 e12 e13 e14 e15
          go_wp2_with fail
          go_roundw
          case rel => exact ⟨j + 1, by omega, by go_num, by rw [HB.out]; exact HCH5.out⟩
          case measure => simp [intOf]; omega
        · have hjm : j = m := by omega
          subst hjm
          have C0 := (hg5.cells.1 g 0 hgl).trans (HC.out 0 (by omega))
          have C1 := (hg5.cells.1 g j hgl).trans (HC.out j (by omega))
          have a0 := (HSG.out 0 (by omega)).grew hg5
          have a1 := (HSG.out j (by omega)).grew hg5
          generalize siAt sts 0 = A at *
          generalize siAt sts j = B at *
          obtain ⟨sa, loA, hiA, PA, SA⟩ := A
          obtain ⟨sb, loB, hiB, PB, SB⟩ := B
          dsimp only at C0 C1 a0 a1 hxb
          have HSM := hid (sameG_any hxb a1)
          have HX := hid hxb
          have HA0 := hid a0
          have HG5 := hid hg5
          clear a0 a1 hxb hg5 HLP
          go_wp2_with fail
          refine HSM.out.mono ?_
          rintro e w6 ⟨rfl, hg6⟩
          have C0 := (hg6.cells.1 g 0 hg5l).trans C0
          have hg6l := cell_lt C0
          have HG6 := hid (HG5.out.trans hg6)
          have HX6 := hid (HX.out.grew hg6)
          have HA6 := hid (HA0.out.grew hg6)
          have HBT := hid (btwG_any E (HE.out.grew (HWG.out.trans HG6.out)) HX6.out HA6.out)
          clear hg6 HX HA0 HSM C1 hg5l
          go_wp2_with fail
          refine HBT.out.mono ?_
          rintro e w7 ⟨v, rfl, hv, hg7⟩
          have HG7 := hid (HG6.out.trans hg7)
          have C0 := (hg7.cells.1 g 0 hg6l).trans C0
          have hg7l := cell_lt C0
          have HA7 := hid (HA6.out.grew hg7)
          have HAP := hid (aplG_any E (sa := sa) (loa := loA) (hia := hiA) (SA := SA) (HE.out.grew (HWG.out.trans HG7.out)) (HX6.out.grew hg7) HA7.out hv)
          clear hv hg7 HBT HA6 HX6 hg6l
          go_wp2_with fail
          refine HAP.out.mono ?_
          rintro e w8 ⟨st, rfl, hs8, _, hg8⟩
          have HG8 := hid (HG7.out.trans hg8)
          have C0 := (hg8.cells.1 g 0 hg7l).trans C0
          have hg8l := cell_lt C0
          have HS2 := hid (sameG_any hs8 (HA7.out.grew hg8))
          clear hs8 hg8 HAP HA7 hg7l
          go_wp2_with fail
          refine HS2.out.mono ?_
          rintro e w9 ⟨rfl, hg9⟩
          have HG9 := hid ((HWG.out.trans HG8.out).trans hg9)
          clear hg9 HS2 C0
          go_wp2_with fail
          go_ret
          exact ⟨rfl, HG9.out⟩
end Go.Proofs.YtifcnammekbfoaaGreatDoor
