/- Ref21w, Cut21, Tab4: one text. -/
import Derived.Test.YtbdagllflamabaaGreatDoorFinWatchReplaysQ23
import Derived.Test.YtbdagllflamabaaGreatDoorFinWatchReplaysQ25
import Derived.Test.YtbdagllflamabaaGreatDoorFinWatchReplaysQ20
import Derived.Test.YtbdagllflamabaaGreatDoorFinWatchReplaysQ7
set_option linter.unusedVariables false
set_option linter.unusedSimpArgs false
namespace Go.Proofs.YtbdagllflamabaaGreatDoor
open Go.RowKit Go.Maps
attribute [local go_sem] Oper.semAt_some
structure RtIs (w : World) (G : Nat → Prop) (tb : Nat) (v : Value) (xs : List Pr) : Prop where
  c0 : w.cell? ⟨tb, 0, none⟩ = some v
  f0 : w.frozen? ⟨tb, 0, none⟩ = false
  row : w.ownsRow 0 42 3 v xs.length (prFlat xs)
  foot : G tb
  own : ∀ g, v.ownBlock = some g → G g ∧ g ≠ tb
  lt : ∀ j, G j → j < w.heap.size
def RtAt (w : World) (G : Nat → Prop) (tb : Nat) (xs : List Pr) : Prop := ∃ v, RtIs w G tb v xs
def RtTurn (w : World) (G : Nat → Prop) (tb : Nat) (xs : List Pr) (w' : World) : Prop := Only G w w' ∧ ∃ G', RtAt w' G' tb xs ∧ ∀ j, G' j → G j ∨ w.heap.size ≤ j
theorem RtIs.kept {w w' : World} {G S : Nat → Prop} {tb : Nat} {v : Value} {xs : List Pr} (h : RtIs w G tb v xs) (g : Only S w w') (hS : ∀ j, G j → ¬ S j) : RtIs w' G tb v xs where
  c0 := (g.cell (cell_lt h.c0) (hS _ h.foot) 0).trans h.c0
  f0 := (g.frozen (cell_lt h.c0) (hS _ h.foot) 0).trans h.f0
  row := ownsRow_kept h.row g fun b hb => hS b (h.own b hb).1
  foot := h.foot
  own := h.own
  lt := fun j hj => Nat.lt_of_lt_of_le (h.lt j hj) g.size
theorem RtAt.kept {w w' : World} {G S : Nat → Prop} {tb : Nat} {xs : List Pr} (h : RtAt w G tb xs) (g : Only S w w') (hS : ∀ j, G j → ¬ S j) : RtAt w' G tb xs := by obtain ⟨v, h⟩ := h; exact ⟨v, h.kept g hS⟩
theorem RtAt.grew {w w' : World} {G : Nat → Prop} {tb : Nat} {xs : List Pr} (h : RtAt w G tb xs) (g : Grew w w') : RtAt w' G tb xs := h.kept (g.only fun _ => False) (fun _ _ h => h)
theorem RtAt.lt {w : World} {G : Nat → Prop} {tb : Nat} {xs : List Pr} (h : RtAt w G tb xs) : ∀ j, G j → j < w.heap.size := by obtain ⟨v, h⟩ := h; exact h.lt
theorem RtIs.read {w : World} {G : Nat → Prop} {tb : Nat} {v : Value} {xs : List Pr} (h : RtIs w G tb v xs) : MTab w tb xs := by
  obtain ⟨a, cap, e, hA⟩ := pairsAt_of h.row
  exact ⟨a, cap, by rw [← e]; exact h.c0, hA⟩
theorem RtAt.read {w : World} {G : Nat → Prop} {tb : Nat} {xs : List Pr} (h : RtAt w G tb xs) : MTab w tb xs := by obtain ⟨v, h⟩ := h; exact h.read
theorem RtTurn.of_grew {w w' : World} {G : Nat → Prop} {tb : Nat} {xs : List Pr} (h : RtAt w G tb xs) (g : Grew w w') : RtTurn w G tb xs w' := ⟨g.only _, G, h.grew g, fun j hj => .inl hj⟩
theorem RtTurn.trans {w w1 w2 : World} {G G1 : Nat → Prop} {tb : Nat} {xs : List Pr} (g1 : Only G w w1) (hG : ∀ j, G1 j → G j ∨ w.heap.size ≤ j) (h : RtTurn w1 G1 tb xs w2) : RtTurn w G tb xs w2 := by
  obtain ⟨g2, G2, h2, h3⟩ := h
  refine ⟨g1.trans g2 hG, G2, h2, fun j hj => ?_⟩
  · rcases h3 j hj with h | h
    · exact hG j h
    · exact .inr (Nat.le_trans g1.size h)
theorem RtIs.store {w y : World} {G : Nat → Prop} {tb : Nat} {v v' : Value} {xs zs : List Pr} (h : RtIs w G tb v xs) (hO : Only G w y) (hc : ∃ u, y.cell? ⟨tb, 0, none⟩ = some u) (hf : y.frozen? ⟨tb, 0, none⟩ = false) (hr : y.ownsRow 0 42 3 v' zs.length (prFlat zs)) (ho : ∀ g, v'.ownBlock = some g → (G g ∨ w.heap.size ≤ g) ∧ g ≠ tb ∧ g < y.heap.size) : RtTurn w G tb zs (y.setCell ⟨tb, 0, none⟩ v') := by
  obtain ⟨u, hc⟩ := hc
  have hset : Only (fun j => j = tb) y (y.setCell ⟨tb, 0, none⟩ v') := Only.setCell y ⟨tb, 0, none⟩ _
  refine ⟨hO.then (hset.mono fun j (hj : j = tb) => .inl (by rw [hj]; exact h.foot)), fun j => G j ∨ v'.ownBlock = some j, ⟨v', by simp [go_sem, hc], by simp [go_sem, hf], ownsRow_kept hr hset fun b hb (e : b = tb) => (ho b hb).2.1 e, .inl h.foot, fun g hg => ⟨.inr hg, (ho g hg).2.1⟩, fun j hj => ?_⟩, fun j hj => ?_⟩
  · rcases hj with hj | hj
    · exact Nat.lt_of_lt_of_le (h.lt j hj) (Nat.le_trans hO.size hset.size)
    · exact Nat.lt_of_lt_of_le (ho j hj).2.2 hset.size
  · rcases hj with hj | hj
    · exact .inl hj
    · exact (ho j hj).1
structure JD (y : World) (A C : List Value) (k n : Nat) (L : Nat → Bool) (f : Nat → Value) (x : World) : Prop where
  grew : Grew y x
  o8 : L 8 = true → L 1 = true
  o16 : L 16 = true → L 8 = true
  r1 : L 1 = true → L 8 = false → x.ownsRow y.heap.size 42 3 (f 1) 0 []
  r8 : L 8 = true → L 16 = false → x.ownsRow y.heap.size 42 3 (f 8) k A
  r16 : L 16 = true → x.ownsRow y.heap.size 42 3 (f 16) n (A ++ C)
section
variable {y x x' : World} {A C : List Value} {k n : Nat} {L : Nat → Bool} {f : Nat → Value}
theorem JD.start (y : World) : JD y A C k n (fun _ => false) f y.drew :=
  ⟨(Grew.refl y).drew, (fun h => by cases h), (fun h => by cases h), (fun h => by cases h), (fun h => by cases h), (fun h => by cases h)⟩
theorem JD.s1 (h : JD y A C k n L f x) (hL : L 1 = false) : JD y A C k n (plus L 1) (updV f 1 (.slice (some ⟨x.heap.size, 0, none⟩) 0 0)) (x.alloc (.cells #[] 42)) := by
  have l8 : L 8 = false := bool_no fun h8 => by rw [h.o8 h8] at hL; cases hL
  have l16 : L 16 = false := bool_no fun h16 => by rw [h.o16 h16] at l8; cases l8
  refine ⟨h.grew.alloc _, fun _ => rfl, h.o16, fun _ _ => ?_, fun h8 => ?_, fun h16 => ?_⟩
  · exact ⟨rfl, .inr ⟨x.heap.size, 0, #[], rfl, h.grew.size, heap_alloc_new x _, Nat.le_refl _, Nat.zero_le _, rfl, rfl⟩⟩
  · change L 8 = true at h8; rw [l8] at h8; cases h8
  · change L 16 = true at h16; rw [l16] at h16; cases h16
theorem JD.s8 (h : JD y A C k n L f x) (hL : L 8 = false) (h1 : L 1 = true) {r : Value} (hrow : x'.ownsRow y.heap.size 42 3 r k A) (hg : x.grownBy x' (f 1).ownBlock) : JD y A C k n (plus L 8) (updV f 8 r) x' := by
  have l16 : L 16 = false := bool_no fun h16 => by rw [h.o16 h16] at hL; cases hL
  have hr1 := h.r1 h1 hL
  have hG : Grew y x' := ((h.grew.only _).then (Only.of_grownBy hg)).grew fun j hj => (hr1.lt j hj.symm).1
  refine ⟨hG, fun _ => h1, fun h16 => ?_, (fun _ h8 => by cases h8), fun _ _ => hrow, fun h16 => ?_⟩
  · change L 16 = true at h16; rw [l16] at h16; cases h16
  · change L 16 = true at h16; rw [l16] at h16; cases h16
theorem JD.s16 (h : JD y A C k n L f x) (hL : L 16 = false) (h8 : L 8 = true) {r : Value} (hrow : x'.ownsRow y.heap.size 42 3 r n (A ++ C)) (hg : x.grownBy x' (f 8).ownBlock) : JD y A C k n (plus L 16) (updV f 16 r) x' := by
  have hG : Grew y x' := ((h.grew.only _).then (Only.of_grownBy hg)).grew fun j hj => ((h.r8 h8 hL).lt j hj.symm).1
  refine ⟨hG, h.o8, fun _ => h8, fun _ h8' => ?_, (fun _ h16 => by cases h16), fun _ => hrow⟩
  change L 8 = false at h8'; rw [h8] at h8'; cases h8'
end
theorem erase_at {α : Type} (p : α → Bool) (xs : List α) : (idxI p xs = -1 ∧ xs.find? p = none ∧ xs.eraseP p = xs) ∨ ∃ i : Nat, ∃ h : i < xs.length, idxI p xs = (i : Nat) ∧ xs.find? p = some xs[i] ∧ xs.eraseP p = xs.take i ++ xs.drop (i + 1) := by
  unfold idxI
  cases h : xs.findIdx? p with
  | none =>
    rw [List.findIdx?_eq_none_iff] at h
    refine .inl ⟨rfl, ?_, ?_⟩
    · rw [List.find?_eq_none]
      intro x hx; simpa using h x hx
    · rw [List.eraseP_of_forall_not]
      intro x hx; simpa using h x hx
  | some i =>
    obtain ⟨hi, h1, h2⟩ := List.findIdx?_eq_some_iff_getElem.1 h
    refine .inr ⟨i, hi, rfl, ?_, ?_⟩
    · rw [List.find?_eq_some_iff_getElem]
      exact ⟨h1, i, hi, rfl, fun j hj => by simpa using h2 j hj⟩
    · rw [List.eraseP_eq_eraseIdx, h]
      exact List.eraseIdx_eq_take_drop_succ xs i
set_option maxRecDepth 100000 in
set_option maxHeartbeats 4000000 in
theorem del21_any {w : World} {G : Nat → Prop} {tb : Nat} {xs : List Pr} (h : RtAt w G tb xs) (hx : xs.length ≤ 1000000) (key : ByteArray) :
    Calls Tryz.prog 69 #[.pointer (some ⟨tb, 0, none⟩), .string key] w fun e w' => e = .returned (.bool (xs.find? (Pl.isK key)).isSome) ∧ RtTurn w G tb (xs.eraseP (Pl.isK key)) w' := by
  have HF := hid (find21_any h.read hx key)
  have HR := hid h
  obtain ⟨v, h⟩ := h
  have c0 := h.c0
  have htb := cell_lt c0
  have HH := hid h
  obtain ⟨a, cap, e, hA⟩ := pairsAt_of h.row
  subst e
  have hcap : xs.length ≤ cap ∨ (a = none ∧ xs = []) := by
    rcases h.row.2 with ⟨h1, h2⟩ | ⟨g', c', cur, h1, _, _, hq, _⟩
    · rw [Value.slice.injEq] at h1
      exact .inr ⟨h1.1, List.eq_nil_of_length_eq_zero h1.2.1⟩
    · cases h1; exact .inl hq
  clear h
  have HA := hid hA
  clear hA
  rcases erase_at (Pl.isK key) xs with ⟨e1, e2, e3⟩ | ⟨i, hi, e1, e2, e3⟩
  · rw [e1] at HF
    rw [e2, e3]
    clear e1 e2 e3
    go_enter Tryz.func69, Tryz.ntmps69
    go_wp2_with fail
    refine HF.out.mono ?_
    rintro e w1 ⟨rfl, hg⟩
    go_wp2_with fail
    go_ret
    exact ⟨rfl, RtTurn.of_grew HR.out hg⟩
  · rw [e1] at HF
    rw [e2, e3]
    rcases HA.out with h0 | ⟨b, off, rfl, hb, hR⟩
    · rw [h0] at hi; simp at hi
    have hcap' : xs.length ≤ cap := by
      rcases hcap with h | ⟨h, _⟩
      · exact h
      · cases h
    have hoff : off = 0 := by
      rcases HH.out.row.2 with ⟨h1, _⟩ | ⟨g', c', cur, h1, _⟩
      · rw [Value.slice.injEq] at h1; cases h1.1
      · cases h1; rfl
    subst hoff
    clear hR e1 e2 e3 hcap
    obtain ⟨n, hn⟩ : ∃ n, n = xs.length := ⟨_, rfl⟩
    rw [← hn] at hi hcap' hx c0
    have HN := hid hn
    clear hn
    have i1 : ¬ (i : Int) < 0 := by omega
    have i2 : (i : Int) ≤ (cap : Int) := by omega
    have i3 : ((i : Int) + 1) ≤ (n : Int) := by omega
    have i4 : i ≤ cap := by omega
    have i5 : i + 1 ≤ n := by omega
    have i6 : n ≤ cap := by omega
    have i7 : (n : Int) ≤ (cap : Int) := by omega
    have i8 : (0 : Int) ≤ (i : Int) := by omega
    have i9 : (0 : Int) ≤ (i : Int) + 1 := by omega
    have i10 : i < 1000000 := by omega
    go_enter Tryz.func69, Tryz.ntmps69
    go_wp2_with fail
    refine HF.out.mono ?_
    rintro e w1 ⟨rfl, hg⟩
    have HG1 := hid hg
    clear hg
    go_wp2_with fail
    have HPA : Hid (PairsAt w1 (some ⟨b, 0, none⟩) xs) := by
      obtain ⟨a', cap', e', hP⟩ := pairsAt_of HH.out.row
      cases e'
      exact hP.grew HG1.out
    have C0 := wd_cell (w := w1) ((HG1.out.cells.1 _ _ htb).trans c0)
    have htb1 := Nat.lt_of_lt_of_le htb HG1.out.size
    refine wp_region_mix 17 [1, 8, 16] (Grew w1) Eq (JD w1 (prFlat (xs.take i)) (prFlat (xs.drop (i + 1))) i (n - 1)) (fun f a => ((a.put (some 12) (f 1)).put (some 19) (f 8)).put (some 27) (f 16)) (by kernel_rfl) (by kernel_rfl) (fun _ _ => rfl) (JD.start w1) (fun L f x h => h.grew) (fun _ => rfl) (fun _ _ _ _ h g => g ▸ h) ?_
    repeat (first
    | (refine wpMix_loose (by rfl) (by rfl) ?_)
    | (refine wpMix_plain (by rfl) (by rfl) (by rfl) (by first | exact Grew.refl | exact fun _ => rfl) (by rfl) ?_; intro K hK; go_big_quiet_op; go_big_quiet_on)
    | (refine wpMix_skip (by rfl) (by rfl) (by rfl) ?_; simp only [Act.put, List.setIfInBounds_toArray, List.set_cons_zero, List.set_cons_succ]))
    refine wpMix_done (by rfl) ⟨⟨loose_of rfl (fun _ a => a) (fun _ _ => rfl) (fun _ => rfl) ?_, loose_of rfl (fun f a => a.put (some 12) (f 1)) (fun _ _ => rfl) (fun _ => rfl) ?_, loose_of rfl (fun f a => a.put (some 19) (f 8)) (fun _ _ => rfl) (fun _ => rfl) ?_, trivial⟩, ?_⟩
    · intro L f x hJ hL hd
      have hm := hid (hJ.s1 hL)
      clear C0 hJ
      go_simp
      exact hm.out
    · intro L f x hJ hL hd
      clear C0
      have h1 := hd 1 rfl (by decide)
      refine uponV_append_pairs _ _ rfl (B := w1.heap.size) (v := f 1) (m := 0) (ys := []) (xs := xs.take i) rfl (hJ.r1 h1 hL) (ao := some ⟨b, 0, none⟩) (n := i) (cap := cap) rfl (by rw [List.length_take]; have := HN.out; omega) (pairs_take (HPA.out.grew hJ.grew) _) (.inr ⟨_, _, rfl⟩) (by omega) hJ.grew.size ?_
      intro r x' hrow hgr how
      refine hJ.s8 hL h1 ?_ hgr
      simpa using hrow
    · intro L f x hJ hL hd
      clear C0
      have h8 := hd 8 rfl (by decide)
      refine uponV_append_pairs _ _ rfl (B := w1.heap.size) (v := f 8) (m := i) (ys := xs.take i) (xs := xs.drop (i + 1)) rfl (hJ.r8 h8 hL) (ao := (if cap = i + 1 then some ⟨b, 0, none⟩ else some ⟨b, (i + 1) * 3, none⟩)) (n := n - (i + 1)) (cap := cap - (i + 1)) ?_ (by rw [List.length_drop]; have := HN.out; omega) (by have := pairs_drop (HPA.out.grew hJ.grew) (i + 1); rw [Nat.zero_add] at this; split; exact .inl (List.drop_eq_nil_of_le (by have := HN.out; omega)); exact this) (by split <;> exact .inr ⟨_, _, rfl⟩) (by omega) hJ.grew.size ?_
      · rfl
      intro r x' hrow hgr how
      refine hJ.s16 hL h8 ?_ hgr
      rw [prFlat_append] at hrow
      rw [show n - 1 = i + (n - (i + 1)) by omega]
      exact hrow
    rintro f x hJ
    clear C0
    have r16 := hJ.r16 rfl
    have hform : ∃ a' cap', f 16 = .slice a' (n - 1) cap' := by
      rcases r16.2 with ⟨h1, h2⟩ | ⟨g', c', cur, h1, _⟩
      · have hz := r16.1
        rw [h2] at hz
        simp at hz
        rw [h1]
        exact ⟨none, 0, by first | rw [hz] | (rw [← hz]) | simp_all⟩
      · exact ⟨_, _, h1⟩
    obtain ⟨a', cap', e16⟩ := hform
    rw [e16] at r16
    rw [e16]
    have hGx := HG1.out.trans hJ.grew
    have HK := HH.out.kept (hGx.only fun _ => False) (fun _ _ h => h)
    have cx := HK.c0
    have fx := HK.f0
    have htbx := cell_lt cx
    have HFIN : Hid (RtTurn w G tb (xs.take i ++ xs.drop (i + 1)) (x.setCell ⟨tb, 0, none⟩ (.slice a' (n - 1) cap'))) := by
      refine HH.out.store (hGx.only _) ⟨_, cx⟩ fx ?_ fun g hg => ?_
      · have hl : (xs.take i ++ xs.drop (i + 1)).length = n - 1 := by rw [List.length_append, List.length_take, List.length_drop]; have := HN.out; omega
        rw [hl, prFlat_append]
        exact ownsRow_base (Nat.zero_le _) r16
      · have h1 := r16.lt g hg
        have h2 := HG1.out.size
        exact ⟨.inr (by omega), by omega, h1.2⟩
    clear hJ e16 r16 HK hGx
    dsimp only [List.drop]
    go_wp2_with fail
    all_goals (go_ret; exact ⟨rfl, HFIN.out⟩)
theorem wpList_append_pairs2 {ops : Array Oper} {rest : List Oper} {o : Oper} {a : Act} {Q : Exit → Act → World → Prop} (hgd : o.guard = none) (s x : Operand)
    (ho : o.op = .call { callee := .builtin .append, args := #[s, x], argTypes := #[36, 36] }) {w : World} {B : Nat} {v : Value} {m : Nat} {ys xs : List Pr} (hs : a.eval s = v) (hown : w.ownsRow B 42 3 v m (prFlat ys))
    {ao : Option Addr} {n cap : Nat} (hx : a.eval x = .slice ao n cap) (hn : n = xs.length) (hA : PairsAt w ao xs) (hf : SlForm ao cap) (hbig : m + n ≤ 2000000) (hB : B ≤ w.heap.size)
    (h : ∀ a' cap' w', w'.ownsRow B 42 3 (.slice a' (m + n) cap') (m + n) (prFlat (ys ++ xs)) → w.grownBy w' v.ownBlock → (∀ g, Value.ownBlock (.slice a' (m + n) cap') = some g → v.ownBlock = some g ∨ g = w.heap.size) → wpList Tryz.prog ops Q rest (a.put o.dst (.slice a' (m + n) cap')) w') : wpList Tryz.prog ops Q (o :: rest) a w := by
  obtain ⟨a', cap', w', hr, h2, h3, h4⟩ := run_append_pairs hown hn hA hf hbig hB o.type
  exact Lib.wpList_append_run w hgd s x _ _ ho _ _ hs hx _ _ hr (h a' cap' w' h2 h3 h4)
def Pl.put21 (xs : List Pr) (p : Pr) : List Pr := if Pl.putN p = 0 then xs.eraseP (Pl.isK p.key) ++ [p] else xs
theorem erase_len (p : Pr → Bool) (xs : List Pr) : (xs.eraseP p).length ≤ xs.length := List.length_eraseP_le
set_option maxRecDepth 100000 in
set_option maxHeartbeats 4000000 in
theorem put21_any {w : World} {G : Nat → Prop} {tb : Nat} {xs : List Pr} (h : RtAt w G tb xs) (hx : xs.length ≤ 1000000) (key val : ByteArray) (v : Int) (hk : key.size ≤ 16777216) (hv : val.size ≤ 140737488351232) :
    Calls Tryz.prog 70 #[.pointer (some ⟨tb, 0, none⟩), .string key, .string val, .int .i64 v] w fun e w' => e = .returned (.int .i64 (Pl.putN ⟨key, val, v⟩ : Nat)) ∧ RtTurn w G tb (Pl.put21 xs ⟨key, val, v⟩) w' := by
  have HR := hid h
  have HKY := hid (ref_key key w hk)
  have HD := hid (fun W (g : Grew w W) => del21_any (h.grew g) hx key)
  have HL := hid (erase_len (Pl.isK key) xs)
  clear h
  have HNE : Hid (Pl.putN ⟨key, val, v⟩ = if Pl.keyN key ≠ 0 then Pl.keyN key else if 64 < val.size then 3 else if v < 1 ∨ 4096 < v then 1 else 0) := rfl
  have HPT : Hid (Pl.put21 xs ⟨key, val, v⟩ = if Pl.putN ⟨key, val, v⟩ = 0 then xs.eraseP (Pl.isK key) ++ [⟨key, val, v⟩] else xs) := rfl
  generalize Pl.put21 xs ⟨key, val, v⟩ = zs at HPT ⊢
  generalize Pl.putN ⟨key, val, v⟩ = ne at HNE HPT ⊢
  by_cases hkn : Pl.keyN key = 0
  · rw [hkn] at HKY
    by_cases h64 : 64 < val.size
    · have e1 : ne = 3 := by rw [HNE.out, if_neg (by simp [hkn]), if_pos h64]
      subst e1
      have e2 : zs = xs := by rw [HPT.out, if_neg (by decide)]
      subst e2
      have h64' : (64 : Int) < (val.size : Int) := by omega
      clear HNE hkn HPT
      go_enter Tryz.func70, Tryz.ntmps70
      go_wp2_with fail
      refine HKY.out.mono ?_
      rintro e w1 ⟨rfl, hg⟩
      go_wp2_with fail
      go_ret
      exact ⟨rfl, RtTurn.of_grew HR.out hg⟩
    · have h64' : (val.size : Int) ≤ 64 := by omega
      by_cases hr : v < 1 ∨ 4096 < v
      · have e1 : ne = 1 := by rw [HNE.out, if_neg (by simp [hkn]), if_neg h64, if_pos hr]
        subst e1
        have e2 : zs = xs := by rw [HPT.out, if_neg (by decide)]
        subst e2
        clear HNE hkn HPT h64
        by_cases hr1 : v < 1
        · go_enter Tryz.func70, Tryz.ntmps70
          go_wp2_with fail
          refine HKY.out.mono ?_
          rintro e w1 ⟨rfl, hg⟩
          go_wp2_with fail
          go_ret
          exact ⟨rfl, RtTurn.of_grew HR.out hg⟩
        · have hr2 : 4096 < v := by omega
          go_enter Tryz.func70, Tryz.ntmps70
          go_wp2_with fail
          refine HKY.out.mono ?_
          rintro e w1 ⟨rfl, hg⟩
          go_wp2_with fail
          go_ret
          exact ⟨rfl, RtTurn.of_grew HR.out hg⟩
      · have hr1 : 1 ≤ v := by omega
        have hr2 : v ≤ 4096 := by omega
        have e1 : ne = 0 := by rw [HNE.out, if_neg (by simp [hkn]), if_neg h64, if_neg hr]
        subst e1
        have e2 : zs = xs.eraseP (Pl.isK key) ++ [⟨key, val, v⟩] := by rw [HPT.out, if_pos rfl]
        subst e2
        clear HNE hkn HPT h64 hr
        generalize xs.eraseP (Pl.isK key) = ys at *
        go_enter Tryz.func70, Tryz.ntmps70
        go_wp2_with fail
        refine HKY.out.mono ?_
        rintro e w1 ⟨rfl, hg⟩
        have HG1 := hid hg
        clear hg
        go_wp2_with fail
        refine (HD.out _ HG1.out).mono ?_
        rintro e w2 ⟨rfl, hO, G2, ⟨u, hI⟩, hG2⟩
        have HO := hid hO
        have HI := hid hI
        have HG2 := hid hG2
        have c0 := hI.c0
        have htb := cell_lt c0
        obtain ⟨a2, cap2, eu, _⟩ := pairsAt_of hI.row
        subst eu
        clear hO hI hG2
        have HL2 := HL.out
        have HROW := hid (fun W (g : Grew w2 W) => ownsRow_grew g HI.out.row)
        go_wp2_with (at_builtin; refine wpList_append_pairs2 rfl _ _ rfl rfl (HROW.out _ ((Grew.refl w2).alloc _)) rfl rfl (pairs_one (p := ⟨key, val, v⟩) (heap_alloc_new w2 _)) (.inr ⟨_, _, rfl⟩) (by simp only [List.length_cons, List.length_nil]; omega) (Nat.zero_le _) ?_)
        intro a' cap' w3 hrow hgr how
        have ho1 : Only (fun j => some j = Value.ownBlock (.slice a2 ys.length cap2)) w2 w3 := (((Grew.refl w2).alloc (Obj.cells #[.string key, .string val, .int .i64 v] 42)).only _).then (Only.of_grownBy hgr)
        have hn2 : ¬ some tb = Value.ownBlock (.slice a2 ys.length cap2) := fun e => (HI.out.own _ e.symm).2 rfl
        have c3 := (ho1.cell htb hn2 0).trans HI.out.c0
        have f3 := (ho1.frozen htb hn2 0).trans HI.out.f0
        have htb3 := cell_lt c3
        have HFIN : Hid (RtTurn w G tb (ys ++ [⟨key, val, v⟩]) (w3.setCell ⟨tb, 0, none⟩ (.slice a' (ys.length + 1) cap'))) := by
          have hO1 : Only G w w2 := (HG1.out.only _).then HO.out
          refine RtTurn.trans hO1 (fun j hj => ?_) (HI.out.store (ho1.mono fun j (hj : some j = _) => .inl (HI.out.own j hj.symm).1) ⟨_, c3⟩ f3 ?_ fun g hg => ?_)
          · rcases HG2.out j hj with h | h
            · exact .inl h
            · exact .inr (Nat.le_trans HG1.out.size h)
          · rw [List.length_append]
            exact hrow
          · have hlt := hrow.lt g hg
            rcases how g hg with h | h
            · exact ⟨.inl (HI.out.own g h).1, (HI.out.own g h).2, hlt.2⟩
            · have hs3 : w2.heap.size ≤ g := by rw [h]; exact Nat.le_succ _
              exact ⟨.inr (by omega), by omega, hlt.2⟩
        clear hrow hgr how ho1 HROW hn2
        go_wp2_with fail
        go_ret
        exact ⟨rfl, HFIN.out⟩
  · have e1 : ne = Pl.keyN key := by rw [HNE.out, if_pos hkn]
    have e2 : zs = xs := by rw [HPT.out, if_neg (by rw [e1]; exact hkn)]
    subst e2
    subst e1
    clear HNE HPT
    have hkn' : (Pl.keyN key : Int) ≠ 0 := by omega
    generalize Pl.keyN key = kn at *
    go_enter Tryz.func70, Tryz.ntmps70
    go_wp2_with fail
    refine HKY.out.mono ?_
    rintro e w1 ⟨rfl, hg⟩
    go_wp2_with fail
    go_ret
    exact ⟨rfl, RtTurn.of_grew HR.out hg⟩
end Go.Proofs.YtbdagllflamabaaGreatDoor
namespace Go.Proofs.YtbdagllflamabaaGreatDoor
open Go.RowKit Go.Maps
attribute [local go_sem] Oper.semAt_some
def Pl.cutB (key : ByteArray) (p : Pr) : Bool := Pl.right key && !(Op.bytesLess p.key.toList key.toList)
structure CutIs (w wr : World) (ab bb : Nat) (ys zs : List Pr) : Prop where
  ex : ∃ Ga Gb, RtAt wr Ga ab ys ∧ RtAt wr Gb bb zs ∧ (∀ j, Ga j → w.heap.size ≤ j ∧ ¬ Gb j) ∧ (∀ j, Gb j → w.heap.size ≤ j)
end Go.Proofs.YtbdagllflamabaaGreatDoor
namespace Go.Proofs.YtbdagllflamabaaGreatDoor
open Go.RowKit Go.Maps
attribute [local go_sem] Oper.semAt_some
theorem putT_any {S : Nat → Bool} (hS : TabS S) (E : Nat → Addr) {w : World} (hE : Errs S E w) {F : Nat → Prop} {tb : Nat} {xs : List Pr} (h : TabAt w F tb xs) (hx : xs.length ≤ 1000000) (key val : ByteArray) (v : Int) (hy : key.size ≤ 70368744177664) (hv : val.size ≤ 140737488351232) :
    Calls Tryz.prog 68 #[.pointer (some ⟨tb, 0, none⟩), .string key, .string val, .int .i64 v] w fun e w' => e = .returned (errOf E (Pl.putN ⟨key, val, v⟩)) ∧ TabTurn w F tb (Pl.putT xs ⟨key, val, v⟩) w' := by
  by_cases hn : Pl.putN ⟨key, val, v⟩ = 0
  · have e : Pl.putT xs ⟨key, val, v⟩ = Pl.tput xs ⟨key, val, v⟩ := by unfold Pl.putT; rw [if_pos hn]
    rw [hn, e]
    cases hb : Pl.hasB xs key with
    | true => exact putT_over hS E hE h hx key val v hy hv hn hb
    | false => exact putT_new hS E hE h hx key val v hy hv hn hb
  · have e : Pl.putT xs ⟨key, val, v⟩ = xs := by unfold Pl.putT; rw [if_neg hn]
    rw [e]
    exact (putT_err hS E hE tb key val v hy hv hn).mono fun e w' ⟨he, hg⟩ => ⟨he, TabTurn.of_grew h hg⟩
set_option maxRecDepth 100000 in
set_option maxHeartbeats 4000000 in
theorem scanT_any {S : Nat → Bool} (hS : TabS S) (E : Nat → Addr) {w : World} (hE : Errs S E w) {F : Nat → Prop} {tb : Nat} {xs : List Pr} (h : TabAt w F tb xs) (hx : xs.length ≤ 1000000) (lo hi : ByteArray) (limit : Int) (hlo : lo.size ≤ 70368744177664) (hhi : hi.size ≤ 70368744177664) :
    Calls Tryz.prog 47 #[.pointer (some ⟨tb, 0, none⟩), .agg #[.string lo, .string hi], .int .i64 limit] w fun e w' => (∃ v, e = .returned v ∧ w'.ownsRow w.heap.size 42 3 v (Pl.scanT xs lo hi limit).length (prFlat (Pl.scanT xs lo hi limit))) ∧ Grew w w' := by
  have HE := hid hE
  obtain ⟨vv, h⟩ := h
  obtain ⟨a, cap, rfl, hA⟩ := pairsAt_of h.row
  have c0 := h.cell
  have htb : tb < w.heap.size := cell_lt c0
  have HS := hid h.szAt
  have HA := hid hA
  obtain ⟨i0, hi0, hz0, hz1, hz2⟩ := info_parts infoPair
  clear hE h hA
  go_enter Tryz.func47, Tryz.ntmps47
  go_wp2_with fail
  go_loopw [7, 15] (fun v i wr => ∃ (k m : Nat) (ys : List Pr) (a2 : Option Addr) (cap2 : Nat), k ≤ xs.length ∧ v = .slice a2 m cap2 ∧ i = .int .i64 k ∧ Hid (ys = Pl.scanT (xs.take k) lo hi limit) ∧ Hid (m = ys.length) ∧ m ≤ k ∧ wr.ownsRow (w.heap.size + 1) 42 3 (.slice a2 m cap2) m (prFlat ys) ∧ Grew w wr ∧ wr.cell? ⟨w.heap.size, 0, none⟩ = some (.string lo) ∧ wr.cell? ⟨w.heap.size, 1, none⟩ = some (.string hi) ∧ w.heap.size < wr.heap.size) (fun _ i _ => xs.length - (intOf i).toNat)
  case atStart => exact ⟨0, 0, [], none, 0, Nat.zero_le _, rfl, rfl, by unfold Hid Pl.scanT; simp, by unfold Hid; rfl, Nat.zero_le _, World.ownsRow_nil _ _ _ _, (Grew.refl w).alloc _, by simp [go_sem], by simp [go_sem], by simp⟩
  case round =>
    obtain ⟨k, m, ys, a2, cap2, hk1, rfl, rfl, HY, HM, hmk, hown, hG, l0, l1, hzr⟩ := hrel
    by_cases hlt : k < xs.length
    · rcases HA.out with h0 | ⟨b, off, rfl, hb, hR⟩
      · rw [h0] at hlt; simp at hlt
      have q0 := (hG.cells.1 b (off + k * 3) hb).trans (hR.key k hlt)
      have q1 := (hG.cells.1 b (off + k * 3 + 1) hb).trans (hR.val k hlt)
      have q2 := (hG.cells.1 b (off + k * 3 + 2) hb).trans (hR.ver k hlt)
      have HN := hid (Pl.scan_snoc xs lo hi limit k hlt)
      have HHAS := hid (fun W (g : Grew w W) => has_span S E ⟨hS.h2, hS.h3, hS.h6, hS.h7⟩ lo hi (prAt xs k).key W hlo hhi (HS.out k hlt) (HE.out.grew g))
      clear hR
      generalize prAt xs k = c at *
      obtain ⟨ck, cv, cn⟩ := c
      dsimp only at *
      by_cases hlm : (m : Int) < limit
      · cases hb2 : Pl.hasS lo hi ck with
        | true =>
          have HN2 : Hid (ys ++ [⟨ck, cv, cn⟩] = Pl.scanT (xs.take (k + 1)) lo hi limit) := by
            unfold Hid; rw [HN.out, ← HY.out, if_pos ⟨by rw [← HM.out]; exact hlm, hb2⟩]
          rw [hb2] at HHAS
          have HR2 : Hid (prFlat ys ++ [.string ck, .string cv, .int .i64 cn] = prFlat (ys ++ [⟨ck, cv, cn⟩])) := by unfold Hid; rw [prFlat_append, prFlat_one]; rfl
          have HM2 : Hid (m + 1 = (ys ++ [(⟨ck, cv, cn⟩ : Pr)]).length) := by unfold Hid; rw [List.length_append, ← HM.out]; rfl
          clear hb2 HN
          go_wp2_with fail
          refine (HHAS.out _ (hG.alloc _)).mono ?_
          rintro e w1 ⟨rfl, hg1⟩
          have hG1 := (hG.alloc _).trans hg1
          have sz1 := hg1.size
          have o1 := (Grew.refl wr).alloc (.cells #[.string ck, .string cv, .int .i64 cn] 42) |>.trans hg1
          have l0' := (o1.cells.1 _ _ hzr).trans l0
          have l1' := (o1.cells.1 _ _ hzr).trans l1
          have k0 : w1.cell? ⟨wr.heap.size, 0, none⟩ = some (.string ck) := by rw [hg1.cells.1 _ _ (by simp)]; simp [go_sem]
          have k1 : w1.cell? ⟨wr.heap.size, 1, none⟩ = some (.string cv) := by rw [hg1.cells.1 _ _ (by simp)]; simp [go_sem]
          have k2 : w1.cell? ⟨wr.heap.size, 2, none⟩ = some (.int .i64 cn) := by rw [hg1.cells.1 _ _ (by simp)]; simp [go_sem]
          have hown1 := ownsRow_grew o1 hown
          have hz1' : w.heap.size < w1.heap.size := by have := o1.size; omega
          clear l0 l1 hown o1
          go_wp2_with (at_builtin; refine wpList_append_lies _ rfl _ _ 36 rfl (w.heap.size + 1) 42 i0 _ 3 40 Tryz.underlying36 hi0 hz0 hz1 hz2 rfl (by omega) _ m (prFlat ys) rfl (hown1.alloc _) ⟨w1.heap.size, 0, none⟩ 1 1 [.string ck, .string cv, .int .i64 cn] rfl rfl (World.news_of_block (cs := #[.string ck, .string cv, .int .i64 cn]) (t := 42) (fr := (0, 0)) (heap_alloc_new w1 _)) (by simp [Value.oneCell']) (by omega) (by unfold maxLen; omega) (by omega) ?_ _ rfl ?_)
          · simp; omega
          · intro g capg w2 hown2 hgrow hat hlt2
            have hS : ∀ j, some j = Value.ownBlock (.slice a2 m cap2) → w.heap.size + 1 ≤ j := fun j hj => (hown1.lt j hj.symm).1
            have o2 : Only (fun j => some j = Value.ownBlock (.slice a2 m cap2)) w1 w2 := (((Grew.refl w1).alloc _).only _).then (Only.of_grownBy hgrow)
            have hG2 : Grew w w2 := ((hG1.only _).then o2).grew (fun j hj => Nat.le_of_succ_le (hS j hj))
            have n1 : ¬ some w.heap.size = Value.ownBlock (.slice a2 m cap2) := fun e => by have := hS _ e; omega
            have l0'' := (o2.cell hz1' n1 0).trans l0'
            have l1'' := (o2.cell hz1' n1 1).trans l1'
            have hz2' : w.heap.size < w2.heap.size := Nat.lt_of_lt_of_le hz1' o2.size
            rw [HR2.out] at hown2
            clear o2 hgrow hat hown1 l0' l1' hS n1 k0 k1 k2 hG1 sz1 hz1'
            go_wp2_with fail
            go_roundw
            case rel => exact ⟨k + 1, m + 1, ys ++ [⟨ck, cv, cn⟩], _, capg, by omega, rfl, by go_num, HN2, HM2, by omega, hown2, hG2, l0'', l1'', hz2'⟩
            case measure => simp [intOf]; omega
        | false =>
          have HN2 : Hid (ys = Pl.scanT (xs.take (k + 1)) lo hi limit) := by
            unfold Hid; rw [HN.out, ← HY.out, if_neg (fun h => by rw [hb2] at h; cases h.2), List.append_nil]
          rw [hb2] at HHAS
          clear hb2 HN
          go_wp2_with fail
          refine (HHAS.out _ (hG.alloc _)).mono ?_
          rintro e w1 ⟨rfl, hg1⟩
          have hG1 := (hG.alloc _).trans hg1
          have o1 := (Grew.refl wr).alloc (.cells #[.string ck, .string cv, .int .i64 cn] 42) |>.trans hg1
          have l0' := (o1.cells.1 _ _ hzr).trans l0
          have l1' := (o1.cells.1 _ _ hzr).trans l1
          have hown1 := ownsRow_grew o1 hown
          have hz1' : w.heap.size < w1.heap.size := by have := o1.size; omega
          clear l0 l1 hown o1
          go_wp2_with fail
          go_roundw
          case rel => exact ⟨k + 1, m, ys, a2, cap2, by omega, rfl, by go_num, HN2, HM, by omega, hown1, hG1, l0', l1', hz1'⟩
          case measure => simp [intOf]; omega
      · have HN2 : Hid (ys = Pl.scanT (xs.take (k + 1)) lo hi limit) := by
          unfold Hid; rw [HN.out, ← HY.out, if_neg (fun h => hlm (by rw [HM.out]; exact h.1)), List.append_nil]
        have hown1 := ownsRow_grew ((Grew.refl wr).alloc (.cells #[.string ck, .string cv, .int .i64 cn] 42)) hown
        have hG1 := hG.alloc (.cells #[.string ck, .string cv, .int .i64 cn] 42)
        have o1 := (Grew.refl wr).alloc (.cells #[.string ck, .string cv, .int .i64 cn] 42)
        have l0' := (o1.cells.1 _ _ hzr).trans l0
        have l1' := (o1.cells.1 _ _ hzr).trans l1
        clear HN hown o1
        go_wp2_with fail
        go_roundw
        case rel => exact ⟨k + 1, m, ys, a2, cap2, by omega, rfl, by go_num, HN2, HM, by omega, hown1, hG1, l0', l1', by simp; omega⟩
        case measure => simp [intOf]; omega
    · obtain rfl : k = xs.length := by omega
      rw [List.take_length] at HY
      go_wp2_with fail
      go_ret
      exact ⟨⟨_, rfl, by rw [← HY.out, ← HM.out]; exact ownsRow_base (Nat.le_succ _) hown⟩, hG⟩
end Go.Proofs.YtbdagllflamabaaGreatDoor
