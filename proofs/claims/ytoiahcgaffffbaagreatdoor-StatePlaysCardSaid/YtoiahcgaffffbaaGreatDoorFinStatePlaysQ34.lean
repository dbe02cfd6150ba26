/- Made, Num19, DelB, DelOf, RgnQ, BzW, Byt37, Byt22: one text. -/
import Derived.Test.YtoiahcgaffffbaaGreatDoorFinStatePlaysQ30
import Derived.Test.YtoiahcgaffffbaaGreatDoorFinStatePlaysQ28
import Derived.Test.YtoiahcgaffffbaaGreatDoorFinStatePlaysQ33
import Derived.Test.YtoiahcgaffffbaaGreatDoorFinStatePlaysQ2
import Derived.Test.YtoiahcgaffffbaaGreatDoorFinStatePlaysQ7
import Derived.Test.YtoiahcgaffffbaaGreatDoorFinStatePlaysQ4
import Derived.Test.YtoiahcgaffffbaaGreatDoorFinStatePlaysQ25
import Derived.Test.YtoiahcgaffffbaaGreatDoorFinStatePlaysQ21
import Derived.Test.YtoiahcgaffffbaaGreatDoorFinStatePlaysQ5
set_option linter.unusedVariables false
set_option linter.unusedSectionVars false
set_option linter.unusedSimpArgs false
namespace Go.Proofs.YtoiahcgaffffbaaGreatDoor
open Go.RowKit Go.Maps
attribute [local go_sem] Oper.semAt_some
def Md.spanLo (m : Md) : ByteArray := if Pl.rightR m.lo m.hi = true then m.lo else ⟨#[]⟩
def Md.spanHi (m : Md) : ByteArray := if Pl.rightR m.lo m.hi = true then m.hi else ⟨#[]⟩
structure MdW (w W : World) (m : Md) (st ms : Nat) : Prop where
  ex : ∃ n P S, n ≤ 30 ∧ P.length ≤ 240 ∧ TwS w W st ms n m.spanLo m.spanHi P S
end Go.Proofs.YtoiahcgaffffbaaGreatDoor
namespace Go.Proofs.YtoiahcgaffffbaaGreatDoor
open Go.RowKit
theorem num_all (E : Nat → Addr) (k : Nat) (hk : k ≤ 19) (w : World) (hE : Errs allS E w) :
    Calls Tryz.prog 27 #[errOf E k] w fun e w' => e = .returned (.int .i64 (k : Nat)) ∧ Grew w w' := by
  by_cases h0 : k = 0
  · subst h0
    exact (num_nil w).mono fun e w' ⟨he, hw⟩ => ⟨he, by rw [← hw]; exact Grew.refl _⟩
  · rw [errOf_pos E k h0]
    exact num_err E k (by omega) hk w hE
end Go.Proofs.YtoiahcgaffffbaaGreatDoor
namespace Go.Proofs.YtoiahcgaffffbaaGreatDoor
open Go.RowKit Go.Maps
namespace Pl
theorem clB_len {x : Int × An} (h : 1 ≤ x.1 ∧ x.1 ≤ 4 ∧ x.2.Ok) : (clB x).length ≤ 20 := by
  obtain ⟨q1, q2, q3⟩ := h
  have a1 := numB_len 4 x.1.toNat (by omega)
  have a2 := numB_len 4 x.2.seq.toNat (by have := q3.s1; have := q3.s2; omega)
  have a3 := numB_len 4 x.2.code.toNat (by have := q3.c1; omega)
  have a4 := numB_len 4 x.2.at_.toNat (by have := q3.a1; have := q3.a2; omega)
  unfold clB
  simp only [List.length_append]
  omega
theorem clsB_len : ∀ {C : List (Int × An)}, (∀ x ∈ C, 1 ≤ x.1 ∧ x.1 ≤ 4 ∧ x.2.Ok) → (clsB C).length ≤ C.length * 20
  | [], _ => by simp [clsB]
  | x :: C, h => by
    have h1 := clB_len (h x (by simp))
    have h2 := clsB_len fun y hy => h y (List.mem_cons_of_mem _ hy)
    rw [show clsB (x :: C) = clB x ++ clsB C from rfl, List.length_append, List.length_cons]
    omega
end Pl
end Go.Proofs.YtoiahcgaffffbaaGreatDoor
namespace Go.Proofs.YtoiahcgaffffbaaGreatDoor
open Go.RowKit Go.Maps
attribute [local go_sem] Oper.semAt_some uponV
structure OfD (w W : World) (TC : TypeId) (db rb : Nat) (lo hi : ByteArray) (v1 v2 : Value) (C : List (Int × An)) (vc : Value) : Prop where
  grew : Grew w W
  new : w.heap.size ≤ db
  c0 : W.cell? ⟨db, 0, none⟩ = some (.string lo)
  c1 : W.cell? ⟨db, 1, none⟩ = some (.string hi)
  c2 : W.cell? ⟨db, 2, none⟩ = some v1
  c3 : W.cell? ⟨db, 3, none⟩ = some v2
  c : Rw W w.heap.size TC 4 db 4 vc C.length (clFlat C)
  r : ∀ i, i < 5 → (∃ u, W.cell? ⟨rb, i, none⟩ = some u) ∧ W.frozen? ⟨rb, i, none⟩ = false
  rnew : w.heap.size ≤ rb ∧ rb ≠ db
  rc : vc.ownBlock ≠ some rb
section
variable {w W X X2 : World} {TC : TypeId} {db rb : Nat} {lo hi : ByteArray} {v1 v2 vc v' : Value} {C C' : List (Int × An)}
theorem OfD.lt (h : OfD w W TC db rb lo hi v1 v2 C vc) : rb < W.heap.size := by
  obtain ⟨⟨u, hu⟩, _⟩ := h.r 0 (by omega)
  exact cell_lt hu
theorem OfD.more (h : OfD w W TC db rb lo hi v1 v2 C vc) (g : Grew W X) : OfD w X TC db rb lo hi v1 v2 C vc :=
  have l : db < W.heap.size := cell_lt h.c0
  have lr : rb < W.heap.size := h.lt
  ⟨h.grew.trans g, h.new, (g.cells.1 _ _ l).trans h.c0, (g.cells.1 _ _ l).trans h.c1, (g.cells.1 _ _ l).trans h.c2, (g.cells.1 _ _ l).trans h.c3, h.c.grew g, fun i hi => by
    obtain ⟨⟨u, hu⟩, hf⟩ := h.r i hi
    exact ⟨⟨u, (g.cells.1 _ _ lr).trans hu⟩, (g.cells.2 _ _ lr).trans hf⟩, h.rnew, h.rc⟩
end
end Go.Proofs.YtoiahcgaffffbaaGreatDoor
namespace Go.Proofs.YtoiahcgaffffbaaGreatDoor
open Go.RowKit Go.Maps
def MonoQ (R : Nat → Value → World → Prop) : Prop := ∀ i v x x', R i v x → Grew x x' → R i v x'
structure JQ (R : Nat → Value → World → Prop) (y : World) (L : Nat → Bool) (f : Nat → Value) (x : World) : Prop where
  grew : Grew y x
  at_ : ∀ i, L i = true → R i (f i) x
section
variable {R : Nat → Value → World → Prop} {y x x' : World} {L : Nat → Bool} {f : Nat → Value}
theorem JQ.start (R : Nat → Value → World → Prop) (y : World) (f : Nat → Value) : JQ R y (fun _ => false) f y.drew := ⟨(Grew.refl y).drew, fun i h => by cases h⟩
theorem JQ.more (hR : MonoQ R) (h : JQ R y L f x) (g : Grew x x') : JQ R y L f x' := ⟨h.grew.trans g, fun i hi => hR _ _ _ _ (h.at_ i hi) g⟩
theorem JQ.put (hR : MonoQ R) (h : JQ R y L f x) (i : Nat) {v : Value} (g : Grew x x') (hv : R i v x') : JQ R y (plus L i) (updV f i v) x' := by
  refine ⟨h.grew.trans g, fun j hj => ?_⟩
  by_cases e : j = i
  · subst e; rw [updV_same]; exact hv
  · rw [updV_ne e]; rw [plus_ne e] at hj; exact hR _ _ _ _ (h.at_ j hj) g
theorem JQ.same (hR : MonoQ R) (h : JQ R y L f x) (i : Nat) {v : Value} (hv : R i v x) : JQ R y (plus L i) (updV f i v) x := h.put hR i (Grew.refl x) hv
end
end Go.Proofs.YtoiahcgaffffbaaGreatDoor
namespace Go.Proofs.YtoiahcgaffffbaaGreatDoor
open Go.RowKit Go.Maps
def BytesV (B : Nat) (cs : List Int) (v : Value) (x : World) : Prop := ∃ a c, v = .slice a cs.length c ∧ x.ownsRow B 5 1 v cs.length (u8Flat cs)
theorem BytesV.grew {B : Nat} {cs : List Int} {v : Value} {x x' : World} (h : BytesV B cs v x) (g : Grew x x') : BytesV B cs v x' := by
  obtain ⟨a, c, e, hr⟩ := h
  exact ⟨a, c, e, ownsRow_grew g hr⟩
def InV (V : List (Nat × List Value)) (j : Nat) : Prop := ∃ p ∈ V, p.1 = j
structure Bz (w W : World) (V : List (Nat × List Value)) (v : Value) (cs : List Int) : Prop where
  grew : Grew w W
  c : ∀ p ∈ V, ∀ (i : Nat) u, p.2[i]? = some u → W.cell? ⟨p.1, i, none⟩ = some u
  row : RowZ w.heap.size (InV V) W v cs
section
variable {w W X : World} {V : List (Nat × List Value)} {v v' : Value} {cs ds : List Int}
theorem Bz.lt (h : Bz w W V v cs) : ∀ p ∈ V, p.1 < W.heap.size := fun p hp => h.row.lt _ ⟨p, hp, rfl⟩
theorem Bz.start (g : Grew w W) (hr : BytesV w.heap.size cs v W) : Bz w W [] v cs := by
  obtain ⟨a, c, e, hr⟩ := hr
  exact ⟨g, fun p hp => by simp at hp, ⟨⟨a, c, e⟩, hr, fun j _ hz => by obtain ⟨p, hp, _⟩ := hz; simp at hp, g.size, fun j hz => by obtain ⟨p, hp, _⟩ := hz; simp at hp⟩⟩
theorem Bz.more (h : Bz w W V v cs) (g : Grew W X) : Bz w X V v cs :=
  ⟨h.grew.trans g, fun p hp i u hu => (g.cells.1 _ _ (h.lt p hp)).trans (h.c p hp i u hu), h.row.grew g⟩
theorem Bz.add (h : Bz w W V v cs) (g : Grew W X) (b : Nat) (vals : List Value) (hb : W.heap.size ≤ b) (hX : b < X.heap.size) (hc : ∀ (i : Nat) u, vals[i]? = some u → X.cell? ⟨b, i, none⟩ = some u) : Bz w X ((b, vals) :: V) v cs := by
  have hm := h.more g
  refine ⟨hm.grew, fun p hp => ?_, hm.row.form, hm.row.row, fun j hj hz => ?_, hm.row.base, fun j hz => ?_⟩
  · rcases List.mem_cons.1 hp with rfl | hp
    · exact hc
    · exact hm.c p hp
  · obtain ⟨p, hp, rfl⟩ := hz
    rcases List.mem_cons.1 hp with rfl | hp
    · have h1 := (h.row.row.lt _ hj).2
      dsimp only at h1; omega
    · exact hm.row.ne _ hj ⟨p, hp, rfl⟩
  · obtain ⟨p, hp, rfl⟩ := hz
    rcases List.mem_cons.1 hp with rfl | hp
    · exact hX
    · exact hm.row.lt _ ⟨p, hp, rfl⟩
theorem Bz.tail {p : Nat × List Value} (h : Bz w W (p :: V) v cs) : Bz w W V v cs :=
  ⟨h.grew, fun q hq => h.c q (List.mem_cons_of_mem _ hq), h.row.less fun j hj => by obtain ⟨q, hq, e⟩ := hj; exact ⟨q, List.mem_cons_of_mem _ hq, e⟩⟩
theorem Bz.next (h : Bz w W V v cs) (hr : RowZ w.heap.size (InV V) X v' ds) (ho : Only (Free w.heap.size (InV V)) W X) : Bz w X V v' ds :=
  ⟨((h.grew.only _).then ho).grew fun j hj => hj.2, fun p hp i u hu => (ho.cell (h.lt p hp) (free_not ⟨p, hp, rfl⟩) i).trans (h.c p hp i u hu), hr⟩
end
theorem wpList_append_bz {ops : Array Oper} {rest : List Oper} {o : Oper} {a : Act} {Q : Exit → Act → World → Prop} (hgd : o.guard = none) (s x : Operand)
    (ho : o.op = .call { callee := .builtin .append, args := #[s, x], argTypes := #[44, 44] }) {w W : World} {V : List (Nat × List Value)} {v : Value} {ys xs : List Int} (hs : a.eval s = v) (hown : Bz w W V v ys)
    {u : Value} {C : Nat} (hx : a.eval x = u) (hu : BytesV C xs u W) (hbig : ys.length + xs.length ≤ 100000000)
    (h : ∀ ds, Hid (ds = ys ++ xs) → ∀ a' c' w', Bz w w' V (.slice a' ds.length c') ds → wpList Tryz.prog ops Q rest (a.put o.dst (.slice a' ds.length c')) w') : wpList Tryz.prog ops Q (o :: rest) a W := by
  obtain ⟨au, cu, rfl, hr⟩ := hu
  refine wpList_append_z hgd s x ho hs hown.row hx hr hbig ?_
  intro ds hd a' c' w' hz hO
  exact h ds hd a' c' w' (hown.next hz hO)
end Go.Proofs.YtoiahcgaffffbaaGreatDoor
namespace Go.Proofs.YtoiahcgaffffbaaGreatDoor
open Go.RowKit Go.Maps
attribute [local go_sem] Oper.semAt_some uponV
def R37 (B : Nat) (lo : ByteArray) (i : Nat) (v : Value) (x : World) : Prop := i = 3 → BytesV B (Pl.textB lo) v x
theorem R37.mono (B : Nat) (lo : ByteArray) : MonoQ (R37 B lo) := fun i v x x' h g e => (h e).grew g
theorem text4v_any (B : Nat) (w : World) (t : ByteArray) (hB : B ≤ w.heap.size) (ht : t.size ≤ 1000000) : Calls Tryz.prog 69 #[.string t] w fun e w' => ∃ v, e = .returned v ∧ BytesV B (Pl.textB t) v w' ∧ Grew w w' := by
  refine (text4_any w t ht).mono ?_
  rintro e w' ⟨a, c, rfl, hr, hg⟩
  exact ⟨_, rfl, ⟨a, c, rfl, ownsRow_base hB hr⟩, hg⟩
theorem num4v_any (B : Nat) (w : World) (n : Nat) (hB : B ≤ w.heap.size) (hn : n < 4611686018427387904) : Calls Tryz.prog 70 #[.int .i64 n] w fun e w' => ∃ v, e = .returned v ∧ BytesV B (Pl.numB n) v w' ∧ Grew w w' := by
  refine (num4_any n w hn).mono ?_
  rintro e w' ⟨a, c, rfl, hr, hg⟩
  exact ⟨_, rfl, ⟨a, c, rfl, ownsRow_base hB hr⟩, hg⟩
end Go.Proofs.YtoiahcgaffffbaaGreatDoor
namespace Go.Proofs.YtoiahcgaffffbaaGreatDoor
open Go.RowKit Go.Maps
attribute [local go_sem] Oper.semAt_some uponV
theorem Bz.set0 {w W : World} {V : List (Nat × List Value)} {g c : Nat} {x y : Int} {cs : List Int} (h : Bz w W V (.slice (some ⟨g, 0, none⟩) (x :: cs).length c) (x :: cs)) : Bz w (W.setCell ⟨g, 0, none⟩ (.int .u8 y)) V (.slice (some ⟨g, 0, none⟩) (y :: cs).length c) (y :: cs) := by
  obtain ⟨h1, h2⟩ := h.row.row.stored 0 (.int .u8 y)
  obtain ⟨k1, k2⟩ := h.row.next (v' := .slice (some ⟨g, 0, none⟩) (y :: cs).length c) (ds := y :: cs) ⟨_, _, rfl⟩ h1 h2 (fun j hj => .inl hj)
  exact h.next k1 k2
def RN22 (y : World) (T : TypeId) (x : Int × An) (i : Nat) (v : Value) (u : World) : Prop := (i = 21 → ∃ nb, v = .slice (some ⟨nb, 0, none⟩) 4 4 ∧ y.heap.size ≤ nb ∧ u.heap[nb]? = some (.cells (clVals x).toArray T (0, 0))) ∧ (i = 22 → v = .int .i64 4)
theorem RN22.mono (y : World) (T : TypeId) (x : Int × An) : MonoQ (RN22 y T x) := fun i v u u' h g => ⟨fun e => by
  obtain ⟨vb, h1, h2, h3⟩ := h.1 e
  exact ⟨vb, h1, h2, (g.below.block vb (Array.getElem?_eq_some_iff.1 h3).1).trans h3⟩, fun e => h.2 e⟩
set_option maxRecDepth 100000 in
set_option maxHeartbeats 8000000 in
theorem bytes22_any {w : World} {rb : Nat} {S : Int → Option An} (h : MSeen w rb S) :
    Calls Tryz.prog 146 #[.pointer (some ⟨rb, 0, none⟩)] w fun e w' => ∃ v, e = .returned v ∧ BytesV w.heap.size (seenB S) v w' ∧ Grew w w' := by
  have HS := hid h
  have HOK := hid h.ok
  have HB0 := hid (show Bz w (w.alloc (.cells #[.int .u8 0] 5)) [] (.slice (some ⟨w.heap.size, 0, none⟩) 1 1) (((clTo S 1).length : Int) :: clsB (clTo S 1)) from Bz.start ((Grew.refl w).alloc _) ⟨_, 1, rfl, World.ownsRow_lit w #[.int .u8 0] 1 (Nat.le_refl _) (by decide) rfl⟩)
  clear h
  go_enter Tryz.func146, Tryz.ntmps146
  go_wp2_with fail
  go_loopw [3, 4] (fun v i wr => ∃ k : Nat, 1 ≤ k ∧ k ≤ 5 ∧ i = .int .i64 k ∧ Hid (Bz w wr [] v (((clTo S k).length : Int) :: clsB (clTo S k)))) (fun _ i _ => 5 - (intOf i).toNat)
  case atStart => exact ⟨1, by omega, by omega, rfl, HB0.out⟩
  case round =>
    obtain ⟨k, hk1, hk5, rfl, HB⟩ := hrel
    by_cases hlt : k ≤ 4
    · have HSW := hid (HS.out.grew HB.out.grew)
      have HNX := hid (clTo_next S k hk1 hlt)
      have hcl := clTo_len S k
      have d0 := HSW.out.seq k (by omega)
      have d1 := HSW.out.code k (by omega)
      have d2 := HSW.out.at_ k (by omega)
      have hybr := HSW.out.lt
      have HCK := hid (fun a (h : S (k : Int) = some a) => (HOK.out _ a h).2.2)
      generalize hS : S (k : Int) = so at *
      cases so with
      | none =>
        have HE6 := hid (show clTo S (k + 1) = clTo S k from HNX.out.trans (List.append_nil _))
        clear hS HNX d1 d2 HCK hcl
        unfold seqO at d0
        dsimp only at d0
        have hB := HB.out
        rw [← HE6.out] at hB
        have HBB := hid hB
        clear hB
        obtain rfl | rfl | rfl | rfl : k = 1 ∨ k = 2 ∨ k = 3 ∨ k = 4 := by omega
        all_goals
          go_wp2_with fail
          go_roundw
          case rel =>
            first
              | exact ⟨2, by omega, by omega, by go_num, HBB⟩
              | exact ⟨3, by omega, by omega, by go_num, HBB⟩
              | exact ⟨4, by omega, by omega, by go_num, HBB⟩
              | exact ⟨5, by omega, by omega, by go_num, HBB⟩
          case measure => simp [intOf]
      | some a =>
        obtain ⟨xq, xk, xt⟩ := a
        obtain ⟨q1, q2, q3, q4, q5⟩ := HCK.out _ rfl
        have HE6 := hid (show clTo S (k + 1) = clTo S k ++ [((k : Int), ⟨xq, xk, xt⟩)] from HNX.out)
        have HL6 := hid (clTo_len S (k + 1))
        clear hS HNX HCK
        unfold seqO at d0
        unfold codeO at d1
        unfold atO at d2
        dsimp only at d0 d1 d2 q1 q2 q3 q4 q5
        have hq1 : 0 < xq := by omega
        have HE7 := hid (show ((clTo S (k + 1)).length : Int) = ((clTo S k).length : Int) + 1 ∧ clsB (clTo S (k + 1)) = clsB (clTo S k) ++ clB ((k : Int), ⟨xq, xk, xt⟩) from by
          rw [HE6.out]
          constructor
          · simp
          · simp [clsB])
        have hm4 : (clTo S (k + 1)).length ≤ 4 := HL6.out
        have HSTEP : Hid (∀ (W : World) v, Bz w W [] v ((((clTo S k).length : Int) + 1) :: (clsB (clTo S k) ++ clB ((k : Int), ⟨xq, xk, xt⟩))) → Bz w W [] v (((clTo S (k + 1)).length : Int) :: clsB (clTo S (k + 1)))) := fun W v h => by rw [HE7.out.2, HE7.out.1]; exact h
        have hm5 : ((clTo S k).length : Int) + 1 ≤ 4 := by have := HE7.out.1; omega
        have hlen : (clsB (clTo S k)).length ≤ 1000 := by
          have h1 := clsB_len (clTo S k) (fun x hx => by
            obtain ⟨c, _, hc⟩ := List.mem_filterMap.1 hx
            cases hc2 : S c with
            | none => rw [hc2] at hc; cases hc
            | some b => rw [hc2] at hc; cases hc; exact HOK.out _ _ hc2)
          omega
        clear HE6 HL6 HE7 hcl hm4
        obtain ⟨g, cp, hvf, _, hgl⟩ := HB.out.row.row.form (by simp)
        subst hvf
        have cg := HB.out.row.row.cellAt 0 (by simp)
        have fg := HB.out.row.row.frozenAt 0
        have HC0 := hid (show wr.cell? ⟨g, 0, none⟩ = some (.int .u8 ((clTo S k).length : Int)) from cg)
        have cg := HC0.out
        clear HC0
        have HBS := hid (fun y => HB.out.set0 (y := y))
        have hne : g ≠ rb := fun e => by have := (HB.out.row.row.lt g rfl).1; have := HS.out.lt; omega
        generalize hcs : clsB (clTo S k) = cs at *
        generalize hmm : ((clTo S k).length : Int) = m at *
        have hm0 : 0 ≤ m := by omega
        obtain ⟨n, hn⟩ : ∃ n, n = (m :: cs).length := ⟨_, rfl⟩
        have hn0 : (0 : Int) < (n : Int) := by rw [hn]; simp
        rw [← hn]
        have hB9 := HBS.out (m + 1)
        rw [show (((m + 1) :: cs : List Int)).length = n from hn.symm] at hB9
        have HB9 := hid hB9
        have hx1 := (show Only (fun j => j = g) wr (wr.setCell ⟨g, 0, none⟩ (.int .u8 (m + 1))) from Only.setCell wr ⟨g, 0, none⟩ _)
        have HX := hid (show (∀ i u, wr.cell? ⟨rb, i, none⟩ = some u → (wr.setCell ⟨g, 0, none⟩ (.int .u8 (m + 1))).cell? ⟨rb, i, none⟩ = some u) ∧ rb < (wr.setCell ⟨g, 0, none⟩ (.int .u8 (m + 1))).heap.size from ⟨fun i u hu => (hx1.cell hybr (fun e => hne e.symm) i).trans hu, Nat.lt_of_lt_of_le hybr hx1.size⟩)
        have HNL := hid (show n = (((m + 1) :: cs : List Int)).length from hn)
        clear hx1 hB9 HB HBS
        have hw := wrap_u8 (n := m + 1) (by omega) (by omega)
        clear hcs hmm
        obtain ⟨n0, hn0'⟩ : ∃ n0 : Nat, n0 = k := ⟨_, rfl⟩
        obtain ⟨n1, e1⟩ : ∃ n : Nat, (n : Int) = xq := ⟨xq.toNat, by omega⟩
        obtain ⟨n2, e2⟩ : ∃ n : Nat, (n : Int) = xk := ⟨xk.toNat, by omega⟩
        obtain ⟨n3, e3⟩ : ∃ n : Nat, (n : Int) = xt := ⟨xt.toNat, by omega⟩
        obtain ⟨ns, hns⟩ : ∃ ns : List Nat, ns = [n0, n1, n2, n3] := ⟨_, rfl⟩
        have HCB := hid (show clB ((k : Int), ⟨xq, xk, xt⟩) = ns.flatMap Pl.numB from by rw [hns, hn0', ← e1, ← e2, ← e3]; simp [clB])
        have HNB := hid (fun j (hj : j < 4) => show ∃ n, ns[j]? = some n ∧ n < 2000000000 from by
          rw [hns]
          match j, hj with
          | 0, _ => exact ⟨_, rfl, by omega⟩
          | 1, _ => exact ⟨_, rfl, by omega⟩
          | 2, _ => exact ⟨_, rfl, by omega⟩
          | 3, _ => exact ⟨_, rfl, by omega⟩)
        have HFL := hid (show (ns.flatMap Pl.numB).length ≤ 40 from by
          have a0 := Pl.numB_len 4 n0 (by omega)
          have a1 := Pl.numB_len 4 n1 (by omega)
          have a2 := Pl.numB_len 4 n2 (by omega)
          have a3 := Pl.numB_len 4 n3 (by omega)
          rw [hns]
          simp only [List.flatMap_cons, List.flatMap_nil, List.length_append, List.length_nil]
          omega)
        have HNL4 := hid (show ns.take 4 = ns from by rw [hns]; rfl)
        have HCV := hid (show (clVals ((k : Int), ⟨xq, xk, xt⟩)) = ns.map fun n : Nat => Value.int .i64 (n : Int) from by rw [hns, hn0', ← e1, ← e2, ← e3]; rfl)
        rw [HCB.out] at HSTEP
        have HRM := fun (y : World) => hid (RN22.mono y 3 ((k : Int), ⟨xq, xk, xt⟩))
        clear hns hn0' q1 q2 q3 q4 q5 e1 e2 e3
        obtain rfl | rfl | rfl | rfl : k = 1 ∨ k = 2 ∨ k = 3 ∨ k = 4 := by omega
        all_goals
          simp only [show ((1 : Nat) : Int) = 1 from rfl, show ((2 : Nat) : Int) = 2 from rfl, show ((3 : Nat) : Int) = 3 from rfl, show ((4 : Nat) : Int) = 4 from rfl]
          go_upto_region 7 with fail
          obtain ⟨X, hX⟩ : ∃ X, X = wr.setCell ⟨g, 0, none⟩ (.int .u8 (m + 1)) := ⟨_, rfl⟩
          rw [← hX] at HB9 HX ⊢
          have D0 := wd_cell (HX.out.1 _ _ d0)
          have D1 := wd_cell (HX.out.1 _ _ d1)
          have D2 := wd_cell (HX.out.1 _ _ d2)
          have hrX := HX.out.2
          simp only [Nat.reduceMul, Nat.reduceAdd] at D0 D1 D2
          clear hX d0 d1 d2 cg fg hw
          refine wp_region_mixS 24 [21, 22] (Grew X) Grew (JQ (RN22 X 3 _) X) (fun f a => (a.put (some 45) (f 21)).put (some 46) (f 22)) (by kernel_rfl) (by kernel_rfl) (fun _ _ => rfl) (JQ.start ..) (fun _ _ _ h => h.grew) Grew.refl (fun _ _ _ _ h g => h.more (HRM X).out g) ?_
          repeat (first
    | (refine mixS_loose (by rfl) (by rfl) ?_)
    | (refine mixS_plain (by rfl) (by rfl) (by rfl) (by first | exact Grew.refl | exact fun _ => rfl) (by rfl) ?_; intro K hK; go_big_quiet_op; go_big_quiet_on)
    | (refine mixS_skip (by rfl) (by rfl) (by rfl) ?_; simp only [Act.put, List.setIfInBounds_toArray, List.set_cons_zero, List.set_cons_succ]))
          refine mixS_nil ⟨⟨loose_of rfl (fun _ a => a) (fun _ _ => rfl) (fun _ => rfl) ?_, loose_of rfl (fun f a => a.put (some 45) (f 21)) (fun _ _ => rfl) (fun _ => rfl) ?_, trivial⟩, ?_⟩
          · intro L f u hJ hL hd
            have HJ := hid hJ
            clear hJ hL hd D0 D1 D2
            go_simp
            exact HJ.out.put (HRM X).out 21 ((Grew.refl u).alloc _) ⟨fun _ => ⟨_, rfl, HJ.out.grew.size, heap_alloc_new u _⟩, fun e => absurd e (by decide)⟩
          · intro L f u hJ hL hd
            obtain ⟨nb, e21, _⟩ := (hJ.at_ 21 (hd 21 rfl (by decide))).1 rfl
            have HJ := hid hJ
            clear hJ hL hd D0 D1 D2
            rw [e21]
            clear e21
            go_simp
            exact HJ.out.same (HRM X).out 22 ⟨fun e => absurd e (by decide), fun _ => rfl⟩
          intro f u hJ
          obtain ⟨nb, e21, hnb, hcells⟩ := (hJ.at_ 21 rfl).1 rfl
          have e22 := (hJ.at_ 22 rfl).2 rfl
          rw [HCV.out] at hcells
          have HBZ := hid (HB9.out.add hJ.grew nb (ns.map fun n : Nat => Value.int .i64 (n : Int)) hnb (Array.getElem?_eq_some_iff.1 hcells).1 (fun i v hv => by rw [cell_block hcells]; exact hv))
          clear hJ D0 D1 D2 hnb hcells HX
          dsimp only [List.drop]
          simp only [Act.put, List.setIfInBounds_toArray, List.set_cons_succ, List.set_cons_zero]
          rw [e21, e22]
          clear e21 e22 HRM
          generalize Value.slice (some ⟨g, 0, none⟩) n cp = vv at *
          go_wp2_with fail
          go_loopw [3, 47] (fun v i wr => ∃ (j : Nat) (es : List Int), j ≤ 4 ∧ i = .int .i64 j ∧ Hid (es = (m + 1) :: cs ++ (ns.take j).flatMap Pl.numB) ∧ Hid (Bz w wr [(nb, ns.map fun n : Nat => Value.int .i64 (n : Int))] v es)) (fun _ i _ => 4 - (intOf i).toNat)
          case atStart => exact ⟨0, _, by omega, rfl, by unfold Hid; simp, HBZ⟩
          case round =>
            obtain ⟨j, es, hj, rfl, HEj, HBj⟩ := hrel
            by_cases hj4 : j < 4
            · obtain ⟨n, hn1, hn2⟩ := HNB.out j hj4
              have u := HBj.out.c _ (List.mem_cons_self ..) j (.int .i64 n) (by dsimp only; rw [List.getElem?_map, hn1]; rfl)
              have hul := HBj.out.lt _ (List.mem_cons_self ..)
              dsimp only at u hul
              have htk : (ns.take (j + 1)).flatMap Pl.numB = (ns.take j).flatMap Pl.numB ++ Pl.numB n := by
                obtain ⟨hjl, hju⟩ := List.getElem?_eq_some_iff.1 hn1
                rw [List.take_succ_eq_append_getElem hjl, List.flatMap_append, hju]
                simp
              have htl : ((ns.take j).flatMap Pl.numB).length ≤ 40 := by
                have h := congrArg List.length (show (ns.take j).flatMap Pl.numB ++ (ns.drop j).flatMap Pl.numB = ns.flatMap Pl.numB by rw [← List.flatMap_append, List.take_append_drop])
                rw [List.length_append] at h
                have := HFL.out
                omega
              have HTK := hid (show es ++ Pl.numB n = (m + 1) :: cs ++ (ns.take (j + 1)).flatMap Pl.numB from by rw [HEj.out, htk, List.append_assoc])
              have lc : es.length ≤ 92000 := by rw [HEj.out, List.length_append, List.length_cons]; omega
              have l1 := Pl.numB_len 4 n (by omega)
              clear htk htl hn1 HEj
              go_wp2_with fail
              refine (num4v_any w.heap.size wr n HBj.out.grew.size (by omega)).mono ?_
              rintro e w10 ⟨v10, rfl, hr10, hg10⟩
              have HR10 := hid hr10
              have HB10 := hid (HBj.out.more hg10)
              clear hr10 hg10 HBj
              go_wp2_with (at_builtin; refine wpList_append_bz rfl _ _ rfl rfl HB10.out rfl HR10.out (by omega) ?_)
              intro d11 HD11 a11 c11 w11 hB11
              have HB11 := hid hB11
              clear hB11 HB10 HR10 u hul
              go_wp2_with fail
              go_roundw
              case rel => exact ⟨j + 1, d11, by omega, by go_num, by unfold Hid; rw [HD11.out]; exact HTK.out, HB11⟩
              case measure => simp [intOf]; omega
            · have hjn : j = 4 := by omega
              subst hjn
              rw [HNL4.out] at HEj
              have hB7 := HBj.out.tail
              rw [HEj.out] at hB7
              have HB7 := hid (HSTEP.out _ _ hB7)
              clear hB7 HBj
              go_wp2_with fail
              go_roundw
              case rel =>
                first
                  | exact ⟨2, by omega, by omega, by go_num, HB7⟩
                  | exact ⟨3, by omega, by omega, by go_num, HB7⟩
                  | exact ⟨4, by omega, by omega, by go_num, HB7⟩
                  | exact ⟨5, by omega, by omega, by go_num, HB7⟩
              case measure => simp [intOf]
    · have hk5' : k = 5 := by omega
      subst hk5'
      rw [clTo_all] at HB
      have HEQ := hid (show ((clients S).length : Int) :: clsB (clients S) = seenB S from by
        unfold seenB
        rw [show Pl.numB (clients S).length = [((clients S).length : Int)] from Pl.numB_small (by have := clients_len S; omega)]
        rfl)
      rw [HEQ.out] at HB
      obtain ⟨av, cv, rfl⟩ := HB.out.row.form
      have HF := hid (And.intro HB.out.row.row HB.out.grew)
      clear HEQ HB
      go_wp2_with fail
      go_ret
      exact ⟨.slice av (seenB S).length cv, by simp, ⟨av, cv, rfl, HF.out.1⟩, HF.out.2⟩
end Go.Proofs.YtoiahcgaffffbaaGreatDoor
