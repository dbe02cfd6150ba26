/- DelOf, RgnQ: one text. -/
import Derived.Test.YtoiahcgaffffbaaGreatDoorFinDeltaBetweenQ39
import Derived.Test.YtoiahcgaffffbaaGreatDoorFinDeltaBetweenQ4
import Derived.Test.YtoiahcgaffffbaaGreatDoorFinDeltaBetweenQ26
set_option linter.unusedVariables false
set_option linter.unusedSectionVars false
set_option linter.unusedSimpArgs false
namespace Go.Proofs.YtoiahcgaffffbaaGreatDoor
open Go.RowKit Go.Maps
attribute [local go_sem] Oper.semAt_some uponV
theorem info_cl37 : (Tryz.prog.info? 147).map (fun i => (i.zero, i.size, i.bytes)) = some (some (.agg #[.int .i64 0, .int .i64 0, .int .i64 0, .int .i64 0]), 4, 32) := by kernel_rfl
theorem run_append_cl37 {w : World} {B : Nat} {v : Value} {m : Nat} {xs : List (Int × An)} (hown : w.ownsRow B 147 4 v m (clFlat xs)) (kb : Nat) (x : Int × An) (hk : ∀ j u, (clVals x)[j]? = some u → w.cell? ⟨kb, j, none⟩ = some u) (hbig : m ≤ 1000000) (hB : B ≤ w.heap.size) (ty : TypeId) :
    ∃ v' w', (Builtin.append_ #[38, 38] ty #[v, .slice (some ⟨kb, 0, none⟩) 1 1]).run Tryz.prog w = .ok v' w' ∧ w'.ownsRow B 147 4 v' (m + 1) (clFlat (xs ++ [x])) ∧ w.grownBy w' v.ownBlock ∧ ∀ g, v'.ownBlock = some g → v.ownBlock = some g ∨ g = w.heap.size := by
  obtain ⟨i0, hi0, hz0, hz1, hz2⟩ := info_parts info_cl37
  obtain ⟨g, cap2, w2, h1, h2, h3, h4, h5⟩ := run_append_lies (P := Tryz.prog) (w := w) 38 ty B 147 i0 _ 4 32 Tryz.underlying38 hi0 hz0 hz1 hz2 rfl (by omega) v m (clFlat xs) hown ⟨kb, 0, none⟩ 1 1 (clVals x) rfl (fun j u hj => by
    rw [Addr.add_lit, Nat.zero_add]
    exact hk j u hj) (fun u hu => by simp [clVals] at hu; rcases hu with rfl | rfl | rfl | rfl <;> rfl) (by omega) (by unfold maxLen; omega) (by omega) hB _ rfl
  refine ⟨_, w2, h1, ?_, h3, fun g' hg' => by
    have : g' = g := by simpa [Value.ownBlock] using hg'.symm
    subst this; exact h4⟩
  have e : clFlat (xs ++ [x]) = clFlat xs ++ clVals x := by simp [clFlat]
  rw [e]
  exact h2
structure OfD (w W : World) (TC : TypeId) (db rb : Nat) (lo hi : ByteArray) (v1 v2 : Value) (C : List (Int × An)) (vc : Value) : Prop where
  grew : Grew w W
  new : w.heap.size ≤ db
  c0 : W.cell? ⟨db, 0, none⟩ = some (.string lo)
  c1 : W.cell? ⟨db, 1, none⟩ = some (.string hi)
  c2 : W.cell? ⟨db, 2, none⟩ = some v1
  c3 : W.cell? ⟨db, 3, none⟩ = some v2
  c : Rw W w.heap.size TC 4 db 4 vc C.length (clFlat C)
  r : ∀ i, i < 5 → (∃ u, W.cell? ⟨rb, i, none⟩ = some u) ∧ W.frozen? ⟨rb, i, none⟩ = false
  rnew : w.heap.size ≤ rb ∧ rb ≠ db
  rc : vc.ownBlock ≠ some rb
section
variable {w W X X2 : World} {TC : TypeId} {db rb : Nat} {lo hi : ByteArray} {v1 v2 vc v' : Value} {C C' : List (Int × An)}
theorem OfD.lt (h : OfD w W TC db rb lo hi v1 v2 C vc) : rb < W.heap.size := by
  obtain ⟨⟨u, hu⟩, _⟩ := h.r 0 (by omega)
  exact cell_lt hu
theorem OfD.more (h : OfD w W TC db rb lo hi v1 v2 C vc) (g : Grew W X) : OfD w X TC db rb lo hi v1 v2 C vc :=
  have l : db < W.heap.size := cell_lt h.c0
  have lr : rb < W.heap.size := h.lt
  ⟨h.grew.trans g, h.new, (g.cells.1 _ _ l).trans h.c0, (g.cells.1 _ _ l).trans h.c1, (g.cells.1 _ _ l).trans h.c2, (g.cells.1 _ _ l).trans h.c3, h.c.grew g, fun i hi => by
    obtain ⟨⟨u, hu⟩, hf⟩ := h.r i hi
    exact ⟨⟨u, (g.cells.1 _ _ lr).trans hu⟩, (g.cells.2 _ _ lr).trans hf⟩, h.rnew, h.rc⟩
theorem OfD.addC (h : OfD w W TC db rb lo hi v1 v2 C vc) (g : Grew W X) (hr : X2.ownsRow w.heap.size TC 4 v' C'.length (clFlat C')) (hg : X.grownBy X2 vc.ownBlock) (how : ∀ b, v'.ownBlock = some b → vc.ownBlock = some b ∨ b = X.heap.size) :
    OfD w (X2.setCell ⟨db, 4, none⟩ v') TC db rb lo hi v1 v2 C' v' ∧ X2.cell? ⟨db, 4, none⟩ = some vc ∧ X2.frozen? ⟨db, 4, none⟩ = false := by
  obtain ⟨r1, r2, r3, ho⟩ := h.c.app g hr hg how
  have hdb : db < W.heap.size := cell_lt h.c0
  have hrb := h.lt
  have hnd := ownNe h.c.own
  have hset : Only (fun j => j = db) X2 (X2.setCell ⟨db, 4, none⟩ v') := Only.setCell X2 ⟨db, 4, none⟩ v'
  have hnr : ¬ some rb = vc.ownBlock := fun e => h.rc e.symm
  have hrne : ¬ rb = db := h.rnew.2
  have hl2 : rb < X2.heap.size := Nat.lt_of_lt_of_le hrb ho.size
  refine ⟨⟨?_, h.new, set_far ((ho.cell hdb (fun e => hnd e.symm) 0).trans h.c0) (ne_off (by decide)), set_far ((ho.cell hdb (fun e => hnd e.symm) 1).trans h.c1) (ne_off (by decide)), set_far ((ho.cell hdb (fun e => hnd e.symm) 2).trans h.c2) (ne_off (by decide)), set_far ((ho.cell hdb (fun e => hnd e.symm) 3).trans h.c3) (ne_off (by decide)), r1, fun i hi => ?_, h.rnew, fun e => ?_⟩, r2, r3⟩
  · refine (((h.grew.only _).trans ho (fun j hj => .inl hj)).trans hset (fun j hj => .inr ?_)).grew fun j hj => (h.c.lt j hj.symm).1
    rw [hj]; exact h.new
  · obtain ⟨⟨u, hu⟩, hf⟩ := h.r i hi
    exact ⟨⟨u, (hset.cell hl2 hrne i).trans ((ho.cell hrb hnr i).trans hu)⟩, (hset.frozen hl2 hrne i).trans ((ho.frozen hrb hnr i).trans hf)⟩
  · rcases how rb e with q | q
    · exact h.rc q
    · have := g.size; omega
end
theorem clsR_of {W : World} {a : Option Addr} {xs : List (Int × An)} (h : ClsAt W a xs) (k : Nat) (hk : k < xs.length) : ∃ b off, a = some ⟨b, off, none⟩ ∧ b < W.heap.size ∧ ClsR W b off xs := by
  rcases h with h | h
  · rw [h] at hk; simp at hk
  · exact h
set_option maxRecDepth 100000 in
set_option maxHeartbeats 2000000 in
theorem of37_any {w : World} {lo hi : ByteArray} {la lk : Nat} {C : List (Int × An)} {ap ak ac : Option Addr} {cp ck cc : Nat} (hC : ClsAt w ac C) (hl : C.length ≤ 4) :
    Calls Tryz.prog 15 #[.agg #[.string lo, .string hi, .slice ap la cp, .slice ak lk ck, .slice ac C.length cc]] w fun e w' => ∃ ac' cc', e = .returned (.agg #[.string lo, .string hi, .slice ap la cp, .slice ak lk ck, .slice ac' C.length cc']) ∧ ClsAt w' ac' C ∧ Grew w w' := by
  have HC := hid hC
  clear hC
  go_enter Tryz.func15, Tryz.ntmps15
  go_wp2_with fail
  obtain ⟨V, hV⟩ : ∃ V, V = ((w.alloc (.cells #[.string lo, .string hi, .slice ap la cp, .slice ak lk ck, .slice ac C.length cc] 36)).alloc (.cells #[.string ⟨#[]⟩, .string ⟨#[]⟩, .slice none 0 0, .slice none 0 0, .slice none 0 0] 40)).alloc (.cells #[.string lo, .string hi, .slice ap la cp, .slice ak lk ck, .slice none 0 0] 40) := ⟨_, rfl⟩
  obtain ⟨db, hdb⟩ : ∃ db, db = w.heap.size + 1 + 1 := ⟨_, rfl⟩
  obtain ⟨rb, hrb⟩ : ∃ rb, rb = w.heap.size + 1 := ⟨_, rfl⟩
  have HB0 := hid (show OfD w V 147 db rb lo hi (.slice ap la cp) (.slice ak lk ck) [] (.slice none 0 0) from by
    rw [hV, hdb, hrb]
    refine ⟨(((Grew.refl w).alloc _).alloc _).alloc _, by omega, by simp [go_sem], by simp [go_sem], by simp [go_sem], by simp [go_sem], ⟨by simp [go_sem], by simp [go_sem], World.ownsRow_nil _ _ _ _, (fun g h => by cases h)⟩, fun i hi => ?_, ⟨by omega, by omega⟩, (fun h => by cases h)⟩
    match i, hi with
    | 0, _ => exact ⟨⟨.string ⟨#[]⟩, by simp [go_sem]⟩, by simp [go_sem]⟩
    | 1, _ => exact ⟨⟨.string ⟨#[]⟩, by simp [go_sem]⟩, by simp [go_sem]⟩
    | 2, _ => exact ⟨⟨.slice none 0 0, by simp [go_sem]⟩, by simp [go_sem]⟩
    | 3, _ => exact ⟨⟨.slice none 0 0, by simp [go_sem]⟩, by simp [go_sem]⟩
    | 4, _ => exact ⟨⟨.slice none 0 0, by simp [go_sem]⟩, by simp [go_sem]⟩)
  rw [← hV, ← hdb, ← hrb]
  clear hV hdb hrb
  go_loopw [16] (fun i wr => ∃ k : Nat, k ≤ C.length ∧ i = .int .i64 k ∧ Hid (∃ vc, OfD w wr 147 db rb lo hi (.slice ap la cp) (.slice ak lk ck) (C.take k) vc)) (fun i _ => C.length - (intOf i).toNat)
  case atStart => exact ⟨0, Nat.zero_le _, rfl, _, HB0.out⟩
  case round =>
    obtain ⟨k, hk1, rfl, HBk⟩ := hrel
    obtain ⟨vc, hBk⟩ := HBk.out
    have hk9 : k < 1000000 := by omega
    by_cases hlt : k < C.length
    · obtain ⟨b, off, rfl, hb, hR⟩ := clsR_of HC.out k hlt
      have gr := hBk.grew
      have q0 := (gr.cells.1 b (off + k * 4) hb).trans (hR.id k hlt)
      have q1 := (gr.cells.1 b (off + k * 4 + 1) hb).trans (hR.seq k hlt)
      have q2 := (gr.cells.1 b (off + k * 4 + 2) hb).trans (hR.code k hlt)
      have q3 := (gr.cells.1 b (off + k * 4 + 3) hb).trans (hR.at_ k hlt)
      have hbr := Nat.lt_of_lt_of_le hb gr.size
      have HNX := hid (show C.take (k + 1) = C.take k ++ [clAt C k] from by rw [List.take_succ_eq_append_getElem hlt, clAt_eq C k hlt])
      have HLK := hid (show (C.take k).length = k from by rw [List.length_take]; omega)
      have HBr := hid hBk
      clear hBk HBk gr hR
      generalize clAt C k = x at *
      obtain ⟨xi, xq, xk, xt⟩ := x
      dsimp only at q0 q1 q2 q3
      go_upto_region 5 with fail
      clear q0 q1 q2 q3 hbr
      obtain ⟨U, hU⟩ : ∃ U, U = wr.alloc (.cells #[.int .i64 xi, .int .i64 xq, .int .i64 xk, .int .i64 xt] 137) := ⟨_, rfl⟩
      have gU : Grew wr U := by rw [hU]; exact (Grew.refl wr).alloc _
      have u0 : U.cell? ⟨wr.heap.size, 0, none⟩ = some (.int .i64 xi) := by rw [hU]; simp [go_sem]
      have u1 : U.cell? ⟨wr.heap.size, 1, none⟩ = some (.int .i64 xq) := by rw [hU]; simp [go_sem]
      have u2 : U.cell? ⟨wr.heap.size, 2, none⟩ = some (.int .i64 xk) := by rw [hU]; simp [go_sem]
      have u3 : U.cell? ⟨wr.heap.size, 3, none⟩ = some (.int .i64 xt) := by rw [hU]; simp [go_sem]
      have hus : wr.heap.size < U.heap.size := by rw [hU]; simp
      have HBU := hid (HBr.out.more gU)
      rw [← hU]
      obtain ⟨ub, hub⟩ : ∃ ub, ub = wr.heap.size := ⟨_, rfl⟩
      rw [← hub] at u0 u1 u2 u3 hus ⊢
      clear hU gU hub HBr
      have cC := HBU.out.c.cell
      have hdbu := cell_lt cC
      obtain ⟨Z, hZ⟩ : ∃ Z, Z = U.alloc (.cells #[.int .i64 xi, .int .i64 xq, .int .i64 xk, .int .i64 xt] 147) := ⟨_, rfl⟩
      have gZ : Grew U Z := by rw [hZ]; exact (Grew.refl U).alloc _
      have hpZ : ∀ j u, (clVals (xi, ⟨xq, xk, xt⟩))[j]? = some u → Z.cell? ⟨U.heap.size, j, none⟩ = some u := by
        intro j u hj
        rw [hZ, cell_block (heap_alloc_new U _)]
        exact hj
      have hrw := ownsRow_grew gZ HBU.out.c.row
      rw [HLK.out] at hrw
      obtain ⟨v3, w3, hrun, hrow, hgr, how⟩ := run_append_cl37 (w := Z) (B := w.heap.size) (v := vc) (m := k) (xs := C.take k) hrw U.heap.size (xi, ⟨xq, xk, xt⟩) hpZ (by omega) (by have := HBU.out.grew.size; have := gZ.size; omega) 38
      rw [← HNX.out] at hrow
      have hl3 : k + 1 = (C.take (k + 1)).length := by rw [List.length_take]; omega
      have hrow : w3.ownsRow w.heap.size 147 4 v3 (C.take (k + 1)).length (clFlat (C.take (k + 1))) := by rw [← hl3]; exact hrow
      obtain ⟨a3, c3, e5, _⟩ := clsAt_of hrow
      have hB3' := HBU.out.addC gZ hrow hgr how
      rw [e5, ← hl3] at hrun
      rw [e5, ← hl3] at hB3'
      obtain ⟨hB3, q3, f3⟩ := hB3'
      have hd3 := cell_lt q3
      rw [hZ] at hrun
      have HRUN := hid hrun
      have HB3 := hid hB3
      clear hZ gZ hpZ hrun hrow hgr how hl3 hB3 HLK HNX hrw e5
      go_wp2_with (at_builtin; refine Lib.wpList_append_run _ rfl _ _ _ _ rfl _ _ rfl rfl _ _ HRUN.out ?_)
      go_roundw
      case rel => exact ⟨k + 1, by omega, by go_num, _, HB3.out⟩
      case measure => simp [intOf]; omega
    · have hkn : k = C.length := by omega
      subst hkn
      rw [List.take_length] at hBk
      obtain ⟨av, cv, rfl, hcl⟩ := clsAt_of hBk.c.row
      have c0 := hBk.c0
      have c1 := hBk.c1
      have c2 := hBk.c2
      have c3 := hBk.c3
      have c4 := hBk.c.cell
      have hdl := cell_lt c0
      obtain ⟨⟨r0, k0⟩, f0⟩ := hBk.r 0 (by omega)
      obtain ⟨⟨r1, k1⟩, f1⟩ := hBk.r 1 (by omega)
      obtain ⟨⟨r2, k2⟩, f2⟩ := hBk.r 2 (by omega)
      obtain ⟨⟨r3, k3⟩, f3⟩ := hBk.r 3 (by omega)
      obtain ⟨⟨r4, k4⟩, f4⟩ := hBk.r 4 (by omega)
      have hrl := hBk.lt
      have HG := hid hBk.grew
      have HCL := hid hcl
      have HR := hid hBk.rnew
      have HRC := hid hBk.rc
      have HOWN := hid hBk.c
      have HL := hid hl
      clear hBk HBk HC hl hlt hk1 hk9 HB0
      go_wp2_with fail
      have hO : Only (fun j => j = rb) wr (((((wr.setCell ⟨rb, 0, none⟩ (.string lo)).setCell ⟨rb, 1, none⟩ (.string hi)).setCell ⟨rb, 2, none⟩ (.slice ap la cp)).setCell ⟨rb, 3, none⟩ (.slice ak lk ck)).setCell ⟨rb, 4, none⟩ (.slice av C.length cv)) :=
        ((((Only.setCell wr ⟨rb, 0, none⟩ _).then (Only.setCell _ ⟨rb, 1, none⟩ _)).then (Only.setCell _ ⟨rb, 2, none⟩ _)).then (Only.setCell _ ⟨rb, 3, none⟩ _)).then (Only.setCell _ ⟨rb, 4, none⟩ _)
      have hrow := ownsRow_kept HOWN.out.row hO (fun b hb e => HRC.out (by rw [← e]; exact hb))
      obtain ⟨a', c', e', hcl'⟩ := clsAt_of hrow
      cases e'
      refine bodyPost_ret (v := .agg #[.string lo, .string hi, .slice ap la cp, .slice ak lk ck, .slice av C.length cv]) (by simp [results, Tryz.results15, go_sem, k0, k1, k2, k3, k4]) rfl ⟨av, ⟨cv, rfl⟩, hcl', ((HG.out.only _).then hO).grew (fun j hj => by rw [hj]; exact HR.out.1)⟩
end Go.Proofs.YtoiahcgaffffbaaGreatDoor
namespace Go.Proofs.YtoiahcgaffffbaaGreatDoor
open Go.RowKit Go.Maps
def MonoQ (R : Nat → Value → World → Prop) : Prop := ∀ i v x x', R i v x → Grew x x' → R i v x'
structure JQ (R : Nat → Value → World → Prop) (y : World) (L : Nat → Bool) (f : Nat → Value) (x : World) : Prop where
  grew : Grew y x
  at_ : ∀ i, L i = true → R i (f i) x
section
variable {R : Nat → Value → World → Prop} {y x x' : World} {L : Nat → Bool} {f : Nat → Value}
theorem JQ.start (R : Nat → Value → World → Prop) (y : World) (f : Nat → Value) : JQ R y (fun _ => false) f y.drew := ⟨(Grew.refl y).drew, fun i h => by cases h⟩
theorem JQ.more (hR : MonoQ R) (h : JQ R y L f x) (g : Grew x x') : JQ R y L f x' := ⟨h.grew.trans g, fun i hi => hR _ _ _ _ (h.at_ i hi) g⟩
theorem JQ.put (hR : MonoQ R) (h : JQ R y L f x) (i : Nat) {v : Value} (g : Grew x x') (hv : R i v x') : JQ R y (plus L i) (updV f i v) x' := by
  refine ⟨h.grew.trans g, fun j hj => ?_⟩
  by_cases e : j = i
  · subst e; rw [updV_same]; exact hv
  · rw [updV_ne e]; rw [plus_ne e] at hj; exact hR _ _ _ _ (h.at_ j hj) g
theorem JQ.same (hR : MonoQ R) (h : JQ R y L f x) (i : Nat) {v : Value} (hv : R i v x) : JQ R y (plus L i) (updV f i v) x := h.put hR i (Grew.refl x) hv
end
end Go.Proofs.YtoiahcgaffffbaaGreatDoor
