/- Wt1, RowCg: one text. -/
import Derived.Test.YtbdagllflamabaaGreatDoorFinWatchReplaysQ33
import Derived.Test.YtbdagllflamabaaGreatDoorFinWatchReplaysQ34
import Derived.Test.YtbdagllflamabaaGreatDoorFinWatchReplaysQ44
import Derived.Test.YtbdagllflamabaaGreatDoorFinWatchReplaysQ4
import Derived.Test.YtbdagllflamabaaGreatDoorFinWatchReplaysQ1
import Derived.Test.YtbdagllflamabaaGreatDoorFinWatchReplaysQ19
import Derived.Deep.AppendLies
set_option linter.unusedVariables false
set_option linter.unusedSectionVars false
set_option linter.unusedSimpArgs false
namespace Go.Proofs.YtbdagllflamabaaGreatDoor
open Go.RowKit Go.Maps
attribute [local go_sem] Oper.semAt_some uponV
set_option maxRecDepth 100000 in
set_option maxHeartbeats 2000000 in
theorem keysE_none {S : Nat → Bool} (hS : KeyT S) (E : Nat → Addr) (e : En) (w : World) (hE : Errs S E w) (hA : EnAt w e) (hr : Pl.rightB e = false) :
    Calls Tryz.prog 98 #[e.agg] w fun r w' => r = .returned (.slice none 0 0) ∧ Grew w w' := by
  have HR := hid (fun W (g : Grew w W) => rightE_any hS E e W (hE.grew g) (hA.grew g))
  rw [hr] at HR
  clear hE hA hr
  obtain ⟨kind, shard, other, server, client, seq, key, upto, part, parts, ops, opsA, opsC, dataA, dataL, dataC⟩ := e
  unfold En.agg En.vals at *
  dsimp only at *
  go_enter Tryz.func98, Tryz.ntmps98
  go_wp2_with fail
  refine (HR.out _ ((Grew.refl w).alloc _)).mono ?_
  rintro e w1 ⟨rfl, hg1⟩
  have HG1 := hid (((Grew.refl w).alloc _).trans hg1)
  clear hg1 HR
  go_wp2_with fail
  go_ret
  exact ⟨rfl, HG1.out⟩
set_option maxRecDepth 100000 in
theorem delFNone (bb : Nat) (w : World) : Calls Tryz.prog 97 #[.slice none 0 0, .func (.func 99) #[] #[.pointer (some ⟨bb, 0, none⟩)]] w fun e w' => e = .returned (.slice none 0 0) ∧ Grew w w' := by
  have HI := hid (idxW_any (fun _ => true) bb none 0 [] w (.inl rfl) (by simp) (fun _ _ k hk => by cases hk))
  have e0 : idxI (fun _ : ByteArray => true) [] = -1 := rfl
  rw [e0] at HI
  clear e0
  rw [List.length_nil] at HI
  go_enter Tryz.func97, Tryz.ntmps97
  go_wp2_with fail
  refine HI.out.mono ?_
  rintro e w1 ⟨rfl, hg⟩
  go_wp2_with fail
  go_ret
  exact ⟨rfl, hg⟩
namespace Pl
structure Asks (lo hi : ByteArray) (e : En) (ks : List ByteArray) : Prop where
  rise : ks.Pairwise fun a b => compare a b < 0
  mem : ∀ k, k ∈ ks ↔ e.kind = 1 ∧ rightB e = true ∧ (∃ o ∈ e.ops, o.key = k) ∧ hasS lo hi k = true
  few : ks.length ≤ 8
theorem right_few {e : En} (h : rightB e = true) (hk : e.kind = 1) : 1 ≤ e.ops.length ∧ e.ops.length ≤ 8 := by
  unfold rightB at h
  rw [if_pos hk] at h
  unfold wriB at h
  simp only [Bool.and_eq_true] at h
  have := (within_iff _ _).1 h.1.2
  omega
theorem asks_none {lo hi : ByteArray} {e : En} (h : ¬ (e.kind = 1 ∧ rightB e = true)) : Asks lo hi e [] := ⟨by simp, fun k => ⟨fun q => (by cases q), fun q => absurd ⟨q.1, q.2.1⟩ h⟩, by simp⟩
end Pl
structure WtC (W : World) (wb ab : Nat) (lo hi : ByteArray) (told : Int) : Prop where
  c0 : W.cell? ⟨wb, 0, none⟩ = some (.pointer (some ⟨ab, 0, none⟩))
  c1 : W.cell? ⟨wb, 1, none⟩ = some (.string lo)
  c2 : W.cell? ⟨wb, 2, none⟩ = some (.string hi)
  c3 : W.cell? ⟨wb, 3, none⟩ = some (.int .i64 told)
  fz : ∀ i, W.frozen? ⟨wb, i, none⟩ = false
theorem WtC.kept {W W' : World} {T : Nat → Prop} {wb ab : Nat} {lo hi : ByteArray} {told : Int} (h : WtC W wb ab lo hi told) (g : Only T W W') (hT : ¬ T wb) : WtC W' wb ab lo hi told :=
  have hl := cell_lt h.c0
  ⟨(g.cell hl hT 0).trans h.c0, (g.cell hl hT 1).trans h.c1, (g.cell hl hT 2).trans h.c2, (g.cell hl hT 3).trans h.c3, fun i => (g.frozen hl hT i).trans (h.fz i)⟩
theorem WtC.grew {W W' : World} {wb ab : Nat} {lo hi : ByteArray} {told : Int} (h : WtC W wb ab lo hi told) (g : Grew W W') : WtC W' wb ab lo hi told := h.kept (g.only fun _ => False) (fun h => h)
set_option maxRecDepth 100000 in
set_option maxHeartbeats 4000000 in
theorem asked_any (E : Nat → Addr) (e : En) {w : World} (hE : Errs auS E w) (hA : EnAt w e) (hz : ∀ o ∈ e.ops, o.key.size ≤ 70368744177664) {wb ab : Nat} {lo hi : ByteArray} {told : Int} (h : WtC w wb ab lo hi told) (hl : lo.size ≤ 70368744177664) (hh : hi.size ≤ 70368744177664) :
    Calls Tryz.prog 55 #[.pointer (some ⟨wb, 0, none⟩), e.agg] w fun r w' => Grew w w' ∧ ∃ a cap ks, r = .returned (.slice a ks.length cap) ∧ StrsAt w' a ks ∧ Pl.Asks lo hi e ks := by
  by_cases hk : e.kind = 1
  · by_cases hr : Pl.rightB e = true
    · have hfew := Pl.right_few hr hk
      have HK := hid (fun X (g : Grew w X) => keysE_any auS_key E e X (hE.grew g) (hA.grew g) hk hr)
      have HE := hid hE
      have HW := hid h
      have HZ := hid (show ∀ k ∈ e.ops.map OpR.key, k.size ≤ 70368744177664 from fun k hk => by
        obtain ⟨o, ho, rfl⟩ := List.mem_map.1 hk
        exact hz o ho)
      have hwb := cell_lt h.c0
      have HAS := hid (show ∀ ks : List ByteArray, ks.Pairwise (fun a b => Pl.compare a b < 0) → (∀ k, k ∈ ks ↔ k ∈ (e.ops.map OpR.key).filter fun c => !(!Pl.hasS lo hi c)) → ks.length ≤ 8 → Pl.Asks lo hi e ks from fun ks h1 h2 h3 => ⟨h1, fun k => by
        rw [h2, List.mem_filter, List.mem_map]
        constructor
        · rintro ⟨⟨o, ho, e1⟩, q⟩
          exact ⟨hk, hr, ⟨o, ho, e1⟩, by simpa using q⟩
        · rintro ⟨_, _, ⟨o, ho, e1⟩, q⟩
          exact ⟨⟨o, ho, e1⟩, by simpa using q⟩, h3⟩)
      have hfl : (e.ops.map OpR.key).length = e.ops.length := List.length_map _
      generalize hxs : e.ops.map OpR.key = xs at *
      rw [← hfl] at HK
      rw [← hfl] at hfew
      clear hE hA hz h hr hxs hfl
      obtain ⟨kind, shard, other, server, client, seq, key, upto, part, parts, ops, opsA, opsC, dataA, dataL, dataC⟩ := e
      unfold En.agg En.vals at *
      dsimp only at *
      subst hk
      go_enter Tryz.func55, Tryz.ntmps55
      go_wp2_with fail
      obtain ⟨Y, hY⟩ : ∃ Y, Y = (w.alloc (.cells #[.pointer (some ⟨wb, 0, none⟩)] 56)).alloc (.cells #[.int .i64 1, .int .i64 shard, .int .i64 other, .int .i64 server, .int .i64 client, .int .i64 seq, .slice opsA ops.length opsC, .string key, .int .i64 upto, .int .i64 part, .int .i64 parts, .slice dataA dataL dataC] 26) := ⟨_, rfl⟩
      have gY : Grew w Y := by rw [hY]; exact ((Grew.refl w).alloc _).alloc _
      obtain ⟨bb, hbb⟩ : ∃ bb, bb = w.heap.size := ⟨_, rfl⟩
      have hbox : Y.cell? ⟨bb, 0, none⟩ = some (.pointer (some ⟨wb, 0, none⟩)) := by rw [hY, hbb]; simp [go_sem]
      have hbbw : w.heap.size ≤ bb := by omega
      rw [← hY, ← hbb]
      refine (HK.out Y gY).mono ?_
      rintro r w1 ⟨⟨v, rfl, hrow⟩, hg1⟩
      have HG1 := hid (gY.trans hg1)
      have HBX := hid (show BoxSp w1 bb wb lo hi from ⟨(hg1.cells.1 _ 0 (cell_lt hbox)).trans hbox, (HG1.out.cells.1 _ 1 hwb).trans HW.out.c1, (HG1.out.cells.1 _ 2 hwb).trans HW.out.c2⟩)
      have hYs := gY.size
      have hbY : bb < Y.heap.size := cell_lt hbox
      obtain ⟨b, cap, rfl, hbB, hbl⟩ := hrow.form (by omega)
      have HROW := hid hrow
      have hbb2 : bb ≠ b := by omega
      have hwb2 : wb ≠ b := by omega
      clear hrow hg1 hY hbb hbox gY HK
      go_wp2_with fail
      have HDEL := hid (delFStr (fun k => !Pl.hasS lo hi k) bb Y.heap.size b cap xs w1 HROW.out (by omega) (by omega) (fun X hO k hk => askW_any auS E ⟨rfl, rfl, rfl, rfl⟩ lo hi k X hl hh (HZ.out k hk) (HE.out.grew (((HG1.out.only (fun j => w.heap.size ≤ j)).then (hO.mono fun j hj => .inl (by omega))).grew fun j hj => hj)) bb wb ⟨(hO.cell (cell_lt HBX.out.box) (fun e => hbb2 e) 0).trans HBX.out.box, (hO.cell (cell_lt HBX.out.c1) (fun e => hwb2 e) 1).trans HBX.out.c1, (hO.cell (cell_lt HBX.out.c1) (fun e => hwb2 e) 2).trans HBX.out.c2⟩))
      have HOK := hid (show ∀ c ∈ xs.filter (fun c => !(!Pl.hasS lo hi c)), Pl.Ok c ∧ c.size ≤ 70368744177664 from fun c hc => by
        obtain ⟨h1, h2⟩ := List.mem_filter.1 hc
        have h3 : Pl.hasS lo hi c = true := by simpa using h2
        exact ⟨Pl.ok_isKey (Pl.has_right h3).2.1, HZ.out c h1⟩)
      have hyl : (xs.filter (fun c => !(!Pl.hasS lo hi c))).length ≤ xs.length := List.length_filter_le _ _
      generalize xs.filter (fun c => !(!Pl.hasS lo hi c)) = ys at *
      refine HDEL.out.mono ?_
      rintro r w2 ⟨rfl, hrow2, hO2⟩
      have HG2 := hid (((HG1.out.only (fun j => w.heap.size ≤ j)).then (hO2.mono fun j hj => .inl (show w.heap.size ≤ j by omega))).grew fun j hj => hj)
      have HROW2 := hid hrow2
      have hw2 := HG2.out.size
      have hY2 : Y.heap.size ≤ w2.heap.size := by have := hO2.size; omega
      clear hrow2 hO2 HDEL HROW HBX
      by_cases h0 : ys.length = 0
      · have hys := List.eq_nil_of_length_eq_zero h0
        subst hys
        have HF := hid (HAS.out [] (by simp) (fun k => Iff.rfl) (by simp))
        rw [List.length_nil]
        clear h0 HAS HOK
        go_wp2_with fail
        refine (sortNone _ _ _ _).mono ?_
        rintro r w3 ⟨rfl, rfl⟩
        go_wp2_with fail
        refine (compactNone _ _ _).mono ?_
        rintro r w4 ⟨rfl, rfl⟩
        go_wp2_with fail
        go_ret
        exact ⟨HG2.out, some ⟨b, 0, none⟩, cap, [], rfl, .inl rfl, HF.out⟩
      · have HS := hid (sortStrs w2 Y.heap.size b cap ys HROW2.out (by omega) (by omega) HOK.out)
        go_wp2_with fail
        refine HS.out.mono ?_
        rintro r w3 ⟨rfl, hO3, zs, hp, hz3, hrow3⟩
        have hlz := hp.length_eq
        have HC := hid (compactStr w3 Y.heap.size b cap zs hrow3 (by omega) (by omega) (fun c hc => (HOK.out c (hp.mem_iff.1 hc)).1) (hz3.imp fun {a b} h => by omega))
        have HG3 := hid (((HG2.out.only (fun j => w.heap.size ≤ j)).then (hO3.mono fun j hj => .inl (show w.heap.size ≤ j by omega))).grew fun j hj => hj)
        have HM := hid (fun k => (hp.mem_iff (a := k)))
        rw [hlz] at HC
        clear hO3 hrow3 hz3 HS HROW2
        go_wp2_with fail
        refine HC.out.mono ?_
        rintro r w4 ⟨ks, rfl, hO4, hrow4, hrise, hmem, hkl⟩
        obtain ⟨a4, c4, e4, hst⟩ := strsAt_of hrow4
        cases e4
        have HG4 := hid (((HG3.out.only (fun j => w.heap.size ≤ j)).then (hO4.mono fun j hj => .inl (show w.heap.size ≤ j by omega))).grew fun j hj => hj)
        have HF := hid (And.intro hst (HAS.out ks hrise (fun k => (hmem k).trans (HM.out k)) (by omega)))
        clear hO4 hrow4 hrise hmem hst HC hkl
        go_wp2_with fail
        go_ret
        exact ⟨HG4.out, _, _, ks, rfl, HF.out.1, HF.out.2⟩
    · have hr' : Pl.rightB e = false := by simpa using hr
      have HK := hid (fun X (g : Grew w X) => keysE_none auS_key E e X (hE.grew g) (hA.grew g) hr')
      have HF := hid (Pl.asks_none (lo := lo) (hi := hi) (e := e) fun q => hr q.2)
      generalize e0 : Pl.Asks lo hi e = AS at *
      clear hE hA hz h hr hr' e0
      obtain ⟨kind, shard, other, server, client, seq, key, upto, part, parts, ops, opsA, opsC, dataA, dataL, dataC⟩ := e
      unfold En.agg En.vals at *
      dsimp only at *
      subst hk
      go_enter Tryz.func55, Tryz.ntmps55
      go_wp2_with fail
      refine (HK.out _ (((Grew.refl w).alloc _).alloc _)).mono ?_
      rintro r w1 ⟨rfl, hg1⟩
      have HG1 := hid ((((Grew.refl w).alloc _).alloc _).trans hg1)
      clear hg1 HK
      go_wp2_with fail
      refine (delFNone _ _).mono ?_
      rintro r w2 ⟨rfl, hg2⟩
      have HG2 := hid (HG1.out.trans hg2)
      clear hg2
      go_wp2_with fail
      refine (sortNone _ _ _ _).mono ?_
      rintro r w3 ⟨rfl, rfl⟩
      go_wp2_with fail
      refine (compactNone _ _ _).mono ?_
      rintro r w4 ⟨rfl, rfl⟩
      go_wp2_with fail
      go_ret
      exact ⟨HG2.out, none, 0, [], rfl, .inl rfl, HF.out⟩
  · have HF := hid (Pl.asks_none (lo := lo) (hi := hi) (e := e) fun q => hk q.1)
    generalize e0 : Pl.Asks lo hi e = AS at *
    clear hE hA hz h e0
    obtain ⟨kind, shard, other, server, client, seq, key, upto, part, parts, ops, opsA, opsC, dataA, dataL, dataC⟩ := e
    unfold En.agg En.vals at *
    dsimp only at *
    go_enter Tryz.func55, Tryz.ntmps55
    go_wp2_with fail
    go_ret
    exact ⟨((Grew.refl w).alloc _).alloc _, none, 0, [], rfl, .inl rfl, HF.out⟩
end Go.Proofs.YtbdagllflamabaaGreatDoor
namespace Go.Proofs.YtbdagllflamabaaGreatDoor
open Go.RowKit
structure Cg where
  at_ : Int
  key : ByteArray
  wk : ByteArray
  wv : ByteArray
  wn : Int
  nk : ByteArray
  nv : ByteArray
  nn : Int
  had : Bool
  has : Bool
def Cg.none : Cg := ⟨0, ⟨#[]⟩, ⟨#[]⟩, ⟨#[]⟩, 0, ⟨#[]⟩, ⟨#[]⟩, 0, false, false⟩
instance : Inhabited Cg := ⟨Cg.none⟩
def Cg.vals (c : Cg) : List Value := [.int .i64 c.at_, .string c.key, .string c.wk, .string c.wv, .int .i64 c.wn, .string c.nk, .string c.nv, .int .i64 c.nn, .bool c.had, .bool c.has]
def cgAt (xs : List Cg) (j : Nat) : Cg := xs[j]?.getD Cg.none
def cgFlat (xs : List Cg) : List Value := xs.flatMap Cg.vals
theorem cgAt_eq (xs : List Cg) (i : Nat) (hi : i < xs.length) : cgAt xs i = xs[i] := by unfold cgAt; rw [List.getElem?_eq_getElem hi]; rfl
theorem cgAt_mem (xs : List Cg) (k : Nat) (h : k < xs.length) : cgAt xs k ∈ xs := by rw [cgAt_eq xs k h]; exact List.getElem_mem h
theorem cgFlat_length (xs : List Cg) : (cgFlat xs).length = xs.length * 10 := by
  induction xs with
  | nil => rfl
  | cons c xs ih => unfold cgFlat at ih ⊢; rw [List.flatMap_cons, List.length_append, ih]; simp [Cg.vals]; omega
theorem cgFlat_get (i : Nat) (hi : i < 10) : ∀ (xs : List Cg) (j : Nat), j < xs.length → (cgFlat xs)[j * 10 + i]? = (cgAt xs j).vals[i]? := by
  intro xs
  induction xs with
  | nil => intro j hj; simp at hj
  | cons c xs ih =>
    intro j hj
    unfold cgFlat at ih ⊢
    rw [List.flatMap_cons]
    cases j with
    | zero => rw [List.getElem?_append_left (by simp [Cg.vals]; omega)]; simp [cgAt]
    | succ j =>
      rw [List.getElem?_append_right (by simp [Cg.vals]; omega)]
      have e : (j + 1) * 10 + i - c.vals.length = j * 10 + i := by simp [Cg.vals]; omega
      rw [e, ih j (by simpa using hj)]
      simp [cgAt]
theorem cgFlat_append (xs ys : List Cg) : cgFlat (xs ++ ys) = cgFlat xs ++ cgFlat ys := by unfold cgFlat; rw [List.flatMap_append]
theorem cgFlat_one (c : Cg) : cgFlat [c] = c.vals := by simp [cgFlat]
theorem cgFlat_take (xs : List Cg) (i : Nat) : cgFlat (xs.take i) = (cgFlat xs).take (i * 10) := by
  by_cases h : i ≤ xs.length
  · have e : cgFlat xs = cgFlat (xs.take i) ++ cgFlat (xs.drop i) := by rw [← cgFlat_append, List.take_append_drop]
    have h2 : (cgFlat (xs.take i)).length = i * 10 := by rw [cgFlat_length, List.length_take]; omega
    rw [e, ← h2, List.take_left]
  · have h2 : (cgFlat xs).length ≤ i * 10 := by rw [cgFlat_length]; omega
    rw [List.take_of_length_le (show xs.length ≤ i by omega), List.take_of_length_le h2]
structure CgRow (W : World) (b off : Nat) (xs : List Cg) : Prop where
  at_ : ∀ j, j < xs.length → W.cell? ⟨b, off + j * 10, Option.none⟩ = some (.int .i64 (cgAt xs j).at_)
  key : ∀ j, j < xs.length → W.cell? ⟨b, off + j * 10 + 1, Option.none⟩ = some (.string (cgAt xs j).key)
  wk : ∀ j, j < xs.length → W.cell? ⟨b, off + j * 10 + 2, Option.none⟩ = some (.string (cgAt xs j).wk)
  wv : ∀ j, j < xs.length → W.cell? ⟨b, off + j * 10 + 3, Option.none⟩ = some (.string (cgAt xs j).wv)
  wn : ∀ j, j < xs.length → W.cell? ⟨b, off + j * 10 + 4, Option.none⟩ = some (.int .i64 (cgAt xs j).wn)
  nk : ∀ j, j < xs.length → W.cell? ⟨b, off + j * 10 + 5, Option.none⟩ = some (.string (cgAt xs j).nk)
  nv : ∀ j, j < xs.length → W.cell? ⟨b, off + j * 10 + 6, Option.none⟩ = some (.string (cgAt xs j).nv)
  nn : ∀ j, j < xs.length → W.cell? ⟨b, off + j * 10 + 7, Option.none⟩ = some (.int .i64 (cgAt xs j).nn)
  had : ∀ j, j < xs.length → W.cell? ⟨b, off + j * 10 + 8, Option.none⟩ = some (.bool (cgAt xs j).had)
  has : ∀ j, j < xs.length → W.cell? ⟨b, off + j * 10 + 9, Option.none⟩ = some (.bool (cgAt xs j).has)
theorem CgRow.grew {W W' : World} {b off : Nat} {xs : List Cg} (h : CgRow W b off xs) (g : Grew W W') (hb : b < W.heap.size) : CgRow W' b off xs :=
  ⟨fun j hj => (g.cells.1 _ _ hb).trans (h.at_ j hj), fun j hj => (g.cells.1 _ _ hb).trans (h.key j hj), fun j hj => (g.cells.1 _ _ hb).trans (h.wk j hj), fun j hj => (g.cells.1 _ _ hb).trans (h.wv j hj), fun j hj => (g.cells.1 _ _ hb).trans (h.wn j hj), fun j hj => (g.cells.1 _ _ hb).trans (h.nk j hj), fun j hj => (g.cells.1 _ _ hb).trans (h.nv j hj), fun j hj => (g.cells.1 _ _ hb).trans (h.nn j hj), fun j hj => (g.cells.1 _ _ hb).trans (h.had j hj), fun j hj => (g.cells.1 _ _ hb).trans (h.has j hj)⟩
def CgsAt (W : World) (a : Option Addr) (xs : List Cg) : Prop := xs = [] ∨ ∃ b off, a = some ⟨b, off, Option.none⟩ ∧ b < W.heap.size ∧ CgRow W b off xs
theorem CgsAt.grew {W W' : World} {a : Option Addr} {xs : List Cg} (h : CgsAt W a xs) (g : Grew W W') : CgsAt W' a xs := by
  rcases h with h | ⟨b, off, e, hb, h⟩
  · exact .inl h
  · exact .inr ⟨b, off, e, Nat.lt_of_lt_of_le hb g.size, h.grew g hb⟩
theorem cgsAt_of {T : TypeId} {W : World} {B : Nat} {v : Value} {xs : List Cg} (h : W.ownsRow B T 10 v xs.length (cgFlat xs)) : ∃ a cap, v = .slice a xs.length cap ∧ CgsAt W a xs := by
  rcases Nat.eq_zero_or_pos xs.length with h0 | h0
  · have hx : xs = [] := List.eq_nil_of_length_eq_zero h0
    rcases h.2 with ⟨rfl, _⟩ | ⟨g, cap, cur, rfl, _, hg, _⟩
    · exact ⟨Option.none, 0, by rw [h0], .inl hx⟩
    · exact ⟨_, _, rfl, .inl hx⟩
  · obtain ⟨g, cap, rfl, _, hlt⟩ := h.form h0
    refine ⟨_, _, rfl, .inr ⟨g, 0, rfl, hlt, ?_, ?_, ?_, ?_, ?_, ?_, ?_, ?_, ?_, ?_⟩⟩ <;> intro j hj
    · have := h.cellAt (j * 10 + 0) (by omega); rw [cgFlat_get 0 (by omega) xs j hj] at this; rw [Nat.zero_add]; exact this
    · have := h.cellAt (j * 10 + 1) (by omega); rw [cgFlat_get 1 (by omega) xs j hj] at this; rw [Nat.zero_add]; exact this
    · have := h.cellAt (j * 10 + 2) (by omega); rw [cgFlat_get 2 (by omega) xs j hj] at this; rw [Nat.zero_add]; exact this
    · have := h.cellAt (j * 10 + 3) (by omega); rw [cgFlat_get 3 (by omega) xs j hj] at this; rw [Nat.zero_add]; exact this
    · have := h.cellAt (j * 10 + 4) (by omega); rw [cgFlat_get 4 (by omega) xs j hj] at this; rw [Nat.zero_add]; exact this
    · have := h.cellAt (j * 10 + 5) (by omega); rw [cgFlat_get 5 (by omega) xs j hj] at this; rw [Nat.zero_add]; exact this
    · have := h.cellAt (j * 10 + 6) (by omega); rw [cgFlat_get 6 (by omega) xs j hj] at this; rw [Nat.zero_add]; exact this
    · have := h.cellAt (j * 10 + 7) (by omega); rw [cgFlat_get 7 (by omega) xs j hj] at this; rw [Nat.zero_add]; exact this
    · have := h.cellAt (j * 10 + 8) (by omega); rw [cgFlat_get 8 (by omega) xs j hj] at this; rw [Nat.zero_add]; exact this
    · have := h.cellAt (j * 10 + 9) (by omega); rw [cgFlat_get 9 (by omega) xs j hj] at this; rw [Nat.zero_add]; exact this
def Cg.agg (c : Cg) : Value := .agg #[.int .i64 c.at_, .string c.key, .string c.wk, .string c.wv, .int .i64 c.wn, .string c.nk, .string c.nv, .int .i64 c.nn, .bool c.had, .bool c.has]
def Cg.was (c : Cg) : Pr := ⟨c.wk, c.wv, c.wn⟩
def Cg.now (c : Cg) : Pr := ⟨c.nk, c.nv, c.nn⟩
theorem cgVals_one (c : Cg) : ∀ u ∈ c.vals, u.oneCell' = true := by
  intro u hu
  simp only [Cg.vals, List.mem_cons, List.not_mem_nil, or_false] at hu
  rcases hu with rfl | rfl | rfl | rfl | rfl | rfl | rfl | rfl | rfl | rfl <;> rfl
end Go.Proofs.YtbdagllflamabaaGreatDoor
