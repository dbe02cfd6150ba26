/- DskR, UnP, MapR, Clit: one text. -/
import Derived.Test.YthmjbeieheacmaaGreatDoorFinPlayCursorsQ8
import Derived.RangeFuncNested
import Derived.RangeFuncBound
import Derived.RangeFuncCalls
import Derived.RangeFuncLeaves
import Derived.RangeFuncBox
import Derived.Shelf.Abstract
import Derived.Shelf.RegionOpen
import Derived.OwnWalkIn
import Derived.TacticsInMore
import Derived.LoopNIn
import Derived.LoopIn
import Derived.Test.YthmjbeieheacmaaGreatDoorFinPlayCursorsQ1
import Derived.Maps.RangeWalk
import Derived.Maps.GroupsBeside
import Derived.Sort.KeysCollected
import Derived.StringKeys
import Derived.Maps.Keyed
import Derived.Laws.Externs
set_option linter.unusedVariables false
set_option linter.unusedSectionVars false
set_option linter.unusedSimpArgs false
namespace Go.Proofs.YthmjbeieheacmaaGreatDoor
open Go.RowKit Go.Maps Go.Shelf
attribute [local go_sem] Oper.semAt_some uponV
set_option maxRecDepth 100000 in
set_option maxHeartbeats 1000000 in
theorem bwD1_nil_in (F : Fence) (n : Nat) (h7 : F.fn 133) (hro : F.round = none) (l Bs : Nat) (J : List Empty → World → Prop) (W : World) (hBs : W.cell? ⟨Bs, 0, none⟩ = some (.slice none 0 0)) (h0 : J [] W) :
    CallsIn F n Tryz.prog 133 #[.func (.yield l) #[] #[], .pointer (some ⟨Bs, 0, none⟩)] W fun e W' => (∃ v, e = .returned v) ∧ J [] W' := by
  refine callsIn_of_wp Tryz.func133 rfl h7 ?_ hro
  simp only [Tryz.ntmps133, List.size_toArray, List.length_cons, List.length_nil, Nat.reduceAdd, Nat.reduceSub, Array.replicate_succ, Array.replicate_zero, List.push_toArray, List.append_toArray, List.nil_append, List.cons_append]
  gi_wp2
  gi_loopw [3] (fun i wr => i = .int .i64 (-1) ∧ J [] wr) (fun _ _ => 0)
  case atStart => exact ⟨rfl, h0⟩
  case round =>
    obtain ⟨rfl, hJs⟩ := hrel
    gi_wp2
    go_end0
    exact ⟨⟨_, rfl⟩, hJs⟩
set_option maxHeartbeats 1000000 in
theorem bwD_in (F : Fence) (n : Nat) (h5 : F.fn 123) (hro : F.round = none) (a : Option Addr) (len cap : Nat) (w : World) :
    CallsIn F n Tryz.prog 123 #[.slice a len cap] w fun e w' => e = .returned (.func (.func 133) #[] #[.pointer (some ⟨w.heap.size, 0, none⟩)]) ∧ w' = w.alloc (.cells #[.slice a len cap] 94) := by
  refine callsIn_of_wp Tryz.func123 rfl h5 ?_ hro
  simp only [Tryz.ntmps123, List.size_toArray, List.length_cons, List.length_nil, Nat.reduceAdd, Nat.reduceSub, Array.replicate_succ, Array.replicate_zero, List.push_toArray, List.append_toArray, List.nil_append, List.cons_append]
  gi_wp2
  go_ret
  exact ⟨rfl, rfl⟩
theorem bwD_stops (F : Fence) (n : Nat) (h7 : F.fn 133) (hro : F.round = none) (Bs n₀ : Nat) (w : World) (hBs : Bs < w.heap.size) (hBn : Bs < n₀) (hc : w.cell? ⟨Bs, 0, none⟩ = some (.slice none 0 0)) :
    SeqStopsK F n Tryz.prog 133 #[.pointer (some ⟨Bs, 0, none⟩)] (fun x : Empty => x.elim) (Below n₀) (fun ys => ys = []) (fun _ => False) 0 w := fun l J Jx W hW _ _ hY h0 => by
  have hc' := (hW.cell (p := ⟨Bs, 0, none⟩) hBs).trans hc
  exact (bwD1_nil_in F n h7 hro l Bs J W hc' h0).mono fun e W' ⟨he, hj⟩ => ⟨he, .inl ⟨_, rfl, hj⟩⟩
def RdI (w W0 : World) (i : Nat) (pre : List Empty) (W : World) : Prop := (W.cell? ⟨w.heap.size, 0, none⟩ = some (.int .i64 i) ∧ W.cell? ⟨w.heap.size + 1, 0, none⟩ = some (.slice none 0 0) ∧ W.cell? ⟨w.heap.size + 1 + 1, 0, none⟩ = some .nilIface ∧ W.frozen? ⟨w.heap.size + 1, 0, none⟩ = false ∧ W.frozen? ⟨w.heap.size + 1 + 1, 0, none⟩ = false ∧ W0.heap.size ≤ W.heap.size) ∧ Below w.heap.size w W
theorem RdI.own {w W0 : World} {i : Nat} (h4 : w.heap.size ≤ W0.heap.size) : OwnFrom W0.heap.size (RdI w W0 i) := by
  rintro pre W W' row ⟨⟨h1, h2, h3, h4', h5, h6⟩, h7⟩ hg hr
  have hr' := fun r e => (hr r e).2
  exact ⟨⟨cell_kept h1 hg hr', cell_kept h2 hg hr', cell_kept h3 hg hr', (frozen_kept h2 hg hr').trans h4', (frozen_kept h3 hg hr').trans h5, Nat.le_trans h6 hg.size⟩, h7.grown hg h7.size (fun k e => Nat.le_trans h4 (hr k e).1)⟩
theorem sec_img {w : World} {g n cap : Nat} {cur : List Value} {img : List Int} (hb : w.heap[g]? = some (.cells cur.toArray 5 (0, 0))) (ht : cur.take (n * 64) = u8Flat img) (hl : cur.length = cap) (hc : n * 64 ≤ cap) (i : Nat) (hi : i < n) :
    ((img.drop (i * 64)).take 64).length = 64 ∧ BytesAt w (some ⟨g, i * 64, none⟩) ((img.drop (i * 64)).take 64) := by
  have hlen : img.length = n * 64 := by
    have := congrArg List.length ht
    rw [List.length_take, u8Flat_length, hl] at this
    omega
  refine ⟨by rw [List.length_take, List.length_drop]; omega, .inr ⟨g, i * 64, rfl, (Array.getElem?_eq_some_iff.1 hb).1, fun j v hj => ?_⟩⟩
  rw [List.getElem?_take] at hj
  split at hj
  · rw [List.getElem?_drop] at hj
    rw [cell_of_row _ _ _ _ _ _ hb]
    have h2 : (u8Flat img)[i * 64 + j]? = some (.int .u8 v) := by unfold u8Flat; rw [List.getElem?_map, hj]; rfl
    rw [← ht, List.getElem?_take] at h2
    split at h2
    · simpa using h2
    · cases h2
  · cases hj
set_option maxRecDepth 100000 in
set_option maxHeartbeats 4000000 in
theorem dkRead0_any {w : World} {G : Nat → Prop} {db n : Nat} {iv : Value} {img : List Int} (h : DkIs w G db n iv (.slice none 0 0) img []) (i : Nat) (hi : i < n) :
    Calls Tryz.prog 99 #[.pointer (some ⟨db, 0, none⟩), .int .i64 i] w fun e w' => ∃ a c, e = .returned (.tuple #[.slice a 64 c, .nilIface]) ∧ w'.ownsRow w.heap.size 5 1 (.slice a 64 c) 64 (u8Flat ((img.drop (i * 64)).take 64)) ∧ Grew w w' := by
  obtain ⟨g, cap, cur, rfl, hb, hc1, hl, ht, hcm⟩ := h.form
  obtain ⟨hq1, hq2⟩ := sec_img hb ht hl hc1 i hi
  have c0 := h.c0
  have c1 := h.c1
  have hdb := cell_lt c0
  have HH := hid (fun W (k : Grew w W) => dkHas_any (w := W) (G := G) (db := db) (n := n) (m := 0) ⟨_, _, _, _, rfl, h.kept (k.only fun _ => False) (fun _ _ h => h)⟩ i hi)
  have HQ1 := hid hq1
  have HQ2 := hid hq2
  have hbig := h.big
  clear h hb ht hl hq1 hq2
  have e1 : ((i * 64 : Nat) : Int) = (i : Int) * 64 := by omega
  have e2 : (((i + 1) * 64 : Nat) : Int) = ((i : Int) + 1) * 64 := by omega
  refine (callsIn_wide (n := 20)).1 (callsIn_of_wp_marks Tryz.func99 rfl trivial ?_)
  refine wpIn_wide.2 ?_
  simp only [Tryz.ntmps99, List.size_toArray, List.length_cons, List.length_nil, Nat.reduceAdd, Nat.reduceSub, Array.replicate_succ, Array.replicate_zero, List.push_toArray, List.append_toArray, List.nil_append, List.cons_append]
  go_wp2_with fail
  obtain ⟨Y, hY⟩ : ∃ Y, Y = ((w.alloc (.cells #[.int .i64 i] 3)).alloc (.cells #[.slice none 0 0] 79)).alloc (.cells #[.nilIface] 26) := ⟨_, rfl⟩
  have hgY : Grew w Y := by rw [hY]; exact (((Grew.refl w).alloc _).alloc _).alloc _
  have y0 : Y.cell? ⟨w.heap.size, 0, none⟩ = some (.int .i64 i) := by rw [hY]; simp [go_sem]
  have y1 : Y.cell? ⟨w.heap.size + 1, 0, none⟩ = some (.slice none 0 0) := by rw [hY]; simp [go_sem]
  have y2 : Y.cell? ⟨w.heap.size + 1 + 1, 0, none⟩ = some .nilIface := by rw [hY]; simp [go_sem]
  have yf1 : Y.frozen? ⟨w.heap.size + 1, 0, none⟩ = false := by rw [hY]; simp [go_sem]
  have yf2 : Y.frozen? ⟨w.heap.size + 1 + 1, 0, none⟩ = false := by rw [hY]; simp [go_sem]
  have hsz : Y.heap.size = w.heap.size + 3 := by rw [hY]; simp
  rw [← hY]
  clear hY
  have HY := hid (And.intro y0 (And.intro y1 (And.intro y2 (And.intro yf1 yf2))))
  have HSZ := hid hsz
  have HGY := hid hgY
  have c1' := (hgY.cells.1 _ 1 hdb).trans c1
  clear y0 y1 y2 yf1 yf2 hsz hgY
  refine (HH.out _ HGY.out).mono ?_
  rintro e w1 ⟨rfl, rfl⟩
  go_wp2_with fail
  refine ((callsIn_wide (n := 20)).1 (bwD_in Fence.wide 20 trivial rfl _ _ _ _)).mono ?_
  rintro e W0 ⟨rfl, hW0⟩
  have HW0 := hid hW0
  clear hW0
  go_wp2_with fail
  have hs0 : W0.heap.size = w1.heap.size + 1 := by rw [HW0.out]; simp
  have g0 : Grew w1 W0 := by rw [HW0.out]; exact (Grew.refl w1).alloc _
  have hsz := HSZ.out
  have hGw : Grew w W0 := HGY.out.trans g0
  have hb0 : W0.cell? ⟨w1.heap.size, 0, none⟩ = some (.slice none 0 0) := by rw [HW0.out]; simp [go_sem]
  have hI0 : RdI w W0 i [] W0 := ⟨⟨(g0.cells.1 _ 0 (by omega)).trans HY.out.1, (g0.cells.1 _ 0 (by omega)).trans HY.out.2.1, (g0.cells.1 _ 0 (by omega)).trans HY.out.2.2.1, (g0.cells.2 _ 0 (by omega)).trans HY.out.2.2.2.1, (g0.cells.2 _ 0 (by omega)).trans HY.out.2.2.2.2, Nat.le_refl _⟩, hGw⟩
  refine (wpIn_wide (n := 20)).1 ?_
  refine wpIn_rangeFunc_ownH rfl (by omega) (gf := 133) (lb := #[.pointer (some ⟨w1.heap.size, 0, none⟩)]) rfl trivial (enters_of Tryz.func133 (by kernel_rfl) rfl)
    (bwD_stops Fence.wide 19 trivial rfl w1.heap.size W0.heap.size W0 (by omega) (by omega) hb0) belowK_t (belowK_b (by omega)) (Below.refl _ _) (fun x => x.elim)
    (RdI w W0 i) (fun _ _ _ => False) (RdI.own hGw.size) (fun c => fun _ _ _ _ h _ _ => h) hI0
    (fun x a' W => x.elim)
    (fun x => x.elim)
    ?assign ?body ?done ?stop
  case assign => rintro l pre x; exact x.elim
  case body => rintro l pre x; exact x.elim
  case stop => rintro D c pre W _ h; exact h.elim
  case done =>
    rintro D ys W hD _ ⟨⟨i1, i2, i3, i4, i5, i6⟩, i7⟩ hK
    go_wp2_with fail
    have C0 := wd_cell ((i7.cell (p := ⟨db, 0, none⟩) hdb).trans c0)
    have CI := wd_cell i1
    have HI7 := hid i7
    have HK := hid hK
    have HB := hid (And.intro i2 (And.intro i3 (And.intro i4 i5)))
    clear i1 i2 i3 i4 i5 i7 hK c0 c1 c1'
    refine wp_region_still 10 (by kernel_rfl) (by kernel_rfl) (fun _ _ => rfl) ?_
    repeat (first
    | (refine mxP ?_; intros; go_big_quiet_op; go_big_quiet_on)
    | (refine mxK ?_; simp only [Act.put, List.setIfInBounds_toArray, List.set_cons_zero, List.set_cons_succ]))
    refine mixS_done (by rfl) ?_
    intro x hG
    dsimp only [List.drop]
    have HGX := hid hG
    obtain ⟨b2, b3, b4, b5⟩ := HB.out
    have hWs := HI7.out.size
    have k2 := cell_lt b2
    have k3 := cell_lt b3
    have hgW : Grew w W := HI7.out
    have HCX := hid (cloneB_any x (some ⟨g, i * 64, none⟩) 64 (cap - i * 64) _ HQ1.out.symm (HQ2.out.grew (hgW.trans hG)) (.inr ⟨_, _, rfl⟩) (by rw [HQ1.out]; omega))
    clear hgW
    have x2 := (hG.cells.1 _ 0 k2).trans b2
    have x3 := (hG.cells.1 _ 0 k3).trans b3
    have x4 := (hG.cells.2 _ 0 k2).trans b4
    have x5 := (hG.cells.2 _ 0 k3).trans b5
    have HX := hid (And.intro x2 (And.intro x3 (And.intro x4 x5)))
    clear C0 CI b2 b3 b4 b5 x2 x3 x4 x5 hG
    go_wp2_with fail
    rw [show (i + 1) * 64 - i * 64 = 64 by omega]
    refine HCX.out.mono ?_
    rintro e x1 ⟨a, c, rfl, hrow, hg⟩
    obtain ⟨x2, x3, x4, x5⟩ := HX.out
    have y2 := (hg.cells.1 _ 0 (cell_lt x2)).trans x2
    have y3 := (hg.cells.1 _ 0 (cell_lt x3)).trans x3
    have y4 := (hg.cells.2 _ 0 (cell_lt x2)).trans x4
    have y5 := (hg.cells.2 _ 0 (cell_lt x3)).trans x5
    have HR := hid hrow
    have HG1 := hid hg
    clear hrow hg HCX HX x2 x3 x4 x5
    go_wp2_with fail
    obtain ⟨Z, hZ⟩ : ∃ Z, Z = (x1.setCell ⟨w.heap.size + 1, 0, none⟩ (.slice a 64 c)).setCell ⟨w.heap.size + 1 + 1, 0, none⟩ .nilIface := ⟨_, rfl⟩
    have hO : Only (fun j => j = w.heap.size + 1 ∨ j = w.heap.size + 1 + 1) x1 Z := by
      rw [hZ]
      exact ((Only.setCell x1 ⟨w.heap.size + 1, 0, none⟩ _).mono fun _ h => .inl (.inl h)).then ((Only.setCell _ ⟨w.heap.size + 1 + 1, 0, none⟩ _).mono fun _ h => .inl (.inr h))
    have z2 : Z.cell? ⟨w.heap.size + 1, 0, none⟩ = some (.slice a 64 c) := by rw [hZ]; simp [go_sem, y2, y3]
    have z3 : Z.cell? ⟨w.heap.size + 1 + 1, 0, none⟩ = some .nilIface := by rw [hZ]; simp [go_sem, y2, y3]
    rw [← hZ]
    have hxs := HGX.out.size
    have hx1 := HG1.out.size
    have hDW : D < W.heap.size := (Array.getElem?_eq_some_iff.1 HK.out).1
    have hKZ : Z.heap[D]? = some (.deferred (some [])) := (hO.block D (by omega) (by omega)).trans ((HG1.out.below.block D (by omega)).trans ((HGX.out.below.block D hDW).trans HK.out))
    have hGZ : Grew w Z := by
      have h1 : Grew w x1 := (show Grew w W from HI7.out).trans (HGX.out.trans HG1.out)
      exact ((h1.only _).then hO).grew (fun j hj => by omega)
    refine ⟨by simp, .inl ⟨_, _, rfl, run_takeDeferred hKZ, ?_⟩⟩
    have hp := grownBy_putObj' Z D (.deferred none)
    refine ⟨.tuple #[.slice a 64 c, .nilIface], ?_, a, c, rfl, ?_, ?_⟩
    · have c2 := cell_kept z2 hp (fun r e => by cases e; exact ⟨_, hKZ, rfl⟩)
      have c3 := cell_kept z3 hp (fun r e => by cases e; exact ⟨_, hKZ, rfl⟩)
      simp [results, Tryz.f99, go_sem, c2, c3]
    · have hrr := HR.out
      rw [HQ1.out] at hrr
      refine ownsRow_base (by omega) (ownsRow_kept (ownsRow_kept hrr hO fun b hb e => ?_) (Only.of_grownBy hp) fun b hb e => ?_)
      · have := (HR.out.lt b hb).1; omega
      · have h1 := (HR.out.lt b hb).1
        have h2 : b = D := Option.some.inj e
        omega
    · exact Below.trans hGZ (belowK_b (w := w) (Nat.le_refl _) Z D _ _ (by omega) hKZ rfl rfl)
end Go.Proofs.YthmjbeieheacmaaGreatDoor
namespace Go.Proofs.YthmjbeieheacmaaGreatDoor
namespace Pl
structure Sg where
  place : Nat
  num : Nat
  sect : Nat
structure Pg where
  adr : Nat
  bs : List Int
  seg : Nat
structure Un where
  segs : List Sg
  pgs : List Pg
  trim : Nat
  epoch : Nat
  top : Nat
def Un.new : Un := ⟨[], [], 0, 0, 0⟩
def need (n : Nat) : Nat := 1 + (n + 63) / 64
def takenB (segs : List Sg) (p : Nat) : Bool := segs.any fun g => decide (g.place = p)
def freeP (segs : List Sg) : Option Nat := if takenB segs 0 = false then some 0 else if takenB segs 1 = false then some 1 else if takenB segs 2 = false then some 2 else none
def nextN : List Sg → Nat
  | [] => 0
  | [g] => g.num + 1
  | _ :: g :: r => nextN (g :: r)
def fits : List Sg → Nat → Bool
  | [], _ => false
  | [g], n => decide (g.sect + need n ≤ 63)
  | _ :: g :: r, n => fits (g :: r) n
def addL : List Sg → Nat → List Sg
  | [], _ => []
  | [g], k => [⟨g.place, g.num, g.sect + k⟩]
  | a :: g :: r, k => a :: addL (g :: r) k
def putR (segs : List Sg) (n : Nat) : Option (List Sg) :=
  if fits segs n then some (addL segs (need n)) else (freeP segs).map fun p => segs ++ [⟨p, nextN segs, need n⟩]
def lastN : List Sg → Nat
  | [] => 0
  | [g] => g.num
  | _ :: g :: r => lastN (g :: r)
def Un.get (U : Un) (a : Nat) : Option (List Int) := if a < U.trim then none else (U.pgs.find? fun p => decide (p.adr = a)).map (·.bs)
def Un.check (U : Un) (e a : Int) (most : Int) : Nat := if e < U.epoch ∨ 1073741824 < e then 8 else if a < 0 ∨ most < a then 1 else 0
def pageR (a : Nat) (bs : List Int) : List Int := numB 1 ++ (numB a ++ (numB bs.length ++ bs))
def Un.write (U : Un) (e a : Int) (bs : List Int) : Nat × Un :=
  if U.check e a 4095 ≠ 0 then (U.check e a 4095, U) else
  if bs.length = 0 ∨ 2048 < bs.length then (3, U) else
  if a.toNat < U.trim then (11, U) else
  if (U.get a.toNat).isSome then (9, U) else
  match putR U.segs (pageR a.toNat bs).length with
  | none => (13, U)
  | some s => (0, ⟨s, U.pgs ++ [⟨a.toNat, bs, lastN s⟩], U.trim, U.epoch, max U.top (a.toNat + 1)⟩)
def Un.read (U : Un) (e a : Int) : Nat × List Int :=
  if U.check e a 4095 ≠ 0 then (U.check e a 4095, []) else
  if a.toNat < U.trim then (11, []) else
  match U.get a.toNat with
  | none => (10, [])
  | some b => (0, b)
def Un.tail (U : Un) : Nat := max U.top U.trim
structure UnOk (U : Un) (m : Nat) : Prop where
  place : ∀ g ∈ U.segs, g.place < 3
  apart : (U.segs.map (·.place)).Nodup
  rise : (U.segs.map (·.num)).Pairwise (· < ·)
  num : ∀ g ∈ U.segs, g.num < m
  sect : ∀ g ∈ U.segs, g.sect ≤ 63
  few : U.pgs.length ≤ m
  adr : ∀ p ∈ U.pgs, p.adr < 4096 ∧ p.adr < U.top ∧ 0 < p.bs.length ∧ p.bs.length ≤ 2048
  once : (U.pgs.map (·.adr)).Nodup
  old : ∀ p ∈ U.pgs, p.seg < m
  bytes : ∀ p ∈ U.pgs, ∀ b ∈ p.bs, 0 ≤ b ∧ b < 256
  trim : U.trim ≤ 4096
  epoch : U.epoch ≤ 1073741824
  top : U.top ≤ 4096
structure SgOk (l : List Sg) (m : Nat) : Prop where
  place : ∀ g ∈ l, g.place < 3
  apart : (l.map (·.place)).Nodup
  rise : (l.map (·.num)).Pairwise (· < ·)
  num : ∀ g ∈ l, g.num < m
  sect : ∀ g ∈ l, g.sect ≤ 63
theorem UnOk.mono {U : Un} {m n : Nat} (h : UnOk U m) (hmn : m ≤ n) : UnOk U n :=
  ⟨h.place, h.apart, h.rise, fun g hg => Nat.lt_of_lt_of_le (h.num g hg) hmn, h.sect, Nat.le_trans h.few hmn, h.adr, h.once, fun p hp => Nat.lt_of_lt_of_le (h.old p hp) hmn, h.bytes, h.trim, h.epoch, h.top⟩
end Pl
end Go.Proofs.YthmjbeieheacmaaGreatDoor
namespace Go.Proofs.YthmjbeieheacmaaGreatDoor
open Go.RowKit Go.Maps Go.ChangeMaps Go.MapKept Go.WideShapes
open Go.WideElems (Fit rd rg pl rd_key rd_val rg_of other_key rd_mk)
def mlit (s : ByteArray) : Lit := .string s.data.toList
section
variable {w : World} {P : Program} {k e t : TypeId} {b n r cnt : Nat} {f : Lit → Option Value} {left : Lit → Bool}
theorem ranges_store {H : Type} {R : Value → Option (DataW H × List MemPlace)} {D : DataW H} (h : w.ranges P k R b r n D left cnt) (K : Keyed P k) (ht : P.underlying t = some (.map k e)) {key val : Value} {kl : Lit} {d : DataW H} {ps : List MemPlace}
    (hkey : keyOf P k key = some kl) (hv : R val = some (d, ps)) (hn : n < maxLen) (hhas : Maps.has D kl = true) : ∃ w', (Instr.mapUpdate t (.map (some b)) key val).run P w = .ok () w' ∧ w'.ranges P k R b r n (D.put kl d) left cnt ∧ w.mapTurned w' b := by
  have hne := h.ne
  obtain ⟨es, clock, since, seen, c0, hb, F, hs, rfl, hr, hold, rfl, hl1, hl2, hsc, hsk⟩ := h
  obtain ⟨es', clock', hrun', F', hput', _, _, _⟩ := Maps.fit_store (R' := R) K ht hb F (Nat.lt_of_le_of_lt hs hn) (fun _ _ _ _ hz => hz) hkey hv
  rcases K.find w hkey es.toList F.keys with ⟨h1, h2⟩ | ⟨j, e0, h1, h2, h3⟩
  · exfalso
    obtain ⟨p, hp, hpk⟩ := List.any_eq_true.1 hhas
    obtain ⟨x, hx, rfl⟩ := List.mem_map.1 (mem_sorted.1 hp)
    obtain ⟨y, hy⟩ := F.reads x hx
    have e1 := WideAt.sameKey_eq hpk
    rw [rg_of hy] at e1
    exact h2 x hx (K.inj (e1 ▸ rd_key hy) hkey)
  · have hj : es[j]? = some e0 := by simpa using h2
    have hjl : j < es.toList.length := (List.getElem?_eq_some_iff.1 h2).1
    have hrun : (Instr.mapUpdate t (.map (some b)) key val).run P w = .ok () (setBlock w b (.map (es.modify j (fun e' => { e' with key := key, val := val })) clock)) := by
      simp [Instr.mapUpdate, run_underlying ht, MapKept.run_getObj_map hb, K.check w false hkey, h1, hj, h3, K.stays w hkey, MapKept.run_setObj_map _ hb, Result.andThen, setBlock]
    have heq := hrun'.symm.trans hrun
    have hblk : setBlock w b (.map es' clock') = setBlock w b (.map (es.modify j (fun e' => { e' with key := key, val := val })) clock) := by injection heq
    have hobj : (Obj.map es' clock') = .map (es.modify j (fun e' => { e' with key := key, val := val })) clock := by
      have h5 := heap_setBlock_same hb (.map es' clock')
      rw [hblk, heap_setBlock_same hb] at h5
      exact (Option.some.inj h5).symm
    have hes : es' = es.modify j (fun e' => { e' with key := key, val := val }) := by injection hobj
    have hcl : clock' = clock := by injection hobj
    have hlist : es'.toList = es.toList.set j { e0 with key := key, val := val } := by
      rw [hes, Array.toList_modify, List.modify_eq_set, h2]; rfl
    rw [hcl] at hrun' F'
    -- whoever stands there now stood there ahead, with the same stamp and the same key
    have who : ∀ x' ∈ es'.toList, ∃ x ∈ es.toList, x.born = x'.born ∧ x.key = x'.key := by
      intro x' hx'
      rw [hlist] at hx'
      obtain ⟨i, hi, ex⟩ := List.getElem_of_mem hx'
      rw [List.getElem_set] at ex
      split at ex
      · subst ex; exact ⟨e0, List.mem_of_getElem? h2, rfl, h3⟩
      · exact ⟨x', ex ▸ List.getElem_mem (by simpa using hi), rfl, rfl⟩
    have back : ∀ x ∈ es.toList, ∃ x' ∈ es'.toList, x'.key = x.key := by
      intro x hx
      obtain ⟨i, hi, ex⟩ := List.getElem_of_mem hx
      rw [hlist]
      by_cases hij : j = i
      · subst hij
        refine ⟨_, List.getElem_mem (l := es.toList.set j { e0 with key := key, val := val }) (n := j) (by simpa using hi), ?_⟩
        rw [List.getElem_set_self]
        rw [List.getElem?_eq_getElem hi, Option.some.injEq] at h2
        rw [← ex, h2]; exact h3.symm
      · refine ⟨x, ?_, rfl⟩
        have : (es.toList.set j { e0 with key := key, val := val })[i]'(by simpa using hi) = x := by rw [List.getElem_set_ne hij, ex]
        rw [← this]; exact List.getElem_mem _
    have keyeq : ∀ x ∈ es.toList, ∀ x' ∈ es'.toList, x.key = x'.key → (rg P k R x).1 = (rg P k R x').1 := by
      intro x hx x' hx' hk
      obtain ⟨y, hy⟩ := F.reads x hx
      obtain ⟨y', hy'⟩ := F'.reads x' hx'
      rw [rg_of hy, rg_of hy']
      have := rd_key hy
      rw [hk, rd_key hy'] at this
      exact (Option.some.inj this).symm
    have hsz : es'.size = es.size := by rw [hes]; simp
    have hleft : (leftOf es' seen).size = (leftOf es seen).size := by
      have e1 : ∀ a : Array MapEntry, (leftOf a seen).size = (a.toList.filter fun e => !seen.contains e.born).length := fun a => by
        unfold leftOf
        rw [← Array.toList_filter, Array.length_toList]
      rw [e1, e1]
      have hm : (es'.toList.map MapEntry.born) = es.toList.map MapEntry.born := by
        rw [hlist, List.map_set]
        have : (es.toList.map MapEntry.born)[j]? = some e0.born := by rw [List.getElem?_map, h2]; rfl
        apply List.ext_getElem?
        intro i
        by_cases hij : j = i
        · subst hij; rw [List.getElem?_set_self (by simpa using hjl), this]
        · rw [List.getElem?_set_ne hij]
      have key : ∀ l : List MapEntry, (l.filter fun e => !seen.contains e.born).length = ((l.map MapEntry.born).filter fun x => !seen.contains x).length := by
        intro l; rw [List.filter_map, List.length_map]; rfl
      rw [key, key, hm]
    refine ⟨_, hrun', ⟨es', clock, since, seen, c0, heap_setBlock_same hb _, F', by omega, by rw [DataW.put_eq, hput'], (heap_setBlock_other hb _ hne).trans hr, fun x' hx' => ?_, hleft, fun x' hx' => ?_, fun x0 hx0 => ?_, hsc, hsk⟩, ⟨es, clock, es', clock, hb, rfl⟩⟩
    · obtain ⟨x, hx, e1, _⟩ := who x' hx'
      rw [← e1]; exact hold x hx
    · obtain ⟨x, hx, e1, e2⟩ := who x' hx'
      rw [← keyeq x hx x' hx' e2, hl1 x hx, e1]
    · obtain ⟨x, hx, e1⟩ := hl2 x0 hx0
      obtain ⟨x', hx', e2⟩ := back x hx
      exact ⟨x', hx', by rw [← keyeq x hx x' hx' e2.symm, e1]⟩
def MRange (w : World) (P : Program) (k : TypeId) (b r n : Nat) (f : Lit → Option Value) (left : Lit → Bool) (cnt : Nat) : Prop := ∃ D, w.ranges P k raw b r n D left cnt ∧ ∀ l, lookD D l = f l
theorem MRange.lmap (h : MRange w P k b r n f left cnt) : LMap w P k b n f := by obtain ⟨D, h, hf⟩ := h; exact ⟨D, h.owns, hf⟩
theorem MRange.kept {S : Nat → Prop} {w' : World} (h : MRange w P k b r n f left cnt) (g : Only S w w') (hb : ¬ S b) (hr : ¬ S r) : MRange w' P k b r n f left cnt := by
  obtain ⟨D, h, hf⟩ := h
  have h1 := h.owns.lt
  have h2 := h.lt
  obtain ⟨es, clock, since, seen, c0, hb', F, hs, hD, hr', rest⟩ := h
  exact ⟨D, ⟨es, clock, since, seen, c0, (g.block b h1 hb).trans hb', F, hs, hD, (g.block r h2 hr).trans hr', rest⟩, hf⟩
theorem MRange.grew {w' : World} (h : MRange w P k b r n f left cnt) (g : Grew w w') : MRange w' P k b r n f left cnt := h.kept (g.only fun _ => False) (fun h => h) (fun h => h)
theorem MRange.left_eq (h : MRange w P k b r n f left cnt) : w.rangeLeft b r = cnt := by obtain ⟨D, h, _⟩ := h; exact h.left_eq
theorem MRange.lt (h : MRange w P k b r n f left cnt) : r < w.heap.size := by obtain ⟨D, h, _⟩ := h; exact h.lt
theorem MRange.ne (h : MRange w P k b r n f left cnt) : r ≠ b := by obtain ⟨D, h, _⟩ := h; exact h.ne
theorem wpList_range_M {ops : Array Oper} {rest : List Oper} {o : Oper} {a : Act} {Q : Exit → Act → World → Prop} (hg : o.guard = none) (m : Operand) (hop : o.op = Op.range t m) (K : Keyed P k) (ht : P.underlying t = some (.map k e))
    (hm : a.eval m = .map (some b)) (h : LMap w P k b n f)
    (hK : ∀ w' left cnt, MRange w' P k b w.heap.size n f left cnt → (∀ l, left l = false → f l = none) → Grew w w' → w'.heap.size = w.heap.size + 1 → wpList P ops Q rest (a.put o.dst (.pointer (some ⟨w.heap.size, 0, none⟩))) w') :
    wpList P ops Q (o :: rest) a w := by
  obtain ⟨D, h, hf⟩ := h
  exact wpList_range_own w hg m t hop k e K ht raw b n D hm h fun w' h1 h2 h3 => hK w' _ _ ⟨D, h1, hf⟩ (fun l hl => by rw [← hf]; unfold lookD; rw [if_neg (by rw [hl]; simp)]) ((Only.of_grownBy h2).grew (fun j hj => by cases hj)) h3
theorem MRange.store {key val : Value} {l : Lit} (h : MRange w P k b r n f left cnt) (K : Keyed P k) (ht : P.underlying t = some (.map k e)) (hn : n < maxLen) (hkey : keyOf P k key = some l) (hf : f l ≠ none) :
    ∃ w', (Instr.mapUpdate t (.map (some b)) key val).run P w = .ok () w' ∧ MRange w' P k b r n (lset f l (some val)) left cnt ∧ w.mapTurned w' b := by
  obtain ⟨D, h, hf'⟩ := h
  have hm := h.owns.isMap
  have hl := K.key hkey
  have hhas : Maps.has D l = true := by
    cases hh : Maps.has D l with
    | true => rfl
    | false => exact absurd (by rw [← hf' l]; unfold lookD; rw [if_neg (by rw [hh]; simp)]) hf
  obtain ⟨w', hrun, h1, h2⟩ := ranges_store h K ht hkey (val := val) (d := .held val) (ps := []) rfl hn hhas
  refine ⟨w', hrun, ⟨_, h1, fun m => ?_⟩, h2⟩
  unfold lset
  split
  · next he => subst he; unfold lookD; rw [has_put_same hm hl, atKey_put_same hm hl]; rfl
  · next he => rw [← hf']; unfold lookD; rw [has_put_other he, atKey_put_other he]
theorem MRange.drop {key : Value} {l : Lit} (h : MRange w P k b r n f left cnt) (K : Keyed P k) (ht : P.underlying t = some (.map k e)) (hkey : keyOf P k key = some l) (ty : TypeId) :
    ∃ w' cnt', (Builtin.delete_ #[t, k] ty #[.map (some b), key]).run P w = .ok (.tuple #[]) w' ∧ MRange w' P k b r n (lset f l none) (fun x => left x && !x.sameKey l) cnt' ∧ cnt' ≤ cnt ∧ w.mapTurned w' b := by
  obtain ⟨D, h, hf⟩ := h
  obtain ⟨w', cnt', hrun, h1, h2, h3⟩ := h.drop K ht hkey ty
  refine ⟨w', cnt', hrun, ⟨_, h1, fun m => ?_⟩, h2, h3⟩
  unfold lset
  split
  · next he => subst he; unfold lookD; rw [has_del_same]; rfl
  · next he => rw [← hf]; unfold lookD; rw [has_del_other he, atKey_del_other he]
theorem wpList_delete_M {ops : Array Oper} {rest : List Oper} {o : Oper} {a : Act} {Q : Exit → Act → World → Prop} (hg : o.guard = none) (m x : Operand) (hop : o.op = Op.call { callee := Callee.builtin Builtin.delete, args := #[m, x], argTypes := #[t, k] }) (K : Keyed P k) (ht : P.underlying t = some (.map k e))
    (hm : a.eval m = .map (some b)) (h : MRange w P k b r n f left cnt) (key : Value) (l : Lit) (hx : a.eval x = key) (hkey : keyOf P k key = some l)
    (hK : ∀ w' cnt', MRange w' P k b r n (lset f l none) (fun x => left x && !x.sameKey l) cnt' → cnt' ≤ cnt → Only (fun j => j = b) w w' → wpList P ops Q rest (a.put o.dst (.tuple #[])) w') : wpList P ops Q (o :: rest) a w := by
  refine wpList_plain hg fun K' hK' => ?_
  obtain ⟨w', cnt', hrun, r1, r3, r2⟩ := h.drop K ht hkey o.type
  unfold Oper.wp
  simp [execOp, hop, resolve, invoke, builtin, hm, hx, hrun, Result.andThen]
  exact hK' _ _ (hK w' cnt' r1 r3 (Only.of_turned r2))
end
def keysD (D : DataW Value) : List ByteArray := (strKeys D).map fun l => ⟨l.toArray⟩
theorem ownsMap_keys {w : World} {P : Program} {k : TypeId} {b n : Nat} {D : DataW Value} (h : w.ownsMap P k raw b n D) (K : Keyed P k) (hk : P.underlying k = some .string) :
    (keysD D).Nodup ∧ (∀ s, s ∈ keysD D ↔ lookD D (mlit s) ≠ none) ∧ (keysD D).length ≤ n ∧ Maps.size D ≤ n := by
  obtain ⟨es, hD, hpw, _⟩ := h.entries K
  obtain ⟨es', hD', hko⟩ := h.keysOf
  obtain rfl : es = es' := by rw [hD] at hD'; simpa using hD'
  have hstr : ∀ p ∈ es, ∃ x, p.1 = .string x := fun p hp => by obtain ⟨v, hv⟩ := hko p hp; obtain ⟨x, _, hx, _⟩ := Maps.keyOf_str hk hv; exact ⟨x, hx⟩
  have hin : ∀ l : List UInt8, (⟨⟨l⟩⟩ : ByteArray).data.toList = l := fun l => rfl
  have hkd : keysD D = es.map fun p => ⟨⟨strOf p.1⟩⟩ := by rw [hD]; unfold keysD strKeys; rw [List.map_map]; rfl
  have hlen : es.length ≤ n := by
    obtain ⟨es2, clock, hb, F, hs, hD2⟩ := h
    rw [hD] at hD2
    have e1 : es = (es2.toList.map (rg P k raw)).foldr DataW.insert [] := by injection hD2
    rw [e1, length_sorted]
    simpa using hs
  rw [hkd]
  refine ⟨?_, fun s => ?_, by rw [List.length_map]; exact hlen, by rw [hD]; exact hlen⟩
  · refine List.pairwise_map.2 (hpw.imp_of_mem fun {p q} hp' hq' hne e => hne ?_)
    obtain ⟨a, ha⟩ := hstr p hp'
    obtain ⟨c, hc⟩ := hstr q hq'
    rw [ha, hc] at e ⊢
    have e2 : a = c := by injection e with e1; injection e1
    rw [e2]
  · constructor
    · intro hs
      obtain ⟨p, hp, rfl⟩ := List.mem_map.1 hs
      obtain ⟨a, ha⟩ := hstr p hp
      have hhas : Maps.has D (mlit ⟨⟨strOf p.1⟩⟩) = true := by
        rw [hD]
        refine List.any_eq_true.2 ⟨p, hp, ?_⟩
        rw [ha]; simp [mlit, strOf, Lit.sameKey]
      obtain ⟨es2, clock, hb, F, _, hD2⟩ := h
      rw [hD2] at hhas
      obtain ⟨p2, hp2, hpk⟩ := List.any_eq_true.1 hhas
      obtain ⟨x, hx, rfl⟩ := List.mem_map.1 (mem_sorted.1 hp2)
      obtain ⟨y, hy⟩ := F.reads x hx
      obtain ⟨z, hz, hzd⟩ := rd_val hy
      have hkk : keyOf P k x.key = some (mlit ⟨⟨strOf p.1⟩⟩) := by
        have := WideAt.sameKey_eq hpk
        rw [rg_of hy] at this
        rw [← this]; exact rd_key hy
      unfold lookD
      rw [hD2, if_pos hhas]
      have hat := (atKey_sorted (es2.toList.map (rg P k raw)) (Maps.fit_rising K F) _ (K.key hkk)).2 (rg P k raw x) (List.mem_map.2 ⟨x, hx, rfl⟩) (WideAt.sameKey_eq hpk)
      rw [hat, rg_of hy, hzd]
      cases hz
      simp
    · intro hs
      unfold lookD at hs
      by_cases hh : Maps.has D (mlit s) = true
      · rw [hD] at hh
        obtain ⟨p, hp, hpk⟩ := List.any_eq_true.1 hh
        refine List.mem_map.2 ⟨p, hp, ?_⟩
        rw [WideAt.sameKey_eq hpk]
        obtain ⟨⟨a⟩⟩ := s
        rfl
      · rw [if_neg hh] at hs; exact absurd rfl hs
theorem LMap.keys {w : World} {P : Program} {k : TypeId} {b n : Nat} {f : Lit → Option Value} (h : LMap w P k b n f) (K : Keyed P k) (hk : P.underlying k = some .string) :
    ∃ ks : List ByteArray, ks.Nodup ∧ (∀ s, s ∈ ks ↔ f (mlit s) ≠ none) ∧ ks.length ≤ n := by
  obtain ⟨D, h, hf⟩ := h
  obtain ⟨h1, h2, h3, _⟩ := ownsMap_keys h K hk
  exact ⟨_, h1, fun s => by rw [h2, hf], h3⟩
end Go.Proofs.YthmjbeieheacmaaGreatDoor
namespace Go.Proofs.YthmjbeieheacmaaGreatDoor
open Go.RowKit Go.Maps
def clit (c : Int) : Lit := .int .i64 c
theorem cl_keyed : Keyed Tryz.prog 3 := int_keyed Tryz.underlying3
end Go.Proofs.YthmjbeieheacmaaGreatDoor
