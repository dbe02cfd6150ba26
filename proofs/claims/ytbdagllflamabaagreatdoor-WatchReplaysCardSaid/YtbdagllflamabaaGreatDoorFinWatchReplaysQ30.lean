/- The walk of state.Write at a fresh number. -/
import Derived.Test.YtbdagllflamabaaGreatDoorFinWatchReplaysQ29
set_option linter.unusedVariables false
set_option linter.unusedSectionVars false
set_option linter.unusedSimpArgs false
namespace Go.Proofs.YtbdagllflamabaaGreatDoor
open Go.RowKit Go.Maps
attribute [local go_sem] Oper.semAt_some uponV
namespace Pl
theorem right_seq {e : En} (hk : e.kind = 1) (hr : rightB e = true) : 1 ≤ e.seq ∧ e.seq ≤ 1073741824 ∧ e.ops.length ≤ 8 := by
  unfold rightB at hr
  rw [if_pos hk] at hr
  unfold wriB withinB at hr
  simp only [Bool.and_eq_true, decide_eq_true_eq] at hr
  have := hr.1.2.2
  exact ⟨hr.1.1.2.1, hr.1.1.2.2, by omega⟩
end Pl
structure LpW (u wr : World) (cb ob : Nat) (Q : List Pr) (c a : Int) : Prop where
  grew : Grew u wr
  tab : ∃ Fk, TabAt wr Fk cb Q ∧ ∀ j, Fk j → u.heap.size ≤ j ∧ j ≠ ob
  le : u.heap.size ≤ ob
  o0 : wr.cell? ⟨ob, 0, none⟩ = some (.int .i64 c)
  o1 : wr.cell? ⟨ob, 1, none⟩ = some (.int .i64 a)
  f0 : wr.frozen? ⟨ob, 0, none⟩ = false
  f1 : wr.frozen? ⟨ob, 1, none⟩ = false
section
variable {u wr wr' : World} {cb ob : Nat} {Q Q' : List Pr} {c c' a : Int}
theorem LpW.more (h : LpW u wr cb ob Q c a) (g : Grew wr wr') : LpW u wr' cb ob Q c a where
  grew := h.grew.trans g
  tab := by obtain ⟨Fk, k1, k2⟩ := h.tab; exact ⟨Fk, k1.grew g, k2⟩
  le := h.le
  o0 := (g.cells.1 _ _ (cell_lt h.o0)).trans h.o0
  o1 := (g.cells.1 _ _ (cell_lt h.o0)).trans h.o1
  f0 := (g.cells.2 _ _ (cell_lt h.o0)).trans h.f0
  f1 := (g.cells.2 _ _ (cell_lt h.o0)).trans h.f1
theorem LpW.step (h : LpW u wr cb ob Q c a) {Fk : Nat → Prop} (hF : ∀ j, Fk j → u.heap.size ≤ j ∧ j ≠ ob) (t : TabTurn wr Fk cb Q' wr') : LpW u wr' cb ob Q' c a := by
  have hl : ob < wr.heap.size := cell_lt h.o0
  obtain ⟨ho, F', k1, k2⟩ := t
  have hn : ¬ Fk ob := fun e => (hF ob e).2 rfl
  refine ⟨((h.grew.only Fk).then ho).grew fun j hj => (hF j hj).1, ⟨F', k1, fun j hj => ?_⟩, h.le, (ho.cell hl hn 0).trans h.o0, (ho.cell hl hn 1).trans h.o1, (ho.frozen hl hn 0).trans h.f0, (ho.frozen hl hn 1).trans h.f1⟩
  rcases k2 j hj with k | k
  · exact hF j k
  · have := h.grew.size; exact ⟨by omega, fun e => by omega⟩
end
theorem WrIn.only {w W W' : World} {st : Nat} {e : En} {a b : Int} {T : Nat → Prop} (h : WrIn w W st e a b) (g : Only T W W') (hT : ∀ j, T j → w.heap.size + 2 < j) : WrIn w W' st e a b :=
  have l := h.lt
  have n0 : ∀ i, i ≤ 2 → ¬ T (w.heap.size + i) := fun i hi ht => by have := hT _ ht; omega
  ⟨((h.grew.only T).then g).grew (fun j hj => by have := hT j hj; omega), Nat.lt_of_lt_of_le h.lt g.size, (g.cell (by omega) (n0 0 (by omega)) 0).trans h.box, fun j u hj => (g.cell (by omega) (n0 1 (by omega)) j).trans (h.ent j u hj), (g.cell (by omega) (n0 2 (by omega)) 0).trans h.a0, (g.cell (by omega) (n0 2 (by omega)) 1).trans h.a1, (g.frozen (by omega) (n0 2 (by omega)) 0).trans h.f0, (g.frozen (by omega) (n0 2 (by omega)) 1).trans h.f1⟩
structure WrC (w W : World) (st : Nat) (e : En) (a b : Int) : Prop where
  lt : w.heap.size + 2 < W.heap.size
  box : W.cell? ⟨w.heap.size, 0, none⟩ = some (.pointer (some ⟨st, 0, none⟩))
  ent : ∀ j u, e.vals[j]? = some u → W.cell? ⟨w.heap.size + 1, j, none⟩ = some u
  a0 : W.cell? ⟨w.heap.size + 2, 0, none⟩ = some (.int .i64 a)
  a1 : W.cell? ⟨w.heap.size + 2, 1, none⟩ = some (.int .i64 b)
  f0 : W.frozen? ⟨w.heap.size + 2, 0, none⟩ = false
  f1 : W.frozen? ⟨w.heap.size + 2, 1, none⟩ = false
theorem WrC.of {w W : World} {st : Nat} {e : En} {a b : Int} (h : WrIn w W st e a b) : WrC w W st e a b := ⟨h.lt, h.box, h.ent, h.a0, h.a1, h.f0, h.f1⟩
theorem WrC.only {w W W' : World} {st : Nat} {e : En} {a b : Int} {T : Nat → Prop} (h : WrC w W st e a b) (g : Only T W W') (hT : ∀ j, T j → j < w.heap.size) : WrC w W' st e a b :=
  have l := h.lt
  have n0 : ∀ i, ¬ T (w.heap.size + i) := fun i ht => by have := hT _ ht; omega
  ⟨Nat.lt_of_lt_of_le h.lt g.size, (g.cell (by omega) (n0 0) 0).trans h.box, fun j u hj => (g.cell (by omega) (n0 1) j).trans (h.ent j u hj), (g.cell (by omega) (n0 2) 0).trans h.a0, (g.cell (by omega) (n0 2) 1).trans h.a1, (g.frozen (by omega) (n0 2) 0).trans h.f0, (g.frozen (by omega) (n0 2) 1).trans h.f1⟩
def Wrote (w w' : World) (Ft Fs : Nat → Prop) (st n : Nat) (lo hi : ByteArray) (P : List Pr) (S : Int → Option An) : Prop :=
  Only (fun j => j = st ∨ Fs j) w w' ∧ ∃ Gt, StAt w' Gt Fs st n lo hi P S ∧ ∀ j, Gt j → Ft j ∨ w.heap.size ≤ j
theorem wrote_of {w V x w' : World} {Ft Fs : Nat → Prop} {st tb tb' sb n n' : Nat} {lo hi : ByteArray} {P P' : List Pr} {S S' : Int → Option An} (h : StIs w Ft Fs st tb sb n lo hi P S) (hV : Only (fun j => j = st) w V)
    (c0 : V.cell? ⟨st, 0, none⟩ = some (.pointer (some ⟨tb', 0, none⟩))) (c1 : V.cell? ⟨st, 1, none⟩ = some (.string lo)) (c2 : V.cell? ⟨st, 2, none⟩ = some (.string hi)) (c3 : V.cell? ⟨st, 3, none⟩ = some (.pointer (some ⟨sb, 0, none⟩))) (f0 : ∀ i, V.frozen? ⟨st, i, none⟩ = false)
    (hx : Only Fs V x) (hS : SeenAt x Fs sb n' S') (hw : Only (fun j => j = w.heap.size + 2) x w')
    (ht : ∃ Gt, TabAt V Gt tb' P' ∧ ∀ j, Gt j → (Ft j ∨ w.heap.size ≤ j) ∧ ¬ Fs j ∧ j ≠ st ∧ j ≠ w.heap.size + 2) (hg : Pl.Good P') : Wrote w w' Ft Fs st n' lo hi P' S' := by
  obtain ⟨Gt, t1, t2⟩ := ht
  have hst : st < w.heap.size := cell_lt h.c0
  have hlt : ∀ j, Fs j → j < w.heap.size := h.seen.lt
  have hVw : Only (fun j => Fs j ∨ j = w.heap.size + 2) V w' := (hx.mono fun j hj => .inl (.inl hj)).then (hw.mono fun j hj => .inl (.inr hj))
  have hns : ¬ (Fs st ∨ st = w.heap.size + 2) := by
    rintro (k | k)
    · exact h.own st k rfl
    · omega
  have hl : st < V.heap.size := cell_lt c0
  refine ⟨((hV.mono (T := fun j => j = st ∨ Fs j ∨ j = w.heap.size + 2) fun j hj => .inl (.inl hj)).then (hVw.mono fun j hj => .inl (.inr hj))).mono fun j hj => ?_, Gt, ⟨tb', sb, ⟨(hVw.cell hl hns 0).trans c0, (hVw.cell hl hns 1).trans c1, (hVw.cell hl hns 2).trans c2, (hVw.cell hl hns 3).trans c3, fun i => (hVw.frozen hl hns i).trans (f0 i), t1.kept hVw fun j hj => ?_, hS.kept hw fun j hj e => ?_, hg, fun j hj => ⟨(t2 j hj).2.1, (t2 j hj).2.2.1⟩, h.own⟩⟩, fun j hj => (t2 j hj).1⟩
  · rcases hj with k | k | k
    · exact .inl (.inl k)
    · exact .inl (.inr k)
    · exact .inr (by omega)
  · rintro (k | k)
    · exact (t2 j hj).2.1 k
    · exact (t2 j hj).2.2.2 k
  · have := hlt j hj; omega
structure JNt (V : World) (Fs : Nat → Prop) (sb n : Nat) (S : Int → Option An) (L : Nat → Bool) (f : Nat → Value) (x : World) : Prop where
  only : Only Fs V x
  ahead : L 10 = false → Grew V x
  told : L 10 = true → f 10 = .nilIface ∧ SeenAt x Fs sb n S
set_option maxRecDepth 100000 in
set_option maxHeartbeats 8000000 in
theorem writeS_new (E : Nat → Addr) (e : En) {w : World} (hE : Errs stS E w) (hA : EnAt w e) (at_ : Int) {Ft Fs : Nat → Prop} {st n : Nat} {lo hi : ByteArray} {P : List Pr} {S : Int → Option An} (h : StAt w Ft Fs st n lo hi P S) (hk : e.kind = 1) (hr : Pl.rightB e = true) (h0 : 0 ≤ at_) (h1 : at_ < 4096) (hl : lo.size ≤ 70368744177664) (hh : hi.size ≤ 70368744177664) (hsz : ∀ o ∈ e.ops, o.key.size ≤ 70368744177664) (hin : ∀ o ∈ e.ops, Pl.hasS lo hi o.key = true) (hsv : ∀ o ∈ e.ops, o.val.size ≤ 140737488351232) (hx : P.length ≤ 1000) (hnn : n ≤ 1000000) (hf : askN (S e.client) e.seq = 1) :
    Calls Tryz.prog 82 #[.pointer (some ⟨st, 0, none⟩), e.agg, .int .i64 at_] w fun r w' => r = .returned (.tuple #[ansAgg (Pl.codeW P e.ops at_) at_, .nilIface]) ∧ Wrote w w' Ft Fs st (n + 1) lo hi (Pl.tabW P e.ops at_) (noteS S e.client ⟨e.seq, Pl.codeW P e.ops at_, at_⟩) := by
  have hT : KeyT stS := ⟨rfl, rfl, rfl, rfl⟩
  have hKS : KeyS stS := ⟨rfl, rfl, rfl, rfl⟩
  have hR := fun W (g : Grew w W) => rightE_any hT E e W (hE.grew g) (hA.grew g)
  rw [hr] at hR
  have HR := hid hR
  have HW := hid (WrIn.start w st e)
  have HKEYS := hid (fun W (g : Grew w W) => keysE_any hT E e W (hE.grew g) (hA.grew g) hk hr)
  have hany : ((e.ops.map OpR.key).any fun k => !Pl.hasS lo hi k) = false := by
    rw [List.any_eq_false]
    intro k hkm
    obtain ⟨o, ho, rfl⟩ := List.mem_map.1 hkm
    simp [hin o ho]
  have hfew := hA.few
  have hANY := fun W (g : Grew w W) (a : Option Addr) (cap : Nat) (k : StrsAt W a (e.ops.map OpR.key)) (hB : BoxSp W w.heap.size st lo hi) => anyKey_any stS E hKS lo hi a cap (e.ops.map OpR.key) W hl hh (hE.grew g) w.heap.size st hB k (by simpa using hfew) (fun k hkm => by obtain ⟨o, ho, rfl⟩ := List.mem_map.1 hkm; exact hsz o ho)
  rw [hany, List.length_map] at hANY
  have HANY := hid hANY
  have hops := hA.ops
  have hTS : TabS stS := ⟨rfl, rfl, rfl, rfl, rfl⟩
  obtain ⟨hs1, hs2, hs3⟩ := Pl.right_seq hk hr
  have HSTEP := hid (fun W (g : Grew w W) (F : Nat → Prop) (b : Nat) (Q : List Pr) (k : TabAt W F b Q) (hq : Q.length ≤ 1000000) (o : OpR) (ho : o ∈ e.ops) => step_any hTS E (hE.grew g) k hq o ⟨hsz o ho, hsv o ho⟩ (at_ + 1) (by omega))
  have HNOTE := hid (fun W (b : Nat) (k : SeenAt W Fs b n S) (c : Int) (hc : c = 1 ∨ c = 2) => note_fresh k e.client ⟨e.seq, c, at_⟩ (Pl.right_client hk hr).1 (Pl.right_client hk hr).2 ⟨hs1, hs2, hc, h0, by dsimp only; omega⟩ hnn hf)
  obtain ⟨tb, sb, h⟩ := h
  have hcl : 1 ≤ e.client ∧ e.client ≤ 4 := Pl.right_client hk hr
  have HASK := hid (fun W (g : Grew w W) => ask_any (h.seen.grew g) e.client e.seq (by omega) (by omega))
  generalize askN (S e.client) e.seq = an at *
  generalize (askA (S e.client) e.seq).1 = ac at *
  generalize (askA (S e.client) e.seq).2 = aa at *
  have HST := hid h
  have hstl : st < w.heap.size := cell_lt h.c0
  obtain ⟨Y, hY⟩ : ∃ Y, Y = (((w.alloc (.cells #[.pointer (some ⟨st, 0, none⟩)] 43)).alloc (.cells e.vals.toArray 26)).alloc (.cells #[.int .i64 0, .int .i64 0] 91)) := ⟨_, rfl⟩
  rw [← hY] at HW
  have HYE := hid hY
  clear hY hE hA hr hR hany hANY h hin hsz hsv
  unfold En.agg at *
  obtain ⟨kind, shard, other, server, client, seq, key, upto, part, parts, ops, opsA, opsC, dataA, dataL, dataC⟩ := e
  unfold En.vals at HR HYE HKEYS ⊢
  dsimp only at *
  subst hk
  unfold ansAgg at *
  go_enter Tryz.func82, Tryz.ntmps82
  go_wp2_with fail
  rw [← HYE.out]
  refine (HR.out Y HW.out.grew).mono ?_
  rintro e w1 ⟨rfl, hg1⟩
  have HW1 := hid (HW.out.more hg1)
  have hl1 := HW1.out.lt
  have d0 : w1.cell? ⟨w.heap.size + 1, 0, none⟩ = some (.int .i64 1) := HW1.out.ent 0 _ rfl
  have d1 : w1.cell? ⟨w.heap.size + 1, 1, none⟩ = some (.int .i64 shard) := HW1.out.ent 1 _ rfl
  have d2 : w1.cell? ⟨w.heap.size + 1, 2, none⟩ = some (.int .i64 other) := HW1.out.ent 2 _ rfl
  have d3 : w1.cell? ⟨w.heap.size + 1, 3, none⟩ = some (.int .i64 server) := HW1.out.ent 3 _ rfl
  have d4 : w1.cell? ⟨w.heap.size + 1, 4, none⟩ = some (.int .i64 client) := HW1.out.ent 4 _ rfl
  have d5 : w1.cell? ⟨w.heap.size + 1, 5, none⟩ = some (.int .i64 seq) := HW1.out.ent 5 _ rfl
  have d6 : w1.cell? ⟨w.heap.size + 1, 6, none⟩ = some (.slice opsA ops.length opsC) := HW1.out.ent 6 _ rfl
  have d7 : w1.cell? ⟨w.heap.size + 1, 7, none⟩ = some (.string key) := HW1.out.ent 7 _ rfl
  have d8 : w1.cell? ⟨w.heap.size + 1, 8, none⟩ = some (.int .i64 upto) := HW1.out.ent 8 _ rfl
  have d9 : w1.cell? ⟨w.heap.size + 1, 9, none⟩ = some (.int .i64 part) := HW1.out.ent 9 _ rfl
  have d10 : w1.cell? ⟨w.heap.size + 1, 10, none⟩ = some (.int .i64 parts) := HW1.out.ent 10 _ rfl
  have d11 : w1.cell? ⟨w.heap.size + 1, 11, none⟩ = some (.slice dataA dataL dataC) := HW1.out.ent 11 _ rfl
  have k0 : ¬ at_ < 0 := by omega
  have k1 : ¬ 4096 ≤ at_ := by omega
  clear hg1 HW HR
  go_wp2_with fail
  refine (HKEYS.out w1 HW1.out.grew).mono ?_
  rintro e w2 ⟨⟨v, rfl, hown⟩, hg2⟩
  obtain ⟨a, cap, rfl, hks⟩ := strsAt_of (by rw [List.length_map]; exact hown)
  rw [List.length_map]
  have HW2 := hid (HW1.out.more hg2)
  have HKS := hid hks
  clear hg2 hown hks HKEYS d0 d1 d2 d3 d4 d5 d6 d7 d8 d9 d10 d11
  go_wp2_with fail
  refine (HANY.out w2 HW2.out.grew a cap HKS.out ⟨HW2.out.box, (HW2.out.grew.cells.1 _ _ hstl).trans HST.out.c1, (HW2.out.grew.cells.1 _ _ hstl).trans HST.out.c2⟩).mono ?_
  rintro e w3 ⟨rfl, hg3⟩
  have HW3 := hid (HW2.out.more hg3)
  clear hg3 HKS HANY HW1 HW2 hl1
  go_wp2_with fail
  have hl3 := HW3.out.lt
  have B0 := wd_cell HW3.out.box
  have B1 := wd_cell (HW3.out.ent 4 _ rfl)
  have B2 := wd_cell (HW3.out.ent 5 _ rfl)
  have B3 := wd_cell ((HW3.out.grew.cells.1 _ _ hstl).trans HST.out.c3)
  have HCALL := hid (fun W (g : Grew w3 W) => HASK.out W (HW3.out.grew.trans g))
  clear HASK
  refine wp_region_mixS 14 [12, 13] (Grew w3) Grew (JV [⟨12, 13, [.int .i64 ac, .int .i64 aa]⟩] w3) (fun f a => a.put (some 8) (f 12)) (by kernel_rfl) (by kernel_rfl) (fun _ _ => rfl) (JV.start _ w3 _) (fun _ _ _ h => h.grew) Grew.refl (fun _ _ _ _ h g => h.more g) ?_
  repeat (first
    | (refine mixS_loose (by rfl) (by rfl) ?_)
    | (refine mixS_plain (by rfl) (by rfl) (by rfl) (by first | exact Grew.refl | exact fun _ => rfl) (by rfl) ?_; intro K hK; go_big_quiet_op; go_big_quiet_on)
    | (refine mixS_call (by rfl) (by rfl) (by rfl) (by rfl) (fun _ => by kernel_rfl) (fun u hu => HCALL.out u hu) ?_; simp only [Act.put, List.setIfInBounds_toArray, List.set_cons_zero, List.set_cons_succ])
    | (refine mixS_skip (by rfl) (by rfl) (by rfl) ?_; simp only [Act.put, List.setIfInBounds_toArray, List.set_cons_zero, List.set_cons_succ]))
  refine mixS_done (by rfl) ⟨⟨loose_of rfl (fun _ a => a) (fun _ _ => rfl) (fun _ => rfl) ?_, loose_of rfl (fun f a => a.put (some 8) (f 12)) (fun _ _ => rfl) (fun _ => rfl) ?_, trivial⟩, ?_⟩
  · intro L f u hJ hL hd
    clear HCALL B0 B1 B2 B3
    go_simp
    exact hJ.alloc (by rfl) (V := ⟨12, 13, [.int .i64 ac, .int .i64 aa]⟩) (by simp) hL [.int .i64 0, .int .i64 0] rfl _
  · intro L f u hJ hL hd
    clear HCALL B0 B1 B2 B3
    obtain ⟨m, x, y, hm, k0, k1, f0, f1⟩ := hJ.two (V := ⟨12, 13, [.int .i64 ac, .int .i64 aa]⟩) (by simp) (hd 12 rfl (by decide)) rfl
    dsimp only at hm
    rw [hm]
    go_simp
    exact hJ.store (by rfl) (V := ⟨12, 13, [.int .i64 ac, .int .i64 aa]⟩) (by simp) (hd 12 rfl (by decide)) hm
  intro f u hJ
  clear HCALL B0 B1 B2 B3
  obtain ⟨m8, q8, n8, l8, v0, v1, _, _⟩ := (hJ.full (V := ⟨12, 13, [.int .i64 ac, .int .i64 aa]⟩) (by simp) rfl).two
  dsimp only at q8
  have HW4 := hid (HW3.out.more hJ.grew)
  have HG4 := hid hJ.grew
  clear hJ HW3
  dsimp only [List.drop]
  simp only [Act.put, List.setIfInBounds_toArray, List.set_cons_succ, List.set_cons_zero]
  rw [q8]
  clear q8
  subst hf
  have HOP := hid hops
  clear hops
  have b0 := HW4.out.box
  have t0 := (HW4.out.grew.cells.1 _ 0 hstl).trans HST.out.c0
  have HCOPY := hid (copyT_any (HST.out.tab.grew HW4.out.grew) (by omega))
  clear v0 v1 HG4
  have hlu := HW4.out.lt
  go_wp2_with fail
  refine HCOPY.out.mono ?_
  rintro e w5 ⟨⟨cb, Fc, rfl, hC, hFc⟩, hg5⟩
  have HW5 := hid (HW4.out.more hg5)
  have HG5 := hid hg5
  have HC := hid (And.intro hC hFc)
  have hl5 := HW5.out.lt
  have hl51 : w.heap.size + 1 < w5.heap.size := by omega
  have e6 : w5.cell? ⟨w.heap.size + 1, 6, none⟩ = some (.slice opsA ops.length opsC) := HW5.out.ent 6 _ rfl
  clear HCOPY hC hFc hg5 b0 t0
  go_wp2_with fail
  obtain ⟨X, hX⟩ : ∃ X, X = w5.alloc (.cells #[.int .i64 1, .int .i64 at_] 91) := ⟨_, rfl⟩
  have gX : Grew w5 X := by rw [hX]; exact (Grew.refl w5).alloc _
  have HLP := hid (show LpW u X cb w5.heap.size P 1 at_ from by
    refine ⟨HG5.out.trans gX, ⟨Fc, HC.out.1.grew gX, fun j hj => ⟨HC.out.2 j hj, fun e => ?_⟩⟩, HG5.out.size, ?_, ?_, ?_, ?_⟩
    · have := tabAt_lt HC.out.1 j hj; omega
    all_goals (rw [hX]; simp [go_sem]))
  rw [← hX]
  have HWX := hid (HW5.out.more gX)
  have hwr : IntKind.i64.wrap (at_ + 1) = at_ + 1 := IntWalk.i64_in _ (by omega)
  clear gX hX HC e6
  go_loopw [69] (fun i wr => ∃ k : Nat, k ≤ ops.length ∧ i = .int .i64 k ∧ Hid (∃ Q, LpW u wr cb w5.heap.size Q 1 at_ ∧ Pl.runOps (ops.take k) (at_ + 1) P = (Q, true)) ∧ Hid (WrIn w wr st ⟨1, shard, other, server, client, seq, key, upto, part, parts, ops, opsA, opsC, dataA, dataL, dataC⟩ 0 0)) (fun i _ => ops.length - (intOf i).toNat)
  case atStart => exact ⟨0, Nat.zero_le _, rfl, ⟨P, HLP.out, rfl⟩, HWX.out⟩
  case round =>
    obtain ⟨k, hk1, rfl, HQ, HWk⟩ := hrel
    by_cases hlt : k < ops.length
    · obtain ⟨Q, hlp, hrun⟩ := HQ.out
      rcases HOP.out with h0' | ⟨b, off, rfl, hb, hRow⟩
      · rw [h0'] at hlt; simp at hlt
      have hG := HWk.out.grew
      have q0 := (hG.cells.1 b (off + k * 5) hb).trans (hRow.kind k hlt)
      have q1 := (hG.cells.1 b (off + k * 5 + 1) hb).trans (hRow.key k hlt)
      have q2 := (hG.cells.1 b (off + k * 5 + 2) hb).trans (hRow.val k hlt)
      have q3 := (hG.cells.1 b (off + k * 5 + 3) hb).trans (hRow.old k hlt)
      have q4 := (hG.cells.1 b (off + k * 5 + 4) hb).trans (hRow.ver k hlt)
      have hbr := Nat.lt_of_lt_of_le hb hG.size
      have HM := hid (opRAt_mem ops k hlt)
      have hnx := Pl.runOps_next hlt hrun
      have hql : Q.length ≤ 1000000 := by
        have := Pl.runOps_len (ops.take k) (at_ + 1) P
        rw [hrun, List.length_take] at this
        dsimp only at this; omega
      obtain ⟨Fk, kt, kf⟩ := hlp.tab
      have HS1 := hid (fun W (g : Grew wr W) => HSTEP.out W (hG.trans g) Fk cb Q (kt.grew g) hql _ HM.out)
      have HKF := hid kf
      have HLk := hid hlp
      have HNX := hid hnx
      clear hRow hG hnx hql kt kf hlp hrun HQ HM
      generalize opRAt ops k = c at *
      generalize Pl.stepP Q c (at_ + 1) = r at *
      obtain ⟨Q', ok⟩ := r
      unfold OpR.aggOf OpR.vals at HS1
      obtain ⟨c0, c1, c2, c3, c4⟩ := c
      dsimp only at *
      have HWr := hid HWk.out
      clear HWk
      cases ok with
      | true =>
        go_wp2_with fail
        refine (HS1.out _ ((Grew.refl wr).alloc _)).mono ?_
        rintro e w6 ⟨rfl, ht⟩
        have HL6 := hid ((HLk.out.more ((Grew.refl wr).alloc _)).step HKF.out ht)
        have HW6 := hid ((HWr.out.more ((Grew.refl wr).alloc _)).only ht.1 (fun j hj => by have := (HKF.out j hj).1; omega))
        have HR6 := hid (HNX.out.1)
        clear ht q0 q1 q2 q3 q4 HS1
        go_wp2_with fail
        go_roundw
        case rel => exact ⟨k + 1, by omega, by go_num, ⟨Q', HL6.out, HR6.out⟩, HW6.out⟩
        case measure => simp [intOf]; omega
      | false =>
        go_wp2_with fail
        refine (HS1.out _ ((Grew.refl wr).alloc _)).mono ?_
        rintro e w6 ⟨rfl, ht⟩
        have HL6 := hid ((HLk.out.more ((Grew.refl wr).alloc _)).step HKF.out ht)
        have HW6 := hid ((HWr.out.more ((Grew.refl wr).alloc _)).only ht.1 (fun j hj => by have := (HKF.out j hj).1; omega))
        have HR6 := hid (HNX.out.2 trivial)
        have o0 := HL6.out.o0
        have z0 := HL6.out.f0
        clear ht q0 q1 q2 q3 q4 HS1
        go_wp2_with fail
        obtain ⟨V, hV⟩ : ∃ V, V = w6.setCell ⟨w5.heap.size, 0, none⟩ (.int .i64 2) := ⟨_, rfl⟩
        have HVE := hid hV
        rw [← hV]
        have hob : w.heap.size + 2 < w5.heap.size := hl5
        have gV : Only (fun j => j = w5.heap.size) w6 V := by rw [hV]; exact Only.setCell w6 ⟨w5.heap.size, 0, none⟩ _
        have HWI := hid (HW6.out.only gV (fun j hj => by omega))
        have HWV := hid (WrC.of HWI.out)
        have gW : Grew w V := HWI.out.grew
        have HSV := hid (HST.out.seen.grew gW)
        have HO0 : Hid (V.cell? ⟨w5.heap.size, 0, none⟩ = some (.int .i64 2)) := by unfold Hid; have q := HL6.out.o0; rw [hV]; simp [go_sem, q]
        have HO1 : Hid (V.cell? ⟨w5.heap.size, 1, none⟩ = some (.int .i64 at_)) := by unfold Hid; have q := HL6.out.o1; rw [hV]; simp [go_sem, q]
        have HVO := hid (gW.only fun j => j = st)
        have HC0 := hid ((gW.cells.1 _ 0 hstl).trans HST.out.c0)
        have HC1 := hid ((gW.cells.1 _ 1 hstl).trans HST.out.c1)
        have HC2 := hid ((gW.cells.1 _ 2 hstl).trans HST.out.c2)
        have HC3 := hid ((gW.cells.1 _ 3 hstl).trans HST.out.c3)
        have HZ0 := hid (fun i => (gW.cells.2 _ i hstl).trans (HST.out.f0 i))
        have HCW : Hid (Pl.codeW P ops at_ = 2) := by unfold Hid Pl.codeW; rw [HR6.out, if_neg (by decide)]
        have htw : Pl.tabW P ops at_ = P := by unfold Pl.tabW; rw [HR6.out, if_neg (by decide)]
        have HTB := hid (show ∃ Gt, TabAt V Gt tb (Pl.tabW P ops at_) ∧ ∀ j, Gt j → (Ft j ∨ w.heap.size ≤ j) ∧ ¬ Fs j ∧ j ≠ st ∧ j ≠ w.heap.size + 2 from ⟨Ft, by rw [htw]; exact HST.out.tab.grew gW, fun j hj => ⟨.inl hj, (HST.out.apart j hj).1, (HST.out.apart j hj).2, fun e => by have := tabAt_lt HST.out.tab j hj; omega⟩⟩)
        clear gV gW htw o0 z0
        clear hV
        have hfs : ∀ j, Fs j → j < w.heap.size := HST.out.seen.lt
        have hns : ∀ i, ¬ Fs (w.heap.size + i) := fun i hi => by have := hfs _ hi; omega
        have hnst : ¬ Fs st := fun hi => HST.out.own st hi rfl
        have hnob : ¬ Fs w5.heap.size := fun hi => by have := hfs _ hi; omega
        have B0 := wd_only (S := Fs) HWV.out.box (hns 0)
        have B1 := wd_only (S := Fs) (HWV.out.ent 4 _ rfl) (hns 1)
        have B2 := wd_only (S := Fs) (HWV.out.ent 5 _ rfl) (hns 1)
        have B3 := wd_only (S := Fs) HC3.out hnst
        have O0 := wd_only (S := Fs) HO0.out hnob
        have O1 := wd_only (S := Fs) HO1.out hnob
        have HNS := hid hns
        clear hfs hns hnst hnob
        refine wp_region_mixS 11 [10] (Only Fs V) Eq (JNt V Fs sb (n + 1) (noteS S client ⟨seq, 2, at_⟩)) (fun f a => a.put (some 98) (f 10)) (by kernel_rfl) (by kernel_rfl) (fun _ _ => rfl) ⟨((Grew.refl V).drew).only Fs, fun _ => (Grew.refl V).drew, fun h => by cases h⟩ (fun _ _ _ h => h.only) (fun _ => rfl) (fun _ _ _ _ h g => g ▸ h) ?_
        repeat (first
    | (refine mixS_loose (by rfl) (by rfl) ?_)
    | (refine mixS_plain (by rfl) (by rfl) (by rfl) (by first | exact Grew.refl | exact fun _ => rfl) (by rfl) ?_; intro K hK; go_big_quiet_op; go_big_quiet_on)
    | (refine mixS_skip (by rfl) (by rfl) (by rfl) ?_; simp only [Act.put, List.setIfInBounds_toArray, List.set_cons_zero, List.set_cons_succ]))
        refine mixS_done (by rfl) ⟨⟨loose_of rfl (fun _ a => a) (fun _ _ => rfl) (fun _ => rfl) ?_, trivial⟩, ?_⟩
        · intro L f x hJ hL hd
          have HJ := hid hJ
          have HL := hid hL
          clear hJ hL hd B0 B1 B2 B3 O0 O1
          go_simp
          refine (HNOTE.out x sb (HSV.out.grew (HJ.out.ahead HL.out)) 2 (by decide)).mono ?_
          rintro e x' ⟨rfl, ho, hS'⟩
          exact ⟨_, rfl, HJ.out.only.then ho, fun h => absurd h (by rw [plus_on]; decide), fun _ => ⟨updV_same _ _ _, hS'⟩⟩
        intro f x hJ
        obtain ⟨f10, hS'⟩ := hJ.told rfl
        have ho := hJ.only
        have hlV := HWV.out.lt
        have a0 := (ho.cell (by omega) (HNS.out 2) 0).trans HWV.out.a0
        have a1 := (ho.cell (by omega) (HNS.out 2) 1).trans HWV.out.a1
        have z0 := (ho.frozen (by omega) (HNS.out 2) 0).trans HWV.out.f0
        have z1 := (ho.frozen (by omega) (HNS.out 2) 1).trans HWV.out.f1
        have HO := hid ho
        have HSS := hid hS'
        clear hJ B0 B1 B2 B3 O0 O1 ho hS'
        dsimp only [List.drop]
        simp only [Act.put, List.setIfInBounds_toArray, List.set_cons_succ, List.set_cons_zero]
        rw [f10]
        clear f10
        go_wp2_with fail
        refine bodyPost_ret (v := .tuple #[.agg #[.int .i64 2, .int .i64 at_], .nilIface]) (by simp [results, Tryz.results82, go_sem, a0, a1, z0, z1]) rfl ⟨?_, ?_⟩
        · rw [show Pl.codeW P ops at_ = 2 from HCW.out]
        · rw [show Pl.codeW P ops at_ = 2 from HCW.out]
          refine wrote_of HST.out HVO.out HC0.out HC1.out HC2.out HC3.out HZ0.out HO.out HSS.out ?_ HTB.out (Pl.tabW_good HST.out.good _ _)
          exact (Only.setCell x ⟨w.heap.size + 2, 0, none⟩ _).then (Only.setCell _ ⟨w.heap.size + 2, 1, none⟩ _)
    · obtain rfl : k = ops.length := by omega
      obtain ⟨Q, hlp, hrun⟩ := HQ.out
      rw [List.take_length] at hrun
      have HRUN := hid hrun
      have HLk := hid hlp
      have HWr := hid HWk.out
      have o0 := hlp.o0
      have b0 := HWr.out.box
      have s0 := (HWr.out.grew.cells.1 _ 0 hstl).trans HST.out.c0
      have y0 := (HWr.out.grew.cells.2 _ 0 hstl).trans (HST.out.f0 0)
      have HYA := hid (fun i => (HWr.out.grew.cells.2 _ i hstl).trans (HST.out.f0 i))
      clear hlp hrun HQ HWk
      go_wp2_with fail
      obtain ⟨V, hV⟩ : ∃ V, V = wr.setCell ⟨st, 0, none⟩ (.pointer (some ⟨cb, 0, none⟩)) := ⟨_, rfl⟩
      have HVE := hid hV
      rw [← hV]
      have gr : Grew w wr := HWr.out.grew
      have gV : Only (fun j => j = st) wr V := by rw [hV]; exact Only.setCell wr ⟨st, 0, none⟩ _
      have HWV := hid ((WrC.of HWr.out).only gV (fun j hj => by omega))
      have HSV := hid ((HST.out.seen.grew gr).kept gV (fun j hj e => HST.out.own j hj e))
      have HO0 : Hid (V.cell? ⟨w5.heap.size, 0, none⟩ = some (.int .i64 1)) := (gV.cell (cell_lt HLk.out.o0) (by show ¬ w5.heap.size = st; omega) 0).trans HLk.out.o0
      have HO1 : Hid (V.cell? ⟨w5.heap.size, 1, none⟩ = some (.int .i64 at_)) := (gV.cell (cell_lt HLk.out.o0) (by show ¬ w5.heap.size = st; omega) 1).trans HLk.out.o1
      have HVO := hid ((gr.only fun j => j = st).then gV)
      have HC0 : Hid (V.cell? ⟨st, 0, none⟩ = some (.pointer (some ⟨cb, 0, none⟩))) := by unfold Hid; rw [hV]; simp [go_sem, s0]
      have HC1 : Hid (V.cell? ⟨st, 1, none⟩ = some (.string lo)) := by unfold Hid; have q := (gr.cells.1 _ 1 hstl).trans HST.out.c1; rw [hV]; simp [go_sem, q]
      have HC2 : Hid (V.cell? ⟨st, 2, none⟩ = some (.string hi)) := by unfold Hid; have q := (gr.cells.1 _ 2 hstl).trans HST.out.c2; rw [hV]; simp [go_sem, q]
      have HC3 : Hid (V.cell? ⟨st, 3, none⟩ = some (.pointer (some ⟨sb, 0, none⟩))) := by unfold Hid; have q := (gr.cells.1 _ 3 hstl).trans HST.out.c3; rw [hV]; simp [go_sem, q]
      have HZ0 : Hid (∀ i, V.frozen? ⟨st, i, none⟩ = false) := by unfold Hid; intro i; rw [hV, World.frozen?_setCell]; exact HYA.out i
      have HCW : Hid (Pl.codeW P ops at_ = 1) := by unfold Hid Pl.codeW; rw [HRUN.out, if_pos rfl]
      have htw : Pl.tabW P ops at_ = Q := by unfold Pl.tabW; rw [HRUN.out, if_pos rfl]
      obtain ⟨Fk, kt, kf⟩ := HLk.out.tab
      have HTB := hid (show ∃ Gt, TabAt V Gt cb (Pl.tabW P ops at_) ∧ ∀ j, Gt j → (Ft j ∨ w.heap.size ≤ j) ∧ ¬ Fs j ∧ j ≠ st ∧ j ≠ w.heap.size + 2 from ⟨Fk, by rw [htw]; exact kt.kept gV (fun j hj e => by have := (kf j hj).1; omega), fun j hj => by
        have h1 := (kf j hj).1
        exact ⟨.inr (by omega), fun hs => by have := HST.out.seen.lt j hs; omega, by omega, by omega⟩⟩)
      clear gV gr htw kt kf o0 b0 s0 y0
      clear hV
      have hfs : ∀ j, Fs j → j < w.heap.size := HST.out.seen.lt
      have hns : ∀ i, ¬ Fs (w.heap.size + i) := fun i hi => by have := hfs _ hi; omega
      have hnst : ¬ Fs st := fun hi => HST.out.own st hi rfl
      have hnob : ¬ Fs w5.heap.size := fun hi => by have := hfs _ hi; omega
      have B0 := wd_only (S := Fs) HWV.out.box (hns 0)
      have B1 := wd_only (S := Fs) (HWV.out.ent 4 _ rfl) (hns 1)
      have B2 := wd_only (S := Fs) (HWV.out.ent 5 _ rfl) (hns 1)
      have B3 := wd_only (S := Fs) HC3.out hnst
      have O0 := wd_only (S := Fs) HO0.out hnob
      have O1 := wd_only (S := Fs) HO1.out hnob
      have HNS := hid hns
      clear hfs hns hnst hnob
      refine wp_region_mixS 11 [10] (Only Fs V) Eq (JNt V Fs sb (n + 1) (noteS S client ⟨seq, 1, at_⟩)) (fun f a => a.put (some 98) (f 10)) (by kernel_rfl) (by kernel_rfl) (fun _ _ => rfl) ⟨((Grew.refl V).drew).only Fs, fun _ => (Grew.refl V).drew, fun h => by cases h⟩ (fun _ _ _ h => h.only) (fun _ => rfl) (fun _ _ _ _ h g => g ▸ h) ?_
      repeat (first
    | (refine mixS_loose (by rfl) (by rfl) ?_)
    | (refine mixS_plain (by rfl) (by rfl) (by rfl) (by first | exact Grew.refl | exact fun _ => rfl) (by rfl) ?_; intro K hK; go_big_quiet_op; go_big_quiet_on)
    | (refine mixS_skip (by rfl) (by rfl) (by rfl) ?_; simp only [Act.put, List.setIfInBounds_toArray, List.set_cons_zero, List.set_cons_succ]))
      refine mixS_done (by rfl) ⟨⟨loose_of rfl (fun _ a => a) (fun _ _ => rfl) (fun _ => rfl) ?_, trivial⟩, ?_⟩
      · intro L f x hJ hL hd
        have HJ := hid hJ
        have HL := hid hL
        clear hJ hL hd B0 B1 B2 B3 O0 O1
        go_simp
        refine (HNOTE.out x sb (HSV.out.grew (HJ.out.ahead HL.out)) 1 (by decide)).mono ?_
        rintro e x' ⟨rfl, ho, hS'⟩
        exact ⟨_, rfl, HJ.out.only.then ho, fun h => absurd h (by rw [plus_on]; decide), fun _ => ⟨updV_same _ _ _, hS'⟩⟩
      intro f x hJ
      obtain ⟨f10, hS'⟩ := hJ.told rfl
      have ho := hJ.only
      have hlV := HWV.out.lt
      have a0 := (ho.cell (by omega) (HNS.out 2) 0).trans HWV.out.a0
      have a1 := (ho.cell (by omega) (HNS.out 2) 1).trans HWV.out.a1
      have z0 := (ho.frozen (by omega) (HNS.out 2) 0).trans HWV.out.f0
      have z1 := (ho.frozen (by omega) (HNS.out 2) 1).trans HWV.out.f1
      have HO := hid ho
      have HSS := hid hS'
      clear hJ B0 B1 B2 B3 O0 O1 ho hS'
      dsimp only [List.drop]
      simp only [Act.put, List.setIfInBounds_toArray, List.set_cons_succ, List.set_cons_zero]
      rw [f10]
      clear f10
      go_wp2_with fail
      refine bodyPost_ret (v := .tuple #[.agg #[.int .i64 1, .int .i64 at_], .nilIface]) (by simp [results, Tryz.results82, go_sem, a0, a1, z0, z1]) rfl ⟨?_, ?_⟩
      · rw [show Pl.codeW P ops at_ = 1 from HCW.out]
      · rw [show Pl.codeW P ops at_ = 1 from HCW.out]
        refine wrote_of HST.out HVO.out HC0.out HC1.out HC2.out HC3.out HZ0.out HO.out HSS.out ?_ HTB.out (Pl.tabW_good HST.out.good _ _)
        exact (Only.setCell x ⟨w.heap.size + 2, 0, none⟩ _).then (Only.setCell _ ⟨w.heap.size + 2, 1, none⟩ _)
end Go.Proofs.YtbdagllflamabaaGreatDoor
