/- St8, St9, St10p: one text. -/
import Derived.Test.YtbdagllflamabaaGreatDoorFinWatchReplaysQ28
import Derived.Test.YtbdagllflamabaaGreatDoorFinWatchReplaysQ17
import Derived.Test.YtbdagllflamabaaGreatDoorFinWatchReplaysQ12
import Derived.Test.YtbdagllflamabaaGreatDoorFinWatchReplaysQ27
set_option linter.unusedVariables false
set_option linter.unusedSectionVars false
set_option linter.unusedSimpArgs false
namespace Go.Proofs.YtbdagllflamabaaGreatDoor
open Go.RowKit Go.Maps
attribute [local go_sem] Oper.semAt_some uponV
structure WrIn (w W : World) (st : Nat) (e : En) (a b : Int) : Prop where
  grew : Grew w W
  lt : w.heap.size + 2 < W.heap.size
  box : W.cell? ⟨w.heap.size, 0, none⟩ = some (.pointer (some ⟨st, 0, none⟩))
  ent : ∀ j u, e.vals[j]? = some u → W.cell? ⟨w.heap.size + 1, j, none⟩ = some u
  a0 : W.cell? ⟨w.heap.size + 2, 0, none⟩ = some (.int .i64 a)
  a1 : W.cell? ⟨w.heap.size + 2, 1, none⟩ = some (.int .i64 b)
  f0 : W.frozen? ⟨w.heap.size + 2, 0, none⟩ = false
  f1 : W.frozen? ⟨w.heap.size + 2, 1, none⟩ = false
theorem WrIn.more {w W W' : World} {st : Nat} {e : En} {a b : Int} (h : WrIn w W st e a b) (g : Grew W W') : WrIn w W' st e a b :=
  have l := h.lt
  ⟨h.grew.trans g, Nat.lt_of_lt_of_le h.lt g.size, (g.cells.1 _ _ (by omega)).trans h.box, fun j u hj => (g.cells.1 _ _ (by omega)).trans (h.ent j u hj), (g.cells.1 _ _ (by omega)).trans h.a0, (g.cells.1 _ _ (by omega)).trans h.a1, (g.cells.2 _ _ (by omega)).trans h.f0, (g.cells.2 _ _ (by omega)).trans h.f1⟩
theorem WrIn.start (w : World) (st : Nat) (e : En) : WrIn w (((w.alloc (.cells #[.pointer (some ⟨st, 0, none⟩)] 43)).alloc (.cells e.vals.toArray 26)).alloc (.cells #[.int .i64 0, .int .i64 0] 91)) st e 0 0 := by
  refine ⟨(((Grew.refl w).alloc _).alloc _).alloc _, by simp, by simp [go_sem], fun j u hj => ?_, by simp [go_sem], by simp [go_sem], by simp [go_sem], by simp [go_sem]⟩
  have hs : ((w.alloc (.cells #[.pointer (some ⟨st, 0, none⟩)] 43)).alloc (.cells e.vals.toArray 26)).heap.size = w.heap.size + 2 := by simp
  have := ((Grew.refl ((w.alloc (.cells #[.pointer (some ⟨st, 0, none⟩)] 43)).alloc (.cells e.vals.toArray 26))).alloc (.cells #[.int .i64 0, .int .i64 0] 91)).cells.1 (w.heap.size + 1) j (by omega)
  rw [this]
  have h2 : (w.alloc (.cells #[.pointer (some ⟨st, 0, none⟩)] 43)).heap.size = w.heap.size + 1 := by simp
  have h3 := heap_alloc_new (w.alloc (.cells #[.pointer (some ⟨st, 0, none⟩)] 43)) (.cells e.vals.toArray 26)
  rw [h2] at h3
  rw [cell_block h3]
  simpa using hj
set_option maxRecDepth 100000 in
set_option maxHeartbeats 4000000 in
theorem writeS_form (E : Nat → Addr) (e : En) (w : World) (hE : Errs stS E w) (hA : EnAt w e) (at_ : Int) (st : Nat) (h : ¬ (e.kind = 1 ∧ Pl.rightB e = true)) :
    Calls Tryz.prog 82 #[.pointer (some ⟨st, 0, none⟩), e.agg, .int .i64 at_] w fun r w' => r = .returned (.tuple #[ansAgg 0 0, errOf E 4]) ∧ Grew w w' := by
  have hS : KeyT stS := ⟨rfl, rfl, rfl, rfl⟩
  have HR := hid (fun W (g : Grew w W) => rightE_any hS E e W (hE.grew g) (hA.grew g))
  have HW := hid (WrIn.start w st e)
  have g4 : w.cell? ⟨0, 0, none⟩ = some (.iface 343 (.pointer (some (E 4)))) := hE.cell 4 rfl
  have b4 : 0 < w.heap.size := cell_lt g4
  have HG4 := hid (fun W (g : Grew w W) => (g.cells.1 _ _ b4).trans g4)
  have HK : Hid (Pl.rightB e = false ∨ e.kind ≠ 1) := by
    unfold Hid
    cases hr : Pl.rightB e with
    | false => exact .inl rfl
    | true => exact .inr fun k => h ⟨k, hr⟩
  clear hE hA h g4 b4
  generalize Pl.rightB e = rb at *
  obtain ⟨Y, hY⟩ : ∃ Y, Y = (((w.alloc (.cells #[.pointer (some ⟨st, 0, none⟩)] 43)).alloc (.cells e.vals.toArray 26)).alloc (.cells #[.int .i64 0, .int .i64 0] 91)) := ⟨_, rfl⟩
  rw [← hY] at HW
  obtain ⟨HYE⟩ : Nonempty (Hid (Y = (((w.alloc (.cells #[.pointer (some ⟨st, 0, none⟩)] 43)).alloc (.cells e.vals.toArray 26)).alloc (.cells #[.int .i64 0, .int .i64 0] 91)))) := ⟨hY⟩
  clear hY
  unfold En.agg at *
  obtain ⟨kind, shard, other, server, client, seq, key, upto, part, parts, ops, opsA, opsC, dataA, dataL, dataC⟩ := e
  unfold En.vals at HR HYE ⊢
  dsimp only at *
  unfold ansAgg
  rw [errOf_pos E 4 (by decide)]
  by_cases k1 : kind = 1
  · subst k1
    have HB : rb = false := by rcases HK.out with h | h; exact h; exact absurd rfl h
    subst HB
    clear HK
    go_enter Tryz.func82, Tryz.ntmps82
    go_wp2_with fail
    rw [← HYE.out]
    refine (HR.out Y HW.out.grew).mono ?_
    rintro e w1 ⟨rfl, hg1⟩
    have HW1 := hid (HW.out.more hg1)
    have hl := HW1.out.lt
    have q0 := HG4.out w1 HW1.out.grew
    have a0 := HW1.out.a0
    have a1 := HW1.out.a1
    have f0 := HW1.out.f0
    have f1 := HW1.out.f1
    clear hg1 HW HR HG4
    go_wp2_with fail
    go_region
    go_wp2_with fail
    refine bodyPost_ret (v := .tuple #[.agg #[.int .i64 0, .int .i64 0], .iface 343 (.pointer (some (E 4)))]) (by simp [results, Tryz.results82, go_sem, a0, a1, f0, f1]) rfl ⟨rfl, ?_⟩
    refine ((HW1.out.grew.setCell ?_ _).setCell ?_ _).drew <;> (show w.heap.size ≤ w.heap.size + 2; omega)
  · clear HK HR
    go_enter Tryz.func82, Tryz.ntmps82
    have q0 := HG4.out Y HW.out.grew
    have a0 := HW.out.a0
    have a1 := HW.out.a1
    have f0 := HW.out.f0
    have f1 := HW.out.f1
    have k0 : Y.cell? ⟨w.heap.size + 1, 0, none⟩ = some (.int .i64 kind) := HW.out.ent 0 _ rfl
    have HW1 := hid HW.out
    have hl := HW.out.lt
    clear HG4 HW
    go_wp2_with fail
    rw [← HYE.out]
    go_region
    go_wp2_with fail
    refine bodyPost_ret (v := .tuple #[.agg #[.int .i64 0, .int .i64 0], .iface 343 (.pointer (some (E 4)))]) (by simp [results, Tryz.results82, go_sem, a0, a1, f0, f1]) rfl ⟨rfl, ?_⟩
    refine ((HW1.out.grew.setCell ?_ _).setCell ?_ _).drew <;> (show w.heap.size ≤ w.heap.size + 2; omega)
set_option maxRecDepth 100000 in
set_option maxHeartbeats 4000000 in
theorem writeS_range (E : Nat → Addr) (e : En) (w : World) (hE : Errs stS E w) (hA : EnAt w e) (at_ : Int) (st : Nat) (hk : e.kind = 1) (hr : Pl.rightB e = true) (hat : at_ < 0 ∨ 4096 ≤ at_) :
    Calls Tryz.prog 82 #[.pointer (some ⟨st, 0, none⟩), e.agg, .int .i64 at_] w fun r w' => r = .returned (.tuple #[ansAgg 0 0, errOf E 1]) ∧ Grew w w' := by
  have hS : KeyT stS := ⟨rfl, rfl, rfl, rfl⟩
  have hR := fun W (g : Grew w W) => rightE_any hS E e W (hE.grew g) (hA.grew g)
  rw [hr] at hR
  have HR := hid hR
  have HW := hid (WrIn.start w st e)
  have g4 : w.cell? ⟨1, 0, none⟩ = some (.iface 343 (.pointer (some (E 1)))) := hE.cell 1 rfl
  have b4 : 1 < w.heap.size := cell_lt g4
  have HG4 := hid (fun W (g : Grew w W) => (g.cells.1 _ _ b4).trans g4)
  clear hE hA g4 b4 hr hR
  obtain ⟨Y, hY⟩ : ∃ Y, Y = (((w.alloc (.cells #[.pointer (some ⟨st, 0, none⟩)] 43)).alloc (.cells e.vals.toArray 26)).alloc (.cells #[.int .i64 0, .int .i64 0] 91)) := ⟨_, rfl⟩
  rw [← hY] at HW
  obtain ⟨HYE⟩ : Nonempty (Hid (Y = (((w.alloc (.cells #[.pointer (some ⟨st, 0, none⟩)] 43)).alloc (.cells e.vals.toArray 26)).alloc (.cells #[.int .i64 0, .int .i64 0] 91)))) := ⟨hY⟩
  clear hY
  unfold En.agg at *
  obtain ⟨kind, shard, other, server, client, seq, key, upto, part, parts, ops, opsA, opsC, dataA, dataL, dataC⟩ := e
  unfold En.vals at HR HYE ⊢
  dsimp only at *
  unfold ansAgg
  rw [errOf_pos E 1 (by decide)]
  subst hk
  go_enter Tryz.func82, Tryz.ntmps82
  go_wp2_with fail
  rw [← HYE.out]
  refine (HR.out Y HW.out.grew).mono ?_
  rintro e w1 ⟨rfl, hg1⟩
  have HW1 := hid (HW.out.more hg1)
  have hl := HW1.out.lt
  have q0 := HG4.out w1 HW1.out.grew
  have a0 := HW1.out.a0
  have a1 := HW1.out.a1
  have f0 := HW1.out.f0
  have f1 := HW1.out.f1
  clear hg1 HW HR HG4
  rcases hat with ha | ha
  · go_wp2_with fail
    go_region
    go_wp2_with fail
    refine bodyPost_ret (v := .tuple #[.agg #[.int .i64 0, .int .i64 0], .iface 343 (.pointer (some (E 1)))]) (by simp [results, Tryz.results82, go_sem, a0, a1, f0, f1]) rfl ⟨rfl, ?_⟩
    refine ((HW1.out.grew.setCell ?_ _).setCell ?_ _).drew <;> (show w.heap.size ≤ w.heap.size + 2; omega)
  · have ha2 : ¬ at_ < 0 := by omega
    go_wp2_with fail
    go_region
    go_wp2_with fail
    refine bodyPost_ret (v := .tuple #[.agg #[.int .i64 0, .int .i64 0], .iface 343 (.pointer (some (E 1)))]) (by simp [results, Tryz.results82, go_sem, a0, a1, f0, f1]) rfl ⟨rfl, ?_⟩
    refine ((HW1.out.grew.setCell ?_ _).setCell ?_ _).drew <;> (show w.heap.size ≤ w.heap.size + 2; omega)
end Go.Proofs.YtbdagllflamabaaGreatDoor
namespace Go.Proofs.YtbdagllflamabaaGreatDoor
open Go.RowKit Go.Maps
attribute [local go_sem] Oper.semAt_some uponV
namespace Pl
theorem right_client {e : En} (hk : e.kind = 1) (hr : rightB e = true) : 1 ≤ e.client ∧ e.client ≤ 4 := by
  unfold rightB at hr
  rw [if_pos hk] at hr
  unfold wriB withinB at hr
  simp only [Bool.and_eq_true, decide_eq_true_eq] at hr
  exact hr.1.1.1.2
end Pl
set_option maxRecDepth 100000 in
set_option maxHeartbeats 4000000 in
theorem writeS_seen (E : Nat → Addr) (e : En) {w : World} (hE : Errs stS E w) (hA : EnAt w e) (at_ : Int) {Ft Fs : Nat → Prop} {st n : Nat} {lo hi : ByteArray} {P : List Pr} {S : Int → Option An} (h : StAt w Ft Fs st n lo hi P S) (hk : e.kind = 1) (hr : Pl.rightB e = true) (h0 : 0 ≤ at_) (h1 : at_ < 4096) (hl : lo.size ≤ 70368744177664) (hh : hi.size ≤ 70368744177664) (hsz : ∀ o ∈ e.ops, o.key.size ≤ 70368744177664) (hin : ∀ o ∈ e.ops, Pl.hasS lo hi o.key = true) (hn : askN (S e.client) e.seq ≠ 1) :
    Calls Tryz.prog 82 #[.pointer (some ⟨st, 0, none⟩), e.agg, .int .i64 at_] w fun r w' => r = .returned (.tuple #[if askN (S e.client) e.seq = 2 then ansAgg (askA (S e.client) e.seq).1 (askA (S e.client) e.seq).2 else ansAgg 4 0, .nilIface]) ∧ Grew w w' := by
  have HAN : Hid (askN (S e.client) e.seq = 2 ∨ askN (S e.client) e.seq = 3) := by
    unfold Hid
    cases hS : S e.client with
    | none => rw [hS] at hn; exact absurd rfl hn
    | some a =>
      rw [hS] at hn
      unfold askN at hn ⊢
      dsimp only at hn ⊢
      by_cases q : a.seq < e.seq
      · rw [if_pos q] at hn; exact absurd rfl hn
      · rw [if_neg q]
        by_cases q2 : e.seq = a.seq
        · rw [if_pos q2]; exact .inl rfl
        · rw [if_neg q2]; exact .inr rfl
  have hT : KeyT stS := ⟨rfl, rfl, rfl, rfl⟩
  have hKS : KeyS stS := ⟨rfl, rfl, rfl, rfl⟩
  have hR := fun W (g : Grew w W) => rightE_any hT E e W (hE.grew g) (hA.grew g)
  rw [hr] at hR
  have HR := hid hR
  have HW := hid (WrIn.start w st e)
  have HKEYS := hid (fun W (g : Grew w W) => keysE_any hT E e W (hE.grew g) (hA.grew g) hk hr)
  have hany : ((e.ops.map OpR.key).any fun k => !Pl.hasS lo hi k) = false := by
    rw [List.any_eq_false]
    intro k hkm
    obtain ⟨o, ho, rfl⟩ := List.mem_map.1 hkm
    simp [hin o ho]
  have hfew := hA.few
  have hANY := fun W (g : Grew w W) (a : Option Addr) (cap : Nat) (k : StrsAt W a (e.ops.map OpR.key)) (hB : BoxSp W w.heap.size st lo hi) => anyKey_any stS E hKS lo hi a cap (e.ops.map OpR.key) W hl hh (hE.grew g) w.heap.size st hB k (by simpa using hfew) (fun k hkm => by obtain ⟨o, ho, rfl⟩ := List.mem_map.1 hkm; exact hsz o ho)
  rw [hany, List.length_map] at hANY
  have HANY := hid hANY
  obtain ⟨tb, sb, h⟩ := h
  have hcl : 1 ≤ e.client ∧ e.client ≤ 4 := Pl.right_client hk hr
  have HASK := hid (fun W (g : Grew w W) => ask_any (h.seen.grew g) e.client e.seq (by omega) (by omega))
  generalize askN (S e.client) e.seq = an at *
  generalize (askA (S e.client) e.seq).1 = ac at *
  generalize (askA (S e.client) e.seq).2 = aa at *
  have HST := hid h
  have hstl : st < w.heap.size := cell_lt h.c0
  obtain ⟨Y, hY⟩ : ∃ Y, Y = (((w.alloc (.cells #[.pointer (some ⟨st, 0, none⟩)] 43)).alloc (.cells e.vals.toArray 26)).alloc (.cells #[.int .i64 0, .int .i64 0] 91)) := ⟨_, rfl⟩
  rw [← hY] at HW
  have HYE := hid hY
  clear hY hE hA hr hR hany hANY h hin hsz
  unfold En.agg at *
  obtain ⟨kind, shard, other, server, client, seq, key, upto, part, parts, ops, opsA, opsC, dataA, dataL, dataC⟩ := e
  unfold En.vals at HR HYE HKEYS ⊢
  dsimp only at *
  subst hk
  unfold ansAgg at *
  go_enter Tryz.func82, Tryz.ntmps82
  go_wp2_with fail
  rw [← HYE.out]
  refine (HR.out Y HW.out.grew).mono ?_
  rintro e w1 ⟨rfl, hg1⟩
  have HW1 := hid (HW.out.more hg1)
  have hl1 := HW1.out.lt
  have d0 : w1.cell? ⟨w.heap.size + 1, 0, none⟩ = some (.int .i64 1) := HW1.out.ent 0 _ rfl
  have d1 : w1.cell? ⟨w.heap.size + 1, 1, none⟩ = some (.int .i64 shard) := HW1.out.ent 1 _ rfl
  have d2 : w1.cell? ⟨w.heap.size + 1, 2, none⟩ = some (.int .i64 other) := HW1.out.ent 2 _ rfl
  have d3 : w1.cell? ⟨w.heap.size + 1, 3, none⟩ = some (.int .i64 server) := HW1.out.ent 3 _ rfl
  have d4 : w1.cell? ⟨w.heap.size + 1, 4, none⟩ = some (.int .i64 client) := HW1.out.ent 4 _ rfl
  have d5 : w1.cell? ⟨w.heap.size + 1, 5, none⟩ = some (.int .i64 seq) := HW1.out.ent 5 _ rfl
  have d6 : w1.cell? ⟨w.heap.size + 1, 6, none⟩ = some (.slice opsA ops.length opsC) := HW1.out.ent 6 _ rfl
  have d7 : w1.cell? ⟨w.heap.size + 1, 7, none⟩ = some (.string key) := HW1.out.ent 7 _ rfl
  have d8 : w1.cell? ⟨w.heap.size + 1, 8, none⟩ = some (.int .i64 upto) := HW1.out.ent 8 _ rfl
  have d9 : w1.cell? ⟨w.heap.size + 1, 9, none⟩ = some (.int .i64 part) := HW1.out.ent 9 _ rfl
  have d10 : w1.cell? ⟨w.heap.size + 1, 10, none⟩ = some (.int .i64 parts) := HW1.out.ent 10 _ rfl
  have d11 : w1.cell? ⟨w.heap.size + 1, 11, none⟩ = some (.slice dataA dataL dataC) := HW1.out.ent 11 _ rfl
  have k0 : ¬ at_ < 0 := by omega
  have k1 : ¬ 4096 ≤ at_ := by omega
  clear hg1 HW HR
  go_wp2_with fail
  refine (HKEYS.out w1 HW1.out.grew).mono ?_
  rintro e w2 ⟨⟨v, rfl, hown⟩, hg2⟩
  obtain ⟨a, cap, rfl, hks⟩ := strsAt_of (by rw [List.length_map]; exact hown)
  rw [List.length_map]
  have HW2 := hid (HW1.out.more hg2)
  have HKS := hid hks
  clear hg2 hown hks HKEYS d0 d1 d2 d3 d4 d5 d6 d7 d8 d9 d10 d11
  go_wp2_with fail
  refine (HANY.out w2 HW2.out.grew a cap HKS.out ⟨HW2.out.box, (HW2.out.grew.cells.1 _ _ hstl).trans HST.out.c1, (HW2.out.grew.cells.1 _ _ hstl).trans HST.out.c2⟩).mono ?_
  rintro e w3 ⟨rfl, hg3⟩
  have HW3 := hid (HW2.out.more hg3)
  clear hg3 HKS HANY HW1 HW2 hl1
  go_wp2_with fail
  have hl3 := HW3.out.lt
  have B0 := wd_cell HW3.out.box
  have B1 := wd_cell (HW3.out.ent 4 _ rfl)
  have B2 := wd_cell (HW3.out.ent 5 _ rfl)
  have B3 := wd_cell ((HW3.out.grew.cells.1 _ _ hstl).trans HST.out.c3)
  have HCALL := hid (fun W (g : Grew w3 W) => HASK.out W (HW3.out.grew.trans g))
  clear HASK
  refine wp_region_mixS 14 [12, 13] (Grew w3) Grew (JV [⟨12, 13, [.int .i64 ac, .int .i64 aa]⟩] w3) (fun f a => a.put (some 8) (f 12)) (by kernel_rfl) (by kernel_rfl) (fun _ _ => rfl) (JV.start _ w3 _) (fun _ _ _ h => h.grew) Grew.refl (fun _ _ _ _ h g => h.more g) ?_
  repeat (first
    | (refine mixS_loose (by rfl) (by rfl) ?_)
    | (refine mixS_plain (by rfl) (by rfl) (by rfl) (by first | exact Grew.refl | exact fun _ => rfl) (by rfl) ?_; intro K hK; go_big_quiet_op; go_big_quiet_on)
    | (refine mixS_call (by rfl) (by rfl) (by rfl) (by rfl) (fun _ => by kernel_rfl) (fun u hu => HCALL.out u hu) ?_; simp only [Act.put, List.setIfInBounds_toArray, List.set_cons_zero, List.set_cons_succ])
    | (refine mixS_skip (by rfl) (by rfl) (by rfl) ?_; simp only [Act.put, List.setIfInBounds_toArray, List.set_cons_zero, List.set_cons_succ]))
  refine mixS_done (by rfl) ⟨⟨loose_of rfl (fun _ a => a) (fun _ _ => rfl) (fun _ => rfl) ?_, loose_of rfl (fun f a => a.put (some 8) (f 12)) (fun _ _ => rfl) (fun _ => rfl) ?_, trivial⟩, ?_⟩
  · intro L f u hJ hL hd
    clear HCALL B0 B1 B2 B3
    go_simp
    exact hJ.alloc (by rfl) (V := ⟨12, 13, [.int .i64 ac, .int .i64 aa]⟩) (by simp) hL [.int .i64 0, .int .i64 0] rfl _
  · intro L f u hJ hL hd
    clear HCALL B0 B1 B2 B3
    obtain ⟨m, x, y, hm, k0, k1, f0, f1⟩ := hJ.two (V := ⟨12, 13, [.int .i64 ac, .int .i64 aa]⟩) (by simp) (hd 12 rfl (by decide)) rfl
    dsimp only at hm
    rw [hm]
    go_simp
    exact hJ.store (by rfl) (V := ⟨12, 13, [.int .i64 ac, .int .i64 aa]⟩) (by simp) (hd 12 rfl (by decide)) hm
  intro f u hJ
  clear HCALL B0 B1 B2 B3
  obtain ⟨m8, q8, n8, l8, v0, v1, _, _⟩ := (hJ.full (V := ⟨12, 13, [.int .i64 ac, .int .i64 aa]⟩) (by simp) rfl).two
  dsimp only at q8
  have HW4 := hid (HW3.out.more hJ.grew)
  have HG4 := hid hJ.grew
  clear hJ HW3
  dsimp only [List.drop]
  simp only [Act.put, List.setIfInBounds_toArray, List.set_cons_succ, List.set_cons_zero]
  rw [q8]
  clear q8
  have a0 := HW4.out.a0
  have a1 := HW4.out.a1
  have f0 := HW4.out.f0
  have f1 := HW4.out.f1
  rcases HAN.out with rfl | rfl
  · clear HAN hn
    go_wp2_with fail
    refine bodyPost_ret (v := .tuple #[.agg #[.int .i64 ac, .int .i64 aa], .nilIface]) (by simp [results, Tryz.results82, go_sem, a0, a1, f0, f1]) rfl ⟨rfl, ?_⟩
    exact (HW4.out.grew.setCell (show w.heap.size ≤ w.heap.size + 2 by omega) _).setCell (show w.heap.size ≤ w.heap.size + 2 by omega) _
  · clear HAN hn
    go_wp2_with fail
    refine bodyPost_ret (v := .tuple #[.agg #[.int .i64 4, .int .i64 0], .nilIface]) (by simp [results, Tryz.results82, go_sem, a0, a1, f0, f1]) rfl ⟨rfl, ?_⟩
    exact (HW4.out.grew.setCell (show w.heap.size ≤ w.heap.size + 2 by omega) _).setCell (show w.heap.size ≤ w.heap.size + 2 by omega) _
end Go.Proofs.YtbdagllflamabaaGreatDoor
namespace Go.Proofs.YtbdagllflamabaaGreatDoor
open Go.RowKit Go.Maps
namespace Pl
theorem good_step {P : List Pr} (h : Good P) (o : OpR) (v : Int) : Good (stepP P o v).1 := by
  unfold stepP
  split
  · exact h.del _
  · split
    · exact h
    · split
      · exact h
      · exact h.put _
theorem step_len (P : List Pr) (o : OpR) (v : Int) : (stepP P o v).1.length ≤ P.length + 1 := by
  unfold stepP
  split
  · have := (tdel_sub P o.key).length_le; dsimp only; omega
  · split
    · dsimp only; omega
    · split
      · dsimp only; omega
      · exact putT_len P _
def runOps : List OpR → Int → List Pr → List Pr × Bool
  | [], _, P => (P, true)
  | o :: os, v, P => if (stepP P o v).2 = true then runOps os v (stepP P o v).1 else ((stepP P o v).1, false)
theorem runOps_cons (o : OpR) (os : List OpR) (v : Int) (P : List Pr) : runOps (o :: os) v P = if (stepP P o v).2 = true then runOps os v (stepP P o v).1 else ((stepP P o v).1, false) := rfl
theorem runOps_append (a b : List OpR) (v : Int) : ∀ P, runOps (a ++ b) v P = if (runOps a v P).2 = true then runOps b v (runOps a v P).1 else runOps a v P := by
  induction a with
  | nil => intro P; simp [runOps]
  | cons o os ih =>
    intro P
    rw [List.cons_append, runOps_cons, runOps_cons]
    cases hb : (stepP P o v).2 with
    | true => simp only [if_true]; exact ih _
    | false => simp
theorem runOps_good (a : List OpR) (v : Int) : ∀ P, Good P → Good (runOps a v P).1 := by
  induction a with
  | nil => intro P h; exact h
  | cons o os ih =>
    intro P h
    rw [runOps_cons]
    split
    · exact ih _ (good_step h o v)
    · exact good_step h o v
theorem runOps_len (a : List OpR) (v : Int) : ∀ P, (runOps a v P).1.length ≤ P.length + a.length := by
  induction a with
  | nil => intro P; simp [runOps]
  | cons o os ih =>
    intro P
    rw [runOps_cons]
    have := step_len P o v
    split
    · have := ih (stepP P o v).1; simp only [List.length_cons]; omega
    · simp only [List.length_cons]; omega
theorem runOps_next {ops : List OpR} {v : Int} {P Q : List Pr} {k : Nat} (hk : k < ops.length) (h : runOps (ops.take k) v P = (Q, true)) :
    runOps (ops.take (k + 1)) v P = stepP Q (opRAt ops k) v ∧ ((stepP Q (opRAt ops k) v).2 = false → (runOps ops v P).2 = false) := by
  have e : ∀ o, runOps [o] v Q = stepP Q o v := by
    intro o
    rw [runOps_cons]
    cases hb : (stepP Q o v).2 with
    | true => rw [if_pos rfl]; show ((stepP Q o v).1, true) = _; rw [← hb]
    | false => rw [if_neg (by decide), ← hb]
  have h1 : runOps (ops.take (k + 1)) v P = stepP Q (opRAt ops k) v := by
    rw [List.take_succ_eq_append_getElem hk, runOps_append, h, if_pos rfl, ← opRAt_eq ops k hk]
    exact e _
  refine ⟨h1, fun hf => ?_⟩
  have h2 : runOps ops v P = runOps (ops.take (k + 1) ++ ops.drop (k + 1)) v P := by rw [List.take_append_drop]
  rw [h2, runOps_append, h1, hf, if_neg (by decide), hf]
def codeW (P : List Pr) (ops : List OpR) (at_ : Int) : Int := if (runOps ops (at_ + 1) P).2 = true then 1 else 2
def tabW (P : List Pr) (ops : List OpR) (at_ : Int) : List Pr := if (runOps ops (at_ + 1) P).2 = true then (runOps ops (at_ + 1) P).1 else P
theorem tabW_good {P : List Pr} (h : Good P) (ops : List OpR) (at_ : Int) : Good (tabW P ops at_) := by
  unfold tabW; split
  · exact runOps_good _ _ _ h
  · exact h
theorem tabW_len (P : List Pr) (ops : List OpR) (at_ : Int) : (tabW P ops at_).length ≤ P.length + ops.length := by
  unfold tabW; split
  · exact runOps_len _ _ _
  · omega
end Pl
end Go.Proofs.YtbdagllflamabaaGreatDoor
