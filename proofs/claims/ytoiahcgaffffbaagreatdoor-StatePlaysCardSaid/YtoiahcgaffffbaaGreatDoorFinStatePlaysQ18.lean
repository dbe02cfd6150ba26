/- DelPair, TabD, St5, StS, St6: one text. -/
import Derived.Test.YtoiahcgaffffbaaGreatDoorFinStatePlaysQ1
import Derived.IntWalk
import Derived.Test.YtoiahcgaffffbaaGreatDoorFinStatePlaysQ17
import Derived.Test.YtoiahcgaffffbaaGreatDoorFinStatePlaysQ15
import Derived.Test.YtoiahcgaffffbaaGreatDoorFinStatePlaysQ2
import Derived.Test.YtoiahcgaffffbaaGreatDoorFinStatePlaysQ16
import Derived.Test.YtoiahcgaffffbaaGreatDoorFinStatePlaysQ12
import Derived.Deep.AppendLies
namespace Go.Proofs.YtoiahcgaffffbaaGreatDoor
open Go.RowKit Go.Maps
attribute [local go_sem] Oper.semAt_some
theorem infoDPair : (Tryz.prog.info? 83).map (fun i => (i.zero, i.size, i.bytes)) = some (some (.agg #[.string ⟨#[]⟩, .string ⟨#[]⟩, .int .i64 0]), 3, 40) := by kernel_rfl
theorem zeroDPair (w : World) : (zeroValue 83).run Tryz.prog w = .ok (.agg #[.string ⟨#[]⟩, .string ⟨#[]⟩, .int .i64 0]) w := by kernel_rfl
theorem zcDPair : (Value.cells (.agg #[.string ⟨#[]⟩, .string ⟨#[]⟩, .int .i64 0])).size = 3 := by kernel_rfl
theorem zoDPair : ∀ v ∈ (Value.cells (.agg #[.string ⟨#[]⟩, .string ⟨#[]⟩, .int .i64 0])).toList, v.oneCell' = true := by
  have h : (Value.cells (.agg #[.string ⟨#[]⟩, .string ⟨#[]⟩, .int .i64 0])).toList.all (fun v => v.oneCell') = true := by kernel_rfl
  exact fun v hv => List.all_eq_true.1 h v hv
set_option maxRecDepth 100000 in
set_option maxHeartbeats 4000000 in
theorem delPair (w : World) (B q i : Nat) (a0 : Option Addr) (c0 : Nat) (xs : List Value) (h : w.ownsRow B 83 3 (.slice a0 (q + 1) c0) (q + 1) xs) (h1 : ∀ u ∈ xs, u.oneCell' = true) (hi : i ≤ q) (hbig : q ≤ 1000000) :
    Calls Tryz.prog 185 #[.slice a0 (q + 1) c0, .int .i64 i, .int .i64 ((i : Int) + 1)] w fun e w' => e = .returned (.slice a0 q c0) ∧ w'.ownsRow B 83 3 (.slice a0 q c0) q (xs.take (i * 3) ++ xs.drop ((i + 1) * 3)) ∧ w.grownBy w' (Value.ownBlock (.slice a0 (q + 1) c0)) := by
  obtain ⟨i0, hi0, hz0, hzs, hzb⟩ := info_parts infoDPair
  obtain ⟨b, c, cur, e, hBb, hb, hnc, hc, hcl, hx⟩ := ownsRow_block h (by omega)
  cases e
  subst hx
  obtain ⟨D, hD⟩ : ∃ D, D = (cur.take ((q + 1) * 3)).drop ((i + 1) * 3) := ⟨_, rfl⟩
  have hDl : D.length = (q - i) * 3 := by rw [hD]; simp; omega
  have hrun : ∀ ty a sc, (D ≠ [] → a = ⟨b, (i + 1) * 3, none⟩) → (Builtin.append_ #[32, 32] ty #[.slice (some ⟨b, 0, none⟩) i c0, .slice (some a) (q - i) sc]).run Tryz.prog w.drew = .ok (.slice (some ⟨b, 0, none⟩) q c0) (w.drew.setRow b (spl cur (i * 3) D).toArray) := fun ty a sc ha => by
    have h := run_append_room (P := Tryz.prog) w.drew 32 ty 83 i0 Tryz.underlying32 hi0 b i c0 cur.toArray hb a (q - i) sc D (by rw [hzs]; exact hDl)
      (fun j u hj => by
        have hne : D ≠ [] := fun e => by rw [e] at hj; cases hj
        rw [ha hne, Addr.add_lit]
        show w.cell? _ = _
        rw [cell_block hb]
        rw [hD, List.getElem?_drop, List.getElem?_take] at hj
        split at hj
        · exact hj
        · cases hj)
      (fun u hu => h1 u (by rw [hD] at hu; exact List.mem_of_mem_drop hu)) (by omega) (by rw [hzs, hDl]; simp; omega)
    rw [show i + (q - i) = q by omega, hzs] at h
    rw [h]
    simp [spl]
  obtain ⟨W1, hW1⟩ : ∃ W1, W1 = w.drew.setRow b (spl cur (i * 3) D).toArray := ⟨_, rfl⟩
  have hll : (spl cur (i * 3) D).length = c0 * 3 := by rw [spl_length _ _ _ (by rw [hDl]; omega), hcl]
  have hh1 : W1.heap[b]? = some (.cells (spl cur (i * 3) D).toArray 83 (0, 0)) := by rw [hW1]; exact setRow_heap w.drew b _ _ _ _ hb
  rw [← hW1] at hrun
  have hclr : ∀ ty sc, (Builtin.clear_ #[32] ty #[.slice (some ⟨b, q * 3, none⟩) 1 sc]).run Tryz.prog W1 = .ok (.tuple #[]) (W1.setRow b (spl (spl cur (i * 3) D) (q * 3) (Builtin.zeroCells (Value.cells (.agg #[.string ⟨#[]⟩, .string ⟨#[]⟩, .int .i64 0])) 1).toList).toArray) := fun ty sc =>
    run_clear_rowK W1 32 83 ty _ 3 Tryz.underlying32 zeroDPair zcDPair zoDPair b (q * 3) sc _ 83 hh1 (by rw [hll]; omega)
  obtain ⟨Z, hZ⟩ : ∃ Z, Z = (Builtin.zeroCells (Value.cells (.agg #[.string ⟨#[]⟩, .string ⟨#[]⟩, .int .i64 0])) 1).toList := ⟨_, rfl⟩
  have hZl : Z.length = 3 := by rw [hZ, Array.length_toList, size_zeroCells, zcDPair]
  rw [← hZ] at hclr
  obtain ⟨W2, hW2⟩ : ∃ W2, W2 = W1.setRow b (spl (spl cur (i * 3) D) (q * 3) Z).toArray := ⟨_, rfl⟩
  rw [← hW2] at hclr
  have HEND : Hid (W2.ownsRow B 83 3 (.slice (some ⟨b, 0, none⟩) q c0) q ((cur.take ((q + 1) * 3)).take (i * 3) ++ (cur.take ((q + 1) * 3)).drop ((i + 1) * 3)) ∧ w.grownBy W2 (some b)) := by
    refine ⟨ownsRow_of_block (cur := spl (spl cur (i * 3) D) (q * 3) Z) hBb (by rw [hW2]; exact setRow_heap _ _ _ _ _ _ hh1) (by omega) hc (by rw [spl_length _ _ _ (by rw [hZl, hll]; omega), hll]) ?_, ?_⟩
    · rw [spl_take_le _ _ _ _ (Nat.le_refl _) (by rw [hll]; omega), show q * 3 = i * 3 + D.length by rw [hDl]; omega, spl_take _ _ _ (by omega), hD, List.take_take]
      congr 2
      omega
    · have g1 : w.grownBy W1 (some b) := by rw [hW1]; exact (show w.grownBy w.drew (some b) from ⟨rfl, rfl, rfl, Nat.le_refl _, fun _ _ _ => rfl⟩).trans (grownBy_setRow w.drew b _)
      rw [hW2]; exact g1.trans (grownBy_setRow W1 b _)
  have HRUN := hid hrun
  have hDn : c0 = i + 1 → D = [] := fun e => List.eq_nil_of_length_eq_zero (by rw [hDl]; omega)
  have HDN := hid hDn
  have z1 : ((i : Int) == (i : Int) + 1) = false := beq_eq_false_iff_ne.2 (by omega)
  have z2 : (0 : Int) ≤ (i : Int) + 1 := by omega
  have z3 : ((i : Int) + 1).toNat = i + 1 := by omega
  have z4 : (i : Int) + 1 ≤ (q : Int) + 1 := by omega
  have z5 : (i : Int) ≤ (i : Int) + 1 := by omega
  have z6 : q + 1 ≤ c0 := hnc
  have z7 : ¬ (c0 = q) := by omega
  have z8 : ¬ (c0 = i) := by omega
  have z9 : (i : Int) ≤ (c0 : Int) := by omega
  have z10 : i ≤ q + 1 := by omega
  have z11 : i ≤ c0 := by omega
  have z12 : ¬ ((i : Int) = (i : Int) + 1) := by omega
  clear hrun hDn hDl hD hW1 hll hh1 hZ hZl hW2 hb hcl h h1 hnc
  by_cases hci : c0 = i + 1
  · obtain rfl : i = q := by omega
    subst hci
    have hr0 : ∀ ty sc, (Builtin.append_ #[32, 32] ty #[.slice (some ⟨b, 0, none⟩) i (i + 1), .slice (some ⟨b, 0, none⟩) 0 sc]).run Tryz.prog w.drew = .ok (.slice (some ⟨b, 0, none⟩) i (i + 1)) W1 := fun ty sc => by
      have := HRUN.out ty ⟨b, 0, none⟩ sc (fun hne => absurd (HDN.out rfl) hne)
      rwa [Nat.sub_self] at this
    clear HRUN HDN
    go_enter Tryz.func185, Tryz.ntmps185
    go_wp2_with fail
    go_region_law (refine step_append_run rfl (.tmp 22) (.tmp 25) 32 32 rfl (.slice (some ⟨b, 0, none⟩) i (i + 1)) (.slice (some ⟨b, 0, none⟩) 0 0) (by simp [Act.eval, Act.put]) (by simp [Act.eval, Act.put]) (hr0 _ _) ?_)
    go_wp2_with fail
    go_ret
    exact ⟨rfl, HEND.out⟩
  · have hr0 : ∀ ty sc, (Builtin.append_ #[32, 32] ty #[.slice (some ⟨b, 0, none⟩) i c0, .slice (some ⟨b, (i + 1) * 3, none⟩) (q - i) sc]).run Tryz.prog w.drew = .ok (.slice (some ⟨b, 0, none⟩) q c0) W1 := fun ty sc => HRUN.out ty ⟨b, (i + 1) * 3, none⟩ sc (fun _ => rfl)
    clear HRUN HDN
    go_enter Tryz.func185, Tryz.ntmps185
    go_wp2_with fail
    go_region_law (refine step_append_run rfl (.tmp 22) (.tmp 25) 32 32 rfl (.slice (some ⟨b, 0, none⟩) i c0) (.slice (some ⟨b, (i + 1) * 3, none⟩) (q - i) (c0 - (i + 1))) (by simp [Act.eval, Act.put]) (by simp [Act.eval, Act.put]) (hr0 _ _) ?_)
    go_wp2_with fail
    go_ret
    exact ⟨rfl, HEND.out⟩
end Go.Proofs.YtoiahcgaffffbaaGreatDoor
namespace Go.Proofs.YtoiahcgaffffbaaGreatDoor
open Go.RowKit Go.Maps
attribute [local go_sem] Oper.semAt_some
theorem del_end {w W W2 : World} {F : Nat → Prop} {tb : Nat} {a : Option Addr} {n cap : Nat} {xs : List Pr} (h : TableIs w F tb (.slice a xs.length cap) xs) (gW : Grew w W) (k : ByteArray) (hk : Pl.keyN k = 0) (hb : Pl.hasB xs k = true) (hn : xs.length = n + 1)
    (hrow : W2.ownsRow 0 83 3 (.slice a n cap) n ((prFlat xs).take (Pl.pos xs k * 3) ++ (prFlat xs).drop ((Pl.pos xs k + 1) * 3))) (hgr : W.grownBy W2 (Value.ownBlock (.slice a (n + 1) cap))) :
    TabTurn w F tb (Pl.tdel xs k) (W2.setCell ⟨tb, 0, none⟩ (.slice a n cap)) := by
  have hpl := (Pl.hasB_key h.srt (Pl.ok_key hk) hb).1
  have e0 : Pl.tdel xs k = xs.take (Pl.pos xs k) ++ xs.drop (Pl.pos xs k + 1) := by unfold Pl.tdel; rw [if_pos ⟨hk, hb⟩]
  have hlen : (Pl.tdel xs k).length = n := by
    rw [e0]; simp only [List.length_append, List.length_take, List.length_drop]; omega
  have htb : tb < w.heap.size := cell_lt h.cell
  have hob : Value.ownBlock (.slice a (n + 1) cap) = Value.ownBlock (.slice a xs.length cap) := by cases a <;> rfl
  rw [hob] at hgr
  have hob2 : Value.ownBlock (.slice a n cap) = Value.ownBlock (.slice a xs.length cap) := by cases a <;> rfl
  have o1 : Only (fun j => some j = Value.ownBlock (.slice a xs.length cap)) w W2 := (gW.only _).then (Only.of_grownBy hgr)
  have htb2 : tb < W2.heap.size := Nat.lt_of_lt_of_le htb o1.size
  have hc2 : W2.cell? ⟨tb, 0, none⟩ = some (.slice a xs.length cap) := (o1.cell htb (fun e => (h.foot1 tb e.symm).2 rfl) 0).trans h.cell
  have hf2 : W2.frozen? ⟨tb, 0, none⟩ = false := (o1.frozen htb (fun e => (h.foot1 tb e.symm).2 rfl) 0).trans h.fz
  have o2 := Only.setCell W2 ⟨tb, 0, none⟩ (.slice a n cap)
  refine ⟨(o1.mono fun j hj => .inl (h.foot1 j hj.symm).1).then (o2.mono fun j hj => .inl (by subst hj; exact h.foot0)), F, ⟨.slice a n cap, ⟨?_, ?_, ?_, Pl.srt_del h.srt k, ?_, h.foot0, ?_, ?_⟩⟩, fun j => .inl⟩
  · simp [World.cell?_setCell_same, hc2]
  · rw [World.frozen?_setCell]; exact hf2
  · rw [hlen]
    have e : prFlat (Pl.tdel xs k) = (prFlat xs).take (Pl.pos xs k * 3) ++ (prFlat xs).drop ((Pl.pos xs k + 1) * 3) := by rw [e0, prFlat_append, prFlat_take, prFlat_drop]
    rw [e]
    refine ⟨hrow.1, ?_⟩
    rcases hrow.2 with h2 | ⟨b, c, cur, e1, h2, h3, h4⟩
    · exact .inl h2
    · refine .inr ⟨b, c, cur, e1, h2, (o2.block b (Array.getElem?_eq_some_iff.1 h3).1 ?_).trans h3, h4⟩
      have : Value.ownBlock (.slice a xs.length cap) = some b := by rw [← hob2, e1]; rfl
      exact (h.foot1 b this).2
  · intro c hc
    exact h.sz c ((Pl.mem_del h.srt k c).1 hc).1
  · intro g hg
    rw [hob2] at hg
    exact h.foot1 g hg
  · intro j hj
    exact Nat.lt_of_lt_of_le (h.lt j hj) (Nat.le_trans o1.size o2.size)
set_option maxRecDepth 100000 in
set_option maxHeartbeats 4000000 in
theorem delT_any {S : Nat → Bool} (hS : TabS S) (E : Nat → Addr) {w : World} (hE : Errs S E w) {F : Nat → Prop} {tb : Nat} {xs : List Pr} (h : TabAt w F tb xs) (hx : xs.length ≤ 1000000) (key : ByteArray) (hy : key.size ≤ 70368744177664) :
    Calls Tryz.prog 117 #[.pointer (some ⟨tb, 0, none⟩), .string key] w fun e w' => e = .returned (.bool (Pl.getT xs key).isSome) ∧ TabTurn w F tb (Pl.tdel xs key) w' := by
  have HE := hid hE
  have HT := hid h
  clear hE h
  by_cases hh : Pl.keyN key = 0 ∧ Pl.hasB xs key = true
  · have hg : (Pl.getT xs key).isSome = true := by unfold Pl.getT; rw [if_pos hh]; rfl
    have ha : Pl.atT xs key = ((Pl.pos xs key : Nat) : Int) := by unfold Pl.atT; rw [if_pos hh]
    have hR := hid (fun W (g : Grew w W) => atT_any hS E (HE.out.grew g) (HT.out.grew g) hx key hy)
    obtain ⟨vv, h⟩ := HT.out
    have hp := (Pl.hasB_key h.srt (Pl.ok_key hh.1) hh.2).1
    obtain ⟨a, cap, rfl, _⟩ := pairsAt_of h.row
    obtain ⟨n, hn⟩ : ∃ n, xs.length = n + 1 := ⟨xs.length - 1, by omega⟩
    have HO := hid (fun W W2 (gW : Grew w W) hrow hgr => del_end (W2 := W2) h gW key hh.1 hh.2 hn hrow hgr)
    have hfar : ∀ g, Value.ownBlock (.slice a (n + 1) cap) = some g → g < w.heap.size ∧ g ≠ tb := fun g hg => by
      have e : Value.ownBlock (.slice a xs.length cap) = some g := by rw [← hg]; cases a <;> rfl
      exact ⟨h.lt g (h.foot1 g e).1, (h.foot1 g e).2⟩
    have HFA := hid hfar
    have hrow0 := fun W (gW : Grew w W) => (h.grew gW).row
    have c0 := h.cell
    have f0 := h.fz
    rw [hn] at hrow0 c0
    have HD := hid (fun W (gW : Grew w W) => delPair W 0 n (Pl.pos xs key) a cap (prFlat xs) (hrow0 W gW) (prFlat_one' xs) (by omega) (by omega))
    have htb : tb < w.heap.size := cell_lt c0
    rw [hg]
    rw [ha] at hR
    clear hg ha hh hfar hrow0 h hn
    have hpB : Pl.pos xs key ≤ 1000000 := by omega
    generalize Pl.pos xs key = p at *
    have z1 : ¬ ((p : Int) < 0) := by omega
    have z2 : IntKind.i64.wrap ((p : Int) + 1) = (p : Int) + 1 := IntWalk.i64_in _ (by omega)
    go_enter Tryz.func117, Tryz.ntmps117
    go_wp2_with fail
    refine (hR.out _ (Grew.refl w)).mono ?_
    rintro e w1 ⟨rfl, hg1⟩
    have s1 := hg1.size
    have c0' := (hg1.cells.1 tb 0 htb).trans c0
    have f0' := (hg1.cells.2 tb 0 htb).trans f0
    clear c0 f0
    go_wp2_with fail
    refine (HD.out _ hg1).mono ?_
    rintro e w2 ⟨rfl, hrow, hgr⟩
    have HROW := hid hrow
    have HGR := hid hgr
    have n1 : ¬ some tb = Value.ownBlock (.slice a (n + 1) cap) := fun e => (HFA.out tb e.symm).2 rfl
    have d1 := ((Only.of_grownBy hgr).cell (show tb < w1.heap.size by omega) n1 0).trans c0'
    have d2 := ((Only.of_grownBy hgr).frozen (show tb < w1.heap.size by omega) n1 0).trans f0'
    clear hrow hgr n1 c0' f0'
    go_wp2_with fail
    go_ret
    exact ⟨rfl, HO.out _ _ hg1 HROW.out HGR.out⟩
  · have hg : (Pl.getT xs key).isSome = false := by unfold Pl.getT; rw [if_neg hh]; rfl
    have ha : Pl.atT xs key = -1 := by unfold Pl.atT; rw [if_neg hh]
    have hd : Pl.tdel xs key = xs := by unfold Pl.tdel; rw [if_neg hh]
    have hR := hid (fun W (g : Grew w W) => atT_any hS E (HE.out.grew g) (HT.out.grew g) hx key hy)
    rw [hg, hd]
    rw [ha] at hR
    clear hg ha hh hd
    go_enter Tryz.func117, Tryz.ntmps117
    go_wp2_with fail
    refine (hR.out _ (Grew.refl w)).mono ?_
    rintro e w1 ⟨rfl, hg1⟩
    go_wp2_with fail
    go_ret
    exact ⟨rfl, TabTurn.of_grew HT.out hg1⟩
end Go.Proofs.YtoiahcgaffffbaaGreatDoor
set_option linter.unusedVariables false
set_option linter.unusedSectionVars false
set_option linter.unusedSimpArgs false
namespace Go.Proofs.YtoiahcgaffffbaaGreatDoor
open Go.RowKit Go.Maps
attribute [local go_sem] Oper.semAt_some
theorem TabTurn.pre {w W w' : World} {F : Nat → Prop} {tb : Nat} {ys : List Pr} (h : TabTurn W F tb ys w') (g : Grew w W) : TabTurn w F tb ys w' := by
  obtain ⟨h1, F', h2, h3⟩ := h
  exact ⟨(g.only F).then h1, F', h2, fun j hj => (h3 j hj).imp id fun h => Nat.le_trans g.size h⟩
namespace Pl
def stepP (P : List Pr) (o : OpR) (v : Int) : List Pr × Bool :=
  if o.kind = 2 then (tdel P o.key, true)
  else if o.kind = 3 ∧ ((getT P o.key).isSome = false ∨ ((getT P o.key).getD Pr.none).val.toList ≠ o.old.toList) then (P, false)
  else if o.kind = 4 then (P, decide (((getT P o.key).getD Pr.none).ver = o.ver))
  else (putT P ⟨o.key, o.val, v⟩, decide (putN ⟨o.key, o.val, v⟩ = 0))
end Pl
structure OpSz (o : OpR) : Prop where
  key : o.key.size ≤ 70368744177664
  val : o.val.size ≤ 140737488351232
set_option maxRecDepth 100000 in
set_option maxHeartbeats 4000000 in
theorem step_any {S : Nat → Bool} (hS : TabS S) (E : Nat → Addr) {w : World} (hE : Errs S E w) {F : Nat → Prop} {tb : Nat} {P : List Pr} (h : TabAt w F tb P) (hx : P.length ≤ 1000000) (o : OpR) (ho : OpSz o) (v : Int) (hv : -9223372036854775808 ≤ v ∧ v < 9223372036854775808) :
    Calls Tryz.prog 125 #[.pointer (some ⟨tb, 0, none⟩), o.aggOf, .int .i64 v] w fun e w' => e = .returned (.bool (Pl.stepP P o v).2) ∧ TabTurn w F tb (Pl.stepP P o v).1 w' := by
  have HG := hid (fun W (g : Grew w W) => getTab_any hS E (hE.grew g) (h.grew g) hx o.key ho.key)
  have HD := hid (fun W (g : Grew w W) => delT_any hS E (hE.grew g) (h.grew g) hx o.key ho.key)
  have HP := hid (fun W (g : Grew w W) => putT_any hS E (hE.grew g) (h.grew g) hx o.key o.val v ho.key ho.val)
  have HT := hid h
  clear h hE ho
  generalize hR : Pl.stepP P o v = R at *
  unfold Pl.stepP at hR
  unfold OpR.aggOf OpR.vals
  obtain ⟨kind, key, val, old, ver⟩ := o
  dsimp only at *
  generalize hg : Pl.getT P key = r at *
  clear hg
  obtain ⟨Y, hY⟩ : ∃ Y, Y = w.alloc (.cells #[.int .i64 kind, .string key, .string val, .string old, .int .i64 ver] 125) := ⟨_, rfl⟩
  have gY : Grew w Y := by rw [hY]; exact (Grew.refl w).alloc _
  have hbY : w.heap.size < Y.heap.size := by rw [hY]; simp
  have c0 : Y.cell? ⟨w.heap.size, 0, none⟩ = some (.int .i64 kind) := by rw [hY]; simp [go_sem]
  have c1 : Y.cell? ⟨w.heap.size, 1, none⟩ = some (.string key) := by rw [hY]; simp [go_sem]
  have c2 : Y.cell? ⟨w.heap.size, 2, none⟩ = some (.string val) := by rw [hY]; simp [go_sem]
  have c3 : Y.cell? ⟨w.heap.size, 3, none⟩ = some (.string old) := by rw [hY]; simp [go_sem]
  have c4 : Y.cell? ⟨w.heap.size, 4, none⟩ = some (.int .i64 ver) := by rw [hY]; simp [go_sem]
  have HY := hid hY
  have HGY := hid gY
  clear hY gY
  go_enter Tryz.func125, Tryz.ntmps125
  go_wp2_with fail
  rw [← HY.out]
  refine (HG.out Y HGY.out).mono ?_
  rintro e w1 ⟨rfl, hg1⟩
  have d0 := (hg1.cells.1 _ 0 hbY).trans c0
  have d1 := (hg1.cells.1 _ 1 hbY).trans c1
  have d2 := (hg1.cells.1 _ 2 hbY).trans c2
  have d3 := (hg1.cells.1 _ 3 hbY).trans c3
  have d4 := (hg1.cells.1 _ 4 hbY).trans c4
  have hb1 := Nat.lt_of_lt_of_le hbY hg1.size
  have HG1 := hid (HGY.out.trans hg1)
  clear HG hg1 c0 c1 c2 c3 c4 hbY
  obtain ⟨is, his⟩ : ∃ is, is = r.isSome := ⟨_, rfl⟩
  obtain ⟨p, hp⟩ : ∃ p, p = r.getD Pr.none := ⟨_, rfl⟩
  rw [← his, ← hp]
  rw [← his, ← hp] at hR
  clear hp
  clear his
  obtain ⟨pk, pv, pn⟩ := p
  dsimp only [Pr.agg, Pr.vals] at hR ⊢
  have HR := hid hR
  clear hR
  obtain ⟨Z, hZ⟩ : ∃ Z, Z = w1.alloc (.cells #[.string pk, .string pv, .int .i64 pn] 83) := ⟨_, rfl⟩
  have HZ := hid hZ
  have gZ : Grew w1 Z := by rw [hZ]; exact (Grew.refl w1).alloc _
  have e0 := (gZ.cells.1 _ 0 hb1).trans d0
  have e1 := (gZ.cells.1 _ 1 hb1).trans d1
  have e2 := (gZ.cells.1 _ 2 hb1).trans d2
  have e3 := (gZ.cells.1 _ 3 hb1).trans d3
  have e4 := (gZ.cells.1 _ 4 hb1).trans d4
  have z1 : Z.cell? ⟨w1.heap.size, 1, none⟩ = some (.string pv) := by rw [hZ]; simp [go_sem]
  have z2 : Z.cell? ⟨w1.heap.size, 2, none⟩ = some (.int .i64 pn) := by rw [hZ]; simp [go_sem]
  have HGZ := hid (HG1.out.trans gZ)
  clear hZ gZ
  have HT1 := hid (TabTurn.of_grew HT.out HGZ.out)
  clear HT HG1
  by_cases k2 : kind = 2
  · subst k2
    have hR := HR.out
    rw [if_pos rfl] at hR
    subst hR
    clear HR
    go_wp2_with fail
    rw [← HZ.out]
    refine (HD.out Z HGZ.out).mono ?_
    rintro e w2 ⟨rfl, ht⟩
    have HX := hid (ht.pre HGZ.out)
    clear ht e0 e1 e2 e3 e4 z1 z2
    go_wp2_with fail
    go_ret
    exact ⟨rfl, HX.out⟩
  · by_cases k3 : kind = 3
    · subst k3
      cases is with
      | false =>
        have hR := HR.out
        rw [if_neg (by decide), if_pos ⟨rfl, .inl rfl⟩] at hR
        subst hR
        clear HR
        go_wp2_with fail
        rw [← HZ.out]
        clear e0 e1 e2 e3 e4 z1 z2
        go_wp2_with fail
        go_ret
        exact ⟨rfl, HT1.out⟩
      | true =>
        by_cases kv : pv.toList = old.toList
        · have hR := HR.out
          rw [if_neg (by decide), if_neg (by rintro ⟨_, h | h⟩; · cases h
                                             · exact h kv), if_neg (by decide)] at hR
          have hq : (pv.toList == old.toList) = true := by simpa using kv
          subst hR
          clear HR kv
          go_wp2_with fail
          rw [← HZ.out]
          refine (HP.out Z HGZ.out).mono ?_
          rintro e w2 ⟨rfl, ht⟩
          have HX := hid (ht.pre HGZ.out)
          clear ht e0 e1 e2 e3 e4 z1 z2 d0 d1 d2 d3 d4
          cases hpn : decide (Pl.putN ⟨key, val, v⟩ = 0) with
          | true =>
            rw [of_decide_eq_true hpn, errOf_zero]
            have HPN := hid hpn
            clear hpn
            go_wp2_with fail
            go_ret
            exact ⟨ret_bool HPN.out.symm, HX.out⟩
          | false =>
            rw [errOf_pos E _ (of_decide_eq_false hpn)]
            have HPN := hid hpn
            clear hpn
            go_wp2_with fail
            go_ret
            exact ⟨ret_bool HPN.out.symm, HX.out⟩
        · have hR := HR.out
          rw [if_neg (by decide), if_pos ⟨rfl, .inr kv⟩] at hR
          have hq : (pv.toList == old.toList) = false := by simpa using kv
          subst hR
          clear HR kv
          go_wp2_with fail
          rw [← HZ.out]
          clear e0 e1 e2 e3 e4 z1 z2
          go_wp2_with fail
          go_ret
          exact ⟨rfl, HT1.out⟩
    · by_cases k4 : kind = 4
      · subst k4
        have hR := HR.out
        rw [if_neg (by decide), if_neg (by simp), if_pos rfl] at hR
        subst hR
        clear HR
        go_wp2_with fail
        go_ret
        rw [← HZ.out]
        exact ⟨rfl, HT1.out⟩
      · have hR := HR.out
        rw [if_neg k2, if_neg (fun h => k3 h.1), if_neg k4] at hR
        subst hR
        clear HR
        go_wp2_with fail
        rw [← HZ.out]
        refine (HP.out Z HGZ.out).mono ?_
        rintro e w2 ⟨rfl, ht⟩
        have HX := hid (ht.pre HGZ.out)
        clear ht e0 e1 e2 e3 e4 z1 z2 d0 d1 d2 d3 d4
        cases hpn : decide (Pl.putN ⟨key, val, v⟩ = 0) with
        | true =>
          rw [of_decide_eq_true hpn, errOf_zero]
          have HPN := hid hpn
          clear hpn
          go_wp2_with fail
          go_ret
          exact ⟨ret_bool HPN.out.symm, HX.out⟩
        | false =>
          rw [errOf_pos E _ (of_decide_eq_false hpn)]
          have HPN := hid hpn
          clear hpn
          go_wp2_with fail
          go_ret
          exact ⟨ret_bool HPN.out.symm, HX.out⟩
end Go.Proofs.YtoiahcgaffffbaaGreatDoor
namespace Go.Proofs.YtoiahcgaffffbaaGreatDoor
def stS (k : Nat) : Bool := decide (k = 1) || decide (k = 2) || decide (k = 3) || decide (k = 4) || decide (k = 6) || decide (k = 7) || decide (k = 19)
theorem Errs.less {S T : Nat → Bool} {E : Nat → Addr} {w : World} (h : Errs S E w) (hT : ∀ k, T k = true → S k = true) : Errs T E w :=
  ⟨(by cases hh : T 0 with | false => rfl | true => (have := hT 0 hh; rw [h.pos] at this; cases this)), fun k hk => h.cell k (hT k hk), fun k hk => h.row k (hT k hk), fun j k hj hk => h.ne j k (hT j hj) (hT k hk)⟩
end Go.Proofs.YtoiahcgaffffbaaGreatDoor
namespace Go.Proofs.YtoiahcgaffffbaaGreatDoor
open Go.RowKit Go.Maps
attribute [local go_sem] Oper.semAt_some
def strFlat (ks : List ByteArray) : List Value := ks.map Value.string
theorem info_str : (Tryz.prog.info? 9).map (fun i => (i.zero, i.size, i.bytes)) = some (some (.string ⟨#[]⟩), 1, 16) := by kernel_rfl
theorem run_append_str {w : World} {B : Nat} {v : Value} {m : Nat} {ks : List ByteArray} (hown : w.ownsRow B 9 1 v m (strFlat ks)) (kb : Nat) (key : ByteArray) (hk : w.cell? ⟨kb, 0, none⟩ = some (.string key)) (hbig : m ≤ 1000000) (hB : B ≤ w.heap.size) (ty : TypeId) :
    ∃ v' w', (Builtin.append_ #[33, 33] ty #[v, .slice (some ⟨kb, 0, none⟩) 1 1]).run Tryz.prog w = .ok v' w' ∧ w'.ownsRow B 9 1 v' (m + 1) (strFlat (ks ++ [key])) ∧ w.grownBy w' v.ownBlock := by
  obtain ⟨i0, hi0, hz0, hz1, hz2⟩ := info_parts info_str
  obtain ⟨g, cap2, w2, h1, h2, h3, h4, h5⟩ := run_append_lies (P := Tryz.prog) (w := w) 33 ty B 9 i0 _ 1 16 Tryz.underlying33 hi0 hz0 hz1 hz2 rfl (by omega) v m (strFlat ks) hown ⟨kb, 0, none⟩ 1 1 [.string key] rfl (fun j u hj => by
    rw [Addr.add_lit]
    cases j with
    | zero => cases hj; exact hk
    | succ j => simp at hj) (fun u hu => by simp at hu; subst hu; rfl) (by omega) (by unfold maxLen; omega) (by omega) hB _ rfl
  refine ⟨_, w2, h1, ?_, h3⟩
  have e : strFlat (ks ++ [key]) = strFlat ks ++ [.string key] := by simp [strFlat]
  rw [e]
  exact h2
@[local go_sem] theorem as_splitting (v : Value) (xT : TypeId) (w : World) : (Instr.typeAssert (.iface 289 v) xT 286 true).run Tryz.prog w = .ok (.tuple #[.agg #[.int .i64 0, .int .i64 0, .int .i64 0, .string ⟨#[]⟩], .bool false]) w := by kernel_rfl
@[local go_sem] theorem as_writing (v : Value) (xT : TypeId) (w : World) : (Instr.typeAssert (.iface 289 v) xT 289 true).run Tryz.prog w = .ok (.tuple #[v, .bool true]) w := by kernel_rfl
set_option maxRecDepth 100000 in
set_option maxHeartbeats 4000000 in
theorem keysE_any {S : Nat → Bool} (hS : KeyT S) (E : Nat → Addr) (e : En) (w : World) (hE : Errs S E w) (hA : EnAt w e) (hk : e.kind = 1) (hr : Pl.rightB e = true) :
    Calls Tryz.prog 121 #[e.agg] w fun r w' => (∃ v, r = .returned v ∧ w'.ownsRow w.heap.size 9 1 v e.ops.length (strFlat (e.ops.map OpR.key))) ∧ Grew w w' := by
  have HR := hid (fun W (g : Grew w W) => rightE_any hS E e W (hE.grew g) (hA.grew g))
  rw [hr] at HR
  have HO := hid (fun W => of_any e W)
  have hrec : Pl.recV e = .iface 289 (.agg #[.int .i64 e.shard, .int .i64 e.client, .int .i64 e.seq, .slice e.opsA e.ops.length e.opsC]) := by unfold Pl.recV; rw [if_pos hk]
  rw [hrec] at HO
  have HOP := hid hA.ops
  have hfew := hA.few
  clear hE hA hr hrec hk
  unfold En.agg En.vals at *
  obtain ⟨kind, shard, other, server, client, seq, key, upto, part, parts, ops, opsA, opsC, dataA, dataL, dataC⟩ := e
  dsimp only at *
  obtain ⟨Y, hY⟩ : ∃ Y, Y = w.alloc (.cells #[.int .i64 kind, .int .i64 shard, .int .i64 other, .int .i64 server, .int .i64 client, .int .i64 seq, .slice opsA ops.length opsC, .string key, .int .i64 upto, .int .i64 part, .int .i64 parts, .slice dataA dataL dataC] 66) := ⟨_, rfl⟩
  have gY : Grew w Y := by rw [hY]; exact (Grew.refl w).alloc _
  have HY := hid hY
  have HGY := hid gY
  have hbY : w.heap.size < Y.heap.size := by rw [hY]; simp
  clear hY gY
  go_enter Tryz.func121, Tryz.ntmps121
  go_wp2_with fail
  rw [← HY.out]
  refine (HR.out Y HGY.out).mono ?_
  rintro e w1 ⟨rfl, hg1⟩
  have d0 : w1.cell? ⟨w.heap.size, 0, none⟩ = some (.int .i64 kind) := (hg1.cells.1 _ 0 hbY).trans (by rw [HY.out]; simp [go_sem])
  have d1 : w1.cell? ⟨w.heap.size, 1, none⟩ = some (.int .i64 shard) := (hg1.cells.1 _ 1 hbY).trans (by rw [HY.out]; simp [go_sem])
  have d2 : w1.cell? ⟨w.heap.size, 2, none⟩ = some (.int .i64 other) := (hg1.cells.1 _ 2 hbY).trans (by rw [HY.out]; simp [go_sem])
  have d3 : w1.cell? ⟨w.heap.size, 3, none⟩ = some (.int .i64 server) := (hg1.cells.1 _ 3 hbY).trans (by rw [HY.out]; simp [go_sem])
  have d4 : w1.cell? ⟨w.heap.size, 4, none⟩ = some (.int .i64 client) := (hg1.cells.1 _ 4 hbY).trans (by rw [HY.out]; simp [go_sem])
  have d5 : w1.cell? ⟨w.heap.size, 5, none⟩ = some (.int .i64 seq) := (hg1.cells.1 _ 5 hbY).trans (by rw [HY.out]; simp [go_sem])
  have d6 : w1.cell? ⟨w.heap.size, 6, none⟩ = some (.slice opsA ops.length opsC) := (hg1.cells.1 _ 6 hbY).trans (by rw [HY.out]; simp [go_sem])
  have d7 : w1.cell? ⟨w.heap.size, 7, none⟩ = some (.string key) := (hg1.cells.1 _ 7 hbY).trans (by rw [HY.out]; simp [go_sem])
  have d8 : w1.cell? ⟨w.heap.size, 8, none⟩ = some (.int .i64 upto) := (hg1.cells.1 _ 8 hbY).trans (by rw [HY.out]; simp [go_sem])
  have d9 : w1.cell? ⟨w.heap.size, 9, none⟩ = some (.int .i64 part) := (hg1.cells.1 _ 9 hbY).trans (by rw [HY.out]; simp [go_sem])
  have d10 : w1.cell? ⟨w.heap.size, 10, none⟩ = some (.int .i64 parts) := (hg1.cells.1 _ 10 hbY).trans (by rw [HY.out]; simp [go_sem])
  have d11 : w1.cell? ⟨w.heap.size, 11, none⟩ = some (.slice dataA dataL dataC) := (hg1.cells.1 _ 11 hbY).trans (by rw [HY.out]; simp [go_sem])
  have HG1 := hid (HGY.out.trans hg1)
  clear hg1 hbY HR
  go_wp2_with fail
  clear d0 d1 d2 d3 d4 d5 d6 d7 d8 d9 d10 d11
  refine (HO.out w1).mono ?_
  rintro e w2 ⟨rfl, hg2⟩
  have HG2 := hid (HG1.out.trans hg2)
  clear hg2 HO
  obtain ⟨X, hX⟩ : ∃ X, X = (w2.alloc (.cells #[.int .i64 0, .int .i64 0, .int .i64 0, .string ⟨#[]⟩] 286)).alloc (.cells #[.int .i64 shard, .int .i64 client, .int .i64 seq, .slice opsA ops.length opsC] 289) := ⟨_, rfl⟩
  have HX := hid hX
  have HGX := hid (show Grew w X from by rw [hX]; exact (HG2.out.alloc _).alloc _)
  clear hX
  go_wp2_with fail
  rw [← HX.out]
  go_loopw [8, 35] (fun v i wr => ∃ k : Nat, k ≤ ops.length ∧ i = .int .i64 k ∧ Hid (wr.ownsRow w.heap.size 9 1 v k (strFlat ((ops.take k).map OpR.key))) ∧ Grew w wr) (fun _ i _ => ops.length - (intOf i).toNat)
  case atStart => exact ⟨0, Nat.zero_le _, rfl, World.ownsRow_nil _ _ _ _, HGX.out⟩
  case round =>
    obtain ⟨k, hk1, rfl, HV, hG⟩ := hrel
    by_cases hlt : k < ops.length
    · rcases HOP.out with h0 | ⟨b, off, rfl, hb, hR⟩
      · rw [h0] at hlt; simp at hlt
      have q0 := (hG.cells.1 b (off + k * 5) hb).trans (hR.kind k hlt)
      have q1 := (hG.cells.1 b (off + k * 5 + 1) hb).trans (hR.key k hlt)
      have q2 := (hG.cells.1 b (off + k * 5 + 2) hb).trans (hR.val k hlt)
      have q3 := (hG.cells.1 b (off + k * 5 + 3) hb).trans (hR.old k hlt)
      have q4 := (hG.cells.1 b (off + k * 5 + 4) hb).trans (hR.ver k hlt)
      have hat : opRAt ops k = ops[k] := opRAt_eq ops k hlt
      have hnx : (ops.take (k + 1)).map OpR.key = (ops.take k).map OpR.key ++ [(opRAt ops k).key] := by
        rw [hat, List.take_succ_eq_append_getElem hlt, List.map_append]; rfl
      have HNX := hid hnx
      clear hR hat hnx
      generalize opRAt ops k = c at *
      obtain ⟨c0, c1, c2, c3, c4⟩ := c
      dsimp only at *
      have HGR := hid hG
      have gA : Grew w ((wr.alloc (.cells #[.int .i64 c0, .string c1, .string c2, .string c3, .int .i64 c4] 125)).alloc (.cells #[.string c1] 9)) := (hG.alloc _).alloc _
      obtain ⟨v', W, hrun, hown, hgb⟩ := run_append_str (w := (wr.alloc (.cells #[.int .i64 c0, .string c1, .string c2, .string c3, .int .i64 c4] 125)).alloc (.cells #[.string c1] 9)) ((World.ownsRow.alloc HV.out _).alloc _) (wr.heap.size + 1) c1 (by simp [go_sem]) (by omega) gA.size 33
      rw [← HNX.out] at hown
      have hGW : Grew w W := ((gA.only _).then (Only.of_grownBy hgb)).grew fun j hj => (HV.out.lt j hj.symm).1
      have HOWN := hid hown
      have HGW := hid hGW
      have HRUN := hid hrun
      clear gA hown hgb hGW hrun HV HNX
      go_wp2_with (at_builtin; refine Lib.wpList_append_run _ rfl _ _ _ _ rfl _ _ rfl rfl _ _ HRUN.out ?_)
      clear q0 q1 q2 q3 q4 HRUN HGR
      go_wp2_with fail
      go_roundw
      case rel => exact ⟨k + 1, by omega, by go_num, HOWN, HGW.out⟩
      case measure => simp [intOf]; omega
    · obtain rfl : k = ops.length := by omega
      go_wp2_with fail
      go_ret
      refine ⟨⟨_, rfl, ?_⟩, hG⟩
      have := HV.out
      rwa [List.take_length] at this
end Go.Proofs.YtoiahcgaffffbaaGreatDoor
