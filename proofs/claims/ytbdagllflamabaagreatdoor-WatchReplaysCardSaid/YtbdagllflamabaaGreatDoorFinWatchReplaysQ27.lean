/- DelPair, TabD, TwT, PkT, BytT, CopyT, PkC, RgnT: one text. -/
import Derived.Test.YtbdagllflamabaaGreatDoorFinWatchReplaysQ4
import Derived.IntWalk
import Derived.Test.YtbdagllflamabaaGreatDoorFinWatchReplaysQ26
import Derived.Test.YtbdagllflamabaaGreatDoorFinWatchReplaysQ19
import Derived.Test.YtbdagllflamabaaGreatDoorFinWatchReplaysQ23
import Derived.Test.YtbdagllflamabaaGreatDoorFinWatchReplaysQ25
import Derived.Deep.DeepCutAuto
import Derived.Test.YtbdagllflamabaaGreatDoorFinWatchReplaysQ12
namespace Go.Proofs.YtbdagllflamabaaGreatDoor
open Go.RowKit Go.Maps
attribute [local go_sem] Oper.semAt_some
theorem infoDPair : (Tryz.prog.info? 42).map (fun i => (i.zero, i.size, i.bytes)) = some (some (.agg #[.string ⟨#[]⟩, .string ⟨#[]⟩, .int .i64 0]), 3, 40) := by kernel_rfl
theorem zeroDPair (w : World) : (zeroValue 42).run Tryz.prog w = .ok (.agg #[.string ⟨#[]⟩, .string ⟨#[]⟩, .int .i64 0]) w := by kernel_rfl
theorem zcDPair : (Value.cells (.agg #[.string ⟨#[]⟩, .string ⟨#[]⟩, .int .i64 0])).size = 3 := by kernel_rfl
theorem zoDPair : ∀ v ∈ (Value.cells (.agg #[.string ⟨#[]⟩, .string ⟨#[]⟩, .int .i64 0])).toList, v.oneCell' = true := by
  have h : (Value.cells (.agg #[.string ⟨#[]⟩, .string ⟨#[]⟩, .int .i64 0])).toList.all (fun v => v.oneCell') = true := by kernel_rfl
  exact fun v hv => List.all_eq_true.1 h v hv
set_option maxRecDepth 100000 in
set_option maxHeartbeats 4000000 in
theorem delPair (w : World) (B q i : Nat) (a0 : Option Addr) (c0 : Nat) (xs : List Value) (h : w.ownsRow B 42 3 (.slice a0 (q + 1) c0) (q + 1) xs) (h1 : ∀ u ∈ xs, u.oneCell' = true) (hi : i ≤ q) (hbig : q ≤ 1000000) :
    Calls Tryz.prog 115 #[.slice a0 (q + 1) c0, .int .i64 i, .int .i64 ((i : Int) + 1)] w fun e w' => e = .returned (.slice a0 q c0) ∧ w'.ownsRow B 42 3 (.slice a0 q c0) q (xs.take (i * 3) ++ xs.drop ((i + 1) * 3)) ∧ w.grownBy w' (Value.ownBlock (.slice a0 (q + 1) c0)) := by
  obtain ⟨i0, hi0, hz0, hzs, hzb⟩ := info_parts infoDPair
  obtain ⟨b, c, cur, e, hBb, hb, hnc, hc, hcl, hx⟩ := ownsRow_block h (by omega)
  cases e
  subst hx
  obtain ⟨D, hD⟩ : ∃ D, D = (cur.take ((q + 1) * 3)).drop ((i + 1) * 3) := ⟨_, rfl⟩
  have hDl : D.length = (q - i) * 3 := by rw [hD]; simp; omega
  have hrun : ∀ ty a sc, (D ≠ [] → a = ⟨b, (i + 1) * 3, none⟩) → (Builtin.append_ #[36, 36] ty #[.slice (some ⟨b, 0, none⟩) i c0, .slice (some a) (q - i) sc]).run Tryz.prog w.drew = .ok (.slice (some ⟨b, 0, none⟩) q c0) (w.drew.setRow b (spl cur (i * 3) D).toArray) := fun ty a sc ha => by
    have h := run_append_room (P := Tryz.prog) w.drew 36 ty 42 i0 Tryz.underlying36 hi0 b i c0 cur.toArray hb a (q - i) sc D (by rw [hzs]; exact hDl)
      (fun j u hj => by
        have hne : D ≠ [] := fun e => by rw [e] at hj; cases hj
        rw [ha hne, Addr.add_lit]
        show w.cell? _ = _
        rw [cell_block hb]
        rw [hD, List.getElem?_drop, List.getElem?_take] at hj
        split at hj
        · exact hj
        · cases hj)
      (fun u hu => h1 u (by rw [hD] at hu; exact List.mem_of_mem_drop hu)) (by omega) (by rw [hzs, hDl]; simp; omega)
    rw [show i + (q - i) = q by omega, hzs] at h
    rw [h]
    simp [spl]
  obtain ⟨W1, hW1⟩ : ∃ W1, W1 = w.drew.setRow b (spl cur (i * 3) D).toArray := ⟨_, rfl⟩
  have hll : (spl cur (i * 3) D).length = c0 * 3 := by rw [spl_length _ _ _ (by rw [hDl]; omega), hcl]
  have hh1 : W1.heap[b]? = some (.cells (spl cur (i * 3) D).toArray 42 (0, 0)) := by rw [hW1]; exact setRow_heap w.drew b _ _ _ _ hb
  rw [← hW1] at hrun
  have hclr : ∀ ty sc, (Builtin.clear_ #[36] ty #[.slice (some ⟨b, q * 3, none⟩) 1 sc]).run Tryz.prog W1 = .ok (.tuple #[]) (W1.setRow b (spl (spl cur (i * 3) D) (q * 3) (Builtin.zeroCells (Value.cells (.agg #[.string ⟨#[]⟩, .string ⟨#[]⟩, .int .i64 0])) 1).toList).toArray) := fun ty sc =>
    run_clear_rowK W1 36 42 ty _ 3 Tryz.underlying36 zeroDPair zcDPair zoDPair b (q * 3) sc _ 42 hh1 (by rw [hll]; omega)
  obtain ⟨Z, hZ⟩ : ∃ Z, Z = (Builtin.zeroCells (Value.cells (.agg #[.string ⟨#[]⟩, .string ⟨#[]⟩, .int .i64 0])) 1).toList := ⟨_, rfl⟩
  have hZl : Z.length = 3 := by rw [hZ, Array.length_toList, size_zeroCells, zcDPair]
  rw [← hZ] at hclr
  obtain ⟨W2, hW2⟩ : ∃ W2, W2 = W1.setRow b (spl (spl cur (i * 3) D) (q * 3) Z).toArray := ⟨_, rfl⟩
  rw [← hW2] at hclr
  have HEND : Hid (W2.ownsRow B 42 3 (.slice (some ⟨b, 0, none⟩) q c0) q ((cur.take ((q + 1) * 3)).take (i * 3) ++ (cur.take ((q + 1) * 3)).drop ((i + 1) * 3)) ∧ w.grownBy W2 (some b)) := by
    refine ⟨ownsRow_of_block (cur := spl (spl cur (i * 3) D) (q * 3) Z) hBb (by rw [hW2]; exact setRow_heap _ _ _ _ _ _ hh1) (by omega) hc (by rw [spl_length _ _ _ (by rw [hZl, hll]; omega), hll]) ?_, ?_⟩
    · rw [spl_take_le _ _ _ _ (Nat.le_refl _) (by rw [hll]; omega), show q * 3 = i * 3 + D.length by rw [hDl]; omega, spl_take _ _ _ (by omega), hD, List.take_take]
      congr 2
      omega
    · have g1 : w.grownBy W1 (some b) := by rw [hW1]; exact (show w.grownBy w.drew (some b) from ⟨rfl, rfl, rfl, Nat.le_refl _, fun _ _ _ => rfl⟩).trans (grownBy_setRow w.drew b _)
      rw [hW2]; exact g1.trans (grownBy_setRow W1 b _)
  have HRUN := hid hrun
  have hDn : c0 = i + 1 → D = [] := fun e => List.eq_nil_of_length_eq_zero (by rw [hDl]; omega)
  have HDN := hid hDn
  have z1 : ((i : Int) == (i : Int) + 1) = false := beq_eq_false_iff_ne.2 (by omega)
  have z2 : (0 : Int) ≤ (i : Int) + 1 := by omega
  have z3 : ((i : Int) + 1).toNat = i + 1 := by omega
  have z4 : (i : Int) + 1 ≤ (q : Int) + 1 := by omega
  have z5 : (i : Int) ≤ (i : Int) + 1 := by omega
  have z6 : q + 1 ≤ c0 := hnc
  have z7 : ¬ (c0 = q) := by omega
  have z8 : ¬ (c0 = i) := by omega
  have z9 : (i : Int) ≤ (c0 : Int) := by omega
  have z10 : i ≤ q + 1 := by omega
  have z11 : i ≤ c0 := by omega
  have z12 : ¬ ((i : Int) = (i : Int) + 1) := by omega
  clear hrun hDn hDl hD hW1 hll hh1 hZ hZl hW2 hb hcl h h1 hnc
  by_cases hci : c0 = i + 1
  · obtain rfl : i = q := by omega
    subst hci
    have hr0 : ∀ ty sc, (Builtin.append_ #[36, 36] ty #[.slice (some ⟨b, 0, none⟩) i (i + 1), .slice (some ⟨b, 0, none⟩) 0 sc]).run Tryz.prog w.drew = .ok (.slice (some ⟨b, 0, none⟩) i (i + 1)) W1 := fun ty sc => by
      have := HRUN.out ty ⟨b, 0, none⟩ sc (fun hne => absurd (HDN.out rfl) hne)
      rwa [Nat.sub_self] at this
    clear HRUN HDN
    go_enter Tryz.func115, Tryz.ntmps115
    go_wp2_with fail
    go_region_law (refine step_append_run rfl (.tmp 22) (.tmp 25) 36 36 rfl (.slice (some ⟨b, 0, none⟩) i (i + 1)) (.slice (some ⟨b, 0, none⟩) 0 0) (by simp [Act.eval, Act.put]) (by simp [Act.eval, Act.put]) (hr0 _ _) ?_)
    go_wp2_with fail
    go_ret
    exact ⟨rfl, HEND.out⟩
  · have hr0 : ∀ ty sc, (Builtin.append_ #[36, 36] ty #[.slice (some ⟨b, 0, none⟩) i c0, .slice (some ⟨b, (i + 1) * 3, none⟩) (q - i) sc]).run Tryz.prog w.drew = .ok (.slice (some ⟨b, 0, none⟩) q c0) W1 := fun ty sc => HRUN.out ty ⟨b, (i + 1) * 3, none⟩ sc (fun _ => rfl)
    clear HRUN HDN
    go_enter Tryz.func115, Tryz.ntmps115
    go_wp2_with fail
    go_region_law (refine step_append_run rfl (.tmp 22) (.tmp 25) 36 36 rfl (.slice (some ⟨b, 0, none⟩) i c0) (.slice (some ⟨b, (i + 1) * 3, none⟩) (q - i) (c0 - (i + 1))) (by simp [Act.eval, Act.put]) (by simp [Act.eval, Act.put]) (hr0 _ _) ?_)
    go_wp2_with fail
    go_ret
    exact ⟨rfl, HEND.out⟩
end Go.Proofs.YtbdagllflamabaaGreatDoor
namespace Go.Proofs.YtbdagllflamabaaGreatDoor
open Go.RowKit Go.Maps
attribute [local go_sem] Oper.semAt_some
theorem del_end {w W W2 : World} {F : Nat → Prop} {tb : Nat} {a : Option Addr} {n cap : Nat} {xs : List Pr} (h : TableIs w F tb (.slice a xs.length cap) xs) (gW : Grew w W) (k : ByteArray) (hk : Pl.keyN k = 0) (hb : Pl.hasB xs k = true) (hn : xs.length = n + 1)
    (hrow : W2.ownsRow 0 42 3 (.slice a n cap) n ((prFlat xs).take (Pl.pos xs k * 3) ++ (prFlat xs).drop ((Pl.pos xs k + 1) * 3))) (hgr : W.grownBy W2 (Value.ownBlock (.slice a (n + 1) cap))) :
    TabTurn w F tb (Pl.tdel xs k) (W2.setCell ⟨tb, 0, none⟩ (.slice a n cap)) := by
  have hpl := (Pl.hasB_key h.srt (Pl.ok_key hk) hb).1
  have e0 : Pl.tdel xs k = xs.take (Pl.pos xs k) ++ xs.drop (Pl.pos xs k + 1) := by unfold Pl.tdel; rw [if_pos ⟨hk, hb⟩]
  have hlen : (Pl.tdel xs k).length = n := by
    rw [e0]; simp only [List.length_append, List.length_take, List.length_drop]; omega
  have htb : tb < w.heap.size := cell_lt h.cell
  have hob : Value.ownBlock (.slice a (n + 1) cap) = Value.ownBlock (.slice a xs.length cap) := by cases a <;> rfl
  rw [hob] at hgr
  have hob2 : Value.ownBlock (.slice a n cap) = Value.ownBlock (.slice a xs.length cap) := by cases a <;> rfl
  have o1 : Only (fun j => some j = Value.ownBlock (.slice a xs.length cap)) w W2 := (gW.only _).then (Only.of_grownBy hgr)
  have htb2 : tb < W2.heap.size := Nat.lt_of_lt_of_le htb o1.size
  have hc2 : W2.cell? ⟨tb, 0, none⟩ = some (.slice a xs.length cap) := (o1.cell htb (fun e => (h.foot1 tb e.symm).2 rfl) 0).trans h.cell
  have hf2 : W2.frozen? ⟨tb, 0, none⟩ = false := (o1.frozen htb (fun e => (h.foot1 tb e.symm).2 rfl) 0).trans h.fz
  have o2 := Only.setCell W2 ⟨tb, 0, none⟩ (.slice a n cap)
  refine ⟨(o1.mono fun j hj => .inl (h.foot1 j hj.symm).1).then (o2.mono fun j hj => .inl (by subst hj; exact h.foot0)), F, ⟨.slice a n cap, ⟨?_, ?_, ?_, Pl.srt_del h.srt k, ?_, h.foot0, ?_, ?_⟩⟩, fun j => .inl⟩
  · simp [World.cell?_setCell_same, hc2]
  · rw [World.frozen?_setCell]; exact hf2
  · rw [hlen]
    have e : prFlat (Pl.tdel xs k) = (prFlat xs).take (Pl.pos xs k * 3) ++ (prFlat xs).drop ((Pl.pos xs k + 1) * 3) := by rw [e0, prFlat_append, prFlat_take, prFlat_drop]
    rw [e]
    refine ⟨hrow.1, ?_⟩
    rcases hrow.2 with h2 | ⟨b, c, cur, e1, h2, h3, h4⟩
    · exact .inl h2
    · refine .inr ⟨b, c, cur, e1, h2, (o2.block b (Array.getElem?_eq_some_iff.1 h3).1 ?_).trans h3, h4⟩
      have : Value.ownBlock (.slice a xs.length cap) = some b := by rw [← hob2, e1]; rfl
      exact (h.foot1 b this).2
  · intro c hc
    exact h.sz c ((Pl.mem_del h.srt k c).1 hc).1
  · intro g hg
    rw [hob2] at hg
    exact h.foot1 g hg
  · intro j hj
    exact Nat.lt_of_lt_of_le (h.lt j hj) (Nat.le_trans o1.size o2.size)
set_option maxRecDepth 100000 in
set_option maxHeartbeats 4000000 in
theorem delT_any {S : Nat → Bool} (hS : TabS S) (E : Nat → Addr) {w : World} (hE : Errs S E w) {F : Nat → Prop} {tb : Nat} {xs : List Pr} (h : TabAt w F tb xs) (hx : xs.length ≤ 1000000) (key : ByteArray) (hy : key.size ≤ 70368744177664) :
    Calls Tryz.prog 67 #[.pointer (some ⟨tb, 0, none⟩), .string key] w fun e w' => e = .returned (.bool (Pl.getT xs key).isSome) ∧ TabTurn w F tb (Pl.tdel xs key) w' := by
  have HE := hid hE
  have HT := hid h
  clear hE h
  by_cases hh : Pl.keyN key = 0 ∧ Pl.hasB xs key = true
  · have hg : (Pl.getT xs key).isSome = true := by unfold Pl.getT; rw [if_pos hh]; rfl
    have ha : Pl.atT xs key = ((Pl.pos xs key : Nat) : Int) := by unfold Pl.atT; rw [if_pos hh]
    have hR := hid (fun W (g : Grew w W) => atT_any hS E (HE.out.grew g) (HT.out.grew g) hx key hy)
    obtain ⟨vv, h⟩ := HT.out
    have hp := (Pl.hasB_key h.srt (Pl.ok_key hh.1) hh.2).1
    obtain ⟨a, cap, rfl, _⟩ := pairsAt_of h.row
    obtain ⟨n, hn⟩ : ∃ n, xs.length = n + 1 := ⟨xs.length - 1, by omega⟩
    have HO := hid (fun W W2 (gW : Grew w W) hrow hgr => del_end (W2 := W2) h gW key hh.1 hh.2 hn hrow hgr)
    have hfar : ∀ g, Value.ownBlock (.slice a (n + 1) cap) = some g → g < w.heap.size ∧ g ≠ tb := fun g hg => by
      have e : Value.ownBlock (.slice a xs.length cap) = some g := by rw [← hg]; cases a <;> rfl
      exact ⟨h.lt g (h.foot1 g e).1, (h.foot1 g e).2⟩
    have HFA := hid hfar
    have hrow0 := fun W (gW : Grew w W) => (h.grew gW).row
    have c0 := h.cell
    have f0 := h.fz
    rw [hn] at hrow0 c0
    have HD := hid (fun W (gW : Grew w W) => delPair W 0 n (Pl.pos xs key) a cap (prFlat xs) (hrow0 W gW) (prFlat_one' xs) (by omega) (by omega))
    have htb : tb < w.heap.size := cell_lt c0
    rw [hg]
    rw [ha] at hR
    clear hg ha hh hfar hrow0 h hn
    have hpB : Pl.pos xs key ≤ 1000000 := by omega
    generalize Pl.pos xs key = p at *
    have z1 : ¬ ((p : Int) < 0) := by omega
    have z2 : IntKind.i64.wrap ((p : Int) + 1) = (p : Int) + 1 := IntWalk.i64_in _ (by omega)
    go_enter Tryz.func67, Tryz.ntmps67
    go_wp2_with fail
    refine (hR.out _ (Grew.refl w)).mono ?_
    rintro e w1 ⟨rfl, hg1⟩
    have s1 := hg1.size
    have c0' := (hg1.cells.1 tb 0 htb).trans c0
    have f0' := (hg1.cells.2 tb 0 htb).trans f0
    clear c0 f0
    go_wp2_with fail
    refine (HD.out _ hg1).mono ?_
    rintro e w2 ⟨rfl, hrow, hgr⟩
    have HROW := hid hrow
    have HGR := hid hgr
    have n1 : ¬ some tb = Value.ownBlock (.slice a (n + 1) cap) := fun e => (HFA.out tb e.symm).2 rfl
    have d1 := ((Only.of_grownBy hgr).cell (show tb < w1.heap.size by omega) n1 0).trans c0'
    have d2 := ((Only.of_grownBy hgr).frozen (show tb < w1.heap.size by omega) n1 0).trans f0'
    clear hrow hgr n1 c0' f0'
    go_wp2_with fail
    go_ret
    exact ⟨rfl, HO.out _ _ hg1 HROW.out HGR.out⟩
  · have hg : (Pl.getT xs key).isSome = false := by unfold Pl.getT; rw [if_neg hh]; rfl
    have ha : Pl.atT xs key = -1 := by unfold Pl.atT; rw [if_neg hh]
    have hd : Pl.tdel xs key = xs := by unfold Pl.tdel; rw [if_neg hh]
    have hR := hid (fun W (g : Grew w W) => atT_any hS E (HE.out.grew g) (HT.out.grew g) hx key hy)
    rw [hg, hd]
    rw [ha] at hR
    clear hg ha hh hd
    go_enter Tryz.func67, Tryz.ntmps67
    go_wp2_with fail
    refine (hR.out _ (Grew.refl w)).mono ?_
    rintro e w1 ⟨rfl, hg1⟩
    go_wp2_with fail
    go_ret
    exact ⟨rfl, TabTurn.of_grew HT.out hg1⟩
end Go.Proofs.YtbdagllflamabaaGreatDoor
set_option linter.unusedVariables false
set_option linter.unusedSimpArgs false
namespace Go.Proofs.YtbdagllflamabaaGreatDoor
namespace Pl
structure Tt (P D : List Pr) : Prop where
  srt : Srt P
  ap : D.Pairwise fun a b => a.key ≠ b.key
  mem : ∀ c, c ∈ D ↔ c ∈ P
theorem Tt.nil : Tt [] [] := ⟨srt_nil, by simp, fun c => Iff.rfl⟩
theorem cmp_self {k : ByteArray} : ¬ compare k k < 0 := fun h => compare_asymm h h
theorem srt_ap {P : List Pr} (h : Srt P) : P.Pairwise fun a b => a.key ≠ b.key := h.rise.imp fun {a b} hab e => by rw [e] at hab; exact cmp_self hab
theorem nodup_of_ap {D : List Pr} (h : D.Pairwise fun a b => a.key ≠ b.key) : D.Nodup := h.imp fun {a b} hab e => hab (by rw [e])
theorem Tt.perm {P D : List Pr} (h : Tt P D) : P.Perm D := (List.perm_ext_iff_of_nodup (nodup_of_ap (srt_ap h.srt)) (nodup_of_ap h.ap)).2 fun c => (h.mem c).symm
theorem Tt.len {P D : List Pr} (h : Tt P D) : P.length = D.length := h.perm.length_eq
theorem Tt.key {P D : List Pr} (h : Tt P D) : ∀ c ∈ D, keyN c.key = 0 := fun c hc => h.srt.key c ((h.mem c).1 hc)
theorem Tt.sorted {P D zs : List Pr} (h : Tt P D) (hp : zs.Perm D) (hs : Srt zs) : zs = P :=
  join_self h.srt (hp.trans h.perm.symm) (hs.rise.imp fun hab => compare_asymm hab)
theorem ap_erase {D : List Pr} (h : D.Pairwise fun a b => a.key ≠ b.key) (k : ByteArray) : (D.eraseP (isK k)).Pairwise fun a b => a.key ≠ b.key := h.sublist List.eraseP_sublist
theorem mem_erase {D : List Pr} (h : D.Pairwise fun a b => a.key ≠ b.key) (k : ByteArray) (c : Pr) : c ∈ D.eraseP (isK k) ↔ c ∈ D ∧ c.key ≠ k := by
  induction D with
  | nil => simp
  | cons d D ih =>
    rw [List.pairwise_cons] at h
    by_cases hd : isK k d = true
    · rw [List.eraseP_cons_of_pos hd]
      have hk := (isK_iff k d).1 hd
      constructor
      · intro hc
        exact ⟨List.mem_cons_of_mem _ hc, fun e => h.1 c hc (by rw [hk, e])⟩
      · rintro ⟨hc, hn⟩
        rcases List.mem_cons.1 hc with rfl | hc
        · exact (hn hk).elim
        · exact hc
    · rw [List.eraseP_cons_of_neg hd, List.mem_cons, ih h.2, List.mem_cons]
      have hk : d.key ≠ k := fun e => hd ((isK_iff k d).2 e)
      constructor
      · rintro (rfl | ⟨hc, hn⟩)
        · exact ⟨.inl rfl, hk⟩
        · exact ⟨.inr hc, hn⟩
      · rintro ⟨rfl | hc, hn⟩
        · exact .inl rfl
        · exact .inr ⟨hc, hn⟩
theorem Tt.del {P D : List Pr} (h : Tt P D) (k : ByteArray) : Tt (tdel P k) (D.eraseP (isK k)) :=
  ⟨srt_del h.srt k, ap_erase h.ap k, fun c => by rw [mem_erase h.ap, mem_del h.srt, h.mem]⟩
theorem Tt.put {P D : List Pr} (h : Tt P D) (p : Pr) : Tt (putT P p) (put21 D p) := by
  unfold putT put21
  by_cases hn : putN p = 0
  · rw [if_pos hn, if_pos hn]
    have hp := (putN_zero hn).1
    refine ⟨srt_put h.srt hp, ?_, fun c => ?_⟩
    · rw [List.pairwise_append]
      refine ⟨ap_erase h.ap _, by simp, fun a ha b hb => ?_⟩
      rw [List.mem_singleton] at hb
      subst hb
      exact ((mem_erase h.ap _ a).1 ha).2
    · rw [List.mem_append, List.mem_singleton, mem_erase h.ap, mem_put h.srt hp, h.mem]
      exact Or.comm
  · rw [if_neg hn, if_neg hn]; exact h
theorem find_key {D : List Pr} (h : D.Pairwise fun a b => a.key ≠ b.key) (k : ByteArray) (c : Pr) : D.find? (isK k) = some c ↔ c ∈ D ∧ c.key = k := by
  induction D with
  | nil => simp
  | cons d D ih =>
    rw [List.pairwise_cons] at h
    by_cases hd : isK k d = true
    · rw [List.find?_cons_of_pos hd, Option.some.injEq]
      have hk := (isK_iff k d).1 hd
      constructor
      · rintro rfl; exact ⟨List.mem_cons_self, hk⟩
      · rintro ⟨hc, hn⟩
        rcases List.mem_cons.1 hc with rfl | hc
        · rfl
        · exact (h.1 c hc (by rw [hk, hn])).elim
    · rw [List.find?_cons_of_neg hd, ih h.2, List.mem_cons]
      have hk : d.key ≠ k := fun e => hd ((isK_iff k d).2 e)
      constructor
      · rintro ⟨hc, hn⟩; exact ⟨.inr hc, hn⟩
      · rintro ⟨rfl | hc, hn⟩
        · exact (hk hn).elim
        · exact ⟨hc, hn⟩
theorem Tt.find {P D : List Pr} (h : Tt P D) (k : ByteArray) : P.find? (isK k) = D.find? (isK k) := by
  apply Option.ext
  intro c
  rw [find_key (srt_ap h.srt), find_key h.ap, h.mem]
theorem Tt.get {P D : List Pr} (h : Tt P D) (k : ByteArray) : getT P k = D.find? (isK k) := by
  cases hf : D.find? (isK k) with
  | some c =>
    obtain ⟨hc, rfl⟩ := (find_key h.ap k c).1 hf
    exact getT_mem h.srt ((h.mem c).1 hc)
  | none =>
    refine getT_none h.srt fun c hc e => ?_
    have := (find_key h.ap k c).2 ⟨(h.mem c).2 hc, e⟩
    rw [hf] at this
    cases this
theorem mem_take_pos {P : List Pr} (h : Srt P) {k : ByteArray} (hk : Ok k) (c : Pr) : c ∈ P.take (pos P k) ↔ c ∈ P ∧ compare c.key k < 0 := by
  constructor
  · intro hc
    exact ⟨List.mem_of_mem_take hc, take_pos h hk c hc⟩
  · rintro ⟨hc, hlt⟩
    obtain ⟨j, hj, rfl⟩ := List.getElem_of_mem hc
    have := (pos_iff hk h j hj).1 (by rw [prAt_eq P j hj]; exact hlt)
    rw [List.mem_take_iff_getElem]
    exact ⟨j, by omega, rfl⟩
theorem mem_drop_pos {P : List Pr} (h : Srt P) {k : ByteArray} (hk : Ok k) (c : Pr) : c ∈ P.drop (pos P k) ↔ c ∈ P ∧ ¬ compare c.key k < 0 := by
  constructor
  · intro hc
    obtain ⟨j, hj, rfl⟩ := List.mem_drop_iff_getElem.1 hc
    refine ⟨List.getElem_mem _, fun hlt => ?_⟩
    have := (pos_iff hk h (pos P k + j) (by omega)).1 (by rw [prAt_eq P _ (by omega)]; exact hlt)
    omega
  · rintro ⟨hc, hlt⟩
    obtain ⟨j, hj, rfl⟩ := List.getElem_of_mem hc
    have hge : ¬ j < pos P k := fun hh => hlt (by have := (pos_iff hk h j hj).2 hh; rwa [prAt_eq P j hj] at this)
    rw [List.mem_drop_iff_getElem]
    exact ⟨j - pos P k, by omega, by congr 1; omega⟩
theorem Tt.cut {P D : List Pr} (h : Tt P D) (k : ByteArray) : Tt (P.take (cutN P k)) (D.filter fun p => !cutB k p) ∧ Tt (P.drop (cutN P k)) (D.filter (cutB k)) := by
  by_cases hr : right k = true
  · have hk := right_ok hr
    have hc : ∀ c ∈ D, cutB k c = !decide (compare c.key k < 0) := fun c hc => by
      unfold cutB
      rw [hr, compare_lt c.key k (ok_key (h.key c hc)) hk]; rfl
    have hn : cutN P k = pos P k := by unfold cutN; rw [if_pos hr]
    rw [hn]
    refine ⟨⟨srt_take h.srt _, h.ap.sublist List.filter_sublist, fun c => ?_⟩, ⟨srt_drop h.srt _, h.ap.sublist List.filter_sublist, fun c => ?_⟩⟩
    · rw [List.mem_filter, mem_take_pos h.srt hk, ← h.mem]
      constructor
      · rintro ⟨h1, h2⟩; rw [hc c h1] at h2; exact ⟨h1, by simpa using h2⟩
      · rintro ⟨h1, h2⟩; exact ⟨h1, by rw [hc c h1]; simpa using h2⟩
    · rw [List.mem_filter, mem_drop_pos h.srt hk, ← h.mem]
      constructor
      · rintro ⟨h1, h2⟩; rw [hc c h1] at h2; exact ⟨h1, by simpa using h2⟩
      · rintro ⟨h1, h2⟩; exact ⟨h1, by rw [hc c h1]; simpa using h2⟩
  · have hr' : right k = false := by simpa using hr
    have hc : ∀ c, cutB k c = false := fun c => by unfold cutB; rw [hr']; rfl
    have hn : cutN P k = P.length := by unfold cutN; rw [if_neg hr]
    rw [hn, List.take_length, List.drop_length]
    have e1 : (D.filter fun p => !cutB k p) = D := List.filter_eq_self.2 fun c _ => by rw [hc]; rfl
    have e2 : D.filter (cutB k) = [] := List.filter_eq_nil_iff.2 fun c _ => by rw [hc]; simp
    rw [e1, e2]
    exact ⟨h, Tt.nil⟩
theorem put21_len (xs : List Pr) (p : Pr) : (put21 xs p).length ≤ xs.length + 1 := by
  unfold put21; split
  · have := List.length_eraseP_le (l := xs) (p := isK p.key); simp only [List.length_append, List.length_cons, List.length_nil]; omega
  · omega
end Pl
end Go.Proofs.YtbdagllflamabaaGreatDoor
namespace Go.Proofs.YtbdagllflamabaaGreatDoor
namespace Pl
theorem enc_le4 (c : Nat) : (enc c).length ≤ 4 := by
  unfold enc
  repeat' split
  all_goals simp
theorem runes_cover : ∀ (n : Nat) (l : List UInt8) (r : List Nat), l.length ≤ n → runes l = some r → l.length ≤ 4 * r.length := by
  intro n
  induction n with
  | zero =>
    intro l r hl h
    omega
  | succ n ih =>
    intro l r hl h
    by_cases e : l = []
    · subst e; simp
    · rw [runes_step l e] at h
      cases hs : step1 l with
      | none => rw [hs] at h; cases h
      | some d =>
        rw [hs] at h
        simp only [Option.bind_some, Option.map_eq_some_iff] at h
        obtain ⟨t, ht, rfl⟩ := h
        obtain ⟨c, w⟩ := d
        have hp := step1_pos l e c w hs
        have h4 : w ≤ 4 := by have := (step1_enc l e c w hs).2.1; rw [this]; exact enc_le4 c
        have := ih (l.drop w) t (by simp; omega) ht
        simp at this ⊢
        omega
theorem key_size {k : ByteArray} (h : keyN k = 0) : k.size ≤ 96 := by
  unfold keyN at h
  split at h
  · cases h
  · next l hl =>
    have := runes_cover _ _ _ (Nat.le_refl _) hl
    have hs : k.size = k.data.toList.length := by rw [Array.length_toList]; rfl
    unfold keyL at h
    split at h
    · cases h
    · split at h
      · cases h
      · omega
def Good (P : List Pr) : Prop := ∀ c ∈ P, putN c = 0
theorem good_nil : Good [] := fun c h => by cases h
theorem Good.sub {P Q : List Pr} (h : Good P) (hs : Q.Sublist P) : Good Q := fun c hc => h c (hs.subset hc)
theorem Good.take {P : List Pr} (h : Good P) (k : Nat) : Good (P.take k) := h.sub (List.take_sublist k P)
theorem Good.drop {P : List Pr} (h : Good P) (k : Nat) : Good (P.drop k) := h.sub (List.drop_sublist k P)
theorem tdel_sub (P : List Pr) (k : ByteArray) : (tdel P k).Sublist P := by
  unfold tdel
  split
  · have h1 : (P.take (pos P k) ++ P.drop (pos P k + 1)).Sublist (P.take (pos P k) ++ P.drop (pos P k)) :=
      List.Sublist.append (List.Sublist.refl _) (by rw [← List.drop_drop]; exact List.drop_sublist 1 _)
    rwa [List.take_append_drop] at h1
  · exact List.Sublist.refl _
theorem Good.del {P : List Pr} (h : Good P) (k : ByteArray) : Good (tdel P k) := h.sub (tdel_sub P k)
theorem Good.put {P : List Pr} (h : Good P) (p : Pr) : Good (putT P p) := by
  unfold putT
  split
  · next hp =>
    intro c hc
    unfold tput at hc
    rw [List.mem_append, List.mem_append] at hc
    rcases hc with (hc | hc) | hc
    · exact h c (List.mem_of_mem_take hc)
    · rw [List.mem_singleton.1 hc]; exact hp
    · exact h c (List.mem_of_mem_drop hc)
  · exact h
theorem putT_len (P : List Pr) (p : Pr) : (putT P p).length ≤ P.length + 1 := by
  unfold putT; split
  · exact tput_length P p
  · omega
end Pl
end Go.Proofs.YtbdagllflamabaaGreatDoor
set_option linter.unusedSectionVars false
namespace Go.Proofs.YtbdagllflamabaaGreatDoor
open Go.RowKit Go.Maps
attribute [local go_sem] Oper.semAt_some
end Go.Proofs.YtbdagllflamabaaGreatDoor
namespace Go.Proofs.YtbdagllflamabaaGreatDoor
open Go.RowKit Go.Maps
attribute [local go_sem] Oper.semAt_some
set_option maxRecDepth 100000 in
set_option maxHeartbeats 1000000 in
theorem copyT_any {w : World} {F : Nat → Prop} {tb : Nat} {xs : List Pr} (h : TabAt w F tb xs) (hx : xs.length ≤ 1000000) :
    Calls Tryz.prog 92 #[.pointer (some ⟨tb, 0, none⟩)] w fun e w' => (∃ cb Fc, e = .returned (.pointer (some ⟨cb, 0, none⟩)) ∧ TabAt w' Fc cb xs ∧ ∀ j, Fc j → w.heap.size ≤ j) ∧ Grew w w' := by
  have HS := hid (tabAt_srt h)
  have HZ := hid (tabAt_sz h)
  obtain ⟨v, h⟩ := h
  obtain ⟨a, cap, rfl, hA⟩ := pairsAt_of h.row
  have c0 := h.cell
  have htb := cell_lt c0
  have HCL := hid (cloneP_any w a xs.length cap xs rfl hA (slForm_of h.row) hx)
  clear h hA
  go_enter Tryz.func92, Tryz.ntmps92
  go_wp2_with fail
  refine HCL.out.mono ?_
  rintro e w1 ⟨a', c', rfl, hrow, hg⟩
  have HF : Hid ((∃ Fc, TabAt (w1.alloc (.cells #[.slice a' xs.length c'] 123)) Fc w1.heap.size xs ∧ ∀ j, Fc j → w.heap.size ≤ j) ∧ Grew w (w1.alloc (.cells #[.slice a' xs.length c'] 123))) := by
    have hG : Grew w1 (w1.alloc (.cells #[.slice a' xs.length c'] 123)) := (Grew.refl w1).alloc _
    refine ⟨⟨_, tabAt_mk (by simp [go_sem]) (by simp [go_sem]) (ownsRow_grew hG hrow) (.inr fun g hg' => ?_) HS.out HZ.out, fun j hj => ?_⟩, hg.trans hG⟩
    · have := (hrow.lt g hg').2; omega
    · rcases hj with rfl | ⟨_, hj⟩
      · exact hg.size
      · exact hj
  clear hrow
  go_wp2_with fail
  go_ret
  obtain ⟨⟨Fc, h1, h2⟩, h3⟩ := HF.out
  exact ⟨⟨_, Fc, rfl, h1, h2⟩, h3⟩
end Go.Proofs.YtbdagllflamabaaGreatDoor
namespace Go.Proofs.YtbdagllflamabaaGreatDoor
open Go.RowKit Go.Maps
attribute [local go_sem] Oper.semAt_some
end Go.Proofs.YtbdagllflamabaaGreatDoor
namespace Go.Proofs.YtbdagllflamabaaGreatDoor
open Go.RowKit Go.Maps
structure JT (vs : Nat → Option Value) (od : List (Nat × Nat)) (s : Nat) (R0 R1 : World → Prop) (X : Nat → Option (World → Value → Prop)) (L : Nat → Bool) (f : Nat → Value) (x : World) : Prop where
  val : ∀ i v, L i = true → vs i = some v → f i = v
  ord : ∀ p ∈ od, L p.1 = true → L p.2 = true
  a : L s = false → R0 x
  d : L s = true → R1 x
  ex : ∀ i p, X i = some p → L i = true → p x (f i)
  xo : ∀ i p, X i = some p → L i = true → L s = true
structure StT (R0 R1 : World → Prop) (X : Nat → Option (World → Value → Prop)) : Prop where
  r0 : ∀ x x', Grew x x' → R0 x → R0 x'
  r1 : ∀ x x', Grew x x' → R1 x → R1 x'
  x : ∀ i p, X i = some p → ∀ x x' v, Grew x x' → p x v → p x' v
section
variable {vs : Nat → Option Value} {od : List (Nat × Nat)} {s : Nat} {R0 R1 : World → Prop} {X : Nat → Option (World → Value → Prop)} {L : Nat → Bool} {f : Nat → Value} {x x' : World}
theorem JT.start (h : R0 x) : JT vs od s R0 R1 X (fun _ => false) f x :=
  ⟨fun _ _ h => (by cases h), fun _ _ h => (by cases h), fun _ => h, fun h => (by cases h), fun _ _ _ h => (by cases h), fun _ _ _ h => (by cases h)⟩
theorem JT.more (st : StT R0 R1 X) (h : JT vs od s R0 R1 X L f x) (g : Grew x x') : JT vs od s R0 R1 X L f x' :=
  ⟨h.val, h.ord, fun hl => st.r0 _ _ g (h.a hl), fun hl => st.r1 _ _ g (h.d hl), fun i p hp hl => st.x i p hp _ _ _ g (h.ex i p hp hl), h.xo⟩
theorem plus_ne {L : Nat → Bool} {i j : Nat} (h : j ≠ i) : plus L i j = L j := by simp only [plus, if_neg h]
theorem plus_on {L : Nat → Bool} {i : Nat} : plus L i i = true := by simp [plus]
theorem plus_up {L : Nat → Bool} {i j : Nat} (h : L j = true) : plus L i j = true := by simp only [plus]; split; rfl; exact h
theorem ord_plus {od : List (Nat × Nat)} {L : Nat → Bool} {i : Nat} (h : ∀ p ∈ od, L p.1 = true → L p.2 = true) (ho : ∀ p ∈ od, p.1 = i → L p.2 = true) : ∀ p ∈ od, plus L i p.1 = true → plus L i p.2 = true := by
  intro p hp hl
  by_cases hi : p.1 = i
  · exact plus_up (ho p hp hi)
  · rw [plus_ne hi] at hl; exact plus_up (h p hp hl)
theorem val_plus {vs : Nat → Option Value} {L : Nat → Bool} {f : Nat → Value} {i : Nat} {v : Value} (h : ∀ i v, L i = true → vs i = some v → f i = v) (hv : ∀ u, vs i = some u → v = u) : ∀ j u, plus L i j = true → vs j = some u → updV f i v j = u := by
  intro j u hl hu
  by_cases hj : j = i
  · subst hj; rw [updV_same]; exact hv u hu
  · rw [plus_ne hj] at hl; rw [updV_ne hj]; exact h j u hl hu
theorem JT.put (h : JT vs od s R0 R1 X L f x) (i : Nat) (v : Value) (hv : vs i = some v) (hs : s ≠ i) (hX : X i = none) (ho : ∀ p ∈ od, p.1 = i → L p.2 = true) : JT vs od s R0 R1 X (plus L i) (updV f i v) x := by
  refine ⟨val_plus h.val (fun u hu => by rw [hv] at hu; exact Option.some.inj hu), ord_plus h.ord ho, fun hl => h.a (by rwa [plus_ne hs] at hl), fun hl => h.d (by rwa [plus_ne hs] at hl), fun j p hp hl => ?_, fun j p hp hl => ?_⟩
  · have hj : j ≠ i := fun e => by subst e; rw [hX] at hp; cases hp
    rw [plus_ne hj] at hl
    rw [updV_ne hj]; exact h.ex j p hp hl
  · have hj : j ≠ i := fun e => by subst e; rw [hX] at hp; cases hp
    rw [plus_ne hj] at hl
    exact plus_up (h.xo j p hp hl)
end
end Go.Proofs.YtbdagllflamabaaGreatDoor
