/- The walk of tidewaterref20.Map.Sorted. Then: The walk of tidewaterref20.Map.Owner. -/
import Derived.Test.YtajoihpjnnnkeaaDoorA20b
import Derived.Test.YtajoihpjnnnkeaaDoorP20
import Derived.Deep.AppendLies
set_option linter.unusedVariables false
set_option linter.unusedSectionVars false
set_option linter.unusedSimpArgs false
namespace Go.Proofs.YtajoihpjnnnkeaaDoor
open Go.RowKit Go.Maps
attribute [local go_sem] Oper.semAt_some

namespace Pl
theorem best_cases (ys : List Sh) (last : Option ByteArray) : ∀ m, best20 ys last m = -1 ∨ ∃ b : Nat, b < m ∧ best20 ys last m = (b : Nat)
  | 0 => .inl rfl
  | m + 1 => by
    have ih := best_cases ys last m
    cases last with
    | none =>
      rw [best20]
      split
      · exact .inr ⟨m, Nat.lt_succ_self m, rfl⟩
      · rcases ih with h | ⟨b, hb, h⟩
        · exact .inl h
        · exact .inr ⟨b, by omega, h⟩
    | some l =>
      rw [best20]
      split
      · exact .inr ⟨m, Nat.lt_succ_self m, rfl⟩
      · rcases ih with h | ⟨b, hb, h⟩
        · exact .inl h
        · exact .inr ⟨b, by omega, h⟩
theorem shAt_take (zs : List Sh) (k j : Nat) (hj : j < k) (hk : k ≤ zs.length) : shAt (zs.take k) j = shAt zs j := by
  rw [shAt_eq _ j (by rw [List.length_take]; omega), shAt_eq zs j (by omega), List.getElem_take]
/-- One step of the search. -/
theorem best_none (ys : List Sh) (m : Nat) (h : best20 ys none m = -1) : best20 ys none (m + 1) = (m : Nat) := by
  rw [best20, h]; rfl
theorem best_noneY (ys : List Sh) (m b : Nat) (h : best20 ys none m = (b : Nat)) (hl : lt20 (shAt ys m).lo (shAt ys b).lo = true) : best20 ys none (m + 1) = (m : Nat) := by
  rw [best20, h, Int.toNat_natCast, hl]; simp
theorem best_noneN (ys : List Sh) (m b : Nat) (h : best20 ys none m = (b : Nat)) (hl : lt20 (shAt ys m).lo (shAt ys b).lo = false) : best20 ys none (m + 1) = (b : Nat) := by
  have h0 : ¬ ((b : Int) < 0) := by omega
  rw [best20, h, Int.toNat_natCast, hl]; simp [h0]
theorem best_early (ys : List Sh) (m : Nat) (l : ByteArray) (hl : lt20 l (shAt ys m).lo = false) : best20 ys (some l) (m + 1) = best20 ys (some l) m := by
  rw [best20]; simp [hl]
theorem best_some (ys : List Sh) (m : Nat) (l : ByteArray) (hl : lt20 l (shAt ys m).lo = true) (h : best20 ys (some l) m = -1) : best20 ys (some l) (m + 1) = (m : Nat) := by
  rw [best20]; simp [hl, h]
theorem best_someY (ys : List Sh) (m b : Nat) (l : ByteArray) (hl : lt20 l (shAt ys m).lo = true) (h : best20 ys (some l) m = (b : Nat)) (h2 : lt20 (shAt ys m).lo (shAt ys b).lo = true) : best20 ys (some l) (m + 1) = (m : Nat) := by
  rw [best20]; simp [hl, h, h2]
theorem best_someN (ys : List Sh) (m b : Nat) (l : ByteArray) (hl : lt20 l (shAt ys m).lo = true) (h : best20 ys (some l) m = (b : Nat)) (h2 : lt20 (shAt ys m).lo (shAt ys b).lo = false) : best20 ys (some l) (m + 1) = (b : Nat) := by
  have h0 : ¬ ((b : Int) < 0) := by omega
  rw [best20]; simp [hl, h, h2, h0]
theorem last_zero (zs : List Sh) : last20 zs 0 = none := rfl
theorem last_succ (zs : List Sh) (k : Nat) : last20 zs (k + 1) = some (shAt zs k).lo := by
  unfold last20
  rw [if_neg (Nat.succ_ne_zero k)]; rfl
end Pl

namespace Pl
theorem bl_tri : ∀ x y : List UInt8, (Op.bytesLess x y = true ∧ Op.bytesLess y x = false ∧ (x == y) = false) ∨ (Op.bytesLess x y = false ∧ Op.bytesLess y x = true ∧ (x == y) = false) ∨ (x = y ∧ Op.bytesLess x y = false ∧ Op.bytesLess y x = false)
  | [], [] => .inr (.inr ⟨rfl, rfl, rfl⟩)
  | [], _ :: _ => .inl ⟨rfl, rfl, rfl⟩
  | _ :: _, [] => .inr (.inl ⟨rfl, rfl, rfl⟩)
  | a :: x, b :: y => by
    have ih := bl_tri x y
    have nl : ∀ c d : UInt8, (c < d) ↔ c.toNat < d.toNat := fun c d => UInt8.lt_iff_toNat_lt
    by_cases hab : a = b
    · subst hab
      have h0 : ¬ (a < a) := by rw [nl]; omega
      have e1 : Op.bytesLess (a :: x) (a :: y) = Op.bytesLess x y := by rw [Op.bytesLess]; simp [h0]
      have e2 : Op.bytesLess (a :: y) (a :: x) = Op.bytesLess y x := by rw [Op.bytesLess]; simp [h0]
      have e3 : ((a :: x) == (a :: y)) = (x == y) := by simp [List.cons_beq_cons]
      rw [e1, e2, e3]
      rcases ih with h | h | ⟨h, h1, h2⟩
      · exact .inl h
      · exact .inr (.inl h)
      · exact .inr (.inr ⟨by rw [h], h1, h2⟩)
    · have hne : a.toNat ≠ b.toNat := fun h => hab (UInt8.toNat_inj.1 h)
      have e3 : ((a :: x) == (b :: y)) = false := by simp [hab]
      have hba : ¬ b = a := fun h => hab h.symm
      rcases Nat.lt_or_gt_of_ne hne with h | h
      · have l1 : a < b := (nl a b).2 h
        have l2 : ¬ b < a := by rw [nl]; omega
        exact .inl ⟨by rw [Op.bytesLess]; simp [l1], by rw [Op.bytesLess]; simp [l2, hba], e3⟩
      · have l1 : b < a := (nl b a).2 h
        have l2 : ¬ a < b := by rw [nl]; omega
        exact .inr (.inl ⟨by rw [Op.bytesLess]; simp [l2, hab], by rw [Op.bytesLess]; simp [l1], e3⟩)
end Pl

set_option maxRecDepth 100000 in
set_option maxHeartbeats 8000000 in
theorem sorted20_any {w : World} {F : Nat → Prop} {mb : Nat} {s : MdSt} (h : MdAt w F mb s) {zs : List Sh} (hp : s.xs.Perm zs) (hr : Pl.Rise zs) (h0 : 0 < zs.length) (hx : zs.length ≤ 1000) :
    Calls Tryd.prog 56 #[.pointer (some ⟨mb, 0, none⟩)] w fun e w' => ∃ g c, e = .returned (.slice (some ⟨g, 0, none⟩) zs.length c) ∧ w'.ownsRow w.heap.size 48 5 (.slice (some ⟨g, 0, none⟩) zs.length c) zs.length (shFlat zs) ∧ Grew w w' := by
  obtain ⟨ys, us, ne, evs⟩ := s
  obtain ⟨vl, vu, ve, h⟩ := h
  dsimp only at *
  have hlen := hp.length_eq
  obtain ⟨b, cap, rfl, _, hbb⟩ := h.row.form (by omega : 0 < ys.length)
  have c0 := h.live
  have hb := h.blt
  have HS := hid h
  have HLEN := hid hlen
  have HBEST := hid (Pl.best_at hp hr)
  have hy : ys.length ≤ 1000 := by omega
  have HOUT0 : Hid ((w.alloc (.cells #[] 48)).ownsRow w.heap.size 48 5 (.slice (some ⟨w.heap.size, 0, none⟩) 0 0) 0 (shFlat (zs.take 0))) :=
    ownsRow_of_block (cur := []) (Nat.le_refl _) (heap_alloc_new w _) (Nat.le_refl _) (by decide) rfl rfl
  obtain ⟨i0, hi0, hz0, hz1, hz3⟩ := info_parts info_sh20
  clear h hlen hp hr h0 hx
  go_enter Tryd.func56, Tryd.ntmps56
  go_wp2_with fail
  go_loopw [3, 14] (fun out i wr => ∃ (k g c : Nat), k ≤ ys.length ∧ i = .int .i64 k ∧ out = .slice (some ⟨g, 0, none⟩) k c ∧ Hid (wr.ownsRow w.heap.size 48 5 (.slice (some ⟨g, 0, none⟩) k c) k (shFlat (zs.take k))) ∧ Hid (Grew w wr)) (fun _ i _ => ys.length - (intOf i).toNat)
  case atStart => exact ⟨0, _, _, Nat.zero_le _, rfl, rfl, HOUT0, hid ((Grew.refl w).alloc _)⟩
  case round =>
    obtain ⟨k, g, c, hk1, rfl, rfl, HO, HG⟩ := hrel
    obtain ⟨w1, rfl⟩ : ∃ w1 : World, w1 = wr := ⟨_, rfl⟩
    by_cases hlt : k < ys.length
    · have c1 := (HG.out.cells.1 _ _ hb).trans c0
      have hgw : w.heap.size ≤ g := (HO.out.lt g rfl).1
      have hgl : g < w1.heap.size := (HO.out.lt g rfl).2
      have hb1 : mb < w1.heap.size := Nat.lt_of_lt_of_le hb HG.out.size
      have hbb1 : b < w1.heap.size := Nat.lt_of_lt_of_le hbb HG.out.size
      have HBB := hid (HBEST.out k (by have := HLEN.out; omega))
      have HLAST : Hid (∀ k', k = k' + 1 → w1.cell? ⟨g, k' * 5 + 3, none⟩ = some (.string (shAt zs k').lo)) := by
        rintro k' rfl
        have hl := HLEN.out
        have h1 := HO.out.cellAt (k' * 5 + 3) (by omega)
        rw [shFlat_get 3 (by omega) (zs.take (k' + 1)) k' (by rw [List.length_take]; omega), Pl.shAt_take zs (k' + 1) k' (by omega) (by omega)] at h1
        exact h1
      have HPOS : Hid (∀ m, m < ys.length → ∀ i v, i < 5 → (shAt ys m).vals[i]? = some v → ∀ W, Grew w1 W → W.cell? ⟨b, m * 5 + i, none⟩ = some v) := fun m hm i v hi hv W gW => (gW.cells.1 _ _ hbb1).trans ((HG.out.cells.1 _ _ hbb).trans ((md_cell HS.out rfl m hm i hi).trans hv))
      have HPQ : Hid (∀ W, Grew w1 W → ∀ q, q < ys.length → W.cell? ⟨b, q * 5 + 3, none⟩ = some (.string (shAt ys q).lo)) := fun W gW q hq => HPOS.out q hq 3 _ (by omega) rfl W gW
      have HL0 : Hid (k = 0 → Pl.last20 zs k = none) := by rintro rfl; rfl
      have HLS : Hid (∀ k', k = k' + 1 → Pl.last20 zs k = some (shAt zs k').lo) := by rintro k' rfl; exact Pl.last_succ zs k'
      generalize Pl.last20 zs k = ld at *
      go_wp2_with fail
      go_loopw [4, 21] (fun best i wr => ∃ m : Nat, m ≤ ys.length ∧ i = .int .i64 m ∧ best = .int .i64 (Pl.best20 ys ld m) ∧ Hid (Grew w1 wr)) (fun _ i _ => ys.length - (intOf i).toNat)
      case atStart => exact ⟨0, Nat.zero_le _, rfl, rfl, hid (Grew.refl w1)⟩
      case round =>
        obtain ⟨m, hm1, rfl, rfl, HG2⟩ := hrel
        obtain ⟨w2, rfl⟩ : ∃ w2 : World, w2 = wr := ⟨_, rfl⟩
        have c2 := (HG2.out.cells.1 _ _ hb1).trans c1
        have hg2 : g < w2.heap.size := Nat.lt_of_lt_of_le hgl HG2.out.size
        have hb2 : mb < w2.heap.size := Nat.lt_of_lt_of_le hb1 HG2.out.size
        have hbb2 : b < w2.heap.size := Nat.lt_of_lt_of_le hbb1 HG2.out.size
        by_cases hml : m < ys.length
        · have p0 := HPOS.out m hml 0 _ (by omega) rfl w2 HG2.out
          have p1 := HPOS.out m hml 1 _ (by omega) rfl w2 HG2.out
          have p2 := HPOS.out m hml 2 _ (by omega) rfl w2 HG2.out
          have p3 := HPOS.out m hml 3 _ (by omega) rfl w2 HG2.out
          have p4 := HPOS.out m hml 4 _ (by omega) rfl w2 HG2.out
          rw [Nat.add_zero] at p0
          replace HPQ := hid (HPQ.out w2 HG2.out)
          have HC := hid (Pl.best_cases ys ld m)
          rcases Nat.eq_zero_or_pos k with hk0 | hk0
          · have hld := HL0.out hk0
            have hkz : ((k : Int) == 0) = true := by rw [hk0]; rfl
            have HN0 := hid (fun (h : Pl.best20 ys ld m = -1) => show Pl.best20 ys ld (m + 1) = (m : Nat) from by rw [hld] at h ⊢; exact Pl.best_none ys m h)
            have HNY := hid (fun (b : Nat) (h : Pl.best20 ys ld m = (b : Nat)) (hl : Op.bytesLess (shAt ys m).lo.toList (shAt ys b).lo.toList = true) => show Pl.best20 ys ld (m + 1) = (m : Nat) from by rw [hld] at h ⊢; exact Pl.best_noneY ys m b h hl)
            have HNN := hid (fun (b : Nat) (h : Pl.best20 ys ld m = (b : Nat)) (hl : Op.bytesLess (shAt ys m).lo.toList (shAt ys b).lo.toList = false) => show Pl.best20 ys ld (m + 1) = (b : Nat) from by rw [hld] at h ⊢; exact Pl.best_noneN ys m b h hl)
            clear HBB HLAST HPOS hk0 hld HL0 HLS
            generalize shAt ys m = cm at *
            obtain ⟨x0, x1, x2, x3, x4⟩ := cm
            dsimp only at *
            rcases HC.out with hbest | ⟨q, hqm, hbest⟩
            · have HN := hid (HN0.out hbest)
              rw [hbest]
              clear hbest HN0 HNY HNN HC HPQ
              go_wp2_with fail
              go_quiet (fail)
              all_goals (
                go_wp2_with fail
                go_quiet (fail)
                all_goals (
                  go_wp2_with fail
                  go_roundw
                  case rel => exact ⟨m + 1, by omega, by go_num, by rw [HN.out], hid ((HG2.out.alloc _).drewN _)⟩
                  case measure => simp [intOf]; omega))
            · have HNYb := hid (HNY.out q hbest)
              have HNNb := hid (HNN.out q hbest)
              have hql : q < ys.length := by omega
              have hqL : (q : Int) < (ys.length : Int) := by omega
              have hq0 : ¬ ((q : Int) < 0) := by omega
              have p5 := HPQ.out q hql
              rw [hbest]
              clear hbest HN0 HNY HNN HC HPQ
              generalize (shAt ys q).lo = lq at *
              cases hlt2 : Op.bytesLess x3.toList lq.toList with
              | true =>
                have HN := hid (HNYb.out hlt2)
                clear HNYb HNNb
                go_wp2_with fail
                go_quiet (fail)
                all_goals (
                  go_wp2_with fail
                  go_quiet (fail)
                  all_goals (
                    go_wp2_with fail
                    go_roundw
                    case rel => exact ⟨m + 1, by omega, by go_num, by rw [HN.out], hid ((HG2.out.alloc _).drewN _)⟩
                    case measure => simp [intOf]; omega))
              | false =>
                have HN := hid (HNNb.out hlt2)
                clear HNYb HNNb
                go_wp2_with fail
                go_quiet (fail)
                all_goals (
                  go_wp2_with fail
                  go_quiet (fail)
                  all_goals (
                    go_wp2_with fail
                    go_roundw
                    case rel => exact ⟨m + 1, by omega, by go_num, by rw [HN.out], hid ((HG2.out.alloc _).drewN _)⟩
                    case measure => simp [intOf]; omega))
          · obtain ⟨k', hkk⟩ : ∃ k', k = k' + 1 := ⟨k - 1, by omega⟩
            have hld := HLS.out k' hkk
            have hlast := (HG2.out.cells.1 _ _ hgl).trans (HLAST.out k' hkk)
            have i2 : (k : Int) - 1 = (k' : Int) := by omega
            have i3 : (k' : Int) < (k : Int) := by omega
            have i5 : k' < k := by omega
            have i6 : IntKind.i64.wrap (k' : Int) = (k' : Int) := IntWalk.i64_in _ (by omega)
            have i7 : ((k : Int) == 0) = false := by rw [beq_eq_false_iff_ne]; omega
            have HE := hid (fun (hl : Op.bytesLess (shAt zs k').lo.toList (shAt ys m).lo.toList = false) => show Pl.best20 ys ld (m + 1) = Pl.best20 ys ld m from by rw [hld]; exact Pl.best_early ys m (shAt zs k').lo hl)
            have HN0' := hid (fun (hl : Op.bytesLess (shAt zs k').lo.toList (shAt ys m).lo.toList = true) (h : Pl.best20 ys ld m = -1) => show Pl.best20 ys ld (m + 1) = (m : Nat) from by rw [hld] at h ⊢; exact Pl.best_some ys m _ hl h)
            have HNY' := hid (fun (hl' : Op.bytesLess (shAt zs k').lo.toList (shAt ys m).lo.toList = true) (b : Nat) (h : Pl.best20 ys ld m = (b : Nat)) (hl : Op.bytesLess (shAt ys m).lo.toList (shAt ys b).lo.toList = true) => show Pl.best20 ys ld (m + 1) = (m : Nat) from by rw [hld] at h ⊢; exact Pl.best_someY ys m b _ hl' h hl)
            have HNN' := hid (fun (hl' : Op.bytesLess (shAt zs k').lo.toList (shAt ys m).lo.toList = true) (b : Nat) (h : Pl.best20 ys ld m = (b : Nat)) (hl : Op.bytesLess (shAt ys m).lo.toList (shAt ys b).lo.toList = false) => show Pl.best20 ys ld (m + 1) = (b : Nat) from by rw [hld] at h ⊢; exact Pl.best_someN ys m b _ hl' h hl)
            clear HBB HLAST HPOS hkk hld hk0 HL0 HLS
            generalize (shAt zs k').lo = ll at *
            generalize shAt ys m = cm at *
            obtain ⟨x0, x1, x2, x3, x4⟩ := cm
            dsimp only at *
            rcases Pl.bl_tri x3.toList ll.toList with ⟨t1, t2, t3⟩ | ⟨t1, t2, t3⟩ | ⟨t0, t1, t2⟩
            · have HN := hid (HE.out t2)
              clear HN0' HNY' HNN' HC HE HPQ
              generalize Pl.best20 ys ld m = bq at *
              go_wp2_with fail
              go_quiet (fail)
              all_goals (
                go_wp2_with fail
                go_quiet (fail)
                all_goals (
                  go_wp2_with fail
                  go_roundw
                  case rel => exact ⟨m + 1, by omega, by go_num, by rw [HN.out], hid ((HG2.out.alloc _).drewN _)⟩
                  case measure => simp [intOf]; omega))
            · have HN0 := hid (HN0'.out t2)
              have HNY := hid (HNY'.out t2)
              have HNN := hid (HNN'.out t2)
              clear HN0' HNY' HNN' HE
              rcases HC.out with hbest | ⟨q, hqm, hbest⟩
              · have HN := hid (HN0.out hbest)
                rw [hbest]
                clear hbest HN0 HNY HNN HC HPQ
                go_wp2_with fail
                go_quiet (fail)
                all_goals (
                  go_wp2_with fail
                  go_quiet (fail)
                  all_goals (
                    go_wp2_with fail
                    go_roundw
                    case rel => exact ⟨m + 1, by omega, by go_num, by rw [HN.out], hid ((HG2.out.alloc _).drewN _)⟩
                    case measure => simp [intOf]; omega))
              · have HNYb := hid (HNY.out q hbest)
                have HNNb := hid (HNN.out q hbest)
                have hql : q < ys.length := by omega
                have hqL : (q : Int) < (ys.length : Int) := by omega
                have hq0 : ¬ ((q : Int) < 0) := by omega
                have p5 := HPQ.out q hql
                rw [hbest]
                clear hbest HN0 HNY HNN HC HPQ
                generalize (shAt ys q).lo = lq at *
                cases hlt2 : Op.bytesLess x3.toList lq.toList with
                | true =>
                  have HN := hid (HNYb.out hlt2)
                  clear HNYb HNNb
                  go_wp2_with fail
                  go_quiet (fail)
                  all_goals (
                    go_wp2_with fail
                    go_quiet (fail)
                    all_goals (
                      go_wp2_with fail
                      go_roundw
                      case rel => exact ⟨m + 1, by omega, by go_num, by rw [HN.out], hid ((HG2.out.alloc _).drewN _)⟩
                      case measure => simp [intOf]; omega))
                | false =>
                  have HN := hid (HNNb.out hlt2)
                  clear HNYb HNNb
                  go_wp2_with fail
                  go_quiet (fail)
                  all_goals (
                    go_wp2_with fail
                    go_quiet (fail)
                    all_goals (
                      go_wp2_with fail
                      go_roundw
                      case rel => exact ⟨m + 1, by omega, by go_num, by rw [HN.out], hid ((HG2.out.alloc _).drewN _)⟩
                      case measure => simp [intOf]; omega))
            · have HN := hid (HE.out t2)
              have t3 : (x3.toList == ll.toList) = true := by rw [t0]; exact beq_self_eq_true _
              clear HN0' HNY' HNN' HC HE HPQ t0
              generalize Pl.best20 ys ld m = bq at *
              go_wp2_with fail
              go_quiet (fail)
              all_goals (
                go_wp2_with fail
                go_quiet (fail)
                all_goals (
                  go_wp2_with fail
                  go_roundw
                  case rel => exact ⟨m + 1, by omega, by go_num, by rw [HN.out], hid ((HG2.out.alloc _).drewN _)⟩
                  case measure => simp [intOf]; omega))
        · obtain rfl : m = ys.length := by omega
          obtain ⟨q, hq, hbest, hat⟩ := HBB.out
          have hqL : (q : Int) < (ys.length : Int) := by omega
          have hq0 : (0 : Int) ≤ (q : Int) := by omega
          have p0 := HPOS.out q hq 0 _ (by omega) rfl w2 HG2.out
          have p1 := HPOS.out q hq 1 _ (by omega) rfl w2 HG2.out
          have p2 := HPOS.out q hq 2 _ (by omega) rfl w2 HG2.out
          have p3 := HPOS.out q hq 3 _ (by omega) rfl w2 HG2.out
          have p4 := HPOS.out q hq 4 _ (by omega) rfl w2 HG2.out
          rw [Nat.add_zero] at p0
          have HO2 := hid (ownsRow_grew HG2.out HO.out)
          have hflat : shFlat (zs.take (k + 1)) = shFlat (zs.take k) ++ (shAt ys q).vals := by
            have hkz : k < zs.length := by have := HLEN.out; omega
            rw [List.take_succ_eq_append_getElem hkz, shFlat_append, shFlat_one, hat, shAt_eq zs k hkz]
          rw [hbest]
          have HFL := hid hflat
          generalize shFlat (zs.take k) = L at *
          obtain ⟨L2, hL2⟩ : ∃ L2, L2 = shFlat (zs.take (k + 1)) := ⟨_, rfl⟩
          rw [← hL2] at HFL
          have HL2 := hid hL2
          clear hL2 hflat hbest hat HBB HLAST HPOS HPQ HO
          generalize shAt ys q = cm at *
          obtain ⟨x0, x1, x2, x3, x4⟩ := cm
          dsimp only at *
          unfold Sh.vals at HFL
          dsimp only at HFL
          go_wp2_with (at_builtin; refine wpList_append_lies _ rfl _ _ 101 rfl w.heap.size 48 i0 _ 5 56 Tryd.underlying101 hi0 hz0 hz1 hz3 sh20z_size (by omega) (.slice (some ⟨g, 0, none⟩) k c) k L rfl (ownsRow_grew ((Grew.refl w2).alloc _) HO2.out) ⟨w2.heap.size, 0, none⟩ 1 1 [.int .i64 x0, .int .i64 x1, .int .i64 x2, .string x3, .string x4] rfl rfl (World.news_of_block (cs := #[.int .i64 x0, .int .i64 x1, .int .i64 x2, .string x3, .string x4]) (by simpa using heap_alloc_new w2 _)) (by intro u hu; simp at hu; rcases hu with rfl | rfl | rfl | rfl | rfl <;> rfl) (by omega) (by unfold maxLen; omega) (by omega) (by have h1 := HG.out.size; have h2 := HG2.out.size; simp; omega) _ rfl ?_)
          intro g9 c9 w9 hown hgrow hat9 hlt9
          rw [← HFL.out] at hown
          have HO9 := hid hown
          have HG9 : Hid (Grew w w9) := (((((HG.out.trans HG2.out).alloc _)).only (fun q => some q = Value.ownBlock (.slice (some ⟨g, 0, none⟩) k c))).then (Only.of_grownBy hgrow)).grew (fun q hq => by have h1 : q = g := Option.some.inj hq; omega)
          clear hown hgrow hat9 hlt9 p0 p1 p2 p3 p4
          go_wp2_with fail
          go_roundw
          case rel => exact ⟨k + 1, g9, c9, by omega, by go_num, rfl, by rw [← HL2.out]; exact HO9, HG9⟩
          case measure => simp [intOf]; omega
    · obtain rfl : k = ys.length := by omega
      have HO2 := HO
      rw [HLEN.out, List.take_length] at HO2
      go_wp2_with fail
      go_ret
      exact ⟨g, c, by rw [HLEN.out]; rfl, HO2.out, HG.out⟩
end Go.Proofs.YtajoihpjnnnkeaaDoor

set_option linter.unusedVariables false
set_option linter.unusedSectionVars false
set_option linter.unusedSimpArgs false
namespace Go.Proofs.YtajoihpjnnnkeaaDoor
open Go.RowKit Go.Maps
attribute [local go_sem] Oper.semAt_some

set_option maxRecDepth 100000 in
set_option maxHeartbeats 8000000 in
theorem owner20_any {w : World} {F : Nat → Prop} {mb : Nat} {s : MdSt} (h : MdAt w F mb s) (hx : s.xs.length ≤ 1000) (hsz : ∀ c ∈ s.xs, c.lo.size ≤ 16777216 ∧ c.hi.size ≤ 16777216) (key : ByteArray) (hk : key.size ≤ 16777216) :
    Calls Tryd.prog 21 #[.pointer (some ⟨mb, 0, none⟩), .string key] w fun e w' => e = .returned (.tuple #[(Pl.own20V s.xs key).aggOf, .bool (decide (0 ≤ Pl.own20 s.xs key))]) ∧ Grew w w' := by
  obtain ⟨xs, us, ne, evs⟩ := s
  obtain ⟨vl, vu, ve, h⟩ := h
  dsimp only at *
  obtain ⟨a, cap, rfl, hA⟩ := shsAt_ref h.row
  have c0 := h.live
  have hb := h.blt
  have HA := hid hA
  have HSZ := hid hsz
  have HK := hid (fun W => ref_key key W hk)
  clear h hA hsz
  cases hkey : Pl.isKey key with
  | false =>
    have hV : Pl.own20 xs key = -1 := by unfold Pl.own20; rw [hkey]; rfl
    have hV2 : Pl.own20V xs key = Sh.none := by unfold Pl.own20V; rw [hV]; rfl
    rw [hV, hV2]
    have hk0 : ¬ Pl.keyN key = 0 := by unfold Pl.isKey at hkey; simpa using hkey
    clear hV hV2 hkey HA HSZ
    generalize Pl.keyN key = kn at *
    have hkz : ((kn : Int) == 0) = false := by simp [hk0]
    unfold Sh.aggOf Sh.vals Sh.none
    go_enter Tryd.func21, Tryd.ntmps21
    go_wp2_with fail
    refine (HK.out _).mono ?_
    rintro r w1 ⟨rfl, hg⟩
    have hc := hg.cells.1
    have hfz := hg.cells.2
    have hz : w.heap.size < w1.heap.size := by have := hg.size; simp at this; omega
    have hG := ((Grew.refl w).alloc _).trans hg
    clear hg HK
    go_wp2_with fail
    refine bodyPost_ret (v := .tuple #[.agg #[.int .i64 0, .int .i64 0, .int .i64 0, .string ⟨#[]⟩, .string ⟨#[]⟩], .bool false]) (by simp [results, Tryd.results21, go_sem, hc, hz]) rfl ⟨rfl, ?_⟩
    exact (((((hG.setCell (by simp) _).setCell (by simp) _).setCell (by simp) _).setCell (by simp) _).setCell (by simp) _)
  | true =>
    have hk0 : Pl.keyN key = 0 := by unfold Pl.isKey at hkey; simpa using hkey
    have HV : Hid (Pl.own20 xs key = idxI (fun c => Pl.hasR c.lo c.hi key) xs) := by unfold Hid Pl.own20; rw [hkey, if_pos rfl]
    have HV2 : Hid (∀ k : Nat, Pl.own20 xs key = (k : Nat) → Pl.own20V xs key = shAt xs k) := fun k e => by unfold Pl.own20V; rw [e, if_neg (by omega), Int.toNat_natCast]
    have HV3 : Hid (Pl.own20 xs key = -1 → Pl.own20V xs key = Sh.none) := fun e => by unfold Pl.own20V; rw [e]; rfl
    have HSOME := hid (fun k hk => idx_some (fun c : Sh => Pl.hasR c.lo c.hi key) xs k hk)
    have HNEXT := hid (fun k hk => idx_next (fun c : Sh => Pl.hasR c.lo c.hi key) xs k hk)
    have HNONE := hid (idx_none (fun c : Sh => Pl.hasR c.lo c.hi key) xs)
    rw [hk0] at HK
    generalize Pl.own20V xs key = ov at *
    generalize Pl.own20 xs key = oi at *
    clear hk0 hkey
    go_enter Tryd.func21, Tryd.ntmps21
    go_wp2_with fail
    refine (HK.out _).mono ?_
    rintro r w1 ⟨rfl, hg⟩
    have hz0 : w.heap.size < (w.alloc (Obj.cells #[.int .i64 0, .int .i64 0, .int .i64 0, .string ⟨#[]⟩, .string ⟨#[]⟩] 48)).heap.size := by simp
    have hz : w.heap.size < w1.heap.size := Nat.lt_of_lt_of_le hz0 hg.size
    have HRC : Hid (∀ W, Grew w1 W → ∀ i v, i < 5 → (#[Value.int .i64 0, .int .i64 0, .int .i64 0, .string ⟨#[]⟩, .string ⟨#[]⟩] : Array Value)[i]? = some v → W.cell? ⟨w.heap.size, i, none⟩ = some v) := fun W g i v _ hv =>
      (g.cells.1 _ _ hz).trans ((hg.cells.1 _ _ hz0).trans ((cell_of_row _ _ _ _ _ _ (heap_alloc_new w _)).trans hv))
    have HRF : Hid (∀ W, Grew w1 W → ∀ i, W.frozen? ⟨w.heap.size, i, none⟩ = false) := fun W g i =>
      (g.cells.2 _ _ hz).trans ((hg.cells.2 _ _ hz0).trans (frozen_of_row _ _ i _ _ (heap_alloc_new w _)))
    have HG1 := hid (((Grew.refl w).alloc _).trans hg)
    have c1 := (HG1.out.cells.1 _ _ hb).trans c0
    clear hg HK
    go_wp2_with fail
    go_loopw [17] (fun i wr => ∃ k : Nat, k ≤ xs.length ∧ i = .int .i64 k ∧ Hid ((xs.take k).all (fun c => !(Pl.hasR c.lo c.hi key)) = true) ∧ Hid (Grew w1 wr)) (fun i _ => xs.length - (intOf i).toNat)
    case atStart => exact ⟨0, Nat.zero_le _, rfl, rfl, hid (Grew.refl w1)⟩
    case round =>
      obtain ⟨k, hk1, rfl, HN, HG2⟩ := hrel
      obtain ⟨w2, rfl⟩ : ∃ w2 : World, w2 = wr := ⟨_, rfl⟩
      by_cases hlt : k < xs.length
      · rcases HA.out with h0 | ⟨b, off, rfl, hbb, hR⟩
        · rw [h0] at hlt; simp at hlt
        have hGw := HG1.out.trans HG2.out
        have q0 := (hGw.cells.1 b (off + k * 5) hbb).trans (hR.id k hlt)
        have q1 := (hGw.cells.1 b (off + k * 5 + 1) hbb).trans (hR.server k hlt)
        have q2 := (hGw.cells.1 b (off + k * 5 + 2) hbb).trans (hR.since k hlt)
        have q3 := (hGw.cells.1 b (off + k * 5 + 3) hbb).trans (hR.lo k hlt)
        have q4 := (hGw.cells.1 b (off + k * 5 + 4) hbb).trans (hR.hi k hlt)
        have hm := HSZ.out _ (shAt_mem xs k hlt)
        have HHS := hid (fun W => ref_has (shAt xs k).lo (shAt xs k).hi key W hm.1 hm.2 hk)
        have hat : shAt xs k = xs[k] := shAt_eq xs k hlt
        have HS1 := hid (HSOME.out k hlt HN.out)
        have HN1 := hid (HNEXT.out k hlt HN.out)
        have HVK := hid (HV2.out k)
        rw [← hat] at HS1 HN1
        clear hR hat hm hGw
        generalize shAt xs k = c at *
        obtain ⟨x0, x1, x2, x3, x4⟩ := c
        dsimp only at *
        go_wp2_with fail
        refine (HHS.out _).mono ?_
        rintro r w3 ⟨rfl, hg3⟩
        have hz3 : w2.heap.size < (w2.alloc (Obj.cells #[.int .i64 x0, .int .i64 x1, .int .i64 x2, .string x3, .string x4] 48)).heap.size := by simp
        have s0 : w3.cell? ⟨w2.heap.size, 0, none⟩ = some (.int .i64 x0) := (hg3.cells.1 _ _ hz3).trans (by simp [go_sem])
        have s1 : w3.cell? ⟨w2.heap.size, 1, none⟩ = some (.int .i64 x1) := (hg3.cells.1 _ _ hz3).trans (by simp [go_sem])
        have s2 : w3.cell? ⟨w2.heap.size, 2, none⟩ = some (.int .i64 x2) := (hg3.cells.1 _ _ hz3).trans (by simp [go_sem])
        have s3 : w3.cell? ⟨w2.heap.size, 3, none⟩ = some (.string x3) := (hg3.cells.1 _ _ hz3).trans (by simp [go_sem])
        have s4 : w3.cell? ⟨w2.heap.size, 4, none⟩ = some (.string x4) := (hg3.cells.1 _ _ hz3).trans (by simp [go_sem])
        have HG3 := hid ((HG2.out.alloc _).trans hg3)
        have hzz : w2.heap.size < w3.heap.size := Nat.lt_of_lt_of_le hz3 hg3.size
        clear hg3 q0 q1 q2 q3 q4 HHS
        cases hpc : Pl.hasR x3 x4 key with
        | true =>
          have HI := hid (HV.out.trans (HS1.out hpc))
          have HO := hid (HVK.out HI.out)
          have r0 := HRC.out w3 HG3.out 0 _ (by omega) rfl
          have r1 := HRC.out w3 HG3.out 1 _ (by omega) rfl
          have r2 := HRC.out w3 HG3.out 2 _ (by omega) rfl
          have r3 := HRC.out w3 HG3.out 3 _ (by omega) rfl
          have r4 := HRC.out w3 HG3.out 4 _ (by omega) rfl
          have f0 := HRF.out w3 HG3.out 0
          have f1 := HRF.out w3 HG3.out 1
          have f2 := HRF.out w3 HG3.out 2
          have f3 := HRF.out w3 HG3.out 3
          have f4 := HRF.out w3 HG3.out 4
          have hzr : w.heap.size < w3.heap.size := Nat.lt_of_lt_of_le hz HG3.out.size
          clear HS1 HN1 HVK hpc
          go_wp2_with fail
          refine bodyPost_ret (v := .tuple #[.agg #[.int .i64 x0, .int .i64 x1, .int .i64 x2, .string x3, .string x4], .bool true]) (by simp [results, Tryd.results21, go_sem, r0, r1, r2, r3, r4, hzr]) rfl ⟨?_, ?_⟩
          · have hd : decide (0 ≤ oi) = true := by rw [HI.out]; simp
            rw [HO.out, hd]; rfl
          · exact ((((((HG1.out.trans HG3.out).setCell (by simp) _).setCell (by simp) _).setCell (by simp) _).setCell (by simp) _).setCell (by simp) _)
        | false =>
          have HN2 := hid (HN1.out hpc)
          clear HS1 HN1 HVK hpc
          go_wp2_with fail
          go_roundw
          case rel => exact ⟨k + 1, by omega, by go_num, HN2, HG3⟩
          case measure => simp [intOf]; omega
      · obtain rfl : k = xs.length := by omega
        have HI : Hid (oi = -1) := hid (HV.out.trans (HNONE.out (by have := HN.out; rwa [List.take_length] at this)))
        have HO := hid (HV3.out HI.out)
        have r0 := HRC.out w2 HG2.out 0 _ (by omega) rfl
        have r1 := HRC.out w2 HG2.out 1 _ (by omega) rfl
        have r2 := HRC.out w2 HG2.out 2 _ (by omega) rfl
        have r3 := HRC.out w2 HG2.out 3 _ (by omega) rfl
        have r4 := HRC.out w2 HG2.out 4 _ (by omega) rfl
        have f0 := HRF.out w2 HG2.out 0
        have f1 := HRF.out w2 HG2.out 1
        have f2 := HRF.out w2 HG2.out 2
        have f3 := HRF.out w2 HG2.out 3
        have f4 := HRF.out w2 HG2.out 4
        have hzr : w.heap.size < w2.heap.size := Nat.lt_of_lt_of_le hz HG2.out.size
        go_wp2_with fail
        refine bodyPost_ret (v := .tuple #[.agg #[.int .i64 0, .int .i64 0, .int .i64 0, .string ⟨#[]⟩, .string ⟨#[]⟩], .bool false]) (by simp [results, Tryd.results21, go_sem, r0, r1, r2, r3, r4, hzr]) rfl ⟨?_, ?_⟩
        · rw [HO.out, HI.out]; rfl
        · exact ((((((HG1.out.trans HG2.out).setCell (by simp) _).setCell (by simp) _).setCell (by simp) _).setCell (by simp) _).setCell (by simp) _)
end Go.Proofs.YtajoihpjnnnkeaaDoor
