/- The walk of tidewaterref21.Scan. -/
import Derived.Test.YtifcnammekbfoaaGreatDoorFinTablePlaysQ13
set_option linter.unusedVariables false
namespace Go.Proofs.YtifcnammekbfoaaGreatDoor
open Go.RowKit Go.Maps
attribute [local go_sem] Oper.semAt_some

theorem PairsAt.only {S : Nat → Prop} {W W' : World} {a : Option Addr} {xs : List Pr} (g : Only S W W') (h : PairsAt W a xs) (hS : ∀ b off, a = some ⟨b, off, none⟩ → ¬ S b) : PairsAt W' a xs := by
  rcases h with h | ⟨b, off, e, hb, h⟩
  · exact .inl h
  · exact .inr ⟨b, off, e, Nat.lt_of_lt_of_le hb g.size, ⟨fun j hj => (g.cell hb (hS b off e) _).trans (h.key j hj), fun j hj => (g.cell hb (hS b off e) _).trans (h.val j hj), fun j hj => (g.cell hb (hS b off e) _).trans (h.ver j hj)⟩⟩

set_option maxRecDepth 100000 in
set_option maxHeartbeats 4000000 in
theorem scan21_any {w : World} {tb : Nat} {xs : List Pr} (h : MTab w tb xs) (hx : xs.length ≤ 1000000) (hk : ∀ c ∈ xs, Pl.keyN c.key = 0) (hd : xs.Pairwise fun a b => a.key ≠ b.key) (hsz : ∀ c ∈ xs, c.key.size ≤ 16777216) (lo hi : ByteArray) (limit : Int) (hlo : lo.size ≤ 16777216) (hhi : hi.size ≤ 16777216) :
    Calls Tryz.prog 51 #[.pointer (some ⟨tb, 0, none⟩), .agg #[.string lo, .string hi], .int .i64 limit] w fun e w' => (∃ v zs, e = .returned v ∧ zs.Perm xs ∧ Pl.Srt zs ∧ w'.ownsRow w.heap.size 104 3 v (Pl.scanT zs lo hi limit).length (prFlat (Pl.scanT zs lo hi limit))) ∧ Grew w w' := by
  have HS := hid (fun W (g : Grew w W) => sorted21_any (h.grew g) hx hk hd)
  have HSZ := hid hsz
  obtain ⟨i0, hi0, hz0, hz1, hz2⟩ := info_parts infoPr
  clear h hk hd hsz
  go_enter Tryz.func51, Tryz.ntmps51
  go_wp2_with fail
  have l0 : ((w.alloc (.cells #[.string lo, .string hi] 32)).alloc (.cells #[] 104)).cell? ⟨w.heap.size, 0, none⟩ = some (.string lo) := by simp [go_sem]
  have l1 : ((w.alloc (.cells #[.string lo, .string hi] 32)).alloc (.cells #[] 104)).cell? ⟨w.heap.size, 1, none⟩ = some (.string hi) := by simp [go_sem]
  have hG0 : Grew w ((w.alloc (.cells #[.string lo, .string hi] 32)).alloc (.cells #[] 104)) := ((Grew.refl w).alloc _).alloc _
  have hr0 : ((w.alloc (.cells #[.string lo, .string hi] 32)).alloc (.cells #[] 104)).ownsRow (w.heap.size + 1) 104 3 (.slice (some ⟨w.heap.size + 1, 0, none⟩) 0 0) 0 (prFlat []) :=
    ⟨rfl, .inr ⟨w.heap.size + 1, 0, #[], rfl, Nat.le_refl _, by have := heap_alloc_new (w.alloc (.cells #[.string lo, .string hi] 32)) (.cells #[] 104); simpa using this, Nat.le_refl _, Nat.zero_le _, rfl, rfl⟩⟩
  have hz0' : w.heap.size < ((w.alloc (.cells #[.string lo, .string hi] 32)).alloc (.cells #[] 104)).heap.size := by simp; omega
  refine (HS.out _ hG0).mono ?_
  rintro e w1 ⟨⟨v, zs, rfl, hp, hs, hrow⟩, hg1⟩
  have l0' := (hg1.cells.1 _ _ hz0').trans l0
  have l1' := (hg1.cells.1 _ _ hz0').trans l1
  have hz1' := Nat.lt_of_lt_of_le hz0' hg1.size
  have hr1 := ownsRow_grew hg1 hr0
  have hG1 := hG0.trans hg1
  have hBB : ∀ a' n' cap', v = .slice a' n' cap' → zs = [] ∨ ∃ b, a' = some ⟨b, 0, none⟩ ∧ w.heap.size + 2 ≤ b ∧ b < w1.heap.size := fun a' n' cap' e => by
    rcases Nat.eq_zero_or_pos zs.length with h0 | h0
    · exact .inl (List.eq_nil_of_length_eq_zero h0)
    · obtain ⟨g, c, e2, h3, h4⟩ := hrow.form h0
      rw [e2] at e; cases e
      exact .inr ⟨g, rfl, by simp at h3; omega, h4⟩
  obtain ⟨a, cap, rfl, hA⟩ := pairsAt_of hrow
  have HBB := hid (hBB a zs.length cap rfl)
  have hlz : zs.length = xs.length := hp.length_eq
  have HA := hid hA
  have HP := hid (And.intro hp hs)
  have HSZ2 : Hid (∀ j, j < zs.length → (prAt zs j).key.size ≤ 16777216) := fun j hj => HSZ.out _ (hp.mem_iff.1 (Pl.prAt_mem zs j hj))
  have HHAS := hid (fun (key : ByteArray) (W : World) (hk : key.size ≤ 16777216) => ref_has lo hi key W hlo hhi hk)
  simp only [Pl.hasR_eq] at HHAS
  have hx2 : zs.length ≤ 1000000 := by omega
  clear hBB hrow hA hp hs l0 l1 hG0 hr0 hz0' HS HSZ hg1
  go_wp2_with fail
  go_loopw [7, 14] (fun v i wr => ∃ (k m : Nat) (ys : List Pr) (a2 : Option Addr) (cap2 : Nat), k ≤ zs.length ∧ v = .slice a2 m cap2 ∧ i = .int .i64 k ∧ Hid (ys = Pl.scanT (zs.take k) lo hi limit) ∧ Hid (m = ys.length) ∧ m ≤ k ∧ wr.ownsRow (w.heap.size + 1) 104 3 (.slice a2 m cap2) m (prFlat ys) ∧ Grew w wr ∧ wr.cell? ⟨w.heap.size, 0, none⟩ = some (.string lo) ∧ wr.cell? ⟨w.heap.size, 1, none⟩ = some (.string hi) ∧ w.heap.size < wr.heap.size ∧ Hid (PairsAt wr a zs) ∧ w1.heap.size ≤ wr.heap.size ∧ Hid (∀ j, Value.ownBlock (.slice a2 m cap2) = some j → j = w.heap.size + 1 ∨ w1.heap.size ≤ j)) (fun _ i _ => zs.length - (intOf i).toNat)
  case atStart => exact ⟨0, 0, [], _, _, Nat.zero_le _, rfl, rfl, by unfold Hid Pl.scanT; simp, by unfold Hid; rfl, Nat.zero_le _, hr1, hG1, l0', l1', hz1', HA.out, Nat.le_refl _, fun j hj => .inl (by simpa [Value.ownBlock] using hj.symm)⟩
  case round =>
    obtain ⟨k, m, ys, a2, cap2, hk1, rfl, rfl, HY, HM, hmk, hown, hG, l0, l1, hzr, HPA, hwz, HOB⟩ := hrel
    clear l0' l1' hz1' hr1 hG1
    by_cases hlt : k < zs.length
    · rcases HPA.out with h0 | ⟨b, off, rfl, hb, hR⟩
      · rw [h0] at hlt; simp at hlt
      have q0 := hR.key k hlt
      have q1 := hR.val k hlt
      have q2 := hR.ver k hlt
      have HN := hid (Pl.scan_snoc zs lo hi limit k hlt)
      have hks := HSZ2.out k hlt
      clear hR
      generalize prAt zs k = c at *
      obtain ⟨ck, cv, cn⟩ := c
      dsimp only at *
      have HH := hid (fun W => HHAS.out ck W hks)
      cases hb2 : Pl.hasS lo hi ck with
      | true =>
        rw [hb2] at HH
        by_cases hlm : (m : Int) < limit
        · have HN2 : Hid (ys ++ [⟨ck, cv, cn⟩] = Pl.scanT (zs.take (k + 1)) lo hi limit) := by
            unfold Hid; rw [HN.out, ← HY.out, if_pos ⟨by rw [← HM.out]; exact hlm, hb2⟩]
          have HR2 : Hid (prFlat ys ++ [.string ck, .string cv, .int .i64 cn] = prFlat (ys ++ [⟨ck, cv, cn⟩])) := by unfold Hid; rw [prFlat_append, prFlat_one]; rfl
          have HM2 : Hid (m + 1 = (ys ++ [(⟨ck, cv, cn⟩ : Pr)]).length) := by unfold Hid; rw [List.length_append, ← HM.out]; rfl
          clear hb2 HN
          go_wp2_with fail
          refine (HH.out _).mono ?_
          rintro e w5 ⟨rfl, hg1⟩
          have hG1 := (hG.alloc _).trans hg1
          have sz1 := hg1.size
          have o1 := (Grew.refl wr).alloc (.cells #[.string ck, .string cv, .int .i64 cn] 104) |>.trans hg1
          have l0' := (o1.cells.1 _ _ hzr).trans l0
          have l1' := (o1.cells.1 _ _ hzr).trans l1
          have k0 : w5.cell? ⟨wr.heap.size, 0, none⟩ = some (.string ck) := by rw [hg1.cells.1 _ _ (by simp)]; simp [go_sem]
          have k1 : w5.cell? ⟨wr.heap.size, 1, none⟩ = some (.string cv) := by rw [hg1.cells.1 _ _ (by simp)]; simp [go_sem]
          have k2 : w5.cell? ⟨wr.heap.size, 2, none⟩ = some (.int .i64 cn) := by rw [hg1.cells.1 _ _ (by simp)]; simp [go_sem]
          have hown1 := ownsRow_grew o1 hown
          have hz1' : w.heap.size < w5.heap.size := by have := o1.size; omega
          have HPA1 := hid (HPA.out.grew o1)
          clear l0 l1 hown o1 HPA q0 q1 q2
          go_wp2_with (at_builtin; refine wpList_append_lies _ rfl _ _ 28 rfl (w.heap.size + 1) 104 i0 _ 3 40 Tryz.underlying28 hi0 hz0 hz1 hz2 rfl (by omega) _ m (prFlat ys) rfl (hown1.alloc _) ⟨w5.heap.size, 0, none⟩ 1 1 [.string ck, .string cv, .int .i64 cn] rfl rfl (World.news_of_block (cs := #[.string ck, .string cv, .int .i64 cn]) (t := 104) (fr := (0, 0)) (heap_alloc_new w5 _)) (by simp [Value.oneCell']) (by omega) (by unfold maxLen; omega) (by omega) ?_ _ rfl ?_)
          · simp; omega
          · intro g capg w2 hown2 hgrow hat hlt2
            have hS : ∀ j, some j = Value.ownBlock (.slice a2 m cap2) → w.heap.size + 1 ≤ j := fun j hj => (hown1.lt j hj.symm).1
            have o2 : Only (fun j => some j = Value.ownBlock (.slice a2 m cap2)) w5 w2 := (((Grew.refl w5).alloc _).only _).then (Only.of_grownBy hgrow)
            have hG2 : Grew w w2 := ((hG1.only _).then o2).grew (fun j hj => Nat.le_of_succ_le (hS j hj))
            have n1 : ¬ some w.heap.size = Value.ownBlock (.slice a2 m cap2) := fun e => by have := hS _ e; omega
            have l0'' := (o2.cell hz1' n1 0).trans l0'
            have l1'' := (o2.cell hz1' n1 1).trans l1'
            have hz2' : w.heap.size < w2.heap.size := Nat.lt_of_lt_of_le hz1' o2.size
            have HPA2 : Hid (PairsAt w2 (some ⟨b, off, none⟩) zs) := by
              refine PairsAt.only o2 HPA1.out fun b' off' e hb' => ?_
              cases e
              rcases HBB.out with h | ⟨b2, e2, h1, h2⟩
              · rw [h] at hlt; simp at hlt
              · cases e2
                rcases HOB.out _ hb'.symm with h3 | h3 <;> omega
            have HOB2 : Hid (∀ j, Value.ownBlock (.slice (some ⟨g, 0, none⟩) (m + 1) capg) = some j → j = w.heap.size + 1 ∨ w1.heap.size ≤ j) := fun j hj => by
              have hj' : g = j := by simpa [Value.ownBlock] using hj
              subst hj'
              rcases hat with h | h
              · exact HOB.out _ h
              · right; have := sz1; simp at this; omega
            have hwz2 : w1.heap.size ≤ w2.heap.size := by have := o2.size; have := sz1; simp at this; omega
            rw [HR2.out] at hown2
            clear o2 hgrow hat hown1 l0' l1' hS n1 k0 k1 k2 hG1 sz1 hz1' HPA1
            go_wp2_with fail
            go_roundw
            case rel => exact ⟨k + 1, m + 1, ys ++ [⟨ck, cv, cn⟩], _, capg, by omega, rfl, by go_num, HN2, HM2, by omega, hown2, hG2, l0'', l1'', hz2', HPA2, hwz2, HOB2⟩
            case measure => simp [intOf]; omega
        · have HN2 : Hid (ys = Pl.scanT (zs.take (k + 1)) lo hi limit) := by
            unfold Hid; rw [HN.out, ← HY.out, if_neg (fun h => hlm (by rw [HM.out]; exact h.1)), List.append_nil]
          clear hb2 HN
          go_wp2_with fail
          refine (HH.out _).mono ?_
          rintro e w5 ⟨rfl, hg1⟩
          have o1 := (Grew.refl wr).alloc (.cells #[.string ck, .string cv, .int .i64 cn] 104) |>.trans hg1
          have l0' := (o1.cells.1 _ _ hzr).trans l0
          have l1' := (o1.cells.1 _ _ hzr).trans l1
          have hown1 := ownsRow_grew o1 hown
          have hG1 := hG.trans o1
          have HPA1 := hid (HPA.out.grew o1)
          have hz1' : w.heap.size < w5.heap.size := by have := o1.size; omega
          clear l0 l1 hown o1 HPA
          go_wp2_with fail
          go_roundw
          case rel => exact ⟨k + 1, m, ys, a2, cap2, by omega, rfl, by go_num, HN2, HM, by omega, hown1, hG1, l0', l1', hz1', HPA1, by have := hg1.size; simp at this; omega, HOB⟩
          case measure => simp [intOf]; omega
      | false =>
        rw [hb2] at HH
        have HN2 : Hid (ys = Pl.scanT (zs.take (k + 1)) lo hi limit) := by
          unfold Hid; rw [HN.out, ← HY.out, if_neg (fun h => by rw [hb2] at h; cases h.2), List.append_nil]
        clear hb2 HN
        go_wp2_with fail
        refine (HH.out _).mono ?_
        rintro e w5 ⟨rfl, hg1⟩
        have o1 := (Grew.refl wr).alloc (.cells #[.string ck, .string cv, .int .i64 cn] 104) |>.trans hg1
        have l0' := (o1.cells.1 _ _ hzr).trans l0
        have l1' := (o1.cells.1 _ _ hzr).trans l1
        have hown1 := ownsRow_grew o1 hown
        have hG1 := hG.trans o1
        have HPA1 := hid (HPA.out.grew o1)
        have hz1' : w.heap.size < w5.heap.size := by have := o1.size; omega
        clear l0 l1 hown o1 HPA
        go_wp2_with fail
        go_roundw
        case rel => exact ⟨k + 1, m, ys, a2, cap2, by omega, rfl, by go_num, HN2, HM, by omega, hown1, hG1, l0', l1', hz1', HPA1, by have := hg1.size; simp at this; omega, HOB⟩
        case measure => simp [intOf]; omega
    · obtain rfl : k = zs.length := by omega
      rw [List.take_length] at HY
      go_wp2_with fail
      go_ret
      exact ⟨⟨_, zs, rfl, HP.out.1, HP.out.2, by rw [← HY.out, ← HM.out]; exact ownsRow_base (Nat.le_succ _) hown⟩, hG⟩
end Go.Proofs.YtifcnammekbfoaaGreatDoor
