/- The walk of table.Join. -/
import Derived.Test.YtajoihpjnnnkeaaDoorTabC
import Derived.Test.YtajoihpjnnnkeaaDoorTab3
import Derived.Test.YtajoihpjnnnkeaaDoorSortP
import Derived.Test.YtajoihpjnnnkeaaDoorRgn3
import Derived.Shelf.SlSortCmp.NoneTotal
import Derived.BigQuiet
namespace Go.Proofs.YtajoihpjnnnkeaaDoor
open Go.RowKit Go.Shelf Go.Lib Go.Sort Go.Maps
attribute [local go_sem] Oper.semAt_some

namespace Pl
/-- In order, by keys. -/
def Ordered (zs : List Pr) : Prop := zs.Pairwise fun a b => ¬ compare b.key a.key < 0
end Pl
/-- The sort of pairs, however many. -/
theorem sortP_any (w : World) (B : Nat) (a : Option Addr) (n cap : Nat) (xs : List Pr) (hn : n = xs.length) (ho : w.ownsRow B 64 3 (.slice a n cap) n (prFlat xs)) (hbig : n ≤ 1000000) (hok : ∀ c ∈ xs, Pl.Ok c.key ∧ c.key.size ≤ 70368744177664) :
    Calls Tryd.prog 72 #[.slice a n cap, .func (.func 73) #[] #[]] w fun e w' => e = .returned (.tuple #[]) ∧ Only (fun j => some j = Value.ownBlock (.slice a n cap)) w w' ∧ ∃ zs : List Pr, zs.Perm xs ∧ Pl.Ordered zs ∧ w'.ownsRow B 64 3 (.slice a n cap) n (prFlat zs) := by
  subst hn
  rcases Nat.eq_zero_or_pos xs.length with h0 | h0
  · have e := List.eq_nil_of_length_eq_zero h0
    subst e
    refine (AnyF.slices_SortFunc_none Tryd.sortPair a cap (.func (.func 73) #[] #[]) w).mono ?_
    rintro e w' ⟨rfl, rfl⟩
    exact ⟨rfl, ⟨rfl, rfl, rfl, Nat.le_refl _, fun _ _ _ => rfl⟩, [], .refl _, List.Pairwise.nil, ho⟩
  · obtain ⟨g, cap', e, _⟩ := ho.form h0
    cases e
    refine (sortPairs w B g cap xs ho h0 hbig hok).mono ?_
    rintro e w' ⟨rfl, hO, zs, hp, hs, hr⟩
    refine ⟨rfl, hO.mono fun j hj => .inl (by rw [hj]; rfl), zs, hp, hs, ?_⟩
    rwa [hp.length_eq] at hr

theorem toListJ_inj {a b : ByteArray} (h : a.toList = b.toList) : a = b := by
  rw [ByteArray.toList_eq, ByteArray.toList_eq] at h
  obtain ⟨⟨a⟩⟩ := a
  obtain ⟨⟨b⟩⟩ := b
  exact congrArg (fun l : List UInt8 => (⟨⟨l⟩⟩ : ByteArray)) h
/-- What a join leaves. -/
def JoinEnd (w : World) (F : Nat → Prop) (tb : Nat) (v : Value) (ys : List Pr) (e : Ending) (w' : World) : Prop :=
  ∃ zs : List Pr, zs.Perm ys ∧ Pl.Ordered zs ∧ ((Pl.dupN zs = true ∧ e = .returned v ∧ Grew w w') ∨ (Pl.dupN zs = false ∧ e = .returned .nilIface ∧ TabTurn w F tb zs w'))
theorem join_turn {w w3 : World} {F : Nat → Prop} {tb : Nat} {xs zs ys : List Pr} {v : Value} (h : TabAt w F tb xs) (g : Grew w w3) (hr : w3.ownsRow w.heap.size 64 3 v zs.length (prFlat zs)) (hp : zs.Perm ys) (hz : Pl.Ordered zs) (hd : Pl.dupN zs = false) (hk : ∀ c ∈ ys, Pl.keyN c.key = 0 ∧ c.key.size ≤ 70368744177664) :
    TabTurn w F tb zs (w3.setCell ⟨tb, 0, none⟩ v) := by
  have htb : tb < w.heap.size := tabAt_lt h _ (tabAt_foot h)
  have o5 := Only.setCell w3 ⟨tb, 0, none⟩ v
  obtain ⟨v0, hT⟩ := h
  have hc := (g.cells.1 _ 0 htb).trans hT.cell
  have hf := (g.cells.2 _ 0 htb).trans hT.fz
  have hk' : ∀ c ∈ zs, Pl.keyN c.key = 0 ∧ c.key.size ≤ 70368744177664 := fun c hc => hk c (hp.mem_iff.1 hc)
  refine ⟨(g.only F).then (o5.mono fun j hj => .inl (by subst hj; exact hT.foot0)), _, tabAt_mk (B := w.heap.size) (v := v) (by simp [World.cell?_setCell_same, hc]) (by rw [World.frozen?_setCell]; exact hf) (ownsRow_kept hr o5 (fun b hb e => by have := (hr.lt b hb).1; simp at e; omega)) (.inl htb) (Pl.srt_sorted (fun c hc => (hk' c hc).1) hz hd) (fun c hc => (hk' c hc).2), ?_⟩
  rintro j (rfl | ⟨_, hj⟩)
  · exact .inl hT.foot0
  · exact .inr hj

set_option maxRecDepth 100000 in
set_option maxHeartbeats 4000000 in
theorem joinT_any {S : Nat → Bool} (E : Nat → Addr) (hS18 : S 18 = true) {w : World} (hE : Errs S E w) {F G : Nat → Prop} {tb ob : Nat} {xs ys : List Pr} (h : TabAt w F tb xs) (k : TabAt w G ob ys) (hx : xs.length + ys.length ≤ 1000000) :
    Calls Tryd.prog 31 #[.pointer (some ⟨tb, 0, none⟩), .pointer (some ⟨ob, 0, none⟩)] w fun e w' => JoinEnd w F tb (.iface 265 (.pointer (some (E 18)))) (xs ++ ys) e w' := by
  have HT := hid h
  have hok : ∀ c ∈ xs ++ ys, Pl.keyN c.key = 0 ∧ c.key.size ≤ 70368744177664 := fun c hc => by
    rcases List.mem_append.1 hc with hc | hc
    · exact ⟨(tabAt_srt h).key c hc, tabAt_sz h c hc⟩
    · exact ⟨(tabAt_srt k).key c hc, tabAt_sz k c hc⟩
  have HEND := hid (fun (w3 : World) (v : Value) (zs : List Pr) (g : Grew w w3) hr hp hz hd => join_turn (w3 := w3) (zs := zs) (v := v) h g hr hp hz hd hok)
  have HOK := hid (fun c hc => And.intro (Pl.ok_key (hok c hc).1) (hok c hc).2)
  have htb : tb < w.heap.size := tabAt_lt h _ (tabAt_foot h)
  have hob : ob < w.heap.size := tabAt_lt k _ (tabAt_foot k)
  have g18 : w.cell? ⟨2, 0, none⟩ = some (.iface 265 (.pointer (some (E 18)))) := hE.cell 18 hS18
  have b18 : 2 < w.heap.size := cell_lt g18
  obtain ⟨v1, h⟩ := h
  obtain ⟨v2, k⟩ := k
  obtain ⟨a1, c1, rfl, A1⟩ := pairsAt_of h.row
  obtain ⟨a2, c2, rfl, A2⟩ := pairsAt_of k.row
  have F1 := slForm_of h.row
  have F2 := slForm_of k.row
  have C1 := h.cell
  have C2 := k.cell
  have fz := h.fz
  have HC := hid (fun (W : World) (g : Grew w W) vb h1 h2 => concatP W vb a1 a2 c1 c2 xs ys h1 h2 (A1.grew g) (A2.grew g) F1 F2 (by omega) (by omega))
  clear h k hE A1 A2 F1 F2 hok
  have E1 := wd_cell C1
  have E2 := wd_cell C2
  go_enter Tryd.func31, Tryd.ntmps31
  go_wp2_with fail
  refine wp_region_mix 8 [] (Grew w) Eq (fun _ _ x => x = w.drew) (fun _ a => a) (by kernel_rfl) (by kernel_rfl) (fun _ _ => rfl) rfl (fun _ _ x h => by rw [h]; exact (Grew.refl w).drew) (fun _ => rfl) (fun _ _ _ _ h g => g ▸ h) ?_
  repeat (first
    | (refine wpMix_loose (by rfl) (by rfl) ?_)
    | (refine wpMix_plain (by rfl) (by rfl) (by rfl) (by first | exact Grew.refl | exact fun _ => rfl) (by rfl) ?_; intro K hK; go_big_quiet_op; go_big_quiet_on)
    | (refine wpMix_skip (by rfl) (by rfl) (by rfl) ?_; simp only [Act.put, List.setIfInBounds_toArray, List.set_cons_zero, List.set_cons_succ]))
  refine wpMix_done (by rfl) ⟨trivial, ?_⟩
  rintro f0 x rfl
  dsimp only [List.drop]
  go_wp2_with fail
  refine (HC.out _ (((Grew.refl w).drew).alloc _) w.heap.size (by simp [go_sem]) (by simp [go_sem])).mono ?_
  rintro e w1 ⟨a, cap, rfl, hr, hg⟩
  have hG1 : Grew w w1 := (((Grew.refl w).drew).alloc _).trans hg
  have hB1 : w.heap.size ≤ (w.drew.alloc (.cells #[.slice a1 xs.length c1, .slice a2 ys.length c2] 61)).heap.size := (((Grew.refl w).drew).alloc _).size
  have hr1 : w1.ownsRow w.heap.size 64 3 (.slice a (xs.length + ys.length) cap) (xs.length + ys.length) (prFlat (xs ++ ys)) := by
    refine ⟨hr.1, ?_⟩
    rcases hr.2 with h | ⟨b, c, cur, e1, h5, h6⟩
    · exact .inl h
    · exact .inr ⟨b, c, cur, e1, by simp at h5; omega, h6⟩
  have hnl : Hid (xs.length + ys.length = (xs ++ ys).length) := List.length_append.symm
  have hSort := hid (sortP_any w1 w.heap.size a (xs.length + ys.length) cap (xs ++ ys) hnl.out hr1 hx HOK.out)
  have hown : ∀ j, some j = Value.ownBlock (.slice a (xs.length + ys.length) cap) → w.heap.size ≤ j := fun j hj => (hr1.lt j hj.symm).1
  have HOWN := hid hown
  have HG1 := hid hG1
  clear hr hg hB1 hr1 hown hG1 HC E1 E2
  obtain ⟨L, hL⟩ : ∃ L, L = xs ++ ys := ⟨_, rfl⟩
  have HL := hid hL
  rw [← hL] at hSort hnl HEND HOK
  clear hL
  generalize xs.length + ys.length = n at *
  go_wp2_with fail
  refine hSort.out.mono ?_
  rintro e w2 ⟨rfl, hO, zs, hp, hz, hr2⟩
  have hG2 : Grew w w2 := ((HG1.out.only _).then hO).grew HOWN.out
  obtain ⟨a', cap', e', A2⟩ := pairsAt_of (show w2.ownsRow w.heap.size 64 3 (.slice a n cap) zs.length (prFlat zs) by rw [hp.length_eq, ← hnl.out]; exact hr2)
  cases e'
  have HA2 := hid A2
  have HR2 := hid hr2
  have HP := hid hp
  have HZ := hid hz
  have HG2 := hid hG2
  clear hr2 hp hz hO A2 hnl hSort HOWN
  have C1' := (hG2.cells.1 _ 0 htb).trans C1
  have fz' := (hG2.cells.2 _ 0 htb).trans fz
  have g18' := (hG2.cells.1 _ 0 b18).trans g18
  have htb' := Nat.lt_of_lt_of_le htb hG2.size
  have b18' := Nat.lt_of_lt_of_le b18 hG2.size
  have hzB : (zs.length : Int) ≤ 1000000 := by omega
  clear C1 C2 g18 hG2 fz
  go_wp2_with fail
  go_loopw [21] (fun i wr => ∃ k : Nat, k ≤ zs.length ∧ i = .int .i64 k ∧ Hid (∀ j, j + 1 < k → (prAt zs j).key ≠ (prAt zs (j + 1)).key) ∧ Grew w2 wr) (fun i _ => zs.length - (intOf i).toNat)
  case atStart => exact ⟨0, Nat.zero_le _, rfl, fun j hj => absurd hj (by omega), Grew.refl _⟩
  case round =>
    obtain ⟨k, hk1, rfl, HN, hGk⟩ := hrel
    have g18k := (hGk.cells.1 _ 0 b18').trans g18'
    by_cases hlt : k < zs.length
    · rcases HA2.out with h0 | ⟨b, off, rfl, hb, hR⟩
      · rw [h0] at hlt; simp at hlt
      have hltI : (k : Int) < (zs.length : Int) := by omega
      cases k with
      | zero =>
        clear hR
        go_wp2_with fail
        go_quiet (fail)
        all_goals (
          go_wp2_with fail
          go_roundw
          case rel => exact ⟨0 + 1, by omega, by go_num, fun j hj => absurd hj (by omega), hGk.drewN _⟩
          case measure => simp [intOf]; omega)
      | succ m =>
        have q0 := (hGk.cells.1 b (off + (m + 1) * 3) hb).trans (hR.key (m + 1) hlt)
        have p0 := (hGk.cells.1 b (off + m * 3) hb).trans (hR.key m (by omega))
        have HD : Hid ((prAt zs m).key = (prAt zs (m + 1)).key → Pl.dupN zs = true) := fun h => Pl.dup_some m hlt h
        have HN2 : Hid ((prAt zs m).key ≠ (prAt zs (m + 1)).key → ∀ j, j + 1 < m + 1 + 1 → (prAt zs j).key ≠ (prAt zs (j + 1)).key) := fun h j hj => by
          by_cases hjm : j = m
          · subst hjm; exact h
          · exact HN.out j (by omega)
        clear hR
        generalize (prAt zs m).key = x0 at *
        generalize (prAt zs (m + 1)).key = x1 at *
        have i2 : ((m : Int) + 1) - 1 = (m : Int) := by omega
        have i3 : (m : Int) < (zs.length : Int) := by omega
        have i5 : m < zs.length := by omega
        have i6 : IntKind.i64.wrap (m : Int) = (m : Int) := IntWalk.i64_in _ (by omega)
        have hd2 : decide ((0 : Int) < (m : Int) + 1) = true := decide_eq_true (by omega)
        by_cases heq : x0 = x1
        · have HDD := hid (HD.out heq)
          subst heq
          have hbb : (x0.toList == x0.toList) = true := beq_self_eq_true _
          go_wp2_with fail
          go_quiet (fail)
          all_goals (
            go_wp2_with fail
            go_ret
            exact ⟨zs, HL.out ▸ HP.out, HZ.out, .inl ⟨HDD.out, rfl, (HG2.out.trans hGk).drewN _⟩⟩)
        · have HNN := hid (HN2.out heq)
          have hbb : (x1.toList == x0.toList) = false := beq_eq_false_iff_ne.2 fun h => heq (toListJ_inj h).symm
          clear HD HN2
          go_wp2_with fail
          go_quiet (fail)
          all_goals (
            go_wp2_with fail
            go_roundw
            case rel => exact ⟨m + 1 + 1, by omega, by go_num, HNN, hGk.drewN _⟩
            case measure => simp [intOf]; omega)
    · obtain rfl : k = zs.length := by omega
      have HDD : Hid (Pl.dupN zs = false) := Pl.dup_none fun i hi => HN.out i hi
      have HTT := hid (HEND.out wr _ zs (HG2.out.trans hGk) (ownsRow_grew hGk HR2.out) HP.out HZ.out HDD.out)
      have C1k := (hGk.cells.1 _ 0 htb').trans C1'
      have fk := (hGk.cells.2 _ 0 htb').trans fz'
      clear C1' fz'
      go_wp2_with fail
      go_ret
      exact ⟨zs, HL.out ▸ HP.out, HZ.out, .inr ⟨HDD.out, rfl, HTT.out⟩⟩
end Go.Proofs.YtajoihpjnnnkeaaDoor
