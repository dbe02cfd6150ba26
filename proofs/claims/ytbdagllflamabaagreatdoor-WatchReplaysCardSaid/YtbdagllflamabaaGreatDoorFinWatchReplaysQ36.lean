/- TabJ, Jn1, RgnR: one text. -/
import Derived.Test.YtbdagllflamabaaGreatDoorFinWatchReplaysQ25
import Derived.Test.YtbdagllflamabaaGreatDoorFinWatchReplaysQ35
import Derived.Test.YtbdagllflamabaaGreatDoorFinWatchReplaysQ12
import Derived.Shelf.SlSortCmp.NoneTotal
import Derived.BigQuiet
import Derived.Test.YtbdagllflamabaaGreatDoorFinWatchReplaysQ20
import Derived.Test.YtbdagllflamabaaGreatDoorFinWatchReplaysQ17
import Derived.Sort.QuietThIn
import Derived.OwnWalkIn
namespace Go.Proofs.YtbdagllflamabaaGreatDoor
open Go.RowKit Go.Shelf Go.Lib Go.Sort Go.Maps
attribute [local go_sem] Oper.semAt_some
namespace Pl
def Ordered (zs : List Pr) : Prop := zs.Pairwise fun a b => ¬ compare b.key a.key < 0
end Pl
theorem sortP_any (w : World) (B : Nat) (a : Option Addr) (n cap : Nat) (xs : List Pr) (hn : n = xs.length) (ho : w.ownsRow B 42 3 (.slice a n cap) n (prFlat xs)) (hbig : n ≤ 1000000) (hok : ∀ c ∈ xs, Pl.Ok c.key ∧ c.key.size ≤ 70368744177664) :
    Calls Tryz.prog 177 #[.slice a n cap, .func (.func 178) #[] #[]] w fun e w' => e = .returned (.tuple #[]) ∧ Only (fun j => some j = Value.ownBlock (.slice a n cap)) w w' ∧ ∃ zs : List Pr, zs.Perm xs ∧ Pl.Ordered zs ∧ w'.ownsRow B 42 3 (.slice a n cap) n (prFlat zs) := by
  subst hn
  rcases Nat.eq_zero_or_pos xs.length with h0 | h0
  · have e := List.eq_nil_of_length_eq_zero h0
    subst e
    refine (AnyF.slices_SortFunc_none Tryz.sortPair a cap (.func (.func 178) #[] #[]) w).mono ?_
    rintro e w' ⟨rfl, rfl⟩
    exact ⟨rfl, ⟨rfl, rfl, rfl, Nat.le_refl _, fun _ _ _ => rfl⟩, [], .refl _, List.Pairwise.nil, ho⟩
  · obtain ⟨g, cap', e, _⟩ := ho.form h0
    cases e
    refine (sortPairs w B g cap xs ho h0 hbig hok).mono ?_
    rintro e w' ⟨rfl, hO, zs, hp, hs, hr⟩
    refine ⟨rfl, hO.mono fun j hj => .inl (by rw [hj]; rfl), zs, hp, hs, ?_⟩
    rwa [hp.length_eq] at hr
theorem toListJ_inj {a b : ByteArray} (h : a.toList = b.toList) : a = b := by
  rw [ByteArray.toList_eq, ByteArray.toList_eq] at h
  obtain ⟨⟨a⟩⟩ := a
  obtain ⟨⟨b⟩⟩ := b
  exact congrArg (fun l : List UInt8 => (⟨⟨l⟩⟩ : ByteArray)) h
def JoinEnd (w : World) (F : Nat → Prop) (tb : Nat) (v : Value) (ys : List Pr) (e : Ending) (w' : World) : Prop :=
  ∃ zs : List Pr, zs.Perm ys ∧ Pl.Ordered zs ∧ ((Pl.dupN zs = true ∧ e = .returned v ∧ Grew w w') ∨ (Pl.dupN zs = false ∧ e = .returned .nilIface ∧ TabTurn w F tb zs w'))
theorem join_turn {w w3 : World} {F : Nat → Prop} {tb : Nat} {xs zs ys : List Pr} {v : Value} (h : TabAt w F tb xs) (g : Grew w w3) (hr : w3.ownsRow w.heap.size 42 3 v zs.length (prFlat zs)) (hp : zs.Perm ys) (hz : Pl.Ordered zs) (hd : Pl.dupN zs = false) (hk : ∀ c ∈ ys, Pl.keyN c.key = 0 ∧ c.key.size ≤ 70368744177664) :
    TabTurn w F tb zs (w3.setCell ⟨tb, 0, none⟩ v) := by
  have htb : tb < w.heap.size := tabAt_lt h _ (tabAt_foot h)
  have o5 := Only.setCell w3 ⟨tb, 0, none⟩ v
  obtain ⟨v0, hT⟩ := h
  have hc := (g.cells.1 _ 0 htb).trans hT.cell
  have hf := (g.cells.2 _ 0 htb).trans hT.fz
  have hk' : ∀ c ∈ zs, Pl.keyN c.key = 0 ∧ c.key.size ≤ 70368744177664 := fun c hc => hk c (hp.mem_iff.1 hc)
  refine ⟨(g.only F).then (o5.mono fun j hj => .inl (by subst hj; exact hT.foot0)), _, tabAt_mk (B := w.heap.size) (v := v) (by simp [World.cell?_setCell_same, hc]) (by rw [World.frozen?_setCell]; exact hf) (ownsRow_kept hr o5 (fun b hb e => by have := (hr.lt b hb).1; simp at e; omega)) (.inl htb) (Pl.srt_sorted (fun c hc => (hk' c hc).1) hz hd) (fun c hc => (hk' c hc).2), ?_⟩
  rintro j (rfl | ⟨_, hj⟩)
  · exact .inl hT.foot0
  · exact .inr hj
set_option maxRecDepth 100000 in
set_option maxHeartbeats 4000000 in
theorem joinT_any {S : Nat → Bool} (E : Nat → Addr) (hS18 : S 18 = true) {w : World} (hE : Errs S E w) {F G : Nat → Prop} {tb ob : Nat} {xs ys : List Pr} (h : TabAt w F tb xs) (k : TabAt w G ob ys) (hx : xs.length + ys.length ≤ 1000000) :
    Calls Tryz.prog 146 #[.pointer (some ⟨tb, 0, none⟩), .pointer (some ⟨ob, 0, none⟩)] w fun e w' => JoinEnd w F tb (.iface 343 (.pointer (some (E 18)))) (xs ++ ys) e w' := by
  have HT := hid h
  have hok : ∀ c ∈ xs ++ ys, Pl.keyN c.key = 0 ∧ c.key.size ≤ 70368744177664 := fun c hc => by
    rcases List.mem_append.1 hc with hc | hc
    · exact ⟨(tabAt_srt h).key c hc, tabAt_sz h c hc⟩
    · exact ⟨(tabAt_srt k).key c hc, tabAt_sz k c hc⟩
  have HEND := hid (fun (w3 : World) (v : Value) (zs : List Pr) (g : Grew w w3) hr hp hz hd => join_turn (w3 := w3) (zs := zs) (v := v) h g hr hp hz hd hok)
  have HOK := hid (fun c hc => And.intro (Pl.ok_key (hok c hc).1) (hok c hc).2)
  have htb : tb < w.heap.size := tabAt_lt h _ (tabAt_foot h)
  have hob : ob < w.heap.size := tabAt_lt k _ (tabAt_foot k)
  have g18 : w.cell? ⟨17, 0, none⟩ = some (.iface 343 (.pointer (some (E 18)))) := hE.cell 18 hS18
  have b18 : 17 < w.heap.size := cell_lt g18
  obtain ⟨v1, h⟩ := h
  obtain ⟨v2, k⟩ := k
  obtain ⟨a1, c1, rfl, A1⟩ := pairsAt_of h.row
  obtain ⟨a2, c2, rfl, A2⟩ := pairsAt_of k.row
  have F1 := slForm_of h.row
  have F2 := slForm_of k.row
  have C1 := h.cell
  have C2 := k.cell
  have fz := h.fz
  have HC := hid (fun (W : World) (g : Grew w W) vb h1 h2 => concatP W vb a1 a2 c1 c2 xs ys h1 h2 (A1.grew g) (A2.grew g) F1 F2 (by omega) (by omega))
  clear h k hE A1 A2 F1 F2 hok
  have E1 := wd_cell C1
  have E2 := wd_cell C2
  go_enter Tryz.func146, Tryz.ntmps146
  go_wp2_with fail
  refine wp_region_mix 8 [] (Grew w) Eq (fun _ _ x => x = w.drew) (fun _ a => a) (by kernel_rfl) (by kernel_rfl) (fun _ _ => rfl) rfl (fun _ _ x h => by rw [h]; exact (Grew.refl w).drew) (fun _ => rfl) (fun _ _ _ _ h g => g ▸ h) ?_
  repeat (first
    | (refine wpMix_loose (by rfl) (by rfl) ?_)
    | (refine wpMix_plain (by rfl) (by rfl) (by rfl) (by first | exact Grew.refl | exact fun _ => rfl) (by rfl) ?_; intro K hK; go_big_quiet_op; go_big_quiet_on)
    | (refine wpMix_skip (by rfl) (by rfl) (by rfl) ?_; simp only [Act.put, List.setIfInBounds_toArray, List.set_cons_zero, List.set_cons_succ]))
  refine wpMix_done (by rfl) ⟨trivial, ?_⟩
  rintro f0 x rfl
  dsimp only [List.drop]
  go_wp2_with fail
  refine (HC.out _ (((Grew.refl w).drew).alloc _) w.heap.size (by simp [go_sem]) (by simp [go_sem])).mono ?_
  rintro e w1 ⟨a, cap, rfl, hr, hg⟩
  have hG1 : Grew w w1 := (((Grew.refl w).drew).alloc _).trans hg
  have hB1 : w.heap.size ≤ (w.drew.alloc (.cells #[.slice a1 xs.length c1, .slice a2 ys.length c2] 36)).heap.size := (((Grew.refl w).drew).alloc _).size
  have hr1 : w1.ownsRow w.heap.size 42 3 (.slice a (xs.length + ys.length) cap) (xs.length + ys.length) (prFlat (xs ++ ys)) := by
    refine ⟨hr.1, ?_⟩
    rcases hr.2 with h | ⟨b, c, cur, e1, h5, h6⟩
    · exact .inl h
    · exact .inr ⟨b, c, cur, e1, by simp at h5; omega, h6⟩
  have hnl : Hid (xs.length + ys.length = (xs ++ ys).length) := List.length_append.symm
  have hSort := hid (sortP_any w1 w.heap.size a (xs.length + ys.length) cap (xs ++ ys) hnl.out hr1 hx HOK.out)
  have hown : ∀ j, some j = Value.ownBlock (.slice a (xs.length + ys.length) cap) → w.heap.size ≤ j := fun j hj => (hr1.lt j hj.symm).1
  have HOWN := hid hown
  have HG1 := hid hG1
  clear hr hg hB1 hr1 hown hG1 HC E1 E2
  obtain ⟨L, hL⟩ : ∃ L, L = xs ++ ys := ⟨_, rfl⟩
  have HL := hid hL
  rw [← hL] at hSort hnl HEND HOK
  clear hL
  generalize xs.length + ys.length = n at *
  go_wp2_with fail
  refine hSort.out.mono ?_
  rintro e w2 ⟨rfl, hO, zs, hp, hz, hr2⟩
  have hG2 : Grew w w2 := ((HG1.out.only _).then hO).grew HOWN.out
  obtain ⟨a', cap', e', A2⟩ := pairsAt_of (show w2.ownsRow w.heap.size 42 3 (.slice a n cap) zs.length (prFlat zs) by rw [hp.length_eq, ← hnl.out]; exact hr2)
  cases e'
  have HA2 := hid A2
  have HR2 := hid hr2
  have HP := hid hp
  have HZ := hid hz
  have HG2 := hid hG2
  clear hr2 hp hz hO A2 hnl hSort HOWN
  have C1' := (hG2.cells.1 _ 0 htb).trans C1
  have fz' := (hG2.cells.2 _ 0 htb).trans fz
  have g18' := (hG2.cells.1 _ 0 b18).trans g18
  have htb' := Nat.lt_of_lt_of_le htb hG2.size
  have b18' := Nat.lt_of_lt_of_le b18 hG2.size
  have hzB : (zs.length : Int) ≤ 1000000 := by omega
  clear C1 C2 g18 hG2 fz
  go_wp2_with fail
  go_loopw [21] (fun i wr => ∃ k : Nat, k ≤ zs.length ∧ i = .int .i64 k ∧ Hid (∀ j, j + 1 < k → (prAt zs j).key ≠ (prAt zs (j + 1)).key) ∧ Grew w2 wr) (fun i _ => zs.length - (intOf i).toNat)
  case atStart => exact ⟨0, Nat.zero_le _, rfl, fun j hj => absurd hj (by omega), Grew.refl _⟩
  case round =>
    obtain ⟨k, hk1, rfl, HN, hGk⟩ := hrel
    have g18k := (hGk.cells.1 _ 0 b18').trans g18'
    by_cases hlt : k < zs.length
    · rcases HA2.out with h0 | ⟨b, off, rfl, hb, hR⟩
      · rw [h0] at hlt; simp at hlt
      have hltI : (k : Int) < (zs.length : Int) := by omega
      cases k with
      | zero =>
        clear hR
        go_wp2_with fail
        go_quiet (fail)
        all_goals (
          go_wp2_with fail
          go_roundw
          case rel => exact ⟨0 + 1, by omega, by go_num, fun j hj => absurd hj (by omega), hGk.drewN _⟩
          case measure => simp [intOf]; omega)
      | succ m =>
        have q0 := (hGk.cells.1 b (off + (m + 1) * 3) hb).trans (hR.key (m + 1) hlt)
        have p0 := (hGk.cells.1 b (off + m * 3) hb).trans (hR.key m (by omega))
        have HD : Hid ((prAt zs m).key = (prAt zs (m + 1)).key → Pl.dupN zs = true) := fun h => Pl.dup_some m hlt h
        have HN2 : Hid ((prAt zs m).key ≠ (prAt zs (m + 1)).key → ∀ j, j + 1 < m + 1 + 1 → (prAt zs j).key ≠ (prAt zs (j + 1)).key) := fun h j hj => by
          by_cases hjm : j = m
          · subst hjm; exact h
          · exact HN.out j (by omega)
        clear hR
        generalize (prAt zs m).key = x0 at *
        generalize (prAt zs (m + 1)).key = x1 at *
        have i2 : ((m : Int) + 1) - 1 = (m : Int) := by omega
        have i3 : (m : Int) < (zs.length : Int) := by omega
        have i5 : m < zs.length := by omega
        have i6 : IntKind.i64.wrap (m : Int) = (m : Int) := IntWalk.i64_in _ (by omega)
        have hd2 : decide ((0 : Int) < (m : Int) + 1) = true := decide_eq_true (by omega)
        by_cases heq : x0 = x1
        · have HDD := hid (HD.out heq)
          subst heq
          have hbb : (x0.toList == x0.toList) = true := beq_self_eq_true _
          go_wp2_with fail
          go_quiet (fail)
          all_goals (
            go_wp2_with fail
            go_ret
            exact ⟨zs, HL.out ▸ HP.out, HZ.out, .inl ⟨HDD.out, rfl, (HG2.out.trans hGk).drewN _⟩⟩)
        · have HNN := hid (HN2.out heq)
          have hbb : (x1.toList == x0.toList) = false := beq_eq_false_iff_ne.2 fun h => heq (toListJ_inj h).symm
          clear HD HN2
          go_wp2_with fail
          go_quiet (fail)
          all_goals (
            go_wp2_with fail
            go_roundw
            case rel => exact ⟨m + 1 + 1, by omega, by go_num, HNN, hGk.drewN _⟩
            case measure => simp [intOf]; omega)
    · obtain rfl : k = zs.length := by omega
      have HDD : Hid (Pl.dupN zs = false) := Pl.dup_none fun i hi => HN.out i hi
      have HTT := hid (HEND.out wr _ zs (HG2.out.trans hGk) (ownsRow_grew hGk HR2.out) HP.out HZ.out HDD.out)
      have C1k := (hGk.cells.1 _ 0 htb').trans C1'
      have fk := (hGk.cells.2 _ 0 htb').trans fz'
      clear C1' fz'
      go_wp2_with fail
      go_ret
      exact ⟨zs, HL.out ▸ HP.out, HZ.out, .inr ⟨HDD.out, rfl, HTT.out⟩⟩
end Go.Proofs.YtbdagllflamabaaGreatDoor
set_option linter.unusedVariables false
set_option linter.unusedSectionVars false
set_option linter.unusedSimpArgs false
namespace Go.Proofs.YtbdagllflamabaaGreatDoor
open Go.RowKit Go.Maps Go.Shelf
attribute [local go_sem] Oper.semAt_some
theorem cell_same {w w' : World} {b : Nat} (e : w'.heap[b]? = w.heap[b]?) (o : Nat) : w'.cell? ⟨b, o, none⟩ = w.cell? ⟨b, o, none⟩ := by simp [World.cell?, e]
theorem LMap.blk {w w' : World} {P : Program} {k : TypeId} {b n : Nat} {f : Lit → Option Value} (h : LMap w P k b n f) (e : w'.heap[b]? = w.heap[b]?) : LMap w' P k b n f := by
  obtain ⟨D, ⟨es, clock, h1, h2⟩, hf⟩ := h
  exact ⟨D, ⟨es, clock, e.trans h1, h2⟩, hf⟩
set_option maxRecDepth 100000 in
set_option maxHeartbeats 4000000 in
theorem rising_stops2 (n : Nat) (hn : 7 ≤ n) (Kp : World → World → Prop) {w : World} {F : Nat → Prop} {Bs sb mb nn : Nat} {f : Lit → Option Value} {S : Int → Option An} (h : SeenIs w F sb mb nn f S) (hnn : nn ≤ 1000000) (hBs : w.cell? ⟨Bs, 0, none⟩ = some (.pointer (some ⟨sb, 0, none⟩)))
    (hKt : ∀ {A B C : World}, Kp A B → Kp B C → Kp A C) (hKb : ∀ A B, Kp A B → B.heap[sb]? = A.heap[sb]? ∧ B.heap[mb]? = A.heap[mb]?)
    (hKc : ∀ W1 W2, Below w.heap.size w W1 → Kp W1 W2 → W2.cell? ⟨Bs, 0, none⟩ = some (.pointer (some ⟨sb, 0, none⟩)))
    (hKr : ∀ W W1 W2, Below w.heap.size w W → Below W.heap.size W W1 → Kp W1 W2 → ∀ (b : Nat) (o : Obj), W.heap.size ≤ b → W1.heap[b]? = some o → o.isCells = true → W2.heap[b]? = some o) :
    SeqStopsK Fence.wide n Tryz.prog 192 #[.pointer (some ⟨Bs, 0, none⟩)] encCl Kp (fun xs => xs.map Subtype.val = clients S) (fun _ => True) 4 w := by
  intro l J Jx W hW hJa hJxa hY h0
  have hG : Grew w W := hW
  have hsn : SeenIs W F sb mb nn f S := h.kept (hG.only fun _ => False) (fun _ _ h => h)
  have hBs' := (hG.cells.1 _ 0 (cell_lt hBs)).trans hBs
  have hc0 := hsn.c0
  have HSN := hid hsn
  have HKY := hid (fun mb W => (callsIn_wide (n := n - 1)).2 ((callsIn_wide (n := 5)).1 (AnyZI.keys_in Tryz.keysCl Fence.wide 5 trivial rfl mb W)))
  change Hid (∀ (mb' : Option Nat) (W : World), CallsIn Fence.wide (n - 1) Tryz.prog 194 #[.map mb'] W fun e w' => e = .returned (.func (.func 206) #[] #[.pointer (some ⟨W.heap.size, 0, none⟩)]) ∧ w' = W.alloc (.cells #[.map mb'] 213)) at HKY
  have gA : Grew W (W.alloc (.cells #[.map (some mb)] 213)) := (Grew.refl W).alloc _
  have HSO := hid ((callsIn_wide (n := n - 1)).2 ((callsIn_wide (n := 5)).1 (sortedCl_any (W.alloc (.cells #[.map (some mb)] 213)) mb nn f (hsn.lm.grew gA) hnn W.heap.size (by simp [go_sem]))))
  have hok := h.ok
  obtain ⟨xs, hxs⟩ := clients_list hok
  have hval := h.val
  have HXS := hid hxs
  have HMEM := hid (fun (ks : List Int) (hr : ks.Pairwise fun a b => a < b) (hm : ∀ c, c ∈ ks ↔ f (clit c) ≠ none) => show ks = xs.map (fun x => x.1.1) from by
    have e : xs.map (fun x => x.1.1) = (clients S).map (·.1) := by rw [← hxs, List.map_map]; rfl
    rw [e]
    refine rise_eq hr (clients_rise S) fun c => ?_
    rw [hm, hval, List.mem_map]
    constructor
    · intro hc
      cases hS : S c with
      | none => rw [hS] at hc; exact absurd rfl hc
      | some a => exact ⟨(c, a), mem_clients.2 ⟨by have := hok c a hS; omega, hS⟩, rfl⟩
    · rintro ⟨⟨d, a⟩, hd, rfl⟩
      rw [(mem_clients.1 hd).2]
      simp)
  have hxl : xs.length ≤ 4 := by have := congrArg List.length hxs; rw [List.length_map] at this; have := clients_len S; omega
  have HAT := hid (fun (x : ClK) (hx : x ∈ xs) => show S x.1.1 = some x.1.2 from by
    have : x.1 ∈ clients S := by rw [← hxs]; exact List.mem_map.2 ⟨x, hx, rfl⟩
    exact (mem_clients.1 this).2)
  have hfK : Fence.wide.fn 194 := trivial
  have hfS : Fence.wide.fn 193 := trivial
  clear hsn hG hxs hval hok gA
  refine callsIn_of_wp Tryz.func192 rfl trivial ?_ rfl
  simp only [Tryz.ntmps192, List.size_toArray, List.length_cons, List.length_nil, Nat.reduceAdd, Nat.reduceSub, Array.replicate_succ, Array.replicate_zero, List.push_toArray, List.append_toArray, List.nil_append, List.cons_append]
  gi_wp2
  refine ⟨fun _ => by omega, (HKY.out _ _).mono ?_⟩
  rintro e w' ⟨rfl, rfl⟩
  gi_wp2
  refine ⟨fun _ => by omega, HSO.out.mono ?_⟩
  rintro e W1 ⟨v, ks, rfl, hr, hm, hl, hrow, hb⟩
  have hks := HMEM.out ks hr hm
  subst hks
  have hBW : Below W.heap.size W W1 := (((Grew.refl W).alloc (.cells #[.map (some mb)] 213)).trans hb : Grew W W1)
  have HBW := hid hBW
  have hJ0 : J [] W1 := hJa [] W W1 none h0 ⟨hBW.os, hBW.tape, hBW.output, hBW.size, fun k hk _ => hBW.block k hk⟩ (fun r e => by cases e)
  rw [List.length_map] at hrow
  obtain ⟨m, hm'⟩ : ∃ m, m = xs.length := ⟨_, rfl⟩
  have HMX := hid hm'
  have hform : ∃ ao cap, v = .slice ao m cap := by
    rw [hm']
    rcases hrow.2 with ⟨h1, h2⟩ | ⟨b, c, cur, h1, _⟩
    · exact ⟨none, 0, by rw [h1, h2]⟩
    · exact ⟨_, _, h1⟩
  obtain ⟨ao, cap, rfl⟩ := hform
  have HROW := hid hrow
  have HJ0 := hid hJ0
  have hm4 : m ≤ 4 := by omega
  clear hrow hm hr hl hb hJ0 hm' HMEM hBW h0 HKY HSO
  gi_wp2
  gi_loopw [4, 12] (fun u i wr => ∃ k : Nat, k ≤ m ∧ i = .int .i64 k ∧ Hid (J (xs.take k) wr) ∧ Hid (wr = W1 ∨ Kp W1 wr)) (fun _ i _ => m - (intOf i).toNat)
  case atStart => exact ⟨0, Nat.zero_le _, rfl, by unfold Hid; simpa using HJ0.out, .inl rfl⟩
  case round =>
    obtain ⟨k, hk, rfl, HJ, HC⟩ := hrel
    have hBl : wr.heap[sb]? = W.heap[sb]? ∧ wr.heap[mb]? = W.heap[mb]? := by
      have h0 : W1.heap[sb]? = W.heap[sb]? ∧ W1.heap[mb]? = W.heap[mb]? := ⟨HBW.out.block sb (cell_lt hc0), HBW.out.block mb HSN.out.lm.lt⟩
      rcases HC.out with rfl | hk'
      · exact h0
      · exact ⟨(hKb _ _ hk').1.trans h0.1, (hKb _ _ hk').2.trans h0.2⟩
    have d0 : wr.cell? ⟨Bs, 0, none⟩ = some (.pointer (some ⟨sb, 0, none⟩)) := by
      rcases HC.out with rfl | hk'
      · exact (HBW.out.cell (p := ⟨Bs, 0, none⟩) (cell_lt hBs')).trans hBs'
      · exact hKc W1 wr (hW.trans (HBW.out.mono hW.size)) hk'
    have d1 := (cell_same hBl.1 0).trans hc0
    have HLM := hid (HSN.out.lm.blk hBl.2)
    by_cases hlt : k < m
    · obtain ⟨x, hx⟩ : ∃ x, x = xs[k]'(by rw [← HMX.out]; exact hlt) := ⟨_, rfl⟩
      have hxm : x ∈ xs := by rw [hx]; exact List.getElem_mem _
      have hrow := HROW.out
      rw [← HMX.out] at hrow
      obtain ⟨zb, capz, cur, e1, hzb, hheap, hz1, hz2, hz3, hz4⟩ := ownsRow_block hrow (by omega)
      have hzW : W.heap.size ≤ zb := Nat.le_trans (by simp) hzb
      have hheap' : wr.heap[zb]? = some (.cells cur.toArray 3 (0, 0)) := by
        rcases HC.out with rfl | hk'
        · exact hheap
        · exact hKr W W1 wr hW HBW.out hk' zb _ hzW hheap rfl
      have hcell : wr.cell? ⟨zb, k, none⟩ = some (.int .i64 x.1.1) := by
        have h5 : cur[k]? = some (.int .i64 x.1.1) := by
          have h6 : (cur.take (m * 1))[k]? = cur[k]? := by rw [List.getElem?_take, if_pos (by omega)]
          rw [← h6, hz4, List.map_map, List.getElem?_map, List.getElem?_eq_getElem (by rw [← HMX.out]; exact hlt), ← hx]
          rfl
        rw [cell_block hheap' k, h5]
      cases e1
      have hzlt : zb < wr.heap.size := (Array.getElem?_eq_some_iff.1 hheap').1
      have hlk : (Instr.lookup 213 (.map (some mb)) (.int .i64 x.1.1) false).run Tryz.prog wr = .ok x.1.2.agg wr := by
        have h7 := HLM.out.lookup cl_keyed Tryz.underlying213 (zero_last wr) (keyOf_int_mk Tryz.underlying3 (clit_wf (c := x.1.1) (by have := x.2.1; omega) (by have := x.2.2.1; omega)))
        rw [show (Lit.int .i64 x.1.1) = clit x.1.1 from rfl, HSN.out.val, HAT.out x hxm] at h7
        exact h7
      have htk : xs.take (k + 1) = xs.take k ++ [x] := by rw [List.take_succ_eq_append_getElem (by rw [← HMX.out]; exact hlt), hx]
      have HTK := hid htk
      obtain ⟨fn, tmps, assign, body, hy, hR⟩ := hY (xs.take k) x wr HJ.out (by rw [List.length_take]; omega)
      unfold encCl at hy
      have HKP := hid (fun W3 (hk3 : Kp wr W3) => show wr = W1 ∧ Kp W1 W3 ∨ Kp W1 W3 from by
        rcases HC.out with rfl | hk'
        · exact .inl ⟨rfl, hk3⟩
        · exact .inr (hKt hk' hk3))
      clear hrow hheap hheap' hz1 hz2 hz3 hz4 hzb hzW hx hxm htk hBl
      gi_wp2
      refine ⟨fun _ => by omega, hR.mono ?_⟩
      rintro e W3 (⟨rfl, hJ3, hk3⟩ | ⟨rfl, hJx3⟩)
      · have HJ3 := hid hJ3
        have HK3 := hid (HKP.out W3 hk3)
        clear hJ3 hk3
        gi_wp2
        go_roundw
        case rel => exact ⟨k + 1, by omega, by go_num, by unfold Hid; rw [HTK.out]; exact HJ3.out, by rcases HK3.out with ⟨_, h⟩ | h <;> exact .inr h⟩
        case measure => simp [intOf]; omega
      · gi_wp2
        refine bodyPost_ret (results_none rfl _ _ _) rfl ?_
        exact ⟨⟨_, rfl⟩, .inr ⟨_, trivial, hJx3⟩⟩
    · have hkm : k = m := by omega
      subst hkm
      have hJE : J xs wr := by have := HJ.out; rwa [HMX.out, List.take_length] at this
      have HJE := hid hJE
      clear hJE hBl
      gi_wp2
      go_end0
      exact ⟨⟨_, rfl⟩, .inl ⟨xs, HXS.out, HJE.out⟩⟩
end Go.Proofs.YtbdagllflamabaaGreatDoor
namespace Go.Proofs.YtbdagllflamabaaGreatDoor
open Go
section
variable {F : Fence} {n l : Nat} {P : Program} {ops : Array Oper} {Q : Exit → Act → World → Prop} {md : Region.Mode}
theorem opIn_round {o : Oper} {a : Act} {w : World} {next : Act → World → Prop} (hnd : ∀ c, o.op ≠ .defer c) (h : o.wpIn F n P a w next Q) : o.wpIn (F.inRound l) n P a w next Q := by
  obtain ⟨h1, h2⟩ := h
  refine ⟨h1, ?_⟩
  rw [Oper.semAt_plain _ _ _ hnd] at h2 ⊢
  exact h2
theorem anyIn_round (hnd : ∀ (i : Nat) (o : Oper), ops[i]? = some o → ∀ c : Call, o.op ≠ .defer c) : ∀ (fuel : Nat) (listed : Array Bool) (a : Act) (w : World), wpAnyIn F n P md ops Q fuel listed a w → wpAnyIn (F.inRound l) n P md ops Q fuel listed a w
  | 0, _, _, _, h => h
  | fuel + 1, listed, a, w, h => by
    refine ⟨h.1, fun i hi => ?_⟩
    have h2 := h.2 i hi
    unfold wpOpIn at h2 ⊢
    cases ho : ops[i]? with
    | none =>
      rw [ho] at h2
      exact anyIn_round hnd fuel _ a w h2
    | some o =>
      rw [ho] at h2
      dsimp only at h2 ⊢
      split
      · rename_i hw
        rw [if_pos hw] at h2
        exact opIn_round (hnd i o ho) (Oper.wpIn_mono (fun a w h => anyIn_round hnd fuel _ a w h) h2)
      · rename_i hw
        rw [if_neg hw] at h2
        exact ⟨h2.1, anyIn_round hnd fuel _ _ w h2.2⟩
def noDefer (ops : Array Oper) : Bool := ops.all fun o => match o.op with | .defer _ => false | _ => true
theorem noDefer_spec (h : noDefer ops = true) (i : Nat) (o : Oper) (ho : ops[i]? = some o) (c : Call) : o.op ≠ .defer c := by
  intro e
  unfold noDefer at h
  rw [Array.all_eq_true] at h
  obtain ⟨hi, rfl⟩ := Array.getElem?_eq_some_iff.1 ho
  have := h i hi
  rw [e] at this
  cases this
theorem region_quiet_round {C : World → Prop} {id : Nat} {a : Act} {w : World} (hro : F.round = none) (hm : P.follows .mixedOrders = true) (hB : Region.lexB .any ops = true) (hd : noDefer ops = true) (hC : C { w with drawn := w.drawn + 1 })
    (h : wpQuietIn F n P ops C (fun a' => ∀ w', C w' → Q .normal a' w') ops.toList a) : (Code.region id ops true).wpIn (F.inRound l) n P Q a w := by
  unfold Region.lexB at hB
  rw [Bool.and_eq_true] at hB
  obtain ⟨hs, hx⟩ := hB
  have h1 : wpAnyQIn F n P .any ops C (fun a' => ∀ w', C w' → Q .normal a' w') ops.toList.length (Array.replicate ops.size false) a :=
    wpAnyQIn_lex hs ops.toList 0 _ a (by simp) (by simpa using hx) h
  refine wpIn_region_any hm (anyIn_round (noDefer_spec hd) _ _ _ _ ?_)
  exact wpAnyIn_of_quiet (Q := fun a' => ∀ w', C w' → Q .normal a' w') hro (fun _ w' hw' h => h w' hw') _ _ _ _ hC (by simpa using h1)
end
end Go.Proofs.YtbdagllflamabaaGreatDoor
