/- PlanC, Lgc, News, PkB, CloneU8: one text. -/
import Derived.Test.YtlgcdneiebjkcaaGreatDoorFinServeNewQ3
import Derived.Test.YtlgcdneiebjkcaaGreatDoorFinServeNewQ4
import Derived.Deep.Upon
import Derived.Test.YtlgcdneiebjkcaaGreatDoorFinServeNewQ1
import Derived.Laws.BytesArg
import Derived.Lib.AppendStr
import Derived.Deep.AppendLies
import Derived.Lib.AppendZeros
set_option linter.unusedVariables false
set_option linter.unusedSectionVars false
set_option linter.unusedSimpArgs false
namespace Go.Proofs.YtlgcdneiebjkcaaGreatDoor
open Go.RowKit Go.Maps
attribute [local go_sem] Oper.semAt_some uponV
def IntV (W : World) (v : Value) (c : List Int) : Prop := ∃ a cap, v = .slice a c.length cap ∧ IntsAt W a c ∧ SlForm a cap
def IntV.In (P : Nat → Prop) (v : Value) (c : List Int) : Prop := c ≠ [] → ∀ b off n k, v = .slice (some ⟨b, off, none⟩) n k → P b
theorem IntV.kept {S : Nat → Prop} {W W' : World} {v : Value} {c : List Int} (h : IntV W v c) (g : Only S W W') (hS : IntV.In (fun b => ¬ S b) v c) : IntV W' v c := by
  obtain ⟨a, cap, rfl, h1, h2⟩ := h
  refine ⟨a, cap, rfl, ?_, h2⟩
  by_cases hc : c = []
  · exact .inl hc
  · exact h1.kept g fun b off e => hS hc b off _ _ (by rw [e])
theorem IntV.grew {W W' : World} {v : Value} {c : List Int} (h : IntV W v c) (g : Grew W W') : IntV W' v c := h.kept (g.only fun _ => False) (fun _ _ _ _ _ _ h => h)
theorem IntV.lt {W : World} {v : Value} {c : List Int} (h : IntV W v c) : IntV.In (fun b => b < W.heap.size) v c := by
  obtain ⟨a, cap, rfl, h1, _⟩ := h
  intro hc b off n k e
  injection e with e
  rcases h1 with h | ⟨b', off', e', hb, _⟩
  · exact absurd h hc
  · rw [e] at e'; cases e'; exact hb
theorem intV_of {W : World} {B : Nat} {a : Option Addr} {c' : Nat} {c : List Int} (h : W.ownsRow B 3 1 (.slice a c.length c') c.length (intFlat c)) : IntV W (.slice a c.length c') c ∧ IntV.In (fun b => B ≤ b) (.slice a c.length c') c := by
  obtain ⟨a2, c2, e2, h2, h3⟩ := intsAt_row h
  injection e2 with e2 _ e3
  subst e2 e3
  refine ⟨⟨a, c', rfl, h2, h3⟩, fun hc b off n k e => ?_⟩
  injection e with e
  subst e
  rcases h.2 with ⟨q, _⟩ | ⟨b', cap, cur, q, hB, _⟩
  · injection q with q; cases q
  · injection q with q; cases q; exact hB
def ChsAt (W : World) (a : Option Addr) (cs : List (List Int)) : Prop := cs = [] ∨ ∃ b off, a = some ⟨b, off, none⟩ ∧ b < W.heap.size ∧ ∀ (j : Nat) (c : List Int), cs[j]? = some c → ∃ v, W.cell? ⟨b, off + j, none⟩ = some v ∧ IntV W v c
theorem ChsAt.grew {W W' : World} {a : Option Addr} {cs : List (List Int)} (h : ChsAt W a cs) (g : Grew W W') : ChsAt W' a cs := by
  rcases h with h | ⟨b, off, rfl, hb, h⟩
  · exact .inl h
  · refine .inr ⟨b, off, rfl, Nat.lt_of_lt_of_le hb g.size, fun j c hj => ?_⟩
    obtain ⟨v, h1, h2⟩ := h j c hj
    exact ⟨v, (g.cells.1 _ _ hb).trans h1, h2.grew g⟩
theorem info_ints : (Tryz.prog.info? 32).map (fun i => (i.zero, i.size, i.bytes)) = some (some (.slice none 0 0), 1, 24) := by kernel_rfl
def RowI (W : World) (B : Nat) (v : Value) (cs : List (List Int)) : Prop := ∃ fl : List Value, W.ownsRow B 32 1 v cs.length fl ∧ ∀ (j : Nat) (c : List Int), cs[j]? = some c → ∃ u, fl[j]? = some u ∧ IntV W u c ∧ IntV.In (fun b => B ≤ b ∧ v.ownBlock ≠ some b) u c
theorem RowI.nil (W : World) (B : Nat) : RowI W B (.slice none 0 0) [] := ⟨[], World.ownsRow_nil _ _ _ _, fun j c h => by simp at h⟩
theorem RowI.snoc {W x0 u Z : World} {B ob : Nat} {v x : Value} {cs : List (List Int)} {c : List Int} {g gc n : Nat} {fl : List Value} (hn : n = cs.length) (h1 : W.ownsRow B 32 1 v n fl) (h2 : u.ownsRow 0 32 1 (.slice (some ⟨g, 0, none⟩) (n + 1) gc) (n + 1) (fl ++ [x])) (h3 : ∀ (j : Nat) (c : List Int), cs[j]? = some c → ∃ u, fl[j]? = some u ∧ IntV W u c ∧ IntV.In (fun b => B ≤ b ∧ v.ownBlock ≠ some b) u c)
    (g0 : Grew W x0) (hx : IntV x0 x c) (hxi : IntV.In (fun b => W.heap.size ≤ b) x c) (ho : Only (fun j => some j = v.ownBlock) x0 u) (hg : v.ownBlock = some g ∨ g = x0.heap.size) (hB : B ≤ W.heap.size) (oZ : Only (fun j => j = ob) u Z) (hob : ob < B) : RowI Z B (.slice (some ⟨g, 0, none⟩) (n + 1) gc) (cs ++ [c]) := by
  subst hn
  have hlen : fl.length = cs.length := by have := h1.1; omega
  have hgB : B ≤ g := by
    rcases hg with e | e
    · exact (h1.lt g e).1
    · have := g0.size; omega
  have hgu := (h2.lt g rfl).2
  have hself : ∀ b, (Value.slice (some ⟨g, 0, none⟩) (cs.length + 1) gc).ownBlock = some b ↔ b = g := fun b => by simp [Value.ownBlock]; exact eq_comm
  refine ⟨fl ++ [x], ?_, ?_⟩
  · rw [show (cs ++ [c]).length = cs.length + 1 by simp]
    have := ownsRow_kept h2 oZ (fun b hb e => by have := (hself b).1 hb; omega)
    refine ⟨this.1, ?_⟩
    rcases this.2 with ⟨q, _⟩ | ⟨b, cap, cur, q, _, q2⟩
    · injection q with q; cases q
    · refine .inr ⟨b, cap, cur, q, ?_, q2⟩
      injection q with q; cases q; exact hgB
  · intro j c' hj
    by_cases hjl : j < cs.length
    · rw [List.getElem?_append_left hjl] at hj
      obtain ⟨w1, e1, e2, e3⟩ := h3 j c' hj
      have e4 := e2.lt
      refine ⟨w1, by rw [List.getElem?_append_left (by omega)]; exact e1, ((e2.grew g0).kept ho fun hc b off n k e q => (e3 hc b off n k e).2 q.symm).kept oZ fun hc b off n k e q => by have := (e3 hc b off n k e).1; omega, fun hc b off n k e => ⟨(e3 hc b off n k e).1, fun q => ?_⟩⟩
      have q := (hself b).1 q
      rcases hg with hg | hg
      · exact (e3 hc b off n k e).2 (by rw [hg, q])
      · have := e4 hc b off n k e; have := g0.size; omega
    · have hjc : j = cs.length := by have := (List.getElem?_eq_some_iff.1 hj).1; simp at this; omega
      subst hjc
      rw [List.getElem?_append_right (by omega)] at hj
      simp at hj
      subst hj
      have e4 := hx.lt
      refine ⟨x, by rw [List.getElem?_append_right (by omega), hlen]; simp, (hx.kept ho fun hc b off n k e q => ?_).kept oZ fun hc b off n k e q => ?_, fun hc b off n k e => ⟨?_, fun q => ?_⟩⟩
      · have h5 := hxi hc b off n k e
        have := (h1.lt b q.symm).2; omega
      · have h5 := hxi hc b off n k e; omega
      · have h5 := hxi hc b off n k e; omega
      · have q := (hself b).1 q
        have h5 := hxi hc b off n k e
        rcases hg with hg | hg
        · have := (h1.lt g hg).2; omega
        · have := e4 hc b off n k e; omega
theorem RowI.low {W Z : World} {B C ob : Nat} {v : Value} {cs : List (List Int)} (h : RowI W B v cs) (o : Only (fun j => j = ob) W Z) (hob : ob < B) (hC : C ≤ B) : RowI Z C v cs := by
  obtain ⟨fl, h1, h2⟩ := h
  refine ⟨fl, ownsRow_base hC (ownsRow_kept h1 o fun b hb e => by have := (h1.lt b hb).1; omega), fun j c hj => ?_⟩
  obtain ⟨u, h3, h4, h5⟩ := h2 j c hj
  exact ⟨u, h3, h4.kept o fun hc b off n k e q => (by have := (h5 hc b off n k e).1; omega), fun hc b off n k e => ⟨Nat.le_trans hC (h5 hc b off n k e).1, (h5 hc b off n k e).2⟩⟩
theorem RowI.at {W : World} {B : Nat} {v : Value} {cs : List (List Int)} (h : RowI W B v cs) : ∃ a cap, v = .slice a cs.length cap ∧ ChsAt W a cs ∧ SlForm a cap := by
  obtain ⟨fl, h1, h2⟩ := h
  rcases h1.2 with ⟨rfl, h0⟩ | ⟨b, cap, cur, rfl, _, hb, _⟩
  · exact ⟨none, 0, by rw [h0], .inl (List.eq_nil_of_length_eq_zero h0), .inl ⟨rfl, rfl⟩⟩
  · refine ⟨_, _, rfl, ?_, .inr ⟨_, _, rfl⟩⟩
    refine .inr ⟨b, 0, rfl, (Array.getElem?_eq_some_iff.1 hb).1, fun j c hj => ?_⟩
    obtain ⟨u, hu, hv, _⟩ := h2 j c hj
    refine ⟨u, ?_, hv⟩
    have := h1.cells (g := b) rfl j u hu
    rwa [Addr.add_lit] at this
structure CpI (w Y : World) (e : Int) (cs : List (List Int)) (k : Nat) (v : Value) (wr : World) : Prop where
  grew : Grew w wr
  size : Y.heap.size ≤ wr.heap.size
  c0 : wr.cell? ⟨w.heap.size + 1 + 1, 0, none⟩ = some (.int .i64 e)
  c1 : wr.cell? ⟨w.heap.size + 1 + 1, 1, none⟩ = some v
  f1 : wr.frozen? ⟨w.heap.size + 1 + 1, 1, none⟩ = false
  r0 : wr.cell? ⟨w.heap.size + 1, 0, none⟩ = some (.int .i64 0)
  r1 : wr.cell? ⟨w.heap.size + 1, 1, none⟩ = some (.slice none 0 0)
  rf : ∀ i, wr.frozen? ⟨w.heap.size + 1, i, none⟩ = false
  row : RowI wr Y.heap.size v (cs.take k)
set_option maxRecDepth 100000 in
set_option maxHeartbeats 8000000 in
theorem planCopy_any (w : World) (e : Int) (a : Option Addr) (cap : Nat) (cs : List (List Int)) (hA : ChsAt w a cs) (hn : cs.length ≤ 1000) (hc : ∀ c ∈ cs, c.length ≤ 100000) :
    Calls Tryz.prog 22 #[.agg #[.int .i64 e, .slice a cs.length cap]] w fun r w' => Grew w w' ∧ ∃ v, r = .returned (.agg #[.int .i64 e, v]) ∧ RowI w' w.heap.size v cs := by
  obtain ⟨i0, hi0, hz0, hz1, hz2⟩ := info_parts info_ints
  have HA := hid hA
  have HC := hid hc
  clear hA hc
  go_enter Tryz.func22, Tryz.ntmps22
  go_wp2_with fail
  obtain ⟨Y, hY⟩ : ∃ Y, Y = ((w.alloc (.cells #[.int .i64 e, .slice a cs.length cap] 39)).alloc (.cells #[.int .i64 0, .slice none 0 0] 39)).alloc (.cells #[.int .i64 e, .slice none 0 0] 39) := ⟨_, rfl⟩
  have gY : Grew w Y := by rw [hY]; exact (((Grew.refl w).alloc _).alloc _).alloc _
  have hsz : Y.heap.size = w.heap.size + 3 := by rw [hY]; simp
  have y0 : Y.cell? ⟨w.heap.size + 1 + 1, 0, none⟩ = some (.int .i64 e) := by rw [hY]; simp [go_sem]
  have y1 : Y.cell? ⟨w.heap.size + 1 + 1, 1, none⟩ = some (.slice none 0 0) := by rw [hY]; simp [go_sem]
  have yf : Y.frozen? ⟨w.heap.size + 1 + 1, 1, none⟩ = false := by rw [hY]; simp [go_sem]
  have r0 : Y.cell? ⟨w.heap.size + 1, 0, none⟩ = some (.int .i64 0) := by rw [hY]; simp [go_sem]
  have r1 : Y.cell? ⟨w.heap.size + 1, 1, none⟩ = some (.slice none 0 0) := by rw [hY]; simp [go_sem]
  have rf : ∀ i, Y.frozen? ⟨w.heap.size + 1, i, none⟩ = false := fun i => by rw [hY]; simp [go_sem]
  have h0 : CpI w Y e cs 0 (.slice none 0 0) Y := ⟨gY, Nat.le_refl _, y0, y1, yf, r0, r1, rf, RowI.nil _ _⟩
  rw [← hY]
  have H0 := hid h0
  have HSZ := hid hsz
  clear hY gY y0 y1 yf r0 r1 rf h0 hsz
  go_loopw [5, 12] (fun _ i wr => ∃ (k : Nat) (v : Value), i = .int .i64 k ∧ k ≤ cs.length ∧ Hid (CpI w Y e cs k v wr)) (fun _ i _ => cs.length - (intOf i).toNat)
  case atStart => exact ⟨0, _, rfl, Nat.zero_le _, H0⟩
  case round =>
    obtain ⟨k, v, rfl, hk, HI⟩ := hrel
    by_cases hlt : k < cs.length
    · rcases HA.out with h0 | ⟨b, off, rfl, hb, hR⟩
      · rw [h0] at hlt; simp at hlt
      obtain ⟨u, hu1, hu2⟩ := hR k cs[k] (List.getElem?_eq_getElem hlt)
      have hcl := HC.out _ (List.getElem_mem hlt)
      have htk : cs.take (k + 1) = cs.take k ++ [cs[k]] := List.take_succ_eq_append_getElem hlt
      obtain ⟨ua, uc, rfl, hu3, hu4⟩ := hu2
      have q0 := (HI.out.grew.cells.1 b (off + k) hb).trans hu1
      generalize hcc : cs[k] = c at *
      have HU := hid (And.intro hu3 hu4)
      have HTK := hid htk
      obtain ⟨va, vc, rfl, _, _⟩ := HI.out.row.at
      have hlen : (cs.take k).length = k := by rw [List.length_take]; omega
      rw [hlen] at HI
      have c1 := HI.out.c1
      have hob := cell_lt c1
      have hsz := HSZ.out
      obtain ⟨fl, fl1, fl2⟩ := HI.out.row
      rw [hlen] at fl1
      have hne : ¬ some (w.heap.size + 1 + 1) = Value.ownBlock (.slice va k vc) := fun q => by
        have := (fl1.lt _ q.symm).1
        omega
      have FL1 := hid fl1
      have FL2 := hid fl2
      clear hR hu1 hu3 hu4 htk hcc fl1 fl2
      go_wp2_with fail
      have C1 := wd_only (S := fun j => some j = Value.ownBlock (.slice va k vc)) c1 hne
      refine wp_region_mixS 6 [3, 4, 5] (Only (fun j => some j = Value.ownBlock (.slice va k vc)) wr) Eq (JA 3 4 5 (fun _ => none) 32 1 wr (fun r x => IntV x r c ∧ IntV.In (fun b => wr.heap.size ≤ b) r c) (fun r => [r]) (.slice va k vc) k fl) (fun f a => ((a.put (some 19) (f 3)).put (some 20) (f 4)).put (some 21) (f 5)) (by kernel_rfl) (by kernel_rfl) (fun _ _ => rfl) (JA.start _) (fun _ _ _ h => h.only) (fun _ => rfl) (fun _ _ _ _ h g => g ▸ h) ?_
      repeat (first
    | refine mxL ?_
    | (refine mxP ?_; intros; go_big_quiet_op; go_big_quiet_on)
    | (refine mxK ?_; simp only [Act.put, List.setIfInBounds_toArray, List.set_cons_zero, List.set_cons_succ]))
      refine mixS_done (by rfl) ⟨⟨loose_of rfl (fun _ a => a) (fun _ _ => rfl) (fun _ => rfl) ?_, loose_of rfl (fun f a => a.put (some 19) (f 3)) (fun _ _ => rfl) (fun _ => rfl) ?_, loose_of rfl (fun f a => (a.put (some 19) (f 3)).put (some 20) (f 4)) (fun _ _ => rfl) (fun _ => rfl) ?_, trivial⟩, ?_⟩
      · intro L f x hJ hL hd
        obtain ⟨hg, hp⟩ := hJ.atCall hL
        have HP := hid hp
        clear hJ hL hd hp C1
        go_simp
        refine (cloneI_any x ua c.length uc c rfl (HU.out.1.grew (HI.out.grew.trans hg)) HU.out.2 (by omega)).mono ?_
        rintro r x' ⟨a', c', rfl, hr, hg2⟩
        obtain ⟨i1, i2⟩ := intV_of hr
        exact ⟨_, rfl, HP.out _ _ hg2 ⟨i1, fun hc b off n k e => Nat.le_trans hg.size (i2 hc b off n k e)⟩⟩
      · intro L f x hJ hL hd
        have hc : L 3 = true := hd 3 rfl (by decide)
        obtain ⟨hg, hr, hp⟩ := hJ.atMake hL hc (fun _ _ _ h g => ⟨h.1.grew g, h.2⟩)
        obtain ⟨ra, rc, e3, _⟩ := hr.1
        rw [e3] at hp ⊢
        have HP := hid hp
        clear hJ hL hd hp hr C1 e3
        go_simp
        exact HP.out
      · intro L f x hJ hL hd
        have h4 : L 4 = true := hd 4 rfl (by decide)
        obtain ⟨hg, hr, ⟨kb, e4, hkb⟩, hp⟩ := hJ.atApp hL h4
        obtain ⟨ra, rc, e3, _⟩ := hr.1
        rw [e4]
        rw [e3] at hkb hp
        rw [e3]
        have fl1 := FL1.out
        refine uponV_append _ _ _ rfl 32 i0 _ 1 24 Tryz.underlying37 hi0 hz0 hz1 hz2 rfl (by omega) (.slice va k vc) k _ rfl (ownsRow_zero (ownsRow_grew hg fl1)) kb 1 _ rfl rfl hkb (fun v hv => by rw [List.mem_singleton.1 hv]; rfl) (by unfold maxLen; omega) (by omega) ?_
        intro r w' hD
        exact hp _ _ hD
      intro f x hJ
      obtain ⟨x0, gx0, ⟨hv, hvi⟩, hD⟩ := hJ.ha rfl
      obtain ⟨g, gc, e5, hrow, hgb, hgo⟩ := hD
      obtain ⟨ra, rc, e3, _⟩ := hv
      rw [e5, e3]
      rw [e3] at hrow hvi
      have hv : IntV x0 (.slice ra c.length rc) c := ⟨ra, rc, rfl, by assumption⟩
      have ho1 : Only (fun j => some j = Value.ownBlock (.slice va k vc)) wr x := hJ.only
      have x1 := (ho1.cell hob hne 1).trans c1
      have xf := (ho1.frozen hob hne 1).trans HI.out.f1
      have HSN := hid (fun Z (oZ : Only (fun j => j = w.heap.size + 1 + 1) x Z) => RowI.snoc (ob := w.heap.size + 1 + 1) hlen.symm FL1.out hrow FL2.out gx0 hv hvi (Only.of_grownBy hgb) hgo HI.out.size oZ (by omega))
      have HO := hid ho1
      clear hJ hv hvi hrow hgb hgo ho1 gx0 e3 e5 C1 c1 q0
      dsimp only [List.drop]
      simp only [Act.put, List.setIfInBounds_toArray, List.set_cons_succ, List.set_cons_zero]
      go_wp2_with fail
      go_roundw
      case rel =>
        have oZ : Only (fun j => j = w.heap.size + 1 + 1) x (x.setCell ⟨w.heap.size + 1 + 1, 1, none⟩ (.slice (some ⟨g, 0, none⟩) (k + 1) gc)) := Only.setCell x ⟨w.heap.size + 1 + 1, 1, none⟩ _
        have hrb : ¬ some (w.heap.size + 1) = Value.ownBlock (.slice va k vc) := fun q => by
          have := (FL1.out.lt _ q.symm).1
          omega
        have hrl := cell_lt HI.out.r0
        have hrx : w.heap.size + 1 < x.heap.size := Nat.lt_of_lt_of_le hrl HO.out.size
        refine ⟨k + 1, _, by go_num, by omega, ⟨?_, Nat.le_trans HI.out.size (Nat.le_trans HO.out.size oZ.size), ?_, World.cell?_setCell_same' _ _ _ (by rw [x1]; rfl), (World.frozen?_setCell _ _ _ _).trans xf, ?_, ?_, fun i => ?_, ?_⟩⟩
        · refine ((HI.out.grew.only (fun j => some j = Value.ownBlock (.slice va k vc) ∨ j = w.heap.size + 1 + 1)).then ((HO.out.mono fun _ e => .inl (.inl e)).then (oZ.mono fun _ e => .inl (.inr e)))).grew fun j hj => ?_
          rcases hj with e | e
          · have := (FL1.out.lt _ e.symm).1; omega
          · omega
        · exact (World.cell?_setCell_other x ⟨w.heap.size + 1 + 1, 1, none⟩ ⟨w.heap.size + 1 + 1, 0, none⟩ _ (fun e => by cases e)).trans ((HO.out.cell hob hne 0).trans HI.out.c0)
        · exact (oZ.cell hrx (by omega) 0).trans ((HO.out.cell hrl hrb 0).trans HI.out.r0)
        · exact (oZ.cell hrx (by omega) 1).trans ((HO.out.cell hrl hrb 1).trans HI.out.r1)
        · exact (oZ.frozen hrx (by omega) i).trans ((HO.out.frozen hrl hrb i).trans (HI.out.rf i))
        · rw [HTK.out]; exact HSN.out _ oZ
      case measure => simp [intOf]; omega
    · obtain rfl : k = cs.length := by omega
      have c0 := HI.out.c0
      have c1 := HI.out.c1
      have r0 := HI.out.r0
      have r1 := HI.out.r1
      have rf := HI.out.rf
      obtain ⟨va, vc, rfl, _, _⟩ := HI.out.row.at
      have e0 : List.take cs.length cs = cs := List.take_length
      rw [e0] at HI c1
      clear e0
      go_wp2_with fail
      obtain ⟨Z, hZ⟩ : ∃ Z, Z = (wr.setCell ⟨w.heap.size + 1, 0, none⟩ (.int .i64 e)).setCell ⟨w.heap.size + 1, 1, none⟩ (.slice va cs.length vc) := ⟨_, rfl⟩
      have oZ : Only (fun j => j = w.heap.size + 1) wr Z := by rw [hZ]; exact (Only.setCell wr ⟨w.heap.size + 1, 0, none⟩ _).then (Only.setCell _ ⟨w.heap.size + 1, 1, none⟩ _)
      have z0 : Z.cell? ⟨w.heap.size + 1, 0, none⟩ = some (.int .i64 e) := by rw [hZ]; simp [go_sem, r0, r1]
      have z1 : Z.cell? ⟨w.heap.size + 1, 1, none⟩ = some (.slice va cs.length vc) := by rw [hZ]; simp [go_sem, r0, r1]
      rw [← hZ]
      have hsz := HSZ.out
      refine bodyPost_ret (v := .agg #[.int .i64 e, .slice va cs.length vc]) (by simp [results, Tryz.f22, go_sem, z0, z1]) rfl ?_
      have hrow := HI.out.row
      rw [List.take_length] at hrow
      exact ⟨((HI.out.grew.only _).then oZ).grew (fun j (hj : j = w.heap.size + 1) => by omega), _, rfl, hrow.low (C := w.heap.size) (ob := w.heap.size + 1) oZ (by omega) (by omega)⟩
end Go.Proofs.YtlgcdneiebjkcaaGreatDoor
namespace Go.Proofs.YtlgcdneiebjkcaaGreatDoor
open Go.RowKit Go.Maps
attribute [local go_sem] Oper.semAt_some
theorem lt13 {P : Nat → Prop} (h0 : P 0) (h1 : P 1) (h2 : P 2) (h3 : P 3) (h4 : P 4) (h5 : P 5) (h6 : P 6) (h7 : P 7) (h8 : P 8) (h9 : P 9) (h10 : P 10) (h11 : P 11) (h12 : P 12) : ∀ x, x < 13 → P x
  | 0, _ => h0 | 1, _ => h1 | 2, _ => h2 | 3, _ => h3 | 4, _ => h4 | 5, _ => h5 | 6, _ => h6 | 7, _ => h7 | 8, _ => h8 | 9, _ => h9 | 10, _ => h10 | 11, _ => h11 | 12, _ => h12
  | x + 13, h => absurd h (by omega)
structure LogC (w : World) (lb sq : Nat) (e n : Int) : Prop where
  c1 : w.cell? ⟨lb, 1, none⟩ = some (.int .i64 e)
  c3 : w.cell? ⟨lb, 3, none⟩ = some (.pointer (some ⟨sq, 0, none⟩))
  s0 : w.cell? ⟨sq, 0, none⟩ = some (.int .i64 e)
  s1 : w.cell? ⟨sq, 1, none⟩ = some (.int .i64 n)
  nw : n = 0 → ∀ x, x < 13 → w.cell? ⟨sq, 2 + x, none⟩ = some (.slice none 0 0)
theorem LogC.kept {S : Nat → Prop} {w w' : World} {lb sq : Nat} {e n : Int} (h : LogC w lb sq e n) (g : Only S w w') (h1 : ¬ S lb) (h2 : ¬ S sq) : LogC w' lb sq e n :=
  ⟨(g.cell (cell_lt h.c1) h1 1).trans h.c1, (g.cell (cell_lt h.c1) h1 3).trans h.c3, (g.cell (cell_lt h.s0) h2 0).trans h.s0, (g.cell (cell_lt h.s0) h2 1).trans h.s1, fun e x hx => (g.cell (cell_lt h.s0) h2 (2 + x)).trans (h.nw e x hx)⟩
theorem LogC.grew {w w' : World} {lb sq : Nat} {e n : Int} (h : LogC w lb sq e n) (g : Grew w w') : LogC w' lb sq e n := h.kept (g.only fun _ => False) (fun h => h) (fun h => h)
set_option maxRecDepth 100000 in
theorem tokNext_any {w : World} {sq : Nat} {e n : Int} (s0 : w.cell? ⟨sq, 0, none⟩ = some (.int .i64 e)) (s1 : w.cell? ⟨sq, 1, none⟩ = some (.int .i64 n)) : Calls Tryz.prog 95 #[.pointer (some ⟨sq, 0, none⟩), .int .i64 e] w fun e w' => e = .returned (.tuple #[.int .i64 n, .nilIface]) ∧ Grew w w' := by
  go_enter Tryz.func95, Tryz.ntmps95
  go_wp2_with fail
  try go_region
  go_wp2_with fail
  go_ret2
  exact ⟨rfl, by first | exact Grew.refl w | exact (Grew.refl w).drew⟩
set_option maxRecDepth 100000 in
theorem logTail_any {w : World} {lb sq : Nat} {e n : Int} (h : LogC w lb sq e n) : Calls Tryz.prog 65 #[.pointer (some ⟨lb, 0, none⟩)] w fun e w' => e = .returned (.tuple #[.int .i64 n, .nilIface]) ∧ Grew w w' := by
  have c3 := h.c3
  have H := hid (fun u (g : Grew w u) => tokNext_any (h.grew g).s0 (h.grew g).s1)
  have C1 := wd_cell h.c1
  have C3 := wd_cell h.c3
  clear h
  go_enter Tryz.func65, Tryz.ntmps65
  go_wp2_with fail
  refine wp_region_still 14 (by kernel_rfl) (by kernel_rfl) (fun _ _ => rfl) ?_
  repeat (first
    | (refine mxP ?_; intros; go_big_quiet_op; go_big_quiet_on)
    | (refine mxC (fun _ => by kernel_rfl) (fun u hu => H.out u hu) ?_; simp only [Act.put, List.setIfInBounds_toArray, List.set_cons_zero, List.set_cons_succ])
    | (refine mxK ?_; simp only [Act.put, List.setIfInBounds_toArray, List.set_cons_zero, List.set_cons_succ]))
  refine mixS_nil ?_
  intro x hx
  clear C1 C3 c3 H
  dsimp only [List.drop]
  go_wp2_with fail
  go_ret2
  exact ⟨rfl, hx⟩
end Go.Proofs.YtlgcdneiebjkcaaGreatDoor
namespace Go.Proofs.YtlgcdneiebjkcaaGreatDoor
open Go.RowKit Go.Maps
attribute [local go_sem] Oper.semAt_some uponV
set_option maxRecDepth 100000 in
theorem risesT_0 (w : World) : Calls Tryz.prog 40 #[.slice none 0 0] w fun e w' => e = .returned (.bool true) ∧ w' = w := by
  go_enter Tryz.func40, Tryz.ntmps40
  go_wp2_with fail
  refine wp_loop_rounds 1 ?_
  rw [rounds_succ]
  go_wp2
  go_ret
  exact ⟨rfl, rfl⟩
set_option maxRecDepth 100000 in
set_option maxHeartbeats 4000000 in
theorem tokNew_any (e : Int) (h0 : 0 ≤ e) (h1 : e ≤ 1073741824) (w : World) : Calls Tryz.prog 19 #[.int .i64 e, .int .i64 0, .slice none 0 0] w fun r w' => r = .returned (.tuple #[.pointer (some ⟨w.heap.size, 0, none⟩), .nilIface]) ∧ w' = w.alloc (.cells #[.int .i64 e, .int .i64 0, .slice none 0 0, .slice none 0 0, .slice none 0 0, .slice none 0 0, .slice none 0 0, .slice none 0 0, .slice none 0 0, .slice none 0 0, .slice none 0 0, .slice none 0 0, .slice none 0 0, .slice none 0 0, .slice none 0 0] 120) := by
  have H := hid risesT_0
  have i0 : ¬ e < 0 := by omega
  have i1 : ¬ (1073741824 : Int) < e := by omega
  go_enter Tryz.func19, Tryz.ntmps19
  go_wp2_with fail
  refine wp_loop_rounds 1 ?_
  rw [rounds_succ]
  go_wp2_with fail
  refine (H.out _).mono ?_
  rintro e w1 ⟨rfl, rfl⟩
  go_wp2_with fail
  go_ret2
  exact ⟨rfl, rfl⟩
set_option maxRecDepth 100000 in
theorem right13_0 (w : World) (b : Nat) : Calls Tryz.prog 64 #[.slice (some ⟨b, 0, none⟩) 0 0] w fun e w' => e = .returned (.bool true) ∧ w' = w := by
  go_enter Tryz.func64, Tryz.ntmps64
  go_wp2_with fail
  refine wp_loop_rounds 1 ?_
  rw [rounds_succ]
  go_wp2
  go_ret
  exact ⟨rfl, rfl⟩
set_option maxRecDepth 100000 in
set_option maxHeartbeats 4000000 in
theorem new13_any (e : Int) (h0 : 0 ≤ e) (h1 : e ≤ 1073741824) (w : World) : Calls Tryz.prog 42 #[.int .i64 e, .int .i64 0, .slice none 0 0] w fun r w' => r = .returned (.tuple #[.pointer (some ⟨w.heap.size, 0, none⟩), .int .i64 0]) ∧ w' = (w.alloc (.cells #[.int .i64 e, .int .i64 0, .slice none 0 0, .slice none 0 0, .slice none 0 0, .slice none 0 0, .slice none 0 0, .slice none 0 0, .slice none 0 0, .slice none 0 0, .slice none 0 0, .slice none 0 0, .slice none 0 0, .slice none 0 0, .slice none 0 0] 184)).alloc (.cells #[] 3) := by
  have H := hid right13_0
  have i0 : ¬ e < 0 := by omega
  have i1 : ¬ (1073741824 : Int) < e := by omega
  go_enter Tryz.func42, Tryz.ntmps42
  go_wp2_with fail
  refine wp_loop_rounds 1 ?_
  rw [rounds_succ]
  go_wp2_with fail
  refine (H.out _ _).mono ?_
  rintro e w1 ⟨rfl, rfl⟩
  go_wp2_with fail
  refine wp_loop_rounds 1 ?_
  rw [rounds_succ]
  go_wp2_with fail
  go_ret2
  exact ⟨rfl, rfl⟩
set_option maxRecDepth 100000 in
theorem new09_any (n : Int) (w : World) : Calls Tryz.prog 41 #[.int .i64 n] w fun r w' => r = .returned (.pointer (some ⟨w.heap.size + 1, 0, none⟩)) ∧ w' = (w.alloc (.cells #[.int .i64 n, .slice none 0 0] 180)).alloc (.cells #[.pointer (some ⟨w.heap.size, 0, none⟩), .slice none 0 0, .slice none 0 0, .slice none 0 0, .int .i64 0, .int .i64 0, .int .i64 0] 182) := by
  go_enter Tryz.func41, Tryz.ntmps41
  go_wp2
  go_ret
  exact ⟨by simp, rfl⟩
end Go.Proofs.YtlgcdneiebjkcaaGreatDoor
namespace Go.Proofs.YtlgcdneiebjkcaaGreatDoor
open Go.RowKit Go.Maps
attribute [local go_sem] Oper.semAt_some
def u8Flat (ns : List Int) : List Value := ns.map (Value.int .u8)
theorem u8Flat_length (ns : List Int) : (u8Flat ns).length = ns.length := by simp [u8Flat]
theorem u8Flat_one (ns : List Int) : ∀ u ∈ u8Flat ns, u.oneCell' = true := by
  intro u hu
  obtain ⟨n, _, rfl⟩ := List.mem_map.1 hu
  rfl
theorem info_u8 : (Tryz.prog.info? 5).map (fun i => (i.zero, i.size, i.bytes)) = some (some (.int .u8 0), 1, 1) := by kernel_rfl
namespace Pl
def numB (n : Nat) : List Int := if n < 128 then [(n : Int)] else ((n % 128 + 128 : Nat) : Int) :: numB (n / 128)
termination_by n
decreasing_by omega
end Pl
def BytesAt (W : World) (a : Option Addr) (ns : List Int) : Prop := ns = [] ∨ ∃ b off, a = some ⟨b, off, none⟩ ∧ b < W.heap.size ∧ ∀ j n, ns[j]? = some n → W.cell? ⟨b, off + j, none⟩ = some (.int .u8 n)
theorem BytesAt.kept {S : Nat → Prop} {W W' : World} {a : Option Addr} {ns : List Int} (h : BytesAt W a ns) (g : Only S W W') (hS : ∀ b off, a = some ⟨b, off, none⟩ → ¬ S b) : BytesAt W' a ns := by
  rcases h with h | ⟨b, off, rfl, hb, hc⟩
  · exact .inl h
  · exact .inr ⟨b, off, rfl, Nat.lt_of_lt_of_le hb g.size, fun j n hj => (g.cell hb (hS b off rfl) _).trans (hc j n hj)⟩
theorem BytesAt.grew {W W' : World} {a : Option Addr} {ns : List Int} (h : BytesAt W a ns) (g : Grew W W') : BytesAt W' a ns := h.kept (g.only fun _ => False) (fun _ _ _ h => h)
theorem BytesAt.drop {W : World} {b off : Nat} {ns : List Int} (h : BytesAt W (some ⟨b, off, none⟩) ns) (i : Nat) : BytesAt W (some ⟨b, off + i, none⟩) (ns.drop i) := by
  rcases h with h | ⟨b', off', e, hb, hc⟩
  · exact .inl (by rw [h]; simp)
  · cases e
    refine .inr ⟨b, off + i, rfl, hb, fun j n hj => ?_⟩
    rw [List.getElem?_drop] at hj
    have := hc (i + j) n hj
    rwa [← Nat.add_assoc] at this
theorem BytesAt.take {W : World} {a : Option Addr} {ns : List Int} (h : BytesAt W a ns) (i : Nat) : BytesAt W a (ns.take i) := by
  rcases h with h | ⟨b, off, rfl, hb, hc⟩
  · exact .inl (by rw [h]; simp)
  · refine .inr ⟨b, off, rfl, hb, fun j n hj => ?_⟩
    rw [List.getElem?_take] at hj
    split at hj
    · exact hc j n hj
    · cases hj
end Go.Proofs.YtlgcdneiebjkcaaGreatDoor
namespace Go.Proofs.YtlgcdneiebjkcaaGreatDoor
open Go.RowKit Go.Maps
attribute [local go_sem] Oper.semAt_some
theorem infoCU8 : (Tryz.prog.info? 5).map (fun i => (i.zero, i.size, i.bytes)) = some (some (.int .u8 0), 1, 1) := by kernel_rfl
theorem zcCU8 : (Value.cells (.int .u8 0)).size = 1 := by kernel_rfl
theorem eqCU8 (gb off m c : Nat) (w : World) : (binOp .eql 98 (.slice (some ⟨gb, off, none⟩) m c) (.slice none 0 0)).run Tryz.prog w = .ok (.bool false) w := by kernel_rfl
theorem eqCnU8 (w : World) : (binOp .eql 98 (.slice none 0 0) (.slice none 0 0)).run Tryz.prog w = .ok (.bool true) w := by kernel_rfl
set_option maxRecDepth 100000 in
set_option maxHeartbeats 1000000 in
theorem cloneU8 (w : World) (gb off m c : Nat) (hm : 0 < m) (hbig : m ≤ 1000000) (news : List Value) (hl : news.length = m * 1) (hnews : ∀ j u, news[j]? = some u → w.cell? ⟨gb, off + j, none⟩ = some u) (h1 : ∀ u ∈ news, u.oneCell' = true) :
    Calls Tryz.prog 58 #[.slice (some ⟨gb, off, none⟩) m c] w fun e w' => ∃ g cap, e = .returned (.slice (some ⟨g, 0, none⟩) m cap) ∧ w'.ownsRow w.heap.size 5 1 (.slice (some ⟨g, 0, none⟩) m cap) m news ∧ Grew w w' := by
  obtain ⟨i0, hi0, hz0, hz1, hz2⟩ := info_parts infoCU8
  have had : gb < w.heap.size := by
    have h0 : 0 < news.length := by omega
    have h2 := World.block_lt_of_cell? _ _ (hnews 0 news[0] (List.getElem?_eq_getElem h0))
    exact h2
  have HN : Hid (∀ (t : TypeId) j u, news[j]? = some u → (w.alloc (.cells #[] t)).cell? ⟨gb, off + j, none⟩ = some u) := fun t j u hj => by
    have := hnews j u hj
    rw [← this]
    exact ((Grew.refl w).alloc _).below.cell (World.block_lt_of_cell? _ _ this)
  have HL := hid hl
  have H1 := hid h1
  have HO := hid (fun (t : TypeId) (h : t = 5) => show (w.alloc (.cells #[] t)).ownsRow w.heap.size 5 1 (.slice (some ⟨w.heap.size, 0, none⟩) 0 0) 0 [] from by
    subst h
    exact ownsRow_of_block (cur := []) (Nat.le_refl _) (heap_alloc_new w _) (Nat.le_refl _) (by decide) rfl rfl)
  clear hnews hl h1
  have hEq := eqCU8 gb off m c
  go_enter Tryz.func58, Tryz.ntmps58
  go_wp2_with (at_builtin; refine wpList_append_lies _ rfl _ _ 98 rfl w.heap.size 5 i0 _ 1 1 Tryz.underlying98 hi0 hz0 hz1 hz2 zcCU8 (by omega) (.slice (some ⟨w.heap.size, 0, none⟩) 0 0) 0 [] rfl (HO.out _ rfl) ⟨gb, off, none⟩ m c news rfl HL.out (fun j u hj => by rw [Addr.add_lit]; exact HN.out _ j u hj) H1.out (by omega) (by unfold maxLen; omega) (by omega) (by simp) _ rfl ?_)
  intro g cap w1 hown hgrow hat hlt
  have HO := hid hown
  have HG := hid hgrow
  clear hown hgrow hat
  go_wp2_with fail
  go_ret
  refine ⟨g, cap, by simp, by simpa using HO.out, ?_⟩
  refine (((Grew.refl w).alloc _).only (fun j => some j = Value.ownBlock (.slice (some ⟨w.heap.size, 0, none⟩) 0 0))).then (Only.of_grownBy HG.out) |>.grew ?_
  intro j hj
  have : j = w.heap.size := Option.some.inj hj
  omega
set_option maxRecDepth 100000 in
theorem cloneNilU8 (w : World) : Calls Tryz.prog 58 #[.slice none 0 0] w fun e w' => e = .returned (.slice none 0 0) ∧ Grew w w' := by
  have hEq := eqCnU8
  go_enter Tryz.func58, Tryz.ntmps58
  go_wp2_with fail
  go_ret
  exact ⟨rfl, Grew.refl w⟩
set_option maxRecDepth 100000 in
theorem cloneZeroU8 (w : World) (gb off c : Nat) : Calls Tryz.prog 58 #[.slice (some ⟨gb, off, none⟩) 0 c] w fun e w' => e = .returned (.slice (some ⟨w.heap.size, 0, none⟩) 0 0) ∧ w'.ownsRow w.heap.size 5 1 (.slice (some ⟨w.heap.size, 0, none⟩) 0 0) 0 [] ∧ Grew w w' := by
  obtain ⟨i0, hi0, hz0, hz1, hz2⟩ := info_parts infoCU8
  have HO := hid (fun (t : TypeId) (h : t = 5) => show (w.alloc (.cells #[] t)).ownsRow w.heap.size 5 1 (.slice (some ⟨w.heap.size, 0, none⟩) 0 0) 0 [] from by
    subst h
    exact ownsRow_of_block (cur := []) (Nat.le_refl _) (heap_alloc_new w _) (Nat.le_refl _) (by decide) rfl rfl)
  have HG := hid (fun (t : TypeId) => (Grew.refl w).alloc (.cells #[] t))
  have hS : ∀ W : World, Src Tryz.prog i0.size 98 (.slice (some ⟨gb, off, none⟩) 0 c) 0 [] W := fun W => Src.ofSlice W Tryz.underlying98 ⟨gb, off, none⟩ 0 c [] (by simp) (fun j u hj => by simp at hj) (fun u hu => by cases hu)
  have HS := hid hS
  clear hS
  have hEq := eqCU8 gb off 0 c
  go_enter Tryz.func58, Tryz.ntmps58
  go_wp2_with (at_builtin; refine Lib.wpList_append_run _ rfl _ _ _ _ rfl _ _ rfl rfl _ _ (run_append_nothing _ 98 98 _ 5 i0 Tryz.underlying98 hi0 _ 0 0 (Nat.le_refl _) _ (HS.out _)) ?_)
  go_wp2_with fail
  go_ret
  exact ⟨rfl, HO.out _ rfl, HG.out _⟩
end Go.Proofs.YtlgcdneiebjkcaaGreatDoor
