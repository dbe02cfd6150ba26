/- Beg, IntA, PlanAl, Ply0: one text. -/
import Derived.Test.YtlgcdneiebjkcaaGreatDoorFinServeNewQ8
import Derived.Test.YtlgcdneiebjkcaaGreatDoorFinServeNewQ3
import Derived.Test.YtlgcdneiebjkcaaGreatDoorFinServeNewQ4
import Derived.Test.YtlgcdneiebjkcaaGreatDoorFinServeNewQ5
set_option linter.unusedVariables false
set_option linter.unusedSectionVars false
set_option linter.unusedSimpArgs false
namespace Go.Proofs.YtlgcdneiebjkcaaGreatDoor
open Go.RowKit Go.Maps
attribute [local go_sem] Oper.semAt_some uponV
theorem info_pu : (Tryz.prog.info? 65).map (fun i => (i.zero, i.size, i.bytes)) = some (some (.pointer none), 1, 8) := by kernel_rfl
theorem dkNew192 (w : World) : Calls Tryz.prog 17 #[.int .i64 192] w fun e w' => ∃ G db iv, e = .returned (.tuple #[.pointer (some ⟨db, 0, none⟩), .nilIface]) ∧ DkIs w' G db 192 iv (.slice none 0 0) (List.replicate 12288 0) [] ∧ Grew w w' ∧ ∀ j, G j → w.heap.size ≤ j := dkNew_any 192 (by omega) (by omega) w
structure BgI (w : World) (xb pb : Nat) (e : Int) (ca : Option Addr) (cl cc k : Nat) (v : Value) (wr : World) : Prop where
  grew : Grew w wr
  c0 : wr.cell? ⟨xb, 0, none⟩ = some v
  c1 : wr.cell? ⟨xb, 1, none⟩ = some (.int .i64 e)
  c2 : wr.cell? ⟨xb, 2, none⟩ = some (.slice ca cl cc)
  c3 : wr.cell? ⟨xb, 3, none⟩ = some (.pointer none)
  c4 : wr.cell? ⟨xb, 4, none⟩ = some (.pointer none)
  c5 : wr.cell? ⟨xb, 5, none⟩ = some (.pointer none)
  fz : ∀ i, wr.frozen? ⟨xb, i, none⟩ = false
  p0 : wr.cell? ⟨pb, 0, none⟩ = some (.int .i64 e)
  p1 : wr.cell? ⟨pb, 1, none⟩ = some (.slice ca cl cc)
  row : ∃ fl, wr.ownsRow (xb + 1) 65 1 v k fl
theorem BgI.more {w wr x : World} {xb pb : Nat} {e : Int} {ca : Option Addr} {cl cc k : Nat} {v : Value} (h : BgI w xb pb e ca cl cc k v wr) (g : Grew wr x) : BgI w xb pb e ca cl cc k v x := by
  have hx := cell_lt h.c0
  have hp := cell_lt h.p0
  obtain ⟨fl, hr⟩ := h.row
  exact ⟨h.grew.trans g, (g.cells.1 _ _ hx).trans h.c0, (g.cells.1 _ _ hx).trans h.c1, (g.cells.1 _ _ hx).trans h.c2, (g.cells.1 _ _ hx).trans h.c3, (g.cells.1 _ _ hx).trans h.c4, (g.cells.1 _ _ hx).trans h.c5, fun i => (g.cells.2 _ _ hx).trans (h.fz i), (g.cells.1 _ _ hp).trans h.p0, (g.cells.1 _ _ hp).trans h.p1, ⟨fl, ownsRow_grew g hr⟩⟩
def BgJ (xb pb : Nat) (uv : Value) (e : Int) (ca : Option Addr) (cl cc : Nat) (u : World) : Prop := u.cell? ⟨xb, 0, none⟩ = some uv ∧ u.cell? ⟨pb, 0, none⟩ = some (.int .i64 e) ∧ u.cell? ⟨pb, 1, none⟩ = some (.slice ca cl cc)
structure MBg (y : World) (xb pb sq : Nat) (uv : Value) (e : Int) (ca : Option Addr) (cl cc : Nat) (s : Nat) (f : Nat → Value) (u : World) : Prop where
  g : s < 2 → Grew y u
  r : s = 1 → SharedV y uv e sq (f 9) u
  z : 2 ≤ s → ∃ x0, Grew y x0 ∧ SharedV y uv e sq (f 9) x0 ∧ u = x0.setCell ⟨xb, 3, none⟩ (.pointer (some ⟨sq, 0, none⟩))
  i : BgJ xb pb uv e ca cl cc u
def BegV (w : World) (e : Int) (r : Ending) (w' : World) : Prop := ∃ xb lb sq ua un uc ca cl cc, r = .returned (.pointer (some ⟨xb, 0, none⟩)) ∧ Grew w w' ∧ w.heap.size ≤ xb ∧ w.heap.size ≤ lb ∧ w.heap.size ≤ sq ∧ w'.cell? ⟨xb, 0, none⟩ = some (.slice ua un uc) ∧ w'.cell? ⟨xb, 1, none⟩ = some (.int .i64 e) ∧ w'.cell? ⟨xb, 2, none⟩ = some (.slice ca cl cc) ∧ w'.cell? ⟨xb, 3, none⟩ = some (.pointer (some ⟨sq, 0, none⟩)) ∧ w'.cell? ⟨xb, 4, none⟩ = some (.pointer (some ⟨lb, 0, none⟩)) ∧ LogC w' lb sq e 0
set_option maxRecDepth 100000 in
set_option maxHeartbeats 8000000 in
theorem begin17_any (w : World) (pv : Value) (e : Int) (cs : List (List Int)) (hp : PlanV w pv e cs) (he : 0 ≤ e) (he2 : e ≤ 1073741824) :
    Calls Tryz.prog 10 #[pv] w (BegV w e) := by
  obtain ⟨i0, hi0, hz0, hz1, hz2⟩ := info_parts info_pu
  have HPV := hid hp
  obtain ⟨⟨a, cap, rfl, hA⟩, hn, hc⟩ := hp
  have HN := hid dkNew192
  clear hA hc hn
  generalize hQ : BegV w e = QQ
  have HQ := hid hQ
  clear hQ
  go_enter Tryz.func10, Tryz.ntmps10
  go_wp2_with fail
  obtain ⟨Y, hY⟩ : ∃ Y, Y = (w.alloc (.cells #[.int .i64 e, .slice a cs.length cap] 39)).alloc (.cells #[.slice none 0 0, .int .i64 e, .slice a cs.length cap, .pointer none, .pointer none, .pointer none] 50) := ⟨_, rfl⟩
  have H0 : Hid (BgI w (w.heap.size + 1) w.heap.size e a cs.length cap 0 (.slice none 0 0) Y) := by
    rw [hY]
    exact ⟨((Grew.refl w).alloc _).alloc _, by simp [go_sem], by simp [go_sem], by simp [go_sem], by simp [go_sem], by simp [go_sem], by simp [go_sem], fun i => by simp [go_sem], by simp [go_sem], by simp [go_sem], ⟨[], World.ownsRow_nil _ _ _ _⟩⟩
  have hszE : Y.heap.size = w.heap.size + 2 := by rw [hY]; simp
  rw [← hY]
  clear hY
  go_loopw [4, 5, 6, 12] (fun _ _ _ i wr => ∃ (k : Nat) (v : Value), i = .int .i64 k ∧ k ≤ 12 ∧ Hid (BgI w (w.heap.size + 1) w.heap.size e a cs.length cap k v wr)) (fun _ _ _ i _ => 12 - (intOf i).toNat)
  case atStart => exact ⟨0, _, rfl, by omega, H0⟩
  case round =>
    obtain ⟨k, v, rfl, hk, HI⟩ := hrel
    by_cases hlt : k < 12
    · go_wp2_with fail
      refine (HN.out _).mono ?_
      rintro r w1 ⟨G, db, iv, rfl, hD, hg1, _⟩
      have HD := hid hD
      have HI1 := hid (HI.out.more hg1)
      clear hD hg1
      go_wp2_with fail
      refine (unOpen0_any HD.out).mono ?_
      rintro r w2 ⟨ub, rfl, hg2, _, _⟩
      have HI2 := hid (HI1.out.more hg2)
      clear hg2 HI1 HD
      obtain ⟨fl, hrow⟩ := HI2.out.row
      have hform : ∃ va vc, v = .slice va k vc := by
        rcases hrow.2 with ⟨h1, h2⟩ | ⟨b, c, cur, h1, _⟩
        · exact ⟨none, 0, by rw [h1, h2]⟩
        · exact ⟨_, _, h1⟩
      obtain ⟨va, vc, rfl⟩ := hform
      have c0 := HI2.out.c0
      have f0 := HI2.out.fz 0
      have hxb : w.heap.size + 1 < w2.heap.size := cell_lt c0
      have HROW := hid hrow
      clear hrow
      have gA : Grew w2 (w2.alloc (.cells #[.pointer (some ⟨ub, 0, none⟩)] 65)) := (Grew.refl w2).alloc _
      have hnb := heap_alloc_new w2 (.cells #[.pointer (some ⟨ub, 0, none⟩)] 65)
      have HNB := hid hnb
      have HGA := hid gA
      clear hnb gA
      go_wp2_with (at_builtin; go_loud (refine wpList_append_lies _ rfl _ _ 45 rfl (w.heap.size + 1 + 1) 65 i0 _ 1 8 Tryz.underlying45 hi0 hz0 hz1 hz2 rfl (by omega) (.slice va k vc) k fl rfl (ownsRow_grew HGA.out HROW.out) ⟨w2.heap.size, 0, none⟩ 1 1 [.pointer (some ⟨ub, 0, none⟩)] rfl rfl (World.news_of_block (cs := #[.pointer (some ⟨ub, 0, none⟩)]) HNB.out) (fun u hu => by rw [List.mem_singleton.1 hu]; rfl) (by omega) (by unfold maxLen; omega) (by omega) (by simp; omega) _ rfl ?_))
      intro g gc w3 hrow3 hgr hgo hgl
      have hne : ¬ some (w.heap.size + 1) = Value.ownBlock (.slice va k vc) := fun q => by
        have := (HROW.out.lt _ q.symm).1; omega
      have hO : Only (fun j => some j = Value.ownBlock (.slice va k vc)) w2 w3 := (HGA.out.only _).then (Only.of_grownBy hgr)
      have y0 := (hO.cell hxb hne 0).trans c0
      have yf := (hO.frozen hxb hne 0).trans f0
      have hgx : w.heap.size + 1 + 1 ≤ g := by
        rcases hgo with q | q
        · exact (HROW.out.lt g q).1
        · omega
      have HX := hid (And.intro hO hrow3)
      clear hrow3 hgr hgo hO HNB HGA c0 f0
      go_wp2_with fail
      go_roundw
      case rel =>
        obtain ⟨ho, hrow⟩ := HX.out
        have oZ : Only (fun j => j = w.heap.size + 1) w3 (w3.setCell ⟨w.heap.size + 1, 0, none⟩ (.slice (some ⟨g, 0, none⟩) (k + 1) gc)) := Only.setCell w3 ⟨w.heap.size + 1, 0, none⟩ _
        have hown : ∀ j, some j = Value.ownBlock (.slice va k vc) → w.heap.size + 1 + 1 ≤ j ∧ j < w2.heap.size := fun j e => HROW.out.lt j e.symm
        have hc : ∀ i v, i ≠ 0 → w2.cell? ⟨w.heap.size + 1, i, none⟩ = some v → (w3.setCell ⟨w.heap.size + 1, 0, none⟩ (.slice (some ⟨g, 0, none⟩) (k + 1) gc)).cell? ⟨w.heap.size + 1, i, none⟩ = some v := fun i v hi h => (World.cell?_setCell_other w3 ⟨w.heap.size + 1, 0, none⟩ ⟨w.heap.size + 1, i, none⟩ _ (fun e => hi (by cases e; rfl))).trans ((ho.cell hxb hne i).trans h)
        have hpb : ¬ some w.heap.size = Value.ownBlock (.slice va k vc) := fun q => by have := (hown _ q).1; omega
        have hpl : w.heap.size < w2.heap.size := by omega
        have hp3 := ho.size
        have hrZ := ownsRow_kept hrow oZ (fun j hj (e : j = w.heap.size + 1) => (by have : j = g := (by simpa [Value.ownBlock] using hj.symm); omega))
        refine ⟨k + 1, _, by go_num, by omega, ⟨?_, World.cell?_setCell_same' _ _ _ (by rw [y0]; rfl), hc 1 _ (by omega) HI2.out.c1, hc 2 _ (by omega) HI2.out.c2, hc 3 _ (by omega) HI2.out.c3, hc 4 _ (by omega) HI2.out.c4, hc 5 _ (by omega) HI2.out.c5, fun i => (World.frozen?_setCell _ _ _ _).trans ((ho.frozen hxb hne i).trans (HI2.out.fz i)), (oZ.cell (by omega) (fun e : w.heap.size = w.heap.size + 1 => by omega) 0).trans ((ho.cell hpl hpb 0).trans HI2.out.p0), (oZ.cell (by omega) (fun e : w.heap.size = w.heap.size + 1 => by omega) 1).trans ((ho.cell hpl hpb 1).trans HI2.out.p1), _, hrZ⟩⟩
        refine ((HI2.out.grew.only (fun j => some j = Value.ownBlock (.slice va k vc) ∨ j = w.heap.size + 1)).then ((ho.mono fun _ e => .inl (.inl e)).then (oZ.mono fun _ e => .inl (.inr e)))).grew fun j hj => ?_
        rcases hj with e | e
        · have := (hown j e).1; omega
        · omega
      case measure => simp [intOf]; omega
    · obtain rfl : k = 12 := by omega
      obtain ⟨fl, hrow⟩ := HI.out.row
      have hform : ∃ va vc, v = .slice va 12 vc := by
        rcases hrow.2 with ⟨h1, h2⟩ | ⟨b, c, cur, h1, _⟩
        · exact ⟨none, 0, by rw [h1, h2]⟩
        · exact ⟨_, _, h1⟩
      obtain ⟨va, vc, rfl⟩ := hform
      clear hrow
      have HT := hid (fun W => tokNew_any e he he2 W)
      have p0 := HI.out.p0
      go_wp2_with fail
      refine (HT.out _).mono ?_
      rintro r y ⟨rfl, hy⟩
      have gy : Grew wr y := by rw [hy]; exact (Grew.refl wr).alloc _
      have s0 : y.cell? ⟨wr.heap.size, 0, none⟩ = some (.int .i64 e) := by rw [hy]; simp [go_sem]
      have s1 : y.cell? ⟨wr.heap.size, 1, none⟩ = some (.int .i64 0) := by rw [hy]; simp [go_sem]
      have s2 : ∀ x, x < 13 → y.cell? ⟨wr.heap.size, 2 + x, none⟩ = some (.slice none 0 0) := by rw [hy]; refine lt13 ?_ ?_ ?_ ?_ ?_ ?_ ?_ ?_ ?_ ?_ ?_ ?_ ?_ <;> simp [go_sem]
      obtain ⟨sq, hsq⟩ : ∃ sq, sq = wr.heap.size := ⟨_, rfl⟩
      have hsqw : w.heap.size + 2 ≤ sq := by rw [hsq]; have := HI.out.grew.size; have : w.heap.size + 1 < wr.heap.size := cell_lt HI.out.c0; omega
      rw [← hsq] at s0 s1 s2 ⊢
      have HIy := hid (HI.out.more gy)
      have HSq := hid (And.intro s0 (And.intro s1 s2))
      have hsqy : sq < y.heap.size := cell_lt s0
      clear gy hy s0 s1 s2 p0 HT hsq
      go_wp2_with fail
      have hxy : w.heap.size + 1 < y.heap.size := cell_lt HIy.out.c0
      have HPy := hid (HPV.out.grew HIy.out.grew)
      have hN : Nonempty (Wd (BgJ (w.heap.size + 1) w.heap.size (.slice va 12 vc) e a cs.length cap)) := ⟨⟨y, HIy.out.c0, HIy.out.p0, HIy.out.p1⟩⟩
      have D0 : ∀ p : Wd (BgJ (w.heap.size + 1) w.heap.size (.slice va 12 vc) e a cs.length cap), p.w.cell? ⟨w.heap.size + 1, 0, none⟩ = some (.slice va 12 vc) := fun p => p.ok.1
      have D1 : ∀ p : Wd (BgJ (w.heap.size + 1) w.heap.size (.slice va 12 vc) e a cs.length cap), p.w.cell? ⟨w.heap.size, 0, none⟩ = some (.int .i64 e) := fun p => p.ok.2.1
      have D2 : ∀ p : Wd (BgJ (w.heap.size + 1) w.heap.size (.slice va 12 vc) e a cs.length cap), p.w.cell? ⟨w.heap.size, 1, none⟩ = some (.slice a cs.length cap) := fun p => p.ok.2.2
      have H0' : Hid (MBg y (w.heap.size + 1) w.heap.size sq (.slice va 12 vc) e a cs.length cap 0 (fun _ => undef) y.drew) := ⟨fun _ => (Grew.refl y).drew, fun h => by omega, fun h => by omega, ⟨HIy.out.c0, HIy.out.p0, HIy.out.p1⟩⟩
      refine wp_region_mixS 13 [9, 12] (BgJ (w.heap.size + 1) w.heap.size (.slice va 12 vc) e a cs.length cap) Eq (JC [9, 12] (MBg y (w.heap.size + 1) w.heap.size sq (.slice va 12 vc) e a cs.length cap)) (fun f a => a.put (some 63) (f 9)) (by kernel_rfl) (by kernel_rfl) (fun _ _ => rfl) (JC.start H0'.out) (fun _ _ _ h => by obtain ⟨s, _, _, h⟩ := h.ex; exact h.i) (fun _ => rfl) (fun _ _ _ _ h g => g ▸ h) ?_
      repeat (first
    | refine mxL ?_
    | (refine mxP ?_; intros; go_big_quiet_op; go_big_quiet_on)
    | (refine mxK ?_; simp only [Act.put, List.setIfInBounds_toArray, List.set_cons_zero, List.set_cons_succ]))
      refine mixS_done (by rfl) ⟨⟨loose_of rfl (fun _ a => a) (fun _ _ => rfl) (fun _ => rfl) ?_, loose_of rfl (fun f a => a.put (some 63) (f 9)) (fun _ _ => rfl) (fun _ => rfl) ?_, trivial⟩, ?_⟩
      · intro L f u hJ hL hd
        have hp : ∀ k, 0 = k + 1 → ∃ i', ([9, 12] : List Nat)[k]? = some i' ∧ L i' = true := fun k e => by omega
        have HM := hid (hJ.stage 0 9 rfl hL hp).2
        have HPUT := hid (fun u' v (h : MBg y (w.heap.size + 1) w.heap.size sq (.slice va 12 vc) e a cs.length cap 1 (updV f 9 v) u') => hJ.put (by decide) 0 9 rfl hL hp h)
        clear hJ hL hd hp D0 D1 D2 hN
        go_simp
        have hgu := HM.out.g (by omega)
        refine (sharedNew_any u va 12 vc _ e cs (HPy.out.grew hgu) sq).mono ?_
        rintro r u' ⟨v, rfl, hv, hg⟩
        have hgg := hgu.trans hg
        exact ⟨_, rfl, HPUT.out _ _ ⟨fun _ => hgg, fun _ => by rw [updV_same]; obtain ⟨lb, cv, q1, q2, q3⟩ := hv; exact ⟨lb, cv, q1, Nat.le_trans hgu.size q2, q3⟩, fun h => by omega, ⟨(hgg.cells.1 _ 0 hxy).trans HIy.out.c0, (hgg.cells.1 _ 0 (by omega)).trans HIy.out.p0, (hgg.cells.1 _ 1 (by omega)).trans HIy.out.p1⟩⟩⟩
      · intro L f u hJ hL hd
        have hp : ∀ k, 1 = k + 1 → ∃ i', ([9, 12] : List Nat)[k]? = some i' ∧ L i' = true := fun k e => by obtain rfl : k = 0 := (by omega); exact ⟨9, rfl, hd 9 rfl (by decide)⟩
        have HM := hid (hJ.stage 1 12 rfl hL hp).2
        have HPUT := hid (fun u' v (h : MBg y (w.heap.size + 1) w.heap.size sq (.slice va 12 vc) e a cs.length cap 2 (updV f 12 v) u') => hJ.put (by decide) 1 12 rfl hL hp h)
        have hgu := HM.out.g (by omega)
        have u3 := (hgu.cells.1 _ 3 hxy).trans HIy.out.c3
        have uf := (hgu.cells.2 _ 3 hxy).trans (HIy.out.fz 3)
        clear hJ hL hd hp D0 D1 D2 hN
        go_simp
        refine HPUT.out _ _ ⟨fun h => by omega, fun h => by omega, fun _ => ⟨u, hgu, ?_, rfl⟩, ⟨?_, ?_, ?_⟩⟩
        · rw [updV_ne (by decide)]; exact HM.out.r rfl
        · exact (World.cell?_setCell_other u ⟨w.heap.size + 1, 3, none⟩ ⟨w.heap.size + 1, 0, none⟩ _ (fun e => by cases e)).trans HM.out.i.1
        · exact ((Only.setCell u ⟨w.heap.size + 1, 3, none⟩ _).cell (cell_lt HM.out.i.2.1) (fun e : w.heap.size = w.heap.size + 1 => by omega) 0).trans HM.out.i.2.1
        · exact ((Only.setCell u ⟨w.heap.size + 1, 3, none⟩ _).cell (cell_lt HM.out.i.2.1) (fun e : w.heap.size = w.heap.size + 1 => by omega) 1).trans HM.out.i.2.2
      intro f u hJ
      have hM := hJ.done (fun i hi => by simp only [List.mem_cons, List.not_mem_nil, or_false] at hi; rcases hi with rfl | rfl <;> rfl)
      obtain ⟨x0, gx, ⟨lb, cv, e9, hlb, hb⟩, hu⟩ := hM.z (by show 2 ≤ 2; omega)
      rw [e9]
      have hx3 := (gx.cells.1 _ 3 hxy).trans HIy.out.c3
      have hx4 := (gx.cells.1 _ 4 hxy).trans HIy.out.c4
      have hx5 := (gx.cells.1 _ 5 hxy).trans HIy.out.c5
      have hxf : ∀ i, x0.frozen? ⟨w.heap.size + 1, i, none⟩ = false := fun i => (gx.cells.2 _ i hxy).trans (HIy.out.fz i)
      have oU : Only (fun j => j = w.heap.size + 1) x0 u := by rw [hu]; exact Only.setCell x0 ⟨w.heap.size + 1, 3, none⟩ _
      have hx : ∀ i v, i ≠ 3 → x0.cell? ⟨w.heap.size + 1, i, none⟩ = some v → u.cell? ⟨w.heap.size + 1, i, none⟩ = some v := fun i v hi h => by rw [hu]; exact (World.cell?_setCell_other x0 ⟨w.heap.size + 1, 3, none⟩ ⟨w.heap.size + 1, i, none⟩ _ (fun e => hi (by cases e; rfl))).trans h
      have u3 : u.cell? ⟨w.heap.size + 1, 3, none⟩ = some (.pointer (some ⟨sq, 0, none⟩)) := by rw [hu]; exact World.cell?_setCell_same' _ _ _ (by rw [hx3]; rfl)
      have u4 := hx 4 _ (by omega) hx4
      have u5 := hx 5 _ (by omega) hx5
      have u0 := hM.i.1
      have u1 := hx 1 _ (by omega) ((gx.cells.1 _ 1 hxy).trans HIy.out.c1)
      have u2' := hx 2 _ (by omega) ((gx.cells.1 _ 2 hxy).trans HIy.out.c2)
      have uf4 : u.frozen? ⟨w.heap.size + 1, 4, none⟩ = false := by rw [hu, World.frozen?_setCell]; exact hxf 4
      have uf5 : u.frozen? ⟨w.heap.size + 1, 5, none⟩ = false := by rw [hu, World.frozen?_setCell]; exact hxf 5
      have hp0 := hM.i.2.1
      have hp1 := hM.i.2.2
      have hsx := gx.size
      have hlbx : lb < x0.heap.size := (Array.getElem?_eq_some_iff.1 hb).1
      have HLB := hid ((oU.block lb hlbx (by omega)).trans hb)
      have hsqx : sq < x0.heap.size := by have := gx.size; omega
      have HSU := hid (And.intro ((oU.cell hsqx (fun e : sq = w.heap.size + 1 => by omega) 0).trans ((gx.cells.1 _ 0 hsqy).trans HSq.out.1)) (And.intro ((oU.cell hsqx (fun e : sq = w.heap.size + 1 => by omega) 1).trans ((gx.cells.1 _ 1 hsqy).trans HSq.out.2.1)) (fun x (hx : x < 13) => (oU.cell hsqx (fun e : sq = w.heap.size + 1 => by omega) (2 + x)).trans ((gx.cells.1 _ (2 + x) hsqy).trans (HSq.out.2.2 x hx)))))
      have HGU := hid (And.intro gx oU)
      have HC := hid (And.intro u0 (And.intro u1 (And.intro u2' (And.intro u3 (And.intro u4 (And.intro u5 uf5))))))
      clear hJ hM hu hx hx3 hx4 hx5 hxf u0 u1 u2' D0 D1 D2 hN H0' e9 hb oU gx u3 u5
      dsimp only [List.drop]
      simp only [Act.put, List.setIfInBounds_toArray, List.set_cons_succ, List.set_cons_zero]
      go_wp2_with fail
      obtain ⟨V, hV⟩ : ∃ V, V = u.setCell ⟨w.heap.size + 1, 4, none⟩ (.pointer (some ⟨lb, 0, none⟩)) := ⟨_, rfl⟩
      have oV : Only (fun j => j = w.heap.size + 1) u V := by rw [hV]; exact Only.setCell u ⟨w.heap.size + 1, 4, none⟩ _
      have hv : ∀ i v, i ≠ 4 → u.cell? ⟨w.heap.size + 1, i, none⟩ = some v → V.cell? ⟨w.heap.size + 1, i, none⟩ = some v := fun i v hi h => by rw [hV]; exact (World.cell?_setCell_other u ⟨w.heap.size + 1, 4, none⟩ ⟨w.heap.size + 1, i, none⟩ _ (fun e => hi (by cases e; rfl))).trans h
      obtain ⟨u0, u1, u2', u3, _, u5, _⟩ := HC.out
      have v4 : V.cell? ⟨w.heap.size + 1, 4, none⟩ = some (.pointer (some ⟨lb, 0, none⟩)) := by rw [hV]; exact World.cell?_setCell_same' _ _ _ (by rw [u4]; rfl)
      have v5 := hv 5 _ (by omega) u5
      have vf5 : V.frozen? ⟨w.heap.size + 1, 5, none⟩ = false := by rw [hV, World.frozen?_setCell]; exact uf5
      have hGV : Grew w V := (((HIy.out.grew.trans HGU.out.1).only _).then (HGU.out.2.then oV)).grew (fun j (hj : j = w.heap.size + 1) => by omega)
      have HVC := hid (And.intro (hv 0 _ (by omega) u0) (And.intro (hv 1 _ (by omega) u1) (And.intro (hv 2 _ (by omega) u2') (hv 3 _ (by omega) u3))))
      have hul := oV.size
      have hu0 := HGU.out.2.size
      have hlbV := (oV.block lb (by omega) (fun e : lb = w.heap.size + 1 => by omega)).trans HLB.out
      have hsqu : sq < u.heap.size := by omega
      have hsV := And.intro ((oV.cell hsqu (fun e : sq = w.heap.size + 1 => by omega) 0).trans HSU.out.1) (And.intro ((oV.cell hsqu (fun e : sq = w.heap.size + 1 => by omega) 1).trans HSU.out.2.1) (fun x (hx : x < 13) => (oV.cell hsqu (fun e : sq = w.heap.size + 1 => by omega) (2 + x)).trans (HSU.out.2.2 x hx)))
      have HLV := hid (And.intro hlbV hsV)
      have hxV : w.heap.size + 1 < V.heap.size := cell_lt v4
      rw [← hV]
      clear hV oV hv u0 u1 u2' u3 u5 uf4 uf5 u4 hlbV hsV
      have HGV := hid hGV
      obtain ⟨⟨a', cap', ea, hAV⟩, hnV, hcV⟩ := HPV.out.grew hGV
      injection ea with ea
      injection ea with ea
      injection ea with _ ea
      injection ea with ea _
      injection ea with ea1 _ ea2
      subst ea1 ea2
      have HPC := hid (planCopy_any V e a cap cs hAV hnV hcV)
      have HNC := hid (And.intro hnV hcV)
      clear hAV hnV hcV hGV
      refine HPC.out.mono ?_
      rintro r V1 ⟨hg1, pv, rfl, hr1⟩
      obtain ⟨pa, pc, rfl, hr2, _⟩ := hr1.at
      have HG1 := hid hg1
      have HPV1 : Hid (PlanV V1 (.agg #[.int .i64 e, .slice pa cs.length pc]) e cs) := ⟨⟨pa, pc, rfl, hr2⟩, HNC.out.1, HNC.out.2⟩
      clear hr1 hr2 hg1 HPC
      go_wp2_with fail
      refine (new17_any V1 _ e cs HPV1.out he he2).mono ?_
      rintro r V2 ⟨⟨wb, rfl⟩, hg2⟩
      have HG2 := hid (HG1.out.trans hg2)
      have w4 := (HG2.out.cells.1 _ 4 hxV).trans v4
      have w5 := (HG2.out.cells.1 _ 5 hxV).trans v5
      have wf5 := (HG2.out.cells.2 _ 5 hxV).trans vf5
      clear hg2 v4 v5 vf5
      go_wp2_with fail
      rw [← HQ.out]
      obtain ⟨v0, v1, v2, v3⟩ := HVC.out
      obtain ⟨l0, l1, l2, l3⟩ := HLV.out
      have oT : Only (fun j => j = w.heap.size + 1) V2 (V2.setCell ⟨w.heap.size + 1, 5, none⟩ (.pointer (some ⟨wb, 0, none⟩))) := Only.setCell V2 ⟨w.heap.size + 1, 5, none⟩ _
      have ht : ∀ i v, i ≠ 5 → V2.cell? ⟨w.heap.size + 1, i, none⟩ = some v → (V2.setCell ⟨w.heap.size + 1, 5, none⟩ (.pointer (some ⟨wb, 0, none⟩))).cell? ⟨w.heap.size + 1, i, none⟩ = some v := fun i v hi h => (World.cell?_setCell_other V2 ⟨w.heap.size + 1, 5, none⟩ ⟨w.heap.size + 1, i, none⟩ _ (fun e => hi (by cases e; rfl))).trans h
      have hlbl : lb < V.heap.size := (Array.getElem?_eq_some_iff.1 l0).1
      have hsql : sq < V.heap.size := cell_lt l1
      have hs2 := HG2.out.size
      have hwy := HIy.out.grew.size
      have hlb2 := (oT.block lb (by omega) (fun e : lb = w.heap.size + 1 => by omega)).trans ((HG2.out.below.block lb hlbl).trans l0)
      refine ⟨w.heap.size + 1, lb, sq, va, 12, vc, a, cs.length, cap, rfl, (((HGV.out.trans HG2.out).only _).then oT).grew (fun j (hj : j = w.heap.size + 1) => by omega), by omega, by omega, by omega, ht 0 _ (by omega) ((HG2.out.cells.1 _ 0 hxV).trans v0), ht 1 _ (by omega) ((HG2.out.cells.1 _ 1 hxV).trans v1), ht 2 _ (by omega) ((HG2.out.cells.1 _ 2 hxV).trans v2), ht 3 _ (by omega) ((HG2.out.cells.1 _ 3 hxV).trans v3), ht 4 _ (by omega) w4, ⟨?_, ?_, ?_, ?_, fun _ x hx => ?_⟩⟩
      · rw [cell_of_row _ _ _ _ _ _ hlb2]; rfl
      · rw [cell_of_row _ _ _ _ _ _ hlb2]; rfl
      · exact (oT.cell (by omega) (fun e : sq = w.heap.size + 1 => by omega) 0).trans ((HG2.out.cells.1 _ 0 hsql).trans l1)
      · exact (oT.cell (by omega) (fun e : sq = w.heap.size + 1 => by omega) 1).trans ((HG2.out.cells.1 _ 1 hsql).trans l2)
      · exact (oT.cell (by omega) (fun e : sq = w.heap.size + 1 => by omega) (2 + x)).trans ((HG2.out.cells.1 _ (2 + x) hsql).trans (l3 x hx))
end Go.Proofs.YtlgcdneiebjkcaaGreatDoor
namespace Go.Proofs.YtlgcdneiebjkcaaGreatDoor
open Go.RowKit Go.Maps
attribute [local go_sem] Oper.semAt_some
theorem ints_one (w : World) (t : Int) : IntsAt (w.alloc (.cells #[.int .i64 t] 3)) (some ⟨w.heap.size, 0, none⟩) [t] := by
  have hb := heap_alloc_new w (.cells #[.int .i64 t] 3)
  refine .inr ⟨w.heap.size, 0, rfl, by simp, fun j hj => ?_⟩
  have : j = 0 := by simpa using hj
  subst this
  rw [cell_of_row _ _ _ _ _ _ hb]; rfl
end Go.Proofs.YtlgcdneiebjkcaaGreatDoor
namespace Go.Proofs.YtlgcdneiebjkcaaGreatDoor
open Go.RowKit Go.Maps
theorem plan_al (w : World) : PlanV ((w.alloc (.cells #[.int .i64 0] 3)).alloc (.cells #[.slice (some ⟨w.heap.size, 0, none⟩) 1 1] 32)) (.agg #[.int .i64 0, .slice (some ⟨w.heap.size + 1, 0, none⟩) 1 1]) 0 [[0]] := by
  have hb := heap_alloc_new (w.alloc (.cells #[.int .i64 0] 3)) (.cells #[.slice (some ⟨w.heap.size, 0, none⟩) 1 1] 32)
  rw [show (w.alloc (.cells #[.int .i64 0] 3)).heap.size = w.heap.size + 1 by simp] at hb
  refine ⟨⟨_, _, rfl, .inr ⟨w.heap.size + 1, 0, rfl, by simp, fun j c hj => ?_⟩⟩, by decide, fun c hc => by simp at hc; subst hc; decide⟩
  have h0 : j = 0 := by have := (List.getElem?_eq_some_iff.1 hj).1; simpa using this
  subst h0
  have hc : c = [0] := by simpa using hj.symm
  subst hc
  refine ⟨_, by rw [cell_of_row _ _ _ _ _ _ hb]; rfl, _, _, rfl, (ints_one w 0).grew ((Grew.refl _).alloc _), .inr ⟨_, _, rfl⟩⟩
end Go.Proofs.YtlgcdneiebjkcaaGreatDoor
namespace Go.Proofs.YtlgcdneiebjkcaaGreatDoor
open Go.RowKit Go.Maps
attribute [local go_sem] Oper.semAt_some
set_option maxRecDepth 100000 in
theorem len64_0 (w : World) : Calls Tryz.prog 85 #[.int .u64 0] w fun e w' => e = .returned (.int .i64 0) ∧ w' = w := by
  go_enter Tryz.func85, Tryz.ntmps85
  go_wp2
  go_ret
  exact ⟨by kernel_rfl, rfl⟩
set_option maxRecDepth 100000 in
theorem len_0 (w : World) : Calls Tryz.prog 49 #[.int .u64 0] w fun e w' => e = .returned (.int .i64 0) ∧ w' = w := by
  have H := hid (len64_0 w)
  go_enter Tryz.func49, Tryz.ntmps49
  go_wp2_with fail
  refine H.out.mono ?_
  rintro e w1 ⟨rfl, rfl⟩
  go_wp2_with fail
  go_ret
  exact ⟨rfl, rfl⟩
set_option maxRecDepth 100000 in
theorem insI_0 (w : World) : Calls Tryz.prog 75 #[.slice none 0 0, .int .i64 0, .int .i64 0] w fun e w' => e = .returned (.tuple #[]) ∧ w' = w := by
  go_enter Tryz.func75, Tryz.ntmps75
  go_wp2_with fail
  refine wp_loop_rounds 1 ?_
  rw [rounds_succ]
  go_wp2
  go_end0
  exact ⟨rfl, rfl⟩
set_option maxRecDepth 100000 in
theorem pdqI_0 (w : World) : Calls Tryz.prog 48 #[.slice none 0 0, .int .i64 0, .int .i64 0, .int .i64 0] w fun e w' => e = .returned (.tuple #[]) ∧ w' = w := by
  have H := hid (insI_0 w)
  go_enter Tryz.func48, Tryz.ntmps48
  go_wp2_with fail
  refine wp_loop_rounds 1 ?_
  rw [rounds_succ]
  go_wp2_with fail
  refine H.out.mono ?_
  rintro e w1 ⟨rfl, rfl⟩
  go_wp2_with fail
  refine bodyPost_ret (v := .tuple #[]) (by simp [results, Tryz.f48, go_sem]) rfl ?_
  exact ⟨rfl, rfl⟩
set_option maxRecDepth 100000 in
theorem sortI_0 (w : World) : Calls Tryz.prog 30 #[.slice none 0 0] w fun e w' => e = .returned (.tuple #[]) ∧ w' = w := by
  have H := hid (len_0 w)
  have H2 := hid (pdqI_0 w)
  go_enter Tryz.func30, Tryz.ntmps30
  go_wp2_with fail
  refine H.out.mono ?_
  rintro e w1 ⟨rfl, rfl⟩
  go_wp2_with fail
  refine H2.out.mono ?_
  rintro e w1 ⟨rfl, rfl⟩
  go_wp2_with fail
  go_end0
  exact ⟨rfl, rfl⟩
set_option maxRecDepth 100000 in
theorem compI_0 (w : World) : Calls Tryz.prog 206 #[.slice none 0 0] w fun e w' => e = .returned (.slice none 0 0) ∧ w' = w := by
  go_enter Tryz.func206, Tryz.ntmps206
  go_wp2
  go_ret
  exact ⟨rfl, rfl⟩
end Go.Proofs.YtlgcdneiebjkcaaGreatDoor
