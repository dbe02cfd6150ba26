/- Fgt, Opn2, Beg0: one text. -/
import Derived.Test.YtlgcdneiebjkcaaGreatDoorFinServeNewQ7
import Derived.Test.YtlgcdneiebjkcaaGreatDoorFinServeNewQ5
set_option linter.unusedVariables false
set_option linter.unusedSectionVars false
set_option linter.unusedSimpArgs false
namespace Go.Proofs.YtlgcdneiebjkcaaGreatDoor
open Go.RowKit Go.Maps
attribute [local go_sem] Oper.semAt_some uponV
theorem clit_inj {a b : Int} (h : clit a = clit b) : a = b := by unfold clit at h; injection h
structure FgtR (w : World) (mb r n t : Nat) (f : Lit → Option Value) (f' : Lit → Option Value) (left : Lit → Bool) (cnt : Nat) (wr : World) : Prop where
  rng : MRange wr Tryz.prog 3 mb r n f' left cnt
  same : ∀ a : Nat, t ≤ a → f' (clit a) = f (clit a)
  gone : ∀ a : Nat, a < t → f' (clit a) = none ∨ left (clit a) = true
  back : ∀ l, f' l ≠ none → f l ≠ none
  only : Only (fun j => j = mb ∨ j = r) w wr
  new : w.heap.size ≤ r
def Fgt (f f' : Lit → Option Value) (t : Nat) : Prop := (∀ a : Nat, f' (clit a) = if a < t then none else f (clit a)) ∧ ∀ l, f' l ≠ none → f l ≠ none
set_option maxRecDepth 100000 in
set_option maxHeartbeats 4000000 in
theorem forget_any {w : World} {ub mb n t : Nat} {f : Lit → Option Value} (c1 : w.cell? ⟨ub, 1, none⟩ = some (.map (some mb))) (c3 : w.cell? ⟨ub, 3, none⟩ = some (.int .i64 t)) (hm : LMap w Tryz.prog 3 mb n f) (hne : ub ≠ mb) (ha : ∀ l, f l ≠ none → ∃ a : Nat, l = clit a) :
    Calls Tryz.prog 36 #[.pointer (some ⟨ub, 0, none⟩)] w fun e w' => e = .returned (.tuple #[]) ∧ Only (fun j => j = mb) w w' ∧ ∃ f', LMap w' Tryz.prog 3 mb n f' ∧ Fgt f f' t := by
  have HM := hid hm
  have hub := cell_lt c1
  have hmb := hm.lt
  have HA := hid ha
  clear ha hm
  go_enter Tryz.func36, Tryz.ntmps36
  go_wp2_with (at_range; refine wpList_range_M rfl _ rfl cl_keyed Tryz.underlying110 rfl HM.out ?_)
  intro w5 left5 cnt5 hr5 hl5 hg5 hs5
  obtain ⟨r, hr⟩ : ∃ r, r = w.heap.size := ⟨_, rfl⟩
  have hrB : w.heap.size ≤ r := by rw [hr]; exact Nat.le_refl _
  rw [← hr] at hr5 ⊢
  have HR5 : Hid (FgtR w mb r n t f f left5 cnt5 w5) := ⟨hr5, fun _ _ => rfl, fun a _ => by
    cases hl : left5 (clit (a : Int)) with
    | true => exact .inr rfl
    | false => exact .inl (hl5 _ hl), fun _ h => h, hg5.only _, hrB⟩
  clear hr hr5 hl5 hg5 hs5
  go_wp2_with fail
  go_loopw [2] (fun _ wr => ∃ (f' : Lit → Option Value) (left : Lit → Bool) (cnt : Nat), Hid (FgtR w mb r n t f f' left cnt wr)) (fun _ wx => wx.rangeLeft mb r)
  case atStart => exact ⟨f, left5, cnt5, HR5⟩
  case round =>
    obtain ⟨f', left, cnt, HR⟩ := hrel
    have hR := HR.out.rng
    have HMEAS := hid hR.left_eq
    have q1 := (HR.out.only.cell hub (by omega) 1).trans c1
    have q3 := (HR.out.only.cell hub (by omega) 3).trans c3
    go_wp2_with (at_next; refine wpList_next_MI rfl _ rfl Tryz.underlying3 cl_keyed r left cnt rfl hR ?_ ?_)
    · intro hl0
      have HL0 := hid hl0
      clear hR hl0
      go_wp2_with fail
      go_end0
      refine ⟨rfl, HR.out.only.mono (fun j hj => by rcases hj with h | h; exact .inl h; exact .inr (by omega)), f', HR.out.rng.lmap, fun a => ?_, HR.out.back⟩
      split
      · next h =>
        rcases HR.out.gone a h with h2 | h2
        · exact h2
        · rw [HL0.out] at h2; cases h2
      · next h => exact HR.out.same a (by omega)
    · intro c v w6 cnt6 hwf hls hfs hR6 hlt6 ho6 hs6 hen
      obtain ⟨a, hac⟩ := HA.out _ (HR.out.back _ (by rw [hfs]; simp))
      obtain rfl := clit_inj hac
      have HR6 := hid hR6
      have HO6 := hid (HR.out.only.then (ho6.mono (T := fun j => j = mb ∨ j = r) fun j hj => .inl (.inr hj)))
      have p1 := (ho6.cell (Nat.lt_of_lt_of_le hub HR.out.only.size) (by have := HR.out.new; omega) 1).trans q1
      have p3 := (ho6.cell (Nat.lt_of_lt_of_le hub HR.out.only.size) (by have := HR.out.new; omega) 3).trans q3
      have hkey : keyOf Tryz.prog 3 (.int .i64 (a : Int)) = some (clit (a : Int)) := by
        simp [keyOf, Tryz.underlying3, mapKey, clit]
        simpa using hwf
      clear hR hR6 hls hfs ho6 hs6 q1 q3 hac
      by_cases hat : a < t
      · go_wp2_with (at_delete; refine wpList_delete_M rfl _ _ rfl cl_keyed Tryz.underlying110 rfl HR6.out _ _ rfl hkey ?_)
        intro w7 cnt7 hR7 hc7 ho7
        have HR7 := hid hR7
        have HO7 := hid (HO6.out.then (ho7.mono (T := fun j => j = mb ∨ j = r) fun j hj => .inl (.inl hj)))
        clear hR7 ho7
        go_wp2_with fail
        go_roundw
        case rel =>
          refine ⟨_, _, cnt7, HR7.out, fun b hb => ?_, fun b hb => ?_, fun l hl => ?_, HO7.out, HR.out.new⟩
          · unfold lset
            rw [if_neg (fun e => by have := clit_inj e; omega)]
            exact HR.out.same b hb
          · by_cases e : b = a
            · subst e; left; unfold lset; rw [if_pos rfl]
            · rcases HR.out.gone b hb with h | h
              · left; unfold lset; rw [if_neg (fun e2 => e (by have := clit_inj e2; omega))]; exact h
              · right; simp only [h, clit_same, Bool.true_and]; simp; omega
          · unfold lset at hl
            split at hl
            · exact absurd rfl hl
            · exact HR.out.back l hl
        case measure => rw [HR7.out.left_eq, HMEAS.out]; omega
      · go_wp2_with fail
        go_roundw
        case rel =>
          refine ⟨f', _, cnt6, HR6.out, HR.out.same, fun b hb => ?_, HR.out.back, HO6.out, HR.out.new⟩
          rcases HR.out.gone b hb with h | h
          · exact .inl h
          · right; simp only [h, clit_same, Bool.true_and]; simp; omega
        case measure => rw [HR6.out.left_eq, HMEAS.out]; exact hlt6
end Go.Proofs.YtlgcdneiebjkcaaGreatDoor
namespace Go.Proofs.YtlgcdneiebjkcaaGreatDoor
open Go.RowKit Go.Maps
attribute [local go_sem] Oper.semAt_some uponV
set_option maxRecDepth 100000 in
theorem sgSegs0 {w : World} {sb : Nat} (h : w.cell? ⟨sb, 1, none⟩ = some (.slice none 0 0)) : Calls Tryz.prog 33 #[.pointer (some ⟨sb, 0, none⟩)] w fun e w' => e = .returned (.slice none 0 0) ∧ w' = w := by
  go_enter Tryz.func33, Tryz.ntmps33
  go_wp2_with fail
  refine wp_loop_rounds 1 ?_
  rw [rounds_succ]
  go_wp2
  go_ret
  exact ⟨rfl, rfl⟩
def UnNew (w : World) (G : Nat → Prop) (e : Ending) (w' : World) : Prop :=
  ∃ ub, e = .returned (.tuple #[.pointer (some ⟨ub, 0, none⟩), .nilIface]) ∧ Grew w w' ∧ w.heap.size ≤ ub ∧ ∀ (L : Nat → Nat) (k : Nat), (∀ j, G j → L j = k) → ∃ L' : Nat → Nat, (∀ j, j < w.heap.size → L' j = L j) ∧ (∀ j, w.heap.size ≤ j → L' j = 0 ∨ KinU k (L' j)) ∧ UnAt w' L' k ub 0 Pl.Un.new
set_option maxRecDepth 100000 in
set_option maxHeartbeats 4000000 in
theorem unOpen0_any {w : World} {G : Nat → Prop} {db : Nat} {iv : Value} (h : DkIs w G db 192 iv (.slice none 0 0) (List.replicate 12288 0) []) :
    Calls Tryz.prog 18 #[.pointer (some ⟨db, 0, none⟩)] w (UnNew w G) := by
  have hmm := @run_makeMap Tryz.prog
  have HO := hid (sgOpen0_any h)
  have HD := hid h
  clear h
  generalize hQ : UnNew w G = QQ
  have HQ := hid hQ
  clear hQ
  go_enter Tryz.func18, Tryz.ntmps18
  go_wp2_with fail
  refine HO.out.mono ?_
  rintro e w1 ⟨sb, rfl, hsb, s0, s1, sf, hg⟩
  have HG := hid hg
  have HSF := hid sf
  clear hg sf HO
  go_wp2_with fail
  obtain ⟨Y, hY⟩ : ∃ Y, Y = ((w1.alloc (.map #[] 0)).alloc (.map #[] 0)).alloc (.cells #[.pointer (some ⟨sb, 0, none⟩), .map (some w1.heap.size), .map (some (w1.heap.size + 1)), .int .i64 0, .int .i64 0, .int .i64 0] 113) := ⟨_, rfl⟩
  have gY : Grew w1 Y := by rw [hY]; exact (((Grew.refl w1).alloc _).alloc _).alloc _
  have hb := heap_alloc_new ((w1.alloc (.map #[] 0)).alloc (.map #[] 0)) (.cells #[.pointer (some ⟨sb, 0, none⟩), .map (some w1.heap.size), .map (some (w1.heap.size + 1)), .int .i64 0, .int .i64 0, .int .i64 0] 113)
  rw [show ((w1.alloc (.map #[] 0)).alloc (.map #[] 0)).heap.size = w1.heap.size + 1 + 1 by simp, ← hY] at hb
  have lm0 : LMap Y Tryz.prog 3 w1.heap.size 0 (fun _ => none) := by
    rw [hY]; exact ((LMap.made w1 Tryz.prog 3).grew ((Grew.refl _).alloc _)).grew ((Grew.refl _).alloc _)
  have lm1 : LMap Y Tryz.prog 3 (w1.heap.size + 1) 0 (fun _ => none) := by
    have := LMap.made (w1.alloc (.map #[] 0)) Tryz.prog 3
    rw [show (w1.alloc (.map #[] 0)).heap.size = w1.heap.size + 1 by simp] at this
    rw [hY]; exact this.grew ((Grew.refl _).alloc _)
  rw [← hY]
  clear hY hmm
  have z1 := (gY.cells.1 _ 1 (cell_lt s0)).trans s1
  have HGY := hid gY
  have HB := hid hb
  have HL0 := hid lm0
  have HL1 := hid lm1
  clear gY hb lm0 lm1 s1
  refine (sgSegs0 z1).mono ?_
  rintro e w2 ⟨rfl, rfl⟩
  go_wp2_with fail
  refine wp_loop_rounds 1 ?_
  rw [rounds_succ]
  go_wp2_with fail
  have cellU : ∀ i v, (#[Value.pointer (some ⟨sb, 0, none⟩), .map (some w1.heap.size), .map (some (w1.heap.size + 1)), .int .i64 0, .int .i64 0, .int .i64 0] : Array Value)[i]? = some v → w2.cell? ⟨w1.heap.size + 1 + 1, i, none⟩ = some v := fun i v hv => by rw [cell_of_row _ _ _ _ _ _ HB.out]; exact hv
  have hub2 : w1.heap.size + 1 + 1 < w2.heap.size := (Array.getElem?_eq_some_iff.1 HB.out).1
  refine (forget_any (t := 0) (cellU 1 _ rfl) (cellU 3 _ rfl) HL0.out (by omega) (fun l hl => absurd rfl hl)).mono ?_
  rintro e w3 ⟨rfl, hO3, f', hm3, hf3⟩
  have hf0 : f' = fun _ => none := by
    funext l
    cases hl : f' l with
    | none => rfl
    | some v => exact absurd rfl (hf3.2 l (by rw [hl]; simp))
  subst hf0
  have HO3 := hid hO3
  have HM3 := hid hm3
  have HCU := hid cellU
  clear hO3 hm3 hf3 cellU
  go_wp2_with fail
  rw [← HQ.out]
  have hs1 := HG.out.size
  have hs2 := HGY.out.size
  have hsb1 : sb < w1.heap.size := cell_lt s0
  have nsb : ¬ sb = w1.heap.size := by omega
  have hdb : db < w.heap.size := cell_lt HD.out.c0
  have hGw3 : Grew w w3 := ((HG.out.trans HGY.out).only _ |>.then HO3.out).grew (fun j hj => by omega)
  refine ⟨w1.heap.size + 1 + 1, rfl, hGw3, by omega, fun L k hk => ⟨fun j => if j < w.heap.size then L j else if j = sb then k + 1 else if j = w1.heap.size then k + 10 else if j = w1.heap.size + 1 then k + 11 else if j = w1.heap.size + 1 + 1 then k + 9 else 0, fun j hj => if_pos hj, fun j hj => ?_, ?_⟩⟩
  · dsimp only
    rw [if_neg (by omega)]
    unfold KinU
    split
    · right; omega
    · split
      · right; omega
      · split
        · right; omega
        · split
          · right; omega
          · exact .inl rfl
  · have cU : ∀ i v, (#[Value.pointer (some ⟨sb, 0, none⟩), .map (some w1.heap.size), .map (some (w1.heap.size + 1)), .int .i64 0, .int .i64 0, .int .i64 0] : Array Value)[i]? = some v → w3.cell? ⟨w1.heap.size + 1 + 1, i, none⟩ = some v := fun i v hv => (HO3.out.cell hub2 (by omega) i).trans (HCU.out i v hv)
    have fU : ∀ i, w3.frozen? ⟨w1.heap.size + 1 + 1, i, none⟩ = false := fun i => (HO3.out.frozen hub2 (by omega) i).trans (by simp [World.frozen?, HB.out])
    have hsb2 : sb < w2.heap.size := by omega
    refine ⟨sb, db, w1.heap.size, w1.heap.size + 1, .slice none 0 0, [], fun _ => none, fun _ => none, ?_⟩
    refine ⟨(by rw [if_neg (by omega), if_neg (by omega), if_neg (by omega), if_neg (by omega), if_pos rfl]), (by rw [if_neg (by omega), if_neg (by omega), if_pos rfl]), (by rw [if_neg (by omega), if_neg (by omega), if_neg (by omega), if_pos rfl]), cU 0 _ rfl, cU 1 _ rfl, cU 2 _ rfl, cU 3 _ rfl, cU 4 _ rfl, cU 5 _ rfl, fU, ?_, HM3.out, ?_, HL1.out.kept HO3.out (by omega), ?_⟩
    · refine ⟨(by rw [if_neg (by omega), if_pos rfl]), (HO3.out.cell hsb2 nsb 0).trans ((HGY.out.cells.1 _ 0 hsb1).trans s0), (HO3.out.cell hsb2 nsb 1).trans z1, fun i => (HO3.out.frozen hsb2 nsb i).trans ((HGY.out.cells.2 _ i hsb1).trans (HSF.out i)), ⟨G, ⟨iv, _, _, [], rfl, HD.out.kept (hGw3.only fun _ => False) (fun _ _ h => h)⟩, fun j hj => ?_⟩, World.ownsRow_nil _ _ _ _, (fun b hb => by cases hb), rfl, fun i gb g hg => by cases hg⟩
      rw [if_pos (HD.out.lt j hj)]
      exact hk j hj
    · exact ⟨fun a => ⟨fun bs hb => by simp [Pl.Un.get, Pl.Un.new] at hb, fun _ => rfl⟩, fun l hl => absurd rfl hl⟩
    · exact ⟨(fun g hg => by cases hg), fun l hl => absurd rfl hl⟩
end Go.Proofs.YtlgcdneiebjkcaaGreatDoor
namespace Go.Proofs.YtlgcdneiebjkcaaGreatDoor
open Go.RowKit Go.Maps
attribute [local go_sem] Oper.semAt_some uponV
structure PlanV (w : World) (v : Value) (e : Int) (cs : List (List Int)) : Prop where
  ex : ∃ a cap, v = .agg #[.int .i64 e, .slice a cs.length cap] ∧ ChsAt w a cs
  few : cs.length ≤ 1000
  each : ∀ c ∈ cs, c.length ≤ 100000
theorem PlanV.grew {w w' : World} {v : Value} {e : Int} {cs : List (List Int)} (h : PlanV w v e cs) (g : Grew w w') : PlanV w' v e cs := by
  obtain ⟨⟨a, cap, e1, h1⟩, h2, h3⟩ := h
  exact ⟨⟨a, cap, e1, h1.grew g⟩, h2, h3⟩
def SharedV (y : World) (uv : Value) (e : Int) (sq : Nat) (v : Value) (u : World) : Prop := ∃ lb cv, v = .pointer (some ⟨lb, 0, none⟩) ∧ y.heap.size ≤ lb ∧ u.heap[lb]? = some (.cells #[uv, .int .i64 e, cv, .pointer (some ⟨sq, 0, none⟩)] 127 (0, 0))
theorem SharedV.grew {y u u' : World} {uv v : Value} {e : Int} {sq : Nat} (h : SharedV y uv e sq v u) (g : Grew u u') : SharedV y uv e sq v u' := by
  obtain ⟨lb, cv, h1, h2, h3⟩ := h
  exact ⟨lb, cv, h1, h2, (g.below.block lb (Array.getElem?_eq_some_iff.1 h3).1).trans h3⟩
set_option maxRecDepth 100000 in
set_option maxHeartbeats 4000000 in
theorem sharedNew_any (w : World) (ua : Option Addr) (un uc : Nat) (pv : Value) (e : Int) (cs : List (List Int)) (hp : PlanV w pv e cs) (sq : Nat) :
    Calls Tryz.prog 20 #[.slice ua un uc, pv, .pointer (some ⟨sq, 0, none⟩)] w fun r w' => ∃ v, r = .returned v ∧ SharedV w (.slice ua un uc) e sq v w' ∧ Grew w w' := by
  obtain ⟨⟨a, cap, rfl, hA⟩, hn, hc⟩ := hp
  have gA : Grew w (w.alloc (.cells #[.int .i64 e, .slice a cs.length cap] 39)) := (Grew.refl w).alloc _
  have H := hid (planCopy_any _ e a cap cs (hA.grew gA) hn hc)
  clear hA hc
  go_enter Tryz.func20, Tryz.ntmps20
  go_wp2_with fail
  refine H.out.mono ?_
  rintro r w1 ⟨hg, v, rfl, hr⟩
  obtain ⟨va, vc, rfl, _, _⟩ := hr.at
  have HG := hid (gA.trans hg)
  clear hg hr gA H
  go_wp2_with fail
  go_ret
  exact ⟨_, rfl, ⟨w1.heap.size, _, rfl, HG.out.size, heap_alloc_new w1 _⟩, HG.out.alloc _⟩
theorem info_pu9 : (Tryz.prog.info? 133).map (fun i => (i.zero, i.size, i.bytes)) = some (some (.pointer none), 1, 8) := by kernel_rfl
structure L17 (w : World) (lb k : Nat) (v : Value) (wr : World) : Prop where
  grew : Grew w wr
  c0 : wr.cell? ⟨lb, 0, none⟩ = some v
  f0 : ∀ i, wr.frozen? ⟨lb, i, none⟩ = false
  c3 : wr.cell? ⟨lb, 3, none⟩ = some (.pointer none)
  row : ∃ fl, wr.ownsRow (lb + 1) 133 1 v k fl
set_option maxRecDepth 100000 in
set_option maxHeartbeats 8000000 in
theorem new17_any (w : World) (pv : Value) (e : Int) (cs : List (List Int)) (hp : PlanV w pv e cs) (he : 0 ≤ e) (he2 : e ≤ 1073741824) :
    Calls Tryz.prog 21 #[pv, .int .i64 3] w fun r w' => (∃ b, r = .returned (.pointer (some ⟨b, 0, none⟩))) ∧ Grew w w' := by
  obtain ⟨i0, hi0, hz0, hz1, hz2⟩ := info_parts info_pu9
  obtain ⟨⟨a, cap, rfl, hA⟩, hn, hc⟩ := hp
  have HN := hid (fun W => new09_any 3 W)
  clear hA hc hn
  go_enter Tryz.func21, Tryz.ntmps21
  go_wp2_with fail
  obtain ⟨Y, hY⟩ : ∃ Y, Y = (w.alloc (.cells #[.int .i64 e, .slice a cs.length cap] 72)).alloc (.cells #[.slice none 0 0, .int .i64 e, .slice a cs.length cap, .pointer none] 132) := ⟨_, rfl⟩
  have gY : Grew w Y := by rw [hY]; exact ((Grew.refl w).alloc _).alloc _
  have y0 : Y.cell? ⟨w.heap.size + 1, 0, none⟩ = some (.slice none 0 0) := by rw [hY]; simp [go_sem]
  have y3 : Y.cell? ⟨w.heap.size + 1, 3, none⟩ = some (.pointer none) := by rw [hY]; simp [go_sem]
  have yf : ∀ i, Y.frozen? ⟨w.heap.size + 1, i, none⟩ = false := fun i => by rw [hY]; simp [go_sem]
  have p0 : Y.cell? ⟨w.heap.size, 0, none⟩ = some (.int .i64 e) := by rw [hY]; simp [go_sem]
  have H0 : Hid (L17 w (w.heap.size + 1) 0 (.slice none 0 0) Y) := ⟨gY, y0, yf, y3, ⟨[], World.ownsRow_nil _ _ _ _⟩⟩
  rw [← hY]
  have hszE : Y.heap.size = w.heap.size + 2 := by rw [hY]; simp
  have HP := hid (And.intro gY p0)
  clear hY gY y0 y3 yf p0
  have hsz : w.heap.size + 1 < Y.heap.size := cell_lt H0.out.c0
  go_loopw [6] (fun i wr => ∃ (k : Nat) (v : Value), i = .int .i64 k ∧ k ≤ 12 ∧ Hid (L17 w (w.heap.size + 1) k v wr) ∧ Hid (Only (fun j => j = w.heap.size + 1) Y wr)) (fun i _ => 12 - (intOf i).toNat)
  case atStart => exact ⟨0, _, rfl, by omega, H0, Only.refl _ _⟩
  case round =>
    obtain ⟨k, v, rfl, hk, HI, HO⟩ := hrel
    by_cases hlt : k < 12
    · obtain ⟨fl, hrow⟩ := HI.out.row
      have hform : ∃ va vc, v = .slice va k vc := by
        rcases hrow.2 with ⟨h1, h2⟩ | ⟨b, c, cur, h1, _⟩
        · exact ⟨none, 0, by rw [h1, h2]⟩
        · exact ⟨_, _, h1⟩
      obtain ⟨va, vc, rfl⟩ := hform
      have c0 := HI.out.c0
      have hne : ¬ some (w.heap.size + 1) = Value.ownBlock (.slice va k vc) := fun q => by
        have := (hrow.lt _ q.symm).1; omega
      have HROW := hid hrow
      have hlb := cell_lt c0
      have f0 := HI.out.f0 0
      clear hrow
      go_wp2_with fail
      have C0 := wd_only (S := fun j => some j = Value.ownBlock (.slice va k vc)) c0 hne
      refine wp_region_mixS 9 [6, 7, 8] (Only (fun j => some j = Value.ownBlock (.slice va k vc)) wr) Eq (JA 6 7 8 (fun _ => none) 133 1 wr (fun r _ => ∃ b, r = .pointer (some ⟨b, 0, none⟩)) (fun r => [r]) (.slice va k vc) k fl) (fun f a => ((a.put (some 20) (f 6)).put (some 21) (f 7)).put (some 22) (f 8)) (by kernel_rfl) (by kernel_rfl) (fun _ _ => rfl) (JA.start _) (fun _ _ _ h => h.only) (fun _ => rfl) (fun _ _ _ _ h g => g ▸ h) ?_
      repeat (first
    | refine mxL ?_
    | (refine mxP ?_; intros; go_big_quiet_op; go_big_quiet_on)
    | (refine mxK ?_; simp only [Act.put, List.setIfInBounds_toArray, List.set_cons_zero, List.set_cons_succ]))
      refine mixS_done (by rfl) ⟨⟨loose_of rfl (fun _ a => a) (fun _ _ => rfl) (fun _ => rfl) ?_, loose_of rfl (fun f a => a.put (some 20) (f 6)) (fun _ _ => rfl) (fun _ => rfl) ?_, loose_of rfl (fun f a => (a.put (some 20) (f 6)).put (some 21) (f 7)) (fun _ _ => rfl) (fun _ => rfl) ?_, trivial⟩, ?_⟩
      · intro L f x hJ hL hd
        obtain ⟨hg, hp⟩ := hJ.atCall hL
        have HP := hid hp
        clear hJ hL hd hp C0
        go_simp
        refine (HN.out x).mono ?_
        rintro r x' ⟨rfl, rfl⟩
        exact ⟨_, rfl, HP.out _ _ (((Grew.refl x).alloc _).alloc _) ⟨_, rfl⟩⟩
      · intro L f x hJ hL hd
        have hc : L 6 = true := hd 6 rfl (by decide)
        obtain ⟨hg, ⟨b, e6⟩, hp⟩ := hJ.atMake hL hc (fun _ _ _ h g => h)
        rw [e6] at hp ⊢
        have HP := hid hp
        clear hJ hL hd hp C0 e6
        go_simp
        exact HP.out
      · intro L f x hJ hL hd
        have h7 : L 7 = true := hd 7 rfl (by decide)
        obtain ⟨hg, ⟨b, e6⟩, ⟨kb, e7, hkb⟩, hp⟩ := hJ.atApp hL h7
        rw [e7]
        rw [e6] at hkb hp
        rw [e6]
        refine uponV_append _ _ _ rfl 133 i0 _ 1 8 Tryz.underlying129 hi0 hz0 hz1 hz2 rfl (by omega) (.slice va k vc) k _ rfl (ownsRow_zero (ownsRow_grew hg HROW.out)) kb 1 _ rfl rfl hkb (fun v hv => by rw [List.mem_singleton.1 hv]; rfl) (by unfold maxLen; omega) (by omega) ?_
        intro r w' hD
        exact hp _ _ hD
      intro f x hJ
      obtain ⟨x0, gx0, ⟨b, e6⟩, hD⟩ := hJ.ha rfl
      obtain ⟨g, gc, e8, hrow, hgb, hgo⟩ := hD
      rw [e8, e6]
      rw [e6] at hrow
      have ho1 : Only (fun j => some j = Value.ownBlock (.slice va k vc)) wr x := hJ.only
      have x0' := (ho1.cell hlb hne 0).trans c0
      have xf := (ho1.frozen hlb hne 0).trans f0
      have hgl : w.heap.size + 1 + 1 ≤ g := by
        rcases hgo with q | q
        · exact (HROW.out.lt g q).1
        · have := gx0.size; omega
      have HX := hid (And.intro ho1 hrow)
      clear hJ hrow hgb hgo ho1 gx0 e6 e8 C0 c0 f0
      dsimp only [List.drop]
      simp only [Act.put, List.setIfInBounds_toArray, List.set_cons_succ, List.set_cons_zero]
      go_wp2_with fail
      go_roundw
      case rel =>
        obtain ⟨ho, hrow⟩ := HX.out
        have oZ : Only (fun j => j = w.heap.size + 1) x (x.setCell ⟨w.heap.size + 1, 0, none⟩ (.slice (some ⟨g, 0, none⟩) (k + 1) gc)) := Only.setCell x ⟨w.heap.size + 1, 0, none⟩ _
        have hown : ∀ j, some j = Value.ownBlock (.slice va k vc) → w.heap.size + 1 + 1 ≤ j ∧ j < wr.heap.size := fun j e => HROW.out.lt j e.symm
        refine ⟨k + 1, _, by go_num, by omega, ⟨?_, World.cell?_setCell_same' _ _ _ (by rw [x0']; rfl), fun i => (World.frozen?_setCell _ _ _ _).trans ((ho.frozen hlb hne i).trans (HI.out.f0 i)), ?_, ?_⟩, ?_⟩
        · refine ((HI.out.grew.only (fun j => some j = Value.ownBlock (.slice va k vc) ∨ j = w.heap.size + 1)).then ((ho.mono fun _ e => .inl (.inl e)).then (oZ.mono fun _ e => .inl (.inr e)))).grew fun j hj => ?_
          rcases hj with e | e
          · have := (hown j e).1; omega
          · omega
        · exact (World.cell?_setCell_other x ⟨w.heap.size + 1, 0, none⟩ ⟨w.heap.size + 1, 3, none⟩ _ (fun e => by cases e)).trans ((ho.cell hlb hne 3).trans HI.out.c3)
        · have h2 := ownsRow_kept hrow oZ (fun j hj e => by have : j = g := by simpa [Value.ownBlock] using hj.symm
                                                            omega)
          refine ⟨_, h2.1, ?_⟩
          rcases h2.2 with ⟨q, _⟩ | ⟨b', cap', cur', q, _, q2⟩
          · injection q with q; cases q
          · refine .inr ⟨b', cap', cur', q, ?_, q2⟩
            injection q with q; cases q; exact hgl
        · exact (HO.out.trans ho fun j e => .inr (by have := (hown j e).1; omega)).then oZ
      case measure => simp [intOf]; omega
    · obtain rfl : k = 12 := by omega
      have q0 := (HO.out.cell (cell_lt HP.out.2) (fun e : w.heap.size = w.heap.size + 1 => by omega) 0).trans HP.out.2
      have c3 := HI.out.c3
      have f3 := HI.out.f0 3
      have H13 := hid (fun W => new13_any e he he2 W)
      go_wp2_with fail
      refine (H13.out _).mono ?_
      rintro r w3 ⟨rfl, hw3⟩
      have hg3 : Grew wr w3 := by rw [hw3]; exact ((Grew.refl wr).alloc _).alloc _
      have HG3 := hid hg3
      have z3 := (hg3.cells.1 _ 3 (cell_lt c3)).trans c3
      have zf := (hg3.cells.2 _ 3 (cell_lt c3)).trans f3
      clear hw3 hg3 c3 f3 q0
      go_wp2_with fail
      go_ret
      exact ⟨⟨_, rfl⟩, (((HI.out.grew.trans HG3.out).only (fun j => j = w.heap.size + 1)).then (Only.setCell _ ⟨w.heap.size + 1, 3, none⟩ _)).grew (fun j (hj : j = w.heap.size + 1) => by omega)⟩
end Go.Proofs.YtlgcdneiebjkcaaGreatDoor
