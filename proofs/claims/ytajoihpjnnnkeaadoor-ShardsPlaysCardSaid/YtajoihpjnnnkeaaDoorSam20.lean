/- The walk of tidewaterlaw20.same: the program's map and the document's tell the same. -/
import Derived.Test.YtajoihpjnnnkeaaDoorCpy20
import Derived.Test.YtajoihpjnnnkeaaDoorSrt20
import Derived.Test.YtajoihpjnnnkeaaDoorPk4
import Derived.BigQuiet
set_option linter.unusedVariables false
set_option linter.unusedSectionVars false
set_option linter.unusedSimpArgs false
namespace Go.Proofs.YtajoihpjnnnkeaaDoor
open Go.RowKit Go.Maps
attribute [local go_sem] Oper.semAt_some

theorem flatMap_at {α β : Type} (f : α → List β) (m : Nat) (hf : ∀ a, (f a).length = m) : ∀ (q : List α) (j : Nat) (hj : j < q.length) (i : Nat), i < m → (q.flatMap f)[j * m + i]? = (f q[j])[i]?
  | [], j, hj, _, _ => absurd hj (Nat.not_lt_zero j)
  | a :: q, 0, _, i, hi => by
    rw [List.flatMap_cons, Nat.zero_mul, Nat.zero_add, List.getElem?_append_left (by rw [hf]; exact hi)]; rfl
  | a :: q, j + 1, hj, i, hi => by
    have ih := flatMap_at f m hf q j (by simpa using hj) i hi
    rw [List.flatMap_cons, List.getElem?_append_right (by rw [hf, Nat.succ_mul]; omega), hf, show (j + 1) * m + i - m = j * m + i by rw [Nat.succ_mul]; omega, ih]
    rfl
theorem slice_form {w : World} {B : Nat} {e : TypeId} {k : Nat} {v : Value} {n : Nat} {xs : List Value} (h : w.ownsRow B e k v n xs) : ∃ a c, v = .slice a n c := by
  rcases h.2 with ⟨e, h0⟩ | ⟨g, cp, cur, e, _⟩
  · exact ⟨none, 0, by rw [e, h0]⟩
  · exact ⟨_, _, e⟩
theorem slice_some {w : World} {B : Nat} {e : TypeId} {k : Nat} {a : Option Addr} {c n : Nat} {xs : List Value} (h : w.ownsRow B e k (.slice a n c) n xs) (hn : 0 < n) : ∃ g, a = some ⟨g, 0, none⟩ ∧ B ≤ g ∧ g < w.heap.size := by
  obtain ⟨g, c', e', hB, hlt⟩ := h.form hn
  injection e' with e1
  exact ⟨g, e1, hB, hlt⟩

/-- What is asked of a map's events. -/
structure EvAt (W : World) (s : ShSt) (q : List Ac) : Prop where
  evs : s.evs = q.flatMap (fun a => evVals a.at' a.e)
  len : q.length = s.ne
  ok : ∀ a ∈ q, EnAt W a.e ∧ EnSm a.e ∧ Pl.rightB a.e = true ∧ (a.e.kind = 3 ∨ a.e.kind = 4)
theorem EvAt.one {W : World} {s : ShSt} {q : List Ac} (h : EvAt W s q) : ∀ u ∈ s.evs, u.oneCell' = true := by
  intro u hu
  rw [h.evs] at hu
  obtain ⟨a, _, ha⟩ := List.mem_flatMap.1 hu
  exact evVals_one _ _ u ha
theorem EvAt.grew {W W' : World} {s : ShSt} {q : List Ac} (h : EvAt W s q) (g : Grew W W') : EvAt W' s q := ⟨h.evs, h.len, fun a ha => ⟨(h.ok a ha).1.grew g, (h.ok a ha).2⟩⟩

set_option maxRecDepth 100000 in
set_option maxHeartbeats 8000000 in
theorem same20_any {w : World} {Fs Fm : Nat → Prop} {sb mb : Nat} {s : ShSt} {t : MdSt} (h : StAt w Fs sb s) (hM : MdAt w Fm mb t) (hT : Pl.Twin s t) (hr : Pl.Rise s.xs) (h0 : 0 < s.xs.length) (hx : s.xs.length ≤ 1000) (hne : s.ne ≤ 1000) (hnd : (s.xs.map Sh.id).Nodup) {q : List Ac} (hq : EvAt w s q) :
    Calls Tryd.prog 19 #[.pointer (some ⟨sb, 0, none⟩), .pointer (some ⟨mb, 0, none⟩)] w fun r w' => r = .returned (.bool true) ∧ Grew w w' := by
  have H1 := hid h
  have HM := hid hM
  have HQ := hid hq
  have HONE := hid hq.one
  have HSO := hid (fun W (g : Grew w W) => sorted20_any (hM.grew g) hT.live hr h0 hx)
  have HSH := hid (fun W (g : Grew w W) => shards_any (h.grew g) hx h0)
  have HSD := hid (fun W (g : Grew w W) (k : Nat) (hk : k < s.xs.length) => shardM_any (SmAt.grew h g) hx (shAt s.xs k).id)
  have HFI := hid (fun (k : Nat) (hk : k < s.xs.length) => Pl.find_at hnd k hk)
  have HEV := hid (fun W (g : Grew w W) => events_any (h.grew g) hq.one (by omega))
  have hne2 := hT.ne
  have hev2 := hT.evs
  obtain ⟨xs, used, ne0, evs0⟩ := s
  obtain ⟨ys, us, ne, evs⟩ := t
  dsimp only at *
  subst hne2 hev2
  clear h hT hr hnd hq
  obtain ⟨vl, vu, ve, hMI⟩ := hM
  dsimp only at hMI
  obtain ⟨ea, ec, rfl⟩ := slice_form hMI.erow
  have cE := hMI.ev
  have hmb := hMI.blt
  have HER := hid hMI.erow
  clear hMI
  go_enter Tryd.func19, Tryd.ntmps19
  go_wp2_with fail
  refine (HSH.out _ (Grew.refl w)).mono ?_
  rintro r w1 ⟨g1, c1, rfl, hr1, hg1⟩
  have HG1 := hid hg1
  have HR1 := hid hr1
  have hg1l : g1 < w1.heap.size := (hr1.lt g1 rfl).2
  clear hg1 hr1
  go_wp2_with fail
  refine (HSO.out _ HG1.out).mono ?_
  rintro r w2 ⟨g2, c2, rfl, hr2, hg2⟩
  have HG2 := hid (HG1.out.trans hg2)
  have HR2 := hid hr2
  have HR1' := hid (ownsRow_grew hg2 HR1.out)
  have hg2l : g2 < w2.heap.size := (hr2.lt g2 rfl).2
  have hg1l2 : g1 < w2.heap.size := Nat.lt_of_lt_of_le hg1l hg2.size
  clear hg2 hr2 HR1 HSO HSH
  go_wp2_with fail
  go_loopw [25] (fun i wr => ∃ k : Nat, k ≤ xs.length ∧ i = .int .i64 k ∧ Hid (Grew w2 wr)) (fun i _ => xs.length - (intOf i).toNat)
  case atStart => exact ⟨0, Nat.zero_le _, rfl, hid (Grew.refl w2)⟩
  case round =>
    obtain ⟨k, hk1, rfl, HGK⟩ := hrel
    obtain ⟨w3, rfl⟩ : ∃ w3 : World, w3 = wr := ⟨_, rfl⟩
    by_cases hlt : k < xs.length
    · have HC1 : Hid (∀ W, Grew w2 W → ∀ i, i < 5 → W.cell? ⟨g1, k * 5 + i, none⟩ = (shAt xs k).vals[i]?) := fun W gW i hi => by
        rw [gW.cells.1 _ _ hg1l2, HR1'.out.cellAt (k * 5 + i) (by omega), shFlat_get i hi xs k hlt]
      have HC2 : Hid (∀ W, Grew w2 W → ∀ i, i < 5 → W.cell? ⟨g2, k * 5 + i, none⟩ = (shAt xs k).vals[i]?) := fun W gW i hi => by
        rw [gW.cells.1 _ _ hg2l, HR2.out.cellAt (k * 5 + i) (by omega), shFlat_get i hi xs k hlt]
      have p0 := HC1.out w3 HGK.out 0 (by omega)
      have p1 := HC1.out w3 HGK.out 1 (by omega)
      have p2 := HC1.out w3 HGK.out 2 (by omega)
      have p3 := HC1.out w3 HGK.out 3 (by omega)
      have p4 := HC1.out w3 HGK.out 4 (by omega)
      have HD := hid (fun W (g : Grew w W) => HSD.out W g k hlt)
      have hfi := HFI.out k hlt
      have hsv : Pl.shardV xs (shAt xs k).id = shAt xs k := by unfold Pl.shardV; rw [hfi, if_neg (by omega), Int.toNat_natCast]
      have hd0 : decide (0 ≤ Pl.findM xs (shAt xs k).id) = true := by rw [hfi]; simp
      rw [hsv, hd0] at HD
      clear hfi hsv hd0
      generalize shAt xs k = cm at *
      obtain ⟨x0, x1, x2, x3, x4⟩ := cm
      unfold Sh.aggOf at HD
      unfold Sh.vals at HD HC1 HC2 p0 p1 p2 p3 p4
      dsimp only at HD
      simp only [List.getElem?_cons_zero, List.getElem?_cons_succ, Nat.add_zero] at p0 p1 p2 p3 p4
      go_wp2_with fail
      refine (HD.out _ (HG2.out.trans (HGK.out.alloc _))).mono ?_
      rintro r w4 ⟨rfl, hg4⟩
      have hz4 : w3.heap.size < (w3.alloc (Obj.cells #[.int .i64 x0, .int .i64 x1, .int .i64 x2, .string x3, .string x4] 40)).heap.size := by simp
      have s0 : w4.cell? ⟨w3.heap.size, 0, none⟩ = some (.int .i64 x0) := (hg4.cells.1 _ _ hz4).trans (by simp [go_sem])
      have s1 : w4.cell? ⟨w3.heap.size, 1, none⟩ = some (.int .i64 x1) := (hg4.cells.1 _ _ hz4).trans (by simp [go_sem])
      have s2 : w4.cell? ⟨w3.heap.size, 2, none⟩ = some (.int .i64 x2) := (hg4.cells.1 _ _ hz4).trans (by simp [go_sem])
      have s3 : w4.cell? ⟨w3.heap.size, 3, none⟩ = some (.string x3) := (hg4.cells.1 _ _ hz4).trans (by simp [go_sem])
      have s4 : w4.cell? ⟨w3.heap.size, 4, none⟩ = some (.string x4) := (hg4.cells.1 _ _ hz4).trans (by simp [go_sem])
      have HG4 := hid ((HGK.out.alloc _).trans hg4)
      have hzz : w3.heap.size < w4.heap.size := Nat.lt_of_lt_of_le hz4 hg4.size
      have v0 := HC2.out w4 HG4.out 0 (by omega)
      have v1 := HC2.out w4 HG4.out 1 (by omega)
      have v2 := HC2.out w4 HG4.out 2 (by omega)
      have v3 := HC2.out w4 HG4.out 3 (by omega)
      have v4 := HC2.out w4 HG4.out 4 (by omega)
      simp only [List.getElem?_cons_zero, List.getElem?_cons_succ, Nat.add_zero] at v0 v1 v2 v3 v4
      have hg2l4 : g2 < w4.heap.size := Nat.lt_of_lt_of_le hg2l HG4.out.size
      clear hg4 p0 p1 p2 p3 p4 HC1 HC2 HD
      have hb3 : (x3.toList == x3.toList) = true := beq_self_eq_true _
      have hb4 : (x4.toList == x4.toList) = true := beq_self_eq_true _
      go_wp2_with fail
      go_quiet (fail)
      all_goals (
        go_wp2_with fail
        go_roundw
        case rel => exact ⟨k + 1, by omega, by go_num, hid ((HG4.out.alloc _).drewN _)⟩
        case measure => simp [intOf]; omega)
    · obtain rfl : k = xs.length := by omega
      go_wp2_with fail
      refine (HEV.out _ (HG2.out.trans HGK.out)).mono ?_
      rintro r w5 ⟨v5, rfl, hr5, hg5⟩
      obtain ⟨a5, c5, rfl⟩ := slice_form hr5
      have HG5 := hid (HG2.out.trans (HGK.out.trans hg5))
      have HR5 := hid hr5
      have cE5 := (HG5.out.cells.1 _ _ hmb).trans cE
      have hmb5 : mb < w5.heap.size := Nat.lt_of_lt_of_le hmb HG5.out.size
      clear hr5 hg5 HEV HSD HFI HR1' HR2 HGK
      go_wp2_with fail
      go_loopw [65] (fun i wr => ∃ j : Nat, j ≤ ne ∧ i = .int .i64 j ∧ Hid (Grew w5 wr)) (fun i _ => ne - (intOf i).toNat)
      case atStart => exact ⟨0, Nat.zero_le _, rfl, hid (Grew.refl w5)⟩
      case round =>
        obtain ⟨j, hj1, rfl, HG6⟩ := hrel
        obtain ⟨w6, rfl⟩ : ∃ w6 : World, w6 = wr := ⟨_, rfl⟩
        by_cases hlt : j < ne
        · obtain ⟨l5, rfl, hl5, hl5b⟩ := slice_some HR5.out (by omega)
          obtain ⟨e5, rfl, _, he5⟩ := slice_some HER.out (by omega)
          have hql : j < q.length := by have h9 := HQ.out.len; dsimp only at h9; omega
          have hat : ∀ i, i < 13 → evs[j * 13 + i]? = (evVals q[j].at' q[j].e)[i]? := fun i hi => by
            have := HQ.out.evs
            dsimp only at this
            rw [this]
            exact flatMap_at (fun a : Ac => evVals a.at' a.e) 13 (fun _ => rfl) q j hql i hi
          have hok := HQ.out.ok q[j] (List.getElem_mem hql)
          have HL1 : Hid (∀ W, Grew w5 W → ∀ i v, i < 13 → (evVals q[j].at' q[j].e)[i]? = some v → W.cell? ⟨l5, j * 13 + i, none⟩ = some v) := fun W gW i v hi hv => by
            rw [gW.cells.1 _ _ hl5b, HR5.out.cellAt (j * 13 + i) (by omega), hat i hi, hv]
          have HL2 : Hid (∀ W, Grew w5 W → ∀ i v, i < 13 → (evVals q[j].at' q[j].e)[i]? = some v → W.cell? ⟨e5, j * 13 + i, none⟩ = some v) := fun W gW i v hi hv => by
            rw [gW.cells.1 _ _ (Nat.lt_of_lt_of_le he5 HG5.out.size), HG5.out.cells.1 _ _ he5, HER.out.cellAt (j * 13 + i) (by omega), hat i hi, hv]
          have HSA := hid (fun W (g : Grew w W) => same5_any q[j].e hok.2.2.1 hok.2.2.2 W (hok.1.grew g) hok.2.1)
          have hjL : (j : Int) < (ne : Int) := by omega
          clear hat hok hl5
          generalize q[j] = A at *
          obtain ⟨⟨kind, shard, other, server, client, seq, key, upto, part, parts, ops, opsA, opsC, dataA, dataL, dataC⟩, at'⟩ := A
          dsimp only at *
          unfold evVals at HL1 HL2
          unfold En.vals at HL1 HL2
          unfold En.agg En.vals at HSA
          dsimp only at *
          have p0 := HL1.out w6 HG6.out 0 (.int .i64 at') (by omega) rfl
          have p1 := HL1.out w6 HG6.out 1 (.int .i64 kind) (by omega) rfl
          have p2 := HL1.out w6 HG6.out 2 (.int .i64 shard) (by omega) rfl
          have p3 := HL1.out w6 HG6.out 3 (.int .i64 other) (by omega) rfl
          have p4 := HL1.out w6 HG6.out 4 (.int .i64 server) (by omega) rfl
          have p5 := HL1.out w6 HG6.out 5 (.int .i64 client) (by omega) rfl
          have p6 := HL1.out w6 HG6.out 6 (.int .i64 seq) (by omega) rfl
          have p7 := HL1.out w6 HG6.out 7 (.slice opsA ops.length opsC) (by omega) rfl
          have p8 := HL1.out w6 HG6.out 8 (.string key) (by omega) rfl
          have p9 := HL1.out w6 HG6.out 9 (.int .i64 upto) (by omega) rfl
          have p10 := HL1.out w6 HG6.out 10 (.int .i64 part) (by omega) rfl
          have p11 := HL1.out w6 HG6.out 11 (.int .i64 parts) (by omega) rfl
          have p12 := HL1.out w6 HG6.out 12 (.slice dataA dataL dataC) (by omega) rfl
          have hmb6 : mb < w6.heap.size := Nat.lt_of_lt_of_le hmb5 HG6.out.size
          have hE6 := (HG6.out.cells.1 _ _ hmb5).trans cE5
          rw [Nat.add_zero] at p0
          go_wp2_with fail
          obtain ⟨y, hy⟩ : ∃ y, y = w6.alloc (Obj.cells #[.int .i64 at', .int .i64 kind, .int .i64 shard, .int .i64 other, .int .i64 server, .int .i64 client, .int .i64 seq, .slice opsA ops.length opsC, .string key, .int .i64 upto, .int .i64 part, .int .i64 parts, .slice dataA dataL dataC] 97) := ⟨_, rfl⟩
          rw [← hy]
          have HGy : Hid (Grew w5 y) := by rw [hy]; exact HG6.out.alloc _
          have C2 := wd_cell (show y.cell? ⟨mb, 2, none⟩ = some _ from (HGy.out.cells.1 _ _ hmb5).trans cE5)
          have B0 := wd_cell (show y.cell? ⟨w6.heap.size, 0, none⟩ = some (.int .i64 at') from by rw [hy]; simp [go_sem])
          have B1 := wd_cell (show y.cell? ⟨w6.heap.size, 1, none⟩ = some (.int .i64 kind) from by rw [hy]; simp [go_sem])
          have B2 := wd_cell (show y.cell? ⟨w6.heap.size, 2, none⟩ = some (.int .i64 shard) from by rw [hy]; simp [go_sem])
          have B3 := wd_cell (show y.cell? ⟨w6.heap.size, 3, none⟩ = some (.int .i64 other) from by rw [hy]; simp [go_sem])
          have B4 := wd_cell (show y.cell? ⟨w6.heap.size, 4, none⟩ = some (.int .i64 server) from by rw [hy]; simp [go_sem])
          have B5 := wd_cell (show y.cell? ⟨w6.heap.size, 5, none⟩ = some (.int .i64 client) from by rw [hy]; simp [go_sem])
          have B6 := wd_cell (show y.cell? ⟨w6.heap.size, 6, none⟩ = some (.int .i64 seq) from by rw [hy]; simp [go_sem])
          have B7 := wd_cell (show y.cell? ⟨w6.heap.size, 7, none⟩ = some (.slice opsA ops.length opsC) from by rw [hy]; simp [go_sem])
          have B8 := wd_cell (show y.cell? ⟨w6.heap.size, 8, none⟩ = some (.string key) from by rw [hy]; simp [go_sem])
          have B9 := wd_cell (show y.cell? ⟨w6.heap.size, 9, none⟩ = some (.int .i64 upto) from by rw [hy]; simp [go_sem])
          have B10 := wd_cell (show y.cell? ⟨w6.heap.size, 10, none⟩ = some (.int .i64 part) from by rw [hy]; simp [go_sem])
          have B11 := wd_cell (show y.cell? ⟨w6.heap.size, 11, none⟩ = some (.int .i64 parts) from by rw [hy]; simp [go_sem])
          have B12 := wd_cell (show y.cell? ⟨w6.heap.size, 12, none⟩ = some (.slice dataA dataL dataC) from by rw [hy]; simp [go_sem])
          have R0 := wd_cell (HL2.out y HGy.out 0 (.int .i64 at') (by omega) rfl)
          have R1 := wd_cell (HL2.out y HGy.out 1 (.int .i64 kind) (by omega) rfl)
          have R2 := wd_cell (HL2.out y HGy.out 2 (.int .i64 shard) (by omega) rfl)
          have R3 := wd_cell (HL2.out y HGy.out 3 (.int .i64 other) (by omega) rfl)
          have R4 := wd_cell (HL2.out y HGy.out 4 (.int .i64 server) (by omega) rfl)
          have R5 := wd_cell (HL2.out y HGy.out 5 (.int .i64 client) (by omega) rfl)
          have R6 := wd_cell (HL2.out y HGy.out 6 (.int .i64 seq) (by omega) rfl)
          have R7 := wd_cell (HL2.out y HGy.out 7 (.slice opsA ops.length opsC) (by omega) rfl)
          have R8 := wd_cell (HL2.out y HGy.out 8 (.string key) (by omega) rfl)
          have R9 := wd_cell (HL2.out y HGy.out 9 (.int .i64 upto) (by omega) rfl)
          have R10 := wd_cell (HL2.out y HGy.out 10 (.int .i64 part) (by omega) rfl)
          have R11 := wd_cell (HL2.out y HGy.out 11 (.int .i64 parts) (by omega) rfl)
          have R12 := wd_cell (HL2.out y HGy.out 12 (.slice dataA dataL dataC) (by omega) rfl)
          have HY := hid hy
          rw [Nat.add_zero] at R0
          clear hy p0 p1 p2 p3 p4 p5 p6 p7 p8 p9 p10 p11 p12
          refine wp_region_mix 22 [] (Grew y) Eq (fun _ _ x => x = y.drew) (fun _ a => a) (by kernel_rfl) (by kernel_rfl) (fun _ _ => rfl) rfl (fun _ _ x h => by rw [h]; exact (Grew.refl y).drew) (fun _ => rfl) (fun _ _ _ _ h g => g ▸ h) ?_
          repeat (first
    | (refine wpMix_loose (by rfl) (by rfl) ?_)
    | (refine wpMix_plain (by rfl) (by rfl) (by rfl) (by first | exact Grew.refl | exact fun _ => rfl) (by rfl) ?_; intro K hK; go_big_quiet_op; go_big_quiet_on)
    | (refine wpMix_skip (by rfl) (by rfl) (by rfl) ?_; simp only [Act.put, List.setIfInBounds_toArray, List.set_cons_zero, List.set_cons_succ]))
          refine wpMix_done (by rfl) ⟨trivial, ?_⟩
          rintro f0 x rfl
          have HGx := hid (HGy.out.drew)
          clear C2 B0 B1 B2 B3 B4 B5 B6 B7 B8 B9 B10 B11 B12 R0 R1 R2 R3 R4 R5 R6 R7 R8 R9 R10 R11 R12
          dsimp only [List.drop]
          go_wp2_with fail
          refine (HSA.out _ (HG5.out.trans HGx.out)).mono ?_
          rintro r w7 ⟨rfl, hg7⟩
          have HG7 := hid (HGx.out.trans hg7)
          clear hg7 HSA
          go_wp2_with fail
          go_roundw
          case rel => exact ⟨j + 1, by omega, by go_num, HG7⟩
          case measure => simp [intOf]; omega
        · obtain rfl : j = ne := by omega
          go_wp2_with fail
          go_ret
          exact ⟨rfl, HG5.out.trans HG6.out⟩
end Go.Proofs.YtajoihpjnnnkeaaDoor
