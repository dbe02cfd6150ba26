/- Law39r, OpenCg, Laid, Fin19r, Fin19rc: one text. -/
import Derived.Test.YtbdagllflamabaaGreatDoorFinWatchReplaysQ49
import Derived.Test.YtbdagllflamabaaGreatDoorFinWatchReplaysQ46
import Derived.Test.YtbdagllflamabaaGreatDoorFinWatchReplaysQ45
import Derived.Deep.Slices
import Derived.ChangeSame
import Derived.ProofKit
import Derived.OpenShut
import Derived.SizedLaws
import Derived.Test.YtbdagllflamabaaGreatDoorFinWatchReplaysQ2
import Derived.Stop.LaidErr
import Derived.Test.YtbdagllflamabaaGreatDoorCards
import Derived.Test.YtbdagllflamabaaGreatDoorTie
import Derived.ShutString
import Derived.LaidMore
import Derived.Stop.Joined
import Derived.Lib.SmallJoins
set_option linter.unusedVariables false
set_option linter.unusedSectionVars false
set_option linter.unusedSimpArgs false
namespace Go.Proofs.YtbdagllflamabaaGreatDoor
open Go.RowKit Go.Maps
attribute [local go_sem] Oper.semAt_some uponV
theorem numW_any (E : Nat → Addr) (k : Nat) (hk : k ≤ 19) (w : World) (hE : Errs allS E w) :
    Calls Tryz.prog 26 #[errOf E k] w fun e w' => e = .returned (.int .i64 (k : Nat)) ∧ Grew w w' := by
  by_cases h0 : k = 0
  · subst h0
    exact (num_nil w).mono fun e w' ⟨he, hw⟩ => ⟨he, by rw [← hw]; exact Grew.refl _⟩
  · rw [errOf_pos E k h0]
    exact num_err E k (by omega) hk w hE
namespace Pl
theorem keyR_le (s : ByteArray) : keyN s ≤ 19 := by
  unfold keyN
  split
  · decide
  · unfold keyL
    repeat' split
    all_goals decide
theorem putR_le (p : Pr) : putN p ≤ 19 := by
  unfold putN
  have := keyR_le p.key
  repeat' split
  all_goals omega
theorem repT_le : ∀ (xs : List Cg) (P : List Pr), (repT P xs).1 ≤ 19
  | [], P => by unfold repT; omega
  | c :: l, P => by
    unfold repT
    split
    · exact repT_le l _
    · show repE P c ≤ 19
      unfold repE
      have := putR_le ⟨c.key, c.nv, c.nn⟩
      repeat' split
      all_goals omega
theorem repT_len : ∀ (xs : List Cg) (P : List Pr), (repT P xs).2.length ≤ P.length + xs.length
  | [], P => by unfold repT; simp
  | c :: l, P => by
    unfold repT
    split
    · have h1 := repT_len l (repN P c)
      have h2 : (repN P c).length ≤ P.length + 1 := by
        unfold repN
        have := tdel_length P c.key
        split
        · have := putR_length (tdel P c.key) ⟨c.key, c.nv, c.nn⟩; omega
        · omega
      simp only [List.length_cons]; omega
    · simp
end Pl
set_option maxRecDepth 100000 in
set_option maxHeartbeats 8000000 in
theorem watchReplays_walk (E : Nat → Addr) (a : Option Addr) (cap : Nat) (xs : List Cg) (w : World) (hE : Errs allS E w) (hA : CgsAt w a xs) (hxl : xs.length ≤ 9223372036854775807) (hk : ∀ c ∈ xs, c.key.size ≤ 9223372036854775807 ∧ c.wk.size ≤ 9223372036854775807 ∧ c.wv.size ≤ 9223372036854775807 ∧ c.nk.size ≤ 9223372036854775807 ∧ c.nv.size ≤ 9223372036854775807) :
    Calls Tryz.prog 6 #[.slice a xs.length cap] w fun e w' => e = .returned (.bool true) ∧ Grew w w' := by
  have hAU : Errs auS E w := hE.less fun k hk => by
    simp only [auS, stS, Bool.or_eq_true, decide_eq_true_eq] at hk
    simp only [allS, Bool.and_eq_true, decide_eq_true_eq]
    omega
  have HE := hid hE
  have HA := hid hA
  have HK := hid hk
  have HAU := hid hAU
  clear hE hA hk hAU
  go_enter Tryz.func6, Tryz.ntmps6
  go_wp2_with fail
  refine (alive39 E _ HAU.out).mono ?_
  rintro r w1 ⟨rfl, hg1⟩
  by_cases h40 : (40 : Int) < (xs.length : Int)
  · go_wp2_with fail
    go_ret
    exact ⟨rfl, hg1⟩
  · go_wp2_with fail
    go_loopw [16] (fun i wr => ∃ k : Nat, k ≤ xs.length ∧ i = .int .i64 k ∧ Hid (∀ j, j < k → (cgAt xs j).key.size ≤ 300 ∧ (cgAt xs j).nv.size ≤ 300) ∧ Hid (Grew w wr)) (fun i _ => xs.length - (intOf i).toNat)
    case atStart => exact ⟨0, Nat.zero_le _, rfl, fun j hj => absurd hj (Nat.not_lt_zero j), hg1⟩
    case round =>
      obtain ⟨k, hk1, rfl, HS, HGW⟩ := hrel
      obtain ⟨wo, rfl⟩ : ∃ wo : World, wo = wr := ⟨_, rfl⟩
      by_cases hlt : k < xs.length
      · rcases HA.out with h0 | ⟨b, off, rfl, hb, hR⟩
        · rw [h0] at hlt; simp at hlt
        have hG := HGW.out
        have r0 := (hG.cells.1 b (off + k * 10) hb).trans (hR.at_ k hlt)
        have r1 := (hG.cells.1 b (off + k * 10 + 1) hb).trans (hR.key k hlt)
        have r2 := (hG.cells.1 b (off + k * 10 + 2) hb).trans (hR.wk k hlt)
        have r3 := (hG.cells.1 b (off + k * 10 + 3) hb).trans (hR.wv k hlt)
        have r4 := (hG.cells.1 b (off + k * 10 + 4) hb).trans (hR.wn k hlt)
        have r5 := (hG.cells.1 b (off + k * 10 + 5) hb).trans (hR.nk k hlt)
        have r6 := (hG.cells.1 b (off + k * 10 + 6) hb).trans (hR.nv k hlt)
        have r7 := (hG.cells.1 b (off + k * 10 + 7) hb).trans (hR.nn k hlt)
        have r8 := (hG.cells.1 b (off + k * 10 + 8) hb).trans (hR.had k hlt)
        have r9 := (hG.cells.1 b (off + k * 10 + 9) hb).trans (hR.has k hlt)
        obtain ⟨y1, y2, y3, y4, y5⟩ := HK.out _ (cgAt_mem xs k hlt)
        have HNX := hid (show (cgAt xs k).key.size ≤ 300 → (cgAt xs k).nv.size ≤ 300 → ∀ j, j < k + 1 → (cgAt xs j).key.size ≤ 300 ∧ (cgAt xs j).nv.size ≤ 300 from fun g1 g2 j hj => by
          rcases Nat.lt_or_ge j k with q | q
          · exact HS.out j q
          · obtain rfl : j = k := by omega
            exact ⟨g1, g2⟩)
        clear hR HS hG
        generalize cgAt xs k = c at *
        obtain ⟨c0, c1, c2, c3, c4, c5, c6, c7, c8, c9⟩ := c
        dsimp only at *
        by_cases l0 : (300 : Int) < (c1.size : Int)
        · go_wp2_with fail
          go_ret
          exact ⟨rfl, HGW.out.alloc _⟩
        by_cases l1 : (300 : Int) < (c6.size : Int)
        · go_wp2_with fail
          go_ret
          exact ⟨rfl, HGW.out.alloc _⟩
        by_cases l2 : (300 : Int) < (c3.size : Int)
        · go_wp2_with fail
          go_ret
          exact ⟨rfl, HGW.out.alloc _⟩
        by_cases l3 : (300 : Int) < (c2.size : Int)
        · go_wp2_with fail
          go_ret
          exact ⟨rfl, HGW.out.alloc _⟩
        by_cases l4 : (300 : Int) < (c5.size : Int)
        · go_wp2_with fail
          go_ret
          exact ⟨rfl, HGW.out.alloc _⟩
        go_wp2_with fail
        go_roundw
        case rel => exact ⟨k + 1, by omega, by go_num, HNX.out (by omega) (by omega), HGW.out.alloc _⟩
        case measure => simp [intOf]; omega
      · obtain rfl : k = xs.length := by omega
        have hG := HGW.out
        have hsz : ∀ c ∈ xs, c.key.size ≤ 300 ∧ c.nv.size ≤ 300 := fun c hc => by
          obtain ⟨j, hj, rfl⟩ := List.getElem_of_mem hc
          rw [← cgAt_eq xs j hj]
          exact HS.out j hj
        have HRW := hid (replayW_any (S := allS) ⟨rfl, rfl, rfl, rfl, rfl⟩ rfl E (HE.out.grew hG) a cap xs (HA.out.grew hG) (by omega) hsz)
        have HOF := hid (fun W (g : Grew wo W) => of39_any a cap xs W (HA.out.grew (hG.trans g)) (by omega))
        have HRR := hid (fun W a' c' (h : CgsAt W a' xs) => replayR_any (w := W) a' c' xs h (by omega) hsz)
        have HNM := hid (fun W (g : Grew wo W) => numW_any E (Pl.repT [] xs).1 (Pl.repT_le xs []) W (HE.out.grew (hG.trans g)))
        have HSM := hid (fun W a1 a2 c1 c2 (h1 : PairsAt W a1 (Pl.repT [] xs).2) (h2 : PairsAt W a2 (Pl.repT [] xs).2) => samePairs_same W a1 a2 c1 c2 (Pl.repT [] xs).2 h1 h2 (by have := Pl.repT_len xs []; simp at this; omega))
        clear hsz HS hG
        generalize (Pl.repT [] xs).1 = nn at *
        generalize (Pl.repT [] xs).2 = PP at *
        go_wp2_with fail
        refine HRW.out.mono ?_
        rintro r w2 ⟨hg2, a1, c1, rfl, hp1⟩
        have HG2 := hid hg2
        have HP1 := hid hp1
        clear hg2 hp1 HRW
        go_wp2_with fail
        refine (HOF.out _ HG2.out).mono ?_
        rintro r w3 ⟨hg3, a2, c2, rfl, hC⟩
        have HR2 := hid (HRR.out _ _ c2 hC)
        have HG3 := hid hg3
        clear hg3 hC HOF HRR
        go_wp2_with fail
        refine HR2.out.mono ?_
        rintro r w4 ⟨hg4, a3, c3, rfl, hp3⟩
        have HG4 := hid (HG3.out.trans hg4)
        have HP3 := hid hp3
        clear hg4 hp3 HR2
        go_wp2_with fail
        refine (HNM.out _ (HG2.out.trans HG4.out)).mono ?_
        rintro r w5 ⟨rfl, hg5⟩
        have HG5 := hid hg5
        clear hg5 HNM
        go_wp2_with fail
        refine (HSM.out _ a1 a3 c1 c3 (HP1.out.grew (HG4.out.trans HG5.out)) (HP3.out.grew HG5.out)).mono ?_
        rintro r w6 ⟨rfl, hg6⟩
        have HG6 := hid ((HG2.out.trans HG4.out).trans (HG5.out.trans hg6))
        clear hg6
        go_wp2_with fail
        go_ret
        exact ⟨rfl, HGW.out.trans HG6.out⟩
end Go.Proofs.YtbdagllflamabaaGreatDoor
namespace Go.Proofs.YtbdagllflamabaaGreatDoor
open Go.RowKit Go.ChangeShapes Go.WideShapes Go.Deep
theorem cells_pairG : Tryz.prog.cellsOf 42 = 3 := by kernel_rfl
theorem cells_cgG : Tryz.prog.cellsOf 64 = 10 := by kernel_rfl
theorem cells_intG : Tryz.prog.cellsOf 3 = 1 := by kernel_rfl
theorem cells_strG : Tryz.prog.cellsOf 9 = 1 := by kernel_rfl
theorem cells_boolG : Tryz.prog.cellsOf 4 = 1 := by kernel_rfl
def CgFits (c : Cg) : Prop := c.key.size ≤ 9223372036854775807 ∧ c.wk.size ≤ 9223372036854775807 ∧ c.wv.size ≤ 9223372036854775807 ∧ c.nk.size ≤ 9223372036854775807 ∧ c.nv.size ≤ 9223372036854775807
section
variable {H : Type} {enc : TypeId × Value → H} {W : World} {base : Nat} {spare : Nat → Bool} {held : Bool} {n : Nat} {cs : List Value} {y : DataW H × List MemPlace}
theorem open_pairG (hl : cs.length = 3) (h : DataW.trod enc Tryz.prog W base spare held n 42 cs = some y) :
    ∃ k v : ByteArray, ∃ i : Int, cs = [.string k, .string v, .int .i64 i] ∧ k.size ≤ 9223372036854775807 ∧ v.size ≤ 9223372036854775807 := by
  match cs, hl with
  | [c0, c1, c2], _ =>
    obtain ⟨xs, n', _, hx, _, hlen, hg⟩ := DataW.trod_struct Tryz.underlying42 h
    have g0 := hg 0 _ rfl
    have g1 := hg 1 _ rfl
    have g2 := hg 2 _ rfl
    match xs, hlen with
    | [y0, y1, y2], _ =>
      simp [cells_intG, cells_strG] at g0 g1 g2
      obtain ⟨s0, e0, _, w0⟩ := DataW.trod_string Tryz.underlying9 g0
      obtain ⟨s1, e1, _, w1⟩ := DataW.trod_string Tryz.underlying9 g1
      obtain ⟨v, e2, _⟩ := DataW.trod_int Tryz.underlying3 g2
      simp at e0 e1 e2
      subst e0 e1 e2
      unfold maxLen at w0 w1
      exact ⟨s0, s1, v, rfl, by omega, by omega⟩
theorem open_cg (hl : cs.length = 10) (h : DataW.trod enc Tryz.prog W base spare held n 64 cs = some y) : ∃ x : Cg, cs = x.vals ∧ CgFits x := by
  match cs, hl with
  | [c0, c1, c2, c3, c4, c5, c6, c7, c8, c9], _ =>
    obtain ⟨xs, n', _, hx, _, hlen, hg⟩ := DataW.trod_struct Tryz.underlying64 h
    have g0 := hg 0 _ rfl
    have g1 := hg 1 _ rfl
    have g2 := hg 2 _ rfl
    have g3 := hg 3 _ rfl
    have g4 := hg 4 _ rfl
    have g5 := hg 5 _ rfl
    match xs, hlen with
    | [y0, y1, y2, y3, y4, y5], _ =>
      simp [cells_intG, cells_strG, cells_pairG, cells_boolG] at g0 g1 g2 g3 g4 g5
      obtain ⟨i0, e0, _⟩ := DataW.trod_int Tryz.underlying3 g0
      obtain ⟨s1, e1, _, w1⟩ := DataW.trod_string Tryz.underlying9 g1
      obtain ⟨k2, v2, i2, e2, w2, x2⟩ := open_pairG rfl g2
      obtain ⟨k3, v3, i3, e3, w3, x3⟩ := open_pairG rfl g3
      obtain ⟨b4, e4, _⟩ := DataW.trod_bool Tryz.underlying4 g4
      obtain ⟨b5, e5, _⟩ := DataW.trod_bool Tryz.underlying4 g5
      simp at e0 e1 e2 e3 e4 e5
      obtain ⟨rfl, rfl, rfl⟩ := e2
      obtain ⟨rfl, rfl, rfl⟩ := e3
      subst e0 e1 e4 e5
      unfold maxLen at w1
      exact ⟨⟨i0, s1, k2, v2, i2, k3, v3, i3, b4, b5⟩, rfl, by dsimp only; omega, w2, x2, w3, x3⟩
end
set_option maxRecDepth 100000 in
theorem open_cgs {H : Type} {enc : TypeId × Value → H} {W : World} {held : Bool} {base0 : Nat} {v : Value} {d : DataW H} {p : List MemPlace} (hv : Value.okWide Tryz.prog W .any base0 60 v)
    (h : DataW.Trod enc Tryz.prog W 0 (fun _ => true) held 60 v d p) :
    ∃ a cap xs, v = .slice a xs.length cap ∧ CgsAt W a xs ∧ xs.length ≤ 9223372036854775807 ∧ ∀ c ∈ xs, CgFits c := by
  obtain ⟨a0, l0, c0, rfl⟩ := okWide_slice Tryz.underlying60 hv
  obtain ⟨fuel, hf⟩ := h
  rcases open_slice Tryz.underlying60 hf with ⟨hcs, _⟩ | ⟨a, len, cap, m, n, D, Pl, hcs, _, hl, hm, hmm, hx, hi⟩
  · simp [Value.cells] at hcs
    obtain ⟨rfl, rfl, rfl⟩ := hcs
    exact ⟨none, 0, [], rfl, .inl rfl, by simp, fun c hc => by cases hc⟩
  · simp [Value.cells] at hcs
    obtain ⟨rfl, rfl, rfl⟩ := hcs
    simp only [if_true] at hmm
    subst hmm
    have each : ∀ i, i < l0 → ∃ x : Cg, (∀ k v, x.vals[k]? = some v → W.cell? (a.add (i * 10 + k)) = some v) ∧ CgFits x := by
      intro i hil
      obtain ⟨cs', hc, ht⟩ := hi i (by omega)
      rw [cells_cgG] at hc
      obtain ⟨_, hlen, hat⟩ := World.cells?_some hc
      obtain ⟨x, rfl, hx1⟩ := open_cg hlen ht
      refine ⟨x, fun k v hk => ?_, hx1⟩
      have hkl := (List.getElem?_eq_some_iff.1 hk).1
      have := hat k (by omega)
      rw [add_add] at this
      rw [this, hk]
    obtain ⟨X, hX⟩ := choose_lt each
    have hlenX : ((List.range l0).map X).length = l0 := by simp
    have hatX : ∀ j, j < l0 → cgAt ((List.range l0).map X) j = X j := fun j hj => by unfold cgAt; simp [hj]
    refine ⟨some a, m, (List.range l0).map X, by rw [hlenX], ?_, by rw [hlenX]; unfold maxLen at hm; omega, fun c hc => ?_⟩
    · by_cases h0 : l0 = 0
      · left; rw [h0]; rfl
      · right
        obtain ⟨b, off, spot⟩ := a
        have hcell0 := (hX 0 (by omega)).1 0 _ rfl
        have hs : spot = none := by simpa [Addr.add] using World.cell?_spot hcell0
        subst hs
        have key : ∀ j, j < ((List.range l0).map X).length → ∀ k v, (cgAt ((List.range l0).map X) j).vals[k]? = some v → W.cell? ⟨b, off + j * 10 + k, none⟩ = some v := by
          intro j hj k v hk
          rw [hlenX] at hj
          rw [hatX j hj] at hk
          have := (hX j hj).1 k v hk
          rwa [Addr.add_lit, ← Nat.add_assoc] at this
        exact ⟨b, off, rfl, block_lt_of_cell (by simpa [Addr.add] using hcell0), ⟨fun j hj => key j hj 0 _ rfl, fun j hj => key j hj 1 _ rfl, fun j hj => key j hj 2 _ rfl, fun j hj => key j hj 3 _ rfl, fun j hj => key j hj 4 _ rfl, fun j hj => key j hj 5 _ rfl, fun j hj => key j hj 6 _ rfl, fun j hj => key j hj 7 _ rfl, fun j hj => key j hj 8 _ rfl, fun j hj => key j hj 9 _ rfl⟩⟩
    · obtain ⟨j, hj, rfl⟩ := List.mem_map.1 hc
      exact (hX j (List.mem_range.1 hj)).2
end Go.Proofs.YtbdagllflamabaaGreatDoor
namespace Go.Proofs.YtbdagllflamabaaGreatDoor
open Go.RowKit
theorem laid_sents {P : Program} {W : World} {nm : String} {ti tp te ts : TypeId} {ms : Array (String × TypeId)} {f : Field}
    (hi : P.underlying ti = some (.interface ms)) (hrow : ∀ u, P.typeName? 3 u = some nm → u = tp)
    (hp : P.underlying tp = some (.pointer te)) (he : P.underlying te = some (.struct #[f])) (hft : f.type = ts) (hfo : f.offset = 0) (hs : P.underlying ts = some .string) (hc : P.cellsOf te = 1) (hcs : P.cellsOf ts = 1) :
    ∀ (L : List (String × DataW Unit)) (gs : List Nat) (ps : List MemPlace), (∀ x ∈ L, ∃ text, x.2 = .iface nm (.ptr (.agg [.lit (.string text)]))) → L.map (fun x => P.globalNamed x.1) = gs.map some →
      (∀ g ∈ gs, (P.globals[g]?).map (·.type) = some ti) → DataW.LaidVars P W L ps → ps.Nodup →
      (∀ b off, MemPlace.cell b off ∈ ps → (∃ c t, W.heap[b]? = some (.cells c t (0, 0))) ∧ ∀ u v, W.cell? ⟨b, off, none⟩ = some (.iface u v) → Value.okWide P W .any 0 u v) →
      ∃ ads : List Addr, ads.length = gs.length ∧ (∀ (i g : Nat) (a : Addr), gs[i]? = some g → ads[i]? = some a → W.cell? ⟨g, 0, none⟩ = some (.iface tp (.pointer (some a))) ∧ ∃ c t, W.heap[a.block]? = some (.cells c t (0, 0))) ∧
        (∀ a ∈ ads, MemPlace.cell a.block a.off ∈ ps) ∧ ads.Nodup := by
  intro L
  induction L with
  | nil =>
    intro gs ps _ hg _ _ _ _
    cases gs with
    | nil => exact ⟨[], rfl, by simp, by simp, List.nodup_nil⟩
    | cons g r => simp at hg
  | cons x L ih =>
    intro gs ps hsh hg ht hL hnd hrows
    obtain ⟨n, d⟩ := x
    cases gs with
    | nil => simp at hg
    | cons g gs =>
      simp only [List.map_cons, List.cons.injEq] at hg
      obtain ⟨hg0, hg1⟩ := hg
      obtain ⟨g0, t0, cs0, f0, p0, q0, hg0', ht0', hv0, hd0, hrest, rfl⟩ := hL
      obtain rfl := Option.some.inj (hg0.symm.trans hg0')
      obtain rfl := Option.some.inj ((ht g (by simp)).symm.trans ht0')
      obtain ⟨text, htext⟩ := hsh (n, d) (by simp)
      simp only at htext
      subst htext
      obtain ⟨l0⟩ := cs0
      have ok0 : ∀ u v, l0 = [.iface u v] → Value.okWide P W .any 0 u v := fun u v e => by
        subst e
        exact (hrows g 0 (by simp [MemPlace.row])).2 u v (by simpa using World.var?_cell hg0' hv0 0)
      obtain ⟨a0, s0, rfl, hc0, hs0, hz0, rfl⟩ := errorString_of_trod hi hrow hp he hft hfo hs hc hcs hd0 ok0
      have hnd2 : q0.Nodup := List.Nodup.sublist (List.sublist_append_right _ _) hnd
      obtain ⟨ads, h1, h2, h3, h4⟩ := ih gs q0 (fun x hx => hsh x (List.mem_cons_of_mem _ hx)) hg1 (fun g' hg' => ht g' (List.mem_cons_of_mem _ hg')) hrest hnd2
        (fun b off hm => hrows b off (List.mem_append_right _ hm))
      refine ⟨a0 :: ads, by simp [h1], ?_, ?_, ?_⟩
      · intro i g' a hgi hai
        cases i with
        | zero =>
          simp at hgi hai
          subst hgi hai
          exact ⟨by simpa using World.var?_cell hg0' hv0 0, (hrows a0.block a0.off (by simp [MemPlace.row])).1⟩
        | succ i => exact h2 i g' a (by simpa using hgi) (by simpa using hai)
      · intro a ha
        rcases List.mem_cons.1 ha with rfl | ha
        · simp [MemPlace.row]
        · exact List.mem_append_right _ (h3 a ha)
      · refine List.nodup_cons.2 ⟨fun hm => ?_, h4⟩
        have hd := (List.nodup_append.1 hnd).2.2 (MemPlace.cell a0.block a0.off) (by simp [MemPlace.row]) (MemPlace.cell a0.block a0.off) (h3 a0 hm)
        exact hd rfl
theorem star_name : "*" ++ "errors.errorString" = "*errors.errorString" := by decide +kernel
theorem row_error (u : TypeId) (h : Tryz.prog.typeName? 3 u = some "*errors.errorString") : u = 343 :=
  typeName_ptr_named (nm := "errors.errorString") (by rw [star_name]; kernel_rfl) (by kernel_rfl) (by decide) u (by rw [star_name]; exact h)
theorem cells_errorString : Tryz.prog.cellsOf 372 = 1 := by kernel_rfl
theorem cells_string : Tryz.prog.cellsOf 9 = 1 := by kernel_rfl
theorem errs_of_laid (L : List (String × DataW Unit)) (ks : List Nat) (S : Nat → Bool) (hS : ∀ k, S k = true → k ∈ ks) (h0 : S 0 = false) {W : World}
    (hsh : ∀ x ∈ L, ∃ text, x.2 = .iface "*errors.errorString" (.ptr (.agg [.lit (.string text)]))) (hg : L.map (fun x => Tryz.prog.globalNamed x.1) = (ks.map gvar).map some)
    (ht : ∀ g ∈ ks.map gvar, (Tryz.prog.globals[g]?).map (·.type) = some 34) (h : laidMet Tryz.prog L W) : ∃ E, Errs S E W := by
  obtain ⟨ps, hL, hnd, hrows⟩ := h
  obtain ⟨ads, h1, h2, _, h4⟩ := laid_sents (P := Tryz.prog) (W := W) Tryz.underlying34 row_error Tryz.underlying343 Tryz.underlying372 rfl rfl Tryz.underlying9 cells_errorString cells_string L (ks.map gvar) ps hsh hg ht hL hnd hrows
  have get : ∀ k, k ∈ ks → ∃ a, ads[ks.idxOf k]? = some a ∧ (ks.map gvar)[ks.idxOf k]? = some (gvar k) ∧ ads.getD (ks.idxOf k) default = a := by
    intro k hk
    have hlt : ks.idxOf k < ks.length := List.idxOf_lt_length_iff.2 hk
    have hl : ks.idxOf k < ads.length := by rw [h1]; simpa using hlt
    refine ⟨ads[ks.idxOf k], List.getElem?_eq_getElem hl, ?_, ?_⟩
    · rw [List.getElem?_map, List.getElem?_eq_getElem hlt, List.getElem_idxOf hlt]; rfl
    · rw [List.getD_eq_getElem?_getD, List.getElem?_eq_getElem hl]; rfl
  refine ⟨fun k => ads.getD (ks.idxOf k) default, h0, ?_, ?_, ?_⟩
  · intro k hk
    obtain ⟨a, ha, hgv, e⟩ := get k (hS k hk)
    rw [e]
    exact (h2 _ _ _ hgv ha).1
  · intro k hk
    obtain ⟨a, ha, hgv, e⟩ := get k (hS k hk)
    rw [e]
    exact (h2 _ _ _ hgv ha).2
  · intro j k hj hk hne
    obtain ⟨a, ha, _, e⟩ := get j (hS j hj)
    obtain ⟨b, hb, _, e'⟩ := get k (hS k hk)
    show ads.getD (ks.idxOf j) default ≠ ads.getD (ks.idxOf k) default
    rw [e, e']
    rintro rfl
    obtain ⟨hl1, g1⟩ := List.getElem?_eq_some_iff.1 ha
    obtain ⟨hl2, g2⟩ := List.getElem?_eq_some_iff.1 hb
    have hi := List.pairwise_iff_getElem.1 h4
    have hij : ks.idxOf j = ks.idxOf k := by
      refine Classical.byContradiction fun hn => ?_
      rcases Nat.lt_or_gt_of_ne hn with hlt2 | hlt2
      · exact hi _ _ hl1 hl2 hlt2 (g1.trans g2.symm)
      · exact hi _ _ hl2 hl1 hlt2 (g2.trans g1.symm)
    have hj' : ks.idxOf j < ks.length := List.idxOf_lt_length_iff.2 (hS j hj)
    have hk' : ks.idxOf k < ks.length := List.idxOf_lt_length_iff.2 (hS k hk)
    have e1 := List.getElem_idxOf hj'
    have e2 := List.getElem_idxOf hk'
    simp only [hij] at e1
    exact hne (e1.symm.trans e2)
end Go.Proofs.YtbdagllflamabaaGreatDoor
namespace Go.Proofs.YtbdagllflamabaaGreatDoor.finr
open Go.ChangeShapes Go.WideShapes Go.ChangeAt Go.RowKit
theorem own : ownKnob Tryz.prog.godebug = none := by kernel_rfl
theorem laidOut : laidOutB Tryz.prog = true := by kernel_rfl
theorem laid_met (os : Os) (args : Array Value) : laidMetH Tryz.prog Rows.watchReplaysRow.laid ((World.doorLaid Tryz.prog 400 os).forCall (fun _ _ => 0) ⟨#[], args, []⟩).memory :=
  laidMet_of_run' 8 (by kernel_rfl) (by kernel_rfl)
theorem errs {W : World} (h : laidMetH Tryz.prog Rows.watchReplaysRow.laid W) : ∃ E, Errs allS E W := by
  have h' : laidMet Tryz.prog Rows.watchReplaysRow.laid W := h
  exact errs_of_laid Rows.watchReplaysRow.laid [1, 2, 3, 4, 5, 6, 7, 8, 9, 10, 11, 12, 13, 14, 15, 16, 17, 18, 19] allS
    (fun k hk => by simp only [allS, Bool.and_eq_true, decide_eq_true_eq] at hk; simp only [List.mem_cons, List.not_mem_nil, or_false]; omega) rfl
    (by simp only [Rows.watchReplaysRow, List.forall_mem_cons]; exact ⟨⟨_, rfl⟩, ⟨_, rfl⟩, ⟨_, rfl⟩, ⟨_, rfl⟩, ⟨_, rfl⟩, ⟨_, rfl⟩, ⟨_, rfl⟩, ⟨_, rfl⟩, ⟨_, rfl⟩, ⟨_, rfl⟩, ⟨_, rfl⟩, ⟨_, rfl⟩, ⟨_, rfl⟩, ⟨_, rfl⟩, ⟨_, rfl⟩, ⟨_, rfl⟩, ⟨_, rfl⟩, ⟨_, rfl⟩, ⟨_, rfl⟩, by simp⟩)
    (by kernel_rfl) (by simp only [List.map_cons, List.map_nil, List.forall_mem_cons]; refine ⟨?_, ?_, ?_, ?_, ?_, ?_, ?_, ?_, ?_, ?_, ?_, ?_, ?_, ?_, ?_, ?_, ?_, ?_, ?_, by simp⟩ <;> kernel_rfl) h'
end Go.Proofs.YtbdagllflamabaaGreatDoor.finr
namespace Go.Proofs.YtbdagllflamabaaGreatDoor.finr
open Go
theorem and_split {a b : Bool} (h1 : a = true) (h2 : b = true) : (a && b) = true := by rw [h1, h2]; rfl
set_option maxHeartbeats 4000000 in
theorem closed : joinedFacts Tryz.pinned.checked.prog 6 Tryz.f6 Rows.watchReplaysSpec Rows.watchReplaysRow = true := by
  unfold joinedFacts
  iterate 31 (refine and_split ?_ (by as_aux_lemma => kernel_rfl))
  kernel_rfl
end Go.Proofs.YtbdagllflamabaaGreatDoor.finr
