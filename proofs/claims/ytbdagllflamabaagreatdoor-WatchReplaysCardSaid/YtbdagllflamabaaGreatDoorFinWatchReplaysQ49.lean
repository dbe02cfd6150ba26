/- Law39, WtR, WtRr, SamP: one text. -/
import Derived.Test.YtbdagllflamabaaGreatDoorFinWatchReplaysQ48
import Derived.Test.YtbdagllflamabaaGreatDoorFinWatchReplaysQ46
import Derived.Test.YtbdagllflamabaaGreatDoorFinWatchReplaysQ27
import Derived.Test.YtbdagllflamabaaGreatDoorFinWatchReplaysQ26
import Derived.Test.YtbdagllflamabaaGreatDoorFinWatchReplaysQ23
import Derived.Test.YtbdagllflamabaaGreatDoorFinWatchReplaysQ19
import Derived.BigQuiet
set_option linter.unusedVariables false
set_option linter.unusedSectionVars false
set_option linter.unusedSimpArgs false
namespace Go.Proofs.YtbdagllflamabaaGreatDoor
open Go.RowKit Go.Maps
attribute [local go_sem] Oper.semAt_some uponV
theorem au_asks (a : Option Addr) {ks : List ByteArray} (h : Pl.Asks ⟨#[]⟩ ⟨#[]⟩ (enAu a) ks) : ks = [⟨#[97]⟩] := by
  have hm : ∀ k, k ∈ ks ↔ k = (⟨#[97]⟩ : ByteArray) := fun k => by
    rw [h.mem k]
    constructor
    · rintro ⟨_, _, ⟨o, ho, rfl⟩, _⟩
      simp [enAu] at ho; subst ho; rfl
    · rintro rfl
      exact ⟨rfl, by kernel_rfl, ⟨opAu, by simp [enAu], rfl⟩, by kernel_rfl⟩
  have hr := h.rise
  match ks, hm, hr with
  | [], hm, _ => exact absurd ((hm _).2 rfl) (by simp)
  | [x], hm, _ => rw [(hm x).1 (by simp)]
  | x :: y :: r, hm, hr =>
    have e1 := (hm x).1 (by simp)
    have e2 := (hm y).1 (by simp)
    subst e1; subst e2
    have := (List.pairwise_cons.1 hr).1 _ (List.mem_cons_self)
    have e : ¬ (Pl.compare ⟨#[97]⟩ ⟨#[97]⟩ < 0) := by decide
    exact absurd this e
theorem au_chg (a : Option Addr) : changesP AuP.init (Pl.applyA AuP.init (enAu a) 0).2 0 [⟨#[97]⟩] = [⟨0, ⟨#[97]⟩, ⟨#[]⟩, ⟨#[]⟩, 0, ⟨#[97]⟩, ⟨#[120]⟩, 1, false, true⟩] := by kernel_rfl
set_option maxRecDepth 100000 in
set_option maxHeartbeats 4000000 in
theorem alive39 (E : Nat → Addr) (w : World) (hE : Errs auS E w) : Calls Tryz.prog 18 #[] w fun e w' => e = .returned (.bool true) ∧ Grew w w' := by
  have HE := hid hE
  have HN := hid (newW_any E hE ⟨#[]⟩ ⟨#[]⟩ (by decide) (by decide) (by kernel_rfl))
  clear hE
  go_enter Tryz.func18, Tryz.ntmps18
  go_wp2_with fail
  refine HN.out.mono ?_
  rintro e w1 ⟨wb, ab, rfl, hg, hW, h⟩
  have HG := hid hg
  have HW := hid hW
  have HA := hid h
  clear hg hW h HN
  go_wp2_with fail
  obtain ⟨Y, hY⟩ : ∃ Y, Y = w1.alloc (.cells #[.int .i64 1, .string ⟨#[97]⟩, .string ⟨#[120]⟩, .string ⟨#[]⟩, .int .i64 0] 104) := ⟨_, rfl⟩
  have gY : Grew w1 Y := by rw [hY]; exact (Grew.refl w1).alloc _
  have hblk : Y.heap[w1.heap.size]? = some (.cells #[.int .i64 1, .string ⟨#[97]⟩, .string ⟨#[120]⟩, .string ⟨#[]⟩, .int .i64 0] 104 (0, 0)) := by rw [hY]; exact heap_alloc_new w1 _
  have HST : Hid (Calls Tryz.prog 22 #[.pointer (some ⟨wb, 0, none⟩), (enAu (some ⟨w1.heap.size, 0, none⟩)).agg, .int .i64 0] Y fun r w' => Grew w w' ∧ WtC w' wb ab ⟨#[]⟩ ⟨#[]⟩ 1 ∧ ∃ b off c, r = .returned (.tuple #[.slice (some ⟨b, off, none⟩) 1 c, .nilIface]) ∧ b < w'.heap.size ∧ w'.cell? ⟨b, off + 8, none⟩ = some (.bool false) ∧ w'.cell? ⟨b, off + 9, none⟩ = some (.bool true)) := by
    obtain ⟨L', h1, h2, h2w, h3⟩ := HA.out 1 (fun _ => 0)
    have hs := HG.out.size
    have hy := gY.size
    have hl : w1.heap.size < Y.heap.size := (Array.getElem?_eq_some_iff.1 hblk).1
    have hwb := cell_lt HW.out.c0
    have h4 : AuAt Y (fun j => if j < w1.heap.size then L' j else 0) 1 ab 1 AuP.init := h3.kept (gY.only fun _ => False) (fun _ _ h => h.elim) fun j hj => if_pos hj
    refine (stepW_any E HE.out (HG.out.trans gY) (HW.out.grew gY) (show (if wb < w1.heap.size then L' wb else 0) = 1 + 149 from (if_pos hwb).trans h2w) h4 (Nat.le_refl _) (fun j hj => by
      rw [if_pos (by omega), h1 j hj]; decide) auOk_init (by decide) (by decide) (enAu (some ⟨w1.heap.size, 0, none⟩)) (fun X hO => ops_au ((hO.block _ hl (by rw [if_neg (by omega)]; unfold Kin; omega)).trans hblk)) (sz_au _) (show (⟨#[]⟩ : ByteArray).size ≤ 300 from by decide) 0 (by decide) (by decide) (by decide) (by decide)).mono ?_
    rintro r w' ⟨q1, _, _, ks, hk, q2⟩
    obtain rfl := au_asks _ hk
    rw [au_err, au_chg] at q2
    rcases q2 with ⟨q, _⟩ | ⟨_, b, c, rfl, _, hc, hw⟩
    · exact absurd rfl q
    · rcases hc with h | ⟨b, off, e, hb, hR⟩
      · cases h
      · cases e
        exact ⟨q1, hw, b, 0, c, rfl, hb, hR.had 0 (by decide), hR.has 0 (by decide)⟩
  rw [← hY]
  clear hY HA gY hblk HW
  unfold En.agg En.vals at HST
  unfold enAu at HST
  dsimp only at HST
  refine HST.out.mono ?_
  rintro e w2 ⟨hg2, hW2, b, off, c, rfl, hb, p8, p9⟩
  have HG2 := hid hg2
  have HTO := hid (told_any hW2)
  clear hg2 hW2 HST
  go_wp2_with fail
  refine HTO.out.mono ?_
  rintro e w3 ⟨rfl, hg3⟩
  have HG3 := hid (HG2.out.trans hg3)
  clear hg3 HTO p8 p9
  go_wp2_with fail
  go_ret
  exact ⟨rfl, HG3.out⟩
end Go.Proofs.YtbdagllflamabaaGreatDoor
namespace Go.Proofs.YtbdagllflamabaaGreatDoor
open Go.RowKit Go.Maps
attribute [local go_sem] Oper.semAt_some uponV
namespace Pl
def wasB (o : Pr) (is : Bool) (c : Cg) : Bool := (o.key.toList == c.wk.toList) && (o.val.toList == c.wv.toList) && (o.ver == c.wn) && (is == c.had)
def repE (P : List Pr) (c : Cg) : Nat := if wasB ((getT P c.key).getD Pr.none) (getT P c.key).isSome c = true then (if c.has = true then putN ⟨c.key, c.nv, c.nn⟩ else 0) else 17
def repN (P : List Pr) (c : Cg) : List Pr := if c.has = true then putT (tdel P c.key) ⟨c.key, c.nv, c.nn⟩ else tdel P c.key
def repT : List Pr → List Cg → Nat × List Pr
  | P, [] => (0, P)
  | P, c :: l => if repE P c = 0 then repT (repN P c) l else (repE P c, [])
theorem putR_length (xs : List Pr) (p : Pr) : (putT xs p).length ≤ xs.length + 1 := by
  unfold putT; split
  · exact tput_length xs p
  · omega
theorem repT_at (P : List Pr) (xs : List Cg) (k : Nat) (h : k < xs.length) : repT P (xs.drop k) = if repE P (cgAt xs k) = 0 then repT (repN P (cgAt xs k)) (xs.drop (k + 1)) else (repE P (cgAt xs k), []) := by
  rw [List.drop_eq_getElem_cons h, cgAt_eq xs k h]; rfl
end Pl
structure RepR (w W : World) (tb : Nat) (P : List Pr) : Prop where
  grew : Grew w W
  ex : ∃ F, TabAt W F tb P ∧ ∀ j, F j → w.heap.size ≤ j
theorem RepR.more {w W U : World} {tb : Nat} {P : List Pr} (h : RepR w W tb P) (g : Grew W U) : RepR w U tb P := by
  obtain ⟨F, h1, h2⟩ := h.ex
  exact ⟨h.grew.trans g, F, h1.kept (g.only fun _ => False) (fun _ _ h => h), h2⟩
theorem RepR.turn {w W U : World} {tb : Nat} {P Q : List Pr} (h : RepR w W tb P) (gU : Grew W U) {fn : FuncId} {args : Array Value} {v : Value} (hc : ∀ F, TabAt U F tb P → Calls Tryz.prog fn args U fun e w' => e = .returned v ∧ TabTurn U F tb Q w') :
    Calls Tryz.prog fn args U fun e w' => e = .returned v ∧ RepR w w' tb Q ∧ ∀ q, W.heap.size ≤ q → q < U.heap.size → w'.heap[q]? = U.heap[q]? := by
  obtain ⟨F, h1, h2⟩ := h.ex
  have hlt := tabAt_lt h1
  refine (hc F (h1.kept (gU.only fun _ => False) (fun _ _ h => h))).mono ?_
  rintro e w' ⟨rfl, hT⟩
  obtain ⟨g, hF⟩ := hT.grew h2 (h.grew.trans gU)
  exact ⟨rfl, ⟨g, hF⟩, fun q h3 h4 => hT.1.block q h4 fun hq => by have := hlt q hq; omega⟩
set_option maxRecDepth 100000 in
set_option maxHeartbeats 8000000 in
theorem replayW_any {S : Nat → Bool} (hS : TabS S) (h17 : S 17 = true) (E : Nat → Addr) {w : World} (hE : Errs S E w) (a : Option Addr) (cap : Nat) (xs : List Cg) (hA : CgsAt w a xs) (hx : xs.length ≤ 40) (hk : ∀ c ∈ xs, c.key.size ≤ 300 ∧ c.nv.size ≤ 300) :
    Calls Tryz.prog 31 #[.slice a xs.length cap] w fun e w' => Grew w w' ∧ ∃ a' c', e = .returned (.tuple #[.slice a' (Pl.repT [] xs).2.length c', errOf E (Pl.repT [] xs).1]) ∧ PairsAt w' a' (Pl.repT [] xs).2 := by
  have g17 : w.cell? ⟨16, 0, none⟩ = some (.iface 343 (.pointer (some (E 17)))) := hE.cell 17 h17
  have b17 := cell_lt g17
  have HE := hid hE
  have HA := hid hA
  have HK := hid hk
  clear hE hA hk
  go_enter Tryz.func31, Tryz.ntmps31
  go_wp2_with fail
  refine (newT_any w).mono ?_
  rintro e w1 ⟨rfl, hg1, hT1⟩
  have HP0 : Hid (RepR w w1 w.heap.size []) := ⟨hg1, _, hT1, fun j hj => by rw [hj]; exact Nat.le_refl _⟩
  clear hg1 hT1
  generalize w.heap.size = tb at HP0 ⊢
  go_wp2_with fail
  go_loopw [13] (fun i wr => ∃ k : Nat, k ≤ xs.length ∧ i = .int .i64 k ∧ Hid (∃ P, RepR w wr tb P ∧ P.length ≤ k ∧ Pl.repT [] xs = Pl.repT P (xs.drop k))) (fun i _ => xs.length - (intOf i).toNat)
  case atStart => exact ⟨0, Nat.zero_le _, rfl, ⟨_, HP0.out, Nat.zero_le _, rfl⟩⟩
  case round =>
    obtain ⟨k, hk1, rfl, HP⟩ := hrel
    obtain ⟨wo, rfl⟩ : ∃ wo : World, wo = wr := ⟨_, rfl⟩
    obtain ⟨P, hP, hPl, hrep⟩ := HP.out
    have HPP := hid hP
    have HRE := hid hrep
    clear HP hP hrep
    by_cases hlt : k < xs.length
    · rcases HA.out with h0 | ⟨b, off, rfl, hb, hR⟩
      · rw [h0] at hlt; simp at hlt
      have hgo := HPP.out.grew
      have r0 := (hgo.cells.1 b (off + k * 10) hb).trans (hR.at_ k hlt)
      have r1 := (hgo.cells.1 b (off + k * 10 + 1) hb).trans (hR.key k hlt)
      have r2 := (hgo.cells.1 b (off + k * 10 + 2) hb).trans (hR.wk k hlt)
      have r3 := (hgo.cells.1 b (off + k * 10 + 3) hb).trans (hR.wv k hlt)
      have r4 := (hgo.cells.1 b (off + k * 10 + 4) hb).trans (hR.wn k hlt)
      have r5 := (hgo.cells.1 b (off + k * 10 + 5) hb).trans (hR.nk k hlt)
      have r6 := (hgo.cells.1 b (off + k * 10 + 6) hb).trans (hR.nv k hlt)
      have r7 := (hgo.cells.1 b (off + k * 10 + 7) hb).trans (hR.nn k hlt)
      have r8 := (hgo.cells.1 b (off + k * 10 + 8) hb).trans (hR.had k hlt)
      have r9 := (hgo.cells.1 b (off + k * 10 + 9) hb).trans (hR.has k hlt)
      have HST := hid (Pl.repT_at P xs k hlt)
      obtain ⟨hk3, hv3⟩ := HK.out _ (cgAt_mem xs k hlt)
      clear hR
      rw [HST.out] at HRE
      clear HST
      unfold Pl.repE Pl.repN Pl.wasB at HRE
      generalize cgAt xs k = c at *
      obtain ⟨c0, c1, c2, c3, c4, c5, c6, c7, c8, c9⟩ := c
      dsimp only at *
      have HGET := hid (fun U (g : Grew wo U) => (show ∃ F, TabAt U F tb P ∧ True from by
        obtain ⟨F, h1, _⟩ := (HPP.out.more g).ex
        exact ⟨F, h1, trivial⟩).elim fun F h1 => getTab_any hS E (HE.out.grew (hgo.trans g)) h1.1 (by omega) c1 (by omega))
      have HDEL := hid (fun U (g : Grew wo U) => HPP.out.turn g fun F h => delT_any hS E (HE.out.grew (hgo.trans g)) h (by omega) c1 (by omega))
      have HPUT := hid (fun V (h : RepR w V tb (Pl.tdel P c1)) => h.turn (Grew.refl V) fun F q => putT_any hS E (HE.out.grew h.grew) q (by have := Pl.tdel_length P c1; omega) c1 c6 c7 (by omega) (by omega))
      generalize (Pl.getT P c1).isSome = is' at *
      generalize (Pl.getT P c1).getD Pr.none = o at *
      obtain ⟨ok, ov, on⟩ := o
      unfold Pr.agg at HGET
      dsimp only at HGET
      have y17 := (hgo.cells.1 _ 0 b17).trans g17
      have b17o := Nat.lt_of_lt_of_le b17 hgo.size
      go_wp2_with fail
      refine (HGET.out _ ((Grew.refl wo).alloc _)).mono ?_
      rintro r w5 ⟨rfl, hg5⟩
      have hzo : wo.heap.size < (wo.alloc (.cells #[.int .i64 c0, .string c1, .string c2, .string c3, .int .i64 c4, .string c5, .string c6, .int .i64 c7, .bool c8, .bool c9] 64)).heap.size := by simp
      have HG5 := hid (((Grew.refl wo).alloc (.cells #[.int .i64 c0, .string c1, .string c2, .string c3, .int .i64 c4, .string c5, .string c6, .int .i64 c7, .bool c8, .bool c9] 64)).trans hg5)
      have p0 : w5.cell? ⟨wo.heap.size, 0, none⟩ = some (.int .i64 c0) := (hg5.cells.1 _ _ hzo).trans (by simp [go_sem])
      have p1 : w5.cell? ⟨wo.heap.size, 1, none⟩ = some (.string c1) := (hg5.cells.1 _ _ hzo).trans (by simp [go_sem])
      have p2 : w5.cell? ⟨wo.heap.size, 2, none⟩ = some (.string c2) := (hg5.cells.1 _ _ hzo).trans (by simp [go_sem])
      have p3 : w5.cell? ⟨wo.heap.size, 3, none⟩ = some (.string c3) := (hg5.cells.1 _ _ hzo).trans (by simp [go_sem])
      have p4 : w5.cell? ⟨wo.heap.size, 4, none⟩ = some (.int .i64 c4) := (hg5.cells.1 _ _ hzo).trans (by simp [go_sem])
      have p5 : w5.cell? ⟨wo.heap.size, 5, none⟩ = some (.string c5) := (hg5.cells.1 _ _ hzo).trans (by simp [go_sem])
      have p6 : w5.cell? ⟨wo.heap.size, 6, none⟩ = some (.string c6) := (hg5.cells.1 _ _ hzo).trans (by simp [go_sem])
      have p7 : w5.cell? ⟨wo.heap.size, 7, none⟩ = some (.int .i64 c7) := (hg5.cells.1 _ _ hzo).trans (by simp [go_sem])
      have p8 : w5.cell? ⟨wo.heap.size, 8, none⟩ = some (.bool c8) := (hg5.cells.1 _ _ hzo).trans (by simp [go_sem])
      have p9 : w5.cell? ⟨wo.heap.size, 9, none⟩ = some (.bool c9) := (hg5.cells.1 _ _ hzo).trans (by simp [go_sem])
      have hz5 := Nat.lt_of_lt_of_le hzo hg5.size
      have y17 := ((HG5.out).cells.1 _ 0 b17o).trans y17
      have b175 := Nat.lt_of_lt_of_le b17o HG5.out.size
      clear hg5 HGET r0 r1 r2 r3 r4 r5 r6 r7 r8 r9 hzo
      go_wp2_with fail
      · rename_i h1 h2 h3 h4 K a
        have h5 : ¬ is' = c8 := by intro e; subst e; simp at h4
        have HRX : Hid (Pl.repT [] xs = (17, [])) := by unfold Hid; rw [HRE.out]; simp [h1, h2, h3, h5]
        go_region
        go_wp2_with fail
        go_ret2
        rw [HRX.out]
        exact ⟨((hgo.trans HG5.out).alloc _).drew, none, 0, rfl, .inl rfl⟩
      · rename_i h1 h2 h3 h4 K1 a1 K a
        have h5 : is' = c8 := by simpa using h4
        have HRX : Hid (Pl.repT [] xs = if (if c9 = true then Pl.putN ⟨c1, c6, c7⟩ else 0) = 0 then Pl.repT (if c9 = true then Pl.putT (Pl.tdel P c1) ⟨c1, c6, c7⟩ else Pl.tdel P c1) (xs.drop (k + 1)) else ((if c9 = true then Pl.putN ⟨c1, c6, c7⟩ else 0), [])) := by unfold Hid; rw [HRE.out]; simp [h1, h2, h3, h5]
        clear HRE
        refine (HDEL.out _ (HG5.out.alloc _)).mono ?_
        rintro r w6 ⟨rfl, hR6, hkp⟩
        have hcell : ∀ i, w6.cell? ⟨wo.heap.size, i, none⟩ = w5.cell? ⟨wo.heap.size, i, none⟩ := fun i => by
          have e1 := hkp wo.heap.size (Nat.le_refl _) (by simp; omega)
          have e2 := World.cell?_of_block (a := ⟨wo.heap.size, i, none⟩) e1
          rw [e2]
          exact ((Grew.refl w5).alloc _).cells.1 _ _ hz5
        have z1 := (hcell 1).trans p1
        have z5 := (hcell 5).trans p5
        have z6 := (hcell 6).trans p6
        have z7 := (hcell 7).trans p7
        have z9 := (hcell 9).trans p9
        have HR6 := hid hR6
        clear hR6 hkp hcell p0 p1 p2 p3 p4 p5 p6 p7 p8 p9 HDEL y17
        cases c9 with
        | false =>
          go_wp2_with fail
          go_roundw
          case rel => exact ⟨k + 1, by omega, by go_num, ⟨_, HR6.out, by have := Pl.tdel_length P c1; omega, HRX.out⟩⟩
          case measure => simp [intOf]; omega
        | true =>
          have HPT := hid (HPUT.out w6 HR6.out)
          go_wp2_with fail
          refine HPT.out.mono ?_
          rintro r w7 ⟨rfl, hR7, _⟩
          have HR7 := hid hR7
          clear hR7 HPT z1 z5 z6 z7 z9
          have HRX : Hid (Pl.repT [] xs = if Pl.putN ⟨c1, c6, c7⟩ = 0 then Pl.repT (Pl.putT (Pl.tdel P c1) ⟨c1, c6, c7⟩) (xs.drop (k + 1)) else (Pl.putN ⟨c1, c6, c7⟩, [])) := HRX.out
          by_cases hn : Pl.putN ⟨c1, c6, c7⟩ = 0
          · have hrx := HRX.out
            rw [if_pos hn] at hrx
            have HRY := hid hrx
            rw [hn, errOf_zero]
            clear hrx
            go_wp2_with fail
            go_roundw
            case rel => exact ⟨k + 1, by omega, by go_num, ⟨_, HR7.out, by have := Pl.tdel_length P c1; have := Pl.putR_length (Pl.tdel P c1) ⟨c1, c6, c7⟩; omega, HRY.out⟩⟩
            case measure => simp [intOf]; omega
          · have hrx := HRX.out
            rw [if_neg hn] at hrx
            have HRY := hid hrx
            have hee : Hid (errOf E (Pl.putN ⟨c1, c6, c7⟩) = .iface 343 (.pointer (some (E (Pl.putN ⟨c1, c6, c7⟩))))) := errOf_pos E _ hn
            clear hrx
            rw [hee.out]
            go_wp2_with fail
            go_ret2
            rw [HRY.out, hee.out]
            exact ⟨HR7.out.grew, none, 0, rfl, .inl rfl⟩
      · rename_i h1 h2 h3 K a
        have HRX : Hid (Pl.repT [] xs = (17, [])) := by unfold Hid; rw [HRE.out]; simp [h1, h2, h3]
        go_region
        go_wp2_with fail
        go_ret2
        rw [HRX.out]
        exact ⟨((hgo.trans HG5.out).alloc _).drew, none, 0, rfl, .inl rfl⟩
      · rename_i h1 h2 K a
        have HRX : Hid (Pl.repT [] xs = (17, [])) := by unfold Hid; rw [HRE.out]; simp [h1, h2]
        go_region
        go_wp2_with fail
        go_ret2
        rw [HRX.out]
        exact ⟨((hgo.trans HG5.out).alloc _).drew, none, 0, rfl, .inl rfl⟩
      · rename_i h1 K a
        have HRX : Hid (Pl.repT [] xs = (17, [])) := by unfold Hid; rw [HRE.out]; simp [h1]
        go_region
        go_wp2_with fail
        go_ret2
        rw [HRX.out]
        exact ⟨((hgo.trans HG5.out).alloc _).drew, none, 0, rfl, .inl rfl⟩
    · obtain rfl : k = xs.length := by omega
      rw [List.drop_length] at HRE
      have HRX : Hid (Pl.repT [] xs = (0, P)) := HRE.out
      have hgo := HPP.out.grew
      obtain ⟨F, hF, _⟩ := HPP.out.ex
      have hsr : Pl.Srt P := tabAt_srt hF
      have HSC := hid (scanT_any hS E (HE.out.grew hgo) hF (by omega) ⟨#[]⟩ ⟨#[]⟩ 100000 (by decide) (by decide))
      have e : Pl.scanT P ⟨#[]⟩ ⟨#[]⟩ 100000 = P := by
        unfold Pl.scanT
        rw [scan_all hsr]
        exact List.take_of_length_le (by have : (100000 : Int).toNat = 100000 := rfl; omega)
      rw [e] at HSC
      clear hF hsr e
      go_wp2_with fail
      refine HSC.out.mono ?_
      rintro r w8 ⟨⟨v, rfl, hrow⟩, hg8⟩
      obtain ⟨a', c', rfl, hPA⟩ := pairsAt_of hrow
      have HPA := hid hPA
      have HG8 := hid (hgo.trans hg8)
      clear hrow hPA hg8 HSC
      go_wp2_with fail
      go_ret2
      rw [HRX.out]
      exact ⟨HG8.out, a', c', rfl, HPA.out⟩
end Go.Proofs.YtbdagllflamabaaGreatDoor
namespace Go.Proofs.YtbdagllflamabaaGreatDoor
open Go.RowKit Go.Maps
attribute [local go_sem] Oper.semAt_some uponV
theorem Pl.erase_len_le (D : List Pr) (k : ByteArray) : (D.eraseP (Pl.isK k)).length ≤ D.length := List.length_eraseP_le
structure RpdR (w W : World) (tb : Nat) (D : List Pr) : Prop where
  grew : Grew w W
  ex : ∃ F, RtAt W F tb D ∧ ∀ j, F j → w.heap.size ≤ j
theorem RpdR.more {w W U : World} {tb : Nat} {D : List Pr} (h : RpdR w W tb D) (g : Grew W U) : RpdR w U tb D := by
  obtain ⟨F, h1, h2⟩ := h.ex
  exact ⟨h.grew.trans g, F, h1.kept (g.only fun _ => False) (fun _ _ h => h), h2⟩
theorem RpdR.turn {w W U : World} {tb : Nat} {D Q : List Pr} (h : RpdR w W tb D) (gU : Grew W U) {fn : FuncId} {args : Array Value} {v : Value} (hc : ∀ F, RtAt U F tb D → Calls Tryz.prog fn args U fun e w' => e = .returned v ∧ RtTurn U F tb Q w') :
    Calls Tryz.prog fn args U fun e w' => e = .returned v ∧ RpdR w w' tb Q ∧ ∀ q, W.heap.size ≤ q → q < U.heap.size → w'.heap[q]? = U.heap[q]? := by
  obtain ⟨F, h1, h2⟩ := h.ex
  have hlt := h1.lt
  refine (hc F (h1.kept (gU.only fun _ => False) (fun _ _ h => h))).mono ?_
  rintro e w' ⟨rfl, hT⟩
  obtain ⟨hO, F', hF', hj⟩ := id hT
  have g := h.grew.trans gU
  exact ⟨rfl, ⟨((g.only F).then hO).grew h2, F', hF', fun j hq => by
    rcases hj j hq with q | q
    · exact h2 j q
    · exact Nat.le_trans g.size q⟩, fun q h3 h4 => hT.1.block q h4 fun hq => by have := hlt q hq; omega⟩
set_option maxRecDepth 100000 in
set_option maxHeartbeats 8000000 in
theorem replayR_any {w : World} (a : Option Addr) (cap : Nat) (xs : List Cg) (hA : CgsAt w a xs) (hx : xs.length ≤ 40) (hk : ∀ c ∈ xs, c.key.size ≤ 300 ∧ c.nv.size ≤ 300) :
    Calls Tryz.prog 32 #[.slice a xs.length cap] w fun e w' => Grew w w' ∧ ∃ a' c', e = .returned (.tuple #[.slice a' (Pl.repT [] xs).2.length c', .int .i64 ((Pl.repT [] xs).1 : Nat)]) ∧ PairsAt w' a' (Pl.repT [] xs).2 := by
  have HA := hid hA
  have HK := hid hk
  clear hA hk
  go_enter Tryz.func32, Tryz.ntmps32
  go_wp2_with fail
  have HP0 : Hid (RpdR w (w.alloc (.cells #[.slice none 0 0] 138)) w.heap.size []) := ⟨(Grew.refl w).alloc _, fun j => j = w.heap.size, ⟨.slice none 0 0, by simp [go_sem], by simp [go_sem], World.ownsRow_nil _ _ _ _, rfl, (fun g h => by cases h), fun j hj => by rw [hj]; simp⟩, fun j hj => by rw [hj]; exact Nat.le_refl _⟩
  generalize w.alloc (.cells #[.slice none 0 0] 138) = w1 at HP0 ⊢
  generalize w.heap.size = tb at HP0 ⊢
  go_loopw [14] (fun i wr => ∃ k : Nat, k ≤ xs.length ∧ i = .int .i64 k ∧ Hid (∃ P D, RpdR w wr tb D ∧ Pl.Tt P D ∧ D.length ≤ k ∧ Pl.repT [] xs = Pl.repT P (xs.drop k))) (fun i _ => xs.length - (intOf i).toNat)
  case atStart => exact ⟨0, Nat.zero_le _, rfl, ⟨_, _, HP0.out, Pl.Tt.nil, Nat.zero_le _, rfl⟩⟩
  case round =>
    obtain ⟨k, hk1, rfl, HP⟩ := hrel
    obtain ⟨wo, rfl⟩ : ∃ wo : World, wo = wr := ⟨_, rfl⟩
    obtain ⟨P, D, hP, hTt, hPl, hrep⟩ := HP.out
    have HTT := hid hTt
    have HPP := hid hP
    have HRE := hid hrep
    clear HP hP hrep hTt
    by_cases hlt : k < xs.length
    · rcases HA.out with h0 | ⟨b, off, rfl, hb, hR⟩
      · rw [h0] at hlt; simp at hlt
      have hgo := HPP.out.grew
      have r0 := (hgo.cells.1 b (off + k * 10) hb).trans (hR.at_ k hlt)
      have r1 := (hgo.cells.1 b (off + k * 10 + 1) hb).trans (hR.key k hlt)
      have r2 := (hgo.cells.1 b (off + k * 10 + 2) hb).trans (hR.wk k hlt)
      have r3 := (hgo.cells.1 b (off + k * 10 + 3) hb).trans (hR.wv k hlt)
      have r4 := (hgo.cells.1 b (off + k * 10 + 4) hb).trans (hR.wn k hlt)
      have r5 := (hgo.cells.1 b (off + k * 10 + 5) hb).trans (hR.nk k hlt)
      have r6 := (hgo.cells.1 b (off + k * 10 + 6) hb).trans (hR.nv k hlt)
      have r7 := (hgo.cells.1 b (off + k * 10 + 7) hb).trans (hR.nn k hlt)
      have r8 := (hgo.cells.1 b (off + k * 10 + 8) hb).trans (hR.had k hlt)
      have r9 := (hgo.cells.1 b (off + k * 10 + 9) hb).trans (hR.has k hlt)
      have HST := hid (Pl.repT_at P xs k hlt)
      obtain ⟨hk3, hv3⟩ := HK.out _ (cgAt_mem xs k hlt)
      clear hR
      rw [HST.out] at HRE
      clear HST
      unfold Pl.repE Pl.repN Pl.wasB at HRE
      generalize cgAt xs k = c at *
      obtain ⟨c0, c1, c2, c3, c4, c5, c6, c7, c8, c9⟩ := c
      dsimp only at *
      have HGET := hid (fun U (g : Grew wo U) => (show ∃ F, RtAt U F tb D ∧ True from by
        obtain ⟨F, h1, _⟩ := (HPP.out.more g).ex
        exact ⟨F, h1, trivial⟩).elim fun F h1 => get21_any h1.1.read (by omega) c1)
      have HGET := hid (fun U (g : Grew wo U) => HTT.out.get c1 ▸ HGET.out U g)
      -- [← HTT.out.get] at HGET
      have HDEL := hid (fun U (g : Grew wo U) => HPP.out.turn g fun F h => del21_any h (by omega) c1)
      have HPUT := hid (fun V (h : RpdR w V tb (D.eraseP (Pl.isK c1))) => h.turn (Grew.refl V) fun F q => put21_any q (by have := Pl.erase_len_le D c1; omega) c1 c6 c7 (by omega) (by omega))
      generalize (Pl.getT P c1).isSome = is' at *
      generalize (Pl.getT P c1).getD Pr.none = o at *
      obtain ⟨ok, ov, on⟩ := o
      unfold Pr.agg at HGET
      dsimp only at HGET
      go_wp2_with fail
      refine (HGET.out _ ((Grew.refl wo).alloc _)).mono ?_
      rintro r w5 ⟨rfl, hg5⟩
      have hzo : wo.heap.size < (wo.alloc (.cells #[.int .i64 c0, .string c1, .string c2, .string c3, .int .i64 c4, .string c5, .string c6, .int .i64 c7, .bool c8, .bool c9] 140)).heap.size := by simp
      have HG5 := hid (((Grew.refl wo).alloc (.cells #[.int .i64 c0, .string c1, .string c2, .string c3, .int .i64 c4, .string c5, .string c6, .int .i64 c7, .bool c8, .bool c9] 140)).trans hg5)
      have p0 : w5.cell? ⟨wo.heap.size, 0, none⟩ = some (.int .i64 c0) := (hg5.cells.1 _ _ hzo).trans (by simp [go_sem])
      have p1 : w5.cell? ⟨wo.heap.size, 1, none⟩ = some (.string c1) := (hg5.cells.1 _ _ hzo).trans (by simp [go_sem])
      have p2 : w5.cell? ⟨wo.heap.size, 2, none⟩ = some (.string c2) := (hg5.cells.1 _ _ hzo).trans (by simp [go_sem])
      have p3 : w5.cell? ⟨wo.heap.size, 3, none⟩ = some (.string c3) := (hg5.cells.1 _ _ hzo).trans (by simp [go_sem])
      have p4 : w5.cell? ⟨wo.heap.size, 4, none⟩ = some (.int .i64 c4) := (hg5.cells.1 _ _ hzo).trans (by simp [go_sem])
      have p5 : w5.cell? ⟨wo.heap.size, 5, none⟩ = some (.string c5) := (hg5.cells.1 _ _ hzo).trans (by simp [go_sem])
      have p6 : w5.cell? ⟨wo.heap.size, 6, none⟩ = some (.string c6) := (hg5.cells.1 _ _ hzo).trans (by simp [go_sem])
      have p7 : w5.cell? ⟨wo.heap.size, 7, none⟩ = some (.int .i64 c7) := (hg5.cells.1 _ _ hzo).trans (by simp [go_sem])
      have p8 : w5.cell? ⟨wo.heap.size, 8, none⟩ = some (.bool c8) := (hg5.cells.1 _ _ hzo).trans (by simp [go_sem])
      have p9 : w5.cell? ⟨wo.heap.size, 9, none⟩ = some (.bool c9) := (hg5.cells.1 _ _ hzo).trans (by simp [go_sem])
      have hz5 := Nat.lt_of_lt_of_le hzo hg5.size
      clear hg5 HGET r0 r1 r2 r3 r4 r5 r6 r7 r8 r9 hzo
      go_wp2_with fail
      · rename_i h1 h2 h3 h4
        have h5 : ¬ is' = c8 := by intro e; subst e; simp at h4
        have HRX : Hid (Pl.repT [] xs = (17, [])) := by unfold Hid; rw [HRE.out]; simp [h1, h2, h3, h5]
        go_ret2
        rw [HRX.out]
        exact ⟨((hgo.trans HG5.out).alloc _), none, 0, rfl, .inl rfl⟩
      · rename_i h1 h2 h3 h4 K1 a1 K a
        have h5 : is' = c8 := by simpa using h4
        have HRX : Hid (Pl.repT [] xs = if (if c9 = true then Pl.putN ⟨c1, c6, c7⟩ else 0) = 0 then Pl.repT (if c9 = true then Pl.putT (Pl.tdel P c1) ⟨c1, c6, c7⟩ else Pl.tdel P c1) (xs.drop (k + 1)) else ((if c9 = true then Pl.putN ⟨c1, c6, c7⟩ else 0), [])) := by unfold Hid; rw [HRE.out]; simp [h1, h2, h3, h5]
        clear HRE
        refine (HDEL.out _ (HG5.out.alloc _)).mono ?_
        rintro r w6 ⟨rfl, hR6, hkp⟩
        have hcell : ∀ i, w6.cell? ⟨wo.heap.size, i, none⟩ = w5.cell? ⟨wo.heap.size, i, none⟩ := fun i => by
          have e1 := hkp wo.heap.size (Nat.le_refl _) (by simp; omega)
          have e2 := World.cell?_of_block (a := ⟨wo.heap.size, i, none⟩) e1
          rw [e2]
          exact ((Grew.refl w5).alloc _).cells.1 _ _ hz5
        have z1 := (hcell 1).trans p1
        have z5 := (hcell 5).trans p5
        have z6 := (hcell 6).trans p6
        have z7 := (hcell 7).trans p7
        have z9 := (hcell 9).trans p9
        have HR6 := hid hR6
        clear hR6 hkp hcell p0 p1 p2 p3 p4 p5 p6 p7 p8 p9 HDEL
        cases c9 with
        | false =>
          go_wp2_with fail
          go_roundw
          case rel => exact ⟨k + 1, by omega, by go_num, ⟨_, _, HR6.out, HTT.out.del c1, by have := Pl.erase_len_le D c1; omega, HRX.out⟩⟩
          case measure => simp [intOf]; omega
        | true =>
          have HPT := hid (HPUT.out w6 HR6.out)
          go_wp2_with fail
          refine HPT.out.mono ?_
          rintro r w7 ⟨rfl, hR7, _⟩
          have HR7 := hid hR7
          clear hR7 HPT z1 z5 z6 z7 z9
          have HRX : Hid (Pl.repT [] xs = if Pl.putN ⟨c1, c6, c7⟩ = 0 then Pl.repT (Pl.putT (Pl.tdel P c1) ⟨c1, c6, c7⟩) (xs.drop (k + 1)) else (Pl.putN ⟨c1, c6, c7⟩, [])) := HRX.out
          by_cases hn : Pl.putN ⟨c1, c6, c7⟩ = 0
          · have hrx := HRX.out
            rw [if_pos hn] at hrx
            have HRY := hid hrx
            rw [hn]
            clear hrx
            go_wp2_with fail
            go_roundw
            case rel => exact ⟨k + 1, by omega, by go_num, ⟨_, _, HR7.out, (HTT.out.del c1).put ⟨c1, c6, c7⟩, by have := Pl.erase_len_le D c1; have := Pl.put21_len (D.eraseP (Pl.isK c1)) ⟨c1, c6, c7⟩; omega, HRY.out⟩⟩
            case measure => simp [intOf]; omega
          · have hrx := HRX.out
            rw [if_neg hn] at hrx
            have HRY := hid hrx
            clear hrx
            have hnI : ¬ ((Pl.putN ⟨c1, c6, c7⟩ : Nat) : Int) = 0 := by omega
            go_wp2_with fail
            go_ret2
            rw [HRY.out]
            exact ⟨HR7.out.grew, none, 0, rfl, .inl rfl⟩
      · rename_i h1 h2 h3
        have HRX : Hid (Pl.repT [] xs = (17, [])) := by unfold Hid; rw [HRE.out]; simp [h1, h2, h3]
        go_ret2
        rw [HRX.out]
        exact ⟨((hgo.trans HG5.out).alloc _), none, 0, rfl, .inl rfl⟩
      · rename_i h1 h2
        have HRX : Hid (Pl.repT [] xs = (17, [])) := by unfold Hid; rw [HRE.out]; simp [h1, h2]
        go_ret2
        rw [HRX.out]
        exact ⟨((hgo.trans HG5.out).alloc _), none, 0, rfl, .inl rfl⟩
      · rename_i h1
        have HRX : Hid (Pl.repT [] xs = (17, [])) := by unfold Hid; rw [HRE.out]; simp [h1]
        go_ret2
        rw [HRX.out]
        exact ⟨((hgo.trans HG5.out).alloc _), none, 0, rfl, .inl rfl⟩
    · obtain rfl : k = xs.length := by omega
      rw [List.drop_length] at HRE
      have HRX : Hid (Pl.repT [] xs = (0, P)) := HRE.out
      have hgo := HPP.out.grew
      obtain ⟨F, hF, _⟩ := HPP.out.ex
      have HSC := hid (sorted21_any hF.read (by omega) (fun c hc => HTT.out.srt.key c ((HTT.out.mem c).1 hc)) HTT.out.ap)
      clear hF
      go_wp2_with fail
      refine HSC.out.mono ?_
      rintro r w8 ⟨⟨v, zs, rfl, hperm, hsrt, hrow⟩, hg8⟩
      obtain rfl := HTT.out.sorted hperm hsrt
      obtain ⟨a', c', rfl, hPA⟩ := pairsAt_of hrow
      have HPA := hid hPA
      have HG8 := hid (hgo.trans hg8)
      clear hrow hPA hg8 HSC hperm hsrt
      go_wp2_with fail
      go_ret2
      rw [HRX.out]
      exact ⟨HG8.out, a', c', rfl, HPA.out⟩
end Go.Proofs.YtbdagllflamabaaGreatDoor
namespace Go.Proofs.YtbdagllflamabaaGreatDoor
open Go.RowKit Go.Maps
attribute [local go_sem] Oper.semAt_some
set_option maxRecDepth 100000 in
set_option maxHeartbeats 1000000 in
theorem samePairs_same (w : World) (a b : Option Addr) (c d : Nat) (xs : List Pr) (hA : PairsAt w a xs) (hB : PairsAt w b xs) (hx : xs.length ≤ 1000000) :
    Calls Tryz.prog 33 #[.slice a xs.length c, .slice b xs.length d] w fun e w' => e = .returned (.bool true) ∧ Grew w w' := by
  have HA := hid hA
  have HB := hid hB
  have hbn : (xs.length : Int) ≤ 1000000 := by omega
  clear hA hB
  go_enter Tryz.func33, Tryz.ntmps33
  go_wp2_with fail
  go_loopw [13] (fun i wr => ∃ k : Nat, k ≤ xs.length ∧ i = .int .i64 k ∧ Grew w wr) (fun i _ => xs.length - (intOf i).toNat)
  case atStart => exact ⟨0, Nat.zero_le _, rfl, Grew.refl w⟩
  case round =>
    obtain ⟨k, hk1, rfl, hG⟩ := hrel
    by_cases hlt : k < xs.length
    · rcases HA.out with h0 | ⟨b1, off1, rfl, hb1, hR1⟩
      · rw [h0] at hlt; simp at hlt
      rcases HB.out with h0 | ⟨b2, off2, rfl, hb2, hR2⟩
      · rw [h0] at hlt; simp at hlt
      have q0 := (hG.cells.1 _ _ hb1).trans (hR1.key k hlt)
      have q1 := (hG.cells.1 _ _ hb1).trans (hR1.val k hlt)
      have q2 := (hG.cells.1 _ _ hb1).trans (hR1.ver k hlt)
      have p0 := (hG.cells.1 _ _ hb2).trans (hR2.key k hlt)
      have p1 := (hG.cells.1 _ _ hb2).trans (hR2.val k hlt)
      have p2 := (hG.cells.1 _ _ hb2).trans (hR2.ver k hlt)
      clear hR1 hR2
      generalize prAt xs k = e at *
      obtain ⟨ek, ev, en⟩ := e
      dsimp only at *
      have hltI : (k : Int) < (xs.length : Int) := by omega
      go_wp2_with fail
      go_quiet (fail)
      all_goals (
        go_wp2_with fail
        go_roundw
        case rel => exact ⟨k + 1, by omega, by go_num, hG.drewN _⟩
        case measure => simp [intOf]; omega)
    · obtain rfl : k = xs.length := by omega
      go_wp2_with fail
      go_ret
      exact ⟨rfl, hG⟩
end Go.Proofs.YtbdagllflamabaaGreatDoor
