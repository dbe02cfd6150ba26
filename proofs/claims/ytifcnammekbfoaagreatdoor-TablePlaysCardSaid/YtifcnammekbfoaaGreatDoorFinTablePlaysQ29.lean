/- Do21e, CloneU8: one text. -/
import Derived.Test.YtifcnammekbfoaaGreatDoorFinTablePlaysQ25
import Derived.Test.YtifcnammekbfoaaGreatDoorFinTablePlaysQ27
import Derived.Test.YtifcnammekbfoaaGreatDoorFinTablePlaysQ28
import Derived.Test.YtifcnammekbfoaaGreatDoorFinTablePlaysQ26
import Derived.Test.YtifcnammekbfoaaGreatDoorFinTablePlaysQ1
import Derived.Deep.AppendLies
import Derived.Deep.Upon
import Derived.Lib.AppendZeros
/- tidewaterlaw21.do: a Cut of a copy, joined again. -/
set_option linter.unusedVariables false
set_option linter.unusedSimpArgs false
namespace Go.Proofs.YtifcnammekbfoaaGreatDoor
open Go.RowKit Go.Maps Go.Sort
attribute [local go_sem] Oper.semAt_some uponV

set_option maxRecDepth 100000 in
set_option maxHeartbeats 8000000 in
theorem do21_else (E : Nat → Addr) {w0 w : World} (hE : Errs allS E w0) {tb rb : Nat} {P D : List Pr} {B : Nat → Obj → Prop} (h : M21 w0 w tb rb P D B) (hT : Pl.Tt P D) (hx : P.length ≤ 1000) (ak av : Int) (h0 : ¬ ak = 0) (h1 : ¬ ak = 1) (h2 : ¬ ak = 2) (h3 : ¬ ak = 3) (h4 : ¬ ak = 4) (akey aval alo ahi : ByteArray) (sk : akey.size ≤ 300) :
    Calls Tryz.prog 11 #[.pointer (some ⟨tb, 0, none⟩), .pointer (some ⟨rb, 0, none⟩), .agg #[.int .i64 ak, .int .i64 av, .string akey, .string aval, .string alo, .string ahi]] w fun e w' => e = .returned (.bool true) ∧ M21 w0 w' tb rb P D B := by
  have hS : TabS allS := ⟨rfl, rfl, rfl, rfl, rfl⟩
  have HE := hid hE
  have HM := hid h
  have HTT := hid hT
  have HSAME := hid (fun W (g : Grew w W) => show Calls Tryz.prog 12 #[.pointer (some ⟨tb, 0, none⟩), .pointer (some ⟨rb, 0, none⟩)] W fun e w' => e = .returned (.bool true) ∧ Grew W w' from by
    obtain ⟨F, k1, _⟩ := (h.more g).tab
    exact same21_any hS E (hE.grew (h.more g).grew) k1 (h.more g).read hT hx)
  have HSC := hid (fun W (g : Grew w W) (Fc : Nat → Prop) (cb : Nat) (k : TabAt W Fc cb P) => same21_any hS E (hE.grew (h.more g).grew) k (h.more g).read hT hx)
  have HCP := hid (fun W (g : Grew w W) => show Calls Tryz.prog 54 #[.pointer (some ⟨tb, 0, none⟩)] W fun e w' => (∃ cb Fc, e = .returned (.pointer (some ⟨cb, 0, none⟩)) ∧ TabAt w' Fc cb P ∧ ∀ j, Fc j → W.heap.size ≤ j) ∧ Grew W w' from by
    obtain ⟨F, k1, _⟩ := (h.more g).tab
    exact copyT_any k1 (by omega))
  have HXL := hid hx
  have HLN := hid (fun W (F : Nat → Prop) (b : Nat) (Q : List Pr) (k : TabAt W F b Q) => lenT_any k)
  obtain ⟨n, hn⟩ : ∃ n, n = Pl.cutN P akey := ⟨_, rfl⟩
  have HCU := hid (fun W (F : Nat → Prop) (b : Nat) (k : TabAt W F b P) => cutT_any k (by omega) akey (by omega))
  rw [← hn] at HCU
  obtain ⟨ys, hys⟩ : ∃ ys, ys = P.take n := ⟨_, rfl⟩
  obtain ⟨zs, hzs⟩ : ∃ zs, zs = P.drop n := ⟨_, rfl⟩
  rw [← hys, ← hzs] at HCU
  have hyz : ys ++ zs = P := by rw [hys, hzs, List.take_append_drop]
  have hsub : ∀ c ∈ zs, c ∈ P := fun c hc => by rw [hzs] at hc; exact List.mem_of_mem_drop hc
  have HYL : Hid (ys.length + zs.length ≤ 1000) := by unfold Hid; rw [← List.length_append, hyz]; omega
  have HJ1 := hid (fun W (F G : Nat → Prop) (b o : Nat) (hW : Errs allS E W) (k1 : TabAt W F b ys) (k2 : TabAt W G o zs) => show Calls Tryz.prog 55 #[.pointer (some ⟨b, 0, none⟩), .pointer (some ⟨o, 0, none⟩)] W fun e w' => e = .returned .nilIface ∧ TabTurn W F b P w' from by
    refine (joinT_any E rfl hW k1 k2 (by have := HYL.out; omega)).mono ?_
    rintro e w' ⟨qs, hp, ho, hq⟩
    rw [hyz] at hp
    have e1 : qs = P := Pl.join_self hT.srt hp ho
    subst e1
    rcases hq with ⟨hd, _⟩ | ⟨_, he, hR⟩
    · rw [Pl.srt_nodup hT.srt] at hd; cases hd
    · exact ⟨he, hR⟩)
  have HJ2 := hid (fun (hz : zs ≠ []) W (F G : Nat → Prop) (b o : Nat) (hW : Errs allS E W) (k1 : TabAt W F b P) (k2 : TabAt W G o zs) => show Calls Tryz.prog 55 #[.pointer (some ⟨b, 0, none⟩), .pointer (some ⟨o, 0, none⟩)] W fun e w' => e = .returned (errOf E 18) ∧ Grew W w' from by
    refine (joinT_any E rfl hW k1 k2 (by have := HYL.out; omega)).mono ?_
    rintro e w' ⟨qs, hp, ho, hq⟩
    rcases hq with ⟨_, he, hg⟩ | ⟨hd, _, _⟩
    · exact ⟨by rw [he, errOf_pos E 18 (by decide)], hg⟩
    · exfalso
      have hk : ∀ c ∈ qs, Pl.keyN c.key = 0 := fun c hc => by
        have := hp.mem_iff.1 hc
        rcases List.mem_append.1 this with h | h
        · exact hT.srt.key c h
        · exact hT.srt.key c (hsub c h)
      have hs := Pl.srt_sorted hk ho hd
      have hap := (hp.pairwise_iff (fun {a b} (h : a.key ≠ b.key) => fun e => h e.symm)).1 (Pl.srt_ap hs)
      rw [List.pairwise_append] at hap
      cases hzq : zs with
      | nil => exact hz hzq
      | cons c cs =>
        have hc : c ∈ zs := by rw [hzq]; simp
        exact hap.2.2 c (hsub c hc) c hc rfl)
  have HZN : Hid (zs.length = 0 ∨ zs ≠ []) := by
    unfold Hid
    by_cases hz : zs = []
    · exact .inl (by rw [hz]; rfl)
    · exact .inr hz
  obtain ⟨Y, hY⟩ : ∃ Y, Y = w.alloc (.cells #[.int .i64 ak, .int .i64 av, .string akey, .string aval, .string alo, .string ahi] 34) := ⟨_, rfl⟩
  have HY := hid hY
  have gY : Grew w Y := by rw [hY]; exact (Grew.refl w).alloc _
  have c2 : Y.cell? ⟨w.heap.size, 2, none⟩ = some (.string akey) := by rw [hY]; simp [go_sem]
  have hbY : w.heap.size < Y.heap.size := by rw [hY]; simp
  have HGY := hid gY
  have HC2 := hid c2
  have HBY := hid hbY
  clear h hE hT hn hys hzs hyz hsub hY gY c2 hbY
  go_enter Tryz.func11, Tryz.ntmps11
  go_wp2_with fail
  rw [← HY.out]
  refine (HCP.out Y HGY.out).mono ?_
  rintro e w1 ⟨⟨cb, Fc, rfl, hC, hFc⟩, hg1⟩
  have d2 := (hg1.cells.1 _ 2 HBY.out).trans HC2.out
  have hb1 := Nat.lt_of_lt_of_le HBY.out hg1.size
  have HC := hid hC
  have HFC := hid (fun j hj => Nat.le_trans HGY.out.size (hFc j hj))
  have HG1 := hid (HGY.out.trans hg1)
  clear hC hFc hg1
  go_wp2_with fail
  clear d2
  refine (HCU.out w1 Fc cb HC.out).mono ?_
  rintro e w2 ⟨ob, rfl, hO2, F2, Fo, k2, ko, hF2, hFo⟩
  have HG2 := hid (show Grew w w2 from ((HG1.out.only Fc).then hO2).grew HFC.out)
  have HK2 := hid k2
  have HKO := hid ko
  have HF2 := hid (fun j (hj : F2 j) => show w.heap.size ≤ j from by
    rcases hF2 j hj with h | h
    · exact HFC.out j h
    · exact Nat.le_trans HG1.out.size h)
  have HFO := hid (fun j (hj : Fo j) => (hFo j hj).2)
  clear hO2 k2 ko hF2 hFo
  go_wp2_with fail
  refine (copyT_any HKO.out (by have := HYL.out; omega)).mono ?_
  rintro e w3 ⟨⟨xb, Fx, rfl, hX, hFx⟩, hg3⟩
  have HX := hid hX
  have HFX := hid (fun j (hj : Fx j) => show ¬ F2 j from fun h => by have := tabAt_lt HK2.out j h; have := hFx j hj; omega)
  have HG3 := hid (HG2.out.trans hg3)
  have HK3 := hid (HK2.out.grew hg3)
  have HO3 := hid (HKO.out.grew hg3)
  clear hX hFx hg3 HK2 HKO
  go_wp2_with fail
  -- the table is the document's still
  refine (HSAME.out w3 HG3.out).mono ?_
  rintro e w4 ⟨rfl, hg4⟩
  have HG4 := hid (HG3.out.trans hg4)
  have HK4 := hid (HK3.out.grew hg4)
  have HO4 := hid (HO3.out.grew hg4)
  have HX4 := hid (HX.out.grew hg4)
  clear hg4 HK3 HO3 HX
  go_wp2_with fail
  -- joined again
  refine (HJ1.out w4 F2 Fo cb ob (HE.out.grew (HM.out.more HG4.out).grew) HK4.out HO4.out).mono ?_
  rintro e w5 ⟨rfl, hO5, F5, k5, hF5⟩
  have HG5 := hid (show Grew w w5 from ((HG4.out.only F2).then hO5).grew HF2.out)
  have HK5 := hid k5
  have HX5 := hid (HX4.out.kept hO5 HFX.out)
  clear hO5 k5 hF5
  go_wp2_with fail
  refine (HSC.out w5 HG5.out F5 cb HK5.out).mono ?_
  rintro e w6 ⟨rfl, hg6⟩
  have HG6 := hid (HG5.out.trans hg6)
  have HK6 := hid (HK5.out.grew hg6)
  have HX6 := hid (HX5.out.grew hg6)
  clear hg6
  go_wp2_with fail
  refine (HLN.out w6 Fx xb zs HX6.out).mono ?_
  rintro e w7 ⟨rfl, rfl⟩
  rcases HZN.out with hz | hz
  · rw [hz]
    go_wp2_with fail
    refine (HSC.out _ HG6.out F5 cb HK6.out).mono ?_
    rintro e w8 ⟨rfl, hg8⟩
    have HF := hid (HM.out.more (HG6.out.trans hg8))
    clear hg8
    go_wp2_with fail
    go_ret
    exact ⟨rfl, HF.out⟩
  · have hzl : ¬ (zs.length : Int) = 0 := fun h => hz (List.eq_nil_of_length_eq_zero (by omega))
    go_wp2_with fail
    refine (HJ2.out hz _ F5 Fx cb xb (HE.out.grew (HM.out.more HG6.out).grew) HK6.out HX6.out).mono ?_
    rintro e w8 ⟨rfl, hg8⟩
    have HG8 := hid (HG6.out.trans hg8)
    have HK8 := hid (HK6.out.grew hg8)
    clear hg8
    go_wp2_with fail
    refine (num_all E 18 (by decide) w8 (HE.out.grew (HM.out.more HG8.out).grew)).mono ?_
    rintro e w9 ⟨rfl, hg9⟩
    have HG9 := hid (HG8.out.trans hg9)
    have HK9 := hid (HK8.out.grew hg9)
    clear hg9
    go_wp2_with fail
    refine (HSC.out _ HG9.out F5 cb HK9.out).mono ?_
    rintro e w10 ⟨rfl, hg10⟩
    have HF := hid (HM.out.more (HG9.out.trans hg10))
    clear hg10
    go_wp2_with fail
    go_ret
    exact ⟨rfl, HF.out⟩
end Go.Proofs.YtifcnammekbfoaaGreatDoor

/- The walk of slices.Clone at a struct (printed by gen_slices.py). -/

set_option linter.unusedVariables false
set_option linter.unusedSectionVars false
set_option linter.unusedSimpArgs false
namespace Go.Proofs.YtifcnammekbfoaaGreatDoor
open Go.RowKit Go.Maps
attribute [local go_sem] Oper.semAt_some

theorem infoCU8 : (Tryz.prog.info? 5).map (fun i => (i.zero, i.size, i.bytes)) = some (some (.int .u8 0), 1, 1) := by kernel_rfl
theorem zcCU8 : (Value.cells (.int .u8 0)).size = 1 := by kernel_rfl

theorem eqCU8 (gb off m c : Nat) (w : World) : (binOp .eql 37 (.slice (some ⟨gb, off, none⟩) m c) (.slice none 0 0)).run Tryz.prog w = .ok (.bool false) w := by kernel_rfl
theorem eqCnU8 (w : World) : (binOp .eql 37 (.slice none 0 0) (.slice none 0 0)).run Tryz.prog w = .ok (.bool true) w := by kernel_rfl
set_option maxRecDepth 100000 in
set_option maxHeartbeats 1000000 in
/-- slices.Clone of a row of at least one. -/
theorem cloneU8 (w : World) (gb off m c : Nat) (hm : 0 < m) (hbig : m ≤ 1000000) (news : List Value) (hl : news.length = m * 1) (hnews : ∀ j u, news[j]? = some u → w.cell? ⟨gb, off + j, none⟩ = some u) (h1 : ∀ u ∈ news, u.oneCell' = true) :
    Calls Tryz.prog 113 #[.slice (some ⟨gb, off, none⟩) m c] w fun e w' => ∃ g cap, e = .returned (.slice (some ⟨g, 0, none⟩) m cap) ∧ w'.ownsRow w.heap.size 5 1 (.slice (some ⟨g, 0, none⟩) m cap) m news ∧ Grew w w' := by
  obtain ⟨i0, hi0, hz0, hz1, hz2⟩ := info_parts infoCU8
  have had : gb < w.heap.size := by
    have h0 : 0 < news.length := by omega
    have h2 := World.block_lt_of_cell? _ _ (hnews 0 news[0] (List.getElem?_eq_getElem h0))
    exact h2
  have HN : Hid (∀ (t : TypeId) j u, news[j]? = some u → (w.alloc (.cells #[] t)).cell? ⟨gb, off + j, none⟩ = some u) := fun t j u hj => by
    have := hnews j u hj
    rw [← this]
    exact ((Grew.refl w).alloc _).below.cell (World.block_lt_of_cell? _ _ this)
  have HL := hid hl
  have H1 := hid h1
  have HO := hid (fun (t : TypeId) (h : t = 5) => show (w.alloc (.cells #[] t)).ownsRow w.heap.size 5 1 (.slice (some ⟨w.heap.size, 0, none⟩) 0 0) 0 [] from by
    subst h
    exact ownsRow_of_block (cur := []) (Nat.le_refl _) (heap_alloc_new w _) (Nat.le_refl _) (by decide) rfl rfl)
  clear hnews hl h1
  have hEq := eqCU8 gb off m c
  go_enter Tryz.func113, Tryz.ntmps113
  go_wp2_with (at_builtin; refine wpList_append_lies _ rfl _ _ 37 rfl w.heap.size 5 i0 _ 1 1 Tryz.underlying37 hi0 hz0 hz1 hz2 zcCU8 (by omega) (.slice (some ⟨w.heap.size, 0, none⟩) 0 0) 0 [] rfl (HO.out _ rfl) ⟨gb, off, none⟩ m c news rfl HL.out (fun j u hj => by rw [Addr.add_lit]; exact HN.out _ j u hj) H1.out (by omega) (by unfold maxLen; omega) (by omega) (by simp) _ rfl ?_)
  intro g cap w1 hown hgrow hat hlt
  have HO := hid hown
  have HG := hid hgrow
  clear hown hgrow hat
  go_wp2_with fail
  go_ret
  refine ⟨g, cap, by simp, by simpa using HO.out, ?_⟩
  refine (((Grew.refl w).alloc _).only (fun j => some j = Value.ownBlock (.slice (some ⟨w.heap.size, 0, none⟩) 0 0))).then (Only.of_grownBy HG.out) |>.grew ?_
  intro j hj
  have : j = w.heap.size := Option.some.inj hj
  omega

set_option maxRecDepth 100000 in
/-- .. of nothing. -/
theorem cloneNilU8 (w : World) : Calls Tryz.prog 113 #[.slice none 0 0] w fun e w' => e = .returned (.slice none 0 0) ∧ Grew w w' := by
  have hEq := eqCnU8
  go_enter Tryz.func113, Tryz.ntmps113
  go_wp2_with fail
  go_ret
  exact ⟨rfl, Grew.refl w⟩

set_option maxRecDepth 100000 in
/-- .. of a slice that is empty, and isn't nil: a block of its own, without a cell. -/
theorem cloneZeroU8 (w : World) (gb off c : Nat) : Calls Tryz.prog 113 #[.slice (some ⟨gb, off, none⟩) 0 c] w fun e w' => e = .returned (.slice (some ⟨w.heap.size, 0, none⟩) 0 0) ∧ w'.ownsRow w.heap.size 5 1 (.slice (some ⟨w.heap.size, 0, none⟩) 0 0) 0 [] ∧ Grew w w' := by
  obtain ⟨i0, hi0, hz0, hz1, hz2⟩ := info_parts infoCU8
  have HO := hid (fun (t : TypeId) (h : t = 5) => show (w.alloc (.cells #[] t)).ownsRow w.heap.size 5 1 (.slice (some ⟨w.heap.size, 0, none⟩) 0 0) 0 [] from by
    subst h
    exact ownsRow_of_block (cur := []) (Nat.le_refl _) (heap_alloc_new w _) (Nat.le_refl _) (by decide) rfl rfl)
  have HG := hid (fun (t : TypeId) => (Grew.refl w).alloc (.cells #[] t))
  have hS : ∀ W : World, Src Tryz.prog i0.size 37 (.slice (some ⟨gb, off, none⟩) 0 c) 0 [] W := fun W => Src.ofSlice W Tryz.underlying37 ⟨gb, off, none⟩ 0 c [] (by simp) (fun j u hj => by simp at hj) (fun u hu => by cases hu)
  have HS := hid hS
  clear hS
  have hEq := eqCU8 gb off 0 c
  go_enter Tryz.func113, Tryz.ntmps113
  go_wp2_with (at_builtin; refine Lib.wpList_append_run _ rfl _ _ _ _ rfl _ _ rfl rfl _ _ (run_append_nothing _ 37 37 _ 5 i0 Tryz.underlying37 hi0 _ 0 0 (Nat.le_refl _) _ (HS.out _)) ?_)
  go_wp2_with fail
  go_ret
  exact ⟨rfl, HO.out _ rfl, HG.out _⟩
end Go.Proofs.YtifcnammekbfoaaGreatDoor
