/- The walk of past.Trim. -/
import Derived.Test.YtapchoppcaacdaaGreatDoorTrm1
import Derived.Test.YtapchoppcaacdaaGreatDoorPastZ
import Derived.Test.YtapchoppcaacdaaGreatDoorMapR
import Derived.BigQuiet
set_option linter.unusedVariables false
namespace Go.Proofs.YtapchoppcaacdaaGreatDoor
open Go.RowKit Go.Maps Go.Sort
attribute [local go_sem] Oper.semAt_some

namespace Pl
/-- past.Trim: the error's number; what it leaves; the floor. -/
def trimE (to : Int) : Nat := if to < 0 ∨ 4096 < to then 1 else 0
def trimK (K : ByteArray → List Ch) (fl to : Int) : ByteArray → List Ch := if trimE to = 0 ∧ fl < to then fun s => trimL to (K s) else K
def trimF (fl to : Int) : Int := if trimE to = 0 ∧ fl < to then to else fl
/-- What is kept while Trim is on its way. -/
def leftK (K : ByteArray → List Ch) (left : Lit → Bool) (to : Int) (s : ByteArray) : List Ch := if left (mlit s) = true then K s else trimL to (K s)
theorem leftK_step (K : ByteArray → List Ch) (left : Lit → Bool) (to : Int) (s : ByteArray) : setK (leftK K left to) s (trimL to (K s)) = leftK K (fun z => left z && !z.sameKey (mlit s)) to := by
  funext t
  unfold leftK
  by_cases h : t = s
  · subst h
    have e1 : (mlit t).sameKey (mlit t) = true := by rw [mlit_same, decide_eq_true rfl]
    rw [setK_same]; simp [e1]
  · have e1 : (mlit t).sameKey (mlit s) = false := by rw [mlit_same, decide_eq_false h]
    rw [setK_other _ _ _ _ h]; simp [e1]
end Pl

theorem past_floor {w : World} {F : Nat → Prop} {pb mb n : Nat} {f : Lit → Option Value} {K : ByteArray → List Ch} {fl : Int} (h : PastIs w F pb mb f n K fl) (to : Int) : PastIs (w.setCell ⟨pb, 1, none⟩ (.int .i64 to)) F pb mb f n K to where
  map0 := by have := h.map0; simp [go_sem, this]
  flr := by have := h.flr; simp [go_sem, this]
  fz := by have := h.fz; simp [go_sem, this]
  lm := h.lm.kept (Only.setCell w ⟨pb, 1, none⟩ _) (fun e => h.ne e.symm)
  foot0 := h.foot0
  foot1 := h.foot1
  row s := ownsRow_only (Only.setCell w ⟨pb, 1, none⟩ _) (h.row s) fun b hb e => by
    cases hf : f (slit s) with
    | none => rw [hf] at hb; cases hb
    | some v => rw [hf] at hb; exact (h.foot s v b hf hb).2.1 e
  pres := h.pres
  len := h.len
  ne := h.ne
  foot := h.foot
  apart := h.apart

theorem keyOf_m {s : ByteArray} (h : s.size ≤ maxLen) : keyOf Tryz.prog 9 (.string s) = some (mlit s) := WideMaps.keyOf_string_mk Tryz.underlying9 h

/-- Between two rounds of Trim's loop. -/
def TrimRel (w wx : World) (F : Nat → Prop) (pb mb n r : Nat) (K : ByteArray → List Ch) (left : Lit → Bool) (cnt : Nat) (to : Int) : Prop :=
  ∃ (F' : Nat → Prop) (f' : Lit → Option Value), PastIs wx F' pb mb f' n (Pl.leftK K left to) to ∧ MRange wx Tryz.prog 9 mb r n f' left cnt ∧ Only F w wx ∧ (∀ j, F' j → (F j ∨ w.heap.size ≤ j) ∧ j < wx.heap.size ∧ j ≠ w.heap.size ∧ j ≠ r) ∧ wx.cell? ⟨w.heap.size, 0, none⟩ = some (.int .i64 to)
theorem TrimRel.left_eq {w wx : World} {F : Nat → Prop} {pb mb n r : Nat} {K : ByteArray → List Ch} {left : Lit → Bool} {cnt : Nat} {to : Int} (h : TrimRel w wx F pb mb n r K left cnt to) : wx.rangeLeft mb r = cnt := by
  obtain ⟨F', f', _, h, _⟩ := h; exact h.left_eq

theorem trim_put {w w6 w8 w9 : World} {F F' : Nat → Prop} {pb mb n r b l cap gg capg m cnt : Nat} {f' : Lit → Option Value} {K : ByteArray → List Ch} {left : Lit → Bool} {to : Int} {s : ByteArray} (hP : PastIs w6 F' pb mb f' n (Pl.leftK K left to) to) (hO : Only F w w6) (hF' : ∀ j, F' j → (F j ∨ w.heap.size ≤ j) ∧ j < w6.heap.size ∧ j ≠ w.heap.size ∧ j ≠ r) (hr6 : r < w6.heap.size)
    (hc : w6.cell? ⟨w.heap.size, 0, none⟩ = some (.int .i64 to)) (hv : f' (mlit s) = some (.slice (some ⟨b, 0, none⟩) l cap)) (hys : Pl.trimL to (K s) ≠ []) (hlen : (Pl.trimL to (K s)).length ≤ n) (hm : m = (Pl.trimL to (K s)).length) (o8 : Only (fun j => j = b) w6 w8) (hrow : w8.ownsRow 0 104 4 (.slice (some ⟨gg, 0, none⟩) m capg) m (chFlat (Pl.trimL to (K s)))) (hat : gg = b ∨ w6.heap.size ≤ gg)
    (hR9 : MRange w9 Tryz.prog 9 mb r n (lset f' (mlit s) (some (.slice (some ⟨gg, 0, none⟩) m capg))) (fun z => left z && !z.sameKey (mlit s)) cnt) (o9 : Only (fun j => j = mb) w8 w9) : TrimRel w w9 F pb mb n r K (fun z => left z && !z.sameKey (mlit s)) cnt to := by
  subst hm
  have hm0 : 0 < (Pl.trimL to (K s)).length := List.length_pos_iff.2 hys
  obtain ⟨g', cap', e, _, hlt⟩ := hrow.form hm0
  cases e
  have hsv : (f' (slit s)).getD nilS = .slice (some ⟨b, 0, none⟩) l cap := by
    change (f' (mlit s)).getD nilS = _; rw [hv]; rfl
  have hb' : ∀ j : Nat, some j = Value.ownBlock (.slice (some ⟨b, 0, none⟩) l cap) ↔ j = b := fun j => by simp [Value.ownBlock]
  have hz : w.heap.size < w6.heap.size := cell_lt hc
  have hfb := hP.foot s _ b hv rfl
  have hFb := hF' b hfb.1
  have hFm := hF' mb hP.foot1
  obtain ⟨h1, F2, h2, h3⟩ := past_put (m := n) hP (fun j hj => (hF' j hj).2.1) s _ hsv (Pl.trimL to (K s)) hys hlen (Nat.le_refl _) gg capg hrow (o8.mono fun j hj => .inl ((hb' j).2 hj)) (by rcases hat with e | e; exact .inl (by rw [e]; rfl); exact .inr e) hlt hR9.lmap o9
  rw [Pl.leftK_step] at h2
  refine ⟨F2, _, h2, hR9, ?_, ?_, ?_⟩
  · exact hO.trans h1 fun j hj => (hF' j hj).1
  · intro j hj
    rcases h3 j hj with h | ⟨h, h'⟩
    · obtain ⟨q1, q2, q3⟩ := hF' j h
      have := h1.size
      exact ⟨q1, by omega, q3⟩
    · exact ⟨.inr (by omega), h', by omega, by omega⟩
  · have q1 : ¬ w.heap.size = b := fun e => hFb.2.2.1 e.symm
    have q2 : ¬ w.heap.size = mb := fun e => hFm.2.2.1 e.symm
    have hz8 : w.heap.size < w8.heap.size := Nat.lt_of_lt_of_le hz o8.size
    exact (o9.cell hz8 q2 0).trans ((o8.cell hz q1 0).trans hc)

theorem trim_drop {w w6 w8 w9 w10 : World} {F F' : Nat → Prop} {pb mb n r b l cap cnt : Nat} {u : Value} {f' : Lit → Option Value} {K : ByteArray → List Ch} {left : Lit → Bool} {to : Int} {s : ByteArray} (hP : PastIs w6 F' pb mb f' n (Pl.leftK K left to) to) (hO : Only F w w6) (hF' : ∀ j, F' j → (F j ∨ w.heap.size ≤ j) ∧ j < w6.heap.size ∧ j ≠ w.heap.size ∧ j ≠ r)
    (hc : w6.cell? ⟨w.heap.size, 0, none⟩ = some (.int .i64 to)) (hv : f' (mlit s) = some (.slice (some ⟨b, 0, none⟩) l cap)) (hys : Pl.trimL to (K s) = []) (o8 : Only (fun j => j = b) w6 w8) (o9 : Only (fun j => j = mb) w8 w9)
    (hR10 : MRange w10 Tryz.prog 9 mb r n (lset (lset f' (mlit s) (some u)) (mlit s) none) (fun z => left z && !z.sameKey (mlit s)) cnt) (o10 : Only (fun j => j = mb) w9 w10) : TrimRel w w10 F pb mb n r K (fun z => left z && !z.sameKey (mlit s)) cnt to := by
  have hsv : (f' (slit s)).getD nilS = .slice (some ⟨b, 0, none⟩) l cap := by
    change (f' (mlit s)).getD nilS = _; rw [hv]; rfl
  have hb' : ∀ j : Nat, some j = Value.ownBlock (.slice (some ⟨b, 0, none⟩) l cap) ↔ j = b := fun j => by simp [Value.ownBlock]
  have hz : w.heap.size < w6.heap.size := cell_lt hc
  have hfb := hP.foot s _ b hv rfl
  have hFb := hF' b hfb.1
  have hFm := hF' mb hP.foot1
  obtain ⟨h1, h2⟩ := past_drop (m := n) hP s _ hsv (Nat.le_refl _) (o8.mono fun j hj => .inl ((hb' j).2 hj)) (lset_same _ _ _) (fun t ht => by
    change lset _ (mlit s) none (mlit t) = f' (mlit t)
    rw [lset_other _ _ _ _ (fun e => ht (mlit_inj e)), lset_other _ _ _ _ (fun e => ht (mlit_inj e))]) hR10.lmap (o9.then o10)
  rw [← hys, Pl.leftK_step] at h2
  refine ⟨F', _, h2, hR10, ?_, ?_, ?_⟩
  · exact hO.trans h1 fun j hj => (hF' j hj).1
  · intro j hj
    obtain ⟨q1, q2, q3⟩ := hF' j hj
    have := h1.size
    exact ⟨q1, by omega, q3⟩
  · have q1 : ¬ w.heap.size = b := fun e => hFb.2.2.1 e.symm
    have q2 : ¬ w.heap.size = mb := fun e => hFm.2.2.1 e.symm
    have hz8 : w.heap.size < w8.heap.size := Nat.lt_of_lt_of_le hz o8.size
    exact ((o9.then o10).cell hz8 q2 0).trans ((o8.cell hz q1 0).trans hc)

set_option maxRecDepth 100000 in
set_option maxHeartbeats 4000000 in
theorem trimP_any (S : Nat → Bool) (E : Nat → Addr) (h1 : S 1 = true) {w : World} (hE : Errs S E w) {F : Nat → Prop} {pb n : Nat} {K : ByteArray → List Ch} {fl : Int} (h : PastAt w F pb n K fl) (hn : n ≤ 1000000) (hK : Pl.GoodK K) (to : Int) :
    Calls Tryz.prog 36 #[.pointer (some ⟨pb, 0, none⟩), .int .i64 to] w fun e w' => e = .returned (errOf E (Pl.trimE to)) ∧ PastTurn w F pb n (Pl.trimK K fl to) (Pl.trimF fl to) w' := by
  have HP := hid h
  obtain ⟨⟨mb, f, h⟩, hF⟩ := h
  have g1 : w.cell? ⟨1, 0, none⟩ = some (.iface 288 (.pointer (some (E 1)))) := hE.cell 1 h1
  have b1 : 1 < w.heap.size := cell_lt g1
  have c0 := h.map0
  have c1 := h.flr
  have cf := h.fz
  have hb : pb < w.heap.size := cell_lt c1
  by_cases hto : to < 0 ∨ 4096 < to
  · have e1 : Pl.trimE to = 1 := by unfold Pl.trimE; rw [if_pos hto]
    have e2 : Pl.trimK K fl to = K := by unfold Pl.trimK; rw [e1]; rfl
    have e3 : Pl.trimF fl to = fl := by unfold Pl.trimF; rw [e1]; rfl
    rw [e1, e2, e3]
    clear e1 e2 e3 h hF hE hK
    by_cases h0 : to < 0
    · go_enter Tryz.func36, Tryz.ntmps36
      go_wp2_with fail
      go_ret
      exact ⟨rfl, ((Grew.refl w).alloc _).only _, F, HP.out.grew ((Grew.refl w).alloc _), fun j hj => .inl hj⟩
    · have h4 : 4096 < to := by omega
      go_enter Tryz.func36, Tryz.ntmps36
      go_wp2_with fail
      go_ret
      exact ⟨rfl, ((Grew.refl w).alloc _).only _, F, HP.out.grew ((Grew.refl w).alloc _), fun j hj => .inl hj⟩
  · have e1 : Pl.trimE to = 0 := by unfold Pl.trimE; rw [if_neg hto]
    have t0 : 0 ≤ to := by omega
    have t1 : to ≤ 4096 := by omega
    by_cases hfl : to ≤ fl
    · have e2 : Pl.trimK K fl to = K := by unfold Pl.trimK; rw [if_neg (by omega)]
      have e3 : Pl.trimF fl to = fl := by unfold Pl.trimF; rw [if_neg (by omega)]
      rw [e1, e2, e3]
      clear e1 e2 e3 h hF hE hK hto
      go_enter Tryz.func36, Tryz.ntmps36
      go_wp2_with fail
      go_region
      go_wp2_with fail
      go_ret
      exact ⟨rfl, (((Grew.refl w).alloc _).drew).only _, F, HP.out.grew (((Grew.refl w).alloc _).drew), fun j hj => .inl hj⟩
    · have e2 : Pl.trimK K fl to = fun s => Pl.trimL to (K s) := by unfold Pl.trimK; rw [if_pos (by omega)]
      have e3 : Pl.trimF fl to = to := by unfold Pl.trimF; rw [if_pos (by omega)]
      rw [e1, e2, e3]
      clear e1 e2 e3 hE hto g1 b1
      have HF := hid hF
      have HK := hid hK
      -- the world behind the store of the floor
      obtain ⟨W, hW⟩ : ∃ W, W = ((w.setCell ⟨pb, 1, none⟩ (.int .i64 to)).alloc (.cells #[.int .i64 to] 3)).drew := ⟨_, rfl⟩
      have gW : Grew (w.setCell ⟨pb, 1, none⟩ (.int .i64 to)) W := by rw [hW]; exact ((Grew.refl _).alloc _).drew
      have hPW : PastIs W F pb mb f n K to := (past_floor h to).grew gW
      have hOW : Only F w W := ((Only.setCell w ⟨pb, 1, none⟩ _).mono fun j hj => .inl (by rw [hj]; exact h.foot0)).grewT gW
      have hs0 : (w.setCell ⟨pb, 1, none⟩ (.int .i64 to)).heap.size = w.heap.size := by simp [World.setCell]
      have hcW : W.cell? ⟨w.heap.size, 0, none⟩ = some (.int .i64 to) := by rw [hW]; simp [go_sem]
      have hsW : W.heap.size = w.heap.size + 1 := by rw [hW]; simp [World.setCell]
      have HPW := hid hPW
      have HOW := hid hOW
      have HcW := hid hcW
      have HsW := hid hsW
      have HW := hid hW
      have hlm := hPW.lm
      rw [hW] at hlm
      have HLM := hid hlm
      clear h hF hK hPW hOW hcW hsW hW hlm gW hs0
      go_enter Tryz.func36, Tryz.ntmps36
      go_wp2_with fail
      go_region
      go_wp2_with (at_range; refine wpList_range_M rfl _ rfl str_keyed Tryz.underlying85 rfl HLM.out ?_)
      intro w5 left5 cnt5 hr5 hl5 hg5 hs5
      replace hg5 : Grew W w5 := by rw [HW.out]; exact hg5
      obtain ⟨r, hr⟩ : ∃ r, r = w.heap.size + 1 := ⟨_, rfl⟩
      rw [← hr] at hr5 ⊢
      have hr' : r = w.heap.size + 1 := hr
      have HR5 := hid hr5
      have HP5 : Hid (PastIs w5 F pb mb f n (Pl.leftK K left5 to) to) := by
        have e : Pl.leftK K left5 to = K := by
          funext s
          unfold Pl.leftK
          by_cases hl : left5 (mlit s) = true
          · rw [if_pos hl]
          · rw [if_neg hl]
            have h0 := hl5 (mlit s) (by simpa using hl)
            have hp := HPW.out.pres s
            change (f (mlit s)).isSome = _ at hp
            rw [h0] at hp
            cases hk : K s with
            | nil => rfl
            | cons a l => rw [hk] at hp; simp at hp
        unfold Hid; rw [e]; exact HPW.out.grew hg5
      have HO5 := hid (HOW.out.grewT hg5)
      have HF5 : Hid (∀ j, F j → (F j ∨ w.heap.size ≤ j) ∧ j < w5.heap.size ∧ j ≠ w.heap.size ∧ j ≠ r) := fun j hj => by
        have h1 := HF.out j hj
        have h2 := hg5.size
        have h3 := HsW.out
        exact ⟨.inl hj, by omega, by omega, by omega⟩
      have hc5 : w5.cell? ⟨w.heap.size, 0, none⟩ = some (.int .i64 to) := (hg5.cells.1 _ _ (by rw [HsW.out]; omega)).trans HcW.out
      have HC5 := hid hc5
      have hz5 : w.heap.size + 1 < w5.heap.size := by have := hr5.lt; omega
      have HRr := hid hr'
      clear hr5 hg5 hs5 hl5 hr hr' HLM HW hc5
      go_wp2_with fail
      go_loopw [5] (fun _ wx => ∃ (left : Lit → Bool) (cnt : Nat), Hid (TrimRel w wx F pb mb n r K left cnt to)) (fun _ wx => wx.rangeLeft mb r)
      case atStart => exact ⟨left5, cnt5, F, f, HP5.out, HR5.out, HO5.out, HF5.out, HC5.out⟩
      case round =>
        obtain ⟨left, cnt, HT⟩ := hrel
        obtain ⟨F', f', hPx, hR, hO, hFx, hC⟩ := HT.out
        have HPx := hid hPx
        have HO := hid hO
        have HFx := hid hFx
        have HC := hid hC
        have HMEAS := hid hR.left_eq
        clear HP5 HR5 HO5 HF5 HC5 HPW HOW HcW c0 c1 cf HT hPx hO hFx hC
        go_wp2_with (at_next; refine wpList_next_M rfl _ rfl Tryz.underlying9 str_keyed r left cnt rfl hR ?_ ?_)
        · intro hl0
          have HX : Hid (PastIs wr F' pb mb f' n (fun s => Pl.trimL to (K s)) to) := by
            have e : Pl.leftK K left to = fun s => Pl.trimL to (K s) := by
              funext s; unfold Pl.leftK; rw [if_neg (by rw [hl0]; simp)]
            have := HPx.out
            rw [e] at this
            exact this
          clear hR hl0
          go_wp2_with fail
          go_ret
          exact ⟨rfl, HO.out, F', ⟨⟨mb, f', HX.out⟩, fun j hj => (HFx.out j hj).2.1⟩, fun j hj => (HFx.out j hj).1⟩
        · intro s v w6 cnt6 hss hls hfs hR6 hlt6 ho6 hs6 hen
          have hP6 : PastIs w6 F' pb mb f' n (Pl.leftK K left to) to := HPx.out.kept ho6 fun j hj e => (HFx.out j hj).2.2.2 e
          have hKs : Pl.leftK K left to s = K s := by unfold Pl.leftK; rw [if_pos hls]
          have hrow := hP6.row s
          have hlenK := hP6.len s
          have hpres := hP6.pres s
          have hfs' : f' (slit s) = some v := hfs
          obtain ⟨a, len, cap, hs, hCS⟩ := hP6.slice s
          rw [hKs] at hrow hlenK hpres hCS
          rw [hfs'] at hs hrow hpres
          have hs' : v = .slice a len cap := hs
          subst hs'
          have hne0 : K s ≠ [] := fun e => by rw [e] at hpres; simp at hpres
          rcases hCS with ⟨_, hx⟩ | ⟨b, cap', e, hbb, hCR⟩
          · exact absurd hx hne0
          cases e
          have hrow' : w6.ownsRow 0 104 4 (.slice (some ⟨b, 0, none⟩) (K s).length cap) (K s).length (chFlat (K s)) := hrow
          have hfb := hP6.foot s _ b hfs' rfl
          have hFb := HFx.out b hfb.1
          have hc6 : w6.cell? ⟨w.heap.size, 0, none⟩ = some (.int .i64 to) := (ho6.cell (cell_lt HC.out) (fun (e : w.heap.size = r) => by have := HRr.out; omega) 0).trans HC.out
          have p6 := hP6.map0
          have hz6 : w.heap.size < w6.heap.size := cell_lt hc6
          have hpb6 : pb < w6.heap.size := cell_lt p6
          have hFpb := HFx.out pb hP6.foot0
          have hmbne : mb ≠ r := fun e => (HFx.out mb hP6.foot1).2.2.2 e
          have HP6 := hid hP6
          have HR6 := hid hR6
          have HO6 : Hid (Only F w w6) := HO.out.trans ho6 fun j (hj : j = r) => .inr (by have := HRr.out; omega)
          have HLAST := hid (last_any (some ⟨b, 0, none⟩) (K s).length cap to (K s) (by omega) w6 (.inr ⟨b, cap, rfl, hbb, hCR⟩))
          have HDEL := hid (fun W (hA : W.ownsRow 0 104 4 (.slice (some ⟨b, 0, none⟩) (K s).length cap) (K s).length (chFlat (K s))) (hc : W.cell? ⟨w.heap.size, 0, none⟩ = some (.int .i64 to)) => delF to w.heap.size b cap (K s) W hA (by omega) hc (fun e => hFb.2.2.1 e.symm))
          have HROW := hid hrow'
          have hlenT : (Pl.trimL to (K s)).length ≤ n := Nat.le_trans (Pl.trim_length HK.out to s) hlenK
          have hr6 : r < w6.heap.size := hR6.lt
          replace hs6 : wr.heap.size ≤ w6.heap.size := ho6.size
          have HHK := hid HK.out
          clear hR hR6 hP6 hrow hrow' hpres hs ho6 hCR HPx hfs' hne0
          cases hlast : Pl.last (K s) to with
          | none =>
            rw [hlast] at HLAST
            dsimp only [Option.getD, Option.isSome, Ch.agg, Ch.none] at HLAST
            have HTL : Hid (Pl.trimL to (K s) = Pl.newer to (K s)) := by unfold Hid Pl.trimL Pl.keepL; rw [hlast]; rfl
            clear hlast
            go_wp2_with fail
            refine HLAST.out.mono ?_
            rintro e w7 ⟨rfl, hg7⟩
            have hG7 : Grew w6 (w7.alloc (.cells #[.string ⟨#[]⟩, .string ⟨#[]⟩, .int .i64 0, .bool false] 104)) := hg7.alloc _
            have hz7 : w6.heap.size ≤ w7.heap.size := hg7.size
            have HDX := hid (HDEL.out _ (ownsRow_grew hG7 HROW.out) ((hG7.cells.1 _ _ hz6).trans hc6))
            clear hg7 HLAST HDEL
            go_wp2_with fail
            refine HDX.out.mono ?_
            rintro e w8 ⟨rfl, hrow8, ho8⟩
            have hn7 : ¬ w7.heap.size = b := by omega
            have k3 : w8.cell? ⟨w7.heap.size, 3, none⟩ = some (.bool false) := (ho8.cell (by simp) hn7 3).trans (by simp [go_sem])
            have hz8 : w7.heap.size < w8.heap.size := by have := ho8.size; simp at this; omega
            have HO8 : Hid (Only (fun j => j = b) w6 w8) := (hG7.only _).then ho8
            have HROW8 := hid hrow8
            have HR8 := hid (HR6.out.kept HO8.out (fun e => hfb.2.2 e.symm) (fun e => hFb.2.2.2 e.symm))
            have p8 := (HO8.out.cell hpb6 (fun e => hfb.2.1 e.symm) 0).trans p6
            have hpb8 : pb < w8.heap.size := cell_lt p8
            clear hrow8 ho8 hG7 HDX
            cases hnw : Pl.newer to (K s) with
            | nil =>
              rw [hnw] at HTL HROW8
              dsimp only [List.length_nil] at HROW8 ⊢
              clear hnw
              go_wp2_with (at_mapUpdate; refine wpList_update_M rfl _ _ _ rfl str_keyed Tryz.underlying85 rfl HR8.out (by unfold maxLen; omega) _ _ (mlit s) rfl rfl (keyOf_m hss) (by rw [hfs]; simp) ?_)
              intro w9 hR9 ho9
              have HR9 := hid hR9
              have HO9 := hid ho9
              have p9 := (ho9.cell hpb8 (fun e => HP6.out.ne e) 0).trans p8
              have hpb9 : pb < w9.heap.size := cell_lt p9
              clear hR9 ho9
              go_wp2_with (at_delete; refine wpList_delete_M rfl _ _ rfl str_keyed Tryz.underlying85 rfl HR9.out _ (mlit s) rfl (keyOf_m hss) ?_)
              intro w10 cnt10 hR10 hle10 ho10
              have HREL := hid (trim_drop HP6.out HO6.out (fun j hj => by have h1 := HFx.out j hj; exact ⟨h1.1, Nat.lt_of_lt_of_le h1.2.1 hs6, h1.2.2⟩) hc6 hfs HTL.out HO8.out HO9.out hR10 ho10)
              clear hR10 ho10
              go_wp2_with fail
              go_roundw
              case rel => exact ⟨_, cnt10, HREL⟩
              case measure => rw [TrimRel.left_eq HREL.out, HMEAS.out]; omega
            | cons a0 l0 =>
              rw [hnw] at HTL HROW8
              have HTL2 : Hid (Pl.trimL to (K s) ≠ []) := by unfold Hid; rw [HTL.out]; simp
              have HROW9 : Hid (w8.ownsRow 0 104 4 (.slice (some ⟨b, 0, none⟩) (Pl.trimL to (K s)).length cap) (Pl.trimL to (K s)).length (chFlat (Pl.trimL to (K s)))) := by unfold Hid; rw [HTL.out]; exact HROW8.out
              obtain ⟨m, hm⟩ : ∃ m, m = (a0 :: l0).length := ⟨_, rfl⟩
              have hm2 : m = (Pl.trimL to (K s)).length := by rw [HTL.out]; exact hm
              have hm0 : 0 < m := by rw [hm]; simp
              rw [← hm2] at HROW9
              rw [← hm]
              have HM2 := hid hm2
              have d0 : ((m : Int) == 0) = false := beq_eq_false_iff_ne.2 (by omega)
              have d1 : ¬ (m : Int) = 0 := by omega
              have d2 : ¬ m = 0 := by omega
              clear hnw HTL HROW8 hm hm2
              go_wp2_with (at_mapUpdate; refine wpList_update_M rfl _ _ _ rfl str_keyed Tryz.underlying85 rfl HR8.out (by unfold maxLen; omega) _ _ (mlit s) rfl rfl (keyOf_m hss) (by rw [hfs]; simp) ?_)
              intro w9 hR9 ho9
              have HREL := hid (trim_put HP6.out HO6.out (fun j hj => by have h1 := HFx.out j hj; exact ⟨h1.1, Nat.lt_of_lt_of_le h1.2.1 hs6, h1.2.2⟩) hr6 hc6 hfs HTL2.out hlenT HM2.out HO8.out HROW9.out (.inl rfl) hR9 ho9)
              clear hR9 ho9
              go_wp2_with fail
              go_roundw
              case rel => exact ⟨_, cnt6, HREL⟩
              case measure => rw [TrimRel.left_eq HREL.out, HMEAS.out]; exact hlt6
          | some c =>
            obtain ⟨ck, cv, cn, ct⟩ := c
            cases ct with
            | false =>
              rw [hlast] at HLAST
              dsimp only [Option.getD, Option.isSome, Ch.agg, Ch.none] at HLAST
              have HTL : Hid (Pl.trimL to (K s) = Pl.newer to (K s)) := by unfold Hid Pl.trimL Pl.keepL; rw [hlast]; rfl
              clear hlast
              go_wp2_with fail
              refine HLAST.out.mono ?_
              rintro e w7 ⟨rfl, hg7⟩
              have hG7 : Grew w6 (w7.alloc (.cells #[.string ck, .string cv, .int .i64 cn, .bool false] 104)) := hg7.alloc _
              have hz7 : w6.heap.size ≤ w7.heap.size := hg7.size
              have HDX := hid (HDEL.out _ (ownsRow_grew hG7 HROW.out) ((hG7.cells.1 _ _ hz6).trans hc6))
              clear hg7 HLAST HDEL
              go_wp2_with fail
              refine HDX.out.mono ?_
              rintro e w8 ⟨rfl, hrow8, ho8⟩
              have hn7 : ¬ w7.heap.size = b := by omega
              have k3 : w8.cell? ⟨w7.heap.size, 3, none⟩ = some (.bool false) := (ho8.cell (by simp) hn7 3).trans (by simp [go_sem])
              have hz8 : w7.heap.size < w8.heap.size := by have := ho8.size; simp at this; omega
              have HO8 : Hid (Only (fun j => j = b) w6 w8) := (hG7.only _).then ho8
              have HROW8 := hid hrow8
              have HR8 := hid (HR6.out.kept HO8.out (fun e => hfb.2.2 e.symm) (fun e => hFb.2.2.2 e.symm))
              have p8 := (HO8.out.cell hpb6 (fun e => hfb.2.1 e.symm) 0).trans p6
              have hpb8 : pb < w8.heap.size := cell_lt p8
              clear hrow8 ho8 hG7 HDX
              cases hnw : Pl.newer to (K s) with
              | nil =>
                rw [hnw] at HTL HROW8
                dsimp only [List.length_nil] at HROW8 ⊢
                clear hnw
                go_wp2_with (at_mapUpdate; refine wpList_update_M rfl _ _ _ rfl str_keyed Tryz.underlying85 rfl HR8.out (by unfold maxLen; omega) _ _ (mlit s) rfl rfl (keyOf_m hss) (by rw [hfs]; simp) ?_)
                intro w9 hR9 ho9
                have HR9 := hid hR9
                have HO9 := hid ho9
                have p9 := (ho9.cell hpb8 (fun e => HP6.out.ne e) 0).trans p8
                have hpb9 : pb < w9.heap.size := cell_lt p9
                clear hR9 ho9
                go_wp2_with (at_delete; refine wpList_delete_M rfl _ _ rfl str_keyed Tryz.underlying85 rfl HR9.out _ (mlit s) rfl (keyOf_m hss) ?_)
                intro w10 cnt10 hR10 hle10 ho10
                have HREL := hid (trim_drop HP6.out HO6.out (fun j hj => by have h1 := HFx.out j hj; exact ⟨h1.1, Nat.lt_of_lt_of_le h1.2.1 hs6, h1.2.2⟩) hc6 hfs HTL.out HO8.out HO9.out hR10 ho10)
                clear hR10 ho10
                go_wp2_with fail
                go_roundw
                case rel => exact ⟨_, cnt10, HREL⟩
                case measure => rw [TrimRel.left_eq HREL.out, HMEAS.out]; omega
              | cons a0 l0 =>
                rw [hnw] at HTL HROW8
                have HTL2 : Hid (Pl.trimL to (K s) ≠ []) := by unfold Hid; rw [HTL.out]; simp
                have HROW9 : Hid (w8.ownsRow 0 104 4 (.slice (some ⟨b, 0, none⟩) (Pl.trimL to (K s)).length cap) (Pl.trimL to (K s)).length (chFlat (Pl.trimL to (K s)))) := by unfold Hid; rw [HTL.out]; exact HROW8.out
                obtain ⟨m, hm⟩ : ∃ m, m = (a0 :: l0).length := ⟨_, rfl⟩
                have hm2 : m = (Pl.trimL to (K s)).length := by rw [HTL.out]; exact hm
                have hm0 : 0 < m := by rw [hm]; simp
                rw [← hm2] at HROW9
                rw [← hm]
                have HM2 := hid hm2
                have d0 : ((m : Int) == 0) = false := beq_eq_false_iff_ne.2 (by omega)
                have d1 : ¬ (m : Int) = 0 := by omega
                have d2 : ¬ m = 0 := by omega
                clear hnw HTL HROW8 hm hm2
                go_wp2_with (at_mapUpdate; refine wpList_update_M rfl _ _ _ rfl str_keyed Tryz.underlying85 rfl HR8.out (by unfold maxLen; omega) _ _ (mlit s) rfl rfl (keyOf_m hss) (by rw [hfs]; simp) ?_)
                intro w9 hR9 ho9
                have HREL := hid (trim_put HP6.out HO6.out (fun j hj => by have h1 := HFx.out j hj; exact ⟨h1.1, Nat.lt_of_lt_of_le h1.2.1 hs6, h1.2.2⟩) hr6 hc6 hfs HTL2.out hlenT HM2.out HO8.out HROW9.out (.inl rfl) hR9 ho9)
                clear hR9 ho9
                go_wp2_with fail
                go_roundw
                case rel => exact ⟨_, cnt6, HREL⟩
                case measure => rw [TrimRel.left_eq HREL.out, HMEAS.out]; exact hlt6
            | true =>
              rw [hlast] at HLAST
              dsimp only [Option.getD, Option.isSome, Ch.agg] at HLAST
              have HTL : Hid (Pl.trimL to (K s) = ⟨ck, cv, cn, true⟩ :: Pl.newer to (K s)) := by unfold Hid Pl.trimL Pl.keepL; rw [hlast]; rfl
              clear hlast
              go_wp2_with fail
              refine HLAST.out.mono ?_
              rintro e w7 ⟨rfl, hg7⟩
              have hG7 : Grew w6 (w7.alloc (.cells #[.string ck, .string cv, .int .i64 cn, .bool true] 104)) := hg7.alloc _
              have hz7 : w6.heap.size ≤ w7.heap.size := hg7.size
              have hb7 : b < w7.heap.size := by omega
              have HDX := hid (HDEL.out _ (ownsRow_grew hG7 HROW.out) ((hG7.cells.1 _ _ hz6).trans hc6))
              clear hg7 HLAST HDEL
              go_wp2_with fail
              refine HDX.out.mono ?_
              rintro e w8 ⟨rfl, hrow8, ho8⟩
              have hn7 : ¬ w7.heap.size = b := by omega
              have k0 : w8.cell? ⟨w7.heap.size, 0, none⟩ = some (.string ck) := (ho8.cell (by simp) hn7 0).trans (by simp [go_sem])
              have k1 : w8.cell? ⟨w7.heap.size, 1, none⟩ = some (.string cv) := (ho8.cell (by simp) hn7 1).trans (by simp [go_sem])
              have k2 : w8.cell? ⟨w7.heap.size, 2, none⟩ = some (.int .i64 cn) := (ho8.cell (by simp) hn7 2).trans (by simp [go_sem])
              have k3 : w8.cell? ⟨w7.heap.size, 3, none⟩ = some (.bool true) := (ho8.cell (by simp) hn7 3).trans (by simp [go_sem])
              have hz8 : w7.heap.size < w8.heap.size := by have := ho8.size; simp at this; omega
              have HO8 : Hid (Only (fun j => j = b) w6 w8) := (hG7.only _).then ho8
              have p8 := (HO8.out.cell hpb6 (fun e => hfb.2.1 e.symm) 0).trans p6
              have hpb8 : pb < w8.heap.size := cell_lt p8
              have hb8 : b < w8.heap.size := by omega
              obtain ⟨m, hm⟩ : ∃ m, m = (Pl.newer to (K s)).length := ⟨_, rfl⟩
              have HROW8 := hid hrow8
              have hmn : m ≤ 1000000 := by
                have h1 := hlenT
                rw [HTL.out] at h1
                rw [hm]; simp at h1; omega
              have HINS := hid (fun W (g : Grew w8 W) vb hvb hne => insCh W 0 (some ⟨b, 0, none⟩) (Pl.newer to (K s)).length cap (chFlat (Pl.newer to (K s))) (ownsRow_grew g HROW8.out) (Nat.zero_le _) (chFlat_one' _) 0 (Nat.zero_le _) vb (Ch.vals ⟨ck, cv, cn, true⟩) 1 hvb rfl (by intro u hu; simp [Ch.vals] at hu; rcases hu with rfl | rfl | rfl | rfl <;> rfl) (by rw [← hm]; exact hmn) hne)
              have HM : Hid (m + 1 = (Pl.trimL to (K s)).length) := by unfold Hid; rw [HTL.out, List.length_cons, hm]
              rw [← hm] at HINS ⊢
              have HCF : Hid (chFlat (Pl.trimL to (K s)) = List.take (0 * 4) (chFlat (Pl.newer to (K s))) ++ Ch.vals ⟨ck, cv, cn, true⟩ ++ List.drop (0 * 4) (chFlat (Pl.newer to (K s)))) := by
                unfold Hid; rw [HTL.out]; simp [chFlat]
              have HTL2 : Hid (Pl.trimL to (K s) ≠ []) := by unfold Hid; rw [HTL.out]; simp
              clear hrow8 ho8 hG7 HDX hm HTL HROW8
              go_wp2_with fail
              refine (HINS.out _ ((Grew.refl w8).alloc _) w8.heap.size (heap_alloc_new w8 _) (by simp [Value.ownBlock]; omega)).mono ?_
              rintro e w9 ⟨rr, rfl, hI⟩
              obtain ⟨gg, capg, rfl, hat⟩ := hI.form
              have hrowI := hI.row
              rw [← HCF.out] at hrowI
              have HROWI := hid hrowI
              have HO9 : Hid (Only (fun j => j = b) w6 w9) := HO8.out.then ((((Grew.refl w8).alloc _).only _).then ((Only.of_grownBy hI.grown).mono fun j hj => .inl (by simpa [Value.ownBlock] using hj)))
              have hat' : gg = b ∨ w6.heap.size ≤ gg := by
                rcases hat with e | e
                · left; simpa [Value.ownBlock] using e.symm
                · right; have := HO8.out.size; simp at e; omega
              have HAT := hid hat'
              have HR8 := hid (HR6.out.kept HO9.out (fun e => hfb.2.2 e.symm) (fun e => hFb.2.2.2 e.symm))
              have p9 := (HO9.out.cell hpb6 (fun e => hfb.2.1 e.symm) 0).trans p6
              have hpb9 : pb < w9.heap.size := cell_lt p9
              have d0 : (((m + 1 : Nat) : Int) == 0) = false := beq_eq_false_iff_ne.2 (by omega)
              have d1 : ((m : Int) + 1 == 0) = false := beq_eq_false_iff_ne.2 (by omega)
              have d2 : ¬ (m : Int) + 1 = 0 := by omega
              clear hI hrowI hat hat' HINS HCF k0 k1 k2 k3 p8
              go_wp2_with (at_mapUpdate; refine wpList_update_M rfl _ _ _ rfl str_keyed Tryz.underlying85 rfl HR8.out (by unfold maxLen; omega) _ _ (mlit s) rfl rfl (keyOf_m hss) (by rw [hfs]; simp) ?_)
              intro w10 hR10 ho10
              have HREL := hid (trim_put HP6.out HO6.out (fun j hj => by have h1 := HFx.out j hj; exact ⟨h1.1, Nat.lt_of_lt_of_le h1.2.1 hs6, h1.2.2⟩) hr6 hc6 hfs HTL2.out hlenT HM.out HO9.out HROWI.out HAT.out hR10 ho10)
              clear hR10 ho10
              go_wp2_with fail
              go_roundw
              case rel => exact ⟨_, cnt6, HREL⟩
              case measure => rw [TrimRel.left_eq HREL.out, HMEAS.out]; exact hlt6
end Go.Proofs.YtapchoppcaacdaaGreatDoor
