/- Law19, OpenI: one text. -/
import Derived.Test.YthmjbeieheacmaaGreatDoorFinPlayCursorsQ12
import Derived.Test.YthmjbeieheacmaaGreatDoorFinPlayCursorsQ4
import Derived.ChangeSlices
import Derived.Deep.Slices
import Derived.ChangeSame
import Derived.ProofKit
import Derived.OpenShut
import Derived.SizedLaws
set_option linter.unusedVariables false
set_option linter.unusedSectionVars false
set_option linter.unusedSimpArgs false
namespace Go.Proofs.YthmjbeieheacmaaGreatDoor
open Go.RowKit Go.Maps
attribute [local go_sem] Oper.semAt_some
namespace Pl
theorem range_rises (p : Int → Bool) : ∀ (n k : Nat) (l : Int), l < k → k + n ≤ 13 → risesI l (((List.range' k n).map fun (i : Nat) => (i : Int)).filter p) = true
  | 0, k, l, _, _ => rfl
  | n + 1, k, l, hl, hn => by
    rw [List.range'_succ, List.map_cons, List.filter_cons]
    split
    · simp only [risesI, Bool.and_eq_true, decide_eq_true_eq, streamB]
      exact ⟨⟨hl, by omega, by omega⟩, range_rises p n (k + 1) k (by omega) (by omega)⟩
    · exact range_rises p n (k + 1) l (by omega) (by omega)
def wantI (hs : List Int) (n : Nat) : List Int := ((List.range n).map fun (i : Nat) => (i : Int)).filter fun s => hs.any fun u => u == s
theorem want_eq {cs hs : List Int} (h : risesI (-1) cs = true) (hm : ∀ x, x ∈ cs ↔ x ∈ hs) (hs' : ∀ x ∈ hs, streamB x = true) : cs = wantI hs 13 := by
  refine rises_ext cs _ (-1) h (by unfold wantI; rw [List.range_eq_range']; exact range_rises _ 13 0 (-1) (by omega) (by omega)) fun x => ?_
  unfold wantI
  rw [hm x, List.mem_filter, List.mem_map]
  constructor
  · intro hx
    have := hs' x hx
    simp only [streamB, Bool.and_eq_true, decide_eq_true_eq] at this
    exact ⟨⟨x.toNat, by rw [List.mem_range]; omega, by omega⟩, List.any_eq_true.2 ⟨x, hx, by simp⟩⟩
  · rintro ⟨_, h2⟩
    obtain ⟨u, hu, e⟩ := List.any_eq_true.1 h2
    have : u = x := by simpa using e
    exact this ▸ hu
theorem wantI_succ (hs : List Int) (n : Nat) : wantI hs (n + 1) = wantI hs n ++ (if hs.any (fun u => u == (n : Int)) then [(n : Int)] else []) := by
  unfold wantI
  rw [List.range_succ, List.map_append, List.filter_append]
  congr 1
  simp only [List.map_cons, List.map_nil, List.filter_cons, List.filter_nil]
theorem wantI_len (hs : List Int) (n : Nat) : (wantI hs n).length ≤ n := by
  unfold wantI
  refine Nat.le_trans (List.length_filter_le _ _) ?_
  simp
theorem risesI_stream : ∀ (us : List Int) (l : Int), risesI l us = true → ∀ x ∈ us, streamB x = true
  | s :: r, l, h, x, hx => by
    simp only [risesI, Bool.and_eq_true] at h
    rcases List.mem_cons.1 hx with rfl | hx
    · exact h.1.2
    · exact risesI_stream r s h.2 x hx
end Pl
structure Cur0 (w w1 : World) (at_ : Int) (us : List Int) (co : Option Addr) (k0 : Nat) : Prop where
  bad : Pl.risesI (-1) us = false → co = none ∧ k0 = 4
  out : Pl.risesI (-1) us = true → (at_ < 0 ∨ 4096 < at_) → co = none ∧ k0 = 1
  good : Pl.risesI (-1) us = true → ¬ (at_ < 0 ∨ 4096 < at_) → ∃ cb G, co = some ⟨cb, 0, none⟩ ∧ k0 = 0 ∧ CurAt w1 G cb at_ us ∧ ∀ j, G j → w.heap.size ≤ j
  few : k0 ≤ 19
theorem cur0_of {E : Nat → Addr} {w w1 : World} {at_ : Int} {us : List Int} {e : Ending} (h : CurNewV E w at_ us e w1) : ∃ co k0, e = .returned (.tuple #[.pointer co, errOf E k0]) ∧ Grew w w1 ∧ Cur0 w w1 at_ us co k0 := by
  obtain ⟨hg, h⟩ := h
  rcases h with ⟨h1, rfl⟩ | ⟨h1, h2, rfl⟩ | ⟨h1, h2, h3, cb, G, rfl, h4, h5⟩
  · exact ⟨none, 4, rfl, hg, (fun _ => ⟨rfl, rfl⟩), (fun h => by rw [h1] at h; cases h), (fun h => by rw [h1] at h; cases h), by omega⟩
  · exact ⟨none, 1, rfl, hg, (fun h => by rw [h1] at h; cases h), (fun _ _ => ⟨rfl, rfl⟩), (fun _ h => absurd h2 h), by omega⟩
  · exact ⟨some ⟨cb, 0, none⟩, 0, rfl, hg, (fun h => by rw [h1] at h; cases h), (fun _ h => by omega), (fun _ _ => ⟨cb, G, rfl, rfl, h4, h5⟩), by omega⟩
structure P2 (w : World) (cb : Nat) (at_ : Int) (m : Nat) (v : Value) (hs cs : List Int) (G : Nat → Prop) (wr : World) : Prop where
  grew : Grew w wr
  row : wr.ownsRow w.heap.size 3 1 v hs.length (intFlat hs)
  cur : CurAt wr G cb at_ cs
  new : ∀ j, G j → w.heap.size ≤ j
  apart : ∀ b, v.ownBlock = some b → ¬ G b
  rise : Pl.risesI (-1) cs = true
  mem : ∀ x, x ∈ cs ↔ x ∈ hs
  str : ∀ x ∈ hs, Pl.streamB x = true
  lh : hs.length ≤ m
  lc : cs.length ≤ m
theorem P2.more {w wr x : World} {cb : Nat} {at_ : Int} {m n : Nat} {v : Value} {hs cs : List Int} {G : Nat → Prop} (h : P2 w cb at_ m v hs cs G wr) (g : Grew wr x) (hn : m ≤ n) : P2 w cb at_ n v hs cs G x :=
  ⟨h.grew.trans g, ownsRow_grew g h.row, h.cur.grew g, h.new, h.apart, h.rise, h.mem, h.str, Nat.le_trans h.lh hn, Nat.le_trans h.lc hn⟩
theorem CurAt.lt {w : World} {G : Nat → Prop} {cb : Nat} {at_ : Int} {us : List Int} (h : CurAt w G cb at_ us) : ∀ j, G j → j < w.heap.size := by obtain ⟨v, h⟩ := h; exact h.lt
theorem CurAt.kept {w w' : World} {G S : Nat → Prop} {cb : Nat} {at_ : Int} {us : List Int} (h : CurAt w G cb at_ us) (g : Only S w w') (hS : ∀ j, G j → ¬ S j) : CurAt w' G cb at_ us := by obtain ⟨v, h⟩ := h; exact ⟨v, h.kept g hS⟩
structure P3 (w : World) (cb : Nat) (at_ : Int) (m : Nat) (v u : Value) (hs cs : List Int) (G : Nat → Prop) (k : Nat) (wx : World) : Prop where
  p : P2 w cb at_ m v hs cs G wx
  ex : ∃ B, w.heap.size ≤ B ∧ B ≤ wx.heap.size ∧ wx.ownsRow B 3 1 u (Pl.wantI hs k).length (intFlat (Pl.wantI hs k)) ∧ (∀ j, G j → j < B) ∧ ∀ b, v.ownBlock = some b → b < B
theorem P2.next {w wr w2 w3 : World} {cb : Nat} {at_ : Int} {m : Nat} {v v' : Value} {hs cs : List Int} {G G' : Nat → Prop} {s : Int} (h : P2 w cb at_ m v hs cs G wr) (hs1 : Pl.streamB s = true) (o : Only G wr w2) (hC : CurAt w2 G' cb at_ (Pl.addI cs s)) (hG : ∀ j, G' j → G j ∨ wr.heap.size ≤ j) (x : World) (gx : Grew w2 x)
    (hr : w3.ownsRow w.heap.size 3 1 v' (hs.length + 1) (intFlat (hs ++ [s]))) (hg : x.grownBy w3 v.ownBlock) (ho : ∀ g, v'.ownBlock = some g → v.ownBlock = some g ∨ g = x.heap.size) : P2 w cb at_ (m + 1) v' (hs ++ [s]) (Pl.addI cs s) G' w3 := by
  have hown := fun b hb => h.row.lt b hb
  have hG1 : ∀ j, G' j → w.heap.size ≤ j := fun j hj => by
    rcases hG j hj with q | q
    · exact h.new j q
    · exact Nat.le_trans h.grew.size q
  have hap : ∀ b, v.ownBlock = some b → ¬ G' b := fun b hb q => by
    rcases hG b q with q | q
    · exact h.apart b hb q
    · have := (hown b hb).2; omega
  have hO : Only (fun j => some j = v.ownBlock) x w3 := Only.of_grownBy hg
  refine ⟨?_, by rw [show (hs ++ [s]).length = hs.length + 1 by simp]; exact hr, (hC.grew gx).kept hO (fun j hj e => hap j e.symm hj), hG1, fun b hb => ?_, Pl.addI_rises h.rise hs1, fun y => ?_, fun y hy => ?_, by simp; exact h.lh, Nat.le_trans (Pl.addI_len cs s) (by have := h.lc; omega)⟩
  · refine (((h.grew.only fun j => G j ∨ some j = v.ownBlock).then (o.mono fun j q => .inl (.inl q))).then ((gx.only _).then (hO.mono fun j q => .inl (.inr q)))).grew fun j hj => ?_
    rcases hj with q | q
    · exact h.new j q
    · exact (hown j q.symm).1
  · rcases ho b hb with q | q
    · exact hap b q
    · intro q2; have := hC.lt b q2; have := gx.size; omega
  · rw [Pl.addI_mem, h.mem y, List.mem_append, List.mem_singleton]
  · rcases List.mem_append.1 hy with q | q
    · exact h.str y q
    · rw [List.mem_singleton.1 q]; exact hs1
theorem P3.form {w wx : World} {cb : Nat} {at_ : Int} {m k : Nat} {v u : Value} {hs cs : List Int} {G : Nat → Prop} (h : P3 w cb at_ m v u hs cs G k wx) : ∃ wa wc, u = .slice wa (Pl.wantI hs k).length wc := by
  obtain ⟨B, _, _, q2, _⟩ := h.ex
  obtain ⟨wa, wc, e, _, _⟩ := intsAt_row q2
  exact ⟨wa, wc, e⟩
theorem P3.next {w wr x w8 : World} {cb : Nat} {at_ : Int} {m k B : Nat} {v v' : Value} {wa : Option Addr} {wc : Nat} {hs cs : List Int} {G : Nat → Prop} (h : P3 w cb at_ m v (.slice wa (Pl.wantI hs k).length wc) hs cs G k wr) (he : Pl.wantI hs (k + 1) = Pl.wantI hs k ++ [(k : Int)]) (hB : B ≤ wr.heap.size) (q1 : w.heap.size ≤ B)
    (q2 : wr.ownsRow B 3 1 (.slice wa (Pl.wantI hs k).length wc) (Pl.wantI hs k).length (intFlat (Pl.wantI hs k))) (q3 : ∀ j, G j → j < B) (q4 : ∀ b, v.ownBlock = some b → b < B) (gx : Grew wr x) (hr : w8.ownsRow B 3 1 v' ((Pl.wantI hs k).length + 1) (intFlat (Pl.wantI hs k ++ [(k : Int)]))) (hg : x.grownBy w8 (Value.ownBlock (.slice wa (Pl.wantI hs k).length wc)))
    (ho : ∀ g, v'.ownBlock = some g → Value.ownBlock (.slice wa (Pl.wantI hs k).length wc) = some g ∨ g = x.heap.size) : P3 w cb at_ m v v' hs cs G (k + 1) w8 := by
  have hO : Only (fun j => some j = Value.ownBlock (.slice wa (Pl.wantI hs k).length wc)) x w8 := Only.of_grownBy hg
  have hown := fun b hb => q2.lt b hb
  have hp := h.p.more gx (Nat.le_refl _)
  have hall : Grew w w8 := ((hp.grew.only _).then hO).grew (fun j hj => Nat.le_trans q1 (hown j hj.symm).1)
  refine ⟨⟨hall, ownsRow_kept hp.row hO (fun b hb e => ?_), hp.cur.kept hO (fun j hj e => ?_), hp.new, hp.apart, hp.rise, hp.mem, hp.str, hp.lh, hp.lc⟩, B, q1, Nat.le_trans hB (Nat.le_trans gx.size hO.size), ?_, q3, q4⟩
  · have h1 := (hown b e.symm).1
    have h2 := q4 b hb
    omega
  · have h1 := (hown j e.symm).1
    have h2 := q3 j hj
    omega
  · rw [he, show (Pl.wantI hs k ++ [(k : Int)]).length = (Pl.wantI hs k).length + 1 by simp]; exact hr
set_option maxRecDepth 100000 in
set_option maxHeartbeats 8000000 in
theorem playCursors_walk (E : Nat → Addr) (a1 : Option Addr) (c1 : Nat) (us : List Int) (at_ : Int) (a2 : Option Addr) (c2 : Nat) (ms : List Int) (w : World) (hE : Errs allS E w) (h1 : IntsAt w a1 us) (f1 : SlForm a1 c1) (h2 : IntsAt w a2 ms) (f2 : SlForm a2 c2) :
    Calls Tryz.prog 3 #[.slice a1 us.length c1, .int .i64 at_, .slice a2 ms.length c2] w fun e w' => e = .returned (.bool true) ∧ Grew w w' := by
  have HE := hid hE
  have H1 := hid h1
  have H2 := hid h2
  have F1 := hid f1
  have HAL := hid (alive19 E w hE)
  clear hE h1 h2 f1
  go_enter Tryz.func3, Tryz.ntmps3
  go_wp2_with fail
  refine HAL.out.mono ?_
  rintro r w0 ⟨rfl, hg0⟩
  have HG0 := hid hg0
  clear hg0 HAL
  by_cases hn : (20 : Int) < (us.length : Int)
  · go_wp2_with fail
    go_ret
    exact ⟨rfl, HG0.out⟩
  by_cases hn2 : (20 : Int) < (ms.length : Int)
  · go_wp2_with fail
    go_ret
    exact ⟨rfl, HG0.out⟩
  go_wp2_with fail
  refine (curNew_any E (HE.out.grew HG0.out) a1 c1 us at_ (H1.out.grew HG0.out) F1.out (by omega)).mono ?_
  intro r w1 hV
  obtain ⟨co, k0, rfl, hg1, hC0⟩ := cur0_of hV
  have HC0 := hid hC0
  have HG1 := hid (HG0.out.trans hg1)
  clear hV hg1 hC0
  have HNUM := hid (fun W (g : Grew w W) => num_all E k0 HC0.out.few W (HE.out.grew g))
  obtain ⟨ev, hev⟩ : ∃ ev, ev = errOf E k0 := ⟨_, rfl⟩
  rw [← hev] at HNUM ⊢
  have HEV := hid hev
  clear hev
  go_wp2_with fail
  go_loopw [9, 10, 35] (fun _ _ i wr => ∃ (k : Nat) (last : Int), i = .int .i64 k ∧ k ≤ us.length ∧ Hid (Pl.risesI (-1) us = Pl.risesI last (us.drop k)) ∧ Hid (k = 0 ∧ last = -1 ∨ 0 < k ∧ us[k - 1]?.getD 0 = last) ∧ Hid (Grew w1 wr)) (fun _ _ i _ => us.length - (intOf i).toNat)
  case atStart => exact ⟨0, -1, rfl, Nat.zero_le _, rfl, .inl ⟨rfl, rfl⟩, Grew.refl w1⟩
  case round =>
    obtain ⟨k, last, rfl, hk, HR, HL, HG⟩ := hrel
    by_cases hlt : k < us.length
    · rcases H1.out with h0 | ⟨b, off, rfl, hb, hRw⟩
      · rw [h0] at hlt; simp at hlt
      have gww : Grew w wr := HG1.out.trans HG.out
      have q0 := (gww.cells.1 b (off + k) hb).trans (hRw k hlt)
      have hd : us.drop k = us[k] :: us.drop (k + 1) := List.drop_eq_getElem_cons hlt
      have hat : us[k]?.getD 0 = us[k] := by rw [List.getElem?_eq_getElem hlt]; rfl
      rw [hat] at q0
      rw [hd] at HR
      have HU := hid hat.symm
      have hpre : ∀ m, k = m + 1 → wr.cell? ⟨b, off + m, none⟩ = some (.int .i64 last) := fun m e => by
        have h3 := (gww.cells.1 b (off + m) hb).trans (hRw m (by omega))
        rcases HL.out with ⟨h, _⟩ | ⟨_, h⟩
        · omega
        · rw [← h, show k - 1 = m by omega]; exact h3
      clear hRw hd hat gww
      generalize us[k] = u at *
      by_cases hu0 : u < 0
      · have HB : Hid (Pl.risesI (-1) us = false) := by
          unfold Hid; rw [HR.out]; simp only [Pl.risesI, Pl.streamB]; rw [decide_eq_false (p := 0 ≤ u) (by omega)]; simp
        obtain ⟨rfl, rfl⟩ := HC0.out.bad HB.out
        go_wp2_with fail
        refine (HNUM.out _ (HG1.out.trans HG.out)).mono ?_
        rintro r w2 ⟨rfl, hg2⟩
        have HG2 := hid ((HG1.out.trans HG.out).trans hg2)
        clear hg2
        go_wp2_with fail
        go_ret
        exact ⟨rfl, HG2.out⟩
      by_cases hu1 : 12 < u
      · have HB : Hid (Pl.risesI (-1) us = false) := by
          unfold Hid; rw [HR.out]; simp only [Pl.risesI, Pl.streamB]; rw [decide_eq_false (p := u ≤ 12) (by omega)]; simp
        obtain ⟨rfl, rfl⟩ := HC0.out.bad HB.out
        go_wp2_with fail
        refine (HNUM.out _ (HG1.out.trans HG.out)).mono ?_
        rintro r w2 ⟨rfl, hg2⟩
        have HG2 := hid ((HG1.out.trans HG.out).trans hg2)
        clear hg2
        go_wp2_with fail
        go_ret
        exact ⟨rfl, HG2.out⟩
      rcases Nat.eq_zero_or_pos k with hk0 | hk0
      · have hlu : last < u := by
          rcases HL.out with ⟨_, h⟩ | ⟨h, _⟩
          · omega
          · omega
        clear hpre
        have hkk : ¬ (0 : Int) < (k : Int) := by omega
        have HK0 := hid hk0
        clear hk0
        have HN : Hid (Pl.risesI (-1) us = Pl.risesI u (us.drop (k + 1))) := by
          unfold Hid; rw [HR.out]; simp only [Pl.risesI, Pl.streamB]; rw [decide_eq_true hlu, decide_eq_true (by omega), decide_eq_true (by omega)]; rfl
        go_wp2_with fail
        go_roundw
        case rel => exact ⟨k + 1, u, by go_num, by omega, HN, .inr ⟨by omega, by rw [Nat.add_sub_cancel]; exact HU.out.symm⟩, HG⟩
        case measure => simp [intOf]; omega
      · obtain ⟨m, rfl⟩ : ∃ m, k = m + 1 := ⟨k - 1, by omega⟩
        have q1 := hpre m rfl
        have hm1 : (m : Int) < (us.length : Int) := by omega
        have hm2 : m < us.length := by omega
        have hm3 : m < 1000000 := by omega
        have hkk : (0 : Int) < ((m + 1 : Nat) : Int) := by omega
        have hkm : ((m + 1 : Nat) : Int) - 1 = (m : Int) := by omega
        clear hpre
        by_cases hlu : last < u
        · have hle : ¬ u ≤ last := by omega
          have HN : Hid (Pl.risesI (-1) us = Pl.risesI u (us.drop (m + 1 + 1))) := by
            unfold Hid; rw [HR.out]; simp only [Pl.risesI, Pl.streamB]; rw [decide_eq_true hlu, decide_eq_true (by omega), decide_eq_true (by omega)]; rfl
          go_wp2_with fail
          go_roundw
          case rel => exact ⟨m + 1 + 1, u, by go_num, by omega, HN, .inr ⟨by omega, HU.out.symm ▸ rfl⟩, HG⟩
          case measure => simp [intOf]; omega
        · have hle : u ≤ last := by omega
          have HB : Hid (Pl.risesI (-1) us = false) := by
            unfold Hid; rw [HR.out]; simp only [Pl.risesI]; rw [decide_eq_false hlu]; rfl
          obtain ⟨rfl, rfl⟩ := HC0.out.bad HB.out
          go_wp2_with fail
          refine (HNUM.out _ (HG1.out.trans HG.out)).mono ?_
          rintro r w2 ⟨rfl, hg2⟩
          have HG2 := hid ((HG1.out.trans HG.out).trans hg2)
          clear hg2
          go_wp2_with fail
          go_ret
          exact ⟨rfl, HG2.out⟩
    · obtain rfl : k = us.length := by omega
      have HT : Hid (Pl.risesI (-1) us = true) := by unfold Hid; rw [HR.out, List.drop_length]; rfl
      by_cases hr0 : at_ < 0 ∨ 4096 < at_
      · obtain ⟨rfl, rfl⟩ := HC0.out.out HT.out hr0
        have hr1 : at_ < 0 ∨ (¬ at_ < 0 ∧ 4096 < at_) := by omega
        rcases hr1 with hr1 | ⟨hr1, hr2⟩
        · go_wp2_with fail
          refine (HNUM.out _ (HG1.out.trans HG.out)).mono ?_
          rintro r w2 ⟨rfl, hg2⟩
          have HG2 := hid ((HG1.out.trans HG.out).trans hg2)
          clear hg2
          go_wp2_with fail
          go_ret
          exact ⟨rfl, HG2.out⟩
        · go_wp2_with fail
          refine (HNUM.out _ (HG1.out.trans HG.out)).mono ?_
          rintro r w2 ⟨rfl, hg2⟩
          have HG2 := hid ((HG1.out.trans HG.out).trans hg2)
          clear hg2
          go_wp2_with fail
          go_ret
          exact ⟨rfl, HG2.out⟩
      · obtain ⟨cb, G, rfl, rfl, hC, hGn⟩ := HC0.out.good HT.out hr0
        have e0 := HEV.out
        rw [errOf_zero] at e0
        subst e0
        have hr1 : ¬ at_ < 0 := by omega
        have hr2 : ¬ 4096 < at_ := by omega
        have HC1 := hid (hC.grew HG.out)
        have HGN := hid hGn
        have HGw := hid (HG1.out.trans HG.out)
        clear hr0 hC hGn HNUM HC0
        go_wp2_with fail
        refine (curAt_any HC1.out).mono ?_
        rintro r w2 ⟨rfl, rfl⟩
        go_wp2_with fail
        refine (curStreams_any HC1.out (by omega)).mono ?_
        rintro r w3 ⟨a3, c3, rfl, hA3, hg3⟩
        have HA3 := hid hA3
        have HG3 := hid (HGw.out.trans hg3)
        have HC3 := hid (HC1.out.grew hg3)
        clear hA3 hg3 HC1
        go_wp2_with fail
        refine (sameInts_any a3 a1 c3 c1 us us w3 HA3.out (H1.out.grew HG3.out) (by omega) (by omega)).mono ?_
        rintro r w4 ⟨rfl, hg4⟩
        rw [decide_eq_true rfl]
        have HG4 := hid (HG3.out.trans hg4)
        have HC4 := hid (HC3.out.grew hg4)
        clear hg4 HC3 HA3
        have gA : Grew w4 (w4.alloc (.cells #[] 3)) := (Grew.refl w4).alloc _
        have hb4 := heap_alloc_new w4 (.cells #[] 3)
        have hrow0 : (w4.alloc (.cells #[] 3)).ownsRow w4.heap.size 3 1 (.slice (some ⟨w4.heap.size, 0, none⟩) 0 0) 0 (intFlat []) := ownsRow_of_block (cur := []) (Nat.le_refl _) hb4 (Nat.le_refl _) (by omega) rfl rfl
        obtain ⟨a5, c5, w5, hrun, hrow5, hgr5, hown5⟩ := run_append_ints (xs := us) hrow0 rfl (H1.out.grew (HG4.out.trans gA)) F1.out (by omega) gA.size 22
        have hO5 : Grew w4 w5 := ((gA.only (fun j => some j = Value.ownBlock (.slice (some ⟨w4.heap.size, 0, none⟩) 0 0))).then (Only.of_grownBy hgr5)).grew (fun j hj => by have : j = w4.heap.size := Option.some.inj hj; omega)
        rw [List.nil_append] at hrow5
        rw [Nat.zero_add] at hrow5 hrun
        have HR5 := hid hrow5
        have HG5 := hid (HG4.out.trans hO5)
        have HC5 := hid (HC4.out.grew hO5)
        have hsz45 := HG4.out.size
        have HP0 : Hid (P2 w cb at_ us.length (.slice a5 us.length c5) us us G w5) := ⟨HG5.out, ownsRow_base hsz45 hrow5, HC5.out, (fun j hj => Nat.le_trans HG0.out.size (HGN.out j hj)), fun b hb q => (by have := HC4.out.lt b q; have := (hrow5.lt b hb).1; omega), HT.out, fun x => Iff.rfl, fun x hx => Pl.risesI_stream us (-1) HT.out x hx, Nat.le_refl _, Nat.le_refl _⟩
        clear hrow0 hb4 hrow5 hgr5 hown5 hO5 gA HC4
        go_wp2_with (at_builtin; refine Lib.wpList_append_run _ rfl _ _ _ _ rfl _ _ rfl rfl _ _ hrun ?_)
        clear hrun
        go_wp2_with fail
        go_loopw [11, 13, 14, 104] (fun hv _ _ i wr => ∃ (k : Nat) (hs cs : List Int) (G : Nat → Prop), i = .int .i64 k ∧ k ≤ ms.length ∧ Hid (P2 w cb at_ (us.length + k) hv hs cs G wr)) (fun _ _ _ i _ => ms.length - (intOf i).toNat)
        case atStart => exact ⟨0, us, us, G, rfl, Nat.zero_le _, HP0⟩
        case round =>
          obtain ⟨k, hs, cs, G1, rfl, hk, HP⟩ := hrel
          obtain ⟨va, vc, rfl, _, _⟩ := intsAt_row HP.out.row
          by_cases hlt : k < ms.length
          · rcases H2.out with h0 | ⟨b, off, rfl, hb, hRw⟩
            · rw [h0] at hlt; simp at hlt
            have q0 := (HP.out.grew.cells.1 b (off + k) hb).trans (hRw k hlt)
            generalize ms[k]?.getD 0 = s at *
            have hl1 := HP.out.lc
            have hl2 := HP.out.lh
            have HADD := hid (curAdd_any E (HE.out.grew HP.out.grew) HP.out.cur HP.out.rise (by omega) s)
            clear hRw
            go_wp2_with fail
            refine HADD.out.mono ?_
            rintro r w6 (⟨hs1, rfl, rfl⟩ | ⟨hs1, rfl, ho6, G6, hC6, hG6⟩)
            · have hbad : s < 0 ∨ (¬ s < 0 ∧ 12 < s) := by
                simp only [Pl.streamB, Bool.and_eq_false_iff, decide_eq_false_iff_not] at hs1; omega
              have HN1 := hid (num_all E 1 (by omega) w6 (HE.out.grew HP.out.grew))
              obtain ⟨ev, hev⟩ : ∃ ev, ev = errOf E 1 := ⟨_, rfl⟩
              rw [← hev] at HN1 ⊢
              clear hev HADD hs1
              rcases hbad with hb1 | ⟨hb1, hb2⟩
              · go_wp2_with fail
                refine HN1.out.mono ?_
                rintro r w7 ⟨rfl, hg7⟩
                have HP7 := hid (HP.out.more hg7 (show us.length + k ≤ us.length + (k + 1) by omega))
                clear hg7
                go_wp2_with fail
                go_roundw
                case rel => exact ⟨k + 1, hs, cs, G1, by go_num, by omega, HP7⟩
                case measure => simp [intOf]; omega
              · go_wp2_with fail
                refine HN1.out.mono ?_
                rintro r w7 ⟨rfl, hg7⟩
                have HP7 := hid (HP.out.more hg7 (show us.length + k ≤ us.length + (k + 1) by omega))
                clear hg7
                go_wp2_with fail
                go_roundw
                case rel => exact ⟨k + 1, hs, cs, G1, by go_num, by omega, HP7⟩
                case measure => simp [intOf]; omega
            · have hb1 : ¬ s < 0 := by simp only [Pl.streamB, Bool.and_eq_true, decide_eq_true_eq] at hs1; omega
              have hb2 : ¬ 12 < s := by simp only [Pl.streamB, Bool.and_eq_true, decide_eq_true_eq] at hs1; omega
              have gA : Grew w6 (w6.alloc (.cells #[.int .i64 s] 3)) := (Grew.refl w6).alloc _
              have hrow6 := ownsRow_grew gA (ownsRow_kept HP.out.row ho6 HP.out.apart)
              have HR6 := hid hrow6
              clear hrow6
              have hs6 := ho6.size
              have hw6 := HP.out.grew.size
              obtain ⟨a7, c7, w7, hrun, hrow7, hgr7, hown7⟩ := run_append_ints (xs := [s]) (cap := 1) HR6.out rfl (ints_one w6 s) (.inr ⟨_, _, rfl⟩) (by simp only [List.length_cons, List.length_nil]; omega) (by have := gA.size; omega) 22
              have HP7 := hid (HP.out.next hs1 ho6 hC6 hG6 _ gA hrow7 hgr7 hown7)
              have hl7 : hs.length + [s].length = hs.length + 1 := rfl
              rw [hl7] at hrun
              clear hrow7 hgr7 hown7 ho6 hC6 hG6 HADD hl7
              go_wp2_with (at_builtin; refine Lib.wpList_append_run _ rfl _ _ _ _ rfl _ _ rfl rfl _ _ hrun ?_)
              clear hrun
              go_wp2_with fail
              go_roundw
              case rel => exact ⟨k + 1, hs ++ [s], Pl.addI cs s, G6, by go_num, by omega, HP7⟩
              case measure => simp [intOf]; omega
          · obtain rfl : k = ms.length := by omega
            obtain ⟨wo, rfl⟩ : ∃ wo : World, wo = wr := ⟨_, rfl⟩
            go_wp2_with fail
            have gB : Grew wo (wo.alloc (.cells #[] 3)) := (Grew.refl wo).alloc _
            have hb8 := heap_alloc_new wo (.cells #[] 3)
            have hrow8 : (wo.alloc (.cells #[] 3)).ownsRow wo.heap.size 3 1 (.slice (some ⟨wo.heap.size, 0, none⟩) 0 0) 0 (intFlat []) := ownsRow_of_block (cur := []) (Nat.le_refl _) hb8 (Nat.le_refl _) (by omega) rfl rfl
            have HP3 : Hid (P3 w cb at_ (us.length + ms.length) (.slice va hs.length vc) (.slice (some ⟨wo.heap.size, 0, none⟩) 0 0) hs cs G1 0 (wo.alloc (.cells #[] 3))) := ⟨HP.out.more gB (Nat.le_refl _), ⟨wo.heap.size, HP.out.grew.size, gB.size, hrow8, fun j hj => HP.out.cur.lt j hj, fun b hb => (HP.out.row.lt b hb).2⟩⟩
            clear gB hb8 hrow8
            go_loopw [15, 16, 128] (fun wv _ i wx => ∃ k : Nat, i = .int .i64 k ∧ k ≤ 13 ∧ Hid (P3 w cb at_ (us.length + ms.length) (.slice va hs.length vc) wv hs cs G1 k wx)) (fun _ _ i _ => 13 - (intOf i).toNat)
            case atStart => exact ⟨0, rfl, by omega, HP3⟩
            case round =>
              obtain ⟨k, rfl, hk, HQ3⟩ := hrel
              have hwl := Pl.wantI_len hs k
              have hl2 := HQ3.out.p.lh
              obtain ⟨va2, vc2, eva, hA7, hF7⟩ := intsAt_row HQ3.out.p.row
              injection eva with eva _ evc
              subst eva evc
              obtain ⟨wa, wc, hwv⟩ := HQ3.out.form
              subst hwv
              by_cases hlt : k < 13
              · have HIN := hid (in_any wr va vc hs hA7 (by omega) (k : Int))
                have HSUC := hid (Pl.wantI_succ hs k)
                clear hA7 hF7
                cases hin : hs.any (fun u => u == (k : Int)) with
                | false =>
                  rw [hin] at HIN HSUC
                  have HE2 : Hid (Pl.wantI hs (k + 1) = Pl.wantI hs k) := by unfold Hid; rw [HSUC.out]; simp
                  go_wp2_with fail
                  refine HIN.out.mono ?_
                  rintro r w9 ⟨rfl, hg9⟩
                  have HQ9 : Hid (P3 w cb at_ (us.length + ms.length) (.slice va hs.length vc) (.slice wa (Pl.wantI hs k).length wc) hs cs G1 (k + 1) w9) := ⟨HQ3.out.p.more hg9 (Nat.le_refl _), by obtain ⟨B, q1, q0, q2, q3⟩ := HQ3.out.ex; rw [HE2.out]; exact ⟨B, q1, Nat.le_trans q0 hg9.size, ownsRow_grew hg9 q2, q3⟩⟩
                  clear hg9 HIN
                  go_wp2_with fail
                  go_roundw
                  case rel => exact ⟨k + 1, by go_num, by omega, HQ9⟩
                  case measure => simp [intOf]; omega
                | true =>
                  rw [hin] at HIN HSUC
                  have HE2 : Hid (Pl.wantI hs (k + 1) = Pl.wantI hs k ++ [(k : Int)]) := by unfold Hid; rw [HSUC.out]; rfl
                  go_wp2_with fail
                  refine HIN.out.mono ?_
                  rintro r w9 ⟨rfl, hg9⟩
                  obtain ⟨B, q1, hBx, q2, q3, q4⟩ := HQ3.out.ex
                  have gC : Grew w9 (w9.alloc (.cells #[.int .i64 (k : Int)] 3)) := (Grew.refl w9).alloc _
                  have HR9 := hid (ownsRow_grew (hg9.trans gC) q2)
                  have HGC := hid (hg9.trans gC)
                  obtain ⟨a8, c8, w8, hrun, hrow8, hgr8, hown8⟩ := run_append_ints (xs := [(k : Int)]) (cap := 1) HR9.out rfl (ints_one w9 (k : Int)) (.inr ⟨_, _, rfl⟩) (by simp only [List.length_cons, List.length_nil]; omega) (by have := HGC.out.size; omega) 22
                  have HQ9 : Hid (P3 w cb at_ (us.length + ms.length) (.slice va hs.length vc) (.slice a8 ((Pl.wantI hs k).length + 1) c8) hs cs G1 (k + 1) w8) := by
                    exact HQ3.out.next HE2.out hBx q1 q2 q3 q4 HGC.out hrow8 hgr8 hown8
                  have hl7 : (Pl.wantI hs k).length + [(k : Int)].length = (Pl.wantI hs k).length + 1 := rfl
                  rw [hl7] at hrun
                  clear hg9 HIN q2 q3 q4 hrow8 hgr8 hown8 hl7
                  go_wp2_with (at_builtin; refine Lib.wpList_append_run _ rfl _ _ _ _ rfl _ _ rfl rfl _ _ hrun ?_)
                  clear hrun
                  go_wp2_with fail
                  go_roundw
                  case rel => exact ⟨k + 1, by go_num, by omega, HQ9⟩
                  case measure => simp [intOf]; omega
              · obtain rfl : k = 13 := by omega
                have hl3 := HQ3.out.p.lc
                have HEQ := hid (Pl.want_eq HQ3.out.p.rise HQ3.out.p.mem HQ3.out.p.str)
                clear hA7 hF7
                go_wp2_with fail
                refine (curStreams_any HQ3.out.p.cur (by omega)).mono ?_
                rintro r w9 ⟨a9, c9, rfl, hA9, hg9⟩
                have HA9 := hid hA9
                have HG9 := hid (HQ3.out.p.grew.trans hg9)
                have HW9 : Hid (IntsAt w9 wa (Pl.wantI hs 13)) := by
                  obtain ⟨B, _, _, q2, _⟩ := HQ3.out.ex
                  obtain ⟨wa', wc', e, h, _⟩ := intsAt_row q2
                  injection e with e
                  subst e
                  exact h.grew hg9
                clear hA9 hg9
                go_wp2_with fail
                refine (sameInts_any a9 wa c9 wc cs (Pl.wantI hs 13) w9 HA9.out HW9.out (by omega) (by omega)).mono ?_
                rintro r w10 ⟨rfl, hg10⟩
                rw [decide_eq_true HEQ.out]
                have HG10 := hid (HG9.out.trans hg10)
                clear hg10
                go_wp2_with fail
                go_ret
                exact ⟨rfl, HG10.out⟩
end Go.Proofs.YthmjbeieheacmaaGreatDoor
namespace Go.Proofs.YthmjbeieheacmaaGreatDoor
open Go.RowKit Go.ChangeShapes Go.WideShapes Go.Deep
set_option maxRecDepth 100000 in
theorem slForm_arg {W : World} {base0 : Nat} {a : Option Addr} {n cap : Nat} (hv : Value.okWide Tryz.prog W .any base0 22 (.slice a n cap)) : SlForm a cap := by
  unfold Value.okWide Cell.okWide Cell.ok at hv
  simp only [Tryz.underlying22] at hv
  cases a with
  | none =>
    left
    cases n with
    | zero =>
      cases cap with
      | zero => exact ⟨rfl, rfl⟩
      | succ c => simp at hv
    | succ c => simp at hv
  | some a =>
    right
    obtain ⟨b, off, spot⟩ := a
    obtain ⟨_, _, h⟩ := hv
    have : spot = none := h.2.1
    subst this
    exact ⟨b, off, rfl⟩
set_option maxRecDepth 100000 in
theorem open_numsA {H : Type} {enc : TypeId × Value → H} {W : World} {held : Bool} {base0 : Nat} {v : Value} {d : DataW H} {p : List MemPlace} (hv : Value.okWide Tryz.prog W .any base0 22 v)
    (h : DataW.Trod enc Tryz.prog W 0 (fun _ => true) held 22 v d p) : ∃ a cap us, v = .slice a us.length cap ∧ IntsAt W a us ∧ SlForm a cap := by
  obtain ⟨a0, l0, c0, rfl⟩ := okWide_slice Tryz.underlying22 hv
  have hF := slForm_arg hv
  obtain ⟨fuel, hf⟩ := h
  rcases open_ints Tryz.underlying22 Tryz.underlying3 (by kernel_rfl) hf with ⟨hcs, _⟩ | ⟨a, len, cap, zs, hcs, _, hl, _, hlen, _, hz, _⟩
  · simp [Value.cells] at hcs
    obtain ⟨rfl, rfl, rfl⟩ := hcs
    exact ⟨none, 0, [], rfl, .inl rfl, hF⟩
  · simp [Value.cells] at hcs
    obtain ⟨rfl, rfl, rfl⟩ := hcs
    simp only [if_true] at hlen
    have hlt : (zs.take l0).length = l0 := by rw [List.length_take]; omega
    refine ⟨some a, c0, zs.take l0, by rw [hlt], ?_, hF⟩
    rcases Nat.eq_zero_or_pos l0 with h0 | h0
    · left; rw [h0]; rfl
    · right
      rcases hF with ⟨e, _⟩ | ⟨b, off, e⟩
      · cases e
      · cases e
        have hcell := hz 0 (by omega)
        refine ⟨b, off, rfl, World.block_lt_of_cell? _ _ (by simpa [Addr.add] using hcell), fun j hj => ?_⟩
        rw [hlt] at hj
        have := hz j (by omega)
        rw [Addr.add_lit] at this
        rw [this, List.getElem?_take]
        simp [hj]
end Go.Proofs.YthmjbeieheacmaaGreatDoor
