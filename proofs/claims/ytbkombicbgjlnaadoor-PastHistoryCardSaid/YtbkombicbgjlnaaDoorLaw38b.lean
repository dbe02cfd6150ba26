/- The walk of tidewaterlaw38.PastHistory. -/
import Derived.Test.YtbkombicbgjlnaaDoorLaw38
import Derived.IntWalk
namespace Go.Proofs.YtbkombicbgjlnaaDoor
open Go.RowKit Go.Maps Go.Sort

/-- The change that an act notes. -/
def actCh (a : Act38) : Ch := if a.kind = 0 then ⟨a.key, a.val, a.ver, true⟩ else ⟨a.key, ⟨#[]⟩, a.ver, false⟩
namespace Pl
noncomputable def playK (xs : List Act38) : ByteArray → List Ch := xs.foldl (fun K a => noteK K 0 (actCh a)) noK
theorem playK_snoc (xs : List Act38) (k : Nat) (h : k < xs.length) : playK (xs.take (k + 1)) = noteK (playK (xs.take k)) 0 (actCh (actAt38 xs k)) := by
  unfold playK
  rw [List.take_succ_eq_append_getElem h, actAt38_eq xs k h, List.foldl_append]; rfl
theorem good_note {K : ByteArray → List Ch} {fl : Int} {c : Ch} (hK : GoodK K) (hg : c.there = false → c.val = ⟨#[]⟩) : GoodK (noteK K fl c) := by
  unfold noteK
  split
  · next h => exact good_add hK h hg
  · exact hK
theorem gone_act (a : Act38) : (actCh a).there = false → (actCh a).val = ⟨#[]⟩ := by
  unfold actCh; split
  · intro h; cases h
  · intro _; rfl
theorem good_fold : ∀ (xs : List Act38) (K : ByteArray → List Ch), GoodK K → GoodK (xs.foldl (fun K a => noteK K 0 (actCh a)) K)
  | [], _, h => h
  | a :: xs, _, h => good_fold xs _ (good_note h (gone_act a))
theorem good_play (xs : List Act38) : GoodK (playK xs) := good_fold xs _ good_nil

theorem chAt_mem (xs : List Ch) (k : Nat) (h : k < xs.length) : chAt xs k ∈ xs := by rw [chAt_eq xs k h]; exact List.getElem_mem h
theorem getE_pos {key : ByteArray} {v : Int} (h : keyN key = 0) (hv : 0 ≤ v) : getE key 0 v = 0 := by
  unfold getE; rw [if_neg (by simp [h]), if_neg (by omega)]
end Pl

section
variable (E : Nat → Addr) {w : World} (hE : Errs allS E w) {F : Nat → Prop} {pb n : Nat} {K : ByteArray → List Ch} (h : PastAt w F pb n K 0) (hn : n ≤ 1000000) (key : ByteArray) (hk2 : key.size ≤ 140737488351232) (hG : Pl.GoodK K)
include hE h hn hk2 hG
theorem get_hit (k : Nat) (hk : k < (K key).length) (ht : (chAt (K key) k).there = true) :
    Calls Tryd.prog 18 #[.pointer (some ⟨pb, 0, none⟩), .string key, .int .i64 (chAt (K key) k).ver] w fun e w' => e = .returned (.tuple #[.agg #[.string key, .string (chAt (K key) k).val, .int .i64 (chAt (K key) k).ver], .bool true, .nilIface]) ∧ Grew w w' := by
  obtain ⟨g1, g2⟩ := hG key
  have hm := Pl.chAt_mem (K key) k hk
  have hkey : (chAt (K key) k).key = key := g1.key _ hm
  have e1 : Pl.getE key 0 (chAt (K key) k).ver = 0 := Pl.getE_pos (g2 (List.ne_nil_of_mem hm)) (by have := g1.one _ hm; omega)
  have e2 : Pl.getC K key 0 (chAt (K key) k).ver = some (chAt (K key) k) := by
    unfold Pl.getC Pl.look
    rw [if_pos e1, Pl.last_at g1.rise hk, Option.filter_some, if_pos ht]
  refine (getP_any E hE h hn key hk2 _).mono ?_
  rw [e1, e2]
  rintro e w' ⟨rfl, hg⟩
  refine ⟨?_, hg⟩
  rw [show ((some (chAt (K key) k)).getD Ch.none).pair = .agg #[.string (chAt (K key) k).key, .string (chAt (K key) k).val, .int .i64 (chAt (K key) k).ver] from rfl, hkey]
  rfl
theorem get_gone (k : Nat) (hk : k < (K key).length) (ht : (chAt (K key) k).there = false) :
    Calls Tryd.prog 18 #[.pointer (some ⟨pb, 0, none⟩), .string key, .int .i64 (chAt (K key) k).ver] w fun e w' => e = .returned (.tuple #[.agg #[.string ⟨#[]⟩, .string ⟨#[]⟩, .int .i64 0], .bool false, .nilIface]) ∧ Grew w w' := by
  obtain ⟨g1, g2⟩ := hG key
  have hm := Pl.chAt_mem (K key) k hk
  have e1 : Pl.getE key 0 (chAt (K key) k).ver = 0 := Pl.getE_pos (g2 (List.ne_nil_of_mem hm)) (by have := g1.one _ hm; omega)
  have e2 : Pl.getC K key 0 (chAt (K key) k).ver = none := by
    unfold Pl.getC Pl.look
    rw [if_pos e1, Pl.last_at g1.rise hk, Option.filter_some, if_neg (by rw [ht]; simp)]
  refine (getP_any E hE h hn key hk2 _).mono ?_
  rw [e1, e2]
  exact fun e w' h => h
theorem get_first (hk : 0 < (K key).length) :
    Calls Tryd.prog 18 #[.pointer (some ⟨pb, 0, none⟩), .string key, .int .i64 ((chAt (K key) 0).ver - 1)] w fun e w' => e = .returned (.tuple #[.agg #[.string ⟨#[]⟩, .string ⟨#[]⟩, .int .i64 0], .bool false, .nilIface]) ∧ Grew w w' := by
  obtain ⟨g1, g2⟩ := hG key
  have hm := Pl.chAt_mem (K key) 0 hk
  have e1 : Pl.getE key 0 ((chAt (K key) 0).ver - 1) = 0 := Pl.getE_pos (g2 (List.ne_nil_of_mem hm)) (by have := g1.one _ hm; omega)
  have e2 : Pl.getC K key 0 ((chAt (K key) 0).ver - 1) = none := by
    unfold Pl.getC Pl.look
    rw [if_pos e1, Pl.last_below g1.rise hk]; rfl
  refine (getP_any E hE h hn key hk2 _).mono ?_
  rw [e1, e2]
  exact fun e w' h => h
theorem get_some (v : Int) (hv : 0 ≤ v) (hne : 0 < (K key).length) :
    Calls Tryd.prog 18 #[.pointer (some ⟨pb, 0, none⟩), .string key, .int .i64 v] w fun e w' => (∃ (s t : ByteArray) (u : Int) (b : Bool), e = .returned (.tuple #[.agg #[.string s, .string t, .int .i64 u], .bool b, .nilIface])) ∧ Grew w w' := by
  obtain ⟨g1, g2⟩ := hG key
  have e1 : Pl.getE key 0 v = 0 := Pl.getE_pos (g2 (List.length_pos_iff.1 hne)) hv
  refine (getP_any E hE h hn key hk2 _).mono ?_
  rw [e1]
  rintro e w' ⟨rfl, hg⟩
  exact ⟨⟨_, _, _, _, rfl⟩, hg⟩
omit hG in
theorem get_none (v : Int) (hv : 0 ≤ v) (hne : K key = []) :
    Calls Tryd.prog 18 #[.pointer (some ⟨pb, 0, none⟩), .string key, .int .i64 v] w fun e w' => e = .returned (.tuple #[.agg #[.string ⟨#[]⟩, .string ⟨#[]⟩, .int .i64 0], .bool false, errOf E (Pl.keyN key)]) ∧ Grew w w' := by
  have e1 : Pl.getE key 0 v = Pl.keyN key := by
    unfold Pl.getE
    by_cases h : Pl.keyN key = 0
    · rw [if_neg (by simp [h]), if_neg (by omega), h]
    · rw [if_pos h]
  have e2 : Pl.getC K key 0 v = none := by
    unfold Pl.getC Pl.look
    rw [hne]
    split <;> rfl
  refine (getP_any E hE h hn key hk2 _).mono ?_
  rw [e1, e2]
  exact fun e w' h => h
end

theorem keyN_vals (s : ByteArray) : Pl.keyN s = 0 ∨ Pl.keyN s = 2 ∨ Pl.keyN s = 3 ∨ Pl.keyN s = 6 ∨ Pl.keyN s = 7 := by
  unfold Pl.keyN
  split
  · omega
  · unfold Pl.keyL
    repeat' split
    all_goals omega

theorem pFlat_get (i : Nat) (hi : i < 3) : ∀ (xs : List Ch) (j : Nat), j < xs.length → (pFlat xs)[j * 3 + i]? = (chAt xs j).pvals[i]? := by
  intro xs
  induction xs with
  | nil => intro j hj; simp at hj
  | cons c xs ih =>
    intro j hj
    unfold pFlat at ih ⊢
    rw [List.flatMap_cons]
    cases j with
    | zero => rw [List.getElem?_append_left (by simp [Ch.pvals]; omega)]; simp [chAt]
    | succ j =>
      rw [List.getElem?_append_right (by simp [Ch.pvals]; omega)]
      have e : (j + 1) * 3 + i - c.pvals.length = j * 3 + i := by simp [Ch.pvals]; omega
      rw [e, ih j (by simpa using hj)]
      simp [chAt]
/-- The cells of a row of pairs. -/
structure PRow (W : World) (b : Nat) (xs : List Ch) : Prop where
  key : ∀ j, j < xs.length → W.cell? ⟨b, j * 3, none⟩ = some (.string (chAt xs j).key)
  val : ∀ j, j < xs.length → W.cell? ⟨b, j * 3 + 1, none⟩ = some (.string (chAt xs j).val)
  ver : ∀ j, j < xs.length → W.cell? ⟨b, j * 3 + 2, none⟩ = some (.int .i64 (chAt xs j).ver)
theorem prow_of {W : World} {B : Nat} {v : Value} {xs : List Ch} (h : W.ownsRow B 38 3 v xs.length (pFlat xs)) : ∃ a cap, v = .slice a xs.length cap ∧ (xs = [] ∨ ∃ g, a = some ⟨g, 0, none⟩ ∧ g < W.heap.size ∧ PRow W g xs) := by
  rcases Nat.eq_zero_or_pos xs.length with h0 | h0
  · have hx : xs = [] := List.eq_nil_of_length_eq_zero h0
    rcases h.2 with ⟨rfl, _⟩ | ⟨g, cap, cur, rfl, _, hg, _⟩
    · exact ⟨none, 0, by rw [h0], .inl hx⟩
    · exact ⟨_, _, rfl, .inl hx⟩
  · obtain ⟨g, cap, rfl, _, hlt⟩ := h.form h0
    refine ⟨_, _, rfl, .inr ⟨g, rfl, hlt, ?_, ?_, ?_⟩⟩ <;> intro j hj
    · have := h.cellAt (j * 3 + 0) (by omega); rw [pFlat_get 0 (by omega) xs j hj] at this; exact this
    · have := h.cellAt (j * 3 + 1) (by omega); rw [pFlat_get 1 (by omega) xs j hj] at this; exact this
    · have := h.cellAt (j * 3 + 2) (by omega); rw [pFlat_get 2 (by omega) xs j hj] at this; exact this

set_option maxRecDepth 100000 in
set_option maxHeartbeats 4000000 in
theorem pastHistory_walk (E : Nat → Addr) (a : Option Addr) (cap : Nat) (xs : List Act38) (key : ByteArray) (w : World) (hE : Errs allS E w) (hA : ActsAt38 w a xs) (hx : xs.length ≤ 9223372036854775807)
    (hk : ∀ j, j < xs.length → (actAt38 xs j).key.size ≤ 9223372036854775807 ∧ (actAt38 xs j).val.size ≤ 9223372036854775807 ∧ (actAt38 xs j).lo.size ≤ 9223372036854775807 ∧ (actAt38 xs j).hi.size ≤ 9223372036854775807) (hkey : key.size ≤ 140737488351232) :
    Calls Tryd.prog 3 #[.slice a xs.length cap, .string key] w fun e w' => e = .returned (.bool true) ∧ Grew w w' := by
  have HE := hid hE
  have HA := hid hA
  have HK := hid hk
  clear hE hA hk
  go_enter Tryd.func3, Tryd.ntmps3
  go_wp2_with fail
  refine (alive38 E _ HE.out).mono ?_
  rintro e w1 ⟨rfl, hg1⟩
  go_wp2_with fail
  refine (long38_any a cap xs _ (HA.out.grew hg1) hx HK.out).mono ?_
  rintro e w2 ⟨rfl, hg2⟩
  have hG2 := hg1.trans hg2
  clear hg1 hg2
  cases hl : long38B xs with
  | true =>
    go_wp2_with fail
    go_ret
    exact ⟨rfl, hG2⟩
  | false =>
    by_cases h2 : 300 < key.size
    · have h3 : (300 : Int) < (key.size : Int) := by omega
      go_wp2_with fail
      go_ret
      exact ⟨rfl, hG2⟩
    · have h3 : ¬ (300 : Int) < (key.size : Int) := by omega
      obtain ⟨hx60, hsh⟩ := long38_short hl
      have HSH := hid hsh
      clear hl hsh h2 hx
      go_wp2_with fail
      refine (newP_any _).mono ?_
      rintro e w3 ⟨pb, rfl, hpb, hg3, F, hP, hF⟩
      have hG3 := hG2.trans hg3
      have hF' : ∀ j, F j → w.heap.size ≤ j := fun j hj => Nat.le_trans hG2.size (hF j hj)
      have HP0 := hid (show ∃ F, PastAt w3 F pb 0 (Pl.playK (xs.take 0)) 0 ∧ ∀ j, F j → w.heap.size ≤ j from ⟨F, hP, hF'⟩)
      clear hP hF hF' hg3 hpb hG2
      go_wp2_with fail
      go_loopw [31] (fun i wr => ∃ k : Nat, k ≤ xs.length ∧ i = .int .i64 k ∧ Hid (∃ F, PastAt wr F pb k (Pl.playK (xs.take k)) 0 ∧ ∀ j, F j → w.heap.size ≤ j) ∧ Grew w wr) (fun i _ => xs.length - (intOf i).toNat)
      case atStart => exact ⟨0, Nat.zero_le _, rfl, HP0, hG3⟩
      case round =>
        obtain ⟨k, hk1, rfl, HP, hG⟩ := hrel
        by_cases hlt : k < xs.length
        · rcases HA.out with h0 | ⟨b, off, rfl, hb, hR⟩
          · rw [h0] at hlt; simp at hlt
          have q0 := (hG.cells.1 b (off + k * 6) hb).trans (hR.kind k hlt)
          have q1 := (hG.cells.1 b (off + k * 6 + 1) hb).trans (hR.ver k hlt)
          have q2 := (hG.cells.1 b (off + k * 6 + 2) hb).trans (hR.key k hlt)
          have q3 := (hG.cells.1 b (off + k * 6 + 3) hb).trans (hR.val k hlt)
          have q4 := (hG.cells.1 b (off + k * 6 + 4) hb).trans (hR.lo k hlt)
          have q5 := (hG.cells.1 b (off + k * 6 + 5) hb).trans (hR.hi k hlt)
          have HN := hid (Pl.playK_snoc xs k hlt)
          obtain ⟨s1, s2, s3, s4⟩ := HSH.out k hlt
          obtain ⟨Fk, hPk, hFk⟩ := HP.out
          have HPk := hid hPk
          have HFk := hid hFk
          clear hR HP hPk hFk
          by_cases h0 : (actAt38 xs k).kind = 0
          · have hC := hid (show actCh (actAt38 xs k) = ⟨(actAt38 xs k).key, (actAt38 xs k).val, (actAt38 xs k).ver, true⟩ by unfold actCh; rw [if_pos h0])
            have hb0 : ((actAt38 xs k).kind == 0) = true := beq_iff_eq.2 h0
            clear h0
            go_wp2_with fail
            refine (put_any allS E noteS_all (HE.out.grew (hG.alloc _)) (HPk.out.grew ((Grew.refl _).alloc _)) (by omega) _ _ _ (by omega) (by omega)).mono ?_
            rintro e w4 ⟨rfl, hT⟩
            obtain ⟨hg4, F4, hP4, hF4⟩ := hT.grew HFk.out (hG.alloc _)
            have HP4 := hid (show ∃ F, PastAt w4 F pb (k + 1) (Pl.playK (xs.take (k + 1))) 0 ∧ ∀ j, F j → w.heap.size ≤ j from ⟨F4, by rw [HN.out, hC.out]; exact hP4, hF4⟩)
            clear hT hP4 hF4
            go_wp2_with fail
            go_roundw
            case rel => exact ⟨k + 1, by omega, by go_num, HP4, hg4⟩
            case measure => simp [intOf]; omega
          · have hC := hid (show actCh (actAt38 xs k) = ⟨(actAt38 xs k).key, ⟨#[]⟩, (actAt38 xs k).ver, false⟩ by unfold actCh; rw [if_neg h0])
            have hb0 : ((actAt38 xs k).kind == 0) = false := beq_eq_false_iff_ne.2 h0
            clear h0
            go_wp2_with fail
            refine (del_any allS E noteS_all (HE.out.grew (hG.alloc _)) (HPk.out.grew ((Grew.refl _).alloc _)) (by omega) _ _ (by omega)).mono ?_
            rintro e w4 ⟨rfl, hT⟩
            obtain ⟨hg4, F4, hP4, hF4⟩ := hT.grew HFk.out (hG.alloc _)
            have HP4 := hid (show ∃ F, PastAt w4 F pb (k + 1) (Pl.playK (xs.take (k + 1))) 0 ∧ ∀ j, F j → w.heap.size ≤ j from ⟨F4, by rw [HN.out, hC.out]; exact hP4, hF4⟩)
            clear hT hP4 hF4
            go_wp2_with fail
            go_roundw
            case rel => exact ⟨k + 1, by omega, by go_num, HP4, hg4⟩
            case measure => simp [intOf]; omega
        · obtain rfl : k = xs.length := by omega
          have hgood := Pl.good_play (xs.take xs.length)
          obtain ⟨Fk, hPk, hFk⟩ := HP.out
          have hlenK : ((Pl.playK (xs.take xs.length)) key).length ≤ 60 := by obtain ⟨⟨mb, f, hh⟩, _⟩ := hPk; have := hh.len key; omega
          generalize Pl.playK (xs.take xs.length) = K at *
          have HG := hid hgood
          have HPk := hid hPk
          clear HP hPk hFk hgood
          go_wp2_with fail
          refine (hist_any HPk.out (by omega) key hkey).mono ?_
          rintro e w4 ⟨⟨v, rfl, hrow⟩, hg4⟩
          obtain ⟨ha, hcap, rfl, hPR⟩ := prow_of hrow
          have hG4 := hG.trans hg4
          have HP4 := hid (HPk.out.grew hg4)
          have HPR := hid hPR
          clear hrow hPR hg4 HPk
          have hgood := HG.out key
          have HR := hid hgood.1
          have HKN := hid hgood.2
          clear hgood
          go_wp2_with fail
          go_loopw [58] (fun i wr => ∃ k : Nat, k ≤ (K key).length ∧ i = .int .i64 k ∧ Grew w4 wr) (fun i _ => (K key).length - (intOf i).toNat)
          case atStart => exact ⟨0, Nat.zero_le _, rfl, Grew.refl _⟩
          case round =>
            obtain ⟨m, hm1, rfl, hGm⟩ := hrel
            have hGw := hG4.trans hGm
            by_cases hlt : m < (K key).length
            · rcases HPR.out with h0 | ⟨g, rfl, hgl, hR⟩
              · rw [h0] at hlt; simp at hlt
              have hmem := Pl.chAt_mem (K key) m hlt
              have hke : (chAt (K key) m).key = key := HR.out.key _ hmem
              have hv1 := HR.out.one _ hmem
              have hv2 := HR.out.top _ hmem
              have q0 := (hGm.cells.1 g (m * 3) hgl).trans (hR.key m hlt)
              have q1 := (hGm.cells.1 g (m * 3 + 1) hgl).trans (hR.val m hlt)
              have q2 := (hGm.cells.1 g (m * 3 + 2) hgl).trans (hR.ver m hlt)
              rw [hke] at q0
              have HPw := hid (HP4.out.grew hGm)
              have hget := hid (fun (W : World) (gW : Grew w4 W) (ht : (chAt (K key) m).there = true) => get_hit E (HE.out.grew (hG4.trans gW)) (HP4.out.grew gW) (by omega) key hkey HG.out m hlt ht)
              have hgone := hid (fun (W : World) (gW : Grew w4 W) (ht : (chAt (K key) m).there = false) => get_gone E (HE.out.grew (hG4.trans gW)) (HP4.out.grew gW) (by omega) key hkey HG.out m hlt ht)
              have hval := hid (HR.out.gone _ hmem)
              cases m with
              | zero =>
                have hfirst := hid (fun (W : World) (gW : Grew w4 W) => get_first E (HE.out.grew (hG4.trans gW)) (HP4.out.grew gW) (by omega) key hkey HG.out hlt)
                generalize chAt (K key) 0 = c at *
                obtain ⟨ck, cv, cn, ct⟩ := c
                dsimp only at *
                clear hR hmem hke
                cases ct with
                | true =>
                  go_wp2_with fail
                  go_quiet (fail)
                  go_wp2_with fail
                  refine (hget.out _ ((hGm.alloc _).drewN _) (by trivial)).mono ?_
                  rintro e w5 ⟨rfl, hg5⟩
                  have hG5 : Grew w4 w5 := ((hGm.alloc _).drewN _).trans hg5
                  have hz5 : wr.heap.size < w5.heap.size := by have := hg5.size; simp at this; omega
                  obtain ⟨hc5, hf5⟩ := hg5.cells
                  have r0 : w5.cell? ⟨wr.heap.size, 0, none⟩ = some (.string key) := by rw [hc5 _ _ (by simp)]; simp [go_sem]
                  have r1 : w5.cell? ⟨wr.heap.size, 1, none⟩ = some (.string cv) := by rw [hc5 _ _ (by simp)]; simp [go_sem]
                  have r2 : w5.cell? ⟨wr.heap.size, 2, none⟩ = some (.int .i64 cn) := by rw [hc5 _ _ (by simp)]; simp [go_sem]
                  clear hc5 hf5
                  go_wp2_with fail
                  refine (hfirst.out _ (hG5.alloc _)).mono ?_
                  rintro e w6 ⟨rfl, hg6⟩
                  have hG6 := (hG5.alloc _).trans hg6
                  go_wp2_with fail
                  go_roundw
                  case rel => exact ⟨0 + 1, by omega, by go_num, hG6.alloc _⟩
                  case measure => simp [intOf]; omega
                | false =>
                  obtain rfl : cv = ⟨#[]⟩ := hval.out rfl
                  go_wp2_with fail
                  go_quiet (fail)
                  go_wp2_with fail
                  refine (hgone.out _ ((hGm.alloc _).drewN _) (by trivial)).mono ?_
                  rintro e w5 ⟨rfl, hg5⟩
                  have hG5 : Grew w4 w5 := ((hGm.alloc _).drewN _).trans hg5
                  have hz5 : wr.heap.size < w5.heap.size := by have := hg5.size; simp at this; omega
                  obtain ⟨hc5, hf5⟩ := hg5.cells
                  have r0 : w5.cell? ⟨wr.heap.size, 0, none⟩ = some (.string key) := by rw [hc5 _ _ (by simp)]; simp [go_sem]
                  have r1 : w5.cell? ⟨wr.heap.size, 1, none⟩ = some (.string ⟨#[]⟩) := by rw [hc5 _ _ (by simp)]; simp [go_sem]
                  have r2 : w5.cell? ⟨wr.heap.size, 2, none⟩ = some (.int .i64 cn) := by rw [hc5 _ _ (by simp)]; simp [go_sem]
                  clear hc5 hf5
                  go_wp2_with fail
                  refine (hfirst.out _ (hG5.alloc _)).mono ?_
                  rintro e w6 ⟨rfl, hg6⟩
                  have hG6 := (hG5.alloc _).trans hg6
                  go_wp2_with fail
                  go_roundw
                  case rel => exact ⟨0 + 1, by omega, by go_num, hG6.alloc _⟩
                  case measure => simp [intOf]; omega
              | succ m =>
                have hsome := hid (fun (W : World) (gW : Grew w4 W) (v : Int) (hv : 0 ≤ v) => get_some E (HE.out.grew (hG4.trans gW)) (HP4.out.grew gW) (by omega) key hkey HG.out v hv (by omega))
                have p2 := (hGm.cells.1 g (m * 3 + 2) hgl).trans (hR.ver m (by omega))
                have hrise := Pl.rise_at HR.out.rise (Nat.lt_succ_self m) hlt
                generalize (chAt (K key) m).ver = pv at *
                generalize chAt (K key) (m + 1) = c at *
                obtain ⟨ck, cv, cn, ct⟩ := c
                dsimp only at *
                have hd1 : decide (cn ≤ pv) = false := decide_eq_false (by omega)
                have hd2 : decide ((0 : Int) < (m : Int) + 1) = true := decide_eq_true (by omega)
                have i2 : ((m : Int) + 1) - 1 = (m : Int) := by omega
                have i0 : (0 : Int) ≤ (m : Int) := by omega
                have hmB : m < 1000000 := by omega
                have i5 : m < (K key).length := by omega
                have hglr : g < wr.heap.size := Nat.lt_of_lt_of_le hgl hGm.size
                have i6 : IntKind.i64.wrap (m : Int) = (m : Int) := IntWalk.i64_in _ (by omega)
                have i3 : (m : Int) < ((K key).length : Int) := by omega
                have i4 : (((m : Int) + 1) == 0) = false := beq_eq_false_iff_ne.2 (by omega)
                clear hR hmem hke
                cases ct with
                | true =>
                  go_wp2_with fail
                  go_quiet (fail)
                  go_wp2_with fail
                  refine (hget.out _ ((hGm.alloc _).drewN _) (by trivial)).mono ?_
                  rintro e w5 ⟨rfl, hg5⟩
                  have hG5 : Grew w4 w5 := ((hGm.alloc _).drewN _).trans hg5
                  have hz5 : wr.heap.size < w5.heap.size := by have := hg5.size; simp at this; omega
                  obtain ⟨hc5, hf5⟩ := hg5.cells
                  have r0 : w5.cell? ⟨wr.heap.size, 0, none⟩ = some (.string key) := by rw [hc5 _ _ (by simp)]; simp [go_sem]
                  have r1 : w5.cell? ⟨wr.heap.size, 1, none⟩ = some (.string cv) := by rw [hc5 _ _ (by simp)]; simp [go_sem]
                  have r2 : w5.cell? ⟨wr.heap.size, 2, none⟩ = some (.int .i64 cn) := by rw [hc5 _ _ (by simp)]; simp [go_sem]
                  clear hc5 hf5
                  go_wp2_with fail
                  refine (hsome.out _ (hG5.alloc _) _ (by omega)).mono ?_
                  rintro e w6 ⟨⟨s6, t6, u6, b6, rfl⟩, hg6⟩
                  have hG6 := (hG5.alloc _).trans hg6
                  go_wp2_with fail
                  go_roundw
                  case rel => exact ⟨m + 1 + 1, by omega, by go_num, hG6.alloc _⟩
                  case measure => simp [intOf]; omega
                | false =>
                  obtain rfl : cv = ⟨#[]⟩ := hval.out rfl
                  go_wp2_with fail
                  go_quiet (fail)
                  go_wp2_with fail
                  refine (hgone.out _ ((hGm.alloc _).drewN _) (by trivial)).mono ?_
                  rintro e w5 ⟨rfl, hg5⟩
                  have hG5 : Grew w4 w5 := ((hGm.alloc _).drewN _).trans hg5
                  have hz5 : wr.heap.size < w5.heap.size := by have := hg5.size; simp at this; omega
                  obtain ⟨hc5, hf5⟩ := hg5.cells
                  have r0 : w5.cell? ⟨wr.heap.size, 0, none⟩ = some (.string key) := by rw [hc5 _ _ (by simp)]; simp [go_sem]
                  have r1 : w5.cell? ⟨wr.heap.size, 1, none⟩ = some (.string ⟨#[]⟩) := by rw [hc5 _ _ (by simp)]; simp [go_sem]
                  have r2 : w5.cell? ⟨wr.heap.size, 2, none⟩ = some (.int .i64 cn) := by rw [hc5 _ _ (by simp)]; simp [go_sem]
                  clear hc5 hf5
                  go_wp2_with fail
                  refine (hsome.out _ (hG5.alloc _) _ (by omega)).mono ?_
                  rintro e w6 ⟨⟨s6, t6, u6, b6, rfl⟩, hg6⟩
                  have hG6 := (hG5.alloc _).trans hg6
                  go_wp2_with fail
                  go_roundw
                  case rel => exact ⟨m + 1 + 1, by omega, by go_num, hG6.alloc _⟩
                  case measure => simp [intOf]; omega
            · obtain rfl : m = (K key).length := by omega
              by_cases hne : 0 < (K key).length
              · have hd : decide ((0 : Int) < ((K key).length : Int)) = true := decide_eq_true (by omega)
                have hsome := hid (get_some E (HE.out.grew hGw) (HP4.out.grew hGm) (by omega) key hkey HG.out 4096 (by decide) hne)
                go_wp2_with fail
                refine hsome.out.mono ?_
                rintro e w6 ⟨⟨s6, t6, u6, b6, rfl⟩, hg6⟩
                go_wp2_with fail
                go_ret
                exact ⟨rfl, (hGw.trans hg6).alloc _⟩
              · have hnil : K key = [] := List.eq_nil_of_length_eq_zero (by omega)
                have hnone := hid (get_none E (HE.out.grew hGw) (HP4.out.grew hGm) (by omega) key hkey 4096 (by decide) hnil)
                rw [hnil]
                clear hnil hne
                by_cases hkn : Pl.keyN key = 0
                · have HZ : Hid (errOf E (Pl.keyN key) = .nilIface) := by unfold Hid; rw [hkn]; rfl
                  clear hkn
                  go_wp2_with fail
                  refine hnone.out.mono ?_
                  rw [HZ.out]
                  rintro e w6 ⟨rfl, hg6⟩
                  go_wp2_with fail
                  go_ret
                  exact ⟨rfl, (hGw.trans hg6).alloc _⟩
                · have HZ := hid (errOf_ne E _ hkn)
                  have hv := keyN_vals key
                  generalize Pl.keyN key = kn at *
                  have hn11 : ((kn : Int) != 11) = true := by rw [bne_iff_ne]; omega
                  have hkn' : kn ≤ 19 := by omega
                  have hnum := hid (fun (W : World) (gW : Grew w W) => num_all E kn hkn' W (HE.out.grew gW))
                  clear hkn hv
                  go_wp2_with fail
                  refine hnone.out.mono ?_
                  rw [HZ.out]
                  rintro e w6 ⟨rfl, hg6⟩
                  have hG6 := hGw.trans hg6
                  rw [HZ.out] at hnum
                  go_wp2_with fail
                  refine (hnum.out _ (hG6.alloc _)).mono ?_
                  rintro e w7 ⟨rfl, hg7⟩
                  go_wp2_with fail
                  go_ret
                  exact ⟨rfl, (hG6.alloc _).trans hg7⟩
end Go.Proofs.YtbkombicbgjlnaaDoor
