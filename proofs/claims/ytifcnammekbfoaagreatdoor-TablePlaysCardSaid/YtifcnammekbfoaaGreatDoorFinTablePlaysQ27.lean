/- Do21s, Do21c, CopyT: one text. -/
import Derived.Test.YtifcnammekbfoaaGreatDoorFinTablePlaysQ25
import Derived.Test.YtifcnammekbfoaaGreatDoorFinTablePlaysQ26
import Derived.Test.YtifcnammekbfoaaGreatDoorFinTablePlaysQ17
/- tidewaterlaw21.do: a Scan. -/
set_option linter.unusedVariables false
set_option linter.unusedSimpArgs false
namespace Go.Proofs.YtifcnammekbfoaaGreatDoor
open Go.RowKit Go.Maps Go.Sort
attribute [local go_sem] Oper.semAt_some uponV

/-- The table's scan, once it is there. -/
structure JScan (y : World) (Z : List Pr) (L : Nat → Bool) (f : Nat → Value) (x : World) : Prop where
  grew : Grew y x
  res : L 5 = true → ∃ a c, f 5 = .slice a Z.length c ∧ PairsAt x a Z
set_option maxRecDepth 100000 in
set_option maxHeartbeats 4000000 in
theorem do21_scan {S : Nat → Bool} (hS : TabS S) (E : Nat → Addr) {w0 w : World} (hE : Errs S E w0) {tb rb : Nat} {P D : List Pr} {B : Nat → Obj → Prop} (h : M21 w0 w tb rb P D B) (hT : Pl.Tt P D) (hx : P.length ≤ 1000) (av : Int) (akey aval alo ahi : ByteArray) (sl : alo.size ≤ 300) (sh : ahi.size ≤ 300) :
    Calls Tryz.prog 11 #[.pointer (some ⟨tb, 0, none⟩), .pointer (some ⟨rb, 0, none⟩), .agg #[.int .i64 3, .int .i64 av, .string akey, .string aval, .string alo, .string ahi]] w fun e w' => e = .returned (.bool true) ∧ M21 w0 w' tb rb P D B := by
  have HE := hid hE
  have hlen := hT.len
  have HM := hid h
  obtain ⟨Z, hZ⟩ : ∃ Z, Z = Pl.scanT P alo ahi av := ⟨_, rfl⟩
  have HZL : Hid (Z.length ≤ 1000000) := by
    unfold Hid; rw [hZ]
    unfold Pl.scanT
    have := List.length_filter_le (fun c : Pr => Pl.hasS alo ahi c.key) P
    rw [List.length_take]
    omega
  have HS1 := hid (fun W (g : Grew w W) => show Calls Tryz.prog 20 #[.pointer (some ⟨tb, 0, none⟩), .agg #[.string alo, .string ahi], .int .i64 av] W fun e w' => ∃ v, e = .returned v ∧ (∃ a c, v = .slice a Z.length c ∧ PairsAt w' a Z) ∧ Grew W w' from by
    obtain ⟨F, h1, _⟩ := (h.more g).tab
    refine (scanT_any hS E (hE.grew (h.more g).grew) h1 (by omega) alo ahi av (by omega) (by omega)).mono ?_
    rintro e w' ⟨⟨v, rfl, hr⟩, hg⟩
    rw [← hZ] at hr
    exact ⟨v, rfl, pairsAt_of hr, hg⟩)
  have HS2 := hid (fun W (g : Grew w W) => show Calls Tryz.prog 51 #[.pointer (some ⟨rb, 0, none⟩), .agg #[.string alo, .string ahi], .int .i64 av] W fun e w' => (∃ a c, e = .returned (.slice a Z.length c) ∧ PairsAt w' a Z) ∧ Grew W w' from by
    refine (scan21_any (h.more g).read (by omega) hT.key hT.ap (fun c hc => by have := Pl.key_size (hT.key c hc); omega) alo ahi av (by omega) (by omega)).mono ?_
    rintro e w' ⟨⟨v, zs, rfl, hp, hs, hr⟩, hg⟩
    obtain rfl := hT.sorted hp hs
    rw [← hZ] at hr
    obtain ⟨a, c, rfl, hA⟩ := pairsAt_of hr
    exact ⟨⟨a, c, rfl, hA⟩, hg⟩)
  clear h hE hZ hT hlen
  go_enter Tryz.func11, Tryz.ntmps11
  go_wp2_with fail
  obtain ⟨Y, hY⟩ : ∃ Y, Y = w.alloc (.cells #[.int .i64 3, .int .i64 av, .string akey, .string aval, .string alo, .string ahi] 34) := ⟨_, rfl⟩
  have gY : Grew w Y := by rw [hY]; exact (Grew.refl w).alloc _
  have C1 := wd_cell (w := Y) (show Y.cell? ⟨w.heap.size, 1, none⟩ = some (.int .i64 av) from by rw [hY]; simp [go_sem])
  have C4 := wd_cell (w := Y) (show Y.cell? ⟨w.heap.size, 4, none⟩ = some (.string alo) from by rw [hY]; simp [go_sem])
  have C5 := wd_cell (w := Y) (show Y.cell? ⟨w.heap.size, 5, none⟩ = some (.string ahi) from by rw [hY]; simp [go_sem])
  have HGY := hid gY
  rw [← hY]
  clear hY gY
  refine wp_region_mixS 11 [5] (Grew Y) Eq (JScan Y Z) (fun f a => a.put (some 78) (f 5)) (by kernel_rfl) (by kernel_rfl) (fun _ _ => rfl) ⟨(Grew.refl Y).drew, fun h => by cases h⟩ (fun _ _ _ h => h.grew) (fun _ => rfl) (fun _ _ _ _ h g => g ▸ h) ?_
  repeat (first
    | (refine mixS_loose (by rfl) (by rfl) ?_)
    | (refine mixS_plain (by rfl) (by rfl) (by rfl) (by first | exact Grew.refl | exact fun _ => rfl) (by rfl) ?_; intro K hK; go_big_quiet_op; go_big_quiet_on)
    | (refine mixS_skip (by rfl) (by rfl) (by rfl) ?_; simp only [Act.put, List.setIfInBounds_toArray, List.set_cons_zero, List.set_cons_succ]))
  refine mixS_done (by rfl) ⟨⟨loose_of rfl (fun _ a => a) (fun _ _ => rfl) (fun _ => rfl) ?_, trivial⟩, ?_⟩
  · intro L f x hJ hL hd
    have HJ := hid hJ
    clear hJ hL hd C1 C4 C5
    go_simp
    refine (HS1.out x (HGY.out.trans HJ.out.grew)).mono ?_
    rintro e x' ⟨v, rfl, hr, hg⟩
    refine ⟨v, rfl, HJ.out.grew.trans hg, fun _ => ?_⟩
    rw [updV_same]; exact hr
  intro f x hJ
  obtain ⟨a5, c5, e5, hA5⟩ := hJ.res rfl
  have HA5 := hid hA5
  have HGX := hid (HGY.out.trans hJ.grew)
  clear hA5 hJ C1 C4 C5
  dsimp only [List.drop]
  simp only [Act.put, List.setIfInBounds_toArray, List.set_cons_succ, List.set_cons_zero]
  rw [e5]
  clear e5
  go_wp2_with fail
  refine (HS2.out x HGX.out).mono ?_
  rintro e x2 ⟨⟨a6, c6, rfl, hA6⟩, hg⟩
  have HF := hid ((HM.out.more HGX.out).more hg)
  have HA6 := hid hA6
  have HA52 := hid (HA5.out.grew hg)
  clear hA6 hg
  go_wp2_with fail
  refine (samePairs_same _ _ _ _ _ Z HA52.out HA6.out HZL.out).mono ?_
  rintro e x3 ⟨rfl, hg⟩
  have HF2 := hid (HF.out.more hg)
  go_wp2_with fail
  go_ret
  exact ⟨rfl, HF2.out⟩
end Go.Proofs.YtifcnammekbfoaaGreatDoor

/- tidewaterlaw21.do: a Cut. -/
set_option linter.unusedVariables false
set_option linter.unusedSimpArgs false
namespace Go.Proofs.YtifcnammekbfoaaGreatDoor
open Go.RowKit Go.Maps Go.Sort
attribute [local go_sem] Oper.semAt_some uponV

/-- What the table's cut leaves: the other table is apart, whatever the document's table does. -/
def CutR (w0 : World) (tb rb : Nat) (ys zs D : List Pr) (B : Nat → Obj → Prop) (x : World) (v : Value) : Prop :=
  ∃ ob Fo G, v = .pointer (some ⟨ob, 0, none⟩) ∧ TabAt x Fo ob zs ∧ RtAt x G rb D ∧ (∀ j o, B j o → x.heap[j]? = some o) ∧ ∀ x' D', RtTurn x G rb D' x' → M21 w0 x' tb rb ys D' B ∧ TabAt x' Fo ob zs
theorem M21.cut {w0 w : World} {tb rb : Nat} {P D : List Pr} {B : Nat → Obj → Prop} (h : M21 w0 w tb rb P D B) : ∃ F, TabAt w F tb P ∧ ∀ w' ys zs ob, CutEnd w F tb ys zs ob w' → CutR w0 tb rb ys zs D B w' (.pointer (some ⟨ob, 0, none⟩)) := by
  have hlt := fun {j : Nat} {o : Obj} (hb : B j o) => h.lt hb
  obtain ⟨hg, hk, F, G, h1, h2, h3, h4⟩ := h
  refine ⟨F, h1, fun w' ys zs ob hC => ?_⟩
  obtain ⟨hO, F', Fo, k1, k2, k3, k4⟩ := hC
  have hs := hg.size
  have hG : RtAt w' G rb D := h2.kept hO fun j hj hF => (h3 j hF).2.1 hj
  have hKB : ∀ j o, B j o → w'.heap[j]? = some o := fun j o hb => (hO.block j (hlt hb) fun hF => (h3 j hF).2.2 o hb).trans (hk j o hb)
  have hg' : Grew w0 w' := ((hg.only F).then hO).grew fun j hj => (h3 j hj).1
  have hF' : ∀ j, F' j → w0.heap.size ≤ j ∧ ¬ G j ∧ ∀ o, ¬ B j o := fun j hj => by
    rcases k3 j hj with h | h
    · exact h3 j h
    · exact ⟨Nat.le_trans hs h, fun hGj => by have := h2.lt j hGj; omega, fun o hb => by have := hlt hb; omega⟩
  refine ⟨ob, Fo, G, rfl, k2, hG, hKB, fun x' D' hT => ?_⟩
  have hM : M21 w0 w' tb rb ys D B := ⟨hg', hKB, F', G, k1, hG, hF', h4⟩
  have hltw := fun {j : Nat} {o : Obj} (hb : B j o) => hM.lt hb
  obtain ⟨hO2, G', q1, q2⟩ := hT
  refine ⟨⟨((hg'.only G).then hO2).grew fun j hj => (h4 j hj).1, fun j o hb => (hO2.block j (hltw hb) fun hGj => (h4 j hGj).2 o hb).trans (hKB j o hb), F', G', k1.kept hO2 fun j hj hGj => (hF' j hj).2.1 hGj, q1, fun j hj => ⟨(hF' j hj).1, fun hG' => ?_, (hF' j hj).2.2⟩, fun j hj => ?_⟩, k2.kept hO2 fun j hj hGj => ?_⟩
  · rcases q2 j hG' with h | h
    · exact (hF' j hj).2.1 h
    · have := tabAt_lt k1 j hj; omega
  · rcases q2 j hj with h | h
    · exact h4 j h
    · exact ⟨Nat.le_trans hg'.size h, fun o hb => by have := hltw hb; omega⟩
  · have h5 := (k4 j hj).1
    have := h2.lt j hGj
    omega

/-- Ahead of the table's cut, and behind it. -/
structure JCut (w0 : World) (tb rb bb : Nat) (P ys zs D : List Pr) (B : Nat → Obj → Prop) (q : Obj) (L : Nat → Bool) (f : Nat → Value) (x : World) : Prop where
  box : x.heap[bb]? = some q
  a : L 3 = false → M21 w0 x tb rb P D B
  d : L 3 = true → CutR w0 tb rb ys zs D B x (f 3)

set_option maxRecDepth 100000 in
set_option maxHeartbeats 4000000 in
theorem do21_cut {S : Nat → Bool} (hS : TabS S) (E : Nat → Addr) {w0 w : World} (hE : Errs S E w0) {tb rb : Nat} {P D : List Pr} {B : Nat → Obj → Prop} (h : M21 w0 w tb rb P D B) (hT : Pl.Tt P D) (hx : P.length ≤ 1000) (av : Int) (akey aval alo ahi : ByteArray) (sk : akey.size ≤ 300) :
    Calls Tryz.prog 11 #[.pointer (some ⟨tb, 0, none⟩), .pointer (some ⟨rb, 0, none⟩), .agg #[.int .i64 4, .int .i64 av, .string akey, .string aval, .string alo, .string ahi]] w fun e w' => e = .returned (.bool true) ∧ M21 w0 w' tb rb (P.take (Pl.cutN P akey)) (D.filter fun p => !Pl.cutB akey p) B := by
  have HE := hid hE
  have hlen := hT.len
  obtain ⟨q, hq⟩ : ∃ q : Obj, q = .cells #[.int .i64 4, .int .i64 av, .string akey, .string aval, .string alo, .string ahi] 34 := ⟨_, rfl⟩
  obtain ⟨Y, hY⟩ : ∃ Y, Y = w.alloc q := ⟨_, rfl⟩
  have hYb : Y.heap[w.heap.size]? = some q := by rw [hY]; exact heap_alloc_new w q
  obtain ⟨bb, hbb⟩ : ∃ bb, bb = w.heap.size := ⟨_, rfl⟩
  have HM0 := h.box (show Grew w Y from by rw [hY]; exact (Grew.refl w).alloc _) (b := bb) (q := q) (by rw [hbb]; exact Nat.le_refl _) (by rw [hbb]; exact hYb)
  obtain ⟨B2, hB2⟩ : ∃ B2 : Nat → Obj → Prop, B2 = fun j o => B j o ∨ (j = bb ∧ o = q) := ⟨_, rfl⟩
  rw [← hB2] at HM0
  have HM := hid HM0
  have HBB : Hid (B2 bb q) := by unfold Hid; rw [hB2]; exact .inr ⟨rfl, rfl⟩
  have HBL : Hid (∀ j o, B j o → B2 j o) := by unfold Hid; rw [hB2]; exact fun j o h => .inl h
  have HCT := hid (fun x (g : M21 w0 x tb rb P D B2) => show Calls Tryz.prog 52 #[.pointer (some ⟨tb, 0, none⟩), .string akey] x fun e x' => ∃ v, e = .returned v ∧ CutR w0 tb rb (P.take (Pl.cutN P akey)) (P.drop (Pl.cutN P akey)) D B2 x' v from by
    obtain ⟨F, h1, h2⟩ := g.cut
    refine (cutT_any h1 (by omega) akey (by omega)).mono ?_
    rintro e w' ⟨ob, rfl, hC⟩
    exact ⟨_, rfl, h2 _ _ _ _ hC⟩)
  have HTT := hid (hT.cut akey)
  have HPL := hid hx
  obtain ⟨ys, hys⟩ : ∃ ys, ys = P.take (Pl.cutN P akey) := ⟨_, rfl⟩
  obtain ⟨zs, hzs⟩ : ∃ zs, zs = P.drop (Pl.cutN P akey) := ⟨_, rfl⟩
  have HZL : Hid (zs.length ≤ 1000) := by unfold Hid; rw [hzs, List.length_drop]; omega
  rw [← hys, ← hzs] at HCT HTT
  rw [← hys]
  clear hys hzs
  have HDL : Hid (D.length ≤ 100000) := by unfold Hid; omega
  have HQ := hid hq
  have HY := hid hY
  have HYB : Hid (Y.heap[bb]? = some q) := by unfold Hid; rw [hbb]; exact hYb
  have HBS := hid hbb
  clear h hE hT hlen hx hq hY hYb HM0 hB2 hbb
  go_enter Tryz.func11, Tryz.ntmps11
  go_wp2_with fail
  rw [← HQ.out, ← HY.out, ← HBS.out]
  obtain ⟨I, hI⟩ : ∃ I : World → Prop, I = fun x => x.heap[bb]? = some q := ⟨_, rfl⟩
  have hIO : ∀ x, I x → x.heap[bb]? = some q := fun x h => by rw [hI] at h; exact h
  have C2 : ∀ p : Wd I, p.w.cell? ⟨bb, 2, none⟩ = some (.string akey) := fun p => by
    have h1 := hIO p.w p.ok
    rw [HQ.out] at h1
    exact box_cell21 h1 2
  have HNE : Nonempty (Wd I) := ⟨⟨Y, by rw [hI]; exact HYB.out⟩⟩
  have HII := hid (fun x (h : x.heap[bb]? = some q) => show I x from by rw [hI]; exact h)
  clear hI hIO
  refine wp_region_mixS 7 [3] I Eq (JCut w0 tb rb bb P ys zs D B2 q) (fun f a => a.put (some 91) (f 3)) (by kernel_rfl) (by kernel_rfl) (fun _ _ => rfl) ⟨HYB.out, fun _ => HM.out.more (Grew.refl Y).drew, fun h => by cases h⟩ (fun _ _ _ h => HII.out _ h.box) (fun _ => rfl) (fun _ _ _ _ h g => g ▸ h) ?_
  repeat (first
    | (refine mixS_loose (by rfl) (by rfl) ?_)
    | (refine mixS_plain (by rfl) (by rfl) (by rfl) (by first | exact Grew.refl | exact fun _ => rfl) (by rfl) ?_; intro K hK; go_big_quiet_op; go_big_quiet_on)
    | (refine mixS_skip (by rfl) (by rfl) (by rfl) ?_; simp only [Act.put, List.setIfInBounds_toArray, List.set_cons_zero, List.set_cons_succ]))
  refine mixS_done (by rfl) ⟨⟨loose_of rfl (fun _ a => a) (fun _ _ => rfl) (fun _ => rfl) ?_, trivial⟩, ?_⟩
  · intro L f x hJ hL hd
    have HJ := hid (hJ.a hL)
    clear hJ hL hd C2
    go_simp
    refine (HCT.out x HJ.out).mono ?_
    rintro e x' ⟨v, rfl, hr⟩
    obtain ⟨_, _, _, _, _, _, hk, _⟩ := id hr
    refine ⟨v, rfl, hk bb q HBB.out, (fun h => by rw [plus_on] at h; cases h), fun _ => ?_⟩
    rw [updV_same]; exact hr
  intro f x hJ
  obtain ⟨ob, Fo, G, e3, k1, k2, k3, k4⟩ := hJ.d rfl
  have HK1 := hid k1
  have HRC := hid (cut21_any k2 HDL.out akey (by omega))
  have HK4 := hid k4
  clear k1 k2 k3 k4 hJ C2
  dsimp only [List.drop]
  simp only [Act.put, List.setIfInBounds_toArray, List.set_cons_succ, List.set_cons_zero]
  rw [e3]
  clear e3
  go_wp2_with fail
  refine HRC.out.mono ?_
  rintro e x2 ⟨⟨b2, rfl, hR2⟩, hT2⟩
  obtain ⟨hM2, hO2⟩ := HK4.out _ _ hT2
  have HF := hid (hM2.less HBL.out)
  have HSM := hid (same21_any hS E (HE.out.grew hM2.grew) hO2 hR2 HTT.out.2 HZL.out)
  clear hT2 hM2 hO2 hR2
  go_wp2_with fail
  refine HSM.out.mono ?_
  rintro e x3 ⟨rfl, hg⟩
  have HF2 := hid (HF.out.more hg)
  clear hg
  go_wp2_with fail
  go_ret
  exact ⟨rfl, HF2.out⟩
end Go.Proofs.YtifcnammekbfoaaGreatDoor

/- The walk of table.Copy. -/
set_option linter.unusedVariables false
set_option linter.unusedSimpArgs false
namespace Go.Proofs.YtifcnammekbfoaaGreatDoor
open Go.RowKit Go.Maps
attribute [local go_sem] Oper.semAt_some

set_option maxRecDepth 100000 in
set_option maxHeartbeats 1000000 in
theorem copyT_any {w : World} {F : Nat → Prop} {tb : Nat} {xs : List Pr} (h : TabAt w F tb xs) (hx : xs.length ≤ 1000000) :
    Calls Tryz.prog 54 #[.pointer (some ⟨tb, 0, none⟩)] w fun e w' => (∃ cb Fc, e = .returned (.pointer (some ⟨cb, 0, none⟩)) ∧ TabAt w' Fc cb xs ∧ ∀ j, Fc j → w.heap.size ≤ j) ∧ Grew w w' := by
  have HS := hid (tabAt_srt h)
  have HZ := hid (tabAt_sz h)
  obtain ⟨v, h⟩ := h
  obtain ⟨a, cap, rfl, hA⟩ := pairsAt_of h.row
  have c0 := h.cell
  have htb := cell_lt c0
  have HCL := hid (cloneP_any w a xs.length cap xs rfl hA (slForm_of h.row) hx)
  clear h hA
  go_enter Tryz.func54, Tryz.ntmps54
  go_wp2_with fail
  refine HCL.out.mono ?_
  rintro e w1 ⟨a', c', rfl, hrow, hg⟩
  have HF : Hid ((∃ Fc, TabAt (w1.alloc (.cells #[.slice a' xs.length c'] 109)) Fc w1.heap.size xs ∧ ∀ j, Fc j → w.heap.size ≤ j) ∧ Grew w (w1.alloc (.cells #[.slice a' xs.length c'] 109))) := by
    have hG : Grew w1 (w1.alloc (.cells #[.slice a' xs.length c'] 109)) := (Grew.refl w1).alloc _
    refine ⟨⟨_, tabAt_mk (by simp [go_sem]) (by simp [go_sem]) (ownsRow_grew hG hrow) (.inr fun g hg' => ?_) HS.out HZ.out, fun j hj => ?_⟩, hg.trans hG⟩
    · have := (hrow.lt g hg').2; omega
    · rcases hj with rfl | ⟨_, hj⟩
      · exact hg.size
      · exact hj
  clear hrow
  go_wp2_with fail
  go_ret
  obtain ⟨⟨Fc, h1, h2⟩, h3⟩ := HF.out
  exact ⟨⟨_, Fc, rfl, h1, h2⟩, h3⟩
end Go.Proofs.YtifcnammekbfoaaGreatDoor
