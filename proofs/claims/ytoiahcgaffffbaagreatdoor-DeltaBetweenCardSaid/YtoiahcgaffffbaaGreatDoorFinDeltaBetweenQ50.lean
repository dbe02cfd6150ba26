/- TG, LawDB: one text. -/
import Derived.Test.YtoiahcgaffffbaaGreatDoorFinDeltaBetweenQ41
import Derived.Test.YtoiahcgaffffbaaGreatDoorFinDeltaBetweenQ42
import Derived.Test.YtoiahcgaffffbaaGreatDoorFinDeltaBetweenQ43
import Derived.Test.YtoiahcgaffffbaaGreatDoorFinDeltaBetweenQ45
import Derived.Test.YtoiahcgaffffbaaGreatDoorFinDeltaBetweenQ46
import Derived.Test.YtoiahcgaffffbaaGreatDoorFinDeltaBetweenQ47
import Derived.Test.YtoiahcgaffffbaaGreatDoorFinDeltaBetweenQ49
set_option linter.unusedVariables false
set_option linter.unusedSectionVars false
set_option linter.unusedSimpArgs false
namespace Go.Proofs.YtoiahcgaffffbaaGreatDoor
open Go.RowKit Go.Maps
attribute [local go_sem] Oper.semAt_some uponV
structure TG (W : World) (st ms : Nat) (lo hi : ByteArray) (P : List Pr) (S : Int → Option An) : Prop where
  g : StG W st lo hi P S
  m : ∃ G sb D, MsAt W G ms sb lo hi D S ∧ Pl.Tt P D
  few : P.length ≤ 240
section
variable {W W' : World} {st ms su mu : Nat} {lo hi lob hib : ByteArray} {P Q : List Pr} {S SB : Int → Option An} {v v' : Value}
theorem TG.grew (h : TG W st ms lo hi P S) (g : Grew W W') : TG W' st ms lo hi P S := by
  obtain ⟨G, sb, D, h1, h2⟩ := h.m
  exact ⟨h.g.grew g, ⟨G, sb, D, h1.grew g, h2⟩, h.few⟩
theorem tg_of {w : World} {m : Md} (h : MdW w W m st ms) (hs : MdSh m) : ∃ P S, TG W st ms m.spanLo m.spanHi P S := by
  obtain ⟨n, P, S, hn, hP, hT⟩ := h.ex
  obtain ⟨Ft, Fs, G, sb, D, h1, h2, h3, _, _⟩ := hT.ex
  have hlo : m.spanLo.size ≤ 300 := by unfold Md.spanLo; have := hs.lo; split; omega; decide
  have hhi : m.spanHi.size ≤ 300 := by unfold Md.spanHi; have := hs.hi; split; omega; decide
  exact ⟨P, S, ⟨⟨Ft, Fs, n, by omega, h1⟩, hT.ins, by omega, hlo, hhi, m.span_right⟩, ⟨G, sb, D, h2, h3⟩, hP⟩
theorem pairsD_len (P Q : List Pr) : (Pl.pairsD P Q).length ≤ Q.length := List.length_filter_le _ _
theorem keysD_len (P Q : List Pr) : (Pl.keysD P Q).length ≤ P.length := by unfold Pl.keysD; rw [List.length_map]; exact List.length_filter_le _ _
theorem btwR_any (ha : TG W st ms lo hi P S) (hb : TG W su mu lob hib Q SB) :
    Calls Tryz.prog 13 #[.pointer (some ⟨ms, 0, none⟩), .pointer (some ⟨mu, 0, none⟩)] W fun e w' => ∃ v, e = .returned v ∧ DlV w' v lob hib P Q SB ∧ Grew W w' := by
  obtain ⟨Ga, ya, DA, ha1, ha2⟩ := ha.m
  obtain ⟨Gb, yb, DB, hb1, hb2⟩ := hb.m
  refine (between37_any ha1 hb1 ha2 hb2 (by have := ha.few; omega) (by have := hb.few; omega) ha.g.good hb.g.good).mono ?_
  rintro e w' ⟨vp, vk, vc, rfl, h1, h2, h3, hg⟩
  obtain ⟨ap, cp, rfl, hp⟩ := pairsAt_of h1
  obtain ⟨ak, kc, rfl, hk⟩ := strsAt_of h2
  obtain ⟨ac, cc, rfl, hc⟩ := clsAt_of h3
  exact ⟨_, rfl, ⟨⟨ap, cp, ak, kc, ac, cc, rfl, ⟨hp, hk, hc⟩⟩⟩, hg⟩
theorem ofV_any (hv : DlV W v lob hib P Q SB) : Calls Tryz.prog 15 #[v] W fun e w' => ∃ v', e = .returned v' ∧ DlV w' v' lob hib P Q SB ∧ Grew W w' := by
  obtain ⟨ap, cp, ak, kc, ac, cc, rfl, hM⟩ := hv.ex
  refine (of37_any (cp := cp) (ck := kc) (cc := cc) hM.c (clients_len SB)).mono ?_
  rintro e w' ⟨ac', cc', rfl, hc, hg⟩
  exact ⟨_, rfl, ⟨⟨ap, cp, ak, kc, ac', cc', rfl, ⟨hM.p.grew hg, hM.k.grew hg, hc⟩⟩⟩, hg⟩
theorem sameV_any (hv : DlV W v lob hib P Q SB) (hw : DlV W v' lob hib P Q SB) (hp : P.length ≤ 1000) (hq : Q.length ≤ 1000) : Calls Tryz.prog 14 #[v, v'] W fun e w' => e = .returned (.bool true) ∧ Grew W w' := by
  obtain ⟨ap, cp, ak, kc, ac, cc, rfl, hM⟩ := hv.ex
  obtain ⟨bp, dp, bk, dk, bc, dc, rfl, hN⟩ := hw.ex
  exact same37_same W hM hN ⟨by have := pairsD_len P Q; omega, by have := keysD_len P Q; omega, clients_len SB⟩
theorem bytesV_any (E : Nat → Addr) (hE : Errs stS E W) (ha : TG W st ms lo hi P S) (hb : TG W su mu lob hib Q SB) (hv : DlV W v lob hib P Q SB) :
    Calls Tryz.prog 16 #[v] W fun e w' => ∃ a c, e = .returned (.tuple #[.slice a (Pl.delB lob hib (Pl.pairsD P Q) (Pl.keysD P Q) (clients SB)).length c, .nilIface]) ∧ BytesAt w' a (Pl.delB lob hib (Pl.pairsD P Q) (Pl.keysD P Q) (clients SB)) ∧ SlForm a c ∧ Grew W w' := by
  obtain ⟨ap, cp, ak, kc, ac, cc, rfl, hM⟩ := hv.ex
  exact bytesDel_any E hE (dlr_of ha.g hb.g) hM (by have := pairsD_len P Q; have := hb.few; omega) (by have := keysD_len P Q; have := ha.few; omega)
theorem bytesW_any (ha : TG W st ms lo hi P S) (hb : TG W su mu lob hib Q SB) (hv : DlV W v lob hib P Q SB) :
    Calls Tryz.prog 17 #[v] W fun e w' => ∃ v', e = .returned v' ∧ BytesV W.heap.size (Pl.delB lob hib (Pl.pairsD P Q) (Pl.keysD P Q) (clients SB)) v' w' ∧ Grew W w' := by
  obtain ⟨ap, cp, ak, kc, ac, cc, rfl, hM⟩ := hv.ex
  refine (bytes37_any (dlr_of ha.g hb.g) hM (by have := pairsD_len P Q; have := hb.few; omega) (by have := keysD_len P Q; have := ha.few; omega)).mono ?_
  rintro e w' ⟨a, c, rfl, hr, hg⟩
  exact ⟨_, rfl, ⟨a, c, rfl, hr⟩, hg⟩
theorem readV_any (E : Nat → Addr) (hE : Errs stS E W) (ha : TG W st ms lo hi P S) (hb : TG W su mu lob hib Q SB) {a : Option Addr} {c : Nat} (hA : BytesAt W a (Pl.delB lob hib (Pl.pairsD P Q) (Pl.keysD P Q) (clients SB))) (hf : SlForm a c) :
    Calls Tryz.prog 18 #[.slice a (Pl.delB lob hib (Pl.pairsD P Q) (Pl.keysD P Q) (clients SB)).length c] W fun e w' => ∃ v, e = .returned (.tuple #[v, .nilIface]) ∧ DlV w' v lob hib P Q SB ∧ Grew W w' := by
  refine (read37_any E hE (dlr_of ha.g hb.g) (by have := pairsD_len P Q; have := hb.few; omega) (by have := keysD_len P Q; have := ha.few; omega) hA hf).mono ?_
  rintro e w' ⟨ap, cp, ak, kc, ac, cc, rfl, hM, hg⟩
  exact ⟨_, rfl, ⟨⟨ap, cp, ak, kc, ac, cc, rfl, hM⟩⟩, hg⟩
theorem sameL_any (ha : TG W st ms lo hi P S) : Calls Tryz.prog 21 #[.pointer (some ⟨st, 0, none⟩), .pointer (some ⟨ms, 0, none⟩)] W fun e w' => e = .returned (.bool true) ∧ Grew W w' := by
  obtain ⟨Ga, ya, DA, ha1, ha2⟩ := ha.m
  exact same37L_any ha.g ha1 ha2
end
theorem madeT_any (E : Nat → Addr) (m : Md) (w : World) (hE : Errs stS E w) (hA : EnsAt w m.a m.es) (hs : MdSh m) :
    Calls Tryz.prog 11 #[m.agg] w fun e w' => ∃ st ms P S, e = .returned (.tuple #[.pointer (some ⟨st, 0, none⟩), .pointer (some ⟨ms, 0, none⟩)]) ∧ TG w' st ms m.spanLo m.spanHi P S ∧ Grew w w' := by
  refine (madeL_any E m w hE hA hs).mono ?_
  rintro e w' ⟨st, ms, rfl, hM⟩
  obtain ⟨P, S, hT⟩ := tg_of hM hs
  obtain ⟨n, P', S', _, _, hW⟩ := hM.ex
  exact ⟨st, ms, P, S, rfl, hT, hW.grew⟩
end Go.Proofs.YtoiahcgaffffbaaGreatDoor
namespace Go.Proofs.YtoiahcgaffffbaaGreatDoor
open Go.RowKit Go.Maps
attribute [local go_sem] Oper.semAt_some uponV
def RD11 (lo hi : ByteArray) (P Q : List Pr) (S : Int → Option An) (k i : Nat) (v : Value) (u : World) : Prop := i = k → DlV u v lo hi P Q S
theorem RD11.mono (lo hi : ByteArray) (P Q : List Pr) (S : Int → Option An) (k : Nat) : MonoQ (RD11 lo hi P Q S k) := fun i v u u' h g e => (h e).grew g
set_option maxRecDepth 100000 in
set_option maxHeartbeats 8000000 in
theorem deltaBetween_walk (E : Nat → Addr) (m1 m2 : Md) (w : World) (hE : Errs stS E w) (hA1 : EnsAt w m1.a m1.es) (hA2 : EnsAt w m2.a m2.es) (hf1 : MdFits m1) (hf2 : MdFits m2) :
    Calls Tryz.prog 3 #[m1.agg, m2.agg] w fun e w' => e = .returned (.bool true) ∧ Grew w w' := by
  have HE := hid hE
  have HAL := hid (fun W (g : Grew w W) => alive37 E W (hE.grew g))
  have HL1 := hid (fun W (g : Grew w W) => long37_any m1 W (hA1.grew g) hf1)
  have HL2 := hid (fun W (g : Grew w W) => long37_any m2 W (hA2.grew g) hf2)
  have HM1 := hid (fun W (g : Grew w W) (h : m1.long = false) => madeT_any E m1 W (hE.grew g) (hA1.grew g) (long37_short h))
  have HM2 := hid (fun W (g : Grew w W) (h : m2.long = false) => madeT_any E m2 W (hE.grew g) (hA2.grew g) (long37_short h))
  clear hE hA1 hA2 hf1 hf2
  generalize m1.long = g1 at *
  generalize m2.long = g2 at *
  generalize m1.spanLo = p1 at *
  generalize m1.spanHi = r1 at *
  generalize m2.spanLo = p2 at *
  generalize m2.spanHi = r2 at *
  unfold Md.agg Md.vals at *
  try dsimp only at *
  generalize m1.lo = l1 at *
  generalize m1.hi = h1 at *
  generalize m1.a = a1 at *
  generalize m1.es.length = n1 at *
  generalize m1.cap = c1 at *
  generalize m2.lo = l2 at *
  generalize m2.hi = h2 at *
  generalize m2.a = a2 at *
  generalize m2.es.length = n2 at *
  generalize m2.cap = c2 at *
  go_enter Tryz.func3, Tryz.ntmps3
  go_upto_region 1 with fail
  obtain ⟨Y, hY⟩ : ∃ Y, Y = (w.alloc (.cells #[.string l1, .string h1, .slice a1 n1 c1] 26)).alloc (.cells #[.string l2, .string h2, .slice a2 n2 c2] 26) := ⟨_, rfl⟩
  have gY : Grew w Y := by rw [hY]; exact ((Grew.refl w).alloc _).alloc _
  have d0 : Y.cell? ⟨w.heap.size, 0, none⟩ = some (.string l1) := by rw [hY]; simp [go_sem]
  have d1 : Y.cell? ⟨w.heap.size, 1, none⟩ = some (.string h1) := by rw [hY]; simp [go_sem]
  have d2 : Y.cell? ⟨w.heap.size, 2, none⟩ = some (.slice a1 n1 c1) := by rw [hY]; simp [go_sem]
  have e0 : Y.cell? ⟨w.heap.size + 1, 0, none⟩ = some (.string l2) := by rw [hY]; simp [go_sem]
  have e1 : Y.cell? ⟨w.heap.size + 1, 1, none⟩ = some (.string h2) := by rw [hY]; simp [go_sem]
  have e2 : Y.cell? ⟨w.heap.size + 1, 2, none⟩ = some (.slice a2 n2 c2) := by rw [hY]; simp [go_sem]
  have HGY := hid gY
  rw [← hY]
  obtain ⟨x1, hx1⟩ : ∃ x1, x1 = w.heap.size := ⟨_, rfl⟩
  obtain ⟨x2, hx2⟩ : ∃ x2, x2 = w.heap.size + 1 := ⟨_, rfl⟩
  rw [← hx2] at e0 e1 e2 ⊢
  rw [← hx1] at d0 d1 d2 ⊢
  have hxl1 := cell_lt d0
  have hxl2 := cell_lt e0
  have HC := hid (fun (W : World) (g : Grew Y W) => show (W.cell? ⟨x1, 0, none⟩ = some (.string l1) ∧ W.cell? ⟨x1, 1, none⟩ = some (.string h1) ∧ W.cell? ⟨x1, 2, none⟩ = some (.slice a1 n1 c1) ∧ x1 < W.heap.size) ∧ (W.cell? ⟨x2, 0, none⟩ = some (.string l2) ∧ W.cell? ⟨x2, 1, none⟩ = some (.string h2) ∧ W.cell? ⟨x2, 2, none⟩ = some (.slice a2 n2 c2) ∧ x2 < W.heap.size) from
    ⟨⟨(g.cells.1 _ _ hxl1).trans d0, (g.cells.1 _ _ hxl1).trans d1, (g.cells.1 _ _ hxl1).trans d2, Nat.lt_of_lt_of_le hxl1 g.size⟩, ⟨(g.cells.1 _ _ hxl2).trans e0, (g.cells.1 _ _ hxl2).trans e1, (g.cells.1 _ _ hxl2).trans e2, Nat.lt_of_lt_of_le hxl2 g.size⟩⟩)
  clear hY gY hx1 hx2 d0 d1 d2 e0 e1 e2 hxl1 hxl2
  go_wp2_with fail
  refine (HAL.out Y HGY.out).mono ?_
  rintro e w1 ⟨rfl, hg1⟩
  have HG1 := hid hg1
  clear hg1 HAL
  obtain ⟨⟨q0, q1, q2, q3⟩, _⟩ := HC.out w1 HG1.out
  go_wp2_with fail
  refine (HL1.out w1 (HGY.out.trans HG1.out)).mono ?_
  rintro e w2 ⟨rfl, hg2⟩
  have HG2 := hid (HG1.out.trans hg2)
  clear hg2 HL1 q0 q1 q2 q3
  cases g1 with
  | true =>
    have HF := hid (HGY.out.trans HG2.out)
    go_wp2_with fail
    go_ret
    exact ⟨rfl, HF.out⟩
  | false =>
    obtain ⟨_, ⟨q0, q1, q2, q3⟩⟩ := HC.out w2 HG2.out
    go_wp2_with fail
    refine (HL2.out w2 (HGY.out.trans HG2.out)).mono ?_
    rintro e w3 ⟨rfl, hg3⟩
    have HG3 := hid (HG2.out.trans hg3)
    clear hg3 HL2 q0 q1 q2 q3
    cases g2 with
    | true =>
      have HF := hid (HGY.out.trans HG3.out)
      go_wp2_with fail
      go_ret
      exact ⟨rfl, HF.out⟩
    | false =>
      obtain ⟨⟨q0, q1, q2, q3⟩, _⟩ := HC.out w3 HG3.out
      go_wp2_with fail
      refine (HM1.out w3 (HGY.out.trans HG3.out) (by trivial)).mono ?_
      rintro e w4 ⟨sx, mx, P, SA, rfl, hT1, hg4⟩
      have HT1 := hid hT1
      have HG4 := hid (HG3.out.trans hg4)
      clear hg4 hT1 HM1 q0 q1 q2 q3
      obtain ⟨_, ⟨q0, q1, q2, q3⟩⟩ := HC.out w4 HG4.out
      go_wp2_with fail
      refine (HM2.out w4 (HGY.out.trans HG4.out) (by trivial)).mono ?_
      rintro e w5 ⟨sy, my, Q, SB, rfl, hT2, hg5⟩
      have HT2 := hid hT2
      have HT1 := hid (HT1.out.grew hg5)
      have HE5 := hid (HE.out.grew ((HGY.out.trans HG4.out).trans hg5))
      have HG5 := hid ((HGY.out.trans HG4.out).trans hg5)
      clear hg5 hT2 HM2 q0 q1 q2 q3 HC HG1 HG2 HG3 HG4 HGY HE
      go_wp2_with fail
      refine (btwG_any E HE5.out HT1.out.g HT2.out.g).mono ?_
      rintro e w6 ⟨v, rfl, hv, hg6⟩
      have HV := hid hv
      have HG6 := hid hg6
      obtain ⟨ap, cp, ak, kc, ac, cc, e1, _⟩ := hv.ex
      subst e1
      clear hv hg6
      generalize hL1 : (Pl.pairsD P Q).length = l1' at *
      generalize hL2 : (Pl.keysD P Q).length = l2' at *
      generalize hL3 : (clients SB).length = l3' at *
      go_upto_region 10 with fail
      obtain ⟨X, hX⟩ : ∃ X, X = w6.alloc (.cells #[.string p2, .string r2, .slice ap l1' cp, .slice ak l2' kc, .slice ac l3' cc] 36) := ⟨_, rfl⟩
      have gX : Grew w6 X := by rw [hX]; exact (Grew.refl w6).alloc _
      obtain ⟨db, hdb⟩ : ∃ db, db = w6.heap.size := ⟨_, rfl⟩
      have HDB := hid (show (X.cell? ⟨db, 0, none⟩ = some (.string p2) ∧ X.cell? ⟨db, 1, none⟩ = some (.string r2) ∧ X.cell? ⟨db, 2, none⟩ = some (.slice ap l1' cp) ∧ X.cell? ⟨db, 3, none⟩ = some (.slice ak l2' kc) ∧ X.cell? ⟨db, 4, none⟩ = some (.slice ac l3' cc)) ∧ db < X.heap.size from by rw [hX, hdb]; exact ⟨⟨by simp [go_sem], by simp [go_sem], by simp [go_sem], by simp [go_sem], by simp [go_sem]⟩, by simp⟩)
      have HG7 := hid (HG6.out.trans gX)
      have HVX := hid (HV.out.grew gX)
      rw [← hX, ← hdb]
      clear hX gX hdb HV HG6
      go_wp2_with fail
      refine (btwR_any (HT1.out.grew HG7.out) (HT2.out.grew HG7.out)).mono ?_
      rintro e w8 ⟨u, rfl, hu, hg8⟩
      have HU := hid hu
      have HG8 := hid hg8
      obtain ⟨bp, dp, bk, dk, bc, dc, e2, _⟩ := hu.ex
      subst e2
      rw [hL1, hL2, hL3] at HU ⊢
      clear hu hg8
      go_upto_region 11 with fail
      obtain ⟨Z, hZ⟩ : ∃ Z, Z = w8.alloc (.cells #[.string p2, .string r2, .slice bp l1' dp, .slice bk l2' dk, .slice bc l3' dc] 40) := ⟨_, rfl⟩
      have gZ : Grew w8 Z := by rw [hZ]; exact (Grew.refl w8).alloc _
      obtain ⟨rb, hrb⟩ : ∃ rb, rb = w8.heap.size := ⟨_, rfl⟩
      have HRB := hid (show (Z.cell? ⟨rb, 0, none⟩ = some (.string p2) ∧ Z.cell? ⟨rb, 1, none⟩ = some (.string r2) ∧ Z.cell? ⟨rb, 2, none⟩ = some (.slice bp l1' dp) ∧ Z.cell? ⟨rb, 3, none⟩ = some (.slice bk l2' dk) ∧ Z.cell? ⟨rb, 4, none⟩ = some (.slice bc l3' dc)) ∧ rb < Z.heap.size from by rw [hZ, hrb]; exact ⟨⟨by simp [go_sem], by simp [go_sem], by simp [go_sem], by simp [go_sem], by simp [go_sem]⟩, by simp⟩)
      have g7Z := HG8.out.trans gZ
      have HGZ := hid (HG7.out.trans g7Z)
      have HVZ := hid (HVX.out.grew g7Z)
      have HUZ := hid (HU.out.grew gZ)
      have HDZ := hid (show (Z.cell? ⟨db, 0, none⟩ = some (.string p2) ∧ Z.cell? ⟨db, 1, none⟩ = some (.string r2) ∧ Z.cell? ⟨db, 2, none⟩ = some (.slice ap l1' cp) ∧ Z.cell? ⟨db, 3, none⟩ = some (.slice ak l2' kc) ∧ Z.cell? ⟨db, 4, none⟩ = some (.slice ac l3' cc)) ∧ db < Z.heap.size from ⟨⟨(g7Z.cells.1 _ _ HDB.out.2).trans HDB.out.1.1, (g7Z.cells.1 _ _ HDB.out.2).trans HDB.out.1.2.1, (g7Z.cells.1 _ _ HDB.out.2).trans HDB.out.1.2.2.1, (g7Z.cells.1 _ _ HDB.out.2).trans HDB.out.1.2.2.2.1, (g7Z.cells.1 _ _ HDB.out.2).trans HDB.out.1.2.2.2.2⟩, Nat.lt_of_lt_of_le HDB.out.2 g7Z.size⟩)
      rw [← hZ, ← hrb]
      clear hZ gZ hrb g7Z HU HVX HG7 HG8 HDB
      have HPQ := hid (show P.length ≤ 1000 ∧ Q.length ≤ 1000 from ⟨by have := HT1.out.few; omega, by have := HT2.out.few; omega⟩)
      have HCE := hid (fun (W : World) (g : Grew Z W) => show ((W.cell? ⟨db, 0, none⟩ = some (.string p2) ∧ W.cell? ⟨db, 1, none⟩ = some (.string r2) ∧ W.cell? ⟨db, 2, none⟩ = some (.slice ap l1' cp) ∧ W.cell? ⟨db, 3, none⟩ = some (.slice ak l2' kc) ∧ W.cell? ⟨db, 4, none⟩ = some (.slice ac l3' cc)) ∧ db < W.heap.size) ∧ ((W.cell? ⟨rb, 0, none⟩ = some (.string p2) ∧ W.cell? ⟨rb, 1, none⟩ = some (.string r2) ∧ W.cell? ⟨rb, 2, none⟩ = some (.slice bp l1' dp) ∧ W.cell? ⟨rb, 3, none⟩ = some (.slice bk l2' dk) ∧ W.cell? ⟨rb, 4, none⟩ = some (.slice bc l3' dc)) ∧ rb < W.heap.size) from by
        obtain ⟨⟨k0, k1, k2, k3, k4⟩, k5⟩ := HDZ.out
        obtain ⟨⟨j0, j1, j2, j3, j4⟩, j5⟩ := HRB.out
        exact ⟨⟨⟨(g.cells.1 _ _ k5).trans k0, (g.cells.1 _ _ k5).trans k1, (g.cells.1 _ _ k5).trans k2, (g.cells.1 _ _ k5).trans k3, (g.cells.1 _ _ k5).trans k4⟩, Nat.lt_of_lt_of_le k5 g.size⟩, ⟨⟨(g.cells.1 _ _ j5).trans j0, (g.cells.1 _ _ j5).trans j1, (g.cells.1 _ _ j5).trans j2, (g.cells.1 _ _ j5).trans j3, (g.cells.1 _ _ j5).trans j4⟩, Nat.lt_of_lt_of_le j5 g.size⟩⟩)
      clear HDZ HRB
      -- the deltas are the same
      obtain ⟨⟨⟨k0, k1, k2, k3, k4⟩, k5⟩, ⟨⟨j0, j1, j2, j3, j4⟩, j5⟩⟩ := HCE.out Z (Grew.refl Z)
      have K0 := wd_cell k0
      have K1 := wd_cell k1
      have K2 := wd_cell k2
      have K3 := wd_cell k3
      have K4 := wd_cell k4
      have J0 := wd_cell j0
      have J1 := wd_cell j1
      have J2 := wd_cell j2
      have J3 := wd_cell j3
      have J4 := wd_cell j4
      have HRM := hid (RD11.mono p2 r2 P Q SB 1)
      clear k0 k1 k2 k3 k4 j0 j1 j2 j3 j4
      refine wp_region_mixS 3 [1] (Grew Z) Grew (JQ (RD11 p2 r2 P Q SB 1) Z) (fun f a => a.put (some 46) (f 1)) (by kernel_rfl) (by kernel_rfl) (fun _ _ => rfl) (JQ.start ..) (fun _ _ _ h => h.grew) Grew.refl (fun _ _ _ _ h g => h.more HRM.out g) ?_
      repeat (first
    | (refine mixS_loose (by rfl) (by rfl) ?_)
    | (refine mixS_plain (by rfl) (by rfl) (by rfl) (by first | exact Grew.refl | exact fun _ => rfl) (by rfl) ?_; intro K hK; go_big_quiet_op; go_big_quiet_on)
    | (refine mixS_skip (by rfl) (by rfl) (by rfl) ?_; simp only [Act.put, List.setIfInBounds_toArray, List.set_cons_zero, List.set_cons_succ]))
      refine mixS_done (by rfl) ⟨⟨loose_of rfl (fun _ a => a) (fun _ _ => rfl) (fun _ => rfl) ?_, trivial⟩, ?_⟩
      · intro L f u hJ hL hd
        have HJ := hid hJ
        clear hJ hL hd K0 K1 K2 K3 K4 J0 J1 J2 J3 J4
        go_simp
        refine (ofV_any (HVZ.out.grew HJ.out.grew)).mono ?_
        rintro e u' ⟨v', rfl, hv, hg⟩
        exact ⟨_, rfl, HJ.out.put HRM.out 1 hg fun _ => hv⟩
      intro f u hJ
      have HV1 := hid (hJ.at_ 1 rfl rfl)
      have HGU := hid hJ.grew
      generalize f 1 = vo at *
      clear hJ K0 K1 K2 K3 K4 J0 J1 J2 J3 J4 HRM
      dsimp only [List.drop]
      simp only [Act.put, List.setIfInBounds_toArray, List.set_cons_succ, List.set_cons_zero]
      go_wp2_with fail
      refine (sameV_any HV1.out (HUZ.out.grew HGU.out) HPQ.out.1 HPQ.out.2).mono ?_
      rintro e w9 ⟨rfl, hg9⟩
      have HG9 := hid (HGU.out.trans hg9)
      clear hg9 HV1 HGU k5 j5
      -- the bytes
      obtain ⟨⟨⟨k0, k1, k2, k3, k4⟩, k5⟩, _⟩ := HCE.out w9 HG9.out
      go_wp2_with fail
      refine (bytesV_any E (HE5.out.grew (HGZ.out.trans HG9.out)) (HT1.out.grew (HGZ.out.trans HG9.out)) (HT2.out.grew (HGZ.out.trans HG9.out)) (HVZ.out.grew HG9.out)).mono ?_
      rintro e wa ⟨ba, bcap, rfl, hA, hF, hga⟩
      have HBW := hid (fun (W : World) (g : Grew Z W) => bytesW_any (HT1.out.grew (HGZ.out.trans g)) (HT2.out.grew (HGZ.out.trans g)) (HUZ.out.grew g))
      have HRV := hid (fun (W : World) (g : Grew Z W) (a : Option Addr) (c : Nat) h1 h2 => readV_any E (HE5.out.grew (HGZ.out.trans g)) (HT1.out.grew (HGZ.out.trans g)) (HT2.out.grew (HGZ.out.trans g)) (a := a) (c := c) h1 h2)
      generalize Pl.delB p2 r2 (Pl.pairsD P Q) (Pl.keysD P Q) (clients SB) = bs at *
      have HGA := hid (HG9.out.trans hga)
      have HBA := hid (And.intro hA hF)
      clear hA hF hga k0 k1 k2 k3 k4 k5 HG9
      go_upto_region 14 with fail
      have hcv : ∀ p : Wd (Grew wa), (convert 44 9 (.slice ba bs.length bcap)).run Tryz.prog p.w = .ok (.string (strOfNums bs)) p.w := fun p => run_conv_bytes rfl (HBA.out.1.grew p.ok) HBA.out.2
      obtain ⟨_, ⟨⟨j0, j1, j2, j3, j4⟩, j5⟩⟩ := HCE.out wa HGA.out
      have J0 := wd_cell j0
      have J1 := wd_cell j1
      have J2 := wd_cell j2
      have J3 := wd_cell j3
      have J4 := wd_cell j4
      have HRM := hid (RSm.mono wa bs)
      clear j0 j1 j2 j3 j4
      refine wp_region_mixS 8 [6, 7] (Grew wa) Grew (JQ (RSm wa bs) wa) (fun f a => (a.put (some 61) (f 6)).put (some 62) (f 7)) (by kernel_rfl) (by kernel_rfl) (fun _ _ => rfl) (JQ.start ..) (fun _ _ _ h => h.grew) Grew.refl (fun _ _ _ _ h g => h.more HRM.out g) ?_
      repeat (first
    | (refine mixS_loose (by rfl) (by rfl) ?_)
    | (refine mixS_plain (by rfl) (by rfl) (by rfl) (by first | exact Grew.refl | exact fun _ => rfl) (by rfl) ?_; intro K hK; go_big_quiet_op; go_big_quiet_on)
    | (refine mixS_skip (by rfl) (by rfl) (by rfl) ?_; simp only [Act.put, List.setIfInBounds_toArray, List.set_cons_zero, List.set_cons_succ]))
      refine mixS_done (by rfl) ⟨⟨loose_of rfl (fun _ a => a) (fun _ _ => rfl) (fun _ => rfl) ?_, loose_of rfl (fun f a => a.put (some 61) (f 6)) (fun _ _ => rfl) (fun _ => rfl) ?_, trivial⟩, ?_⟩
      · intro L f u hJ hL hd
        have HJ := hid hJ
        clear hJ hL hd hcv J0 J1 J2 J3 J4
        go_simp
        refine (HBW.out u (HGA.out.trans HJ.out.grew)).mono ?_
        rintro e u' ⟨v', rfl, hr, hg⟩
        obtain ⟨a, c, rfl, hr⟩ := hr
        exact ⟨_, rfl, HJ.out.put HRM.out 6 hg ⟨fun _ => ⟨_, _, rfl, ownsRow_base HJ.out.grew.size hr⟩, fun e => absurd e (by decide)⟩⟩
      · intro L f u hJ hL hd
        obtain ⟨a, c, e14, hr⟩ := (hJ.at_ 6 (hd 6 rfl (by decide))).1 rfl
        rw [e14] at hr
        obtain ⟨a', c', e', hA, hF, _⟩ := bytesAt_of hr
        cases e'
        have hcv2 := run_conv_bytes (w := u) rfl hA hF
        have HJ := hid hJ
        clear hJ hL hd hcv hr hA hF J0 J1 J2 J3 J4
        rw [e14]
        clear e14
        go_simp
        exact HJ.out.same HRM.out 7 ⟨fun e => absurd e (by decide), fun _ => rfl⟩
      intro f u hJ
      have e7 := (hJ.at_ 7 rfl).2 rfl
      have HGB := hid (HGA.out.trans hJ.grew)
      have HBB := hid (And.intro (HBA.out.1.grew hJ.grew) HBA.out.2)
      clear hJ hcv HRM HGA HBA J0 J1 J2 J3 J4 j5 HBW
      dsimp only [List.drop]
      simp only [Act.put, List.setIfInBounds_toArray, List.set_cons_succ, List.set_cons_zero]
      rw [e7]
      clear e7
      -- they are read as the same
      go_wp2_with fail
      refine (HRV.out u HGB.out ba bcap HBB.out.1 HBB.out.2).mono ?_
      rintro e wb ⟨vb, rfl, hvb, hgb⟩
      have HVB := hid hvb
      have HGC := hid (HGB.out.trans hgb)
      obtain ⟨ep, fp, ek, fk, ec, fc, e3, _⟩ := hvb.ex
      subst e3
      rw [hL1, hL2, hL3] at HVB ⊢
      clear hvb hgb HRV HBB HGB
      go_upto_region 17 with fail
      obtain ⟨T, hT⟩ : ∃ T, T = wb.alloc (.cells #[.string p2, .string r2, .slice ep l1' fp, .slice ek l2' fk, .slice ec l3' fc] 36) := ⟨_, rfl⟩
      have gT : Grew wb T := by rw [hT]; exact (Grew.refl wb).alloc _
      obtain ⟨tb, htb⟩ : ∃ tb, tb = wb.heap.size := ⟨_, rfl⟩
      have HTB := hid (show (T.cell? ⟨tb, 0, none⟩ = some (.string p2) ∧ T.cell? ⟨tb, 1, none⟩ = some (.string r2) ∧ T.cell? ⟨tb, 2, none⟩ = some (.slice ep l1' fp) ∧ T.cell? ⟨tb, 3, none⟩ = some (.slice ek l2' fk) ∧ T.cell? ⟨tb, 4, none⟩ = some (.slice ec l3' fc)) ∧ tb < T.heap.size from by rw [hT, htb]; exact ⟨⟨by simp [go_sem], by simp [go_sem], by simp [go_sem], by simp [go_sem], by simp [go_sem]⟩, by simp⟩)
      have HGT := hid (HGC.out.trans gT)
      have HVT := hid (HVB.out.grew gT)
      rw [← hT, ← htb]
      clear hT gT htb HVB HGC
      obtain ⟨_, ⟨⟨j0, j1, j2, j3, j4⟩, j5⟩⟩ := HCE.out T HGT.out
      obtain ⟨⟨k0, k1, k2, k3, k4⟩, k5⟩ := HTB.out
      have K0 := wd_cell k0
      have K1 := wd_cell k1
      have K2 := wd_cell k2
      have K3 := wd_cell k3
      have K4 := wd_cell k4
      have J0 := wd_cell j0
      have J1 := wd_cell j1
      have J2 := wd_cell j2
      have J3 := wd_cell j3
      have J4 := wd_cell j4
      have HRM := hid (RD11.mono p2 r2 P Q SB 4)
      clear k0 k1 k2 k3 k4 j0 j1 j2 j3 j4 HTB
      refine wp_region_mixS 6 [4] (Grew T) Grew (JQ (RD11 p2 r2 P Q SB 4) T) (fun f a => a.put (some 74) (f 4)) (by kernel_rfl) (by kernel_rfl) (fun _ _ => rfl) (JQ.start ..) (fun _ _ _ h => h.grew) Grew.refl (fun _ _ _ _ h g => h.more HRM.out g) ?_
      repeat (first
    | (refine mixS_loose (by rfl) (by rfl) ?_)
    | (refine mixS_plain (by rfl) (by rfl) (by rfl) (by first | exact Grew.refl | exact fun _ => rfl) (by rfl) ?_; intro K hK; go_big_quiet_op; go_big_quiet_on)
    | (refine mixS_skip (by rfl) (by rfl) (by rfl) ?_; simp only [Act.put, List.setIfInBounds_toArray, List.set_cons_zero, List.set_cons_succ]))
      refine mixS_done (by rfl) ⟨⟨loose_of rfl (fun _ a => a) (fun _ _ => rfl) (fun _ => rfl) ?_, trivial⟩, ?_⟩
      · intro L f u hJ hL hd
        have HJ := hid hJ
        clear hJ hL hd K0 K1 K2 K3 K4 J0 J1 J2 J3 J4
        go_simp
        refine (ofV_any (HVT.out.grew HJ.out.grew)).mono ?_
        rintro e u' ⟨v', rfl, hv, hg⟩
        exact ⟨_, rfl, HJ.out.put HRM.out 4 hg fun _ => hv⟩
      intro f u2 hJ
      have HV1 := hid (hJ.at_ 4 rfl rfl)
      have HGU := hid (HGT.out.trans hJ.grew)
      generalize f 4 = vo2 at *
      clear hJ K0 K1 K2 K3 K4 J0 J1 J2 J3 J4 HRM HVT HGT k5 j5
      dsimp only [List.drop]
      simp only [Act.put, List.setIfInBounds_toArray, List.set_cons_succ, List.set_cons_zero]
      go_wp2_with fail
      refine (sameV_any HV1.out (HUZ.out.grew HGU.out) HPQ.out.1 HPQ.out.2).mono ?_
      rintro e wc ⟨rfl, hgc⟩
      have HGD := hid (HGU.out.trans hgc)
      clear hgc HV1 HGU HUZ
      -- applied
      obtain ⟨⟨⟨k0, k1, k2, k3, k4⟩, k5⟩, _⟩ := HCE.out wc HGD.out
      go_wp2_with fail
      have gD := HGZ.out.trans HGD.out
      refine (aplG_any E (sa := sx) (loa := p1) (hia := r1) (SA := SA) (HE5.out.grew gD) (HT1.out.g.grew gD) (HT2.out.g.grew gD) (HVZ.out.grew HGD.out)).mono ?_
      rintro e wd ⟨zb, rfl, hz, _, hgd⟩
      have HZ := hid hz
      have HGE := hid (HGD.out.trans hgd)
      clear hz hgd gD k0 k1 k2 k3 k4 k5 HGD
      have HSZ := hid (sameG_any HZ.out (HT2.out.g.grew (HGZ.out.trans HGE.out)))
      have HSX := hid (fun (W : World) (g : Grew Z W) => sameL_any (HT1.out.grew (HGZ.out.trans g)))
      have HEM := hid (fun (W : World) (g : Grew Z W) => emptyGG_any E (HE5.out.grew (HGZ.out.trans g)) (HT1.out.g.grew (HGZ.out.trans g)) (HT2.out.g.grew (HGZ.out.trans g)) (HVZ.out.grew g))
      have HSS := hid (fun (W : World) (g : Grew Z W) => sameGG_any (HT1.out.g.grew (HGZ.out.trans g)) (HT2.out.g.grew (HGZ.out.trans g)))
      generalize decide (stB p1 r1 P SA = stB p2 r2 Q SB) = rr at *
      clear HZ
      go_wp2_with fail
      refine HSZ.out.mono ?_
      rintro e we ⟨rfl, hge⟩
      have HGF := hid (HGE.out.trans hge)
      clear hge HSZ HGE
      go_wp2_with fail
      refine (HSX.out we HGF.out).mono ?_
      rintro e wf ⟨rfl, hgf⟩
      have HGG := hid (HGF.out.trans hgf)
      clear hgf HSX HGF
      obtain ⟨⟨⟨k0, k1, k2, k3, k4⟩, k5⟩, _⟩ := HCE.out wf HGG.out
      go_wp2_with fail
      refine (HEM.out wf HGG.out).mono ?_
      rintro e wg ⟨rfl, hgg⟩
      have HGH := hid (HGG.out.trans hgg)
      clear hgg HEM HGG k0 k1 k2 k3 k4 k5
      go_wp2_with fail
      refine (HSS.out wg HGH.out).mono ?_
      rintro e wh ⟨rfl, hgh⟩
      have HGI := hid (HG5.out.trans (HGZ.out.trans (HGH.out.trans hgh)))
      clear hgh HSS HGH
      go_wp2_with fail
      go_ret
      exact ⟨by simp, HGI.out⟩
end Go.Proofs.YtoiahcgaffffbaaGreatDoor
