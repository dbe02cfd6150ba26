/- St3, StG, SmG, DelB: one text. -/
import Derived.Test.YtoiahcgaffffbaaGreatDoorFinDeltaBetweenQ35
import Derived.Test.YtoiahcgaffffbaaGreatDoorFinDeltaBetweenQ8
import Derived.Test.YtoiahcgaffffbaaGreatDoorFinDeltaBetweenQ37
import Derived.Test.YtoiahcgaffffbaaGreatDoorFinDeltaBetweenQ38
import Derived.Test.YtoiahcgaffffbaaGreatDoorFinDeltaBetweenQ29
import Derived.Test.YtoiahcgaffffbaaGreatDoorFinDeltaBetweenQ36
set_option linter.unusedVariables false
set_option linter.unusedSectionVars false
set_option linter.unusedSimpArgs false
namespace Go.Proofs.YtoiahcgaffffbaaGreatDoor
open Go.RowKit Go.Maps
attribute [local go_sem] Oper.semAt_some uponV
theorem bytes_fields {w : World} {a : Option Addr} {ns : List Int} (h : BytesAt w a ns) (k : Nat) (hk : k < ns.length) : ∃ b off, a = some ⟨b, off, none⟩ ∧ b < w.heap.size ∧ w.cell? ⟨b, off + k, none⟩ = some (.int .u8 (ns[k]'hk)) := by
  rcases h with h | ⟨b, off, e, hb, hc⟩
  · rw [h] at hk; cases hk
  · exact ⟨b, off, e, hb, hc k _ (List.getElem?_eq_getElem hk)⟩
set_option maxRecDepth 100000 in
set_option maxHeartbeats 4000000 in
theorem equalB_any (w : World) (a b : Option Addr) (c d : Nat) (ns : List Int) (hA : BytesAt w a ns) (hB : BytesAt w b ns) (hn : ns.length ≤ 1000000) :
    Calls Tryz.prog 80 #[.slice a ns.length c, .slice b ns.length d] w fun e w' => e = .returned (.bool true) ∧ Grew w w' := by
  have HA := hid hA
  have HB := hid hB
  obtain ⟨m, hm⟩ : ∃ m, m = ns.length := ⟨_, rfl⟩
  have HM := hid hm
  rw [← hm] at hn ⊢
  clear hA hB hm
  go_enter Tryz.func80, Tryz.ntmps80
  go_wp2_with fail
  go_loopw [5, 13] (fun u i wr => ∃ k : Nat, k ≤ m ∧ i = .int .i64 k ∧ Hid (Grew w wr)) (fun _ i _ => m - (intOf i).toNat)
  case atStart => exact ⟨0, Nat.zero_le _, rfl, Grew.refl w⟩
  case round =>
    obtain ⟨k, hk, rfl, HG⟩ := hrel
    by_cases hlt : k < m
    · have hk' : k < ns.length := by rw [← HM.out]; exact hlt
      obtain ⟨b1, o1, rfl, hb1, hc1⟩ := bytes_fields HA.out k hk'
      obtain ⟨b2, o2, rfl, hb2, hc2⟩ := bytes_fields HB.out k hk'
      have C1 := wd_cell ((HG.out.cells.1 _ _ hb1).trans hc1)
      have C2 := wd_cell ((HG.out.cells.1 _ _ hb2).trans hc2)
      generalize ns[k] = q at *
      have hkI : (k : Int) < (m : Int) := by omega
      clear hc1 hc2 hk'
      go_wp2_with fail
      refine wp_region_still 9 (by kernel_rfl) (by kernel_rfl) (fun _ _ => rfl) ?_
      repeat (first
    | (refine mixS_plain (by rfl) (by rfl) (by rfl) (by first | exact Grew.refl | exact fun _ => rfl) (by rfl) ?_; intro K hK; go_big_quiet_op; go_big_quiet_on)
    | (refine mixS_skip (by rfl) (by rfl) (by rfl) ?_; simp only [Act.put, List.setIfInBounds_toArray, List.set_cons_zero, List.set_cons_succ]))
      refine mixS_nil ?_
      intro x hG
      have HGX := hid (HG.out.trans hG)
      clear C1 C2 hG
      dsimp only [List.drop]
      go_wp2_with fail
      go_roundw
      case rel => exact ⟨k + 1, by omega, by go_num, HGX⟩
      case measure => simp [intOf]; omega
    · have hkm : k = m := by omega
      subst hkm
      go_wp2_with fail
      go_ret
      exact ⟨rfl, HG.out⟩
set_option maxRecDepth 100000 in
set_option maxHeartbeats 4000000 in
theorem sameS_any {w : World} {Ft Fs Gt Gs : Nat → Prop} {st su n m : Nat} {lo hi : ByteArray} {P : List Pr} {S : Int → Option An} (h : StAt w Ft Fs st n lo hi P S) (k : StAt w Gt Gs su m lo hi P S) (hx : P.length ≤ 1000) (hn : n ≤ 1000000) (hm : m ≤ 1000000) (hl : lo.size ≤ 300) (hh : hi.size ≤ 300) (hP : (Pl.tabB P).length ≤ 60000) (hS : (seenB S).length ≤ 1000) :
    Calls Tryz.prog 20 #[.pointer (some ⟨st, 0, none⟩), .pointer (some ⟨su, 0, none⟩)] w fun e w' => e = .returned (.bool true) ∧ Grew w w' := by
  have HL := hid (stB_len hl hh hP hS)
  have H1 := hid (bytesS_any h hx hn hl hh hP hS)
  have H2 := hid (fun W (g : Grew w W) => bytesS_any (k.grew g) hx hm hl hh hP hS)
  clear h k
  generalize stB lo hi P S = bs at *
  go_enter Tryz.func20, Tryz.ntmps20
  go_wp2_with fail
  refine H1.out.mono ?_
  rintro e w1 ⟨a1, c1, rfl, hr1, hg1⟩
  obtain ⟨a1', c1', e1, hA1, _, _⟩ := bytesAt_of hr1
  cases e1
  have HA1 := hid hA1
  have HG1 := hid hg1
  clear hr1 hA1 hg1
  go_wp2_with fail
  refine (H2.out w1 HG1.out).mono ?_
  rintro e w2 ⟨a2, c2, rfl, hr2, hg2⟩
  obtain ⟨a2', c2', e2, hA2, _, _⟩ := bytesAt_of hr2
  cases e2
  have HEQ := hid (equalB_any w2 a1 a2 c1 c2 bs (HA1.out.grew hg2) hA2 (by have := HL.out; omega))
  have HG2 := hid (HG1.out.trans hg2)
  clear hr2 hA2 hg2
  go_wp2_with fail
  refine HEQ.out.mono ?_
  rintro e w3 ⟨rfl, hg3⟩
  have HG3 := hid (HG2.out.trans hg3)
  clear hg3
  go_wp2_with fail
  go_ret
  exact ⟨rfl, HG3.out⟩
end Go.Proofs.YtoiahcgaffffbaaGreatDoor
namespace Go.Proofs.YtoiahcgaffffbaaGreatDoor
open Go.RowKit Go.Maps Go.Sort
attribute [local go_sem] Oper.semAt_some uponV
structure StG (W : World) (st : Nat) (lo hi : ByteArray) (P : List Pr) (S : Int → Option An) : Prop where
  ex : ∃ Ft Fs n, n ≤ 1000 ∧ StAt W Ft Fs st n lo hi P S
  ins : Pl.InS lo hi P
  few : P.length ≤ 250
  lsz : lo.size ≤ 300
  hsz : hi.size ≤ 300
  span : Pl.rightS lo hi = true
section
variable {W W' : World} {st : Nat} {lo hi : ByteArray} {P : List Pr} {S : Int → Option An}
theorem StG.grew (h : StG W st lo hi P S) (g : Grew W W') : StG W' st lo hi P S := by
  obtain ⟨Ft, Fs, n, h1, h2⟩ := h.ex
  exact ⟨⟨Ft, Fs, n, h1, h2.grew g⟩, h.ins, h.few, h.lsz, h.hsz, h.span⟩
theorem StG.srt (h : StG W st lo hi P S) : Pl.Srt P := by
  obtain ⟨Ft, Fs, n, h1, tb, sb, h2⟩ := h.ex
  exact tabAt_srt h2.tab
theorem StG.good (h : StG W st lo hi P S) : Pl.Good P := by
  obtain ⟨Ft, Fs, n, h1, tb, sb, h2⟩ := h.ex
  exact h2.good
theorem StG.ok (h : StG W st lo hi P S) : ∀ c a, S c = some a → 1 ≤ c ∧ c ≤ 4 ∧ a.Ok := by
  obtain ⟨Ft, Fs, n, h1, tb, sb, h2⟩ := h.ex
  exact h2.seen.ok
theorem StG.lt (h : StG W st lo hi P S) : st < W.heap.size := by
  obtain ⟨Ft, Fs, n, h1, tb, sb, h2⟩ := h.ex
  exact cell_lt h2.c0
end
theorem dlr_of {W V : World} {st su : Nat} {loa hia lob hib : ByteArray} {P Q : List Pr} {SA SB : Int → Option An} (ha : StG W st loa hia P SA) (hb : StG V su lob hib Q SB) : DlR lob hib (Pl.pairsD P Q) (Pl.keysD P Q) (clients SB) where
  span := hb.span
  lsz := hb.lsz
  hsz := hb.hsz
  srt := Pl.pairsD_srt hb.srt
  good := Pl.pairsD_good hb.good
  ins := fun c hc => hb.ins c (List.mem_filter.1 hc).1
  few := by have := List.length_filter_le (Pl.newB P) Q; have := hb.few; unfold Pl.pairsD; omega
  keys := fun k hk => by
    obtain ⟨c, hc, rfl⟩ := List.mem_map.1 hk
    have hm := (List.mem_filter.1 hc).1
    exact ⟨(Pl.key_sizes ha.good c hm).1, ha.srt.key c hm⟩
  kfew := by have := List.length_filter_le (Pl.goneB Q) P; have := ha.few; unfold Pl.keysD; rw [List.length_map]; omega
  rise := riseK_of (Pl.srt_sub ha.srt List.filter_sublist)
  cls := clRow_of hb.ok
structure DlV (W : World) (v : Value) (lob hib : ByteArray) (P Q : List Pr) (SB : Int → Option An) : Prop where
  ex : ∃ ap cp ak kc ac cc, v = .agg #[.string lob, .string hib, .slice ap (Pl.pairsD P Q).length cp, .slice ak (Pl.keysD P Q).length kc, .slice ac (clients SB).length cc] ∧ DlM W ap ak ac (Pl.pairsD P Q) (Pl.keysD P Q) (clients SB)
theorem DlV.grew {W W' : World} {v : Value} {lob hib : ByteArray} {P Q : List Pr} {SB : Int → Option An} (h : DlV W v lob hib P Q SB) (g : Grew W W') : DlV W' v lob hib P Q SB := by
  obtain ⟨ap, cp, ak, kc, ac, cc, h1, h2⟩ := h.ex
  exact ⟨⟨ap, cp, ak, kc, ac, cc, h1, h2.grew g⟩⟩
theorem btwG_any (E : Nat → Addr) {w : World} (hE : Errs stS E w) {sa sb : Nat} {loa hia lob hib : ByteArray} {P Q : List Pr} {SA SB : Int → Option An} (ha : StG w sa loa hia P SA) (hb : StG w sb lob hib Q SB) :
    Calls Tryz.prog 12 #[.pointer (some ⟨sa, 0, none⟩), .pointer (some ⟨sb, 0, none⟩)] w fun e w' => ∃ v, e = .returned v ∧ DlV w' v lob hib P Q SB ∧ Grew w w' := by
  obtain ⟨Fa, Ga, na, ha1, ha2⟩ := ha.ex
  obtain ⟨Fb, Gb, nb, hb1, hb2⟩ := hb.ex
  refine (betweenD_any E hE ha2 hb2 ha.ins hb.ins (by have := ha.few; omega) (by have := hb.few; omega) ⟨ha.lsz, ha.hsz, hb.lsz, hb.hsz⟩).mono ?_
  rintro e w' ⟨vp, vk, vc, rfl, h1, h2, h3, hg⟩
  obtain ⟨ap, cp, rfl, hp⟩ := pairsAt_of h1
  obtain ⟨ak, kc, rfl, hk⟩ := strsAt_of h2
  obtain ⟨ac, cc, rfl, hc⟩ := clsAt_of h3
  exact ⟨_, rfl, ⟨⟨ap, cp, ak, kc, ac, cc, rfl, ⟨hp, hk, hc⟩⟩⟩, hg⟩
theorem aplG_any (E : Nat → Addr) {w : World} (hE : Errs stS E w) {x sa sb : Nat} {lox hix loa hia lob hib : ByteArray} {P Q : List Pr} {SX SA SB : Int → Option An} (hx : StG w x lox hix P SX) (hb : StG w sb lob hib Q SB) {v : Value} (hv : DlV w v lob hib P Q SB) :
    Calls Tryz.prog 19 #[.pointer (some ⟨x, 0, none⟩), v] w fun e w' => ∃ st, e = .returned (.tuple #[.pointer (some ⟨st, 0, none⟩), .nilIface]) ∧ StG w' st lob hib Q SB ∧ w.heap.size ≤ st ∧ Grew w w' := by
  obtain ⟨Fa, Ga, na, ha1, ha2⟩ := hx.ex
  obtain ⟨ap, cp, ak, kc, ac, cc, rfl, hM⟩ := hv.ex
  have hR := dlr_of hx hb
  have hm := Pl.apply_makes hx.srt hb.srt hb.good
  have hA := applyD_any E (cp := cp) (kc := kc) (cc := cc) hE ha2 hx.ins hx.srt (by have := hx.few; omega) hx.lsz hx.hsz hR hM (Pl.keptD_in hx.srt hb.srt hb.ins) (by rw [hm]; have := hb.few; omega) (by rw [hm]; exact hb.ins) (by have := List.length_filter_le (Pl.newB P) Q; have := hb.few; unfold Pl.pairsD; omega)
  rw [hm, seenL_clients hb.ok] at hA
  refine hA.mono ?_
  rintro e w' ⟨st, n, Ft, Fs, rfl, hn, hS, hB, hg⟩
  exact ⟨st, rfl, ⟨⟨Ft, Fs, n, by omega, hS⟩, hb.ins, hb.few, hb.lsz, hb.hsz, hb.span⟩, hB st (.inr (.inr rfl)), hg⟩
theorem sameG_any {w : World} {sa sb : Nat} {lo hi : ByteArray} {P : List Pr} {S : Int → Option An} (ha : StG w sa lo hi P S) (hb : StG w sb lo hi P S) :
    Calls Tryz.prog 20 #[.pointer (some ⟨sa, 0, none⟩), .pointer (some ⟨sb, 0, none⟩)] w fun e w' => e = .returned (.bool true) ∧ Grew w w' := by
  obtain ⟨Fa, Ga, na, ha1, ha2⟩ := ha.ex
  obtain ⟨Fb, Gb, nb, hb1, hb2⟩ := hb.ex
  exact sameS_any ha2 hb2 (by have := ha.few; omega) (by omega) (by omega) ha.lsz ha.hsz (by have := Pl.tabB_len ha.good (by have := ha.few; omega); have := ha.few; omega) (Pl.seenB_len ha.ok)
theorem copyG_any {w : World} {sa : Nat} {lo hi : ByteArray} {P : List Pr} {S : Int → Option An} (ha : StG w sa lo hi P S) :
    Calls Tryz.prog 88 #[.pointer (some ⟨sa, 0, none⟩)] w fun e w' => ∃ cb, e = .returned (.pointer (some ⟨cb, 0, none⟩)) ∧ StG w' cb lo hi P S ∧ Grew w w' := by
  obtain ⟨Fa, Ga, na, ha1, ha2⟩ := ha.ex
  refine (copyS_any ha2 (by have := ha.few; omega)).mono ?_
  rintro e w' ⟨cb, Gt, Gs, rfl, hS, _, _, _, hg⟩
  exact ⟨cb, rfl, ⟨⟨Gt, Gs, na, ha1, hS⟩, ha.ins, ha.few, ha.lsz, ha.hsz, ha.span⟩, hg⟩
set_option maxRecDepth 100000 in
set_option maxHeartbeats 2000000 in
theorem emptyG_any (E : Nat → Addr) {w : World} (hE : Errs stS E w) {x sb : Nat} {lo hi : ByteArray} {P : List Pr} {S : Int → Option An} (hx : StG w x lo hi P S) (hb : StG w sb lo hi P S) {v : Value} (hv : DlV w v lo hi P P S) :
    Calls Tryz.prog 22 #[v, .pointer (some ⟨x, 0, none⟩)] w fun e w' => e = .returned (.bool true) ∧ Grew w w' := by
  have HX := hid hx
  have HAP := hid (fun W (g : Grew w W) => aplG_any E (hE.grew g) (hx.grew g) (hb.grew g) (hv.grew g) (lox := lo) (hix := hi) (loa := lo) (hia := hi) (SA := S) (sa := x))
  obtain ⟨ap, cp, ak, kc, ac, cc, rfl, hM⟩ := hv.ex
  clear hE hx hb hv hM
  generalize (Pl.pairsD P P).length = l1 at *
  generalize (Pl.keysD P P).length = l2 at *
  generalize (clients S).length = l3 at *
  go_enter Tryz.func22, Tryz.ntmps22
  go_wp2_with fail
  have gY : Grew w (w.alloc (.cells #[.string lo, .string hi, .slice ap l1 cp, .slice ak l2 kc, .slice ac l3 cc] 36)) := (Grew.refl w).alloc _
  have HG := hid gY
  clear gY
  refine (HAP.out _ HG.out).mono ?_
  rintro e w1 ⟨st, rfl, hS, _, hg⟩
  have HS := hid hS
  have HG1 := hid (HG.out.trans hg)
  clear hS hg HAP
  go_wp2_with fail
  refine (sameG_any (HX.out.grew HG1.out) HS.out).mono ?_
  rintro e w2 ⟨rfl, hg2⟩
  have HG2 := hid (HG1.out.trans hg2)
  clear hg2
  go_wp2_with fail
  go_ret
  exact ⟨rfl, HG2.out⟩
set_option maxRecDepth 100000 in
set_option maxHeartbeats 4000000 in
theorem alive37 (E : Nat → Addr) (w : World) (hE : Errs stS E w) : Calls Tryz.prog 9 #[] w fun e w' => e = .returned (.bool true) ∧ Grew w w' := by
  have HE := hid hE
  have HN := hid (newS_any stS E ⟨rfl, rfl, rfl, rfl⟩ ⟨#[]⟩ ⟨#[]⟩ w (by decide) (by decide) hE (show Pl.rightS ⟨#[]⟩ ⟨#[]⟩ = true by kernel_rfl) Pl.good_nil)
  clear hE
  go_enter Tryz.func9, Tryz.ntmps9
  go_wp2_with fail
  refine HN.out.mono ?_
  rintro e w1 ⟨cb, Gt, Gs, rfl, hS, ht, hs, hc, hg⟩
  have HS := hid (show StG w1 cb ⟨#[]⟩ ⟨#[]⟩ [] (fun _ => none) from ⟨⟨Gt, Gs, 0, by decide, hS⟩, Pl.inS_nil _ _, by decide, by decide, by decide, by kernel_rfl⟩)
  have HG := hid hg
  clear hS ht hs hc hg HN
  go_wp2_with fail
  refine (btwG_any E (HE.out.grew HG.out) HS.out HS.out).mono ?_
  rintro e w2 ⟨v, rfl, hv, hg2⟩
  obtain ⟨ap, cp, ak, kc, ac, cc, e1, hM⟩ := hv.ex
  have HEM := hid (fun W (g : Grew w2 W) => emptyG_any E ((HE.out.grew HG.out).grew (hg2.trans g)) (HS.out.grew (hg2.trans g)) (HS.out.grew (hg2.trans g)) (hv.grew g))
  subst e1
  have e2 : (Pl.pairsD [] []).length = 0 := rfl
  have e3 : (Pl.keysD [] []).length = 0 := rfl
  rw [e2, e3] at HEM ⊢
  generalize (clients fun _ => none).length = l3 at *
  have HG2 := hid (HG.out.trans hg2)
  clear hv hM hg2 e2 e3
  go_wp2_with fail
  obtain ⟨Y, hY⟩ : ∃ Y, Y = w2.alloc (.cells #[.string ⟨#[]⟩, .string ⟨#[]⟩, .slice ap 0 cp, .slice ak 0 kc, .slice ac l3 cc] 36) := ⟨_, rfl⟩
  have gY : Grew w2 Y := by rw [hY]; exact (Grew.refl w2).alloc _
  rw [← hY]
  clear hY
  refine (HEM.out Y gY).mono ?_
  rintro e w3 ⟨rfl, hg3⟩
  have HG3 := hid ((HG2.out.trans gY).trans hg3)
  clear hg3 gY
  go_wp2_with fail
  go_ret
  exact ⟨rfl, HG3.out⟩
end Go.Proofs.YtoiahcgaffffbaaGreatDoor
namespace Go.Proofs.YtoiahcgaffffbaaGreatDoor
open Go.RowKit Go.Maps
attribute [local go_sem] Oper.semAt_some uponV
theorem take_next {ns ms : List Int} {k : Nat} (h1 : k < ns.length) (h2 : k < ms.length) (h : ns.take k = ms.take k) (e : ns[k] = ms[k]) : ns.take (k + 1) = ms.take (k + 1) := by
  rw [List.take_succ_eq_append_getElem h1, List.take_succ_eq_append_getElem h2, h, e]
set_option maxRecDepth 100000 in
set_option maxHeartbeats 4000000 in
theorem equalBG_any (w : World) (a b : Option Addr) (c d : Nat) (ns ms : List Int) (hA : BytesAt w a ns) (hB : BytesAt w b ms) (hn : ns.length ≤ 1000000) (hm : ms.length ≤ 1000000) :
    Calls Tryz.prog 80 #[.slice a ns.length c, .slice b ms.length d] w fun e w' => e = .returned (.bool (decide (ns = ms))) ∧ Grew w w' := by
  have HA := hid hA
  have HB := hid hB
  obtain ⟨r, hr⟩ : ∃ r, r = decide (ns = ms) := ⟨_, rfl⟩
  have HR := hid hr
  rw [← hr]
  clear hA hB hr
  by_cases hl : ns.length = ms.length
  · obtain ⟨m, hm'⟩ : ∃ m, m = ns.length := ⟨_, rfl⟩
    have HM := hid hm'
    have HM2 := hid (hm'.trans hl)
    rw [← hl]
    rw [← hm'] at hn ⊢
    clear hm' hl hm
    go_enter Tryz.func80, Tryz.ntmps80
    go_wp2_with fail
    go_loopw [5, 13] (fun u i wr => ∃ k : Nat, k ≤ m ∧ i = .int .i64 k ∧ Hid (ns.take k = ms.take k) ∧ Hid (Grew w wr)) (fun _ i _ => m - (intOf i).toNat)
    case atStart => exact ⟨0, Nat.zero_le _, rfl, by unfold Hid; simp, Grew.refl w⟩
    case round =>
      obtain ⟨k, hk, rfl, HT, HG⟩ := hrel
      by_cases hlt : k < m
      · have hk1 : k < ns.length := by rw [← HM.out]; exact hlt
        have hk2 : k < ms.length := by rw [← HM2.out]; exact hlt
        obtain ⟨b1, o1, rfl, hb1, hc1⟩ := bytes_fields HA.out k hk1
        obtain ⟨b2, o2, rfl, hb2, hc2⟩ := bytes_fields HB.out k hk2
        have C1 := wd_cell ((HG.out.cells.1 _ _ hb1).trans hc1)
        have C2 := wd_cell ((HG.out.cells.1 _ _ hb2).trans hc2)
        have HQ := hid (fun e => take_next hk1 hk2 HT.out e)
        have HN := hid (show ¬ ns[k] = ms[k] → r = false from fun h => by rw [HR.out]; exact decide_eq_false fun e => h (by subst e; rfl))
        generalize ns[k] = q1 at *
        generalize ms[k] = q2 at *
        have hkI : (k : Int) < (m : Int) := by omega
        clear hc1 hc2 hk1 hk2
        by_cases hq : q1 = q2
        · subst hq
          go_wp2_with fail
          refine wp_region_still 9 (by kernel_rfl) (by kernel_rfl) (fun _ _ => rfl) ?_
          repeat (first
    | (refine mixS_plain (by rfl) (by rfl) (by rfl) (by first | exact Grew.refl | exact fun _ => rfl) (by rfl) ?_; intro K hK; go_big_quiet_op; go_big_quiet_on)
    | (refine mixS_skip (by rfl) (by rfl) (by rfl) ?_; simp only [Act.put, List.setIfInBounds_toArray, List.set_cons_zero, List.set_cons_succ]))
          refine mixS_nil ?_
          intro x hG
          have HGX := hid (HG.out.trans hG)
          clear C1 C2 hG
          dsimp only [List.drop]
          go_wp2_with fail
          go_roundw
          case rel => exact ⟨k + 1, by omega, by go_num, HQ.out (by trivial), HGX⟩
          case measure => simp [intOf]; omega
        · obtain rfl := HN.out hq
          go_wp2_with fail
          refine wp_region_still 9 (by kernel_rfl) (by kernel_rfl) (fun _ _ => rfl) ?_
          repeat (first
    | (refine mixS_plain (by rfl) (by rfl) (by rfl) (by first | exact Grew.refl | exact fun _ => rfl) (by rfl) ?_; intro K hK; go_big_quiet_op; go_big_quiet_on)
    | (refine mixS_skip (by rfl) (by rfl) (by rfl) ?_; simp only [Act.put, List.setIfInBounds_toArray, List.set_cons_zero, List.set_cons_succ]))
          refine mixS_nil ?_
          intro x hG
          have HGX := hid (HG.out.trans hG)
          clear C1 C2 hG
          dsimp only [List.drop]
          go_wp2_with fail
          go_ret
          exact ⟨rfl, HGX.out⟩
      · have hkm : k = m := by omega
        subst hkm
        obtain rfl : r = true := by
          have h := HT.out
          rw [HM.out, List.take_length, ← HM.out, HM2.out, List.take_length] at h
          rw [HR.out]; exact decide_eq_true h
        go_wp2_with fail
        go_ret
        exact ⟨rfl, HG.out⟩
  · obtain rfl : r = false := by rw [HR.out]; exact decide_eq_false fun e => hl (by rw [e])
    clear HA HB HR
    generalize ns.length = m1 at *
    generalize ms.length = m2 at *
    have hlI : ¬ (m1 : Int) = (m2 : Int) := by omega
    go_enter Tryz.func80, Tryz.ntmps80
    go_wp2_with fail
    go_ret
    exact ⟨rfl, Grew.refl w⟩
set_option maxRecDepth 100000 in
set_option maxHeartbeats 4000000 in
theorem sameSG_any {w : World} {Ft Fs Gt Gs : Nat → Prop} {st su n m : Nat} {lo hi lo' hi' : ByteArray} {P Q : List Pr} {S T : Int → Option An} (h : StAt w Ft Fs st n lo hi P S) (k : StAt w Gt Gs su m lo' hi' Q T) (hx : P.length ≤ 1000) (hy : Q.length ≤ 1000) (hn : n ≤ 1000000) (hm : m ≤ 1000000) (hl : lo.size ≤ 300) (hh : hi.size ≤ 300) (hl' : lo'.size ≤ 300) (hh' : hi'.size ≤ 300) (hP : (Pl.tabB P).length ≤ 60000) (hS : (seenB S).length ≤ 1000) (hQ : (Pl.tabB Q).length ≤ 60000) (hT : (seenB T).length ≤ 1000) :
    Calls Tryz.prog 20 #[.pointer (some ⟨st, 0, none⟩), .pointer (some ⟨su, 0, none⟩)] w fun e w' => e = .returned (.bool (decide (stB lo hi P S = stB lo' hi' Q T))) ∧ Grew w w' := by
  have HL := hid (stB_len hl hh hP hS)
  have HL' := hid (stB_len hl' hh' hQ hT)
  have H1 := hid (bytesS_any h hx hn hl hh hP hS)
  have H2 := hid (fun W (g : Grew w W) => bytesS_any (k.grew g) hy hm hl' hh' hQ hT)
  clear h k
  generalize stB lo hi P S = bs at *
  generalize stB lo' hi' Q T = cs at *
  have HEQ := hid (fun (W : World) a1 a2 c1 c2 (h1 : BytesAt W a1 bs) (h2 : BytesAt W a2 cs) => equalBG_any W a1 a2 c1 c2 bs cs h1 h2 (by have := HL.out; omega) (by have := HL'.out; omega))
  generalize decide (bs = cs) = rr at *
  go_enter Tryz.func20, Tryz.ntmps20
  go_wp2_with fail
  refine H1.out.mono ?_
  rintro e w1 ⟨a1, c1, rfl, hr1, hg1⟩
  obtain ⟨a1', c1', e1, hA1, _, _⟩ := bytesAt_of hr1
  cases e1
  have HA1 := hid hA1
  have HG1 := hid hg1
  clear hr1 hA1 hg1
  go_wp2_with fail
  refine (H2.out w1 HG1.out).mono ?_
  rintro e w2 ⟨a2, c2, rfl, hr2, hg2⟩
  obtain ⟨a2', c2', e2, hA2, _, _⟩ := bytesAt_of hr2
  cases e2
  have HEQ := hid (HEQ.out w2 a1 a2 c1 c2 (HA1.out.grew hg2) hA2)
  have HG2 := hid (HG1.out.trans hg2)
  clear hr2 hA2 hg2
  go_wp2_with fail
  refine HEQ.out.mono ?_
  rintro e w3 ⟨rfl, hg3⟩
  have HG3 := hid (HG2.out.trans hg3)
  clear hg3
  go_wp2_with fail
  go_ret
  exact ⟨rfl, HG3.out⟩
theorem sameGG_any {w : World} {sa sb : Nat} {lo hi lo' hi' : ByteArray} {P Q : List Pr} {S T : Int → Option An} (ha : StG w sa lo hi P S) (hb : StG w sb lo' hi' Q T) :
    Calls Tryz.prog 20 #[.pointer (some ⟨sa, 0, none⟩), .pointer (some ⟨sb, 0, none⟩)] w fun e w' => e = .returned (.bool (decide (stB lo hi P S = stB lo' hi' Q T))) ∧ Grew w w' := by
  obtain ⟨Fa, Ga, na, ha1, ha2⟩ := ha.ex
  obtain ⟨Fb, Gb, nb, hb1, hb2⟩ := hb.ex
  exact sameSG_any ha2 hb2 (by have := ha.few; omega) (by have := hb.few; omega) (by omega) (by omega) ha.lsz ha.hsz hb.lsz hb.hsz (by have := Pl.tabB_len ha.good (by have := ha.few; omega); have := ha.few; omega) (Pl.seenB_len ha.ok) (by have := Pl.tabB_len hb.good (by have := hb.few; omega); have := hb.few; omega) (Pl.seenB_len hb.ok)
set_option maxRecDepth 100000 in
set_option maxHeartbeats 2000000 in
theorem emptyGG_any (E : Nat → Addr) {w : World} (hE : Errs stS E w) {x sb : Nat} {lo hi lob hib : ByteArray} {P Q : List Pr} {S SB : Int → Option An} (hx : StG w x lo hi P S) (hb : StG w sb lob hib Q SB) {v : Value} (hv : DlV w v lob hib P Q SB) :
    Calls Tryz.prog 22 #[v, .pointer (some ⟨x, 0, none⟩)] w fun e w' => e = .returned (.bool (decide (stB lo hi P S = stB lob hib Q SB))) ∧ Grew w w' := by
  have HX := hid hx
  have HAP := hid (fun W (g : Grew w W) => aplG_any E (hE.grew g) (hx.grew g) (hb.grew g) (hv.grew g) (lox := lo) (hix := hi) (loa := lo) (hia := hi) (SA := S) (sa := x))
  obtain ⟨ap, cp, ak, kc, ac, cc, rfl, hM⟩ := hv.ex
  clear hE hx hb hv hM
  have HSM := hid (fun (W : World) (st : Nat) (h1 : StG W x lo hi P S) (h2 : StG W st lob hib Q SB) => sameGG_any h1 h2)
  generalize decide (stB lo hi P S = stB lob hib Q SB) = rr at *
  generalize (Pl.pairsD P Q).length = l1 at *
  generalize (Pl.keysD P Q).length = l2 at *
  generalize (clients SB).length = l3 at *
  go_enter Tryz.func22, Tryz.ntmps22
  go_wp2_with fail
  have gY : Grew w (w.alloc (.cells #[.string lob, .string hib, .slice ap l1 cp, .slice ak l2 kc, .slice ac l3 cc] 36)) := (Grew.refl w).alloc _
  have HG := hid gY
  clear gY
  refine (HAP.out _ HG.out).mono ?_
  rintro e w1 ⟨st, rfl, hS, _, hg⟩
  have HS := hid hS
  have HG1 := hid (HG.out.trans hg)
  clear hS hg HAP
  have HSM := hid (HSM.out w1 st (HX.out.grew HG1.out) HS.out)
  go_wp2_with fail
  refine HSM.out.mono ?_
  rintro e w2 ⟨rfl, hg2⟩
  have HG2 := hid (HG1.out.trans hg2)
  clear hg2
  go_wp2_with fail
  go_ret
  exact ⟨rfl, HG2.out⟩
end Go.Proofs.YtoiahcgaffffbaaGreatDoor
namespace Go.Proofs.YtoiahcgaffffbaaGreatDoor
open Go.RowKit Go.Maps
namespace Pl
def keysB (K : List ByteArray) : List Int := K.flatMap textB
def delB (lo hi : ByteArray) (A : List Pr) (K : List ByteArray) (C : List (Int × An)) : List Int := textB lo ++ textB hi ++ tabB A ++ numB K.length ++ keysB K ++ numB C.length ++ clsB C
theorem keysB_len {K : List ByteArray} (h : ∀ k ∈ K, k.size ≤ 96) : (keysB K).length ≤ K.length * 99 := by
  unfold keysB
  induction K with
  | nil => simp
  | cons k K ih =>
    have h1 := textB_len k (by have := h k (by simp); omega)
    have h2 := ih fun c hc => h c (by simp [hc])
    have := h k (by simp)
    simp only [List.flatMap_cons, List.length_append, List.length_cons]
    omega
theorem clB_len {x : Int × An} (h : 1 ≤ x.1 ∧ x.1 ≤ 4 ∧ x.2.Ok) : (clB x).length ≤ 20 := by
  obtain ⟨q1, q2, q3⟩ := h
  have a1 := numB_len 4 x.1.toNat (by omega)
  have a2 := numB_len 4 x.2.seq.toNat (by have := q3.s1; have := q3.s2; omega)
  have a3 := numB_len 4 x.2.code.toNat (by have := q3.c1; omega)
  have a4 := numB_len 4 x.2.at_.toNat (by have := q3.a1; have := q3.a2; omega)
  unfold clB
  simp only [List.length_append]
  omega
theorem clsB_len : ∀ {C : List (Int × An)}, (∀ x ∈ C, 1 ≤ x.1 ∧ x.1 ≤ 4 ∧ x.2.Ok) → (clsB C).length ≤ C.length * 20
  | [], _ => by simp [clsB]
  | x :: C, h => by
    have h1 := clB_len (h x (by simp))
    have h2 := clsB_len fun y hy => h y (List.mem_cons_of_mem _ hy)
    rw [show clsB (x :: C) = clB x ++ clsB C from rfl, List.length_append, List.length_cons]
    omega
theorem delB_len {lo hi : ByteArray} {A : List Pr} {K : List ByteArray} {C : List (Int × An)} (hl : lo.size ≤ 300) (hh : hi.size ≤ 300) (hg : Good A) (ha : A.length ≤ 240) (hk : ∀ k ∈ K, k.size ≤ 96) (hkl : K.length ≤ 240) (hc : ClRow C) : (delB lo hi A K C).length ≤ 65536 := by
  have h1 := textB_len lo (by omega)
  have h2 := textB_len hi (by omega)
  have h3 := tabB_len hg (by omega)
  have h4 := keysB_len hk
  have h5 := clsB_len hc.ok
  have h6 := clRow_len hc
  have h7 := numB_len 1 K.length (by omega)
  have h8 := numB_len 0 C.length (by omega)
  unfold delB
  simp only [List.length_append]
  omega
theorem pairsB_snoc (A : List Pr) (k : Nat) (h : k < A.length) : pairsB (A.take (k + 1)) = pairsB (A.take k) ++ pairB (prAt A k) := by
  unfold pairsB
  rw [List.take_succ_eq_append_getElem h, List.flatMap_append, prAt_eq A k h]
  simp
theorem keysB_snoc (K : List ByteArray) (k : Nat) (h : k < K.length) : keysB (K.take (k + 1)) = keysB (K.take k) ++ textB K[k] := by
  unfold keysB
  rw [List.take_succ_eq_append_getElem h, List.flatMap_append]
  simp
theorem clsB_snoc (C : List (Int × An)) (k : Nat) (h : k < C.length) : clsB (C.take (k + 1)) = clsB (C.take k) ++ clB (clAt C k) := by
  unfold clsB
  rw [List.take_succ_eq_append_getElem h, List.flatMap_append, clAt_eq C k h]
  simp
theorem pairsB_takele (A : List Pr) (k : Nat) : (pairsB (A.take k)).length ≤ (pairsB A).length := by
  have h := congrArg List.length (show pairsB (A.take k) ++ pairsB (A.drop k) = pairsB A by unfold pairsB; rw [← List.flatMap_append, List.take_append_drop])
  rw [List.length_append] at h
  omega
theorem keysB_takele (K : List ByteArray) (k : Nat) : (keysB (K.take k)).length ≤ (keysB K).length := by
  have h := congrArg List.length (show keysB (K.take k) ++ keysB (K.drop k) = keysB K by unfold keysB; rw [← List.flatMap_append, List.take_append_drop])
  rw [List.length_append] at h
  omega
theorem clsB_takele (C : List (Int × An)) (k : Nat) : (clsB (C.take k)).length ≤ (clsB C).length := by
  have h := congrArg List.length (show clsB (C.take k) ++ clsB (C.drop k) = clsB C by unfold clsB; rw [← List.flatMap_append, List.take_append_drop])
  rw [List.length_append] at h
  omega
end Pl
end Go.Proofs.YtoiahcgaffffbaaGreatDoor
