/- St3, StG, Made: one text. -/
import Derived.Test.YtifcnammekbfoaaGreatDoorFinDeltaChainQ37
import Derived.Test.YtifcnammekbfoaaGreatDoorFinDeltaChainQ8
import Derived.Test.YtifcnammekbfoaaGreatDoorFinDeltaChainQ39
import Derived.Test.YtifcnammekbfoaaGreatDoorFinDeltaChainQ40
import Derived.Test.YtifcnammekbfoaaGreatDoorFinDeltaChainQ29
import Derived.Test.YtifcnammekbfoaaGreatDoorFinDeltaChainQ32
import Derived.Test.YtifcnammekbfoaaGreatDoorFinDeltaChainQ34
/- The walks of slices.Equal at the same bytes, of state.Same at states that are the same; of state.New. -/
set_option linter.unusedVariables false
set_option linter.unusedSectionVars false
set_option linter.unusedSimpArgs false
namespace Go.Proofs.YtifcnammekbfoaaGreatDoor
open Go.RowKit Go.Maps
attribute [local go_sem] Oper.semAt_some uponV

theorem bytes_fields {w : World} {a : Option Addr} {ns : List Int} (h : BytesAt w a ns) (k : Nat) (hk : k < ns.length) : ∃ b off, a = some ⟨b, off, none⟩ ∧ b < w.heap.size ∧ w.cell? ⟨b, off + k, none⟩ = some (.int .u8 (ns[k]'hk)) := by
  rcases h with h | ⟨b, off, e, hb, hc⟩
  · rw [h] at hk; cases hk
  · exact ⟨b, off, e, hb, hc k _ (List.getElem?_eq_getElem hk)⟩

set_option maxRecDepth 100000 in
set_option maxHeartbeats 4000000 in
theorem equalB_any (w : World) (a b : Option Addr) (c d : Nat) (ns : List Int) (hA : BytesAt w a ns) (hB : BytesAt w b ns) (hn : ns.length ≤ 1000000) :
    Calls Tryz.prog 79 #[.slice a ns.length c, .slice b ns.length d] w fun e w' => e = .returned (.bool true) ∧ Grew w w' := by
  have HA := hid hA
  have HB := hid hB
  obtain ⟨m, hm⟩ : ∃ m, m = ns.length := ⟨_, rfl⟩
  have HM := hid hm
  rw [← hm] at hn ⊢
  clear hA hB hm
  go_enter Tryz.func79, Tryz.ntmps79
  go_wp2_with fail
  go_loopw [5, 13] (fun u i wr => ∃ k : Nat, k ≤ m ∧ i = .int .i64 k ∧ Hid (Grew w wr)) (fun _ i _ => m - (intOf i).toNat)
  case atStart => exact ⟨0, Nat.zero_le _, rfl, Grew.refl w⟩
  case round =>
    obtain ⟨k, hk, rfl, HG⟩ := hrel
    by_cases hlt : k < m
    · have hk' : k < ns.length := by rw [← HM.out]; exact hlt
      obtain ⟨b1, o1, rfl, hb1, hc1⟩ := bytes_fields HA.out k hk'
      obtain ⟨b2, o2, rfl, hb2, hc2⟩ := bytes_fields HB.out k hk'
      have C1 := wd_cell ((HG.out.cells.1 _ _ hb1).trans hc1)
      have C2 := wd_cell ((HG.out.cells.1 _ _ hb2).trans hc2)
      generalize ns[k] = q at *
      have hkI : (k : Int) < (m : Int) := by omega
      clear hc1 hc2 hk'
      go_wp2_with fail
      refine wp_region_still 9 (by kernel_rfl) (by kernel_rfl) (fun _ _ => rfl) ?_
      repeat (first
    | (refine mixS_plain (by rfl) (by rfl) (by rfl) (by first | exact Grew.refl | exact fun _ => rfl) (by rfl) ?_; intro K hK; go_big_quiet_op; go_big_quiet_on)
    | (refine mixS_skip (by rfl) (by rfl) (by rfl) ?_; simp only [Act.put, List.setIfInBounds_toArray, List.set_cons_zero, List.set_cons_succ]))
      refine mixS_nil ?_
      intro x hG
      have HGX := hid (HG.out.trans hG)
      clear C1 C2 hG
      dsimp only [List.drop]
      go_wp2_with fail
      go_roundw
      case rel => exact ⟨k + 1, by omega, by go_num, HGX⟩
      case measure => simp [intOf]; omega
    · have hkm : k = m := by omega
      subst hkm
      go_wp2_with fail
      go_ret
      exact ⟨rfl, HG.out⟩

set_option maxRecDepth 100000 in
set_option maxHeartbeats 4000000 in
theorem sameS_any {w : World} {Ft Fs Gt Gs : Nat → Prop} {st su n m : Nat} {lo hi : ByteArray} {P : List Pr} {S : Int → Option An} (h : StAt w Ft Fs st n lo hi P S) (k : StAt w Gt Gs su m lo hi P S) (hx : P.length ≤ 1000) (hn : n ≤ 1000000) (hm : m ≤ 1000000) (hl : lo.size ≤ 300) (hh : hi.size ≤ 300) (hP : (Pl.tabB P).length ≤ 60000) (hS : (seenB S).length ≤ 1000) :
    Calls Tryz.prog 23 #[.pointer (some ⟨st, 0, none⟩), .pointer (some ⟨su, 0, none⟩)] w fun e w' => e = .returned (.bool true) ∧ Grew w w' := by
  have HL := hid (stB_len hl hh hP hS)
  have H1 := hid (bytesS_any h hx hn hl hh hP hS)
  have H2 := hid (fun W (g : Grew w W) => bytesS_any (k.grew g) hx hm hl hh hP hS)
  clear h k
  generalize stB lo hi P S = bs at *
  go_enter Tryz.func23, Tryz.ntmps23
  go_wp2_with fail
  refine H1.out.mono ?_
  rintro e w1 ⟨a1, c1, rfl, hr1, hg1⟩
  obtain ⟨a1', c1', e1, hA1, _, _⟩ := bytesAt_of hr1
  cases e1
  have HA1 := hid hA1
  have HG1 := hid hg1
  clear hr1 hA1 hg1
  go_wp2_with fail
  refine (H2.out w1 HG1.out).mono ?_
  rintro e w2 ⟨a2, c2, rfl, hr2, hg2⟩
  obtain ⟨a2', c2', e2, hA2, _, _⟩ := bytesAt_of hr2
  cases e2
  have HEQ := hid (equalB_any w2 a1 a2 c1 c2 bs (HA1.out.grew hg2) hA2 (by have := HL.out; omega))
  have HG2 := hid (HG1.out.trans hg2)
  clear hr2 hA2 hg2
  go_wp2_with fail
  refine HEQ.out.mono ?_
  rintro e w3 ⟨rfl, hg3⟩
  have HG3 := hid (HG2.out.trans hg3)
  clear hg3
  go_wp2_with fail
  go_ret
  exact ⟨rfl, HG3.out⟩
end Go.Proofs.YtifcnammekbfoaaGreatDoor

/- A state that is only read; a delta of two states, applied to the first one. -/
set_option linter.unusedVariables false
set_option linter.unusedSectionVars false
set_option linter.unusedSimpArgs false
namespace Go.Proofs.YtifcnammekbfoaaGreatDoor
open Go.RowKit Go.Maps Go.Sort
attribute [local go_sem] Oper.semAt_some uponV

/-- A state that is only read. -/
structure StG (W : World) (st : Nat) (lo hi : ByteArray) (P : List Pr) (S : Int → Option An) : Prop where
  ex : ∃ Ft Fs n, n ≤ 1000 ∧ StAt W Ft Fs st n lo hi P S
  ins : Pl.InS lo hi P
  few : P.length ≤ 250
  lsz : lo.size ≤ 300
  hsz : hi.size ≤ 300
  span : Pl.rightS lo hi = true
section
variable {W W' : World} {st : Nat} {lo hi : ByteArray} {P : List Pr} {S : Int → Option An}
theorem StG.grew (h : StG W st lo hi P S) (g : Grew W W') : StG W' st lo hi P S := by
  obtain ⟨Ft, Fs, n, h1, h2⟩ := h.ex
  exact ⟨⟨Ft, Fs, n, h1, h2.grew g⟩, h.ins, h.few, h.lsz, h.hsz, h.span⟩
theorem StG.srt (h : StG W st lo hi P S) : Pl.Srt P := by
  obtain ⟨Ft, Fs, n, h1, tb, sb, h2⟩ := h.ex
  exact tabAt_srt h2.tab
theorem StG.good (h : StG W st lo hi P S) : Pl.Good P := by
  obtain ⟨Ft, Fs, n, h1, tb, sb, h2⟩ := h.ex
  exact h2.good
theorem StG.ok (h : StG W st lo hi P S) : ∀ c a, S c = some a → 1 ≤ c ∧ c ≤ 4 ∧ a.Ok := by
  obtain ⟨Ft, Fs, n, h1, tb, sb, h2⟩ := h.ex
  exact h2.seen.ok
theorem StG.lt (h : StG W st lo hi P S) : st < W.heap.size := by
  obtain ⟨Ft, Fs, n, h1, tb, sb, h2⟩ := h.ex
  exact cell_lt h2.c0
end
/-- The delta of two states is right. -/
theorem dlr_of {W V : World} {st su : Nat} {loa hia lob hib : ByteArray} {P Q : List Pr} {SA SB : Int → Option An} (ha : StG W st loa hia P SA) (hb : StG V su lob hib Q SB) : DlR lob hib (Pl.pairsD P Q) (Pl.keysD P Q) (clients SB) where
  span := hb.span
  lsz := hb.lsz
  hsz := hb.hsz
  srt := Pl.pairsD_srt hb.srt
  good := Pl.pairsD_good hb.good
  ins := fun c hc => hb.ins c (List.mem_filter.1 hc).1
  few := by have := List.length_filter_le (Pl.newB P) Q; have := hb.few; unfold Pl.pairsD; omega
  keys := fun k hk => by
    obtain ⟨c, hc, rfl⟩ := List.mem_map.1 hk
    have hm := (List.mem_filter.1 hc).1
    exact ⟨(Pl.key_sizes ha.good c hm).1, ha.srt.key c hm⟩
  kfew := by have := List.length_filter_le (Pl.goneB Q) P; have := ha.few; unfold Pl.keysD; rw [List.length_map]; omega
  rise := riseK_of (Pl.srt_sub ha.srt List.filter_sublist)
  cls := clRow_of hb.ok
/-- A delta value of two states, in memory. -/
structure DlV (W : World) (v : Value) (lob hib : ByteArray) (P Q : List Pr) (SB : Int → Option An) : Prop where
  ex : ∃ ap cp ak kc ac cc, v = .agg #[.string lob, .string hib, .slice ap (Pl.pairsD P Q).length cp, .slice ak (Pl.keysD P Q).length kc, .slice ac (clients SB).length cc] ∧ DlM W ap ak ac (Pl.pairsD P Q) (Pl.keysD P Q) (clients SB)
theorem DlV.grew {W W' : World} {v : Value} {lob hib : ByteArray} {P Q : List Pr} {SB : Int → Option An} (h : DlV W v lob hib P Q SB) (g : Grew W W') : DlV W' v lob hib P Q SB := by
  obtain ⟨ap, cp, ak, kc, ac, cc, h1, h2⟩ := h.ex
  exact ⟨⟨ap, cp, ak, kc, ac, cc, h1, h2.grew g⟩⟩
theorem btwG_any (E : Nat → Addr) {w : World} (hE : Errs stS E w) {sa sb : Nat} {loa hia lob hib : ByteArray} {P Q : List Pr} {SA SB : Int → Option An} (ha : StG w sa loa hia P SA) (hb : StG w sb lob hib Q SB) :
    Calls Tryz.prog 28 #[.pointer (some ⟨sa, 0, none⟩), .pointer (some ⟨sb, 0, none⟩)] w fun e w' => ∃ v, e = .returned v ∧ DlV w' v lob hib P Q SB ∧ Grew w w' := by
  obtain ⟨Fa, Ga, na, ha1, ha2⟩ := ha.ex
  obtain ⟨Fb, Gb, nb, hb1, hb2⟩ := hb.ex
  refine (betweenD_any E hE ha2 hb2 ha.ins hb.ins (by have := ha.few; omega) (by have := hb.few; omega) ⟨ha.lsz, ha.hsz, hb.lsz, hb.hsz⟩).mono ?_
  rintro e w' ⟨vp, vk, vc, rfl, h1, h2, h3, hg⟩
  obtain ⟨ap, cp, rfl, hp⟩ := pairsAt_of h1
  obtain ⟨ak, kc, rfl, hk⟩ := strsAt_of h2
  obtain ⟨ac, cc, rfl, hc⟩ := clsAt_of h3
  exact ⟨_, rfl, ⟨⟨ap, cp, ak, kc, ac, cc, rfl, ⟨hp, hk, hc⟩⟩⟩, hg⟩
/-- .. applied to a state that tells what the first one tells. -/
theorem aplG_any (E : Nat → Addr) {w : World} (hE : Errs stS E w) {x sa sb : Nat} {lox hix loa hia lob hib : ByteArray} {P Q : List Pr} {SX SA SB : Int → Option An} (hx : StG w x lox hix P SX) (hb : StG w sb lob hib Q SB) {v : Value} (hv : DlV w v lob hib P Q SB) :
    Calls Tryz.prog 27 #[.pointer (some ⟨x, 0, none⟩), v] w fun e w' => ∃ st, e = .returned (.tuple #[.pointer (some ⟨st, 0, none⟩), .nilIface]) ∧ StG w' st lob hib Q SB ∧ w.heap.size ≤ st ∧ Grew w w' := by
  obtain ⟨Fa, Ga, na, ha1, ha2⟩ := hx.ex
  obtain ⟨ap, cp, ak, kc, ac, cc, rfl, hM⟩ := hv.ex
  have hR := dlr_of hx hb
  have hm := Pl.apply_makes hx.srt hb.srt hb.good
  have hA := applyD_any E (cp := cp) (kc := kc) (cc := cc) hE ha2 hx.ins hx.srt (by have := hx.few; omega) hx.lsz hx.hsz hR hM (Pl.keptD_in hx.srt hb.srt hb.ins) (by rw [hm]; have := hb.few; omega) (by rw [hm]; exact hb.ins) (by have := List.length_filter_le (Pl.newB P) Q; have := hb.few; unfold Pl.pairsD; omega)
  rw [hm, seenL_clients hb.ok] at hA
  refine hA.mono ?_
  rintro e w' ⟨st, n, Ft, Fs, rfl, hn, hS, hB, hg⟩
  exact ⟨st, rfl, ⟨⟨Ft, Fs, n, by omega, hS⟩, hb.ins, hb.few, hb.lsz, hb.hsz, hb.span⟩, hB st (.inr (.inr rfl)), hg⟩
theorem sameG_any {w : World} {sa sb : Nat} {lo hi : ByteArray} {P : List Pr} {S : Int → Option An} (ha : StG w sa lo hi P S) (hb : StG w sb lo hi P S) :
    Calls Tryz.prog 23 #[.pointer (some ⟨sa, 0, none⟩), .pointer (some ⟨sb, 0, none⟩)] w fun e w' => e = .returned (.bool true) ∧ Grew w w' := by
  obtain ⟨Fa, Ga, na, ha1, ha2⟩ := ha.ex
  obtain ⟨Fb, Gb, nb, hb1, hb2⟩ := hb.ex
  exact sameS_any ha2 hb2 (by have := ha.few; omega) (by omega) (by omega) ha.lsz ha.hsz (by have := Pl.tabB_len ha.good (by have := ha.few; omega); have := ha.few; omega) (Pl.seenB_len ha.ok)
theorem copyG_any {w : World} {sa : Nat} {lo hi : ByteArray} {P : List Pr} {S : Int → Option An} (ha : StG w sa lo hi P S) :
    Calls Tryz.prog 22 #[.pointer (some ⟨sa, 0, none⟩)] w fun e w' => ∃ cb, e = .returned (.pointer (some ⟨cb, 0, none⟩)) ∧ StG w' cb lo hi P S ∧ Grew w w' := by
  obtain ⟨Fa, Ga, na, ha1, ha2⟩ := ha.ex
  refine (copyS_any ha2 (by have := ha.few; omega)).mono ?_
  rintro e w' ⟨cb, Gt, Gs, rfl, hS, _, _, _, hg⟩
  exact ⟨cb, rfl, ⟨⟨Gt, Gs, na, ha1, hS⟩, ha.ins, ha.few, ha.lsz, ha.hsz, ha.span⟩, hg⟩
set_option maxRecDepth 100000 in
set_option maxHeartbeats 2000000 in
theorem emptyG_any (E : Nat → Addr) {w : World} (hE : Errs stS E w) {x sb : Nat} {lo hi : ByteArray} {P : List Pr} {S : Int → Option An} (hx : StG w x lo hi P S) (hb : StG w sb lo hi P S) {v : Value} (hv : DlV w v lo hi P P S) :
    Calls Tryz.prog 36 #[v, .pointer (some ⟨x, 0, none⟩)] w fun e w' => e = .returned (.bool true) ∧ Grew w w' := by
  have HX := hid hx
  have HAP := hid (fun W (g : Grew w W) => aplG_any E (hE.grew g) (hx.grew g) (hb.grew g) (hv.grew g) (lox := lo) (hix := hi) (loa := lo) (hia := hi) (SA := S) (sa := x))
  obtain ⟨ap, cp, ak, kc, ac, cc, rfl, hM⟩ := hv.ex
  clear hE hx hb hv hM
  generalize (Pl.pairsD P P).length = l1 at *
  generalize (Pl.keysD P P).length = l2 at *
  generalize (clients S).length = l3 at *
  go_enter Tryz.func36, Tryz.ntmps36
  go_wp2_with fail
  have gY : Grew w (w.alloc (.cells #[.string lo, .string hi, .slice ap l1 cp, .slice ak l2 kc, .slice ac l3 cc] 80)) := (Grew.refl w).alloc _
  have HG := hid gY
  clear gY
  refine (HAP.out _ HG.out).mono ?_
  rintro e w1 ⟨st, rfl, hS, _, hg⟩
  have HS := hid hS
  have HG1 := hid (HG.out.trans hg)
  clear hS hg HAP
  go_wp2_with fail
  refine (sameG_any (HX.out.grew HG1.out) HS.out).mono ?_
  rintro e w2 ⟨rfl, hg2⟩
  have HG2 := hid (HG1.out.trans hg2)
  clear hg2
  go_wp2_with fail
  go_ret
  exact ⟨rfl, HG2.out⟩
set_option maxRecDepth 100000 in
set_option maxHeartbeats 4000000 in
theorem alive37 (E : Nat → Addr) (w : World) (hE : Errs stS E w) : Calls Tryz.prog 24 #[] w fun e w' => e = .returned (.bool true) ∧ Grew w w' := by
  have HE := hid hE
  have HN := hid (newS_any stS E ⟨rfl, rfl, rfl, rfl⟩ ⟨#[]⟩ ⟨#[]⟩ w (by decide) (by decide) hE (show Pl.rightS ⟨#[]⟩ ⟨#[]⟩ = true by kernel_rfl) Pl.good_nil)
  clear hE
  go_enter Tryz.func24, Tryz.ntmps24
  go_wp2_with fail
  refine HN.out.mono ?_
  rintro e w1 ⟨cb, Gt, Gs, rfl, hS, ht, hs, hc, hg⟩
  have HS := hid (show StG w1 cb ⟨#[]⟩ ⟨#[]⟩ [] (fun _ => none) from ⟨⟨Gt, Gs, 0, by decide, hS⟩, Pl.inS_nil _ _, by decide, by decide, by decide, by kernel_rfl⟩)
  have HG := hid hg
  clear hS ht hs hc hg HN
  go_wp2_with fail
  refine (btwG_any E (HE.out.grew HG.out) HS.out HS.out).mono ?_
  rintro e w2 ⟨v, rfl, hv, hg2⟩
  obtain ⟨ap, cp, ak, kc, ac, cc, e1, hM⟩ := hv.ex
  have HEM := hid (fun W (g : Grew w2 W) => emptyG_any E ((HE.out.grew HG.out).grew (hg2.trans g)) (HS.out.grew (hg2.trans g)) (HS.out.grew (hg2.trans g)) (hv.grew g))
  subst e1
  have e2 : (Pl.pairsD [] []).length = 0 := rfl
  have e3 : (Pl.keysD [] []).length = 0 := rfl
  rw [e2, e3] at HEM ⊢
  generalize (clients fun _ => none).length = l3 at *
  have HG2 := hid (HG.out.trans hg2)
  clear hv hM hg2 e2 e3
  go_wp2_with fail
  obtain ⟨Y, hY⟩ : ∃ Y, Y = w2.alloc (.cells #[.string ⟨#[]⟩, .string ⟨#[]⟩, .slice ap 0 cp, .slice ak 0 kc, .slice ac l3 cc] 80) := ⟨_, rfl⟩
  have gY : Grew w2 Y := by rw [hY]; exact (Grew.refl w2).alloc _
  rw [← hY]
  clear hY
  refine (HEM.out Y gY).mono ?_
  rintro e w3 ⟨rfl, hg3⟩
  have HG3 := hid ((HG2.out.trans gY).trans hg3)
  clear hg3 gY
  go_wp2_with fail
  go_ret
  exact ⟨rfl, HG3.out⟩
end Go.Proofs.YtifcnammekbfoaaGreatDoor

/- The walk of Made.made (tidewaterlaw37): a state and its model, Writes done to both. -/
set_option linter.unusedVariables false
set_option linter.unusedSectionVars false
set_option linter.unusedSimpArgs false
namespace Go.Proofs.YtifcnammekbfoaaGreatDoor
open Go.RowKit Go.Maps
attribute [local go_sem] Oper.semAt_some

/-- The state has written. -/
theorem twS_write2 (E : Nat → Addr) {w0 U W : World} (hE : Errs stS E w0) {st ms n : Nat} {lo hi : ByteArray} {P : List Pr} {S : Int → Option An} (hU : TwS w0 U st ms n lo hi P S) (gU : Grew U W) (e : En) (hA : e.kind = 1 → EnAt w0 e) (hz : EnSz e) (hs : ∀ o ∈ e.ops, o.key.size ≤ 16777216) (at_ : Int) (hl : lo.size ≤ 16777216) (hh : hi.size ≤ 16777216) (hx : P.length ≤ 1000) (hn : n ≤ 1000000) :
    Calls Tryz.prog 19 #[.pointer (some ⟨st, 0, none⟩), e.agg, .int .i64 at_] W fun r W1 => r = .returned (.tuple #[ansAgg (Pl.writeG lo hi P S e at_).code (Pl.writeG lo hi P S e at_).at_, errOf E (Pl.writeG lo hi P S e at_).err]) ∧ Grew w0 W1 ∧ (∀ b, U.heap.size ≤ b → b < W.heap.size → b < W1.heap.size ∧ ∀ o, W1.cell? ⟨b, o, none⟩ = W.cell? ⟨b, o, none⟩) ∧
      ∀ W2, Grew W1 W2 → Calls Tryz.prog 80 #[.pointer (some ⟨ms, 0, none⟩), e.agg, .int .i64 at_] W2 fun r W3 => r = .returned (.tuple #[ansAgg (Pl.writeG lo hi P S e at_).code (Pl.writeG lo hi P S e at_).at_, .int .i64 ((Pl.writeG lo hi P S e at_).err : Nat)]) ∧ ∃ m, m ≤ n + 1 ∧ TwS w0 W3 st ms m lo hi (Pl.writeG lo hi P S e at_).P (Pl.writeG lo hi P S e at_).S := by
  obtain ⟨Ft, Fs, G, sb, D, u1, u2, h3, h4, h5⟩ := hU.ex
  have hla := u1.all
  have hlb := u2.all
  have h1 := u1.grew gU
  have h2 := u2.grew gU
  have h := hU.more gU
  refine (writeG0_any E e (hE.grew h.grew) (fun h1 => (hA h1).grew h.grew) hz at_ h1 (by omega) (by omega) hx hn).mono ?_
  rintro r W1 ⟨hr, m, hm, hO, Ft1, hS1, hF1⟩
  have hg1 : Grew w0 W1 := ((h.grew.only _).then hO).grew fun j hj => (h4 j (hj.elim (fun q => .inr (.inr q)) (fun q => .inr (.inl q)))).1
  have hM1 : MsAt W1 G ms sb lo hi D S := h2.kept hO (fun j hj hq => (h4 j (hq.elim (fun q => .inr (.inr q)) (fun q => .inr (.inl q)))).2 (.inl hj)) (fun hq => (h4 ms (hq.elim (fun q => .inr (.inr q)) (fun q => .inr (.inl q)))).2 (.inr (.inl rfl))) (fun hq => (h4 sb (hq.elim (fun q => .inr (.inr q)) (fun q => .inr (.inl q)))).2 (.inr (.inr rfl)))
  have hA1 : ∀ j, BlS Ft1 Fs st j → w0.heap.size ≤ j ∧ ¬ BlM G ms sb j := by
    rintro j (hj | hj | hj)
    · rcases hF1 j hj with q | q
      · exact h4 j (.inl q)
      · have := h.grew.size
        have := gU.size
        exact ⟨by omega, fun hm => by have := hlb j hm; omega⟩
    · exact h4 j (.inr (.inl hj))
    · exact h4 j (.inr (.inr hj))
  have hla1 := hS1.all
  refine ⟨hr, hg1, fun b hb1 hb2 => ⟨by have := hO.size; omega, fun o => hO.cell hb2 (fun hq => by have := hla b (hq.elim (fun q => .inr (.inr q)) (fun q => .inr (.inl q))); omega) o⟩, fun W2 g2 => ?_⟩
  have hx2 : D.length ≤ 1000 := by rw [← h3.len]; exact hx
  refine (write23_any0 e (fun h1 => (hA h1).grew (hg1.trans g2)) hs (fun o ho => (hz o ho).2) at_ (hM1.grew g2) h3 hl hh hx2).mono ?_
  rintro r W3 ⟨hr2, D', ⟨hO2, G', hM', hG'⟩, hT'⟩
  refine ⟨hr2, m, hm, ⟨(((hg1.trans g2).only _).then hO2).grew fun j hj => h5 j (hj.elim (fun q => .inr (.inl q)) (fun q => q.elim (fun q => .inr (.inr q)) .inl)), ⟨Ft1, Fs, G', sb, D', ?_, hM', hT', ?_, ?_⟩, Pl.writeG_in h3.srt h.ins S e at_⟩⟩
  · refine (hS1.grew g2).kept hO2 (fun j hj hq => (hA1 j (.inl hj)).2 ?_) (fun j hj hq => (hA1 j (.inr (.inl hj))).2 ?_) (fun hq => (hA1 st (.inr (.inr rfl))).2 ?_)
    all_goals exact hq.elim (fun q => .inr (.inl q)) (fun q => q.elim (fun q => .inr (.inr q)) .inl)
  · intro j hj
    refine ⟨(hA1 j hj).1, fun hq => ?_⟩
    rcases hq with q | q | q
    · rcases hG' j q with q | q
      · exact (hA1 j hj).2 (.inl q)
      · have := hla1 j hj
        have := g2.size
        omega
    · exact (hA1 j hj).2 (.inr (.inl q))
    · exact (hA1 j hj).2 (.inr (.inr q))
  · intro j hj
    rcases hj with q | q | q
    · rcases hG' j q with q | q
      · exact h5 j (.inl q)
      · have := (hg1.trans g2).size
        omega
    · exact h5 j (.inr (.inl q))
    · exact h5 j (.inr (.inr q))
/-- The span that a Made's state has. -/
def Md.spanLo (m : Md) : ByteArray := if Pl.rightR m.lo m.hi = true then m.lo else ⟨#[]⟩
def Md.spanHi (m : Md) : ByteArray := if Pl.rightR m.lo m.hi = true then m.hi else ⟨#[]⟩
theorem Md.span_right (m : Md) : Pl.rightS m.spanLo m.spanHi = true := by
  unfold Md.spanLo Md.spanHi
  cases h : Pl.rightR m.lo m.hi with
  | true => rw [if_pos rfl, if_pos rfl, ← Pl.rightR_eq]; exact h
  | false => rw [if_neg (by decide), if_neg (by decide)]; kernel_rfl
/-- A state that is made, with its model. -/
structure MdW (w W : World) (m : Md) (st ms : Nat) : Prop where
  ex : ∃ n P S, n ≤ 30 ∧ P.length ≤ 240 ∧ TwS w W st ms n m.spanLo m.spanHi P S
set_option maxRecDepth 100000 in
set_option maxHeartbeats 8000000 in
theorem madeL_any (E : Nat → Addr) (m : Md) (w : World) (hE : Errs stS E w) (hA : EnsAt w m.a m.es) (hs : MdSh m) :
    Calls Tryz.prog 26 #[m.agg] w fun e w' => ∃ st ms, e = .returned (.tuple #[.pointer (some ⟨st, 0, none⟩), .pointer (some ⟨ms, 0, none⟩)]) ∧ MdW w w' m st ms := by
  have HRS := hid m.span_right
  have HSL := hid (show m.spanLo.size ≤ 300 ∧ m.spanHi.size ≤ 300 from by
    unfold Md.spanLo Md.spanHi
    have := hs.lo
    have := hs.hi
    split
    · exact ⟨by omega, by omega⟩
    · exact ⟨by decide, by decide⟩)
  have HMW : Hid (∀ W st ms n P S, n ≤ 30 → P.length ≤ 240 → TwS w W st ms n m.spanLo m.spanHi P S → MdW w W m st ms) := fun W st ms n P S h1 h2 h3 => ⟨⟨n, P, S, h1, h2, h3⟩⟩
  have HSP : Hid ((Pl.rightR m.lo m.hi = true → m.spanLo = m.lo ∧ m.spanHi = m.hi) ∧ (Pl.rightR m.lo m.hi = false → m.spanLo = ⟨#[]⟩ ∧ m.spanHi = ⟨#[]⟩)) := by
    unfold Hid Md.spanLo Md.spanHi
    exact ⟨fun h => by rw [if_pos h, if_pos h]; exact ⟨rfl, rfl⟩, fun h => by rw [h, if_neg (by decide), if_neg (by decide)]; exact ⟨rfl, rfl⟩⟩
  obtain ⟨hl1, hl2, hl3, hl4⟩ := hs
  have HE := hid hE
  have HA := hid hA
  have HEA := hid hl4
  have HRR := hid (fun W => ref_right m.lo m.hi W (by omega) (by omega))
  generalize hmw : MdW w = MW at *
  generalize m.spanLo = lo' at *
  generalize m.spanHi = hi' at *
  obtain ⟨lo, hi, xs, a, cap⟩ := m
  dsimp only at *
  have HN := hid (fun W (g : Grew w W) => newS_any stS E ⟨rfl, rfl, rfl, rfl⟩ lo' hi' W (by have := HSL.out.1; omega) (by have := HSL.out.2; omega) (HE.out.grew g) HRS.out Pl.good_nil)
  unfold Md.agg Md.vals
  dsimp only
  clear hE hA hl1 hl2 hl4 hmw
  generalize Pl.rightR lo hi = rr at *
  go_enter Tryz.func26, Tryz.ntmps26
  go_wp2_with fail
  obtain ⟨Y, hY⟩ : ∃ Y, Y = w.alloc (.cells #[.string lo, .string hi, .slice a xs.length cap] 72) := ⟨_, rfl⟩
  have gY : Grew w Y := by rw [hY]; exact (Grew.refl w).alloc _
  have HY := hid (show Y.cell? ⟨w.heap.size, 0, none⟩ = some (.string lo) ∧ Y.cell? ⟨w.heap.size, 1, none⟩ = some (.string hi) ∧ Y.cell? ⟨w.heap.size, 2, none⟩ = some (.slice a xs.length cap) ∧ Y.frozen? ⟨w.heap.size, 0, none⟩ = false ∧ Y.frozen? ⟨w.heap.size, 1, none⟩ = false ∧ w.heap.size < Y.heap.size from by rw [hY]; exact ⟨by simp [go_sem], by simp [go_sem], by simp [go_sem], by simp [go_sem], by simp [go_sem], by simp⟩)
  have HGY := hid gY
  rw [← hY]
  clear hY gY
  refine (HRR.out Y).mono ?_
  rintro e w1 ⟨rfl, hg1⟩
  have HG1 := hid (HGY.out.trans hg1)
  obtain ⟨mx, hmx⟩ : ∃ mx, mx = w.heap.size := ⟨_, rfl⟩
  have HMX := hid (show w.heap.size ≤ mx from by omega)
  rw [← hmx] at HY ⊢
  have y0 := (hg1.cells.1 _ 0 HY.out.2.2.2.2.2).trans HY.out.1
  have y1 := (hg1.cells.1 _ 1 HY.out.2.2.2.2.2).trans HY.out.2.1
  have y2 := (hg1.cells.1 _ 2 HY.out.2.2.2.2.2).trans HY.out.2.2.1
  have r0 := (hg1.cells.2 _ 0 HY.out.2.2.2.2.2).trans HY.out.2.2.2.1
  have r1 := (hg1.cells.2 _ 1 HY.out.2.2.2.2.2).trans HY.out.2.2.2.2.1
  have hmw1 := Nat.lt_of_lt_of_le HY.out.2.2.2.2.2 hg1.size
  clear hg1 hmx HRR HY HGY
  go_upto_if 12 with fail
  go_cut [12] (fun s wx => wx.cell? ⟨mx, 0, none⟩ = some (.string lo') ∧ wx.cell? ⟨mx, 1, none⟩ = some (.string hi') ∧ wx.cell? ⟨mx, 2, none⟩ = some (.slice a xs.length cap) ∧ Grew w wx)
  case first =>
    cases rr with
    | true =>
      obtain ⟨rfl, rfl⟩ := HSP.out.1 rfl
      go_wp2_with fail
      go_meet
      exact ⟨y0, y1, y2, HG1.out⟩
    | false =>
      obtain ⟨rfl, rfl⟩ := HSP.out.2 rfl
      have HQ := hid (show Grew w ((w1.setCell ⟨mx, 0, none⟩ (.string ⟨#[]⟩)).setCell ⟨mx, 1, none⟩ (.string ⟨#[]⟩)) from (HG1.out.setCell HMX.out _).setCell HMX.out _)
      go_wp2_with fail
      go_meet
      exact ⟨by simp [go_sem, y0], by simp [go_sem, y1], by simp [go_sem, y2], HQ.out⟩
  case rest =>
    obtain ⟨z0, z1, z2, hgz⟩ := hcut
    have HGZ := hid hgz
    have hmz := cell_lt z0
    clear y0 y1 y2 r0 r1 hmw1 HG1 HSP hgz
    go_wp2_with fail
    refine (HN.out wc HGZ.out).mono ?_
    rintro e w3 ⟨cb, Gt, Gs, rfl, hS, ht, hsn, hc, hg3⟩
    have HS3 := hid (show StAt w3 Gt Gs cb 0 lo' hi' [] (fun _ => none) ∧ (∀ j, BlS Gt Gs cb j → wc.heap.size ≤ j) from ⟨hS, fun j hj => hj.elim (ht j) (fun q => q.elim (hsn j) (fun q => by rw [q]; exact hc))⟩)
    have z0 := (hg3.cells.1 _ 0 hmz).trans z0
    have z1 := (hg3.cells.1 _ 1 hmz).trans z1
    have z2 := (hg3.cells.1 _ 2 hmz).trans z2
    have hmz3 := Nat.lt_of_lt_of_le hmz hg3.size
    have HG3 := hid hg3
    clear hS ht hsn hc hg3 HN
    go_wp2_with fail
    refine (new23_any w3 lo' hi').mono ?_
    rintro e w4 ⟨ms, sb, G, rfl, hM, hm1, hm2, hm3, hg4⟩
    have HTW := hid (show TwS w w4 cb ms 0 lo' hi' [] (fun _ => none) from by
      have hall := HS3.out.1.all
      have h3 := HG3.out.size
      have hz := HGZ.out.size
      refine ⟨(HGZ.out.trans HG3.out).trans hg4, ⟨Gt, Gs, G, sb, [], HS3.out.1.grew hg4, hM, Pl.Tt.nil, fun j hj => ⟨by have := HS3.out.2 j hj; omega, fun hq => ?_⟩, fun j hj => ?_⟩, Pl.inS_nil _ _⟩
      · have := hall j hj
        rcases hq with q | q | q
        · have := hm3 j q; omega
        · omega
        · omega
      · rcases hj with q | q | q
        · have := hm3 j q; omega
        · omega
        · omega)
    have z2 := (hg4.cells.1 _ 2 hmz3).trans z2
    have hmz4 := Nat.lt_of_lt_of_le hmz3 hg4.size
    clear hM hm1 hm2 hm3 hg4 HS3 HG3 HGZ z0 z1 hmz hmz3
    go_wp2_with fail
    clear z2 hmz4
    go_loopw [29] (fun i wr => ∃ k : Nat, k ≤ xs.length ∧ i = .int .i64 k ∧ Hid (∃ n P S, n ≤ k ∧ P.length ≤ 8 * k ∧ TwS w wr cb ms n lo' hi' P S)) (fun i _ => xs.length - (intOf i).toNat)
    case atStart => exact ⟨0, Nat.zero_le _, rfl, 0, [], _, Nat.le_refl _, by simp, HTW.out⟩
    case round =>
      obtain ⟨k, hk1, rfl, HK⟩ := hrel
      by_cases hlt : k < xs.length
      · rcases HA.out.row with h0 | ⟨b, off, rfl, hb, hR⟩
        · rw [h0] at hlt; simp at hlt
        obtain ⟨n, P, S, hn, hP, hT⟩ := HK.out
        have hG := hT.grew
        obtain ⟨q0, q1, q2, q3, q4, q5, q6, q7, q8, q9, q10, q11⟩ := en_cells (W := wr) (b := b) (off := off + k * 12) (e := enAt xs k) (fun i v hv => (hG.cells.1 _ _ hb).trans (hR k hlt i v hv))
        have hbr := Nat.lt_of_lt_of_le hb hG.size
        have HOPS := hid (HA.out.ops k hlt)
        have HSZ := hid (HEA.out k hlt)
        have HT := hid hT
        have HNP := hid (And.intro hn hP)
        have hk9 : k < 1000000 := by omega
        clear hR hT hn hP hG
        generalize enAt xs k = A at *
        obtain ⟨kind, shard, other, server, client, seq, key, upto, part, parts, ops, opsA, opsC, dataA, dataL, dataC⟩ := A
        dsimp only at *
        go_upto_region 10 with fail
        clear q0 q1 q2 q3 q4 q5 q6 q7 q8 q9 q10 q11 hbr
        obtain ⟨X, hX⟩ : ∃ X, X = wr.alloc (.cells #[.int .i64 kind, .int .i64 shard, .int .i64 other, .int .i64 server, .int .i64 client, .int .i64 seq, .slice opsA ops.length opsC, .string key, .int .i64 upto, .int .i64 part, .int .i64 parts, .slice dataA dataL dataC] 52) := ⟨_, rfl⟩
        have gX : Grew wr X := by rw [hX]; exact (Grew.refl wr).alloc _
        have HXB := hid (show ∀ i v, (En.vals ⟨kind, shard, other, server, client, seq, key, upto, part, parts, ops, opsA, opsC, dataA, dataL, dataC⟩)[i]? = some v → X.cell? ⟨wr.heap.size, i, none⟩ = some v from by
          intro i v hv
          rw [hX, cell_block (heap_alloc_new wr _)]
          exact hv)
        have hxs : wr.heap.size < X.heap.size := by rw [hX]; simp
        have hEN : kind = 1 → EnAt w ⟨kind, shard, other, server, client, seq, key, upto, part, parts, ops, opsA, opsC, dataA, dataL, dataC⟩ := fun h1 => ⟨HOPS.out, by have := HSZ.out.1; dsimp only; omega, fun o ho => by have := HSZ.out.2 o ho; exact ⟨by omega, by omega, by omega⟩, fun h => absurd (h1.symm.trans h) (by decide)⟩
        have HWR := hid (twS_write2 E HE.out HT.out gX ⟨kind, shard, other, server, client, seq, key, upto, part, parts, ops, opsA, opsC, dataA, dataL, dataC⟩ hEN (fun o ho => by have := HSZ.out.2 o ho; exact ⟨by omega, by omega⟩) (fun o ho => by have := HSZ.out.2 o ho; omega) (k : Int) (by have := HSL.out.1; omega) (by have := HSL.out.2; omega) (by have := HNP.out.2; omega) (by have := HNP.out.1; omega))
        have HWL := hid (Pl.writeG_len lo' hi' P S ⟨kind, shard, other, server, client, seq, key, upto, part, parts, ops, opsA, opsC, dataA, dataL, dataC⟩ (k : Int))
        have HWT := hid (HT.out)
        unfold En.agg En.vals at HWR HXB
        dsimp only at HWR HXB
        generalize Pl.writeG lo' hi' P S ⟨kind, shard, other, server, client, seq, key, upto, part, parts, ops, opsA, opsC, dataA, dataL, dataC⟩ (k : Int) = R at *
        obtain ⟨yc, ya, ye, YP, YS⟩ := R
        dsimp only at *
        unfold ansAgg at HWR
        have d0 := HXB.out 0 _ rfl
        have d1 := HXB.out 1 _ rfl
        have d2 := HXB.out 2 _ rfl
        have d3 := HXB.out 3 _ rfl
        have d4 := HXB.out 4 _ rfl
        have d5 := HXB.out 5 _ rfl
        have d6 := HXB.out 6 _ rfl
        have d7 := HXB.out 7 _ rfl
        have d8 := HXB.out 8 _ rfl
        have d9 := HXB.out 9 _ rfl
        have d10 := HXB.out 10 _ rfl
        have d11 := HXB.out 11 _ rfl
        rw [← hX]
        obtain ⟨kb, hkb⟩ : ∃ kb, kb = wr.heap.size := ⟨_, rfl⟩
        have HKB := hid (show wr.heap.size ≤ kb ∧ kb < X.heap.size from ⟨by omega, by omega⟩)
        rw [← hkb] at d0 d1 d2 d3 d4 d5 d6 d7 d8 d9 d10 d11 hxs ⊢
        clear hX gX hEN HT HXB hkb
        go_wp2_with fail
        refine HWR.out.mono ?_
        rintro e w6 ⟨rfl, hg6, hb6, hw6⟩
        obtain ⟨hk6, hc6⟩ := hb6 kb HKB.out.1 HKB.out.2
        have d0 := (hc6 0).trans d0
        have d1 := (hc6 1).trans d1
        have d2 := (hc6 2).trans d2
        have d3 := (hc6 3).trans d3
        have d4 := (hc6 4).trans d4
        have d5 := (hc6 5).trans d5
        have d6 := (hc6 6).trans d6
        have d7 := (hc6 7).trans d7
        have d8 := (hc6 8).trans d8
        have d9 := (hc6 9).trans d9
        have d10 := (hc6 10).trans d10
        have d11 := (hc6 11).trans d11
        have HW6 := hid (hw6 w6 (Grew.refl w6))
        clear hg6 hb6 hw6 hc6 HWR hxs
        go_wp2_with fail
        refine HW6.out.mono ?_
        rintro e w7 ⟨rfl, n7, hn7, hT7⟩
        have HK7 := hid (show ∃ n P S, n ≤ k + 1 ∧ P.length ≤ 8 * (k + 1) ∧ TwS w w7 cb ms n lo' hi' P S from ⟨n7, YP, YS, by have := HNP.out.1; omega, by have := HNP.out.2; have := HWL.out; omega, hT7⟩)
        clear hn7 hT7 HW6 d0 d1 d2 d3 d4 d5 d6 d7 d8 d9 d10 d11 hk6 HWT HWL HNP
        go_wp2_with fail
        go_roundw
        case rel => exact ⟨k + 1, by omega, by go_num, HK7.out⟩
        case measure => simp [intOf]; omega
      · have hkn : k = xs.length := by omega
        subst hkn
        have HF := hid (show MW wr ⟨lo, hi, xs, a, cap⟩ cb ms from by
          obtain ⟨n, P, S, hn, hP, hT⟩ := HK.out
          exact HMW.out wr cb ms n P S (by omega) (by omega) hT)
        go_wp2_with fail
        go_ret2
        exact ⟨cb, ms, rfl, HF.out⟩
end Go.Proofs.YtifcnammekbfoaaGreatDoor
