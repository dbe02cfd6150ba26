/- Aud14, MapR, MapI: one text. -/
import Derived.Test.YtbdagllflamabaaGreatDoorFinAuditApartQ36
import Derived.Test.YtbdagllflamabaaGreatDoorFinAuditApartQ16
import Derived.Test.YtbdagllflamabaaGreatDoorFinAuditApartQ21
import Derived.Test.YtbdagllflamabaaGreatDoorFinAuditApartQ34
import Derived.Test.YtbdagllflamabaaGreatDoorFinAuditApartQ3
import Derived.Maps.RangeWalk
import Derived.Maps.GroupsBeside
import Derived.Sort.KeysCollected
import Derived.StringKeys
import Derived.Test.YtbdagllflamabaaGreatDoorFinAuditApartQ15
set_option linter.unusedVariables false
set_option linter.unusedSectionVars false
set_option linter.unusedSimpArgs false
namespace Go.Proofs.YtbdagllflamabaaGreatDoor
open Go.RowKit Go.Maps
attribute [local go_sem] Oper.semAt_some uponV
namespace Pl
def tabP (v : Option (List Pr × (Int → Option An))) : List Pr := match v with | none => [] | some v => v.1
def scanStep (st : Nat → Option (List Pr × (Int → Option An))) (lo hi : ByteArray) (limit : Int) (out : List Pr) (c : Sh) : List Pr := if 0 < limit ∧ 0 < limit - (out.length : Int) then out ++ scanT (tabP (st c.id.toNat)) lo hi (limit - (out.length : Int)) else out
def scanAP (A : AuP) (lo hi : ByteArray) (limit : Int) : List Pr := A.sh.xs.foldl (scanStep A.st lo hi limit) []
def scanK (A : AuP) (lo hi : ByteArray) (limit : Int) (k : Nat) : List Pr := (A.sh.xs.take k).foldl (scanStep A.st lo hi limit) []
theorem scanK_succ (A : AuP) (lo hi : ByteArray) (limit : Int) (k : Nat) (h : k < A.sh.xs.length) : scanK A lo hi limit (k + 1) = scanStep A.st lo hi limit (scanK A lo hi limit k) (shAt A.sh.xs k) := by
  unfold scanK
  rw [List.take_succ_eq_append_getElem h, List.foldl_append, shAt_eq _ k h]
  rfl
theorem scanT_len (xs : List Pr) (lo hi : ByteArray) (limit : Int) : (scanT xs lo hi limit).length ≤ xs.length := by
  unfold scanT
  rw [List.length_take]
  have := List.length_filter_le (fun c : Pr => hasS lo hi c.key) xs
  omega
theorem scanK_len {A : AuP} (hx : ∀ i P S, A.st i = some (P, S) → P.length ≤ 1000) (lo hi : ByteArray) (limit : Int) : ∀ k, k ≤ A.sh.xs.length → (scanK A lo hi limit k).length ≤ 1000 * k
  | 0, _ => by unfold scanK; simp
  | k + 1, h => by
    have ih := scanK_len hx lo hi limit k (by omega)
    rw [scanK_succ A lo hi limit k (by omega)]
    unfold scanStep
    split
    · rw [List.length_append]
      have h1 := scanT_len (tabP (A.st (shAt A.sh.xs k).id.toNat)) lo hi (limit - ((scanK A lo hi limit k).length : Int))
      have h2 : (tabP (A.st (shAt A.sh.xs k).id.toNat)).length ≤ 1000 := by
        cases hA : A.st (shAt A.sh.xs k).id.toNat with
        | none => simp [tabP]
        | some v => obtain ⟨P, S⟩ := v; exact hx _ P S hA
      omega
    · omega
end Pl
set_option maxRecDepth 100000 in
set_option maxHeartbeats 4000000 in
theorem scanA_any (E : Nat → Addr) {W : World} (hE : Errs auS E W) {L : Nat → Nat} {k ab n m0 : Nat} {A : AuP} (h : AuAt W L k ab n A) (hOk : AuOk A m0) (hm0 : m0 ≤ 120) (lo hi : ByteArray) (limit : Int) (hlo : lo.size ≤ 70368744177664) (hhi : hi.size ≤ 70368744177664) (hlim : limit ≤ 9223372036854775807) :
    Calls Tryz.prog 12 #[.pointer (some ⟨ab, 0, none⟩), .agg #[.string lo, .string hi], .int .i64 limit] W fun e w' => Grew W w' ∧ ∃ a cap, e = .returned (.slice a (Pl.scanAP A lo hi limit).length cap) ∧ w'.ownsRow W.heap.size 42 3 (.slice a (Pl.scanAP A lo hi limit).length cap) (Pl.scanAP A lo hi limit).length (prFlat (Pl.scanAP A lo hi limit)) := by
  obtain ⟨sb, mb, nb, f, st, h⟩ := h
  obtain ⟨F, hS, _⟩ := h.sh
  have few : ∀ q P S, A.st q = some (P, S) → P.length ≤ 1000 := fun q P S hA => by
    have hq := hOk.lt (i := q) (by rw [hA]; simp)
    have a := len_tot A.st q (by omega)
    have b := hOk.few
    rw [hA] at a
    unfold lenS at a
    dsimp only at a
    omega
  have hxl : A.sh.xs.length ≤ 121 := by have := hOk.inv.len; omega
  have HSH := hid (fun X (g : Grew W X) => shards_any (hS.grew g) (by omega) hOk.inv.pos)
  have c1 := h.c1
  have c2 := h.c2
  have hab := cell_lt c1
  have HLEN := hid (fun k (hk : k ≤ A.sh.xs.length) => Pl.scanK_len few lo hi limit k hk)
  have HSC := hid (fun k (hk : k < A.sh.xs.length) => Pl.scanK_succ A lo hi limit k hk)
  have HEQ := hid (show Pl.scanK A lo hi limit A.sh.xs.length = Pl.scanAP A lo hi limit from by unfold Pl.scanK Pl.scanAP; rw [List.take_length])
  have HST := hid (show ∀ k, k < A.sh.xs.length → ∃ (i : Nat) (sp tb : Nat) (P : List Pr) (Ft : Nat → Prop), (shAt A.sh.xs k).id = (i : Int) ∧ i ≤ 12 ∧ Pl.tabP (A.st (shAt A.sh.xs k).id.toNat) = P ∧ P.length ≤ 1000 ∧ (∀ X, Grew W X → (Instr.lookup 107 (.map (some mb)) (.int .i64 (i : Int)) false).run Tryz.prog X = .ok (.pointer (some ⟨sp, 0, none⟩)) X) ∧ W.cell? ⟨sp, 0, none⟩ = some (.pointer (some ⟨tb, 0, none⟩)) ∧ TabAt W Ft tb P from fun k hk => by
    have hm := Pl.mem_at hk
    have hid := hOk.inv.ids _ hm
    obtain ⟨P, S, hP, _⟩ := hOk.dom _ hm
    obtain ⟨i12, c, _, _, Ft, Fs, m, _, ⟨tb, yb, hT⟩, _⟩ := h.states _ P S hP
    refine ⟨(shAt A.sh.xs k).id.toNat, st (shAt A.sh.xs k).id.toNat, tb, P, Ft, by omega, i12, by rw [hP]; rfl, few _ P S hP, fun X g => ?_, hT.c0, hT.tab⟩
    have := h.look g (shAt A.sh.xs k).id.toNat (by omega)
    rw [this]
    unfold ptrS
    rw [hP]; rfl)
  have HE := hid hE
  clear h hS hOk few hE
  generalize hxs : A.sh.xs = xs at *
  go_enter Tryz.func12, Tryz.ntmps12
  go_wp2_with fail
  refine (HSH.out _ ((Grew.refl W).alloc _)).mono ?_
  rintro e w1 ⟨g, cap, rfl, hrow, hg1⟩
  have hz1 : W.heap.size < w1.heap.size := by have := hg1.size; simp at this; omega
  have l0 : w1.cell? ⟨W.heap.size, 0, none⟩ = some (.string lo) := by rw [hg1.cells.1 _ _ (by simp)]; simp [go_sem]
  have l1 : w1.cell? ⟨W.heap.size, 1, none⟩ = some (.string hi) := by rw [hg1.cells.1 _ _ (by simp)]; simp [go_sem]
  have HG1 := hid (((Grew.refl W).alloc _).trans hg1)
  have HROW := hid (show g < w1.heap.size ∧ ∀ j, j < xs.length → ∀ q v, (shAt xs j).vals[q]? = some v → w1.cell? ⟨g, j * 5 + q, none⟩ = some v from by
    refine ⟨(hrow.lt g rfl).2, fun j hj q v hv => ?_⟩
    have hq : q < 5 := (List.getElem?_eq_some_iff.1 hv).1
    have := hrow.cellAt (j * 5 + q) (by omega)
    rw [this, shFlat_get q hq xs j hj, hv])
  clear hrow hg1 HSH
  go_wp2_with fail
  obtain ⟨wo, rfl⟩ : ∃ wo : World, wo = w1 := ⟨_, rfl⟩
  go_loopw [7, 17] (fun v i wr => ∃ (k m : Nat) (ys : List Pr) (a2 : Option Addr) (cap2 : Nat), k ≤ xs.length ∧ v = .slice a2 m cap2 ∧ i = .int .i64 k ∧ Hid (ys = Pl.scanK A lo hi limit k) ∧ Hid (m = ys.length) ∧ m ≤ 1000 * k ∧ Hid (wr.ownsRow wo.heap.size 42 3 (.slice a2 m cap2) m (prFlat ys)) ∧ Grew wo wr) (fun _ i _ => xs.length - (intOf i).toNat)
  case atStart => exact ⟨0, 0, [], none, 0, Nat.zero_le _, rfl, rfl, by unfold Hid Pl.scanK; simp, by unfold Hid; rfl, Nat.zero_le _, World.ownsRow_nil _ _ _ _, Grew.refl _⟩
  case round =>
    obtain ⟨k, m, ys, a2, cap2, hk1, rfl, rfl, HY, HM, hmk, HOWN, hG⟩ := hrel
    obtain ⟨wp, rfl⟩ : ∃ wp : World, wp = wr := ⟨_, rfl⟩
    by_cases hlt : k < xs.length
    · obtain ⟨hgl, hrow⟩ := HROW.out
      have hGW := HG1.out.trans hG
      have q0 := (hG.cells.1 g (k * 5 + 0) hgl).trans (hrow k hlt 0 _ rfl)
      have q1 := (hG.cells.1 g (k * 5 + 1) hgl).trans (hrow k hlt 1 _ rfl)
      have q2 := (hG.cells.1 g (k * 5 + 2) hgl).trans (hrow k hlt 2 _ rfl)
      have q3 := (hG.cells.1 g (k * 5 + 3) hgl).trans (hrow k hlt 3 _ rfl)
      have q4 := (hG.cells.1 g (k * 5 + 4) hgl).trans (hrow k hlt 4 _ rfl)
      simp only [Nat.add_zero] at q0
      have hgp := Nat.lt_of_lt_of_le hgl hG.size
      have HSTEP := hid (HSC.out k hlt)
      have hml := HLEN.out (k + 1) (by omega)
      obtain ⟨i, sp, tb, P, Ft, hci, hi12, hP, hPl, hlk, hs0, hT⟩ := HST.out k hlt
      clear hrow HST HSC HLEN
      generalize shAt xs k = c at *
      obtain ⟨cid, csv, csn, clo, chi⟩ := c
      dsimp only at *
      subst hci
      unfold Pl.scanStep at HSTEP
      dsimp only at HSTEP
      rw [← HY.out, hP, ← HM.out] at HSTEP
      have HPL := hid hPl
      have HLK := hid hlk
      have HT := hid hT
      have HGW := hid hGW
      clear hP hlk hT hGW hPl
      by_cases h0 : 0 < limit
      · by_cases h2 : 0 < limit - (m : Int)
        · have HS2 := hid (HSTEP.out.trans (if_pos ⟨h0, h2⟩))
          have hln : m + (Pl.scanT P lo hi (limit - (m : Int))).length ≤ 1000 * (k + 1) := by
            have := hml
            rw [HS2.out, List.length_append, ← HM.out] at this
            exact this
          clear HSTEP hml
          go_upto_region 7 with fail
          obtain ⟨Y, hY⟩ : ∃ Y, Y = wp.alloc (.cells #[.int .i64 (i : Int), .int .i64 csv, .int .i64 csn, .string clo, .string chi] 118) := ⟨_, rfl⟩
          have gY : Grew wp Y := by rw [hY]; exact (Grew.refl wp).alloc _
          obtain ⟨xb, hxb⟩ : ∃ xb, xb = wp.heap.size := ⟨_, rfl⟩
          have X0 := wd_cell (show Y.cell? ⟨xb, 0, none⟩ = some (.int .i64 (i : Int)) from by rw [hY, hxb]; simp [go_sem])
          rw [← hY, ← hxb]
          have HGY := hid gY
          have HGWY := hid (HGW.out.trans gY)
          have HGO := hid (hG.trans gY)
          have hspW := cell_lt hs0
          have A2 := wd_cell ((HGWY.out.cells.1 _ 2 hab).trans c2)
          have S0 := wd_cell ((HGWY.out.cells.1 _ 0 hspW).trans hs0)
          have L0 := wd_cell ((HGO.out.cells.1 _ 0 hz1).trans l0)
          have L1 := wd_cell ((HGO.out.cells.1 _ 1 hz1).trans l1)
          have hlk : ∀ p : Wd (Grew Y), (Instr.lookup 107 (.map (some mb)) (.int .i64 (i : Int)) false).run Tryz.prog p.w = .ok (.pointer (some ⟨sp, 0, none⟩)) p.w := fun p => HLK.out p.w (HGWY.out.trans p.ok)
          obtain ⟨zs, hzs⟩ : ∃ zs, zs = Pl.scanT P lo hi (limit - (m : Int)) := ⟨_, rfl⟩
          have HSCN := hid (fun X (g : Grew Y X) => scanT_any auS_tab E (HE.out.grew (HGWY.out.trans g)) (HT.out.grew (HGWY.out.trans g)) (by have := HPL.out; omega) lo hi (limit - (m : Int)) hlo hhi)
          rw [← hzs] at HSCN hln HS2
          clear hY hxb gY hzs q0 q1 q2 q3 q4
          refine wp_region_mixS 14 [13] (Grew Y) Eq (JE 13 (Grew Y) (fun v u => Grew Y u ∧ ∃ a c, v = .slice a zs.length c ∧ PairsAt u a zs ∧ SlForm a c) (fun _ => none)) (fun f a => a.put (some 44) (f 13)) (by kernel_rfl) (by kernel_rfl) (fun _ _ => rfl) (JE.start (Grew.refl Y).drew _) (fun L0 _ _ h => ?_) (fun _ => rfl) (fun _ _ _ _ h g => g ▸ h) ?_
          · cases hL : L0 13 with
            | false => exact h.pre hL
            | true => exact (h.post hL).1
          repeat (first
    | (refine mixS_loose (by rfl) (by rfl) ?_)
    | (refine mixS_plain (by rfl) (by rfl) (by rfl) (by first | exact Grew.refl | exact fun _ => rfl) (by rfl) ?_; intro K hK; go_big_quiet_op; go_big_quiet_on)
    | (refine mixS_skip (by rfl) (by rfl) (by rfl) ?_; simp only [Act.put, List.setIfInBounds_toArray, List.set_cons_zero, List.set_cons_succ]))
          refine mixS_done (by rfl) ⟨⟨loose_of rfl (fun _ a => a) (fun _ _ => rfl) (fun _ => rfl) ?_, trivial⟩, ?_⟩
          · intro L0' f0 u hJ hL hd
            have HJ := hid hJ
            have HL := hid hL
            clear hJ hL hd X0 A2 S0 L0 L1 hlk
            go_simp
            have hg := HJ.out.pre HL.out
            refine (HSCN.out u hg).mono ?_
            rintro r u' ⟨⟨v, rfl, hown⟩, hg2⟩
            obtain ⟨av, cv, rfl, hPA⟩ := pairsAt_of hown
            exact ⟨_, rfl, HJ.out.call HL.out rfl ⟨hg.trans hg2, av, cv, rfl, hPA, slForm_of hown⟩⟩
          intro f0 u hJ
          obtain ⟨gYu, av, cv, e13, hPA, hSF⟩ := hJ.post rfl
          have HU := hid (HGO.out.trans gYu)
          have HPA := hid (And.intro hPA hSF)
          have HOWU := hid (ownsRow_grew (HGY.out.trans gYu) HOWN.out)
          have hwu := HU.out.size
          obtain ⟨zn, hzn⟩ : ∃ zn, zn = zs.length := ⟨_, rfl⟩
          have HZN := hid hzn
          rw [← hzn] at hln e13
          clear hJ gYu hPA hSF X0 A2 S0 L0 L1 hlk HSCN hs0 hspW hzn
          dsimp only [List.drop]
          simp only [Act.put, List.setIfInBounds_toArray, List.set_cons_succ, List.set_cons_zero]
          rw [e13]
          clear e13
          go_wp2_with (at_builtin; refine wpList_append_pairs rfl _ _ rfl rfl HOWU.out rfl HZN.out HPA.out.1 HPA.out.2 (by omega) hwu ?_)
          intro a' cap' w' hown' hgrow'
          have HFIN := hid (And.intro hown' (show Grew wo w' from ((HU.out.only _).then (Only.of_grownBy hgrow')).grew fun j hj => by
            have := (HOWU.out.lt j hj.symm).1
            exact this))
          clear hown' hgrow'
          go_wp2_with fail
          go_roundw
          case rel => exact ⟨k + 1, m + zn, ys ++ zs, a', cap', by omega, rfl, by go_num, HS2.out.symm, by unfold Hid; rw [List.length_append, ← HM.out, HZN.out], by omega, HFIN.out.1, HFIN.out.2⟩
          case measure => simp [intOf]; omega
        · have HS2 : Hid (ys = Pl.scanK A lo hi limit (k + 1)) := (HSTEP.out.trans (if_neg fun q => h2 q.2)).symm
          have h3 : limit - (m : Int) ≤ 0 := by omega
          clear HSTEP hs0
          go_wp2_with fail
          go_roundw
          case rel => exact ⟨k + 1, m, ys, a2, cap2, by omega, rfl, by go_num, HS2, HM, by omega, ownsRow_grew ((Grew.refl wp).alloc _) HOWN.out, hG.alloc _⟩
          case measure => simp [intOf]; omega
      · have HS2 : Hid (ys = Pl.scanK A lo hi limit (k + 1)) := (HSTEP.out.trans (if_neg fun q => h0 q.1)).symm
        have h3 : limit ≤ 0 := by omega
        clear HSTEP hs0
        go_wp2_with fail
        go_roundw
        case rel => exact ⟨k + 1, m, ys, a2, cap2, by omega, rfl, by go_num, HS2, HM, by omega, ownsRow_grew ((Grew.refl wp).alloc _) HOWN.out, hG.alloc _⟩
        case measure => simp [intOf]; omega
    · obtain rfl : k = xs.length := by omega
      go_wp2_with fail
      go_ret
      have e1 : ys = Pl.scanAP A lo hi limit := HY.out.trans HEQ.out
      have e2 : m = (Pl.scanAP A lo hi limit).length := HM.out.trans (by rw [e1])
      refine ⟨HG1.out.trans hG, a2, cap2, by rw [← e2]; rfl, ?_⟩
      rw [← e2, ← e1]
      exact ownsRow_base (by omega) HOWN.out
end Go.Proofs.YtbdagllflamabaaGreatDoor
namespace Go.Proofs.YtbdagllflamabaaGreatDoor
open Go.RowKit Go.Maps Go.ChangeMaps Go.MapKept Go.WideShapes
open Go.WideElems (Fit rd rg pl rd_key rd_val rg_of other_key rd_mk)
def mlit (s : ByteArray) : Lit := .string s.data.toList
section
variable {w : World} {P : Program} {k e t : TypeId} {b n r cnt : Nat} {f : Lit → Option Value} {left : Lit → Bool}
theorem ranges_store {H : Type} {R : Value → Option (DataW H × List MemPlace)} {D : DataW H} (h : w.ranges P k R b r n D left cnt) (K : Keyed P k) (ht : P.underlying t = some (.map k e)) {key val : Value} {kl : Lit} {d : DataW H} {ps : List MemPlace}
    (hkey : keyOf P k key = some kl) (hv : R val = some (d, ps)) (hn : n < maxLen) (hhas : Maps.has D kl = true) : ∃ w', (Instr.mapUpdate t (.map (some b)) key val).run P w = .ok () w' ∧ w'.ranges P k R b r n (D.put kl d) left cnt ∧ w.mapTurned w' b := by
  have hne := h.ne
  obtain ⟨es, clock, since, seen, c0, hb, F, hs, rfl, hr, hold, rfl, hl1, hl2, hsc, hsk⟩ := h
  obtain ⟨es', clock', hrun', F', hput', _, _, _⟩ := Maps.fit_store (R' := R) K ht hb F (Nat.lt_of_le_of_lt hs hn) (fun _ _ _ _ hz => hz) hkey hv
  rcases K.find w hkey es.toList F.keys with ⟨h1, h2⟩ | ⟨j, e0, h1, h2, h3⟩
  · exfalso
    obtain ⟨p, hp, hpk⟩ := List.any_eq_true.1 hhas
    obtain ⟨x, hx, rfl⟩ := List.mem_map.1 (mem_sorted.1 hp)
    obtain ⟨y, hy⟩ := F.reads x hx
    have e1 := WideAt.sameKey_eq hpk
    rw [rg_of hy] at e1
    exact h2 x hx (K.inj (e1 ▸ rd_key hy) hkey)
  · have hj : es[j]? = some e0 := by simpa using h2
    have hjl : j < es.toList.length := (List.getElem?_eq_some_iff.1 h2).1
    have hrun : (Instr.mapUpdate t (.map (some b)) key val).run P w = .ok () (setBlock w b (.map (es.modify j (fun e' => { e' with key := key, val := val })) clock)) := by
      simp [Instr.mapUpdate, run_underlying ht, MapKept.run_getObj_map hb, K.check w false hkey, h1, hj, h3, K.stays w hkey, MapKept.run_setObj_map _ hb, Result.andThen, setBlock]
    have heq := hrun'.symm.trans hrun
    have hblk : setBlock w b (.map es' clock') = setBlock w b (.map (es.modify j (fun e' => { e' with key := key, val := val })) clock) := by injection heq
    have hobj : (Obj.map es' clock') = .map (es.modify j (fun e' => { e' with key := key, val := val })) clock := by
      have h5 := heap_setBlock_same hb (.map es' clock')
      rw [hblk, heap_setBlock_same hb] at h5
      exact (Option.some.inj h5).symm
    have hes : es' = es.modify j (fun e' => { e' with key := key, val := val }) := by injection hobj
    have hcl : clock' = clock := by injection hobj
    have hlist : es'.toList = es.toList.set j { e0 with key := key, val := val } := by
      rw [hes, Array.toList_modify, List.modify_eq_set, h2]; rfl
    rw [hcl] at hrun' F'
    -- whoever stands there now stood there ahead, with the same stamp and the same key
    have who : ∀ x' ∈ es'.toList, ∃ x ∈ es.toList, x.born = x'.born ∧ x.key = x'.key := by
      intro x' hx'
      rw [hlist] at hx'
      obtain ⟨i, hi, ex⟩ := List.getElem_of_mem hx'
      rw [List.getElem_set] at ex
      split at ex
      · subst ex; exact ⟨e0, List.mem_of_getElem? h2, rfl, h3⟩
      · exact ⟨x', ex ▸ List.getElem_mem (by simpa using hi), rfl, rfl⟩
    have back : ∀ x ∈ es.toList, ∃ x' ∈ es'.toList, x'.key = x.key := by
      intro x hx
      obtain ⟨i, hi, ex⟩ := List.getElem_of_mem hx
      rw [hlist]
      by_cases hij : j = i
      · subst hij
        refine ⟨_, List.getElem_mem (l := es.toList.set j { e0 with key := key, val := val }) (n := j) (by simpa using hi), ?_⟩
        rw [List.getElem_set_self]
        rw [List.getElem?_eq_getElem hi, Option.some.injEq] at h2
        rw [← ex, h2]; exact h3.symm
      · refine ⟨x, ?_, rfl⟩
        have : (es.toList.set j { e0 with key := key, val := val })[i]'(by simpa using hi) = x := by rw [List.getElem_set_ne hij, ex]
        rw [← this]; exact List.getElem_mem _
    have keyeq : ∀ x ∈ es.toList, ∀ x' ∈ es'.toList, x.key = x'.key → (rg P k R x).1 = (rg P k R x').1 := by
      intro x hx x' hx' hk
      obtain ⟨y, hy⟩ := F.reads x hx
      obtain ⟨y', hy'⟩ := F'.reads x' hx'
      rw [rg_of hy, rg_of hy']
      have := rd_key hy
      rw [hk, rd_key hy'] at this
      exact (Option.some.inj this).symm
    have hsz : es'.size = es.size := by rw [hes]; simp
    have hleft : (leftOf es' seen).size = (leftOf es seen).size := by
      have e1 : ∀ a : Array MapEntry, (leftOf a seen).size = (a.toList.filter fun e => !seen.contains e.born).length := fun a => by
        unfold leftOf
        rw [← Array.toList_filter, Array.length_toList]
      rw [e1, e1]
      have hm : (es'.toList.map MapEntry.born) = es.toList.map MapEntry.born := by
        rw [hlist, List.map_set]
        have : (es.toList.map MapEntry.born)[j]? = some e0.born := by rw [List.getElem?_map, h2]; rfl
        apply List.ext_getElem?
        intro i
        by_cases hij : j = i
        · subst hij; rw [List.getElem?_set_self (by simpa using hjl), this]
        · rw [List.getElem?_set_ne hij]
      have key : ∀ l : List MapEntry, (l.filter fun e => !seen.contains e.born).length = ((l.map MapEntry.born).filter fun x => !seen.contains x).length := by
        intro l; rw [List.filter_map, List.length_map]; rfl
      rw [key, key, hm]
    refine ⟨_, hrun', ⟨es', clock, since, seen, c0, heap_setBlock_same hb _, F', by omega, by rw [DataW.put_eq, hput'], (heap_setBlock_other hb _ hne).trans hr, fun x' hx' => ?_, hleft, fun x' hx' => ?_, fun x0 hx0 => ?_, hsc, hsk⟩, ⟨es, clock, es', clock, hb, rfl⟩⟩
    · obtain ⟨x, hx, e1, _⟩ := who x' hx'
      rw [← e1]; exact hold x hx
    · obtain ⟨x, hx, e1, e2⟩ := who x' hx'
      rw [← keyeq x hx x' hx' e2, hl1 x hx, e1]
    · obtain ⟨x, hx, e1⟩ := hl2 x0 hx0
      obtain ⟨x', hx', e2⟩ := back x hx
      exact ⟨x', hx', by rw [← keyeq x hx x' hx' e2.symm, e1]⟩
def MRange (w : World) (P : Program) (k : TypeId) (b r n : Nat) (f : Lit → Option Value) (left : Lit → Bool) (cnt : Nat) : Prop := ∃ D, w.ranges P k raw b r n D left cnt ∧ ∀ l, lookD D l = f l
theorem MRange.kept {S : Nat → Prop} {w' : World} (h : MRange w P k b r n f left cnt) (g : Only S w w') (hb : ¬ S b) (hr : ¬ S r) : MRange w' P k b r n f left cnt := by
  obtain ⟨D, h, hf⟩ := h
  have h1 := h.owns.lt
  have h2 := h.lt
  obtain ⟨es, clock, since, seen, c0, hb', F, hs, hD, hr', rest⟩ := h
  exact ⟨D, ⟨es, clock, since, seen, c0, (g.block b h1 hb).trans hb', F, hs, hD, (g.block r h2 hr).trans hr', rest⟩, hf⟩
theorem MRange.grew {w' : World} (h : MRange w P k b r n f left cnt) (g : Grew w w') : MRange w' P k b r n f left cnt := h.kept (g.only fun _ => False) (fun h => h) (fun h => h)
theorem MRange.left_eq (h : MRange w P k b r n f left cnt) : w.rangeLeft b r = cnt := by obtain ⟨D, h, _⟩ := h; exact h.left_eq
theorem MRange.lt (h : MRange w P k b r n f left cnt) : r < w.heap.size := by obtain ⟨D, h, _⟩ := h; exact h.lt
theorem MRange.ne (h : MRange w P k b r n f left cnt) : r ≠ b := by obtain ⟨D, h, _⟩ := h; exact h.ne
theorem wpList_range_M {ops : Array Oper} {rest : List Oper} {o : Oper} {a : Act} {Q : Exit → Act → World → Prop} (hg : o.guard = none) (m : Operand) (hop : o.op = Op.range t m) (K : Keyed P k) (ht : P.underlying t = some (.map k e))
    (hm : a.eval m = .map (some b)) (h : LMap w P k b n f)
    (hK : ∀ w' left cnt, MRange w' P k b w.heap.size n f left cnt → (∀ l, left l = false → f l = none) → Grew w w' → w'.heap.size = w.heap.size + 1 → wpList P ops Q rest (a.put o.dst (.pointer (some ⟨w.heap.size, 0, none⟩))) w') :
    wpList P ops Q (o :: rest) a w := by
  obtain ⟨D, h, hf⟩ := h
  exact wpList_range_own w hg m t hop k e K ht raw b n D hm h fun w' h1 h2 h3 => hK w' _ _ ⟨D, h1, hf⟩ (fun l hl => by rw [← hf]; unfold lookD; rw [if_neg (by rw [hl]; simp)]) ((Only.of_grownBy h2).grew (fun j hj => by cases hj)) h3
theorem MRange.store {key val : Value} {l : Lit} (h : MRange w P k b r n f left cnt) (K : Keyed P k) (ht : P.underlying t = some (.map k e)) (hn : n < maxLen) (hkey : keyOf P k key = some l) (hf : f l ≠ none) :
    ∃ w', (Instr.mapUpdate t (.map (some b)) key val).run P w = .ok () w' ∧ MRange w' P k b r n (lset f l (some val)) left cnt ∧ w.mapTurned w' b := by
  obtain ⟨D, h, hf'⟩ := h
  have hm := h.owns.isMap
  have hl := K.key hkey
  have hhas : Maps.has D l = true := by
    cases hh : Maps.has D l with
    | true => rfl
    | false => exact absurd (by rw [← hf' l]; unfold lookD; rw [if_neg (by rw [hh]; simp)]) hf
  obtain ⟨w', hrun, h1, h2⟩ := ranges_store h K ht hkey (val := val) (d := .held val) (ps := []) rfl hn hhas
  refine ⟨w', hrun, ⟨_, h1, fun m => ?_⟩, h2⟩
  unfold lset
  split
  · next he => subst he; unfold lookD; rw [has_put_same hm hl, atKey_put_same hm hl]; rfl
  · next he => rw [← hf']; unfold lookD; rw [has_put_other he, atKey_put_other he]
theorem MRange.drop {key : Value} {l : Lit} (h : MRange w P k b r n f left cnt) (K : Keyed P k) (ht : P.underlying t = some (.map k e)) (hkey : keyOf P k key = some l) (ty : TypeId) :
    ∃ w' cnt', (Builtin.delete_ #[t, k] ty #[.map (some b), key]).run P w = .ok (.tuple #[]) w' ∧ MRange w' P k b r n (lset f l none) (fun x => left x && !x.sameKey l) cnt' ∧ cnt' ≤ cnt ∧ w.mapTurned w' b := by
  obtain ⟨D, h, hf⟩ := h
  obtain ⟨w', cnt', hrun, h1, h2, h3⟩ := h.drop K ht hkey ty
  refine ⟨w', cnt', hrun, ⟨_, h1, fun m => ?_⟩, h2, h3⟩
  unfold lset
  split
  · next he => subst he; unfold lookD; rw [has_del_same]; rfl
  · next he => rw [← hf]; unfold lookD; rw [has_del_other he, atKey_del_other he]
end
def keysD (D : DataW Value) : List ByteArray := (strKeys D).map fun l => ⟨l.toArray⟩
theorem ownsMap_keys {w : World} {P : Program} {k : TypeId} {b n : Nat} {D : DataW Value} (h : w.ownsMap P k raw b n D) (K : Keyed P k) (hk : P.underlying k = some .string) :
    (keysD D).Nodup ∧ (∀ s, s ∈ keysD D ↔ lookD D (mlit s) ≠ none) ∧ (keysD D).length ≤ n ∧ Maps.size D ≤ n := by
  obtain ⟨es, hD, hpw, _⟩ := h.entries K
  obtain ⟨es', hD', hko⟩ := h.keysOf
  obtain rfl : es = es' := by rw [hD] at hD'; simpa using hD'
  have hstr : ∀ p ∈ es, ∃ x, p.1 = .string x := fun p hp => by obtain ⟨v, hv⟩ := hko p hp; obtain ⟨x, _, hx, _⟩ := Maps.keyOf_str hk hv; exact ⟨x, hx⟩
  have hin : ∀ l : List UInt8, (⟨⟨l⟩⟩ : ByteArray).data.toList = l := fun l => rfl
  have hkd : keysD D = es.map fun p => ⟨⟨strOf p.1⟩⟩ := by rw [hD]; unfold keysD strKeys; rw [List.map_map]; rfl
  have hlen : es.length ≤ n := by
    obtain ⟨es2, clock, hb, F, hs, hD2⟩ := h
    rw [hD] at hD2
    have e1 : es = (es2.toList.map (rg P k raw)).foldr DataW.insert [] := by injection hD2
    rw [e1, length_sorted]
    simpa using hs
  rw [hkd]
  refine ⟨?_, fun s => ?_, by rw [List.length_map]; exact hlen, by rw [hD]; exact hlen⟩
  · refine List.pairwise_map.2 (hpw.imp_of_mem fun {p q} hp' hq' hne e => hne ?_)
    obtain ⟨a, ha⟩ := hstr p hp'
    obtain ⟨c, hc⟩ := hstr q hq'
    rw [ha, hc] at e ⊢
    have e2 : a = c := by injection e with e1; injection e1
    rw [e2]
  · constructor
    · intro hs
      obtain ⟨p, hp, rfl⟩ := List.mem_map.1 hs
      obtain ⟨a, ha⟩ := hstr p hp
      have hhas : Maps.has D (mlit ⟨⟨strOf p.1⟩⟩) = true := by
        rw [hD]
        refine List.any_eq_true.2 ⟨p, hp, ?_⟩
        rw [ha]; simp [mlit, strOf, Lit.sameKey]
      obtain ⟨es2, clock, hb, F, _, hD2⟩ := h
      rw [hD2] at hhas
      obtain ⟨p2, hp2, hpk⟩ := List.any_eq_true.1 hhas
      obtain ⟨x, hx, rfl⟩ := List.mem_map.1 (mem_sorted.1 hp2)
      obtain ⟨y, hy⟩ := F.reads x hx
      obtain ⟨z, hz, hzd⟩ := rd_val hy
      have hkk : keyOf P k x.key = some (mlit ⟨⟨strOf p.1⟩⟩) := by
        have := WideAt.sameKey_eq hpk
        rw [rg_of hy] at this
        rw [← this]; exact rd_key hy
      unfold lookD
      rw [hD2, if_pos hhas]
      have hat := (atKey_sorted (es2.toList.map (rg P k raw)) (Maps.fit_rising K F) _ (K.key hkk)).2 (rg P k raw x) (List.mem_map.2 ⟨x, hx, rfl⟩) (WideAt.sameKey_eq hpk)
      rw [hat, rg_of hy, hzd]
      cases hz
      simp
    · intro hs
      unfold lookD at hs
      by_cases hh : Maps.has D (mlit s) = true
      · rw [hD] at hh
        obtain ⟨p, hp, hpk⟩ := List.any_eq_true.1 hh
        refine List.mem_map.2 ⟨p, hp, ?_⟩
        rw [WideAt.sameKey_eq hpk]
        obtain ⟨⟨a⟩⟩ := s
        rfl
      · rw [if_neg hh] at hs; exact absurd rfl hs
theorem LMap.keys {w : World} {P : Program} {k : TypeId} {b n : Nat} {f : Lit → Option Value} (h : LMap w P k b n f) (K : Keyed P k) (hk : P.underlying k = some .string) :
    ∃ ks : List ByteArray, ks.Nodup ∧ (∀ s, s ∈ ks ↔ f (mlit s) ≠ none) ∧ ks.length ≤ n := by
  obtain ⟨D, h, hf⟩ := h
  obtain ⟨h1, h2, h3, _⟩ := ownsMap_keys h K hk
  exact ⟨_, h1, fun s => by rw [h2, hf], h3⟩
end Go.Proofs.YtbdagllflamabaaGreatDoor
namespace Go.Proofs.YtbdagllflamabaaGreatDoor
open Go.RowKit Go.Maps Go.ChangeMaps Go.MapKept Go.WideShapes
theorem keyOf_int_inv {P : Program} {k : TypeId} (hk : P.underlying k = some (.int .i64)) {v : Value} {l : Lit} (h : keyOf P k v = some l) : ∃ c : Int, v = .int .i64 c ∧ l = clit c ∧ (Lit.int .i64 c).wf = true := by
  cases v <;> simp [keyOf, hk, mapKey] at h
  obtain ⟨⟨rfl, hw⟩, rfl⟩ := h
  exact ⟨_, rfl, rfl, hw⟩
section
variable {w : World} {P : Program} {k e t : TypeId} {b n r cnt : Nat} {f : Lit → Option Value} {left : Lit → Bool}
theorem wpList_next_MI {ops : Array Oper} {rest : List Oper} {o : Oper} {a : Act} {Q : Exit → Act → World → Prop} (hg : o.guard = none) (it : Operand) (hop : o.op = Op.next it false) (hk : P.underlying k = some (.int .i64)) (K : Keyed P k) (r : Nat) (left : Lit → Bool) (cnt : Nat)
    (hit : a.eval it = .pointer (some ⟨r, 0, none⟩)) (h : MRange w P k b r n f left cnt)
    (hDone : (∀ l, left l = false) → wpList P ops Q rest (a.put o.dst (.tuple #[.bool false])) w)
    (hMore : ∀ (c : Int) (v : Value) (w' : World) (cnt' : Nat), (Lit.int .i64 c).wf = true → left (clit c) = true → f (clit c) = some v → MRange w' P k b r n f (fun z => left z && !z.sameKey (clit c)) cnt' → cnt' < cnt → Only (fun j => j = r) w w' → w'.heap.size = w.heap.size → (Instr.entry (.pointer (some ⟨r, 0, none⟩))).run P w' = .ok (.tuple #[.int .i64 c, v]) w' → wpList P ops Q rest (a.put o.dst (.tuple #[.bool true, .int .i64 c, v])) w') :
    wpList P ops Q (o :: rest) a w := by
  obtain ⟨D, h, hf⟩ := h
  refine wpList_next_ranges w hg it hop k K raw (Value.int .i64) (fun v : Value => v) (fun key kl hkey => by
    obtain ⟨c, rfl, rfl, _⟩ := keyOf_int_inv hk hkey
    exact ⟨_, rfl⟩) (fun v y _ => ⟨v, rfl⟩) b r n D left cnt hit h (fun _ h0 => hDone h0) ?_
  intro c v kl y w' cnt' hkey hl hv hat hrg hlt hgr hsz hen
  obtain ⟨c', e, rfl, hwf⟩ := keyOf_int_inv hk hkey
  cases e
  cases hv
  have hlook : f (clit c) = some v := by
    rw [← hf]
    unfold lookD
    rw [if_pos (has_true_of_atKey hat), hat]
  exact hMore c v w' cnt' hwf hl hlook ⟨D, hrg, hf⟩ hlt ((Only.of_grownBy hgr).mono fun j hj => .inl (Option.some.inj hj)) hsz hen
end
theorem clit_same (a b : Int) : (clit a).sameKey (clit b) = decide (a = b) := by
  by_cases h : a = b
  · subst h; rw [decide_eq_true rfl]; simp [clit, Lit.sameKey]
  · rw [decide_eq_false h]
    refine Maps.sameKey_ne (fun e => h ?_)
    unfold clit at e
    injection e
end Go.Proofs.YtbdagllflamabaaGreatDoor
