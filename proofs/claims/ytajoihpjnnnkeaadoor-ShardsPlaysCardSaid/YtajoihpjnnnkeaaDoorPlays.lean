/- The walk of tidewaterlaw20.ShardsPlays (printed by gen_plays.py from plays.txt). -/
import Derived.Test.YtajoihpjnnnkeaaDoorPl20
import Derived.Test.YtajoihpjnnnkeaaDoorSam20
import Derived.Test.YtajoihpjnnnkeaaDoorSrt20
import Derived.Test.YtajoihpjnnnkeaaDoorA20c
set_option linter.unusedVariables false
set_option linter.unusedSectionVars false
set_option linter.unusedSimpArgs false
namespace Go.Proofs.YtajoihpjnnnkeaaDoor
open Go.RowKit Go.Maps
attribute [local go_sem] Oper.semAt_some uponV

namespace Pl
/-- What the operations of the region tell. -/
def vsP (sb mb bb : Nat) (ag : Value) (at' : Int) (cnt ap : Bool) : List Value :=
  [.pointer (some ⟨sb, 0, none⟩), .pointer (some ⟨bb, 0, none⟩), ag, .bool cnt, .pointer (some ⟨mb, 0, none⟩), .pointer (some ⟨bb, 0, none⟩), ag, .bool cnt, .bool false, .bool false,
   .pointer (some ⟨sb, 0, none⟩), .pointer (some ⟨bb, 0, none⟩), ag, .pointer (some ⟨bb, 12, none⟩), .int .i64 at', .bool ap, .pointer (some ⟨mb, 0, none⟩), .pointer (some ⟨bb, 0, none⟩), ag, .pointer (some ⟨bb, 12, none⟩), .int .i64 at', .bool ap,
   .bool false, .bool false, .bool false, .pointer (some ⟨sb, 0, none⟩), .pointer (some ⟨mb, 0, none⟩)]
theorem find_zero {s : ShSt} {n : Nat} (h : Inv s n) : findM s.xs 0 = -1 := by
  rcases findM_cases s.xs 0 with h1 | ⟨i, hi, _, h2⟩
  · exact h1
  · have := (h.ids _ (shAt_mem s.xs i hi)).1
    omega
end Pl

set_option maxRecDepth 100000 in
set_option maxHeartbeats 16000000 in
theorem shardsPlays_walk {S : Nat → Bool} (hS : ShdS S) (E : Nat → Addr) (a : Option Addr) (cap : Nat) (xs : List Ac) (key : ByteArray) (w : World) (hE : Errs S E w) (hA : AcsAt w a xs) (hbig : xs.length * 144 ≤ 140737488351232) (hk : ∀ j, j < xs.length → AcFits (acAt xs j)) :
    Calls Tryd.prog 4 #[.slice a xs.length cap, .string key] w fun e w' => e = .returned (.bool true) ∧ Grew w w' := by
  have HE := hid hE
  have HA := hid hA
  have HK := hid hk
  clear hE hA hk
  go_enter Tryd.func4, Tryd.ntmps4
  go_wp2_with fail
  refine (alive20 hS E _ HE.out).mono ?_
  rintro r w1 ⟨rfl, hg1⟩
  have HG1 := hid hg1
  clear hg1
  have HL := hid (long20_any a cap xs w1 (HA.out.grew HG1.out) (by omega) HK.out)
  go_wp2_with fail
  refine HL.out.mono ?_
  rintro r w3 ⟨rfl, hg3⟩
  have HG3 := hid (HG1.out.trans hg3)
  clear hg3 HL
  cases hlong : long20B xs with
  | true =>
    go_wp2_with fail
    go_ret
    exact ⟨rfl, HG3.out⟩
  | false =>
    obtain ⟨hl60, hshort⟩ := long20_short hlong
    have HSH := hid hshort
    clear hlong hshort
    by_cases hkey : 300 < key.size
    · go_wp2_with fail
      go_ret
      exact ⟨rfl, HG3.out⟩
    have hall : ∀ a ∈ xs, a.e.key.size ≤ 300 := by
      intro a ha
      obtain ⟨j, hj, e⟩ := List.mem_iff_getElem.1 ha
      have := (HSH.out j hj).2.1
      rw [acAt_eq xs j hj, e] at this
      exact this
    have hmem : ∀ a ∈ xs, EnAt w a.e ∧ EnSm a.e := by
      intro a ha
      obtain ⟨j, hj, e⟩ := List.mem_iff_getElem.1 ha
      have h1 := HSH.out j hj
      have h2 := HA.out.ops j hj
      rw [acAt_eq xs j hj, e] at h1 h2
      exact ⟨enAt_short h2 h1, ⟨by omega, fun o ho => by have := (h1.2.2.2 o ho).1; omega⟩⟩
    have HINV := hid (fun k => Pl.inv_play (xs.take k))
    have HLT : Hid (∀ k, (xs.take k).length ≤ 60) := fun k => by rw [List.length_take]; omega
    have HCH := hid (fun k => Pl.chain_play (xs.take k))
    have HTW := hid (fun k => Pl.twin_play (xs.take k))
    have HSM := hid (fun k => Pl.small_play (xs.take k) (fun a ha => hall a (List.mem_of_mem_take ha)))
    have HMO := hid (fun k => Pl.mdok_twin (HTW.out k) (HINV.out k) (HSM.out k) (by have := HLT.out k; omega))
    have HX := hid (fun k => show 0 < (Pl.playP (xs.take k)).xs.length ∧ (Pl.playP (xs.take k)).xs.length ≤ 1000 ∧ (Pl.playP (xs.take k)).ne ≤ 1000 from by
      have h1 := (HINV.out k).len
      have h2 := (HINV.out k).few
      have h3 := HLT.out k
      exact ⟨(HINV.out k).pos, by omega, by omega⟩)
    have HEV : Hid (∀ k W, Grew w W → ∃ q, EvAt W (Pl.playP (xs.take k)) q) := fun k W g => by
      obtain ⟨q, h1, h2, h3⟩ := Pl.ev_play xs (xs.take k) (fun a ha => List.mem_of_mem_take ha)
      exact ⟨q, h1, h2, fun a ha => ⟨(hmem a (h3 a ha).1).1.grew g, (hmem a (h3 a ha).1).2, (h3 a ha).2.1, (h3 a ha).2.2⟩⟩
    have HMEM := hid hmem
    have hk300 : key.size ≤ 300 := by omega
    clear hall hmem
    go_wp2_with fail
    refine (newM_any w3).mono ?_
    rintro r w4 ⟨sb, rfl, hg4, hsb, F, hM, hF⟩
    have HM0 := hid hM
    have HF0 := hid hF
    have HG4 := hid hg4
    clear hM hF hg4 hsb
    go_wp2_with fail
    refine (new20_any w4).mono ?_
    rintro r w5 ⟨mb, rfl, hg5, hmb, Fm, hMd, hFm⟩
    have HD0 : Hid (Duo w3 w5 sb (Pl.playP (xs.take 0)) mb (Pl.playT (xs.take 0))) := by
      have hlt : ∀ j, F j → j < w4.heap.size := by obtain ⟨_, _, h⟩ := HM0.out; exact h.lt
      have hs := HG4.out.size
      refine ⟨⟨F, Fm, ?_, hMd, HF0.out, fun j hj => Nat.le_trans hs (hFm j hj), fun j hj hm => ?_⟩, HG4.out.trans hg5⟩
      · exact SmAt.grew HM0.out hg5
      · have h1 := hlt j hj; have h2 := hFm j hm; omega
    clear hMd hFm hmb hg5 HM0 HF0 HG4
    go_wp2_with fail
    go_loopw [31] (fun i wr => ∃ k : Nat, k ≤ xs.length ∧ i = .int .i64 k ∧ Hid (Duo w3 wr sb (Pl.playP (xs.take k)) mb (Pl.playT (xs.take k)))) (fun i _ => xs.length - (intOf i).toNat)
    case atStart => exact ⟨0, Nat.zero_le _, rfl, HD0⟩
    case round =>
      obtain ⟨k, hk1, rfl, HD⟩ := hrel
      obtain ⟨wo, rfl⟩ : ∃ wo : World, wo = wr := ⟨_, rfl⟩
      by_cases hlt : k < xs.length
      · rcases HA.out.row with h0 | ⟨b, off, rfl, hb, hR⟩
        · rw [h0] at hlt; simp at hlt
        have hGw := HG3.out.trans HD.out.grew
        obtain ⟨q0, q1, q2, q3, q4, q5, q6, q7, q8, q9, q10, q11, q12⟩ := ac_cells (W := wo) (b := b) (off := off + k * 13) (a := acAt xs k) (fun i v hv => (hGw.cells.1 _ _ hb).trans (hR k hlt i v hv))
        have hsh := HSH.out k hlt
        have hin : acAt xs k ∈ xs := by rw [acAt_eq xs k hlt]; exact List.getElem_mem hlt
        have hen := HMEM.out _ hin
        have hx := HX.out k
        obtain ⟨cnt, hcnt⟩ : ∃ cnt, cnt = Pl.countsB (Pl.playP (xs.take k)).xs (Pl.playP (xs.take k)).used (acAt xs k).e := ⟨_, rfl⟩
        obtain ⟨ap, hap⟩ : ∃ ap, ap = Pl.applyB (Pl.playP (xs.take k)).xs (Pl.playP (xs.take k)).used (acAt xs k).e (acAt xs k).at' := ⟨_, rfl⟩
        have HCPY := hid (fun W F (g : Grew w W) (h : StAt W F sb (Pl.playP (xs.take k))) => by
          obtain ⟨q, hq⟩ := HEV.out k W g
          exact copy_any h hx.1 (by omega) hq.one (by omega))
        have HCNT := hid (fun x cb bb (hT : TriB w3 x sb (Pl.playP (xs.take k)) mb (Pl.playT (xs.take k)) cb (Pl.playP (xs.take k)) bb (acAt xs k)) => show Calls Tryd.prog 13 #[.pointer (some ⟨sb, 0, none⟩), (acAt xs k).e.agg] x fun r w' => r = .returned (.bool cnt) ∧ Grew x w' from by
          obtain ⟨Fs, Fm, Fc, h1, h2, h3, _⟩ := hT.ex
          have g := HG3.out.trans hT.grew
          rw [hcnt]
          exact counts_any hS E (HE.out.grew g) h1 (by omega) (acAt xs k).e (hen.1.grew g) (by omega))
        have HCN2 := hid (fun x cb bb (hT : TriB w3 x sb (Pl.playP (xs.take k)) mb (Pl.playT (xs.take k)) cb (Pl.playP (xs.take k)) bb (acAt xs k)) => show Calls Tryd.prog 17 #[.pointer (some ⟨mb, 0, none⟩), (acAt xs k).e.agg] x fun r w' => r = .returned (.bool cnt) ∧ Grew x w' from by
          obtain ⟨Fs, Fm, Fc, h1, h2, h3, _⟩ := hT.ex
          have g := HG3.out.trans hT.grew
          have hmo := HMO.out k
          rw [hcnt, ← Pl.cnt_twin (HTW.out k) (HINV.out k)]
          exact counts20_any h2 hmo.few (Nat.le_trans hmo.us (by decide)) hmo.sz (acAt xs k).e (hen.1.grew g) hen.2)
        have HAPP := hid (fun x cb bb (hT : TriB w3 x sb (Pl.playP (xs.take k)) mb (Pl.playT (xs.take k)) cb (Pl.playP (xs.take k)) bb (acAt xs k)) => show Calls Tryd.prog 11 #[.pointer (some ⟨sb, 0, none⟩), (acAt xs k).e.agg, .int .i64 (acAt xs k).at'] x fun r w' => r = .returned (.bool ap) ∧ TriB w3 w' sb (Pl.playP (xs.take (k + 1))) mb (Pl.playT (xs.take k)) cb (Pl.playP (xs.take k)) bb (acAt xs k) from by
          have g := HG3.out.trans hT.grew
          rw [hap, Pl.play_snoc xs k hlt]
          exact hT.callS (fun Fs h1 => apply_any hS E (HE.out.grew g) h1 hx.2.1 (by omega) (acAt xs k).e (hen.1.grew g) (by omega) (acAt xs k).at'))
        have HAPC := hid (fun x cb bb (hT : TriB w3 x sb (Pl.playP (xs.take (k + 1))) mb (Pl.playT (xs.take (k + 1))) cb (Pl.playP (xs.take k)) bb (acAt xs k)) => show Calls Tryd.prog 11 #[.pointer (some ⟨cb, 0, none⟩), (acAt xs k).e.agg, .int .i64 (acAt xs k).at'] x fun r w' => r = .returned (.bool ap) ∧ TriB w3 w' sb (Pl.playP (xs.take (k + 1))) mb (Pl.playT (xs.take (k + 1))) cb (Pl.playP (xs.take (k + 1))) bb (acAt xs k) from by
          have g := HG3.out.trans hT.grew
          have hc := hT.callC (P := Tryd.prog) (fn := 11) (args := #[.pointer (some ⟨cb, 0, none⟩), (acAt xs k).e.agg, .int .i64 (acAt xs k).at']) (fun Fs h1 => apply_any hS E (HE.out.grew g) h1 hx.2.1 (by omega) (acAt xs k).e (hen.1.grew g) (by omega) (acAt xs k).at')
          rw [← Pl.play_snoc xs k hlt, ← hap] at hc
          exact hc)
        have HAP2 := hid (fun x cb bb (hT : TriB w3 x sb (Pl.playP (xs.take (k + 1))) mb (Pl.playT (xs.take k)) cb (Pl.playP (xs.take k)) bb (acAt xs k)) => show Calls Tryd.prog 18 #[.pointer (some ⟨mb, 0, none⟩), (acAt xs k).e.agg, .int .i64 (acAt xs k).at'] x fun r w' => r = .returned (.bool ap) ∧ TriB w3 w' sb (Pl.playP (xs.take (k + 1))) mb (Pl.playT (xs.take (k + 1))) cb (Pl.playP (xs.take k)) bb (acAt xs k) from by
          have g := HG3.out.trans hT.grew
          rw [hap, ← Pl.app_twin (HTW.out k) (HINV.out k), Pl.playT_snoc xs k hlt]
          exact hT.callM (fun Fm h2 => apply20_any h2 (HMO.out k) (acAt xs k).e (hen.1.grew g) hen.2 (acAt xs k).at'))
        have HSAME := hid (fun W Fs Fm sb (g : Grew w W) (h : StAt W Fs sb (Pl.playP (xs.take (k + 1)))) (hM : MdAt W Fm mb (Pl.playT (xs.take (k + 1)))) => by
          obtain ⟨q, hq⟩ := HEV.out (k + 1) W g
          have hx1 := HX.out (k + 1)
          exact same20_any h hM (HTW.out (k + 1)) (Pl.rise_chain (HCH.out (k + 1))) hx1.1 hx1.2.1 hx1.2.2 (HINV.out (k + 1)).nodup hq)
        have HOW := hid (fun W F (g : Grew w W) (h : StAt W F sb (Pl.playP (xs.take (k + 1)))) => owner_any hS E (HE.out.grew g) h (HX.out (k + 1)).2.1 key (by omega))
        have HOW2 := hid (fun W F (h : MdAt W F mb (Pl.playT (xs.take (k + 1)))) => owner20_any h (HMO.out (k + 1)).few (HMO.out (k + 1)).sz key (by omega))
        obtain ⟨ow1, ow2⟩ := Pl.own_twin (HTW.out (k + 1)).live (HCH.out (k + 1)) key
        rw [ow1, ow2] at HOW2
        generalize decide (0 ≤ Pl.ownerI (Pl.playP (xs.take (k + 1))).xs key) = od at HOW HOW2
        generalize Pl.ownerV (Pl.playP (xs.take (k + 1))).xs key = ov at HOW HOW2
        clear ow1 ow2 hcnt hap hen hin hsh hx hGw hR
        generalize acAt xs k = AA at *
        obtain ⟨⟨kind, shard, other, server, client, seq, ekey, upto, part, parts, ops, opsA, opsC, dataA, dataL, dataC⟩, at'⟩ := AA
        obtain ⟨x0, x1, x2, x3, x4⟩ := ov
        unfold En.agg En.vals at HCNT HCN2 HAPP HAPC HAP2
        unfold Sh.aggOf Sh.vals at HOW HOW2
        dsimp only at *
        go_wp2_with fail
        obtain ⟨Fs, Fm, h1, h2, r1⟩ := HD.out.ex
        refine (HCPY.out _ Fs ((HG3.out.trans HD.out.grew).alloc _) (h1.grew ((Grew.refl wo).alloc _))).mono ?_
        clear h1 h2 r1
        rintro r w6 ⟨cb, rfl, hg6, hcb, F', h6, hF6⟩
        have HT6 : Hid (TriB w3 w6 sb (Pl.playP (xs.take k)) mb (Pl.playT (xs.take k)) cb (Pl.playP (xs.take k)) wo.heap.size ⟨⟨kind, shard, other, server, client, seq, ekey, upto, part, parts, ops, opsA, opsC, dataA, dataL, dataC⟩, at'⟩) := HD.out.box ⟨⟨kind, shard, other, server, client, seq, ekey, upto, part, parts, ops, opsA, opsC, dataA, dataL, dataC⟩, at'⟩ 30 hg6 h6 hF6
        clear hg6 h6 hF6 hcb q0 q1 q2 q3 q4 q5 q6 q7 q8 q9 q10 q11 q12 HD HCPY
        generalize wo.heap.size = bb at *
        go_wp2_with fail
        refine wp_region_mix 27 [0, 1, 2, 3, 4, 5, 6, 7, 8, 9, 10, 11, 12, 13, 14, 15, 16, 17, 18, 19, 20, 21, 22, 23, 24, 25, 26] (fun _ => True) Eq (JP w3 sb mb cb bb (Pl.playP (xs.take k)) (Pl.playP (xs.take (k + 1))) (Pl.playT (xs.take k)) (Pl.playT (xs.take (k + 1))) (Pl.playP (xs.take k)) ⟨⟨kind, shard, other, server, client, seq, ekey, upto, part, parts, ops, opsA, opsC, dataA, dataL, dataC⟩, at'⟩ (Pl.vsP sb mb bb (.agg #[.int .i64 kind, .int .i64 shard, .int .i64 other, .int .i64 server, .int .i64 client, .int .i64 seq, .slice opsA ops.length opsC, .string ekey, .int .i64 upto, .int .i64 part, .int .i64 parts, .slice dataA dataL dataC]) at' cnt ap)) (fun f a => ((((((((((((((((((((((((((a.put (some 37) (f 0)).put (some 38) (f 1)).put (some 39) (f 2)).put (some 40) (f 3)).put (some 41) (f 4)).put (some 42) (f 5)).put (some 43) (f 6)).put (some 44) (f 7)).put (some 45) (f 8)).put (some 46) (f 9)).put (some 47) (f 10)).put (some 48) (f 11)).put (some 49) (f 12)).put (some 50) (f 13)).put (some 51) (f 14)).put (some 52) (f 15)).put (some 53) (f 16)).put (some 54) (f 17)).put (some 55) (f 18)).put (some 56) (f 19)).put (some 57) (f 20)).put (some 58) (f 21)).put (some 59) (f 22)).put (some 60) (f 23)).put (some 61) (f 24)).put (some 62) (f 25)).put (some 63) (f 26)) (by kernel_rfl) (by kernel_rfl) (fun _ _ => rfl) (JP.start HT6.out) (fun _ _ _ _ => trivial) (fun _ => rfl) (fun _ _ _ _ h g => g ▸ h) ?_
        iterate 27 (refine wpMix_loose (by rfl) (by rfl) ?_)
        refine wpMix_done (by rfl) ⟨⟨loose_of' rfl (fun _ a => a) (fun _ _ => rfl) ?_, loose_of' rfl (fun _ a => a) (fun _ _ => rfl) ?_, loose_of' rfl (fun f a => a.put (some 38) (f 1)) (fun _ _ => rfl) ?_, loose_of' rfl (fun f a => (a.put (some 37) (f 0)).put (some 39) (f 2)) (fun _ _ => rfl) ?_, loose_of' rfl (fun _ a => a) (fun _ _ => rfl) ?_, loose_of' rfl (fun _ a => a) (fun _ _ => rfl) ?_, loose_of' rfl (fun f a => a.put (some 42) (f 5)) (fun _ _ => rfl) ?_, loose_of' rfl (fun f a => ((a.put (some 40) (f 3)).put (some 41) (f 4)).put (some 43) (f 6)) (fun _ _ => rfl) ?_, loose_of' rfl (fun f a => (a.put (some 40) (f 3)).put (some 44) (f 7)) (fun _ _ => rfl) ?_, loose_of' rfl (fun f a => (a.put (some 44) (f 7)).put (some 45) (f 8)) (fun _ _ => rfl) ?_, loose_of' rfl (fun f a => a.put (some 46) (f 9)) (fun _ _ => rfl) ?_, loose_of' rfl (fun f a => a.put (some 46) (f 9)) (fun _ _ => rfl) ?_, loose_of' rfl (fun f a => (a.put (some 46) (f 9)).put (some 48) (f 11)) (fun _ _ => rfl) ?_, loose_of' rfl (fun f a => a.put (some 46) (f 9)) (fun _ _ => rfl) ?_, loose_of' rfl (fun f a => (a.put (some 46) (f 9)).put (some 50) (f 13)) (fun _ _ => rfl) ?_, loose_of' rfl (fun f a => (((a.put (some 46) (f 9)).put (some 47) (f 10)).put (some 49) (f 12)).put (some 51) (f 14)) (fun _ _ => rfl) ?_, loose_of' rfl (fun f a => a.put (some 46) (f 9)) (fun _ _ => rfl) ?_, loose_of' rfl (fun f a => a.put (some 46) (f 9)) (fun _ _ => rfl) ?_, loose_of' rfl (fun f a => (a.put (some 46) (f 9)).put (some 54) (f 17)) (fun _ _ => rfl) ?_, loose_of' rfl (fun f a => a.put (some 46) (f 9)) (fun _ _ => rfl) ?_, loose_of' rfl (fun f a => (a.put (some 46) (f 9)).put (some 56) (f 19)) (fun _ _ => rfl) ?_, loose_of' rfl (fun f a => ((((a.put (some 46) (f 9)).put (some 52) (f 15)).put (some 53) (f 16)).put (some 55) (f 18)).put (some 57) (f 20)) (fun _ _ => rfl) ?_, loose_of' rfl (fun f a => ((a.put (some 46) (f 9)).put (some 52) (f 15)).put (some 58) (f 21)) (fun _ _ => rfl) ?_, loose_of' rfl (fun f a => (a.put (some 46) (f 9)).put (some 59) (f 22)) (fun _ _ => rfl) ?_, loose_of' rfl (fun f a => (a.put (some 58) (f 21)).put (some 60) (f 23)) (fun _ _ => rfl) ?_, loose_of' rfl (fun f a => a.put (some 61) (f 24)) (fun _ _ => rfl) ?_, loose_of' rfl (fun f a => a.put (some 61) (f 24)) (fun _ _ => rfl) ?_, trivial⟩, ?_⟩
        · intro L f x hJ hL hd
          have HJ := hid hJ
          have HL := hid hL
          clear hJ hL hd
          refine ⟨rfl, ?_⟩
          go_simp
          exact HJ.out.putN 0 _ rfl (by decide)
        · intro L f x hJ hL hd
          have HJ := hid hJ
          have HL := hid hL
          clear hJ hL hd
          refine ⟨rfl, ?_⟩
          go_simp
          exact HJ.out.putN 1 _ rfl (by decide)
        · intro L f x hJ hL hd
          have q1 := hJ.val 1 _ (hd 1 rfl (by decide)) rfl
          have l1 := hd 1 rfl (by decide)
          have HJ := hid hJ
          obtain ⟨_, hcl⟩ := hJ.any
          have d0 := hcl 0 _ rfl
          have d1 := hcl 1 _ rfl
          have d2 := hcl 2 _ rfl
          have d3 := hcl 3 _ rfl
          have d4 := hcl 4 _ rfl
          have d5 := hcl 5 _ rfl
          have d6 := hcl 6 _ rfl
          have d7 := hcl 7 _ rfl
          have d8 := hcl 8 _ rfl
          have d9 := hcl 9 _ rfl
          have d10 := hcl 10 _ rfl
          have d11 := hcl 11 _ rfl
          clear hcl
          have HL := hid hL
          have HL1 := hid l1
          clear hJ hL hd l1
          rw [q1]
          refine ⟨rfl, ?_⟩
          go_simp
          exact HJ.out.putN 2 _ rfl (by decide)
        · intro L f x hJ hL hd
          have q0 := hJ.val 0 _ (hd 0 rfl (by decide)) rfl
          have q2 := hJ.val 2 _ (hd 2 rfl (by decide)) rfl
          have l0 := hd 0 rfl (by decide)
          have l2 := hd 2 rfl (by decide)
          have HJ := hid hJ
          have hT := hJ.a (hJ.pre3 hL)
          have HC := hid (HCNT.out _ cb bb hT)
          have HL := hid hL
          have HL0 := hid l0
          have HL2 := hid l2
          clear hJ hL hd hT l0 l2
          rw [q0, q2]
          refine ⟨rfl, ?_⟩
          go_simp
          refine HC.out.mono ?_
          rintro r x' ⟨rfl, hg⟩
          exact ⟨_, rfl, (HJ.out.more hg).putN 3 _ rfl (by decide)⟩
        · intro L f x hJ hL hd
          have HJ := hid hJ
          have HL := hid hL
          clear hJ hL hd
          refine ⟨rfl, ?_⟩
          go_simp
          exact HJ.out.putN 4 _ rfl (by decide)
        · intro L f x hJ hL hd
          have HJ := hid hJ
          have HL := hid hL
          clear hJ hL hd
          refine ⟨rfl, ?_⟩
          go_simp
          exact HJ.out.putN 5 _ rfl (by decide)
        · intro L f x hJ hL hd
          have q5 := hJ.val 5 _ (hd 5 rfl (by decide)) rfl
          have l5 := hd 5 rfl (by decide)
          have HJ := hid hJ
          obtain ⟨_, hcl⟩ := hJ.any
          have d0 := hcl 0 _ rfl
          have d1 := hcl 1 _ rfl
          have d2 := hcl 2 _ rfl
          have d3 := hcl 3 _ rfl
          have d4 := hcl 4 _ rfl
          have d5 := hcl 5 _ rfl
          have d6 := hcl 6 _ rfl
          have d7 := hcl 7 _ rfl
          have d8 := hcl 8 _ rfl
          have d9 := hcl 9 _ rfl
          have d10 := hcl 10 _ rfl
          have d11 := hcl 11 _ rfl
          clear hcl
          have HL := hid hL
          have HL5 := hid l5
          clear hJ hL hd l5
          rw [q5]
          refine ⟨rfl, ?_⟩
          go_simp
          exact HJ.out.putN 6 _ rfl (by decide)
        · intro L f x hJ hL hd
          have q3 := hJ.val 3 _ (hd 3 rfl (by decide)) rfl
          have q4 := hJ.val 4 _ (hd 4 rfl (by decide)) rfl
          have q6 := hJ.val 6 _ (hd 6 rfl (by decide)) rfl
          have l3 := hd 3 rfl (by decide)
          have l4 := hd 4 rfl (by decide)
          have l6 := hd 6 rfl (by decide)
          have HJ := hid hJ
          have hT := hJ.a (hJ.pre7 hL)
          have HC := hid (HCN2.out _ cb bb hT)
          have HL := hid hL
          have HL3 := hid l3
          have HL4 := hid l4
          have HL6 := hid l6
          clear hJ hL hd hT l3 l4 l6
          rw [q3, q4, q6]
          refine ⟨rfl, ?_⟩
          go_simp
          refine HC.out.mono ?_
          rintro r x' ⟨rfl, hg⟩
          exact ⟨_, rfl, (HJ.out.more hg).putO 7 3 _ rfl (by decide) (by decide) (by decide) HL3.out⟩
        · intro L f x hJ hL hd
          have q3 := hJ.val 3 _ (hd 3 rfl (by decide)) rfl
          have q7 := hJ.val 7 _ (hd 7 rfl (by decide)) rfl
          have l3 := hd 3 rfl (by decide)
          have l7 := hd 7 rfl (by decide)
          have HJ := hid hJ
          have HL := hid hL
          have HL3 := hid l3
          have HL7 := hid l7
          clear hJ hL hd l3 l7
          rw [q3, q7]
          refine ⟨rfl, ?_⟩
          go_simp
          exact HJ.out.putO 8 7 _ rfl (by decide) (by decide) (by decide) HL7.out
        · intro L f x hJ hL hd
          have q7 := hJ.val 7 _ (hd 7 rfl (by decide)) rfl
          have q8 := hJ.val 8 _ (hd 8 rfl (by decide)) rfl
          have l7 := hd 7 rfl (by decide)
          have l8 := hd 8 rfl (by decide)
          have HJ := hid hJ
          have HL := hid hL
          have HL7 := hid l7
          have HL8 := hid l8
          clear hJ hL hd l7 l8
          rw [q7, q8]
          refine ⟨rfl, ?_⟩
          go_simp
          exact HJ.out.putO 9 8 _ rfl (by decide) (by decide) (by decide) HL8.out
        · intro L f x hJ hL hd
          have q9 := hJ.val 9 _ (hd 9 rfl (by decide)) rfl
          have l9 := hd 9 rfl (by decide)
          have HJ := hid hJ
          have HL := hid hL
          have HL9 := hid l9
          clear hJ hL hd l9
          rw [q9]
          refine ⟨rfl, ?_⟩
          go_simp
          exact HJ.out.putN 10 _ rfl (by decide)
        · intro L f x hJ hL hd
          have q9 := hJ.val 9 _ (hd 9 rfl (by decide)) rfl
          have l9 := hd 9 rfl (by decide)
          have HJ := hid hJ
          have HL := hid hL
          have HL9 := hid l9
          clear hJ hL hd l9
          rw [q9]
          refine ⟨rfl, ?_⟩
          go_simp
          exact HJ.out.putN 11 _ rfl (by decide)
        · intro L f x hJ hL hd
          have q9 := hJ.val 9 _ (hd 9 rfl (by decide)) rfl
          have q11 := hJ.val 11 _ (hd 11 rfl (by decide)) rfl
          have l9 := hd 9 rfl (by decide)
          have l11 := hd 11 rfl (by decide)
          have HJ := hid hJ
          obtain ⟨_, hcl⟩ := hJ.any
          have d0 := hcl 0 _ rfl
          have d1 := hcl 1 _ rfl
          have d2 := hcl 2 _ rfl
          have d3 := hcl 3 _ rfl
          have d4 := hcl 4 _ rfl
          have d5 := hcl 5 _ rfl
          have d6 := hcl 6 _ rfl
          have d7 := hcl 7 _ rfl
          have d8 := hcl 8 _ rfl
          have d9 := hcl 9 _ rfl
          have d10 := hcl 10 _ rfl
          have d11 := hcl 11 _ rfl
          clear hcl
          have HL := hid hL
          have HL9 := hid l9
          have HL11 := hid l11
          clear hJ hL hd l9 l11
          rw [q9, q11]
          refine ⟨rfl, ?_⟩
          go_simp
          exact HJ.out.putN 12 _ rfl (by decide)
        · intro L f x hJ hL hd
          have q9 := hJ.val 9 _ (hd 9 rfl (by decide)) rfl
          have l9 := hd 9 rfl (by decide)
          have HJ := hid hJ
          have HL := hid hL
          have HL9 := hid l9
          clear hJ hL hd l9
          rw [q9]
          refine ⟨rfl, ?_⟩
          go_simp
          exact HJ.out.putN 13 _ rfl (by decide)
        · intro L f x hJ hL hd
          have q9 := hJ.val 9 _ (hd 9 rfl (by decide)) rfl
          have q13 := hJ.val 13 _ (hd 13 rfl (by decide)) rfl
          have l9 := hd 9 rfl (by decide)
          have l13 := hd 13 rfl (by decide)
          have HJ := hid hJ
          obtain ⟨_, hcl⟩ := hJ.any
          have d12 := hcl 12 _ rfl
          clear hcl
          have HL := hid hL
          have HL9 := hid l9
          have HL13 := hid l13
          clear hJ hL hd l9 l13
          rw [q9, q13]
          refine ⟨rfl, ?_⟩
          go_simp
          exact HJ.out.putN 14 _ rfl (by decide)
        · intro L f x hJ hL hd
          have q9 := hJ.val 9 _ (hd 9 rfl (by decide)) rfl
          have q10 := hJ.val 10 _ (hd 10 rfl (by decide)) rfl
          have q12 := hJ.val 12 _ (hd 12 rfl (by decide)) rfl
          have q14 := hJ.val 14 _ (hd 14 rfl (by decide)) rfl
          have l9 := hd 9 rfl (by decide)
          have l10 := hd 10 rfl (by decide)
          have l12 := hd 12 rfl (by decide)
          have l14 := hd 14 rfl (by decide)
          have HJ := hid hJ
          have hT := hJ.a hL
          have HC := hid (HAPP.out _ cb bb hT)
          have HL := hid hL
          have HL9 := hid l9
          have HL10 := hid l10
          have HL12 := hid l12
          have HL14 := hid l14
          clear hJ hL hd hT l9 l10 l12 l14
          rw [q9, q10, q12, q14]
          refine ⟨rfl, ?_⟩
          go_simp
          refine HC.out.mono ?_
          rintro r x' ⟨rfl, hT⟩
          exact ⟨_, rfl, HJ.out.put15 HL.out HL9.out _ rfl hT⟩
        · intro L f x hJ hL hd
          have q9 := hJ.val 9 _ (hd 9 rfl (by decide)) rfl
          have l9 := hd 9 rfl (by decide)
          have HJ := hid hJ
          have HL := hid hL
          have HL9 := hid l9
          clear hJ hL hd l9
          rw [q9]
          refine ⟨rfl, ?_⟩
          go_simp
          exact HJ.out.putN 16 _ rfl (by decide)
        · intro L f x hJ hL hd
          have q9 := hJ.val 9 _ (hd 9 rfl (by decide)) rfl
          have l9 := hd 9 rfl (by decide)
          have HJ := hid hJ
          have HL := hid hL
          have HL9 := hid l9
          clear hJ hL hd l9
          rw [q9]
          refine ⟨rfl, ?_⟩
          go_simp
          exact HJ.out.putN 17 _ rfl (by decide)
        · intro L f x hJ hL hd
          have q9 := hJ.val 9 _ (hd 9 rfl (by decide)) rfl
          have q17 := hJ.val 17 _ (hd 17 rfl (by decide)) rfl
          have l9 := hd 9 rfl (by decide)
          have l17 := hd 17 rfl (by decide)
          have HJ := hid hJ
          obtain ⟨_, hcl⟩ := hJ.any
          have d0 := hcl 0 _ rfl
          have d1 := hcl 1 _ rfl
          have d2 := hcl 2 _ rfl
          have d3 := hcl 3 _ rfl
          have d4 := hcl 4 _ rfl
          have d5 := hcl 5 _ rfl
          have d6 := hcl 6 _ rfl
          have d7 := hcl 7 _ rfl
          have d8 := hcl 8 _ rfl
          have d9 := hcl 9 _ rfl
          have d10 := hcl 10 _ rfl
          have d11 := hcl 11 _ rfl
          clear hcl
          have HL := hid hL
          have HL9 := hid l9
          have HL17 := hid l17
          clear hJ hL hd l9 l17
          rw [q9, q17]
          refine ⟨rfl, ?_⟩
          go_simp
          exact HJ.out.putN 18 _ rfl (by decide)
        · intro L f x hJ hL hd
          have q9 := hJ.val 9 _ (hd 9 rfl (by decide)) rfl
          have l9 := hd 9 rfl (by decide)
          have HJ := hid hJ
          have HL := hid hL
          have HL9 := hid l9
          clear hJ hL hd l9
          rw [q9]
          refine ⟨rfl, ?_⟩
          go_simp
          exact HJ.out.putN 19 _ rfl (by decide)
        · intro L f x hJ hL hd
          have q9 := hJ.val 9 _ (hd 9 rfl (by decide)) rfl
          have q19 := hJ.val 19 _ (hd 19 rfl (by decide)) rfl
          have l9 := hd 9 rfl (by decide)
          have l19 := hd 19 rfl (by decide)
          have HJ := hid hJ
          obtain ⟨_, hcl⟩ := hJ.any
          have d12 := hcl 12 _ rfl
          clear hcl
          have HL := hid hL
          have HL9 := hid l9
          have HL19 := hid l19
          clear hJ hL hd l9 l19
          rw [q9, q19]
          refine ⟨rfl, ?_⟩
          go_simp
          exact HJ.out.putN 20 _ rfl (by decide)
        · intro L f x hJ hL hd
          have q9 := hJ.val 9 _ (hd 9 rfl (by decide)) rfl
          have q15 := hJ.val 15 _ (hd 15 rfl (by decide)) rfl
          have q16 := hJ.val 16 _ (hd 16 rfl (by decide)) rfl
          have q18 := hJ.val 18 _ (hd 18 rfl (by decide)) rfl
          have q20 := hJ.val 20 _ (hd 20 rfl (by decide)) rfl
          have l9 := hd 9 rfl (by decide)
          have l15 := hd 15 rfl (by decide)
          have l16 := hd 16 rfl (by decide)
          have l18 := hd 18 rfl (by decide)
          have l20 := hd 20 rfl (by decide)
          have HJ := hid hJ
          have hT := hJ.b l15 hL
          have HC := hid (HAP2.out _ cb bb hT)
          have HL := hid hL
          have HL9 := hid l9
          have HL15 := hid l15
          have HL16 := hid l16
          have HL18 := hid l18
          have HL20 := hid l20
          clear hJ hL hd hT l9 l15 l16 l18 l20
          rw [q9, q15, q16, q18, q20]
          refine ⟨rfl, ?_⟩
          go_simp
          refine HC.out.mono ?_
          rintro r x' ⟨rfl, hT⟩
          exact ⟨_, rfl, HJ.out.put21 HL15.out _ rfl hT⟩
        · intro L f x hJ hL hd
          have q9 := hJ.val 9 _ (hd 9 rfl (by decide)) rfl
          have q15 := hJ.val 15 _ (hd 15 rfl (by decide)) rfl
          have q21 := hJ.val 21 _ (hd 21 rfl (by decide)) rfl
          have l9 := hd 9 rfl (by decide)
          have l15 := hd 15 rfl (by decide)
          have l21 := hd 21 rfl (by decide)
          have HJ := hid hJ
          have HL := hid hL
          have HL9 := hid l9
          have HL15 := hid l15
          have HL21 := hid l21
          clear hJ hL hd l9 l15 l21
          rw [q9, q15, q21]
          refine ⟨rfl, ?_⟩
          go_simp
          exact HJ.out.putN 22 _ rfl (by decide)
        · intro L f x hJ hL hd
          have q9 := hJ.val 9 _ (hd 9 rfl (by decide)) rfl
          have q22 := hJ.val 22 _ (hd 22 rfl (by decide)) rfl
          have l9 := hd 9 rfl (by decide)
          have l22 := hd 22 rfl (by decide)
          have HJ := hid hJ
          have HL := hid hL
          have HL9 := hid l9
          have HL22 := hid l22
          clear hJ hL hd l9 l22
          rw [q9, q22]
          refine ⟨rfl, ?_⟩
          go_simp
          exact HJ.out.putN 23 _ rfl (by decide)
        · intro L f x hJ hL hd
          have q21 := hJ.val 21 _ (hd 21 rfl (by decide)) rfl
          have q23 := hJ.val 23 _ (hd 23 rfl (by decide)) rfl
          have l21 := hd 21 rfl (by decide)
          have l23 := hd 23 rfl (by decide)
          have HJ := hid hJ
          have HL := hid hL
          have HL21 := hid l21
          have HL23 := hid l23
          clear hJ hL hd l21 l23
          rw [q21, q23]
          refine ⟨rfl, ?_⟩
          go_simp
          exact HJ.out.putN 24 _ rfl (by decide)
        · intro L f x hJ hL hd
          have q24 := hJ.val 24 _ (hd 24 rfl (by decide)) rfl
          have l24 := hd 24 rfl (by decide)
          have HJ := hid hJ
          have HL := hid hL
          have HL24 := hid l24
          clear hJ hL hd l24
          rw [q24]
          refine ⟨rfl, ?_⟩
          go_simp
          exact HJ.out.putN 25 _ rfl (by decide)
        · intro L f x hJ hL hd
          have q24 := hJ.val 24 _ (hd 24 rfl (by decide)) rfl
          have l24 := hd 24 rfl (by decide)
          have HJ := hid hJ
          have HL := hid hL
          have HL24 := hid l24
          clear hJ hL hd l24
          rw [q24]
          refine ⟨rfl, ?_⟩
          go_simp
          exact HJ.out.putN 26 _ rfl (by decide)
        intro f x hJ
        have q0 := hJ.val 0 _ rfl rfl
        have q1 := hJ.val 1 _ rfl rfl
        have q2 := hJ.val 2 _ rfl rfl
        have q3 := hJ.val 3 _ rfl rfl
        have q4 := hJ.val 4 _ rfl rfl
        have q5 := hJ.val 5 _ rfl rfl
        have q6 := hJ.val 6 _ rfl rfl
        have q7 := hJ.val 7 _ rfl rfl
        have q8 := hJ.val 8 _ rfl rfl
        have q9 := hJ.val 9 _ rfl rfl
        have q10 := hJ.val 10 _ rfl rfl
        have q11 := hJ.val 11 _ rfl rfl
        have q12 := hJ.val 12 _ rfl rfl
        have q13 := hJ.val 13 _ rfl rfl
        have q14 := hJ.val 14 _ rfl rfl
        have q15 := hJ.val 15 _ rfl rfl
        have q16 := hJ.val 16 _ rfl rfl
        have q17 := hJ.val 17 _ rfl rfl
        have q18 := hJ.val 18 _ rfl rfl
        have q19 := hJ.val 19 _ rfl rfl
        have q20 := hJ.val 20 _ rfl rfl
        have q21 := hJ.val 21 _ rfl rfl
        have q22 := hJ.val 22 _ rfl rfl
        have q23 := hJ.val 23 _ rfl rfl
        have q24 := hJ.val 24 _ rfl rfl
        have q25 := hJ.val 25 _ rfl rfl
        have q26 := hJ.val 26 _ rfl rfl
        have HT7 := hid (hJ.d rfl)
        clear hJ
        rw [q0, q1, q2, q3, q4, q5, q6, q7, q8, q9, q10, q11, q12, q13, q14, q15, q16, q17, q18, q19, q20, q21, q22, q23, q24, q25, q26]
        clear q0 q1 q2 q3 q4 q5 q6 q7 q8 q9 q10 q11 q12 q13 q14 q15 q16 q17 q18 q19 q20 q21 q22 q23 q24 q25 q26
        have HS1 : Hid (Calls Tryd.prog 19 #[.pointer (some ⟨sb, 0, none⟩), .pointer (some ⟨mb, 0, none⟩)] x fun r w' => r = .returned (.bool true) ∧ Grew x w') := by
          obtain ⟨Fs, Fm, Fc, h1, h2, h3, r7⟩ := HT7.out.ex
          exact HSAME.out x Fs Fm sb (HG3.out.trans HT7.out.grew) h1 h2
        clear HCNT HCN2 HAPP HAP2
        dsimp only [List.drop]
        go_wp2_with fail
        refine HS1.out.mono ?_
        rintro r w8 ⟨rfl, hg8⟩
        have HT8 := hid (HT7.out.more hg8)
        clear hg8 HT7 HS1
        have d0 := HT8.out.cells 0 _ rfl
        have d1 := HT8.out.cells 1 _ rfl
        have d2 := HT8.out.cells 2 _ rfl
        have d3 := HT8.out.cells 3 _ rfl
        have d4 := HT8.out.cells 4 _ rfl
        have d5 := HT8.out.cells 5 _ rfl
        have d6 := HT8.out.cells 6 _ rfl
        have d7 := HT8.out.cells 7 _ rfl
        have d8 := HT8.out.cells 8 _ rfl
        have d9 := HT8.out.cells 9 _ rfl
        have d10 := HT8.out.cells 10 _ rfl
        have d11 := HT8.out.cells 11 _ rfl
        have d12 := HT8.out.cells 12 _ rfl
        have hbb8 : bb < w8.heap.size := HT8.out.blt
        go_wp2_with fail
        refine (HAPC.out _ cb bb HT8.out).mono ?_
        rintro r w9 ⟨rfl, hT9⟩
        have HT9 := hid hT9
        have HS2 : Hid (Calls Tryd.prog 19 #[.pointer (some ⟨cb, 0, none⟩), .pointer (some ⟨mb, 0, none⟩)] w9 fun r w' => r = .returned (.bool true) ∧ Grew w9 w') := by
          obtain ⟨Fs, Fm, Fc, h1, h2, h3, r7⟩ := HT9.out.ex
          exact HSAME.out w9 Fc Fm cb (HG3.out.trans HT9.out.grew) h3 h2
        clear hT9 HT8 HAPC d0 d1 d2 d3 d4 d5 d6 d7 d8 d9 d10 d11 d12 hbb8
        go_wp2_with fail
        refine HS2.out.mono ?_
        rintro r w10 ⟨rfl, hg10⟩
        have HD10 := hid ((HT9.out.more hg10).duo)
        clear hg10 HT9 HS2
        go_wp2_with fail
        obtain ⟨Fs, Fm, h1, h2, r1⟩ := HD10.out.ex
        refine (HOW.out w10 Fs (HG3.out.trans HD10.out.grew) h1).mono ?_
        rintro r w11 ⟨rfl, hg11⟩
        have HO2 := hid (fun W (g : Grew w11 W) => HOW2.out W Fm ((h2.grew hg11).grew g))
        have HD11 := hid (HD10.out.more hg11)
        clear h1 h2 r1 hg11 HD10 HOW HOW2
        go_wp2_with fail
        refine (HO2.out _ ((Grew.refl w11).alloc _)).mono ?_
        rintro r w12 ⟨rfl, hg12⟩
        have hz12 : w11.heap.size < (w11.alloc (Obj.cells #[.int .i64 x0, .int .i64 x1, .int .i64 x2, .string x3, .string x4] 40)).heap.size := by simp
        have s0 : w12.cell? ⟨w11.heap.size, 0, none⟩ = some (.int .i64 x0) := (hg12.cells.1 _ _ hz12).trans (by simp [go_sem])
        have s1 : w12.cell? ⟨w11.heap.size, 1, none⟩ = some (.int .i64 x1) := (hg12.cells.1 _ _ hz12).trans (by simp [go_sem])
        have s2 : w12.cell? ⟨w11.heap.size, 2, none⟩ = some (.int .i64 x2) := (hg12.cells.1 _ _ hz12).trans (by simp [go_sem])
        have s3 : w12.cell? ⟨w11.heap.size, 3, none⟩ = some (.string x3) := (hg12.cells.1 _ _ hz12).trans (by simp [go_sem])
        have s4 : w12.cell? ⟨w11.heap.size, 4, none⟩ = some (.string x4) := (hg12.cells.1 _ _ hz12).trans (by simp [go_sem])
        have hzz : w11.heap.size < w12.heap.size := Nat.lt_of_lt_of_le hz12 hg12.size
        have HD12 := hid (HD11.out.more (((Grew.refl w11).alloc _).trans hg12))
        have hb3 : (x3.toList == x3.toList) = true := beq_self_eq_true _
        have hb4 : (x4.toList == x4.toList) = true := beq_self_eq_true _
        clear hg12 HD11 HO2
        go_wp2_with fail
        go_roundw
        case rel => exact ⟨k + 1, by omega, by go_num, hid (HD12.out.more ((Grew.refl w12).alloc _))⟩
        case measure => simp [intOf]; omega
      · obtain rfl : k = xs.length := by omega
        obtain ⟨Fs, Fm, h1, h2, r1⟩ := HD.out.ex
        have hs0 := shardM_any h1 (HX.out xs.length).2.1 0
        have e1 : Pl.shardV (Pl.playP (xs.take xs.length)).xs 0 = Sh.none := by unfold Pl.shardV; rw [Pl.find_zero (HINV.out xs.length)]; rfl
        rw [Pl.find_zero (HINV.out xs.length), e1] at hs0
        unfold Sh.aggOf Sh.vals Sh.none at hs0
        have HS0 := hid hs0
        clear hs0 e1 h1 h2 r1
        go_wp2_with fail
        refine HS0.out.mono ?_
        rintro r w6 ⟨rfl, hg6⟩
        have HG6 := hid (HG3.out.trans (HD.out.grew.trans hg6))
        clear hg6 HS0
        go_wp2_with fail
        go_ret
        exact ⟨rfl, HG6.out.alloc _⟩
end Go.Proofs.YtajoihpjnnnkeaaDoor
