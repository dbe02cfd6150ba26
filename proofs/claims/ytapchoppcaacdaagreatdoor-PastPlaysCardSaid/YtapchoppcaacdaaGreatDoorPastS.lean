/- The walks of past.Scan and past.Len. -/
import Derived.Test.YtapchoppcaacdaaGreatDoorSrtS
import Derived.Test.YtapchoppcaacdaaGreatDoorPr0
import Derived.BigQuiet
set_option linter.unusedVariables false
namespace Go.Proofs.YtapchoppcaacdaaGreatDoor
open Go.RowKit Go.Maps Go.Sort
attribute [local go_sem] Oper.semAt_some

namespace Pl
/-- past.Scan: the error's number. -/
def scanE (lo hi : ByteArray) (fl v : Int) : Nat := if rightS lo hi = false then 4 else if v < fl then 11 else 0
theorem scan_step (K : ByteArray → List Ch) (ks : List ByteArray) (v : Int) (lo hi : ByteArray) (k : Nat) (hk : k < ks.length) :
    scanL K (ks.take (k + 1)) v lo hi = scanL K (ks.take k) v lo hi ++ if hasS lo hi (ks[k]?.getD ⟨#[]⟩) = true then (look (K (ks[k]?.getD ⟨#[]⟩)) v).toList else [] := by
  unfold scanL
  rw [List.take_succ_eq_append_getElem hk, List.getElem?_eq_getElem hk, Option.getD_some, List.filterMap_append]
  congr 1
  by_cases h : hasS lo hi ks[k] = true
  · rw [if_pos h]
    cases hl : look (K ks[k]) v with
    | none => simp [h, hl]
    | some c => simp [h, hl]
  · rw [if_neg h]; simp [h]
end Pl

theorem lookP_any {w : World} {F : Nat → Prop} {pb n : Nat} {K : ByteArray → List Ch} {fl : Int} (h : PastAt w F pb n K fl) (hn : n ≤ 1000000) (key : ByteArray) (hk : key.size ≤ maxLen) (v : Int) :
    Calls Tryz.prog 81 #[.pointer (some ⟨pb, 0, none⟩), .string key, .int .i64 v] w fun e w' => e = .returned (.tuple #[((Pl.look (K key) v).getD Ch.none).pair, .bool (Pl.look (K key) v).isSome]) ∧ Grew w w' := by
  obtain ⟨⟨mb, f, h⟩, _⟩ := h
  exact look_any h hn key hk v
theorem str_row {w : World} {B : Nat} {v : Value} {ks : List ByteArray} (h : w.ownsRow B 9 1 v ks.length (stFlat ks)) : ∃ a cap, v = .slice a ks.length cap ∧ (ks = [] ∨ ∃ b, a = some ⟨b, 0, none⟩ ∧ b < w.heap.size ∧ ∀ j, j < ks.length → w.cell? ⟨b, j, none⟩ = some (.string (ks[j]?.getD ⟨#[]⟩))) := by
  rcases Nat.eq_zero_or_pos ks.length with h0 | h0
  · have hx : ks = [] := List.eq_nil_of_length_eq_zero h0
    rcases h.2 with ⟨rfl, _⟩ | ⟨g, cap, cur, rfl, _, hg, _⟩
    · exact ⟨none, 0, by rw [h0], .inl hx⟩
    · exact ⟨_, _, rfl, .inl hx⟩
  · obtain ⟨g, cap, rfl, _, hlt⟩ := h.form h0
    refine ⟨_, _, rfl, .inr ⟨g, rfl, hlt, fun j hj => ?_⟩⟩
    have := h.cellAt j (by omega)
    rw [this]
    unfold stFlat
    rw [List.getElem?_map, List.getElem?_eq_getElem hj]
    rfl

set_option maxRecDepth 100000 in
set_option maxHeartbeats 4000000 in
theorem scanP_any (S : Nat → Bool) (E : Nat → Addr) (hS : KeyS S) (h4 : S 4 = true) (h11 : S 11 = true) {w : World} (hE : Errs S E w) {F : Nat → Prop} {pb n : Nat} {K : ByteArray → List Ch} {fl : Int} (h : PastAt w F pb n K fl) (hn : n ≤ 1000000) (hK : Pl.GoodK K) (hsz : ∀ s, K s ≠ [] → s.size ≤ 70368744177664) (lo hi : ByteArray) (at_ : Int) (hlo : lo.size ≤ 70368744177664) (hhi : hi.size ≤ 70368744177664) :
    Calls Tryz.prog 39 #[.pointer (some ⟨pb, 0, none⟩), .agg #[.string lo, .string hi], .int .i64 at_] w fun e w' => (∃ v L, e = .returned (.tuple #[v, errOf E (Pl.scanE lo hi fl at_)]) ∧ (Pl.scanE lo hi fl at_ = 0 → ∃ ks, Pl.Rising K ks ∧ L = Pl.scanL K ks at_ lo hi) ∧ (Pl.scanE lo hi fl at_ ≠ 0 → L = []) ∧ L.length ≤ n ∧ w'.ownsRow w.heap.size 82 3 v L.length (pFlat L)) ∧ Grew w w' := by
  have HE := hid hE
  have HP := hid h
  have g4 : w.cell? ⟨0, 0, none⟩ = some (.iface 288 (.pointer (some (E 4)))) := hE.cell 4 h4
  have g11 : w.cell? ⟨2, 0, none⟩ = some (.iface 288 (.pointer (some (E 11)))) := hE.cell 11 h11
  have c1 : w.cell? ⟨pb, 1, none⟩ = some (.int .i64 fl) := by obtain ⟨⟨mb, f, h⟩, _⟩ := h; exact h.flr
  have hb : pb < w.heap.size := cell_lt c1
  have b4 : 0 < w.heap.size := cell_lt g4
  have b11 : 2 < w.heap.size := cell_lt g11
  have HR := hid (fun W (g : Grew w W) => right_span S E hS lo hi W hlo hhi (hE.grew g))
  have HRS := hid (fun W (g : Grew w W) => rising_any (h.grew g) hn hK hsz)
  have HSZ := hid hsz
  obtain ⟨i0, hi0, hz0, hz1, hz2⟩ := info_parts info_pair
  clear hE h hsz hK
  cases hr : Pl.rightS lo hi with
  | false =>
    have he : Pl.scanE lo hi fl at_ = 4 := by unfold Pl.scanE; rw [if_pos hr]
    rw [hr] at HR
    rw [he]
    clear he hr HRS HSZ
    go_enter Tryz.func39, Tryz.ntmps39
    go_wp2_with fail
    refine (HR.out _ ((Grew.refl w).alloc _)).mono ?_
    rintro e w1 ⟨rfl, hg⟩
    have hG : Grew w w1 := ((Grew.refl w).alloc _).trans hg
    have g4' := (hG.cells.1 _ _ b4).trans g4
    have b4' := Nat.lt_of_lt_of_le b4 hG.size
    go_wp2_with fail
    go_region
    go_wp2_with fail
    go_ret2
    exact ⟨⟨_, [], rfl, (fun h => by cases h), fun _ => rfl, Nat.zero_le _, World.ownsRow_nil _ _ _ _⟩, hG.drew⟩
  | true =>
    rw [hr] at HR
    by_cases hv : at_ < fl
    · have he : Pl.scanE lo hi fl at_ = 11 := by unfold Pl.scanE; rw [if_neg (by simp [hr]), if_pos hv]
      rw [he]
      clear he hr HRS HSZ
      go_enter Tryz.func39, Tryz.ntmps39
      go_wp2_with fail
      refine (HR.out _ ((Grew.refl w).alloc _)).mono ?_
      rintro e w1 ⟨rfl, hg⟩
      have hG : Grew w w1 := ((Grew.refl w).alloc _).trans hg
      have g11' := (hG.cells.1 _ _ b11).trans g11
      have b11' := Nat.lt_of_lt_of_le b11 hG.size
      have c1' := (hG.cells.1 _ _ hb).trans c1
      go_wp2_with fail
      go_region
      go_wp2_with fail
      go_ret2
      exact ⟨⟨_, [], rfl, (fun h => by cases h), fun _ => rfl, Nat.zero_le _, World.ownsRow_nil _ _ _ _⟩, hG.drew⟩
    · have he : Pl.scanE lo hi fl at_ = 0 := by unfold Pl.scanE; rw [if_neg (by simp [hr]), if_neg hv]
      rw [he]
      clear he hr
      go_enter Tryz.func39, Tryz.ntmps39
      go_wp2_with fail
      refine (HR.out _ ((Grew.refl w).alloc _)).mono ?_
      rintro e w1 ⟨rfl, hg⟩
      have hG : Grew w w1 := ((Grew.refl w).alloc _).trans hg
      have c1' := (hG.cells.1 _ _ hb).trans c1
      have hz1' : w.heap.size < w1.heap.size := by have := hg.size; simp at this; omega
      have l0 : w1.cell? ⟨w.heap.size, 0, none⟩ = some (.string lo) := by rw [hg.cells.1 _ _ (by simp)]; simp [go_sem]
      have l1 : w1.cell? ⟨w.heap.size, 1, none⟩ = some (.string hi) := by rw [hg.cells.1 _ _ (by simp)]; simp [go_sem]
      go_wp2_with fail
      refine (HRS.out _ hG).mono ?_
      rintro e w2 ⟨sv, ks, rfl, hrise, hkl, hrow, hg2⟩
      have hG2 : Grew w w2 := hG.trans hg2
      have l0' := (hg2.cells.1 _ _ hz1').trans l0
      have l1' := (hg2.cells.1 _ _ hz1').trans l1
      have hz2' : w.heap.size < w2.heap.size := Nat.lt_of_lt_of_le hz1' hg2.size
      have HRI := hid hrise
      have HKS : Hid (∀ k, k < ks.length → (ks[k]?.getD ⟨#[]⟩).size ≤ 70368744177664) := fun k hk => by
        rw [List.getElem?_eq_getElem hk, Option.getD_some]
        exact HSZ.out _ ((hrise.2 _).1 (List.getElem_mem hk))
      obtain ⟨a, cap, rfl, hst⟩ := str_row hrow
      have HST := hid hst
      clear hrow hst hrise l0 l1 hg hg2 HRS HSZ
      obtain ⟨wo, rfl⟩ : ∃ wo : World, wo = w2 := ⟨_, rfl⟩
      go_wp2_with fail
      go_loopw [8, 29] (fun v i wr => ∃ (k m : Nat) (ys : List Ch) (a2 : Option Addr) (cap2 : Nat), k ≤ ks.length ∧ v = .slice a2 m cap2 ∧ i = .int .i64 k ∧ Hid (ys = Pl.scanL K (ks.take k) at_ lo hi) ∧ Hid (m = ys.length) ∧ m ≤ k ∧ wr.ownsRow wo.heap.size 82 3 (.slice a2 m cap2) m (pFlat ys) ∧ Grew wo wr) (fun _ i _ => ks.length - (intOf i).toNat)
      case atStart => exact ⟨0, 0, [], none, 0, Nat.zero_le _, rfl, rfl, by unfold Hid Pl.scanL; simp, by unfold Hid; rfl, Nat.zero_le _, World.ownsRow_nil _ _ _ _, Grew.refl _⟩
      case round =>
        obtain ⟨k, m, ys, a2, cap2, hk1, rfl, rfl, HY, HM, hmk, hown, hGr⟩ := hrel
        by_cases hlt : k < ks.length
        · rcases HST.out with h0 | ⟨b, rfl, hbl, hR⟩
          · rw [h0] at hlt; simp at hlt
          have q0 := (hGr.cells.1 b k hbl).trans (hR k hlt)
          have l0'' := (hGr.cells.1 _ _ hz2').trans l0'
          have l1'' := (hGr.cells.1 _ _ hz2').trans l1'
          have hzr : w.heap.size < wr.heap.size := Nat.lt_of_lt_of_le hz2' hGr.size
          have HN := hid (Pl.scan_step K ks at_ lo hi k hlt)
          have hks := HKS.out k hlt
          have HLK := hid (fun W (g : Grew w W) => lookP_any (HP.out.grew g) hn (ks[k]?.getD ⟨#[]⟩) (by unfold maxLen; omega) at_)
          have HHAS := hid (fun W (g : Grew w W) => has_span S E hS lo hi (ks[k]?.getD ⟨#[]⟩) W hlo hhi hks (HE.out.grew g))
          have hGw := hG2.trans hGr
          clear hR
          generalize ks[k]?.getD ⟨#[]⟩ = key at *
          cases hlk : Pl.look (K key) at_ with
          | none =>
            rw [hlk] at HLK HN
            have HN2 : Hid (ys = Pl.scanL K (ks.take (k + 1)) at_ lo hi) := by
              unfold Hid; rw [HN.out, ← HY.out]; simp
            clear hlk HN HHAS
            dsimp only [Option.getD, Option.isSome, Ch.pair, Ch.none] at HLK
            go_wp2_with fail
            refine (HLK.out _ hGw).mono ?_
            rintro e w3 ⟨rfl, hg3⟩
            have hG3 := hGr.trans hg3
            have hown3 := ownsRow_grew hg3 hown
            clear hown
            go_wp2_with fail
            go_roundw
            case rel => exact ⟨k + 1, m, ys, a2, cap2, by omega, rfl, by go_num, HN2, HM, by omega, ownsRow_grew (((Grew.refl _).alloc _)) hown3, hG3.alloc _⟩
            case measure => simp [intOf]; omega
          | some c =>
            rw [hlk] at HLK HN
            obtain ⟨ck, cv, cn, ct⟩ := c
            dsimp only [Option.getD, Option.isSome, Ch.pair] at HLK
            cases hb2 : Pl.hasS lo hi key with
            | false =>
              rw [hb2] at HHAS
              have HN2 : Hid (ys = Pl.scanL K (ks.take (k + 1)) at_ lo hi) := by
                unfold Hid; rw [HN.out, ← HY.out, hb2]; simp
              clear hlk HN hb2
              go_wp2_with fail
              refine (HLK.out _ hGw).mono ?_
              rintro e w3 ⟨rfl, hg3⟩
              have hG3 := hGr.trans hg3
              have hown3 := ownsRow_grew hg3 hown
              have m0 := (hg3.cells.1 _ _ hzr).trans l0''
              have m1 := (hg3.cells.1 _ _ hzr).trans l1''
              have hz3 : w.heap.size < w3.heap.size := Nat.lt_of_lt_of_le hzr hg3.size
              clear hown l0'' l1''
              go_wp2_with fail
              refine (HHAS.out _ ((hG2.trans hG3).alloc _)).mono ?_
              rintro e w4 ⟨rfl, hg4⟩
              have hG4 := (hG3.alloc _).trans hg4
              have hown4 := ownsRow_grew ((((Grew.refl _).alloc _)).trans hg4) hown3
              clear hown3
              go_wp2_with fail
              go_roundw
              case rel => exact ⟨k + 1, m, ys, a2, cap2, by omega, rfl, by go_num, HN2, HM, by omega, hown4, hG4⟩
              case measure => simp [intOf]; omega
            | true =>
              rw [hb2] at HHAS
              have HN2 : Hid (ys ++ [⟨ck, cv, cn, ct⟩] = Pl.scanL K (ks.take (k + 1)) at_ lo hi) := by
                unfold Hid; rw [HN.out, ← HY.out, hb2]; simp
              have HR2 : Hid (pFlat ys ++ [.string ck, .string cv, .int .i64 cn] = pFlat (ys ++ [⟨ck, cv, cn, ct⟩])) := by unfold Hid; rw [pFlat_snoc]; rfl
              have HM2 : Hid (m + 1 = (ys ++ [(⟨ck, cv, cn, ct⟩ : Ch)]).length) := by unfold Hid; rw [List.length_append, ← HM.out]; rfl
              clear hlk HN hb2
              go_wp2_with fail
              refine (HLK.out _ hGw).mono ?_
              rintro e w3 ⟨rfl, hg3⟩
              have hG3 := hGr.trans hg3
              have hown3 := ownsRow_grew hg3 hown
              have m0 := (hg3.cells.1 _ _ hzr).trans l0''
              have m1 := (hg3.cells.1 _ _ hzr).trans l1''
              have hz3 : w.heap.size < w3.heap.size := Nat.lt_of_lt_of_le hzr hg3.size
              clear hown l0'' l1''
              go_wp2_with fail
              refine (HHAS.out _ ((hG2.trans hG3).alloc _)).mono ?_
              rintro e w4 ⟨rfl, hg4⟩
              have hG4 := (hG3.alloc _).trans hg4
              have hown4 := ownsRow_grew ((((Grew.refl _).alloc _)).trans hg4) hown3
              have k0 : w4.cell? ⟨w3.heap.size, 0, none⟩ = some (.string ck) := by rw [hg4.cells.1 _ _ (by simp)]; simp [go_sem]
              have k1 : w4.cell? ⟨w3.heap.size, 1, none⟩ = some (.string cv) := by rw [hg4.cells.1 _ _ (by simp)]; simp [go_sem]
              have k2 : w4.cell? ⟨w3.heap.size, 2, none⟩ = some (.int .i64 cn) := by rw [hg4.cells.1 _ _ (by simp)]; simp [go_sem]
              have hz4 : w3.heap.size < w4.heap.size := by have := hg4.size; simp at this; omega
              have hle4 := hG4.size
              clear hown3 hg4 m0 m1
              go_wp2_with (at_builtin; refine wpList_append_lies _ rfl _ _ 38 rfl wo.heap.size 82 i0 _ 3 40 Tryz.underlying38 hi0 hz0 hz1 hz2 rfl (by omega) _ m (pFlat ys) rfl (hown4.alloc _) ⟨w4.heap.size, 0, none⟩ 1 1 [.string ck, .string cv, .int .i64 cn] rfl rfl (World.news_of_block (cs := #[.string ck, .string cv, .int .i64 cn]) (t := 82) (fr := (0, 0)) (heap_alloc_new w4 _)) (by simp [Value.oneCell']) (by omega) (by unfold maxLen; omega) (by omega) ?_ _ rfl ?_)
              · simp; omega
              · intro g capg w5 hown5 hgrow hat hlt5
                have hS' : ∀ j, some j = Value.ownBlock (.slice a2 m cap2) → wo.heap.size ≤ j := fun j hj => (hown4.lt j hj.symm).1
                have o5 : Only (fun j => some j = Value.ownBlock (.slice a2 m cap2)) w4 w5 := (((Grew.refl w4).alloc _).only _).then (Only.of_grownBy hgrow)
                have hG5 : Grew wo w5 := ((hG4.only _).then o5).grew hS'
                rw [HR2.out] at hown5
                clear o5 hgrow hat hown4 hS' k0 k1 k2 hG4 hz4
                go_wp2_with fail
                go_roundw
                case rel => exact ⟨k + 1, m + 1, ys ++ [⟨ck, cv, cn, ct⟩], _, capg, by omega, rfl, by go_num, HN2, HM2, by omega, hown5, hG5⟩
                case measure => simp [intOf]; omega
        · obtain rfl : k = ks.length := by omega
          rw [List.take_length] at HY
          have HZ := hid hown
          clear hown
          go_wp2_with fail
          go_ret2
          refine ⟨⟨_, ys, rfl, fun _ => ⟨ks, HRI.out, HY.out⟩, fun h => absurd rfl h, by rw [← HM.out]; omega, ?_⟩, hG2.trans hGr⟩
          rw [← HM.out]
          exact ownsRow_base hG2.size HZ.out

set_option maxRecDepth 100000 in
set_option maxHeartbeats 2000000 in
theorem lenP_any {w : World} {F : Nat → Prop} {pb n : Nat} {K : ByteArray → List Ch} {fl : Int} (h : PastAt w F pb n K fl) (hn : n ≤ 1000000) :
    Calls Tryz.prog 11 #[.pointer (some ⟨pb, 0, none⟩)] w fun e w' => (∃ m : Nat, e = .returned (.int .i64 (m : Nat)) ∧ Pl.LenIs K m) ∧ Grew w w' := by
  obtain ⟨⟨mb, f, h⟩, hF⟩ := h
  have c0 := h.map0
  have hb : pb < w.heap.size := cell_lt c0
  have hlm := h.lm
  have hmb := hlm.lt
  obtain ⟨ks, hnd, hmem, hkl⟩ := hlm.keys str_keyed Tryz.underlying9
  have hval : ∀ (s : ByteArray) (v : Value), f (mlit s) = some v → ∃ a cap, v = .slice a (K s).length cap := fun s v hf => by
    obtain ⟨a, len, cap, hs, hC⟩ := h.slice s
    change (f (mlit s)).getD nilS = _ at hs
    rw [hf] at hs
    have hs' : v = .slice a len cap := hs
    rcases hC with ⟨e, hx⟩ | ⟨b, cap', e, _, _⟩
    · rw [hs']; injection e with e1 e2 e3; rw [hx]; exact ⟨_, _, by rw [e2]; rfl⟩
    · rw [hs']; injection e with e1 e2 e3; exact ⟨_, _, by rw [e2]⟩
  have hlen := h.len
  have hpres : ∀ s, f (mlit s) ≠ none ↔ K s ≠ [] := fun s => by
    have hp := h.pres s
    change (f (mlit s)).isSome = _ at hp
    cases hf : f (mlit s) with
    | none => rw [hf] at hp; cases hk : K s with
      | nil => simp
      | cons a l => rw [hk] at hp; simp at hp
    | some v => rw [hf] at hp; cases hk : K s with
      | nil => rw [hk] at hp; simp at hp
      | cons a l => simp
  have hsum : (ks.map fun s => (K s).length).sum ≤ ks.length * n := by
    clear hnd hmem hkl
    induction ks with
    | nil => simp
    | cons a ks ih => rw [List.map_cons, List.sum_cons, List.length_cons, Nat.succ_mul]; have := hlen a; omega
  have hbig : ks.length * n ≤ 1000000 * 1000000 := Nat.mul_le_mul (by omega) hn
  have HV := hid hval
  have HIS : Hid (Pl.LenIs K (ks.map fun s => (K s).length).sum) := ⟨ks, hnd, fun s => (hmem s).trans (hpres s), rfl⟩
  have HMEM := hid hmem
  have HND := hid hnd
  have HL := hid hlen
  obtain ⟨T, hT⟩ : ∃ T, T = (ks.map fun s => (K s).length).sum := ⟨_, rfl⟩
  rw [← hT] at HIS hsum
  have HT := hid hT
  clear hval hpres hmem hnd hT h hF hlen
  go_enter Tryz.func11, Tryz.ntmps11
  go_wp2_with (at_range; refine wpList_range_M rfl _ rfl str_keyed Tryz.underlying85 rfl hlm ?_)
  intro w5 left5 cnt5 hr5 hl5 hg5 hs5
  have HR5 := hid hr5
  have HS5 : Hid (0 + sumLeft (fun s => (K s).length) left5 ks = T) := by
    unfold Hid
    rw [HT.out, Nat.zero_add]
    refine sumLeft_all _ _ _ fun s hs => ?_
    cases hl : left5 (mlit s) with
    | true => rfl
    | false => exact absurd (hl5 _ hl) ((HMEM.out s).1 hs)
  clear hr5 hs5 hl5
  obtain ⟨r, hr⟩ : ∃ r, r = w.heap.size := ⟨_, rfl⟩
  rw [← hr] at HR5 ⊢
  have hrB : w.heap.size ≤ r := by rw [hr]; exact Nat.le_refl _
  clear hr
  go_wp2_with fail
  go_loopw [3] (fun v wx => ∃ (left : Lit → Bool) (cnt acc : Nat), v = .int .i64 acc ∧ Hid (MRange wx Tryz.prog 9 mb r n f left cnt) ∧ Hid (acc + sumLeft (fun s => (K s).length) left ks = T) ∧ Grew w wx) (fun _ wx => wx.rangeLeft mb r)
  case atStart => exact ⟨left5, cnt5, 0, rfl, HR5, HS5, hg5⟩
  case round =>
    obtain ⟨left, cnt, acc, rfl, HR, HS, hG⟩ := hrel
    have hR := HR.out
    have HMEAS := hid hR.left_eq
    have hacc : acc ≤ T := by have := HS.out; omega
    go_wp2_with (at_next; refine wpList_next_M rfl _ rfl Tryz.underlying9 str_keyed r left cnt rfl hR ?_ ?_)
    · intro hl0
      have ha : Hid (acc = T) := by have := HS.out; rw [sumLeft_none _ _ _ hl0] at this; exact this
      clear hR hl0
      go_wp2_with fail
      go_ret
      exact ⟨⟨acc, rfl, by rw [ha.out]; exact HIS.out⟩, hG⟩
    · intro s v w6 cnt6 hss hls hfs hR6 hlt6 ho6 hs6 hen
      obtain ⟨a, cap, rfl⟩ := HV.out s v hfs
      have hsk : s ∈ ks := (HMEM.out s).2 (by rw [hfs]; simp)
      have HS6 : Hid (acc + (K s).length + sumLeft (fun s => (K s).length) (fun z => left z && !z.sameKey (mlit s)) ks = T) := by
        have h1 := HS.out
        rw [sumLeft_step _ left s hls ks HND.out hsk] at h1
        unfold Hid; omega
      have hG6 : Grew w w6 := ((hG.only _).then ho6).grew fun j hj => by omega
      have HR6 := hid hR6
      have hls2 := HL.out s
      have h64 : acc + (K s).length ≤ 1000001000000 := by omega
      clear hR hR6 hls hfs ho6 hs6 hss
      go_wp2_with fail
      go_roundw
      case rel => exact ⟨_, cnt6, acc + (K s).length, by go_num, HR6, HS6, hG6⟩
      case measure => rw [HR6.out.left_eq, HMEAS.out]; exact hlt6
end Go.Proofs.YtapchoppcaacdaaGreatDoor
