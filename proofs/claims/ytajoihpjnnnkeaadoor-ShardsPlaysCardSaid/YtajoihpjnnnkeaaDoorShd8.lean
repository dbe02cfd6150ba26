/- The walks of shards.Shards, Shard, Owner. -/
import Derived.Test.YtajoihpjnnnkeaaDoorShd3
import Derived.Test.YtajoihpjnnnkeaaDoorInsShard
import Derived.Test.YtajoihpjnnnkeaaDoorIdxOpBad
set_option linter.unusedVariables false
set_option linter.unusedSectionVars false
set_option linter.unusedSimpArgs false
namespace Go.Proofs.YtajoihpjnnnkeaaDoor
open Go.RowKit Go.Maps
attribute [local go_sem] Oper.semAt_some

section
variable {w : World} {F : Nat → Prop} {sb : Nat} {xs : List Sh} {used : Nat → Bool} {ne : Nat} {evs : List Value} (h : SmAt w F sb xs used ne evs) (hx : xs.length ≤ 1000)
include h hx
set_option maxRecDepth 100000 in
/-- shards.Shards: a copy. -/
theorem shards_any (h0 : 0 < xs.length) : Calls Tryd.prog 12 #[.pointer (some ⟨sb, 0, none⟩)] w fun e w' => ∃ g cap, e = .returned (.slice (some ⟨g, 0, none⟩) xs.length cap) ∧ w'.ownsRow w.heap.size 40 5 (.slice (some ⟨g, 0, none⟩) xs.length cap) xs.length (shFlat xs) ∧ Grew w w' := by
  obtain ⟨v, ve, h⟩ := h
  obtain ⟨b, cap, rfl, _, hbb⟩ := h.row.form h0
  have c0 := h.live
  have HC := hid (cloneShard w b 0 xs.length cap h0 (by omega) (shFlat xs) (shFlat_length xs) (fun j u hj => by
    rw [Nat.zero_add]
    have hjl := (List.getElem?_eq_some_iff.1 hj).1
    rw [shFlat_length] at hjl
    exact (h.row.cellAt j hjl).trans hj) (shFlat_one' xs))
  clear h
  go_enter Tryd.func12, Tryd.ntmps12
  go_wp2_with fail
  refine HC.out.mono ?_
  rintro e w1 ⟨g, cp, rfl, ho, hg⟩
  have HO := hid ho
  clear ho
  go_wp2_with fail
  go_ret
  exact ⟨g, cp, rfl, HO.out, hg⟩

namespace Pl
/-- A shard by its number; nothing: it doesn't live. -/
def shardV (xs : List Sh) (id : Int) : Sh := if findM xs id < 0 then Sh.none else shAt xs (findM xs id).toNat
end Pl
set_option maxRecDepth 100000 in
set_option maxHeartbeats 1000000 in
theorem shardM_any (id : Int) : Calls Tryd.prog 14 #[.pointer (some ⟨sb, 0, none⟩), .int .i64 id] w fun e w' => e = .returned (.tuple #[(Pl.shardV xs id).aggOf, .bool (decide (0 ≤ Pl.findM xs id))]) ∧ Grew w w' := by
  have HF := hid (fun W (g : Grew w W) => findM_any (h.grew g) (by omega : xs.length ≤ 1000000) id)
  rcases Pl.findM_cases xs id with hf | ⟨i, hi, hf, hid1⟩
  · have e1 : Pl.shardV xs id = Sh.none := by unfold Pl.shardV; rw [hf]; rfl
    rw [hf] at HF
    rw [e1, hf]
    clear hf e1 h
    unfold Sh.aggOf Sh.vals Sh.none
    go_enter Tryd.func14, Tryd.ntmps14
    go_wp2_with fail
    refine (HF.out _ ((Grew.refl w).alloc _)).mono ?_
    rintro r w1 ⟨rfl, hg⟩
    have hc := hg.cells.1
    have hfz := hg.cells.2
    have hz : w.heap.size < w1.heap.size := by have := hg.size; simp at this; omega
    have hG := ((Grew.refl w).alloc _).trans hg
    clear hg
    go_wp2_with fail
    refine bodyPost_ret (v := .tuple #[.agg #[.int .i64 0, .int .i64 0, .int .i64 0, .string ⟨#[]⟩, .string ⟨#[]⟩], .bool false]) (by simp [results, Tryd.results14, go_sem, hc, hz]) rfl ⟨rfl, ?_⟩
    exact (((((hG.setCell (by simp) _).setCell (by simp) _).setCell (by simp) _).setCell (by simp) _).setCell (by simp) _)
  · have e1 : Pl.shardV xs id = shAt xs i := by unfold Pl.shardV; rw [hf, if_neg (by omega), Int.toNat_natCast]
    have hd : decide (0 ≤ (i : Int)) = true := by simp
    rw [hf] at HF
    rw [e1, hf, hd]
    obtain ⟨v, ve, h⟩ := h
    obtain ⟨b, cap, rfl, _, hbb⟩ := h.row.form (by omega)
    have hb := h.blt
    have hiI : ¬ ((i : Int) < 0) := by omega
    have hiL : (i : Int) < (xs.length : Int) := by omega
    have HS := hid h
    have HI := hid hi
    clear hf e1 h hi hid1 hd
    obtain ⟨x0, x1, x2, x3, x4, hxe⟩ : ∃ x0 x1 x2 x3 x4, shAt xs i = ⟨x0, x1, x2, x3, x4⟩ := ⟨_, _, _, _, _, rfl⟩
    have HXE := hid hxe
    rw [hxe]
    clear hxe
    unfold Sh.aggOf Sh.vals
    go_enter Tryd.func14, Tryd.ntmps14
    go_wp2_with fail
    refine (HF.out _ ((Grew.refl w).alloc _)).mono ?_
    rintro r w1 ⟨rfl, hg⟩
    have hz0 : w.heap.size < (w.alloc (Obj.cells #[.int .i64 0, .int .i64 0, .int .i64 0, .string ⟨#[]⟩, .string ⟨#[]⟩] 40)).heap.size := by simp
    have hc0 : w1.cell? ⟨w.heap.size, 0, none⟩ = some (.int .i64 0) := (hg.cells.1 _ _ hz0).trans (by simp [go_sem])
    have hc1 : w1.cell? ⟨w.heap.size, 1, none⟩ = some (.int .i64 0) := (hg.cells.1 _ _ hz0).trans (by simp [go_sem])
    have hc2 : w1.cell? ⟨w.heap.size, 2, none⟩ = some (.int .i64 0) := (hg.cells.1 _ _ hz0).trans (by simp [go_sem])
    have hc3 : w1.cell? ⟨w.heap.size, 3, none⟩ = some (.string ⟨#[]⟩) := (hg.cells.1 _ _ hz0).trans (by simp [go_sem])
    have hc4 : w1.cell? ⟨w.heap.size, 4, none⟩ = some (.string ⟨#[]⟩) := (hg.cells.1 _ _ hz0).trans (by simp [go_sem])
    have hf0 : w1.frozen? ⟨w.heap.size, 0, none⟩ = false := (hg.cells.2 _ _ hz0).trans (by simp [go_sem])
    have hf1 : w1.frozen? ⟨w.heap.size, 1, none⟩ = false := (hg.cells.2 _ _ hz0).trans (by simp [go_sem])
    have hf2 : w1.frozen? ⟨w.heap.size, 2, none⟩ = false := (hg.cells.2 _ _ hz0).trans (by simp [go_sem])
    have hf3 : w1.frozen? ⟨w.heap.size, 3, none⟩ = false := (hg.cells.2 _ _ hz0).trans (by simp [go_sem])
    have hf4 : w1.frozen? ⟨w.heap.size, 4, none⟩ = false := (hg.cells.2 _ _ hz0).trans (by simp [go_sem])
    have hz : w.heap.size < w1.heap.size := by have := hg.size; simp at this; omega
    have hG := ((Grew.refl w).alloc _).trans hg
    have HSu := hid (HS.out.grew hG)
    have c0 := HSu.out.live
    have s0 := sh_cell HSu.out rfl i HI.out 0 (by omega)
    have s1 := sh_cell HSu.out rfl i HI.out 1 (by omega)
    have s2 := sh_cell HSu.out rfl i HI.out 2 (by omega)
    have s3 := sh_cell HSu.out rfl i HI.out 3 (by omega)
    have s4 := sh_cell HSu.out rfl i HI.out 4 (by omega)
    rw [HXE.out] at s0 s1 s2 s3 s4
    simp only [Sh.vals, List.getElem?_cons_zero, List.getElem?_cons_succ, Nat.add_zero] at s0 s1 s2 s3 s4
    clear hg HF
    go_wp2_with fail
    refine bodyPost_ret (v := .tuple #[.agg #[.int .i64 x0, .int .i64 x1, .int .i64 x2, .string x3, .string x4], .bool true]) (by simp [results, Tryd.results14, go_sem, hc0, hc1, hc2, hc3, hc4, hz]) rfl ⟨rfl, ?_⟩
    exact (((((hG.setCell (by simp) _).setCell (by simp) _).setCell (by simp) _).setCell (by simp) _).setCell (by simp) _)
end

/-- Owner's question to a shard. -/
theorem owner1_any {S : Nat → Bool} (hS : ShdS S) (E : Nat → Addr) (c : Sh) (cb : Nat) (key : ByteArray) (w : World) (hE : Errs S E w) (hl : c.lo.size ≤ 70368744177664) (hh : c.hi.size ≤ 70368744177664) (hk : key.size ≤ 70368744177664) (hc : w.cell? ⟨cb, 0, none⟩ = some (.string key)) :
    Calls Tryd.prog 61 #[c.aggOf, .pointer (some ⟨cb, 0, none⟩)] w fun e w' => e = .returned (.bool (Pl.hasS c.lo c.hi key)) ∧ Grew w w' := by
  obtain ⟨i, s, n, lo, hi⟩ := c
  have HH := hid (fun W (g : Grew w W) => has_span S E hS.keyS lo hi key W hl hh hk (hE.grew g))
  unfold Sh.aggOf Sh.vals
  dsimp only at *
  have hb : cb < w.heap.size := cell_lt hc
  clear hE
  go_enter Tryd.func61, Tryd.ntmps61
  go_wp2_with fail
  refine (HH.out _ ((Grew.refl w).alloc _)).mono ?_
  rintro e w1 ⟨rfl, hg⟩
  go_wp2_with fail
  go_ret
  exact ⟨rfl, ((Grew.refl w).alloc _).trans hg⟩

namespace Pl
/-- The index of the shard that has a key; -1: none. -/
def ownerI (xs : List Sh) (key : ByteArray) : Int := if isKey key = true then idxI (fun c => hasS c.lo c.hi key) xs else -1
def ownerV (xs : List Sh) (key : ByteArray) : Sh := if ownerI xs key < 0 then Sh.none else shAt xs (ownerI xs key).toNat
end Pl
section
variable {S : Nat → Bool} (hS : ShdS S) (E : Nat → Addr) {w : World} (hE : Errs S E w) {F : Nat → Prop} {sb : Nat} {xs : List Sh} {used : Nat → Bool} {ne : Nat} {evs : List Value} (h : SmAt w F sb xs used ne evs) (hx : xs.length ≤ 1000)
include hS hE h hx
set_option maxRecDepth 100000 in
set_option maxHeartbeats 2000000 in
theorem owner_any (key : ByteArray) (hk : key.size ≤ 70368744177664) : Calls Tryd.prog 20 #[.pointer (some ⟨sb, 0, none⟩), .string key] w fun e w' => e = .returned (.tuple #[(Pl.ownerV xs key).aggOf, .bool (decide (0 ≤ Pl.ownerI xs key))]) ∧ Grew w w' := by
  obtain ⟨s2, s3, s6, s7⟩ := id hS.keyS
  have HK := hid (fun W (g : Grew w W) => key_any S E s2 s3 s6 s7 key W (by omega) (hE.grew g))
  cases hik : Pl.isKey key with
  | false =>
    have e0 : Pl.ownerI xs key = -1 := by unfold Pl.ownerI; rw [if_neg (by rw [hik]; simp)]
    have e1 : Pl.ownerV xs key = Sh.none := by unfold Pl.ownerV; rw [e0]; rfl
    rw [e0, e1]
    have HN := hid (errOf_nokey E key hik)
    rw [HN.out] at HK
    unfold Sh.aggOf Sh.vals Sh.none
    clear e0 e1 h hE hik
    go_enter Tryd.func20, Tryd.ntmps20
    go_wp2_with fail
    refine (HK.out _ (((Grew.refl w).alloc _).alloc _)).mono ?_
    rintro r w1 ⟨rfl, hg⟩
    have hc := hg.cells.1
    have hfz := hg.cells.2
    have hz : w.heap.size + 1 < w1.heap.size := by have := hg.size; simp at this; omega
    have hG := (((Grew.refl w).alloc _).alloc _).trans hg
    clear hg
    go_wp2_with fail
    refine bodyPost_ret (v := .tuple #[.agg #[.int .i64 0, .int .i64 0, .int .i64 0, .string ⟨#[]⟩, .string ⟨#[]⟩], .bool false]) (by simp [results, Tryd.results20, go_sem, hc, hz]) rfl ⟨rfl, ?_⟩
    exact (((((hG.setCell (by simp) _).setCell (by simp) _).setCell (by simp) _).setCell (by simp) _).setCell (by simp) _)
  | true =>
    have HN := hid (errOf_key E key hik)
    rw [HN.out] at HK
    have e0 : Pl.ownerI xs key = idxI (fun c => Pl.hasS c.lo c.hi key) xs := by unfold Pl.ownerI; rw [if_pos hik]
    have HI : Hid (∀ W cb, Grew w W → W.cell? ⟨cb, 0, none⟩ = some (.string key) → ∀ a cap, ShsAt W a xs → Calls Tryd.prog 60 #[.slice a xs.length cap, .func (.func 61) #[] #[.pointer (some ⟨cb, 0, none⟩)]] W fun e w' => e = .returned (.int .i64 (Pl.ownerI xs key)) ∧ Grew W w') := by
      intro W cb g hc a cap hA
      rw [e0]
      refine idxShardOwner (fun c => Pl.hasS c.lo c.hi key) cb a cap xs W hA (by omega) (fun j hj W' g' => ?_)
      obtain ⟨v, ve, h⟩ := h
      have hz := h.sz _ (shAt_mem xs j hj)
      exact owner1_any hS E (shAt xs j) cb key W' (hE.grew (g.trans g')) hz.1 hz.2 hk ((g'.cells.1 _ _ (cell_lt hc)).trans hc)
    have hcases : Pl.ownerI xs key = -1 ∨ ∃ i, i < xs.length ∧ Pl.ownerI xs key = (i : Nat) := by
      rw [e0]
      unfold idxI
      cases hf : xs.findIdx? (fun c => Pl.hasS c.lo c.hi key) with
      | none => exact .inl rfl
      | some i => exact .inr ⟨i, (List.findIdx?_eq_some_iff_getElem.1 hf).1, rfl⟩
    obtain ⟨v, ve, h⟩ := h
    have hb := h.blt
    have HS := hid h
    clear e0 hE hik h
    obtain ⟨a, cap, rfl, _⟩ := shsAt_of HS.out.row
    rcases hcases with hf | ⟨i, hi, hf⟩
    · have e1 : Pl.ownerV xs key = Sh.none := by unfold Pl.ownerV; rw [hf]; rfl
      rw [hf] at HI
      rw [e1, hf]
      unfold Sh.aggOf Sh.vals Sh.none
      clear e1 hf
      go_enter Tryd.func20, Tryd.ntmps20
      go_wp2_with fail
      refine (HK.out _ (((Grew.refl w).alloc _).alloc _)).mono ?_
      rintro r w1 ⟨rfl, hg⟩
      have hc := hg.cells.1
      have hfz := hg.cells.2
      have hz : w.heap.size + 1 < w1.heap.size := by have := hg.size; simp at this; omega
      have hG := (((Grew.refl w).alloc _).alloc _).trans hg
      have c0 := (hG.cells.1 _ _ hb).trans HS.out.live
      have HCB := hid (show w1.cell? ⟨w.heap.size, 0, none⟩ = some (.string key) from (hc _ _ (by simp; omega)).trans (by simp [go_sem]))
      have HA1 : Hid (ShsAt w1 a xs) := by
        obtain ⟨a', cap', e', hA'⟩ := shsAt_of (HS.out.grew hG).row
        cases e'; exact hA'
      clear hg
      go_wp2_with fail
      refine (HI.out w1 w.heap.size hG HCB.out a cap HA1.out).mono ?_
      rintro r w2 ⟨rfl, hg2⟩
      have hc2 := hg2.cells.1
      have hfz2 := hg2.cells.2
      have hz2 : w.heap.size + 1 < w2.heap.size := Nat.lt_of_lt_of_le hz hg2.size
      have hG2 := hG.trans hg2
      clear hg2
      go_wp2_with fail
      refine bodyPost_ret (v := .tuple #[.agg #[.int .i64 0, .int .i64 0, .int .i64 0, .string ⟨#[]⟩, .string ⟨#[]⟩], .bool false]) (by simp [results, Tryd.results20, go_sem, hc, hc2, hz, hz2]) rfl ⟨rfl, ?_⟩
      exact (((((hG2.setCell (by simp) _).setCell (by simp) _).setCell (by simp) _).setCell (by simp) _).setCell (by simp) _)
    · have e1 : Pl.ownerV xs key = shAt xs i := by unfold Pl.ownerV; rw [hf, if_neg (by omega), Int.toNat_natCast]
      have hd : decide (0 ≤ (i : Int)) = true := by simp
      rw [hf] at HI
      rw [e1, hf, hd]
      obtain ⟨b, cap', e', _, hbb⟩ := HS.out.row.form (by omega)
      cases e'
      have hiI : ¬ ((i : Int) < 0) := by omega
      have hiL : (i : Int) < (xs.length : Int) := by omega
      have HII := hid hi
      clear e1 hf hd hi
      obtain ⟨x0, x1, x2, x3, x4, hxe⟩ : ∃ x0 x1 x2 x3 x4, shAt xs i = ⟨x0, x1, x2, x3, x4⟩ := ⟨_, _, _, _, _, rfl⟩
      have HXE := hid hxe
      rw [hxe]
      clear hxe
      unfold Sh.aggOf Sh.vals
      go_enter Tryd.func20, Tryd.ntmps20
      go_wp2_with fail
      refine (HK.out _ (((Grew.refl w).alloc _).alloc _)).mono ?_
      rintro r w1 ⟨rfl, hg⟩
      have hc := hg.cells.1
      have hfz := hg.cells.2
      have hz : w.heap.size + 1 < w1.heap.size := by have := hg.size; simp at this; omega
      have hG := (((Grew.refl w).alloc _).alloc _).trans hg
      have c0 := (hG.cells.1 _ _ hb).trans HS.out.live
      have HCB := hid (show w1.cell? ⟨w.heap.size, 0, none⟩ = some (.string key) from (hc _ _ (by simp; omega)).trans (by simp [go_sem]))
      have HA1 : Hid (ShsAt w1 (some ⟨b, 0, none⟩) xs) := by
        obtain ⟨a', cap', e', hA'⟩ := shsAt_of (HS.out.grew hG).row
        cases e'; exact hA'
      clear hg
      go_wp2_with fail
      refine (HI.out w1 w.heap.size hG HCB.out _ cap HA1.out).mono ?_
      rintro r w2 ⟨rfl, hg2⟩
      have hc2 := hg2.cells.1
      have hfz2 := hg2.cells.2
      have hz2 : w.heap.size + 1 < w2.heap.size := Nat.lt_of_lt_of_le hz hg2.size
      have hG2 := hG.trans hg2
      have HSu := hid (HS.out.grew hG2)
      have c0 := HSu.out.live
      have s0 := sh_cell HSu.out rfl i HII.out 0 (by omega)
      have s1 := sh_cell HSu.out rfl i HII.out 1 (by omega)
      have s2 := sh_cell HSu.out rfl i HII.out 2 (by omega)
      have s3 := sh_cell HSu.out rfl i HII.out 3 (by omega)
      have s4 := sh_cell HSu.out rfl i HII.out 4 (by omega)
      rw [HXE.out] at s0 s1 s2 s3 s4
      simp only [Sh.vals, List.getElem?_cons_zero, List.getElem?_cons_succ, Nat.add_zero] at s0 s1 s2 s3 s4
      clear hg2 HI HK
      go_wp2_with fail
      refine bodyPost_ret (v := .tuple #[.agg #[.int .i64 x0, .int .i64 x1, .int .i64 x2, .string x3, .string x4], .bool true]) (by simp [results, Tryd.results20, go_sem, hc, hc2, hz, hz2]) rfl ⟨rfl, ?_⟩
      exact (((((hG2.setCell (by simp) _).setCell (by simp) _).setCell (by simp) _).setCell (by simp) _).setCell (by simp) _)
end
end Go.Proofs.YtajoihpjnnnkeaaDoor
