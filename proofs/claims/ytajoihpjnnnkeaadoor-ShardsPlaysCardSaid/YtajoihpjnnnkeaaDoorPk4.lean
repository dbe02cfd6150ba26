/- The walks of tidewaterref04.Num and Text, at numbers below 128. Then: The walk of tidewaterref05.Bytes: a split, a merge. Then: The walk of tidewaterref05.Same: an entry and itself (a split, a merge). -/
import Derived.Test.YtajoihpjnnnkeaaDoorRowK
import Derived.Lib.AppendStr
import Derived.Laws.BytesArg
import Derived.Deep.AppendLies
import Derived.Test.YtajoihpjnnnkeaaDoorA20b
import Derived.Test.YtajoihpjnnnkeaaDoorP20
import Derived.Test.YtajoihpjnnnkeaaDoorR5
import Derived.Test.YtajoihpjnnnkeaaDoorLaw20P
set_option linter.unusedVariables false
set_option linter.unusedSectionVars false
set_option linter.unusedSimpArgs false
namespace Go.Proofs.YtajoihpjnnnkeaaDoor
open Go.RowKit Go.Maps
attribute [local go_sem] Oper.semAt_some

/-- Bytes, as cells. -/
def u8Flat (ns : List Int) : List Value := ns.map (Value.int .u8)
theorem u8Flat_length (ns : List Int) : (u8Flat ns).length = ns.length := by simp [u8Flat]
theorem u8Flat_append (a b : List Int) : u8Flat (a ++ b) = u8Flat a ++ u8Flat b := by simp [u8Flat]
theorem u8Flat_one (ns : List Int) : ∀ u ∈ u8Flat ns, u.oneCell' = true := by
  intro u hu
  obtain ⟨n, _, rfl⟩ := List.mem_map.1 hu
  rfl
/-- A text's bytes, as numbers. -/
def strNums (s : ByteArray) : List Int := s.data.toList.map fun b => (b.toNat : Int)
theorem strNums_length (s : ByteArray) : (strNums s).length = s.size := by
  unfold strNums
  rw [List.length_map, Array.length_toList]; rfl
theorem strNums_flat (s : ByteArray) : u8Flat (strNums s) = Lib.strCells s := by
  unfold u8Flat strNums Lib.strCells
  rw [List.map_map]; rfl

theorem info_u8 : (Tryd.prog.info? 5).map (fun i => (i.zero, i.size, i.bytes)) = some (some (.int .u8 0), 1, 1) := by kernel_rfl

set_option maxRecDepth 100000 in
theorem num_small (w : World) (n : Nat) (hn : n < 128) : Calls Tryd.prog 127 #[.int .i64 n] w fun e w' => ∃ g, e = .returned (.slice (some ⟨g, 0, none⟩) 1 1) ∧ w'.ownsRow w.heap.size 5 1 (.slice (some ⟨g, 0, none⟩) 1 1) 1 (u8Flat [(n : Int)]) ∧ Grew w w' := by
  have h1 : (n : Int) < 128 := by omega
  have hw : IntKind.u8.wrap (n : Int) = (n : Int) := by unfold IntKind.wrap; simp [IntKind.bits, IntKind.signed]; omega
  go_enter Tryd.func127, Tryd.ntmps127
  go_wp2_with fail
  go_ret
  refine ⟨_, rfl, ?_, (Grew.refl w).alloc _⟩
  exact World.ownsRow_lit (base := w.heap.size) (size := 1) w #[.int .u8 n] 1 (Nat.le_refl _) (by decide) rfl

set_option maxRecDepth 100000 in
theorem text_small (w : World) (s : ByteArray) (hs : s.size < 128) : Calls Tryd.prog 128 #[.string s] w fun e w' => ∃ g cap, e = .returned (.slice (some ⟨g, 0, none⟩) (1 + s.size) cap) ∧ w'.ownsRow w.heap.size 5 1 (.slice (some ⟨g, 0, none⟩) (1 + s.size) cap) (1 + s.size) (u8Flat ((s.size : Int) :: strNums s)) ∧ Grew w w' := by
  obtain ⟨i0, hi0, hz0, hz1, hz3⟩ := info_parts info_u8
  have HN := hid (fun W => num_small W s.size hs)
  have HF : Hid (∀ (v' : Value) (w' : World), w'.ownsRow w.heap.size 5 1 v' (1 + s.size) (u8Flat [(s.size : Int)] ++ Lib.strCells s) → ∃ g cap, v' = .slice (some ⟨g, 0, none⟩) (1 + s.size) cap ∧ w'.ownsRow w.heap.size 5 1 (.slice (some ⟨g, 0, none⟩) (1 + s.size) cap) (1 + s.size) (u8Flat ((s.size : Int) :: strNums s))) := by
    intro v' w' h
    obtain ⟨g, cap, rfl, _, _⟩ := h.form (by omega)
    refine ⟨g, cap, rfl, ?_⟩
    rw [show ((s.size : Int) :: strNums s) = [(s.size : Int)] ++ strNums s from rfl, u8Flat_append, strNums_flat]
    exact h
  go_enter Tryd.func128, Tryd.ntmps128
  go_wp2_with fail
  refine (HN.out _).mono ?_
  rintro e w1 ⟨g, rfl, hr, hg⟩
  have HR := hid hr
  have HG := hid hg
  clear hr hg
  go_wp2_with (at_builtin; refine Lib.wpList_append_own_string _ rfl _ _ _ _ rfl w.heap.size 5 i0 Tryd.underlying24 Tryd.underlying9 hi0 hz0 hz1 hz3 (.slice (some ⟨g, 0, none⟩) 1 1) 1 (u8Flat [(s.size : Int)]) rfl HR.out s rfl (by unfold maxLen; omega) (by omega) HG.out.size ?_)
  intro v' w2 hr2 hgr _
  obtain ⟨g2, c2, rfl, hr3⟩ := HF.out v' w2 hr2
  have HR3 := hid hr3
  have HG2 := hid (((HG.out.only (fun j => some j = Value.ownBlock (.slice (some ⟨g, 0, none⟩) 1 1))).then (Only.of_grownBy hgr)).grew (fun j hj => by
    have : j = g := Option.some.inj hj
    subst this
    obtain ⟨g', c', e', hb, _⟩ := HR.out.form (by decide)
    cases e'; exact hb))
  clear hr2 hgr hr3
  go_wp2_with fail
  go_ret
  exact ⟨g2, c2, rfl, HR3.out, HG2.out⟩
end Go.Proofs.YtajoihpjnnnkeaaDoor

set_option linter.unusedVariables false
set_option linter.unusedSectionVars false
set_option linter.unusedSimpArgs false
namespace Go.Proofs.YtajoihpjnnnkeaaDoor
open Go.RowKit Go.Maps
attribute [local go_sem] Oper.semAt_some

theorem u8z_size : (Value.cells (.int .u8 0)).size = 1 := by kernel_rfl
theorem ns_at {ns : List Int} (h : ∀ n ∈ ns, 0 ≤ n ∧ n < 128) (k : Nat) (hk : k < ns.length) : ∃ q : Nat, q < 128 ∧ (intFlat ns)[k]? = some (.int .i64 q) ∧ u8Flat (ns.take (k + 1)) = u8Flat (ns.take k) ++ [.int .u8 q] := by
  have h1 := h _ (List.getElem_mem hk)
  have h2 : ((ns[k].toNat : Nat) : Int) = ns[k] := by omega
  refine ⟨ns[k].toNat, by omega, ?_, ?_⟩
  · unfold intFlat
    rw [List.getElem?_map, List.getElem?_eq_getElem hk, h2]; rfl
  · rw [List.take_succ_eq_append_getElem hk, u8Flat_append, h2]; rfl
namespace Pl
/-- What Bytes tells of a merge, a split. -/
def byM (shard other : Int) : List Int := [4, shard, other]
def byS (shard other server : Int) (key : ByteArray) : List Int := [3, shard, other, server] ++ ((key.size : Int) :: strNums key)
end Pl

set_option maxRecDepth 100000 in
set_option maxHeartbeats 8000000 in
theorem bytes5_merge (e : En) (hk : e.kind = 4) (h1 : 0 ≤ e.shard ∧ e.shard < 128) (h2 : 0 ≤ e.other ∧ e.other < 128) (w : World) :
    Calls Tryd.prog 98 #[e.agg] w fun r w' => ∃ g n c, r = .returned (.slice (some ⟨g, 0, none⟩) n c) ∧ w'.ownsRow w.heap.size 5 1 (.slice (some ⟨g, 0, none⟩) n c) n (u8Flat (Pl.byM e.shard e.other)) ∧ Grew w w' := by
  obtain ⟨kind, shard, other, server, client, seq, key, upto, part, parts, ops, opsA, opsC, dataA, dataL, dataC⟩ := e
  dsimp only at *
  subst hk
  obtain ⟨i0, hi0, hz0, hz1, hz3⟩ := info_parts info_u8
  obtain ⟨i1, hi1, hy0, hy1, hy3⟩ := info_parts info_int20
  obtain ⟨ns, hns⟩ : ∃ ns, ns = Pl.byM shard other := ⟨_, rfl⟩
  have HNS0 : Hid (∀ k, k < 3 → ∃ q : Nat, q < 128 ∧ (intFlat ns)[k]? = some (.int .i64 q) ∧ u8Flat (ns.take (k + 1)) = u8Flat (ns.take k) ++ [.int .u8 q]) := fun k hk => by
    rw [hns]
    refine ns_at (fun n hn => ?_) k hk
    simp only [Pl.byM, List.mem_cons, List.not_mem_nil, or_false] at hn
    rcases hn with rfl | rfl | rfl <;> omega
  have HNE := hid hns
  have HFL : Hid (intFlat ns = [.int .i64 4, .int .i64 shard, .int .i64 other]) := by rw [hns]; rfl
  have HNL0 : Hid (ns.length = 3) := by rw [hns]; rfl
  rw [← hns]
  clear hns
  unfold En.agg En.vals
  go_enter Tryd.func98, Tryd.ntmps98
  go_wp2_with (at_builtin; refine wpList_append_lies _ rfl _ _ 102 rfl w.heap.size 3 i1 _ 1 8 Tryd.underlying102 hi1 hy0 hy1 hy3 int20z_size (by omega) (.slice (some ⟨w.heap.size + 1, 0, none⟩) 2 2) 2 [.int .i64 4, .int .i64 shard] rfl (ownsRow_grew ((Grew.refl _).alloc _) (ownsRow_of_block (cur := [.int .i64 4, .int .i64 shard]) (Nat.le_succ _) (by simpa using heap_alloc_new (w.alloc _) _) (Nat.le_refl _) (by decide) rfl rfl)) ⟨w.heap.size + 2, 0, none⟩ 1 1 [.int .i64 other] rfl rfl (World.news_of_block (cs := #[.int .i64 other]) (by simpa using heap_alloc_new ((w.alloc _).alloc _) _)) (by intro u hu; rw [List.mem_singleton.1 hu]; rfl) (by omega) (by unfold maxLen; omega) (by omega) (by simp; omega) _ rfl ?_)
  intro gl cl w1 hown hgrow hat hlt1
  have HG1 : Hid (Grew w w1) := (((((Grew.refl w).alloc _).alloc _).alloc _ |>.only (fun j => some j = Value.ownBlock (.slice (some ⟨w.heap.size + 1, 0, none⟩) 2 2))).then (Only.of_grownBy hgrow)).grew (fun j hj => by have h1 : j = w.heap.size + 1 := Option.some.inj hj; omega)
  have hbx : Hid (EnBox w1 w.heap.size (⟨4, shard, other, server, client, seq, key, upto, part, parts, ops, opsA, opsC, dataA, dataL, dataC⟩ : En)) := hid ((EnBox.of_alloc w (⟨4, shard, other, server, client, seq, key, upto, part, parts, ops, opsA, opsC, dataA, dataL, dataC⟩ : En) 26).only (((((Grew.refl _).alloc _).alloc _).only (fun j => some j = Value.ownBlock (.slice (some ⟨w.heap.size + 1, 0, none⟩) 2 2))).then (Only.of_grownBy hgrow)) (by simp) (fun h => by have h1 : w.heap.size = w.heap.size + 1 := Option.some.inj h; omega))
  rw [← HFL.out] at hown
  have HNS := HNS0
  have HNL := HNL0
  have HLR := hid hown
  have hzw1 : w.heap.size < w1.heap.size := by have := (Only.of_grownBy hgrow).size; simp at this; omega
  obtain ⟨d0, d1, d2, d3, d4, d5, d6, d7, d8, d9, d10, d11⟩ := hbx.out.cells
  clear hown hgrow hat hlt1 HNS0 HNL0 d1 d2 d3 d4 d5 d6 d8 d9 d10 d11
  dsimp only at d0 d7
  have hgl1 : gl < w1.heap.size := by
    rcases HLR.out.2 with ⟨h, _⟩ | ⟨g, c, cur, h, _, hq, _⟩
    · cases h
    · cases h; exact (Array.getElem?_eq_some_iff.1 hq).1
  have HUE : Hid ((w1.alloc (.cells #[] 5)).ownsRow w1.heap.size 5 1 (.slice (some ⟨w1.heap.size, 0, none⟩) 0 0) 0 (u8Flat (ns.take 0))) :=
    ownsRow_of_block (cur := []) (Nat.le_refl _) (heap_alloc_new w1 _) (Nat.le_refl _) (by decide) rfl rfl
  go_wp2_with fail
  go_loopw [4, 65] (fun out i wr => ∃ (k g c : Nat), k ≤ 3 ∧ i = .int .i64 k ∧ out = .slice (some ⟨g, 0, none⟩) k c ∧ Hid (wr.ownsRow w1.heap.size 5 1 (.slice (some ⟨g, 0, none⟩) k c) k (u8Flat (ns.take k))) ∧ Hid (Grew w1 wr)) (fun _ i _ => 3 - (intOf i).toNat)
  case atStart => exact ⟨0, _, _, Nat.zero_le _, rfl, rfl, HUE, hid ((Grew.refl w1).alloc _)⟩
  case round =>
    obtain ⟨k, g, c, hk1, rfl, rfl, HO, HG2⟩ := hrel
    obtain ⟨w2, rfl⟩ : ∃ w2 : World, w2 = wr := ⟨_, rfl⟩
    by_cases hlt : k < 3
    · obtain ⟨q, hqs, hqc, hqf⟩ := HNS.out k hlt
      have hcl : w2.cell? ⟨gl, k, none⟩ = some (.int .i64 q) := (HG2.out.cells.1 _ _ hgl1).trans ((HLR.out.cellAt k (by omega)).trans hqc)
      have HQF := hid hqf
      have hnum := hid (fun W => num_small W q hqs)
      clear hqc hqf
      go_wp2_with fail
      refine (hnum.out _).mono ?_
      rintro r w3 ⟨g', rfl, hr3, hg3⟩
      have hsrc : Hid (∀ j u, [Value.int .u8 q][j]? = some u → w3.cell? ⟨g', 0 + j, none⟩ = some u) := fun j u hj => by
        have hjl := (List.getElem?_eq_some_iff.1 hj).1
        rw [Nat.zero_add]
        exact (hr3.cellAt j (by simpa using hjl)).trans hj
      have HO3 := hid (ownsRow_grew hg3 HO.out)
      have HG3 := hid (HG2.out.trans hg3)
      have hgw : w1.heap.size ≤ g := (HO.out.lt g rfl).1
      clear hr3 hg3 hcl hnum HO
      go_wp2_with (at_builtin; refine wpList_append_lies _ rfl _ _ 24 rfl w1.heap.size 5 i0 _ 1 1 Tryd.underlying24 hi0 hz0 hz1 hz3 u8z_size (by omega) (.slice (some ⟨g, 0, none⟩) k c) k (u8Flat (ns.take k)) rfl HO3.out ⟨g', 0, none⟩ 1 1 [.int .u8 q] rfl rfl (fun j u hj => by rw [Addr.add_lit]; exact hsrc.out j u hj) (by intro u hu; rw [List.mem_singleton.1 hu]; rfl) (by omega) (by unfold maxLen; omega) (by omega) HG3.out.size _ rfl ?_)
      intro g9 c9 w9 hown hgrow hat9 hlt9
      rw [← HQF.out] at hown
      have HO9 := hid hown
      have HG9 : Hid (Grew w1 w9) := ((HG3.out.only (fun j => some j = Value.ownBlock (.slice (some ⟨g, 0, none⟩) k c))).then (Only.of_grownBy hgrow)).grew (fun j hj => by have h1 : j = g := Option.some.inj hj; omega)
      clear hown hgrow hat9 hlt9 hsrc HO3
      go_wp2_with fail
      go_roundw
      case rel => exact ⟨k + 1, g9, c9, by omega, by go_num, rfl, HO9, HG9⟩
      case measure => simp [intOf]; omega
    · obtain rfl : k = 3 := by omega
      have d0' := (HG2.out.cells.1 _ _ hzw1).trans d0
      have d7' := (HG2.out.cells.1 _ _ hzw1).trans d7
      have HOF : Hid (w2.ownsRow w1.heap.size 5 1 (.slice (some ⟨g, 0, none⟩) 3 c) 3 (u8Flat ns)) := by
        have h1 := HO.out
        rw [← HNL.out, List.take_length] at h1
        rw [← HNL.out]
        exact h1
      clear HO
      go_wp2_with fail
      go_ret
      exact ⟨g, 3, c, rfl, ownsRow_base HG1.out.size HOF.out, HG1.out.trans HG2.out⟩

set_option maxRecDepth 100000 in
set_option maxHeartbeats 8000000 in
theorem bytes5_split (e : En) (hk : e.kind = 3) (h1 : 0 ≤ e.shard ∧ e.shard < 128) (h2 : 0 ≤ e.other ∧ e.other < 128) (h3 : 0 ≤ e.server ∧ e.server < 128) (hkey : e.key.size < 128) (w : World) :
    Calls Tryd.prog 98 #[e.agg] w fun r w' => ∃ g n c, r = .returned (.slice (some ⟨g, 0, none⟩) n c) ∧ w'.ownsRow w.heap.size 5 1 (.slice (some ⟨g, 0, none⟩) n c) n (u8Flat (Pl.byS e.shard e.other e.server e.key)) ∧ Grew w w' := by
  obtain ⟨kind, shard, other, server, client, seq, key, upto, part, parts, ops, opsA, opsC, dataA, dataL, dataC⟩ := e
  dsimp only at *
  subst hk
  obtain ⟨i0, hi0, hz0, hz1, hz3⟩ := info_parts info_u8
  obtain ⟨i1, hi1, hy0, hy1, hy3⟩ := info_parts info_int20
  obtain ⟨ns, hns⟩ : ∃ ns : List Int, ns = [3, shard, other, server] := ⟨_, rfl⟩
  have HNS0 : Hid (∀ k, k < 4 → ∃ q : Nat, q < 128 ∧ (intFlat ns)[k]? = some (.int .i64 q) ∧ u8Flat (ns.take (k + 1)) = u8Flat (ns.take k) ++ [.int .u8 q]) := fun k hk => by
    rw [hns]
    refine ns_at (fun n hn => ?_) k hk
    simp only [List.mem_cons, List.not_mem_nil, or_false] at hn
    rcases hn with rfl | rfl | rfl | rfl <;> omega
  have HFL : Hid (intFlat ns = [.int .i64 3, .int .i64 shard, .int .i64 other, .int .i64 server]) := by rw [hns]; rfl
  have HNL0 : Hid (ns.length = 4) := by rw [hns]; rfl
  have HBY : Hid (u8Flat (Pl.byS shard other server key) = u8Flat ns ++ u8Flat ((key.size : Int) :: strNums key)) := by rw [hns, ← u8Flat_append]; rfl
  have HTX := hid (fun W => text_small W key hkey)
  generalize Pl.byS shard other server key = BS at *
  clear hns
  unfold En.agg En.vals
  go_enter Tryd.func98, Tryd.ntmps98
  go_wp2_with (at_builtin; refine wpList_append_lies _ rfl _ _ 102 rfl w.heap.size 3 i1 _ 1 8 Tryd.underlying102 hi1 hy0 hy1 hy3 int20z_size (by omega) (.slice (some ⟨w.heap.size + 1, 0, none⟩) 2 2) 2 [.int .i64 3, .int .i64 shard] rfl (ownsRow_grew ((Grew.refl _).alloc _) (ownsRow_of_block (cur := [.int .i64 3, .int .i64 shard]) (Nat.le_succ _) (by simpa using heap_alloc_new (w.alloc _) _) (Nat.le_refl _) (by decide) rfl rfl)) ⟨w.heap.size + 2, 0, none⟩ 2 2 [.int .i64 other, .int .i64 server] rfl rfl (World.news_of_block (cs := #[.int .i64 other, .int .i64 server]) (by simpa using heap_alloc_new ((w.alloc _).alloc _) _)) (by intro u hu; simp at hu; rcases hu with rfl | rfl <;> rfl) (by omega) (by unfold maxLen; omega) (by omega) (by simp; omega) _ rfl ?_)
  intro gl cl w1 hown hgrow hat hlt1
  have HG1 : Hid (Grew w w1) := (((((Grew.refl w).alloc _).alloc _).alloc _ |>.only (fun j => some j = Value.ownBlock (.slice (some ⟨w.heap.size + 1, 0, none⟩) 2 2))).then (Only.of_grownBy hgrow)).grew (fun j hj => by have h1 : j = w.heap.size + 1 := Option.some.inj hj; omega)
  have hbx : Hid (EnBox w1 w.heap.size (⟨3, shard, other, server, client, seq, key, upto, part, parts, ops, opsA, opsC, dataA, dataL, dataC⟩ : En)) := hid ((EnBox.of_alloc w (⟨3, shard, other, server, client, seq, key, upto, part, parts, ops, opsA, opsC, dataA, dataL, dataC⟩ : En) 26).only (((((Grew.refl _).alloc _).alloc _).only (fun j => some j = Value.ownBlock (.slice (some ⟨w.heap.size + 1, 0, none⟩) 2 2))).then (Only.of_grownBy hgrow)) (by simp) (fun h => by have h1 : w.heap.size = w.heap.size + 1 := Option.some.inj h; omega))
  rw [← HFL.out] at hown
  have HNS := HNS0
  have HNL := HNL0
  have HLR := hid hown
  have hzw1 : w.heap.size < w1.heap.size := by have := (Only.of_grownBy hgrow).size; simp at this; omega
  obtain ⟨d0, d1, d2, d3, d4, d5, d6, d7, d8, d9, d10, d11⟩ := hbx.out.cells
  clear hown hgrow hat hlt1 HNS0 HNL0 d1 d2 d3 d4 d5 d6 d8 d9 d10 d11
  dsimp only at d0 d7
  have hgl1 : gl < w1.heap.size := by
    rcases HLR.out.2 with ⟨h, _⟩ | ⟨g, c, cur, h, _, hq, _⟩
    · cases h
    · cases h; exact (Array.getElem?_eq_some_iff.1 hq).1
  have HUE : Hid ((w1.alloc (.cells #[] 5)).ownsRow w1.heap.size 5 1 (.slice (some ⟨w1.heap.size, 0, none⟩) 0 0) 0 (u8Flat (ns.take 0))) :=
    ownsRow_of_block (cur := []) (Nat.le_refl _) (heap_alloc_new w1 _) (Nat.le_refl _) (by decide) rfl rfl
  go_wp2_with fail
  go_loopw [4, 65] (fun out i wr => ∃ (k g c : Nat), k ≤ 4 ∧ i = .int .i64 k ∧ out = .slice (some ⟨g, 0, none⟩) k c ∧ Hid (wr.ownsRow w1.heap.size 5 1 (.slice (some ⟨g, 0, none⟩) k c) k (u8Flat (ns.take k))) ∧ Hid (Grew w1 wr)) (fun _ i _ => 4 - (intOf i).toNat)
  case atStart => exact ⟨0, _, _, Nat.zero_le _, rfl, rfl, HUE, hid ((Grew.refl w1).alloc _)⟩
  case round =>
    obtain ⟨k, g, c, hk1, rfl, rfl, HO, HG2⟩ := hrel
    obtain ⟨w2, rfl⟩ : ∃ w2 : World, w2 = wr := ⟨_, rfl⟩
    by_cases hlt : k < 4
    · obtain ⟨q, hqs, hqc, hqf⟩ := HNS.out k hlt
      have hcl : w2.cell? ⟨gl, k, none⟩ = some (.int .i64 q) := (HG2.out.cells.1 _ _ hgl1).trans ((HLR.out.cellAt k (by omega)).trans hqc)
      have HQF := hid hqf
      have hnum := hid (fun W => num_small W q hqs)
      clear hqc hqf
      go_wp2_with fail
      refine (hnum.out _).mono ?_
      rintro r w3 ⟨g', rfl, hr3, hg3⟩
      have hsrc : Hid (∀ j u, [Value.int .u8 q][j]? = some u → w3.cell? ⟨g', 0 + j, none⟩ = some u) := fun j u hj => by
        have hjl := (List.getElem?_eq_some_iff.1 hj).1
        rw [Nat.zero_add]
        exact (hr3.cellAt j (by simpa using hjl)).trans hj
      have HO3 := hid (ownsRow_grew hg3 HO.out)
      have HG3 := hid (HG2.out.trans hg3)
      have hgw : w1.heap.size ≤ g := (HO.out.lt g rfl).1
      clear hr3 hg3 hcl hnum HO
      go_wp2_with (at_builtin; refine wpList_append_lies _ rfl _ _ 24 rfl w1.heap.size 5 i0 _ 1 1 Tryd.underlying24 hi0 hz0 hz1 hz3 u8z_size (by omega) (.slice (some ⟨g, 0, none⟩) k c) k (u8Flat (ns.take k)) rfl HO3.out ⟨g', 0, none⟩ 1 1 [.int .u8 q] rfl rfl (fun j u hj => by rw [Addr.add_lit]; exact hsrc.out j u hj) (by intro u hu; rw [List.mem_singleton.1 hu]; rfl) (by omega) (by unfold maxLen; omega) (by omega) HG3.out.size _ rfl ?_)
      intro g9 c9 w9 hown hgrow hat9 hlt9
      rw [← HQF.out] at hown
      have HO9 := hid hown
      have HG9 : Hid (Grew w1 w9) := ((HG3.out.only (fun j => some j = Value.ownBlock (.slice (some ⟨g, 0, none⟩) k c))).then (Only.of_grownBy hgrow)).grew (fun j hj => by have h1 : j = g := Option.some.inj hj; omega)
      clear hown hgrow hat9 hlt9 hsrc HO3
      go_wp2_with fail
      go_roundw
      case rel => exact ⟨k + 1, g9, c9, by omega, by go_num, rfl, HO9, HG9⟩
      case measure => simp [intOf]; omega
    · obtain rfl : k = 4 := by omega
      have d0' := (HG2.out.cells.1 _ _ hzw1).trans d0
      have d7' := (HG2.out.cells.1 _ _ hzw1).trans d7
      have HOF : Hid (w2.ownsRow w1.heap.size 5 1 (.slice (some ⟨g, 0, none⟩) 4 c) 4 (u8Flat ns)) := by
        have h1 := HO.out
        rw [← HNL.out, List.take_length] at h1
        rw [← HNL.out]
        exact h1
      clear HO
      have hgw : w1.heap.size ≤ g := (HOF.out.lt g rfl).1
      go_wp2_with fail
      refine (HTX.out _).mono ?_
      rintro r w3 ⟨g', c', rfl, hr3, hg3⟩
      have hsrc : Hid (∀ j u, (u8Flat ((key.size : Int) :: strNums key))[j]? = some u → w3.cell? ⟨g', 0 + j, none⟩ = some u) := fun j u hj => by
        have hjl := (List.getElem?_eq_some_iff.1 hj).1
        rw [Nat.zero_add]
        rw [hr3.1] at hjl
        exact (hr3.cellAt j hjl).trans hj
      have HO3 := hid (ownsRow_grew hg3 HOF.out)
      have HG3 := hid (HG2.out.trans hg3)
      have HL3 := hid hr3.1
      clear hr3 hg3 HTX HOF
      go_wp2_with (at_builtin; refine wpList_append_lies _ rfl _ _ 24 rfl w1.heap.size 5 i0 _ 1 1 Tryd.underlying24 hi0 hz0 hz1 hz3 u8z_size (by omega) (.slice (some ⟨g, 0, none⟩) 4 c) 4 (u8Flat ns) rfl HO3.out ⟨g', 0, none⟩ (1 + key.size) c' (u8Flat ((key.size : Int) :: strNums key)) rfl HL3.out (fun j u hj => by rw [Addr.add_lit]; exact hsrc.out j u hj) (u8Flat_one _) (by omega) (by unfold maxLen; omega) (by omega) HG3.out.size _ rfl ?_)
      intro g9 c9 w9 hown hgrow hat9 hlt9
      rw [← HBY.out] at hown
      have HO9 := hid hown
      have HG9 : Hid (Grew w1 w9) := ((HG3.out.only (fun j => some j = Value.ownBlock (.slice (some ⟨g, 0, none⟩) 4 c))).then (Only.of_grownBy hgrow)).grew (fun j hj => by have h1 : j = g := Option.some.inj hj; omega)
      clear hown hgrow hat9 hlt9 hsrc HO3
      have d0'' := (HG9.out.cells.1 _ _ hzw1).trans d0
      go_wp2_with fail
      go_ret
      exact ⟨g9, 4 + (1 + key.size), c9, rfl, ownsRow_base HG1.out.size HO9.out, HG1.out.trans HG9.out⟩
end Go.Proofs.YtajoihpjnnnkeaaDoor

set_option linter.unusedVariables false
set_option linter.unusedSectionVars false
set_option linter.unusedSimpArgs false
namespace Go.Proofs.YtajoihpjnnnkeaaDoor
open Go.RowKit Go.Maps
attribute [local go_sem] Oper.semAt_some uponV

namespace Pl
def by5 (e : En) : List Int := if e.kind = 3 then byS e.shard e.other e.server e.key else byM e.shard e.other
end Pl
theorem bytes5_any (e : En) (hr : Pl.rightB e = true) (hk : e.kind = 3 ∨ e.kind = 4) (w : World) :
    Calls Tryd.prog 98 #[e.agg] w fun r w' => ∃ g n c, r = .returned (.slice (some ⟨g, 0, none⟩) n c) ∧ w'.ownsRow w.heap.size 5 1 (.slice (some ⟨g, 0, none⟩) n c) n (u8Flat (Pl.by5 e)) ∧ Grew w w' := by
  unfold Pl.by5
  rcases hk with hk | hk
  · obtain ⟨a1, a2, a3, a4, _, a5, a6, a7⟩ := Pl.right_split hr hk
    have := Pl.key_size a7
    rw [if_pos hk]
    exact bytes5_split e hk ⟨by omega, by omega⟩ ⟨by omega, by omega⟩ ⟨by omega, by omega⟩ (by omega) w
  · obtain ⟨a1, a2, a3, a4, _⟩ := Pl.right_merge hr hk
    rw [if_neg (by omega)]
    exact bytes5_merge e hk ⟨by omega, by omega⟩ ⟨by omega, by omega⟩ w
/-- The conversion of such bytes to a string. -/
theorem conv5 (x : World) (ns : List Int) (g n c : Nat) (h : x.ownsRow 0 5 1 (.slice (some ⟨g, 0, none⟩) n c) n (u8Flat ns)) : (convert 24 9 (.slice (some ⟨g, 0, none⟩) n c)).run Tryd.prog x = .ok (.string (strOfNums ns)) x := by
  have hl : ns.length = n := by have := h.1; rw [u8Flat_length] at this; omega
  refine run_convert_bytes_arg x 24 5 Tryd.underlying24 Tryd.underlying5 g 0 n c ns hl (fun i hi => ?_) 9 Tryd.underlying9
  rw [Nat.zero_add, h.cellAt i (by omega)]
  unfold u8Flat
  rw [List.getElem?_map, List.getElem?_eq_getElem (by omega), List.getD_eq_getElem?_getD, List.getElem?_eq_getElem (by omega)]
  rfl
/-- What holds inside Same's region. -/
structure JSam (y : World) (ns : List Int) (L : Nat → Bool) (f : Nat → Value) (x : World) : Prop where
  g : Grew y x
  k8 : L 8 = true → ∃ g n c, f 8 = .slice (some ⟨g, 0, none⟩) n c ∧ x.ownsRow 0 5 1 (.slice (some ⟨g, 0, none⟩) n c) n (u8Flat ns)
  k9 : L 9 = true → f 9 = .string (strOfNums ns)
  k11 : L 11 = true → ∃ g n c, f 11 = .slice (some ⟨g, 0, none⟩) n c ∧ x.ownsRow 0 5 1 (.slice (some ⟨g, 0, none⟩) n c) n (u8Flat ns)
  k12 : L 12 = true → f 12 = .string (strOfNums ns)
theorem JSam.more {y x x' : World} {ns : List Int} {L : Nat → Bool} {f : Nat → Value} (h : JSam y ns L f x) (g : Grew x x') : JSam y ns L f x' :=
  ⟨h.g.trans g, fun a => by obtain ⟨g', n, c, e, r⟩ := h.k8 a; exact ⟨g', n, c, e, ownsRow_grew g r⟩, h.k9, fun a => by obtain ⟨g', n, c, e, r⟩ := h.k11 a; exact ⟨g', n, c, e, ownsRow_grew g r⟩, h.k12⟩
theorem JSam.put {y x : World} {ns : List Int} {L : Nat → Bool} {f : Nat → Value} (h : JSam y ns L f x) (i : Nat) (v : Value)
    (h8 : i = 8 → ∃ g n c, v = .slice (some ⟨g, 0, none⟩) n c ∧ x.ownsRow 0 5 1 (.slice (some ⟨g, 0, none⟩) n c) n (u8Flat ns)) (h9 : i = 9 → v = .string (strOfNums ns))
    (h11 : i = 11 → ∃ g n c, v = .slice (some ⟨g, 0, none⟩) n c ∧ x.ownsRow 0 5 1 (.slice (some ⟨g, 0, none⟩) n c) n (u8Flat ns)) (h12 : i = 12 → v = .string (strOfNums ns)) : JSam y ns (plus L i) (updV f i v) x := by
  have key : ∀ j, plus L i j = true → (j = i ∧ updV f i v j = v) ∨ (L j = true ∧ updV f i v j = f j) := by
    intro j hj
    by_cases e : j = i
    · subst e; exact .inl ⟨rfl, updV_same _ _ _⟩
    · refine .inr ⟨?_, updV_ne e⟩
      simpa [plus, e] using hj
  refine ⟨h.g, fun a => ?_, fun a => ?_, fun a => ?_, fun a => ?_⟩
  · rcases key _ a with ⟨e, q⟩ | ⟨e, q⟩ <;> rw [q]
    · exact h8 e.symm
    · exact h.k8 e
  · rcases key _ a with ⟨e, q⟩ | ⟨e, q⟩ <;> rw [q]
    · exact h9 e.symm
    · exact h.k9 e
  · rcases key _ a with ⟨e, q⟩ | ⟨e, q⟩ <;> rw [q]
    · exact h11 e.symm
    · exact h.k11 e
  · rcases key _ a with ⟨e, q⟩ | ⟨e, q⟩ <;> rw [q]
    · exact h12 e.symm
    · exact h.k12 e

set_option maxRecDepth 100000 in
set_option maxHeartbeats 8000000 in
theorem same5_any (e : En) (hr : Pl.rightB e = true) (hk : e.kind = 3 ∨ e.kind = 4) (w : World) (hA : EnAt w e) (hs : EnSm e) :
    Calls Tryd.prog 58 #[e.agg, e.agg] w fun r w' => r = .returned (.bool true) ∧ Grew w w' := by
  have HR := hid (fun W (g : Grew w W) => right5_any e W (hA.grew g) hs)
  have HB := hid (fun W => bytes5_any e hr hk W)
  rw [hr] at HR
  generalize Pl.by5 e = ns at *
  have HG0 : Hid (Grew w ((w.alloc (.cells e.vals.toArray 26)).alloc (.cells e.vals.toArray 26))) := ((Grew.refl w).alloc _).alloc _
  have hb1 := (EnBox.of_alloc w e 26).grew ((Grew.refl _).alloc (.cells e.vals.toArray 26)) (by simp)
  have hb2 := EnBox.of_alloc (w.alloc (.cells e.vals.toArray 26)) e 26
  have hsz : (w.alloc (.cells e.vals.toArray 26)).heap.size = w.heap.size + 1 := by simp
  rw [hsz] at hb2
  obtain ⟨d0, d1, d2, d3, d4, d5, d6, d7, d8, d9, d10, d11⟩ := hb1.cells
  obtain ⟨e0, e1, e2, e3, e4, e5, e6, e7, e8, e9, e10, e11⟩ := hb2.cells
  clear hb1 hb2 hsz hA hs hr hk
  unfold En.agg at *
  obtain ⟨y, hy⟩ : ∃ y, y = ((w.alloc (.cells e.vals.toArray 26)).alloc (.cells e.vals.toArray 26)) := ⟨_, rfl⟩
  rw [← hy] at d0 d1 d2 d3 d4 d5 d6 d7 d8 d9 d10 d11 e0 e1 e2 e3 e4 e5 e6 e7 e8 e9 e10 e11 HG0
  have D0 := wd_cell d0
  have D1 := wd_cell d1
  have D2 := wd_cell d2
  have D3 := wd_cell d3
  have D4 := wd_cell d4
  have D5 := wd_cell d5
  have D6 := wd_cell d6
  have D7 := wd_cell d7
  have D8 := wd_cell d8
  have D9 := wd_cell d9
  have D10 := wd_cell d10
  have D11 := wd_cell d11
  have E0 := wd_cell e0
  have E1 := wd_cell e1
  have E2 := wd_cell e2
  have E3 := wd_cell e3
  have E4 := wd_cell e4
  have E5 := wd_cell e5
  have E6 := wd_cell e6
  have E7 := wd_cell e7
  have E8 := wd_cell e8
  have E9 := wd_cell e9
  have E10 := wd_cell e10
  have E11 := wd_cell e11
  have HY := hid hy
  clear d0 d1 d2 d3 d4 d5 d6 d7 d8 d9 d10 d11 e0 e1 e2 e3 e4 e5 e6 e7 e8 e9 e10 e11 hy
  unfold En.vals at *
  generalize hk0 : e.kind = kind at *
  clear hk0
  go_enter Tryd.func58, Tryd.ntmps58
  go_wp2_with fail
  rw [← HY.out]
  refine wp_region_mix 13 [8, 9, 11, 12] (Grew y) Grew (JSam y ns) (fun f a => (((a.put (some 13) (f 8)).put (some 14) (f 9)).put (some 16) (f 11)).put (some 17) (f 12)) (by kernel_rfl) (by kernel_rfl) (fun _ _ => rfl) ⟨(Grew.refl y).drew, fun h => (by cases h), fun h => (by cases h), fun h => (by cases h), fun h => (by cases h)⟩ (fun _ _ _ h => h.g) Grew.refl (fun _ _ _ _ h g => h.more g) ?_
  repeat (first
    | (refine wpMix_loose (by rfl) (by rfl) ?_)
    | (refine wpMix_plain (by rfl) (by rfl) (by rfl) (by first | exact Grew.refl | exact fun _ => rfl) (by rfl) ?_; intro K hK; go_big_quiet_op; go_big_quiet_on)
    | (refine wpMix_call (by rfl) (by rfl) (by rfl) (by rfl) (fun _ => by kernel_rfl) (fun u hu => HR.out u (HG0.out.trans hu)) ?_; simp only [Act.put, List.setIfInBounds_toArray, List.set_cons_zero, List.set_cons_succ])
    | (refine wpMix_skip (by rfl) (by rfl) (by rfl) ?_; simp only [Act.put, List.setIfInBounds_toArray, List.set_cons_zero, List.set_cons_succ]))
  refine wpMix_done (by rfl) ⟨⟨loose_of rfl (fun _ a => a) (fun _ _ => rfl) (fun _ => rfl) ?_, loose_of rfl (fun f a => a.put (some 13) (f 8)) (fun _ _ => rfl) (fun _ => rfl) ?_, loose_of rfl (fun f a => a.put (some 13) (f 8)) (fun _ _ => rfl) (fun _ => rfl) ?_, loose_of rfl (fun f a => a.put (some 16) (f 11)) (fun _ _ => rfl) (fun _ => rfl) ?_, trivial⟩, ?_⟩
  · intro L f x hJ hL hd
    have HJ := hid hJ
    clear HR hJ hd D0 D1 D2 D3 D4 D5 D6 D7 D8 D9 D10 D11 E0 E1 E2 E3 E4 E5 E6 E7 E8 E9 E10 E11
    go_simp
    refine (HB.out x).mono ?_
    rintro r x' ⟨g, n, c, rfl, hrow, hg⟩
    refine ⟨_, rfl, ?_⟩
    have hrow' := ownsRow_base (Nat.zero_le _) hrow
    exact (HJ.out.more hg).put 8 _ (fun _ => ⟨g, n, c, rfl, hrow'⟩) (fun h => absurd h (by decide)) (fun h => absurd h (by decide)) (fun h => absurd h (by decide))
  · intro L f x hJ hL hd
    have HJ := hid hJ
    obtain ⟨g, n, c, q8, hrow⟩ := hJ.k8 (hd 8 rfl (by decide))
    have hcv := conv5 x ns g n c hrow
    rw [q8]
    clear HR hJ hd HB hrow D0 D1 D2 D3 D4 D5 D6 D7 D8 D9 D10 D11 E0 E1 E2 E3 E4 E5 E6 E7 E8 E9 E10 E11
    go_simp
    exact HJ.out.put 9 _ (fun h => absurd h (by decide)) (fun _ => rfl) (fun h => absurd h (by decide)) (fun h => absurd h (by decide))
  · intro L f x hJ hL hd
    have HJ := hid hJ
    clear HR hJ hd D0 D1 D2 D3 D4 D5 D6 D7 D8 D9 D10 D11 E0 E1 E2 E3 E4 E5 E6 E7 E8 E9 E10 E11
    go_simp
    refine (HB.out x).mono ?_
    rintro r x' ⟨g, n, c, rfl, hrow, hg⟩
    refine ⟨_, rfl, ?_⟩
    have hrow' := ownsRow_base (Nat.zero_le _) hrow
    exact (HJ.out.more hg).put 11 _ (fun h => absurd h (by decide)) (fun h => absurd h (by decide)) (fun _ => ⟨g, n, c, rfl, hrow'⟩) (fun h => absurd h (by decide))
  · intro L f x hJ hL hd
    have HJ := hid hJ
    obtain ⟨g, n, c, q11, hrow⟩ := hJ.k11 (hd 11 rfl (by decide))
    have hcv := conv5 x ns g n c hrow
    rw [q11]
    clear HR hJ hd HB hrow D0 D1 D2 D3 D4 D5 D6 D7 D8 D9 D10 D11 E0 E1 E2 E3 E4 E5 E6 E7 E8 E9 E10 E11
    go_simp
    exact HJ.out.put 12 _ (fun h => absurd h (by decide)) (fun h => absurd h (by decide)) (fun h => absurd h (by decide)) (fun _ => rfl)
  rintro f x hJ
  have q9 := hJ.k9 rfl
  have q12 := hJ.k12 rfl
  rw [q9, q12]
  have HG1 := hid (HG0.out.trans hJ.g)
  clear hJ q9 q12 HR HB D0 D1 D2 D3 D4 D5 D6 D7 D8 D9 D10 D11 E0 E1 E2 E3 E4 E5 E6 E7 E8 E9 E10 E11
  dsimp only [List.drop]
  go_wp2_with fail
  go_ret
  exact ⟨rfl, HG1.out⟩
end Go.Proofs.YtajoihpjnnnkeaaDoor
