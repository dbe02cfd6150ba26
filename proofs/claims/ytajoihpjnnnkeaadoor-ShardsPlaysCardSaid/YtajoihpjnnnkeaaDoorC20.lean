/- The walk of tidewaterref20.Map.Counts. -/
import Derived.Test.YtajoihpjnnnkeaaDoorM20
import Derived.Test.YtajoihpjnnnkeaaDoorR5
import Derived.Test.YtajoihpjnnnkeaaDoorRef03d
import Derived.Test.YtajoihpjnnnkeaaDoorRgn3
import Derived.BigQuiet
namespace Go.Proofs.YtajoihpjnnnkeaaDoor
open Go.RowKit Go.Maps
attribute [local go_sem] Oper.semAt_some

namespace Pl
/-- What the document's Counts tells. -/
def cnt20 (s : MdSt) (e : En) : Bool :=
  if rightB e = false then false
  else if findM s.xs e.shard < 0 then false
  else if e.kind = 2 then true
  else if e.kind = 3 then !(s.us.any fun u => u == e.other) && hasR (shAt s.xs (findM s.xs e.shard).toNat).lo (shAt s.xs (findM s.xs e.shard).toNat).hi e.key && !(e.key.toList == (shAt s.xs (findM s.xs e.shard).toNat).lo.toList)
  else if e.kind = 4 then
    if findM s.xs e.other < 0 then false
    else decide (joinE (rightR (shAt s.xs (findM s.xs e.shard).toNat).lo (shAt s.xs (findM s.xs e.shard).toNat).hi) (rightR (shAt s.xs (findM s.xs e.other).toNat).lo (shAt s.xs (findM s.xs e.other).toNat).hi) (shAt s.xs (findM s.xs e.shard).toNat).lo (shAt s.xs (findM s.xs e.shard).toNat).hi (shAt s.xs (findM s.xs e.other).toNat).lo (shAt s.xs (findM s.xs e.other).toNat).hi = 0)
  else false
theorem findM_is (xs : List Sh) (id : Int) : findM xs id = -1 ∨ ∃ i : Nat, i < xs.length ∧ findM xs id = (i : Nat) := by
  unfold findM idxI
  cases h : xs.findIdx? fun c => c.id == id with
  | none => exact .inl rfl
  | some i =>
    obtain ⟨hi, _⟩ := List.findIdx?_eq_some_iff_getElem.1 h
    exact .inr ⟨i, hi, rfl⟩
end Pl

set_option maxRecDepth 100000 in
set_option maxHeartbeats 16000000 in
theorem counts20_any {w : World} {F : Nat → Prop} {mb : Nat} {s : MdSt} (h : MdAt w F mb s) (hx : s.xs.length ≤ 1000) (hu : s.us.length ≤ 1000000) (hsz : ∀ c ∈ s.xs, c.lo.size ≤ 16777216 ∧ c.hi.size ≤ 16777216) (e : En) (hA : EnAt w e) (hs : EnSm e) :
    Calls Tryd.prog 17 #[.pointer (some ⟨mb, 0, none⟩), e.agg] w fun r w' => r = .returned (.bool (Pl.cnt20 s e)) ∧ Grew w w' := by
  have HF1 := hid (fun W (g : Grew w W) => find20_any (h.grew g) (by omega) e.shard)
  have HF2 := hid (fun W (g : Grew w W) => find20_any (h.grew g) (by omega) e.other)
  have HRT := hid (fun W (g : Grew w W) => right5_any e W (hA.grew g) hs)
  have hks := hs.key
  obtain ⟨xs, us, ne, evs⟩ := s
  obtain ⟨vl, vu, ve, h⟩ := h
  dsimp only at *
  obtain ⟨a, cap, rfl, hAt⟩ := shsAt_ref h.row
  obtain ⟨a2, cap2, rfl, hI⟩ := intsAt_of h.urow
  have c0 := h.live
  have c1 := h.used
  have hb := h.blt
  have HIN := hid (fun W (g : Grew w W) => in_any W a2 cap2 us (hI.grew g) hu e.other)
  have HAT := hid hAt
  have HZ := hid hsz
  clear hsz
  have HC : Hid (∀ b, b = Pl.cnt20 ⟨xs, us, ne, evs⟩ e ↔ b = (if Pl.rightB e = false then false else if Pl.findM xs e.shard < 0 then false else if e.kind = 2 then true else if e.kind = 3 then !(us.any fun u => u == e.other) && Pl.hasR (shAt xs (Pl.findM xs e.shard).toNat).lo (shAt xs (Pl.findM xs e.shard).toNat).hi e.key && !(e.key.toList == (shAt xs (Pl.findM xs e.shard).toNat).lo.toList)
    else if e.kind = 4 then (if Pl.findM xs e.other < 0 then false else decide (Pl.joinE (Pl.rightR (shAt xs (Pl.findM xs e.shard).toNat).lo (shAt xs (Pl.findM xs e.shard).toNat).hi) (Pl.rightR (shAt xs (Pl.findM xs e.other).toNat).lo (shAt xs (Pl.findM xs e.other).toNat).hi) (shAt xs (Pl.findM xs e.shard).toNat).lo (shAt xs (Pl.findM xs e.shard).toNat).hi (shAt xs (Pl.findM xs e.other).toNat).lo (shAt xs (Pl.findM xs e.other).toNat).hi = 0)) else false)) := fun b => Iff.rfl
  generalize Pl.cnt20 ⟨xs, us, ne, evs⟩ e = rb at HC ⊢
  clear h hAt hI hA hs
  have hfi := Pl.findM_is xs e.shard
  have hfj := Pl.findM_is xs e.other
  generalize Pl.findM xs e.shard = fi at *
  generalize Pl.findM xs e.other = fj at *
  generalize Pl.rightB e = rt at *
  generalize (us.any fun u => u == e.other) = uo at *
  obtain ⟨kind, shard, other, server, client, seq, key, upto, part, parts, ops, opsA, opsC, dataA, dataL, dataC⟩ := e
  unfold En.agg En.vals at *
  dsimp only at *
  have HG0 : Hid (Grew w (w.alloc (.cells #[.int .i64 kind, .int .i64 shard, .int .i64 other, .int .i64 server, .int .i64 client, .int .i64 seq, .slice opsA ops.length opsC, .string key, .int .i64 upto, .int .i64 part, .int .i64 parts, .slice dataA dataL dataC] 26))) := (Grew.refl w).alloc _
  have hcs := fun i v (hv : (#[Value.int .i64 kind, .int .i64 shard, .int .i64 other, .int .i64 server, .int .i64 client, .int .i64 seq, .slice opsA ops.length opsC, .string key, .int .i64 upto, .int .i64 part, .int .i64 parts, .slice dataA dataL dataC] : Array Value)[i]? = some v) => show (w.alloc (.cells #[.int .i64 kind, .int .i64 shard, .int .i64 other, .int .i64 server, .int .i64 client, .int .i64 seq, .slice opsA ops.length opsC, .string key, .int .i64 upto, .int .i64 part, .int .i64 parts, .slice dataA dataL dataC] 26)).cell? ⟨w.heap.size, i, none⟩ = some v from by rw [cell_of_row _ _ i _ _ _ (heap_alloc_new w _)]; exact hv
  have HCS := hid hcs
  have hz0 : w.heap.size < (w.alloc (.cells #[.int .i64 kind, .int .i64 shard, .int .i64 other, .int .i64 server, .int .i64 client, .int .i64 seq, .slice opsA ops.length opsC, .string key, .int .i64 upto, .int .i64 part, .int .i64 parts, .slice dataA dataL dataC] 26)).heap.size := by simp
  have HZ0 := hid hz0
  clear hcs hz0
  go_enter Tryd.func17, Tryd.ntmps17
  go_wp2_with fail
  generalize hW0 : w.alloc _ = W0 at *
  clear hW0
  have E1 := wd_cell (HCS.out 1 _ rfl)
  have E2 := wd_cell (HCS.out 2 _ rfl)
  refine wp_region_mix 10 [] (Grew W0) Grew (fun _ _ x => Grew W0 x) (fun _ a => a) (by kernel_rfl) (by kernel_rfl) (fun _ _ => rfl) (Grew.refl W0).drew (fun _ _ _ h => h) Grew.refl (fun _ _ _ _ h g => h.trans g) ?_
  iterate 4 (first
    | (refine wpMix_loose (by rfl) (by rfl) ?_)
    | (refine wpMix_plain (by rfl) (by rfl) (by rfl) (by first | exact Grew.refl | exact fun _ => rfl) (by rfl) ?_; intro K hK; go_big_quiet_op; go_big_quiet_on)
    | (refine wpMix_call (by rfl) (by rfl) (by rfl) (by rfl) (fun _ => by kernel_rfl) (fun u hu => HF1.out u (HG0.out.trans hu)) ?_; simp only [Act.put, List.setIfInBounds_toArray, List.set_cons_zero, List.set_cons_succ])
    | (refine wpMix_skip (by rfl) (by rfl) (by rfl) ?_; simp only [Act.put, List.setIfInBounds_toArray, List.set_cons_zero, List.set_cons_succ]))
  repeat (first
    | (refine wpMix_loose (by rfl) (by rfl) ?_)
    | (refine wpMix_plain (by rfl) (by rfl) (by rfl) (by first | exact Grew.refl | exact fun _ => rfl) (by rfl) ?_; intro K hK; go_big_quiet_op; go_big_quiet_on)
    | (refine wpMix_call (by rfl) (by rfl) (by rfl) (by rfl) (fun _ => by kernel_rfl) (fun u hu => HF2.out u (HG0.out.trans hu)) ?_; simp only [Act.put, List.setIfInBounds_toArray, List.set_cons_zero, List.set_cons_succ])
    | (refine wpMix_skip (by rfl) (by rfl) (by rfl) ?_; simp only [Act.put, List.setIfInBounds_toArray, List.set_cons_zero, List.set_cons_succ]))
  refine wpMix_nil ⟨trivial, ?_⟩
  rintro f0 x hgx
  dsimp only [List.drop]
  have HGX := hid hgx
  clear hgx E1 E2
  have E := fun i v hv => (HGX.out.cells.1 _ i HZ0.out).trans (HCS.out i v hv)
  have E0 := E 0 _ rfl
  have E1 := E 1 _ rfl
  have E2 := E 2 _ rfl
  have E3 := E 3 _ rfl
  have E4 := E 4 _ rfl
  have E5 := E 5 _ rfl
  have E6 := E 6 _ rfl
  have E7 := E 7 _ rfl
  have E8 := E 8 _ rfl
  have E9 := E 9 _ rfl
  have E10 := E 10 _ rfl
  have E11 := E 11 _ rfl
  have HE := hid E
  clear E
  go_wp2_with fail
  refine (HRT.out _ (HG0.out.trans HGX.out)).mono ?_
  rintro r y ⟨rfl, hgy⟩
  have HGY := hid (HGX.out.trans hgy)
  clear E0 E1 E2 E3 E4 E5 E6 E7 E8 E9 E10 E11 hgy HE HGX
  have E := fun i v hv => (HGY.out.cells.1 _ i HZ0.out).trans (HCS.out i v hv)
  have E0 := E 0 _ rfl
  have E2 := E 2 _ rfl
  have E7 := E 7 _ rfl
  clear E
  have hGw := HG0.out.trans HGY.out
  have hzy : w.heap.size < y.heap.size := Nat.lt_of_lt_of_le HZ0.out HGY.out.size
  have c0y := (hGw.cells.1 _ 0 hb).trans c0
  have c1y := (hGw.cells.1 _ 1 hb).trans c1
  have hby := Nat.lt_of_lt_of_le hb hGw.size
  have HGW := hid hGw
  clear c0 c1 hGw HRT HF1 HF2
  cases rt with
  | false =>
    go_wp2_with fail
    go_ret
    exact ⟨ret_bool ((HC.out _).2 (by simp)), HGW.out⟩
  | true =>
    rcases hfi with rfl | ⟨i, hi, rfl⟩
    · go_wp2_with fail
      go_ret
      exact ⟨ret_bool ((HC.out _).2 (by simp)), HGW.out⟩
    have hi0 : ¬ ((i : Int) < 0) := by omega
    have hiI : (i : Int) < (xs.length : Int) := by omega
    by_cases k2 : kind = 2
    · subst k2
      go_wp2_with fail
      go_ret
      exact ⟨ret_bool ((HC.out _).2 (by simp [hi0])), HGW.out⟩
    rcases HAT.out with h0 | ⟨b, off, rfl, hbb, hR⟩
    · rw [h0] at hi; simp at hi
    have q3 := (HGW.out.cells.1 b (off + i * 5 + 3) hbb).trans (hR.lo i hi)
    have q4 := (HGW.out.cells.1 b (off + i * 5 + 4) hbb).trans (hR.hi i hi)
    have hbby := Nat.lt_of_lt_of_le hbb HGW.out.size
    have zi := HZ.out _ (shAt_mem xs i hi)
    have HJJ := hid (fun j (hj : j < xs.length) => And.intro ((HGW.out.cells.1 b (off + j * 5 + 3) hbb).trans (hR.lo j hj)) (And.intro ((HGW.out.cells.1 b (off + j * 5 + 4) hbb).trans (hR.hi j hj)) (HZ.out _ (shAt_mem xs j hj))))
    have HC2 : Hid (∀ b, b = rb ↔ b = (if kind = 2 then true else if kind = 3 then !uo && Pl.hasR (shAt xs i).lo (shAt xs i).hi key && !(key.toList == (shAt xs i).lo.toList)
      else if kind = 4 then (if fj < 0 then false else decide (Pl.joinE (Pl.rightR (shAt xs i).lo (shAt xs i).hi) (Pl.rightR (shAt xs fj.toNat).lo (shAt xs fj.toNat).hi) (shAt xs i).lo (shAt xs i).hi (shAt xs fj.toNat).lo (shAt xs fj.toNat).hi = 0)) else false)) := fun b => by
      have := HC.out b
      rw [if_neg (by simp), if_neg hi0, Int.toNat_natCast] at this
      exact this
    clear HC hR
    generalize (shAt xs i).lo = lo at *
    generalize (shAt xs i).hi = hi' at *
    by_cases k3 : kind = 3
    · subst k3
      have HH := hid (fun W => ref_has lo hi' key W zi.1 zi.2 hks)
      have HC3 : Hid (∀ b, b = rb ↔ b = (!uo && Pl.hasR lo hi' key && !(key.toList == lo.toList))) := fun b => by
        have := HC2.out b
        rw [if_neg (by decide), if_pos rfl] at this
        exact this
      clear HC2 HJJ k2
      have G1 : Grew y (y.alloc (.cells #[.string lo, .string hi'] 38)) := (Grew.refl y).alloc _
      have s0 : (y.alloc (.cells #[.string lo, .string hi'] 38)).cell? ⟨y.heap.size, 0, none⟩ = some (.string lo) := by simp [go_sem]
      have s1 : (y.alloc (.cells #[.string lo, .string hi'] 38)).cell? ⟨y.heap.size, 1, none⟩ = some (.string hi') := by simp [go_sem]
      go_wp2_with fail
      generalize y.alloc _ = y1 at *
      have X1 := wd_cell ((G1.cells.1 _ 1 hby).trans c1y)
      have X2 := wd_cell ((G1.cells.1 _ 2 hzy).trans E2)
      have X7 := wd_cell ((G1.cells.1 _ 7 hzy).trans E7)
      have S0 := wd_cell s0
      have S1 := wd_cell s1
      have HG1 := hid G1
      clear c0y c1y E0 E2 E7 q3 q4 s0 s1 G1
      cases uo with
      | true =>
        refine wp_region_mix 22 [] (Grew y1) Grew (fun _ _ x => Grew y1 x) (fun _ a => a) (by kernel_rfl) (by kernel_rfl) (fun _ _ => rfl) (Grew.refl y1).drew (fun _ _ _ h => h) Grew.refl (fun _ _ _ _ h g => h.trans g) ?_
        repeat (first
    | (refine wpMix_loose (by rfl) (by rfl) ?_)
    | (refine wpMix_plain (by rfl) (by rfl) (by rfl) (by first | exact Grew.refl | exact fun _ => rfl) (by rfl) ?_; intro K hK; go_big_quiet_op; go_big_quiet_on)
    | (refine wpMix_call (by rfl) (by rfl) (by rfl) (by rfl) (fun _ => by kernel_rfl) (fun u hu => HIN.out u (HGW.out.trans (HG1.out.trans hu))) ?_; simp only [Act.put, List.setIfInBounds_toArray, List.set_cons_zero, List.set_cons_succ])
    | (refine wpMix_skip (by rfl) (by rfl) (by rfl) ?_; simp only [Act.put, List.setIfInBounds_toArray, List.set_cons_zero, List.set_cons_succ]))
        refine wpMix_nil ⟨trivial, ?_⟩
        rintro f0 z hgz
        dsimp only [List.drop]
        have HGZ := hid (HGW.out.trans (HG1.out.trans hgz))
        clear hgz
        go_wp2_with fail
        go_ret
        exact ⟨ret_bool ((HC3.out _).2 (by simp)), HGZ.out⟩
      | false =>
        generalize Pl.hasR lo hi' key = hb2 at *
        cases hb2 with
        | false =>
          refine wp_region_mix 22 [] (Grew y1) Grew (fun _ _ x => Grew y1 x) (fun _ a => a) (by kernel_rfl) (by kernel_rfl) (fun _ _ => rfl) (Grew.refl y1).drew (fun _ _ _ h => h) Grew.refl (fun _ _ _ _ h g => h.trans g) ?_
          iterate 7 (first
    | (refine wpMix_loose (by rfl) (by rfl) ?_)
    | (refine wpMix_plain (by rfl) (by rfl) (by rfl) (by first | exact Grew.refl | exact fun _ => rfl) (by rfl) ?_; intro K hK; go_big_quiet_op; go_big_quiet_on)
    | (refine wpMix_call (by rfl) (by rfl) (by rfl) (by rfl) (fun _ => by kernel_rfl) (fun u hu => HIN.out u (HGW.out.trans (HG1.out.trans hu))) ?_; simp only [Act.put, List.setIfInBounds_toArray, List.set_cons_zero, List.set_cons_succ])
    | (refine wpMix_skip (by rfl) (by rfl) (by rfl) ?_; simp only [Act.put, List.setIfInBounds_toArray, List.set_cons_zero, List.set_cons_succ]))
          repeat (first
    | (refine wpMix_loose (by rfl) (by rfl) ?_)
    | (refine wpMix_plain (by rfl) (by rfl) (by rfl) (by first | exact Grew.refl | exact fun _ => rfl) (by rfl) ?_; intro K hK; go_big_quiet_op; go_big_quiet_on)
    | (refine wpMix_call (by rfl) (by rfl) (by rfl) (by rfl) (fun _ => by kernel_rfl) (fun u hu => HH.out u) ?_; simp only [Act.put, List.setIfInBounds_toArray, List.set_cons_zero, List.set_cons_succ])
    | (refine wpMix_skip (by rfl) (by rfl) (by rfl) ?_; simp only [Act.put, List.setIfInBounds_toArray, List.set_cons_zero, List.set_cons_succ]))
          refine wpMix_nil ⟨trivial, ?_⟩
          rintro f0 z hgz
          dsimp only [List.drop]
          have HGZ := hid (HGW.out.trans (HG1.out.trans hgz))
          clear hgz
          go_wp2_with fail
          go_ret
          exact ⟨ret_bool ((HC3.out _).2 (by simp)), HGZ.out⟩
        | true =>
          cases heq : (key.toList == lo.toList) with
          | true =>
            have hne : (key.toList != lo.toList) = false := by rw [bne, heq]; rfl
            refine wp_region_mix 22 [] (Grew y1) Grew (fun _ _ x => Grew y1 x) (fun _ a => a) (by kernel_rfl) (by kernel_rfl) (fun _ _ => rfl) (Grew.refl y1).drew (fun _ _ _ h => h) Grew.refl (fun _ _ _ _ h g => h.trans g) ?_
            iterate 7 (first
    | (refine wpMix_loose (by rfl) (by rfl) ?_)
    | (refine wpMix_plain (by rfl) (by rfl) (by rfl) (by first | exact Grew.refl | exact fun _ => rfl) (by rfl) ?_; intro K hK; go_big_quiet_op; go_big_quiet_on)
    | (refine wpMix_call (by rfl) (by rfl) (by rfl) (by rfl) (fun _ => by kernel_rfl) (fun u hu => HIN.out u (HGW.out.trans (HG1.out.trans hu))) ?_; simp only [Act.put, List.setIfInBounds_toArray, List.set_cons_zero, List.set_cons_succ])
    | (refine wpMix_skip (by rfl) (by rfl) (by rfl) ?_; simp only [Act.put, List.setIfInBounds_toArray, List.set_cons_zero, List.set_cons_succ]))
            repeat (first
    | (refine wpMix_loose (by rfl) (by rfl) ?_)
    | (refine wpMix_plain (by rfl) (by rfl) (by rfl) (by first | exact Grew.refl | exact fun _ => rfl) (by rfl) ?_; intro K hK; go_big_quiet_op; go_big_quiet_on)
    | (refine wpMix_call (by rfl) (by rfl) (by rfl) (by rfl) (fun _ => by kernel_rfl) (fun u hu => HH.out u) ?_; simp only [Act.put, List.setIfInBounds_toArray, List.set_cons_zero, List.set_cons_succ])
    | (refine wpMix_skip (by rfl) (by rfl) (by rfl) ?_; simp only [Act.put, List.setIfInBounds_toArray, List.set_cons_zero, List.set_cons_succ]))
            refine wpMix_nil ⟨trivial, ?_⟩
            rintro f0 z hgz
            dsimp only [List.drop]
            have HGZ := hid (HGW.out.trans (HG1.out.trans hgz))
            clear hgz
            go_wp2_with fail
            go_ret
            exact ⟨ret_bool ((HC3.out _).2 (by simp [heq])), HGZ.out⟩
          | false =>
            have hne : (key.toList != lo.toList) = true := by rw [bne, heq]; rfl
            refine wp_region_mix 22 [] (Grew y1) Grew (fun _ _ x => Grew y1 x) (fun _ a => a) (by kernel_rfl) (by kernel_rfl) (fun _ _ => rfl) (Grew.refl y1).drew (fun _ _ _ h => h) Grew.refl (fun _ _ _ _ h g => h.trans g) ?_
            iterate 7 (first
    | (refine wpMix_loose (by rfl) (by rfl) ?_)
    | (refine wpMix_plain (by rfl) (by rfl) (by rfl) (by first | exact Grew.refl | exact fun _ => rfl) (by rfl) ?_; intro K hK; go_big_quiet_op; go_big_quiet_on)
    | (refine wpMix_call (by rfl) (by rfl) (by rfl) (by rfl) (fun _ => by kernel_rfl) (fun u hu => HIN.out u (HGW.out.trans (HG1.out.trans hu))) ?_; simp only [Act.put, List.setIfInBounds_toArray, List.set_cons_zero, List.set_cons_succ])
    | (refine wpMix_skip (by rfl) (by rfl) (by rfl) ?_; simp only [Act.put, List.setIfInBounds_toArray, List.set_cons_zero, List.set_cons_succ]))
            repeat (first
    | (refine wpMix_loose (by rfl) (by rfl) ?_)
    | (refine wpMix_plain (by rfl) (by rfl) (by rfl) (by first | exact Grew.refl | exact fun _ => rfl) (by rfl) ?_; intro K hK; go_big_quiet_op; go_big_quiet_on)
    | (refine wpMix_call (by rfl) (by rfl) (by rfl) (by rfl) (fun _ => by kernel_rfl) (fun u hu => HH.out u) ?_; simp only [Act.put, List.setIfInBounds_toArray, List.set_cons_zero, List.set_cons_succ])
    | (refine wpMix_skip (by rfl) (by rfl) (by rfl) ?_; simp only [Act.put, List.setIfInBounds_toArray, List.set_cons_zero, List.set_cons_succ]))
            refine wpMix_nil ⟨trivial, ?_⟩
            rintro f0 z hgz
            dsimp only [List.drop]
            have HGZ := hid (HGW.out.trans (HG1.out.trans hgz))
            clear hgz
            go_wp2_with fail
            go_ret
            exact ⟨ret_bool ((HC3.out _).2 (by simp [heq])), HGZ.out⟩
    by_cases k4 : kind = 4
    · subst k4
      have HC4 : Hid (∀ b, b = rb ↔ b = (if fj < 0 then false else decide (Pl.joinE (Pl.rightR lo hi') (Pl.rightR (shAt xs fj.toNat).lo (shAt xs fj.toNat).hi) lo hi' (shAt xs fj.toNat).lo (shAt xs fj.toNat).hi = 0))) := fun b => by
        have := HC2.out b
        rw [if_neg (by decide), if_neg (by decide), if_pos rfl] at this
        exact this
      clear HC2 k2 k3
      rcases hfj with rfl | ⟨j, hj, rfl⟩
      · go_wp2_with fail
        go_ret
        exact ⟨ret_bool ((HC4.out _).2 (by simp)), HGW.out⟩
      have hj0 : ¬ ((j : Int) < 0) := by omega
      have hjI : (j : Int) < (xs.length : Int) := by omega
      have HC5 : Hid (∀ b, b = rb ↔ b = decide (Pl.joinE (Pl.rightR lo hi') (Pl.rightR (shAt xs j).lo (shAt xs j).hi) lo hi' (shAt xs j).lo (shAt xs j).hi = 0)) := fun b => by
        have := HC4.out b
        rw [if_neg hj0, Int.toNat_natCast] at this
        exact this
      obtain ⟨p3, p4, zj⟩ := HJJ.out j hj
      have HJ := hid (fun W => ref_join lo hi' (shAt xs j).lo (shAt xs j).hi W zi.1 zi.2 zj.1 zj.2)
      clear HC4 HJJ
      generalize Pl.joinE (Pl.rightR lo hi') (Pl.rightR (shAt xs j).lo (shAt xs j).hi) lo hi' (shAt xs j).lo (shAt xs j).hi = jn at *
      generalize Pl.joinV (Pl.rightR lo hi') (Pl.rightR (shAt xs j).lo (shAt xs j).hi) lo hi' (shAt xs j).lo (shAt xs j).hi = jv at *
      unfold RefJoinPost at HJ
      obtain ⟨jv1, jv2⟩ := jv
      dsimp only at HJ
      generalize (shAt xs j).lo = lo2 at *
      generalize (shAt xs j).hi = hi2 at *
      have C0 := wd_cell c0y
      have Q3 := wd_cell q3
      have Q4 := wd_cell q4
      have P3 := wd_cell p3
      have P4 := wd_cell p4
      go_wp2_with fail
      clear c0y c1y E0 E2 E7 q3 q4 p3 p4 HIN
      refine wp_region_mix 23 [20, 21] (Grew y) Grew (fun L f w => Grew y w ∧ (L 20 = true → ∃ a b, Fr2 y.heap.size w (f 20) a b)) (fun f a => a.put (some 8) (f 20)) (by kernel_rfl) (by kernel_rfl) (fun _ _ => rfl) ⟨(Grew.refl y).drew, fun h => (by cases h)⟩ (fun _ _ _ h => h.1) Grew.refl (fun L f u u' h g => ⟨h.1.trans g, fun hl => (h.2 hl).elim fun x hx => hx.elim fun z hz => ⟨x, z, hz.grew g⟩⟩) ?_
      repeat (first
    | (refine wpMix_loose (by rfl) (by rfl) ?_)
    | (refine wpMix_plain (by rfl) (by rfl) (by rfl) (by first | exact Grew.refl | exact fun _ => rfl) (by rfl) ?_; intro K hK; go_big_quiet_op; go_big_quiet_on)
    | (refine wpMix_call (by rfl) (by rfl) (by rfl) (by rfl) (fun _ => by kernel_rfl) (fun u hu => HJ.out u) ?_; simp only [Act.put, List.setIfInBounds_toArray, List.set_cons_zero, List.set_cons_succ])
    | (refine wpMix_skip (by rfl) (by rfl) (by rfl) ?_; simp only [Act.put, List.setIfInBounds_toArray, List.set_cons_zero, List.set_cons_succ]))
      refine wpMix_nil ⟨⟨loose_of rfl (fun _ a => a) (fun _ _ => rfl) (fun _ => rfl) ?_, loose_of rfl (fun f a => a.put (some 8) (f 20)) (fun _ _ => rfl) (fun _ => rfl) ?_, trivial⟩, ?_⟩
      · intro L f u hJ hL hd
        clear C0 Q3 Q4 P3 P4 HJ
        go_simp
        exact ⟨hJ.1.alloc _, _, _, by rw [updV_same]; exact Fr2.of_alloc hJ.1.size _ _ _⟩
      · intro L f u hJ hL hd
        clear C0 Q3 Q4 P3 P4 HJ
        obtain ⟨x, z, m, hm, hN, d0, d1, f0, f1⟩ := hJ.2 (hd 20 rfl (by decide))
        rw [hm]
        go_simp
        obtain ⟨g1, g2⟩ := fr2_store hJ.1 hN d0 d1 f0 f1 (.string jv1) (.string jv2)
        exact ⟨g1, fun _ => ⟨_, _, by rw [updV_ne (by decide), hm]; exact g2⟩⟩
      · intro f u hJ
        obtain ⟨hGu, hF⟩ := hJ
        have HGU := hid (HGW.out.trans hGu)
        clear hF hGu
        dsimp only [List.drop]
        go_wp2_with fail
        go_ret
        exact ⟨ret_bool ((HC5.out _).2 (by rw [Bool.eq_iff_iff]; simp)), HGU.out⟩
    have HC6 : Hid (false = rb) := (HC2.out _).2 (by rw [if_neg k2, if_neg k3, if_neg k4])
    have e2 : (kind == 2) = false := beq_eq_false_iff_ne.2 k2
    have e3 : (kind == 3) = false := beq_eq_false_iff_ne.2 k3
    have e4 : (kind == 4) = false := beq_eq_false_iff_ne.2 k4
    clear HC2 k2 k3 k4 HJJ
    go_wp2_with fail
    go_ret
    exact ⟨ret_bool HC6.out, HGW.out⟩
end Go.Proofs.YtajoihpjnnnkeaaDoor
