/- Ref21w, Cut21, Tab4, DelPair, TabD: one text. -/
import Derived.Test.YtbdagllflamabaaGreatDoorFinAuditApartQ17
import Derived.Test.YtbdagllflamabaaGreatDoorFinAuditApartQ20
import Derived.Test.YtbdagllflamabaaGreatDoorFinAuditApartQ2
import Derived.Test.YtbdagllflamabaaGreatDoorFinAuditApartQ3
import Derived.IntWalk
set_option linter.unusedVariables false
set_option linter.unusedSimpArgs false
namespace Go.Proofs.YtbdagllflamabaaGreatDoor
open Go.RowKit Go.Maps
attribute [local go_sem] Oper.semAt_some
structure RtIs (w : World) (G : Nat → Prop) (tb : Nat) (v : Value) (xs : List Pr) : Prop where
  c0 : w.cell? ⟨tb, 0, none⟩ = some v
  f0 : w.frozen? ⟨tb, 0, none⟩ = false
  row : w.ownsRow 0 42 3 v xs.length (prFlat xs)
  foot : G tb
  own : ∀ g, v.ownBlock = some g → G g ∧ g ≠ tb
  lt : ∀ j, G j → j < w.heap.size
def RtAt (w : World) (G : Nat → Prop) (tb : Nat) (xs : List Pr) : Prop := ∃ v, RtIs w G tb v xs
def RtTurn (w : World) (G : Nat → Prop) (tb : Nat) (xs : List Pr) (w' : World) : Prop := Only G w w' ∧ ∃ G', RtAt w' G' tb xs ∧ ∀ j, G' j → G j ∨ w.heap.size ≤ j
theorem RtIs.kept {w w' : World} {G S : Nat → Prop} {tb : Nat} {v : Value} {xs : List Pr} (h : RtIs w G tb v xs) (g : Only S w w') (hS : ∀ j, G j → ¬ S j) : RtIs w' G tb v xs where
  c0 := (g.cell (cell_lt h.c0) (hS _ h.foot) 0).trans h.c0
  f0 := (g.frozen (cell_lt h.c0) (hS _ h.foot) 0).trans h.f0
  row := ownsRow_kept h.row g fun b hb => hS b (h.own b hb).1
  foot := h.foot
  own := h.own
  lt := fun j hj => Nat.lt_of_lt_of_le (h.lt j hj) g.size
theorem RtAt.kept {w w' : World} {G S : Nat → Prop} {tb : Nat} {xs : List Pr} (h : RtAt w G tb xs) (g : Only S w w') (hS : ∀ j, G j → ¬ S j) : RtAt w' G tb xs := by obtain ⟨v, h⟩ := h; exact ⟨v, h.kept g hS⟩
theorem RtAt.grew {w w' : World} {G : Nat → Prop} {tb : Nat} {xs : List Pr} (h : RtAt w G tb xs) (g : Grew w w') : RtAt w' G tb xs := h.kept (g.only fun _ => False) (fun _ _ h => h)
theorem RtAt.lt {w : World} {G : Nat → Prop} {tb : Nat} {xs : List Pr} (h : RtAt w G tb xs) : ∀ j, G j → j < w.heap.size := by obtain ⟨v, h⟩ := h; exact h.lt
theorem RtIs.read {w : World} {G : Nat → Prop} {tb : Nat} {v : Value} {xs : List Pr} (h : RtIs w G tb v xs) : MTab w tb xs := by
  obtain ⟨a, cap, e, hA⟩ := pairsAt_of h.row
  exact ⟨a, cap, by rw [← e]; exact h.c0, hA⟩
theorem RtAt.read {w : World} {G : Nat → Prop} {tb : Nat} {xs : List Pr} (h : RtAt w G tb xs) : MTab w tb xs := by obtain ⟨v, h⟩ := h; exact h.read
theorem RtTurn.of_grew {w w' : World} {G : Nat → Prop} {tb : Nat} {xs : List Pr} (h : RtAt w G tb xs) (g : Grew w w') : RtTurn w G tb xs w' := ⟨g.only _, G, h.grew g, fun j hj => .inl hj⟩
theorem RtTurn.trans {w w1 w2 : World} {G G1 : Nat → Prop} {tb : Nat} {xs : List Pr} (g1 : Only G w w1) (hG : ∀ j, G1 j → G j ∨ w.heap.size ≤ j) (h : RtTurn w1 G1 tb xs w2) : RtTurn w G tb xs w2 := by
  obtain ⟨g2, G2, h2, h3⟩ := h
  refine ⟨g1.trans g2 hG, G2, h2, fun j hj => ?_⟩
  · rcases h3 j hj with h | h
    · exact hG j h
    · exact .inr (Nat.le_trans g1.size h)
theorem RtIs.store {w y : World} {G : Nat → Prop} {tb : Nat} {v v' : Value} {xs zs : List Pr} (h : RtIs w G tb v xs) (hO : Only G w y) (hc : ∃ u, y.cell? ⟨tb, 0, none⟩ = some u) (hf : y.frozen? ⟨tb, 0, none⟩ = false) (hr : y.ownsRow 0 42 3 v' zs.length (prFlat zs)) (ho : ∀ g, v'.ownBlock = some g → (G g ∨ w.heap.size ≤ g) ∧ g ≠ tb ∧ g < y.heap.size) : RtTurn w G tb zs (y.setCell ⟨tb, 0, none⟩ v') := by
  obtain ⟨u, hc⟩ := hc
  have hset : Only (fun j => j = tb) y (y.setCell ⟨tb, 0, none⟩ v') := Only.setCell y ⟨tb, 0, none⟩ _
  refine ⟨hO.then (hset.mono fun j (hj : j = tb) => .inl (by rw [hj]; exact h.foot)), fun j => G j ∨ v'.ownBlock = some j, ⟨v', by simp [go_sem, hc], by simp [go_sem, hf], ownsRow_kept hr hset fun b hb (e : b = tb) => (ho b hb).2.1 e, .inl h.foot, fun g hg => ⟨.inr hg, (ho g hg).2.1⟩, fun j hj => ?_⟩, fun j hj => ?_⟩
  · rcases hj with hj | hj
    · exact Nat.lt_of_lt_of_le (h.lt j hj) (Nat.le_trans hO.size hset.size)
    · exact Nat.lt_of_lt_of_le (ho j hj).2.2 hset.size
  · rcases hj with hj | hj
    · exact .inl hj
    · exact (ho j hj).1
structure JD (y : World) (A C : List Value) (k n : Nat) (L : Nat → Bool) (f : Nat → Value) (x : World) : Prop where
  grew : Grew y x
  o8 : L 8 = true → L 1 = true
  o16 : L 16 = true → L 8 = true
  r1 : L 1 = true → L 8 = false → x.ownsRow y.heap.size 42 3 (f 1) 0 []
  r8 : L 8 = true → L 16 = false → x.ownsRow y.heap.size 42 3 (f 8) k A
  r16 : L 16 = true → x.ownsRow y.heap.size 42 3 (f 16) n (A ++ C)
section
variable {y x x' : World} {A C : List Value} {k n : Nat} {L : Nat → Bool} {f : Nat → Value}
theorem JD.start (y : World) : JD y A C k n (fun _ => false) f y.drew :=
  ⟨(Grew.refl y).drew, (fun h => by cases h), (fun h => by cases h), (fun h => by cases h), (fun h => by cases h), (fun h => by cases h)⟩
theorem JD.s1 (h : JD y A C k n L f x) (hL : L 1 = false) : JD y A C k n (plus L 1) (updV f 1 (.slice (some ⟨x.heap.size, 0, none⟩) 0 0)) (x.alloc (.cells #[] 42)) := by
  have l8 : L 8 = false := bool_no fun h8 => by rw [h.o8 h8] at hL; cases hL
  have l16 : L 16 = false := bool_no fun h16 => by rw [h.o16 h16] at l8; cases l8
  refine ⟨h.grew.alloc _, fun _ => rfl, h.o16, fun _ _ => ?_, fun h8 => ?_, fun h16 => ?_⟩
  · exact ⟨rfl, .inr ⟨x.heap.size, 0, #[], rfl, h.grew.size, heap_alloc_new x _, Nat.le_refl _, Nat.zero_le _, rfl, rfl⟩⟩
  · change L 8 = true at h8; rw [l8] at h8; cases h8
  · change L 16 = true at h16; rw [l16] at h16; cases h16
end
def Pl.put21 (xs : List Pr) (p : Pr) : List Pr := if Pl.putN p = 0 then xs.eraseP (Pl.isK p.key) ++ [p] else xs
end Go.Proofs.YtbdagllflamabaaGreatDoor
namespace Go.Proofs.YtbdagllflamabaaGreatDoor
open Go.RowKit Go.Maps
attribute [local go_sem] Oper.semAt_some
def Pl.cutB (key : ByteArray) (p : Pr) : Bool := Pl.right key && !(Op.bytesLess p.key.toList key.toList)
structure CutIs (w wr : World) (ab bb : Nat) (ys zs : List Pr) : Prop where
  ex : ∃ Ga Gb, RtAt wr Ga ab ys ∧ RtAt wr Gb bb zs ∧ (∀ j, Ga j → w.heap.size ≤ j ∧ ¬ Gb j) ∧ (∀ j, Gb j → w.heap.size ≤ j)
end Go.Proofs.YtbdagllflamabaaGreatDoor
namespace Go.Proofs.YtbdagllflamabaaGreatDoor
open Go.RowKit Go.Maps
attribute [local go_sem] Oper.semAt_some
theorem putT_any {S : Nat → Bool} (hS : TabS S) (E : Nat → Addr) {w : World} (hE : Errs S E w) {F : Nat → Prop} {tb : Nat} {xs : List Pr} (h : TabAt w F tb xs) (hx : xs.length ≤ 1000000) (key val : ByteArray) (v : Int) (hy : key.size ≤ 70368744177664) (hv : val.size ≤ 140737488351232) :
    Calls Tryz.prog 68 #[.pointer (some ⟨tb, 0, none⟩), .string key, .string val, .int .i64 v] w fun e w' => e = .returned (errOf E (Pl.putN ⟨key, val, v⟩)) ∧ TabTurn w F tb (Pl.putT xs ⟨key, val, v⟩) w' := by
  by_cases hn : Pl.putN ⟨key, val, v⟩ = 0
  · have e : Pl.putT xs ⟨key, val, v⟩ = Pl.tput xs ⟨key, val, v⟩ := by unfold Pl.putT; rw [if_pos hn]
    rw [hn, e]
    cases hb : Pl.hasB xs key with
    | true => exact putT_over hS E hE h hx key val v hy hv hn hb
    | false => exact putT_new hS E hE h hx key val v hy hv hn hb
  · have e : Pl.putT xs ⟨key, val, v⟩ = xs := by unfold Pl.putT; rw [if_neg hn]
    rw [e]
    exact (putT_err hS E hE tb key val v hy hv hn).mono fun e w' ⟨he, hg⟩ => ⟨he, TabTurn.of_grew h hg⟩
set_option maxRecDepth 100000 in
set_option maxHeartbeats 4000000 in
theorem scanT_any {S : Nat → Bool} (hS : TabS S) (E : Nat → Addr) {w : World} (hE : Errs S E w) {F : Nat → Prop} {tb : Nat} {xs : List Pr} (h : TabAt w F tb xs) (hx : xs.length ≤ 1000000) (lo hi : ByteArray) (limit : Int) (hlo : lo.size ≤ 70368744177664) (hhi : hi.size ≤ 70368744177664) :
    Calls Tryz.prog 47 #[.pointer (some ⟨tb, 0, none⟩), .agg #[.string lo, .string hi], .int .i64 limit] w fun e w' => (∃ v, e = .returned v ∧ w'.ownsRow w.heap.size 42 3 v (Pl.scanT xs lo hi limit).length (prFlat (Pl.scanT xs lo hi limit))) ∧ Grew w w' := by
  have HE := hid hE
  obtain ⟨vv, h⟩ := h
  obtain ⟨a, cap, rfl, hA⟩ := pairsAt_of h.row
  have c0 := h.cell
  have htb : tb < w.heap.size := cell_lt c0
  have HS := hid h.szAt
  have HA := hid hA
  obtain ⟨i0, hi0, hz0, hz1, hz2⟩ := info_parts infoPair
  clear hE h hA
  go_enter Tryz.func47, Tryz.ntmps47
  go_wp2_with fail
  go_loopw [7, 15] (fun v i wr => ∃ (k m : Nat) (ys : List Pr) (a2 : Option Addr) (cap2 : Nat), k ≤ xs.length ∧ v = .slice a2 m cap2 ∧ i = .int .i64 k ∧ Hid (ys = Pl.scanT (xs.take k) lo hi limit) ∧ Hid (m = ys.length) ∧ m ≤ k ∧ wr.ownsRow (w.heap.size + 1) 42 3 (.slice a2 m cap2) m (prFlat ys) ∧ Grew w wr ∧ wr.cell? ⟨w.heap.size, 0, none⟩ = some (.string lo) ∧ wr.cell? ⟨w.heap.size, 1, none⟩ = some (.string hi) ∧ w.heap.size < wr.heap.size) (fun _ i _ => xs.length - (intOf i).toNat)
  case atStart => exact ⟨0, 0, [], none, 0, Nat.zero_le _, rfl, rfl, by unfold Hid Pl.scanT; simp, by unfold Hid; rfl, Nat.zero_le _, World.ownsRow_nil _ _ _ _, (Grew.refl w).alloc _, by simp [go_sem], by simp [go_sem], by simp⟩
  case round =>
    obtain ⟨k, m, ys, a2, cap2, hk1, rfl, rfl, HY, HM, hmk, hown, hG, l0, l1, hzr⟩ := hrel
    by_cases hlt : k < xs.length
    · rcases HA.out with h0 | ⟨b, off, rfl, hb, hR⟩
      · rw [h0] at hlt; simp at hlt
      have q0 := (hG.cells.1 b (off + k * 3) hb).trans (hR.key k hlt)
      have q1 := (hG.cells.1 b (off + k * 3 + 1) hb).trans (hR.val k hlt)
      have q2 := (hG.cells.1 b (off + k * 3 + 2) hb).trans (hR.ver k hlt)
      have HN := hid (Pl.scan_snoc xs lo hi limit k hlt)
      have HHAS := hid (fun W (g : Grew w W) => has_span S E ⟨hS.h2, hS.h3, hS.h6, hS.h7⟩ lo hi (prAt xs k).key W hlo hhi (HS.out k hlt) (HE.out.grew g))
      clear hR
      generalize prAt xs k = c at *
      obtain ⟨ck, cv, cn⟩ := c
      dsimp only at *
      by_cases hlm : (m : Int) < limit
      · cases hb2 : Pl.hasS lo hi ck with
        | true =>
          have HN2 : Hid (ys ++ [⟨ck, cv, cn⟩] = Pl.scanT (xs.take (k + 1)) lo hi limit) := by
            unfold Hid; rw [HN.out, ← HY.out, if_pos ⟨by rw [← HM.out]; exact hlm, hb2⟩]
          rw [hb2] at HHAS
          have HR2 : Hid (prFlat ys ++ [.string ck, .string cv, .int .i64 cn] = prFlat (ys ++ [⟨ck, cv, cn⟩])) := by unfold Hid; rw [prFlat_append, prFlat_one]; rfl
          have HM2 : Hid (m + 1 = (ys ++ [(⟨ck, cv, cn⟩ : Pr)]).length) := by unfold Hid; rw [List.length_append, ← HM.out]; rfl
          clear hb2 HN
          go_wp2_with fail
          refine (HHAS.out _ (hG.alloc _)).mono ?_
          rintro e w1 ⟨rfl, hg1⟩
          have hG1 := (hG.alloc _).trans hg1
          have sz1 := hg1.size
          have o1 := (Grew.refl wr).alloc (.cells #[.string ck, .string cv, .int .i64 cn] 42) |>.trans hg1
          have l0' := (o1.cells.1 _ _ hzr).trans l0
          have l1' := (o1.cells.1 _ _ hzr).trans l1
          have k0 : w1.cell? ⟨wr.heap.size, 0, none⟩ = some (.string ck) := by rw [hg1.cells.1 _ _ (by simp)]; simp [go_sem]
          have k1 : w1.cell? ⟨wr.heap.size, 1, none⟩ = some (.string cv) := by rw [hg1.cells.1 _ _ (by simp)]; simp [go_sem]
          have k2 : w1.cell? ⟨wr.heap.size, 2, none⟩ = some (.int .i64 cn) := by rw [hg1.cells.1 _ _ (by simp)]; simp [go_sem]
          have hown1 := ownsRow_grew o1 hown
          have hz1' : w.heap.size < w1.heap.size := by have := o1.size; omega
          clear l0 l1 hown o1
          go_wp2_with (at_builtin; refine wpList_append_lies _ rfl _ _ 36 rfl (w.heap.size + 1) 42 i0 _ 3 40 Tryz.underlying36 hi0 hz0 hz1 hz2 rfl (by omega) _ m (prFlat ys) rfl (hown1.alloc _) ⟨w1.heap.size, 0, none⟩ 1 1 [.string ck, .string cv, .int .i64 cn] rfl rfl (World.news_of_block (cs := #[.string ck, .string cv, .int .i64 cn]) (t := 42) (fr := (0, 0)) (heap_alloc_new w1 _)) (by simp [Value.oneCell']) (by omega) (by unfold maxLen; omega) (by omega) ?_ _ rfl ?_)
          · simp; omega
          · intro g capg w2 hown2 hgrow hat hlt2
            have hS : ∀ j, some j = Value.ownBlock (.slice a2 m cap2) → w.heap.size + 1 ≤ j := fun j hj => (hown1.lt j hj.symm).1
            have o2 : Only (fun j => some j = Value.ownBlock (.slice a2 m cap2)) w1 w2 := (((Grew.refl w1).alloc _).only _).then (Only.of_grownBy hgrow)
            have hG2 : Grew w w2 := ((hG1.only _).then o2).grew (fun j hj => Nat.le_of_succ_le (hS j hj))
            have n1 : ¬ some w.heap.size = Value.ownBlock (.slice a2 m cap2) := fun e => by have := hS _ e; omega
            have l0'' := (o2.cell hz1' n1 0).trans l0'
            have l1'' := (o2.cell hz1' n1 1).trans l1'
            have hz2' : w.heap.size < w2.heap.size := Nat.lt_of_lt_of_le hz1' o2.size
            rw [HR2.out] at hown2
            clear o2 hgrow hat hown1 l0' l1' hS n1 k0 k1 k2 hG1 sz1 hz1'
            go_wp2_with fail
            go_roundw
            case rel => exact ⟨k + 1, m + 1, ys ++ [⟨ck, cv, cn⟩], _, capg, by omega, rfl, by go_num, HN2, HM2, by omega, hown2, hG2, l0'', l1'', hz2'⟩
            case measure => simp [intOf]; omega
        | false =>
          have HN2 : Hid (ys = Pl.scanT (xs.take (k + 1)) lo hi limit) := by
            unfold Hid; rw [HN.out, ← HY.out, if_neg (fun h => by rw [hb2] at h; cases h.2), List.append_nil]
          rw [hb2] at HHAS
          clear hb2 HN
          go_wp2_with fail
          refine (HHAS.out _ (hG.alloc _)).mono ?_
          rintro e w1 ⟨rfl, hg1⟩
          have hG1 := (hG.alloc _).trans hg1
          have o1 := (Grew.refl wr).alloc (.cells #[.string ck, .string cv, .int .i64 cn] 42) |>.trans hg1
          have l0' := (o1.cells.1 _ _ hzr).trans l0
          have l1' := (o1.cells.1 _ _ hzr).trans l1
          have hown1 := ownsRow_grew o1 hown
          have hz1' : w.heap.size < w1.heap.size := by have := o1.size; omega
          clear l0 l1 hown o1
          go_wp2_with fail
          go_roundw
          case rel => exact ⟨k + 1, m, ys, a2, cap2, by omega, rfl, by go_num, HN2, HM, by omega, hown1, hG1, l0', l1', hz1'⟩
          case measure => simp [intOf]; omega
      · have HN2 : Hid (ys = Pl.scanT (xs.take (k + 1)) lo hi limit) := by
          unfold Hid; rw [HN.out, ← HY.out, if_neg (fun h => hlm (by rw [HM.out]; exact h.1)), List.append_nil]
        have hown1 := ownsRow_grew ((Grew.refl wr).alloc (.cells #[.string ck, .string cv, .int .i64 cn] 42)) hown
        have hG1 := hG.alloc (.cells #[.string ck, .string cv, .int .i64 cn] 42)
        have o1 := (Grew.refl wr).alloc (.cells #[.string ck, .string cv, .int .i64 cn] 42)
        have l0' := (o1.cells.1 _ _ hzr).trans l0
        have l1' := (o1.cells.1 _ _ hzr).trans l1
        clear HN hown o1
        go_wp2_with fail
        go_roundw
        case rel => exact ⟨k + 1, m, ys, a2, cap2, by omega, rfl, by go_num, HN2, HM, by omega, hown1, hG1, l0', l1', by simp; omega⟩
        case measure => simp [intOf]; omega
    · obtain rfl : k = xs.length := by omega
      rw [List.take_length] at HY
      go_wp2_with fail
      go_ret
      exact ⟨⟨_, rfl, by rw [← HY.out, ← HM.out]; exact ownsRow_base (Nat.le_succ _) hown⟩, hG⟩
end Go.Proofs.YtbdagllflamabaaGreatDoor
namespace Go.Proofs.YtbdagllflamabaaGreatDoor
open Go.RowKit Go.Maps
attribute [local go_sem] Oper.semAt_some
theorem infoDPair : (Tryz.prog.info? 42).map (fun i => (i.zero, i.size, i.bytes)) = some (some (.agg #[.string ⟨#[]⟩, .string ⟨#[]⟩, .int .i64 0]), 3, 40) := by kernel_rfl
theorem zeroDPair (w : World) : (zeroValue 42).run Tryz.prog w = .ok (.agg #[.string ⟨#[]⟩, .string ⟨#[]⟩, .int .i64 0]) w := by kernel_rfl
theorem zcDPair : (Value.cells (.agg #[.string ⟨#[]⟩, .string ⟨#[]⟩, .int .i64 0])).size = 3 := by kernel_rfl
theorem zoDPair : ∀ v ∈ (Value.cells (.agg #[.string ⟨#[]⟩, .string ⟨#[]⟩, .int .i64 0])).toList, v.oneCell' = true := by
  have h : (Value.cells (.agg #[.string ⟨#[]⟩, .string ⟨#[]⟩, .int .i64 0])).toList.all (fun v => v.oneCell') = true := by kernel_rfl
  exact fun v hv => List.all_eq_true.1 h v hv
set_option maxRecDepth 100000 in
set_option maxHeartbeats 4000000 in
theorem delPair (w : World) (B q i : Nat) (a0 : Option Addr) (c0 : Nat) (xs : List Value) (h : w.ownsRow B 42 3 (.slice a0 (q + 1) c0) (q + 1) xs) (h1 : ∀ u ∈ xs, u.oneCell' = true) (hi : i ≤ q) (hbig : q ≤ 1000000) :
    Calls Tryz.prog 115 #[.slice a0 (q + 1) c0, .int .i64 i, .int .i64 ((i : Int) + 1)] w fun e w' => e = .returned (.slice a0 q c0) ∧ w'.ownsRow B 42 3 (.slice a0 q c0) q (xs.take (i * 3) ++ xs.drop ((i + 1) * 3)) ∧ w.grownBy w' (Value.ownBlock (.slice a0 (q + 1) c0)) := by
  obtain ⟨i0, hi0, hz0, hzs, hzb⟩ := info_parts infoDPair
  obtain ⟨b, c, cur, e, hBb, hb, hnc, hc, hcl, hx⟩ := ownsRow_block h (by omega)
  cases e
  subst hx
  obtain ⟨D, hD⟩ : ∃ D, D = (cur.take ((q + 1) * 3)).drop ((i + 1) * 3) := ⟨_, rfl⟩
  have hDl : D.length = (q - i) * 3 := by rw [hD]; simp; omega
  have hrun : ∀ ty a sc, (D ≠ [] → a = ⟨b, (i + 1) * 3, none⟩) → (Builtin.append_ #[36, 36] ty #[.slice (some ⟨b, 0, none⟩) i c0, .slice (some a) (q - i) sc]).run Tryz.prog w.drew = .ok (.slice (some ⟨b, 0, none⟩) q c0) (w.drew.setRow b (spl cur (i * 3) D).toArray) := fun ty a sc ha => by
    have h := run_append_room (P := Tryz.prog) w.drew 36 ty 42 i0 Tryz.underlying36 hi0 b i c0 cur.toArray hb a (q - i) sc D (by rw [hzs]; exact hDl)
      (fun j u hj => by
        have hne : D ≠ [] := fun e => by rw [e] at hj; cases hj
        rw [ha hne, Addr.add_lit]
        show w.cell? _ = _
        rw [cell_block hb]
        rw [hD, List.getElem?_drop, List.getElem?_take] at hj
        split at hj
        · exact hj
        · cases hj)
      (fun u hu => h1 u (by rw [hD] at hu; exact List.mem_of_mem_drop hu)) (by omega) (by rw [hzs, hDl]; simp; omega)
    rw [show i + (q - i) = q by omega, hzs] at h
    rw [h]
    simp [spl]
  obtain ⟨W1, hW1⟩ : ∃ W1, W1 = w.drew.setRow b (spl cur (i * 3) D).toArray := ⟨_, rfl⟩
  have hll : (spl cur (i * 3) D).length = c0 * 3 := by rw [spl_length _ _ _ (by rw [hDl]; omega), hcl]
  have hh1 : W1.heap[b]? = some (.cells (spl cur (i * 3) D).toArray 42 (0, 0)) := by rw [hW1]; exact setRow_heap w.drew b _ _ _ _ hb
  rw [← hW1] at hrun
  have hclr : ∀ ty sc, (Builtin.clear_ #[36] ty #[.slice (some ⟨b, q * 3, none⟩) 1 sc]).run Tryz.prog W1 = .ok (.tuple #[]) (W1.setRow b (spl (spl cur (i * 3) D) (q * 3) (Builtin.zeroCells (Value.cells (.agg #[.string ⟨#[]⟩, .string ⟨#[]⟩, .int .i64 0])) 1).toList).toArray) := fun ty sc =>
    run_clear_rowK W1 36 42 ty _ 3 Tryz.underlying36 zeroDPair zcDPair zoDPair b (q * 3) sc _ 42 hh1 (by rw [hll]; omega)
  obtain ⟨Z, hZ⟩ : ∃ Z, Z = (Builtin.zeroCells (Value.cells (.agg #[.string ⟨#[]⟩, .string ⟨#[]⟩, .int .i64 0])) 1).toList := ⟨_, rfl⟩
  have hZl : Z.length = 3 := by rw [hZ, Array.length_toList, size_zeroCells, zcDPair]
  rw [← hZ] at hclr
  obtain ⟨W2, hW2⟩ : ∃ W2, W2 = W1.setRow b (spl (spl cur (i * 3) D) (q * 3) Z).toArray := ⟨_, rfl⟩
  rw [← hW2] at hclr
  have HEND : Hid (W2.ownsRow B 42 3 (.slice (some ⟨b, 0, none⟩) q c0) q ((cur.take ((q + 1) * 3)).take (i * 3) ++ (cur.take ((q + 1) * 3)).drop ((i + 1) * 3)) ∧ w.grownBy W2 (some b)) := by
    refine ⟨ownsRow_of_block (cur := spl (spl cur (i * 3) D) (q * 3) Z) hBb (by rw [hW2]; exact setRow_heap _ _ _ _ _ _ hh1) (by omega) hc (by rw [spl_length _ _ _ (by rw [hZl, hll]; omega), hll]) ?_, ?_⟩
    · rw [spl_take_le _ _ _ _ (Nat.le_refl _) (by rw [hll]; omega), show q * 3 = i * 3 + D.length by rw [hDl]; omega, spl_take _ _ _ (by omega), hD, List.take_take]
      congr 2
      omega
    · have g1 : w.grownBy W1 (some b) := by rw [hW1]; exact (show w.grownBy w.drew (some b) from ⟨rfl, rfl, rfl, Nat.le_refl _, fun _ _ _ => rfl⟩).trans (grownBy_setRow w.drew b _)
      rw [hW2]; exact g1.trans (grownBy_setRow W1 b _)
  have HRUN := hid hrun
  have hDn : c0 = i + 1 → D = [] := fun e => List.eq_nil_of_length_eq_zero (by rw [hDl]; omega)
  have HDN := hid hDn
  have z1 : ((i : Int) == (i : Int) + 1) = false := beq_eq_false_iff_ne.2 (by omega)
  have z2 : (0 : Int) ≤ (i : Int) + 1 := by omega
  have z3 : ((i : Int) + 1).toNat = i + 1 := by omega
  have z4 : (i : Int) + 1 ≤ (q : Int) + 1 := by omega
  have z5 : (i : Int) ≤ (i : Int) + 1 := by omega
  have z6 : q + 1 ≤ c0 := hnc
  have z7 : ¬ (c0 = q) := by omega
  have z8 : ¬ (c0 = i) := by omega
  have z9 : (i : Int) ≤ (c0 : Int) := by omega
  have z10 : i ≤ q + 1 := by omega
  have z11 : i ≤ c0 := by omega
  have z12 : ¬ ((i : Int) = (i : Int) + 1) := by omega
  clear hrun hDn hDl hD hW1 hll hh1 hZ hZl hW2 hb hcl h h1 hnc
  by_cases hci : c0 = i + 1
  · obtain rfl : i = q := by omega
    subst hci
    have hr0 : ∀ ty sc, (Builtin.append_ #[36, 36] ty #[.slice (some ⟨b, 0, none⟩) i (i + 1), .slice (some ⟨b, 0, none⟩) 0 sc]).run Tryz.prog w.drew = .ok (.slice (some ⟨b, 0, none⟩) i (i + 1)) W1 := fun ty sc => by
      have := HRUN.out ty ⟨b, 0, none⟩ sc (fun hne => absurd (HDN.out rfl) hne)
      rwa [Nat.sub_self] at this
    clear HRUN HDN
    go_enter Tryz.func115, Tryz.ntmps115
    go_wp2_with fail
    go_region_law (refine step_append_run rfl (.tmp 22) (.tmp 25) 36 36 rfl (.slice (some ⟨b, 0, none⟩) i (i + 1)) (.slice (some ⟨b, 0, none⟩) 0 0) (by simp [Act.eval, Act.put]) (by simp [Act.eval, Act.put]) (hr0 _ _) ?_)
    go_wp2_with fail
    go_ret
    exact ⟨rfl, HEND.out⟩
  · have hr0 : ∀ ty sc, (Builtin.append_ #[36, 36] ty #[.slice (some ⟨b, 0, none⟩) i c0, .slice (some ⟨b, (i + 1) * 3, none⟩) (q - i) sc]).run Tryz.prog w.drew = .ok (.slice (some ⟨b, 0, none⟩) q c0) W1 := fun ty sc => HRUN.out ty ⟨b, (i + 1) * 3, none⟩ sc (fun _ => rfl)
    clear HRUN HDN
    go_enter Tryz.func115, Tryz.ntmps115
    go_wp2_with fail
    go_region_law (refine step_append_run rfl (.tmp 22) (.tmp 25) 36 36 rfl (.slice (some ⟨b, 0, none⟩) i c0) (.slice (some ⟨b, (i + 1) * 3, none⟩) (q - i) (c0 - (i + 1))) (by simp [Act.eval, Act.put]) (by simp [Act.eval, Act.put]) (hr0 _ _) ?_)
    go_wp2_with fail
    go_ret
    exact ⟨rfl, HEND.out⟩
end Go.Proofs.YtbdagllflamabaaGreatDoor
namespace Go.Proofs.YtbdagllflamabaaGreatDoor
open Go.RowKit Go.Maps
attribute [local go_sem] Oper.semAt_some
theorem del_end {w W W2 : World} {F : Nat → Prop} {tb : Nat} {a : Option Addr} {n cap : Nat} {xs : List Pr} (h : TableIs w F tb (.slice a xs.length cap) xs) (gW : Grew w W) (k : ByteArray) (hk : Pl.keyN k = 0) (hb : Pl.hasB xs k = true) (hn : xs.length = n + 1)
    (hrow : W2.ownsRow 0 42 3 (.slice a n cap) n ((prFlat xs).take (Pl.pos xs k * 3) ++ (prFlat xs).drop ((Pl.pos xs k + 1) * 3))) (hgr : W.grownBy W2 (Value.ownBlock (.slice a (n + 1) cap))) :
    TabTurn w F tb (Pl.tdel xs k) (W2.setCell ⟨tb, 0, none⟩ (.slice a n cap)) := by
  have hpl := (Pl.hasB_key h.srt (Pl.ok_key hk) hb).1
  have e0 : Pl.tdel xs k = xs.take (Pl.pos xs k) ++ xs.drop (Pl.pos xs k + 1) := by unfold Pl.tdel; rw [if_pos ⟨hk, hb⟩]
  have hlen : (Pl.tdel xs k).length = n := by
    rw [e0]; simp only [List.length_append, List.length_take, List.length_drop]; omega
  have htb : tb < w.heap.size := cell_lt h.cell
  have hob : Value.ownBlock (.slice a (n + 1) cap) = Value.ownBlock (.slice a xs.length cap) := by cases a <;> rfl
  rw [hob] at hgr
  have hob2 : Value.ownBlock (.slice a n cap) = Value.ownBlock (.slice a xs.length cap) := by cases a <;> rfl
  have o1 : Only (fun j => some j = Value.ownBlock (.slice a xs.length cap)) w W2 := (gW.only _).then (Only.of_grownBy hgr)
  have htb2 : tb < W2.heap.size := Nat.lt_of_lt_of_le htb o1.size
  have hc2 : W2.cell? ⟨tb, 0, none⟩ = some (.slice a xs.length cap) := (o1.cell htb (fun e => (h.foot1 tb e.symm).2 rfl) 0).trans h.cell
  have hf2 : W2.frozen? ⟨tb, 0, none⟩ = false := (o1.frozen htb (fun e => (h.foot1 tb e.symm).2 rfl) 0).trans h.fz
  have o2 := Only.setCell W2 ⟨tb, 0, none⟩ (.slice a n cap)
  refine ⟨(o1.mono fun j hj => .inl (h.foot1 j hj.symm).1).then (o2.mono fun j hj => .inl (by subst hj; exact h.foot0)), F, ⟨.slice a n cap, ⟨?_, ?_, ?_, Pl.srt_del h.srt k, ?_, h.foot0, ?_, ?_⟩⟩, fun j => .inl⟩
  · simp [World.cell?_setCell_same, hc2]
  · rw [World.frozen?_setCell]; exact hf2
  · rw [hlen]
    have e : prFlat (Pl.tdel xs k) = (prFlat xs).take (Pl.pos xs k * 3) ++ (prFlat xs).drop ((Pl.pos xs k + 1) * 3) := by rw [e0, prFlat_append, prFlat_take, prFlat_drop]
    rw [e]
    refine ⟨hrow.1, ?_⟩
    rcases hrow.2 with h2 | ⟨b, c, cur, e1, h2, h3, h4⟩
    · exact .inl h2
    · refine .inr ⟨b, c, cur, e1, h2, (o2.block b (Array.getElem?_eq_some_iff.1 h3).1 ?_).trans h3, h4⟩
      have : Value.ownBlock (.slice a xs.length cap) = some b := by rw [← hob2, e1]; rfl
      exact (h.foot1 b this).2
  · intro c hc
    exact h.sz c ((Pl.mem_del h.srt k c).1 hc).1
  · intro g hg
    rw [hob2] at hg
    exact h.foot1 g hg
  · intro j hj
    exact Nat.lt_of_lt_of_le (h.lt j hj) (Nat.le_trans o1.size o2.size)
set_option maxRecDepth 100000 in
set_option maxHeartbeats 4000000 in
theorem delT_any {S : Nat → Bool} (hS : TabS S) (E : Nat → Addr) {w : World} (hE : Errs S E w) {F : Nat → Prop} {tb : Nat} {xs : List Pr} (h : TabAt w F tb xs) (hx : xs.length ≤ 1000000) (key : ByteArray) (hy : key.size ≤ 70368744177664) :
    Calls Tryz.prog 67 #[.pointer (some ⟨tb, 0, none⟩), .string key] w fun e w' => e = .returned (.bool (Pl.getT xs key).isSome) ∧ TabTurn w F tb (Pl.tdel xs key) w' := by
  have HE := hid hE
  have HT := hid h
  clear hE h
  by_cases hh : Pl.keyN key = 0 ∧ Pl.hasB xs key = true
  · have hg : (Pl.getT xs key).isSome = true := by unfold Pl.getT; rw [if_pos hh]; rfl
    have ha : Pl.atT xs key = ((Pl.pos xs key : Nat) : Int) := by unfold Pl.atT; rw [if_pos hh]
    have hR := hid (fun W (g : Grew w W) => atT_any hS E (HE.out.grew g) (HT.out.grew g) hx key hy)
    obtain ⟨vv, h⟩ := HT.out
    have hp := (Pl.hasB_key h.srt (Pl.ok_key hh.1) hh.2).1
    obtain ⟨a, cap, rfl, _⟩ := pairsAt_of h.row
    obtain ⟨n, hn⟩ : ∃ n, xs.length = n + 1 := ⟨xs.length - 1, by omega⟩
    have HO := hid (fun W W2 (gW : Grew w W) hrow hgr => del_end (W2 := W2) h gW key hh.1 hh.2 hn hrow hgr)
    have hfar : ∀ g, Value.ownBlock (.slice a (n + 1) cap) = some g → g < w.heap.size ∧ g ≠ tb := fun g hg => by
      have e : Value.ownBlock (.slice a xs.length cap) = some g := by rw [← hg]; cases a <;> rfl
      exact ⟨h.lt g (h.foot1 g e).1, (h.foot1 g e).2⟩
    have HFA := hid hfar
    have hrow0 := fun W (gW : Grew w W) => (h.grew gW).row
    have c0 := h.cell
    have f0 := h.fz
    rw [hn] at hrow0 c0
    have HD := hid (fun W (gW : Grew w W) => delPair W 0 n (Pl.pos xs key) a cap (prFlat xs) (hrow0 W gW) (prFlat_one' xs) (by omega) (by omega))
    have htb : tb < w.heap.size := cell_lt c0
    rw [hg]
    rw [ha] at hR
    clear hg ha hh hfar hrow0 h hn
    have hpB : Pl.pos xs key ≤ 1000000 := by omega
    generalize Pl.pos xs key = p at *
    have z1 : ¬ ((p : Int) < 0) := by omega
    have z2 : IntKind.i64.wrap ((p : Int) + 1) = (p : Int) + 1 := IntWalk.i64_in _ (by omega)
    go_enter Tryz.func67, Tryz.ntmps67
    go_wp2_with fail
    refine (hR.out _ (Grew.refl w)).mono ?_
    rintro e w1 ⟨rfl, hg1⟩
    have s1 := hg1.size
    have c0' := (hg1.cells.1 tb 0 htb).trans c0
    have f0' := (hg1.cells.2 tb 0 htb).trans f0
    clear c0 f0
    go_wp2_with fail
    refine (HD.out _ hg1).mono ?_
    rintro e w2 ⟨rfl, hrow, hgr⟩
    have HROW := hid hrow
    have HGR := hid hgr
    have n1 : ¬ some tb = Value.ownBlock (.slice a (n + 1) cap) := fun e => (HFA.out tb e.symm).2 rfl
    have d1 := ((Only.of_grownBy hgr).cell (show tb < w1.heap.size by omega) n1 0).trans c0'
    have d2 := ((Only.of_grownBy hgr).frozen (show tb < w1.heap.size by omega) n1 0).trans f0'
    clear hrow hgr n1 c0' f0'
    go_wp2_with fail
    go_ret
    exact ⟨rfl, HO.out _ _ hg1 HROW.out HGR.out⟩
  · have hg : (Pl.getT xs key).isSome = false := by unfold Pl.getT; rw [if_neg hh]; rfl
    have ha : Pl.atT xs key = -1 := by unfold Pl.atT; rw [if_neg hh]
    have hd : Pl.tdel xs key = xs := by unfold Pl.tdel; rw [if_neg hh]
    have hR := hid (fun W (g : Grew w W) => atT_any hS E (HE.out.grew g) (HT.out.grew g) hx key hy)
    rw [hg, hd]
    rw [ha] at hR
    clear hg ha hh hd
    go_enter Tryz.func67, Tryz.ntmps67
    go_wp2_with fail
    refine (hR.out _ (Grew.refl w)).mono ?_
    rintro e w1 ⟨rfl, hg1⟩
    go_wp2_with fail
    go_ret
    exact ⟨rfl, TabTurn.of_grew HT.out hg1⟩
end Go.Proofs.YtbdagllflamabaaGreatDoor
