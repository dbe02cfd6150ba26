/- Ref21w, Cut21, Tab4, DelPair, TabD, TwT, PkT, BytT: one text. -/
import Derived.Test.YtbdagllflamabaaGreatDoorFinWatchSpansQ19
import Derived.Test.YtbdagllflamabaaGreatDoorFinWatchSpansQ21
import Derived.Test.YtbdagllflamabaaGreatDoorFinWatchSpansQ6
import Derived.Test.YtbdagllflamabaaGreatDoorFinWatchSpansQ3
import Derived.IntWalk
import Derived.Test.YtbdagllflamabaaGreatDoorFinWatchSpansQ18
set_option linter.unusedVariables false
set_option linter.unusedSimpArgs false
namespace Go.Proofs.YtbdagllflamabaaGreatDoor
open Go.RowKit Go.Maps
attribute [local go_sem] Oper.semAt_some
structure RtIs (w : World) (G : Nat → Prop) (tb : Nat) (v : Value) (xs : List Pr) : Prop where
  c0 : w.cell? ⟨tb, 0, none⟩ = some v
  f0 : w.frozen? ⟨tb, 0, none⟩ = false
  row : w.ownsRow 0 42 3 v xs.length (prFlat xs)
  foot : G tb
  own : ∀ g, v.ownBlock = some g → G g ∧ g ≠ tb
  lt : ∀ j, G j → j < w.heap.size
def RtAt (w : World) (G : Nat → Prop) (tb : Nat) (xs : List Pr) : Prop := ∃ v, RtIs w G tb v xs
def RtTurn (w : World) (G : Nat → Prop) (tb : Nat) (xs : List Pr) (w' : World) : Prop := Only G w w' ∧ ∃ G', RtAt w' G' tb xs ∧ ∀ j, G' j → G j ∨ w.heap.size ≤ j
theorem RtIs.kept {w w' : World} {G S : Nat → Prop} {tb : Nat} {v : Value} {xs : List Pr} (h : RtIs w G tb v xs) (g : Only S w w') (hS : ∀ j, G j → ¬ S j) : RtIs w' G tb v xs where
  c0 := (g.cell (cell_lt h.c0) (hS _ h.foot) 0).trans h.c0
  f0 := (g.frozen (cell_lt h.c0) (hS _ h.foot) 0).trans h.f0
  row := ownsRow_kept h.row g fun b hb => hS b (h.own b hb).1
  foot := h.foot
  own := h.own
  lt := fun j hj => Nat.lt_of_lt_of_le (h.lt j hj) g.size
theorem RtAt.kept {w w' : World} {G S : Nat → Prop} {tb : Nat} {xs : List Pr} (h : RtAt w G tb xs) (g : Only S w w') (hS : ∀ j, G j → ¬ S j) : RtAt w' G tb xs := by obtain ⟨v, h⟩ := h; exact ⟨v, h.kept g hS⟩
theorem RtAt.grew {w w' : World} {G : Nat → Prop} {tb : Nat} {xs : List Pr} (h : RtAt w G tb xs) (g : Grew w w') : RtAt w' G tb xs := h.kept (g.only fun _ => False) (fun _ _ h => h)
theorem RtAt.lt {w : World} {G : Nat → Prop} {tb : Nat} {xs : List Pr} (h : RtAt w G tb xs) : ∀ j, G j → j < w.heap.size := by obtain ⟨v, h⟩ := h; exact h.lt
theorem RtIs.read {w : World} {G : Nat → Prop} {tb : Nat} {v : Value} {xs : List Pr} (h : RtIs w G tb v xs) : MTab w tb xs := by
  obtain ⟨a, cap, e, hA⟩ := pairsAt_of h.row
  exact ⟨a, cap, by rw [← e]; exact h.c0, hA⟩
theorem RtAt.read {w : World} {G : Nat → Prop} {tb : Nat} {xs : List Pr} (h : RtAt w G tb xs) : MTab w tb xs := by obtain ⟨v, h⟩ := h; exact h.read
theorem RtTurn.of_grew {w w' : World} {G : Nat → Prop} {tb : Nat} {xs : List Pr} (h : RtAt w G tb xs) (g : Grew w w') : RtTurn w G tb xs w' := ⟨g.only _, G, h.grew g, fun j hj => .inl hj⟩
theorem RtTurn.trans {w w1 w2 : World} {G G1 : Nat → Prop} {tb : Nat} {xs : List Pr} (g1 : Only G w w1) (hG : ∀ j, G1 j → G j ∨ w.heap.size ≤ j) (h : RtTurn w1 G1 tb xs w2) : RtTurn w G tb xs w2 := by
  obtain ⟨g2, G2, h2, h3⟩ := h
  refine ⟨g1.trans g2 hG, G2, h2, fun j hj => ?_⟩
  · rcases h3 j hj with h | h
    · exact hG j h
    · exact .inr (Nat.le_trans g1.size h)
theorem RtIs.store {w y : World} {G : Nat → Prop} {tb : Nat} {v v' : Value} {xs zs : List Pr} (h : RtIs w G tb v xs) (hO : Only G w y) (hc : ∃ u, y.cell? ⟨tb, 0, none⟩ = some u) (hf : y.frozen? ⟨tb, 0, none⟩ = false) (hr : y.ownsRow 0 42 3 v' zs.length (prFlat zs)) (ho : ∀ g, v'.ownBlock = some g → (G g ∨ w.heap.size ≤ g) ∧ g ≠ tb ∧ g < y.heap.size) : RtTurn w G tb zs (y.setCell ⟨tb, 0, none⟩ v') := by
  obtain ⟨u, hc⟩ := hc
  have hset : Only (fun j => j = tb) y (y.setCell ⟨tb, 0, none⟩ v') := Only.setCell y ⟨tb, 0, none⟩ _
  refine ⟨hO.then (hset.mono fun j (hj : j = tb) => .inl (by rw [hj]; exact h.foot)), fun j => G j ∨ v'.ownBlock = some j, ⟨v', by simp [go_sem, hc], by simp [go_sem, hf], ownsRow_kept hr hset fun b hb (e : b = tb) => (ho b hb).2.1 e, .inl h.foot, fun g hg => ⟨.inr hg, (ho g hg).2.1⟩, fun j hj => ?_⟩, fun j hj => ?_⟩
  · rcases hj with hj | hj
    · exact Nat.lt_of_lt_of_le (h.lt j hj) (Nat.le_trans hO.size hset.size)
    · exact Nat.lt_of_lt_of_le (ho j hj).2.2 hset.size
  · rcases hj with hj | hj
    · exact .inl hj
    · exact (ho j hj).1
structure JD (y : World) (A C : List Value) (k n : Nat) (L : Nat → Bool) (f : Nat → Value) (x : World) : Prop where
  grew : Grew y x
  o8 : L 8 = true → L 1 = true
  o16 : L 16 = true → L 8 = true
  r1 : L 1 = true → L 8 = false → x.ownsRow y.heap.size 42 3 (f 1) 0 []
  r8 : L 8 = true → L 16 = false → x.ownsRow y.heap.size 42 3 (f 8) k A
  r16 : L 16 = true → x.ownsRow y.heap.size 42 3 (f 16) n (A ++ C)
section
variable {y x x' : World} {A C : List Value} {k n : Nat} {L : Nat → Bool} {f : Nat → Value}
theorem JD.start (y : World) : JD y A C k n (fun _ => false) f y.drew :=
  ⟨(Grew.refl y).drew, (fun h => by cases h), (fun h => by cases h), (fun h => by cases h), (fun h => by cases h), (fun h => by cases h)⟩
theorem JD.s1 (h : JD y A C k n L f x) (hL : L 1 = false) : JD y A C k n (plus L 1) (updV f 1 (.slice (some ⟨x.heap.size, 0, none⟩) 0 0)) (x.alloc (.cells #[] 42)) := by
  have l8 : L 8 = false := bool_no fun h8 => by rw [h.o8 h8] at hL; cases hL
  have l16 : L 16 = false := bool_no fun h16 => by rw [h.o16 h16] at l8; cases l8
  refine ⟨h.grew.alloc _, fun _ => rfl, h.o16, fun _ _ => ?_, fun h8 => ?_, fun h16 => ?_⟩
  · exact ⟨rfl, .inr ⟨x.heap.size, 0, #[], rfl, h.grew.size, heap_alloc_new x _, Nat.le_refl _, Nat.zero_le _, rfl, rfl⟩⟩
  · change L 8 = true at h8; rw [l8] at h8; cases h8
  · change L 16 = true at h16; rw [l16] at h16; cases h16
theorem JD.s8 (h : JD y A C k n L f x) (hL : L 8 = false) (h1 : L 1 = true) {r : Value} (hrow : x'.ownsRow y.heap.size 42 3 r k A) (hg : x.grownBy x' (f 1).ownBlock) : JD y A C k n (plus L 8) (updV f 8 r) x' := by
  have l16 : L 16 = false := bool_no fun h16 => by rw [h.o16 h16] at hL; cases hL
  have hr1 := h.r1 h1 hL
  have hG : Grew y x' := ((h.grew.only _).then (Only.of_grownBy hg)).grew fun j hj => (hr1.lt j hj.symm).1
  refine ⟨hG, fun _ => h1, fun h16 => ?_, (fun _ h8 => by cases h8), fun _ _ => hrow, fun h16 => ?_⟩
  · change L 16 = true at h16; rw [l16] at h16; cases h16
  · change L 16 = true at h16; rw [l16] at h16; cases h16
end
def Pl.put21 (xs : List Pr) (p : Pr) : List Pr := if Pl.putN p = 0 then xs.eraseP (Pl.isK p.key) ++ [p] else xs
end Go.Proofs.YtbdagllflamabaaGreatDoor
namespace Go.Proofs.YtbdagllflamabaaGreatDoor
open Go.RowKit Go.Maps
attribute [local go_sem] Oper.semAt_some
def Pl.cutB (key : ByteArray) (p : Pr) : Bool := Pl.right key && !(Op.bytesLess p.key.toList key.toList)
structure CutIs (w wr : World) (ab bb : Nat) (ys zs : List Pr) : Prop where
  ex : ∃ Ga Gb, RtAt wr Ga ab ys ∧ RtAt wr Gb bb zs ∧ (∀ j, Ga j → w.heap.size ≤ j ∧ ¬ Gb j) ∧ (∀ j, Gb j → w.heap.size ≤ j)
end Go.Proofs.YtbdagllflamabaaGreatDoor
namespace Go.Proofs.YtbdagllflamabaaGreatDoor
open Go.RowKit Go.Maps
attribute [local go_sem] Oper.semAt_some
theorem putT_any {S : Nat → Bool} (hS : TabS S) (E : Nat → Addr) {w : World} (hE : Errs S E w) {F : Nat → Prop} {tb : Nat} {xs : List Pr} (h : TabAt w F tb xs) (hx : xs.length ≤ 1000000) (key val : ByteArray) (v : Int) (hy : key.size ≤ 70368744177664) (hv : val.size ≤ 140737488351232) :
    Calls Tryz.prog 68 #[.pointer (some ⟨tb, 0, none⟩), .string key, .string val, .int .i64 v] w fun e w' => e = .returned (errOf E (Pl.putN ⟨key, val, v⟩)) ∧ TabTurn w F tb (Pl.putT xs ⟨key, val, v⟩) w' := by
  by_cases hn : Pl.putN ⟨key, val, v⟩ = 0
  · have e : Pl.putT xs ⟨key, val, v⟩ = Pl.tput xs ⟨key, val, v⟩ := by unfold Pl.putT; rw [if_pos hn]
    rw [hn, e]
    cases hb : Pl.hasB xs key with
    | true => exact putT_over hS E hE h hx key val v hy hv hn hb
    | false => exact putT_new hS E hE h hx key val v hy hv hn hb
  · have e : Pl.putT xs ⟨key, val, v⟩ = xs := by unfold Pl.putT; rw [if_neg hn]
    rw [e]
    exact (putT_err hS E hE tb key val v hy hv hn).mono fun e w' ⟨he, hg⟩ => ⟨he, TabTurn.of_grew h hg⟩
end Go.Proofs.YtbdagllflamabaaGreatDoor
namespace Go.Proofs.YtbdagllflamabaaGreatDoor
open Go.RowKit Go.Maps
attribute [local go_sem] Oper.semAt_some
theorem infoDPair : (Tryz.prog.info? 42).map (fun i => (i.zero, i.size, i.bytes)) = some (some (.agg #[.string ⟨#[]⟩, .string ⟨#[]⟩, .int .i64 0]), 3, 40) := by kernel_rfl
theorem zeroDPair (w : World) : (zeroValue 42).run Tryz.prog w = .ok (.agg #[.string ⟨#[]⟩, .string ⟨#[]⟩, .int .i64 0]) w := by kernel_rfl
theorem zcDPair : (Value.cells (.agg #[.string ⟨#[]⟩, .string ⟨#[]⟩, .int .i64 0])).size = 3 := by kernel_rfl
theorem zoDPair : ∀ v ∈ (Value.cells (.agg #[.string ⟨#[]⟩, .string ⟨#[]⟩, .int .i64 0])).toList, v.oneCell' = true := by
  have h : (Value.cells (.agg #[.string ⟨#[]⟩, .string ⟨#[]⟩, .int .i64 0])).toList.all (fun v => v.oneCell') = true := by kernel_rfl
  exact fun v hv => List.all_eq_true.1 h v hv
set_option maxRecDepth 100000 in
set_option maxHeartbeats 4000000 in
theorem delPair (w : World) (B q i : Nat) (a0 : Option Addr) (c0 : Nat) (xs : List Value) (h : w.ownsRow B 42 3 (.slice a0 (q + 1) c0) (q + 1) xs) (h1 : ∀ u ∈ xs, u.oneCell' = true) (hi : i ≤ q) (hbig : q ≤ 1000000) :
    Calls Tryz.prog 115 #[.slice a0 (q + 1) c0, .int .i64 i, .int .i64 ((i : Int) + 1)] w fun e w' => e = .returned (.slice a0 q c0) ∧ w'.ownsRow B 42 3 (.slice a0 q c0) q (xs.take (i * 3) ++ xs.drop ((i + 1) * 3)) ∧ w.grownBy w' (Value.ownBlock (.slice a0 (q + 1) c0)) := by
  obtain ⟨i0, hi0, hz0, hzs, hzb⟩ := info_parts infoDPair
  obtain ⟨b, c, cur, e, hBb, hb, hnc, hc, hcl, hx⟩ := ownsRow_block h (by omega)
  cases e
  subst hx
  obtain ⟨D, hD⟩ : ∃ D, D = (cur.take ((q + 1) * 3)).drop ((i + 1) * 3) := ⟨_, rfl⟩
  have hDl : D.length = (q - i) * 3 := by rw [hD]; simp; omega
  have hrun : ∀ ty a sc, (D ≠ [] → a = ⟨b, (i + 1) * 3, none⟩) → (Builtin.append_ #[36, 36] ty #[.slice (some ⟨b, 0, none⟩) i c0, .slice (some a) (q - i) sc]).run Tryz.prog w.drew = .ok (.slice (some ⟨b, 0, none⟩) q c0) (w.drew.setRow b (spl cur (i * 3) D).toArray) := fun ty a sc ha => by
    have h := run_append_room (P := Tryz.prog) w.drew 36 ty 42 i0 Tryz.underlying36 hi0 b i c0 cur.toArray hb a (q - i) sc D (by rw [hzs]; exact hDl)
      (fun j u hj => by
        have hne : D ≠ [] := fun e => by rw [e] at hj; cases hj
        rw [ha hne, Addr.add_lit]
        show w.cell? _ = _
        rw [cell_block hb]
        rw [hD, List.getElem?_drop, List.getElem?_take] at hj
        split at hj
        · exact hj
        · cases hj)
      (fun u hu => h1 u (by rw [hD] at hu; exact List.mem_of_mem_drop hu)) (by omega) (by rw [hzs, hDl]; simp; omega)
    rw [show i + (q - i) = q by omega, hzs] at h
    rw [h]
    simp [spl]
  obtain ⟨W1, hW1⟩ : ∃ W1, W1 = w.drew.setRow b (spl cur (i * 3) D).toArray := ⟨_, rfl⟩
  have hll : (spl cur (i * 3) D).length = c0 * 3 := by rw [spl_length _ _ _ (by rw [hDl]; omega), hcl]
  have hh1 : W1.heap[b]? = some (.cells (spl cur (i * 3) D).toArray 42 (0, 0)) := by rw [hW1]; exact setRow_heap w.drew b _ _ _ _ hb
  rw [← hW1] at hrun
  have hclr : ∀ ty sc, (Builtin.clear_ #[36] ty #[.slice (some ⟨b, q * 3, none⟩) 1 sc]).run Tryz.prog W1 = .ok (.tuple #[]) (W1.setRow b (spl (spl cur (i * 3) D) (q * 3) (Builtin.zeroCells (Value.cells (.agg #[.string ⟨#[]⟩, .string ⟨#[]⟩, .int .i64 0])) 1).toList).toArray) := fun ty sc =>
    run_clear_rowK W1 36 42 ty _ 3 Tryz.underlying36 zeroDPair zcDPair zoDPair b (q * 3) sc _ 42 hh1 (by rw [hll]; omega)
  obtain ⟨Z, hZ⟩ : ∃ Z, Z = (Builtin.zeroCells (Value.cells (.agg #[.string ⟨#[]⟩, .string ⟨#[]⟩, .int .i64 0])) 1).toList := ⟨_, rfl⟩
  have hZl : Z.length = 3 := by rw [hZ, Array.length_toList, size_zeroCells, zcDPair]
  rw [← hZ] at hclr
  obtain ⟨W2, hW2⟩ : ∃ W2, W2 = W1.setRow b (spl (spl cur (i * 3) D) (q * 3) Z).toArray := ⟨_, rfl⟩
  rw [← hW2] at hclr
  have HEND : Hid (W2.ownsRow B 42 3 (.slice (some ⟨b, 0, none⟩) q c0) q ((cur.take ((q + 1) * 3)).take (i * 3) ++ (cur.take ((q + 1) * 3)).drop ((i + 1) * 3)) ∧ w.grownBy W2 (some b)) := by
    refine ⟨ownsRow_of_block (cur := spl (spl cur (i * 3) D) (q * 3) Z) hBb (by rw [hW2]; exact setRow_heap _ _ _ _ _ _ hh1) (by omega) hc (by rw [spl_length _ _ _ (by rw [hZl, hll]; omega), hll]) ?_, ?_⟩
    · rw [spl_take_le _ _ _ _ (Nat.le_refl _) (by rw [hll]; omega), show q * 3 = i * 3 + D.length by rw [hDl]; omega, spl_take _ _ _ (by omega), hD, List.take_take]
      congr 2
      omega
    · have g1 : w.grownBy W1 (some b) := by rw [hW1]; exact (show w.grownBy w.drew (some b) from ⟨rfl, rfl, rfl, Nat.le_refl _, fun _ _ _ => rfl⟩).trans (grownBy_setRow w.drew b _)
      rw [hW2]; exact g1.trans (grownBy_setRow W1 b _)
  have HRUN := hid hrun
  have hDn : c0 = i + 1 → D = [] := fun e => List.eq_nil_of_length_eq_zero (by rw [hDl]; omega)
  have HDN := hid hDn
  have z1 : ((i : Int) == (i : Int) + 1) = false := beq_eq_false_iff_ne.2 (by omega)
  have z2 : (0 : Int) ≤ (i : Int) + 1 := by omega
  have z3 : ((i : Int) + 1).toNat = i + 1 := by omega
  have z4 : (i : Int) + 1 ≤ (q : Int) + 1 := by omega
  have z5 : (i : Int) ≤ (i : Int) + 1 := by omega
  have z6 : q + 1 ≤ c0 := hnc
  have z7 : ¬ (c0 = q) := by omega
  have z8 : ¬ (c0 = i) := by omega
  have z9 : (i : Int) ≤ (c0 : Int) := by omega
  have z10 : i ≤ q + 1 := by omega
  have z11 : i ≤ c0 := by omega
  have z12 : ¬ ((i : Int) = (i : Int) + 1) := by omega
  clear hrun hDn hDl hD hW1 hll hh1 hZ hZl hW2 hb hcl h h1 hnc
  by_cases hci : c0 = i + 1
  · obtain rfl : i = q := by omega
    subst hci
    have hr0 : ∀ ty sc, (Builtin.append_ #[36, 36] ty #[.slice (some ⟨b, 0, none⟩) i (i + 1), .slice (some ⟨b, 0, none⟩) 0 sc]).run Tryz.prog w.drew = .ok (.slice (some ⟨b, 0, none⟩) i (i + 1)) W1 := fun ty sc => by
      have := HRUN.out ty ⟨b, 0, none⟩ sc (fun hne => absurd (HDN.out rfl) hne)
      rwa [Nat.sub_self] at this
    clear HRUN HDN
    go_enter Tryz.func115, Tryz.ntmps115
    go_wp2_with fail
    go_region_law (refine step_append_run rfl (.tmp 22) (.tmp 25) 36 36 rfl (.slice (some ⟨b, 0, none⟩) i (i + 1)) (.slice (some ⟨b, 0, none⟩) 0 0) (by simp [Act.eval, Act.put]) (by simp [Act.eval, Act.put]) (hr0 _ _) ?_)
    go_wp2_with fail
    go_ret
    exact ⟨rfl, HEND.out⟩
  · have hr0 : ∀ ty sc, (Builtin.append_ #[36, 36] ty #[.slice (some ⟨b, 0, none⟩) i c0, .slice (some ⟨b, (i + 1) * 3, none⟩) (q - i) sc]).run Tryz.prog w.drew = .ok (.slice (some ⟨b, 0, none⟩) q c0) W1 := fun ty sc => HRUN.out ty ⟨b, (i + 1) * 3, none⟩ sc (fun _ => rfl)
    clear HRUN HDN
    go_enter Tryz.func115, Tryz.ntmps115
    go_wp2_with fail
    go_region_law (refine step_append_run rfl (.tmp 22) (.tmp 25) 36 36 rfl (.slice (some ⟨b, 0, none⟩) i c0) (.slice (some ⟨b, (i + 1) * 3, none⟩) (q - i) (c0 - (i + 1))) (by simp [Act.eval, Act.put]) (by simp [Act.eval, Act.put]) (hr0 _ _) ?_)
    go_wp2_with fail
    go_ret
    exact ⟨rfl, HEND.out⟩
end Go.Proofs.YtbdagllflamabaaGreatDoor
namespace Go.Proofs.YtbdagllflamabaaGreatDoor
open Go.RowKit Go.Maps
attribute [local go_sem] Oper.semAt_some
theorem del_end {w W W2 : World} {F : Nat → Prop} {tb : Nat} {a : Option Addr} {n cap : Nat} {xs : List Pr} (h : TableIs w F tb (.slice a xs.length cap) xs) (gW : Grew w W) (k : ByteArray) (hk : Pl.keyN k = 0) (hb : Pl.hasB xs k = true) (hn : xs.length = n + 1)
    (hrow : W2.ownsRow 0 42 3 (.slice a n cap) n ((prFlat xs).take (Pl.pos xs k * 3) ++ (prFlat xs).drop ((Pl.pos xs k + 1) * 3))) (hgr : W.grownBy W2 (Value.ownBlock (.slice a (n + 1) cap))) :
    TabTurn w F tb (Pl.tdel xs k) (W2.setCell ⟨tb, 0, none⟩ (.slice a n cap)) := by
  have hpl := (Pl.hasB_key h.srt (Pl.ok_key hk) hb).1
  have e0 : Pl.tdel xs k = xs.take (Pl.pos xs k) ++ xs.drop (Pl.pos xs k + 1) := by unfold Pl.tdel; rw [if_pos ⟨hk, hb⟩]
  have hlen : (Pl.tdel xs k).length = n := by
    rw [e0]; simp only [List.length_append, List.length_take, List.length_drop]; omega
  have htb : tb < w.heap.size := cell_lt h.cell
  have hob : Value.ownBlock (.slice a (n + 1) cap) = Value.ownBlock (.slice a xs.length cap) := by cases a <;> rfl
  rw [hob] at hgr
  have hob2 : Value.ownBlock (.slice a n cap) = Value.ownBlock (.slice a xs.length cap) := by cases a <;> rfl
  have o1 : Only (fun j => some j = Value.ownBlock (.slice a xs.length cap)) w W2 := (gW.only _).then (Only.of_grownBy hgr)
  have htb2 : tb < W2.heap.size := Nat.lt_of_lt_of_le htb o1.size
  have hc2 : W2.cell? ⟨tb, 0, none⟩ = some (.slice a xs.length cap) := (o1.cell htb (fun e => (h.foot1 tb e.symm).2 rfl) 0).trans h.cell
  have hf2 : W2.frozen? ⟨tb, 0, none⟩ = false := (o1.frozen htb (fun e => (h.foot1 tb e.symm).2 rfl) 0).trans h.fz
  have o2 := Only.setCell W2 ⟨tb, 0, none⟩ (.slice a n cap)
  refine ⟨(o1.mono fun j hj => .inl (h.foot1 j hj.symm).1).then (o2.mono fun j hj => .inl (by subst hj; exact h.foot0)), F, ⟨.slice a n cap, ⟨?_, ?_, ?_, Pl.srt_del h.srt k, ?_, h.foot0, ?_, ?_⟩⟩, fun j => .inl⟩
  · simp [World.cell?_setCell_same, hc2]
  · rw [World.frozen?_setCell]; exact hf2
  · rw [hlen]
    have e : prFlat (Pl.tdel xs k) = (prFlat xs).take (Pl.pos xs k * 3) ++ (prFlat xs).drop ((Pl.pos xs k + 1) * 3) := by rw [e0, prFlat_append, prFlat_take, prFlat_drop]
    rw [e]
    refine ⟨hrow.1, ?_⟩
    rcases hrow.2 with h2 | ⟨b, c, cur, e1, h2, h3, h4⟩
    · exact .inl h2
    · refine .inr ⟨b, c, cur, e1, h2, (o2.block b (Array.getElem?_eq_some_iff.1 h3).1 ?_).trans h3, h4⟩
      have : Value.ownBlock (.slice a xs.length cap) = some b := by rw [← hob2, e1]; rfl
      exact (h.foot1 b this).2
  · intro c hc
    exact h.sz c ((Pl.mem_del h.srt k c).1 hc).1
  · intro g hg
    rw [hob2] at hg
    exact h.foot1 g hg
  · intro j hj
    exact Nat.lt_of_lt_of_le (h.lt j hj) (Nat.le_trans o1.size o2.size)
set_option maxRecDepth 100000 in
set_option maxHeartbeats 4000000 in
theorem delT_any {S : Nat → Bool} (hS : TabS S) (E : Nat → Addr) {w : World} (hE : Errs S E w) {F : Nat → Prop} {tb : Nat} {xs : List Pr} (h : TabAt w F tb xs) (hx : xs.length ≤ 1000000) (key : ByteArray) (hy : key.size ≤ 70368744177664) :
    Calls Tryz.prog 67 #[.pointer (some ⟨tb, 0, none⟩), .string key] w fun e w' => e = .returned (.bool (Pl.getT xs key).isSome) ∧ TabTurn w F tb (Pl.tdel xs key) w' := by
  have HE := hid hE
  have HT := hid h
  clear hE h
  by_cases hh : Pl.keyN key = 0 ∧ Pl.hasB xs key = true
  · have hg : (Pl.getT xs key).isSome = true := by unfold Pl.getT; rw [if_pos hh]; rfl
    have ha : Pl.atT xs key = ((Pl.pos xs key : Nat) : Int) := by unfold Pl.atT; rw [if_pos hh]
    have hR := hid (fun W (g : Grew w W) => atT_any hS E (HE.out.grew g) (HT.out.grew g) hx key hy)
    obtain ⟨vv, h⟩ := HT.out
    have hp := (Pl.hasB_key h.srt (Pl.ok_key hh.1) hh.2).1
    obtain ⟨a, cap, rfl, _⟩ := pairsAt_of h.row
    obtain ⟨n, hn⟩ : ∃ n, xs.length = n + 1 := ⟨xs.length - 1, by omega⟩
    have HO := hid (fun W W2 (gW : Grew w W) hrow hgr => del_end (W2 := W2) h gW key hh.1 hh.2 hn hrow hgr)
    have hfar : ∀ g, Value.ownBlock (.slice a (n + 1) cap) = some g → g < w.heap.size ∧ g ≠ tb := fun g hg => by
      have e : Value.ownBlock (.slice a xs.length cap) = some g := by rw [← hg]; cases a <;> rfl
      exact ⟨h.lt g (h.foot1 g e).1, (h.foot1 g e).2⟩
    have HFA := hid hfar
    have hrow0 := fun W (gW : Grew w W) => (h.grew gW).row
    have c0 := h.cell
    have f0 := h.fz
    rw [hn] at hrow0 c0
    have HD := hid (fun W (gW : Grew w W) => delPair W 0 n (Pl.pos xs key) a cap (prFlat xs) (hrow0 W gW) (prFlat_one' xs) (by omega) (by omega))
    have htb : tb < w.heap.size := cell_lt c0
    rw [hg]
    rw [ha] at hR
    clear hg ha hh hfar hrow0 h hn
    have hpB : Pl.pos xs key ≤ 1000000 := by omega
    generalize Pl.pos xs key = p at *
    have z1 : ¬ ((p : Int) < 0) := by omega
    have z2 : IntKind.i64.wrap ((p : Int) + 1) = (p : Int) + 1 := IntWalk.i64_in _ (by omega)
    go_enter Tryz.func67, Tryz.ntmps67
    go_wp2_with fail
    refine (hR.out _ (Grew.refl w)).mono ?_
    rintro e w1 ⟨rfl, hg1⟩
    have s1 := hg1.size
    have c0' := (hg1.cells.1 tb 0 htb).trans c0
    have f0' := (hg1.cells.2 tb 0 htb).trans f0
    clear c0 f0
    go_wp2_with fail
    refine (HD.out _ hg1).mono ?_
    rintro e w2 ⟨rfl, hrow, hgr⟩
    have HROW := hid hrow
    have HGR := hid hgr
    have n1 : ¬ some tb = Value.ownBlock (.slice a (n + 1) cap) := fun e => (HFA.out tb e.symm).2 rfl
    have d1 := ((Only.of_grownBy hgr).cell (show tb < w1.heap.size by omega) n1 0).trans c0'
    have d2 := ((Only.of_grownBy hgr).frozen (show tb < w1.heap.size by omega) n1 0).trans f0'
    clear hrow hgr n1 c0' f0'
    go_wp2_with fail
    go_ret
    exact ⟨rfl, HO.out _ _ hg1 HROW.out HGR.out⟩
  · have hg : (Pl.getT xs key).isSome = false := by unfold Pl.getT; rw [if_neg hh]; rfl
    have ha : Pl.atT xs key = -1 := by unfold Pl.atT; rw [if_neg hh]
    have hd : Pl.tdel xs key = xs := by unfold Pl.tdel; rw [if_neg hh]
    have hR := hid (fun W (g : Grew w W) => atT_any hS E (HE.out.grew g) (HT.out.grew g) hx key hy)
    rw [hg, hd]
    rw [ha] at hR
    clear hg ha hh hd
    go_enter Tryz.func67, Tryz.ntmps67
    go_wp2_with fail
    refine (hR.out _ (Grew.refl w)).mono ?_
    rintro e w1 ⟨rfl, hg1⟩
    go_wp2_with fail
    go_ret
    exact ⟨rfl, TabTurn.of_grew HT.out hg1⟩
end Go.Proofs.YtbdagllflamabaaGreatDoor
namespace Go.Proofs.YtbdagllflamabaaGreatDoor
namespace Pl
structure Tt (P D : List Pr) : Prop where
  srt : Srt P
  ap : D.Pairwise fun a b => a.key ≠ b.key
  mem : ∀ c, c ∈ D ↔ c ∈ P
theorem Tt.nil : Tt [] [] := ⟨srt_nil, by simp, fun c => Iff.rfl⟩
theorem cmp_self {k : ByteArray} : ¬ compare k k < 0 := fun h => compare_asymm h h
theorem srt_ap {P : List Pr} (h : Srt P) : P.Pairwise fun a b => a.key ≠ b.key := h.rise.imp fun {a b} hab e => by rw [e] at hab; exact cmp_self hab
theorem nodup_of_ap {D : List Pr} (h : D.Pairwise fun a b => a.key ≠ b.key) : D.Nodup := h.imp fun {a b} hab e => hab (by rw [e])
theorem Tt.perm {P D : List Pr} (h : Tt P D) : P.Perm D := (List.perm_ext_iff_of_nodup (nodup_of_ap (srt_ap h.srt)) (nodup_of_ap h.ap)).2 fun c => (h.mem c).symm
theorem Tt.len {P D : List Pr} (h : Tt P D) : P.length = D.length := h.perm.length_eq
theorem Tt.key {P D : List Pr} (h : Tt P D) : ∀ c ∈ D, keyN c.key = 0 := fun c hc => h.srt.key c ((h.mem c).1 hc)
theorem Tt.sorted {P D zs : List Pr} (h : Tt P D) (hp : zs.Perm D) (hs : Srt zs) : zs = P :=
  join_self h.srt (hp.trans h.perm.symm) (hs.rise.imp fun hab => compare_asymm hab)
theorem ap_erase {D : List Pr} (h : D.Pairwise fun a b => a.key ≠ b.key) (k : ByteArray) : (D.eraseP (isK k)).Pairwise fun a b => a.key ≠ b.key := h.sublist List.eraseP_sublist
theorem mem_erase {D : List Pr} (h : D.Pairwise fun a b => a.key ≠ b.key) (k : ByteArray) (c : Pr) : c ∈ D.eraseP (isK k) ↔ c ∈ D ∧ c.key ≠ k := by
  induction D with
  | nil => simp
  | cons d D ih =>
    rw [List.pairwise_cons] at h
    by_cases hd : isK k d = true
    · rw [List.eraseP_cons_of_pos hd]
      have hk := (isK_iff k d).1 hd
      constructor
      · intro hc
        exact ⟨List.mem_cons_of_mem _ hc, fun e => h.1 c hc (by rw [hk, e])⟩
      · rintro ⟨hc, hn⟩
        rcases List.mem_cons.1 hc with rfl | hc
        · exact (hn hk).elim
        · exact hc
    · rw [List.eraseP_cons_of_neg hd, List.mem_cons, ih h.2, List.mem_cons]
      have hk : d.key ≠ k := fun e => hd ((isK_iff k d).2 e)
      constructor
      · rintro (rfl | ⟨hc, hn⟩)
        · exact ⟨.inl rfl, hk⟩
        · exact ⟨.inr hc, hn⟩
      · rintro ⟨rfl | hc, hn⟩
        · exact .inl rfl
        · exact .inr ⟨hc, hn⟩
theorem Tt.del {P D : List Pr} (h : Tt P D) (k : ByteArray) : Tt (tdel P k) (D.eraseP (isK k)) :=
  ⟨srt_del h.srt k, ap_erase h.ap k, fun c => by rw [mem_erase h.ap, mem_del h.srt, h.mem]⟩
theorem Tt.put {P D : List Pr} (h : Tt P D) (p : Pr) : Tt (putT P p) (put21 D p) := by
  unfold putT put21
  by_cases hn : putN p = 0
  · rw [if_pos hn, if_pos hn]
    have hp := (putN_zero hn).1
    refine ⟨srt_put h.srt hp, ?_, fun c => ?_⟩
    · rw [List.pairwise_append]
      refine ⟨ap_erase h.ap _, by simp, fun a ha b hb => ?_⟩
      rw [List.mem_singleton] at hb
      subst hb
      exact ((mem_erase h.ap _ a).1 ha).2
    · rw [List.mem_append, List.mem_singleton, mem_erase h.ap, mem_put h.srt hp, h.mem]
      exact Or.comm
  · rw [if_neg hn, if_neg hn]; exact h
theorem find_key {D : List Pr} (h : D.Pairwise fun a b => a.key ≠ b.key) (k : ByteArray) (c : Pr) : D.find? (isK k) = some c ↔ c ∈ D ∧ c.key = k := by
  induction D with
  | nil => simp
  | cons d D ih =>
    rw [List.pairwise_cons] at h
    by_cases hd : isK k d = true
    · rw [List.find?_cons_of_pos hd, Option.some.injEq]
      have hk := (isK_iff k d).1 hd
      constructor
      · rintro rfl; exact ⟨List.mem_cons_self, hk⟩
      · rintro ⟨hc, hn⟩
        rcases List.mem_cons.1 hc with rfl | hc
        · rfl
        · exact (h.1 c hc (by rw [hk, hn])).elim
    · rw [List.find?_cons_of_neg hd, ih h.2, List.mem_cons]
      have hk : d.key ≠ k := fun e => hd ((isK_iff k d).2 e)
      constructor
      · rintro ⟨hc, hn⟩; exact ⟨.inr hc, hn⟩
      · rintro ⟨rfl | hc, hn⟩
        · exact (hk hn).elim
        · exact ⟨hc, hn⟩
theorem Tt.find {P D : List Pr} (h : Tt P D) (k : ByteArray) : P.find? (isK k) = D.find? (isK k) := by
  apply Option.ext
  intro c
  rw [find_key (srt_ap h.srt), find_key h.ap, h.mem]
theorem Tt.get {P D : List Pr} (h : Tt P D) (k : ByteArray) : getT P k = D.find? (isK k) := by
  cases hf : D.find? (isK k) with
  | some c =>
    obtain ⟨hc, rfl⟩ := (find_key h.ap k c).1 hf
    exact getT_mem h.srt ((h.mem c).1 hc)
  | none =>
    refine getT_none h.srt fun c hc e => ?_
    have := (find_key h.ap k c).2 ⟨(h.mem c).2 hc, e⟩
    rw [hf] at this
    cases this
theorem mem_take_pos {P : List Pr} (h : Srt P) {k : ByteArray} (hk : Ok k) (c : Pr) : c ∈ P.take (pos P k) ↔ c ∈ P ∧ compare c.key k < 0 := by
  constructor
  · intro hc
    exact ⟨List.mem_of_mem_take hc, take_pos h hk c hc⟩
  · rintro ⟨hc, hlt⟩
    obtain ⟨j, hj, rfl⟩ := List.getElem_of_mem hc
    have := (pos_iff hk h j hj).1 (by rw [prAt_eq P j hj]; exact hlt)
    rw [List.mem_take_iff_getElem]
    exact ⟨j, by omega, rfl⟩
theorem mem_drop_pos {P : List Pr} (h : Srt P) {k : ByteArray} (hk : Ok k) (c : Pr) : c ∈ P.drop (pos P k) ↔ c ∈ P ∧ ¬ compare c.key k < 0 := by
  constructor
  · intro hc
    obtain ⟨j, hj, rfl⟩ := List.mem_drop_iff_getElem.1 hc
    refine ⟨List.getElem_mem _, fun hlt => ?_⟩
    have := (pos_iff hk h (pos P k + j) (by omega)).1 (by rw [prAt_eq P _ (by omega)]; exact hlt)
    omega
  · rintro ⟨hc, hlt⟩
    obtain ⟨j, hj, rfl⟩ := List.getElem_of_mem hc
    have hge : ¬ j < pos P k := fun hh => hlt (by have := (pos_iff hk h j hj).2 hh; rwa [prAt_eq P j hj] at this)
    rw [List.mem_drop_iff_getElem]
    exact ⟨j - pos P k, by omega, by congr 1; omega⟩
theorem Tt.cut {P D : List Pr} (h : Tt P D) (k : ByteArray) : Tt (P.take (cutN P k)) (D.filter fun p => !cutB k p) ∧ Tt (P.drop (cutN P k)) (D.filter (cutB k)) := by
  by_cases hr : right k = true
  · have hk := right_ok hr
    have hc : ∀ c ∈ D, cutB k c = !decide (compare c.key k < 0) := fun c hc => by
      unfold cutB
      rw [hr, compare_lt c.key k (ok_key (h.key c hc)) hk]; rfl
    have hn : cutN P k = pos P k := by unfold cutN; rw [if_pos hr]
    rw [hn]
    refine ⟨⟨srt_take h.srt _, h.ap.sublist List.filter_sublist, fun c => ?_⟩, ⟨srt_drop h.srt _, h.ap.sublist List.filter_sublist, fun c => ?_⟩⟩
    · rw [List.mem_filter, mem_take_pos h.srt hk, ← h.mem]
      constructor
      · rintro ⟨h1, h2⟩; rw [hc c h1] at h2; exact ⟨h1, by simpa using h2⟩
      · rintro ⟨h1, h2⟩; exact ⟨h1, by rw [hc c h1]; simpa using h2⟩
    · rw [List.mem_filter, mem_drop_pos h.srt hk, ← h.mem]
      constructor
      · rintro ⟨h1, h2⟩; rw [hc c h1] at h2; exact ⟨h1, by simpa using h2⟩
      · rintro ⟨h1, h2⟩; exact ⟨h1, by rw [hc c h1]; simpa using h2⟩
  · have hr' : right k = false := by simpa using hr
    have hc : ∀ c, cutB k c = false := fun c => by unfold cutB; rw [hr']; rfl
    have hn : cutN P k = P.length := by unfold cutN; rw [if_neg hr]
    rw [hn, List.take_length, List.drop_length]
    have e1 : (D.filter fun p => !cutB k p) = D := List.filter_eq_self.2 fun c _ => by rw [hc]; rfl
    have e2 : D.filter (cutB k) = [] := List.filter_eq_nil_iff.2 fun c _ => by rw [hc]; simp
    rw [e1, e2]
    exact ⟨h, Tt.nil⟩
end Pl
end Go.Proofs.YtbdagllflamabaaGreatDoor
namespace Go.Proofs.YtbdagllflamabaaGreatDoor
namespace Pl
theorem enc_le4 (c : Nat) : (enc c).length ≤ 4 := by
  unfold enc
  repeat' split
  all_goals simp
theorem runes_cover : ∀ (n : Nat) (l : List UInt8) (r : List Nat), l.length ≤ n → runes l = some r → l.length ≤ 4 * r.length := by
  intro n
  induction n with
  | zero =>
    intro l r hl h
    omega
  | succ n ih =>
    intro l r hl h
    by_cases e : l = []
    · subst e; simp
    · rw [runes_step l e] at h
      cases hs : step1 l with
      | none => rw [hs] at h; cases h
      | some d =>
        rw [hs] at h
        simp only [Option.bind_some, Option.map_eq_some_iff] at h
        obtain ⟨t, ht, rfl⟩ := h
        obtain ⟨c, w⟩ := d
        have hp := step1_pos l e c w hs
        have h4 : w ≤ 4 := by have := (step1_enc l e c w hs).2.1; rw [this]; exact enc_le4 c
        have := ih (l.drop w) t (by simp; omega) ht
        simp at this ⊢
        omega
theorem key_size {k : ByteArray} (h : keyN k = 0) : k.size ≤ 96 := by
  unfold keyN at h
  split at h
  · cases h
  · next l hl =>
    have := runes_cover _ _ _ (Nat.le_refl _) hl
    have hs : k.size = k.data.toList.length := by rw [Array.length_toList]; rfl
    unfold keyL at h
    split at h
    · cases h
    · split at h
      · cases h
      · omega
def Good (P : List Pr) : Prop := ∀ c ∈ P, putN c = 0
theorem good_nil : Good [] := fun c h => by cases h
theorem Good.sub {P Q : List Pr} (h : Good P) (hs : Q.Sublist P) : Good Q := fun c hc => h c (hs.subset hc)
theorem Good.take {P : List Pr} (h : Good P) (k : Nat) : Good (P.take k) := h.sub (List.take_sublist k P)
theorem Good.drop {P : List Pr} (h : Good P) (k : Nat) : Good (P.drop k) := h.sub (List.drop_sublist k P)
theorem tdel_sub (P : List Pr) (k : ByteArray) : (tdel P k).Sublist P := by
  unfold tdel
  split
  · have h1 : (P.take (pos P k) ++ P.drop (pos P k + 1)).Sublist (P.take (pos P k) ++ P.drop (pos P k)) :=
      List.Sublist.append (List.Sublist.refl _) (by rw [← List.drop_drop]; exact List.drop_sublist 1 _)
    rwa [List.take_append_drop] at h1
  · exact List.Sublist.refl _
theorem Good.del {P : List Pr} (h : Good P) (k : ByteArray) : Good (tdel P k) := h.sub (tdel_sub P k)
theorem Good.put {P : List Pr} (h : Good P) (p : Pr) : Good (putT P p) := by
  unfold putT
  split
  · next hp =>
    intro c hc
    unfold tput at hc
    rw [List.mem_append, List.mem_append] at hc
    rcases hc with (hc | hc) | hc
    · exact h c (List.mem_of_mem_take hc)
    · rw [List.mem_singleton.1 hc]; exact hp
    · exact h c (List.mem_of_mem_drop hc)
  · exact h
theorem putT_len (P : List Pr) (p : Pr) : (putT P p).length ≤ P.length + 1 := by
  unfold putT; split
  · exact tput_length P p
  · omega
end Pl
end Go.Proofs.YtbdagllflamabaaGreatDoor
set_option linter.unusedSectionVars false
namespace Go.Proofs.YtbdagllflamabaaGreatDoor
open Go.RowKit Go.Maps
attribute [local go_sem] Oper.semAt_some
end Go.Proofs.YtbdagllflamabaaGreatDoor
