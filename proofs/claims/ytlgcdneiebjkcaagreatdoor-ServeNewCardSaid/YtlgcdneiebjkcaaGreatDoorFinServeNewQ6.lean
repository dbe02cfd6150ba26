/- ClB, RgnC, Dsk, DskR, UnP: one text. -/
import Derived.Test.YtlgcdneiebjkcaaGreatDoorFinServeNewQ5
import Derived.Test.YtlgcdneiebjkcaaGreatDoorFinServeNewQ3
import Derived.Test.YtlgcdneiebjkcaaGreatDoorFinServeNewQ4
import Derived.Deep.Upon
import Derived.Laws.MakeOwn
import Derived.RangeFuncNested
import Derived.RangeFuncBound
import Derived.RangeFuncCalls
import Derived.RangeFuncLeaves
import Derived.RangeFuncBox
import Derived.Shelf.Abstract
import Derived.Shelf.RegionOpen
import Derived.OwnWalkIn
import Derived.TacticsInMore
import Derived.LoopNIn
import Derived.LoopIn
set_option linter.unusedVariables false
set_option linter.unusedSectionVars false
set_option linter.unusedSimpArgs false
namespace Go.Proofs.YtlgcdneiebjkcaaGreatDoor
open Go.RowKit Go.Maps
attribute [local go_sem] Oper.semAt_some
theorem cloneB_any (w : World) (a : Option Addr) (n cap : Nat) (ns : List Int) (hn : n = ns.length) (hA : BytesAt w a ns) (hf : SlForm a cap) (hx : ns.length ≤ 1000000) :
    Calls Tryz.prog 58 #[.slice a n cap] w fun e w' => ∃ a' c', e = .returned (.slice a' n c') ∧ w'.ownsRow w.heap.size 5 1 (.slice a' n c') ns.length (u8Flat ns) ∧ Grew w w' := by
  subst hn
  rcases Nat.eq_zero_or_pos ns.length with h0 | h0
  · have e := List.eq_nil_of_length_eq_zero h0
    subst e
    rcases hf with ⟨rfl, rfl⟩ | ⟨b, off, rfl⟩
    · exact (cloneNilU8 w).mono fun e w' ⟨he, hg⟩ => ⟨_, _, he, World.ownsRow_nil _ _ _ _, hg⟩
    · exact (cloneZeroU8 w b off cap).mono fun e w' ⟨he, hr, hg⟩ => ⟨_, _, he, hr, hg⟩
  · rcases hA with h1 | ⟨b, off, rfl, hb, hR⟩
    · rw [h1] at h0; simp at h0
    · refine (cloneU8 w b off ns.length cap h0 hx (u8Flat ns) (by rw [u8Flat_length]; omega) (fun j u hj => ?_) (u8Flat_one ns)).mono fun e w' ⟨g, cap, he, hr, hg⟩ => ⟨_, _, he, hr, hg⟩
      unfold u8Flat at hj
      rw [List.getElem?_map] at hj
      cases hq : ns[j]? with
      | none => rw [hq] at hj; cases hj
      | some q => rw [hq] at hj; cases hj; exact hR j q hq
end Go.Proofs.YtlgcdneiebjkcaaGreatDoor
namespace Go.Proofs.YtlgcdneiebjkcaaGreatDoor
open Go.RowKit Go.Maps
structure JC (idx : List Nat) (M : Nat → (Nat → Value) → World → Prop) (L : Nat → Bool) (f : Nat → Value) (u : World) : Prop where
  ex : ∃ s, s ≤ idx.length ∧ (∀ j i, idx[j]? = some i → L i = decide (j < s)) ∧ M s f u
section
variable {idx : List Nat} {M : Nat → (Nat → Value) → World → Prop} {L : Nat → Bool} {f : Nat → Value} {u u' : World}
theorem JC.start (h : M 0 f u) : JC idx M (fun _ => false) f u := ⟨0, Nat.zero_le _, fun j i _ => by simp, h⟩
theorem JC.stage (h : JC idx M L f u) (j i : Nat) (hi : idx[j]? = some i) (hL : L i = false) (hp : ∀ k, j = k + 1 → ∃ i', idx[k]? = some i' ∧ L i' = true) : (∀ j' i', idx[j']? = some i' → L i' = decide (j' < j)) ∧ M j f u := by
  obtain ⟨s, hs, h1, h2⟩ := h.ex
  have e1 := h1 j i hi
  rw [hL] at e1
  have hsj : s ≤ j := by
    have := decide_eq_false_iff_not.1 e1.symm
    omega
  have hjs : j ≤ s := by
    cases j with
    | zero => exact Nat.zero_le _
    | succ k =>
      obtain ⟨i', hk, hLk⟩ := hp k rfl
      have e2 := h1 k i' hk
      rw [hLk] at e2
      have := decide_eq_true_iff.1 e2.symm
      omega
  obtain rfl : s = j := by omega
  exact ⟨h1, h2⟩
theorem JC.put (hn : idx.Nodup) (h : JC idx M L f u) (j i : Nat) (hi : idx[j]? = some i) (hL : L i = false) (hp : ∀ k, j = k + 1 → ∃ i', idx[k]? = some i' ∧ L i' = true) {v : Value} (hM : M (j + 1) (updV f i v) u') : JC idx M (plus L i) (updV f i v) u' := by
  obtain ⟨h1, _⟩ := h.stage j i hi hL hp
  obtain ⟨hj, hij⟩ := List.getElem?_eq_some_iff.1 hi
  refine ⟨j + 1, by omega, fun j' i' hi' => ?_, hM⟩
  by_cases e : i' = i
  · subst e
    obtain ⟨hj', hij'⟩ := List.getElem?_eq_some_iff.1 hi'
    have : j' = j := by
      rcases Nat.lt_trichotomy j' j with q | q | q
      · exact absurd (hij'.trans hij.symm) (List.pairwise_iff_getElem.1 hn j' j hj' hj q)
      · exact q
      · exact absurd (hij.trans hij'.symm) (List.pairwise_iff_getElem.1 hn j j' hj hj' q)
    subst this
    simp [plus]
  · rw [plus_ne e, h1 j' i' hi']
    have : j' ≠ j := fun q => e (by subst q; rw [hi] at hi'; exact (Option.some.inj hi').symm)
    exact decide_eq_decide.2 (by omega)
theorem JC.done (h : JC idx M L f u) (ha : ∀ i ∈ idx, L i = true) : M idx.length f u := by
  obtain ⟨s, hs, h1, h2⟩ := h.ex
  by_cases e : s = idx.length
  · exact e ▸ h2
  · have hlt : s < idx.length := by omega
    have q := h1 s _ (List.getElem?_eq_getElem hlt)
    rw [ha _ (List.getElem_mem hlt)] at q
    simp at q
end
end Go.Proofs.YtlgcdneiebjkcaaGreatDoor
namespace Go.Proofs.YtlgcdneiebjkcaaGreatDoor
open Go.RowKit Go.Maps
attribute [local go_sem] Oper.semAt_some uponV
structure Pw where
  adr : Nat
  blk : Nat
  cap : Nat
def Pw.vals (p : Pw) : List Value := [.int .i64 p.adr, .slice (some ⟨p.blk, 0, none⟩) 64 p.cap]
def pwFlat (ps : List Pw) : List Value := ps.flatMap Pw.vals
def SecAt (w : World) (b : Nat) : Prop := ∃ bs : List Int, bs.length = 64 ∧ ∀ j v, (u8Flat bs)[j]? = some v → w.cell? ⟨b, j, none⟩ = some v
theorem SecAt.kept {S : Nat → Prop} {w w' : World} {b : Nat} (h : SecAt w b) (g : Only S w w') (hS : ¬ S b) : SecAt w' b := by
  obtain ⟨bs, hl, h⟩ := h
  exact ⟨bs, hl, fun j v hj => by have := h j v hj; exact (g.cell (cell_lt this) hS j).trans this⟩
theorem SecAt.lt {w : World} {b : Nat} (h : SecAt w b) : b < w.heap.size := by
  obtain ⟨bs, hl, h⟩ := h
  have h0 : 0 < (u8Flat bs).length := by rw [u8Flat_length]; omega
  exact cell_lt (h 0 _ (List.getElem?_eq_getElem h0))
structure DkIs (w : World) (G : Nat → Prop) (db n : Nat) (iv pv : Value) (img : List Int) (ps : List Pw) : Prop where
  c0 : w.cell? ⟨db, 0, none⟩ = some iv
  c1 : w.cell? ⟨db, 1, none⟩ = some pv
  c2 : w.cell? ⟨db, 2, none⟩ = some (.bool false)
  fz : ∀ i, w.frozen? ⟨db, i, none⟩ = false
  img : w.ownsRow 0 5 1 iv (n * 64) (u8Flat img)
  pend : w.ownsRow 0 252 2 pv ps.length (pwFlat ps)
  each : ∀ p ∈ ps, p.adr < n ∧ SecAt w p.blk ∧ G p.blk ∧ p.blk ≠ db ∧ iv.ownBlock ≠ some p.blk ∧ pv.ownBlock ≠ some p.blk ∧ 64 ≤ p.cap
  foot : G db
  ownI : ∀ g, iv.ownBlock = some g → G g ∧ g ≠ db ∧ pv.ownBlock ≠ some g
  ownP : ∀ g, pv.ownBlock = some g → G g ∧ g ≠ db
  lt : ∀ j, G j → j < w.heap.size
  big : 0 < n ∧ n ≤ 4096
def DkAt (w : World) (G : Nat → Prop) (db n m : Nat) : Prop := ∃ iv pv img ps, ps.length = m ∧ DkIs w G db n iv pv img ps
def DkTurn (w : World) (G : Nat → Prop) (db n m : Nat) (w' : World) : Prop := Only G w w' ∧ ∃ G', DkAt w' G' db n m ∧ ∀ j, G' j → G j ∨ w.heap.size ≤ j
section
variable {w w' : World} {G S : Nat → Prop} {db n m : Nat} {iv pv : Value} {img : List Int} {ps : List Pw}
theorem DkIs.kept (h : DkIs w G db n iv pv img ps) (g : Only S w w') (hS : ∀ j, G j → ¬ S j) : DkIs w' G db n iv pv img ps where
  c0 := (g.cell (cell_lt h.c0) (hS _ h.foot) 0).trans h.c0
  c1 := (g.cell (cell_lt h.c0) (hS _ h.foot) 1).trans h.c1
  c2 := (g.cell (cell_lt h.c0) (hS _ h.foot) 2).trans h.c2
  fz i := (g.frozen (cell_lt h.c0) (hS _ h.foot) i).trans (h.fz i)
  img := ownsRow_kept h.img g fun b hb => hS b (h.ownI b hb).1
  pend := ownsRow_kept h.pend g fun b hb => hS b (h.ownP b hb).1
  each p hp := by
    obtain ⟨h1, h2, h3, h4⟩ := h.each p hp
    exact ⟨h1, h2.kept g (hS _ h3), h3, h4⟩
  foot := h.foot
  ownI := h.ownI
  ownP := h.ownP
  lt j hj := Nat.lt_of_lt_of_le (h.lt j hj) g.size
  big := h.big
theorem DkAt.kept (h : DkAt w G db n m) (g : Only S w w') (hS : ∀ j, G j → ¬ S j) : DkAt w' G db n m := by
  obtain ⟨iv, pv, img, ps, e, h⟩ := h
  exact ⟨iv, pv, img, ps, e, h.kept g hS⟩
theorem DkAt.grew (h : DkAt w G db n m) (g : Grew w w') : DkAt w' G db n m := h.kept (g.only fun _ => False) (fun _ _ h => h)
theorem DkAt.lt (h : DkAt w G db n m) : ∀ j, G j → j < w.heap.size := by obtain ⟨_, _, _, _, _, h⟩ := h; exact h.lt
theorem DkAt.foot (h : DkAt w G db n m) : G db := by obtain ⟨_, _, _, _, _, h⟩ := h; exact h.foot
theorem DkAt.big (h : DkAt w G db n m) : 0 < n ∧ n ≤ 4096 := by obtain ⟨_, _, _, _, _, h⟩ := h; exact h.big
theorem DkIs.form (h : DkIs w G db n iv pv img ps) : ∃ g cap cur, iv = .slice (some ⟨g, 0, none⟩) (n * 64) cap ∧ w.heap[g]? = some (.cells (List.toArray cur) 5 (0, 0)) ∧ n * 64 ≤ cap ∧ cur.length = cap ∧ cur.take (n * 64) = u8Flat img ∧ cap ≤ 9223372036854775807 := by
  obtain ⟨g, cap, cur, e, _, h1, h2, h3, h4, h5⟩ := ownsRow_block h.img (by have := h.big; omega)
  exact ⟨g, cap, cur, e, h1, h2, by omega, by simpa using h5, h3⟩
theorem DkTurn.trans {w1 w2 : World} {k l : Nat} (h : DkTurn w G db n k w1) (q : ∀ G1, DkAt w1 G1 db n k → DkTurn w1 G1 db n l w2) : DkTurn w G db n l w2 := by
  obtain ⟨g1, G1, h1, hG⟩ := h
  obtain ⟨g2, G2, h2, h3⟩ := q G1 h1
  refine ⟨g1.trans g2 hG, G2, h2, fun j hj => ?_⟩
  rcases h3 j hj with h | h
  · exact hG j h
  · exact .inr (Nat.le_trans g1.size h)
theorem DkTurn.refl (h : DkAt w G db n m) : DkTurn w G db n m w := ⟨Only.refl _ _, G, h, fun j hj => .inl hj⟩
theorem DkTurn.grew {w1 w2 : World} (h : DkTurn w G db n m w1) (g : Grew w1 w2) : DkTurn w G db n m w2 := by
  obtain ⟨g1, G1, h1, hG⟩ := h
  exact ⟨g1.grewT g, G1, h1.grew g, hG⟩
theorem DkTurn.after {w1 w2 : World} (g : Grew w w1) (hG : ∀ j, G j → j < w.heap.size) (h : DkTurn w1 G db n m w2) : DkTurn w G db n m w2 := by
  obtain ⟨g1, G1, h1, h2⟩ := h
  refine ⟨(g.only G).then g1, G1, h1, fun j hj => ?_⟩
  rcases h2 j hj with h | h
  · exact .inl h
  · exact .inr (Nat.le_trans g.size h)
end
theorem run_make_u8 (w : World) (kl : IntKind) (n : Nat) (hn : n ≤ 1000000) : ∃ w', (Instr.makeSlice 98 (.int kl (n : Int)) (.int kl (n : Int))).run Tryz.prog w = .ok (.slice (some ⟨w.heap.size, 0, none⟩) n n) w' ∧ w'.ownsRow w.heap.size 5 1 (.slice (some ⟨w.heap.size, 0, none⟩) n n) n (u8Flat (List.replicate n 0)) ∧ Grew w w' ∧ w'.heap.size = w.heap.size + 1 := by
  obtain ⟨i0, hi0, hz0, hz1, hz2⟩ := info_parts info_u8
  have hr := run_make (P := Tryz.prog) w 98 5 i0 _ Tryz.underlying98 hi0 hz0 kl kl (n : Int) (n : Int) (by omega) (Int.le_refl _) (by rw [hz2]; omega) (by omega)
  rw [hz1, Int.toNat_natCast, Nat.mul_one] at hr
  have e : madeCells (Value.int .u8 0).cells n = (u8Flat (List.replicate n 0)).toArray := by
    apply Array.ext
    · rw [size_madeCells]; simp [u8Flat]
    · intro i h1 h2
      simp [madeCells, u8Flat, Value.cells, Nat.mod_one]
  refine ⟨_, hr, ?_, (Grew.refl w).alloc _, by simp⟩
  refine ownsRow_of_block (cur := u8Flat (List.replicate n 0)) (Nat.le_refl _) ?_ (Nat.le_refl _) (by omega) (by rw [u8Flat_length, List.length_replicate, Nat.mul_one]) ?_
  · rw [e]; exact heap_alloc_new w _
  · rw [Nat.mul_one, List.take_of_length_le (by rw [u8Flat_length, List.length_replicate]; exact Nat.le_refl _)]
set_option maxRecDepth 100000 in
set_option maxHeartbeats 4000000 in
theorem dkLen_any {w : World} {G : Nat → Prop} {db n m : Nat} (h : DkAt w G db n m) : Calls Tryz.prog 86 #[.pointer (some ⟨db, 0, none⟩)] w fun e w' => e = .returned (.int .i64 n) ∧ w' = w := by
  obtain ⟨iv, pv, img, ps, _, h⟩ := h
  obtain ⟨g, cap, cur, rfl, _⟩ := h.form
  have c0 := h.c0
  have hn := h.big
  have e : ((n * 64 : Nat) : Int) / 64 = (n : Int) := by omega
  have HE := hid e
  clear h e
  go_enter Tryz.func86, Tryz.ntmps86
  go_wp2_with fail
  go_ret
  exact ⟨by simp, rfl⟩
set_option maxRecDepth 100000 in
set_option maxHeartbeats 4000000 in
theorem dkHas_any {w : World} {G : Nat → Prop} {db n m : Nat} (h : DkAt w G db n m) (i : Nat) (hi : i < n) : Calls Tryz.prog 118 #[.pointer (some ⟨db, 0, none⟩), .int .i64 i] w fun e w' => e = .returned (.bool true) ∧ w' = w := by
  have HL := hid (dkLen_any h)
  have hn := h.big
  have i0 : (0 : Int) ≤ (i : Int) := by omega
  have i1 : (i : Int) < (n : Int) := by omega
  clear h
  go_enter Tryz.func118, Tryz.ntmps118
  go_wp2_with fail
  refine HL.out.mono ?_
  rintro e w1 ⟨rfl, rfl⟩
  go_wp2_with fail
  go_ret
  exact ⟨by simp, rfl⟩
set_option maxRecDepth 100000 in
set_option maxHeartbeats 4000000 in
theorem dkNew_any (n : Nat) (h1 : 0 < n) (h2 : n ≤ 4096) (w : World) : Calls Tryz.prog 17 #[.int .i64 n] w fun e w' => ∃ G db iv, e = .returned (.tuple #[.pointer (some ⟨db, 0, none⟩), .nilIface]) ∧ DkIs w' G db n iv (.slice none 0 0) (List.replicate (n * 64) 0) [] ∧ Grew w w' ∧ ∀ j, G j → w.heap.size ≤ j := by
  obtain ⟨w1, hmk, hrow, hg, hsz⟩ := run_make_u8 w .i64 (n * 64) (by omega)
  have i1 : ¬ (n : Int) < 1 := by omega
  have i2 : ¬ (4096 : Int) < (n : Int) := by omega
  have hcast : ((n * 64 : Nat) : Int) = (n : Int) * 64 := by omega
  rw [hcast] at hmk
  have HR := hid hrow
  have HG := hid hg
  have HS := hid hsz
  clear hrow hg hcast hsz
  go_enter Tryz.func17, Tryz.ntmps17
  go_wp2_with fail
  go_ret2
  clear hmk
  refine ⟨fun j => j = w.heap.size ∨ j = w.heap.size + 1, w.heap.size + 1, ?_, ⟨.slice (some ⟨w.heap.size, 0, none⟩) (n * 64) (n * 64), ?_⟩, HG.out.alloc _, ?_⟩
  · rw [← HS.out]; rfl
  · have hs := HS.out
    have hrow := ownsRow_zero (ownsRow_grew ((Grew.refl w1).alloc (.cells #[.slice (some ⟨w.heap.size, 0, none⟩) (n * 64) (n * 64), .slice none 0 0, .bool false, .int .i64 0] 106)) HR.out)
    have hb := heap_alloc_new w1 (.cells #[.slice (some ⟨w.heap.size, 0, none⟩) (n * 64) (n * 64), .slice none 0 0, .bool false, .int .i64 0] 106)
    rw [hs] at hb
    refine ⟨by rw [cell_of_row _ _ _ _ _ _ hb]; rfl, by rw [cell_of_row _ _ _ _ _ _ hb]; rfl, by rw [cell_of_row _ _ _ _ _ _ hb]; rfl, (fun i => by simp [World.frozen?, hb]), hrow, World.ownsRow_nil _ _ _ _, (fun p hp => by cases hp), .inr rfl, fun g hg => ?_, (fun g hg => by cases hg), (fun j hj => by simp; omega), ⟨h1, h2⟩⟩
    obtain rfl : g = w.heap.size := by simpa [Value.ownBlock] using hg.symm
    exact ⟨.inl rfl, by omega, by simp [Value.ownBlock]⟩
  · intro j hj; omega
end Go.Proofs.YtlgcdneiebjkcaaGreatDoor
namespace Go.Proofs.YtlgcdneiebjkcaaGreatDoor
open Go.RowKit Go.Maps Go.Shelf
attribute [local go_sem] Oper.semAt_some uponV
set_option maxRecDepth 100000 in
set_option maxHeartbeats 1000000 in
theorem bwD1_nil_in (F : Fence) (n : Nat) (h7 : F.fn 156) (hro : F.round = none) (l Bs : Nat) (J : List Empty → World → Prop) (W : World) (hBs : W.cell? ⟨Bs, 0, none⟩ = some (.slice none 0 0)) (h0 : J [] W) :
    CallsIn F n Tryz.prog 156 #[.func (.yield l) #[] #[], .pointer (some ⟨Bs, 0, none⟩)] W fun e W' => (∃ v, e = .returned v) ∧ J [] W' := by
  refine callsIn_of_wp Tryz.func156 rfl h7 ?_ hro
  simp only [Tryz.ntmps156, List.size_toArray, List.length_cons, List.length_nil, Nat.reduceAdd, Nat.reduceSub, Array.replicate_succ, Array.replicate_zero, List.push_toArray, List.append_toArray, List.nil_append, List.cons_append]
  gi_wp2
  gi_loopw [3] (fun i wr => i = .int .i64 (-1) ∧ J [] wr) (fun _ _ => 0)
  case atStart => exact ⟨rfl, h0⟩
  case round =>
    obtain ⟨rfl, hJs⟩ := hrel
    gi_wp2
    go_end0
    exact ⟨⟨_, rfl⟩, hJs⟩
set_option maxHeartbeats 1000000 in
theorem bwD_in (F : Fence) (n : Nat) (h5 : F.fn 119) (hro : F.round = none) (a : Option Addr) (len cap : Nat) (w : World) :
    CallsIn F n Tryz.prog 119 #[.slice a len cap] w fun e w' => e = .returned (.func (.func 156) #[] #[.pointer (some ⟨w.heap.size, 0, none⟩)]) ∧ w' = w.alloc (.cells #[.slice a len cap] 104) := by
  refine callsIn_of_wp Tryz.func119 rfl h5 ?_ hro
  simp only [Tryz.ntmps119, List.size_toArray, List.length_cons, List.length_nil, Nat.reduceAdd, Nat.reduceSub, Array.replicate_succ, Array.replicate_zero, List.push_toArray, List.append_toArray, List.nil_append, List.cons_append]
  gi_wp2
  go_ret
  exact ⟨rfl, rfl⟩
theorem bwD_stops (F : Fence) (n : Nat) (h7 : F.fn 156) (hro : F.round = none) (Bs n₀ : Nat) (w : World) (hBs : Bs < w.heap.size) (hBn : Bs < n₀) (hc : w.cell? ⟨Bs, 0, none⟩ = some (.slice none 0 0)) :
    SeqStopsK F n Tryz.prog 156 #[.pointer (some ⟨Bs, 0, none⟩)] (fun x : Empty => x.elim) (Below n₀) (fun ys => ys = []) (fun _ => False) 0 w := fun l J Jx W hW _ _ hY h0 => by
  have hc' := (hW.cell (p := ⟨Bs, 0, none⟩) hBs).trans hc
  exact (bwD1_nil_in F n h7 hro l Bs J W hc' h0).mono fun e W' ⟨he, hj⟩ => ⟨he, .inl ⟨_, rfl, hj⟩⟩
def RdI (w W0 : World) (i : Nat) (pre : List Empty) (W : World) : Prop := (W.cell? ⟨w.heap.size, 0, none⟩ = some (.int .i64 i) ∧ W.cell? ⟨w.heap.size + 1, 0, none⟩ = some (.slice none 0 0) ∧ W.cell? ⟨w.heap.size + 1 + 1, 0, none⟩ = some .nilIface ∧ W.frozen? ⟨w.heap.size + 1, 0, none⟩ = false ∧ W.frozen? ⟨w.heap.size + 1 + 1, 0, none⟩ = false ∧ W0.heap.size ≤ W.heap.size) ∧ Below w.heap.size w W
theorem RdI.own {w W0 : World} {i : Nat} (h4 : w.heap.size ≤ W0.heap.size) : OwnFrom W0.heap.size (RdI w W0 i) := by
  rintro pre W W' row ⟨⟨h1, h2, h3, h4', h5, h6⟩, h7⟩ hg hr
  have hr' := fun r e => (hr r e).2
  exact ⟨⟨cell_kept h1 hg hr', cell_kept h2 hg hr', cell_kept h3 hg hr', (frozen_kept h2 hg hr').trans h4', (frozen_kept h3 hg hr').trans h5, Nat.le_trans h6 hg.size⟩, h7.grown hg h7.size (fun k e => Nat.le_trans h4 (hr k e).1)⟩
theorem sec_img {w : World} {g n cap : Nat} {cur : List Value} {img : List Int} (hb : w.heap[g]? = some (.cells cur.toArray 5 (0, 0))) (ht : cur.take (n * 64) = u8Flat img) (hl : cur.length = cap) (hc : n * 64 ≤ cap) (i : Nat) (hi : i < n) :
    ((img.drop (i * 64)).take 64).length = 64 ∧ BytesAt w (some ⟨g, i * 64, none⟩) ((img.drop (i * 64)).take 64) := by
  have hlen : img.length = n * 64 := by
    have := congrArg List.length ht
    rw [List.length_take, u8Flat_length, hl] at this
    omega
  refine ⟨by rw [List.length_take, List.length_drop]; omega, .inr ⟨g, i * 64, rfl, (Array.getElem?_eq_some_iff.1 hb).1, fun j v hj => ?_⟩⟩
  rw [List.getElem?_take] at hj
  split at hj
  · rw [List.getElem?_drop] at hj
    rw [cell_of_row _ _ _ _ _ _ hb]
    have h2 : (u8Flat img)[i * 64 + j]? = some (.int .u8 v) := by unfold u8Flat; rw [List.getElem?_map, hj]; rfl
    rw [← ht, List.getElem?_take] at h2
    split at h2
    · simpa using h2
    · cases h2
  · cases hj
set_option maxRecDepth 100000 in
set_option maxHeartbeats 4000000 in
theorem dkRead0_any {w : World} {G : Nat → Prop} {db n : Nat} {iv : Value} {img : List Int} (h : DkIs w G db n iv (.slice none 0 0) img []) (i : Nat) (hi : i < n) :
    Calls Tryz.prog 87 #[.pointer (some ⟨db, 0, none⟩), .int .i64 i] w fun e w' => ∃ a c, e = .returned (.tuple #[.slice a 64 c, .nilIface]) ∧ w'.ownsRow w.heap.size 5 1 (.slice a 64 c) 64 (u8Flat ((img.drop (i * 64)).take 64)) ∧ Grew w w' := by
  obtain ⟨g, cap, cur, rfl, hb, hc1, hl, ht, hcm⟩ := h.form
  obtain ⟨hq1, hq2⟩ := sec_img hb ht hl hc1 i hi
  have c0 := h.c0
  have c1 := h.c1
  have hdb := cell_lt c0
  have HH := hid (fun W (k : Grew w W) => dkHas_any (w := W) (G := G) (db := db) (n := n) (m := 0) ⟨_, _, _, _, rfl, h.kept (k.only fun _ => False) (fun _ _ h => h)⟩ i hi)
  have HQ1 := hid hq1
  have HQ2 := hid hq2
  have hbig := h.big
  clear h hb ht hl hq1 hq2
  have e1 : ((i * 64 : Nat) : Int) = (i : Int) * 64 := by omega
  have e2 : (((i + 1) * 64 : Nat) : Int) = ((i : Int) + 1) * 64 := by omega
  refine (callsIn_wide (n := 20)).1 (callsIn_of_wp_marks Tryz.func87 rfl trivial ?_)
  refine wpIn_wide.2 ?_
  simp only [Tryz.ntmps87, List.size_toArray, List.length_cons, List.length_nil, Nat.reduceAdd, Nat.reduceSub, Array.replicate_succ, Array.replicate_zero, List.push_toArray, List.append_toArray, List.nil_append, List.cons_append]
  go_wp2_with fail
  obtain ⟨Y, hY⟩ : ∃ Y, Y = ((w.alloc (.cells #[.int .i64 i] 3)).alloc (.cells #[.slice none 0 0] 98)).alloc (.cells #[.nilIface] 25) := ⟨_, rfl⟩
  have hgY : Grew w Y := by rw [hY]; exact (((Grew.refl w).alloc _).alloc _).alloc _
  have y0 : Y.cell? ⟨w.heap.size, 0, none⟩ = some (.int .i64 i) := by rw [hY]; simp [go_sem]
  have y1 : Y.cell? ⟨w.heap.size + 1, 0, none⟩ = some (.slice none 0 0) := by rw [hY]; simp [go_sem]
  have y2 : Y.cell? ⟨w.heap.size + 1 + 1, 0, none⟩ = some .nilIface := by rw [hY]; simp [go_sem]
  have yf1 : Y.frozen? ⟨w.heap.size + 1, 0, none⟩ = false := by rw [hY]; simp [go_sem]
  have yf2 : Y.frozen? ⟨w.heap.size + 1 + 1, 0, none⟩ = false := by rw [hY]; simp [go_sem]
  have hsz : Y.heap.size = w.heap.size + 3 := by rw [hY]; simp
  rw [← hY]
  clear hY
  have HY := hid (And.intro y0 (And.intro y1 (And.intro y2 (And.intro yf1 yf2))))
  have HSZ := hid hsz
  have HGY := hid hgY
  have c1' := (hgY.cells.1 _ 1 hdb).trans c1
  clear y0 y1 y2 yf1 yf2 hsz hgY
  refine (HH.out _ HGY.out).mono ?_
  rintro e w1 ⟨rfl, rfl⟩
  go_wp2_with fail
  refine ((callsIn_wide (n := 20)).1 (bwD_in Fence.wide 20 trivial rfl _ _ _ _)).mono ?_
  rintro e W0 ⟨rfl, hW0⟩
  have HW0 := hid hW0
  clear hW0
  go_wp2_with fail
  have hs0 : W0.heap.size = w1.heap.size + 1 := by rw [HW0.out]; simp
  have g0 : Grew w1 W0 := by rw [HW0.out]; exact (Grew.refl w1).alloc _
  have hsz := HSZ.out
  have hGw : Grew w W0 := HGY.out.trans g0
  have hb0 : W0.cell? ⟨w1.heap.size, 0, none⟩ = some (.slice none 0 0) := by rw [HW0.out]; simp [go_sem]
  have hI0 : RdI w W0 i [] W0 := ⟨⟨(g0.cells.1 _ 0 (by omega)).trans HY.out.1, (g0.cells.1 _ 0 (by omega)).trans HY.out.2.1, (g0.cells.1 _ 0 (by omega)).trans HY.out.2.2.1, (g0.cells.2 _ 0 (by omega)).trans HY.out.2.2.2.1, (g0.cells.2 _ 0 (by omega)).trans HY.out.2.2.2.2, Nat.le_refl _⟩, hGw⟩
  refine (wpIn_wide (n := 20)).1 ?_
  refine wpIn_rangeFunc_ownH rfl (by omega) (gf := 156) (lb := #[.pointer (some ⟨w1.heap.size, 0, none⟩)]) rfl trivial (enters_of Tryz.func156 (by kernel_rfl) rfl)
    (bwD_stops Fence.wide 19 trivial rfl w1.heap.size W0.heap.size W0 (by omega) (by omega) hb0) belowK_t (belowK_b (by omega)) (Below.refl _ _) (fun x => x.elim)
    (RdI w W0 i) (fun _ _ _ => False) (RdI.own hGw.size) (fun c => fun _ _ _ _ h _ _ => h) hI0
    (fun x a' W => x.elim)
    (fun x => x.elim)
    ?assign ?body ?done ?stop
  case assign => rintro l pre x; exact x.elim
  case body => rintro l pre x; exact x.elim
  case stop => rintro D c pre W _ h; exact h.elim
  case done =>
    rintro D ys W hD _ ⟨⟨i1, i2, i3, i4, i5, i6⟩, i7⟩ hK
    go_wp2_with fail
    have C0 := wd_cell ((i7.cell (p := ⟨db, 0, none⟩) hdb).trans c0)
    have CI := wd_cell i1
    have HI7 := hid i7
    have HK := hid hK
    have HB := hid (And.intro i2 (And.intro i3 (And.intro i4 i5)))
    clear i1 i2 i3 i4 i5 i7 hK c0 c1 c1'
    refine wp_region_still 10 (by kernel_rfl) (by kernel_rfl) (fun _ _ => rfl) ?_
    repeat (first
    | (refine mxP ?_; intros; go_big_quiet_op; go_big_quiet_on)
    | (refine mxK ?_; simp only [Act.put, List.setIfInBounds_toArray, List.set_cons_zero, List.set_cons_succ]))
    refine mixS_done (by rfl) ?_
    intro x hG
    dsimp only [List.drop]
    have HGX := hid hG
    obtain ⟨b2, b3, b4, b5⟩ := HB.out
    have hWs := HI7.out.size
    have k2 := cell_lt b2
    have k3 := cell_lt b3
    have hgW : Grew w W := HI7.out
    have HCX := hid (cloneB_any x (some ⟨g, i * 64, none⟩) 64 (cap - i * 64) _ HQ1.out.symm (HQ2.out.grew (hgW.trans hG)) (.inr ⟨_, _, rfl⟩) (by rw [HQ1.out]; omega))
    clear hgW
    have x2 := (hG.cells.1 _ 0 k2).trans b2
    have x3 := (hG.cells.1 _ 0 k3).trans b3
    have x4 := (hG.cells.2 _ 0 k2).trans b4
    have x5 := (hG.cells.2 _ 0 k3).trans b5
    have HX := hid (And.intro x2 (And.intro x3 (And.intro x4 x5)))
    clear C0 CI b2 b3 b4 b5 x2 x3 x4 x5 hG
    go_wp2_with fail
    rw [show (i + 1) * 64 - i * 64 = 64 by omega]
    refine HCX.out.mono ?_
    rintro e x1 ⟨a, c, rfl, hrow, hg⟩
    obtain ⟨x2, x3, x4, x5⟩ := HX.out
    have y2 := (hg.cells.1 _ 0 (cell_lt x2)).trans x2
    have y3 := (hg.cells.1 _ 0 (cell_lt x3)).trans x3
    have y4 := (hg.cells.2 _ 0 (cell_lt x2)).trans x4
    have y5 := (hg.cells.2 _ 0 (cell_lt x3)).trans x5
    have HR := hid hrow
    have HG1 := hid hg
    clear hrow hg HCX HX x2 x3 x4 x5
    go_wp2_with fail
    obtain ⟨Z, hZ⟩ : ∃ Z, Z = (x1.setCell ⟨w.heap.size + 1, 0, none⟩ (.slice a 64 c)).setCell ⟨w.heap.size + 1 + 1, 0, none⟩ .nilIface := ⟨_, rfl⟩
    have hO : Only (fun j => j = w.heap.size + 1 ∨ j = w.heap.size + 1 + 1) x1 Z := by
      rw [hZ]
      exact ((Only.setCell x1 ⟨w.heap.size + 1, 0, none⟩ _).mono fun _ h => .inl (.inl h)).then ((Only.setCell _ ⟨w.heap.size + 1 + 1, 0, none⟩ _).mono fun _ h => .inl (.inr h))
    have z2 : Z.cell? ⟨w.heap.size + 1, 0, none⟩ = some (.slice a 64 c) := by rw [hZ]; simp [go_sem, y2, y3]
    have z3 : Z.cell? ⟨w.heap.size + 1 + 1, 0, none⟩ = some .nilIface := by rw [hZ]; simp [go_sem, y2, y3]
    rw [← hZ]
    have hxs := HGX.out.size
    have hx1 := HG1.out.size
    have hDW : D < W.heap.size := (Array.getElem?_eq_some_iff.1 HK.out).1
    have hKZ : Z.heap[D]? = some (.deferred (some [])) := (hO.block D (by omega) (by omega)).trans ((HG1.out.below.block D (by omega)).trans ((HGX.out.below.block D hDW).trans HK.out))
    have hGZ : Grew w Z := by
      have h1 : Grew w x1 := (show Grew w W from HI7.out).trans (HGX.out.trans HG1.out)
      exact ((h1.only _).then hO).grew (fun j hj => by omega)
    refine ⟨by simp, .inl ⟨_, _, rfl, run_takeDeferred hKZ, ?_⟩⟩
    have hp := grownBy_putObj' Z D (.deferred none)
    refine ⟨.tuple #[.slice a 64 c, .nilIface], ?_, a, c, rfl, ?_, ?_⟩
    · have c2 := cell_kept z2 hp (fun r e => by cases e; exact ⟨_, hKZ, rfl⟩)
      have c3 := cell_kept z3 hp (fun r e => by cases e; exact ⟨_, hKZ, rfl⟩)
      simp [results, Tryz.f87, go_sem, c2, c3]
    · have hrr := HR.out
      rw [HQ1.out] at hrr
      refine ownsRow_base (by omega) (ownsRow_kept (ownsRow_kept hrr hO fun b hb e => ?_) (Only.of_grownBy hp) fun b hb e => ?_)
      · have := (HR.out.lt b hb).1; omega
      · have h1 := (HR.out.lt b hb).1
        have h2 : b = D := Option.some.inj e
        omega
    · exact Below.trans hGZ (belowK_b (w := w) (Nat.le_refl _) Z D _ _ (by omega) hKZ rfl rfl)
end Go.Proofs.YtlgcdneiebjkcaaGreatDoor
namespace Go.Proofs.YtlgcdneiebjkcaaGreatDoor
namespace Pl
structure Sg where
  place : Nat
  num : Nat
  sect : Nat
structure Pg where
  adr : Nat
  bs : List Int
  seg : Nat
structure Un where
  segs : List Sg
  pgs : List Pg
  trim : Nat
  epoch : Nat
  top : Nat
def Un.new : Un := ⟨[], [], 0, 0, 0⟩
def need (n : Nat) : Nat := 1 + (n + 63) / 64
def takenB (segs : List Sg) (p : Nat) : Bool := segs.any fun g => decide (g.place = p)
def freeP (segs : List Sg) : Option Nat := if takenB segs 0 = false then some 0 else if takenB segs 1 = false then some 1 else if takenB segs 2 = false then some 2 else none
def nextN : List Sg → Nat
  | [] => 0
  | [g] => g.num + 1
  | _ :: g :: r => nextN (g :: r)
def fits : List Sg → Nat → Bool
  | [], _ => false
  | [g], n => decide (g.sect + need n ≤ 63)
  | _ :: g :: r, n => fits (g :: r) n
def addL : List Sg → Nat → List Sg
  | [], _ => []
  | [g], k => [⟨g.place, g.num, g.sect + k⟩]
  | a :: g :: r, k => a :: addL (g :: r) k
def putR (segs : List Sg) (n : Nat) : Option (List Sg) :=
  if fits segs n then some (addL segs (need n)) else (freeP segs).map fun p => segs ++ [⟨p, nextN segs, need n⟩]
def lastN : List Sg → Nat
  | [] => 0
  | [g] => g.num
  | _ :: g :: r => lastN (g :: r)
def Un.get (U : Un) (a : Nat) : Option (List Int) := if a < U.trim then none else (U.pgs.find? fun p => decide (p.adr = a)).map (·.bs)
def Un.check (U : Un) (e a : Int) (most : Int) : Nat := if e < U.epoch ∨ 1073741824 < e then 8 else if a < 0 ∨ most < a then 1 else 0
def pageR (a : Nat) (bs : List Int) : List Int := numB 1 ++ (numB a ++ (numB bs.length ++ bs))
def Un.write (U : Un) (e a : Int) (bs : List Int) : Nat × Un :=
  if U.check e a 4095 ≠ 0 then (U.check e a 4095, U) else
  if bs.length = 0 ∨ 2048 < bs.length then (3, U) else
  if a.toNat < U.trim then (11, U) else
  if (U.get a.toNat).isSome then (9, U) else
  match putR U.segs (pageR a.toNat bs).length with
  | none => (13, U)
  | some s => (0, ⟨s, U.pgs ++ [⟨a.toNat, bs, lastN s⟩], U.trim, U.epoch, max U.top (a.toNat + 1)⟩)
def Un.read (U : Un) (e a : Int) : Nat × List Int :=
  if U.check e a 4095 ≠ 0 then (U.check e a 4095, []) else
  if a.toNat < U.trim then (11, []) else
  match U.get a.toNat with
  | none => (10, [])
  | some b => (0, b)
def Un.tail (U : Un) : Nat := max U.top U.trim
structure UnOk (U : Un) (m : Nat) : Prop where
  place : ∀ g ∈ U.segs, g.place < 3
  apart : (U.segs.map (·.place)).Nodup
  rise : (U.segs.map (·.num)).Pairwise (· < ·)
  num : ∀ g ∈ U.segs, g.num < m
  sect : ∀ g ∈ U.segs, g.sect ≤ 63
  few : U.pgs.length ≤ m
  adr : ∀ p ∈ U.pgs, p.adr < 4096 ∧ p.adr < U.top ∧ 0 < p.bs.length ∧ p.bs.length ≤ 2048
  once : (U.pgs.map (·.adr)).Nodup
  old : ∀ p ∈ U.pgs, p.seg < m
  bytes : ∀ p ∈ U.pgs, ∀ b ∈ p.bs, 0 ≤ b ∧ b < 256
  trim : U.trim ≤ 4096
  epoch : U.epoch ≤ 1073741824
  top : U.top ≤ 4096
structure SgOk (l : List Sg) (m : Nat) : Prop where
  place : ∀ g ∈ l, g.place < 3
  apart : (l.map (·.place)).Nodup
  rise : (l.map (·.num)).Pairwise (· < ·)
  num : ∀ g ∈ l, g.num < m
  sect : ∀ g ∈ l, g.sect ≤ 63
theorem UnOk.mono {U : Un} {m n : Nat} (h : UnOk U m) (hmn : m ≤ n) : UnOk U n :=
  ⟨h.place, h.apart, h.rise, fun g hg => Nat.lt_of_lt_of_le (h.num g hg) hmn, h.sect, Nat.le_trans h.few hmn, h.adr, h.once, fun p hp => Nat.lt_of_lt_of_le (h.old p hp) hmn, h.bytes, h.trim, h.epoch, h.top⟩
end Pl
end Go.Proofs.YtlgcdneiebjkcaaGreatDoor
