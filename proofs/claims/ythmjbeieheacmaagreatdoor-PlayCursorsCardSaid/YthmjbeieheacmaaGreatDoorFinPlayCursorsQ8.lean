/- PkB, CloneU8, ClB, RgnC, Dsk: one text. -/
import Derived.Test.YthmjbeieheacmaaGreatDoorFinPlayCursorsQ1
import Derived.Test.YthmjbeieheacmaaGreatDoorFinPlayCursorsQ3
import Derived.Laws.BytesArg
import Derived.Lib.AppendStr
import Derived.Deep.AppendLies
import Derived.Deep.Upon
import Derived.Lib.AppendZeros
import Derived.Test.YthmjbeieheacmaaGreatDoorFinPlayCursorsQ4
import Derived.Test.YthmjbeieheacmaaGreatDoorFinPlayCursorsQ5
import Derived.Laws.MakeOwn
set_option linter.unusedVariables false
set_option linter.unusedSectionVars false
set_option linter.unusedSimpArgs false
namespace Go.Proofs.YthmjbeieheacmaaGreatDoor
open Go.RowKit Go.Maps
attribute [local go_sem] Oper.semAt_some
def u8Flat (ns : List Int) : List Value := ns.map (Value.int .u8)
theorem u8Flat_length (ns : List Int) : (u8Flat ns).length = ns.length := by simp [u8Flat]
theorem u8Flat_one (ns : List Int) : ∀ u ∈ u8Flat ns, u.oneCell' = true := by
  intro u hu
  obtain ⟨n, _, rfl⟩ := List.mem_map.1 hu
  rfl
theorem info_u8 : (Tryz.prog.info? 5).map (fun i => (i.zero, i.size, i.bytes)) = some (some (.int .u8 0), 1, 1) := by kernel_rfl
namespace Pl
def numB (n : Nat) : List Int := if n < 128 then [(n : Int)] else ((n % 128 + 128 : Nat) : Int) :: numB (n / 128)
termination_by n
decreasing_by omega
end Pl
def BytesAt (W : World) (a : Option Addr) (ns : List Int) : Prop := ns = [] ∨ ∃ b off, a = some ⟨b, off, none⟩ ∧ b < W.heap.size ∧ ∀ j n, ns[j]? = some n → W.cell? ⟨b, off + j, none⟩ = some (.int .u8 n)
theorem BytesAt.kept {S : Nat → Prop} {W W' : World} {a : Option Addr} {ns : List Int} (h : BytesAt W a ns) (g : Only S W W') (hS : ∀ b off, a = some ⟨b, off, none⟩ → ¬ S b) : BytesAt W' a ns := by
  rcases h with h | ⟨b, off, rfl, hb, hc⟩
  · exact .inl h
  · exact .inr ⟨b, off, rfl, Nat.lt_of_lt_of_le hb g.size, fun j n hj => (g.cell hb (hS b off rfl) _).trans (hc j n hj)⟩
theorem BytesAt.grew {W W' : World} {a : Option Addr} {ns : List Int} (h : BytesAt W a ns) (g : Grew W W') : BytesAt W' a ns := h.kept (g.only fun _ => False) (fun _ _ _ h => h)
theorem BytesAt.drop {W : World} {b off : Nat} {ns : List Int} (h : BytesAt W (some ⟨b, off, none⟩) ns) (i : Nat) : BytesAt W (some ⟨b, off + i, none⟩) (ns.drop i) := by
  rcases h with h | ⟨b', off', e, hb, hc⟩
  · exact .inl (by rw [h]; simp)
  · cases e
    refine .inr ⟨b, off + i, rfl, hb, fun j n hj => ?_⟩
    rw [List.getElem?_drop] at hj
    have := hc (i + j) n hj
    rwa [← Nat.add_assoc] at this
theorem BytesAt.take {W : World} {a : Option Addr} {ns : List Int} (h : BytesAt W a ns) (i : Nat) : BytesAt W a (ns.take i) := by
  rcases h with h | ⟨b, off, rfl, hb, hc⟩
  · exact .inl (by rw [h]; simp)
  · refine .inr ⟨b, off, rfl, hb, fun j n hj => ?_⟩
    rw [List.getElem?_take] at hj
    split at hj
    · exact hc j n hj
    · cases hj
end Go.Proofs.YthmjbeieheacmaaGreatDoor
namespace Go.Proofs.YthmjbeieheacmaaGreatDoor
open Go.RowKit Go.Maps
attribute [local go_sem] Oper.semAt_some
theorem infoCU8 : (Tryz.prog.info? 5).map (fun i => (i.zero, i.size, i.bytes)) = some (some (.int .u8 0), 1, 1) := by kernel_rfl
theorem zcCU8 : (Value.cells (.int .u8 0)).size = 1 := by kernel_rfl
theorem eqCU8 (gb off m c : Nat) (w : World) : (binOp .eql 79 (.slice (some ⟨gb, off, none⟩) m c) (.slice none 0 0)).run Tryz.prog w = .ok (.bool false) w := by kernel_rfl
theorem eqCnU8 (w : World) : (binOp .eql 79 (.slice none 0 0) (.slice none 0 0)).run Tryz.prog w = .ok (.bool true) w := by kernel_rfl
set_option maxRecDepth 100000 in
set_option maxHeartbeats 1000000 in
theorem cloneU8 (w : World) (gb off m c : Nat) (hm : 0 < m) (hbig : m ≤ 1000000) (news : List Value) (hl : news.length = m * 1) (hnews : ∀ j u, news[j]? = some u → w.cell? ⟨gb, off + j, none⟩ = some u) (h1 : ∀ u ∈ news, u.oneCell' = true) :
    Calls Tryz.prog 67 #[.slice (some ⟨gb, off, none⟩) m c] w fun e w' => ∃ g cap, e = .returned (.slice (some ⟨g, 0, none⟩) m cap) ∧ w'.ownsRow w.heap.size 5 1 (.slice (some ⟨g, 0, none⟩) m cap) m news ∧ Grew w w' := by
  obtain ⟨i0, hi0, hz0, hz1, hz2⟩ := info_parts infoCU8
  have had : gb < w.heap.size := by
    have h0 : 0 < news.length := by omega
    have h2 := World.block_lt_of_cell? _ _ (hnews 0 news[0] (List.getElem?_eq_getElem h0))
    exact h2
  have HN : Hid (∀ (t : TypeId) j u, news[j]? = some u → (w.alloc (.cells #[] t)).cell? ⟨gb, off + j, none⟩ = some u) := fun t j u hj => by
    have := hnews j u hj
    rw [← this]
    exact ((Grew.refl w).alloc _).below.cell (World.block_lt_of_cell? _ _ this)
  have HL := hid hl
  have H1 := hid h1
  have HO := hid (fun (t : TypeId) (h : t = 5) => show (w.alloc (.cells #[] t)).ownsRow w.heap.size 5 1 (.slice (some ⟨w.heap.size, 0, none⟩) 0 0) 0 [] from by
    subst h
    exact ownsRow_of_block (cur := []) (Nat.le_refl _) (heap_alloc_new w _) (Nat.le_refl _) (by decide) rfl rfl)
  clear hnews hl h1
  have hEq := eqCU8 gb off m c
  go_enter Tryz.func67, Tryz.ntmps67
  go_wp2_with (at_builtin; refine wpList_append_lies _ rfl _ _ 79 rfl w.heap.size 5 i0 _ 1 1 Tryz.underlying79 hi0 hz0 hz1 hz2 zcCU8 (by omega) (.slice (some ⟨w.heap.size, 0, none⟩) 0 0) 0 [] rfl (HO.out _ rfl) ⟨gb, off, none⟩ m c news rfl HL.out (fun j u hj => by rw [Addr.add_lit]; exact HN.out _ j u hj) H1.out (by omega) (by unfold maxLen; omega) (by omega) (by simp) _ rfl ?_)
  intro g cap w1 hown hgrow hat hlt
  have HO := hid hown
  have HG := hid hgrow
  clear hown hgrow hat
  go_wp2_with fail
  go_ret
  refine ⟨g, cap, by simp, by simpa using HO.out, ?_⟩
  refine (((Grew.refl w).alloc _).only (fun j => some j = Value.ownBlock (.slice (some ⟨w.heap.size, 0, none⟩) 0 0))).then (Only.of_grownBy HG.out) |>.grew ?_
  intro j hj
  have : j = w.heap.size := Option.some.inj hj
  omega
set_option maxRecDepth 100000 in
theorem cloneNilU8 (w : World) : Calls Tryz.prog 67 #[.slice none 0 0] w fun e w' => e = .returned (.slice none 0 0) ∧ Grew w w' := by
  have hEq := eqCnU8
  go_enter Tryz.func67, Tryz.ntmps67
  go_wp2_with fail
  go_ret
  exact ⟨rfl, Grew.refl w⟩
set_option maxRecDepth 100000 in
theorem cloneZeroU8 (w : World) (gb off c : Nat) : Calls Tryz.prog 67 #[.slice (some ⟨gb, off, none⟩) 0 c] w fun e w' => e = .returned (.slice (some ⟨w.heap.size, 0, none⟩) 0 0) ∧ w'.ownsRow w.heap.size 5 1 (.slice (some ⟨w.heap.size, 0, none⟩) 0 0) 0 [] ∧ Grew w w' := by
  obtain ⟨i0, hi0, hz0, hz1, hz2⟩ := info_parts infoCU8
  have HO := hid (fun (t : TypeId) (h : t = 5) => show (w.alloc (.cells #[] t)).ownsRow w.heap.size 5 1 (.slice (some ⟨w.heap.size, 0, none⟩) 0 0) 0 [] from by
    subst h
    exact ownsRow_of_block (cur := []) (Nat.le_refl _) (heap_alloc_new w _) (Nat.le_refl _) (by decide) rfl rfl)
  have HG := hid (fun (t : TypeId) => (Grew.refl w).alloc (.cells #[] t))
  have hS : ∀ W : World, Src Tryz.prog i0.size 79 (.slice (some ⟨gb, off, none⟩) 0 c) 0 [] W := fun W => Src.ofSlice W Tryz.underlying79 ⟨gb, off, none⟩ 0 c [] (by simp) (fun j u hj => by simp at hj) (fun u hu => by cases hu)
  have HS := hid hS
  clear hS
  have hEq := eqCU8 gb off 0 c
  go_enter Tryz.func67, Tryz.ntmps67
  go_wp2_with (at_builtin; refine Lib.wpList_append_run _ rfl _ _ _ _ rfl _ _ rfl rfl _ _ (run_append_nothing _ 79 79 _ 5 i0 Tryz.underlying79 hi0 _ 0 0 (Nat.le_refl _) _ (HS.out _)) ?_)
  go_wp2_with fail
  go_ret
  exact ⟨rfl, HO.out _ rfl, HG.out _⟩
end Go.Proofs.YthmjbeieheacmaaGreatDoor
namespace Go.Proofs.YthmjbeieheacmaaGreatDoor
open Go.RowKit Go.Maps
attribute [local go_sem] Oper.semAt_some
theorem cloneB_any (w : World) (a : Option Addr) (n cap : Nat) (ns : List Int) (hn : n = ns.length) (hA : BytesAt w a ns) (hf : SlForm a cap) (hx : ns.length ≤ 1000000) :
    Calls Tryz.prog 67 #[.slice a n cap] w fun e w' => ∃ a' c', e = .returned (.slice a' n c') ∧ w'.ownsRow w.heap.size 5 1 (.slice a' n c') ns.length (u8Flat ns) ∧ Grew w w' := by
  subst hn
  rcases Nat.eq_zero_or_pos ns.length with h0 | h0
  · have e := List.eq_nil_of_length_eq_zero h0
    subst e
    rcases hf with ⟨rfl, rfl⟩ | ⟨b, off, rfl⟩
    · exact (cloneNilU8 w).mono fun e w' ⟨he, hg⟩ => ⟨_, _, he, World.ownsRow_nil _ _ _ _, hg⟩
    · exact (cloneZeroU8 w b off cap).mono fun e w' ⟨he, hr, hg⟩ => ⟨_, _, he, hr, hg⟩
  · rcases hA with h1 | ⟨b, off, rfl, hb, hR⟩
    · rw [h1] at h0; simp at h0
    · refine (cloneU8 w b off ns.length cap h0 hx (u8Flat ns) (by rw [u8Flat_length]; omega) (fun j u hj => ?_) (u8Flat_one ns)).mono fun e w' ⟨g, cap, he, hr, hg⟩ => ⟨_, _, he, hr, hg⟩
      unfold u8Flat at hj
      rw [List.getElem?_map] at hj
      cases hq : ns[j]? with
      | none => rw [hq] at hj; cases hj
      | some q => rw [hq] at hj; cases hj; exact hR j q hq
end Go.Proofs.YthmjbeieheacmaaGreatDoor
namespace Go.Proofs.YthmjbeieheacmaaGreatDoor
open Go.RowKit Go.Maps
structure JC (idx : List Nat) (M : Nat → (Nat → Value) → World → Prop) (L : Nat → Bool) (f : Nat → Value) (u : World) : Prop where
  ex : ∃ s, s ≤ idx.length ∧ (∀ j i, idx[j]? = some i → L i = decide (j < s)) ∧ M s f u
section
variable {idx : List Nat} {M : Nat → (Nat → Value) → World → Prop} {L : Nat → Bool} {f : Nat → Value} {u u' : World}
theorem JC.start (h : M 0 f u) : JC idx M (fun _ => false) f u := ⟨0, Nat.zero_le _, fun j i _ => by simp, h⟩
theorem JC.stage (h : JC idx M L f u) (j i : Nat) (hi : idx[j]? = some i) (hL : L i = false) (hp : ∀ k, j = k + 1 → ∃ i', idx[k]? = some i' ∧ L i' = true) : (∀ j' i', idx[j']? = some i' → L i' = decide (j' < j)) ∧ M j f u := by
  obtain ⟨s, hs, h1, h2⟩ := h.ex
  have e1 := h1 j i hi
  rw [hL] at e1
  have hsj : s ≤ j := by
    have := decide_eq_false_iff_not.1 e1.symm
    omega
  have hjs : j ≤ s := by
    cases j with
    | zero => exact Nat.zero_le _
    | succ k =>
      obtain ⟨i', hk, hLk⟩ := hp k rfl
      have e2 := h1 k i' hk
      rw [hLk] at e2
      have := decide_eq_true_iff.1 e2.symm
      omega
  obtain rfl : s = j := by omega
  exact ⟨h1, h2⟩
theorem JC.put (hn : idx.Nodup) (h : JC idx M L f u) (j i : Nat) (hi : idx[j]? = some i) (hL : L i = false) (hp : ∀ k, j = k + 1 → ∃ i', idx[k]? = some i' ∧ L i' = true) {v : Value} (hM : M (j + 1) (updV f i v) u') : JC idx M (plus L i) (updV f i v) u' := by
  obtain ⟨h1, _⟩ := h.stage j i hi hL hp
  obtain ⟨hj, hij⟩ := List.getElem?_eq_some_iff.1 hi
  refine ⟨j + 1, by omega, fun j' i' hi' => ?_, hM⟩
  by_cases e : i' = i
  · subst e
    obtain ⟨hj', hij'⟩ := List.getElem?_eq_some_iff.1 hi'
    have : j' = j := by
      rcases Nat.lt_trichotomy j' j with q | q | q
      · exact absurd (hij'.trans hij.symm) (List.pairwise_iff_getElem.1 hn j' j hj' hj q)
      · exact q
      · exact absurd (hij.trans hij'.symm) (List.pairwise_iff_getElem.1 hn j j' hj hj' q)
    subst this
    simp [plus]
  · rw [plus_ne e, h1 j' i' hi']
    have : j' ≠ j := fun q => e (by subst q; rw [hi] at hi'; exact (Option.some.inj hi').symm)
    exact decide_eq_decide.2 (by omega)
theorem JC.done (h : JC idx M L f u) (ha : ∀ i ∈ idx, L i = true) : M idx.length f u := by
  obtain ⟨s, hs, h1, h2⟩ := h.ex
  by_cases e : s = idx.length
  · exact e ▸ h2
  · have hlt : s < idx.length := by omega
    have q := h1 s _ (List.getElem?_eq_getElem hlt)
    rw [ha _ (List.getElem_mem hlt)] at q
    simp at q
end
end Go.Proofs.YthmjbeieheacmaaGreatDoor
namespace Go.Proofs.YthmjbeieheacmaaGreatDoor
open Go.RowKit Go.Maps
attribute [local go_sem] Oper.semAt_some uponV
structure Pw where
  adr : Nat
  blk : Nat
  cap : Nat
def Pw.vals (p : Pw) : List Value := [.int .i64 p.adr, .slice (some ⟨p.blk, 0, none⟩) 64 p.cap]
def pwFlat (ps : List Pw) : List Value := ps.flatMap Pw.vals
def SecAt (w : World) (b : Nat) : Prop := ∃ bs : List Int, bs.length = 64 ∧ ∀ j v, (u8Flat bs)[j]? = some v → w.cell? ⟨b, j, none⟩ = some v
theorem SecAt.kept {S : Nat → Prop} {w w' : World} {b : Nat} (h : SecAt w b) (g : Only S w w') (hS : ¬ S b) : SecAt w' b := by
  obtain ⟨bs, hl, h⟩ := h
  exact ⟨bs, hl, fun j v hj => by have := h j v hj; exact (g.cell (cell_lt this) hS j).trans this⟩
theorem SecAt.lt {w : World} {b : Nat} (h : SecAt w b) : b < w.heap.size := by
  obtain ⟨bs, hl, h⟩ := h
  have h0 : 0 < (u8Flat bs).length := by rw [u8Flat_length]; omega
  exact cell_lt (h 0 _ (List.getElem?_eq_getElem h0))
structure DkIs (w : World) (G : Nat → Prop) (db n : Nat) (iv pv : Value) (img : List Int) (ps : List Pw) : Prop where
  c0 : w.cell? ⟨db, 0, none⟩ = some iv
  c1 : w.cell? ⟨db, 1, none⟩ = some pv
  c2 : w.cell? ⟨db, 2, none⟩ = some (.bool false)
  fz : ∀ i, w.frozen? ⟨db, i, none⟩ = false
  img : w.ownsRow 0 5 1 iv (n * 64) (u8Flat img)
  pend : w.ownsRow 0 242 2 pv ps.length (pwFlat ps)
  each : ∀ p ∈ ps, p.adr < n ∧ SecAt w p.blk ∧ G p.blk ∧ p.blk ≠ db ∧ iv.ownBlock ≠ some p.blk ∧ pv.ownBlock ≠ some p.blk ∧ 64 ≤ p.cap
  foot : G db
  ownI : ∀ g, iv.ownBlock = some g → G g ∧ g ≠ db ∧ pv.ownBlock ≠ some g
  ownP : ∀ g, pv.ownBlock = some g → G g ∧ g ≠ db
  lt : ∀ j, G j → j < w.heap.size
  big : 0 < n ∧ n ≤ 4096
def DkAt (w : World) (G : Nat → Prop) (db n m : Nat) : Prop := ∃ iv pv img ps, ps.length = m ∧ DkIs w G db n iv pv img ps
def DkTurn (w : World) (G : Nat → Prop) (db n m : Nat) (w' : World) : Prop := Only G w w' ∧ ∃ G', DkAt w' G' db n m ∧ ∀ j, G' j → G j ∨ w.heap.size ≤ j
section
variable {w w' : World} {G S : Nat → Prop} {db n m : Nat} {iv pv : Value} {img : List Int} {ps : List Pw}
theorem DkIs.kept (h : DkIs w G db n iv pv img ps) (g : Only S w w') (hS : ∀ j, G j → ¬ S j) : DkIs w' G db n iv pv img ps where
  c0 := (g.cell (cell_lt h.c0) (hS _ h.foot) 0).trans h.c0
  c1 := (g.cell (cell_lt h.c0) (hS _ h.foot) 1).trans h.c1
  c2 := (g.cell (cell_lt h.c0) (hS _ h.foot) 2).trans h.c2
  fz i := (g.frozen (cell_lt h.c0) (hS _ h.foot) i).trans (h.fz i)
  img := ownsRow_kept h.img g fun b hb => hS b (h.ownI b hb).1
  pend := ownsRow_kept h.pend g fun b hb => hS b (h.ownP b hb).1
  each p hp := by
    obtain ⟨h1, h2, h3, h4⟩ := h.each p hp
    exact ⟨h1, h2.kept g (hS _ h3), h3, h4⟩
  foot := h.foot
  ownI := h.ownI
  ownP := h.ownP
  lt j hj := Nat.lt_of_lt_of_le (h.lt j hj) g.size
  big := h.big
theorem DkAt.kept (h : DkAt w G db n m) (g : Only S w w') (hS : ∀ j, G j → ¬ S j) : DkAt w' G db n m := by
  obtain ⟨iv, pv, img, ps, e, h⟩ := h
  exact ⟨iv, pv, img, ps, e, h.kept g hS⟩
theorem DkAt.grew (h : DkAt w G db n m) (g : Grew w w') : DkAt w' G db n m := h.kept (g.only fun _ => False) (fun _ _ h => h)
theorem DkAt.lt (h : DkAt w G db n m) : ∀ j, G j → j < w.heap.size := by obtain ⟨_, _, _, _, _, h⟩ := h; exact h.lt
theorem DkAt.foot (h : DkAt w G db n m) : G db := by obtain ⟨_, _, _, _, _, h⟩ := h; exact h.foot
theorem DkAt.big (h : DkAt w G db n m) : 0 < n ∧ n ≤ 4096 := by obtain ⟨_, _, _, _, _, h⟩ := h; exact h.big
theorem DkIs.form (h : DkIs w G db n iv pv img ps) : ∃ g cap cur, iv = .slice (some ⟨g, 0, none⟩) (n * 64) cap ∧ w.heap[g]? = some (.cells (List.toArray cur) 5 (0, 0)) ∧ n * 64 ≤ cap ∧ cur.length = cap ∧ cur.take (n * 64) = u8Flat img ∧ cap ≤ 9223372036854775807 := by
  obtain ⟨g, cap, cur, e, _, h1, h2, h3, h4, h5⟩ := ownsRow_block h.img (by have := h.big; omega)
  exact ⟨g, cap, cur, e, h1, h2, by omega, by simpa using h5, h3⟩
theorem DkTurn.trans {w1 w2 : World} {k l : Nat} (h : DkTurn w G db n k w1) (q : ∀ G1, DkAt w1 G1 db n k → DkTurn w1 G1 db n l w2) : DkTurn w G db n l w2 := by
  obtain ⟨g1, G1, h1, hG⟩ := h
  obtain ⟨g2, G2, h2, h3⟩ := q G1 h1
  refine ⟨g1.trans g2 hG, G2, h2, fun j hj => ?_⟩
  rcases h3 j hj with h | h
  · exact hG j h
  · exact .inr (Nat.le_trans g1.size h)
theorem DkTurn.refl (h : DkAt w G db n m) : DkTurn w G db n m w := ⟨Only.refl _ _, G, h, fun j hj => .inl hj⟩
theorem DkTurn.grew {w1 w2 : World} (h : DkTurn w G db n m w1) (g : Grew w1 w2) : DkTurn w G db n m w2 := by
  obtain ⟨g1, G1, h1, hG⟩ := h
  exact ⟨g1.grewT g, G1, h1.grew g, hG⟩
theorem DkTurn.after {w1 w2 : World} (g : Grew w w1) (hG : ∀ j, G j → j < w.heap.size) (h : DkTurn w1 G db n m w2) : DkTurn w G db n m w2 := by
  obtain ⟨g1, G1, h1, h2⟩ := h
  refine ⟨(g.only G).then g1, G1, h1, fun j hj => ?_⟩
  rcases h2 j hj with h | h
  · exact .inl h
  · exact .inr (Nat.le_trans g.size h)
end
theorem run_make_u8 (w : World) (kl : IntKind) (n : Nat) (hn : n ≤ 1000000) : ∃ w', (Instr.makeSlice 79 (.int kl (n : Int)) (.int kl (n : Int))).run Tryz.prog w = .ok (.slice (some ⟨w.heap.size, 0, none⟩) n n) w' ∧ w'.ownsRow w.heap.size 5 1 (.slice (some ⟨w.heap.size, 0, none⟩) n n) n (u8Flat (List.replicate n 0)) ∧ Grew w w' ∧ w'.heap.size = w.heap.size + 1 := by
  obtain ⟨i0, hi0, hz0, hz1, hz2⟩ := info_parts info_u8
  have hr := run_make (P := Tryz.prog) w 79 5 i0 _ Tryz.underlying79 hi0 hz0 kl kl (n : Int) (n : Int) (by omega) (Int.le_refl _) (by rw [hz2]; omega) (by omega)
  rw [hz1, Int.toNat_natCast, Nat.mul_one] at hr
  have e : madeCells (Value.int .u8 0).cells n = (u8Flat (List.replicate n 0)).toArray := by
    apply Array.ext
    · rw [size_madeCells]; simp [u8Flat]
    · intro i h1 h2
      simp [madeCells, u8Flat, Value.cells, Nat.mod_one]
  refine ⟨_, hr, ?_, (Grew.refl w).alloc _, by simp⟩
  refine ownsRow_of_block (cur := u8Flat (List.replicate n 0)) (Nat.le_refl _) ?_ (Nat.le_refl _) (by omega) (by rw [u8Flat_length, List.length_replicate, Nat.mul_one]) ?_
  · rw [e]; exact heap_alloc_new w _
  · rw [Nat.mul_one, List.take_of_length_le (by rw [u8Flat_length, List.length_replicate]; exact Nat.le_refl _)]
set_option maxRecDepth 100000 in
set_option maxHeartbeats 4000000 in
theorem dkLen_any {w : World} {G : Nat → Prop} {db n m : Nat} (h : DkAt w G db n m) : Calls Tryz.prog 98 #[.pointer (some ⟨db, 0, none⟩)] w fun e w' => e = .returned (.int .i64 n) ∧ w' = w := by
  obtain ⟨iv, pv, img, ps, _, h⟩ := h
  obtain ⟨g, cap, cur, rfl, _⟩ := h.form
  have c0 := h.c0
  have hn := h.big
  have e : ((n * 64 : Nat) : Int) / 64 = (n : Int) := by omega
  have HE := hid e
  clear h e
  go_enter Tryz.func98, Tryz.ntmps98
  go_wp2_with fail
  go_ret
  exact ⟨by simp, rfl⟩
set_option maxRecDepth 100000 in
set_option maxHeartbeats 4000000 in
theorem dkHas_any {w : World} {G : Nat → Prop} {db n m : Nat} (h : DkAt w G db n m) (i : Nat) (hi : i < n) : Calls Tryz.prog 122 #[.pointer (some ⟨db, 0, none⟩), .int .i64 i] w fun e w' => e = .returned (.bool true) ∧ w' = w := by
  have HL := hid (dkLen_any h)
  have hn := h.big
  have i0 : (0 : Int) ≤ (i : Int) := by omega
  have i1 : (i : Int) < (n : Int) := by omega
  clear h
  go_enter Tryz.func122, Tryz.ntmps122
  go_wp2_with fail
  refine HL.out.mono ?_
  rintro e w1 ⟨rfl, rfl⟩
  go_wp2_with fail
  go_ret
  exact ⟨by simp, rfl⟩
set_option maxRecDepth 100000 in
set_option maxHeartbeats 4000000 in
theorem dkNew_any (n : Nat) (h1 : 0 < n) (h2 : n ≤ 4096) (w : World) : Calls Tryz.prog 19 #[.int .i64 n] w fun e w' => ∃ G db iv, e = .returned (.tuple #[.pointer (some ⟨db, 0, none⟩), .nilIface]) ∧ DkIs w' G db n iv (.slice none 0 0) (List.replicate (n * 64) 0) [] ∧ Grew w w' ∧ ∀ j, G j → w.heap.size ≤ j := by
  obtain ⟨w1, hmk, hrow, hg, hsz⟩ := run_make_u8 w .i64 (n * 64) (by omega)
  have i1 : ¬ (n : Int) < 1 := by omega
  have i2 : ¬ (4096 : Int) < (n : Int) := by omega
  have hcast : ((n * 64 : Nat) : Int) = (n : Int) * 64 := by omega
  rw [hcast] at hmk
  have HR := hid hrow
  have HG := hid hg
  have HS := hid hsz
  clear hrow hg hcast hsz
  go_enter Tryz.func19, Tryz.ntmps19
  go_wp2_with fail
  go_ret2
  clear hmk
  refine ⟨fun j => j = w.heap.size ∨ j = w.heap.size + 1, w.heap.size + 1, ?_, ⟨.slice (some ⟨w.heap.size, 0, none⟩) (n * 64) (n * 64), ?_⟩, HG.out.alloc _, ?_⟩
  · rw [← HS.out]; rfl
  · have hs := HS.out
    have hrow := ownsRow_zero (ownsRow_grew ((Grew.refl w1).alloc (.cells #[.slice (some ⟨w.heap.size, 0, none⟩) (n * 64) (n * 64), .slice none 0 0, .bool false, .int .i64 0] 96)) HR.out)
    have hb := heap_alloc_new w1 (.cells #[.slice (some ⟨w.heap.size, 0, none⟩) (n * 64) (n * 64), .slice none 0 0, .bool false, .int .i64 0] 96)
    rw [hs] at hb
    refine ⟨by rw [cell_of_row _ _ _ _ _ _ hb]; rfl, by rw [cell_of_row _ _ _ _ _ _ hb]; rfl, by rw [cell_of_row _ _ _ _ _ _ hb]; rfl, (fun i => by simp [World.frozen?, hb]), hrow, World.ownsRow_nil _ _ _ _, (fun p hp => by cases hp), .inr rfl, fun g hg => ?_, (fun g hg => by cases hg), (fun j hj => by simp; omega), ⟨h1, h2⟩⟩
    obtain rfl : g = w.heap.size := by simpa [Value.ownBlock] using hg.symm
    exact ⟨.inl rfl, by omega, by simp [Value.ownBlock]⟩
  · intro j hj; omega
end Go.Proofs.YthmjbeieheacmaaGreatDoor
