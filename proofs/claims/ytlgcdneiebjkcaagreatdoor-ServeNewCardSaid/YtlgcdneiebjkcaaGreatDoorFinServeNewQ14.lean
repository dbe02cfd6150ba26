/- IdxOpBad, Ent3, InsShard, Shd1, Span3, Shd2, Shd3, Shd8A: one text. -/
import Derived.Test.YtlgcdneiebjkcaaGreatDoorFinServeNewQ13
import Derived.Test.YtlgcdneiebjkcaaGreatDoorFinServeNewQ1
import Derived.Laws.Externs
import Derived.IntWalk
import Derived.Deep.AppendLies
import Derived.Deep.Upon
import Derived.Lib.AppendZeros
import Derived.Lib.QuietBelow
import Derived.BigQuiet
import Derived.Deep.RegionWith
import Derived.Test.YtlgcdneiebjkcaaGreatDoorFinServeNewQ3
namespace Go.Proofs.YtlgcdneiebjkcaaGreatDoor
open Go.RowKit
attribute [local go_sem] Oper.semAt_some
end Go.Proofs.YtlgcdneiebjkcaaGreatDoor
namespace Go.Proofs.YtlgcdneiebjkcaaGreatDoor
open Go.RowKit
attribute [local go_sem] Oper.semAt_some
namespace Pl
end Pl
def OpOk (o : OpR) : Prop := o.key.size ≤ 140737488351232 ∧ o.val.size ≤ 9223372036854775807 ∧ o.old.size ≤ 9223372036854775807
structure En where
  kind : Int
  shard : Int
  other : Int
  server : Int
  client : Int
  seq : Int
  key : ByteArray
  upto : Int
  part : Int
  parts : Int
  ops : List OpR
  opsA : Option Addr
  opsC : Nat
  dataA : Option Addr
  dataL : Nat
  dataC : Nat
def En.vals (e : En) : List Value := [.int .i64 e.kind, .int .i64 e.shard, .int .i64 e.other, .int .i64 e.server, .int .i64 e.client, .int .i64 e.seq, .slice e.opsA e.ops.length e.opsC, .string e.key, .int .i64 e.upto, .int .i64 e.part, .int .i64 e.parts, .slice e.dataA e.dataL e.dataC]
def En.agg (e : En) : Value := .agg e.vals.toArray
namespace Pl
end Pl
structure EnAt (w : World) (e : En) : Prop where
  ops : OpRsAt w e.opsA e.ops
  few : e.ops.length ≤ 1000000
  ok : ∀ o ∈ e.ops, OpOk o
  key : e.kind = 3 → e.key.size ≤ 140737488351232
theorem EnAt.grew {w w' : World} {e : En} (h : EnAt w e) (g : Grew w w') : EnAt w' e := ⟨h.ops.grew g, h.few, h.ok, h.key⟩
end Go.Proofs.YtlgcdneiebjkcaaGreatDoor
namespace Go.Proofs.YtlgcdneiebjkcaaGreatDoor
open Go.RowKit Go.Maps
attribute [local go_sem] Oper.semAt_some
structure InsShard (w w' : World) (v r : Value) (B n : Nat) (ys : List Value) : Prop where
  form : ∃ g cap, r = .slice (some ⟨g, 0, none⟩) n cap ∧ (v.ownBlock = some g ∨ w.heap.size ≤ g)
  row : w'.ownsRow B 91 5 r n ys
  grown : w.grownBy w' v.ownBlock
end Go.Proofs.YtlgcdneiebjkcaaGreatDoor
namespace Go.Proofs.YtlgcdneiebjkcaaGreatDoor
open Go.RowKit Go.Maps
attribute [local go_sem] Oper.semAt_some
end Go.Proofs.YtlgcdneiebjkcaaGreatDoor
set_option linter.unusedVariables false
set_option linter.unusedSectionVars false
set_option linter.unusedSimpArgs false
namespace Go.Proofs.YtlgcdneiebjkcaaGreatDoor
open Go.RowKit Go.Maps
attribute [local go_sem] Oper.semAt_some
theorem infoCShard : (Tryz.prog.info? 91).map (fun i => (i.zero, i.size, i.bytes)) = some (some (.agg #[.int .i64 0, .int .i64 0, .int .i64 0, .string ⟨#[]⟩, .string ⟨#[]⟩]), 5, 56) := by kernel_rfl
theorem zcCShard : (Value.cells (.agg #[.int .i64 0, .int .i64 0, .int .i64 0, .string ⟨#[]⟩, .string ⟨#[]⟩])).size = 5 := by kernel_rfl
theorem eqCShard (gb off m c : Nat) (w : World) : (binOp .eql 88 (.slice (some ⟨gb, off, none⟩) m c) (.slice none 0 0)).run Tryz.prog w = .ok (.bool false) w := by kernel_rfl
set_option maxRecDepth 100000 in
set_option maxHeartbeats 1000000 in
theorem cloneShard (w : World) (gb off m c : Nat) (hm : 0 < m) (hbig : m ≤ 1000000) (news : List Value) (hl : news.length = m * 5) (hnews : ∀ j u, news[j]? = some u → w.cell? ⟨gb, off + j, none⟩ = some u) (h1 : ∀ u ∈ news, u.oneCell' = true) :
    Calls Tryz.prog 27 #[.slice (some ⟨gb, off, none⟩) m c] w fun e w' => ∃ g cap, e = .returned (.slice (some ⟨g, 0, none⟩) m cap) ∧ w'.ownsRow w.heap.size 91 5 (.slice (some ⟨g, 0, none⟩) m cap) m news ∧ Grew w w' := by
  obtain ⟨i0, hi0, hz0, hz1, hz2⟩ := info_parts infoCShard
  have had : gb < w.heap.size := by
    have h0 : 0 < news.length := by omega
    have h2 := World.block_lt_of_cell? _ _ (hnews 0 news[0] (List.getElem?_eq_getElem h0))
    exact h2
  have HN : Hid (∀ (t : TypeId) j u, news[j]? = some u → (w.alloc (.cells #[] t)).cell? ⟨gb, off + j, none⟩ = some u) := fun t j u hj => by
    have := hnews j u hj
    rw [← this]
    exact ((Grew.refl w).alloc _).below.cell (World.block_lt_of_cell? _ _ this)
  have HL := hid hl
  have H1 := hid h1
  have HO := hid (fun (t : TypeId) (h : t = 91) => show (w.alloc (.cells #[] t)).ownsRow w.heap.size 91 5 (.slice (some ⟨w.heap.size, 0, none⟩) 0 0) 0 [] from by
    subst h
    exact ownsRow_of_block (cur := []) (Nat.le_refl _) (heap_alloc_new w _) (Nat.le_refl _) (by decide) rfl rfl)
  clear hnews hl h1
  have hEq := eqCShard gb off m c
  go_enter Tryz.func27, Tryz.ntmps27
  go_wp2_with (at_builtin; refine wpList_append_lies _ rfl _ _ 88 rfl w.heap.size 91 i0 _ 5 56 Tryz.underlying88 hi0 hz0 hz1 hz2 zcCShard (by omega) (.slice (some ⟨w.heap.size, 0, none⟩) 0 0) 0 [] rfl (HO.out _ rfl) ⟨gb, off, none⟩ m c news rfl HL.out (fun j u hj => by rw [Addr.add_lit]; exact HN.out _ j u hj) H1.out (by omega) (by unfold maxLen; omega) (by omega) (by simp) _ rfl ?_)
  intro g cap w1 hown hgrow hat hlt
  have HO := hid hown
  have HG := hid hgrow
  clear hown hgrow hat
  go_wp2_with fail
  go_ret
  refine ⟨g, cap, by simp, by simpa using HO.out, ?_⟩
  refine (((Grew.refl w).alloc _).only (fun j => some j = Value.ownBlock (.slice (some ⟨w.heap.size, 0, none⟩) 0 0))).then (Only.of_grownBy HG.out) |>.grew ?_
  intro j hj
  have : j = w.heap.size := Option.some.inj hj
  omega
end Go.Proofs.YtlgcdneiebjkcaaGreatDoor
namespace Go.Proofs.YtlgcdneiebjkcaaGreatDoor
open Go.RowKit Go.Maps
attribute [local go_sem] Oper.semAt_some
end Go.Proofs.YtlgcdneiebjkcaaGreatDoor
namespace Go.Proofs.YtlgcdneiebjkcaaGreatDoor
open Go.RowKit Go.Maps
attribute [local go_sem] Oper.semAt_some
structure SmIs (w : World) (F : Nat → Prop) (sb : Nat) (v ve : Value) (xs : List Sh) (used : Nat → Bool) (ne : Nat) (evs : List Value) : Prop where
  live : w.cell? ⟨sb, 0, none⟩ = some v
  used : ∀ i, i < 13 → w.cell? ⟨sb, 1 + i, none⟩ = some (.bool (used i))
  ev : w.cell? ⟨sb, 14, none⟩ = some ve
  fz : ∀ i, i < 15 → w.frozen? ⟨sb, i, none⟩ = false
  row : w.ownsRow 0 91 5 v xs.length (shFlat xs)
  erow : w.ownsRow 0 102 13 ve ne evs
  sz : ∀ c ∈ xs, c.lo.size ≤ 70368744177664 ∧ c.hi.size ≤ 70368744177664
  foot0 : F sb
  foot1 : ∀ g, v.ownBlock = some g → F g ∧ g ≠ sb
  foot2 : ∀ g, ve.ownBlock = some g → F g ∧ g ≠ sb ∧ v.ownBlock ≠ some g
  lt : ∀ j, F j → j < w.heap.size
  nil : ne = 0 → ve = .slice none 0 0
def SmAt (w : World) (F : Nat → Prop) (sb : Nat) (xs : List Sh) (used : Nat → Bool) (ne : Nat) (evs : List Value) : Prop := ∃ v ve, SmIs w F sb v ve xs used ne evs
theorem ownsRow_keep {S : Nat → Prop} {w w' : World} (g : Only S w w') {B : Nat} {e : TypeId} {k : Nat} {v : Value} {n : Nat} {xs : List Value} (h : w.ownsRow B e k v n xs) (hS : ∀ b, v.ownBlock = some b → ¬ S b) : w'.ownsRow B e k v n xs := by
  refine ⟨h.1, ?_⟩
  rcases h.2 with h2 | ⟨b, cap, cur, e1, h2, h3, h4⟩
  · exact .inl h2
  · refine .inr ⟨b, cap, cur, e1, h2, (g.block b (Array.getElem?_eq_some_iff.1 h3).1 (hS b (by rw [e1]; rfl))).trans h3, h4⟩
section
variable {w w' : World} {F S : Nat → Prop} {sb : Nat} {v ve : Value} {xs : List Sh} {used : Nat → Bool} {ne : Nat} {evs : List Value}
theorem SmIs.blt (h : SmIs w F sb v ve xs used ne evs) : sb < w.heap.size := cell_lt h.live
theorem SmIs.kept (h : SmIs w F sb v ve xs used ne evs) (g : Only S w w') (hS : ∀ j, F j → ¬ S j) : SmIs w' F sb v ve xs used ne evs where
  live := (g.cell h.blt (hS _ h.foot0) 0).trans h.live
  used i hi := (g.cell h.blt (hS _ h.foot0) _).trans (h.used i hi)
  ev := (g.cell h.blt (hS _ h.foot0) _).trans h.ev
  fz i hi := (g.frozen h.blt (hS _ h.foot0) _).trans (h.fz i hi)
  row := ownsRow_keep g h.row (fun b hb => hS b (h.foot1 b hb).1)
  erow := ownsRow_keep g h.erow (fun b hb => hS b (h.foot2 b hb).1)
  sz := h.sz
  foot0 := h.foot0
  foot1 := h.foot1
  foot2 := h.foot2
  lt j hj := Nat.lt_of_lt_of_le (h.lt j hj) g.size
  nil := h.nil
theorem SmIs.grew (h : SmIs w F sb v ve xs used ne evs) (g : Grew w w') : SmIs w' F sb v ve xs used ne evs := h.kept (g.only fun _ => False) (fun _ _ h => h)
theorem SmAt.kept (h : SmAt w F sb xs used ne evs) (g : Only S w w') (hS : ∀ j, F j → ¬ S j) : SmAt w' F sb xs used ne evs := by
  obtain ⟨v, ve, h⟩ := h; exact ⟨v, ve, h.kept g hS⟩
theorem SmAt.grew (h : SmAt w F sb xs used ne evs) (g : Grew w w') : SmAt w' F sb xs used ne evs := by
  obtain ⟨v, ve, h⟩ := h; exact ⟨v, ve, h.grew g⟩
end
abbrev sh0 : Sh := ⟨1, 1, 0, ⟨#[]⟩, ⟨#[]⟩⟩
def used0 (i : Nat) : Bool := decide (i = 1)
theorem used0_cells (b : Nat) (i : Nat) (hi : i < 13) : (#[Value.slice (some ⟨b, 0, none⟩) 1 1, .bool false, .bool true, .bool false, .bool false, .bool false, .bool false, .bool false, .bool false, .bool false, .bool false, .bool false, .bool false, .bool false, .slice none 0 0] : Array Value)[i + 1]? = some (.bool (used0 i)) :=
  match i, hi with
    | 0, _ => rfl
    | 1, _ => rfl
    | 2, _ => rfl
    | 3, _ => rfl
    | 4, _ => rfl
    | 5, _ => rfl
    | 6, _ => rfl
    | 7, _ => rfl
    | 8, _ => rfl
    | 9, _ => rfl
    | 10, _ => rfl
    | 11, _ => rfl
    | 12, _ => rfl
    | n + 13, h => by omega
set_option maxRecDepth 100000 in
set_option maxHeartbeats 1000000 in
theorem newM_any (w : World) : Calls Tryz.prog 130 #[] w fun e w' => ∃ sb, e = .returned (.pointer (some ⟨sb, 0, none⟩)) ∧ Grew w w' ∧ w.heap.size ≤ sb ∧ ∃ F, SmAt w' F sb [sh0] used0 0 [] ∧ ∀ j, F j → w.heap.size ≤ j := by
  go_enter Tryz.func130, Tryz.ntmps130
  go_wp2_with fail
  go_ret
  refine ⟨w.heap.size + 1, rfl, ?_, Nat.le_succ _, fun j => j = w.heap.size ∨ j = w.heap.size + 1, ?_, ?_⟩
  · exact ((Grew.refl w).alloc _).alloc _
  · refine ⟨.slice (some ⟨w.heap.size, 0, none⟩) 1 1, .slice none 0 0, ?_⟩
    refine ⟨by simp [go_sem], ?_, by simp [go_sem], ?_, ?_, World.ownsRow_nil _ _ _ _, ?_, .inr rfl, ?_, (fun g hg => by cases hg), ?_, fun _ => rfl⟩
    · intro i hi
      rw [cell_of_row _ (w.heap.size + 1) (1 + i) _ _ _ (heap_alloc2_new w _ _), Nat.add_comm]
      exact used0_cells w.heap.size i hi
    · intro i _
      exact frozen_of_row _ (w.heap.size + 1) i _ _ (heap_alloc2_new w _ _)
    · refine ownsRow_of_block (cur := [.int .i64 1, .int .i64 1, .int .i64 0, .string ⟨#[]⟩, .string ⟨#[]⟩]) (Nat.zero_le _) (heap_alloc2_old w _ _) (Nat.le_refl _) (by decide) rfl rfl
    · intro c hc
      rw [List.mem_singleton.1 hc]
      exact ⟨Nat.zero_le _, Nat.zero_le _⟩
    · intro g hg
      cases hg
      exact ⟨.inl rfl, Nat.ne_of_lt (Nat.lt_succ_self _)⟩
    · intro j hj
      simp
      omega
  · intro j hj; omega
namespace Pl
end Pl
end Go.Proofs.YtlgcdneiebjkcaaGreatDoor
namespace Go.Proofs.YtlgcdneiebjkcaaGreatDoor
open Go.RowKit
namespace Pl
end Pl
end Go.Proofs.YtlgcdneiebjkcaaGreatDoor
namespace Go.Proofs.YtlgcdneiebjkcaaGreatDoor
open Go.RowKit Go.Maps Go.Sort
attribute [local go_sem] Oper.semAt_some
structure ShdS (S : Nat → Bool) : Prop where
  h1 : S 1 = true
  h2 : S 2 = true
  h3 : S 3 = true
  h4 : S 4 = true
  h6 : S 6 = true
  h7 : S 7 = true
theorem ShdS.key {S : Nat → Bool} (h : ShdS S) : KeyT S := ⟨h.h2, h.h3, h.h6, h.h7⟩
theorem ShdS.keyS {S : Nat → Bool} (h : ShdS S) : KeyS S := ⟨h.h2, h.h3, h.h6, h.h7⟩
theorem ShdS.span {S : Nat → Bool} (h : ShdS S) : SpanS S := ⟨h.keyS, h.h1, h.h4⟩
namespace Pl
end Pl
end Go.Proofs.YtlgcdneiebjkcaaGreatDoor
namespace Go.Proofs.YtlgcdneiebjkcaaGreatDoor
open Go.RowKit Go.Maps
attribute [local go_sem] Oper.semAt_some
def ShTurn (w : World) (F : Nat → Prop) (sb : Nat) (ys : List Sh) (used : Nat → Bool) (ne : Nat) (evs : List Value) (w' : World) : Prop := Only F w w' ∧ ∃ F', SmAt w' F' sb ys used ne evs ∧ ∀ j, F' j → F j ∨ w.heap.size ≤ j
section
variable {w u : World} {F : Nat → Prop} {sb : Nat} {v ve : Value} {xs ys : List Sh} {used : Nat → Bool} {ne : Nat} {evs : List Value}
theorem ShTurn.grew {w0 : World} (h : ShTurn w F sb ys used ne evs u) (hF : ∀ j, F j → w0.heap.size ≤ j) (g : Grew w0 w) : Grew w0 u ∧ ∃ F', SmAt u F' sb ys used ne evs ∧ ∀ j, F' j → w0.heap.size ≤ j := by
  obtain ⟨h1, F', h2, h3⟩ := h
  refine ⟨((g.only F).then h1).grew hF, F', h2, fun j hj => ?_⟩
  rcases h3 j hj with h | h
  · exact hF j h
  · have := g.size; omega
theorem ShTurn.trans {w1 w2 : World} {F1 : Nat → Prop} {xs1 : List Sh} {used1 : Nat → Bool} {ne1 : Nat} {evs1 : List Value} (o1 : Only F w w1) (hF1 : ∀ j, F1 j → F j ∨ w.heap.size ≤ j) (h : ShTurn w1 F1 sb xs1 used1 ne1 evs1 w2) : ShTurn w F sb xs1 used1 ne1 evs1 w2 := by
  obtain ⟨h1, F', h2, h3⟩ := h
  refine ⟨o1.trans h1 hF1, F', h2, fun j hj => ?_⟩
  rcases h3 j hj with h | h
  · exact hF1 j h
  · exact .inr (Nat.le_trans o1.size h)
theorem sh_cell (h : SmIs w F sb v ve xs used ne evs) {b cap : Nat} (hv : v = .slice (some ⟨b, 0, none⟩) xs.length cap) (i : Nat) (hi : i < xs.length) (k : Nat) (hk : k < 5) : w.cell? ⟨b, i * 5 + k, none⟩ = (shAt xs i).vals[k]? := by
  subst hv
  have := h.row.cellAt (i * 5 + k) (by omega)
  rw [shFlat_get k hk xs i hi] at this
  exact this
end
end Go.Proofs.YtlgcdneiebjkcaaGreatDoor
namespace Go.Proofs.YtlgcdneiebjkcaaGreatDoor
open Go.RowKit Go.Maps
attribute [local go_sem] Oper.semAt_some
section
variable {w : World} {F : Nat → Prop} {sb : Nat} {xs : List Sh} {used : Nat → Bool} {ne : Nat} {evs : List Value} (h : SmAt w F sb xs used ne evs) (hx : xs.length ≤ 1000)
include h hx
set_option maxRecDepth 100000 in
theorem shards_any (h0 : 0 < xs.length) : Calls Tryz.prog 99 #[.pointer (some ⟨sb, 0, none⟩)] w fun e w' => ∃ g cap, e = .returned (.slice (some ⟨g, 0, none⟩) xs.length cap) ∧ w'.ownsRow w.heap.size 91 5 (.slice (some ⟨g, 0, none⟩) xs.length cap) xs.length (shFlat xs) ∧ Grew w w' := by
  obtain ⟨v, ve, h⟩ := h
  obtain ⟨b, cap, rfl, _, hbb⟩ := h.row.form h0
  have c0 := h.live
  have HC := hid (cloneShard w b 0 xs.length cap h0 (by omega) (shFlat xs) (shFlat_length xs) (fun j u hj => by
    rw [Nat.zero_add]
    have hjl := (List.getElem?_eq_some_iff.1 hj).1
    rw [shFlat_length] at hjl
    exact (h.row.cellAt j hjl).trans hj) (shFlat_one' xs))
  clear h
  go_enter Tryz.func99, Tryz.ntmps99
  go_wp2_with fail
  refine HC.out.mono ?_
  rintro e w1 ⟨g, cp, rfl, ho, hg⟩
  have HO := hid ho
  clear ho
  go_wp2_with fail
  go_ret
  exact ⟨g, cp, rfl, HO.out, hg⟩
end
theorem owner1_any {S : Nat → Bool} (hS : ShdS S) (E : Nat → Addr) (c : Sh) (cb : Nat) (key : ByteArray) (w : World) (hE : Errs S E w) (hl : c.lo.size ≤ 70368744177664) (hh : c.hi.size ≤ 70368744177664) (hk : key.size ≤ 70368744177664) (hc : w.cell? ⟨cb, 0, none⟩ = some (.string key)) :
    Calls Tryz.prog 72 #[c.aggOf, .pointer (some ⟨cb, 0, none⟩)] w fun e w' => e = .returned (.bool (Pl.hasS c.lo c.hi key)) ∧ Grew w w' := by
  obtain ⟨i, s, n, lo, hi⟩ := c
  have HH := hid (fun W (g : Grew w W) => has_span S E hS.keyS lo hi key W hl hh hk (hE.grew g))
  unfold Sh.aggOf Sh.vals
  dsimp only at *
  have hb : cb < w.heap.size := cell_lt hc
  clear hE
  go_enter Tryz.func72, Tryz.ntmps72
  go_wp2_with fail
  refine (HH.out _ ((Grew.refl w).alloc _)).mono ?_
  rintro e w1 ⟨rfl, hg⟩
  go_wp2_with fail
  go_ret
  exact ⟨rfl, ((Grew.refl w).alloc _).trans hg⟩
namespace Pl
def ownerI (xs : List Sh) (key : ByteArray) : Int := if isKey key = true then idxI (fun c => hasS c.lo c.hi key) xs else -1
def ownerV (xs : List Sh) (key : ByteArray) : Sh := if ownerI xs key < 0 then Sh.none else shAt xs (ownerI xs key).toNat
end Pl
section
variable {S : Nat → Bool} (hS : ShdS S) (E : Nat → Addr) {w : World} (hE : Errs S E w) {F : Nat → Prop} {sb : Nat} {xs : List Sh} {used : Nat → Bool} {ne : Nat} {evs : List Value} (h : SmAt w F sb xs used ne evs) (hx : xs.length ≤ 1000)
include hS hE h hx
set_option maxRecDepth 100000 in
set_option maxHeartbeats 2000000 in
theorem owner_any (key : ByteArray) (hk : key.size ≤ 70368744177664) : Calls Tryz.prog 45 #[.pointer (some ⟨sb, 0, none⟩), .string key] w fun e w' => e = .returned (.tuple #[(Pl.ownerV xs key).aggOf, .bool (decide (0 ≤ Pl.ownerI xs key))]) ∧ Grew w w' := by
  obtain ⟨s2, s3, s6, s7⟩ := id hS.keyS
  have HK := hid (fun W (g : Grew w W) => key_any S E s2 s3 s6 s7 key W (by omega) (hE.grew g))
  cases hik : Pl.isKey key with
  | false =>
    have e0 : Pl.ownerI xs key = -1 := by unfold Pl.ownerI; rw [if_neg (by rw [hik]; simp)]
    have e1 : Pl.ownerV xs key = Sh.none := by unfold Pl.ownerV; rw [e0]; rfl
    rw [e0, e1]
    have HN := hid (errOf_nokey E key hik)
    rw [HN.out] at HK
    unfold Sh.aggOf Sh.vals Sh.none
    clear e0 e1 h hE hik
    go_enter Tryz.func45, Tryz.ntmps45
    go_wp2_with fail
    refine (HK.out _ (((Grew.refl w).alloc _).alloc _)).mono ?_
    rintro r w1 ⟨rfl, hg⟩
    have hc := hg.cells.1
    have hfz := hg.cells.2
    have hz : w.heap.size + 1 < w1.heap.size := by have := hg.size; simp at this; omega
    have hG := (((Grew.refl w).alloc _).alloc _).trans hg
    clear hg
    go_wp2_with fail
    refine bodyPost_ret (v := .tuple #[.agg #[.int .i64 0, .int .i64 0, .int .i64 0, .string ⟨#[]⟩, .string ⟨#[]⟩], .bool false]) (by simp [results, Tryz.results45, go_sem, hc, hz]) rfl ⟨rfl, ?_⟩
    exact (((((hG.setCell (by simp) _).setCell (by simp) _).setCell (by simp) _).setCell (by simp) _).setCell (by simp) _)
  | true =>
    have HN := hid (errOf_key E key hik)
    rw [HN.out] at HK
    have e0 : Pl.ownerI xs key = idxI (fun c => Pl.hasS c.lo c.hi key) xs := by unfold Pl.ownerI; rw [if_pos hik]
    have HI : Hid (∀ W cb, Grew w W → W.cell? ⟨cb, 0, none⟩ = some (.string key) → ∀ a cap, ShsAt W a xs → Calls Tryz.prog 71 #[.slice a xs.length cap, .func (.func 72) #[] #[.pointer (some ⟨cb, 0, none⟩)]] W fun e w' => e = .returned (.int .i64 (Pl.ownerI xs key)) ∧ Grew W w') := by
      intro W cb g hc a cap hA
      rw [e0]
      refine idxShardOwner (fun c => Pl.hasS c.lo c.hi key) cb a cap xs W hA (by omega) (fun j hj W' g' => ?_)
      obtain ⟨v, ve, h⟩ := h
      have hz := h.sz _ (shAt_mem xs j hj)
      exact owner1_any hS E (shAt xs j) cb key W' (hE.grew (g.trans g')) hz.1 hz.2 hk ((g'.cells.1 _ _ (cell_lt hc)).trans hc)
    have hcases : Pl.ownerI xs key = -1 ∨ ∃ i, i < xs.length ∧ Pl.ownerI xs key = (i : Nat) := by
      rw [e0]
      unfold idxI
      cases hf : xs.findIdx? (fun c => Pl.hasS c.lo c.hi key) with
      | none => exact .inl rfl
      | some i => exact .inr ⟨i, (List.findIdx?_eq_some_iff_getElem.1 hf).1, rfl⟩
    obtain ⟨v, ve, h⟩ := h
    have hb := h.blt
    have HS := hid h
    clear e0 hE hik h
    obtain ⟨a, cap, rfl, _⟩ := shsAt_of HS.out.row
    rcases hcases with hf | ⟨i, hi, hf⟩
    · have e1 : Pl.ownerV xs key = Sh.none := by unfold Pl.ownerV; rw [hf]; rfl
      rw [hf] at HI
      rw [e1, hf]
      unfold Sh.aggOf Sh.vals Sh.none
      clear e1 hf
      go_enter Tryz.func45, Tryz.ntmps45
      go_wp2_with fail
      refine (HK.out _ (((Grew.refl w).alloc _).alloc _)).mono ?_
      rintro r w1 ⟨rfl, hg⟩
      have hc := hg.cells.1
      have hfz := hg.cells.2
      have hz : w.heap.size + 1 < w1.heap.size := by have := hg.size; simp at this; omega
      have hG := (((Grew.refl w).alloc _).alloc _).trans hg
      have c0 := (hG.cells.1 _ _ hb).trans HS.out.live
      have HCB := hid (show w1.cell? ⟨w.heap.size, 0, none⟩ = some (.string key) from (hc _ _ (by simp; omega)).trans (by simp [go_sem]))
      have HA1 : Hid (ShsAt w1 a xs) := by
        obtain ⟨a', cap', e', hA'⟩ := shsAt_of (HS.out.grew hG).row
        cases e'; exact hA'
      clear hg
      go_wp2_with fail
      refine (HI.out w1 w.heap.size hG HCB.out a cap HA1.out).mono ?_
      rintro r w2 ⟨rfl, hg2⟩
      have hc2 := hg2.cells.1
      have hfz2 := hg2.cells.2
      have hz2 : w.heap.size + 1 < w2.heap.size := Nat.lt_of_lt_of_le hz hg2.size
      have hG2 := hG.trans hg2
      clear hg2
      go_wp2_with fail
      refine bodyPost_ret (v := .tuple #[.agg #[.int .i64 0, .int .i64 0, .int .i64 0, .string ⟨#[]⟩, .string ⟨#[]⟩], .bool false]) (by simp [results, Tryz.results45, go_sem, hc, hc2, hz, hz2]) rfl ⟨rfl, ?_⟩
      exact (((((hG2.setCell (by simp) _).setCell (by simp) _).setCell (by simp) _).setCell (by simp) _).setCell (by simp) _)
    · have e1 : Pl.ownerV xs key = shAt xs i := by unfold Pl.ownerV; rw [hf, if_neg (by omega), Int.toNat_natCast]
      have hd : decide (0 ≤ (i : Int)) = true := by simp
      rw [hf] at HI
      rw [e1, hf, hd]
      obtain ⟨b, cap', e', _, hbb⟩ := HS.out.row.form (by omega)
      cases e'
      have hiI : ¬ ((i : Int) < 0) := by omega
      have hiL : (i : Int) < (xs.length : Int) := by omega
      have HII := hid hi
      clear e1 hf hd hi
      obtain ⟨x0, x1, x2, x3, x4, hxe⟩ : ∃ x0 x1 x2 x3 x4, shAt xs i = ⟨x0, x1, x2, x3, x4⟩ := ⟨_, _, _, _, _, rfl⟩
      have HXE := hid hxe
      rw [hxe]
      clear hxe
      unfold Sh.aggOf Sh.vals
      go_enter Tryz.func45, Tryz.ntmps45
      go_wp2_with fail
      refine (HK.out _ (((Grew.refl w).alloc _).alloc _)).mono ?_
      rintro r w1 ⟨rfl, hg⟩
      have hc := hg.cells.1
      have hfz := hg.cells.2
      have hz : w.heap.size + 1 < w1.heap.size := by have := hg.size; simp at this; omega
      have hG := (((Grew.refl w).alloc _).alloc _).trans hg
      have c0 := (hG.cells.1 _ _ hb).trans HS.out.live
      have HCB := hid (show w1.cell? ⟨w.heap.size, 0, none⟩ = some (.string key) from (hc _ _ (by simp; omega)).trans (by simp [go_sem]))
      have HA1 : Hid (ShsAt w1 (some ⟨b, 0, none⟩) xs) := by
        obtain ⟨a', cap', e', hA'⟩ := shsAt_of (HS.out.grew hG).row
        cases e'; exact hA'
      clear hg
      go_wp2_with fail
      refine (HI.out w1 w.heap.size hG HCB.out _ cap HA1.out).mono ?_
      rintro r w2 ⟨rfl, hg2⟩
      have hc2 := hg2.cells.1
      have hfz2 := hg2.cells.2
      have hz2 : w.heap.size + 1 < w2.heap.size := Nat.lt_of_lt_of_le hz hg2.size
      have hG2 := hG.trans hg2
      have HSu := hid (HS.out.grew hG2)
      have c0 := HSu.out.live
      have s0 := sh_cell HSu.out rfl i HII.out 0 (by omega)
      have s1 := sh_cell HSu.out rfl i HII.out 1 (by omega)
      have s2 := sh_cell HSu.out rfl i HII.out 2 (by omega)
      have s3 := sh_cell HSu.out rfl i HII.out 3 (by omega)
      have s4 := sh_cell HSu.out rfl i HII.out 4 (by omega)
      rw [HXE.out] at s0 s1 s2 s3 s4
      simp only [Sh.vals, List.getElem?_cons_zero, List.getElem?_cons_succ, Nat.add_zero] at s0 s1 s2 s3 s4
      clear hg2 HI HK
      go_wp2_with fail
      refine bodyPost_ret (v := .tuple #[.agg #[.int .i64 x0, .int .i64 x1, .int .i64 x2, .string x3, .string x4], .bool true]) (by simp [results, Tryz.results45, go_sem, hc, hc2, hz, hz2]) rfl ⟨rfl, ?_⟩
      exact (((((hG2.setCell (by simp) _).setCell (by simp) _).setCell (by simp) _).setCell (by simp) _).setCell (by simp) _)
end
end Go.Proofs.YtlgcdneiebjkcaaGreatDoor
