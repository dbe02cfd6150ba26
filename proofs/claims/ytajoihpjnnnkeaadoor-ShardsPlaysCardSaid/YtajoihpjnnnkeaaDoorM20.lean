/- The document's map of shards in memory; the walks of tidewaterref20.New, Find, tidewaternum.In. Then: What stores do to a document's map of shards. -/
import Derived.Test.YtajoihpjnnnkeaaDoorShd1
import Derived.Deep.Upon
import Derived.Test.YtajoihpjnnnkeaaDoorShd3
namespace Go.Proofs.YtajoihpjnnnkeaaDoor
open Go.RowKit Go.Maps
attribute [local go_sem] Oper.semAt_some

theorem shsAt_ref {W : World} {B : Nat} {v : Value} {xs : List Sh} (h : W.ownsRow B 48 5 v xs.length (shFlat xs)) : ∃ a cap, v = .slice a xs.length cap ∧ ShsAt W a xs := by
  rcases Nat.eq_zero_or_pos xs.length with h0 | h0
  · have hx : xs = [] := List.eq_nil_of_length_eq_zero h0
    rcases h.2 with ⟨rfl, _⟩ | ⟨g, cap, cur, rfl, _, hg, _⟩
    · exact ⟨none, 0, by rw [h0], .inl hx⟩
    · exact ⟨_, _, rfl, .inl hx⟩
  · obtain ⟨g, cap, rfl, _, hlt⟩ := h.form h0
    refine ⟨_, _, rfl, .inr ⟨g, 0, rfl, hlt, ?_⟩⟩
    have hc : ∀ j, j < xs.length → ∀ i, i < 5 → W.cell? ⟨g, j * 5 + i, none⟩ = (shAt xs j).vals[i]? := fun j hj i hi => by
      rw [h.cellAt (j * 5 + i) (by omega)]; exact shFlat_get i hi xs j hj
    refine ⟨fun j hj => ?_, fun j hj => ?_, fun j hj => ?_, fun j hj => ?_, fun j hj => ?_⟩ <;> rw [Nat.zero_add]
    · exact hc j hj 0 (by omega)
    · exact hc j hj 1 (by omega)
    · exact hc j hj 2 (by omega)
    · exact hc j hj 3 (by omega)
    · exact hc j hj 4 (by omega)

def intFlat (us : List Int) : List Value := us.map fun n => .int .i64 n
/-- A document's map in memory: block mb: the slices of shards, of used numbers, of events. -/
structure MdIs (w : World) (F : Nat → Prop) (mb : Nat) (vl vu ve : Value) (xs : List Sh) (us : List Int) (ne : Nat) (evs : List Value) : Prop where
  live : w.cell? ⟨mb, 0, none⟩ = some vl
  used : w.cell? ⟨mb, 1, none⟩ = some vu
  ev : w.cell? ⟨mb, 2, none⟩ = some ve
  fz : ∀ i, i < 3 → w.frozen? ⟨mb, i, none⟩ = false
  row : w.ownsRow 0 48 5 vl xs.length (shFlat xs)
  urow : w.ownsRow 0 3 1 vu us.length (intFlat us)
  erow : w.ownsRow 0 112 13 ve ne evs
  foot0 : F mb
  foot1 : ∀ g, vl.ownBlock = some g → F g ∧ g ≠ mb
  foot2 : ∀ g, vu.ownBlock = some g → F g ∧ g ≠ mb ∧ vl.ownBlock ≠ some g
  foot3 : ∀ g, ve.ownBlock = some g → F g ∧ g ≠ mb ∧ vl.ownBlock ≠ some g ∧ vu.ownBlock ≠ some g
  lt : ∀ j, F j → j < w.heap.size
/-- What a document's map holds. -/
structure MdSt where
  xs : List Sh
  us : List Int
  ne : Nat
  evs : List Value
def MdAt (w : World) (F : Nat → Prop) (mb : Nat) (s : MdSt) : Prop := ∃ vl vu ve, MdIs w F mb vl vu ve s.xs s.us s.ne s.evs
section
variable {w w' : World} {F S : Nat → Prop} {mb : Nat} {vl vu ve : Value} {xs : List Sh} {us : List Int} {ne : Nat} {evs : List Value} {s : MdSt}
theorem MdIs.blt (h : MdIs w F mb vl vu ve xs us ne evs) : mb < w.heap.size := cell_lt h.live
theorem MdIs.kept (h : MdIs w F mb vl vu ve xs us ne evs) (g : Only S w w') (hS : ∀ j, F j → ¬ S j) : MdIs w' F mb vl vu ve xs us ne evs where
  live := (g.cell h.blt (hS _ h.foot0) 0).trans h.live
  used := (g.cell h.blt (hS _ h.foot0) _).trans h.used
  ev := (g.cell h.blt (hS _ h.foot0) _).trans h.ev
  fz i hi := (g.frozen h.blt (hS _ h.foot0) _).trans (h.fz i hi)
  row := ownsRow_keep g h.row (fun b hb => hS b (h.foot1 b hb).1)
  urow := ownsRow_keep g h.urow (fun b hb => hS b (h.foot2 b hb).1)
  erow := ownsRow_keep g h.erow (fun b hb => hS b (h.foot3 b hb).1)
  foot0 := h.foot0
  foot1 := h.foot1
  foot2 := h.foot2
  foot3 := h.foot3
  lt j hj := Nat.lt_of_lt_of_le (h.lt j hj) g.size
theorem MdIs.grew (h : MdIs w F mb vl vu ve xs us ne evs) (g : Grew w w') : MdIs w' F mb vl vu ve xs us ne evs := h.kept (g.only fun _ => False) (fun _ _ h => h)
theorem MdAt.kept (h : MdAt w F mb s) (g : Only S w w') (hS : ∀ j, F j → ¬ S j) : MdAt w' F mb s := by
  obtain ⟨a, b, c, h⟩ := h; exact ⟨a, b, c, h.kept g hS⟩
theorem MdAt.grew (h : MdAt w F mb s) (g : Grew w w') : MdAt w' F mb s := by
  obtain ⟨a, b, c, h⟩ := h; exact ⟨a, b, c, h.grew g⟩
end
def MdSt.init : MdSt := ⟨[sh0], [1], 0, []⟩

set_option maxRecDepth 100000 in
theorem new20_any (w : World) : Calls Tryd.prog 15 #[] w fun e w' => ∃ mb, e = .returned (.pointer (some ⟨mb, 0, none⟩)) ∧ Grew w w' ∧ w.heap.size ≤ mb ∧ ∃ F, MdAt w' F mb MdSt.init ∧ ∀ j, F j → w.heap.size ≤ j := by
  go_enter Tryd.func15, Tryd.ntmps15
  go_wp2_with fail
  go_ret
  generalize ho1 : Obj.cells #[.int .i64 1, .int .i64 1, .int .i64 0, .string ⟨#[]⟩, .string ⟨#[]⟩] 48 = o1
  generalize ho2 : Obj.cells #[.int .i64 1] 3 = o2
  generalize ho3 : Obj.cells #[.slice (some ⟨w.heap.size, 0, none⟩) 1 1, .slice (some ⟨w.heap.size + 1, 0, none⟩) 1 1, .slice none 0 0] 105 = o3
  have e1 : (w.alloc o1).heap.size = w.heap.size + 1 := by simp
  have e2 : ((w.alloc o1).alloc o2).heap.size = w.heap.size + 1 + 1 := by simp
  have hr := ownsRow_grew (((Grew.refl (w.alloc o1)).alloc o2).alloc o3) (by rw [← ho1]; exact World.ownsRow_lit (base := 0) (size := 5) w #[.int .i64 1, .int .i64 1, .int .i64 0, .string ⟨#[]⟩, .string ⟨#[]⟩] 1 (Nat.zero_le _) (by decide) rfl : (w.alloc o1).ownsRow 0 48 5 (.slice (some ⟨w.heap.size, 0, none⟩) 1 1) 1 _)
  have hu := ownsRow_grew ((Grew.refl ((w.alloc o1).alloc o2)).alloc o3) (by rw [← ho2]; exact World.ownsRow_lit (base := 0) (size := 1) (w.alloc o1) #[.int .i64 1] 1 (Nat.zero_le _) (by decide) rfl : ((w.alloc o1).alloc o2).ownsRow 0 3 1 (.slice (some ⟨(w.alloc o1).heap.size, 0, none⟩) 1 1) 1 _)
  rw [e1] at hu
  have hb := heap_alloc_new ((w.alloc o1).alloc o2) o3
  rw [e2] at hb
  subst ho3
  refine ⟨w.heap.size + 1 + 1, rfl, (((Grew.refl w).alloc _).alloc _).alloc _, by omega, fun j => j = w.heap.size ∨ j = w.heap.size + 1 ∨ j = w.heap.size + 1 + 1, ⟨_, _, _, ⟨?_, ?_, ?_, ?_, hr, hu, World.ownsRow_nil _ _ _ _, .inr (.inr rfl), ?_, ?_, (fun g hg => by cases hg), ?_⟩⟩, ?_⟩
  · rw [cell_of_row _ _ _ _ _ _ hb]; rfl
  · rw [cell_of_row _ _ _ _ _ _ hb]; rfl
  · rw [cell_of_row _ _ _ _ _ _ hb]; rfl
  · intro i _
    exact frozen_of_row _ _ i _ _ hb
  · intro g hg
    cases hg
    exact ⟨.inl rfl, by dsimp only; omega⟩
  · intro g hg
    cases hg
    exact ⟨.inr (.inl rfl), by dsimp only; omega, fun e => by simp [Value.ownBlock] at e⟩
  · intro j hj
    simp
    omega
  · intro j hj; omega

set_option maxRecDepth 100000 in
set_option maxHeartbeats 1000000 in
theorem find20_any {w : World} {F : Nat → Prop} {mb : Nat} {s : MdSt} (h : MdAt w F mb s) (hx : s.xs.length ≤ 1000000) (id : Int) :
    Calls Tryd.prog 50 #[.pointer (some ⟨mb, 0, none⟩), .int .i64 id] w fun e w' => e = .returned (.int .i64 (Pl.findM s.xs id)) ∧ Grew w w' := by
  obtain ⟨xs, us, ne, evs⟩ := s
  obtain ⟨vl, vu, ve, h⟩ := h
  dsimp only at *
  obtain ⟨a, cap, rfl, hA⟩ := shsAt_ref h.row
  have c0 := h.live
  have hb := h.blt
  have HA := hid hA
  unfold Pl.findM
  clear h hA
  go_enter Tryd.func50, Tryd.ntmps50
  go_wp2_with fail
  go_loopw [12] (fun i wr => ∃ k : Nat, k ≤ xs.length ∧ i = .int .i64 k ∧ Hid ((xs.take k).all (fun c => !(c.id == id)) = true) ∧ Grew w wr) (fun i _ => xs.length - (intOf i).toNat)
  case atStart => exact ⟨0, Nat.zero_le _, rfl, rfl, Grew.refl w⟩
  case round =>
    obtain ⟨k, hk1, rfl, HN, hG⟩ := hrel
    by_cases hlt : k < xs.length
    · rcases HA.out with h0 | ⟨b, off, rfl, hb, hR⟩
      · rw [h0] at hlt; simp at hlt
      have q0 := (hG.cells.1 b (off + k * 5) hb).trans (hR.id k hlt)
      have q1 := (hG.cells.1 b (off + k * 5 + 1) hb).trans (hR.server k hlt)
      have q2 := (hG.cells.1 b (off + k * 5 + 2) hb).trans (hR.since k hlt)
      have q3 := (hG.cells.1 b (off + k * 5 + 3) hb).trans (hR.lo k hlt)
      have q4 := (hG.cells.1 b (off + k * 5 + 4) hb).trans (hR.hi k hlt)
      have hat : shAt xs k = xs[k] := shAt_eq xs k hlt
      have HAT := hid hat
      clear hR hat
      have HS := hid (idx_some (fun c : Sh => c.id == id) xs k hlt HN.out)
      have HN2 := hid (idx_next (fun c : Sh => c.id == id) xs k hlt HN.out)
      rw [← HAT.out] at HS HN2
      generalize shAt xs k = c at *
      clear HAT
      obtain ⟨c0', c1, c2, c3, c4⟩ := c
      dsimp only at *
      cases hpc : (c0' == id) with
      | true =>
        have HS2 := hid (HS.out hpc)
        clear HS HN2
        go_wp2_with fail
        go_ret
        exact ⟨ret_int HS2.out.symm, hG.alloc _⟩
      | false =>
        have HS2 := hid (HN2.out hpc)
        clear HS HN2
        go_wp2_with fail
        go_roundw
        case rel => exact ⟨k + 1, by omega, by go_num, HS2, hG.alloc _⟩
        case measure => simp [intOf]; omega
    · obtain rfl : k = xs.length := by omega
      have HE := hid (idx_none (fun c : Sh => c.id == id) xs (by have := HN.out; rwa [List.take_length] at this))
      go_wp2_with fail
      go_ret
      exact ⟨ret_int HE.out.symm, hG⟩

/-- A slice of numbers: empty, or a row. -/
def IntsAt (W : World) (a : Option Addr) (us : List Int) : Prop := us = [] ∨ ∃ b off, a = some ⟨b, off, none⟩ ∧ b < W.heap.size ∧ ∀ j, j < us.length → W.cell? ⟨b, off + j, none⟩ = some (.int .i64 (us[j]?.getD 0))
theorem IntsAt.grew {W W' : World} {a : Option Addr} {us : List Int} (h : IntsAt W a us) (g : Grew W W') : IntsAt W' a us := by
  rcases h with h | ⟨b, off, e, hb, h⟩
  · exact .inl h
  · exact .inr ⟨b, off, e, Nat.lt_of_lt_of_le hb g.size, fun j hj => (g.cells.1 _ _ hb).trans (h j hj)⟩
theorem intsAt_of {W : World} {B : Nat} {v : Value} {us : List Int} (h : W.ownsRow B 3 1 v us.length (intFlat us)) : ∃ a cap, v = .slice a us.length cap ∧ IntsAt W a us := by
  rcases Nat.eq_zero_or_pos us.length with h0 | h0
  · have hx : us = [] := List.eq_nil_of_length_eq_zero h0
    rcases h.2 with ⟨rfl, _⟩ | ⟨g, cap, cur, rfl, _, hg, _⟩
    · exact ⟨none, 0, by rw [h0], .inl hx⟩
    · exact ⟨_, _, rfl, .inl hx⟩
  · obtain ⟨g, cap, rfl, _, hlt⟩ := h.form h0
    refine ⟨_, _, rfl, .inr ⟨g, 0, rfl, hlt, fun j hj => ?_⟩⟩
    rw [Nat.zero_add, h.cellAt j (by omega)]
    unfold intFlat
    rw [List.getElem?_map, List.getElem?_eq_getElem hj]
    rfl
set_option maxHeartbeats 1000000 in
theorem in_any (w : World) (a : Option Addr) (cap : Nat) (us : List Int) (hA : IntsAt w a us) (hx : us.length ≤ 1000000) (n : Int) :
    Calls Tryd.prog 52 #[.slice a us.length cap, .int .i64 n] w fun e w' => e = .returned (.bool (us.any fun u => u == n)) ∧ Grew w w' := by
  have HA := hid hA
  clear hA
  go_enter Tryd.func52, Tryd.ntmps52
  go_wp2_with fail
  go_loopw [9] (fun i wr => ∃ k : Nat, k ≤ us.length ∧ i = .int .i64 k ∧ Hid ((us.take k).any (fun u => u == n) = false) ∧ Grew w wr) (fun i _ => us.length - (intOf i).toNat)
  case atStart => exact ⟨0, Nat.zero_le _, rfl, rfl, Grew.refl w⟩
  case round =>
    obtain ⟨k, hk1, rfl, HN, hG⟩ := hrel
    by_cases hlt : k < us.length
    · rcases HA.out with h0 | ⟨b, off, rfl, hb, hR⟩
      · rw [h0] at hlt; simp at hlt
      have q0 := (hG.cells.1 b (off + k) hb).trans (hR k hlt)
      have hat : us[k]?.getD 0 = us[k] := by rw [List.getElem?_eq_getElem hlt]; rfl
      rw [hat] at q0
      have HY := hid (fun (h : (us[k] == n) = true) => show true = us.any (fun u => u == n) from (List.any_eq_true.2 ⟨us[k], List.getElem_mem hlt, h⟩).symm)
      have HNX := hid (fun (h : (us[k] == n) = false) => show (us.take (k + 1)).any (fun u => u == n) = false by
        rw [List.take_succ_eq_append_getElem hlt, List.any_append, HN.out]; simp [h])
      clear hR hat
      generalize us[k] = u at *
      cases hpc : (u == n) with
      | true =>
        have HS2 := hid (HY.out hpc)
        clear HY HNX
        go_wp2_with fail
        go_ret
        exact ⟨ret_bool HS2.out, hG⟩
      | false =>
        have HS2 := hid (HNX.out hpc)
        clear HY HNX
        go_wp2_with fail
        go_roundw
        case rel => exact ⟨k + 1, by omega, by go_num, HS2, hG⟩
        case measure => simp [intOf]; omega
    · obtain rfl : k = us.length := by omega
      have HE : Hid (false = us.any fun u => u == n) := by have := HN.out; rw [List.take_length] at this; exact this.symm
      go_wp2_with fail
      go_ret
      exact ⟨ret_bool HE.out, hG⟩
end Go.Proofs.YtajoihpjnnnkeaaDoor

namespace Go.Proofs.YtajoihpjnnnkeaaDoor
open Go.RowKit Go.Maps

/-- What a call leaves that writes into one document's map alone. -/
def MdTurn (w : World) (F : Nat → Prop) (mb : Nat) (s : MdSt) (w' : World) : Prop := Only F w w' ∧ ∃ F', MdAt w' F' mb s ∧ ∀ j, F' j → F j ∨ w.heap.size ≤ j
section
variable {w u : World} {F : Nat → Prop} {mb : Nat} {vl vu ve : Value} {xs ys : List Sh} {us : List Int} {ne : Nat} {evs : List Value} {s s' : MdSt}
theorem MdTurn.of_grew (h : MdAt w F mb s) (g : Grew w u) : MdTurn w F mb s u := ⟨g.only F, F, h.grew g, fun _ => .inl⟩
theorem MdTurn.trans {w1 w2 : World} {F1 : Nat → Prop} (o1 : Only F w w1) (hF1 : ∀ j, F1 j → F j ∨ w.heap.size ≤ j) (h : MdTurn w1 F1 mb s w2) : MdTurn w F mb s w2 := by
  obtain ⟨h1, F', h2, h3⟩ := h
  refine ⟨o1.trans h1 hF1, F', h2, fun j hj => ?_⟩
  rcases h3 j hj with h | h
  · exact hF1 j h
  · exact .inr (Nat.le_trans o1.size h)
theorem md_cell (h : MdIs w F mb vl vu ve xs us ne evs) {b cap : Nat} (hv : vl = .slice (some ⟨b, 0, none⟩) xs.length cap) (i : Nat) (hi : i < xs.length) (k : Nat) (hk : k < 5) : w.cell? ⟨b, i * 5 + k, none⟩ = (shAt xs i).vals[k]? := by
  subst hv
  have := h.row.cellAt (i * 5 + k) (by omega)
  rw [shFlat_get k hk xs i hi] at this
  exact this
/-- The row of shards has turned, in place. -/
theorem MdIs.row_turn (h : MdIs w F mb vl vu ve xs us ne evs) (ho : Only (fun j => some j = vl.ownBlock) w u) (hr : u.ownsRow 0 48 5 vl ys.length (shFlat ys)) : MdIs u F mb vl vu ve ys us ne evs := by
  have n0 : ¬ some mb = vl.ownBlock := fun e => (h.foot1 mb e.symm).2 rfl
  refine ⟨(ho.cell h.blt n0 0).trans h.live, (ho.cell h.blt n0 _).trans h.used, (ho.cell h.blt n0 _).trans h.ev, fun i hi => (ho.frozen h.blt n0 _).trans (h.fz i hi), hr, ?_, ?_, h.foot0, h.foot1, h.foot2, h.foot3, fun j hj => Nat.lt_of_lt_of_le (h.lt j hj) ho.size⟩
  · exact ownsRow_keep ho h.urow (fun b hb e => (h.foot2 b hb).2.2 e.symm)
  · exact ownsRow_keep ho h.erow (fun b hb e => (h.foot3 b hb).2.2.1 e.symm)
/-- One shard's span and since are others. -/
theorem MdIs.cut3 {b cap : Nat} (h : MdIs w F mb (.slice (some ⟨b, 0, none⟩) xs.length cap) vu ve xs us ne evs) (i : Nat) (hi : i < xs.length) (lo hi' : ByteArray) (n : Int) :
    MdIs (((w.setCell ⟨b, i * 5 + 3, none⟩ (.string lo)).setCell ⟨b, i * 5 + 4, none⟩ (.string hi')).setCell ⟨b, i * 5 + 2, none⟩ (.int .i64 n)) F mb (.slice (some ⟨b, 0, none⟩) xs.length cap) vu ve (xs.set i ⟨(shAt xs i).id, (shAt xs i).server, n, lo, hi'⟩) us ne evs := by
  obtain ⟨r1, g1⟩ := h.row.stored (i * 5 + 3) (.string lo)
  obtain ⟨r2, g2⟩ := r1.stored (i * 5 + 4) (.string hi')
  obtain ⟨r3, g3⟩ := r2.stored (i * 5 + 2) (.int .i64 n)
  have hlen : (xs.set i ⟨(shAt xs i).id, (shAt xs i).server, n, lo, hi'⟩).length = xs.length := List.length_set
  refine h.row_turn ((Only.of_grownBy (g1.trans (g2.trans g3))).mono fun j hj => .inl hj) ?_
  · rw [hlen]
    have e : shFlat (xs.set i ⟨(shAt xs i).id, (shAt xs i).server, n, lo, hi'⟩) = (((shFlat xs).set (i * 5 + 3) (.string lo)).set (i * 5 + 4) (.string hi')).set (i * 5 + 2) (.int .i64 n) := by
      rw [shFlat_set xs i hi]
      have hfl : (shFlat xs).length = xs.length * 5 := shFlat_length xs
      have g0 := shFlat_get 0 (by omega) xs i hi
      have g1 := shFlat_get 1 (by omega) xs i hi
      generalize shAt xs i = c at *
      obtain ⟨c0, c1, c2, c3, c4⟩ := c
      generalize shFlat xs = L at *
      simp only [Sh.vals, List.getElem?_cons_zero, List.getElem?_cons_succ, Nat.add_zero] at g0 g1
      apply List.ext_getElem?
      intro j
      rw [List.getElem?_append, List.getElem?_append, List.getElem?_take, List.getElem?_drop, List.getElem?_set, List.getElem?_set, List.getElem?_set]
      simp only [List.length_append, List.length_take, List.length_set, Sh.vals, List.length_cons, List.length_nil]
      rw [Nat.min_eq_left (show i * 5 ≤ L.length by omega)]
      by_cases h1 : j < i * 5
      · rw [if_pos (by omega), if_pos h1, if_pos h1, if_neg (by omega), if_neg (by omega), if_neg (by omega)]
      · by_cases h2 : j = i * 5
        · subst h2; rw [if_pos (by omega), if_neg h1, if_neg (by omega), if_neg (by omega), if_neg (by omega), g0]; simp
        · by_cases h3 : j = i * 5 + 1
          · subst h3; rw [if_pos (by omega), if_neg h1, if_neg (by omega), if_neg (by omega), if_neg (by omega), g1]; simp
          · by_cases h4 : j = i * 5 + 2
            · subst h4; rw [if_pos (by omega), if_neg h1, if_pos rfl, if_pos (by omega)]; simp
            · by_cases h5 : j = i * 5 + 3
              · subst h5; rw [if_pos (by omega), if_neg h1, if_neg (by omega), if_neg (by omega), if_pos rfl, if_pos (by omega)]; simp
              · by_cases h6 : j = i * 5 + 4
                · subst h6; rw [if_pos (by omega), if_neg h1, if_neg (by omega), if_pos rfl, if_pos (by omega)]; simp
                · rw [if_neg (by omega), if_neg (by omega), if_neg (by omega), if_neg (by omega)]
                  congr 1; omega
    rw [e]
    exact r3
/-- One shard's server is another. -/
theorem MdIs.serv {b cap : Nat} (h : MdIs w F mb (.slice (some ⟨b, 0, none⟩) xs.length cap) vu ve xs us ne evs) (i : Nat) (hi : i < xs.length) (n : Int) :
    MdIs (w.setCell ⟨b, i * 5 + 1, none⟩ (.int .i64 n)) F mb (.slice (some ⟨b, 0, none⟩) xs.length cap) vu ve (xs.set i ⟨(shAt xs i).id, n, (shAt xs i).since, (shAt xs i).lo, (shAt xs i).hi⟩) us ne evs := by
  obtain ⟨r1, g1⟩ := h.row.stored (i * 5 + 1) (.int .i64 n)
  have hlen : (xs.set i ⟨(shAt xs i).id, n, (shAt xs i).since, (shAt xs i).lo, (shAt xs i).hi⟩).length = xs.length := List.length_set
  refine h.row_turn ((Only.of_grownBy g1).mono fun j hj => .inl hj) ?_
  · rw [hlen]
    have e : shFlat (xs.set i ⟨(shAt xs i).id, n, (shAt xs i).since, (shAt xs i).lo, (shAt xs i).hi⟩) = (shFlat xs).set (i * 5 + 1) (.int .i64 n) := by
      rw [shFlat_set xs i hi]
      have hfl : (shFlat xs).length = xs.length * 5 := shFlat_length xs
      have g0 := shFlat_get 0 (by omega) xs i hi
      have g2 := shFlat_get 2 (by omega) xs i hi
      have g3 := shFlat_get 3 (by omega) xs i hi
      have g4 := shFlat_get 4 (by omega) xs i hi
      generalize shAt xs i = c at *
      obtain ⟨c0, c1, c2, c3, c4⟩ := c
      generalize shFlat xs = L at *
      simp only [Sh.vals, List.getElem?_cons_zero, List.getElem?_cons_succ, Nat.add_zero] at g0 g2 g3 g4
      apply List.ext_getElem?
      intro j
      rw [List.getElem?_append, List.getElem?_append, List.getElem?_take, List.getElem?_drop, List.getElem?_set]
      simp only [List.length_append, List.length_take, Sh.vals, List.length_cons, List.length_nil]
      rw [Nat.min_eq_left (show i * 5 ≤ L.length by omega)]
      by_cases h1 : j < i * 5
      · rw [if_pos (by omega), if_pos h1, if_pos h1, if_neg (by omega)]
      · by_cases h2 : j = i * 5
        · subst h2; rw [if_pos (by omega), if_neg h1, if_neg (by omega), g0]; simp
        · by_cases h3 : j = i * 5 + 1
          · subst h3; rw [if_pos (by omega), if_neg h1, if_pos rfl, if_pos (by omega)]; simp
          · by_cases h4 : j = i * 5 + 2
            · subst h4; rw [if_pos (by omega), if_neg h1, if_neg (by omega), g2]; simp
            · by_cases h5 : j = i * 5 + 3
              · subst h5; rw [if_pos (by omega), if_neg h1, if_neg (by omega), g3]; simp
              · by_cases h6 : j = i * 5 + 4
                · subst h6; rw [if_pos (by omega), if_neg h1, if_neg (by omega), g4]; simp
                · rw [if_neg (by omega), if_neg (by omega)]
                  congr 1; omega
    rw [e]
    exact r1
/-- The slice of field 0 is another: in the old block, or in a new one. -/
theorem MdIs.live_set (h : MdIs w F mb vl vu ve xs us ne evs) {ys : List Sh} (ho : Only (fun j => some j = vl.ownBlock) w u) {r : Value} (hform : ∀ g, r.ownBlock = some g → vl.ownBlock = some g ∨ w.heap.size ≤ g) (hr : u.ownsRow 0 48 5 r ys.length (shFlat ys)) :
    MdTurn w F mb ⟨ys, us, ne, evs⟩ (u.setCell ⟨mb, 0, none⟩ r) := by
  have h1 : ∀ g, vl.ownBlock = some g → g < w.heap.size := fun g hg => h.lt g (h.foot1 g hg).1
  have h2 : ∀ g, vu.ownBlock = some g → g < w.heap.size := fun g hg => h.lt g (h.foot2 g hg).1
  have h3 : ∀ g, ve.ownBlock = some g → g < w.heap.size := fun g hg => h.lt g (h.foot3 g hg).1
  have hfF : ∀ g, vl.ownBlock = some g → F g ∧ g ≠ mb := fun g hg => h.foot1 g hg
  have n0 : ¬ some mb = vl.ownBlock := fun e => (hfF mb e.symm).2 rfl
  have hb := h.blt
  have hc : u.cell? ⟨mb, 0, none⟩ = some vl := (ho.cell hb n0 _).trans h.live
  have o2 := Only.setCell u ⟨mb, 0, none⟩ r
  have hgmb : ∀ g, r.ownBlock = some g → g ≠ mb := by
    intro g hg
    rcases hform g hg with h4 | h4
    · exact (hfF g h4).2
    · omega
  have hlt : ∀ g, r.ownBlock = some g → g < u.heap.size := by
    intro g hg
    rcases hr.2 with ⟨e, _⟩ | ⟨b, c, cur, e, _, hh, _⟩
    · rw [e] at hg; cases hg
    · rw [e] at hg; cases hg; exact (Array.getElem?_eq_some_iff.1 hh).1
  have cne : ∀ k, k ≠ 0 → (u.setCell ⟨mb, 0, none⟩ r).cell? ⟨mb, k, none⟩ = u.cell? ⟨mb, k, none⟩ := fun k hk => World.cell?_setCell_other _ _ _ _ (fun e => hk (by injection e with _ e2; exact e2.symm))
  refine ⟨(ho.mono fun j hj => .inl (hfF j hj.symm).1).then (o2.mono fun j hj => .inl (by subst hj; exact h.foot0)), fun j => F j ∨ r.ownBlock = some j, ⟨r, vu, ve, ?_⟩, ?_⟩
  · refine ⟨by simp [World.cell?_setCell_same, hc], by rw [cne _ (by omega)]; exact (ho.cell hb n0 _).trans h.used, by rw [cne _ (by omega)]; exact (ho.cell hb n0 _).trans h.ev, fun i hi => by rw [World.frozen?_setCell]; exact (ho.frozen hb n0 _).trans (h.fz i hi), ?_, ?_, ?_, .inl h.foot0, fun g hg => ?_, fun g hg => ?_, fun g hg => ?_, ?_⟩
    · exact ownsRow_keep o2 hr (fun b hb e => hgmb b hb e)
    · exact ownsRow_keep o2 (ownsRow_keep ho h.urow (fun b hb e => (h.foot2 b hb).2.2 e.symm)) (fun b hb e => (h.foot2 b hb).2.1 e)
    · exact ownsRow_keep o2 (ownsRow_keep ho h.erow (fun b hb e => (h.foot3 b hb).2.2.1 e.symm)) (fun b hb e => (h.foot3 b hb).2.1 e)
    · exact ⟨.inr hg, hgmb g hg⟩
    · exact ⟨.inl (h.foot2 g hg).1, (h.foot2 g hg).2.1, (fun e => by rcases hform g e with h4 | h4; exact (h.foot2 g hg).2.2 h4; have := h2 g hg; omega)⟩
    · exact ⟨.inl (h.foot3 g hg).1, (h.foot3 g hg).2.1, (fun e => by rcases hform g e with h4 | h4; exact (h.foot3 g hg).2.2.1 h4; have := h3 g hg; omega), (h.foot3 g hg).2.2.2⟩
    · intro j hj
      rcases hj with hj | hj
      · exact Nat.lt_of_lt_of_le (h.lt j hj) (Nat.le_trans ho.size o2.size)
      · exact Nat.lt_of_lt_of_le (hlt j hj) o2.size
  · intro j hj
    rcases hj with hj | hj
    · exact .inl hj
    · rcases hform j hj with h4 | h4
      · exact .inl (hfF j h4).1
      · exact .inr h4

/-- The slice of field 1 is another: in the old block, or in a new one. -/
theorem MdIs.used_set (h : MdIs w F mb vl vu ve xs us ne evs) {us' : List Int} (ho : Only (fun j => some j = vu.ownBlock) w u) {r : Value} (hform : ∀ g, r.ownBlock = some g → vu.ownBlock = some g ∨ w.heap.size ≤ g) (hr : u.ownsRow 0 3 1 r us'.length (intFlat us')) :
    MdTurn w F mb ⟨xs, us', ne, evs⟩ (u.setCell ⟨mb, 1, none⟩ r) := by
  have h1 : ∀ g, vl.ownBlock = some g → g < w.heap.size := fun g hg => h.lt g (h.foot1 g hg).1
  have h2 : ∀ g, vu.ownBlock = some g → g < w.heap.size := fun g hg => h.lt g (h.foot2 g hg).1
  have h3 : ∀ g, ve.ownBlock = some g → g < w.heap.size := fun g hg => h.lt g (h.foot3 g hg).1
  have hfF : ∀ g, vu.ownBlock = some g → F g ∧ g ≠ mb := fun g hg => ⟨(h.foot2 g hg).1, (h.foot2 g hg).2.1⟩
  have n0 : ¬ some mb = vu.ownBlock := fun e => (hfF mb e.symm).2 rfl
  have hb := h.blt
  have hc : u.cell? ⟨mb, 1, none⟩ = some vu := (ho.cell hb n0 _).trans h.used
  have o2 := Only.setCell u ⟨mb, 1, none⟩ r
  have hgmb : ∀ g, r.ownBlock = some g → g ≠ mb := by
    intro g hg
    rcases hform g hg with h4 | h4
    · exact (hfF g h4).2
    · omega
  have hlt : ∀ g, r.ownBlock = some g → g < u.heap.size := by
    intro g hg
    rcases hr.2 with ⟨e, _⟩ | ⟨b, c, cur, e, _, hh, _⟩
    · rw [e] at hg; cases hg
    · rw [e] at hg; cases hg; exact (Array.getElem?_eq_some_iff.1 hh).1
  have cne : ∀ k, k ≠ 1 → (u.setCell ⟨mb, 1, none⟩ r).cell? ⟨mb, k, none⟩ = u.cell? ⟨mb, k, none⟩ := fun k hk => World.cell?_setCell_other _ _ _ _ (fun e => hk (by injection e with _ e2; exact e2.symm))
  refine ⟨(ho.mono fun j hj => .inl (hfF j hj.symm).1).then (o2.mono fun j hj => .inl (by subst hj; exact h.foot0)), fun j => F j ∨ r.ownBlock = some j, ⟨vl, r, ve, ?_⟩, ?_⟩
  · refine ⟨by rw [cne _ (by omega)]; exact (ho.cell hb n0 _).trans h.live, by simp [World.cell?_setCell_same, hc], by rw [cne _ (by omega)]; exact (ho.cell hb n0 _).trans h.ev, fun i hi => by rw [World.frozen?_setCell]; exact (ho.frozen hb n0 _).trans (h.fz i hi), ?_, ?_, ?_, .inl h.foot0, fun g hg => ?_, fun g hg => ?_, fun g hg => ?_, ?_⟩
    · exact ownsRow_keep o2 (ownsRow_keep ho h.row (fun b hb e => (h.foot2 b e.symm).2.2 hb)) (fun b hb e => (h.foot1 b hb).2 e)
    · exact ownsRow_keep o2 hr (fun b hb e => hgmb b hb e)
    · exact ownsRow_keep o2 (ownsRow_keep ho h.erow (fun b hb e => (h.foot3 b hb).2.2.2 e.symm)) (fun b hb e => (h.foot3 b hb).2.1 e)
    · exact ⟨.inl (h.foot1 g hg).1, (h.foot1 g hg).2⟩
    · exact ⟨.inr hg, hgmb g hg, (fun e => by rcases hform g hg with h4 | h4; exact (h.foot2 g h4).2.2 e; have := h1 g e; omega)⟩
    · exact ⟨.inl (h.foot3 g hg).1, (h.foot3 g hg).2.1, (h.foot3 g hg).2.2.1, (fun e => by rcases hform g e with h4 | h4; exact (h.foot3 g hg).2.2.2 h4; have := h3 g hg; omega)⟩
    · intro j hj
      rcases hj with hj | hj
      · exact Nat.lt_of_lt_of_le (h.lt j hj) (Nat.le_trans ho.size o2.size)
      · exact Nat.lt_of_lt_of_le (hlt j hj) o2.size
  · intro j hj
    rcases hj with hj | hj
    · exact .inl hj
    · rcases hform j hj with h4 | h4
      · exact .inl (hfF j h4).1
      · exact .inr h4

/-- The slice of field 2 is another: in the old block, or in a new one. -/
theorem MdIs.ev_set (h : MdIs w F mb vl vu ve xs us ne evs) {ne' : Nat} {evs' : List Value} (ho : Only (fun j => some j = ve.ownBlock) w u) {r : Value} (hform : ∀ g, r.ownBlock = some g → ve.ownBlock = some g ∨ w.heap.size ≤ g) (hr : u.ownsRow 0 112 13 r ne' evs') :
    MdTurn w F mb ⟨xs, us, ne', evs'⟩ (u.setCell ⟨mb, 2, none⟩ r) := by
  have h1 : ∀ g, vl.ownBlock = some g → g < w.heap.size := fun g hg => h.lt g (h.foot1 g hg).1
  have h2 : ∀ g, vu.ownBlock = some g → g < w.heap.size := fun g hg => h.lt g (h.foot2 g hg).1
  have h3 : ∀ g, ve.ownBlock = some g → g < w.heap.size := fun g hg => h.lt g (h.foot3 g hg).1
  have hfF : ∀ g, ve.ownBlock = some g → F g ∧ g ≠ mb := fun g hg => ⟨(h.foot3 g hg).1, (h.foot3 g hg).2.1⟩
  have n0 : ¬ some mb = ve.ownBlock := fun e => (hfF mb e.symm).2 rfl
  have hb := h.blt
  have hc : u.cell? ⟨mb, 2, none⟩ = some ve := (ho.cell hb n0 _).trans h.ev
  have o2 := Only.setCell u ⟨mb, 2, none⟩ r
  have hgmb : ∀ g, r.ownBlock = some g → g ≠ mb := by
    intro g hg
    rcases hform g hg with h4 | h4
    · exact (hfF g h4).2
    · omega
  have hlt : ∀ g, r.ownBlock = some g → g < u.heap.size := by
    intro g hg
    rcases hr.2 with ⟨e, _⟩ | ⟨b, c, cur, e, _, hh, _⟩
    · rw [e] at hg; cases hg
    · rw [e] at hg; cases hg; exact (Array.getElem?_eq_some_iff.1 hh).1
  have cne : ∀ k, k ≠ 2 → (u.setCell ⟨mb, 2, none⟩ r).cell? ⟨mb, k, none⟩ = u.cell? ⟨mb, k, none⟩ := fun k hk => World.cell?_setCell_other _ _ _ _ (fun e => hk (by injection e with _ e2; exact e2.symm))
  refine ⟨(ho.mono fun j hj => .inl (hfF j hj.symm).1).then (o2.mono fun j hj => .inl (by subst hj; exact h.foot0)), fun j => F j ∨ r.ownBlock = some j, ⟨vl, vu, r, ?_⟩, ?_⟩
  · refine ⟨by rw [cne _ (by omega)]; exact (ho.cell hb n0 _).trans h.live, by rw [cne _ (by omega)]; exact (ho.cell hb n0 _).trans h.used, by simp [World.cell?_setCell_same, hc], fun i hi => by rw [World.frozen?_setCell]; exact (ho.frozen hb n0 _).trans (h.fz i hi), ?_, ?_, ?_, .inl h.foot0, fun g hg => ?_, fun g hg => ?_, fun g hg => ?_, ?_⟩
    · exact ownsRow_keep o2 (ownsRow_keep ho h.row (fun b hb e => (h.foot3 b e.symm).2.2.1 hb)) (fun b hb e => (h.foot1 b hb).2 e)
    · exact ownsRow_keep o2 (ownsRow_keep ho h.urow (fun b hb e => (h.foot3 b e.symm).2.2.2 hb)) (fun b hb e => (h.foot2 b hb).2.1 e)
    · exact ownsRow_keep o2 hr (fun b hb e => hgmb b hb e)
    · exact ⟨.inl (h.foot1 g hg).1, (h.foot1 g hg).2⟩
    · exact ⟨.inl (h.foot2 g hg).1, (h.foot2 g hg).2.1, (h.foot2 g hg).2.2⟩
    · exact ⟨.inr hg, hgmb g hg, (fun e => by rcases hform g hg with h4 | h4; exact (h.foot3 g h4).2.2.1 e; have := h1 g e; omega), (fun e => by rcases hform g hg with h4 | h4; exact (h.foot3 g h4).2.2.2 e; have := h2 g e; omega)⟩
    · intro j hj
      rcases hj with hj | hj
      · exact Nat.lt_of_lt_of_le (h.lt j hj) (Nat.le_trans ho.size o2.size)
      · exact Nat.lt_of_lt_of_le (hlt j hj) o2.size
  · intro j hj
    rcases hj with hj | hj
    · exact .inl hj
    · rcases hform j hj with h4 | h4
      · exact .inl (hfF j h4).1
      · exact .inr h4

end
end Go.Proofs.YtajoihpjnnnkeaaDoor
