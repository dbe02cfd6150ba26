/- PkO, Dd5: one text. -/
import Derived.Test.YtoiahcgaffffbaaGreatDoorFinStatePlaysQ20
import Derived.Test.YtoiahcgaffffbaaGreatDoorFinStatePlaysQ2
set_option linter.unusedVariables false
set_option linter.unusedSectionVars false
set_option linter.unusedSimpArgs false
namespace Go.Proofs.YtoiahcgaffffbaaGreatDoor
open Go.RowKit Go.Maps
attribute [local go_sem] Oper.semAt_some
structure OutIs (w : World) (G : Nat → Prop) (ob : Nat) (v : Value) (bs : List Int) : Prop where
  c0 : w.cell? ⟨ob, 0, none⟩ = some v
  f0 : w.frozen? ⟨ob, 0, none⟩ = false
  c1 : w.cell? ⟨ob, 1, none⟩ = some .nilIface
  row : w.ownsRow 0 5 1 v bs.length (u8Flat bs)
  foot : G ob
  own : ∀ g, v.ownBlock = some g → G g ∧ g ≠ ob
  lt : ∀ j, G j → j < w.heap.size
def OutAt (w : World) (G : Nat → Prop) (ob : Nat) (bs : List Int) : Prop := ∃ v, OutIs w G ob v bs
def OutTurn (w : World) (G : Nat → Prop) (ob : Nat) (bs : List Int) (w' : World) : Prop := Only G w w' ∧ ∃ G', OutAt w' G' ob bs ∧ ∀ j, G' j → G j ∨ w.heap.size ≤ j
theorem OutIs.kept {w w' : World} {G S : Nat → Prop} {ob : Nat} {v : Value} {bs : List Int} (h : OutIs w G ob v bs) (g : Only S w w') (hS : ∀ j, G j → ¬ S j) : OutIs w' G ob v bs where
  c0 := (g.cell (cell_lt h.c0) (hS _ h.foot) 0).trans h.c0
  f0 := (g.frozen (cell_lt h.c0) (hS _ h.foot) 0).trans h.f0
  c1 := (g.cell (cell_lt h.c0) (hS _ h.foot) 1).trans h.c1
  row := ownsRow_kept h.row g fun b hb => hS b (h.own b hb).1
  foot := h.foot
  own := h.own
  lt := fun j hj => Nat.lt_of_lt_of_le (h.lt j hj) g.size
theorem OutAt.kept {w w' : World} {G S : Nat → Prop} {ob : Nat} {bs : List Int} (h : OutAt w G ob bs) (g : Only S w w') (hS : ∀ j, G j → ¬ S j) : OutAt w' G ob bs := by obtain ⟨v, h⟩ := h; exact ⟨v, h.kept g hS⟩
theorem OutAt.grew {w w' : World} {G : Nat → Prop} {ob : Nat} {bs : List Int} (h : OutAt w G ob bs) (g : Grew w w') : OutAt w' G ob bs := h.kept (g.only fun _ => False) (fun _ _ h => h)
theorem OutAt.lt {w : World} {G : Nat → Prop} {ob : Nat} {bs : List Int} (h : OutAt w G ob bs) : ∀ j, G j → j < w.heap.size := by obtain ⟨v, h⟩ := h; exact h.lt
theorem OutAt.new (w : World) (T : TypeId) : OutAt (w.alloc (.cells #[.slice none 0 0, .nilIface] T)) (fun j => j = w.heap.size) w.heap.size [] :=
  ⟨.slice none 0 0, by simp [go_sem], by simp [go_sem], by simp [go_sem], World.ownsRow_nil _ _ _ _, rfl, (fun g h => by cases h), fun j hj => by rw [hj]; simp⟩
theorem OutTurn.trans {w w1 w2 : World} {G : Nat → Prop} {ob : Nat} {bs cs : List Int} (h : OutTurn w G ob bs w1) (k : ∀ G1, OutAt w1 G1 ob bs → OutTurn w1 G1 ob cs w2) : OutTurn w G ob cs w2 := by
  obtain ⟨g1, G1, h1, hG⟩ := h
  obtain ⟨g2, G2, h2, h3⟩ := k G1 h1
  refine ⟨g1.trans g2 hG, G2, h2, fun j hj => ?_⟩
  rcases h3 j hj with h | h
  · exact hG j h
  · exact .inr (Nat.le_trans g1.size h)
theorem OutTurn.step {w w1 w2 : World} {G G1 : Nat → Prop} {ob : Nat} {cs : List Int} (g1 : Only G w w1) (hG : ∀ j, G1 j → G j ∨ w.heap.size ≤ j) (h : OutTurn w1 G1 ob cs w2) : OutTurn w G ob cs w2 := by
  obtain ⟨g2, G2, h2, h3⟩ := h
  refine ⟨g1.trans g2 hG, G2, h2, fun j hj => ?_⟩
  rcases h3 j hj with h | h
  · exact hG j h
  · exact .inr (Nat.le_trans g1.size h)
theorem OutTurn.refl {w : World} {G : Nat → Prop} {ob : Nat} {bs : List Int} (h : OutAt w G ob bs) : OutTurn w G ob bs w := ⟨Only.refl _ _, G, h, fun j hj => .inl hj⟩
theorem OutTurn.grew {w w1 w2 : World} {G : Nat → Prop} {ob : Nat} {bs : List Int} (h : OutTurn w G ob bs w1) (g : Grew w1 w2) : OutTurn w G ob bs w2 := by
  obtain ⟨g1, G1, h1, hG⟩ := h
  exact ⟨g1.grewT g, G1, h1.grew g, hG⟩
theorem OutTurn.new {w0 w w1 : World} {G : Nat → Prop} {ob : Nat} {bs : List Int} (h : OutTurn w G ob bs w1) (g : Grew w0 w) (hG : ∀ j, G j → w0.heap.size ≤ j) : Grew w0 w1 := ((g.only _).then h.1).grew hG
theorem OutIs.store {w y : World} {G : Nat → Prop} {ob : Nat} {v v' : Value} {bs cs : List Int} (h : OutIs w G ob v bs) (hO : Only (fun j => some j = v.ownBlock) w y) (hr : y.ownsRow 0 5 1 v' cs.length (u8Flat cs)) (ho : ∀ g, v'.ownBlock = some g → v.ownBlock = some g ∨ w.heap.size ≤ g) : OutTurn w G ob cs (y.setCell ⟨ob, 0, none⟩ v') := by
  have hob := cell_lt h.c0
  have hn : ¬ some ob = v.ownBlock := fun e => (h.own _ e.symm).2 rfl
  have hc := (hO.cell hob hn 0).trans h.c0
  have hf := (hO.frozen hob hn 0).trans h.f0
  have hc1 := (hO.cell hob hn 1).trans h.c1
  have hset : Only (fun j => j = ob) y (y.setCell ⟨ob, 0, none⟩ v') := Only.setCell y ⟨ob, 0, none⟩ _
  have hG : ∀ j, some j = v.ownBlock → G j := fun j hj => (h.own j hj.symm).1
  have hne : ∀ g, v'.ownBlock = some g → g ≠ ob := fun g hg e => by
    rcases ho g hg with h1 | h1
    · exact (h.own g h1).2 e
    · subst e; exact absurd (Nat.lt_of_lt_of_le hob h1) (Nat.lt_irrefl _)
  refine ⟨(hO.mono fun j hj => .inl (hG j hj)).then (hset.mono fun j (hj : j = ob) => .inl (by rw [hj]; exact h.foot)), fun j => G j ∨ v'.ownBlock = some j, ⟨v', by simp [go_sem, hc], by simp [go_sem, hf], ?_, ownsRow_kept hr hset fun b hb (e : b = ob) => hne b hb e, .inl h.foot, fun g hg => ⟨.inr hg, hne g hg⟩, fun j hj => ?_⟩, fun j hj => ?_⟩
  · rw [World.cell?_setCell_other _ _ _ _ (by simp)]; exact hc1
  · rcases hj with hj | hj
    · exact Nat.lt_of_lt_of_le (h.lt j hj) (Nat.le_trans hO.size hset.size)
    · exact Nat.lt_of_lt_of_le (hr.lt j hj).2 hset.size
  · rcases hj with hj | hj
    · exact .inl hj
    · rcases ho j hj with h1 | h1
      · exact .inl (hG j h1.symm)
      · exact .inr h1
theorem wpList_append_bytes {ops : Array Oper} {rest : List Oper} {o : Oper} {a : Act} {Q : Exit → Act → World → Prop} (hgd : o.guard = none) (s x : Operand)
    (ho : o.op = .call { callee := .builtin .append, args := #[s, x], argTypes := #[44, 44] }) {w : World} {B : Nat} {v : Value} {m : Nat} {ys xs : List Int} (hs : a.eval s = v) (hown : w.ownsRow B 5 1 v m (u8Flat ys))
    {ao : Option Addr} {n cap : Nat} (hx : a.eval x = .slice ao n cap) (hn : n = xs.length) (hA : BytesAt w ao xs) (hf : SlForm ao cap) (hbig : m + n ≤ 100000000) (hB : B ≤ w.heap.size)
    (h : ∀ a' cap' w', w'.ownsRow B 5 1 (.slice a' (m + n) cap') (m + n) (u8Flat (ys ++ xs)) → w.grownBy w' v.ownBlock → (∀ g, Value.ownBlock (.slice a' (m + n) cap') = some g → v.ownBlock = some g ∨ g = w.heap.size) → wpList Tryz.prog ops Q rest (a.put o.dst (.slice a' (m + n) cap')) w') : wpList Tryz.prog ops Q (o :: rest) a w := by
  obtain ⟨a', cap', w', hr, h2, h3, h4⟩ := run_append_bytes hown hn hA hf hbig hB o.type
  exact Lib.wpList_append_run w hgd s x _ _ ho _ _ hs hx _ _ hr (h a' cap' w' h2 h3 h4)
theorem wpList_append_text {ops : Array Oper} {rest : List Oper} {o : Oper} {a : Act} {Q : Exit → Act → World → Prop} (hgd : o.guard = none) (s x : Operand)
    (ho : o.op = .call { callee := .builtin .append, args := #[s, x], argTypes := #[44, 9] }) {w : World} {B : Nat} {v : Value} {m : Nat} {ys : List Int} (hs : a.eval s = v) (hown : w.ownsRow B 5 1 v m (u8Flat ys))
    {t : ByteArray} (hx : a.eval x = .string t) (hbig : m + t.size ≤ 100000000) (hB : B ≤ w.heap.size)
    (h : ∀ v' w', w'.ownsRow B 5 1 v' (m + t.size) (u8Flat (ys ++ strNums t)) → w.grownBy w' v.ownBlock → (∀ g, v'.ownBlock = some g → v.ownBlock = some g ∨ g = w.heap.size) → wpList Tryz.prog ops Q rest (a.put o.dst v') w') : wpList Tryz.prog ops Q (o :: rest) a w := by
  obtain ⟨v', w', hr, h2, h3, h4⟩ := run_append_text hown t hbig hB o.type
  exact Lib.wpList_append_run w hgd s x _ _ ho _ _ hs hx _ _ hr (h v' w' h2 h3 h4)
theorem bytes_one {w : World} {b : Nat} {n : Int} (h : w.heap[b]? = some (.cells #[.int .u8 n] 5 (0, 0))) : BytesAt w (some ⟨b, 0, none⟩) [n] := by
  refine .inr ⟨b, 0, rfl, (Array.getElem?_eq_some_iff.1 h).1, fun j m hj => ?_⟩
  have hj0 : j = 0 := by have := (List.getElem?_eq_some_iff.1 hj).1; simp at this; exact this
  subst hj0
  simp at hj
  subst hj
  simp [World.cell?, h]
theorem wrap_u8 {n : Int} (h0 : 0 ≤ n) (h1 : n < 256) : IntKind.u8.wrap n = n := by unfold IntKind.wrap; simp [IntKind.bits, IntKind.signed]; omega
set_option maxRecDepth 100000 in
set_option maxHeartbeats 4000000 in
theorem outNum_any {w : World} {G : Nat → Prop} {ob : Nat} {bs : List Int} (h : OutAt w G ob bs) (n : Nat) (hn : n < 4611686018427387904) (hb : bs.length ≤ 90000000) :
    Calls Tryz.prog 67 #[.pointer (some ⟨ob, 0, none⟩), .int .i64 n] w fun e w' => e = .returned (.tuple #[]) ∧ OutTurn w G ob (bs ++ Pl.numB n) w' := by
  have hlen := Pl.numB_len 8 n (by omega)
  have HH := hid h
  have i1 : ¬ (n : Int) < 0 := by omega
  have i2 : ¬ (4611686018427387903 : Int) < (n : Int) := by omega
  clear h
  go_enter Tryz.func67, Tryz.ntmps67
  go_wp2_with fail
  go_loopw [1] (fun i wr => ∃ (k : Nat) (cs : List Int), i = .int .i64 k ∧ k ≤ n ∧ Hid (cs ++ Pl.numB k = bs ++ Pl.numB n) ∧ Hid (OutTurn w G ob cs wr)) (fun i _ => (intOf i).toNat)
  case atStart => exact ⟨n, bs, rfl, Nat.le_refl _, rfl, OutTurn.refl HH.out⟩
  case round =>
    obtain ⟨k, cs, rfl, hk, HE, HT⟩ := hrel
    obtain ⟨g1, G1, ⟨v, hI⟩, hG⟩ := HT.out
    have HI := hid hI
    obtain ⟨a, cap, rfl, hA, hS, hcap⟩ := bytesAt_of hI.row
    have c0 := hI.c0
    have f0 := hI.f0
    have hob := cell_lt c0
    have hlc : cs.length ≤ 90000010 := by
      have := congrArg List.length HE.out
      rw [List.length_append, List.length_append] at this
      omega
    have HG1 := hid g1
    have HGG := hid hG
    clear hI hA hS g1 hG
    -- the byte that is written, and what it leaves
    have HW := hid (fun (q : Int) (a' : Option Addr) (cap' : Nat) (w3 : World) (hrow : w3.ownsRow 0 5 1 (.slice a' (cs.length + 1) cap') (cs.length + 1) (u8Flat (cs ++ [q]))) (hgr : (wr.alloc (.cells #[.int .u8 q] 5)).grownBy w3 (Value.ownBlock (.slice a cs.length cap))) (how : ∀ g, Value.ownBlock (.slice a' (cs.length + 1) cap') = some g → Value.ownBlock (.slice a cs.length cap) = some g ∨ g = wr.heap.size + 1) => show (w3.cell? ⟨ob, 0, none⟩ = some (.slice a cs.length cap) ∧ w3.frozen? ⟨ob, 0, none⟩ = false ∧ OutTurn w G ob (cs ++ [q]) (w3.setCell ⟨ob, 0, none⟩ (.slice a' (cs.length + 1) cap'))) from by
      have hO : Only (fun j => some j = Value.ownBlock (.slice a cs.length cap)) wr w3 := (((Grew.refl wr).alloc _).only _).then (Only.of_grownBy hgr)
      have hn : ¬ some ob = Value.ownBlock (.slice a cs.length cap) := fun e => (HI.out.own _ e.symm).2 rfl
      refine ⟨(hO.cell hob hn 0).trans HI.out.c0, (hO.frozen hob hn 0).trans HI.out.f0, OutTurn.step HG1.out HGG.out (HI.out.store hO ?_ fun g hg => ?_)⟩
      · rw [show (cs ++ [q]).length = cs.length + 1 by simp]; exact hrow
      · rcases how g hg with h | h
        · exact .inl h
        · exact .inr (by rw [h]; omega))
    by_cases h128 : k < 128
    · have j1 : ¬ (128 : Int) ≤ (k : Int) := by omega
      have hw : IntKind.u8.wrap (k : Int) = (k : Int) := wrap_u8 (by omega) (by omega)
      have HEND : Hid (cs ++ [(k : Int)] = bs ++ Pl.numB n) := by unfold Hid; rw [← HE.out, Pl.numB_small h128]
      go_wp2_with (at_builtin; refine wpList_append_bytes rfl _ _ rfl rfl (ownsRow_grew ((Grew.refl wr).alloc _) HI.out.row) rfl rfl (bytes_one (n := k) (heap_alloc_new wr _)) (.inr ⟨_, _, rfl⟩) (by simp only [List.length_cons, List.length_nil]; omega) (Nat.zero_le _) ?_)
      intro a' cap' w3 hrow hgr how
      obtain ⟨c3, f3, hT⟩ := HW.out _ a' cap' w3 hrow hgr how
      have hob3 := cell_lt c3
      rw [HEND.out] at hT
      have HFIN := hid hT
      clear hrow hgr how hT HEND
      go_wp2_with fail
      go_end0
      exact ⟨rfl, HFIN.out⟩
    · have j1 : (128 : Int) ≤ (k : Int) := by omega
      have hr : ((k : Int) % 128 + 128) = ((k % 128 + 128 : Nat) : Int) := by omega
      have HR := hid hr
      clear hr
      go_wp2_with (at_builtin; refine wpList_append_bytes rfl _ _ rfl rfl (ownsRow_grew ((Grew.refl wr).alloc _) HI.out.row) rfl rfl (bytes_one (n := (k : Int) % 128 + 128) (heap_alloc_new wr _)) (.inr ⟨_, _, rfl⟩) (by simp only [List.length_cons, List.length_nil]; omega) (Nat.zero_le _) ?_)
      intro a' cap' w3 hrow hgr how
      obtain ⟨c3, f3, hT⟩ := HW.out _ a' cap' w3 hrow hgr how
      have hob3 := cell_lt c3
      have HFIN := hid hT
      clear hrow hgr how hT
      go_wp2_with fail
      go_roundw
      case rel => exact ⟨k / 128, cs ++ [(k : Int) % 128 + 128], by go_num, by omega, by unfold Hid; rw [← HE.out, Pl.numB_great h128, HR.out]; simp, HFIN⟩
      case measure => simp [intOf]; omega
set_option maxRecDepth 100000 in
set_option maxHeartbeats 4000000 in
theorem outText_any {w : World} {G : Nat → Prop} {ob : Nat} {bs : List Int} (h : OutAt w G ob bs) (s : ByteArray) (hs : s.size ≤ 1000000) (hb : bs.length ≤ 80000000) :
    Calls Tryz.prog 66 #[.pointer (some ⟨ob, 0, none⟩), .string s] w fun e w' => e = .returned (.tuple #[]) ∧ OutTurn w G ob (bs ++ Pl.textB s) w' := by
  have hlen := Pl.numB_len 8 s.size (by omega)
  have HN := hid (outNum_any h s.size (by omega) (by omega))
  clear h
  go_enter Tryz.func66, Tryz.ntmps66
  go_wp2_with fail
  refine HN.out.mono ?_
  rintro e wr ⟨rfl, g1, G1, ⟨v, hI⟩, hG⟩
  have HI := hid hI
  obtain ⟨a, cap, rfl, hA, hS, hcap⟩ := bytesAt_of hI.row
  have c0 := hI.c0
  have hob := cell_lt c0
  have HG1 := hid g1
  have HGG := hid hG
  clear hI hA hS g1 hG
  obtain ⟨cs, hcs⟩ : ∃ cs, cs = bs ++ Pl.numB s.size := ⟨_, rfl⟩
  have hlc : cs.length ≤ 80000010 := by rw [hcs, List.length_append]; omega
  have HEND : Hid (cs ++ strNums s = bs ++ Pl.textB s) := by unfold Hid Pl.textB; rw [hcs]; simp
  rw [← hcs] at HI hcap c0
  clear hcs HN
  go_wp2_with (at_builtin; refine wpList_append_text rfl _ _ rfl rfl HI.out.row rfl (by omega) (Nat.zero_le _) ?_)
  intro v' w3 hrow hgr how
  have hform : ∃ a' c', v' = .slice a' (cs.length + s.size) c' := by
    rcases hrow.2 with ⟨h1, h2⟩ | ⟨b, c, cur, h1, _⟩
    · exact ⟨none, 0, by rw [h1, h2]⟩
    · exact ⟨_, _, h1⟩
  obtain ⟨a', c', rfl⟩ := hform
  have hO : Only (fun j => some j = Value.ownBlock (.slice a cs.length cap)) wr w3 := Only.of_grownBy hgr
  have hn : ¬ some ob = Value.ownBlock (.slice a cs.length cap) := fun e => (HI.out.own _ e.symm).2 rfl
  have c3 := (hO.cell hob hn 0).trans HI.out.c0
  have f3 := (hO.frozen hob hn 0).trans HI.out.f0
  have hob3 := cell_lt c3
  have HFIN : Hid (OutTurn w G ob (bs ++ Pl.textB s) (w3.setCell ⟨ob, 0, none⟩ (.slice a' (cs.length + s.size) c'))) := by
    unfold Hid
    rw [← HEND.out]
    refine OutTurn.step HG1.out HGG.out (HI.out.store hO ?_ fun g hg => ?_)
    · rw [show (cs ++ strNums s).length = cs.length + s.size by rw [List.length_append, strNums_length]]; exact hrow
    · rcases how g hg with h | h
      · exact .inl h
      · exact .inr (by omega)
  clear hrow hgr how hO hn HEND
  go_wp2_with fail
  go_end0
  exact ⟨rfl, HFIN.out⟩
theorem cloneB_any (w : World) (a : Option Addr) (n cap : Nat) (ns : List Int) (hn : n = ns.length) (hA : BytesAt w a ns) (hf : SlForm a cap) (hx : ns.length ≤ 1000000) :
    Calls Tryz.prog 139 #[.slice a n cap] w fun e w' => ∃ a' c', e = .returned (.slice a' n c') ∧ w'.ownsRow w.heap.size 5 1 (.slice a' n c') ns.length (u8Flat ns) ∧ Grew w w' := by
  subst hn
  rcases Nat.eq_zero_or_pos ns.length with h0 | h0
  · have e := List.eq_nil_of_length_eq_zero h0
    subst e
    rcases hf with ⟨rfl, rfl⟩ | ⟨b, off, rfl⟩
    · exact (cloneNilU8 w).mono fun e w' ⟨he, hg⟩ => ⟨_, _, he, World.ownsRow_nil _ _ _ _, hg⟩
    · exact (cloneZeroU8 w b off cap).mono fun e w' ⟨he, hr, hg⟩ => ⟨_, _, he, hr, hg⟩
  · rcases hA with h1 | ⟨b, off, rfl, hb, hR⟩
    · rw [h1] at h0; simp at h0
    · refine (cloneU8 w b off ns.length cap h0 hx (u8Flat ns) (by rw [u8Flat_length]; omega) (fun j u hj => ?_) (u8Flat_one ns)).mono fun e w' ⟨g, cap, he, hr, hg⟩ => ⟨_, _, he, hr, hg⟩
      unfold u8Flat at hj
      rw [List.getElem?_map] at hj
      cases hq : ns[j]? with
      | none => rw [hq] at hj; cases hj
      | some q => rw [hq] at hj; cases hj; exact hR j q hq
set_option maxRecDepth 100000 in
set_option maxHeartbeats 4000000 in
theorem outDone_any {w : World} {G : Nat → Prop} {ob : Nat} {bs : List Int} (h : OutAt w G ob bs) (hb : bs.length ≤ 65536) :
    Calls Tryz.prog 68 #[.pointer (some ⟨ob, 0, none⟩)] w fun e w' => ∃ a c, e = .returned (.tuple #[.slice a bs.length c, .nilIface]) ∧ w'.ownsRow w.heap.size 5 1 (.slice a bs.length c) bs.length (u8Flat bs) ∧ Grew w w' := by
  obtain ⟨v, hI⟩ := h
  obtain ⟨a, cap, rfl, hA, hS, hcap⟩ := bytesAt_of hI.row
  have c0 := hI.c0
  have c1 := hI.c1
  have hob := cell_lt c0
  have HC := hid (cloneB_any w a bs.length cap bs rfl hA hS (by omega))
  have hl : ¬ (65536 : Int) < (bs.length : Int) := by omega
  clear hI hA hS
  go_enter Tryz.func68, Tryz.ntmps68
  go_wp2_with fail
  refine HC.out.mono ?_
  rintro e w1 ⟨a', c', rfl, hr, hg⟩
  have HR := hid hr
  have HG := hid hg
  clear hr hg
  go_wp2_with fail
  go_ret2
  exact ⟨a', c', rfl, HR.out, HG.out⟩
set_option maxRecDepth 100000 in
set_option maxHeartbeats 4000000 in
theorem num4_any (n : Nat) : ∀ (w : World), n < 4611686018427387904 → Calls Tryz.prog 70 #[.int .i64 n] w fun e w' => ∃ a c, e = .returned (.slice a (Pl.numB n).length c) ∧ w'.ownsRow w.heap.size 5 1 (.slice a (Pl.numB n).length c) (Pl.numB n).length (u8Flat (Pl.numB n)) ∧ Grew w w' := by
  induction n using Nat.strongRecOn with
  | ind n ih =>
    intro w hn
    by_cases h128 : n < 128
    · have h1 : (n : Int) < 128 := by omega
      have hw : IntKind.u8.wrap (n : Int) = (n : Int) := wrap_u8 (by omega) (by omega)
      rw [Pl.numB_small h128]
      have HROW := hid (World.ownsRow_lit (base := w.heap.size) (size := 1) (e := 5) w #[.int .u8 n] 1 (Nat.le_refl _) (by decide) rfl)
      clear ih
      go_enter Tryz.func70, Tryz.ntmps70
      go_wp2_with fail
      go_ret
      exact ⟨_, _, rfl, HROW.out, (Grew.refl w).alloc _⟩
    · have h1 : ¬ (n : Int) < 128 := by omega
      have HI := hid (fun W => ih (n / 128) (by omega) W (by omega))
      have hlen := Pl.numB_len 8 (n / 128) (by omega)
      have hr : ((n : Int) % 128 + 128) = ((n % 128 + 128 : Nat) : Int) := by omega
      rw [Pl.numB_great h128, ← hr]
      have HR := hid hr
      obtain ⟨q, hq⟩ : ∃ q, q = (n : Int) % 128 + 128 := ⟨_, rfl⟩
      generalize Pl.numB (n / 128) = cs at *
      have hd : ((n : Int) / 128) = ((n / 128 : Nat) : Int) := by omega
      have HROW := hid (World.ownsRow_lit (base := w.heap.size) (size := 1) (e := 5) w #[.int .u8 ((n : Int) % 128 + 128)] 1 (Nat.le_refl _) (by decide) rfl)
      have HD := hid hd
      clear ih hr hq q hd
      go_enter Tryz.func70, Tryz.ntmps70
      go_wp2_with fail
      refine (HI.out _).mono ?_
      rintro e w1 ⟨a, c, rfl, hrow, hg⟩
      obtain ⟨a', c', e', hA, hS, _⟩ := bytesAt_of hrow
      cases e'
      have HG := hid hg
      clear hrow hg HI
      go_wp2_with (at_builtin; refine wpList_append_bytes rfl _ _ rfl rfl (ys := [(n : Int) % 128 + 128]) (ownsRow_grew HG.out HROW.out) rfl rfl hA hS (by omega) (by have := HG.out.size; simp at this; omega) ?_)
      intro a2 c2 w3 hrow hgr how
      have HX : Hid (Grew w w3) := ((((Grew.refl w).alloc (.cells #[.int .u8 ((n : Int) % 128 + 128)] 5)).trans HG.out).only (fun j => some j = Value.ownBlock (.slice (some ⟨w.heap.size, 0, none⟩) 1 1))).then (Only.of_grownBy hgr) |>.grew (fun j hj => by have h1 : j = w.heap.size := Option.some.inj hj; omega)
      have HRW := hid hrow
      clear hrow hgr how hA hS
      go_wp2_with fail
      go_ret
      refine ⟨a2, c2, ?_, ?_, HX.out⟩
      · simp [Nat.add_comm]
      · rw [Nat.add_comm cs.length 1]
        exact HRW.out
set_option maxRecDepth 100000 in
set_option maxHeartbeats 4000000 in
theorem text4_any (w : World) (s : ByteArray) (hs : s.size ≤ 1000000) : Calls Tryz.prog 69 #[.string s] w fun e w' => ∃ a c, e = .returned (.slice a (Pl.textB s).length c) ∧ w'.ownsRow w.heap.size 5 1 (.slice a (Pl.textB s).length c) (Pl.textB s).length (u8Flat (Pl.textB s)) ∧ Grew w w' := by
  have hlen := Pl.numB_len 8 s.size (by omega)
  have HN := hid (num4_any s.size w (by omega))
  have hE : (Pl.textB s).length = (Pl.numB s.size).length + s.size := by unfold Pl.textB; rw [List.length_append, strNums_length]
  have HE : Hid (Pl.numB s.size ++ strNums s = Pl.textB s) := rfl
  rw [hE]
  generalize Pl.textB s = ts at *
  generalize Pl.numB s.size = cs at *
  clear hE
  go_enter Tryz.func69, Tryz.ntmps69
  go_wp2_with fail
  refine HN.out.mono ?_
  rintro e w1 ⟨a, c, rfl, hrow, hg⟩
  have HRW := hid hrow
  have HG := hid hg
  clear hrow hg HN
  go_wp2_with (at_builtin; refine wpList_append_text rfl _ _ rfl rfl HRW.out rfl (by omega) HG.out.size ?_)
  intro v' w3 hrow hgr how
  have hform : ∃ a' c', v' = .slice a' (cs.length + s.size) c' := by
    rcases hrow.2 with ⟨h1, h2⟩ | ⟨b, c, cur, h1, _⟩
    · exact ⟨none, 0, by rw [h1, h2]⟩
    · exact ⟨_, _, h1⟩
  obtain ⟨a', c', rfl⟩ := hform
  have HX : Hid (Grew w w3) := ((HG.out.only (fun j => some j = Value.ownBlock (.slice a cs.length c))).then (Only.of_grownBy hgr)).grew (fun j hj => (HRW.out.lt j hj.symm).1)
  rw [HE.out] at hrow
  have HR3 := hid hrow
  clear hrow hgr how
  go_wp2_with fail
  go_ret
  exact ⟨a', c', rfl, HR3.out, HX.out⟩
def Free (B : Nat) (Z : Nat → Prop) (j : Nat) : Prop := ¬ Z j ∧ B ≤ j
def And1 (Z : Nat → Prop) (b j : Nat) : Prop := Z j ∨ j = b
theorem free_not {B : Nat} {Z : Nat → Prop} {b : Nat} (h : Z b) : ¬ Free B Z b := fun k => k.1 h
theorem free_not1 {B : Nat} {Z : Nat → Prop} {b : Nat} : ¬ Free B (And1 Z b) b := fun k => k.1 (.inr rfl)
theorem free_and {B : Nat} {Z : Nat → Prop} {b j : Nat} (h : Free B (And1 Z b) j) : Free B Z j := ⟨fun k => h.1 (.inl k), h.2⟩
structure RowZ (B : Nat) (Z : Nat → Prop) (w : World) (v : Value) (cs : List Int) : Prop where
  form : ∃ a c, v = .slice a cs.length c
  row : w.ownsRow B 5 1 v cs.length (u8Flat cs)
  ne : ∀ g, v.ownBlock = some g → ¬ Z g
  base : B ≤ w.heap.size
  lt : ∀ j, Z j → j < w.heap.size
theorem RowZ.grew {B : Nat} {Z : Nat → Prop} {w w' : World} {v : Value} {cs : List Int} (h : RowZ B Z w v cs) (g : Grew w w') : RowZ B Z w' v cs :=
  ⟨h.form, ownsRow_grew g h.row, h.ne, Nat.le_trans h.base g.size, fun j hj => Nat.lt_of_lt_of_le (h.lt j hj) g.size⟩
theorem RowZ.more {B : Nat} {Z : Nat → Prop} {w w' : World} {v : Value} {cs : List Int} (h : RowZ B Z w v cs) (g : Grew w w') {b : Nat} (h1 : w.heap.size ≤ b) (h2 : b < w'.heap.size) : RowZ B (And1 Z b) w' v cs := by
  refine ⟨h.form, ownsRow_grew g h.row, fun j hj hz => ?_, Nat.le_trans h.base g.size, fun j hj => ?_⟩
  · rcases hz with hz | rfl
    · exact h.ne j hj hz
    · have := (h.row.lt j hj).2; omega
  · rcases hj with hj | rfl
    · exact Nat.lt_of_lt_of_le (h.lt j hj) g.size
    · exact h2
theorem RowZ.less {B : Nat} {Z Y : Nat → Prop} {w : World} {v : Value} {cs : List Int} (h : RowZ B Z w v cs) (hY : ∀ j, Y j → Z j) : RowZ B Y w v cs := ⟨h.form, h.row, fun g hg hy => h.ne g hg (hY g hy), h.base, fun j hj => h.lt j (hY j hj)⟩
theorem RowZ.next {B : Nat} {Z : Nat → Prop} {w w' : World} {v v' : Value} {cs ds : List Int} (h : RowZ B Z w v cs) (hf : ∃ a c, v' = .slice a ds.length c) (hr : w'.ownsRow B 5 1 v' ds.length (u8Flat ds)) (hgr : w.grownBy w' v.ownBlock) (how : ∀ g, v'.ownBlock = some g → v.ownBlock = some g ∨ g = w.heap.size) : RowZ B Z w' v' ds ∧ Only (Free B Z) w w' := by
  have hO := Only.of_grownBy hgr
  refine ⟨⟨hf, hr, fun g hg hz => ?_, Nat.le_trans h.base hO.size, fun j hj => Nat.lt_of_lt_of_le (h.lt j hj) hO.size⟩, hO.mono fun j hj => .inl ⟨h.ne j hj.symm, (h.row.lt j hj.symm).1⟩⟩
  rcases how g hg with h1 | h1
  · exact h.ne g h1 hz
  · have := h.lt g hz; omega
theorem RowZ.start {w : World} {B : Nat} {a : Option Addr} {c : Nat} {cs : List Int} (h : w.ownsRow B 5 1 (.slice a cs.length c) cs.length (u8Flat cs)) (hB : B ≤ w.heap.size) : RowZ B (fun _ => False) w (.slice a cs.length c) cs := ⟨⟨_, _, rfl⟩, h, fun _ _ h => h, hB, fun _ h => h.elim⟩
theorem wpList_append_z {ops : Array Oper} {rest : List Oper} {o : Oper} {a : Act} {Q : Exit → Act → World → Prop} (hgd : o.guard = none) (s x : Operand)
    (ho : o.op = .call { callee := .builtin .append, args := #[s, x], argTypes := #[44, 44] }) {w : World} {B : Nat} {Z : Nat → Prop} {v : Value} {ys xs : List Int} (hs : a.eval s = v) (hown : RowZ B Z w v ys)
    {u : Value} {C : Nat} (hx : a.eval x = u) (hu : w.ownsRow C 5 1 u xs.length (u8Flat xs)) (hbig : ys.length + xs.length ≤ 100000000)
    (h : ∀ ds, Hid (ds = ys ++ xs) → ∀ a' c' w', RowZ B Z w' (.slice a' ds.length c') ds → Only (Free B Z) w w' → wpList Tryz.prog ops Q rest (a.put o.dst (.slice a' ds.length c')) w') : wpList Tryz.prog ops Q (o :: rest) a w := by
  obtain ⟨au, cu, rfl, hA, hS, _⟩ := bytesAt_of hu
  refine wpList_append_bytes hgd s x ho hs hown.row hx rfl hA hS hbig hown.base ?_
  intro a' c' w' hr hgr how
  rw [← List.length_append] at hr how
  rw [← List.length_append]
  obtain ⟨h1, h2⟩ := hown.next ⟨_, _, rfl⟩ hr hgr how
  exact h _ rfl a' c' w' h1 h2
end Go.Proofs.YtoiahcgaffffbaaGreatDoor
namespace Go.Proofs.YtoiahcgaffffbaaGreatDoor
open Go.RowKit Go.Maps Go.Shelf
attribute [local go_sem] Oper.semAt_some
def OutB (ob : Nat) (W : World) (j : Nat) : Prop := j = ob ∨ ∃ v, W.cell? ⟨ob, 0, none⟩ = some v ∧ v.ownBlock = some j
def OutL (W : World) (ob : Nat) (cs : List Int) : Prop := OutAt W (OutB ob W) ob cs
theorem OutAt.l {w : World} {G : Nat → Prop} {ob : Nat} {cs : List Int} (h : OutAt w G ob cs) : OutL w ob cs ∧ ∀ j, OutB ob w j → G j := by
  obtain ⟨v, h⟩ := h
  have hG : ∀ j, OutB ob w j → G j := by
    rintro j (rfl | ⟨u, hu, hj⟩)
    · exact h.foot
    · rw [h.c0] at hu; cases hu; exact (h.own j hj).1
  exact ⟨⟨v, h.c0, h.f0, h.c1, h.row, .inl rfl, fun g hg => ⟨.inr ⟨v, h.c0, hg⟩, (h.own g hg).2⟩, fun j hj => h.lt j (hG j hj)⟩, hG⟩
theorem OutL.cells {w : World} {ob : Nat} {cs : List Int} (h : OutL w ob cs) (j : Nat) (hj : OutB ob w j) : ∃ o : Obj, w.heap[j]? = some o ∧ o.isCells = true := by
  obtain ⟨v, h⟩ := h
  rcases hj with rfl | ⟨u, hu, hj⟩
  · obtain ⟨o, h1, h2⟩ := cells_of_cell h.c0
    exact ⟨o, h1, h2⟩
  · rw [h.c0] at hu; cases hu
    rcases h.row.2 with ⟨h1, _⟩ | ⟨g, c, cur, h1, _, h2, _⟩
    · rw [h1] at hj; cases hj
    · rw [h1] at hj
      obtain rfl : g = j := by simpa [Value.ownBlock] using hj
      exact ⟨_, h2, rfl⟩
theorem OutB.same {w w' : World} {ob : Nat} (h : w'.cell? ⟨ob, 0, none⟩ = w.cell? ⟨ob, 0, none⟩) (j : Nat) : OutB ob w' j ↔ OutB ob w j := by unfold OutB; rw [h]
theorem OutL.own {w w' : World} {row : Option Nat} {ob : Nat} {cs : List Int} (h : OutL w ob cs) (hg : w.grownBy w' row) (hr : ∀ r, row = some r → ∃ o : Obj, w.heap[r]? = some o ∧ o.isCells = false) : OutL w' ob cs ∧ ∀ j, OutB ob w' j ↔ OutB ob w j := by
  have hO := Only.of_grownBy hg
  have hdis : ∀ j, OutB ob w j → ¬ some j = row := fun j hj e => by
    obtain ⟨o, h1, h2⟩ := h.cells j hj
    obtain ⟨o', h3, h4⟩ := hr j e.symm
    rw [h1] at h3; cases h3
    rw [h2] at h4; cases h4
  have hk : OutAt w' (OutB ob w) ob cs := OutAt.kept h hO hdis
  have hs : ∀ j, OutB ob w' j ↔ OutB ob w j := fun j => OutB.same (by
    obtain ⟨v, h⟩ := h
    obtain ⟨v', h'⟩ := hk
    exact (hO.cell (cell_lt h.c0) (hdis ob (.inl rfl)) 0)) j
  refine ⟨?_, hs⟩
  have := hk.l.1
  exact this
def KpO (n₀ ob : Nat) (W W' : World) : Prop :=
  Below n₀ W W' ∧ W.heap.size ≤ W'.heap.size ∧ (∀ (b : Nat) (o : Obj), W.heap[b]? = some o → o.isCells = true → ¬ OutB ob W b → W'.heap[b]? = some o) ∧ (∀ j, OutB ob W' j → OutB ob W j ∨ W.heap.size ≤ j)
theorem KpO.trans {n₀ ob : Nat} {A B C : World} (h : KpO n₀ ob A B) (k : KpO n₀ ob B C) : KpO n₀ ob A C := by
  obtain ⟨h1, h2, h3, h4⟩ := h
  obtain ⟨k1, k2, k3, k4⟩ := k
  refine ⟨h1.trans k1, Nat.le_trans h2 k2, fun b o hb ho hn => k3 b o (h3 b o hb ho hn) ho fun hB => ?_, fun j hj => ?_⟩
  · rcases h4 b hB with h | h
    · exact hn h
    · have := (Array.getElem?_eq_some_iff.1 hb).1; omega
  · rcases k4 j hj with h | h
    · exact h4 j h
    · exact .inr (Nat.le_trans h2 h)
theorem KpO.put {n₀ ob : Nat} {w : World} (hn : n₀ ≤ w.heap.size) (hob : ob < w.heap.size) (W : World) (l : Nat) (o o' : Obj) (hl : w.heap.size ≤ l) (h1 : W.heap[l]? = some o) (h2 : o.isCells = false) (h3 : o.isWalk = false) : KpO n₀ ob W (W.putObj l o') := by
  have hg := grownBy_putObj' W l o'
  have hc : (W.putObj l o').cell? ⟨ob, 0, none⟩ = W.cell? ⟨ob, 0, none⟩ := World.cell?_of_block (a := ⟨ob, 0, none⟩) (World.putObj_heap_other (show ob ≠ l by omega))
  refine ⟨belowK_b hn W l o o' hl h1 h2 h3, hg.size, fun b q hb hq hnb => ?_, fun j hj => .inl ((OutB.same hc j).1 hj)⟩
  rw [World.putObj_heap_other (fun e => ?_)]
  · exact hb
  · subst e
    rw [h1] at hb; cases hb
    rw [h2] at hq; cases hq
theorem KpO.refl {n₀ ob : Nat} (W : World) : KpO n₀ ob W W := ⟨Below.refl _ _, Nat.le_refl _, fun _ _ h _ _ => h, fun _ h => .inl h⟩
theorem KpO.grew {n₀ ob : Nat} {W W' : World} (hn : n₀ ≤ W.heap.size) (hob : ob < W.heap.size) (g : Grew W W') : KpO n₀ ob W W' :=
  ⟨Below.mono g hn, g.size, fun b o hb _ _ => (g.below.block b (Array.getElem?_eq_some_iff.1 hb).1).trans hb, fun j hj => .inl ((OutB.same (g.cells.1 ob 0 hob) j).1 hj)⟩
theorem KpO.cell {n₀ ob : Nat} {W W' : World} (h : KpO n₀ ob W W') {b o : Nat} {v : Value} (hc : W.cell? ⟨b, o, none⟩ = some v) (hn : ¬ OutB ob W b) : W'.cell? ⟨b, o, none⟩ = some v := by
  obtain ⟨q, h1, h2⟩ := cells_of_cell hc
  rw [World.cell?_of_block (a := ⟨b, o, none⟩) ((h.2.2.1 b q h1 h2 hn).trans h1.symm)]
  exact hc
theorem KeepsFrom.grew {W W' : World} (g : Grew W W') (B : Nat) : KeepsFrom B W W' := ⟨g.size, fun k o _ hk _ => (g.below.block k (Array.getElem?_eq_some_iff.1 hk).1).trans hk⟩
theorem OutL.lt {w : World} {ob : Nat} {cs : List Int} (h : OutL w ob cs) : ∀ j, OutB ob w j → j < w.heap.size := OutAt.lt h
theorem OutL.grew {w w' : World} {ob : Nat} {cs : List Int} (h : OutL w ob cs) (g : Grew w w') : OutL w' ob cs ∧ ∀ j, OutB ob w' j ↔ OutB ob w j := by
  have h1 : OutAt w' (OutB ob w) ob cs := OutAt.grew h g
  exact ⟨h1.l.1, fun j => OutB.same (g.cells.1 ob 0 (h.lt ob (.inl rfl))) j⟩
theorem KpO.turn {n₀ ob : Nat} {W W' : World} {cs ds : List Int} (h : OutL W ob cs) (hz : n₀ ≤ W.heap.size) (hn : ∀ j, OutB ob W j → n₀ ≤ j) (hT : OutTurn W (OutB ob W) ob ds W') : KpO n₀ ob W W' ∧ OutL W' ob ds ∧ (∀ B, KeepsFrom B W W') := by
  obtain ⟨hO, G', hA, hG⟩ := hT
  obtain ⟨hL, hB⟩ := hA.l
  have hkeep : ∀ (b : Nat) (o : Obj), W.heap[b]? = some o → ¬ OutB ob W b → W'.heap[b]? = some o := fun b o hb hnb => (hO.block b (Array.getElem?_eq_some_iff.1 hb).1 hnb).trans hb
  refine ⟨⟨⟨hO.os, hO.tape, hO.output, hO.size, fun k hk => ?_⟩, hO.size, fun b o hb _ hnb => hkeep b o hb hnb, fun j hj => hG j (hB j hj)⟩, hL, fun B => ⟨hO.size, fun k o _ hk ho => hkeep k o hk fun hb => ?_⟩⟩
  · exact hO.block k (by omega) fun hb => by have := hn k hb; omega
  · obtain ⟨o', h1, h2⟩ := h.cells k hb
    rw [hk] at h1; cases h1
    rw [ho] at h2; cases h2
def clB (x : Int × An) : List Int := Pl.numB x.1.toNat ++ Pl.numB x.2.seq.toNat ++ Pl.numB x.2.code.toNat ++ Pl.numB x.2.at_.toNat
def clsB (xs : List (Int × An)) : List Int := xs.flatMap clB
def seenB (S : Int → Option An) : List Int := Pl.numB (clients S).length ++ clsB (clients S)
set_option maxRecDepth 100000 in
theorem risingD_any (w : World) (sb : Nat) : Calls Tryz.prog 159 #[.pointer (some ⟨sb, 0, none⟩)] w fun e w' => e = .returned (.func (.func 203) #[] #[.pointer (some ⟨w.heap.size, 0, none⟩)]) ∧ w' = w.alloc (.cells #[.pointer (some ⟨sb, 0, none⟩)] 89) := by
  go_enter Tryz.func159, Tryz.ntmps159
  go_wp2_with fail
  go_ret
  exact ⟨rfl, rfl⟩
end Go.Proofs.YtoiahcgaffffbaaGreatDoor
