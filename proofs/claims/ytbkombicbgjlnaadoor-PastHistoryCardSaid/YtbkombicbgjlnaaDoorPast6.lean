/- The walks of past.note (all ways), Put, Del, History. -/
import Derived.Test.YtbkombicbgjlnaaDoorPast5
namespace Go.Proofs.YtbkombicbgjlnaaDoor
open Go.RowKit Go.Maps Go.Sort
attribute [local go_sem] Oper.semAt_some

namespace Pl
/-- What is kept behind a note. -/
noncomputable def noteK (K : ByteArray → List Ch) (fl : Int) (c : Ch) : ByteArray → List Ch := if noteE K fl c = 0 then addK K c else K
end Pl

theorem PastIs.mono {w : World} {F : Nat → Prop} {pb mb n m : Nat} {f : Lit → Option Value} {K : ByteArray → List Ch} {fl : Int} (h : PastIs w F pb mb f n K fl) (hm : n ≤ m) : PastIs w F pb mb f m K fl :=
  ⟨h.map0, h.flr, h.fz, h.lm.mono hm, h.foot0, h.foot1, h.row, h.pres, fun s => Nat.le_trans (h.len s) hm, h.ne, h.foot, h.apart⟩

/-- A past that owns blocks of this world alone. -/
def PastAt (w : World) (F : Nat → Prop) (pb n : Nat) (K : ByteArray → List Ch) (fl : Int) : Prop := (∃ mb f, PastIs w F pb mb f n K fl) ∧ ∀ j, F j → j < w.heap.size
/-- What a call does that writes into a past alone. -/
def PastTurn (w : World) (F : Nat → Prop) (pb n : Nat) (K : ByteArray → List Ch) (fl : Int) (w' : World) : Prop :=
  Only F w w' ∧ ∃ F', PastAt w' F' pb n K fl ∧ ∀ j, F' j → F j ∨ w.heap.size ≤ j
theorem PastAt.mono {w : World} {F : Nat → Prop} {pb n m : Nat} {K : ByteArray → List Ch} {fl : Int} (h : PastAt w F pb n K fl) (hm : n ≤ m) : PastAt w F pb m K fl := by
  obtain ⟨⟨mb, f, h⟩, hF⟩ := h; exact ⟨⟨mb, f, h.mono hm⟩, hF⟩
theorem PastAt.kept {w w' : World} {F S : Nat → Prop} {pb n : Nat} {K : ByteArray → List Ch} {fl : Int} (h : PastAt w F pb n K fl) (g : Only S w w') (hS : ∀ j, F j → ¬ S j) : PastAt w' F pb n K fl := by
  obtain ⟨⟨mb, f, h⟩, hF⟩ := h; exact ⟨⟨mb, f, h.kept g hS⟩, fun j hj => Nat.lt_of_lt_of_le (hF j hj) g.size⟩
theorem PastAt.grew {w w' : World} {F : Nat → Prop} {pb n : Nat} {K : ByteArray → List Ch} {fl : Int} (h : PastAt w F pb n K fl) (g : Grew w w') : PastAt w' F pb n K fl := h.kept (g.only fun _ => False) (fun _ _ h => h)

theorem note_any (S : Nat → Bool) (E : Nat → Addr) (hS : NoteS S) {w : World} (hE : Errs S E w) {F : Nat → Prop} {pb n : Nat} {K : ByteArray → List Ch} {fl : Int} (h : PastAt w F pb n K fl) (hn : n ≤ 1000000) (c : Ch) (hk2 : c.key.size ≤ 140737488351232) (hv : c.val.size ≤ 140737488351232) :
    Calls Tryd.prog 62 #[.pointer (some ⟨pb, 0, none⟩), c.agg] w fun e w' => e = .returned (errOf E (Pl.noteE K fl c)) ∧ PastTurn w F pb (n + 1) (Pl.noteK K fl c) fl w' := by
  obtain ⟨⟨mb, f, h⟩, hF⟩ := h
  have hk : c.key.size ≤ maxLen := by unfold maxLen; omega
  unfold Pl.noteK
  by_cases he : Pl.noteE K fl c = 0
  · rw [if_pos he, he]
    refine (note_ok S E hS hE h hF hn c hk hk2 hv he).mono ?_
    rintro e w' ⟨rfl, ho, F', f', hp, hF'⟩
    refine ⟨rfl, ho, F', ⟨⟨mb, f', hp⟩, ?_⟩, ?_⟩
    · intro j hj
      rcases hF' j hj with h1 | h1
      · exact Nat.lt_of_lt_of_le (hF j h1) ho.size
      · exact h1.2
    · intro j hj
      rcases hF' j hj with h1 | h1
      · exact .inl h1
      · exact .inr h1.1
  · rw [if_neg he]
    refine (note_err S E hS hE h hn c hk hk2 hv he).mono ?_
    rintro e w' ⟨rfl, hg⟩
    exact ⟨rfl, hg.only F, F, ⟨⟨mb, f, (h.grew hg).mono (Nat.le_succ n)⟩, fun j hj => Nat.lt_of_lt_of_le (hF j hj) hg.size⟩, fun j hj => .inl hj⟩

theorem put_any (S : Nat → Bool) (E : Nat → Addr) (hS : NoteS S) {w : World} (hE : Errs S E w) {F : Nat → Prop} {pb n : Nat} {K : ByteArray → List Ch} {fl : Int} (h : PastAt w F pb n K fl) (hn : n ≤ 1000000) (key val : ByteArray) (v : Int) (hk2 : key.size ≤ 140737488351232) (hv : val.size ≤ 140737488351232) :
    Calls Tryd.prog 15 #[.pointer (some ⟨pb, 0, none⟩), .string key, .string val, .int .i64 v] w fun e w' => e = .returned (errOf E (Pl.noteE K fl ⟨key, val, v, true⟩)) ∧ PastTurn w F pb (n + 1) (Pl.noteK K fl ⟨key, val, v, true⟩) fl w' := by
  have HN := hid (note_any S E hS hE h hn ⟨key, val, v, true⟩ hk2 hv)
  clear h hE
  go_enter Tryd.func15, Tryd.ntmps15
  go_wp2_with fail
  refine HN.out.mono ?_
  rintro e w' ⟨rfl, hT⟩
  have HT := hid hT
  clear hT
  go_wp2_with fail
  go_ret
  exact ⟨rfl, HT.out⟩
theorem del_any (S : Nat → Bool) (E : Nat → Addr) (hS : NoteS S) {w : World} (hE : Errs S E w) {F : Nat → Prop} {pb n : Nat} {K : ByteArray → List Ch} {fl : Int} (h : PastAt w F pb n K fl) (hn : n ≤ 1000000) (key : ByteArray) (v : Int) (hk2 : key.size ≤ 140737488351232) :
    Calls Tryd.prog 16 #[.pointer (some ⟨pb, 0, none⟩), .string key, .int .i64 v] w fun e w' => e = .returned (errOf E (Pl.noteE K fl ⟨key, ⟨#[]⟩, v, false⟩)) ∧ PastTurn w F pb (n + 1) (Pl.noteK K fl ⟨key, ⟨#[]⟩, v, false⟩) fl w' := by
  have HN := hid (note_any S E hS hE h hn ⟨key, ⟨#[]⟩, v, false⟩ hk2 (Nat.zero_le _))
  clear h hE
  go_enter Tryd.func16, Tryd.ntmps16
  go_wp2_with fail
  refine HN.out.mono ?_
  rintro e w' ⟨rfl, hT⟩
  have HT := hid hT
  clear hT
  go_wp2_with fail
  go_ret
  exact ⟨rfl, HT.out⟩

def Ch.pvals (c : Ch) : List Value := [.string c.key, .string c.val, .int .i64 c.ver]
def pFlat (xs : List Ch) : List Value := xs.flatMap Ch.pvals
theorem pFlat_snoc (xs : List Ch) (c : Ch) : pFlat (xs ++ [c]) = pFlat xs ++ c.pvals := by unfold pFlat; rw [List.flatMap_append]; simp
theorem info_pair : (Tryd.prog.info? 38).map (fun i => (i.zero, i.size, i.bytes)) = some (some (.agg #[.string ⟨#[]⟩, .string ⟨#[]⟩, .int .i64 0]), 3, 40) := by kernel_rfl
theorem take_snoc_ch (xs : List Ch) (k : Nat) (h : k < xs.length) : xs.take (k + 1) = xs.take k ++ [chAt xs k] := by
  rw [List.take_succ_eq_append_getElem h, Pl.chAt_eq xs k h]

set_option maxRecDepth 100000 in
set_option maxHeartbeats 2000000 in
theorem hist_any {w : World} {F : Nat → Prop} {pb n : Nat} {K : ByteArray → List Ch} {fl : Int} (h : PastAt w F pb n K fl) (hn : n ≤ 1000000) (key : ByteArray) (hk : key.size ≤ 140737488351232) :
    Calls Tryd.prog 17 #[.pointer (some ⟨pb, 0, none⟩), .string key] w fun e w' => (∃ v, e = .returned v ∧ w'.ownsRow w.heap.size 38 3 v (K key).length (pFlat (K key))) ∧ Grew w w' := by
  obtain ⟨⟨mb, f, h⟩, hF⟩ := h
  have c0 := h.map0
  obtain ⟨a, len, cap, hs, hC⟩ := h.slice key
  have hlk := h.look (Grew.refl w) key (by unfold maxLen; omega)
  have hlen := h.len key
  rw [hs] at hlk
  clear hs h hF
  obtain ⟨i0, hi0, hz0, hz1, hz2⟩ := info_parts info_pair
  rcases hC with ⟨e, hx⟩ | ⟨b, cap', e, hbb, hR⟩
  · cases e
    rw [hx]
    go_enter Tryd.func17, Tryd.ntmps17
    go_wp2_with fail
    go_loopw [5, 15] (fun v i wr => v = .slice none 0 0 ∧ i = .int .i64 0 ∧ Grew w wr) (fun _ _ _ => 0)
    case atStart => exact ⟨rfl, rfl, Grew.refl w⟩
    case round =>
      obtain ⟨rfl, rfl, hG⟩ := hrel
      go_wp2_with fail
      go_ret
      exact ⟨⟨_, rfl, World.ownsRow_nil _ _ _ _⟩, hG⟩
  · cases e
    go_enter Tryd.func17, Tryd.ntmps17
    go_wp2_with fail
    go_loopw [5, 15] (fun v i wr => ∃ k : Nat, k ≤ (K key).length ∧ i = .int .i64 k ∧ wr.ownsRow w.heap.size 38 3 v k (pFlat ((K key).take k)) ∧ Grew w wr) (fun _ i _ => (K key).length - (intOf i).toNat)
    case atStart => exact ⟨0, Nat.zero_le _, rfl, World.ownsRow_nil _ _ _ _, Grew.refl w⟩
    case round =>
      obtain ⟨k, hk1, rfl, hown, hG⟩ := hrel
      by_cases hlt : k < (K key).length
      · have q1 := (hG.cells.1 b (k * 4) hbb).trans (hR.key k hlt)
        have q2 := (hG.cells.1 b (k * 4 + 1) hbb).trans (hR.val k hlt)
        have q3 := (hG.cells.1 b (k * 4 + 2) hbb).trans (hR.ver k hlt)
        have q4 := (hG.cells.1 b (k * 4 + 3) hbb).trans (hR.there k hlt)
        have HT := hid (take_snoc_ch (K key) k hlt)
        clear hR
        go_wp2_with (at_builtin; refine wpList_append_lies _ rfl _ _ 35 rfl w.heap.size 38 i0 _ 3 40 Tryd.underlying35 hi0 hz0 hz1 hz2 rfl (by omega) _ k (pFlat ((K key).take k)) rfl ((hown.alloc _).alloc _) ⟨wr.heap.size + 1, 0, none⟩ 1 1 (chAt (K key) k).pvals rfl rfl ?_ ?_ (by omega) (by unfold maxLen; omega) (by omega) ?_ _ rfl ?_)
        · exact World.news_of_block (cs := #[.string (chAt (K key) k).key, .string (chAt (K key) k).val, .int .i64 (chAt (K key) k).ver]) (t := 38) (fr := (0, 0)) (heap_alloc2_new _ _ _)
        · intro u hu; simp [Ch.pvals] at hu; rcases hu with rfl | rfl | rfl <;> rfl
        · have := hG.size; simp; omega
        · intro g capg w1 hown1 hgrow hat hlt1
          have hG1 : Grew w w1 := ((((hG.alloc _).alloc _).only _).then (Only.of_grownBy hgrow)).grew (fun j hj => (hown.lt j hj.symm).1)
          have hown2 : w1.ownsRow w.heap.size 38 3 (.slice (some ⟨g, 0, none⟩) (k + 1) capg) (k + 1) (pFlat ((K key).take (k + 1))) := by rw [HT.out, pFlat_snoc]; exact hown1
          clear hown1 hgrow hat hown hG
          go_wp2_with fail
          go_roundw
          case rel => exact ⟨k + 1, by omega, by go_num, hown2, hG1⟩
          case measure => simp [intOf]; omega
      · obtain rfl : k = (K key).length := by omega
        rw [List.take_length] at hown
        go_wp2_with fail
        go_ret
        exact ⟨⟨_, rfl, hown⟩, hG⟩
end Go.Proofs.YtbkombicbgjlnaaDoor
