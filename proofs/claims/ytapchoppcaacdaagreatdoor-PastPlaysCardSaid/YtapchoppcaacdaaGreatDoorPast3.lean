/- A past in memory ('PastIs'); the walks of past.New, look, Get. -/
import Derived.Test.YtapchoppcaacdaaGreatDoorPast2
import Derived.Test.YtapchoppcaacdaaGreatDoorRunes2
import Derived.StringKeys
namespace Go.Proofs.YtapchoppcaacdaaGreatDoor
open Go.RowKit Go.Maps

/-- A text as a map's key. -/
def slit (s : ByteArray) : Lit := .string s.data.toList
def Ch.vals (c : Ch) : List Value := [.string c.key, .string c.val, .int .i64 c.ver, .bool c.there]
def chFlat (xs : List Ch) : List Value := xs.flatMap Ch.vals
theorem chFlat_length (xs : List Ch) : (chFlat xs).length = xs.length * 4 := by
  induction xs with
  | nil => rfl
  | cons c xs ih => unfold chFlat at ih ⊢; rw [List.flatMap_cons, List.length_append, ih]; simp [Ch.vals]; omega
theorem chFlat_get (i : Nat) (hi : i < 4) : ∀ (xs : List Ch) (j : Nat), j < xs.length → (chFlat xs)[j * 4 + i]? = (chAt xs j).vals[i]? := by
  intro xs
  induction xs with
  | nil => intro j hj; simp at hj
  | cons c xs ih =>
    intro j hj
    unfold chFlat at ih ⊢
    rw [List.flatMap_cons]
    cases j with
    | zero => rw [List.getElem?_append_left (by simp [Ch.vals]; omega)]; simp [chAt]
    | succ j =>
      rw [List.getElem?_append_right (by simp [Ch.vals]; omega)]
      have e : (j + 1) * 4 + i - c.vals.length = j * 4 + i := by simp [Ch.vals]; omega
      rw [e, ih j (by simpa using hj)]
      simp [chAt]
abbrev nilS : Value := .slice none 0 0
theorem chSlice_of_row {w : World} {v : Value} {xs : List Ch} (h : w.ownsRow 0 104 4 v xs.length (chFlat xs)) : ChSlice w.heap.size w v xs := by
  rcases Nat.eq_zero_or_pos xs.length with h0 | h0
  · rcases h.2 with ⟨rfl, _⟩ | ⟨g, cap, cur, rfl, _, hg, _⟩
    · exact .inl ⟨rfl, List.eq_nil_of_length_eq_zero h0⟩
    · refine .inr ⟨g, cap, rfl, (Array.getElem?_eq_some_iff.1 hg).1, ?_, ?_, ?_, ?_⟩ <;> intro j hj <;> omega
  · obtain ⟨g, cap, rfl, _, hlt⟩ := h.form h0
    have hc := h.cells (g := g) rfl
    have hadd : ∀ k, (⟨g, 0, none⟩ : Addr).add k = ⟨g, k, none⟩ := fun k => by unfold Addr.add; split <;> simp_all
    refine .inr ⟨g, cap, rfl, hlt, ?_, ?_, ?_, ?_⟩ <;> intro j hj
    · have := hc (j * 4 + 0) _ (by rw [chFlat_get 0 (by omega) xs j hj]; rfl); rwa [hadd] at this
    · have := hc (j * 4 + 1) _ (by rw [chFlat_get 1 (by omega) xs j hj]; rfl); rwa [hadd] at this
    · have := hc (j * 4 + 2) _ (by rw [chFlat_get 2 (by omega) xs j hj]; rfl); rwa [hadd] at this
    · have := hc (j * 4 + 3) _ (by rw [chFlat_get 3 (by omega) xs j hj]; rfl); rwa [hadd] at this

/-- A past in memory: its two cells in block pb, its map in block mb; K s: what is kept of the key s; F: the blocks it owns. -/
structure PastIs (w : World) (F : Nat → Prop) (pb mb : Nat) (f : Lit → Option Value) (n : Nat) (K : ByteArray → List Ch) (fl : Int) : Prop where
  map0 : w.cell? ⟨pb, 0, none⟩ = some (.map (some mb))
  flr : w.cell? ⟨pb, 1, none⟩ = some (.int .i64 fl)
  fz : w.frozen? ⟨pb, 1, none⟩ = false
  lm : LMap w Tryz.prog 9 mb n f
  foot0 : F pb
  foot1 : F mb
  row : ∀ s, w.ownsRow 0 104 4 ((f (slit s)).getD nilS) (K s).length (chFlat (K s))
  pres : ∀ s, (f (slit s)).isSome = !(K s).isEmpty
  len : ∀ s, (K s).length ≤ n
  ne : pb ≠ mb
  foot : ∀ s v g, f (slit s) = some v → v.ownBlock = some g → F g ∧ g ≠ pb ∧ g ≠ mb
  apart : ∀ s t u v g, f (slit s) = some u → f (slit t) = some v → u.ownBlock = some g → v.ownBlock = some g → s = t

theorem PastIs.kept {w w' : World} {F S : Nat → Prop} {pb mb n : Nat} {f : Lit → Option Value} {K : ByteArray → List Ch} {fl : Int} (h : PastIs w F pb mb f n K fl) (g : Only S w w') (hS : ∀ j, F j → ¬ S j) : PastIs w' F pb mb f n K fl where
  map0 := (g.cell (cell_lt h.map0) (hS _ h.foot0) 0).trans h.map0
  flr := (g.cell (cell_lt h.flr) (hS _ h.foot0) 1).trans h.flr
  fz := (g.frozen (cell_lt h.flr) (hS _ h.foot0) 1).trans h.fz
  lm := h.lm.kept g (hS _ h.foot1)
  foot0 := h.foot0
  foot1 := h.foot1
  row s := by
    have hr := h.row s
    cases hv : (f (slit s)).getD nilS with
    | slice a len cap =>
      rw [hv] at hr
      cases a with
      | none => exact ⟨hr.1, hr.2.imp id (fun ⟨_, _, _, e, _⟩ => by cases e)⟩
      | some a =>
        have hF : F a.block := by
          cases hf : f (slit s) with
          | none => rw [hf] at hv; cases hv
          | some v => rw [hf] at hv; simp at hv; exact (h.foot s v a.block hf (by rw [hv]; rfl)).1
        have h1 : w.grownBy w' none → True := fun _ => trivial
        refine ⟨hr.1, ?_⟩
        rcases hr.2 with ⟨e, _⟩ | ⟨b, cap', cur, e, h2, h3, h4⟩
        · cases e
        · refine .inr ⟨b, cap', cur, e, h2, (g.block b (Array.getElem?_eq_some_iff.1 h3).1 (hS _ ?_)).trans h3, h4⟩
          cases e; exact hF
    | _ => rw [hv] at hr; rcases hr.2 with ⟨e, _⟩ | ⟨_, _, _, e, _⟩ <;> cases e
  pres := h.pres
  len := h.len
  ne := h.ne
  foot := h.foot
  apart := h.apart
theorem PastIs.grew {w w' : World} {F : Nat → Prop} {pb mb n : Nat} {f : Lit → Option Value} {K : ByteArray → List Ch} {fl : Int} (h : PastIs w F pb mb f n K fl) (g : Grew w w') : PastIs w' F pb mb f n K fl := h.kept (g.only fun _ => False) (fun _ _ h => h)
theorem PastIs.slice {w : World} {F : Nat → Prop} {pb mb n : Nat} {f : Lit → Option Value} {K : ByteArray → List Ch} {fl : Int} (h : PastIs w F pb mb f n K fl) (s : ByteArray) : ∃ a len cap, (f (slit s)).getD nilS = .slice a len cap ∧ ChSlice w.heap.size w (.slice a len cap) (K s) := by
  have hr := chSlice_of_row (h.row s)
  rcases hr with ⟨e, hx⟩ | ⟨b, cap, e, h1, h2⟩
  · exact ⟨_, _, _, e, .inl ⟨rfl, hx⟩⟩
  · exact ⟨_, _, _, e, .inr ⟨b, cap, rfl, h1, h2⟩⟩

theorem new_past (w : World) : Calls Tryz.prog 8 #[] w fun e w' => e = .returned (.pointer (some ⟨w.heap.size + 1, 0, none⟩)) ∧ Grew w w' ∧ PastIs w' (fun j => w.heap.size ≤ j) (w.heap.size + 1) w.heap.size (fun _ => none) 0 (fun _ => []) 0 := by
  have hmm := @run_makeMap Tryz.prog
  go_enter Tryz.func8, Tryz.ntmps8
  go_wp2
  go_ret
  exact ⟨rfl, ((Grew.refl w).alloc _).alloc _, by simp [go_sem], by simp [go_sem], by simp [go_sem], (LMap.made w _ _).grew ((Grew.refl _).alloc _), by simp, by simp, fun _ => World.ownsRow_nil _ _ _ _, fun _ => rfl, fun _ => Nat.le_refl _, by omega, (by intro s v g h; cases h), (by intro s t u v g h; cases h)⟩

namespace Pl
/-- What a key was at a version. -/
def look (xs : List Ch) (v : Int) : Option Ch := (last xs v).filter (·.there)
end Pl
/-- A pair's value. -/
def Ch.pair (c : Ch) : Value := .agg #[.string c.key, .string c.val, .int .i64 c.ver]

theorem zero_slice (w : World) : (zeroValue 101).run Tryz.prog w = .ok nilS w := by kernel_rfl
theorem str_keyed : Keyed Tryz.prog 9 := string_keyed Tryz.underlying9

set_option maxHeartbeats 800000 in
theorem look_any {w : World} {F : Nat → Prop} {pb mb n : Nat} {f : Lit → Option Value} {K : ByteArray → List Ch} {fl : Int} (h : PastIs w F pb mb f n K fl) (hn : n ≤ 1000000) (key : ByteArray) (hk : key.size ≤ maxLen) (v : Int) :
    Calls Tryz.prog 81 #[.pointer (some ⟨pb, 0, none⟩), .string key, .int .i64 v] w fun e w' => e = .returned (.tuple #[((Pl.look (K key) v).getD Ch.none).pair, .bool (Pl.look (K key) v).isSome]) ∧ Grew w w' := by
  have c0 := h.map0
  have hl : (Instr.lookup 85 (.map (some mb)) (.string key) false).run Tryz.prog (w.alloc (.cells #[.string ⟨#[]⟩, .string ⟨#[]⟩, .int .i64 0] 82)) = .ok ((f (slit key)).getD nilS) (w.alloc (.cells #[.string ⟨#[]⟩, .string ⟨#[]⟩, .int .i64 0] 82)) :=
    (h.lm.grew ((Grew.refl w).alloc _)).lookup str_keyed Tryz.underlying85 (zero_slice _) (Go.WideMaps.keyOf_string_mk Tryz.underlying9 hk)
  obtain ⟨a, len, cap, hs, hC⟩ := (h.grew ((Grew.refl w).alloc (.cells #[.string ⟨#[]⟩, .string ⟨#[]⟩, .int .i64 0] 82))).slice key
  have hb : pb < w.heap.size := cell_lt c0
  have hlen : (K key).length * 64 ≤ 140737488351232 := by have := h.len key; omega
  rw [hs] at hl
  clear hs h
  have HC := hid hC
  clear hC
  cases hL : Pl.last (K key) v with
  | none =>
    have hr : Pl.look (K key) v = none := by unfold Pl.look; rw [hL]; rfl
    rw [hr]
    have HL := hid hL
    clear hL hr
    go_enter Tryz.func81, Tryz.ntmps81
    go_wp2_with fail
    refine (last_any a len cap v (K key) hlen _ HC.out).mono ?_
    rw [HL.out]
    rintro e w1 ⟨rfl, hg⟩
    have hz : w.heap.size < w1.heap.size := by have := hg.size; simp at this; omega
    obtain ⟨hc, hf⟩ := hg.cells
    dsimp only [Option.getD, Option.isSome, Ch.agg, Ch.none]
    go_wp2_with fail
    refine bodyPost_ret (v := .tuple #[Ch.none.pair, .bool false]) (by simp [results, Tryz.results81, go_sem, hc, hz, Ch.pair, Ch.none]) rfl ⟨rfl, ?_⟩
    have hG := ((Grew.refl w).alloc _).trans hg
    refine (((hG.setCell ?_ _).setCell ?_ _).setCell ?_ _).alloc _ <;> exact Nat.le_refl _
  | some c =>
    obtain ⟨ck, cv, cn, ct⟩ := c
    cases ct with
    | false =>
      have hr : Pl.look (K key) v = none := by unfold Pl.look; rw [hL]; rfl
      rw [hr]
      have HL := hid hL
      clear hL hr
      go_enter Tryz.func81, Tryz.ntmps81
      go_wp2_with fail
      refine (last_any a len cap v (K key) hlen _ HC.out).mono ?_
      rw [HL.out]
      rintro e w1 ⟨rfl, hg⟩
      have hz : w.heap.size < w1.heap.size := by have := hg.size; simp at this; omega
      obtain ⟨hc, hf⟩ := hg.cells
      dsimp only [Option.getD, Option.isSome, Ch.agg, Ch.none]
      go_wp2_with fail
      refine bodyPost_ret (v := .tuple #[Ch.none.pair, .bool false]) (by simp [results, Tryz.results81, go_sem, hc, hz, Ch.pair, Ch.none]) rfl ⟨rfl, ?_⟩
      have hG := ((Grew.refl w).alloc _).trans hg
      refine (((hG.setCell ?_ _).setCell ?_ _).setCell ?_ _).alloc _ <;> exact Nat.le_refl _
    | true =>
      have hr : Pl.look (K key) v = some ⟨ck, cv, cn, true⟩ := by unfold Pl.look; rw [hL]; rfl
      rw [hr]
      have HL := hid hL
      clear hL hr
      go_enter Tryz.func81, Tryz.ntmps81
      go_wp2_with fail
      refine (last_any a len cap v (K key) hlen _ HC.out).mono ?_
      rw [HL.out]
      rintro e w1 ⟨rfl, hg⟩
      have hz : w.heap.size < w1.heap.size := by have := hg.size; simp at this; omega
      obtain ⟨hc, hf⟩ := hg.cells
      dsimp only [Option.getD, Option.isSome, Ch.agg]
      go_wp2_with fail
      refine bodyPost_ret (v := .tuple #[Ch.pair ⟨ck, cv, cn, true⟩, .bool true]) (by simp [results, Tryz.results81, go_sem, hc, hz, Ch.pair]) rfl ⟨rfl, ?_⟩
      have hG := ((Grew.refl w).alloc _).trans hg
      refine (((hG.setCell ?_ _).setCell ?_ _).setCell ?_ _).alloc _ <;> exact Nat.le_refl _

namespace Pl
/-- past.Get: the error's number; what was there. -/
def getE (key : ByteArray) (fl v : Int) : Nat := if keyN key ≠ 0 then keyN key else if v < fl then 11 else 0
def getC (K : ByteArray → List Ch) (key : ByteArray) (fl v : Int) : Option Ch := if getE key fl v = 0 then look (K key) v else none
end Pl
theorem errOf_ne (E : Nat → Addr) (k : Nat) (h : k ≠ 0) : errOf E k = .iface 288 (.pointer (some (E k))) := errOf_pos E k h

set_option maxHeartbeats 800000 in
theorem get_any (S : Nat → Bool) (E : Nat → Addr) (h2 : S 2 = true) (h3 : S 3 = true) (h6 : S 6 = true) (h7 : S 7 = true) (h11 : S 11 = true) {w : World} (hE : Errs S E w) {F : Nat → Prop} {pb mb n : Nat} {f : Lit → Option Value} {K : ByteArray → List Ch} {fl : Int} (h : PastIs w F pb mb f n K fl) (hn : n ≤ 1000000) (key : ByteArray) (hk : key.size ≤ maxLen) (hk2 : key.size ≤ 140737488351232) (v : Int) :
    Calls Tryz.prog 32 #[.pointer (some ⟨pb, 0, none⟩), .string key, .int .i64 v] w fun e w' => e = .returned (.tuple #[((Pl.getC K key fl v).getD Ch.none).pair, .bool (Pl.getC K key fl v).isSome, errOf E (Pl.getE key fl v)]) ∧ Grew w w' := by
  have HE := hid hE
  have HP := hid h
  have b11 : 2 < w.heap.size := cell_lt (hE.cell 11 h11)
  have hb : pb < w.heap.size := cell_lt h.flr
  clear hE h
  by_cases hkn : Pl.keyN key = 0
  · have HK : Hid (errOf E (Pl.keyN key) = .nilIface) := by unfold Hid; rw [hkn]; rfl
    by_cases hv : v < fl
    · have e1 : Pl.getE key fl v = 11 := by unfold Pl.getE; rw [if_neg (by simp [hkn]), if_pos hv]
      have e2 : Pl.getC K key fl v = none := by unfold Pl.getC; rw [e1]; rfl
      rw [e1, e2]
      clear e1 e2
      go_enter Tryz.func32, Tryz.ntmps32
      go_wp2_with fail
      refine (key_any S E h2 h3 h6 h7 key _ hk2 (HE.out.grew ((Grew.refl w).alloc _))).mono ?_
      rw [HK.out]
      rintro e w1 ⟨rfl, hg⟩
      have hz : w.heap.size < w1.heap.size := by have := hg.size; simp at this; omega
      have hG : Grew w w1 := ((Grew.refl w).alloc _).trans hg
      obtain ⟨hc, hf⟩ := hg.cells
      have p1 := HP.out.flr
      have c11 : w.cell? ⟨2, 0, none⟩ = some (.iface 288 (.pointer (some (E 11)))) := HE.out.cell 11 h11
      go_wp2_with fail
      go_region
      go_wp2_with fail
      refine bodyPost_ret (v := .tuple #[Ch.none.pair, .bool false, errOf E 11]) (by simp [results, Tryz.results32, go_sem, hc, Ch.pair, Ch.none]; rfl) rfl ⟨rfl, ?_⟩
      refine (((hG.setCell ?_ _).setCell ?_ _).setCell ?_ _).drew <;> exact Nat.le_refl _
    · have e1 : Pl.getE key fl v = 0 := by unfold Pl.getE; rw [if_neg (by simp [hkn]), if_neg hv]
      have e2 : Pl.getC K key fl v = Pl.look (K key) v := by unfold Pl.getC; rw [if_pos e1]
      rw [e1, e2]
      clear e1 e2
      have hL := fun W (g : Grew w W) => look_any (HP.out.grew g) hn key hk v
      generalize (Pl.look (K key) v).getD Ch.none = c at hL ⊢
      generalize (Pl.look (K key) v).isSome = bb at hL ⊢
      obtain ⟨ck, cv, cn, ct⟩ := c
      dsimp only [Ch.pair] at hL ⊢
      have HL := hid hL
      clear hL
      go_enter Tryz.func32, Tryz.ntmps32
      go_wp2_with fail
      refine (key_any S E h2 h3 h6 h7 key _ hk2 (HE.out.grew ((Grew.refl w).alloc _))).mono ?_
      rw [HK.out]
      rintro e w1 ⟨rfl, hg⟩
      have hz : w.heap.size < w1.heap.size := by have := hg.size; simp at this; omega
      have hG : Grew w w1 := ((Grew.refl w).alloc _).trans hg
      obtain ⟨hc, hf⟩ := hg.cells
      have p1 := HP.out.flr
      go_wp2_with fail
      refine (HL.out _ hG).mono ?_
      rintro e w2 ⟨rfl, hg2⟩
      obtain ⟨hc2, hf2⟩ := hg2.cells
      have hz2 : w.heap.size < w2.heap.size := by have := hg2.size; omega
      go_wp2_with fail
      refine bodyPost_ret (v := .tuple #[.agg #[.string ck, .string cv, .int .i64 cn], .bool bb, .nilIface]) (by simp [results, Tryz.results32, go_sem, hc, hc2, hz, hz2]) rfl ⟨rfl, ?_⟩
      refine ((((hG.trans hg2).setCell ?_ _).setCell ?_ _).setCell ?_ _).alloc _ <;> exact Nat.le_refl _
  · have e1 : Pl.getE key fl v = Pl.keyN key := by unfold Pl.getE; rw [if_pos hkn]
    have e2 : Pl.getC K key fl v = none := by unfold Pl.getC; rw [e1, if_neg hkn]
    have HK := hid (errOf_ne E _ hkn)
    rw [e1, e2, HK.out]
    clear e1 e2
    go_enter Tryz.func32, Tryz.ntmps32
    go_wp2_with fail
    refine (key_any S E h2 h3 h6 h7 key _ hk2 (HE.out.grew ((Grew.refl w).alloc _))).mono ?_
    rw [HK.out]
    rintro e w1 ⟨rfl, hg⟩
    have hz : w.heap.size < w1.heap.size := by have := hg.size; simp at this; omega
    have hG : Grew w w1 := ((Grew.refl w).alloc _).trans hg
    obtain ⟨hc, hf⟩ := hg.cells
    go_wp2_with fail
    refine bodyPost_ret (v := .tuple #[Ch.none.pair, .bool false, .iface 288 (.pointer (some (E (Pl.keyN key))))]) (by simp [results, Tryz.results32, go_sem, hc, Ch.pair, Ch.none]) rfl ⟨rfl, ?_⟩
    refine ((hG.setCell ?_ _).setCell ?_ _).setCell ?_ _ <;> exact Nat.le_refl _
end Go.Proofs.YtapchoppcaacdaaGreatDoor
