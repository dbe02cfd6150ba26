/- St7, Dd2, Dd3: one text. -/
import Derived.Test.YtoiahcgaffffbaaGreatDoorFinStatePlaysQ18
import Derived.Test.YtoiahcgaffffbaaGreatDoorFinStatePlaysQ8
import Derived.Test.YtoiahcgaffffbaaGreatDoorFinStatePlaysQ5
import Derived.Shelf.SlIterI.Nil
import Derived.Shelf.SortM.Plain
import Derived.Shelf.SortM.SortNone
import Derived.Lib.SlKeysI
import Derived.Maps.GroupsBeside
set_option linter.unusedVariables false
set_option linter.unusedSectionVars false
set_option linter.unusedSimpArgs false
namespace Go.Proofs.YtoiahcgaffffbaaGreatDoor
open Go.RowKit Go.Maps
attribute [local go_sem] Oper.semAt_some
def StrsAt (W : World) (a : Option Addr) (ks : List ByteArray) : Prop := ks = [] ∨ ∃ b off, a = some ⟨b, off, none⟩ ∧ b < W.heap.size ∧ ∀ j n, ks[j]? = some n → W.cell? ⟨b, off + j, none⟩ = some (.string n)
theorem StrsAt.grew {W W' : World} {a : Option Addr} {ks : List ByteArray} (h : StrsAt W a ks) (g : Grew W W') : StrsAt W' a ks := by
  rcases h with h | ⟨b, off, rfl, hb, hc⟩
  · exact .inl h
  · exact .inr ⟨b, off, rfl, Nat.lt_of_lt_of_le hb g.size, fun j n hj => (g.cells.1 _ _ hb).trans (hc j n hj)⟩
theorem strsAt_of {W : World} {B : Nat} {v : Value} {ks : List ByteArray} (h : W.ownsRow B 9 1 v ks.length (strFlat ks)) : ∃ a cap, v = .slice a ks.length cap ∧ StrsAt W a ks := by
  rcases h.2 with ⟨h2, h3⟩ | ⟨b, cap, cur, e1, _, hb, hc, _⟩
  · refine ⟨none, 0, ?_, .inl (List.eq_nil_of_length_eq_zero h3)⟩
    rw [h2, h3]
  · refine ⟨_, cap, e1, .inr ⟨b, 0, rfl, (Array.getElem?_eq_some_iff.1 hb).1, fun j n hj => ?_⟩⟩
    have := h.cells (g := b) (by rw [e1]; rfl) j (.string n) (by unfold strFlat; rw [List.getElem?_map, hj]; rfl)
    rwa [Addr.add_lit] at this
structure BoxSp (w : World) (bb st : Nat) (lo hi : ByteArray) : Prop where
  box : w.cell? ⟨bb, 0, none⟩ = some (.pointer (some ⟨st, 0, none⟩))
  c1 : w.cell? ⟨st, 1, none⟩ = some (.string lo)
  c2 : w.cell? ⟨st, 2, none⟩ = some (.string hi)
theorem BoxSp.grew {w w' : World} {bb st : Nat} {lo hi : ByteArray} (h : BoxSp w bb st lo hi) (g : Grew w w') : BoxSp w' bb st lo hi :=
  ⟨(g.cells.1 _ _ (cell_lt h.box)).trans h.box, (g.cells.1 _ _ (cell_lt h.c1)).trans h.c1, (g.cells.1 _ _ (cell_lt h.c1)).trans h.c2⟩
theorem askKey_any (S : Nat → Bool) (E : Nat → Addr) (hS : KeyS S) (lo hi key : ByteArray) (w : World) (hl : lo.size ≤ 70368744177664) (hh : hi.size ≤ 70368744177664) (hk : key.size ≤ 70368744177664) (hE : Errs S E w) (bb st : Nat) (hB : BoxSp w bb st lo hi) :
    Calls Tryz.prog 122 #[.string key, .pointer (some ⟨bb, 0, none⟩)] w fun e w' => e = .returned (.bool (!Pl.hasS lo hi key)) ∧ Grew w w' := by
  have HH := hid (has_span S E hS lo hi key w hl hh hk hE)
  obtain ⟨b0, b1, b2⟩ := hB
  clear hE
  generalize Pl.hasS lo hi key = b at *
  go_enter Tryz.func122, Tryz.ntmps122
  go_wp2_with fail
  refine HH.out.mono ?_
  rintro e w1 ⟨rfl, hg⟩
  clear HH b0 b1 b2
  go_wp2_with fail
  go_ret
  exact ⟨rfl, hg⟩
set_option maxRecDepth 100000 in
set_option maxHeartbeats 4000000 in
theorem idxKey_any (S : Nat → Bool) (E : Nat → Addr) (hS : KeyS S) (lo hi : ByteArray) (a : Option Addr) (cap : Nat) (xs : List ByteArray) (w : World) (hl : lo.size ≤ 70368744177664) (hh : hi.size ≤ 70368744177664) (hE : Errs S E w) (bb st : Nat) (hB : BoxSp w bb st lo hi) (hA : StrsAt w a xs) (hx : xs.length ≤ 1000000) (hk : ∀ k ∈ xs, k.size ≤ 70368744177664) :
    Calls Tryz.prog 186 #[.slice a xs.length cap, .func (.func 122) #[] #[.pointer (some ⟨bb, 0, none⟩)]] w fun e w' => e = .returned (.int .i64 (idxI (fun k => !Pl.hasS lo hi k) xs)) ∧ Grew w w' := by
  have HA := hid hA
  obtain ⟨p, hp⟩ : ∃ p : ByteArray → Bool, p = fun k => !Pl.hasS lo hi k := ⟨_, rfl⟩
  have hpk : ∀ k, (!Pl.hasS lo hi k) = p k := by intro k; rw [hp]
  have hP := fun W (g : Grew w W) k (hm : k ∈ xs) => askKey_any S E hS lo hi k W hl hh (hk k hm) (hE.grew g) bb st (hB.grew g)
  simp only [hpk] at hP
  rw [← hp]
  have HP := hid hP
  clear hA hE hB hP hpk hp
  go_enter Tryz.func186, Tryz.ntmps186
  go_wp2_with fail
  go_loopw [8] (fun i wr => ∃ k : Nat, k ≤ xs.length ∧ i = .int .i64 k ∧ Hid ((xs.take k).all (fun c => !p c) = true) ∧ Grew w wr) (fun i _ => xs.length - (intOf i).toNat)
  case atStart => exact ⟨0, Nat.zero_le _, rfl, rfl, Grew.refl w⟩
  case round =>
    obtain ⟨k, hk1, rfl, HN, hG⟩ := hrel
    by_cases hlt : k < xs.length
    · rcases HA.out with h0 | ⟨b, off, rfl, hb, hR⟩
      · rw [h0] at hlt; simp at hlt
      have q0 := (hG.cells.1 b (off + k) hb).trans (hR k _ (List.getElem?_eq_getElem hlt))
      have HC := hid (fun W g => HP.out W g xs[k] (List.getElem_mem hlt))
      clear hR
      have HS := hid (idx_some p xs k hlt HN.out)
      have HN2 := hid (idx_next p xs k hlt HN.out)
      generalize xs[k] = c at *
      cases hpc : p c with
      | true =>
        rw [hpc] at HC
        have HS2 := hid (HS.out hpc)
        clear hpc HS HN2
        go_wp2_with fail
        refine (HC.out _ hG).mono ?_
        rintro e w1 ⟨rfl, hg1⟩
        go_wp2_with fail
        go_ret
        exact ⟨ret_int HS2.out.symm, hG.trans hg1⟩
      | false =>
        rw [hpc] at HC
        have HS2 := hid (HN2.out hpc)
        clear hpc HS HN2
        go_wp2_with fail
        refine (HC.out _ hG).mono ?_
        rintro e w1 ⟨rfl, hg1⟩
        go_wp2_with fail
        go_roundw
        case rel => exact ⟨k + 1, by omega, by go_num, HS2, hG.trans hg1⟩
        case measure => simp [intOf]; omega
    · obtain rfl : k = xs.length := by omega
      have HE := hid (idx_none p xs (by have := HN.out; rwa [List.take_length] at this))
      go_wp2_with fail
      go_ret
      exact ⟨ret_int HE.out.symm, hG⟩
set_option maxHeartbeats 1000000 in
theorem anyKey_any (S : Nat → Bool) (E : Nat → Addr) (hS : KeyS S) (lo hi : ByteArray) (a : Option Addr) (cap : Nat) (xs : List ByteArray) (w : World) (hl : lo.size ≤ 70368744177664) (hh : hi.size ≤ 70368744177664) (hE : Errs S E w) (bb st : Nat) (hB : BoxSp w bb st lo hi) (hA : StrsAt w a xs) (hx : xs.length ≤ 1000000) (hk : ∀ k ∈ xs, k.size ≤ 70368744177664) :
    Calls Tryz.prog 120 #[.slice a xs.length cap, .func (.func 122) #[] #[.pointer (some ⟨bb, 0, none⟩)]] w fun e w' => e = .returned (.bool (xs.any fun k => !Pl.hasS lo hi k)) ∧ Grew w w' := by
  have HI := hid (idxKey_any S E hS lo hi a cap xs w hl hh hE bb st hB hA hx hk)
  have HG := hid (idx_ge (fun k => !Pl.hasS lo hi k) xs)
  clear hE hA hB
  generalize idxI (fun k => !Pl.hasS lo hi k) xs = n at *
  go_enter Tryz.func120, Tryz.ntmps120
  go_wp2_with fail
  refine HI.out.mono ?_
  rintro e w1 ⟨rfl, hg⟩
  go_wp2_with fail
  go_ret
  exact ⟨ret_bool HG.out, hg⟩
end Go.Proofs.YtoiahcgaffffbaaGreatDoor
namespace Go.Proofs.YtoiahcgaffffbaaGreatDoor
open Go.RowKit Go.Maps
attribute [local go_sem] Oper.semAt_some
theorem run_clone_map {w : World} {mb : Nat} {es : Array MapEntry} {clock : Nat} (h : w.heap[mb]? = some (.map es clock)) : (callFunc 167 #[.iface 231 (.map (some mb))]).run Tryz.prog w = .ok (.value (.iface 231 (.map (some w.heap.size)))) (w.alloc (.map es clock)) := by
  rw [run_callFunc_extern (P := Tryz.prog) (e := Extern.MapsClone.clone) Tryz.func167 (by kernel_rfl) (by kernel_rfl) (by kernel_rfl) (by kernel_rfl)]
  have h2 : (Extern.MapsClone.clone #[.iface 231 (.map (some mb))]).run Tryz.prog w = .ok (.iface 231 (.map (some w.heap.size))) (w.alloc (.map es clock)) := by
    have e : Extern.MapsClone.clone #[.iface 231 (.map (some mb))] = (getObj mb >>= fun o => match o with
      | .map es c => newObj (.map es c) >>= fun r => pure (.iface 231 (.map (some r)))
      | _ => stuck "maps.clone: a map expected") := rfl
    rw [e]
    rw [Sem.run_bind, Go.run_getObj_map w mb es clock h]
    rfl
  rw [h2]
  rfl
theorem LMap.again {w : World} {P : Program} {k : TypeId} {mb n : Nat} {f : Lit → Option Value} (h : LMap w P k mb n f) : ∃ es clock, w.heap[mb]? = some (.map es clock) ∧ LMap (w.alloc (.map es clock)) P k w.heap.size n f := by
  obtain ⟨D, ⟨es, clock, hb, hF, hn, hD⟩, hl⟩ := h
  exact ⟨es, clock, hb, D, ⟨es, clock, heap_alloc_new w _, hF, hn, hD⟩, hl⟩
set_option maxRecDepth 100000 in
set_option maxHeartbeats 2000000 in
theorem cloneM_any {w : World} {mb n : Nat} {f : Lit → Option Value} (h : LMap w Tryz.prog 3 mb n f) :
    Calls Tryz.prog 199 #[.map (some mb)] w fun e w' => e = .returned (.map (some w.heap.size)) ∧ LMap w' Tryz.prog 3 w.heap.size n f ∧ Grew w w' ∧ w.heap.size < w'.heap.size := by
  obtain ⟨es, clock, hb, hL⟩ := h.again
  have hcl := run_clone_map hb
  have heq : (binOp .eql 231 (.map (some mb)) (.map none)).run Tryz.prog w = .ok (.bool false) w := by kernel_rfl
  have hta : ∀ (x : Nat) (W : World), (Instr.typeAssert (.iface 231 (.map (some x))) 20 231 false).run Tryz.prog W = .ok (.map (some x)) W := fun x W => by kernel_rfl
  have hF := hid (And.intro hL (And.intro ((Grew.refl w).alloc (.map es clock)) (show w.heap.size < (w.alloc (.map es clock)).heap.size by simp)))
  clear hL h
  go_enter Tryz.func199, Tryz.ntmps199
  go_wp2_with fail
  go_ret
  exact ⟨rfl, hF.out⟩
set_option maxRecDepth 100000 in
set_option maxHeartbeats 2000000 in
theorem copyD_any {w : World} {F : Nat → Prop} {sb n : Nat} {S : Int → Option An} (h : SeenAt w F sb n S) :
    Calls Tryz.prog 152 #[.pointer (some ⟨sb, 0, none⟩)] w fun e w' => ∃ cb G, e = .returned (.pointer (some ⟨cb, 0, none⟩)) ∧ SeenAt w' G cb n S ∧ (∀ j, G j → w.heap.size ≤ j) ∧ Grew w w' := by
  obtain ⟨mb, f, h⟩ := h
  have c0 := h.c0
  have hsb : sb < w.heap.size := cell_lt c0
  have HC := hid (cloneM_any h.lm)
  have HV := hid (And.intro h.val (And.intro h.lit h.ok))
  clear h
  go_enter Tryz.func152, Tryz.ntmps152
  go_wp2_with fail
  refine HC.out.mono ?_
  rintro e w1 ⟨rfl, hL, hg, hz⟩
  have HF : Hid (∃ G, SeenAt (w1.alloc (.cells #[.map (some w.heap.size)] 233)) G w1.heap.size n S ∧ (∀ j, G j → w.heap.size ≤ j) ∧ Grew w (w1.alloc (.cells #[.map (some w.heap.size)] 233))) := by
    refine ⟨fun j => j = w.heap.size ∨ j = w1.heap.size, ⟨w.heap.size, f, ⟨by simp [go_sem], hL.grew ((Grew.refl _).alloc _), HV.out.1, HV.out.2.1, HV.out.2.2, .inr rfl, .inl rfl, by omega, fun j hj => ?_⟩⟩, fun j hj => ?_, hg.alloc _⟩
    · simp; rcases hj with hj | hj <;> omega
    · have := hg.size; rcases hj with hj | hj <;> omega
  clear hL hg hz
  go_wp2_with fail
  go_ret
  obtain ⟨G, h1, h2, h3⟩ := HF.out
  exact ⟨_, G, rfl, h1, h2, h3⟩
end Go.Proofs.YtoiahcgaffffbaaGreatDoor
namespace Go.Proofs.YtoiahcgaffffbaaGreatDoor
open Go.Shelf
def Tryz.keysCl_ren : Go.Shelf.Ren := ⟨fun | 7 => 205 | 10 => 219 | n => n, fun | 23 => 231 | 26 => 3 | 3 => 253 | 28 => 317 | 0 => 0 | 27 => 316 | 33 => 340 | 4 => 4 | n => n, fun | n => n⟩
theorem Tryz.keysCl : Go.Proofs.SlLaysZI.n7 Tryz.prog Tryz.keysCl_ren := {
  mixed := by kernel_rfl
  f7 := ⟨Tryz.f205.name, by decide, Tryz.func205.trans (congrArg some (by kernel_rfl))⟩
  f10 := ⟨Tryz.f219.name, by decide, Tryz.func219.trans (congrArg some (by kernel_rfl))⟩
  t0 := Tryz.underlying0
  a0 := Tryz.isAgg0
  z0 := Tryz.sizeOf0
  v0 := Tryz.zeroValue0
  t4 := Tryz.underlying4
  a4 := Tryz.isAgg4
  z4 := Tryz.sizeOf4
  v4 := Tryz.zeroValue4
  t23 := Tryz.underlying231
  a23 := Tryz.isAgg231
  z23 := Tryz.sizeOf231
  v23 := Tryz.zeroValue231
  t26 := Tryz.underlying3
  a26 := Tryz.isAgg3
  z26 := Tryz.sizeOf3
  v26 := Tryz.zeroValue3
  t27 := Tryz.underlying316
  a27 := Tryz.isAgg316
  z27 := Tryz.sizeOf316
  v27 := Tryz.zeroValue316
  t28 := Tryz.underlying317
  a28 := Tryz.isAgg317
  z28 := Tryz.sizeOf317
  v28 := Tryz.zeroValue317
  t33 := Tryz.underlying340
  a33 := Tryz.isAgg340
  z33 := Tryz.sizeOf340
  v33 := Tryz.zeroValue340 }
def Tryz.sortedCl_ren : Go.Shelf.Ren := ⟨fun | 6 => 204 | 8 => 217 | 9 => 218 | 11 => 245 | 13 => 210 | 12 => 246 | 23 => 230 | 24 => 231 | 14 => 257 | 15 => 258 | 16 => 259 | 17 => 260 | 18 => 261 | 19 => 262 | 20 => 263 | 21 => 264 | 22 => 265 | 25 => 269 | 26 => 249 | 27 => 250 | 28 => 270 | 29 => 271 | 30 => 272 | 31 => 273 | n => n, fun | 26 => 3 | 28 => 317 | 24 => 154 | 0 => 0 | 3 => 3 | 37 => 224 | 48 => 351 | 50 => 353 | 4 => 4 | 40 => 345 | 39 => 344 | 45 => 228 | 5 => 5 | 9 => 9 | 51 => 366 | 55 => 370 | 57 => 381 | 58 => 382 | 33 => 340 | n => n, fun | n => n⟩
theorem Tryz.sortedCl : Go.Proofs.SlLaysZI.n6 Tryz.prog Tryz.sortedCl_ren := {
  mixed := by kernel_rfl
  f6 := ⟨Tryz.f204.name, by decide, Tryz.func204.trans (congrArg some (by kernel_rfl))⟩
  f8 := ⟨Tryz.f217.name, by decide, Tryz.func217.trans (congrArg some (by kernel_rfl))⟩
  f11 := ⟨Tryz.f245.name, by decide, Tryz.func245.trans (congrArg some (by kernel_rfl))⟩
  t0 := Tryz.underlying0
  a0 := Tryz.isAgg0
  z0 := Tryz.sizeOf0
  v0 := Tryz.zeroValue0
  t24 := Tryz.underlying154
  a24 := Tryz.isAgg154
  z24 := Tryz.sizeOf154
  v24 := Tryz.zeroValue154
  t26 := Tryz.underlying3
  a26 := Tryz.isAgg3
  z26 := Tryz.sizeOf3
  v26 := Tryz.zeroValue3
  t28 := Tryz.underlying317
  a28 := Tryz.isAgg317
  z28 := Tryz.sizeOf317
  v28 := Tryz.zeroValue317
  i26 := by kernel_rfl }
def Tryz.sortCl_ren : Go.Shelf.Ren := ⟨fun | 5 => 218 | 8 => 210 | 7 => 246 | 19 => 230 | 20 => 231 | 10 => 257 | 11 => 258 | 12 => 259 | 13 => 260 | 14 => 261 | 15 => 262 | 16 => 263 | 17 => 264 | 18 => 265 | 30 => 269 | 31 => 249 | 32 => 250 | 33 => 270 | 34 => 271 | 35 => 272 | 40 => 273 | n => n, fun | 23 => 154 | 25 => 3 | 3 => 3 | 32 => 224 | 22 => 154 | 0 => 0 | 44 => 351 | 46 => 353 | 4 => 4 | 36 => 345 | 35 => 344 | 41 => 228 | 5 => 5 | 9 => 9 | 53 => 366 | 57 => 370 | 63 => 381 | 64 => 382 | n => n, fun | n => n⟩
theorem Tryz.sortCl : Go.Proofs.SlLaysM.n5 Tryz.prog Tryz.sortCl_ren := {
  mixed := by kernel_rfl
  f5 := ⟨Tryz.f218.name, by decide, Tryz.func218.trans (congrArg some (by kernel_rfl))⟩
  f7 := ⟨Tryz.f246.name, by decide, Tryz.func246.trans (congrArg some (by kernel_rfl))⟩
  f8 := Tryz.func210.trans (congrArg some (by kernel_rfl))
  f10 := ⟨Tryz.f257.name, by decide, Tryz.func257.trans (congrArg some (by kernel_rfl))⟩
  f11 := ⟨Tryz.f258.name, by decide, Tryz.func258.trans (congrArg some (by kernel_rfl))⟩
  f12 := ⟨Tryz.f259.name, by decide, Tryz.func259.trans (congrArg some (by kernel_rfl))⟩
  f13 := ⟨Tryz.f260.name, by decide, Tryz.func260.trans (congrArg some (by kernel_rfl))⟩
  f14 := ⟨Tryz.f261.name, by decide, Tryz.func261.trans (congrArg some (by kernel_rfl))⟩
  f15 := ⟨Tryz.f262.name, by decide, Tryz.func262.trans (congrArg some (by kernel_rfl))⟩
  f16 := ⟨Tryz.f263.name, by decide, Tryz.func263.trans (congrArg some (by kernel_rfl))⟩
  f17 := ⟨Tryz.f264.name, by decide, Tryz.func264.trans (congrArg some (by kernel_rfl))⟩
  f18 := ⟨Tryz.f265.name, by decide, Tryz.func265.trans (congrArg some (by kernel_rfl))⟩
  f19 := Tryz.func230.trans (congrArg some (by kernel_rfl))
  f20 := Tryz.func231.trans (congrArg some (by kernel_rfl))
  f30 := ⟨Tryz.f269.name, by decide, Tryz.func269.trans (congrArg some (by kernel_rfl))⟩
  f31 := Tryz.func249.trans (congrArg some (by kernel_rfl))
  f32 := Tryz.func250.trans (congrArg some (by kernel_rfl))
  f33 := ⟨Tryz.f270.name, by decide, Tryz.func270.trans (congrArg some (by kernel_rfl))⟩
  f34 := ⟨Tryz.f271.name, by decide, Tryz.func271.trans (congrArg some (by kernel_rfl))⟩
  f35 := ⟨Tryz.f272.name, by decide, Tryz.func272.trans (congrArg some (by kernel_rfl))⟩
  f40 := ⟨Tryz.f273.name, by decide, Tryz.func273.trans (congrArg some (by kernel_rfl))⟩
  t0 := Tryz.underlying0
  a0 := Tryz.isAgg0
  z0 := Tryz.sizeOf0
  v0 := Tryz.zeroValue0
  t3 := Tryz.underlying3
  a3 := Tryz.isAgg3
  z3 := Tryz.sizeOf3
  v3 := Tryz.zeroValue3
  t4 := Tryz.underlying4
  a4 := Tryz.isAgg4
  z4 := Tryz.sizeOf4
  v4 := Tryz.zeroValue4
  t5 := Tryz.underlying5
  a5 := Tryz.isAgg5
  z5 := Tryz.sizeOf5
  v5 := Tryz.zeroValue5
  t9 := Tryz.underlying9
  a9 := Tryz.isAgg9
  z9 := Tryz.sizeOf9
  v9 := Tryz.zeroValue9
  t22 := Tryz.underlying154
  a22 := Tryz.isAgg154
  z22 := Tryz.sizeOf154
  v22 := Tryz.zeroValue154
  t23 := Tryz.underlying154
  a23 := Tryz.isAgg154
  z23 := Tryz.sizeOf154
  v23 := Tryz.zeroValue154
  t25 := Tryz.underlying3
  a25 := Tryz.isAgg3
  z25 := Tryz.sizeOf3
  v25 := Tryz.zeroValue3
  t32 := Tryz.underlying224
  a32 := Tryz.isAgg224
  z32 := Tryz.sizeOf224
  v32 := Tryz.zeroValue224
  t35 := Tryz.underlying344
  a35 := Tryz.isAgg344
  z35 := Tryz.sizeOf344
  v35 := Tryz.zeroValue344
  t36 := Tryz.underlying345
  a36 := Tryz.isAgg345
  z36 := Tryz.sizeOf345
  v36 := Tryz.zeroValue345
  t41 := Tryz.underlying228
  a41 := Tryz.isAgg228
  z41 := Tryz.sizeOf228
  v41 := Tryz.zeroValue228
  t44 := Tryz.underlying351
  a44 := Tryz.isAgg351
  z44 := Tryz.sizeOf351
  v44 := Tryz.zeroValue351
  t46 := Tryz.underlying353
  a46 := Tryz.isAgg353
  z46 := Tryz.sizeOf353
  v46 := Tryz.zeroValue353
  t53 := Tryz.underlying366
  a53 := Tryz.isAgg366
  z53 := Tryz.sizeOf366
  v53 := Tryz.zeroValue366
  t57 := Tryz.underlying370
  a57 := Tryz.isAgg370
  z57 := Tryz.sizeOf370
  v57 := Tryz.zeroValue370
  t63 := Tryz.underlying381
  a63 := Tryz.isAgg381
  z63 := Tryz.sizeOf381
  v63 := Tryz.zeroValue381
  t64 := Tryz.underlying382
  a64 := Tryz.isAgg382
  z64 := Tryz.sizeOf382
  v64 := Tryz.zeroValue382 }
end Go.Proofs.YtoiahcgaffffbaaGreatDoor
namespace Go.Proofs.YtoiahcgaffffbaaGreatDoor
open Go.RowKit Go.Maps Go.ChangeMaps Go.MapKept Go.WideShapes
open Go.WideElems (Fit rd rg pl rd_key rd_val rg_of other_key rd_mk)
theorem ownsMap_ints {w : World} {P : Program} {k : TypeId} {b n : Nat} {D : DataW Value} (h : w.ownsMap P k raw b n D) (K : Keyed P k) (hk : P.underlying k = some (.int .i64)) :
    (intKeys D).Nodup ∧ (∀ c, c ∈ intKeys D ↔ lookD D (clit c) ≠ none) ∧ (intKeys D).length ≤ n ∧ Maps.size D ≤ n := by
  obtain ⟨es, hD, hpw, _⟩ := h.entries K
  obtain ⟨es', hD', hko⟩ := h.keysOf
  obtain rfl : es = es' := by rw [hD] at hD'; simpa using hD'
  have hint : ∀ p ∈ es, ∃ x, p.1 = .int .i64 x := fun p hp => by obtain ⟨v, hv⟩ := hko p hp; obtain ⟨x, _, hx, _⟩ := Maps.keyOf_i64 hk hv; exact ⟨x, hx⟩
  have hkd : intKeys D = es.map fun p => Go.intOf p.1 := by rw [hD]; rfl
  have hlen : es.length ≤ n := by
    obtain ⟨es2, clock, hb, F, hs, hD2⟩ := h
    rw [hD] at hD2
    have e1 : es = (es2.toList.map (rg P k raw)).foldr DataW.insert [] := by injection hD2
    rw [e1, length_sorted]
    simpa using hs
  rw [hkd]
  refine ⟨?_, fun c => ?_, by rw [List.length_map]; exact hlen, by rw [hD]; exact hlen⟩
  · refine List.pairwise_map.2 (hpw.imp_of_mem fun {p q} hp' hq' hne e => hne ?_)
    obtain ⟨a, ha⟩ := hint p hp'
    obtain ⟨d, hd⟩ := hint q hq'
    rw [ha, hd] at e ⊢
    have e2 : a = d := e
    rw [e2]
  · constructor
    · intro hs
      obtain ⟨p, hp, rfl⟩ := List.mem_map.1 hs
      obtain ⟨a, ha⟩ := hint p hp
      have hhas : Maps.has D (clit (Go.intOf p.1)) = true := by
        rw [hD]
        refine List.any_eq_true.2 ⟨p, hp, ?_⟩
        rw [ha]; simp [clit, Go.intOf, Lit.sameKey]
      obtain ⟨es2, clock, hb, F, _, hD2⟩ := h
      rw [hD2] at hhas
      obtain ⟨p2, hp2, hpk⟩ := List.any_eq_true.1 hhas
      obtain ⟨x, hx, rfl⟩ := List.mem_map.1 (mem_sorted.1 hp2)
      obtain ⟨y, hy⟩ := F.reads x hx
      obtain ⟨z, hz, hzd⟩ := rd_val hy
      have hkk : keyOf P k x.key = some (clit (Go.intOf p.1)) := by
        have := WideAt.sameKey_eq hpk
        rw [rg_of hy] at this
        rw [← this]; exact rd_key hy
      unfold lookD
      rw [hD2, if_pos hhas]
      have hat := (atKey_sorted (es2.toList.map (rg P k raw)) (Maps.fit_rising K F) _ (K.key hkk)).2 (rg P k raw x) (List.mem_map.2 ⟨x, hx, rfl⟩) (WideAt.sameKey_eq hpk)
      rw [hat, rg_of hy, hzd]
      cases hz
      simp
    · intro hs
      unfold lookD at hs
      by_cases hh : Maps.has D (clit c) = true
      · rw [hD] at hh
        obtain ⟨p, hp, hpk⟩ := List.any_eq_true.1 hh
        refine List.mem_map.2 ⟨p, hp, ?_⟩
        rw [WideAt.sameKey_eq hpk]
        rfl
      · rw [if_neg hh] at hs; exact absurd rfl hs
end Go.Proofs.YtoiahcgaffffbaaGreatDoor
namespace Go.Proofs.YtoiahcgaffffbaaGreatDoor
open Go.RowKit Go.Maps Go.Sort Go.Shelf
attribute [local go_sem] Oper.semAt_some
theorem sortsCl (m : Nat) : AnyZI.SortsIn Tryz.prog Tryz.sortedCl_ren Fence.wide m :=
  ⟨fun blk off cap ss W hH hblk hsz => callsIn_wide.2 (AnyM.slices_Sort_int Tryz.sortCl blk off cap ss W hH hblk hsz),
   fun p cap W => callsIn_wide.2 (AnyM.slices_Sort_int_none Tryz.sortCl p cap W)⟩
set_option maxRecDepth 100000 in
set_option maxHeartbeats 2000000 in
theorem sortedCl_any (w : World) (mb n : Nat) (f : Lit → Option Value) (h : LMap w Tryz.prog 3 mb n f) (hn : n ≤ 1000000) (Bm : Nat) (hBm : w.cell? ⟨Bm, 0, none⟩ = some (.map (some mb))) :
    CallsIn Fence.wide 5 Tryz.prog 204 #[.func (.func 219) #[] #[.pointer (some ⟨Bm, 0, none⟩)]] w fun e w' => ∃ (v : Value) (ks : List Int), e = .returned v ∧ (ks.Pairwise fun a b => a < b) ∧ (∀ c, c ∈ ks ↔ f (clit c) ≠ none) ∧ ks.length ≤ n ∧ w'.ownsRow w.heap.size 3 1 v ks.length (ks.map encZ) ∧ Below w.heap.size w w' := by
  obtain ⟨D, hown, hf⟩ := h
  obtain ⟨hnd, hmem, hlen, hsz⟩ := ownsMap_ints hown cl_keyed Tryz.underlying3
  have hBlt : Bm < w.heap.size := cell_lt hBm
  have hseq : SeqGives Fence.wide 2 Tryz.prog 219 #[.pointer (some ⟨Bm, 0, none⟩)] encZ (fun ss => ss.Perm (intKeys D)) (Maps.size D) w :=
    AnyZI.keys_gives (ρ := Tryz.keysCl_ren) { Tryz.keysCl with } Fence.wide _ trivial rfl (by omega) Bm mb n D w hBlt hBm hown
  have cS := AnyZI.sorted_in Tryz.sortedCl Fence.wide 5 trivial trivial trivial trivial rfl (by omega) (sortsCl _) (enters_of Tryz.func218 (by kernel_rfl) rfl) 219 #[.pointer (some ⟨Bm, 0, none⟩)] trivial (enters_of Tryz.func219 (by kernel_rfl) rfl) _ _ (by unfold maxLen; omega) (by omega) _ hseq
  change CallsIn _ _ Tryz.prog 204 _ _ _ at cS
  refine cS.mono ?_
  rintro e w' ⟨v, ss, rfl, hp, hrow, _, hb⟩
  have hm : (ss.mergeSort (fun x y => decide (x ≤ y))).Perm ss := List.mergeSort_perm _ _
  have hpp := hm.trans hp
  refine ⟨v, _, rfl, ?_, fun c => by rw [hpp.mem_iff, hmem, hf], by rw [hpp.length_eq]; exact hlen, by rw [hm.length_eq]; exact hrow, hb⟩
  have tr : ∀ a b c : Int, decide (a ≤ b) = true → decide (b ≤ c) = true → decide (a ≤ c) = true := fun a b c h1 h2 => by simp only [decide_eq_true_eq] at *; omega
  have tot : ∀ a b : Int, (decide (a ≤ b) || decide (b ≤ a)) = true := fun a b => by simp only [Bool.or_eq_true, decide_eq_true_eq]; omega
  have h1 := List.pairwise_mergeSort tr tot ss
  have h2 : (ss.mergeSort (fun x y => decide (x ≤ y))).Nodup := hpp.nodup_iff.2 hnd
  exact List.Pairwise.imp₂ (fun a b h3 h4 => by simp only [decide_eq_true_eq] at h3; omega) h1 h2
end Go.Proofs.YtoiahcgaffffbaaGreatDoor
