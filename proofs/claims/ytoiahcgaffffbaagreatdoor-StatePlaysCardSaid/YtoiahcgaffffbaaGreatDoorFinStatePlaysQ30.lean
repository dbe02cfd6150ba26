/- Wr23, Wr0, Acts23, Acts37: one text. -/
import Derived.Test.YtoiahcgaffffbaaGreatDoorFinStatePlaysQ29
import Derived.Test.YtoiahcgaffffbaaGreatDoorFinStatePlaysQ16
import Derived.Deep.QuietTactic
import Derived.BigQuiet
import Derived.Test.YtoiahcgaffffbaaGreatDoorFinStatePlaysQ1
import Derived.Deep.AppendLies
set_option linter.unusedVariables false
set_option linter.unusedSectionVars false
set_option linter.unusedSimpArgs false
namespace Go.Proofs.YtoiahcgaffffbaaGreatDoor
open Go.RowKit Go.Maps
attribute [local go_sem] Oper.semAt_some
namespace Pl
def InS (lo hi : ByteArray) (P : List Pr) : Prop := ∀ c ∈ P, hasS lo hi c.key = true
theorem inS_nil (lo hi : ByteArray) : InS lo hi [] := fun c h => by cases h
theorem step_mem {P : List Pr} (h : Srt P) (o : OpR) (v : Int) : ∀ c ∈ (stepP P o v).1, c ∈ P ∨ c.key = o.key := by
  intro c hc
  unfold stepP at hc
  split at hc
  · exact .inl ((mem_del h _ _).1 hc).1
  · split at hc
    · exact .inl hc
    · split at hc
      · exact .inl hc
      · unfold putT at hc
        dsimp only at hc
        split at hc
        · next hp =>
          rcases (mem_put h (putN_zero hp).1 _).1 hc with hq | hq
          · exact .inr (by rw [hq])
          · exact .inl hq.1
        · exact .inl hc
theorem step_srt {P : List Pr} (h : Srt P) (o : OpR) (v : Int) : Srt (stepP P o v).1 := by
  unfold stepP
  split
  · exact srt_del h _
  · split
    · exact h
    · split
      · exact h
      · unfold putT
        dsimp only
        split
        · next hp => exact srt_put h (putN_zero hp).1
        · exact h
theorem runOps_in {lo hi : ByteArray} (v : Int) : ∀ (ops : List OpR) {P : List Pr}, Srt P → InS lo hi P → (∀ o ∈ ops, hasS lo hi o.key = true) → InS lo hi (runOps ops v P).1 := by
  intro ops
  induction ops with
  | nil => intro P _ h _; exact h
  | cons o os ih =>
    intro P hs h ho
    have h1 : InS lo hi (stepP P o v).1 := fun c hc => by
      rcases step_mem hs o v c hc with q | q
      · exact h c q
      · rw [q]; exact ho o (by simp)
    rw [runOps_cons]
    split
    · exact ih (step_srt hs o v) h1 fun x hx => ho x (by simp [hx])
    · exact h1
theorem writeG_in {lo hi : ByteArray} {P : List Pr} (hs : Srt P) (h : InS lo hi P) (S : Int → Option An) (e : En) (at_ : Int) : InS lo hi (writeG lo hi P S e at_).P := by
  unfold writeG
  split
  · exact h
  · split
    · exact h
    · split
      · exact h
      · next hq =>
        split
        · show InS lo hi (tabW P e.ops at_)
          unfold tabW
          split
          · exact runOps_in _ _ hs h (any_has hq)
          · exact h
        · split <;> exact h
theorem writeG_len (lo hi : ByteArray) (P : List Pr) (S : Int → Option An) (e : En) (at_ : Int) : (writeG lo hi P S e at_).P.length ≤ P.length + 8 := by
  unfold writeG
  by_cases h1 : e.kind = 1 ∧ rightB e = true
  · rw [if_neg (not_not_intro h1)]
    split
    · dsimp only; omega
    · split
      · dsimp only; omega
      · split
        · have := tabW_len P e.ops at_; have := (right_seq h1.1 h1.2).2.2; dsimp only; omega
        · split <;> (dsimp only; omega)
  · rw [if_pos h1]; dsimp only; omega
end Pl
def BlS (Ft Fs : Nat → Prop) (st j : Nat) : Prop := Ft j ∨ Fs j ∨ j = st
def BlM (G : Nat → Prop) (ms sb j : Nat) : Prop := G j ∨ j = ms ∨ j = sb
structure TwS (w0 W : World) (st ms n : Nat) (lo hi : ByteArray) (P : List Pr) (S : Int → Option An) : Prop where
  grew : Grew w0 W
  ex : ∃ Ft Fs G sb D, StAt W Ft Fs st n lo hi P S ∧ MsAt W G ms sb lo hi D S ∧ Pl.Tt P D ∧ (∀ j, BlS Ft Fs st j → w0.heap.size ≤ j ∧ ¬ BlM G ms sb j) ∧ (∀ j, BlM G ms sb j → w0.heap.size ≤ j)
  ins : Pl.InS lo hi P
section
variable {w0 W W' : World} {st ms n : Nat} {lo hi : ByteArray} {P : List Pr} {S : Int → Option An}
theorem StAt.all {W : World} {Ft Fs : Nat → Prop} {st n : Nat} {lo hi : ByteArray} {P : List Pr} {S : Int → Option An} (h : StAt W Ft Fs st n lo hi P S) : ∀ j, BlS Ft Fs st j → j < W.heap.size := by
  obtain ⟨tb, sb, h⟩ := h
  rintro j (hj | hj | rfl)
  · exact tabAt_lt h.tab j hj
  · exact h.seen.lt j hj
  · exact cell_lt h.c0
theorem MsAt.all {W : World} {G : Nat → Prop} {ms sb : Nat} {lo hi : ByteArray} {D : List Pr} {S : Int → Option An} (h : MsAt W G ms sb lo hi D S) : ∀ j, BlM G ms sb j → j < W.heap.size := by
  obtain ⟨a, b, c⟩ := h.lt
  rintro j (hj | rfl | rfl)
  · exact c j hj
  · exact a
  · exact b
theorem TwS.more (h : TwS w0 W st ms n lo hi P S) (g : Grew W W') : TwS w0 W' st ms n lo hi P S := by
  obtain ⟨Ft, Fs, G, sb, D, h1, h2, h3⟩ := h.ex
  exact ⟨h.grew.trans g, ⟨Ft, Fs, G, sb, D, h1.grew g, h2.grew g, h3⟩, h.ins⟩
end
end Go.Proofs.YtoiahcgaffffbaaGreatDoor
namespace Go.Proofs.YtoiahcgaffffbaaGreatDoor
open Go.RowKit Go.Maps
attribute [local go_sem] Oper.semAt_some
set_option maxRecDepth 100000 in
set_option maxHeartbeats 4000000 in
theorem writeS_form0 (E : Nat → Addr) (e : En) (w : World) (hE : Errs stS E w) (hA : e.kind = 1 → EnAt w e) (at_ : Int) (st : Nat) (h : ¬ (e.kind = 1 ∧ Pl.rightB e = true)) :
    Calls Tryz.prog 57 #[.pointer (some ⟨st, 0, none⟩), e.agg, .int .i64 at_] w fun r w' => r = .returned (.tuple #[ansAgg 0 0, errOf E 4]) ∧ Grew w w' := by
  have hS : KeyT stS := ⟨rfl, rfl, rfl, rfl⟩
  have HR := hid (fun W (g : Grew w W) (h1 : e.kind = 1) => rightE_any hS E e W (hE.grew g) ((hA h1).grew g))
  have HW := hid (WrIn.start w st e)
  have g4 : w.cell? ⟨0, 0, none⟩ = some (.iface 388 (.pointer (some (E 4)))) := hE.cell 4 rfl
  have b4 : 0 < w.heap.size := cell_lt g4
  have HG4 := hid (fun W (g : Grew w W) => (g.cells.1 _ _ b4).trans g4)
  have HK : Hid (Pl.rightB e = false ∨ e.kind ≠ 1) := by
    unfold Hid
    cases hr : Pl.rightB e with
    | false => exact .inl rfl
    | true => exact .inr fun k => h ⟨k, hr⟩
  clear hE hA h g4 b4
  generalize Pl.rightB e = rb at *
  obtain ⟨Y, hY⟩ : ∃ Y, Y = (((w.alloc (.cells #[.pointer (some ⟨st, 0, none⟩)] 28)).alloc (.cells e.vals.toArray 66)).alloc (.cells #[.int .i64 0, .int .i64 0] 127)) := ⟨_, rfl⟩
  rw [← hY] at HW
  obtain ⟨HYE⟩ : Nonempty (Hid (Y = (((w.alloc (.cells #[.pointer (some ⟨st, 0, none⟩)] 28)).alloc (.cells e.vals.toArray 66)).alloc (.cells #[.int .i64 0, .int .i64 0] 127)))) := ⟨hY⟩
  clear hY
  unfold En.agg at *
  obtain ⟨kind, shard, other, server, client, seq, key, upto, part, parts, ops, opsA, opsC, dataA, dataL, dataC⟩ := e
  unfold En.vals at HR HYE ⊢
  dsimp only at *
  unfold ansAgg
  rw [errOf_pos E 4 (by decide)]
  by_cases k1 : kind = 1
  · subst k1
    have HB : rb = false := by rcases HK.out with h | h; exact h; exact absurd rfl h
    subst HB
    clear HK
    go_enter Tryz.func57, Tryz.ntmps57
    go_wp2_with fail
    rw [← HYE.out]
    refine (HR.out Y HW.out.grew (by trivial)).mono ?_
    rintro e w1 ⟨rfl, hg1⟩
    have HW1 := hid (HW.out.more hg1)
    have hl := HW1.out.lt
    have q0 := HG4.out w1 HW1.out.grew
    have a0 := HW1.out.a0
    have a1 := HW1.out.a1
    have f0 := HW1.out.f0
    have f1 := HW1.out.f1
    clear hg1 HW HR HG4
    go_wp2_with fail
    go_region
    go_wp2_with fail
    refine bodyPost_ret (v := .tuple #[.agg #[.int .i64 0, .int .i64 0], .iface 388 (.pointer (some (E 4)))]) (by simp [results, Tryz.results57, go_sem, a0, a1, f0, f1]) rfl ⟨rfl, ?_⟩
    refine ((HW1.out.grew.setCell ?_ _).setCell ?_ _).drew <;> (show w.heap.size ≤ w.heap.size + 2; omega)
  · clear HK HR
    go_enter Tryz.func57, Tryz.ntmps57
    have q0 := HG4.out Y HW.out.grew
    have a0 := HW.out.a0
    have a1 := HW.out.a1
    have f0 := HW.out.f0
    have f1 := HW.out.f1
    have k0 : Y.cell? ⟨w.heap.size + 1, 0, none⟩ = some (.int .i64 kind) := HW.out.ent 0 _ rfl
    have HW1 := hid HW.out
    have hl := HW.out.lt
    clear HG4 HW
    go_wp2_with fail
    rw [← HYE.out]
    go_region
    go_wp2_with fail
    refine bodyPost_ret (v := .tuple #[.agg #[.int .i64 0, .int .i64 0], .iface 388 (.pointer (some (E 4)))]) (by simp [results, Tryz.results57, go_sem, a0, a1, f0, f1]) rfl ⟨rfl, ?_⟩
    refine ((HW1.out.grew.setCell ?_ _).setCell ?_ _).drew <;> (show w.heap.size ≤ w.heap.size + 2; omega)
set_option maxRecDepth 100000 in
set_option maxHeartbeats 8000000 in
theorem write23_form0 (e : En) (w : World) (hA : e.kind = 1 → EnAt w e) (hs : ∀ o ∈ e.ops, o.key.size ≤ 16777216) (at_ : Int) (ms : Nat) (h : ¬ (e.kind = 1 ∧ Pl.rightB e = true)) :
    Calls Tryz.prog 58 #[.pointer (some ⟨ms, 0, none⟩), e.agg, .int .i64 at_] w fun r w' => r = .returned (.tuple #[ansAgg 0 0, .int .i64 4]) ∧ Grew w w' := by
  have HR := hid (fun W (g : Grew w W) (h1 : e.kind = 1) => right5_kind e W ((hA h1).grew g) (fun h3 => by omega) hs)
  have HW := hid (WrM.start w e)
  obtain ⟨Y, hY⟩ : ∃ Y, Y = (((w.alloc (.cells e.vals.toArray 66)).alloc (.cells #[.int .i64 0, .int .i64 0] 127)).alloc (.cells #[.int .i64 0, .int .i64 0] 127)) := ⟨_, rfl⟩
  rw [← hY] at HW
  have HYE := hid hY
  clear hY hA hs
  unfold En.agg at *
  obtain ⟨kind, shard, other, server, client, seq, key, upto, part, parts, ops, opsA, opsC, dataA, dataL, dataC⟩ := e
  unfold En.vals at HR HYE ⊢
  dsimp only at *
  generalize hrb : Pl.rightB ⟨kind, shard, other, server, client, seq, key, upto, part, parts, ops, opsA, opsC, dataA, dataL, dataC⟩ = rb at *
  unfold ansAgg
  by_cases hk : kind = 1
  · subst hk
    obtain rfl : rb = false := by cases rb with | false => rfl | true => exact absurd ⟨rfl, rfl⟩ h
    clear h hrb
    go_enter Tryz.func58, Tryz.ntmps58
    go_upto_region 2 with fail
    go_wp2_with fail
    rw [← HYE.out]
    refine (HR.out Y HW.out.grew (by trivial)).mono ?_
    rintro e w1 ⟨rfl, hg1⟩
    have HW1 := hid (HW.out.more hg1)
    have hl1 := HW1.out.lt
    have a0 := HW1.out.a0
    have a1 := HW1.out.a1
    have f0 := HW1.out.f0
    have f1 := HW1.out.f1
    have n0 := HW1.out.n0
    have n1 := HW1.out.n1
    clear hg1 HW HR
    go_wp2_with fail
    refine bodyPost_ret (v := .tuple #[.agg #[.int .i64 0, .int .i64 0], .int .i64 4]) (by simp [results, Tryz.results58, go_sem, a0, a1, f0, f1]) rfl ⟨rfl, ?_⟩
    exact (HW1.out.grew.setCell (show w.heap.size ≤ w.heap.size + 1 by omega) _).setCell (show w.heap.size ≤ w.heap.size + 1 by omega) _
  · have hkb : (kind == 1) = false := beq_eq_false_iff_ne.2 hk
    clear h hrb HR
    go_enter Tryz.func58, Tryz.ntmps58
    go_upto_region 2 with fail
    have HW1 := HW
    obtain ⟨_⟩ : True := trivial
    rw [← HYE.out]
    have hl1 := HW1.out.lt
    have a0 := HW1.out.a0
    have a1 := HW1.out.a1
    have f0 := HW1.out.f0
    have f1 := HW1.out.f1
    have n0 := HW1.out.n0
    have n1 := HW1.out.n1
    have c0 : Y.cell? ⟨w.heap.size, 0, none⟩ = some (.int .i64 kind) := HW1.out.ent 0 _ rfl
    clear HW
    go_wp2_with fail
    refine bodyPost_ret (v := .tuple #[.agg #[.int .i64 0, .int .i64 0], .int .i64 4]) (by simp [results, Tryz.results58, go_sem, a0, a1, f0, f1]) rfl ⟨rfl, ?_⟩
    exact (HW1.out.grew.setCell (show w.heap.size ≤ w.heap.size + 1 by omega) _).setCell (show w.heap.size ≤ w.heap.size + 1 by omega) _
theorem writeG0_any (E : Nat → Addr) (e : En) {w : World} (hE : Errs stS E w) (hA : e.kind = 1 → EnAt w e) (hz : EnSz e) (at_ : Int) {Ft Fs : Nat → Prop} {st n : Nat} {lo hi : ByteArray} {P : List Pr} {S : Int → Option An} (h : StAt w Ft Fs st n lo hi P S) (hl : lo.size ≤ 70368744177664) (hh : hi.size ≤ 70368744177664) (hx : P.length ≤ 1000) (hn : n ≤ 1000000) :
    Calls Tryz.prog 57 #[.pointer (some ⟨st, 0, none⟩), e.agg, .int .i64 at_] w fun r w' => r = .returned (.tuple #[ansAgg (Pl.writeG lo hi P S e at_).code (Pl.writeG lo hi P S e at_).at_, errOf E (Pl.writeG lo hi P S e at_).err]) ∧ ∃ m, m ≤ n + 1 ∧ Wrote w w' Ft Fs st m lo hi (Pl.writeG lo hi P S e at_).P (Pl.writeG lo hi P S e at_).S := by
  have still : ∀ {w'}, Grew w w' → ∃ m, m ≤ n + 1 ∧ Wrote w w' Ft Fs st m lo hi P S := fun {w'} g => ⟨n, by omega, g.only _, Ft, h.grew g, fun _ hj => .inl hj⟩
  unfold Pl.writeG
  by_cases h1 : e.kind = 1 ∧ Pl.rightB e = true
  · rw [if_neg (not_not_intro h1)]
    by_cases h2 : at_ < 0 ∨ 4096 ≤ at_
    · rw [if_pos h2]
      refine (writeS_range E e w hE (hA h1.1) at_ st h1.1 h1.2 h2).mono ?_
      rintro r w' ⟨hr, hg⟩
      exact ⟨hr, still hg⟩
    · rw [if_neg h2]
      by_cases h5 : (e.ops.any fun o => !Pl.hasS lo hi o.key) = true
      · rw [if_pos h5]
        refine (writeS_moved E e hE (hA h1.1) at_ h h1.1 h1.2 (by omega) (by omega) hl hh (fun o ho => (hz o ho).1) h5).mono ?_
        rintro r w' ⟨hr, hg⟩
        exact ⟨hr, still hg⟩
      · rw [if_neg h5]
        by_cases h3 : askN (S e.client) e.seq = 1
        · rw [if_pos h3]
          refine (writeS_new E e hE (hA h1.1) at_ h h1.1 h1.2 (by omega) (by omega) hl hh (fun o ho => (hz o ho).1) (Pl.any_has h5) (fun o ho => (hz o ho).2) hx hn h3).mono ?_
          rintro r w' ⟨hr, hg⟩
          exact ⟨hr, n + 1, Nat.le_refl _, hg⟩
        · rw [if_neg h3]
          refine (writeS_seen E e hE (hA h1.1) at_ h h1.1 h1.2 (by omega) (by omega) hl hh (fun o ho => (hz o ho).1) (Pl.any_has h5) h3).mono ?_
          rintro r w' ⟨hr, hg⟩
          by_cases h4 : askN (S e.client) e.seq = 2
          · rw [if_pos h4] at hr ⊢
            exact ⟨hr, still hg⟩
          · rw [if_neg h4] at hr ⊢
            exact ⟨hr, still hg⟩
  · rw [if_pos h1]
    refine (writeS_form0 E e w hE hA at_ st h1).mono ?_
    rintro r w' ⟨hr, hg⟩
    exact ⟨hr, still hg⟩
theorem write23_any0 (e : En) {w : World} (hA : e.kind = 1 → EnAt w e) (hs : ∀ o ∈ e.ops, o.key.size ≤ 16777216) (hsv : ∀ o ∈ e.ops, o.val.size ≤ 140737488351232) (at_ : Int) {G : Nat → Prop} {ms sb : Nat} {lo hi : ByteArray} {D P : List Pr} {S : Int → Option An} (h : MsAt w G ms sb lo hi D S) (hTT : Pl.Tt P D) (hl : lo.size ≤ 16777216) (hh : hi.size ≤ 16777216) (hx : D.length ≤ 1000) :
    Calls Tryz.prog 58 #[.pointer (some ⟨ms, 0, none⟩), e.agg, .int .i64 at_] w fun r w' => r = .returned (.tuple #[ansAgg (Pl.writeG lo hi P S e at_).code (Pl.writeG lo hi P S e at_).at_, .int .i64 ((Pl.writeG lo hi P S e at_).err : Nat)]) ∧ ∃ D', MsTurn w G ms sb lo hi D' (Pl.writeG lo hi P S e at_).S w' ∧ Pl.Tt (Pl.writeG lo hi P S e at_).P D' := by
  by_cases h1 : e.kind = 1 ∧ Pl.rightB e = true
  · by_cases h2 : at_ < 0 ∨ 4096 ≤ at_
    · have e1 : Pl.writeG lo hi P S e at_ = ⟨0, 0, 1, P, S⟩ := by unfold Pl.writeG; rw [if_neg (not_not_intro h1), if_pos h2]
      rw [e1]
      refine (write23_range e w (hA h1.1) hs at_ ms h1.1 h1.2 h2).mono ?_
      rintro r w' ⟨hr, hg⟩
      exact ⟨hr, D, MsTurn.of_grew h hg, hTT⟩
    · have e1 : (Pl.writeG lo hi P S e at_).err = 0 := by
        unfold Pl.writeG; rw [if_neg (not_not_intro h1), if_neg h2]
        split
        · rfl
        · split
          · rfl
          · split <;> rfl
      rw [e1]
      exact write23_in e (hA h1.1) hs hsv at_ h hTT h1.1 h1.2 (by omega) (by omega) hl hh hx
  · have e1 : Pl.writeG lo hi P S e at_ = ⟨0, 0, 4, P, S⟩ := by unfold Pl.writeG; rw [if_pos h1]
    rw [e1]
    refine (write23_form0 e w hA hs at_ ms h1).mono ?_
    rintro r w' ⟨hr, hg⟩
    exact ⟨hr, D, MsTurn.of_grew h hg, hTT⟩
end Go.Proofs.YtoiahcgaffffbaaGreatDoor
namespace Go.Proofs.YtoiahcgaffffbaaGreatDoor
open Go.RowKit
attribute [local go_sem] Oper.semAt_some
structure Ac where
  kd : Int
  at' : Int
  ky : ByteArray
  e : En
def En.zero : En := ⟨0, 0, 0, 0, 0, 0, ⟨#[]⟩, 0, 0, 0, [], none, 0, none, 0, 0⟩
def Ac.vals (a : Ac) : List Value := [.int .i64 a.kd, .int .i64 a.at', .string a.ky] ++ a.e.vals
instance : Inhabited Ac := ⟨⟨0, 0, ⟨#[]⟩, En.zero⟩⟩
def acAt (xs : List Ac) (j : Nat) : Ac := xs[j]?.getD default
theorem acAt_eq (xs : List Ac) (i : Nat) (hi : i < xs.length) : acAt xs i = xs[i] := by unfold acAt; rw [List.getElem?_eq_getElem hi]; rfl
structure AcsAt (W : World) (a : Option Addr) (xs : List Ac) : Prop where
  row : xs = [] ∨ ∃ b off, a = some ⟨b, off, none⟩ ∧ b < W.heap.size ∧ ∀ j, j < xs.length → ∀ k v, (acAt xs j).vals[k]? = some v → W.cell? ⟨b, off + j * 15 + k, none⟩ = some v
  ops : ∀ j, j < xs.length → OpRsAt W (acAt xs j).e.opsA (acAt xs j).e.ops
theorem AcsAt.grew {W W' : World} {a : Option Addr} {xs : List Ac} (h : AcsAt W a xs) (g : Grew W W') : AcsAt W' a xs := by
  refine ⟨?_, fun j hj => (h.ops j hj).grew g⟩
  rcases h.row with h0 | ⟨b, off, e, hb, hr⟩
  · exact .inl h0
  · exact .inr ⟨b, off, e, Nat.lt_of_lt_of_le hb g.size, fun j hj k v hv => (g.cells.1 _ _ hb).trans (hr j hj k v hv)⟩
theorem ac_cells {W : World} {b off : Nat} {a : Ac} (h : ∀ k v, a.vals[k]? = some v → W.cell? ⟨b, off + k, none⟩ = some v) : W.cell? ⟨b, off, none⟩ = some (.int .i64 a.kd) ∧ W.cell? ⟨b, off + 1, none⟩ = some (.int .i64 a.at') ∧ W.cell? ⟨b, off + 2, none⟩ = some (.string a.ky) ∧ W.cell? ⟨b, off + 3, none⟩ = some (.int .i64 a.e.kind) ∧ W.cell? ⟨b, off + 4, none⟩ = some (.int .i64 a.e.shard) ∧ W.cell? ⟨b, off + 5, none⟩ = some (.int .i64 a.e.other) ∧ W.cell? ⟨b, off + 6, none⟩ = some (.int .i64 a.e.server) ∧ W.cell? ⟨b, off + 7, none⟩ = some (.int .i64 a.e.client) ∧ W.cell? ⟨b, off + 8, none⟩ = some (.int .i64 a.e.seq) ∧ W.cell? ⟨b, off + 9, none⟩ = some (.slice a.e.opsA a.e.ops.length a.e.opsC) ∧ W.cell? ⟨b, off + 10, none⟩ = some (.string a.e.key) ∧ W.cell? ⟨b, off + 11, none⟩ = some (.int .i64 a.e.upto) ∧ W.cell? ⟨b, off + 12, none⟩ = some (.int .i64 a.e.part) ∧ W.cell? ⟨b, off + 13, none⟩ = some (.int .i64 a.e.parts) ∧ W.cell? ⟨b, off + 14, none⟩ = some (.slice a.e.dataA a.e.dataL a.e.dataC) :=
  ⟨h 0 _ rfl, h 1 _ rfl, h 2 _ rfl, h 3 _ rfl, h 4 _ rfl, h 5 _ rfl, h 6 _ rfl, h 7 _ rfl, h 8 _ rfl, h 9 _ rfl, h 10 _ rfl, h 11 _ rfl, h 12 _ rfl, h 13 _ rfl, h 14 _ rfl⟩
def OpR.long (o : OpR) : Bool := decide (300 < o.key.size) || decide (300 < o.val.size) || decide (300 < o.old.size)
def Ac.long (a : Ac) : Bool := decide (20 < a.e.ops.length) || decide (300 < a.e.key.size) || decide (600 < a.e.dataL) || decide (300 < a.ky.size) || a.e.ops.any OpR.long
def long23B (xs : List Ac) : Bool := decide (30 < xs.length) || xs.any Ac.long
theorem take_any_ac (xs : List Ac) (k : Nat) (h : k < xs.length) : (xs.take (k + 1)).any Ac.long = ((xs.take k).any Ac.long || (acAt xs k).long) := by
  rw [List.take_succ_eq_append_getElem h, acAt_eq xs k h, List.any_append]; simp
theorem any_of_ac (xs : List Ac) (k : Nat) (h : k < xs.length) (hl : (acAt xs k).long = true) : xs.any Ac.long = true := by
  rw [acAt_eq xs k h] at hl
  exact List.any_eq_true.2 ⟨xs[k], List.getElem_mem h, hl⟩
theorem take_any_op (xs : List OpR) (k : Nat) (h : k < xs.length) : (xs.take (k + 1)).any OpR.long = ((xs.take k).any OpR.long || (opRAt xs k).long) := by
  rw [List.take_succ_eq_append_getElem h, opRAt_eq xs k h, List.any_append]; simp
theorem any_of_op (xs : List OpR) (k : Nat) (h : k < xs.length) (hl : (opRAt xs k).long = true) : xs.any OpR.long = true := by
  rw [opRAt_eq xs k h] at hl
  exact List.any_eq_true.2 ⟨xs[k], List.getElem_mem h, hl⟩
theorem long23_short {xs : List Ac} (h : long23B xs = false) : xs.length ≤ 30 ∧ ∀ j, j < xs.length → (acAt xs j).e.ops.length ≤ 20 ∧ (acAt xs j).e.key.size ≤ 300 ∧ (acAt xs j).e.dataL ≤ 600 ∧ (acAt xs j).ky.size ≤ 300 ∧ ∀ o ∈ (acAt xs j).e.ops, o.key.size ≤ 300 ∧ o.val.size ≤ 300 ∧ o.old.size ≤ 300 := by
  unfold long23B at h
  rw [Bool.or_eq_false_iff, decide_eq_false_iff_not] at h
  refine ⟨by omega, fun j hj => ?_⟩
  have := List.any_eq_false.1 h.2 _ (List.getElem_mem hj)
  rw [← acAt_eq xs j hj] at this
  unfold Ac.long at this
  simp only [Bool.or_eq_true, decide_eq_true_eq, not_or] at this
  obtain ⟨⟨⟨⟨h1, h2⟩, h3⟩, h3'⟩, h4⟩ := this
  refine ⟨by omega, by omega, by omega, by omega, fun o ho => ?_⟩
  have h5 := List.any_eq_false.1 (by simpa using h4 : (acAt xs j).e.ops.any OpR.long = false) o ho
  unfold OpR.long at h5
  simp only [Bool.or_eq_true, decide_eq_true_eq, not_or] at h5
  omega
def AcFits (a : Ac) : Prop := a.e.ops.length ≤ 9223372036854775807 ∧ a.e.key.size ≤ 9223372036854775807 ∧ a.e.dataL ≤ 9223372036854775807 ∧ a.ky.size ≤ 9223372036854775807 ∧ ∀ j, j < a.e.ops.length → (opRAt a.e.ops j).key.size ≤ 9223372036854775807 ∧ (opRAt a.e.ops j).val.size ≤ 9223372036854775807 ∧ (opRAt a.e.ops j).old.size ≤ 9223372036854775807
set_option maxRecDepth 100000 in
set_option maxHeartbeats 4000000 in
theorem long23_any (a : Option Addr) (cap : Nat) (xs : List Ac) (w : World) (hA : AcsAt w a xs) (hx : xs.length ≤ 9223372036854775807) (hk : ∀ j, j < xs.length → AcFits (acAt xs j)) :
    Calls Tryz.prog 24 #[.slice a xs.length cap] w fun e w' => e = .returned (.bool (long23B xs)) ∧ Grew w w' := by
  by_cases h30 : 30 < xs.length
  · have e : long23B xs = true := by unfold long23B; rw [decide_eq_true h30]; rfl
    rw [e]
    clear e
    have h1 : (30 : Int) < (xs.length : Int) := by omega
    go_enter Tryz.func24, Tryz.ntmps24
    go_wp2_with fail
    go_ret
    exact ⟨rfl, Grew.refl w⟩
  · have h1 : (xs.length : Int) ≤ 30 := by omega
    have e : long23B xs = xs.any Ac.long := by unfold long23B; rw [decide_eq_false h30]; rfl
    have HE := hid e
    have HA := hid hA
    have HK := hid hk
    clear e h30 hA hk
    go_enter Tryz.func24, Tryz.ntmps24
    go_wp2_with fail
    go_loopw [13] (fun i wr => ∃ k : Nat, k ≤ xs.length ∧ i = .int .i64 k ∧ (xs.take k).any Ac.long = false ∧ Grew w wr) (fun i _ => xs.length - (intOf i).toNat)
    case atStart => exact ⟨0, Nat.zero_le _, rfl, rfl, Grew.refl w⟩
    case round =>
      obtain ⟨k, hk1, rfl, hno, hG⟩ := hrel
      obtain ⟨wo, rfl⟩ : ∃ wo : World, wo = wr := ⟨_, rfl⟩
      by_cases hlt : k < xs.length
      · rcases HA.out.row with h0 | ⟨b, off, rfl, hb, hR⟩
        · rw [h0] at hlt; simp at hlt
        obtain ⟨q0, q1, q2, q3, q4, q5, q6, q7, q8, q9, q10, q11, q12, q13, q14⟩ := ac_cells (W := wo) (b := b) (off := off + k * 15) (a := acAt xs k) (fun i v hv => (hG.cells.1 _ _ hb).trans (hR k hlt i v hv))
        have HOPS := hid (HA.out.ops k hlt)
        have HN := hid (take_any_ac xs k hlt)
        have HY := hid (any_of_ac xs k hlt)
        have HNO := hid hno
        obtain ⟨cl, ck, cd, cy, co⟩ := HK.out k hlt
        have HCO := hid co
        clear hR hno co
        generalize acAt xs k = A at *
        obtain ⟨kd, at', ky, ⟨kind, shard, other, server, client, seq, key, upto, part, parts, ops, opsA, opsC, dataA, dataL, dataC⟩⟩ := A
        dsimp only at *
        by_cases l1 : (20 : Int) < (ops.length : Int)
        · have HL : Hid (Ac.long ⟨kd, at', ky, ⟨kind, shard, other, server, client, seq, key, upto, part, parts, ops, opsA, opsC, dataA, dataL, dataC⟩⟩ = true) := by
            unfold Hid Ac.long; rw [decide_eq_true (by dsimp only; omega)]; rfl
          go_wp2_with fail
          go_ret
          exact ⟨ret_bool (by rw [HE.out, HY.out HL.out]), (hG.alloc _).alloc _⟩
        by_cases l2 : (300 : Int) < (key.size : Int)
        · have HL : Hid (Ac.long ⟨kd, at', ky, ⟨kind, shard, other, server, client, seq, key, upto, part, parts, ops, opsA, opsC, dataA, dataL, dataC⟩⟩ = true) := by
            unfold Hid Ac.long; simp only [Bool.or_eq_true, decide_eq_true_eq]; omega
          go_wp2_with fail
          go_ret
          exact ⟨ret_bool (by rw [HE.out, HY.out HL.out]), (hG.alloc _).alloc _⟩
        by_cases l3 : (600 : Int) < (dataL : Int)
        · have HL : Hid (Ac.long ⟨kd, at', ky, ⟨kind, shard, other, server, client, seq, key, upto, part, parts, ops, opsA, opsC, dataA, dataL, dataC⟩⟩ = true) := by
            unfold Hid Ac.long; simp only [Bool.or_eq_true, decide_eq_true_eq]; omega
          go_wp2_with fail
          go_ret
          exact ⟨ret_bool (by rw [HE.out, HY.out HL.out]), (hG.alloc _).alloc _⟩
        by_cases l4 : (300 : Int) < (ky.size : Int)
        · have HL : Hid (Ac.long ⟨kd, at', ky, ⟨kind, shard, other, server, client, seq, key, upto, part, parts, ops, opsA, opsC, dataA, dataL, dataC⟩⟩ = true) := by
            unfold Hid Ac.long; simp only [Bool.or_eq_true, decide_eq_true_eq]; omega
          go_wp2_with fail
          go_ret
          exact ⟨ret_bool (by rw [HE.out, HY.out HL.out]), (hG.alloc _).alloc _⟩
        have HL0 : Hid (Ac.long ⟨kd, at', ky, ⟨kind, shard, other, server, client, seq, key, upto, part, parts, ops, opsA, opsC, dataA, dataL, dataC⟩⟩ = ops.any OpR.long) := by
          unfold Hid Ac.long
          rw [decide_eq_false (by dsimp only; omega), decide_eq_false (by dsimp only; omega), decide_eq_false (by dsimp only; omega), decide_eq_false (by dsimp only; omega)]
          rfl
        go_wp2_with fail
        have HG2 := hid ((hG.alloc (Obj.cells #[.int .i64 kd, .int .i64 at', .string ky, .int .i64 kind, .int .i64 shard, .int .i64 other, .int .i64 server, .int .i64 client, .int .i64 seq, .slice opsA ops.length opsC, .string key, .int .i64 upto, .int .i64 part, .int .i64 parts, .slice dataA dataL dataC] 68)).alloc (Obj.cells #[.int .i64 kind, .int .i64 shard, .int .i64 other, .int .i64 server, .int .i64 client, .int .i64 seq, .slice opsA ops.length opsC, .string key, .int .i64 upto, .int .i64 part, .int .i64 parts, .slice dataA dataL dataC] 66))
        clear q0 q1 q2 q3 q4 q5 q6 q7 q8 q9 q10 q11 q12 q13 q14
        have hG2 := HG2.out
        clear HG2
        generalize World.alloc (World.alloc wo _) _ = w2 at hG2 ⊢
        clear hG
        go_loopw [44] (fun i wr => ∃ m : Nat, m ≤ ops.length ∧ i = .int .i64 m ∧ (ops.take m).any OpR.long = false ∧ Grew w wr) (fun i _ => ops.length - (intOf i).toNat)
        case atStart => exact ⟨0, Nat.zero_le _, rfl, rfl, hG2⟩
        case round =>
          obtain ⟨m, hm1, rfl, hmo, hGm⟩ := hrel
          by_cases hml : m < ops.length
          · rcases HOPS.out with h0 | ⟨ob, ooff, rfl, hob, hOR⟩
            · rw [h0] at hml; simp at hml
            have p0 := (hGm.cells.1 ob (ooff + m * 5) hob).trans (hOR.kind m hml)
            have p1 := (hGm.cells.1 ob (ooff + m * 5 + 1) hob).trans (hOR.key m hml)
            have p2 := (hGm.cells.1 ob (ooff + m * 5 + 2) hob).trans (hOR.val m hml)
            have p3 := (hGm.cells.1 ob (ooff + m * 5 + 3) hob).trans (hOR.old m hml)
            have p4 := (hGm.cells.1 ob (ooff + m * 5 + 4) hob).trans (hOR.ver m hml)
            have HMN := hid (take_any_op ops m hml)
            have HMY := hid (any_of_op ops m hml)
            have HMO := hid hmo
            obtain ⟨b1, b2, b3⟩ := HCO.out m hml
            clear hOR hmo
            generalize opRAt ops m = O at *
            obtain ⟨okind, okey, oval, oold, over⟩ := O
            dsimp only at *
            by_cases o1 : (300 : Int) < (okey.size : Int)
            · have HL : Hid (OpR.long ⟨okind, okey, oval, oold, over⟩ = true) := by
                unfold Hid OpR.long; simp only [Bool.or_eq_true, decide_eq_true_eq]; omega
              go_wp2_with fail
              go_ret
              exact ⟨ret_bool (by rw [HE.out, HY.out (HL0.out.trans (HMY.out HL.out))]), hGm.alloc _⟩
            by_cases o2 : (300 : Int) < (oval.size : Int)
            · have HL : Hid (OpR.long ⟨okind, okey, oval, oold, over⟩ = true) := by
                unfold Hid OpR.long; simp only [Bool.or_eq_true, decide_eq_true_eq]; omega
              go_wp2_with fail
              go_ret
              exact ⟨ret_bool (by rw [HE.out, HY.out (HL0.out.trans (HMY.out HL.out))]), hGm.alloc _⟩
            by_cases o3 : (300 : Int) < (oold.size : Int)
            · have HL : Hid (OpR.long ⟨okind, okey, oval, oold, over⟩ = true) := by
                unfold Hid OpR.long; simp only [Bool.or_eq_true, decide_eq_true_eq]; omega
              go_wp2_with fail
              go_ret
              exact ⟨ret_bool (by rw [HE.out, HY.out (HL0.out.trans (HMY.out HL.out))]), hGm.alloc _⟩
            have HL : Hid (OpR.long ⟨okind, okey, oval, oold, over⟩ = false) := by
              unfold Hid OpR.long; simp only [Bool.or_eq_false_iff, decide_eq_false_iff_not]; omega
            go_wp2_with fail
            go_roundw
            case rel => exact ⟨m + 1, by omega, by go_num, by rw [HMN.out, HMO.out, HL.out]; rfl, hGm.alloc _⟩
            case measure => simp [intOf]; omega
          · obtain rfl : m = ops.length := by omega
            rw [List.take_length] at hmo
            have HMO := hid hmo
            clear hmo
            go_wp2_with fail
            go_roundw
            case rel => exact ⟨k + 1, by omega, by go_num, by rw [HN.out, HNO.out, HL0.out, HMO.out]; rfl, hGm⟩
            case measure => simp [intOf]; omega
      · obtain rfl : k = xs.length := by omega
        rw [List.take_length] at hno
        have HNO := hid hno
        clear hno
        go_wp2_with fail
        go_ret
        exact ⟨ret_bool (by rw [HE.out, HNO.out]), hG⟩
end Go.Proofs.YtoiahcgaffffbaaGreatDoor
namespace Go.Proofs.YtoiahcgaffffbaaGreatDoor
open Go.RowKit Go.Maps
section
variable {P : Program}
theorem wpList_append_run (w : World) {ops : Array Oper} {rest : List Oper} {o : Oper} {a : Act} {Q : Exit → Act → World → Prop} (hgd : o.guard = none) (s x : Operand) (t t' : TypeId)
    (ho : o.op = .call { callee := .builtin .append, args := #[s, x], argTypes := #[t, t'] }) (v : Value) (w' : World) (hr : (Builtin.append_ #[t, t'] o.type #[a.eval s, a.eval x]).run P w = .ok v w')
    (h : wpList P ops Q rest (a.put o.dst v) w') : wpList P ops Q (o :: rest) a w := by
  unfold wpList
  rw [if_pos (by unfold Region.wanted; rw [hgd])]
  refine .inl ?_
  unfold Oper.wp execOp
  simp only [ho, resolve, invoke, builtin, Sem.run_bind, Sem.run_pure, Result.andThen_ok, List.map_toArray, List.map_cons, List.map_nil, hr]
  exact h
end
end Go.Proofs.YtoiahcgaffffbaaGreatDoor
namespace Go.Proofs.YtoiahcgaffffbaaGreatDoor
open Go.RowKit Go.Maps
attribute [local go_sem] Oper.semAt_some
instance : Inhabited En := ⟨En.zero⟩
def enAt (xs : List En) (j : Nat) : En := xs[j]?.getD default
structure EnsAt (W : World) (a : Option Addr) (xs : List En) : Prop where
  row : xs = [] ∨ ∃ b off, a = some ⟨b, off, none⟩ ∧ b < W.heap.size ∧ ∀ j, j < xs.length → ∀ k v, (enAt xs j).vals[k]? = some v → W.cell? ⟨b, off + j * 12 + k, none⟩ = some v
  ops : ∀ j, j < xs.length → OpRsAt W (enAt xs j).opsA (enAt xs j).ops
theorem EnsAt.grew {W W' : World} {a : Option Addr} {xs : List En} (h : EnsAt W a xs) (g : Grew W W') : EnsAt W' a xs := by
  refine ⟨?_, fun j hj => (h.ops j hj).grew g⟩
  rcases h.row with h0 | ⟨b, off, e, hb, hr⟩
  · exact .inl h0
  · exact .inr ⟨b, off, e, Nat.lt_of_lt_of_le hb g.size, fun j hj k v hv => (g.cells.1 _ _ hb).trans (hr j hj k v hv)⟩
def En.long (e : En) : Bool := decide (20 < e.ops.length) || e.ops.any OpR.long
structure Md where
  lo : ByteArray
  hi : ByteArray
  es : List En
  a : Option Addr
  cap : Nat
instance : Inhabited Md := ⟨⟨⟨#[]⟩, ⟨#[]⟩, [], none, 0⟩⟩
def Md.vals (m : Md) : List Value := [.string m.lo, .string m.hi, .slice m.a m.es.length m.cap]
def Md.agg (m : Md) : Value := .agg m.vals.toArray
def Md.long (m : Md) : Bool := decide (30 < m.es.length) || decide (300 < m.lo.size) || decide (300 < m.hi.size) || m.es.any En.long
def EnFits (e : En) : Prop := e.ops.length ≤ 9223372036854775807 ∧ ∀ j, j < e.ops.length → (opRAt e.ops j).key.size ≤ 9223372036854775807 ∧ (opRAt e.ops j).val.size ≤ 9223372036854775807 ∧ (opRAt e.ops j).old.size ≤ 9223372036854775807
structure MdFits (m : Md) : Prop where
  lo : m.lo.size ≤ 9223372036854775807
  hi : m.hi.size ≤ 9223372036854775807
  es : m.es.length ≤ 9223372036854775807
  each : ∀ j, j < m.es.length → EnFits (enAt m.es j)
structure MdSh (m : Md) : Prop where
  lo : m.lo.size ≤ 300
  hi : m.hi.size ≤ 300
  es : m.es.length ≤ 30
  each : ∀ j, j < m.es.length → (enAt m.es j).ops.length ≤ 20 ∧ ∀ o ∈ (enAt m.es j).ops, o.key.size ≤ 300 ∧ o.val.size ≤ 300 ∧ o.old.size ≤ 300
end Go.Proofs.YtoiahcgaffffbaaGreatDoor
