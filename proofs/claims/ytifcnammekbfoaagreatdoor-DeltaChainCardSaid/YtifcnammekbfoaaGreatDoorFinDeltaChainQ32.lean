/- Wr23, Wr0: one text. -/
import Derived.Test.YtifcnammekbfoaaGreatDoorFinDeltaChainQ31
/- Write, in one word, of the program's state and of the document's; a state and its model beside each other in memory. -/
set_option linter.unusedVariables false
set_option linter.unusedSectionVars false
set_option linter.unusedSimpArgs false
namespace Go.Proofs.YtifcnammekbfoaaGreatDoor
open Go.RowKit Go.Maps
attribute [local go_sem] Oper.semAt_some

theorem write23_any (e : En) {w : World} (hA : EnAt w e) (hs : ∀ o ∈ e.ops, o.key.size ≤ 16777216) (hsv : ∀ o ∈ e.ops, o.val.size ≤ 140737488351232) (at_ : Int) {G : Nat → Prop} {ms sb : Nat} {lo hi : ByteArray} {D P : List Pr} {S : Int → Option An} (h : MsAt w G ms sb lo hi D S) (hTT : Pl.Tt P D) (hl : lo.size ≤ 16777216) (hh : hi.size ≤ 16777216) (hx : D.length ≤ 1000) :
    Calls Tryz.prog 80 #[.pointer (some ⟨ms, 0, none⟩), e.agg, .int .i64 at_] w fun r w' => r = .returned (.tuple #[ansAgg (Pl.writeG lo hi P S e at_).code (Pl.writeG lo hi P S e at_).at_, .int .i64 ((Pl.writeG lo hi P S e at_).err : Nat)]) ∧ ∃ D', MsTurn w G ms sb lo hi D' (Pl.writeG lo hi P S e at_).S w' ∧ Pl.Tt (Pl.writeG lo hi P S e at_).P D' := by
  by_cases h1 : e.kind = 1 ∧ Pl.rightB e = true
  · by_cases h2 : at_ < 0 ∨ 4096 ≤ at_
    · have e1 : Pl.writeG lo hi P S e at_ = ⟨0, 0, 1, P, S⟩ := by unfold Pl.writeG; rw [if_neg (not_not_intro h1), if_pos h2]
      rw [e1]
      refine (write23_range e w hA hs at_ ms h1.1 h1.2 h2).mono ?_
      rintro r w' ⟨hr, hg⟩
      exact ⟨hr, D, MsTurn.of_grew h hg, hTT⟩
    · have e1 : (Pl.writeG lo hi P S e at_).err = 0 := by
        unfold Pl.writeG; rw [if_neg (not_not_intro h1), if_neg h2]
        split
        · rfl
        · split
          · rfl
          · split <;> rfl
      rw [e1]
      exact write23_in e hA hs hsv at_ h hTT h1.1 h1.2 (by omega) (by omega) hl hh hx
  · have e1 : Pl.writeG lo hi P S e at_ = ⟨0, 0, 4, P, S⟩ := by unfold Pl.writeG; rw [if_pos h1]
    rw [e1]
    refine (write23_form e w hA hs at_ ms h1).mono ?_
    rintro r w' ⟨hr, hg⟩
    exact ⟨hr, D, MsTurn.of_grew h hg, hTT⟩

namespace Pl
/-- Every key of the table lies in the span. -/
def InS (lo hi : ByteArray) (P : List Pr) : Prop := ∀ c ∈ P, hasS lo hi c.key = true
theorem inS_nil (lo hi : ByteArray) : InS lo hi [] := fun c h => by cases h
theorem step_mem {P : List Pr} (h : Srt P) (o : OpR) (v : Int) : ∀ c ∈ (stepP P o v).1, c ∈ P ∨ c.key = o.key := by
  intro c hc
  unfold stepP at hc
  split at hc
  · exact .inl ((mem_del h _ _).1 hc).1
  · split at hc
    · exact .inl hc
    · split at hc
      · exact .inl hc
      · unfold putT at hc
        dsimp only at hc
        split at hc
        · next hp =>
          rcases (mem_put h (putN_zero hp).1 _).1 hc with hq | hq
          · exact .inr (by rw [hq])
          · exact .inl hq.1
        · exact .inl hc
theorem step_srt {P : List Pr} (h : Srt P) (o : OpR) (v : Int) : Srt (stepP P o v).1 := by
  unfold stepP
  split
  · exact srt_del h _
  · split
    · exact h
    · split
      · exact h
      · unfold putT
        dsimp only
        split
        · next hp => exact srt_put h (putN_zero hp).1
        · exact h
theorem runOps_in {lo hi : ByteArray} (v : Int) : ∀ (ops : List OpR) {P : List Pr}, Srt P → InS lo hi P → (∀ o ∈ ops, hasS lo hi o.key = true) → InS lo hi (runOps ops v P).1 := by
  intro ops
  induction ops with
  | nil => intro P _ h _; exact h
  | cons o os ih =>
    intro P hs h ho
    have h1 : InS lo hi (stepP P o v).1 := fun c hc => by
      rcases step_mem hs o v c hc with q | q
      · exact h c q
      · rw [q]; exact ho o (by simp)
    rw [runOps_cons]
    split
    · exact ih (step_srt hs o v) h1 fun x hx => ho x (by simp [hx])
    · exact h1
theorem writeG_in {lo hi : ByteArray} {P : List Pr} (hs : Srt P) (h : InS lo hi P) (S : Int → Option An) (e : En) (at_ : Int) : InS lo hi (writeG lo hi P S e at_).P := by
  unfold writeG
  split
  · exact h
  · split
    · exact h
    · split
      · exact h
      · next hq =>
        split
        · show InS lo hi (tabW P e.ops at_)
          unfold tabW
          split
          · exact runOps_in _ _ hs h (any_has hq)
          · exact h
        · split <;> exact h
theorem writeG_len (lo hi : ByteArray) (P : List Pr) (S : Int → Option An) (e : En) (at_ : Int) : (writeG lo hi P S e at_).P.length ≤ P.length + 8 := by
  unfold writeG
  by_cases h1 : e.kind = 1 ∧ rightB e = true
  · rw [if_neg (not_not_intro h1)]
    split
    · dsimp only; omega
    · split
      · dsimp only; omega
      · split
        · have := tabW_len P e.ops at_; have := (right_seq h1.1 h1.2).2.2; dsimp only; omega
        · split <;> (dsimp only; omega)
  · rw [if_pos h1]; dsimp only; omega
end Pl
/-- The blocks of a state; those of its model. -/
def BlS (Ft Fs : Nat → Prop) (st j : Nat) : Prop := Ft j ∨ Fs j ∨ j = st
def BlM (G : Nat → Prop) (ms sb j : Nat) : Prop := G j ∨ j = ms ∨ j = sb
/-- A state and its model, made since w0. -/
structure TwS (w0 W : World) (st ms n : Nat) (lo hi : ByteArray) (P : List Pr) (S : Int → Option An) : Prop where
  grew : Grew w0 W
  ex : ∃ Ft Fs G sb D, StAt W Ft Fs st n lo hi P S ∧ MsAt W G ms sb lo hi D S ∧ Pl.Tt P D ∧ (∀ j, BlS Ft Fs st j → w0.heap.size ≤ j ∧ ¬ BlM G ms sb j) ∧ (∀ j, BlM G ms sb j → w0.heap.size ≤ j)
  ins : Pl.InS lo hi P
section
variable {w0 W W' : World} {st ms n : Nat} {lo hi : ByteArray} {P : List Pr} {S : Int → Option An}
theorem StAt.all {W : World} {Ft Fs : Nat → Prop} {st n : Nat} {lo hi : ByteArray} {P : List Pr} {S : Int → Option An} (h : StAt W Ft Fs st n lo hi P S) : ∀ j, BlS Ft Fs st j → j < W.heap.size := by
  obtain ⟨tb, sb, h⟩ := h
  rintro j (hj | hj | rfl)
  · exact tabAt_lt h.tab j hj
  · exact h.seen.lt j hj
  · exact cell_lt h.c0
theorem MsAt.all {W : World} {G : Nat → Prop} {ms sb : Nat} {lo hi : ByteArray} {D : List Pr} {S : Int → Option An} (h : MsAt W G ms sb lo hi D S) : ∀ j, BlM G ms sb j → j < W.heap.size := by
  obtain ⟨a, b, c⟩ := h.lt
  rintro j (hj | rfl | rfl)
  · exact c j hj
  · exact a
  · exact b
theorem TwS.more (h : TwS w0 W st ms n lo hi P S) (g : Grew W W') : TwS w0 W' st ms n lo hi P S := by
  obtain ⟨Ft, Fs, G, sb, D, h1, h2, h3⟩ := h.ex
  exact ⟨h.grew.trans g, ⟨Ft, Fs, G, sb, D, h1.grew g, h2.grew g, h3⟩, h.ins⟩
end
/-- The state has written. -/
theorem twS_write (E : Nat → Addr) {w0 W : World} (hE : Errs stS E w0) {st ms n : Nat} {lo hi : ByteArray} {P : List Pr} {S : Int → Option An} (h : TwS w0 W st ms n lo hi P S) (e : En) (hA : EnAt w0 e) (hz : EnSz e) (hs : ∀ o ∈ e.ops, o.key.size ≤ 16777216) (at_ : Int) (hl : lo.size ≤ 16777216) (hh : hi.size ≤ 16777216) (hx : P.length ≤ 1000) (hn : n ≤ 1000000) :
    Calls Tryz.prog 19 #[.pointer (some ⟨st, 0, none⟩), e.agg, .int .i64 at_] W fun r W1 => r = .returned (.tuple #[ansAgg (Pl.writeG lo hi P S e at_).code (Pl.writeG lo hi P S e at_).at_, errOf E (Pl.writeG lo hi P S e at_).err]) ∧ Grew w0 W1 ∧
      ∀ W2, Grew W1 W2 → Calls Tryz.prog 80 #[.pointer (some ⟨ms, 0, none⟩), e.agg, .int .i64 at_] W2 fun r W3 => r = .returned (.tuple #[ansAgg (Pl.writeG lo hi P S e at_).code (Pl.writeG lo hi P S e at_).at_, .int .i64 ((Pl.writeG lo hi P S e at_).err : Nat)]) ∧ ∃ m, m ≤ n + 1 ∧ TwS w0 W3 st ms m lo hi (Pl.writeG lo hi P S e at_).P (Pl.writeG lo hi P S e at_).S := by
  obtain ⟨Ft, Fs, G, sb, D, h1, h2, h3, h4, h5⟩ := h.ex
  have hla := h1.all
  have hlb := h2.all
  refine (writeG_any E e (hE.grew h.grew) (hA.grew h.grew) hz at_ h1 (by omega) (by omega) hx hn).mono ?_
  rintro r W1 ⟨hr, m, hm, hO, Ft1, hS1, hF1⟩
  have hg1 : Grew w0 W1 := ((h.grew.only _).then hO).grew fun j hj => (h4 j (hj.elim (fun q => .inr (.inr q)) (fun q => .inr (.inl q)))).1
  have hM1 : MsAt W1 G ms sb lo hi D S := h2.kept hO (fun j hj hq => (h4 j (hq.elim (fun q => .inr (.inr q)) (fun q => .inr (.inl q)))).2 (.inl hj)) (fun hq => (h4 ms (hq.elim (fun q => .inr (.inr q)) (fun q => .inr (.inl q)))).2 (.inr (.inl rfl))) (fun hq => (h4 sb (hq.elim (fun q => .inr (.inr q)) (fun q => .inr (.inl q)))).2 (.inr (.inr rfl)))
  have hA1 : ∀ j, BlS Ft1 Fs st j → w0.heap.size ≤ j ∧ ¬ BlM G ms sb j := by
    rintro j (hj | hj | hj)
    · rcases hF1 j hj with q | q
      · exact h4 j (.inl q)
      · have := h.grew.size
        exact ⟨by omega, fun hm => by have := hlb j hm; omega⟩
    · exact h4 j (.inr (.inl hj))
    · exact h4 j (.inr (.inr hj))
  have hla1 := hS1.all
  refine ⟨hr, hg1, fun W2 g2 => ?_⟩
  have hx2 : D.length ≤ 1000 := by rw [← h3.len]; exact hx
  refine (write23_any e (hA.grew (hg1.trans g2)) hs (fun o ho => (hz o ho).2) at_ (hM1.grew g2) h3 hl hh hx2).mono ?_
  rintro r W3 ⟨hr2, D', ⟨hO2, G', hM', hG'⟩, hT'⟩
  refine ⟨hr2, m, hm, ⟨(((hg1.trans g2).only _).then hO2).grew fun j hj => h5 j (hj.elim (fun q => .inr (.inl q)) (fun q => q.elim (fun q => .inr (.inr q)) .inl)), ⟨Ft1, Fs, G', sb, D', ?_, hM', hT', ?_, ?_⟩, Pl.writeG_in h3.srt h.ins S e at_⟩⟩
  · refine (hS1.grew g2).kept hO2 (fun j hj hq => (hA1 j (.inl hj)).2 ?_) (fun j hj hq => (hA1 j (.inr (.inl hj))).2 ?_) (fun hq => (hA1 st (.inr (.inr rfl))).2 ?_)
    all_goals exact hq.elim (fun q => .inr (.inl q)) (fun q => q.elim (fun q => .inr (.inr q)) .inl)
  · intro j hj
    refine ⟨(hA1 j hj).1, fun hq => ?_⟩
    rcases hq with q | q | q
    · rcases hG' j q with q | q
      · exact (hA1 j hj).2 (.inl q)
      · have := hla1 j hj
        have := g2.size
        omega
    · exact (hA1 j hj).2 (.inr (.inl q))
    · exact (hA1 j hj).2 (.inr (.inr q))
  · intro j hj
    rcases hj with q | q | q
    · rcases hG' j q with q | q
      · exact h5 j (.inl q)
      · have := (hg1.trans g2).size
        omega
    · exact h5 j (.inr (.inl q))
    · exact h5 j (.inr (.inr q))
end Go.Proofs.YtifcnammekbfoaaGreatDoor

/- Write of both where an entry of another kind bears any key. -/
set_option linter.unusedVariables false
set_option linter.unusedSectionVars false
set_option linter.unusedSimpArgs false
namespace Go.Proofs.YtifcnammekbfoaaGreatDoor
open Go.RowKit Go.Maps
attribute [local go_sem] Oper.semAt_some

set_option maxRecDepth 100000 in
set_option maxHeartbeats 4000000 in
theorem writeS_form0 (E : Nat → Addr) (e : En) (w : World) (hE : Errs stS E w) (hA : e.kind = 1 → EnAt w e) (at_ : Int) (st : Nat) (h : ¬ (e.kind = 1 ∧ Pl.rightB e = true)) :
    Calls Tryz.prog 19 #[.pointer (some ⟨st, 0, none⟩), e.agg, .int .i64 at_] w fun r w' => r = .returned (.tuple #[ansAgg 0 0, errOf E 4]) ∧ Grew w w' := by
  have hS : KeyT stS := ⟨rfl, rfl, rfl, rfl⟩
  have HR := hid (fun W (g : Grew w W) (h1 : e.kind = 1) => rightE_any hS E e W (hE.grew g) ((hA h1).grew g))
  have HW := hid (WrIn.start w st e)
  have g4 : w.cell? ⟨0, 0, none⟩ = some (.iface 293 (.pointer (some (E 4)))) := hE.cell 4 rfl
  have b4 : 0 < w.heap.size := cell_lt g4
  have HG4 := hid (fun W (g : Grew w W) => (g.cells.1 _ _ b4).trans g4)
  have HK : Hid (Pl.rightB e = false ∨ e.kind ≠ 1) := by
    unfold Hid
    cases hr : Pl.rightB e with
    | false => exact .inl rfl
    | true => exact .inr fun k => h ⟨k, hr⟩
  clear hE hA h g4 b4
  generalize Pl.rightB e = rb at *
  obtain ⟨Y, hY⟩ : ∃ Y, Y = (((w.alloc (.cells #[.pointer (some ⟨st, 0, none⟩)] 47)).alloc (.cells e.vals.toArray 52)).alloc (.cells #[.int .i64 0, .int .i64 0] 57)) := ⟨_, rfl⟩
  rw [← hY] at HW
  obtain ⟨HYE⟩ : Nonempty (Hid (Y = (((w.alloc (.cells #[.pointer (some ⟨st, 0, none⟩)] 47)).alloc (.cells e.vals.toArray 52)).alloc (.cells #[.int .i64 0, .int .i64 0] 57)))) := ⟨hY⟩
  clear hY
  unfold En.agg at *
  obtain ⟨kind, shard, other, server, client, seq, key, upto, part, parts, ops, opsA, opsC, dataA, dataL, dataC⟩ := e
  unfold En.vals at HR HYE ⊢
  dsimp only at *
  unfold ansAgg
  rw [errOf_pos E 4 (by decide)]
  by_cases k1 : kind = 1
  · subst k1
    have HB : rb = false := by rcases HK.out with h | h; exact h; exact absurd rfl h
    subst HB
    clear HK
    go_enter Tryz.func19, Tryz.ntmps19
    go_wp2_with fail
    rw [← HYE.out]
    refine (HR.out Y HW.out.grew (by trivial)).mono ?_
    rintro e w1 ⟨rfl, hg1⟩
    have HW1 := hid (HW.out.more hg1)
    have hl := HW1.out.lt
    have q0 := HG4.out w1 HW1.out.grew
    have a0 := HW1.out.a0
    have a1 := HW1.out.a1
    have f0 := HW1.out.f0
    have f1 := HW1.out.f1
    clear hg1 HW HR HG4
    go_wp2_with fail
    go_region
    go_wp2_with fail
    refine bodyPost_ret (v := .tuple #[.agg #[.int .i64 0, .int .i64 0], .iface 293 (.pointer (some (E 4)))]) (by simp [results, Tryz.results19, go_sem, a0, a1, f0, f1]) rfl ⟨rfl, ?_⟩
    refine ((HW1.out.grew.setCell ?_ _).setCell ?_ _).drew <;> (show w.heap.size ≤ w.heap.size + 2; omega)
  · clear HK HR
    go_enter Tryz.func19, Tryz.ntmps19
    have q0 := HG4.out Y HW.out.grew
    have a0 := HW.out.a0
    have a1 := HW.out.a1
    have f0 := HW.out.f0
    have f1 := HW.out.f1
    have k0 : Y.cell? ⟨w.heap.size + 1, 0, none⟩ = some (.int .i64 kind) := HW.out.ent 0 _ rfl
    have HW1 := hid HW.out
    have hl := HW.out.lt
    clear HG4 HW
    go_wp2_with fail
    rw [← HYE.out]
    go_region
    go_wp2_with fail
    refine bodyPost_ret (v := .tuple #[.agg #[.int .i64 0, .int .i64 0], .iface 293 (.pointer (some (E 4)))]) (by simp [results, Tryz.results19, go_sem, a0, a1, f0, f1]) rfl ⟨rfl, ?_⟩
    refine ((HW1.out.grew.setCell ?_ _).setCell ?_ _).drew <;> (show w.heap.size ≤ w.heap.size + 2; omega)
set_option maxRecDepth 100000 in
set_option maxHeartbeats 8000000 in
theorem write23_form0 (e : En) (w : World) (hA : e.kind = 1 → EnAt w e) (hs : ∀ o ∈ e.ops, o.key.size ≤ 16777216) (at_ : Int) (ms : Nat) (h : ¬ (e.kind = 1 ∧ Pl.rightB e = true)) :
    Calls Tryz.prog 80 #[.pointer (some ⟨ms, 0, none⟩), e.agg, .int .i64 at_] w fun r w' => r = .returned (.tuple #[ansAgg 0 0, .int .i64 4]) ∧ Grew w w' := by
  have HR := hid (fun W (g : Grew w W) (h1 : e.kind = 1) => right5_kind e W ((hA h1).grew g) (fun h3 => by omega) hs)
  have HW := hid (WrM.start w e)
  obtain ⟨Y, hY⟩ : ∃ Y, Y = (((w.alloc (.cells e.vals.toArray 52)).alloc (.cells #[.int .i64 0, .int .i64 0] 57)).alloc (.cells #[.int .i64 0, .int .i64 0] 57)) := ⟨_, rfl⟩
  rw [← hY] at HW
  have HYE := hid hY
  clear hY hA hs
  unfold En.agg at *
  obtain ⟨kind, shard, other, server, client, seq, key, upto, part, parts, ops, opsA, opsC, dataA, dataL, dataC⟩ := e
  unfold En.vals at HR HYE ⊢
  dsimp only at *
  generalize hrb : Pl.rightB ⟨kind, shard, other, server, client, seq, key, upto, part, parts, ops, opsA, opsC, dataA, dataL, dataC⟩ = rb at *
  unfold ansAgg
  by_cases hk : kind = 1
  · subst hk
    obtain rfl : rb = false := by cases rb with | false => rfl | true => exact absurd ⟨rfl, rfl⟩ h
    clear h hrb
    go_enter Tryz.func80, Tryz.ntmps80
    go_upto_region 2 with fail
    go_wp2_with fail
    rw [← HYE.out]
    refine (HR.out Y HW.out.grew (by trivial)).mono ?_
    rintro e w1 ⟨rfl, hg1⟩
    have HW1 := hid (HW.out.more hg1)
    have hl1 := HW1.out.lt
    have a0 := HW1.out.a0
    have a1 := HW1.out.a1
    have f0 := HW1.out.f0
    have f1 := HW1.out.f1
    have n0 := HW1.out.n0
    have n1 := HW1.out.n1
    clear hg1 HW HR
    go_wp2_with fail
    refine bodyPost_ret (v := .tuple #[.agg #[.int .i64 0, .int .i64 0], .int .i64 4]) (by simp [results, Tryz.results80, go_sem, a0, a1, f0, f1]) rfl ⟨rfl, ?_⟩
    exact (HW1.out.grew.setCell (show w.heap.size ≤ w.heap.size + 1 by omega) _).setCell (show w.heap.size ≤ w.heap.size + 1 by omega) _
  · have hkb : (kind == 1) = false := beq_eq_false_iff_ne.2 hk
    clear h hrb HR
    go_enter Tryz.func80, Tryz.ntmps80
    go_upto_region 2 with fail
    have HW1 := HW
    obtain ⟨_⟩ : True := trivial
    rw [← HYE.out]
    have hl1 := HW1.out.lt
    have a0 := HW1.out.a0
    have a1 := HW1.out.a1
    have f0 := HW1.out.f0
    have f1 := HW1.out.f1
    have n0 := HW1.out.n0
    have n1 := HW1.out.n1
    have c0 : Y.cell? ⟨w.heap.size, 0, none⟩ = some (.int .i64 kind) := HW1.out.ent 0 _ rfl
    clear HW
    go_wp2_with fail
    refine bodyPost_ret (v := .tuple #[.agg #[.int .i64 0, .int .i64 0], .int .i64 4]) (by simp [results, Tryz.results80, go_sem, a0, a1, f0, f1]) rfl ⟨rfl, ?_⟩
    exact (HW1.out.grew.setCell (show w.heap.size ≤ w.heap.size + 1 by omega) _).setCell (show w.heap.size ≤ w.heap.size + 1 by omega) _
theorem writeG0_any (E : Nat → Addr) (e : En) {w : World} (hE : Errs stS E w) (hA : e.kind = 1 → EnAt w e) (hz : EnSz e) (at_ : Int) {Ft Fs : Nat → Prop} {st n : Nat} {lo hi : ByteArray} {P : List Pr} {S : Int → Option An} (h : StAt w Ft Fs st n lo hi P S) (hl : lo.size ≤ 70368744177664) (hh : hi.size ≤ 70368744177664) (hx : P.length ≤ 1000) (hn : n ≤ 1000000) :
    Calls Tryz.prog 19 #[.pointer (some ⟨st, 0, none⟩), e.agg, .int .i64 at_] w fun r w' => r = .returned (.tuple #[ansAgg (Pl.writeG lo hi P S e at_).code (Pl.writeG lo hi P S e at_).at_, errOf E (Pl.writeG lo hi P S e at_).err]) ∧ ∃ m, m ≤ n + 1 ∧ Wrote w w' Ft Fs st m lo hi (Pl.writeG lo hi P S e at_).P (Pl.writeG lo hi P S e at_).S := by
  have still : ∀ {w'}, Grew w w' → ∃ m, m ≤ n + 1 ∧ Wrote w w' Ft Fs st m lo hi P S := fun {w'} g => ⟨n, by omega, g.only _, Ft, h.grew g, fun _ hj => .inl hj⟩
  unfold Pl.writeG
  by_cases h1 : e.kind = 1 ∧ Pl.rightB e = true
  · rw [if_neg (not_not_intro h1)]
    by_cases h2 : at_ < 0 ∨ 4096 ≤ at_
    · rw [if_pos h2]
      refine (writeS_range E e w hE (hA h1.1) at_ st h1.1 h1.2 h2).mono ?_
      rintro r w' ⟨hr, hg⟩
      exact ⟨hr, still hg⟩
    · rw [if_neg h2]
      by_cases h5 : (e.ops.any fun o => !Pl.hasS lo hi o.key) = true
      · rw [if_pos h5]
        refine (writeS_moved E e hE (hA h1.1) at_ h h1.1 h1.2 (by omega) (by omega) hl hh (fun o ho => (hz o ho).1) h5).mono ?_
        rintro r w' ⟨hr, hg⟩
        exact ⟨hr, still hg⟩
      · rw [if_neg h5]
        by_cases h3 : askN (S e.client) e.seq = 1
        · rw [if_pos h3]
          refine (writeS_new E e hE (hA h1.1) at_ h h1.1 h1.2 (by omega) (by omega) hl hh (fun o ho => (hz o ho).1) (Pl.any_has h5) (fun o ho => (hz o ho).2) hx hn h3).mono ?_
          rintro r w' ⟨hr, hg⟩
          exact ⟨hr, n + 1, Nat.le_refl _, hg⟩
        · rw [if_neg h3]
          refine (writeS_seen E e hE (hA h1.1) at_ h h1.1 h1.2 (by omega) (by omega) hl hh (fun o ho => (hz o ho).1) (Pl.any_has h5) h3).mono ?_
          rintro r w' ⟨hr, hg⟩
          by_cases h4 : askN (S e.client) e.seq = 2
          · rw [if_pos h4] at hr ⊢
            exact ⟨hr, still hg⟩
          · rw [if_neg h4] at hr ⊢
            exact ⟨hr, still hg⟩
  · rw [if_pos h1]
    refine (writeS_form0 E e w hE hA at_ st h1).mono ?_
    rintro r w' ⟨hr, hg⟩
    exact ⟨hr, still hg⟩
theorem write23_any0 (e : En) {w : World} (hA : e.kind = 1 → EnAt w e) (hs : ∀ o ∈ e.ops, o.key.size ≤ 16777216) (hsv : ∀ o ∈ e.ops, o.val.size ≤ 140737488351232) (at_ : Int) {G : Nat → Prop} {ms sb : Nat} {lo hi : ByteArray} {D P : List Pr} {S : Int → Option An} (h : MsAt w G ms sb lo hi D S) (hTT : Pl.Tt P D) (hl : lo.size ≤ 16777216) (hh : hi.size ≤ 16777216) (hx : D.length ≤ 1000) :
    Calls Tryz.prog 80 #[.pointer (some ⟨ms, 0, none⟩), e.agg, .int .i64 at_] w fun r w' => r = .returned (.tuple #[ansAgg (Pl.writeG lo hi P S e at_).code (Pl.writeG lo hi P S e at_).at_, .int .i64 ((Pl.writeG lo hi P S e at_).err : Nat)]) ∧ ∃ D', MsTurn w G ms sb lo hi D' (Pl.writeG lo hi P S e at_).S w' ∧ Pl.Tt (Pl.writeG lo hi P S e at_).P D' := by
  by_cases h1 : e.kind = 1 ∧ Pl.rightB e = true
  · by_cases h2 : at_ < 0 ∨ 4096 ≤ at_
    · have e1 : Pl.writeG lo hi P S e at_ = ⟨0, 0, 1, P, S⟩ := by unfold Pl.writeG; rw [if_neg (not_not_intro h1), if_pos h2]
      rw [e1]
      refine (write23_range e w (hA h1.1) hs at_ ms h1.1 h1.2 h2).mono ?_
      rintro r w' ⟨hr, hg⟩
      exact ⟨hr, D, MsTurn.of_grew h hg, hTT⟩
    · have e1 : (Pl.writeG lo hi P S e at_).err = 0 := by
        unfold Pl.writeG; rw [if_neg (not_not_intro h1), if_neg h2]
        split
        · rfl
        · split
          · rfl
          · split <;> rfl
      rw [e1]
      exact write23_in e (hA h1.1) hs hsv at_ h hTT h1.1 h1.2 (by omega) (by omega) hl hh hx
  · have e1 : Pl.writeG lo hi P S e at_ = ⟨0, 0, 4, P, S⟩ := by unfold Pl.writeG; rw [if_pos h1]
    rw [e1]
    refine (write23_form0 e w hA hs at_ ms h1).mono ?_
    rintro r w' ⟨hr, hg⟩
    exact ⟨hr, D, MsTurn.of_grew h hg, hTT⟩

end Go.Proofs.YtifcnammekbfoaaGreatDoor
