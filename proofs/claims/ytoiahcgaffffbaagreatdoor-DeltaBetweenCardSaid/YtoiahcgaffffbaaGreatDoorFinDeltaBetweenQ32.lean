/- Wr23, RdD, AppC: one text. -/
import Derived.Test.YtoiahcgaffffbaaGreatDoorFinDeltaBetweenQ31
import Derived.Test.YtoiahcgaffffbaaGreatDoorFinDeltaBetweenQ26
import Derived.Test.YtoiahcgaffffbaaGreatDoorFinDeltaBetweenQ23
import Derived.Test.YtoiahcgaffffbaaGreatDoorFinDeltaBetweenQ4
set_option linter.unusedVariables false
set_option linter.unusedSectionVars false
set_option linter.unusedSimpArgs false
namespace Go.Proofs.YtoiahcgaffffbaaGreatDoor
open Go.RowKit Go.Maps
attribute [local go_sem] Oper.semAt_some
theorem write23_any (e : En) {w : World} (hA : EnAt w e) (hs : ∀ o ∈ e.ops, o.key.size ≤ 16777216) (hsv : ∀ o ∈ e.ops, o.val.size ≤ 140737488351232) (at_ : Int) {G : Nat → Prop} {ms sb : Nat} {lo hi : ByteArray} {D P : List Pr} {S : Int → Option An} (h : MsAt w G ms sb lo hi D S) (hTT : Pl.Tt P D) (hl : lo.size ≤ 16777216) (hh : hi.size ≤ 16777216) (hx : D.length ≤ 1000) :
    Calls Tryz.prog 58 #[.pointer (some ⟨ms, 0, none⟩), e.agg, .int .i64 at_] w fun r w' => r = .returned (.tuple #[ansAgg (Pl.writeG lo hi P S e at_).code (Pl.writeG lo hi P S e at_).at_, .int .i64 ((Pl.writeG lo hi P S e at_).err : Nat)]) ∧ ∃ D', MsTurn w G ms sb lo hi D' (Pl.writeG lo hi P S e at_).S w' ∧ Pl.Tt (Pl.writeG lo hi P S e at_).P D' := by
  by_cases h1 : e.kind = 1 ∧ Pl.rightB e = true
  · by_cases h2 : at_ < 0 ∨ 4096 ≤ at_
    · have e1 : Pl.writeG lo hi P S e at_ = ⟨0, 0, 1, P, S⟩ := by unfold Pl.writeG; rw [if_neg (not_not_intro h1), if_pos h2]
      rw [e1]
      refine (write23_range e w hA hs at_ ms h1.1 h1.2 h2).mono ?_
      rintro r w' ⟨hr, hg⟩
      exact ⟨hr, D, MsTurn.of_grew h hg, hTT⟩
    · have e1 : (Pl.writeG lo hi P S e at_).err = 0 := by
        unfold Pl.writeG; rw [if_neg (not_not_intro h1), if_neg h2]
        split
        · rfl
        · split
          · rfl
          · split <;> rfl
      rw [e1]
      exact write23_in e hA hs hsv at_ h hTT h1.1 h1.2 (by omega) (by omega) hl hh hx
  · have e1 : Pl.writeG lo hi P S e at_ = ⟨0, 0, 4, P, S⟩ := by unfold Pl.writeG; rw [if_pos h1]
    rw [e1]
    refine (write23_form e w hA hs at_ ms h1).mono ?_
    rintro r w' ⟨hr, hg⟩
    exact ⟨hr, D, MsTurn.of_grew h hg, hTT⟩
namespace Pl
def InS (lo hi : ByteArray) (P : List Pr) : Prop := ∀ c ∈ P, hasS lo hi c.key = true
theorem inS_nil (lo hi : ByteArray) : InS lo hi [] := fun c h => by cases h
theorem step_mem {P : List Pr} (h : Srt P) (o : OpR) (v : Int) : ∀ c ∈ (stepP P o v).1, c ∈ P ∨ c.key = o.key := by
  intro c hc
  unfold stepP at hc
  split at hc
  · exact .inl ((mem_del h _ _).1 hc).1
  · split at hc
    · exact .inl hc
    · split at hc
      · exact .inl hc
      · unfold putT at hc
        dsimp only at hc
        split at hc
        · next hp =>
          rcases (mem_put h (putN_zero hp).1 _).1 hc with hq | hq
          · exact .inr (by rw [hq])
          · exact .inl hq.1
        · exact .inl hc
theorem step_srt {P : List Pr} (h : Srt P) (o : OpR) (v : Int) : Srt (stepP P o v).1 := by
  unfold stepP
  split
  · exact srt_del h _
  · split
    · exact h
    · split
      · exact h
      · unfold putT
        dsimp only
        split
        · next hp => exact srt_put h (putN_zero hp).1
        · exact h
theorem runOps_in {lo hi : ByteArray} (v : Int) : ∀ (ops : List OpR) {P : List Pr}, Srt P → InS lo hi P → (∀ o ∈ ops, hasS lo hi o.key = true) → InS lo hi (runOps ops v P).1 := by
  intro ops
  induction ops with
  | nil => intro P _ h _; exact h
  | cons o os ih =>
    intro P hs h ho
    have h1 : InS lo hi (stepP P o v).1 := fun c hc => by
      rcases step_mem hs o v c hc with q | q
      · exact h c q
      · rw [q]; exact ho o (by simp)
    rw [runOps_cons]
    split
    · exact ih (step_srt hs o v) h1 fun x hx => ho x (by simp [hx])
    · exact h1
theorem writeG_in {lo hi : ByteArray} {P : List Pr} (hs : Srt P) (h : InS lo hi P) (S : Int → Option An) (e : En) (at_ : Int) : InS lo hi (writeG lo hi P S e at_).P := by
  unfold writeG
  split
  · exact h
  · split
    · exact h
    · split
      · exact h
      · next hq =>
        split
        · show InS lo hi (tabW P e.ops at_)
          unfold tabW
          split
          · exact runOps_in _ _ hs h (any_has hq)
          · exact h
        · split <;> exact h
theorem writeG_len (lo hi : ByteArray) (P : List Pr) (S : Int → Option An) (e : En) (at_ : Int) : (writeG lo hi P S e at_).P.length ≤ P.length + 8 := by
  unfold writeG
  by_cases h1 : e.kind = 1 ∧ rightB e = true
  · rw [if_neg (not_not_intro h1)]
    split
    · dsimp only; omega
    · split
      · dsimp only; omega
      · split
        · have := tabW_len P e.ops at_; have := (right_seq h1.1 h1.2).2.2; dsimp only; omega
        · split <;> (dsimp only; omega)
  · rw [if_pos h1]; dsimp only; omega
end Pl
def BlS (Ft Fs : Nat → Prop) (st j : Nat) : Prop := Ft j ∨ Fs j ∨ j = st
def BlM (G : Nat → Prop) (ms sb j : Nat) : Prop := G j ∨ j = ms ∨ j = sb
structure TwS (w0 W : World) (st ms n : Nat) (lo hi : ByteArray) (P : List Pr) (S : Int → Option An) : Prop where
  grew : Grew w0 W
  ex : ∃ Ft Fs G sb D, StAt W Ft Fs st n lo hi P S ∧ MsAt W G ms sb lo hi D S ∧ Pl.Tt P D ∧ (∀ j, BlS Ft Fs st j → w0.heap.size ≤ j ∧ ¬ BlM G ms sb j) ∧ (∀ j, BlM G ms sb j → w0.heap.size ≤ j)
  ins : Pl.InS lo hi P
section
variable {w0 W W' : World} {st ms n : Nat} {lo hi : ByteArray} {P : List Pr} {S : Int → Option An}
theorem StAt.all {W : World} {Ft Fs : Nat → Prop} {st n : Nat} {lo hi : ByteArray} {P : List Pr} {S : Int → Option An} (h : StAt W Ft Fs st n lo hi P S) : ∀ j, BlS Ft Fs st j → j < W.heap.size := by
  obtain ⟨tb, sb, h⟩ := h
  rintro j (hj | hj | rfl)
  · exact tabAt_lt h.tab j hj
  · exact h.seen.lt j hj
  · exact cell_lt h.c0
theorem MsAt.all {W : World} {G : Nat → Prop} {ms sb : Nat} {lo hi : ByteArray} {D : List Pr} {S : Int → Option An} (h : MsAt W G ms sb lo hi D S) : ∀ j, BlM G ms sb j → j < W.heap.size := by
  obtain ⟨a, b, c⟩ := h.lt
  rintro j (hj | rfl | rfl)
  · exact c j hj
  · exact a
  · exact b
theorem TwS.more (h : TwS w0 W st ms n lo hi P S) (g : Grew W W') : TwS w0 W' st ms n lo hi P S := by
  obtain ⟨Ft, Fs, G, sb, D, h1, h2, h3⟩ := h.ex
  exact ⟨h.grew.trans g, ⟨Ft, Fs, G, sb, D, h1.grew g, h2.grew g, h3⟩, h.ins⟩
end
theorem twS_write (E : Nat → Addr) {w0 W : World} (hE : Errs stS E w0) {st ms n : Nat} {lo hi : ByteArray} {P : List Pr} {S : Int → Option An} (h : TwS w0 W st ms n lo hi P S) (e : En) (hA : EnAt w0 e) (hz : EnSz e) (hs : ∀ o ∈ e.ops, o.key.size ≤ 16777216) (at_ : Int) (hl : lo.size ≤ 16777216) (hh : hi.size ≤ 16777216) (hx : P.length ≤ 1000) (hn : n ≤ 1000000) :
    Calls Tryz.prog 57 #[.pointer (some ⟨st, 0, none⟩), e.agg, .int .i64 at_] W fun r W1 => r = .returned (.tuple #[ansAgg (Pl.writeG lo hi P S e at_).code (Pl.writeG lo hi P S e at_).at_, errOf E (Pl.writeG lo hi P S e at_).err]) ∧ Grew w0 W1 ∧
      ∀ W2, Grew W1 W2 → Calls Tryz.prog 58 #[.pointer (some ⟨ms, 0, none⟩), e.agg, .int .i64 at_] W2 fun r W3 => r = .returned (.tuple #[ansAgg (Pl.writeG lo hi P S e at_).code (Pl.writeG lo hi P S e at_).at_, .int .i64 ((Pl.writeG lo hi P S e at_).err : Nat)]) ∧ ∃ m, m ≤ n + 1 ∧ TwS w0 W3 st ms m lo hi (Pl.writeG lo hi P S e at_).P (Pl.writeG lo hi P S e at_).S := by
  obtain ⟨Ft, Fs, G, sb, D, h1, h2, h3, h4, h5⟩ := h.ex
  have hla := h1.all
  have hlb := h2.all
  refine (writeG_any E e (hE.grew h.grew) (hA.grew h.grew) hz at_ h1 (by omega) (by omega) hx hn).mono ?_
  rintro r W1 ⟨hr, m, hm, hO, Ft1, hS1, hF1⟩
  have hg1 : Grew w0 W1 := ((h.grew.only _).then hO).grew fun j hj => (h4 j (hj.elim (fun q => .inr (.inr q)) (fun q => .inr (.inl q)))).1
  have hM1 : MsAt W1 G ms sb lo hi D S := h2.kept hO (fun j hj hq => (h4 j (hq.elim (fun q => .inr (.inr q)) (fun q => .inr (.inl q)))).2 (.inl hj)) (fun hq => (h4 ms (hq.elim (fun q => .inr (.inr q)) (fun q => .inr (.inl q)))).2 (.inr (.inl rfl))) (fun hq => (h4 sb (hq.elim (fun q => .inr (.inr q)) (fun q => .inr (.inl q)))).2 (.inr (.inr rfl)))
  have hA1 : ∀ j, BlS Ft1 Fs st j → w0.heap.size ≤ j ∧ ¬ BlM G ms sb j := by
    rintro j (hj | hj | hj)
    · rcases hF1 j hj with q | q
      · exact h4 j (.inl q)
      · have := h.grew.size
        exact ⟨by omega, fun hm => by have := hlb j hm; omega⟩
    · exact h4 j (.inr (.inl hj))
    · exact h4 j (.inr (.inr hj))
  have hla1 := hS1.all
  refine ⟨hr, hg1, fun W2 g2 => ?_⟩
  have hx2 : D.length ≤ 1000 := by rw [← h3.len]; exact hx
  refine (write23_any e (hA.grew (hg1.trans g2)) hs (fun o ho => (hz o ho).2) at_ (hM1.grew g2) h3 hl hh hx2).mono ?_
  rintro r W3 ⟨hr2, D', ⟨hO2, G', hM', hG'⟩, hT'⟩
  refine ⟨hr2, m, hm, ⟨(((hg1.trans g2).only _).then hO2).grew fun j hj => h5 j (hj.elim (fun q => .inr (.inl q)) (fun q => q.elim (fun q => .inr (.inr q)) .inl)), ⟨Ft1, Fs, G', sb, D', ?_, hM', hT', ?_, ?_⟩, Pl.writeG_in h3.srt h.ins S e at_⟩⟩
  · refine (hS1.grew g2).kept hO2 (fun j hj hq => (hA1 j (.inl hj)).2 ?_) (fun j hj hq => (hA1 j (.inr (.inl hj))).2 ?_) (fun hq => (hA1 st (.inr (.inr rfl))).2 ?_)
    all_goals exact hq.elim (fun q => .inr (.inl q)) (fun q => q.elim (fun q => .inr (.inr q)) .inl)
  · intro j hj
    refine ⟨(hA1 j hj).1, fun hq => ?_⟩
    rcases hq with q | q | q
    · rcases hG' j q with q | q
      · exact (hA1 j hj).2 (.inl q)
      · have := hla1 j hj
        have := g2.size
        omega
    · exact (hA1 j hj).2 (.inr (.inl q))
    · exact (hA1 j hj).2 (.inr (.inr q))
  · intro j hj
    rcases hj with q | q | q
    · rcases hG' j q with q | q
      · exact h5 j (.inl q)
      · have := (hg1.trans g2).size
        omega
    · exact h5 j (.inr (.inl q))
    · exact h5 j (.inr (.inr q))
end Go.Proofs.YtoiahcgaffffbaaGreatDoor
namespace Go.Proofs.YtoiahcgaffffbaaGreatDoor
open Go.RowKit Go.Maps Go.Sort
attribute [local go_sem] Oper.semAt_some uponV
def seenL (xs : List (Int × An)) : Int → Option An := fun c => (xs.find? fun x => decide (x.1 = c)).map Prod.snd
instance : Inhabited (Int × An) := ⟨(0, ⟨0, 0, 0⟩)⟩
def clAt (xs : List (Int × An)) (k : Nat) : Int × An := xs[k]?.getD default
theorem clAt_eq (xs : List (Int × An)) (k : Nat) (h : k < xs.length) : clAt xs k = xs[k] := by unfold clAt; rw [List.getElem?_eq_getElem h]; rfl
structure ClRow (xs : List (Int × An)) : Prop where
  rise : (xs.map (·.1)).Pairwise fun a b => a < b
  ok : ∀ x ∈ xs, 1 ≤ x.1 ∧ x.1 ≤ 4 ∧ x.2.Ok
theorem clRow_of {S : Int → Option An} (h : ∀ c a, S c = some a → 1 ≤ c ∧ c ≤ 4 ∧ a.Ok) : ClRow (clients S) :=
  ⟨clients_rise S, fun x hx => h _ _ (mem_clients.1 hx).2⟩
theorem clRow_at {xs : List (Int × An)} (h : ClRow xs) (k : Nat) (hk : k < xs.length) : 1 ≤ (clAt xs k).1 ∧ (clAt xs k).1 ≤ 4 ∧ (clAt xs k).2.Ok := by
  rw [clAt_eq xs k hk]; exact h.ok _ (List.getElem_mem hk)
theorem clRow_lt {xs : List (Int × An)} (h : ClRow xs) (j k : Nat) (hj : j < k) (hk : k < xs.length) : (clAt xs j).1 < (clAt xs k).1 := by
  rw [clAt_eq xs j (by omega), clAt_eq xs k hk]
  have := List.pairwise_iff_getElem.1 h.rise j k (by simp; omega) (by simpa using hk) hj
  simpa using this
theorem clRow_len {xs : List (Int × An)} (h : ClRow xs) : xs.length ≤ 4 := by
  refine Classical.byContradiction fun hn => ?_
  have l1 := clRow_lt h 0 1 (by omega) (by omega)
  have l2 := clRow_lt h 1 2 (by omega) (by omega)
  have l3 := clRow_lt h 2 3 (by omega) (by omega)
  have l4 := clRow_lt h 3 4 (by omega) (by omega)
  have a := (clRow_at h 0 (by omega)).1
  have b := (clRow_at h 4 (by omega)).2.1
  omega
theorem seenL_none {xs : List (Int × An)} (h : ClRow xs) (k : Nat) (hk : k < xs.length) : seenL (xs.take k) (clAt xs k).1 = none := by
  unfold seenL
  rw [Option.map_eq_none_iff, List.find?_eq_none]
  intro x hx
  obtain ⟨j, hj, rfl⟩ := List.getElem_of_mem hx
  rw [List.length_take] at hj
  rw [List.getElem_take]
  have := clRow_lt h j k (by omega) hk
  rw [clAt_eq xs j (by omega)] at this
  simp; omega
theorem seenL_snoc {xs : List (Int × An)} (h : ClRow xs) (k : Nat) (hk : k < xs.length) : seenL (xs.take (k + 1)) = noteS (seenL (xs.take k)) (clAt xs k).1 (clAt xs k).2 := by
  have hn := seenL_none h k hk
  funext c
  unfold noteS
  by_cases e : c = (clAt xs k).1
  · subst e
    rw [if_pos rfl]
    unfold seenL at hn ⊢
    rw [Option.map_eq_none_iff] at hn
    rw [List.take_succ_eq_append_getElem hk, List.find?_append, hn, ← clAt_eq xs k hk]
    simp
  · rw [if_neg e]
    unfold seenL
    rw [List.take_succ_eq_append_getElem hk, List.find?_append, ← clAt_eq xs k hk]
    have : ([clAt xs k].find? fun x => decide (x.1 = c)) = none := by
      rw [List.find?_eq_none]
      intro x hx
      rw [List.mem_singleton] at hx
      subst hx
      simp only [decide_eq_true_eq]
      exact fun q => e q.symm
    rw [this, Option.or_none]
theorem seenL_clients {S : Int → Option An} (h : ∀ c a, S c = some a → 1 ≤ c ∧ c ≤ 4 ∧ a.Ok) : seenL (clients S) = S := by
  funext c
  unfold seenL
  cases hS : S c with
  | none =>
    rw [Option.map_eq_none_iff, List.find?_eq_none]
    intro x hx
    have := (mem_clients.1 hx).2
    simp only [decide_eq_true_eq]
    intro e
    rw [e, hS] at this; cases this
  | some a =>
    have hc := h c a hS
    have hm : (c, a) ∈ clients S := mem_clients.2 ⟨by dsimp only; omega, hS⟩
    cases hf : (clients S).find? fun x => decide (x.1 = c) with
    | none =>
      rw [List.find?_eq_none] at hf
      have := hf _ hm
      simp at this
    | some y =>
      have h1 := List.mem_of_find?_eq_some hf
      have h2 := List.find?_some hf
      have h3 := (mem_clients.1 h1).2
      simp only [decide_eq_true_eq] at h2
      rw [h2, hS] at h3
      show some y.2 = some a
      exact h3.symm
def befL (xs : List (Int × An)) (k : Nat) : Int := if k = 0 then 0 else (clAt xs (k - 1)).1
theorem befL_lt {xs : List (Int × An)} (h : ClRow xs) (k : Nat) (hk : k < xs.length) : befL xs k < (clAt xs k).1 := by
  unfold befL
  split
  · have := (clRow_at h k hk).1; omega
  · exact clRow_lt h (k - 1) k (by omega) hk
theorem clsB_drop (xs : List (Int × An)) (k : Nat) (hk : k < xs.length) : clsB (xs.drop k) = clB (clAt xs k) ++ clsB (xs.drop (k + 1)) := by
  rw [List.drop_eq_getElem_cons hk, clAt_eq xs k hk]; rfl
theorem clsB_len : ∀ (xs : List (Int × An)), (∀ x ∈ xs, 1 ≤ x.1 ∧ x.1 ≤ 4 ∧ x.2.Ok) → (clsB xs).length ≤ xs.length * 20 := by
  intro xs
  induction xs with
  | nil => intro _; simp [clsB]
  | cons x xs ih =>
    intro hm
    have e : clsB (x :: xs) = clB x ++ clsB xs := rfl
    obtain ⟨q1, q2, q3⟩ := hm x (by simp)
    have a1 := Pl.numB_len 4 x.1.toNat (by omega)
    have a2 := Pl.numB_len 4 x.2.seq.toNat (by have := q3.s1; have := q3.s2; omega)
    have a3 := Pl.numB_len 4 x.2.code.toNat (by have := q3.c1; omega)
    have a4 := Pl.numB_len 4 x.2.at_.toNat (by have := q3.a1; have := q3.a2; omega)
    have := ih fun y hy => hm y (by simp [hy])
    rw [e, List.length_append]
    unfold clB
    simp only [List.length_append, List.length_cons]
    omega
structure RdD (w wr : World) (ib nb sb : Nat) (xs : List (Int × An)) (k : Nat) : Prop where
  grew : Grew w wr
  inp : InAt wr ib nb (clsB (xs.drop k))
  seen : ∃ F, SeenAt wr F sb k (seenL (xs.take k)) ∧ ¬ F ib ∧ ¬ F nb ∧ ∀ j, F j → w.heap.size ≤ j
  new : w.heap.size ≤ ib
theorem RdD.more {w wr x : World} {ib nb sb : Nat} {xs : List (Int × An)} {k : Nat} (h : RdD w wr ib nb sb xs k) (g : Grew wr x) : RdD w x ib nb sb xs k := by
  obtain ⟨F, h1, h2⟩ := h.seen
  exact ⟨h.grew.trans g, h.inp.grew g, ⟨F, h1.grew g, h2⟩, h.new⟩
set_option maxRecDepth 100000 in
set_option maxHeartbeats 8000000 in
theorem readD_any {w : World} {a : Option Addr} {cap : Nat} {xs : List (Int × An)} (hA : BytesAt w a (Pl.numB xs.length ++ clsB xs)) (hf : SlForm a cap) (hr : ClRow xs) :
    Calls Tryz.prog 93 #[.slice a (Pl.numB xs.length ++ clsB xs).length cap] w fun e w' => ∃ sb F, e = .returned (.tuple #[.pointer (some ⟨sb, 0, none⟩), .nilIface]) ∧ SeenAt w' F sb xs.length (seenL xs) ∧ (∀ j, F j → w.heap.size ≤ j) ∧ Grew w w' := by
  have hl4 := clRow_len hr
  have hps := clsB_len xs hr.ok
  have hnp := Pl.numB_pos xs.length
  have hn1 := Pl.numB_len 0 xs.length (by omega)
  have HIR := hid (inRead_any w a _ cap (Pl.numB xs.length ++ clsB xs) rfl hA hf (by rw [List.length_append]; omega) (by rw [List.length_append]; omega))
  have HPL := hid hps
  obtain ⟨n, hn⟩ : ∃ n, n = xs.length := ⟨_, rfl⟩
  have HN := hid hn
  have hn2 : n ≤ 4 := by omega
  have HROW := hid hr
  rw [← hn] at HIR ⊢
  generalize hz : (Pl.numB n ++ clsB xs).length = z at *
  clear hps hnp hn1 hn hA hf hr hl4 hz
  go_enter Tryz.func93, Tryz.ntmps93
  go_wp2_with fail
  refine HIR.out.mono ?_
  rintro e w1 ⟨ib, nb, rfl, hib, hnb, hI, hg1⟩
  have HI := hid hI
  have HG1 := hid hg1
  have HIB := hid hib
  clear hI hg1 hib hnb HIR
  go_wp2_with fail
  refine (newD_any w1).mono ?_
  rintro e w2 ⟨sb, F0, rfl, hS2, hF0, hg2⟩
  have HI2 := hid (HI.out.grew hg2)
  have HS2 := hid hS2
  have HF0 := hid hF0
  have HL2 := hid HI.out.lt
  have HG2 := hid (HG1.out.trans hg2)
  have HZ := hid HG1.out.size
  clear hg2 hS2 hF0
  go_wp2_with fail
  refine (inNum_any n 4 (by omega) (by omega) HI2.out (by have := HPL.out; have := HN.out; omega)).mono ?_
  rintro e w3 ⟨rfl, hO3, hI3⟩
  have HR0 : Hid (RdD w w3 ib nb sb xs 0) := by
    have hlt := HL2.out
    refine ⟨((HG2.out.only _).then hO3).grew (fun j (hj : j = ib) => by rw [hj]; exact HIB.out), by simpa using hI3, ⟨F0, HS2.out.kept hO3 (fun j hj (h2 : j = ib) => by have := HF0.out j hj; omega), (fun h => by have := HF0.out _ h; omega), (fun h => by have := HF0.out _ h; omega), fun j hj => by have := HF0.out j hj; have := HZ.out; omega⟩, HIB.out⟩
  clear hO3 hI3 HI2 HS2 HF0 HL2 HG2 HZ HI HG1
  have hb0 : befL xs 0 = 0 := rfl
  go_wp2_with fail
  go_loopw [6, 7, 8] (fun bf ok i wr => ∃ k : Nat, ok = .bool true ∧ k ≤ n ∧ i = .int .i64 ((n - k : Nat) : Int) ∧ bf = .int .i64 (befL xs k) ∧ Hid (RdD w wr ib nb sb xs k)) (fun _ _ i _ => (intOf i).toNat)
  case atStart => exact ⟨0, rfl, by omega, rfl, rfl, HR0⟩
  case round =>
    obtain ⟨k, rfl, hk, rfl, rfl, HR⟩ := hrel
    by_cases hlt : k < n
    · have hlt' : k < xs.length := by rw [← HN.out]; exact hlt
      obtain ⟨r1, r2, r3⟩ := clRow_at HROW.out k hlt'
      have hbf := befL_lt HROW.out k hlt'
      have hin := HR.out.inp
      rw [clsB_drop xs k hlt'] at hin
      unfold clB at hin
      have HSN := hid (seenL_snoc HROW.out k hlt')
      have HNO := hid (seenL_none HROW.out k hlt')
      have HBF : Hid (befL xs (k + 1) = (clAt xs k).1) := by unfold Hid befL; rw [if_neg (by omega), Nat.add_sub_cancel]
      have hrl : (clsB (xs.drop (k + 1))).length ≤ 100 := by
        have h1 := HPL.out
        have h2 := congrArg List.length (show clsB (xs.take (k + 1)) ++ clsB (xs.drop (k + 1)) = clsB xs by unfold clsB; rw [← List.flatMap_append, List.take_append_drop])
        rw [List.length_append] at h2
        have := HN.out
        omega
      generalize clAt xs k = x at *
      obtain ⟨xc, xq, xk, xt⟩ := x
      dsimp only at *
      obtain ⟨s1, s2, c1, t1, t2⟩ := r3
      dsimp only at s1 s2 c1 t1 t2
      obtain ⟨vc, rfl⟩ : ∃ v : Nat, xc = v := ⟨xc.toNat, by omega⟩
      obtain ⟨vq, rfl⟩ : ∃ v : Nat, xq = v := ⟨xq.toNat, by omega⟩
      obtain ⟨vk, rfl⟩ : ∃ v : Nat, xk = v := ⟨xk.toNat, by omega⟩
      obtain ⟨vt, rfl⟩ : ∃ v : Nat, xt = v := ⟨xt.toNat, by omega⟩
      simp only [Int.toNat_natCast] at hin
      obtain ⟨rest, hrest⟩ : ∃ rest, rest = clsB (xs.drop (k + 1)) := ⟨_, rfl⟩
      rw [← hrest] at hin hrl
      have HREST := hid hrest
      have HIN : Hid (InAt wr ib nb (Pl.numB vc ++ (Pl.numB vq ++ (Pl.numB vk ++ (Pl.numB vt ++ rest))))) := by unfold Hid; simpa [List.append_assoc] using hin
      have HOK := hid (show (1 : Int) ≤ vc ∧ (vc : Int) ≤ 4 ∧ An.Ok ⟨vq, vk, vt⟩ from ⟨r1, r2, ⟨s1, s2, c1, t1, t2⟩⟩)
      have l2 := Pl.numB_len 4 vq (by omega)
      have l3 := Pl.numB_len 4 vk (by omega)
      have l4 := Pl.numB_len 4 vt (by omega)
      have hpos : (0 : Int) < ((n - k : Nat) : Int) := by omega
      have hcast : ((n - k : Nat) : Int) = (n : Int) - (k : Int) := by omega
      have hpos' : (0 : Int) < (n : Int) - (k : Int) := by omega
      have HBN := hid (show vc < 4611686018427387904 ∧ vq < 4611686018427387904 ∧ vk < 4611686018427387904 ∧ vt < 4611686018427387904 ∧ (vc : Int) ≤ 4 ∧ (vq : Int) ≤ 1073741824 ∧ (vk : Int) ≤ 2 ∧ (vt : Int) ≤ 4095 from ⟨by omega, by omega, by omega, by omega, by omega, by omega, by omega, by omega⟩)
      have HLN := hid (show (Pl.numB vq).length ≤ 5 ∧ (Pl.numB vk).length ≤ 5 ∧ (Pl.numB vt).length ≤ 5 ∧ rest.length ≤ 100 from ⟨l2, l3, l4, hrl⟩)
      clear hin hrest r1 r2 s1 s2 c1 t1 t2 l2 l3 l4 hrl hlt'
      go_wp2_with fail
      refine (inNum_any vc 4 HBN.out.1 HBN.out.2.2.2.2.1 HIN.out (by have := HLN.out; simp only [List.length_append]; omega)).mono ?_
      rintro e w4 ⟨rfl, hO4, hI4⟩
      have HI4 := hid hI4
      have HO4 := hid hO4
      clear hI4 hO4
      go_wp2_with fail
      refine (inNum_any vq 1073741824 HBN.out.2.1 HBN.out.2.2.2.2.2.1 HI4.out (by have := HLN.out; simp only [List.length_append]; omega)).mono ?_
      rintro e w5 ⟨rfl, hO5, hI5⟩
      have HI5 := hid hI5
      have HO5 := hid (HO4.out.then hO5)
      clear hI5 hO5
      go_wp2_with fail
      refine (inNum_any vk 2 HBN.out.2.2.1 HBN.out.2.2.2.2.2.2.1 HI5.out (by have := HLN.out; simp only [List.length_append]; omega)).mono ?_
      rintro e w6 ⟨rfl, hO6, hI6⟩
      have HI6 := hid hI6
      have HO6 := hid (HO5.out.then hO6)
      clear hI6 hO6
      go_wp2_with fail
      refine (inNum_any vt 4095 HBN.out.2.2.2.1 HBN.out.2.2.2.2.2.2.2 HI6.out (by have := HLN.out; omega)).mono ?_
      rintro e w7 ⟨rfl, hO7, hI7⟩
      have HI7 := hid hI7
      have HO7 := hid (HO6.out.then hO7)
      clear hI7 hO7
      obtain ⟨F, hT, hF1, hF2, hF3⟩ := HR.out.seen
      have hT7 := hT.kept HO7.out (fun j hj (e : j = ib) => hF1 (by rw [← e]; exact hj))
      have HT7 := hid hT7
      have HF := hid (And.intro hF1 (And.intro hF2 hF3))
      have HG7 := hid (show Grew w w7 from ((HR.out.grew.only _).then HO7.out).grew (fun j (hj : j = ib) => by rw [hj]; exact HIB.out))
      clear hT hT7 hF1 hF2 hF3
      go_upto_region 9 with fail
      obtain ⟨X, hX⟩ : ∃ X, X = w7.alloc (.cells #[.int .i64 vk, .int .i64 vt] 127) := ⟨_, rfl⟩
      have gX : Grew w7 X := by rw [hX]; exact (Grew.refl w7).alloc _
      have x0 : X.cell? ⟨w7.heap.size, 0, none⟩ = some (.int .i64 vk) := by rw [hX]; simp [go_sem]
      have x1 : X.cell? ⟨w7.heap.size, 1, none⟩ = some (.int .i64 vt) := by rw [hX]; simp [go_sem]
      have hxs : w7.heap.size < X.heap.size := by rw [hX]; simp
      have HGX := hid (HG7.out.trans gX)
      have HNT := hid (note_fresh (HT7.out.grew gX) (vc : Int) ⟨vq, vk, vt⟩ HOK.out.1 HOK.out.2.1 HOK.out.2.2 (by omega) (by rw [HNO.out]; rfl))
      rw [← HSN.out] at HNT
      have HRND := hid (fun (x' : World) (hT : SeenTurn X F sb (k + 1) (seenL (xs.take (k + 1))) x') => show RdD w x' ib nb sb xs (k + 1) from by
        obtain ⟨hO, h1⟩ := hT
        have hlt := (HI7.out.grew gX).lt
        refine ⟨((HGX.out.only F).then hO).grew HF.out.2.2, ?_, ⟨F, h1, HF.out⟩, HR.out.new⟩
        rw [← HREST.out]; exact (HI7.out.grew gX).kept hO HF.out.1 HF.out.2.1)
      rw [← hX]
      have hnb : ¬ (vc : Int) ≤ befL xs k := by omega
      have HKN := hid (And.intro hk (And.intro hlt hcast))
      have hk9 : k < 1000000 := by omega
      unfold ansAgg at HNT
      dsimp only at HNT
      generalize befL xs k = bb at *
      clear hX gX HT7 HI7 hbf hcast hpos hpos' HG7 HO7 HO6 HO5 HO4 HI6 HI5 HI4 HIN HLN HBN HOK HSN HNO HR
      go_wp2_with fail
      refine HNT.out.mono ?_
      rintro e w8 ⟨rfl, hT⟩
      have HRN := hid (HRND.out w8 hT)
      clear hT x0 x1 hxs HNT HRND
      go_wp2_with fail
      go_roundw
      case rel =>
        obtain ⟨k1, k2, k3⟩ := HKN.out
        exact ⟨k + 1, rfl, by omega, by go_num, by rw [HBF.out], HRN⟩
      case measure =>
        obtain ⟨k1, k2, k3⟩ := HKN.out
        simp [intOf]; omega
    · have hkn : k = n := by omega
      subst hkn
      have hdr : clsB (xs.drop k) = [] := by rw [HN.out, List.drop_length]; rfl
      have HRi := hid HR.out.inp
      rw [hdr] at HRi
      have HEND : Hid (∃ F, SeenAt wr F sb k (seenL xs) ∧ (∀ j, F j → w.heap.size ≤ j) ∧ Grew w wr) := by
        obtain ⟨F, h1, _, _, h4⟩ := HR.out.seen
        have h2 := h1
        rw [HN.out, List.take_length, ← HN.out] at h2
        exact ⟨F, h2, h4, HR.out.grew⟩
      have hz : ((k - k : Nat) : Int) = 0 := by omega
      clear hdr
      go_wp2_with fail
      refine (inEnd_any HRi.out).mono ?_
      rintro e w4 ⟨rfl, rfl⟩
      go_wp2_with fail
      go_ret2
      obtain ⟨F, h1, h2, h3⟩ := HEND.out
      exact ⟨sb, F, rfl, h1, h2, h3⟩
end Go.Proofs.YtoiahcgaffffbaaGreatDoor
namespace Go.Proofs.YtoiahcgaffffbaaGreatDoor
open Go.RowKit Go.Maps
attribute [local go_sem] Oper.semAt_some
def clVals (x : Int × An) : List Value := [.int .i64 x.1, .int .i64 x.2.seq, .int .i64 x.2.code, .int .i64 x.2.at_]
def clFlat (xs : List (Int × An)) : List Value := xs.flatMap clVals
theorem clFlat_length (xs : List (Int × An)) : (clFlat xs).length = xs.length * 4 := by
  induction xs with
  | nil => rfl
  | cons x xs ih => rw [show clFlat (x :: xs) = clVals x ++ clFlat xs from rfl, List.length_append, ih]; simp only [clVals, List.length_cons, List.length_nil]; omega
theorem clFlat_get (k : Nat) (hk : k < 4) : ∀ (xs : List (Int × An)) (j : Nat), j < xs.length → (clFlat xs)[j * 4 + k]? = (clVals (clAt xs j))[k]? := by
  intro xs
  induction xs with
  | nil => intro j hj; simp at hj
  | cons x xs ih =>
    intro j hj
    have e : clFlat (x :: xs) = clVals x ++ clFlat xs := rfl
    have l : (clVals x).length = 4 := rfl
    cases j with
    | zero => rw [e, List.getElem?_append_left (by omega), Nat.zero_mul, Nat.zero_add]; rfl
    | succ j =>
      rw [e, List.getElem?_append_right (by omega), l, show (j + 1) * 4 + k - 4 = j * 4 + k by omega, ih j (by simpa using hj)]
      rfl
structure ClsR (W : World) (b off : Nat) (xs : List (Int × An)) : Prop where
  id : ∀ j, j < xs.length → W.cell? ⟨b, off + j * 4, none⟩ = some (.int .i64 (clAt xs j).1)
  seq : ∀ j, j < xs.length → W.cell? ⟨b, off + j * 4 + 1, none⟩ = some (.int .i64 (clAt xs j).2.seq)
  code : ∀ j, j < xs.length → W.cell? ⟨b, off + j * 4 + 2, none⟩ = some (.int .i64 (clAt xs j).2.code)
  at_ : ∀ j, j < xs.length → W.cell? ⟨b, off + j * 4 + 3, none⟩ = some (.int .i64 (clAt xs j).2.at_)
def ClsAt (W : World) (a : Option Addr) (xs : List (Int × An)) : Prop := xs = [] ∨ ∃ b off, a = some ⟨b, off, none⟩ ∧ b < W.heap.size ∧ ClsR W b off xs
theorem ClsAt.grew {W W' : World} {a : Option Addr} {xs : List (Int × An)} (h : ClsAt W a xs) (g : Grew W W') : ClsAt W' a xs := by
  rcases h with h | ⟨b, off, e, hb, h⟩
  · exact .inl h
  · exact .inr ⟨b, off, e, Nat.lt_of_lt_of_le hb g.size, fun j hj => (g.cells.1 _ _ hb).trans (h.id j hj), fun j hj => (g.cells.1 _ _ hb).trans (h.seq j hj), fun j hj => (g.cells.1 _ _ hb).trans (h.code j hj), fun j hj => (g.cells.1 _ _ hb).trans (h.at_ j hj)⟩
theorem clsAt_of {W : World} {B : Nat} {T : TypeId} {v : Value} {xs : List (Int × An)} (h : W.ownsRow B T 4 v xs.length (clFlat xs)) : ∃ a cap, v = .slice a xs.length cap ∧ ClsAt W a xs := by
  rcases Nat.eq_zero_or_pos xs.length with h0 | h0
  · have hx : xs = [] := List.eq_nil_of_length_eq_zero h0
    rcases h.2 with ⟨rfl, _⟩ | ⟨g, cap, cur, rfl, _, hg, _⟩
    · exact ⟨none, 0, by rw [h0], .inl hx⟩
    · exact ⟨_, _, rfl, .inl hx⟩
  · obtain ⟨g, cap, rfl, _, hlt⟩ := h.form h0
    refine ⟨_, _, rfl, .inr ⟨g, 0, rfl, hlt, ?_, ?_, ?_, ?_⟩⟩ <;> intro j hj
    · have := h.cellAt (j * 4 + 0) (by omega); rw [clFlat_get 0 (by omega) xs j hj] at this; rw [Nat.zero_add]; exact this
    · have := h.cellAt (j * 4 + 1) (by omega); rw [clFlat_get 1 (by omega) xs j hj] at this; rw [Nat.zero_add]; exact this
    · have := h.cellAt (j * 4 + 2) (by omega); rw [clFlat_get 2 (by omega) xs j hj] at this; rw [Nat.zero_add]; exact this
    · have := h.cellAt (j * 4 + 3) (by omega); rw [clFlat_get 3 (by omega) xs j hj] at this; rw [Nat.zero_add]; exact this
theorem info_cl : (Tryz.prog.info? 137).map (fun i => (i.zero, i.size, i.bytes)) = some (some (.agg #[.int .i64 0, .int .i64 0, .int .i64 0, .int .i64 0]), 4, 32) := by kernel_rfl
theorem run_append_cl {w : World} {B : Nat} {v : Value} {m : Nat} {xs : List (Int × An)} (hown : w.ownsRow B 137 4 v m (clFlat xs)) (kb : Nat) (x : Int × An) (hk : ∀ j u, (clVals x)[j]? = some u → w.cell? ⟨kb, j, none⟩ = some u) (hbig : m ≤ 1000000) (hB : B ≤ w.heap.size) (ty : TypeId) :
    ∃ v' w', (Builtin.append_ #[34, 34] ty #[v, .slice (some ⟨kb, 0, none⟩) 1 1]).run Tryz.prog w = .ok v' w' ∧ w'.ownsRow B 137 4 v' (m + 1) (clFlat (xs ++ [x])) ∧ w.grownBy w' v.ownBlock ∧ ∀ g, v'.ownBlock = some g → v.ownBlock = some g ∨ g = w.heap.size := by
  obtain ⟨i0, hi0, hz0, hz1, hz2⟩ := info_parts info_cl
  obtain ⟨g, cap2, w2, h1, h2, h3, h4, h5⟩ := run_append_lies (P := Tryz.prog) (w := w) 34 ty B 137 i0 _ 4 32 Tryz.underlying34 hi0 hz0 hz1 hz2 rfl (by omega) v m (clFlat xs) hown ⟨kb, 0, none⟩ 1 1 (clVals x) rfl (fun j u hj => by
    rw [Addr.add_lit, Nat.zero_add]
    exact hk j u hj) (fun u hu => by simp [clVals] at hu; rcases hu with rfl | rfl | rfl | rfl <;> rfl) (by omega) (by unfold maxLen; omega) (by omega) hB _ rfl
  refine ⟨_, w2, h1, ?_, h3, fun g' hg' => by
    have : g' = g := by simpa [Value.ownBlock] using hg'.symm
    subst this; exact h4⟩
  have e : clFlat (xs ++ [x]) = clFlat xs ++ clVals x := by simp [clFlat]
  rw [e]
  exact h2
end Go.Proofs.YtoiahcgaffffbaaGreatDoor
