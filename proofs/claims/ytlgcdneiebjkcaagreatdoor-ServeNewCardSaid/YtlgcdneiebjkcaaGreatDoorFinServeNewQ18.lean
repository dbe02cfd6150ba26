/- Laid, Fin19sv, Fin19svc: one text. -/
import Derived.Test.YtlgcdneiebjkcaaGreatDoorFinServeNewQ4
import Derived.Stop.LaidErr
import Derived.Test.YtlgcdneiebjkcaaGreatDoorCards
import Derived.Test.YtlgcdneiebjkcaaGreatDoorTie
import Derived.ProofKit
import Derived.OpenShut
import Derived.ShutString
import Derived.LaidMore
import Derived.Stop.Joined
import Derived.Lib.SmallJoins
namespace Go.Proofs.YtlgcdneiebjkcaaGreatDoor
open Go.RowKit
theorem laid_sents {P : Program} {W : World} {nm : String} {ti tp te ts : TypeId} {ms : Array (String × TypeId)} {f : Field}
    (hi : P.underlying ti = some (.interface ms)) (hrow : ∀ u, P.typeName? 3 u = some nm → u = tp)
    (hp : P.underlying tp = some (.pointer te)) (he : P.underlying te = some (.struct #[f])) (hft : f.type = ts) (hfo : f.offset = 0) (hs : P.underlying ts = some .string) (hc : P.cellsOf te = 1) (hcs : P.cellsOf ts = 1) :
    ∀ (L : List (String × DataW Unit)) (gs : List Nat) (ps : List MemPlace), (∀ x ∈ L, ∃ text, x.2 = .iface nm (.ptr (.agg [.lit (.string text)]))) → L.map (fun x => P.globalNamed x.1) = gs.map some →
      (∀ g ∈ gs, (P.globals[g]?).map (·.type) = some ti) → DataW.LaidVars P W L ps → ps.Nodup →
      (∀ b off, MemPlace.cell b off ∈ ps → (∃ c t, W.heap[b]? = some (.cells c t (0, 0))) ∧ ∀ u v, W.cell? ⟨b, off, none⟩ = some (.iface u v) → Value.okWide P W .any 0 u v) →
      ∃ ads : List Addr, ads.length = gs.length ∧ (∀ (i g : Nat) (a : Addr), gs[i]? = some g → ads[i]? = some a → W.cell? ⟨g, 0, none⟩ = some (.iface tp (.pointer (some a))) ∧ ∃ c t, W.heap[a.block]? = some (.cells c t (0, 0))) ∧
        (∀ a ∈ ads, MemPlace.cell a.block a.off ∈ ps) ∧ ads.Nodup := by
  intro L
  induction L with
  | nil =>
    intro gs ps _ hg _ _ _ _
    cases gs with
    | nil => exact ⟨[], rfl, by simp, by simp, List.nodup_nil⟩
    | cons g r => simp at hg
  | cons x L ih =>
    intro gs ps hsh hg ht hL hnd hrows
    obtain ⟨n, d⟩ := x
    cases gs with
    | nil => simp at hg
    | cons g gs =>
      simp only [List.map_cons, List.cons.injEq] at hg
      obtain ⟨hg0, hg1⟩ := hg
      obtain ⟨g0, t0, cs0, f0, p0, q0, hg0', ht0', hv0, hd0, hrest, rfl⟩ := hL
      obtain rfl := Option.some.inj (hg0.symm.trans hg0')
      obtain rfl := Option.some.inj ((ht g (by simp)).symm.trans ht0')
      obtain ⟨text, htext⟩ := hsh (n, d) (by simp)
      simp only at htext
      subst htext
      obtain ⟨l0⟩ := cs0
      have ok0 : ∀ u v, l0 = [.iface u v] → Value.okWide P W .any 0 u v := fun u v e => by
        subst e
        exact (hrows g 0 (by simp [MemPlace.row])).2 u v (by simpa using World.var?_cell hg0' hv0 0)
      obtain ⟨a0, s0, rfl, hc0, hs0, hz0, rfl⟩ := errorString_of_trod hi hrow hp he hft hfo hs hc hcs hd0 ok0
      have hnd2 : q0.Nodup := List.Nodup.sublist (List.sublist_append_right _ _) hnd
      obtain ⟨ads, h1, h2, h3, h4⟩ := ih gs q0 (fun x hx => hsh x (List.mem_cons_of_mem _ hx)) hg1 (fun g' hg' => ht g' (List.mem_cons_of_mem _ hg')) hrest hnd2
        (fun b off hm => hrows b off (List.mem_append_right _ hm))
      refine ⟨a0 :: ads, by simp [h1], ?_, ?_, ?_⟩
      · intro i g' a hgi hai
        cases i with
        | zero =>
          simp at hgi hai
          subst hgi hai
          exact ⟨by simpa using World.var?_cell hg0' hv0 0, (hrows a0.block a0.off (by simp [MemPlace.row])).1⟩
        | succ i => exact h2 i g' a (by simpa using hgi) (by simpa using hai)
      · intro a ha
        rcases List.mem_cons.1 ha with rfl | ha
        · simp [MemPlace.row]
        · exact List.mem_append_right _ (h3 a ha)
      · refine List.nodup_cons.2 ⟨fun hm => ?_, h4⟩
        have hd := (List.nodup_append.1 hnd).2.2 (MemPlace.cell a0.block a0.off) (by simp [MemPlace.row]) (MemPlace.cell a0.block a0.off) (h3 a0 hm)
        exact hd rfl
theorem star_name : "*" ++ "errors.errorString" = "*errors.errorString" := by decide +kernel
theorem row_error (u : TypeId) (h : Tryz.prog.typeName? 3 u = some "*errors.errorString") : u = 476 :=
  typeName_ptr_named (nm := "errors.errorString") (by rw [star_name]; kernel_rfl) (by kernel_rfl) (by decide) u (by rw [star_name]; exact h)
theorem cells_errorString : Tryz.prog.cellsOf 508 = 1 := by kernel_rfl
theorem cells_string : Tryz.prog.cellsOf 9 = 1 := by kernel_rfl
theorem errs_of_laid (L : List (String × DataW Unit)) (ks : List Nat) (S : Nat → Bool) (hS : ∀ k, S k = true → k ∈ ks) (h0 : S 0 = false) {W : World}
    (hsh : ∀ x ∈ L, ∃ text, x.2 = .iface "*errors.errorString" (.ptr (.agg [.lit (.string text)]))) (hg : L.map (fun x => Tryz.prog.globalNamed x.1) = (ks.map gvar).map some)
    (ht : ∀ g ∈ ks.map gvar, (Tryz.prog.globals[g]?).map (·.type) = some 25) (h : laidMet Tryz.prog L W) : ∃ E, Errs S E W := by
  obtain ⟨ps, hL, hnd, hrows⟩ := h
  obtain ⟨ads, h1, h2, _, h4⟩ := laid_sents (P := Tryz.prog) (W := W) Tryz.underlying25 row_error Tryz.underlying476 Tryz.underlying508 rfl rfl Tryz.underlying9 cells_errorString cells_string L (ks.map gvar) ps hsh hg ht hL hnd hrows
  have get : ∀ k, k ∈ ks → ∃ a, ads[ks.idxOf k]? = some a ∧ (ks.map gvar)[ks.idxOf k]? = some (gvar k) ∧ ads.getD (ks.idxOf k) default = a := by
    intro k hk
    have hlt : ks.idxOf k < ks.length := List.idxOf_lt_length_iff.2 hk
    have hl : ks.idxOf k < ads.length := by rw [h1]; simpa using hlt
    refine ⟨ads[ks.idxOf k], List.getElem?_eq_getElem hl, ?_, ?_⟩
    · rw [List.getElem?_map, List.getElem?_eq_getElem hlt, List.getElem_idxOf hlt]; rfl
    · rw [List.getD_eq_getElem?_getD, List.getElem?_eq_getElem hl]; rfl
  refine ⟨fun k => ads.getD (ks.idxOf k) default, h0, ?_, ?_, ?_⟩
  · intro k hk
    obtain ⟨a, ha, hgv, e⟩ := get k (hS k hk)
    rw [e]
    exact (h2 _ _ _ hgv ha).1
  · intro k hk
    obtain ⟨a, ha, hgv, e⟩ := get k (hS k hk)
    rw [e]
    exact (h2 _ _ _ hgv ha).2
  · intro j k hj hk hne
    obtain ⟨a, ha, _, e⟩ := get j (hS j hj)
    obtain ⟨b, hb, _, e'⟩ := get k (hS k hk)
    show ads.getD (ks.idxOf j) default ≠ ads.getD (ks.idxOf k) default
    rw [e, e']
    rintro rfl
    obtain ⟨hl1, g1⟩ := List.getElem?_eq_some_iff.1 ha
    obtain ⟨hl2, g2⟩ := List.getElem?_eq_some_iff.1 hb
    have hi := List.pairwise_iff_getElem.1 h4
    have hij : ks.idxOf j = ks.idxOf k := by
      refine Classical.byContradiction fun hn => ?_
      rcases Nat.lt_or_gt_of_ne hn with hlt2 | hlt2
      · exact hi _ _ hl1 hl2 hlt2 (g1.trans g2.symm)
      · exact hi _ _ hl2 hl1 hlt2 (g2.trans g1.symm)
    have hj' : ks.idxOf j < ks.length := List.idxOf_lt_length_iff.2 (hS j hj)
    have hk' : ks.idxOf k < ks.length := List.idxOf_lt_length_iff.2 (hS k hk)
    have e1 := List.getElem_idxOf hj'
    have e2 := List.getElem_idxOf hk'
    simp only [hij] at e1
    exact hne (e1.symm.trans e2)
end Go.Proofs.YtlgcdneiebjkcaaGreatDoor
namespace Go.Proofs.YtlgcdneiebjkcaaGreatDoor.finsrv
open Go.ChangeShapes Go.WideShapes Go.ChangeAt Go.RowKit
theorem own : ownKnob Tryz.prog.godebug = none := by kernel_rfl
theorem laidOut : laidOutB Tryz.prog = true := by kernel_rfl
theorem laid_met (os : Os) (args : Array Value) : laidMetH Tryz.prog Rows.serveNewRow.laid ((World.doorLaid Tryz.prog 400 os).forCall (fun _ _ => 0) ⟨#[], args, []⟩).memory :=
  laidMet_of_run' 8 (by kernel_rfl) (by kernel_rfl)
theorem errs {W : World} (h : laidMetH Tryz.prog Rows.serveNewRow.laid W) : ∃ E, Errs allS E W := by
  have h' : laidMet Tryz.prog Rows.serveNewRow.laid W := h
  exact errs_of_laid Rows.serveNewRow.laid [1, 2, 3, 4, 5, 6, 7, 8, 9, 10, 11, 12, 13, 14, 15, 16, 17, 18, 19] allS
    (fun k hk => by simp only [allS, Bool.and_eq_true, decide_eq_true_eq] at hk; simp only [List.mem_cons, List.not_mem_nil, or_false]; omega) rfl
    (by simp only [Rows.serveNewRow, List.forall_mem_cons]; exact ⟨⟨_, rfl⟩, ⟨_, rfl⟩, ⟨_, rfl⟩, ⟨_, rfl⟩, ⟨_, rfl⟩, ⟨_, rfl⟩, ⟨_, rfl⟩, ⟨_, rfl⟩, ⟨_, rfl⟩, ⟨_, rfl⟩, ⟨_, rfl⟩, ⟨_, rfl⟩, ⟨_, rfl⟩, ⟨_, rfl⟩, ⟨_, rfl⟩, ⟨_, rfl⟩, ⟨_, rfl⟩, ⟨_, rfl⟩, ⟨_, rfl⟩, by simp⟩)
    (by kernel_rfl) (by simp only [List.map_cons, List.map_nil, List.forall_mem_cons]; refine ⟨?_, ?_, ?_, ?_, ?_, ?_, ?_, ?_, ?_, ?_, ?_, ?_, ?_, ?_, ?_, ?_, ?_, ?_, ?_, by simp⟩ <;> kernel_rfl) h'
end Go.Proofs.YtlgcdneiebjkcaaGreatDoor.finsrv
set_option linter.unusedVariables false
namespace Go.Proofs.YtlgcdneiebjkcaaGreatDoor.finsrv
open Go
theorem and_split {a b : Bool} (h1 : a = true) (h2 : b = true) : (a && b) = true := by rw [h1, h2]; rfl
set_option maxHeartbeats 4000000 in
theorem closed : joinedFacts Tryz.pinned.checked.prog 3 Tryz.f3 Rows.serveNewSpec Rows.serveNewRow = true := by
  unfold joinedFacts
  iterate 31 (refine and_split ?_ (by as_aux_lemma => kernel_rfl))
  kernel_rfl
end Go.Proofs.YtlgcdneiebjkcaaGreatDoor.finsrv
