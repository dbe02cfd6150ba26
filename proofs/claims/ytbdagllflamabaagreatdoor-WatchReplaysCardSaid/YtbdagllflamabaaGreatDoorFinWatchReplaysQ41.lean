/- Aud11, AudJ: one text. -/
import Derived.Test.YtbdagllflamabaaGreatDoorFinWatchReplaysQ40
import Derived.Test.YtbdagllflamabaaGreatDoorFinWatchReplaysQ38
set_option linter.unusedVariables false
set_option linter.unusedSectionVars false
set_option linter.unusedSimpArgs false
namespace Go.Proofs.YtbdagllflamabaaGreatDoor
open Go.RowKit Go.Maps
section
variable {W W' : World} {L L' : Nat → Nat} {k ab sb mb nb n n' : Nat} {f : Lit → Option Value} {st : Nat → Nat} {A : AuP}
theorem AuIs.rebuilt (h : AuIs W L k ab sb mb nb n f st A) {T : Nat → Prop} (hO : Only T W W') (hT : ∀ j, j < W.heap.size → T j → L j ≠ k ∧ L j ≠ k + 2) (hn : n ≤ n') (hL : ∀ j, j < W.heap.size → L' j = L j) {s' : ShSt} {f' : Lit → Option Value} {st' : Nat → Nat} {D : Nat → Option (List Pr × (Int → Option An))}
    (hsh : ∃ F, ShAt W' F sb s' ∧ ∀ j, F j → L' j = k + 3) (hlm : ∃ m, m ≤ n' ∧ LMap W' Tryz.prog 3 mb m f')
    (hval : ∀ i : Nat, f' (clit i) = (D i).map fun _ => .pointer (some ⟨st' i, 0, none⟩)) (hlit : ∀ l, f' l ≠ none → ∃ i : Nat, l = clit i)
    (hst : ∀ i P S, D i = some (P, S) → i ≤ 12 ∧ ∃ c ∈ s'.xs, c.id = (i : Int) ∧ ∃ Ft Fs m, m ≤ n' ∧ StAt W' Ft Fs (st' i) m c.lo c.hi P S ∧ ∀ j, BlS Ft Fs (st' i) j → L' j = k + 20 + i) : AuIs W' L' k ab sb mb nb n' f' st' ⟨A.at_, s', D⟩ := by
  have hab := h.ablt
  obtain ⟨m1, e1, h1⟩ := h.lm
  obtain ⟨fa, m2, e2, h2⟩ := h.la
  have tab : ¬ T ab := fun t => (hT ab hab t).1 h.lab
  have tnb : ¬ T nb := fun t => (hT nb h2.lt t).2 h.lnb
  exact ⟨(hO.cell hab tab 0).trans h.c0, (hO.cell hab tab 1).trans h.c1, (hO.cell hab tab 2).trans h.c2, (hO.cell hab tab 3).trans h.c3, fun q => (hO.frozen hab tab q).trans (h.fz q), (hL ab hab).trans h.lab, (hL mb h1.lt).trans h.lmb, (hL nb h2.lt).trans h.lnb, hsh, hlm, hval, hlit, ⟨fa, m2, by omega, h2.kept hO tnb⟩, hst⟩
theorem AuIs.other (h : AuIs W L k ab sb mb nb n f st A) {T : Nat → Prop} (hO : Only T W W') (hL : ∀ j, j < W.heap.size → L' j = L j) {q : Nat} (hT : ∀ j, j < W.heap.size → T j → L j ≠ k + 20 + q) (hn : n ≤ n') {P : List Pr} {S : Int → Option An} (hq : A.st q = some (P, S)) :
    q ≤ 12 ∧ ∃ c ∈ A.sh.xs, c.id = (q : Int) ∧ ∃ Ft Fs m, m ≤ n' ∧ StAt W' Ft Fs (st q) m c.lo c.hi P S ∧ ∀ j, BlS Ft Fs (st q) j → L' j = k + 20 + q := by
  obtain ⟨i12, c, hc, hcid, Ft, Fs, m, hm, hS, hB⟩ := h.states q P S hq
  have ha := hS.all
  have hn' : ∀ j, BlS Ft Fs (st q) j → ¬ T j := fun j hj t => hT j (ha j hj) t (hB j hj)
  exact ⟨i12, c, hc, hcid, Ft, Fs, m, by omega, hS.kept hO (fun x hx => hn' x (.inl hx)) (fun x hx => hn' x (.inr (.inl hx))) (hn' _ (.inr (.inr rfl))), fun x hx => (hL x (ha x hx)).trans (hB x hx)⟩
theorem AuIs.shards (h : AuIs W L k ab sb mb nb n f st A) : ∃ F, ShAt W F sb A.sh ∧ ∀ j, F j → L j = k + 3 := h.sh
theorem AuIs.moved (h : AuIs W L k ab sb mb nb n f st A) {F F' : Nat → Prop} (hF : ∀ j, F j → L j = k + 3) (hO : Only F W W') {e : En} {at' : Int} (k2 : e.kind = 2) {i : Nat} (hi : i < A.sh.xs.length) (hiO : Pl.iOf A.sh.xs e = i) (hS : ShAt W' F' sb (Pl.doneP A.sh e at')) (hF' : ∀ j, F' j → F j ∨ W.heap.size ≤ j) (hL : ∀ j, j < W.heap.size → L' j = L j) (hN : ∀ j, W.heap.size ≤ j → L' j = k + 3) (hlt : ∀ j, F j → j < W.heap.size) :
    AuIs W' L' k ab sb mb nb n f st ⟨A.at_, Pl.doneP A.sh e at', A.st⟩ := by
  obtain ⟨m1, e1, h1⟩ := h.lm
  refine h.rebuilt hO (fun j _ t => by rw [hF j t]; omega) (Nat.le_refl _) hL ⟨F', hS, fun j hj => ?_⟩ ⟨m1, e1, h1.kept hO fun t => by have := hF mb t; have := h.lmb; omega⟩ h.val h.lit fun q P S hq => ?_
  · rcases hF' j hj with t | t
    · rw [hL j (hlt j t), hF j t]
    · exact hN j t
  · obtain ⟨i12, c, hc, hcid, rest⟩ := h.other hO hL (q := q) (fun j _ t => by rw [hF j t]; omega) (Nat.le_refl _) hq
    obtain ⟨kk, hkk, rfl⟩ := Pl.mem_idx hc
    have ex : (Pl.doneP A.sh e at').xs = A.sh.xs.set i ⟨(shAt A.sh.xs i).id, e.server, (shAt A.sh.xs i).since, (shAt A.sh.xs i).lo, (shAt A.sh.xs i).hi⟩ := by
      unfold Pl.doneP; rw [if_pos k2, hiO]
    refine ⟨i12, shAt (Pl.doneP A.sh e at').xs kk, ?_, ?_, ?_⟩
    · rw [ex]; exact Pl.mem_at (by rw [List.length_set]; exact hkk)
    · rw [ex, Pl.shAt_set _ _ hi]
      by_cases e2 : kk = i
      · rw [if_pos e2, ← hcid, e2]
      · rw [if_neg e2]; exact hcid
    · rw [ex, Pl.shAt_set _ _ hi]
      by_cases e2 : kk = i
      · rw [if_pos e2]; subst e2; exact rest
      · rw [if_neg e2]; exact rest
end
open Classical in
theorem AuIs.split {W V W' : World} {L : Nat → Nat} {k ab sb mb nb n : Nat} {f : Lit → Option Value} {st : Nat → Nat} {A : AuP} {m0 : Nat} (h : AuIs W L k ab sb mb nb n f st A) (hOk : AuOk A m0) {F F' : Nat → Prop} (hF : ∀ j, F j → L j = k + 3) (hlt : ∀ j, F j → j < W.heap.size) (hO : Only F W V) {e : En} {at' : Int} (ha : Pl.applyB A.sh.xs A.sh.used e at' = true) (k3 : e.kind = 3)
    (hS : ShAt V F' sb (Pl.doneP A.sh e at')) (hF' : ∀ j, F' j → F j ∨ W.heap.size ≤ j) {P : List Pr} {S : Int → Option An} (hst : A.st e.shard.toNat = some (P, S)) {c : Sh} (hc : c ∈ A.sh.xs) (hcid : c.id = (e.shard.toNat : Int)) {Ft Fs : Nat → Prop} {m n1 : Nat} (hm : m ≤ n) (hn1 : n1 ≤ n) (hB : ∀ j, BlS Ft Fs (st e.shard.toNat) j → L j = k + 20 + e.shard.toNat) (hBlt : ∀ j, BlS Ft Fs (st e.shard.toNat) j → j < W.heap.size)
    (hC : ChgSplit V Ft Fs (st e.shard.toNat) mb m n1 f c.lo c.hi e.key P S e.other W') :
    Only (fun j => Kin k (L j)) W W' ∧ ∃ L', (∀ j, j < W.heap.size → L' j = L j) ∧ (∀ j, W.heap.size ≤ j → Kin k (L' j)) ∧ AuAt W' L' k ab (n + 1) ⟨A.at_, Pl.doneP A.sh e at', Pl.changeS A e⟩ := by
  have hcb : Pl.countsB A.sh.xs A.sh.used e = true := by unfold Pl.applyB at ha; simp only [Bool.and_eq_true] at ha; exact ha.1.1
  obtain ⟨hr, i, hi, hf, hiO, hid1, hk⟩ := Pl.counts_kind hcb
  obtain ⟨hu, o1, o2, hh, hne⟩ : A.sh.used e.other.toNat = false ∧ 1 ≤ e.other ∧ e.other ≤ 12 ∧ Pl.hasS (shAt A.sh.xs i).lo (shAt A.sh.xs i).hi e.key = true ∧ e.key.toList ≠ (shAt A.sh.xs i).lo.toList := by
    rcases hk with k2 | ⟨_, q⟩ | ⟨k4, _⟩
    · omega
    · exact q
    · omega
  have hmi := Pl.mem_at hi
  have hids := hOk.inv.ids _ hmi
  have hci : c = shAt A.sh.xs i := by
    rw [← Pl.sh_uniq hOk hc hcid, Pl.sh_uniq hOk hmi (i := e.shard.toNat) (by omega)]
  have hfresh : A.st e.other.toNat = none := by
    cases hx : A.st e.other.toNat with
    | none => rfl
    | some v =>
      obtain ⟨x, hx1, hid⟩ := hOk.back e.other.toNat (by rw [hx]; simp)
      have := (hOk.inv.ids x hx1).2.2
      rw [hid, Int.toNat_natCast, hu] at this
      cases this
  have hso : e.shard.toNat ≠ e.other.toNat := fun e1 => by rw [e1, hfresh] at hst; cases hst
  have es : Pl.changeS A e = updS (updS A.st e.shard.toNat (some (P.take (Pl.cutN P e.key), S))) e.other.toNat (some (P.drop (Pl.cutN P e.key), S)) := by
    unfold Pl.changeS; rw [if_pos k3, hst]
  have ex : (Pl.doneP A.sh e at').xs = Pl.splitM A.sh.xs i e.key e.other e.server at' := by
    unfold Pl.doneP; rw [if_neg (by omega), if_pos k3, hiO]
  obtain ⟨ob, Ft', Go, Gs, hO2, hLM, hS1, hS2, hFt', hob⟩ := hC
  obtain ⟨q, hq⟩ : ∃ q, q = e.shard.toNat := ⟨_, rfl⟩
  obtain ⟨o, ho⟩ : ∃ o, o = e.other.toNat := ⟨_, rfl⟩
  have hoi : e.other = (o : Int) := by omega
  rw [← hq] at hst hcid hB hBlt hO2 hS1 hob hso es
  rw [← ho] at hfresh hso es
  rw [hoi] at hLM
  have hWV := hO.size
  have hVW := hO2.size
  have hlm := h.lmb
  have hmbW : mb < W.heap.size := by obtain ⟨_, _, x⟩ := h.lm; exact x.lt
  obtain ⟨T, hT⟩ : ∃ T : Nat → Prop, T = fun j => F j ∨ BlS Ft Fs (st q) j ∨ j = mb := ⟨_, rfl⟩
  have hOT : Only T W W' := by
    rw [hT]
    refine (hO.mono fun j hj => .inl (.inl hj)).then (hO2.mono fun j hj => .inl ?_)
    rcases hj with t | t | t
    · exact .inr (.inl (.inr (.inr t)))
    · exact .inr (.inl (.inl t))
    · exact .inr (.inr t)
  have hTL : ∀ j, T j → L j = k + 3 ∨ L j = k + 20 + q ∨ L j = k + 1 := fun j hj => by
    rw [hT] at hj
    rcases hj with t | t | t
    · exact .inl (hF j t)
    · exact .inr (.inl (hB j t))
    · exact .inr (.inr (by rw [t]; exact hlm))
  have q12 := (h.states q P S hst).1
  refine ⟨hOT.mono fun j hj => .inl (by unfold Kin; rcases hTL j hj with t | t | t <;> omega), fun j => if j < W.heap.size then L j else if j < V.heap.size then k + 3 else if BlS Go Gs ob j then k + 20 + o else k + 20 + q, fun j hj => if_pos hj, fun j hj => ?_, sb, mb, nb, lset f (clit o) (some (.pointer (some ⟨ob, 0, none⟩))), fun z => if z = o then ob else st z, ?_⟩
  · dsimp only
    rw [if_neg (by omega)]
    unfold Kin
    repeat' split
    all_goals omega
  refine h.rebuilt (n' := n + 1) hOT (fun j _ t => by rcases hTL j t with t | t | t <;> omega) (by omega) (fun j hj => if_pos hj) ⟨F', hS.kept hO2 (fun j hj t => ?_), fun j hj => ?_⟩ ⟨m + 1, by omega, hLM⟩ (fun z => ?_) (fun l hl => ?_) (fun z P2 S2 hz => ?_)
  · -- the map of shards is none of a state's blocks
    have hj' : L j = k + 3 ∧ j < W.heap.size ∨ W.heap.size ≤ j := by
      rcases hF' j hj with t2 | t2
      · exact .inl ⟨hF j t2, hlt j t2⟩
      · exact .inr t2
    have hjm : j < W.heap.size → L j = k + 3 := fun hl => by rcases hj' with a | a; exact a.1; omega
    rcases t with t | t | t
    · have a := hB (st q) (.inr (.inr rfl)); have b := hBlt (st q) (.inr (.inr rfl)); subst t; have := hjm b; omega
    · have a := hB j (.inl t); have b := hBlt j (.inl t); have := hjm b; omega
    · subst t; have := hjm hmbW; omega
  · have hjV := hS.lt j hj
    rcases hF' j hj with t2 | t2
    · rw [if_pos (hlt j t2)]; exact hF j t2
    · rw [if_neg (by omega), if_pos hjV]
  · rw [es]
    by_cases e1 : z = o
    · subst e1; rw [lset_same, updS_same, if_pos rfl]; rfl
    · rw [lset_ne _ _ (fun x => e1 (clit_inj x)), updS_ne _ _ e1, if_neg e1, h.val]
      by_cases e2 : z = q
      · subst e2; rw [updS_same, hst]; rfl
      · rw [updS_ne _ _ e2]
  · by_cases e1 : l = clit o
    · exact ⟨o, e1⟩
    · rw [lset_ne _ _ e1] at hl; exact h.lit l hl
  · rw [es] at hz
    by_cases e1 : z = o
    · subst e1
      rw [updS_same] at hz
      cases hz
      refine ⟨by omega, ⟨e.other, e.server, at' + 1, e.key, (shAt A.sh.xs i).hi⟩, by rw [ex]; unfold Pl.splitM; simp, hoi, Go, Gs, n1, by omega, ?_, fun j hj => ?_⟩
      · rw [if_pos rfl]; rw [hci] at hS2; exact hS2
      · rw [if_pos rfl] at hj
        have := (hob j hj).1
        rw [if_neg (by omega), if_neg (by omega), if_pos hj]
    · rw [updS_ne _ _ e1] at hz
      by_cases e2 : z = q
      · subst e2
        rw [updS_same] at hz
        cases hz
        refine ⟨q12, ⟨(shAt A.sh.xs i).id, (shAt A.sh.xs i).server, at' + 1, (shAt A.sh.xs i).lo, e.key⟩, by rw [ex]; unfold Pl.splitM; simp, by rw [← hcid, hci], Ft', Fs, n1, by omega, ?_, fun j hj => ?_⟩
        · rw [if_neg e1]; rw [hci] at hS1; exact hS1
        · rw [if_neg e1] at hj
          have old : ∀ y, BlS Ft Fs (st z) y → y = j → (if j < W.heap.size then L j else if j < V.heap.size then k + 3 else if BlS Go Gs ob j then k + 20 + o else k + 20 + z) = k + 20 + z := fun y hy e => by
            subst e; rw [if_pos (hBlt y hy)]; exact hB y hy
          rcases hj with t | t | t
          · rcases hFt' j t with t2 | t2
            · exact old j (.inl t2) rfl
            · rw [if_neg (by omega), if_neg (by omega), if_neg (fun x => (hob j x).2 (.inl t))]
          · exact old j (.inr (.inl t)) rfl
          · exact old j (.inr (.inr t)) rfl
      · rw [updS_ne _ _ e2] at hz
        rw [if_neg e1]
        obtain ⟨i12, x, hx, hxid, rest⟩ := h.other (n' := n + 1) (L' := fun j => if j < W.heap.size then L j else if j < V.heap.size then k + 3 else if BlS Go Gs ob j then k + 20 + o else k + 20 + q) hOT (fun j hj => if_pos hj) (q := z) (fun j _ t => by rcases hTL j t with t | t | t <;> omega) (by omega) hz
        obtain ⟨kk, hkk, rfl⟩ := Pl.mem_idx hx
        have hki : kk ≠ i := fun e3 => e2 (by rw [e3, hid1] at hxid; omega)
        exact ⟨i12, _, by rw [ex]; exact Pl.split_mem hkk hki, hxid, rest⟩
theorem AuIs.merge {W V W' : World} {L : Nat → Nat} {k ab sb mb nb n : Nat} {f : Lit → Option Value} {st : Nat → Nat} {A : AuP} {m0 : Nat} (h : AuIs W L k ab sb mb nb n f st A) (hOk : AuOk A m0) {F F' : Nat → Prop} (hF : ∀ j, F j → L j = k + 3) (hlt : ∀ j, F j → j < W.heap.size) (hO : Only F W V) {e : En} {at' : Int} (ha : Pl.applyB A.sh.xs A.sh.used e at' = true) (k4 : e.kind = 4)
    (hS : ShAt V F' sb (Pl.doneP A.sh e at')) (hF' : ∀ j, F' j → F j ∨ W.heap.size ≤ j) {P Q : List Pr} {S T : Int → Option An} (hst : A.st e.shard.toNat = some (P, S)) (hsu : A.st e.other.toNat = some (Q, T)) {c d : Sh} (hc : c ∈ A.sh.xs) (hcid : c.id = (e.shard.toNat : Int)) (hd : d ∈ A.sh.xs) (hdid : d.id = (e.other.toNat : Int)) {Ft Fs : Nat → Prop} {m n1 : Nat} (hm : m ≤ n) (hn1 : n1 ≤ n) (hB : ∀ j, BlS Ft Fs (st e.shard.toNat) j → L j = k + 20 + e.shard.toNat) (hBlt : ∀ j, BlS Ft Fs (st e.shard.toNat) j → j < W.heap.size)
    (hC : ChgMerge V Ft Fs (st e.shard.toNat) mb m n1 f (Pl.joinV (Pl.rightS c.lo c.hi) (Pl.rightS d.lo d.hi) c.lo c.hi d.lo d.hi) (Pl.joinP c d P Q) (joinL S (clients T)) e.other W') :
    Only (fun j => Kin k (L j)) W W' ∧ ∃ L', (∀ j, j < W.heap.size → L' j = L j) ∧ (∀ j, W.heap.size ≤ j → Kin k (L' j)) ∧ AuAt W' L' k ab (n + 4) ⟨A.at_, Pl.doneP A.sh e at', Pl.changeS A e⟩ := by
  have hcb : Pl.countsB A.sh.xs A.sh.used e = true := by unfold Pl.applyB at ha; simp only [Bool.and_eq_true] at ha; exact ha.1.1
  obtain ⟨hr, i, hi, hf, hiO, hid1, hk⟩ := Pl.counts_kind hcb
  obtain ⟨jj, hj, hfj, hjO, hid2, hz⟩ : ∃ j, j < A.sh.xs.length ∧ Pl.findM A.sh.xs e.other = (j : Nat) ∧ Pl.jOf A.sh.xs e = j ∧ (shAt A.sh.xs j).id = e.other ∧ Pl.joinE (Pl.rightS (shAt A.sh.xs i).lo (shAt A.sh.xs i).hi) (Pl.rightS (shAt A.sh.xs j).lo (shAt A.sh.xs j).hi) (shAt A.sh.xs i).lo (shAt A.sh.xs i).hi (shAt A.sh.xs j).lo (shAt A.sh.xs j).hi = 0 := by
    rcases hk with k2 | ⟨k3, _⟩ | ⟨_, q⟩
    · omega
    · omega
    · exact q
  clear hk
  have hrs := (Pl.right_merge hr k4).2.2.2.2
  have hmi := Pl.mem_at hi
  have hmj := Pl.mem_at hj
  have hidi := hOk.inv.ids _ hmi
  have hidj := hOk.inv.ids _ hmj
  have hij : i ≠ jj := fun e1 => hrs (by rw [← hid1, ← hid2, e1])
  have hsc : Pl.shOf A e.shard.toNat = c := Pl.sh_uniq hOk hc hcid
  have hsd : Pl.shOf A e.other.toNat = d := Pl.sh_uniq hOk hd hdid
  have hci : c = shAt A.sh.xs i := by rw [← hsc, Pl.sh_uniq hOk hmi (i := e.shard.toNat) (by omega)]
  have hdj : d = shAt A.sh.xs jj := by rw [← hsd, Pl.sh_uniq hOk hmj (i := e.other.toNat) (by omega)]
  have hso : e.shard.toNat ≠ e.other.toNat := fun e1 => hrs (by omega)
  have es : Pl.changeS A e = updS (updS A.st e.shard.toNat (some (Pl.joinP c d P Q, joinL S (clients T)))) e.other.toNat none := by
    unfold Pl.changeS; rw [if_neg (by omega), if_pos k4, hst, hsu]
    dsimp only
    rw [hsc, hsd]
  have ex : (Pl.doneP A.sh e at').xs = Pl.mergeM A.sh.xs i jj (Pl.joinV (Pl.rightS c.lo c.hi) (Pl.rightS d.lo d.hi) c.lo c.hi d.lo d.hi) at' := by
    unfold Pl.doneP; rw [if_neg (by omega), if_neg (by omega), hiO, hjO, hci, hdj]
  generalize Pl.joinV (Pl.rightS c.lo c.hi) (Pl.rightS d.lo d.hi) c.lo c.hi d.lo d.hi = vv at *
  obtain ⟨Ft', n', hn', hO2, hLM, hS1, hFt'⟩ := hC
  obtain ⟨q, hq⟩ : ∃ q, q = e.shard.toNat := ⟨_, rfl⟩
  obtain ⟨o, ho⟩ : ∃ o, o = e.other.toNat := ⟨_, rfl⟩
  have hoi : e.other = (o : Int) := by omega
  rw [← hq] at hst hcid hB hBlt hO2 hS1 hso es
  rw [← ho] at hsu hso es
  rw [hoi] at hLM
  have hWV := hO.size
  have hVW := hO2.size
  have hlm := h.lmb
  have hmbW : mb < W.heap.size := by obtain ⟨_, _, x⟩ := h.lm; exact x.lt
  obtain ⟨T', hT⟩ : ∃ T' : Nat → Prop, T' = fun j => F j ∨ BlS Ft Fs (st q) j ∨ j = mb := ⟨_, rfl⟩
  have hOT : Only T' W W' := by
    rw [hT]
    refine (hO.mono fun j hj => .inl (.inl hj)).then (hO2.mono fun j hj => .inl (.inr hj))
  have hTL : ∀ j, T' j → L j = k + 3 ∨ L j = k + 20 + q ∨ L j = k + 1 := fun j hj => by
    rw [hT] at hj
    rcases hj with t | t | t
    · exact .inl (hF j t)
    · exact .inr (.inl (hB j t))
    · exact .inr (.inr (by rw [t]; exact hlm))
  have q12 := (h.states q P S hst).1
  refine ⟨hOT.mono fun j hj => .inl (by unfold Kin; rcases hTL j hj with t | t | t <;> omega), fun j => if j < W.heap.size then L j else if j < V.heap.size then k + 3 else k + 20 + q, fun j hj => if_pos hj, fun j hj => ?_, sb, mb, nb, lset f (clit o) none, st, ?_⟩
  · dsimp only
    rw [if_neg (by omega)]
    unfold Kin
    repeat' split
    all_goals omega
  refine h.rebuilt (n' := n + 4) hOT (fun j _ t => by rcases hTL j t with t | t | t <;> omega) (by omega) (fun j hj => if_pos hj) ⟨F', hS.kept hO2 (fun j hj t => ?_), fun j hj => ?_⟩ ⟨m, by omega, hLM⟩ (fun z => ?_) (fun l hl => ?_) (fun z P2 S2 hz => ?_)
  · have hj' : L j = k + 3 ∧ j < W.heap.size ∨ W.heap.size ≤ j := by
      rcases hF' j hj with t2 | t2
      · exact .inl ⟨hF j t2, hlt j t2⟩
      · exact .inr t2
    have hjm : j < W.heap.size → L j = k + 3 := fun hl => by rcases hj' with a | a; exact a.1; omega
    rcases t with t | t
    · have a := hB j t; have b := hBlt j t; have := hjm b; omega
    · subst t; have := hjm hmbW; omega
  · have hjV := hS.lt j hj
    rcases hF' j hj with t2 | t2
    · rw [if_pos (hlt j t2)]; exact hF j t2
    · rw [if_neg (by omega), if_pos hjV]
  · rw [es]
    by_cases e1 : z = o
    · subst e1; rw [lset_same, updS_same]; rfl
    · rw [lset_ne _ _ (fun x => e1 (clit_inj x)), updS_ne _ _ e1, h.val]
      by_cases e2 : z = q
      · subst e2; rw [updS_same, hst]; rfl
      · rw [updS_ne _ _ e2]
  · by_cases e1 : l = clit o
    · exact ⟨o, e1⟩
    · rw [lset_ne _ _ e1] at hl; exact h.lit l hl
  · rw [es] at hz
    by_cases e1 : z = o
    · subst e1
      rw [updS_same] at hz
      cases hz
    · rw [updS_ne _ _ e1] at hz
      by_cases e2 : z = q
      · subst e2
        rw [updS_same] at hz
        cases hz
        refine ⟨q12, _, by rw [ex]; exact Pl.merge_mem hi (k := i) hi hij, by rw [if_pos rfl]; dsimp only; rw [← hcid, hci], Ft', Fs, n', by omega, by rw [if_pos rfl]; exact hS1, fun j hj => ?_⟩
        have old : ∀ y, BlS Ft Fs (st z) y → y = j → (if j < W.heap.size then L j else if j < V.heap.size then k + 3 else k + 20 + z) = k + 20 + z := fun y hy e => by
          subst e; rw [if_pos (hBlt y hy)]; exact hB y hy
        rcases hj with t | t | t
        · rcases hFt' j t with t2 | t2
          · exact old j (.inl t2) rfl
          · rw [if_neg (by omega), if_neg (by omega)]
        · exact old j (.inr (.inl t)) rfl
        · exact old j (.inr (.inr t)) rfl
      · rw [updS_ne _ _ e2] at hz
        obtain ⟨i12, x, hx, hxid, rest⟩ := h.other (n' := n + 4) (L' := fun j => if j < W.heap.size then L j else if j < V.heap.size then k + 3 else k + 20 + q) hOT (fun j hj => if_pos hj) (q := z) (fun j _ t => by rcases hTL j t with t | t | t <;> omega) (by omega) hz
        obtain ⟨kk, hkk, rfl⟩ := Pl.mem_idx hx
        have hki : kk ≠ i := fun e3 => e2 (by rw [e3, hid1] at hxid; omega)
        have hkj : kk ≠ jj := fun e3 => e1 (by rw [e3, hid2] at hxid; omega)
        have := Pl.merge_mem (v := vv) (at' := at') hi (j := jj) (k := kk) hkk hkj
        rw [if_neg hki] at this
        exact ⟨i12, _, by rw [ex]; exact this, hxid, rest⟩
end Go.Proofs.YtbdagllflamabaaGreatDoor
namespace Go.Proofs.YtbdagllflamabaaGreatDoor
namespace Pl
theorem join_srt {lo mid hi : ByteArray} {P Q : List Pr} (hP : InS lo mid P) (hQ : InS mid hi Q) (sP : Srt P) (sQ : Srt Q) (hm : none0 mid = false) : Srt (P ++ Q) := by
  refine ⟨fun c hc => ?_, List.pairwise_append.2 ⟨sP.rise, sQ.rise, fun a ha b hb => ?_⟩⟩
  · rcases List.mem_append.1 hc with q | q
    · exact sP.key c q
    · exact sQ.key c q
  · obtain ⟨r1, k1, _, l1⟩ := has_right (hP a ha)
    obtain ⟨r2, k2, g2, _⟩ := has_right (hQ b hb)
    have om := ok_end (right_parts r2).1
    unfold lessB at l1
    rw [hm, Bool.false_or, decide_eq_true_eq] at l1
    by_cases e : compare b.key mid = 0
    · rw [compare_zero (ok_isKey k2) om e]; exact l1
    · have e2 := compare_swap om (ok_isKey k2)
      have : compare mid b.key < 0 := by
        have := compare_swap (ok_isKey k2) om
        omega
      exact compare_trans (ok_isKey k1) om (ok_isKey k2) l1 this
theorem joinP_ok {c d : Sh} {P Q : List Pr} (hP : InS c.lo c.hi P) (hQ : InS d.lo d.hi Q) (sP : Srt P) (sQ : Srt Q) (r1 : rightS c.lo c.hi = true) (r2 : rightS d.lo d.hi = true) (hz : joinE (rightS c.lo c.hi) (rightS d.lo d.hi) c.lo c.hi d.lo d.hi = 0) : Srt (joinP c d P Q) ∧ (joinP c d P Q).Perm (P ++ Q) := by
  unfold joinP
  unfold joinE at hz
  rw [if_neg (by rw [r1, r2]; simp)] at hz
  by_cases h1 : none0 c.hi = false ∧ c.hi.toList = d.lo.toList
  · rw [if_pos h1]
    have e := toList_inj h1.2
    rw [← e] at hQ
    exact ⟨join_srt hP hQ sP sQ h1.1, List.Perm.refl _⟩
  · rw [if_neg h1] at hz ⊢
    by_cases h2 : none0 d.hi = false ∧ d.hi.toList = c.lo.toList
    · have e := toList_inj h2.2
      rw [← e] at hP
      exact ⟨join_srt hQ hP sQ sP h2.1, List.perm_append_comm⟩
    · rw [if_neg h2] at hz; cases hz
end Pl
end Go.Proofs.YtbdagllflamabaaGreatDoor
