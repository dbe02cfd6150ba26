/- The plain law of PastPlays: the program's past and the document's tell the same. -/
import Derived.Test.YtapchoppcaacdaaGreatDoorRef38
import Derived.Test.YtapchoppcaacdaaGreatDoorTrm2
set_option linter.unusedVariables false
set_option linter.unusedSimpArgs false
namespace Go.Proofs.YtapchoppcaacdaaGreatDoor
namespace Pl
def BK (A : List Ch) (s : ByteArray) : List Ch := A.filter (sameK s)
theorem sameK_iff (s : ByteArray) (c : Ch) : sameK s c = true ↔ c.key = s := by
  unfold sameK
  rw [beq_iff_eq]
  exact ⟨toList_inj21, fun h => by rw [h]⟩
theorem bk_key {A : List Ch} {s : ByteArray} {c : Ch} (h : c ∈ BK A s) : c.key = s := (sameK_iff s c).1 (List.mem_filter.1 h).2
theorem bk_mem {A : List Ch} {s : ByteArray} {c : Ch} (h : c ∈ BK A s) : c ∈ A := (List.mem_filter.1 h).1
theorem bk_snoc (A : List Ch) (s : ByteArray) (c : Ch) : BK (A ++ [c]) s = BK A s ++ if c.key = s then [c] else [] := by
  unfold BK
  rw [List.filter_append]
  congr 1
  by_cases h : c.key = s
  · rw [if_pos h, List.filter_cons_of_pos ((sameK_iff s c).2 h), List.filter_nil]
  · rw [if_neg h, List.filter_cons_of_neg (by simpa using fun e => h ((sameK_iff s c).1 e)), List.filter_nil]
def verOf (o : Option Ch) : Int := match o with | some c => c.ver | none => 0

theorem last_mem {xs : List Ch} {v : Int} {c : Ch} (h : last xs v = some c) : c ∈ xs ∧ c.ver ≤ v := by
  unfold last at h
  have h1 := List.mem_of_find?_eq_some h
  have h2 := List.find?_some h
  exact ⟨List.mem_reverse.1 h1, by simpa using h2⟩
theorem newest_last (k : ByteArray) (v : Int) : ∀ (n : Nat) (A : List Ch), A.length = n → ((BK A k).Pairwise fun a b => a.ver < b.ver) → (∀ c ∈ A, 1 ≤ c.ver) → newestN A k v = verOf (last (BK A k) v) := by
  intro n
  induction n with
  | zero => intro A hA _ _; rw [List.eq_nil_of_length_eq_zero hA]; rfl
  | succ n ih =>
    intro A hA hr h1
    rcases snoc_cases A with rfl | ⟨ys, c, rfl⟩
    · simp at hA
    · have hstep : newestN (ys ++ [c]) k v = if newB k v (newestN ys k v) c = true then c.ver else newestN ys k v := by unfold newestN; rw [List.foldl_append]; rfl
      rw [bk_snoc] at hr ⊢
      have hr' := (List.pairwise_append.1 hr).1
      have ihy := ih ys (by simpa using hA) hr' (fun d hd => h1 d (List.mem_append_left _ hd))
      rw [hstep, ihy]
      by_cases hk : c.key = k
      · rw [if_pos hk] at hr ⊢
        rw [last_snoc]
        by_cases hv : c.ver ≤ v
        · rw [if_pos hv]
          have hlt : verOf (last (BK ys k) v) < c.ver := by
            cases hl : last (BK ys k) v with
            | none => have := h1 c (by simp); show (0 : Int) < c.ver; omega
            | some d => exact (List.pairwise_append.1 hr).2.2 d (last_mem hl).1 c (by simp)
          rw [if_pos (by unfold newB; rw [(sameK_iff k c).2 hk]; simp [hv, hlt])]; rfl
        · rw [if_neg hv, if_neg (by unfold newB; simp [hv])]
      · rw [if_neg hk, List.append_nil, if_neg]
        unfold newB
        have : sameK k c = false := by cases h : sameK k c with | false => rfl | true => exact absurd ((sameK_iff k c).1 h) hk
        rw [this]; simp

theorem kept_trim (fl : Int) : ∀ (n : Nat) (B : List Ch), B.length = n → (B.Pairwise fun a b => a.ver < b.ver) → B.filter (fun c => decide (fl < c.ver) || (c.there && (c.ver == verOf (last B fl)))) = trimL fl B := by
  intro n
  induction n with
  | zero => intro B hB _; rw [List.eq_nil_of_length_eq_zero hB]; rfl
  | succ n ih =>
    intro B hB hr
    rcases snoc_cases B with rfl | ⟨ys, c, rfl⟩
    · simp at hB
    · have hr' := (List.pairwise_append.1 hr).1
      rw [last_snoc, List.filter_append]
      by_cases h : c.ver ≤ fl
      · rw [if_pos h, trim_le hr h]
        have hys : ys.filter (fun d => decide (fl < d.ver) || (d.there && (d.ver == verOf (some c)))) = [] := by
          rw [List.filter_eq_nil_iff]
          intro d hd
          have := (List.pairwise_append.1 hr).2.2 d hd c (by simp)
          have h1 : ¬ fl < d.ver := by omega
          have h2 : ¬ d.ver = c.ver := by omega
          simp [h1, verOf, h2]
        rw [hys, List.nil_append]
        have h1 : ¬ fl < c.ver := by omega
        cases ht : c.there <;> simp [h1, ht, verOf]
      · rw [if_neg h, trim_gt h, ih ys (by simpa using hB) hr']
        have h1 : fl < c.ver := by omega
        simp [h1]

theorem table_look (v : Int) : ∀ (n : Nat) (B : List Ch), B.length = n → (B.Pairwise fun a b => a.ver < b.ver) → B.filter (fun c => decide (c.ver ≤ v) && ((c.ver == verOf (last B v)) && c.there)) = (look B v).toList := by
  intro n
  induction n with
  | zero => intro B hB _; rw [List.eq_nil_of_length_eq_zero hB]; rfl
  | succ n ih =>
    intro B hB hr
    rcases snoc_cases B with rfl | ⟨ys, c, rfl⟩
    · simp at hB
    · have hr' := (List.pairwise_append.1 hr).1
      rw [last_snoc, List.filter_append, look_snoc]
      by_cases h : c.ver ≤ v
      · rw [if_pos h, if_pos h]
        have hys : ys.filter (fun d => decide (d.ver ≤ v) && ((d.ver == verOf (some c)) && d.there)) = [] := by
          rw [List.filter_eq_nil_iff]
          intro d hd
          have := (List.pairwise_append.1 hr).2.2 d hd c (by simp)
          have h2 : ¬ d.ver = c.ver := by omega
          simp [verOf, h2]
        rw [hys, List.nil_append]
        cases ht : c.there <;> simp [h, ht, verOf]
      · rw [if_neg h, if_neg h, ih ys (by simpa using hB) hr']
        simp [h]

theorem trim_trim {fl to : Int} (hft : fl ≤ to) : ∀ (n : Nat) (B : List Ch), B.length = n → (B.Pairwise fun a b => a.ver < b.ver) → trimL to (trimL fl B) = trimL to B := by
  intro n
  induction n with
  | zero => intro B hB _; rw [List.eq_nil_of_length_eq_zero hB]; rfl
  | succ n ih =>
    intro B hB hr
    rcases snoc_cases B with rfl | ⟨ys, c, rfl⟩
    · simp at hB
    · have hr' := (List.pairwise_append.1 hr).1
      by_cases h : c.ver ≤ fl
      · rw [trim_le hr h, trim_le hr (Int.le_trans h hft)]
        by_cases ht : c.there = true
        · rw [if_pos ht]
          have := trim_le (xs := []) (c := c) (to := to) (by simp) (Int.le_trans h hft)
          rw [List.nil_append, if_pos ht] at this
          exact this
        · rw [if_neg ht]; rfl
      · rw [trim_gt h]
        have hr2 : (trimL fl ys ++ [c]).Pairwise fun a b => a.ver < b.ver := by
          rw [← trim_gt h]
          exact hr.sublist (trim_sub _ _ rfl hr)
        by_cases h2 : c.ver ≤ to
        · rw [trim_le hr2 h2, trim_le hr h2]
        · rw [trim_gt h2, trim_gt h2, ih ys (by simpa using hB) hr']

/-- The two pasts tell the same. -/
structure Tw (A : List Ch) (fl : Int) (K : ByteArray → List Ch) : Prop where
  row : ∀ s, K s = trimL fl (BK A s)
  rise : ∀ s, (BK A s).Pairwise fun a b => a.ver < b.ver
  one : ∀ c ∈ A, 1 ≤ c.ver
  key : ∀ c ∈ A, keyN c.key = 0
  size : ∀ c ∈ A, c.key.size ≤ 300
  good : GoodK K
theorem tw_nil : Tw [] 0 fun _ => [] := ⟨fun _ => rfl, fun _ => List.Pairwise.nil, by simp, by simp, by simp, good_nil⟩
variable {A : List Ch} {fl : Int} {K : ByteArray → List Ch}
theorem Tw.hist (h : Tw A fl K) : K = histL A fl := by
  funext s
  rw [h.row s, ← kept_trim fl _ (BK A s) rfl (h.rise s)]
  unfold BK histL
  rw [List.filter_filter]
  refine List.filter_congr fun c _ => ?_
  by_cases hk : c.key = s
  · have hn : newestN A c.key fl = verOf (last (A.filter (sameK s)) fl) := by rw [hk]; exact newest_last s fl _ A rfl (h.rise s) h.one
    unfold keptB
    rw [hn, Bool.and_comm]
  · have : sameK s c = false := by cases hq : sameK s c with | false => rfl | true => exact absurd ((sameK_iff s c).1 hq) hk
    rw [this]; simp
theorem Tw.note (h : Tw A fl K) {c : Ch} (he : noteE K fl c = 0) (hg : c.there = false → c.val = ⟨#[]⟩) (hs : c.key.size ≤ 300) : Tw (A ++ [c]) fl (addK K c) := by
  obtain ⟨h1, _, h3, h4, h5⟩ := noteE_zero he
  have hfl : ¬ c.ver ≤ fl := by
    unfold staleB at h5
    rw [Bool.or_eq_false_iff, decide_eq_false_iff_not] at h5
    exact h5.1
  have hgood := good_add h.good he hg
  have hK : ∀ d ∈ BK A c.key, d.ver < c.ver := by
    intro d hd
    by_cases hdf : d.ver ≤ fl
    · omega
    · have hdK : d ∈ K c.key := by
        rw [h.row]
        unfold trimL
        refine List.mem_append_right _ ?_
        unfold newer
        rw [List.mem_filter]
        exact ⟨hd, by simp; omega⟩
      have hr := (hgood c.key).1.rise
      rw [addK_same] at hr
      exact (List.pairwise_append.1 hr).2.2 d hdK c (by simp)
  refine ⟨fun s => ?_, fun s => ?_, ?_, ?_, ?_, hgood⟩
  · rw [bk_snoc]
    by_cases hk : c.key = s
    · subst hk
      rw [if_pos rfl, addK_same, trim_gt hfl, h.row]
    · rw [if_neg hk, List.append_nil, addK_other _ _ _ (fun e => hk e.symm), h.row]
  · rw [bk_snoc]
    by_cases hk : c.key = s
    · subst hk
      rw [if_pos rfl, List.pairwise_append]
      exact ⟨h.rise _, by simp, fun a ha b hb => by rw [List.mem_singleton.1 hb]; exact hK a ha⟩
    · rw [if_neg hk, List.append_nil]; exact h.rise s
  · intro d hd; rcases List.mem_append.1 hd with hd | hd
    · exact h.one d hd
    · rw [List.mem_singleton.1 hd]; exact h3
  · intro d hd; rcases List.mem_append.1 hd with hd | hd
    · exact h.key d hd
    · rw [List.mem_singleton.1 hd]; exact h1
  · intro d hd; rcases List.mem_append.1 hd with hd | hd
    · exact h.size d hd
    · rw [List.mem_singleton.1 hd]; exact hs
theorem Tw.noted (h : Tw A fl K) {c : Ch} (hg : c.there = false → c.val = ⟨#[]⟩) (hs : c.key.size ≤ 300) : Tw (if noteE (histL A fl) fl c = 0 then A ++ [c] else A) fl (noteK K fl c) := by
  unfold noteK
  have e : noteE (histL A fl) fl c = noteE K fl c := by rw [h.hist]
  rw [e]
  by_cases he : noteE K fl c = 0
  · rw [if_pos he, if_pos he]; exact h.note he hg hs
  · rw [if_neg he, if_neg he]; exact h
theorem Tw.trim (h : Tw A fl K) (to : Int) : Tw A (trimF fl to) (trimK K fl to) := by
  unfold trimF trimK
  by_cases hc : trimE to = 0 ∧ fl < to
  · rw [if_pos hc, if_pos hc]
    exact ⟨fun s => by show trimL to (K s) = _; rw [h.row, trim_trim (by omega) _ _ rfl (h.rise s)], h.rise, h.one, h.key, h.size, good_trim to h.good⟩
  · rw [if_neg hc, if_neg hc]; exact h

theorem Tw.table (h : Tw A fl K) (s : ByteArray) (v : Int) : (tableL A v).filter (sameK s) = (look (BK A s) v).toList := by
  rw [← table_look v _ (BK A s) rfl (h.rise s)]
  unfold tableL BK
  rw [List.filter_filter, List.filter_filter]
  refine List.filter_congr fun c _ => ?_
  by_cases hk : c.key = s
  · have hn : newestN A c.key v = verOf (last (A.filter (sameK s)) v) := by rw [hk]; exact newest_last s v _ A rfl (h.rise s) h.one
    unfold tabB
    rw [hn, Bool.and_comm]
  · have : sameK s c = false := by cases hq : sameK s c with | false => rfl | true => exact absurd ((sameK_iff s c).1 hq) hk
    rw [this]; simp
theorem Tw.lookK (h : Tw A fl K) (s : ByteArray) {v : Int} (hv : fl ≤ v) : look (K s) v = look (BK A s) v := by
  rw [h.row]; exact look_trim hv _ _ rfl (h.rise s)
theorem Tw.get (h : Tw A fl K) (s : ByteArray) (v : Int) : get38 A fl s v = (getC K s fl v).map toPr := by
  unfold get38 getC
  by_cases he : getE s fl v = 0
  · rw [if_pos he, if_pos he]
    have hv : fl ≤ v := by
      unfold getE at he
      by_cases hk : keyN s = 0
      · rw [if_neg (by simp [hk])] at he
        by_cases hv : v < fl
        · rw [if_pos hv] at he; cases he
        · omega
      · rw [if_pos hk] at he; exact absurd he hk
    rw [h.lookK s hv, List.find?_map]
    congr 1
    have h1 : (tableL A v).find? (isK s ∘ toPr) = (tableL A v).find? (sameK s) := rfl
    rw [h1, ← List.head?_filter, h.table]
    cases look (BK A s) v <;> rfl
  · rw [if_neg he, if_neg he]; rfl
theorem Tw.apart (h : Tw A fl K) (v : Int) : (tableL A v).Pairwise fun a b => a.key ≠ b.key := by
  refine List.pairwise_iff_forall_sublist.2 fun {a b} hs e => ?_
  have h1 := hs.filter (sameK a.key)
  rw [h.table] at h1
  rw [List.filter_cons_of_pos ((sameK_iff _ _).2 rfl), List.filter_cons_of_pos ((sameK_iff _ _).2 e.symm), List.filter_nil] at h1
  have h2 := h1.length_le
  have h3 : ∀ o : Option Ch, o.toList.length ≤ 1 := fun o => by cases o <;> simp
  have h4 := h3 (Pl.look (BK A a.key) v)
  have h5 : ([a, b] : List Ch).length = 2 := rfl
  omega
theorem Tw.tabKey (h : Tw A fl K) (v : Int) : ∀ c ∈ tableL A v, keyN c.key = 0 ∧ c.key.size ≤ 300 := fun c hc => ⟨h.key c (List.mem_filter.1 hc).1, h.size c (List.mem_filter.1 hc).1⟩
theorem look_mem {xs : List Ch} {v : Int} {c : Ch} (h : Pl.look xs v = some c) : c ∈ xs := by
  unfold Pl.look at h
  cases hl : last xs v with
  | none => rw [hl] at h; cases h
  | some d =>
    rw [hl] at h
    have : d = c := by
      rw [Option.filter_some] at h
      split at h
      · exact Option.some.inj h
      · cases h
    subst this
    exact (last_mem hl).1
theorem Tw.mem (h : Tw A fl K) (v : Int) (c : Ch) : c ∈ tableL A v ↔ Pl.look (BK A c.key) v = some c := by
  have h1 := h.table c.key v
  constructor
  · intro hc
    have : c ∈ (tableL A v).filter (sameK c.key) := List.mem_filter.2 ⟨hc, (sameK_iff _ _).2 rfl⟩
    rw [h1] at this
    simpa using this
  · intro hc
    have : c ∈ (tableL A v).filter (sameK c.key) := by rw [h1, hc]; simp
    exact (List.mem_filter.1 this).1
theorem Tw.scan (h : Tw A fl K) {v : Int} (hv : fl ≤ v) {lo hi : ByteArray} {ks : List ByteArray} (hk : Rising K ks) {zs : List Pr} (hp : zs.Perm ((tableL A v).map toPr)) (hs : Srt zs) (hlen : (zs.length : Int) ≤ 1000000) : (scanL K ks v lo hi).map toPr = scanT zs lo hi 1000000 := by
  have hT : scanT zs lo hi 1000000 = zs.filter fun c => hasS lo hi c.key := by
    unfold scanT
    refine List.take_of_length_le ?_
    have := List.length_filter_le (fun c : Pr => hasS lo hi c.key) zs
    have h2 : (1000000 : Int).toNat = 1000000 := rfl
    omega
  have hlk : ∀ s c, Pl.look (K s) v = some c → c.key = s := fun s c hl => by
    rw [h.lookK s hv] at hl
    exact bk_key (look_mem hl)
  rw [hT]
  have r1 : ((scanL K ks v lo hi).map toPr).Pairwise fun a b => compare a.key b.key < 0 := by
    rw [List.pairwise_map]
    unfold scanL
    rw [List.pairwise_filterMap]
    refine hk.1.imp fun {a b} hab c hc d hd => ?_
    have e1 : c.key = a := by
      split at hc
      · exact hlk a c hc
      · cases hc
    have e2 : d.key = b := by
      split at hd
      · exact hlk b d hd
      · cases hd
    show compare c.key d.key < 0
    rw [e1, e2]; exact hab
  have r2 : (zs.filter fun c => hasS lo hi c.key).Pairwise fun a b => compare a.key b.key < 0 := hs.rise.filter _
  refine List.Perm.eq_of_pairwise (le := fun a b : Pr => compare a.key b.key < 0) (fun a b _ _ h1 h2 => absurd h2 (cmp_asymm h1)) r1 r2 ?_
  refine (List.perm_ext_iff_of_nodup (r1.imp fun {a b} hlt e => by subst e; exact cmp_asymm hlt hlt) (r2.imp fun {a b} hlt e => by subst e; exact cmp_asymm hlt hlt)).2 fun p => ?_
  rw [List.mem_filter, hp.mem_iff, List.mem_map, List.mem_map]
  constructor
  · rintro ⟨c, hc, rfl⟩
    unfold scanL at hc
    obtain ⟨s, hsk, hsc⟩ := List.mem_filterMap.1 hc
    split at hsc
    · next hh =>
      have e := hlk s c hsc
      refine ⟨⟨c, (h.mem v c).2 ?_, rfl⟩, ?_⟩
      · rw [e, ← h.lookK s hv]; exact hsc
      · show hasS lo hi c.key = true
        rw [e]; exact hh
    · cases hsc
  · rintro ⟨⟨c, hc, rfl⟩, hh⟩
    have hl := (h.mem v c).1 hc
    rw [← h.lookK c.key hv] at hl
    refine ⟨c, ?_, rfl⟩
    unfold scanL
    refine List.mem_filterMap.2 ⟨c.key, (hk.2 _).2 (fun e => ?_), ?_⟩
    · rw [e] at hl; cases hl
    · have hh' : hasS lo hi c.key = true := hh
      rw [if_pos hh']; exact hl

theorem count_one (c : Ch) : ∀ ls : List ByteArray, ls.Nodup → c.key ∈ ls → (ls.filter fun s => sameK s c).length = 1 := by
  intro ls
  induction ls with
  | nil => intro _ h; cases h
  | cons a ls ih =>
    intro hn hm
    obtain ⟨n1, n2⟩ := List.nodup_cons.1 hn
    by_cases hk : c.key = a
    · have h0 : ls.filter (fun s => sameK s c) = [] := by
        rw [List.filter_eq_nil_iff]
        intro s hs h
        exact n1 (by rw [← hk, (sameK_iff s c).1 h]; exact hs)
      rw [List.filter_cons_of_pos (by rw [hk.symm]; exact (sameK_iff _ _).2 rfl), h0]; rfl
    · have h1 : c.key ∈ ls := by rcases List.mem_cons.1 hm with h | h; exact absurd h hk; exact h
      have h2 : (a :: ls).filter (fun s => sameK s c) = ls.filter fun s => sameK s c := List.filter_cons_of_neg (fun h => hk ((sameK_iff a c).1 h))
      rw [h2]
      exact ih n2 h1
theorem part_sum (ks : List ByteArray) (hn : ks.Nodup) : ∀ (M : List Ch), (∀ c ∈ M, c.key ∈ ks) → (ks.map fun s => (M.filter (sameK s)).length).sum = M.length := by
  intro M
  induction M with
  | nil =>
    intro _
    have : ∀ ls : List ByteArray, (ls.map fun s => (([] : List Ch).filter (sameK s)).length).sum = 0 := by
      intro ls
      induction ls with
      | nil => rfl
      | cons a ls ih => rw [List.map_cons, List.sum_cons, ih]; rfl
    rw [this]; rfl
  | cons c M ih =>
    intro hM
    have ih' := ih fun d hd => hM d (List.mem_cons_of_mem _ hd)
    have key : ∀ (ls : List ByteArray), (ls.map fun s => ((c :: M).filter (sameK s)).length).sum = (ls.map fun s => (M.filter (sameK s)).length).sum + (ls.filter fun s => sameK s c).length := by
      intro ls
      induction ls with
      | nil => rfl
      | cons a ls ihl =>
        rw [List.map_cons, List.sum_cons, List.map_cons, List.sum_cons, ihl]
        cases hq : sameK a c with
        | true => rw [List.filter_cons_of_pos hq, List.filter_cons_of_pos (by simpa using hq), List.length_cons, List.length_cons]; omega
        | false => rw [List.filter_cons_of_neg (by rw [hq]; simp), List.filter_cons_of_neg (by simp [hq])]; omega
    rw [key ks, ih', count_one c ks hn (hM c (by simp)), List.length_cons]
theorem Tw.len (h : Tw A fl K) {n : Nat} (hl : LenIs K n) : n = (A.filter (keptB A fl)).length := by
  obtain ⟨ks, h1, h2, rfl⟩ := hl
  rw [← part_sum ks h1 (A.filter (keptB A fl)) fun c hc => (h2 _).2 fun e => by
    rw [h.hist] at e
    have : c ∈ histL A fl c.key := by
      unfold histL
      rw [List.mem_filter] at hc ⊢
      exact ⟨hc.1, by rw [(sameK_iff _ _).2 rfl, hc.2]; rfl⟩
    rw [e] at this; cases this]
  congr 1
  refine List.map_congr_left fun s _ => ?_
  rw [h.hist]
  unfold histL
  rw [List.filter_filter]
end Pl
end Go.Proofs.YtapchoppcaacdaaGreatDoor
