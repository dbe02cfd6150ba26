/- MapR, MapI, CpyA, RgnD: one text. -/
import Derived.Test.YtbdagllflamabaaGreatDoorFinWatchReplaysQ3
import Derived.Maps.RangeWalk
import Derived.Maps.GroupsBeside
import Derived.Sort.KeysCollected
import Derived.StringKeys
import Derived.Test.YtbdagllflamabaaGreatDoorFinWatchReplaysQ18
import Derived.Test.YtbdagllflamabaaGreatDoorFinWatchReplaysQ32
import Derived.Test.YtbdagllflamabaaGreatDoorFinWatchReplaysQ9
import Derived.Test.YtbdagllflamabaaGreatDoorFinWatchReplaysQ12
import Derived.Test.YtbdagllflamabaaGreatDoorFinWatchReplaysQ17
import Derived.Test.YtbdagllflamabaaGreatDoorFinWatchReplaysQ27
set_option linter.unusedVariables false
set_option linter.unusedSectionVars false
namespace Go.Proofs.YtbdagllflamabaaGreatDoor
open Go.RowKit Go.Maps Go.ChangeMaps Go.MapKept Go.WideShapes
open Go.WideElems (Fit rd rg pl rd_key rd_val rg_of other_key rd_mk)
def mlit (s : ByteArray) : Lit := .string s.data.toList
section
variable {w : World} {P : Program} {k e t : TypeId} {b n r cnt : Nat} {f : Lit → Option Value} {left : Lit → Bool}
theorem ranges_store {H : Type} {R : Value → Option (DataW H × List MemPlace)} {D : DataW H} (h : w.ranges P k R b r n D left cnt) (K : Keyed P k) (ht : P.underlying t = some (.map k e)) {key val : Value} {kl : Lit} {d : DataW H} {ps : List MemPlace}
    (hkey : keyOf P k key = some kl) (hv : R val = some (d, ps)) (hn : n < maxLen) (hhas : Maps.has D kl = true) : ∃ w', (Instr.mapUpdate t (.map (some b)) key val).run P w = .ok () w' ∧ w'.ranges P k R b r n (D.put kl d) left cnt ∧ w.mapTurned w' b := by
  have hne := h.ne
  obtain ⟨es, clock, since, seen, c0, hb, F, hs, rfl, hr, hold, rfl, hl1, hl2, hsc, hsk⟩ := h
  obtain ⟨es', clock', hrun', F', hput', _, _, _⟩ := Maps.fit_store (R' := R) K ht hb F (Nat.lt_of_le_of_lt hs hn) (fun _ _ _ _ hz => hz) hkey hv
  rcases K.find w hkey es.toList F.keys with ⟨h1, h2⟩ | ⟨j, e0, h1, h2, h3⟩
  · exfalso
    obtain ⟨p, hp, hpk⟩ := List.any_eq_true.1 hhas
    obtain ⟨x, hx, rfl⟩ := List.mem_map.1 (mem_sorted.1 hp)
    obtain ⟨y, hy⟩ := F.reads x hx
    have e1 := WideAt.sameKey_eq hpk
    rw [rg_of hy] at e1
    exact h2 x hx (K.inj (e1 ▸ rd_key hy) hkey)
  · have hj : es[j]? = some e0 := by simpa using h2
    have hjl : j < es.toList.length := (List.getElem?_eq_some_iff.1 h2).1
    have hrun : (Instr.mapUpdate t (.map (some b)) key val).run P w = .ok () (setBlock w b (.map (es.modify j (fun e' => { e' with key := key, val := val })) clock)) := by
      simp [Instr.mapUpdate, run_underlying ht, MapKept.run_getObj_map hb, K.check w false hkey, h1, hj, h3, K.stays w hkey, MapKept.run_setObj_map _ hb, Result.andThen, setBlock]
    have heq := hrun'.symm.trans hrun
    have hblk : setBlock w b (.map es' clock') = setBlock w b (.map (es.modify j (fun e' => { e' with key := key, val := val })) clock) := by injection heq
    have hobj : (Obj.map es' clock') = .map (es.modify j (fun e' => { e' with key := key, val := val })) clock := by
      have h5 := heap_setBlock_same hb (.map es' clock')
      rw [hblk, heap_setBlock_same hb] at h5
      exact (Option.some.inj h5).symm
    have hes : es' = es.modify j (fun e' => { e' with key := key, val := val }) := by injection hobj
    have hcl : clock' = clock := by injection hobj
    have hlist : es'.toList = es.toList.set j { e0 with key := key, val := val } := by
      rw [hes, Array.toList_modify, List.modify_eq_set, h2]; rfl
    rw [hcl] at hrun' F'
    -- whoever stands there now stood there ahead, with the same stamp and the same key
    have who : ∀ x' ∈ es'.toList, ∃ x ∈ es.toList, x.born = x'.born ∧ x.key = x'.key := by
      intro x' hx'
      rw [hlist] at hx'
      obtain ⟨i, hi, ex⟩ := List.getElem_of_mem hx'
      rw [List.getElem_set] at ex
      split at ex
      · subst ex; exact ⟨e0, List.mem_of_getElem? h2, rfl, h3⟩
      · exact ⟨x', ex ▸ List.getElem_mem (by simpa using hi), rfl, rfl⟩
    have back : ∀ x ∈ es.toList, ∃ x' ∈ es'.toList, x'.key = x.key := by
      intro x hx
      obtain ⟨i, hi, ex⟩ := List.getElem_of_mem hx
      rw [hlist]
      by_cases hij : j = i
      · subst hij
        refine ⟨_, List.getElem_mem (l := es.toList.set j { e0 with key := key, val := val }) (n := j) (by simpa using hi), ?_⟩
        rw [List.getElem_set_self]
        rw [List.getElem?_eq_getElem hi, Option.some.injEq] at h2
        rw [← ex, h2]; exact h3.symm
      · refine ⟨x, ?_, rfl⟩
        have : (es.toList.set j { e0 with key := key, val := val })[i]'(by simpa using hi) = x := by rw [List.getElem_set_ne hij, ex]
        rw [← this]; exact List.getElem_mem _
    have keyeq : ∀ x ∈ es.toList, ∀ x' ∈ es'.toList, x.key = x'.key → (rg P k R x).1 = (rg P k R x').1 := by
      intro x hx x' hx' hk
      obtain ⟨y, hy⟩ := F.reads x hx
      obtain ⟨y', hy'⟩ := F'.reads x' hx'
      rw [rg_of hy, rg_of hy']
      have := rd_key hy
      rw [hk, rd_key hy'] at this
      exact (Option.some.inj this).symm
    have hsz : es'.size = es.size := by rw [hes]; simp
    have hleft : (leftOf es' seen).size = (leftOf es seen).size := by
      have e1 : ∀ a : Array MapEntry, (leftOf a seen).size = (a.toList.filter fun e => !seen.contains e.born).length := fun a => by
        unfold leftOf
        rw [← Array.toList_filter, Array.length_toList]
      rw [e1, e1]
      have hm : (es'.toList.map MapEntry.born) = es.toList.map MapEntry.born := by
        rw [hlist, List.map_set]
        have : (es.toList.map MapEntry.born)[j]? = some e0.born := by rw [List.getElem?_map, h2]; rfl
        apply List.ext_getElem?
        intro i
        by_cases hij : j = i
        · subst hij; rw [List.getElem?_set_self (by simpa using hjl), this]
        · rw [List.getElem?_set_ne hij]
      have key : ∀ l : List MapEntry, (l.filter fun e => !seen.contains e.born).length = ((l.map MapEntry.born).filter fun x => !seen.contains x).length := by
        intro l; rw [List.filter_map, List.length_map]; rfl
      rw [key, key, hm]
    refine ⟨_, hrun', ⟨es', clock, since, seen, c0, heap_setBlock_same hb _, F', by omega, by rw [DataW.put_eq, hput'], (heap_setBlock_other hb _ hne).trans hr, fun x' hx' => ?_, hleft, fun x' hx' => ?_, fun x0 hx0 => ?_, hsc, hsk⟩, ⟨es, clock, es', clock, hb, rfl⟩⟩
    · obtain ⟨x, hx, e1, _⟩ := who x' hx'
      rw [← e1]; exact hold x hx
    · obtain ⟨x, hx, e1, e2⟩ := who x' hx'
      rw [← keyeq x hx x' hx' e2, hl1 x hx, e1]
    · obtain ⟨x, hx, e1⟩ := hl2 x0 hx0
      obtain ⟨x', hx', e2⟩ := back x hx
      exact ⟨x', hx', by rw [← keyeq x hx x' hx' e2.symm, e1]⟩
def MRange (w : World) (P : Program) (k : TypeId) (b r n : Nat) (f : Lit → Option Value) (left : Lit → Bool) (cnt : Nat) : Prop := ∃ D, w.ranges P k raw b r n D left cnt ∧ ∀ l, lookD D l = f l
theorem MRange.kept {S : Nat → Prop} {w' : World} (h : MRange w P k b r n f left cnt) (g : Only S w w') (hb : ¬ S b) (hr : ¬ S r) : MRange w' P k b r n f left cnt := by
  obtain ⟨D, h, hf⟩ := h
  have h1 := h.owns.lt
  have h2 := h.lt
  obtain ⟨es, clock, since, seen, c0, hb', F, hs, hD, hr', rest⟩ := h
  exact ⟨D, ⟨es, clock, since, seen, c0, (g.block b h1 hb).trans hb', F, hs, hD, (g.block r h2 hr).trans hr', rest⟩, hf⟩
theorem MRange.grew {w' : World} (h : MRange w P k b r n f left cnt) (g : Grew w w') : MRange w' P k b r n f left cnt := h.kept (g.only fun _ => False) (fun h => h) (fun h => h)
theorem MRange.left_eq (h : MRange w P k b r n f left cnt) : w.rangeLeft b r = cnt := by obtain ⟨D, h, _⟩ := h; exact h.left_eq
theorem MRange.lt (h : MRange w P k b r n f left cnt) : r < w.heap.size := by obtain ⟨D, h, _⟩ := h; exact h.lt
theorem MRange.ne (h : MRange w P k b r n f left cnt) : r ≠ b := by obtain ⟨D, h, _⟩ := h; exact h.ne
theorem wpList_range_M {ops : Array Oper} {rest : List Oper} {o : Oper} {a : Act} {Q : Exit → Act → World → Prop} (hg : o.guard = none) (m : Operand) (hop : o.op = Op.range t m) (K : Keyed P k) (ht : P.underlying t = some (.map k e))
    (hm : a.eval m = .map (some b)) (h : LMap w P k b n f)
    (hK : ∀ w' left cnt, MRange w' P k b w.heap.size n f left cnt → (∀ l, left l = false → f l = none) → Grew w w' → w'.heap.size = w.heap.size + 1 → wpList P ops Q rest (a.put o.dst (.pointer (some ⟨w.heap.size, 0, none⟩))) w') :
    wpList P ops Q (o :: rest) a w := by
  obtain ⟨D, h, hf⟩ := h
  exact wpList_range_own w hg m t hop k e K ht raw b n D hm h fun w' h1 h2 h3 => hK w' _ _ ⟨D, h1, hf⟩ (fun l hl => by rw [← hf]; unfold lookD; rw [if_neg (by rw [hl]; simp)]) ((Only.of_grownBy h2).grew (fun j hj => by cases hj)) h3
theorem MRange.store {key val : Value} {l : Lit} (h : MRange w P k b r n f left cnt) (K : Keyed P k) (ht : P.underlying t = some (.map k e)) (hn : n < maxLen) (hkey : keyOf P k key = some l) (hf : f l ≠ none) :
    ∃ w', (Instr.mapUpdate t (.map (some b)) key val).run P w = .ok () w' ∧ MRange w' P k b r n (lset f l (some val)) left cnt ∧ w.mapTurned w' b := by
  obtain ⟨D, h, hf'⟩ := h
  have hm := h.owns.isMap
  have hl := K.key hkey
  have hhas : Maps.has D l = true := by
    cases hh : Maps.has D l with
    | true => rfl
    | false => exact absurd (by rw [← hf' l]; unfold lookD; rw [if_neg (by rw [hh]; simp)]) hf
  obtain ⟨w', hrun, h1, h2⟩ := ranges_store h K ht hkey (val := val) (d := .held val) (ps := []) rfl hn hhas
  refine ⟨w', hrun, ⟨_, h1, fun m => ?_⟩, h2⟩
  unfold lset
  split
  · next he => subst he; unfold lookD; rw [has_put_same hm hl, atKey_put_same hm hl]; rfl
  · next he => rw [← hf']; unfold lookD; rw [has_put_other he, atKey_put_other he]
theorem MRange.drop {key : Value} {l : Lit} (h : MRange w P k b r n f left cnt) (K : Keyed P k) (ht : P.underlying t = some (.map k e)) (hkey : keyOf P k key = some l) (ty : TypeId) :
    ∃ w' cnt', (Builtin.delete_ #[t, k] ty #[.map (some b), key]).run P w = .ok (.tuple #[]) w' ∧ MRange w' P k b r n (lset f l none) (fun x => left x && !x.sameKey l) cnt' ∧ cnt' ≤ cnt ∧ w.mapTurned w' b := by
  obtain ⟨D, h, hf⟩ := h
  obtain ⟨w', cnt', hrun, h1, h2, h3⟩ := h.drop K ht hkey ty
  refine ⟨w', cnt', hrun, ⟨_, h1, fun m => ?_⟩, h2, h3⟩
  unfold lset
  split
  · next he => subst he; unfold lookD; rw [has_del_same]; rfl
  · next he => rw [← hf]; unfold lookD; rw [has_del_other he, atKey_del_other he]
end
def keysD (D : DataW Value) : List ByteArray := (strKeys D).map fun l => ⟨l.toArray⟩
theorem ownsMap_keys {w : World} {P : Program} {k : TypeId} {b n : Nat} {D : DataW Value} (h : w.ownsMap P k raw b n D) (K : Keyed P k) (hk : P.underlying k = some .string) :
    (keysD D).Nodup ∧ (∀ s, s ∈ keysD D ↔ lookD D (mlit s) ≠ none) ∧ (keysD D).length ≤ n ∧ Maps.size D ≤ n := by
  obtain ⟨es, hD, hpw, _⟩ := h.entries K
  obtain ⟨es', hD', hko⟩ := h.keysOf
  obtain rfl : es = es' := by rw [hD] at hD'; simpa using hD'
  have hstr : ∀ p ∈ es, ∃ x, p.1 = .string x := fun p hp => by obtain ⟨v, hv⟩ := hko p hp; obtain ⟨x, _, hx, _⟩ := Maps.keyOf_str hk hv; exact ⟨x, hx⟩
  have hin : ∀ l : List UInt8, (⟨⟨l⟩⟩ : ByteArray).data.toList = l := fun l => rfl
  have hkd : keysD D = es.map fun p => ⟨⟨strOf p.1⟩⟩ := by rw [hD]; unfold keysD strKeys; rw [List.map_map]; rfl
  have hlen : es.length ≤ n := by
    obtain ⟨es2, clock, hb, F, hs, hD2⟩ := h
    rw [hD] at hD2
    have e1 : es = (es2.toList.map (rg P k raw)).foldr DataW.insert [] := by injection hD2
    rw [e1, length_sorted]
    simpa using hs
  rw [hkd]
  refine ⟨?_, fun s => ?_, by rw [List.length_map]; exact hlen, by rw [hD]; exact hlen⟩
  · refine List.pairwise_map.2 (hpw.imp_of_mem fun {p q} hp' hq' hne e => hne ?_)
    obtain ⟨a, ha⟩ := hstr p hp'
    obtain ⟨c, hc⟩ := hstr q hq'
    rw [ha, hc] at e ⊢
    have e2 : a = c := by injection e with e1; injection e1
    rw [e2]
  · constructor
    · intro hs
      obtain ⟨p, hp, rfl⟩ := List.mem_map.1 hs
      obtain ⟨a, ha⟩ := hstr p hp
      have hhas : Maps.has D (mlit ⟨⟨strOf p.1⟩⟩) = true := by
        rw [hD]
        refine List.any_eq_true.2 ⟨p, hp, ?_⟩
        rw [ha]; simp [mlit, strOf, Lit.sameKey]
      obtain ⟨es2, clock, hb, F, _, hD2⟩ := h
      rw [hD2] at hhas
      obtain ⟨p2, hp2, hpk⟩ := List.any_eq_true.1 hhas
      obtain ⟨x, hx, rfl⟩ := List.mem_map.1 (mem_sorted.1 hp2)
      obtain ⟨y, hy⟩ := F.reads x hx
      obtain ⟨z, hz, hzd⟩ := rd_val hy
      have hkk : keyOf P k x.key = some (mlit ⟨⟨strOf p.1⟩⟩) := by
        have := WideAt.sameKey_eq hpk
        rw [rg_of hy] at this
        rw [← this]; exact rd_key hy
      unfold lookD
      rw [hD2, if_pos hhas]
      have hat := (atKey_sorted (es2.toList.map (rg P k raw)) (Maps.fit_rising K F) _ (K.key hkk)).2 (rg P k raw x) (List.mem_map.2 ⟨x, hx, rfl⟩) (WideAt.sameKey_eq hpk)
      rw [hat, rg_of hy, hzd]
      cases hz
      simp
    · intro hs
      unfold lookD at hs
      by_cases hh : Maps.has D (mlit s) = true
      · rw [hD] at hh
        obtain ⟨p, hp, hpk⟩ := List.any_eq_true.1 hh
        refine List.mem_map.2 ⟨p, hp, ?_⟩
        rw [WideAt.sameKey_eq hpk]
        obtain ⟨⟨a⟩⟩ := s
        rfl
      · rw [if_neg hh] at hs; exact absurd rfl hs
theorem LMap.keys {w : World} {P : Program} {k : TypeId} {b n : Nat} {f : Lit → Option Value} (h : LMap w P k b n f) (K : Keyed P k) (hk : P.underlying k = some .string) :
    ∃ ks : List ByteArray, ks.Nodup ∧ (∀ s, s ∈ ks ↔ f (mlit s) ≠ none) ∧ ks.length ≤ n := by
  obtain ⟨D, h, hf⟩ := h
  obtain ⟨h1, h2, h3, _⟩ := ownsMap_keys h K hk
  exact ⟨_, h1, fun s => by rw [h2, hf], h3⟩
end Go.Proofs.YtbdagllflamabaaGreatDoor
namespace Go.Proofs.YtbdagllflamabaaGreatDoor
open Go.RowKit Go.Maps Go.ChangeMaps Go.MapKept Go.WideShapes
theorem keyOf_int_inv {P : Program} {k : TypeId} (hk : P.underlying k = some (.int .i64)) {v : Value} {l : Lit} (h : keyOf P k v = some l) : ∃ c : Int, v = .int .i64 c ∧ l = clit c ∧ (Lit.int .i64 c).wf = true := by
  cases v <;> simp [keyOf, hk, mapKey] at h
  obtain ⟨⟨rfl, hw⟩, rfl⟩ := h
  exact ⟨_, rfl, rfl, hw⟩
section
variable {w : World} {P : Program} {k e t : TypeId} {b n r cnt : Nat} {f : Lit → Option Value} {left : Lit → Bool}
theorem wpList_next_MI {ops : Array Oper} {rest : List Oper} {o : Oper} {a : Act} {Q : Exit → Act → World → Prop} (hg : o.guard = none) (it : Operand) (hop : o.op = Op.next it false) (hk : P.underlying k = some (.int .i64)) (K : Keyed P k) (r : Nat) (left : Lit → Bool) (cnt : Nat)
    (hit : a.eval it = .pointer (some ⟨r, 0, none⟩)) (h : MRange w P k b r n f left cnt)
    (hDone : (∀ l, left l = false) → wpList P ops Q rest (a.put o.dst (.tuple #[.bool false])) w)
    (hMore : ∀ (c : Int) (v : Value) (w' : World) (cnt' : Nat), (Lit.int .i64 c).wf = true → left (clit c) = true → f (clit c) = some v → MRange w' P k b r n f (fun z => left z && !z.sameKey (clit c)) cnt' → cnt' < cnt → Only (fun j => j = r) w w' → w'.heap.size = w.heap.size → (Instr.entry (.pointer (some ⟨r, 0, none⟩))).run P w' = .ok (.tuple #[.int .i64 c, v]) w' → wpList P ops Q rest (a.put o.dst (.tuple #[.bool true, .int .i64 c, v])) w') :
    wpList P ops Q (o :: rest) a w := by
  obtain ⟨D, h, hf⟩ := h
  refine wpList_next_ranges w hg it hop k K raw (Value.int .i64) (fun v : Value => v) (fun key kl hkey => by
    obtain ⟨c, rfl, rfl, _⟩ := keyOf_int_inv hk hkey
    exact ⟨_, rfl⟩) (fun v y _ => ⟨v, rfl⟩) b r n D left cnt hit h (fun _ h0 => hDone h0) ?_
  intro c v kl y w' cnt' hkey hl hv hat hrg hlt hgr hsz hen
  obtain ⟨c', e, rfl, hwf⟩ := keyOf_int_inv hk hkey
  cases e
  cases hv
  have hlook : f (clit c) = some v := by
    rw [← hf]
    unfold lookD
    rw [if_pos (has_true_of_atKey hat), hat]
  exact hMore c v w' cnt' hwf hl hlook ⟨D, hrg, hf⟩ hlt ((Only.of_grownBy hgr).mono fun j hj => .inl (Option.some.inj hj)) hsz hen
end
theorem clit_same (a b : Int) : (clit a).sameKey (clit b) = decide (a = b) := by
  by_cases h : a = b
  · subst h; rw [decide_eq_true rfl]; simp [clit, Lit.sameKey]
  · rw [decide_eq_false h]
    refine Maps.sameKey_ne (fun e => h ?_)
    unfold clit at e
    injection e
end Go.Proofs.YtbdagllflamabaaGreatDoor
set_option linter.unusedSimpArgs false
namespace Go.Proofs.YtbdagllflamabaaGreatDoor
open Go.RowKit Go.Maps
attribute [local go_sem] Oper.semAt_some uponV
theorem cloneEv_any (W : World) (ve : Value) (ne : Nat) (evs : List Value) (h : W.ownsRow 0 164 13 ve ne evs) (hnil : ne = 0 → ve = .slice none 0 0) (h1 : ∀ u ∈ evs, u.oneCell' = true) (hb : ne ≤ 1000000) :
    Calls Tryz.prog 90 #[ve] W fun e w' => ∃ ve', e = .returned ve' ∧ w'.ownsRow W.heap.size 164 13 ve' ne evs ∧ (ne = 0 → ve' = .slice none 0 0) ∧ Grew W w' := by
  rcases Nat.eq_zero_or_pos ne with h0 | h0
  · have hv := hnil h0
    subst hv h0
    have he : evs = [] := List.eq_nil_of_length_eq_zero (by have := h.1; omega)
    subst he
    refine (cloneNilEvent W).mono ?_
    rintro e w' ⟨rfl, g⟩
    exact ⟨_, rfl, World.ownsRow_nil _ _ _ _, fun _ => rfl, g⟩
  · obtain ⟨b, cap, rfl, _, _⟩ := h.form h0
    refine (cloneEvent W b 0 ne cap h0 hb evs h.1 (fun j u hj => ?_) h1).mono ?_
    · rw [Nat.zero_add]
      have hjl := (List.getElem?_eq_some_iff.1 hj).1
      rw [h.1] at hjl
      exact (h.cellAt j hjl).trans hj
    · rintro e w' ⟨g, c, rfl, hr, hg⟩
      exact ⟨_, rfl, hr, fun e0 => by omega, hg⟩
structure JCpyM (w : World) (xs : List Sh) (ne : Nat) (evs : List Value) (L : Nat → Bool) (f : Nat → Value) (x : World) : Prop where
  g : Grew w x
  k4 : L 4 = true → ∃ g c, f 4 = .slice (some ⟨g, 0, none⟩) xs.length c ∧ x.ownsRow w.heap.size 118 5 (.slice (some ⟨g, 0, none⟩) xs.length c) xs.length (shFlat xs)
  k13 : L 13 = true → x.ownsRow w.heap.size 164 13 (f 13) ne evs ∧ (ne = 0 → f 13 = .slice none 0 0)
  kne : L 4 = true → L 13 = true → ∀ g, (f 13).ownBlock = some g → (f 4).ownBlock ≠ some g
section
variable {w : World} {F : Nat → Prop} {sb : Nat} {s : ShSt} (h : ShAt w F sb s)
include h
set_option maxRecDepth 100000 in
set_option maxHeartbeats 4000000 in
theorem copyM_any (h0 : 0 < s.xs.length) (hx : s.xs.length ≤ 1000000) (h1 : ∀ u ∈ s.evs, u.oneCell' = true) (hb : s.ne ≤ 1000000) : Calls Tryz.prog 48 #[.pointer (some ⟨sb, 0, none⟩)] w fun e w' => ∃ cb, e = .returned (.pointer (some ⟨cb, 0, none⟩)) ∧ Grew w w' ∧ w.heap.size ≤ cb ∧ ∃ F', ShAt w' F' cb s ∧ ∀ j, F' j → w.heap.size ≤ j := by
  obtain ⟨xs, used, ne, evs⟩ := s
  obtain ⟨v, ve, h⟩ := h
  dsimp only at *
  obtain ⟨b, cap, rfl, _, hbb⟩ := h.row.form h0
  have HC := hid (fun W (g : Grew w W) => cloneShard W b 0 xs.length cap h0 hx (shFlat xs) (shFlat_length xs) (fun j u hj => by
    rw [Nat.zero_add]
    have hjl := (List.getElem?_eq_some_iff.1 hj).1
    rw [shFlat_length] at hjl
    exact ((h.grew g).row.cellAt j hjl).trans hj) (shFlat_one' xs))
  have HE := hid (fun W (g : Grew w W) => cloneEv_any W ve ne evs (h.grew g).erow h.nil h1 hb)
  have C0 := wd_cell h.live
  have CE := wd_cell h.ev
  have U0 := wd_cell (h.used 0 (by omega))
  have U1 := wd_cell (h.used 1 (by omega))
  have U2 := wd_cell (h.used 2 (by omega))
  have U3 := wd_cell (h.used 3 (by omega))
  have U4 := wd_cell (h.used 4 (by omega))
  have U5 := wd_cell (h.used 5 (by omega))
  have U6 := wd_cell (h.used 6 (by omega))
  have U7 := wd_cell (h.used 7 (by omega))
  have U8 := wd_cell (h.used 8 (by omega))
  have U9 := wd_cell (h.used 9 (by omega))
  have U10 := wd_cell (h.used 10 (by omega))
  have U11 := wd_cell (h.used 11 (by omega))
  have U12 := wd_cell (h.used 12 (by omega))
  simp only [Nat.reduceAdd] at U0 U1 U2 U3 U4 U5 U6 U7 U8 U9 U10 U11 U12
  have HSZ := hid h.sz
  have hsbl := h.blt
  clear h h1
  go_enter Tryz.func48, Tryz.ntmps48
  go_wp2_with fail
  refine wp_region_mix 14 [4, 13] (Grew w) Eq (JCpyM w xs ne evs) (fun f a => (a.put (some 7) (f 4)).put (some 16) (f 13)) (by kernel_rfl) (by kernel_rfl) (fun _ _ => rfl) ⟨(Grew.refl w).drew, fun h => (by cases h), fun h => (by cases h), fun h => (by cases h)⟩ (fun _ _ _ h => h.g) (fun _ => rfl) (fun _ _ _ _ h g => g ▸ h) ?_
  repeat (first
    | (refine wpMix_loose (by rfl) (by rfl) ?_)
    | (refine wpMix_plain (by rfl) (by rfl) (by rfl) (by first | exact Grew.refl | exact fun _ => rfl) (by rfl) ?_; intro K hK; go_big_quiet_op; go_big_quiet_on)
    | (refine wpMix_skip (by rfl) (by rfl) (by rfl) ?_; simp only [Act.put, List.setIfInBounds_toArray, List.set_cons_zero, List.set_cons_succ]))
  refine wpMix_done (by rfl) ⟨⟨loose_of rfl (fun _ a => a) (fun _ _ => rfl) (fun _ => rfl) ?_, loose_of rfl (fun f a => a.put (some 7) (f 4)) (fun _ _ => rfl) (fun _ => rfl) ?_, trivial⟩, ?_⟩
  · rintro L f x ⟨hG, k4, k13, kne⟩ hL hd
    clear C0 CE U0 U1 U2 U3 U4 U5 U6 U7 U8 U9 U10 U11 U12
    have HG := hid hG
    have K13 := hid k13
    clear hG k4 k13 kne hd
    go_simp
    refine (HC.out x HG.out).mono ?_
    rintro r x' ⟨g, c, rfl, hr, hg⟩
    refine ⟨_, rfl, HG.out.trans hg, fun _ => ⟨g, c, updV_same _ _ _, ownsRow_base HG.out.size hr⟩, fun h13 => ?_, fun _ h13 g' hg' => ?_⟩
    · have h13' : L 13 = true := by simpa [plus] using h13
      obtain ⟨a1, a2⟩ := K13.out h13'
      rw [updV_ne (by decide)]
      exact ⟨ownsRow_grew hg a1, a2⟩
    · have h13' : L 13 = true := by simpa [plus] using h13
      obtain ⟨a1, a2⟩ := K13.out h13'
      rw [updV_ne (by decide)] at hg'
      rw [updV_same]
      have l1 := (a1.lt g' hg').2
      have l2 := (hr.lt g rfl).1
      intro e
      have : g = g' := Option.some.inj e
      omega
  · rintro L f x ⟨hG, k4, k13, kne⟩ hL hd
    clear C0 CE U0 U1 U2 U3 U4 U5 U6 U7 U8 U9 U10 U11 U12
    have HG := hid hG
    have K4 := hid k4
    clear hG k4 k13 kne hd
    go_simp
    refine (HE.out x HG.out).mono ?_
    rintro r x' ⟨v', rfl, hr, hn, hg⟩
    refine ⟨_, rfl, HG.out.trans hg, fun h4 => ?_, fun _ => ?_, fun h4 _ g' hg' => ?_⟩
    · have h4' : L 4 = true := by simpa [plus] using h4
      obtain ⟨g, c, e1, a1⟩ := K4.out h4'
      rw [updV_ne (by decide)]
      exact ⟨g, c, e1, ownsRow_grew hg a1⟩
    · rw [updV_same]
      exact ⟨ownsRow_base HG.out.size hr, hn⟩
    · have h4' : L 4 = true := by simpa [plus] using h4
      obtain ⟨g, c, e1, a1⟩ := K4.out h4'
      rw [updV_same] at hg'
      rw [updV_ne (by decide), e1]
      have l1 := (hr.lt g' hg').1
      have l2 := (a1.lt g rfl).2
      intro e
      have : g = g' := Option.some.inj e
      omega
  rintro f x ⟨hG, k4, k13, kne⟩
  clear C0 CE U0 U1 U2 U3 U4 U5 U6 U7 U8 U9 U10 U11 U12 HC HE
  obtain ⟨g, c, e4, r4⟩ := k4 rfl
  obtain ⟨r13, n13⟩ := k13 rfl
  have kne' := kne rfl rfl
  rw [e4] at kne' ⊢
  obtain ⟨ea, en, ec, e13⟩ : ∃ ea en ec, f 13 = .slice ea en ec := by
    rcases r13.2 with ⟨e, _⟩ | ⟨g, cp, cur, e, _⟩
    · exact ⟨_, _, _, e⟩
    · exact ⟨_, _, _, e⟩
  rw [e13] at kne' r13 n13 ⊢
  have HX := hid (And.intro hG (And.intro r4 (And.intro r13 (And.intro n13 kne'))))
  clear k4 k13 kne e4 r4 r13 n13 kne' hG e13
  dsimp only [List.drop]
  go_wp2_with fail
  go_ret
  obtain ⟨hG, r4, r13, n13, kne⟩ := HX.out
  have hs := hG.size
  refine ⟨x.heap.size, rfl, hG.alloc _, hs, fun j => j = x.heap.size ∨ j = g ∨ (Value.slice ea en ec).ownBlock = some j, ⟨.slice (some ⟨g, 0, none⟩) xs.length c, .slice ea en ec, ?_⟩, ?_⟩
  · refine ⟨by simp [go_sem], fun i hi => ?_, by simp [go_sem], fun i _ => ?_, ownsRow_base (Nat.zero_le _) (ownsRow_grew ((Grew.refl x).alloc _) r4), ownsRow_base (Nat.zero_le _) (ownsRow_grew ((Grew.refl x).alloc _) r13), HSZ.out, .inl rfl, fun g' hg' => ?_, fun g' hg' => ⟨.inr (.inr hg'), ?_, fun e => kne g' hg' e⟩, fun j hj => ?_, n13⟩
    · rw [cell_of_row _ x.heap.size (1 + i) _ _ _ (heap_alloc_new x _), Nat.add_comm]
      exact match i, hi with
        | 0, _ => rfl
        | 1, _ => rfl
        | 2, _ => rfl
        | 3, _ => rfl
        | 4, _ => rfl
        | 5, _ => rfl
        | 6, _ => rfl
        | 7, _ => rfl
        | 8, _ => rfl
        | 9, _ => rfl
        | 10, _ => rfl
        | 11, _ => rfl
        | 12, _ => rfl
        | n + 13, h => absurd h (by omega)
    · exact frozen_of_row _ x.heap.size i _ _ (heap_alloc_new x _)
    · have : g = g' := Option.some.inj hg'
      subst this
      have := (r4.lt g rfl).2
      exact ⟨.inr (.inl rfl), by omega⟩
    · have := (r13.lt g' hg').2
      omega
    · refine Nat.lt_of_lt_of_le (?_ : j < x.heap.size + 1) (by simp)
      rcases hj with rfl | rfl | hj
      · omega
      · have h2 : j < x.heap.size := (r4.lt _ rfl).2
        omega
      · have h2 : j < x.heap.size := (r13.lt _ hj).2
        omega
  · intro j hj
    rcases hj with rfl | rfl | hj
    · exact hs
    · exact (r4.lt _ rfl).1
    · exact (r13.lt _ hj).1
end
end Go.Proofs.YtbdagllflamabaaGreatDoor
namespace Go.Proofs.YtbdagllflamabaaGreatDoor
open Go.RowKit Go.Maps
def MonoD (R : Nat → Value → (Nat → Prop) → World → Prop) : Prop := ∀ i v F x x', R i v F x → Grew x x' → R i v F x'
structure JDn (R : Nat → Value → (Nat → Prop) → World → Prop) (y : World) (L : Nat → Bool) (f : Nat → Value) (x : World) : Prop where
  grew : Grew y x
  ex : ∃ φ : Nat → Nat → Prop, (∀ i, L i = true → R i (f i) (φ i) x ∧ ∀ j, φ i j → y.heap.size ≤ j ∧ j < x.heap.size) ∧ ∀ i i', L i = true → L i' = true → i ≠ i' → ∀ j, φ i j → ¬ φ i' j
section
variable {R : Nat → Value → (Nat → Prop) → World → Prop} {y x x' : World} {L : Nat → Bool} {f : Nat → Value}
theorem JDn.start (R : Nat → Value → (Nat → Prop) → World → Prop) (y : World) (f : Nat → Value) : JDn R y (fun _ => false) f y.drew := ⟨(Grew.refl y).drew, fun _ _ => False, fun i h => (by cases h), fun i _ h => (by cases h)⟩
theorem JDn.put (hR : MonoD R) (h : JDn R y L f x) (i : Nat) (hL : L i = false) {v : Value} {F : Nat → Prop} (g : Grew x x') (hv : R i v F x') (hF : ∀ j, F j → x.heap.size ≤ j ∧ j < x'.heap.size) : JDn R y (plus L i) (updV f i v) x' := by
  obtain ⟨φ, h1, h2⟩ := h.ex
  have hs := g.size
  have hys := h.grew.size
  have old : ∀ i', plus L i i' = true → i' ≠ i → L i' = true := fun i' hi' hne => by rwa [plus_ne hne] at hi'
  refine ⟨h.grew.trans g, fun i' => if i' = i then F else φ i', fun i' hi' => ?_, fun i1 i2 hi1 hi2 hne j => ?_⟩
  · by_cases e : i' = i
    · subst e
      dsimp only
      rw [updV_same, if_pos rfl]
      exact ⟨hv, fun j hj => ⟨by have := (hF j hj).1; omega, (hF j hj).2⟩⟩
    · dsimp only
      rw [updV_ne e, if_neg e]
      obtain ⟨a, b⟩ := h1 i' (old i' hi' e)
      exact ⟨hR _ _ _ _ _ a g, fun j hj => ⟨(b j hj).1, by have := (b j hj).2; omega⟩⟩
  · dsimp only
    by_cases e1 : i1 = i
    · rw [if_pos e1]
      by_cases e2 : i2 = i
      · exact absurd (e1.trans e2.symm) hne
      · rw [if_neg e2]
        intro hj hj2
        have a := (hF j hj).1
        have b := ((h1 i2 (old i2 hi2 e2)).2 j hj2).2
        omega
    · rw [if_neg e1]
      by_cases e2 : i2 = i
      · rw [if_pos e2]
        intro hj hj2
        have a := (hF j hj2).1
        have b := ((h1 i1 (old i1 hi1 e1)).2 j hj).2
        omega
      · rw [if_neg e2]
        exact h2 i1 i2 (old i1 hi1 e1) (old i2 hi2 e2) hne j
end
end Go.Proofs.YtbdagllflamabaaGreatDoor
