/- A range over a map of raw values, keyed by texts: its step; a store at a key that is there, a removal, in the round; the sum over what is left. -/
import Derived.Test.YtapchoppcaacdaaGreatDoorOwn
import Derived.Maps.RangeWalk
import Derived.Maps.GroupsBeside
import Derived.Sort.KeysCollected
import Derived.StringKeys
set_option linter.unusedVariables false
set_option linter.unusedSectionVars false
namespace Go.Proofs.YtapchoppcaacdaaGreatDoor
open Go.RowKit Go.Maps Go.ChangeMaps Go.MapKept Go.WideShapes
open Go.WideElems (Fit rd rg pl rd_key rd_val rg_of other_key rd_mk)

/-- A text as a map's key. -/
def mlit (s : ByteArray) : Lit := .string s.data.toList
theorem mlit_inj {s t : ByteArray} (h : mlit s = mlit t) : s = t := by
  unfold mlit at h
  have h1 : s.data.toList = t.data.toList := by injection h
  obtain ⟨⟨a⟩⟩ := s
  obtain ⟨⟨b⟩⟩ := t
  exact congrArg (fun l : List UInt8 => (⟨⟨l⟩⟩ : ByteArray)) h1
theorem mlit_same (s t : ByteArray) : (mlit s).sameKey (mlit t) = decide (s = t) := by
  by_cases h : s = t
  · subst h; rw [decide_eq_true rfl]; simp [mlit, Lit.sameKey]
  · rw [decide_eq_false h]
    refine Maps.sameKey_ne (fun e => h (mlit_inj e))

section
variable {w : World} {P : Program} {k e t : TypeId} {b n r cnt : Nat} {f : Lit → Option Value} {left : Lit → Bool}

/-- A store at a key that is there, whoever is on his way through the map. -/
theorem ranges_store {H : Type} {R : Value → Option (DataW H × List MemPlace)} {D : DataW H} (h : w.ranges P k R b r n D left cnt) (K : Keyed P k) (ht : P.underlying t = some (.map k e)) {key val : Value} {kl : Lit} {d : DataW H} {ps : List MemPlace}
    (hkey : keyOf P k key = some kl) (hv : R val = some (d, ps)) (hn : n < maxLen) (hhas : Maps.has D kl = true) : ∃ w', (Instr.mapUpdate t (.map (some b)) key val).run P w = .ok () w' ∧ w'.ranges P k R b r n (D.put kl d) left cnt ∧ w.mapTurned w' b := by
  have hne := h.ne
  obtain ⟨es, clock, since, seen, c0, hb, F, hs, rfl, hr, hold, rfl, hl1, hl2, hsc, hsk⟩ := h
  obtain ⟨es', clock', hrun', F', hput', _, _, _⟩ := Maps.fit_store (R' := R) K ht hb F (Nat.lt_of_le_of_lt hs hn) (fun _ _ _ _ hz => hz) hkey hv
  rcases K.find w hkey es.toList F.keys with ⟨h1, h2⟩ | ⟨j, e0, h1, h2, h3⟩
  · exfalso
    obtain ⟨p, hp, hpk⟩ := List.any_eq_true.1 hhas
    obtain ⟨x, hx, rfl⟩ := List.mem_map.1 (mem_sorted.1 hp)
    obtain ⟨y, hy⟩ := F.reads x hx
    have e1 := WideAt.sameKey_eq hpk
    rw [rg_of hy] at e1
    exact h2 x hx (K.inj (e1 ▸ rd_key hy) hkey)
  · have hj : es[j]? = some e0 := by simpa using h2
    have hjl : j < es.toList.length := (List.getElem?_eq_some_iff.1 h2).1
    have hrun : (Instr.mapUpdate t (.map (some b)) key val).run P w = .ok () (setBlock w b (.map (es.modify j (fun e' => { e' with key := key, val := val })) clock)) := by
      simp [Instr.mapUpdate, run_underlying ht, MapKept.run_getObj_map hb, K.check w false hkey, h1, hj, h3, K.stays w hkey, MapKept.run_setObj_map _ hb, Result.andThen, setBlock]
    have heq := hrun'.symm.trans hrun
    have hblk : setBlock w b (.map es' clock') = setBlock w b (.map (es.modify j (fun e' => { e' with key := key, val := val })) clock) := by injection heq
    have hobj : (Obj.map es' clock') = .map (es.modify j (fun e' => { e' with key := key, val := val })) clock := by
      have h5 := heap_setBlock_same hb (.map es' clock')
      rw [hblk, heap_setBlock_same hb] at h5
      exact (Option.some.inj h5).symm
    have hes : es' = es.modify j (fun e' => { e' with key := key, val := val }) := by injection hobj
    have hcl : clock' = clock := by injection hobj
    have hlist : es'.toList = es.toList.set j { e0 with key := key, val := val } := by
      rw [hes, Array.toList_modify, List.modify_eq_set, h2]; rfl
    rw [hcl] at hrun' F'
    -- whoever stands there now stood there ahead, with the same stamp and the same key
    have who : ∀ x' ∈ es'.toList, ∃ x ∈ es.toList, x.born = x'.born ∧ x.key = x'.key := by
      intro x' hx'
      rw [hlist] at hx'
      obtain ⟨i, hi, ex⟩ := List.getElem_of_mem hx'
      rw [List.getElem_set] at ex
      split at ex
      · subst ex; exact ⟨e0, List.mem_of_getElem? h2, rfl, h3⟩
      · exact ⟨x', ex ▸ List.getElem_mem (by simpa using hi), rfl, rfl⟩
    have back : ∀ x ∈ es.toList, ∃ x' ∈ es'.toList, x'.key = x.key := by
      intro x hx
      obtain ⟨i, hi, ex⟩ := List.getElem_of_mem hx
      rw [hlist]
      by_cases hij : j = i
      · subst hij
        refine ⟨_, List.getElem_mem (l := es.toList.set j { e0 with key := key, val := val }) (n := j) (by simpa using hi), ?_⟩
        rw [List.getElem_set_self]
        rw [List.getElem?_eq_getElem hi, Option.some.injEq] at h2
        rw [← ex, h2]; exact h3.symm
      · refine ⟨x, ?_, rfl⟩
        have : (es.toList.set j { e0 with key := key, val := val })[i]'(by simpa using hi) = x := by rw [List.getElem_set_ne hij, ex]
        rw [← this]; exact List.getElem_mem _
    have keyeq : ∀ x ∈ es.toList, ∀ x' ∈ es'.toList, x.key = x'.key → (rg P k R x).1 = (rg P k R x').1 := by
      intro x hx x' hx' hk
      obtain ⟨y, hy⟩ := F.reads x hx
      obtain ⟨y', hy'⟩ := F'.reads x' hx'
      rw [rg_of hy, rg_of hy']
      have := rd_key hy
      rw [hk, rd_key hy'] at this
      exact (Option.some.inj this).symm
    have hsz : es'.size = es.size := by rw [hes]; simp
    have hleft : (leftOf es' seen).size = (leftOf es seen).size := by
      have e1 : ∀ a : Array MapEntry, (leftOf a seen).size = (a.toList.filter fun e => !seen.contains e.born).length := fun a => by
        unfold leftOf
        rw [← Array.toList_filter, Array.length_toList]
      rw [e1, e1]
      have hm : (es'.toList.map MapEntry.born) = es.toList.map MapEntry.born := by
        rw [hlist, List.map_set]
        have : (es.toList.map MapEntry.born)[j]? = some e0.born := by rw [List.getElem?_map, h2]; rfl
        apply List.ext_getElem?
        intro i
        by_cases hij : j = i
        · subst hij; rw [List.getElem?_set_self (by simpa using hjl), this]
        · rw [List.getElem?_set_ne hij]
      have key : ∀ l : List MapEntry, (l.filter fun e => !seen.contains e.born).length = ((l.map MapEntry.born).filter fun x => !seen.contains x).length := by
        intro l; rw [List.filter_map, List.length_map]; rfl
      rw [key, key, hm]
    refine ⟨_, hrun', ⟨es', clock, since, seen, c0, heap_setBlock_same hb _, F', by omega, by rw [DataW.put_eq, hput'], (heap_setBlock_other hb _ hne).trans hr, fun x' hx' => ?_, hleft, fun x' hx' => ?_, fun x0 hx0 => ?_, hsc, hsk⟩, ⟨es, clock, es', clock, hb, rfl⟩⟩
    · obtain ⟨x, hx, e1, _⟩ := who x' hx'
      rw [← e1]; exact hold x hx
    · obtain ⟨x, hx, e1, e2⟩ := who x' hx'
      rw [← keyeq x hx x' hx' e2, hl1 x hx, e1]
    · obtain ⟨x, hx, e1⟩ := hl2 x0 hx0
      obtain ⟨x', hx', e2⟩ := back x hx
      exact ⟨x', hx', by rw [← keyeq x hx x' hx' e2.symm, e1]⟩

/-- A range over the map under way. -/
def MRange (w : World) (P : Program) (k : TypeId) (b r n : Nat) (f : Lit → Option Value) (left : Lit → Bool) (cnt : Nat) : Prop := ∃ D, w.ranges P k raw b r n D left cnt ∧ ∀ l, lookD D l = f l
theorem MRange.lmap (h : MRange w P k b r n f left cnt) : LMap w P k b n f := by obtain ⟨D, h, hf⟩ := h; exact ⟨D, h.owns, hf⟩
theorem MRange.kept {S : Nat → Prop} {w' : World} (h : MRange w P k b r n f left cnt) (g : Only S w w') (hb : ¬ S b) (hr : ¬ S r) : MRange w' P k b r n f left cnt := by
  obtain ⟨D, h, hf⟩ := h
  have h1 := h.owns.lt
  have h2 := h.lt
  obtain ⟨es, clock, since, seen, c0, hb', F, hs, hD, hr', rest⟩ := h
  exact ⟨D, ⟨es, clock, since, seen, c0, (g.block b h1 hb).trans hb', F, hs, hD, (g.block r h2 hr).trans hr', rest⟩, hf⟩
theorem MRange.grew {w' : World} (h : MRange w P k b r n f left cnt) (g : Grew w w') : MRange w' P k b r n f left cnt := h.kept (g.only fun _ => False) (fun h => h) (fun h => h)
theorem MRange.left_eq (h : MRange w P k b r n f left cnt) : w.rangeLeft b r = cnt := by obtain ⟨D, h, _⟩ := h; exact h.left_eq
theorem MRange.lt (h : MRange w P k b r n f left cnt) : r < w.heap.size := by obtain ⟨D, h, _⟩ := h; exact h.lt
theorem MRange.ne (h : MRange w P k b r n f left cnt) : r ≠ b := by obtain ⟨D, h, _⟩ := h; exact h.ne
theorem wpList_range_M {ops : Array Oper} {rest : List Oper} {o : Oper} {a : Act} {Q : Exit → Act → World → Prop} (hg : o.guard = none) (m : Operand) (hop : o.op = Op.range t m) (K : Keyed P k) (ht : P.underlying t = some (.map k e))
    (hm : a.eval m = .map (some b)) (h : LMap w P k b n f)
    (hK : ∀ w' left cnt, MRange w' P k b w.heap.size n f left cnt → (∀ l, left l = false → f l = none) → Grew w w' → w'.heap.size = w.heap.size + 1 → wpList P ops Q rest (a.put o.dst (.pointer (some ⟨w.heap.size, 0, none⟩))) w') :
    wpList P ops Q (o :: rest) a w := by
  obtain ⟨D, h, hf⟩ := h
  exact wpList_range_own w hg m t hop k e K ht raw b n D hm h fun w' h1 h2 h3 => hK w' _ _ ⟨D, h1, hf⟩ (fun l hl => by rw [← hf]; unfold lookD; rw [if_neg (by rw [hl]; simp)]) ((Only.of_grownBy h2).grew (fun j hj => by cases hj)) h3
theorem wpList_next_M {ops : Array Oper} {rest : List Oper} {o : Oper} {a : Act} {Q : Exit → Act → World → Prop} (hg : o.guard = none) (it : Operand) (hop : o.op = Op.next it false) (hk : P.underlying k = some .string) (K : Keyed P k) (r : Nat) (left : Lit → Bool) (cnt : Nat)
    (hit : a.eval it = .pointer (some ⟨r, 0, none⟩)) (h : MRange w P k b r n f left cnt)
    (hDone : (∀ l, left l = false) → wpList P ops Q rest (a.put o.dst (.tuple #[.bool false])) w)
    (hMore : ∀ (s : ByteArray) (v : Value) (w' : World) (cnt' : Nat), s.size ≤ maxLen → left (mlit s) = true → f (mlit s) = some v → MRange w' P k b r n f (fun z => left z && !z.sameKey (mlit s)) cnt' → cnt' < cnt → Only (fun j => j = r) w w' → w'.heap.size = w.heap.size → (Instr.entry (.pointer (some ⟨r, 0, none⟩))).run P w' = .ok (.tuple #[.string s, v]) w' → wpList P ops Q rest (a.put o.dst (.tuple #[.bool true, .string s, v])) w') :
    wpList P ops Q (o :: rest) a w := by
  obtain ⟨D, h, hf⟩ := h
  refine wpList_next_ranges w hg it hop k K raw (Value.string) (fun v : Value => v) (fun key kl hkey => by
    cases key <;> simp [keyOf, hk, mapKey] at hkey
    exact ⟨_, rfl⟩) (fun v y _ => ⟨v, rfl⟩) b r n D left cnt hit h (fun _ h0 => hDone h0) ?_
  intro s v kl y w' cnt' hkey hl hv hat hrg hlt hgr hsz hen
  have hkl : s.size ≤ maxLen ∧ kl = mlit s := by
    simp only [keyOf, hk, mapKey] at hkey
    split at hkey
    · next hs => exact ⟨by simpa using hs, (Option.some.inj hkey).symm⟩
    · cases hkey
  obtain ⟨hsz0, hkl⟩ := hkl
  subst hkl
  cases hv
  have hlook : f (mlit s) = some v := by
    rw [← hf]
    unfold lookD
    rw [if_pos (has_true_of_atKey hat), hat]
  exact hMore s v w' cnt' hsz0 hl hlook ⟨D, hrg, hf⟩ hlt ((Only.of_grownBy hgr).mono fun j hj => .inl (Option.some.inj hj)) hsz hen
theorem MRange.store {key val : Value} {l : Lit} (h : MRange w P k b r n f left cnt) (K : Keyed P k) (ht : P.underlying t = some (.map k e)) (hn : n < maxLen) (hkey : keyOf P k key = some l) (hf : f l ≠ none) :
    ∃ w', (Instr.mapUpdate t (.map (some b)) key val).run P w = .ok () w' ∧ MRange w' P k b r n (lset f l (some val)) left cnt ∧ w.mapTurned w' b := by
  obtain ⟨D, h, hf'⟩ := h
  have hm := h.owns.isMap
  have hl := K.key hkey
  have hhas : Maps.has D l = true := by
    cases hh : Maps.has D l with
    | true => rfl
    | false => exact absurd (by rw [← hf' l]; unfold lookD; rw [if_neg (by rw [hh]; simp)]) hf
  obtain ⟨w', hrun, h1, h2⟩ := ranges_store h K ht hkey (val := val) (d := .held val) (ps := []) rfl hn hhas
  refine ⟨w', hrun, ⟨_, h1, fun m => ?_⟩, h2⟩
  unfold lset
  split
  · next he => subst he; unfold lookD; rw [has_put_same hm hl, atKey_put_same hm hl]; rfl
  · next he => rw [← hf']; unfold lookD; rw [has_put_other he, atKey_put_other he]
theorem MRange.drop {key : Value} {l : Lit} (h : MRange w P k b r n f left cnt) (K : Keyed P k) (ht : P.underlying t = some (.map k e)) (hkey : keyOf P k key = some l) (ty : TypeId) :
    ∃ w' cnt', (Builtin.delete_ #[t, k] ty #[.map (some b), key]).run P w = .ok (.tuple #[]) w' ∧ MRange w' P k b r n (lset f l none) (fun x => left x && !x.sameKey l) cnt' ∧ cnt' ≤ cnt ∧ w.mapTurned w' b := by
  obtain ⟨D, h, hf⟩ := h
  obtain ⟨w', cnt', hrun, h1, h2, h3⟩ := h.drop K ht hkey ty
  refine ⟨w', cnt', hrun, ⟨_, h1, fun m => ?_⟩, h2, h3⟩
  unfold lset
  split
  · next he => subst he; unfold lookD; rw [has_del_same]; rfl
  · next he => rw [← hf]; unfold lookD; rw [has_del_other he, atKey_del_other he]
theorem wpList_update_M {ops : Array Oper} {rest : List Oper} {o : Oper} {a : Act} {Q : Exit → Act → World → Prop} (hg : o.guard = none) (m x v : Operand) (hop : o.op = Op.mapUpdate t m x v) (K : Keyed P k) (ht : P.underlying t = some (.map k e))
    (hm : a.eval m = .map (some b)) (h : MRange w P k b r n f left cnt) (hn : n < maxLen) (key val : Value) (l : Lit) (hx : a.eval x = key) (hv : a.eval v = val) (hkey : keyOf P k key = some l) (hf : f l ≠ none)
    (hK : ∀ w', MRange w' P k b r n (lset f l (some val)) left cnt → Only (fun j => j = b) w w' → wpList P ops Q rest (a.put o.dst undef) w') : wpList P ops Q (o :: rest) a w := by
  refine wpList_plain hg fun K' hK' => ?_
  obtain ⟨w', hrun, r1, r2⟩ := h.store K ht hn hkey (val := val) hf
  unfold Oper.wp
  simp [execOp, hop, hm, hx, hv, hrun, Result.andThen]
  exact hK' _ _ (hK w' r1 (Only.of_turned r2))
theorem wpList_delete_M {ops : Array Oper} {rest : List Oper} {o : Oper} {a : Act} {Q : Exit → Act → World → Prop} (hg : o.guard = none) (m x : Operand) (hop : o.op = Op.call { callee := Callee.builtin Builtin.delete, args := #[m, x], argTypes := #[t, k] }) (K : Keyed P k) (ht : P.underlying t = some (.map k e))
    (hm : a.eval m = .map (some b)) (h : MRange w P k b r n f left cnt) (key : Value) (l : Lit) (hx : a.eval x = key) (hkey : keyOf P k key = some l)
    (hK : ∀ w' cnt', MRange w' P k b r n (lset f l none) (fun x => left x && !x.sameKey l) cnt' → cnt' ≤ cnt → Only (fun j => j = b) w w' → wpList P ops Q rest (a.put o.dst (.tuple #[])) w') : wpList P ops Q (o :: rest) a w := by
  refine wpList_plain hg fun K' hK' => ?_
  obtain ⟨w', cnt', hrun, r1, r3, r2⟩ := h.drop K ht hkey o.type
  unfold Oper.wp
  simp [execOp, hop, resolve, invoke, builtin, hm, hx, hrun, Result.andThen]
  exact hK' _ _ (hK w' cnt' r1 r3 (Only.of_turned r2))
end

/-- A map's keys, as texts: no key twice, each there. -/
def keysD (D : DataW Value) : List ByteArray := (strKeys D).map fun l => ⟨l.toArray⟩
theorem ownsMap_keys {w : World} {P : Program} {k : TypeId} {b n : Nat} {D : DataW Value} (h : w.ownsMap P k raw b n D) (K : Keyed P k) (hk : P.underlying k = some .string) :
    (keysD D).Nodup ∧ (∀ s, s ∈ keysD D ↔ lookD D (mlit s) ≠ none) ∧ (keysD D).length ≤ n ∧ Maps.size D ≤ n := by
  obtain ⟨es, hD, hpw, _⟩ := h.entries K
  obtain ⟨es', hD', hko⟩ := h.keysOf
  obtain rfl : es = es' := by rw [hD] at hD'; simpa using hD'
  have hstr : ∀ p ∈ es, ∃ x, p.1 = .string x := fun p hp => by obtain ⟨v, hv⟩ := hko p hp; obtain ⟨x, _, hx, _⟩ := Maps.keyOf_str hk hv; exact ⟨x, hx⟩
  have hin : ∀ l : List UInt8, (⟨⟨l⟩⟩ : ByteArray).data.toList = l := fun l => rfl
  have hkd : keysD D = es.map fun p => ⟨⟨strOf p.1⟩⟩ := by rw [hD]; unfold keysD strKeys; rw [List.map_map]; rfl
  have hlen : es.length ≤ n := by
    obtain ⟨es2, clock, hb, F, hs, hD2⟩ := h
    rw [hD] at hD2
    have e1 : es = (es2.toList.map (rg P k raw)).foldr DataW.insert [] := by injection hD2
    rw [e1, length_sorted]
    simpa using hs
  rw [hkd]
  refine ⟨?_, fun s => ?_, by rw [List.length_map]; exact hlen, by rw [hD]; exact hlen⟩
  · refine List.pairwise_map.2 (hpw.imp_of_mem fun {p q} hp' hq' hne e => hne ?_)
    obtain ⟨a, ha⟩ := hstr p hp'
    obtain ⟨c, hc⟩ := hstr q hq'
    rw [ha, hc] at e ⊢
    have e2 : a = c := by injection e with e1; injection e1
    rw [e2]
  · constructor
    · intro hs
      obtain ⟨p, hp, rfl⟩ := List.mem_map.1 hs
      obtain ⟨a, ha⟩ := hstr p hp
      have hhas : Maps.has D (mlit ⟨⟨strOf p.1⟩⟩) = true := by
        rw [hD]
        refine List.any_eq_true.2 ⟨p, hp, ?_⟩
        rw [ha]; simp [mlit, strOf, Lit.sameKey]
      obtain ⟨es2, clock, hb, F, _, hD2⟩ := h
      rw [hD2] at hhas
      obtain ⟨p2, hp2, hpk⟩ := List.any_eq_true.1 hhas
      obtain ⟨x, hx, rfl⟩ := List.mem_map.1 (mem_sorted.1 hp2)
      obtain ⟨y, hy⟩ := F.reads x hx
      obtain ⟨z, hz, hzd⟩ := rd_val hy
      have hkk : keyOf P k x.key = some (mlit ⟨⟨strOf p.1⟩⟩) := by
        have := WideAt.sameKey_eq hpk
        rw [rg_of hy] at this
        rw [← this]; exact rd_key hy
      unfold lookD
      rw [hD2, if_pos hhas]
      have hat := (atKey_sorted (es2.toList.map (rg P k raw)) (Maps.fit_rising K F) _ (K.key hkk)).2 (rg P k raw x) (List.mem_map.2 ⟨x, hx, rfl⟩) (WideAt.sameKey_eq hpk)
      rw [hat, rg_of hy, hzd]
      cases hz
      simp
    · intro hs
      unfold lookD at hs
      by_cases hh : Maps.has D (mlit s) = true
      · rw [hD] at hh
        obtain ⟨p, hp, hpk⟩ := List.any_eq_true.1 hh
        refine List.mem_map.2 ⟨p, hp, ?_⟩
        rw [WideAt.sameKey_eq hpk]
        obtain ⟨⟨a⟩⟩ := s
        rfl
      · rw [if_neg hh] at hs; exact absurd rfl hs
theorem LMap.keys {w : World} {P : Program} {k : TypeId} {b n : Nat} {f : Lit → Option Value} (h : LMap w P k b n f) (K : Keyed P k) (hk : P.underlying k = some .string) :
    ∃ ks : List ByteArray, ks.Nodup ∧ (∀ s, s ∈ ks ↔ f (mlit s) ≠ none) ∧ ks.length ≤ n := by
  obtain ⟨D, h, hf⟩ := h
  obtain ⟨h1, h2, h3, _⟩ := ownsMap_keys h K hk
  exact ⟨_, h1, fun s => by rw [h2, hf], h3⟩

/-- What is still to come, summed over a list of keys. -/
def sumLeft (g : ByteArray → Nat) (left : Lit → Bool) (ks : List ByteArray) : Nat := (ks.map fun s => if left (mlit s) = true then g s else 0).sum
theorem sumLeft_none (g : ByteArray → Nat) (left : Lit → Bool) (ks : List ByteArray) (h : ∀ l, left l = false) : sumLeft g left ks = 0 := by
  unfold sumLeft
  induction ks with
  | nil => rfl
  | cons a ks ih => rw [List.map_cons, List.sum_cons, ih, h]; simp
theorem sumLeft_all (g : ByteArray → Nat) (left : Lit → Bool) (ks : List ByteArray) (h : ∀ s ∈ ks, left (mlit s) = true) : sumLeft g left ks = (ks.map g).sum := by
  unfold sumLeft
  congr 1
  refine List.map_congr_left fun s hs => ?_
  rw [if_pos (h s hs)]
theorem sumLeft_step (g : ByteArray → Nat) (left : Lit → Bool) (s : ByteArray) (hl : left (mlit s) = true) : ∀ (ks : List ByteArray), ks.Nodup → s ∈ ks → sumLeft g left ks = g s + sumLeft g (fun z => left z && !z.sameKey (mlit s)) ks := by
  have off : ∀ ks : List ByteArray, s ∉ ks → sumLeft g (fun z => left z && !z.sameKey (mlit s)) ks = sumLeft g left ks := by
    intro ks hs
    unfold sumLeft
    congr 1
    refine List.map_congr_left fun t ht => ?_
    have e1 : (mlit t).sameKey (mlit s) = false := by rw [mlit_same, decide_eq_false (fun e : t = s => hs (e ▸ ht))]
    simp [e1]
  intro ks
  induction ks with
  | nil => intro _ h; cases h
  | cons a ks ih =>
    intro hn hs
    obtain ⟨hn1, hn2⟩ := List.nodup_cons.1 hn
    by_cases ha : a = s
    · subst ha
      have h1 := off ks hn1
      unfold sumLeft at h1 ⊢
      have e1 : (mlit a).sameKey (mlit a) = true := by rw [mlit_same, decide_eq_true rfl]
      rw [List.map_cons, List.sum_cons, List.map_cons, List.sum_cons, h1, hl]
      simp [e1]
    · have hs' : s ∈ ks := by rcases List.mem_cons.1 hs with e | e; exact absurd e.symm ha; exact e
      have h1 := ih hn2 hs'
      unfold sumLeft at h1 ⊢
      have e1 : (mlit a).sameKey (mlit s) = false := by rw [mlit_same, decide_eq_false ha]
      rw [List.map_cons, List.sum_cons, List.map_cons, List.sum_cons, h1]
      simp only [e1, Bool.not_false, Bool.and_true]
      omega
end Go.Proofs.YtapchoppcaacdaaGreatDoor
