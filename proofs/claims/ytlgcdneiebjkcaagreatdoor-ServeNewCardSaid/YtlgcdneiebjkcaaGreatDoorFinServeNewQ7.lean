/- MapR, Clit, MapI, Uni, Opn: one text. -/
import Derived.Test.YtlgcdneiebjkcaaGreatDoorFinServeNewQ1
import Derived.Maps.RangeWalk
import Derived.Maps.GroupsBeside
import Derived.Sort.KeysCollected
import Derived.StringKeys
import Derived.Maps.Keyed
import Derived.Laws.Externs
import Derived.Test.YtlgcdneiebjkcaaGreatDoorFinServeNewQ6
set_option linter.unusedVariables false
set_option linter.unusedSectionVars false
namespace Go.Proofs.YtlgcdneiebjkcaaGreatDoor
open Go.RowKit Go.Maps Go.ChangeMaps Go.MapKept Go.WideShapes
open Go.WideElems (Fit rd rg pl rd_key rd_val rg_of other_key rd_mk)
def mlit (s : ByteArray) : Lit := .string s.data.toList
section
variable {w : World} {P : Program} {k e t : TypeId} {b n r cnt : Nat} {f : Lit → Option Value} {left : Lit → Bool}
theorem ranges_store {H : Type} {R : Value → Option (DataW H × List MemPlace)} {D : DataW H} (h : w.ranges P k R b r n D left cnt) (K : Keyed P k) (ht : P.underlying t = some (.map k e)) {key val : Value} {kl : Lit} {d : DataW H} {ps : List MemPlace}
    (hkey : keyOf P k key = some kl) (hv : R val = some (d, ps)) (hn : n < maxLen) (hhas : Maps.has D kl = true) : ∃ w', (Instr.mapUpdate t (.map (some b)) key val).run P w = .ok () w' ∧ w'.ranges P k R b r n (D.put kl d) left cnt ∧ w.mapTurned w' b := by
  have hne := h.ne
  obtain ⟨es, clock, since, seen, c0, hb, F, hs, rfl, hr, hold, rfl, hl1, hl2, hsc, hsk⟩ := h
  obtain ⟨es', clock', hrun', F', hput', _, _, _⟩ := Maps.fit_store (R' := R) K ht hb F (Nat.lt_of_le_of_lt hs hn) (fun _ _ _ _ hz => hz) hkey hv
  rcases K.find w hkey es.toList F.keys with ⟨h1, h2⟩ | ⟨j, e0, h1, h2, h3⟩
  · exfalso
    obtain ⟨p, hp, hpk⟩ := List.any_eq_true.1 hhas
    obtain ⟨x, hx, rfl⟩ := List.mem_map.1 (mem_sorted.1 hp)
    obtain ⟨y, hy⟩ := F.reads x hx
    have e1 := WideAt.sameKey_eq hpk
    rw [rg_of hy] at e1
    exact h2 x hx (K.inj (e1 ▸ rd_key hy) hkey)
  · have hj : es[j]? = some e0 := by simpa using h2
    have hjl : j < es.toList.length := (List.getElem?_eq_some_iff.1 h2).1
    have hrun : (Instr.mapUpdate t (.map (some b)) key val).run P w = .ok () (setBlock w b (.map (es.modify j (fun e' => { e' with key := key, val := val })) clock)) := by
      simp [Instr.mapUpdate, run_underlying ht, MapKept.run_getObj_map hb, K.check w false hkey, h1, hj, h3, K.stays w hkey, MapKept.run_setObj_map _ hb, Result.andThen, setBlock]
    have heq := hrun'.symm.trans hrun
    have hblk : setBlock w b (.map es' clock') = setBlock w b (.map (es.modify j (fun e' => { e' with key := key, val := val })) clock) := by injection heq
    have hobj : (Obj.map es' clock') = .map (es.modify j (fun e' => { e' with key := key, val := val })) clock := by
      have h5 := heap_setBlock_same hb (.map es' clock')
      rw [hblk, heap_setBlock_same hb] at h5
      exact (Option.some.inj h5).symm
    have hes : es' = es.modify j (fun e' => { e' with key := key, val := val }) := by injection hobj
    have hcl : clock' = clock := by injection hobj
    have hlist : es'.toList = es.toList.set j { e0 with key := key, val := val } := by
      rw [hes, Array.toList_modify, List.modify_eq_set, h2]; rfl
    rw [hcl] at hrun' F'
    -- whoever stands there now stood there ahead, with the same stamp and the same key
    have who : ∀ x' ∈ es'.toList, ∃ x ∈ es.toList, x.born = x'.born ∧ x.key = x'.key := by
      intro x' hx'
      rw [hlist] at hx'
      obtain ⟨i, hi, ex⟩ := List.getElem_of_mem hx'
      rw [List.getElem_set] at ex
      split at ex
      · subst ex; exact ⟨e0, List.mem_of_getElem? h2, rfl, h3⟩
      · exact ⟨x', ex ▸ List.getElem_mem (by simpa using hi), rfl, rfl⟩
    have back : ∀ x ∈ es.toList, ∃ x' ∈ es'.toList, x'.key = x.key := by
      intro x hx
      obtain ⟨i, hi, ex⟩ := List.getElem_of_mem hx
      rw [hlist]
      by_cases hij : j = i
      · subst hij
        refine ⟨_, List.getElem_mem (l := es.toList.set j { e0 with key := key, val := val }) (n := j) (by simpa using hi), ?_⟩
        rw [List.getElem_set_self]
        rw [List.getElem?_eq_getElem hi, Option.some.injEq] at h2
        rw [← ex, h2]; exact h3.symm
      · refine ⟨x, ?_, rfl⟩
        have : (es.toList.set j { e0 with key := key, val := val })[i]'(by simpa using hi) = x := by rw [List.getElem_set_ne hij, ex]
        rw [← this]; exact List.getElem_mem _
    have keyeq : ∀ x ∈ es.toList, ∀ x' ∈ es'.toList, x.key = x'.key → (rg P k R x).1 = (rg P k R x').1 := by
      intro x hx x' hx' hk
      obtain ⟨y, hy⟩ := F.reads x hx
      obtain ⟨y', hy'⟩ := F'.reads x' hx'
      rw [rg_of hy, rg_of hy']
      have := rd_key hy
      rw [hk, rd_key hy'] at this
      exact (Option.some.inj this).symm
    have hsz : es'.size = es.size := by rw [hes]; simp
    have hleft : (leftOf es' seen).size = (leftOf es seen).size := by
      have e1 : ∀ a : Array MapEntry, (leftOf a seen).size = (a.toList.filter fun e => !seen.contains e.born).length := fun a => by
        unfold leftOf
        rw [← Array.toList_filter, Array.length_toList]
      rw [e1, e1]
      have hm : (es'.toList.map MapEntry.born) = es.toList.map MapEntry.born := by
        rw [hlist, List.map_set]
        have : (es.toList.map MapEntry.born)[j]? = some e0.born := by rw [List.getElem?_map, h2]; rfl
        apply List.ext_getElem?
        intro i
        by_cases hij : j = i
        · subst hij; rw [List.getElem?_set_self (by simpa using hjl), this]
        · rw [List.getElem?_set_ne hij]
      have key : ∀ l : List MapEntry, (l.filter fun e => !seen.contains e.born).length = ((l.map MapEntry.born).filter fun x => !seen.contains x).length := by
        intro l; rw [List.filter_map, List.length_map]; rfl
      rw [key, key, hm]
    refine ⟨_, hrun', ⟨es', clock, since, seen, c0, heap_setBlock_same hb _, F', by omega, by rw [DataW.put_eq, hput'], (heap_setBlock_other hb _ hne).trans hr, fun x' hx' => ?_, hleft, fun x' hx' => ?_, fun x0 hx0 => ?_, hsc, hsk⟩, ⟨es, clock, es', clock, hb, rfl⟩⟩
    · obtain ⟨x, hx, e1, _⟩ := who x' hx'
      rw [← e1]; exact hold x hx
    · obtain ⟨x, hx, e1, e2⟩ := who x' hx'
      rw [← keyeq x hx x' hx' e2, hl1 x hx, e1]
    · obtain ⟨x, hx, e1⟩ := hl2 x0 hx0
      obtain ⟨x', hx', e2⟩ := back x hx
      exact ⟨x', hx', by rw [← keyeq x hx x' hx' e2.symm, e1]⟩
def MRange (w : World) (P : Program) (k : TypeId) (b r n : Nat) (f : Lit → Option Value) (left : Lit → Bool) (cnt : Nat) : Prop := ∃ D, w.ranges P k raw b r n D left cnt ∧ ∀ l, lookD D l = f l
theorem MRange.lmap (h : MRange w P k b r n f left cnt) : LMap w P k b n f := by obtain ⟨D, h, hf⟩ := h; exact ⟨D, h.owns, hf⟩
theorem MRange.kept {S : Nat → Prop} {w' : World} (h : MRange w P k b r n f left cnt) (g : Only S w w') (hb : ¬ S b) (hr : ¬ S r) : MRange w' P k b r n f left cnt := by
  obtain ⟨D, h, hf⟩ := h
  have h1 := h.owns.lt
  have h2 := h.lt
  obtain ⟨es, clock, since, seen, c0, hb', F, hs, hD, hr', rest⟩ := h
  exact ⟨D, ⟨es, clock, since, seen, c0, (g.block b h1 hb).trans hb', F, hs, hD, (g.block r h2 hr).trans hr', rest⟩, hf⟩
theorem MRange.grew {w' : World} (h : MRange w P k b r n f left cnt) (g : Grew w w') : MRange w' P k b r n f left cnt := h.kept (g.only fun _ => False) (fun h => h) (fun h => h)
theorem MRange.left_eq (h : MRange w P k b r n f left cnt) : w.rangeLeft b r = cnt := by obtain ⟨D, h, _⟩ := h; exact h.left_eq
theorem MRange.lt (h : MRange w P k b r n f left cnt) : r < w.heap.size := by obtain ⟨D, h, _⟩ := h; exact h.lt
theorem MRange.ne (h : MRange w P k b r n f left cnt) : r ≠ b := by obtain ⟨D, h, _⟩ := h; exact h.ne
theorem wpList_range_M {ops : Array Oper} {rest : List Oper} {o : Oper} {a : Act} {Q : Exit → Act → World → Prop} (hg : o.guard = none) (m : Operand) (hop : o.op = Op.range t m) (K : Keyed P k) (ht : P.underlying t = some (.map k e))
    (hm : a.eval m = .map (some b)) (h : LMap w P k b n f)
    (hK : ∀ w' left cnt, MRange w' P k b w.heap.size n f left cnt → (∀ l, left l = false → f l = none) → Grew w w' → w'.heap.size = w.heap.size + 1 → wpList P ops Q rest (a.put o.dst (.pointer (some ⟨w.heap.size, 0, none⟩))) w') :
    wpList P ops Q (o :: rest) a w := by
  obtain ⟨D, h, hf⟩ := h
  exact wpList_range_own w hg m t hop k e K ht raw b n D hm h fun w' h1 h2 h3 => hK w' _ _ ⟨D, h1, hf⟩ (fun l hl => by rw [← hf]; unfold lookD; rw [if_neg (by rw [hl]; simp)]) ((Only.of_grownBy h2).grew (fun j hj => by cases hj)) h3
theorem MRange.store {key val : Value} {l : Lit} (h : MRange w P k b r n f left cnt) (K : Keyed P k) (ht : P.underlying t = some (.map k e)) (hn : n < maxLen) (hkey : keyOf P k key = some l) (hf : f l ≠ none) :
    ∃ w', (Instr.mapUpdate t (.map (some b)) key val).run P w = .ok () w' ∧ MRange w' P k b r n (lset f l (some val)) left cnt ∧ w.mapTurned w' b := by
  obtain ⟨D, h, hf'⟩ := h
  have hm := h.owns.isMap
  have hl := K.key hkey
  have hhas : Maps.has D l = true := by
    cases hh : Maps.has D l with
    | true => rfl
    | false => exact absurd (by rw [← hf' l]; unfold lookD; rw [if_neg (by rw [hh]; simp)]) hf
  obtain ⟨w', hrun, h1, h2⟩ := ranges_store h K ht hkey (val := val) (d := .held val) (ps := []) rfl hn hhas
  refine ⟨w', hrun, ⟨_, h1, fun m => ?_⟩, h2⟩
  unfold lset
  split
  · next he => subst he; unfold lookD; rw [has_put_same hm hl, atKey_put_same hm hl]; rfl
  · next he => rw [← hf']; unfold lookD; rw [has_put_other he, atKey_put_other he]
theorem MRange.drop {key : Value} {l : Lit} (h : MRange w P k b r n f left cnt) (K : Keyed P k) (ht : P.underlying t = some (.map k e)) (hkey : keyOf P k key = some l) (ty : TypeId) :
    ∃ w' cnt', (Builtin.delete_ #[t, k] ty #[.map (some b), key]).run P w = .ok (.tuple #[]) w' ∧ MRange w' P k b r n (lset f l none) (fun x => left x && !x.sameKey l) cnt' ∧ cnt' ≤ cnt ∧ w.mapTurned w' b := by
  obtain ⟨D, h, hf⟩ := h
  obtain ⟨w', cnt', hrun, h1, h2, h3⟩ := h.drop K ht hkey ty
  refine ⟨w', cnt', hrun, ⟨_, h1, fun m => ?_⟩, h2, h3⟩
  unfold lset
  split
  · next he => subst he; unfold lookD; rw [has_del_same]; rfl
  · next he => rw [← hf]; unfold lookD; rw [has_del_other he, atKey_del_other he]
theorem wpList_delete_M {ops : Array Oper} {rest : List Oper} {o : Oper} {a : Act} {Q : Exit → Act → World → Prop} (hg : o.guard = none) (m x : Operand) (hop : o.op = Op.call { callee := Callee.builtin Builtin.delete, args := #[m, x], argTypes := #[t, k] }) (K : Keyed P k) (ht : P.underlying t = some (.map k e))
    (hm : a.eval m = .map (some b)) (h : MRange w P k b r n f left cnt) (key : Value) (l : Lit) (hx : a.eval x = key) (hkey : keyOf P k key = some l)
    (hK : ∀ w' cnt', MRange w' P k b r n (lset f l none) (fun x => left x && !x.sameKey l) cnt' → cnt' ≤ cnt → Only (fun j => j = b) w w' → wpList P ops Q rest (a.put o.dst (.tuple #[])) w') : wpList P ops Q (o :: rest) a w := by
  refine wpList_plain hg fun K' hK' => ?_
  obtain ⟨w', cnt', hrun, r1, r3, r2⟩ := h.drop K ht hkey o.type
  unfold Oper.wp
  simp [execOp, hop, resolve, invoke, builtin, hm, hx, hrun, Result.andThen]
  exact hK' _ _ (hK w' cnt' r1 r3 (Only.of_turned r2))
end
def keysD (D : DataW Value) : List ByteArray := (strKeys D).map fun l => ⟨l.toArray⟩
theorem ownsMap_keys {w : World} {P : Program} {k : TypeId} {b n : Nat} {D : DataW Value} (h : w.ownsMap P k raw b n D) (K : Keyed P k) (hk : P.underlying k = some .string) :
    (keysD D).Nodup ∧ (∀ s, s ∈ keysD D ↔ lookD D (mlit s) ≠ none) ∧ (keysD D).length ≤ n ∧ Maps.size D ≤ n := by
  obtain ⟨es, hD, hpw, _⟩ := h.entries K
  obtain ⟨es', hD', hko⟩ := h.keysOf
  obtain rfl : es = es' := by rw [hD] at hD'; simpa using hD'
  have hstr : ∀ p ∈ es, ∃ x, p.1 = .string x := fun p hp => by obtain ⟨v, hv⟩ := hko p hp; obtain ⟨x, _, hx, _⟩ := Maps.keyOf_str hk hv; exact ⟨x, hx⟩
  have hin : ∀ l : List UInt8, (⟨⟨l⟩⟩ : ByteArray).data.toList = l := fun l => rfl
  have hkd : keysD D = es.map fun p => ⟨⟨strOf p.1⟩⟩ := by rw [hD]; unfold keysD strKeys; rw [List.map_map]; rfl
  have hlen : es.length ≤ n := by
    obtain ⟨es2, clock, hb, F, hs, hD2⟩ := h
    rw [hD] at hD2
    have e1 : es = (es2.toList.map (rg P k raw)).foldr DataW.insert [] := by injection hD2
    rw [e1, length_sorted]
    simpa using hs
  rw [hkd]
  refine ⟨?_, fun s => ?_, by rw [List.length_map]; exact hlen, by rw [hD]; exact hlen⟩
  · refine List.pairwise_map.2 (hpw.imp_of_mem fun {p q} hp' hq' hne e => hne ?_)
    obtain ⟨a, ha⟩ := hstr p hp'
    obtain ⟨c, hc⟩ := hstr q hq'
    rw [ha, hc] at e ⊢
    have e2 : a = c := by injection e with e1; injection e1
    rw [e2]
  · constructor
    · intro hs
      obtain ⟨p, hp, rfl⟩ := List.mem_map.1 hs
      obtain ⟨a, ha⟩ := hstr p hp
      have hhas : Maps.has D (mlit ⟨⟨strOf p.1⟩⟩) = true := by
        rw [hD]
        refine List.any_eq_true.2 ⟨p, hp, ?_⟩
        rw [ha]; simp [mlit, strOf, Lit.sameKey]
      obtain ⟨es2, clock, hb, F, _, hD2⟩ := h
      rw [hD2] at hhas
      obtain ⟨p2, hp2, hpk⟩ := List.any_eq_true.1 hhas
      obtain ⟨x, hx, rfl⟩ := List.mem_map.1 (mem_sorted.1 hp2)
      obtain ⟨y, hy⟩ := F.reads x hx
      obtain ⟨z, hz, hzd⟩ := rd_val hy
      have hkk : keyOf P k x.key = some (mlit ⟨⟨strOf p.1⟩⟩) := by
        have := WideAt.sameKey_eq hpk
        rw [rg_of hy] at this
        rw [← this]; exact rd_key hy
      unfold lookD
      rw [hD2, if_pos hhas]
      have hat := (atKey_sorted (es2.toList.map (rg P k raw)) (Maps.fit_rising K F) _ (K.key hkk)).2 (rg P k raw x) (List.mem_map.2 ⟨x, hx, rfl⟩) (WideAt.sameKey_eq hpk)
      rw [hat, rg_of hy, hzd]
      cases hz
      simp
    · intro hs
      unfold lookD at hs
      by_cases hh : Maps.has D (mlit s) = true
      · rw [hD] at hh
        obtain ⟨p, hp, hpk⟩ := List.any_eq_true.1 hh
        refine List.mem_map.2 ⟨p, hp, ?_⟩
        rw [WideAt.sameKey_eq hpk]
        obtain ⟨⟨a⟩⟩ := s
        rfl
      · rw [if_neg hh] at hs; exact absurd rfl hs
theorem LMap.keys {w : World} {P : Program} {k : TypeId} {b n : Nat} {f : Lit → Option Value} (h : LMap w P k b n f) (K : Keyed P k) (hk : P.underlying k = some .string) :
    ∃ ks : List ByteArray, ks.Nodup ∧ (∀ s, s ∈ ks ↔ f (mlit s) ≠ none) ∧ ks.length ≤ n := by
  obtain ⟨D, h, hf⟩ := h
  obtain ⟨h1, h2, h3, _⟩ := ownsMap_keys h K hk
  exact ⟨_, h1, fun s => by rw [h2, hf], h3⟩
end Go.Proofs.YtlgcdneiebjkcaaGreatDoor
namespace Go.Proofs.YtlgcdneiebjkcaaGreatDoor
open Go.RowKit Go.Maps
def clit (c : Int) : Lit := .int .i64 c
theorem clit_wf {c : Int} (h1 : -9223372036854775808 ≤ c) (h2 : c < 9223372036854775808) : (Lit.int .i64 c).wf = true := by
  simp [Lit.wf, IntKind.min, IntKind.max, IntKind.bits, IntKind.signed]; try omega
theorem cl_keyed : Keyed Tryz.prog 3 := int_keyed Tryz.underlying3
end Go.Proofs.YtlgcdneiebjkcaaGreatDoor
namespace Go.Proofs.YtlgcdneiebjkcaaGreatDoor
open Go.RowKit Go.Maps Go.ChangeMaps Go.MapKept Go.WideShapes
theorem keyOf_int_inv {P : Program} {k : TypeId} (hk : P.underlying k = some (.int .i64)) {v : Value} {l : Lit} (h : keyOf P k v = some l) : ∃ c : Int, v = .int .i64 c ∧ l = clit c ∧ (Lit.int .i64 c).wf = true := by
  cases v <;> simp [keyOf, hk, mapKey] at h
  obtain ⟨⟨rfl, hw⟩, rfl⟩ := h
  exact ⟨_, rfl, rfl, hw⟩
section
variable {w : World} {P : Program} {k e t : TypeId} {b n r cnt : Nat} {f : Lit → Option Value} {left : Lit → Bool}
theorem wpList_next_MI {ops : Array Oper} {rest : List Oper} {o : Oper} {a : Act} {Q : Exit → Act → World → Prop} (hg : o.guard = none) (it : Operand) (hop : o.op = Op.next it false) (hk : P.underlying k = some (.int .i64)) (K : Keyed P k) (r : Nat) (left : Lit → Bool) (cnt : Nat)
    (hit : a.eval it = .pointer (some ⟨r, 0, none⟩)) (h : MRange w P k b r n f left cnt)
    (hDone : (∀ l, left l = false) → wpList P ops Q rest (a.put o.dst (.tuple #[.bool false])) w)
    (hMore : ∀ (c : Int) (v : Value) (w' : World) (cnt' : Nat), (Lit.int .i64 c).wf = true → left (clit c) = true → f (clit c) = some v → MRange w' P k b r n f (fun z => left z && !z.sameKey (clit c)) cnt' → cnt' < cnt → Only (fun j => j = r) w w' → w'.heap.size = w.heap.size → (Instr.entry (.pointer (some ⟨r, 0, none⟩))).run P w' = .ok (.tuple #[.int .i64 c, v]) w' → wpList P ops Q rest (a.put o.dst (.tuple #[.bool true, .int .i64 c, v])) w') :
    wpList P ops Q (o :: rest) a w := by
  obtain ⟨D, h, hf⟩ := h
  refine wpList_next_ranges w hg it hop k K raw (Value.int .i64) (fun v : Value => v) (fun key kl hkey => by
    obtain ⟨c, rfl, rfl, _⟩ := keyOf_int_inv hk hkey
    exact ⟨_, rfl⟩) (fun v y _ => ⟨v, rfl⟩) b r n D left cnt hit h (fun _ h0 => hDone h0) ?_
  intro c v kl y w' cnt' hkey hl hv hat hrg hlt hgr hsz hen
  obtain ⟨c', e, rfl, hwf⟩ := keyOf_int_inv hk hkey
  cases e
  cases hv
  have hlook : f (clit c) = some v := by
    rw [← hf]
    unfold lookD
    rw [if_pos (has_true_of_atKey hat), hat]
  exact hMore c v w' cnt' hwf hl hlook ⟨D, hrg, hf⟩ hlt ((Only.of_grownBy hgr).mono fun j hj => .inl (Option.some.inj hj)) hsz hen
end
theorem clit_same (a b : Int) : (clit a).sameKey (clit b) = decide (a = b) := by
  by_cases h : a = b
  · subst h; rw [decide_eq_true rfl]; simp [clit, Lit.sameKey]
  · rw [decide_eq_false h]
    refine Maps.sameKey_ne (fun e => h ?_)
    unfold clit at e
    injection e
end Go.Proofs.YtlgcdneiebjkcaaGreatDoor
set_option linter.unusedSimpArgs false
namespace Go.Proofs.YtlgcdneiebjkcaaGreatDoor
open Go.RowKit Go.Maps
attribute [local go_sem] Oper.semAt_some uponV
def ptrFlat (gs : List Nat) : List Value := gs.map fun b => .pointer (some ⟨b, 0, none⟩)
def natFlat (ns : List Nat) : List Value := ns.map fun (n : Nat) => .int .i64 (n : Int)
def KinU (k l : Nat) : Prop := k ≤ l ∧ l < k + 20
structure SegAt (w : World) (L : Nat → Nat) (k gb : Nat) (g : Pl.Sg) : Prop where
  lab : L gb = k + 3 + g.place
  c0 : w.cell? ⟨gb, 0, none⟩ = some (.int .i64 g.place)
  c1 : w.cell? ⟨gb, 1, none⟩ = some (.int .i64 g.num)
  c2 : ∃ rv m xs, m ≤ g.sect ∧ w.cell? ⟨gb, 2, none⟩ = some rv ∧ w.ownsRow 0 98 1 rv m xs ∧ ∀ b, rv.ownBlock = some b → L b = k + 6 + g.place
  c3 : w.cell? ⟨gb, 3, none⟩ = some (.int .i64 ((g.sect + 1 : Nat) : Int))
  fz : ∀ i, w.frozen? ⟨gb, i, none⟩ = false
structure SgIs (w : World) (L : Nat → Nat) (k sb db : Nat) (sv : Value) (gs : List Nat) (S : List Pl.Sg) : Prop where
  lab : L sb = k + 1
  c0 : w.cell? ⟨sb, 0, none⟩ = some (.pointer (some ⟨db, 0, none⟩))
  c1 : w.cell? ⟨sb, 1, none⟩ = some sv
  fz : ∀ i, w.frozen? ⟨sb, i, none⟩ = false
  dev : ∃ G, DkAt w G db 192 0 ∧ ∀ j, G j → L j = k
  row : w.ownsRow 0 163 1 sv S.length (ptrFlat gs)
  rowL : ∀ b, sv.ownBlock = some b → L b = k + 2
  len : gs.length = S.length
  seg : ∀ (i gb : Nat) (g : Pl.Sg), gs[i]? = some gb → S[i]? = some g → SegAt w L k gb g
def PagesAt (w : World) (L : Nat → Nat) (k : Nat) (U : Pl.Un) (f : Lit → Option Value) : Prop :=
  (∀ a : Nat, (∀ bs, U.get a = some bs → ∃ b off c, f (clit a) = some (.slice (some ⟨b, off, none⟩) bs.length c) ∧ BytesAt w (some ⟨b, off, none⟩) bs ∧ b < w.heap.size ∧ L b = k + 19) ∧ (U.get a = none → f (clit a) = none)) ∧ ∀ l, f l ≠ none → ∃ a : Nat, l = clit a
def Pl.insN (U : Pl.Un) (n : Nat) : List Nat := (U.pgs.filter fun p => decide (p.seg = n)).map (·.adr)
def InsAt (w : World) (L : Nat → Nat) (k : Nat) (U : Pl.Un) (f : Lit → Option Value) : Prop :=
  (∀ g ∈ U.segs, (Pl.insN U g.num = [] → f (clit g.num) = none) ∧ (Pl.insN U g.num ≠ [] → ∃ v, f (clit g.num) = some v ∧ w.ownsRow 0 3 1 v (Pl.insN U g.num).length (natFlat (Pl.insN U g.num)) ∧ ∀ b, v.ownBlock = some b → L b = k + 12 + g.place)) ∧ ∀ l, f l ≠ none → ∃ g ∈ U.segs, l = clit g.num
structure UnIs (w : World) (L : Nat → Nat) (k ub sb db mb nb n : Nat) (sv : Value) (gs : List Nat) (f h : Lit → Option Value) (U : Pl.Un) : Prop where
  lab : L ub = k + 9
  labM : L mb = k + 10
  labN : L nb = k + 11
  c0 : w.cell? ⟨ub, 0, none⟩ = some (.pointer (some ⟨sb, 0, none⟩))
  c1 : w.cell? ⟨ub, 1, none⟩ = some (.map (some mb))
  c2 : w.cell? ⟨ub, 2, none⟩ = some (.map (some nb))
  c3 : w.cell? ⟨ub, 3, none⟩ = some (.int .i64 U.trim)
  c4 : w.cell? ⟨ub, 4, none⟩ = some (.int .i64 U.epoch)
  c5 : w.cell? ⟨ub, 5, none⟩ = some (.int .i64 U.top)
  fz : ∀ i, w.frozen? ⟨ub, i, none⟩ = false
  store : SgIs w L k sb db sv gs U.segs
  pm : LMap w Tryz.prog 3 mb n f
  pages : PagesAt w L k U f
  im : LMap w Tryz.prog 3 nb n h
  ins : InsAt w L k U h
def UnAt (w : World) (L : Nat → Nat) (k ub n : Nat) (U : Pl.Un) : Prop := ∃ sb db mb nb sv gs f h, UnIs w L k ub sb db mb nb n sv gs f h U
section
variable {w w' : World} {L L' : Nat → Nat} {T : Nat → Prop} {k ub sb db mb nb n gb : Nat} {sv : Value} {gs : List Nat} {f h : Lit → Option Value} {U : Pl.Un} {S : List Pl.Sg} {g : Pl.Sg}
theorem SegAt.kept (hG : SegAt w L k gb g) (hp : g.place < 3) (o : Only T w w') (hT : ∀ j, j < w.heap.size → T j → ¬ KinU k (L j)) (hL : ∀ j, j < w.heap.size → L' j = L j) : SegAt w' L' k gb g := by
  have hlt := cell_lt hG.c0
  have ht : ¬ T gb := fun t => hT gb hlt t (by rw [hG.lab]; unfold KinU; omega)
  obtain ⟨rv, m, xs, h1, h2, h3, h4⟩ := hG.c2
  refine ⟨(hL gb hlt).trans hG.lab, (o.cell hlt ht 0).trans hG.c0, (o.cell hlt ht 1).trans hG.c1, ⟨rv, m, xs, h1, (o.cell hlt ht 2).trans h2, ownsRow_kept h3 o fun b hb t => hT b (h3.lt b hb).2 t (by rw [h4 b hb]; unfold KinU; omega), fun b hb => (hL b (h3.lt b hb).2).trans (h4 b hb)⟩, (o.cell hlt ht 3).trans hG.c3, fun i => (o.frozen hlt ht i).trans (hG.fz i)⟩
theorem SgIs.kept (hS : SgIs w L k sb db sv gs S) (hp : ∀ g ∈ S, g.place < 3) (o : Only T w w') (hT : ∀ j, j < w.heap.size → T j → ¬ KinU k (L j)) (hL : ∀ j, j < w.heap.size → L' j = L j) : SgIs w' L' k sb db sv gs S := by
  have hlt := cell_lt hS.c0
  have ht : ¬ T sb := fun t => hT sb hlt t (by rw [hS.lab]; unfold KinU; omega)
  obtain ⟨G, h1, h2⟩ := hS.dev
  refine ⟨(hL sb hlt).trans hS.lab, (o.cell hlt ht 0).trans hS.c0, (o.cell hlt ht 1).trans hS.c1, fun i => (o.frozen hlt ht i).trans (hS.fz i), ⟨G, h1.kept o fun j hj t => hT j (h1.lt j hj) t (by rw [h2 j hj]; unfold KinU; omega), fun j hj => (hL j (h1.lt j hj)).trans (h2 j hj)⟩, ownsRow_kept hS.row o fun b hb t => hT b (hS.row.lt b hb).2 t (by rw [hS.rowL b hb]; unfold KinU; omega), fun b hb => (hL b (hS.row.lt b hb).2).trans (hS.rowL b hb), hS.len, fun i gb g h3 h4 => (hS.seg i gb g h3 h4).kept (hp g (List.mem_of_getElem? h4)) o hT hL⟩
theorem PagesAt.kept (hP : PagesAt w L k U f) (o : Only T w w') (hT : ∀ j, j < w.heap.size → T j → ¬ KinU k (L j)) (hL : ∀ j, j < w.heap.size → L' j = L j) : PagesAt w' L' k U f := by
  refine ⟨fun a => ⟨fun bs hb => ?_, (hP.1 a).2⟩, hP.2⟩
  obtain ⟨b, off, c, h1, h2, h3, h4⟩ := (hP.1 a).1 bs hb
  refine ⟨b, off, c, h1, h2.kept o fun b' off' e t => ?_, Nat.lt_of_lt_of_le h3 o.size, (hL b h3).trans h4⟩
  cases e
  exact hT b h3 t (by rw [h4]; unfold KinU; omega)
theorem InsAt.kept (hP : InsAt w L k U h) (hp : ∀ g ∈ U.segs, g.place < 3) (o : Only T w w') (hT : ∀ j, j < w.heap.size → T j → ¬ KinU k (L j)) (hL : ∀ j, j < w.heap.size → L' j = L j) : InsAt w' L' k U h := by
  refine ⟨fun g hg => ⟨((hP.1 g hg).1), fun hn => ?_⟩, hP.2⟩
  obtain ⟨v, h1, h2, h3⟩ := (hP.1 g hg).2 hn
  have := hp g hg
  exact ⟨v, h1, ownsRow_kept h2 o fun b hb t => hT b (h2.lt b hb).2 t (by rw [h3 b hb]; unfold KinU; omega), fun b hb => (hL b (h2.lt b hb).2).trans (h3 b hb)⟩
theorem UnIs.kept (hU : UnIs w L k ub sb db mb nb n sv gs f h U) (hp : ∀ g ∈ U.segs, g.place < 3) (o : Only T w w') (hT : ∀ j, j < w.heap.size → T j → ¬ KinU k (L j)) (hL : ∀ j, j < w.heap.size → L' j = L j) : UnIs w' L' k ub sb db mb nb n sv gs f h U := by
  have hlt := cell_lt hU.c0
  have ht : ¬ T ub := fun t => hT ub hlt t (by rw [hU.lab]; unfold KinU; omega)
  exact ⟨(hL ub hlt).trans hU.lab, (hL mb hU.pm.lt).trans hU.labM, (hL nb hU.im.lt).trans hU.labN, (o.cell hlt ht 0).trans hU.c0, (o.cell hlt ht 1).trans hU.c1, (o.cell hlt ht 2).trans hU.c2, (o.cell hlt ht 3).trans hU.c3, (o.cell hlt ht 4).trans hU.c4, (o.cell hlt ht 5).trans hU.c5, fun i => (o.frozen hlt ht i).trans (hU.fz i), hU.store.kept hp o hT hL,
    hU.pm.kept o (fun t => hT mb hU.pm.lt t (by rw [hU.labM]; unfold KinU; omega)), hU.pages.kept o hT hL, hU.im.kept o (fun t => hT nb hU.im.lt t (by rw [hU.labN]; unfold KinU; omega)), hU.ins.kept hp o hT hL⟩
theorem UnAt.kept (hU : UnAt w L k ub n U) (hp : ∀ g ∈ U.segs, g.place < 3) (o : Only T w w') (hT : ∀ j, j < w.heap.size → T j → ¬ KinU k (L j)) (hL : ∀ j, j < w.heap.size → L' j = L j) : UnAt w' L' k ub n U := by
  obtain ⟨sb, db, mb, nb, sv, gs, f, h, hU⟩ := hU
  exact ⟨sb, db, mb, nb, sv, gs, f, h, hU.kept hp o hT hL⟩
theorem UnAt.grew (hU : UnAt w L k ub n U) (hp : ∀ g ∈ U.segs, g.place < 3) (o : Grew w w') (hL : ∀ j, j < w.heap.size → L' j = L j) : UnAt w' L' k ub n U := hU.kept hp (o.only fun _ => False) (fun _ _ h => h.elim) hL
theorem UnAt.lt (hU : UnAt w L k ub n U) : ub < w.heap.size := by
  obtain ⟨sb, db, mb, nb, sv, gs, f, h, hU⟩ := hU
  exact cell_lt hU.c0
theorem UnAt.lab (hU : UnAt w L k ub n U) : L ub = k + 9 := by
  obtain ⟨sb, db, mb, nb, sv, gs, f, h, hU⟩ := hU
  exact hU.lab
end
end Go.Proofs.YtlgcdneiebjkcaaGreatDoor
namespace Go.Proofs.YtlgcdneiebjkcaaGreatDoor
open Go.RowKit Go.Maps
attribute [local go_sem] Oper.semAt_some uponV
set_option maxRecDepth 100000 in
theorem insSeg0 (c : Value) (w : World) : Calls Tryz.prog 121 #[.slice none 0 0, .int .i64 0, .int .i64 0, c] w fun e w' => e = .returned (.tuple #[]) ∧ w' = w := by
  go_enter Tryz.func121, Tryz.ntmps121
  go_wp2_with fail
  refine wp_loop_rounds 1 ?_
  rw [rounds_succ]
  go_wp2
  go_end0
  exact ⟨rfl, rfl⟩
set_option maxRecDepth 100000 in
theorem stableSeg0 (c : Value) (w : World) : Calls Tryz.prog 89 #[.slice none 0 0, .int .i64 0, c] w fun e w' => e = .returned (.tuple #[]) ∧ w' = w := by
  have H := hid (insSeg0 c w)
  go_enter Tryz.func89, Tryz.ntmps89
  go_wp2_with fail
  refine wp_loop_rounds 1 ?_
  rw [rounds_succ]
  go_wp2_with fail
  refine H.out.mono ?_
  rintro e w1 ⟨rfl, rfl⟩
  go_wp2_with fail
  refine wp_loop_rounds 1 ?_
  rw [rounds_succ]
  go_wp2
  go_end0
  exact ⟨rfl, rfl⟩
set_option maxRecDepth 100000 in
theorem sortSeg0 (c : Value) (w : World) : Calls Tryz.prog 54 #[.slice none 0 0, c] w fun e w' => e = .returned (.tuple #[]) ∧ w' = w := by
  have H := hid (stableSeg0 c w)
  go_enter Tryz.func54, Tryz.ntmps54
  go_wp2_with fail
  refine H.out.mono ?_
  rintro e w1 ⟨rfl, rfl⟩
  go_wp2_with fail
  go_end0
  exact ⟨rfl, rfl⟩
set_option maxRecDepth 100000 in
theorem sgMany_any {w : World} {G : Nat → Prop} {sb db m : Nat} (hs : w.cell? ⟨sb, 0, none⟩ = some (.pointer (some ⟨db, 0, none⟩))) (h : DkAt w G db 192 m) : Calls Tryz.prog 50 #[.pointer (some ⟨sb, 0, none⟩)] w fun e w' => e = .returned (.int .i64 3) ∧ w' = w := by
  have H := hid (dkLen_any h)
  clear h
  go_enter Tryz.func50, Tryz.ntmps50
  go_wp2_with fail
  refine H.out.mono ?_
  rintro e w1 ⟨rfl, rfl⟩
  go_wp2_with fail
  go_ret
  exact ⟨rfl, rfl⟩
set_option maxRecDepth 100000 in
set_option maxHeartbeats 4000000 in
theorem sector0_any {w : World} {G : Nat → Prop} {sb db : Nat} {iv : Value} (hs : w.cell? ⟨sb, 0, none⟩ = some (.pointer (some ⟨db, 0, none⟩))) (h : DkIs w G db 192 iv (.slice none 0 0) (List.replicate 12288 0) []) (p : Nat) (hp : p < 3) :
    Calls Tryz.prog 51 #[.pointer (some ⟨sb, 0, none⟩), .int .i64 p, .int .i64 0] w fun e w' => (∃ b off c, e = .returned (.slice (some ⟨b, off, none⟩) 64 c) ∧ w'.cell? ⟨b, off + 63, none⟩ = some (.int .u8 0)) ∧ Grew w w' := by
  have H := hid (dkRead0_any h (p * 64) (by omega))
  have e1 : ((p * 64 : Nat) : Int) = (p : Int) * 64 := by omega
  rw [e1] at H
  have hx : List.take 64 (List.drop (p * 64 * 64) (List.replicate 12288 (0 : Int))) = List.replicate 64 0 := by
    rw [List.drop_replicate, List.take_replicate]
    congr 1; omega
  rw [hx] at H
  clear h e1 hx
  go_enter Tryz.func51, Tryz.ntmps51
  go_wp2_with fail
  refine H.out.mono ?_
  rintro e w1 ⟨a, c, rfl, hr, hg⟩
  obtain ⟨g, cap, cur, ev, _, hb, hc, _, hl, ht⟩ := ownsRow_block hr (by omega)
  injection ev with ev _ ev2
  subst ev ev2
  have hcell : w1.cell? ⟨g, 0 + 63, none⟩ = some (.int .u8 0) := by
    rw [cell_of_row _ _ _ _ _ _ hb]
    have : (cur.take (64 * 1))[63]? = some (.int .u8 0) := by rw [ht]; rfl
    rw [List.getElem?_take] at this
    split at this
    · simpa using this
    · cases this
  have HC := hid hcell
  have HG := hid hg
  clear hr hb hl ht hcell hg H
  go_wp2_with fail
  go_ret
  exact ⟨⟨g, 0, c, rfl, HC.out⟩, HG.out⟩
def SgNew (w : World) (G : Nat → Prop) (db : Nat) (e : Ending) (w' : World) : Prop :=
  ∃ sb, e = .returned (.tuple #[.pointer (some ⟨sb, 0, none⟩), .nilIface]) ∧ w.heap.size ≤ sb ∧ w'.cell? ⟨sb, 0, none⟩ = some (.pointer (some ⟨db, 0, none⟩)) ∧ w'.cell? ⟨sb, 1, none⟩ = some (.slice none 0 0) ∧ (∀ i, w'.frozen? ⟨sb, i, none⟩ = false) ∧ Grew w w'
set_option maxRecDepth 100000 in
set_option maxHeartbeats 4000000 in
theorem sgOpen0_any {w : World} {G : Nat → Prop} {db : Nat} {iv : Value} (h : DkIs w G db 192 iv (.slice none 0 0) (List.replicate 12288 0) []) :
    Calls Tryz.prog 32 #[.pointer (some ⟨db, 0, none⟩)] w (SgNew w G db) := by
  have H := hid (fun W (k : Grew w W) => h.kept (k.only fun _ => False) (fun _ _ h => h))
  have hS := hid sortSeg0
  clear h
  generalize hQ : SgNew w G db = QQ
  have HQ := hid hQ
  clear hQ
  go_enter Tryz.func32, Tryz.ntmps32
  go_wp2_with fail
  obtain ⟨Y, hY⟩ : ∃ Y, Y = w.alloc (.cells #[.pointer (some ⟨db, 0, none⟩), .slice none 0 0] 161) := ⟨_, rfl⟩
  have gY : Grew w Y := by rw [hY]; exact (Grew.refl w).alloc _
  have y0 : Y.cell? ⟨w.heap.size, 0, none⟩ = some (.pointer (some ⟨db, 0, none⟩)) := by rw [hY]; simp [go_sem]
  have y1 : Y.cell? ⟨w.heap.size, 1, none⟩ = some (.slice none 0 0) := by rw [hY]; simp [go_sem]
  have yf : ∀ i, Y.frozen? ⟨w.heap.size, i, none⟩ = false := fun i => by rw [hY]; simp [go_sem]
  rw [← hY]
  have hlt := cell_lt y0
  clear hY
  have HGY := hid gY
  have HF := hid yf
  refine (sgMany_any y0 ⟨_, _, _, _, rfl, H.out _ gY⟩).mono ?_
  rintro e w1 ⟨rfl, rfl⟩
  go_wp2_with fail
  refine (sgMany_any y0 ⟨_, _, _, _, rfl, H.out _ gY⟩).mono ?_
  rintro e w2 ⟨rfl, rfl⟩
  clear gY yf
  go_wp2_with fail
  go_loopw [5, 6, 16] (fun _ _ i wr => ∃ k : Nat, i = .int .i64 k ∧ k ≤ 3 ∧ Hid (Grew w2 wr)) (fun _ _ i _ => 3 - (intOf i).toNat)
  case atStart => exact ⟨0, rfl, by omega, Grew.refl _⟩
  case round =>
    obtain ⟨k, rfl, hk, HG⟩ := hrel
    have r0 := (HG.out.cells.1 _ 0 hlt).trans y0
    have r1 := (HG.out.cells.1 _ 1 hlt).trans y1
    by_cases hlt3 : k < 3
    · have HS := hid (sector0_any r0 (H.out _ (HGY.out.trans HG.out)) k hlt3)
      go_wp2_with fail
      refine HS.out.mono ?_
      rintro e w3 ⟨⟨b, off, c, rfl, hc⟩, hg⟩
      have HG3 := hid (HG.out.trans hg)
      clear hg HS r0 r1
      go_wp2_with fail
      go_roundw
      case rel => exact ⟨k + 1, by go_num, by omega, HG3⟩
      case measure => simp [intOf]; omega
    · obtain rfl : k = 3 := by omega
      go_wp2_with fail
      refine (hS.out _ _).mono ?_
      rintro e w3 ⟨rfl, rfl⟩
      go_wp2_with fail
      rw [← HQ.out]
      exact ⟨w.heap.size, rfl, Nat.le_refl _, r0, r1, fun i => (HG.out.cells.2 _ i hlt).trans (HF.out i), HGY.out.trans HG.out⟩
end Go.Proofs.YtlgcdneiebjkcaaGreatDoor
