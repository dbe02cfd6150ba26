/- A map from a key to its pair that goes with a table: what stands in it, how long it is, a range over it. -/
import Derived.Test.YtbkombicbgjlnaaDoorTab2
import Derived.Maps.RangeWalk
import Derived.Maps.OwnSet
import Derived.StringKeys
namespace Go.Proofs.YtbkombicbgjlnaaDoor
open Go.RowKit Go.Maps

/-- A text as a map's key. -/
def klit (s : ByteArray) : Lit := .string s.data.toList
theorem klit_inj {s t : ByteArray} (h : klit s = klit t) : s = t := by
  unfold klit at h
  have h1 : s.data.toList = t.data.toList := by injection h
  obtain ⟨⟨a⟩⟩ := s
  obtain ⟨⟨b⟩⟩ := t
  exact congrArg (fun l : List UInt8 => (⟨⟨l⟩⟩ : ByteArray)) h1
/-- The map holds just the pairs of xs. -/
structure FIs (f : Lit → Option Value) (xs : List Pr) : Prop where
  to : ∀ c ∈ xs, f (klit c.key) = some c.agg
  of : ∀ l v, f l = some v → ∃ c ∈ xs, l = klit c.key ∧ v = c.agg
theorem fis_nil : FIs (fun _ => none) [] := ⟨by simp, by intro l v h; cases h⟩
theorem lset_at (f : Lit → Option Value) (l : Lit) (v : Option Value) : lset f l v l = v := by unfold lset; rw [if_pos rfl]
theorem lset_off (f : Lit → Option Value) (l : Lit) (v : Option Value) (m : Lit) (h : m ≠ l) : lset f l v m = f m := by unfold lset; rw [if_neg h]
theorem FIs.put {f : Lit → Option Value} {xs : List Pr} (h : FIs f xs) (hs : Pl.Srt xs) {p : Pr} (hp : Pl.keyN p.key = 0) : FIs (lset f (klit p.key) (some p.agg)) (Pl.tput xs p) := by
  refine ⟨?_, ?_⟩
  · intro c hc
    rcases (Pl.mem_put hs hp c).1 hc with rfl | ⟨hc, hne⟩
    · exact lset_at _ _ _
    · rw [lset_off _ _ _ _ (fun e => hne (klit_inj e))]; exact h.to c hc
  · intro l v hf
    by_cases hl : l = klit p.key
    · subst hl
      rw [lset_at] at hf; cases hf
      exact ⟨p, (Pl.mem_put hs hp p).2 (.inl rfl), rfl, rfl⟩
    · rw [lset_off _ _ _ _ hl] at hf
      obtain ⟨c, hc, rfl, rfl⟩ := h.of l v hf
      exact ⟨c, (Pl.mem_put hs hp c).2 (.inr ⟨hc, fun e => hl (by rw [e])⟩), rfl, rfl⟩
theorem FIs.del {f : Lit → Option Value} {xs : List Pr} (h : FIs f xs) (hs : Pl.Srt xs) (k : ByteArray) : FIs (lset f (klit k) none) (Pl.tdel xs k) := by
  refine ⟨?_, ?_⟩
  · intro c hc
    obtain ⟨hc, hne⟩ := (Pl.mem_del hs k c).1 hc
    rw [lset_off _ _ _ _ (fun e => hne (klit_inj e))]; exact h.to c hc
  · intro l v hf
    by_cases hl : l = klit k
    · subst hl
      rw [lset_at] at hf; cases hf
    · rw [lset_off _ _ _ _ hl] at hf
      obtain ⟨c, hc, rfl, rfl⟩ := h.of l v hf
      exact ⟨c, (Pl.mem_del hs k c).2 ⟨hc, fun e => hl (by rw [e])⟩, rfl, rfl⟩
theorem FIs.at {f : Lit → Option Value} {xs : List Pr} (h : FIs f xs) (hs : Pl.Srt xs) (k : ByteArray) : f (klit k) = (Pl.getT xs k).map Pr.agg := by
  cases hg : Pl.getT xs k with
  | some c =>
    obtain ⟨hc, rfl⟩ := Pl.getT_some hs hg
    exact h.to c hc
  | none =>
    cases hf : f (klit k) with
    | none => rfl
    | some v =>
      obtain ⟨c, hc, e, _⟩ := h.of _ _ hf
      rw [klit_inj e, Pl.getT_mem hs hc] at hg; cases hg

section
variable {w : World} {P : Program} {k e t : TypeId} {b n : Nat} {f : Lit → Option Value}
/-- How long the map is. -/
theorem LMap.length (h : LMap w P k b n f) (K : Keyed P k) (ht : P.underlying t = some (.map k e)) {z : Value} (hz : (zeroValue e).run P w = .ok z w) {xs : List Pr} (hF : FIs f xs) (hs : Pl.Srt xs) (ty : TypeId) : (Builtin.len_ #[t] ty #[.map (some b)]).run P w = .ok (.int .i64 (xs.length : Nat)) w := by
  obtain ⟨D, h, hf⟩ := h
  rw [h.len ht ty]
  obtain ⟨es, rfl, hne, hkl⟩ := h.entries K
  have hsz : Maps.size (DataW.map es) = xs.length := by
    show es.length = xs.length
    have hperm : (es.map (·.1)).Perm (xs.map fun c => klit c.key) := by
      refine (List.perm_ext_iff_of_nodup ?_ ?_).2 ?_
      · rw [List.Nodup, List.pairwise_map]; exact hne
      · rw [List.Nodup, List.pairwise_map]
        refine hs.rise.imp_of_mem ?_
        intro a b ha hb hlt heq
        rw [klit_inj heq, Pl.compare_self (Pl.ok_key (hs.key b hb))] at hlt
        simp at hlt
      · intro l
        constructor
        · intro hl
          obtain ⟨p, hp, rfl⟩ := List.mem_map.1 hl
          have hh : Maps.has (DataW.map es) p.1 = true := List.any_eq_true.2 ⟨p, hp, WideAt.sameKey_self (hkl p hp)⟩
          have hex : ∃ v, lookD (DataW.map es) p.1 = some v := by
            obtain ⟨es', clock, hb, F, _, hD⟩ := h
            have hp' : p ∈ (es'.toList.map (WideElems.rg P k raw)).foldr DataW.insert [] := by
              have := hD; injection this with e1; rw [← e1]; exact hp
            obtain ⟨x, hx, rfl⟩ := List.mem_map.1 (mem_sorted.1 hp')
            obtain ⟨y, hy⟩ := F.reads x hx
            have hkey : keyOf P k x.key = some (WideElems.rg P k raw x).1 := by rw [WideElems.rg_of hy]; exact WideElems.rd_key hy
            unfold lookD
            rw [if_pos hh, hD]
            rcases Maps.fit_look false K ht hz hb F hkey with ⟨_, h2, _⟩ | ⟨e0, y0, _, _, _, hR, hat, _⟩
            · exact absurd rfl (h2 x hx)
            · rw [hat]
              cases hR
              exact ⟨_, rfl⟩
          obtain ⟨v, hv⟩ := hex
          rw [hf] at hv
          obtain ⟨c, hc, e1, _⟩ := hF.of _ _ hv
          exact List.mem_map.2 ⟨c, hc, e1.symm⟩
        · intro hl
          obtain ⟨c, hc, rfl⟩ := List.mem_map.1 hl
          have hv := hF.to c hc
          rw [← hf] at hv
          have hh : Maps.has (DataW.map es) (klit c.key) = true := by
            unfold lookD at hv
            split at hv
            · assumption
            · cases hv
          obtain ⟨p, hp, hpk⟩ := List.any_eq_true.1 hh
          exact List.mem_map.2 ⟨p, hp, WideAt.sameKey_eq hpk⟩
    have := hperm.length_eq
    simpa using this
  rw [hsz]

/-- A range over the map under way. -/
def LRange (w : World) (P : Program) (k : TypeId) (b r n : Nat) (f : Lit → Option Value) (left : Lit → Bool) (cnt : Nat) : Prop := ∃ D, w.ranges P k raw b r n D left cnt ∧ ∀ l, lookD D l = f l
theorem LRange.lmap {r : Nat} {left : Lit → Bool} {cnt : Nat} (h : LRange w P k b r n f left cnt) : LMap w P k b n f := by obtain ⟨D, h, hf⟩ := h; exact ⟨D, h.owns, hf⟩
theorem LRange.kept {r : Nat} {left : Lit → Bool} {cnt : Nat} {w' : World} (h : LRange w P k b r n f left cnt) (g : Grew w w') : LRange w' P k b r n f left cnt := by
  obtain ⟨D, h, hf⟩ := h
  exact ⟨D, h.kept (row := none) ((g.only fun _ => False).toGrownBy (fun _ h => h.elim)) (by simp) (by simp), hf⟩
theorem LRange.left_eq {r : Nat} {left : Lit → Bool} {cnt : Nat} (h : LRange w P k b r n f left cnt) : w.rangeLeft b r = cnt := by obtain ⟨D, h, _⟩ := h; exact h.left_eq
theorem LRange.lt {r : Nat} {left : Lit → Bool} {cnt : Nat} (h : LRange w P k b r n f left cnt) : r < w.heap.size := by obtain ⟨D, h, _⟩ := h; exact h.lt
theorem wpList_range_L {ops : Array Oper} {rest : List Oper} {o : Oper} {a : Act} {Q : Exit → Act → World → Prop} (hg : o.guard = none) (m : Operand) (hop : o.op = Op.range t m) (K : Keyed P k) (ht : P.underlying t = some (.map k e))
    (hm : a.eval m = .map (some b)) (h : LMap w P k b n f)
    (hK : ∀ w' left cnt, LRange w' P k b w.heap.size n f left cnt → Grew w w' → w'.heap.size = w.heap.size + 1 → wpList P ops Q rest (a.put o.dst (.pointer (some ⟨w.heap.size, 0, none⟩))) w') :
    wpList P ops Q (o :: rest) a w := by
  obtain ⟨D, h, hf⟩ := h
  exact wpList_range_own w hg m t hop k e K ht raw b n D hm h fun w' h1 h2 h3 => hK w' _ _ ⟨D, h1, hf⟩ ((Only.of_grownBy h2).grew (fun j hj => by cases hj)) h3
theorem wpList_next_L {ops : Array Oper} {rest : List Oper} {o : Oper} {a : Act} {Q : Exit → Act → World → Prop} (hg : o.guard = none) (it : Operand) (hop : o.op = Op.next it false) (hk : P.underlying k = some .string) (K : Keyed P k) {xs : List Pr} (hF : FIs f xs) (r : Nat) (left : Lit → Bool) (cnt : Nat)
    (hit : a.eval it = .pointer (some ⟨r, 0, none⟩)) (h : LRange w P k b r n f left cnt)
    (hDone : wpList P ops Q rest (a.put o.dst (.tuple #[.bool false])) w)
    (hMore : ∀ (c : Pr) (w' : World) (left' : Lit → Bool) (cnt' : Nat), c ∈ xs → LRange w' P k b r n f left' cnt' → cnt' < cnt → Only (fun j => j = r) w w' → w'.heap.size = w.heap.size → (Instr.entry (.pointer (some ⟨r, 0, none⟩))).run P w' = .ok (.tuple #[.string c.key, c.agg]) w' → wpList P ops Q rest (a.put o.dst (.tuple #[.bool true, .string c.key, c.agg])) w') :
    wpList P ops Q (o :: rest) a w := by
  obtain ⟨D, h, hf⟩ := h
  refine wpList_next_ranges w hg it hop k K raw (Value.string) (fun v : Value => v) (fun key kl hkey => by
    cases key <;> simp [keyOf, hk, mapKey] at hkey
    exact ⟨_, rfl⟩) (fun v y _ => ⟨v, rfl⟩) b r n D left cnt hit h (fun _ _ => hDone) ?_
  intro s v kl y w' cnt' hkey hl hv hat hrg hlt hgr hsz hen
  have hkl : kl = klit s := by
    simp only [keyOf, hk, mapKey] at hkey
    split at hkey
    · exact (Option.some.inj hkey).symm
    · cases hkey
  subst hkl
  cases hv
  have hlook : f (klit s) = some v := by
    rw [← hf]
    unfold lookD
    rw [if_pos (has_true_of_atKey hat), hat]
  obtain ⟨c, hc, he, rfl⟩ := hF.of _ _ hlook
  obtain rfl := klit_inj he
  exact hMore c w' _ cnt' hc ⟨D, hrg, hf⟩ hlt ((Only.of_grownBy hgr).mono fun j hj => .inl (Option.some.inj hj)) hsz hen
theorem wpList_delete_L {ops : Array Oper} {rest : List Oper} {o : Oper} {a : Act} {Q : Exit → Act → World → Prop} (hg : o.guard = none) (m x : Operand) (hop : o.op = Op.call { callee := Callee.builtin Builtin.delete, args := #[m, x], argTypes := #[t, k] }) (K : Keyed P k) (ht : P.underlying t = some (.map k e))
    (hm : a.eval m = .map (some b)) (h : LMap w P k b n f) (key : Value) (l : Lit) (hx : a.eval x = key) (hkey : keyOf P k key = some l)
    (hK : ∀ w', LMap w' P k b n (lset f l none) → Only (fun j => j = b) w w' → wpList P ops Q rest (a.put o.dst (.tuple #[])) w') : wpList P ops Q (o :: rest) a w := by
  refine wpList_plain hg fun K' hK' => ?_
  obtain ⟨w', hrun, r1, r2⟩ := h.drop K ht hkey o.type
  unfold Oper.wp
  simp [execOp, hop, resolve, invoke, builtin, hm, hx, hrun, Result.andThen]
  exact hK' _ _ (hK w' r1 (Only.of_turned r2))
theorem wpList_update_L {ops : Array Oper} {rest : List Oper} {o : Oper} {a : Act} {Q : Exit → Act → World → Prop} (hg : o.guard = none) (m x v : Operand) (hop : o.op = Op.mapUpdate t m x v) (K : Keyed P k) (ht : P.underlying t = some (.map k e))
    (hm : a.eval m = .map (some b)) (h : LMap w P k b n f) (hn : n < maxLen) (key val : Value) (l : Lit) (hx : a.eval x = key) (hv : a.eval v = val) (hkey : keyOf P k key = some l)
    (hK : ∀ w', LMap w' P k b (n + 1) (lset f l (some val)) → Only (fun j => j = b) w w' → wpList P ops Q rest (a.put o.dst undef) w') : wpList P ops Q (o :: rest) a w := by
  refine wpList_plain hg fun K' hK' => ?_
  obtain ⟨w', hrun, r1, r2⟩ := h.store K ht hn hkey (val := val)
  unfold Oper.wp
  simp [execOp, hop, hm, hx, hv, hrun, Result.andThen]
  exact hK' _ _ (hK w' r1 (Only.of_turned r2))
theorem wpList_len_L {ops : Array Oper} {rest : List Oper} {o : Oper} {a : Act} {Q : Exit → Act → World → Prop} (hg : o.guard = none) (m : Operand) (hop : o.op = Op.call { callee := Callee.builtin Builtin.len, args := #[m], argTypes := #[t] }) (K : Keyed P k) (ht : P.underlying t = some (.map k e)) {z : Value} (hz : (zeroValue e).run P w = .ok z w)
    (hm : a.eval m = .map (some b)) (h : LMap w P k b n f) {xs : List Pr} (hF : FIs f xs) (hs : Pl.Srt xs)
    (hK : wpList P ops Q rest (a.put o.dst (.int .i64 (xs.length : Nat))) w) : wpList P ops Q (o :: rest) a w := by
  refine wpList_plain hg fun K' hK' => ?_
  unfold Oper.wp
  simp [execOp, hop, resolve, invoke, builtin, hm, h.length K ht hz hF hs o.type, Result.andThen]
  exact hK' _ _ hK
end
end Go.Proofs.YtbkombicbgjlnaaDoor
