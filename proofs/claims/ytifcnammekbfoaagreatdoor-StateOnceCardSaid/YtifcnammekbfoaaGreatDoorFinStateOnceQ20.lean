/- ConP0, PkB, CloneU8: one text. -/
import Derived.Test.YtifcnammekbfoaaGreatDoorFinStateOnceQ2
import Derived.Test.YtifcnammekbfoaaGreatDoorFinStateOnceQ16
import Derived.Deep.Upon
import Derived.Lib.AppendZeros
import Derived.Deep.AppendLies
import Derived.Test.YtifcnammekbfoaaGreatDoorFinStateOnceQ1
import Derived.Laws.BytesArg
import Derived.Lib.AppendStr
/- append of pairs to an owned row. -/
namespace Go.Proofs.YtifcnammekbfoaaGreatDoor
open Go.RowKit Go.Maps
attribute [local go_sem] Oper.semAt_some

theorem infoPr : (Tryz.prog.info? 104).map (fun i => (i.zero, i.size, i.bytes)) = some (some (.agg #[.string ⟨#[]⟩, .string ⟨#[]⟩, .int .i64 0]), 3, 40) := by kernel_rfl
/-- The form of a slice's head. -/
def SlForm (a : Option Addr) (cap : Nat) : Prop := (a = none ∧ cap = 0) ∨ ∃ b off, a = some ⟨b, off, none⟩
theorem slForm_of {w : World} {B k : Nat} {e : TypeId} {a : Option Addr} {m n cap : Nat} {L : List Value} (h : w.ownsRow B e k (.slice a m cap) n L) : SlForm a cap := by
  rcases h.2 with ⟨h2, _⟩ | ⟨b, c, cur, e1, _⟩
  · cases h2; exact .inl ⟨rfl, rfl⟩
  · cases e1; exact .inr ⟨_, _, rfl⟩
/-- The cells of a row, one by one. -/
theorem PairRow.cells {W : World} {b off : Nat} {xs : List Pr} (h : PairRow W b off xs) : ∀ j u, (prFlat xs)[j]? = some u → W.cell? ⟨b, off + j, none⟩ = some u := by
  intro j u hj
  have hlt : j < xs.length * 3 := by have := (List.getElem?_eq_some_iff.1 hj).1; rwa [prFlat_length] at this
  have h2 := prFlat_get (j % 3) (Nat.mod_lt _ (by decide)) xs (j / 3) (by omega)
  rw [show j / 3 * 3 + j % 3 = j by omega, hj] at h2
  have q0 := h.key (j / 3) (by omega)
  have q1 := h.val (j / 3) (by omega)
  have q2 := h.ver (j / 3) (by omega)
  have e : off + j = off + j / 3 * 3 + j % 3 := by omega
  have h4 : j % 3 < 3 := Nat.mod_lt _ (by decide)
  rw [e]
  generalize j % 3 = r at *
  unfold Pr.vals at h2
  match r, h4 with
  | 0, _ => simp at h2; rw [h2]; exact q0
  | 1, _ => simp at h2; rw [h2]; exact q1
  | 2, _ => simp at h2; rw [h2]; exact q2

/-- append(own, pairs...), whatever the pairs. -/
theorem wpList_append_pairs {ops : Array Oper} {rest : List Oper} {o : Oper} {a : Act} {Q : Exit → Act → World → Prop} (hgd : o.guard = none) (s x : Operand)
    (ho : o.op = .call { callee := .builtin .append, args := #[s, x], argTypes := #[28, 28] }) {w : World} {B : Nat} {v : Value} {m : Nat} {ys xs : List Pr} (hs : a.eval s = v) (hown : w.ownsRow B 104 3 v m (prFlat ys))
    {ao : Option Addr} {n cap : Nat} (hx : a.eval x = .slice ao n cap) (hn : n = xs.length) (hA : PairsAt w ao xs) (hf : SlForm ao cap) (hbig : m + n ≤ 2000000) (hB : B ≤ w.heap.size)
    (h : ∀ a' cap' w', w'.ownsRow B 104 3 (.slice a' (m + n) cap') (m + n) (prFlat (ys ++ xs)) → w.grownBy w' v.ownBlock → wpList Tryz.prog ops Q rest (a.put o.dst (.slice a' (m + n) cap')) w') : wpList Tryz.prog ops Q (o :: rest) a w := by
  obtain ⟨i0, hi0, hz0, hz1, hz2⟩ := info_parts infoPr
  subst hn
  rcases Nat.eq_zero_or_pos xs.length with h0 | h0
  · have e := List.eq_nil_of_length_eq_zero h0
    subst e
    have hsrc : Src Tryz.prog i0.size 28 (.slice ao 0 cap) 0 [] w := by
      rcases hf with ⟨rfl, rfl⟩ | ⟨b, off, rfl⟩
      · exact Src.ofNil w Tryz.underlying28 0
      · exact Src.ofSlice w Tryz.underlying28 ⟨b, off, none⟩ 0 cap [] (by simp) (fun j u hj => by simp at hj) (fun u hu => by cases hu)
    have hb : ∃ a' cap', v = .slice a' m cap' ∧ m ≤ cap' := by
      rcases hown.2 with ⟨rfl, h2⟩ | ⟨b, c, cur, rfl, _, _, h4, _⟩
      · subst h2; exact ⟨_, _, rfl, Nat.le_refl _⟩
      · exact ⟨_, _, rfl, h4⟩
    obtain ⟨a', cap', rfl, hc⟩ := hb
    exact Lib.wpList_append_run w hgd s x _ _ ho _ _ hs hx _ _ (run_append_nothing w _ _ _ 104 i0 Tryz.underlying28 hi0 a' m cap' hc _ hsrc) (h a' cap' w (by simpa using hown) ⟨rfl, rfl, rfl, Nat.le_refl _, fun _ _ _ => rfl⟩)
  · rcases hA with h1 | ⟨b, off, rfl, hb, hR⟩
    · rw [h1] at h0; simp at h0
    · refine wpList_append_lies w hgd s x 28 ho B 104 i0 _ 3 40 Tryz.underlying28 hi0 hz0 hz1 hz2 rfl (by omega) v m (prFlat ys) hs hown ⟨b, off, none⟩ xs.length cap (prFlat xs) hx (prFlat_length xs) (fun j u hj => by rw [Addr.add_lit]; exact hR.cells j u hj) (prFlat_one' xs) h0 (by unfold maxLen; omega) (by omega) hB _ rfl ?_
      intro g cap2 w2 hown2 hgrow _ _
      rw [← prFlat_append] at hown2
      exact h _ _ _ hown2 hgrow


/-- .. at a run. -/
theorem run_append_pairs {w : World} {B : Nat} {v : Value} {m : Nat} {ys xs : List Pr} (hown : w.ownsRow B 104 3 v m (prFlat ys)) {ao : Option Addr} {n cap : Nat} (hn : n = xs.length) (hA : PairsAt w ao xs) (hf : SlForm ao cap) (hbig : m + n ≤ 2000000) (hB : B ≤ w.heap.size) (ty : TypeId) :
    ∃ a' cap' w', (Builtin.append_ #[28, 28] ty #[v, .slice ao n cap]).run Tryz.prog w = .ok (.slice a' (m + n) cap') w' ∧ w'.ownsRow B 104 3 (.slice a' (m + n) cap') (m + n) (prFlat (ys ++ xs)) ∧ w.grownBy w' v.ownBlock ∧ ∀ g, Value.ownBlock (.slice a' (m + n) cap') = some g → v.ownBlock = some g ∨ g = w.heap.size := by
  obtain ⟨i0, hi0, hz0, hz1, hz2⟩ := info_parts infoPr
  subst hn
  rcases Nat.eq_zero_or_pos xs.length with h0 | h0
  · have e := List.eq_nil_of_length_eq_zero h0
    subst e
    have hsrc : Src Tryz.prog i0.size 28 (.slice ao 0 cap) 0 [] w := by
      rcases hf with ⟨rfl, rfl⟩ | ⟨b, off, rfl⟩
      · exact Src.ofNil w Tryz.underlying28 0
      · exact Src.ofSlice w Tryz.underlying28 ⟨b, off, none⟩ 0 cap [] (by simp) (fun j u hj => by simp at hj) (fun u hu => by cases hu)
    have hb : ∃ a' cap', v = .slice a' m cap' ∧ m ≤ cap' := by
      rcases hown.2 with ⟨rfl, h2⟩ | ⟨b, c, cur, rfl, _, _, h4, _⟩
      · subst h2; exact ⟨_, _, rfl, Nat.le_refl _⟩
      · exact ⟨_, _, rfl, h4⟩
    obtain ⟨a', cap', rfl, hc⟩ := hb
    exact ⟨a', cap', w, run_append_nothing w _ _ _ 104 i0 Tryz.underlying28 hi0 a' m cap' hc _ hsrc, by simpa using hown, ⟨rfl, rfl, rfl, Nat.le_refl _, fun _ _ _ => rfl⟩, fun g h => .inl h⟩
  · rcases hA with h1 | ⟨b, off, rfl, hb, hR⟩
    · rw [h1] at h0; simp at h0
    · obtain ⟨g, cap2, w2, h1, h2, h3, h4, h5⟩ := run_append_lies (P := Tryz.prog) (w := w) 28 ty B 104 i0 _ 3 40 Tryz.underlying28 hi0 hz0 hz1 hz2 rfl (by omega) v m (prFlat ys) hown ⟨b, off, none⟩ xs.length cap (prFlat xs) (prFlat_length xs) (fun j u hj => by rw [Addr.add_lit]; exact hR.cells j u hj) (prFlat_one' xs) h0 (by unfold maxLen; omega) (by omega) hB _ rfl
      rw [← prFlat_append] at h2
      exact ⟨_, _, w2, h1, h2, h3, fun g' hg' => by
        have : g' = g := by simpa [Value.ownBlock] using hg'.symm
        subst this; exact h4⟩
theorem uponV_append_pairs {o : Oper} {a : Act} {w : World} {K : Value → World → Prop} (s x : Operand) (ho : o.op = .call { callee := .builtin .append, args := #[s, x], argTypes := #[28, 28] })
    {B : Nat} {v : Value} {m : Nat} {ys xs : List Pr} (hs : a.eval s = v) (hown : w.ownsRow B 104 3 v m (prFlat ys)) {ao : Option Addr} {n cap : Nat} (hx : a.eval x = .slice ao n cap) (hn : n = xs.length) (hA : PairsAt w ao xs) (hf : SlForm ao cap) (hbig : m + n ≤ 2000000) (hB : B ≤ w.heap.size)
    (h : ∀ r w', w'.ownsRow B 104 3 r (m + n) (prFlat (ys ++ xs)) → w.grownBy w' v.ownBlock → (∀ g, r.ownBlock = some g → v.ownBlock = some g ∨ g = w.heap.size) → K r w') : uponV Tryz.prog K ((execOp a.eval o).run Tryz.prog w) := by
  obtain ⟨a', cap', w', hr, h2, h3, h4⟩ := run_append_pairs hown hn hA hf hbig hB o.type
  unfold execOp
  simp only [ho, resolve, invoke, builtin, Sem.run_bind, Sem.run_pure, Result.andThen_ok, List.map_toArray, List.map_cons, List.map_nil, hs, hx, hr]
  exact h _ _ h2 h3 h4
end Go.Proofs.YtifcnammekbfoaaGreatDoor

/- Bytes in memory: a row of byte cells; numbers and texts as bytes (plain); append of bytes, of a text. -/
set_option linter.unusedVariables false
set_option linter.unusedSectionVars false
set_option linter.unusedSimpArgs false
namespace Go.Proofs.YtifcnammekbfoaaGreatDoor
open Go.RowKit Go.Maps
attribute [local go_sem] Oper.semAt_some

/-- Bytes, as cells. -/
def u8Flat (ns : List Int) : List Value := ns.map (Value.int .u8)
theorem u8Flat_length (ns : List Int) : (u8Flat ns).length = ns.length := by simp [u8Flat]
theorem u8Flat_append (a b : List Int) : u8Flat (a ++ b) = u8Flat a ++ u8Flat b := by simp [u8Flat]
theorem u8Flat_one (ns : List Int) : ∀ u ∈ u8Flat ns, u.oneCell' = true := by
  intro u hu
  obtain ⟨n, _, rfl⟩ := List.mem_map.1 hu
  rfl
/-- A text's bytes, as numbers. -/
def strNums (s : ByteArray) : List Int := s.data.toList.map fun b => (b.toNat : Int)
theorem strNums_length (s : ByteArray) : (strNums s).length = s.size := by
  unfold strNums
  rw [List.length_map, Array.length_toList]; rfl
theorem strNums_flat (s : ByteArray) : u8Flat (strNums s) = Lib.strCells s := by
  unfold u8Flat strNums Lib.strCells
  rw [List.map_map]; rfl
theorem info_u8 : (Tryz.prog.info? 5).map (fun i => (i.zero, i.size, i.bytes)) = some (some (.int .u8 0), 1, 1) := by kernel_rfl

namespace Pl
/-- A number's bytes. -/
def numB (n : Nat) : List Int := if n < 128 then [(n : Int)] else ((n % 128 + 128 : Nat) : Int) :: numB (n / 128)
termination_by n
decreasing_by omega
theorem numB_small {n : Nat} (h : n < 128) : numB n = [(n : Int)] := by rw [numB]; simp [h]
theorem numB_great {n : Nat} (h : ¬ n < 128) : numB n = ((n % 128 + 128 : Nat) : Int) :: numB (n / 128) := by rw [numB]; simp [h]
theorem numB_len (k : Nat) : ∀ n, n < 128 ^ (k + 1) → (numB n).length ≤ k + 1 := by
  induction k with
  | zero => intro n h; rw [numB_small (by simpa using h)]; simp
  | succ k ih =>
    intro n h
    by_cases hn : n < 128
    · rw [numB_small hn]; simp
    · rw [numB_great hn, List.length_cons]
      have := ih (n / 128) (by rw [Nat.div_lt_iff_lt_mul (by decide)]; rw [Nat.pow_succ] at h; exact h)
      omega
theorem numB_pos (n : Nat) : 0 < (numB n).length := by
  by_cases h : n < 128
  · rw [numB_small h]; simp
  · rw [numB_great h]; simp
theorem numB_byte (n : Nat) : ∀ b ∈ numB n, 0 ≤ b ∧ b < 256 := by
  induction n using Nat.strongRecOn with
  | ind n ih =>
    by_cases h : n < 128
    · rw [numB_small h]; intro b hb; rw [List.mem_singleton.1 hb]; omega
    · rw [numB_great h]
      intro b hb
      rcases List.mem_cons.1 hb with rfl | hb
      · omega
      · exact ih (n / 128) (by omega) b hb
/-- A text's bytes. -/
def textB (s : ByteArray) : List Int := numB s.size ++ strNums s
theorem textB_len (s : ByteArray) (h : s.size < 2097152) : (textB s).length ≤ s.size + 3 := by
  unfold textB
  rw [List.length_append, strNums_length]
  have := numB_len 2 s.size (by simpa using h)
  omega
theorem strNums_byte (s : ByteArray) : ∀ b ∈ strNums s, 0 ≤ b ∧ b < 256 := by
  intro b hb
  obtain ⟨u, _, rfl⟩ := List.mem_map.1 hb
  have := u.toNat_lt
  omega
theorem textB_byte (s : ByteArray) : ∀ b ∈ textB s, 0 ≤ b ∧ b < 256 := by
  intro b hb
  rcases List.mem_append.1 hb with hb | hb
  · exact numB_byte _ b hb
  · exact strNums_byte s b hb
end Pl

/-- Bytes that a slice leads to. -/
def BytesAt (W : World) (a : Option Addr) (ns : List Int) : Prop := ns = [] ∨ ∃ b off, a = some ⟨b, off, none⟩ ∧ b < W.heap.size ∧ ∀ j n, ns[j]? = some n → W.cell? ⟨b, off + j, none⟩ = some (.int .u8 n)
theorem BytesAt.kept {S : Nat → Prop} {W W' : World} {a : Option Addr} {ns : List Int} (h : BytesAt W a ns) (g : Only S W W') (hS : ∀ b off, a = some ⟨b, off, none⟩ → ¬ S b) : BytesAt W' a ns := by
  rcases h with h | ⟨b, off, rfl, hb, hc⟩
  · exact .inl h
  · exact .inr ⟨b, off, rfl, Nat.lt_of_lt_of_le hb g.size, fun j n hj => (g.cell hb (hS b off rfl) _).trans (hc j n hj)⟩
theorem BytesAt.grew {W W' : World} {a : Option Addr} {ns : List Int} (h : BytesAt W a ns) (g : Grew W W') : BytesAt W' a ns := h.kept (g.only fun _ => False) (fun _ _ _ h => h)
theorem bytesAt_of {W : World} {B : Nat} {v : Value} {ns : List Int} (h : W.ownsRow B 5 1 v ns.length (u8Flat ns)) : ∃ a cap, v = .slice a ns.length cap ∧ BytesAt W a ns ∧ SlForm a cap ∧ ns.length ≤ cap := by
  rcases h.2 with ⟨h2, h3⟩ | ⟨b, cap, cur, e1, _, hb, hc, _⟩
  · refine ⟨none, 0, ?_, .inl (List.eq_nil_of_length_eq_zero h3), .inl ⟨rfl, rfl⟩, by omega⟩
    rw [h2, h3]
  · refine ⟨_, cap, e1, .inr ⟨b, 0, rfl, (Array.getElem?_eq_some_iff.1 hb).1, fun j n hj => ?_⟩, .inr ⟨_, _, rfl⟩, hc⟩
    have := h.cells (g := b) (by rw [e1]; rfl) j (.int .u8 n) (by unfold u8Flat; rw [List.getElem?_map, hj]; rfl)
    rwa [Addr.add_lit] at this
theorem BytesAt.drop {W : World} {b off : Nat} {ns : List Int} (h : BytesAt W (some ⟨b, off, none⟩) ns) (i : Nat) : BytesAt W (some ⟨b, off + i, none⟩) (ns.drop i) := by
  rcases h with h | ⟨b', off', e, hb, hc⟩
  · exact .inl (by rw [h]; simp)
  · cases e
    refine .inr ⟨b, off + i, rfl, hb, fun j n hj => ?_⟩
    rw [List.getElem?_drop] at hj
    have := hc (i + j) n hj
    rwa [← Nat.add_assoc] at this
theorem BytesAt.take {W : World} {a : Option Addr} {ns : List Int} (h : BytesAt W a ns) (i : Nat) : BytesAt W a (ns.take i) := by
  rcases h with h | ⟨b, off, rfl, hb, hc⟩
  · exact .inl (by rw [h]; simp)
  · refine .inr ⟨b, off, rfl, hb, fun j n hj => ?_⟩
    rw [List.getElem?_take] at hj
    split at hj
    · exact hc j n hj
    · cases hj

/-- append(own, bytes...), at a run. -/
theorem run_append_bytes {w : World} {B : Nat} {v : Value} {m : Nat} {ys xs : List Int} (hown : w.ownsRow B 5 1 v m (u8Flat ys)) {ao : Option Addr} {n cap : Nat} (hn : n = xs.length) (hA : BytesAt w ao xs) (hf : SlForm ao cap) (hbig : m + n ≤ 100000000) (hB : B ≤ w.heap.size) (ty : TypeId) :
    ∃ a' cap' w', (Builtin.append_ #[37, 37] ty #[v, .slice ao n cap]).run Tryz.prog w = .ok (.slice a' (m + n) cap') w' ∧ w'.ownsRow B 5 1 (.slice a' (m + n) cap') (m + n) (u8Flat (ys ++ xs)) ∧ w.grownBy w' v.ownBlock ∧ ∀ g, Value.ownBlock (.slice a' (m + n) cap') = some g → v.ownBlock = some g ∨ g = w.heap.size := by
  obtain ⟨i0, hi0, hz0, hz1, hz2⟩ := info_parts info_u8
  subst hn
  rcases Nat.eq_zero_or_pos xs.length with h0 | h0
  · have e := List.eq_nil_of_length_eq_zero h0
    subst e
    have hsrc : Src Tryz.prog i0.size 37 (.slice ao 0 cap) 0 [] w := by
      rcases hf with ⟨rfl, rfl⟩ | ⟨b, off, rfl⟩
      · exact Src.ofNil w Tryz.underlying37 0
      · exact Src.ofSlice w Tryz.underlying37 ⟨b, off, none⟩ 0 cap [] (by simp) (fun j u hj => by simp at hj) (fun u hu => by cases hu)
    have hb : ∃ a' cap', v = .slice a' m cap' ∧ m ≤ cap' := by
      rcases hown.2 with ⟨rfl, h2⟩ | ⟨b, c, cur, rfl, _, _, h4, _⟩
      · subst h2; exact ⟨_, _, rfl, Nat.le_refl _⟩
      · exact ⟨_, _, rfl, h4⟩
    obtain ⟨a', cap', rfl, hc⟩ := hb
    exact ⟨a', cap', w, run_append_nothing w _ _ _ 5 i0 Tryz.underlying37 hi0 a' m cap' hc _ hsrc, by simpa using hown, ⟨rfl, rfl, rfl, Nat.le_refl _, fun _ _ _ => rfl⟩, fun g h => .inl h⟩
  · rcases hA with h1 | ⟨b, off, rfl, hb, hR⟩
    · rw [h1] at h0; simp at h0
    · obtain ⟨g, cap2, w2, h1, h2, h3, h4, h5⟩ := run_append_lies (P := Tryz.prog) (w := w) 37 ty B 5 i0 _ 1 1 Tryz.underlying37 hi0 hz0 hz1 hz2 rfl (by omega) v m (u8Flat ys) hown ⟨b, off, none⟩ xs.length cap (u8Flat xs) (by rw [u8Flat_length]; omega) (fun j u hj => by
          rw [Addr.add_lit]
          unfold u8Flat at hj
          rw [List.getElem?_map] at hj
          cases hq : xs[j]? with
          | none => rw [hq] at hj; cases hj
          | some q => rw [hq] at hj; cases hj; exact hR j q hq) (u8Flat_one xs) h0 (by unfold maxLen; omega) (by omega) hB _ rfl
      rw [← u8Flat_append] at h2
      exact ⟨_, _, w2, h1, h2, h3, fun g' hg' => by
        have : g' = g := by simpa [Value.ownBlock] using hg'.symm
        subst this; exact h4⟩

/-- append(own, text...), at a run. -/
theorem run_append_text {w : World} {B : Nat} {v : Value} {m : Nat} {ys : List Int} (hown : w.ownsRow B 5 1 v m (u8Flat ys)) (s : ByteArray) (hbig : m + s.size ≤ 100000000) (hB : B ≤ w.heap.size) (ty : TypeId) :
    ∃ v' w', (Builtin.append_ #[37, 9] ty #[v, .string s]).run Tryz.prog w = .ok v' w' ∧ w'.ownsRow B 5 1 v' (m + s.size) (u8Flat (ys ++ strNums s)) ∧ w.grownBy w' v.ownBlock ∧ ∀ g, v'.ownBlock = some g → v.ownBlock = some g ∨ g = w.heap.size := by
  obtain ⟨i0, hi0, hz0, hz1, hz2⟩ := info_parts info_u8
  have hxl : (u8Flat ys).length = m := by simpa using hown.1
  obtain ⟨v', w', hr, h2, h3, h4⟩ := Lib.run_append_own_string (P := Tryz.prog) w B 37 9 ty 5 i0 Tryz.underlying37 Tryz.underlying9 hi0 hz0 hz1 hz2 v m (u8Flat ys) hown s (by unfold maxLen; omega) (by omega) hB
  refine ⟨v', w', hr, by rw [u8Flat_append, strNums_flat]; exact h2, h3, fun g hg => ?_⟩
  rcases hown.2 with ⟨rfl, rfl⟩ | ⟨b, cap, cur, rfl, hbg, hb, hnc, hcm, hcs, htake⟩
  · by_cases hm : s.size = 0
    · rw [(h4.2 ⟨rfl, hm⟩)] at hg; cases hg
    · have hr2 := run_append_nil_string (P := Tryz.prog) w 37 9 ty 5 i0 (.int .u8 0) Tryz.underlying37 Tryz.underlying9 hi0 hz0 s (by omega) (by omega) (by rw [hz2]; omega)
      rw [hr] at hr2
      cases hr2
      exact .inr (by simpa [Value.ownBlock] using hg.symm)
  · by_cases hroom : m + s.size ≤ cap
    · have hr2 := Lib.run_append_room_string (P := Tryz.prog) w 37 9 ty 5 i0 Tryz.underlying37 Tryz.underlying9 hi0 hz1 b m cap cur hb s hroom (by omega)
      rw [hr] at hr2
      cases hr2
      exact .inl hg
    · have hr2 := Lib.run_append_grow_string (P := Tryz.prog) w 37 9 ty 5 i0 (.int .u8 0) Tryz.underlying37 Tryz.underlying9 hi0 hz0 ⟨b, 0, none⟩ m cap (u8Flat ys) (by rw [hz1, hxl]; omega) (fun j u hj => hown.cells (g := b) rfl j u hj) s (by omega) (by omega) (by rw [hz2]; exact growslice_fits (by omega) (by omega))
      rw [hr] at hr2
      cases hr2
      exact .inr (by simpa [Value.ownBlock] using hg.symm)
end Go.Proofs.YtifcnammekbfoaaGreatDoor

/- The walk of slices.Clone at a struct (printed by gen_slices.py). -/

set_option linter.unusedVariables false
set_option linter.unusedSectionVars false
set_option linter.unusedSimpArgs false
namespace Go.Proofs.YtifcnammekbfoaaGreatDoor
open Go.RowKit Go.Maps
attribute [local go_sem] Oper.semAt_some

theorem infoCU8 : (Tryz.prog.info? 5).map (fun i => (i.zero, i.size, i.bytes)) = some (some (.int .u8 0), 1, 1) := by kernel_rfl
theorem zcCU8 : (Value.cells (.int .u8 0)).size = 1 := by kernel_rfl

theorem eqCU8 (gb off m c : Nat) (w : World) : (binOp .eql 37 (.slice (some ⟨gb, off, none⟩) m c) (.slice none 0 0)).run Tryz.prog w = .ok (.bool false) w := by kernel_rfl
theorem eqCnU8 (w : World) : (binOp .eql 37 (.slice none 0 0) (.slice none 0 0)).run Tryz.prog w = .ok (.bool true) w := by kernel_rfl
set_option maxRecDepth 100000 in
set_option maxHeartbeats 1000000 in
/-- slices.Clone of a row of at least one. -/
theorem cloneU8 (w : World) (gb off m c : Nat) (hm : 0 < m) (hbig : m ≤ 1000000) (news : List Value) (hl : news.length = m * 1) (hnews : ∀ j u, news[j]? = some u → w.cell? ⟨gb, off + j, none⟩ = some u) (h1 : ∀ u ∈ news, u.oneCell' = true) :
    Calls Tryz.prog 113 #[.slice (some ⟨gb, off, none⟩) m c] w fun e w' => ∃ g cap, e = .returned (.slice (some ⟨g, 0, none⟩) m cap) ∧ w'.ownsRow w.heap.size 5 1 (.slice (some ⟨g, 0, none⟩) m cap) m news ∧ Grew w w' := by
  obtain ⟨i0, hi0, hz0, hz1, hz2⟩ := info_parts infoCU8
  have had : gb < w.heap.size := by
    have h0 : 0 < news.length := by omega
    have h2 := World.block_lt_of_cell? _ _ (hnews 0 news[0] (List.getElem?_eq_getElem h0))
    exact h2
  have HN : Hid (∀ (t : TypeId) j u, news[j]? = some u → (w.alloc (.cells #[] t)).cell? ⟨gb, off + j, none⟩ = some u) := fun t j u hj => by
    have := hnews j u hj
    rw [← this]
    exact ((Grew.refl w).alloc _).below.cell (World.block_lt_of_cell? _ _ this)
  have HL := hid hl
  have H1 := hid h1
  have HO := hid (fun (t : TypeId) (h : t = 5) => show (w.alloc (.cells #[] t)).ownsRow w.heap.size 5 1 (.slice (some ⟨w.heap.size, 0, none⟩) 0 0) 0 [] from by
    subst h
    exact ownsRow_of_block (cur := []) (Nat.le_refl _) (heap_alloc_new w _) (Nat.le_refl _) (by decide) rfl rfl)
  clear hnews hl h1
  have hEq := eqCU8 gb off m c
  go_enter Tryz.func113, Tryz.ntmps113
  go_wp2_with (at_builtin; refine wpList_append_lies _ rfl _ _ 37 rfl w.heap.size 5 i0 _ 1 1 Tryz.underlying37 hi0 hz0 hz1 hz2 zcCU8 (by omega) (.slice (some ⟨w.heap.size, 0, none⟩) 0 0) 0 [] rfl (HO.out _ rfl) ⟨gb, off, none⟩ m c news rfl HL.out (fun j u hj => by rw [Addr.add_lit]; exact HN.out _ j u hj) H1.out (by omega) (by unfold maxLen; omega) (by omega) (by simp) _ rfl ?_)
  intro g cap w1 hown hgrow hat hlt
  have HO := hid hown
  have HG := hid hgrow
  clear hown hgrow hat
  go_wp2_with fail
  go_ret
  refine ⟨g, cap, by simp, by simpa using HO.out, ?_⟩
  refine (((Grew.refl w).alloc _).only (fun j => some j = Value.ownBlock (.slice (some ⟨w.heap.size, 0, none⟩) 0 0))).then (Only.of_grownBy HG.out) |>.grew ?_
  intro j hj
  have : j = w.heap.size := Option.some.inj hj
  omega

set_option maxRecDepth 100000 in
/-- .. of nothing. -/
theorem cloneNilU8 (w : World) : Calls Tryz.prog 113 #[.slice none 0 0] w fun e w' => e = .returned (.slice none 0 0) ∧ Grew w w' := by
  have hEq := eqCnU8
  go_enter Tryz.func113, Tryz.ntmps113
  go_wp2_with fail
  go_ret
  exact ⟨rfl, Grew.refl w⟩

set_option maxRecDepth 100000 in
/-- .. of a slice that is empty, and isn't nil: a block of its own, without a cell. -/
theorem cloneZeroU8 (w : World) (gb off c : Nat) : Calls Tryz.prog 113 #[.slice (some ⟨gb, off, none⟩) 0 c] w fun e w' => e = .returned (.slice (some ⟨w.heap.size, 0, none⟩) 0 0) ∧ w'.ownsRow w.heap.size 5 1 (.slice (some ⟨w.heap.size, 0, none⟩) 0 0) 0 [] ∧ Grew w w' := by
  obtain ⟨i0, hi0, hz0, hz1, hz2⟩ := info_parts infoCU8
  have HO := hid (fun (t : TypeId) (h : t = 5) => show (w.alloc (.cells #[] t)).ownsRow w.heap.size 5 1 (.slice (some ⟨w.heap.size, 0, none⟩) 0 0) 0 [] from by
    subst h
    exact ownsRow_of_block (cur := []) (Nat.le_refl _) (heap_alloc_new w _) (Nat.le_refl _) (by decide) rfl rfl)
  have HG := hid (fun (t : TypeId) => (Grew.refl w).alloc (.cells #[] t))
  have hS : ∀ W : World, Src Tryz.prog i0.size 37 (.slice (some ⟨gb, off, none⟩) 0 c) 0 [] W := fun W => Src.ofSlice W Tryz.underlying37 ⟨gb, off, none⟩ 0 c [] (by simp) (fun j u hj => by simp at hj) (fun u hu => by cases hu)
  have HS := hid hS
  clear hS
  have hEq := eqCU8 gb off 0 c
  go_enter Tryz.func113, Tryz.ntmps113
  go_wp2_with (at_builtin; refine Lib.wpList_append_run _ rfl _ _ _ _ rfl _ _ rfl rfl _ _ (run_append_nothing _ 37 37 _ 5 i0 Tryz.underlying37 hi0 _ 0 0 (Nat.le_refl _) _ (HS.out _)) ?_)
  go_wp2_with fail
  go_ret
  exact ⟨rfl, HO.out _ rfl, HG.out _⟩
end Go.Proofs.YtifcnammekbfoaaGreatDoor
