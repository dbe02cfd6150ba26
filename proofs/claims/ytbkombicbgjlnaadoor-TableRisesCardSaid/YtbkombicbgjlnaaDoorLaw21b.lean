/- The walk of tidewaterlaw21.TableRises: the acts. -/
import Derived.Test.YtbkombicbgjlnaaDoorLaw21
import Derived.Test.YtbkombicbgjlnaaDoorMapT
namespace Go.Proofs.YtbkombicbgjlnaaDoor
open Go.RowKit Go.Maps
attribute [local go_sem] Oper.semAt_some

namespace Pl
/-- What a table is behind an act. -/
def step21 (T : List Pr) (a : Act21) : List Pr := if a.kind = 1 then tdel T a.key else putT T ⟨a.key, a.val, a.ver⟩
def play21 (xs : List Act21) : List Pr := xs.foldl step21 []
theorem play21_snoc (xs : List Act21) (k : Nat) (h : k < xs.length) : play21 (xs.take (k + 1)) = step21 (play21 (xs.take k)) (actAt21 xs k) := by
  unfold play21
  rw [List.take_succ_eq_append_getElem h, actAt21_eq xs k h, List.foldl_append]; rfl
theorem putT_length (xs : List Pr) (p : Pr) : (putT xs p).length ≤ xs.length + 1 := by
  unfold putT; split
  · exact tput_length xs p
  · omega
end Pl
theorem str_key : Keyed Tryd.prog 9 := string_keyed Tryd.underlying9
theorem zero_pair (w : World) : (zeroValue 38).run Tryd.prog w = .ok (.agg #[.string ⟨#[]⟩, .string ⟨#[]⟩, .int .i64 0]) w := by kernel_rfl

/-- The table and the map, which tell the same. -/
def BothAt (B wr : World) (tb mb n : Nat) (T : List Pr) : Prop :=
  ∃ F f, TabAt wr F tb T ∧ (∀ j, F j → B.heap.size ≤ j) ∧ LMap wr Tryd.prog 9 mb n f ∧ FIs f T ∧ ¬ F mb ∧ B.heap.size ≤ mb ∧ Grew B wr
theorem BothAt.grew {B wr w' : World} {tb mb n : Nat} {T : List Pr} (h : BothAt B wr tb mb n T) (g : Grew wr w') : BothAt B w' tb mb n T := by
  obtain ⟨F, f, h1, h2, h3, h4, h5, h6, h7⟩ := h
  exact ⟨F, f, h1.grew g, h2, h3.grew g, h4, h5, h6, h7.trans g⟩
theorem TabAt.srt {w : World} {F : Nat → Prop} {tb : Nat} {xs : List Pr} (h : TabAt w F tb xs) : Pl.Srt xs := by obtain ⟨v, h⟩ := h; exact h.srt
theorem TabAt.sz {w : World} {F : Nat → Prop} {tb : Nat} {xs : List Pr} (h : TabAt w F tb xs) : ∀ c ∈ xs, c.key.size ≤ 70368744177664 := by obtain ⟨v, h⟩ := h; exact h.sz
/-- The table has turned; the map stands. -/
theorem TabTurn.map {B w w' : World} {F : Nat → Prop} {tb mb n : Nat} {ys : List Pr} {f : Lit → Option Value} (h : TabTurn w F tb ys w') (hF : ∀ j, F j → B.heap.size ≤ j) (hm : LMap w Tryd.prog 9 mb n f) (hmF : ¬ F mb) (g : Grew B w) :
    Grew B w' ∧ LMap w' Tryd.prog 9 mb n f ∧ ∃ F', TabAt w' F' tb ys ∧ (∀ j, F' j → B.heap.size ≤ j) ∧ ¬ F' mb := by
  obtain ⟨h1, F', h2, h3⟩ := h
  refine ⟨((g.only F).then h1).grew hF, hm.kept h1 hmF, F', h2, fun j hj => ?_, fun hj => ?_⟩
  · rcases h3 j hj with h | h
    · exact hF j h
    · have := g.size; omega
  · rcases h3 mb hj with h | h
    · exact hmF h
    · have := hm.lt; omega

section
variable {S : Nat → Bool} (hS : TabS S) (E : Nat → Addr) (B : World) (tb mb : Nat)
include hS
/-- One act: a delete. -/
theorem act_del {wr W : World} (hE : Errs S E wr) {k : Nat} {T : List Pr} (hB : BothAt B wr tb mb k T) (gW : Grew wr W) (hx : T.length ≤ 1000000) (key : ByteArray) (hy : key.size ≤ 300) :
    Calls Tryd.prog 35 #[.pointer (some ⟨tb, 0, none⟩), .string key] W fun e w' => e = .returned (.bool (Pl.getT T key).isSome) ∧ (∀ q o, wr.heap.size ≤ q → q < W.heap.size → w'.cell? ⟨q, o, none⟩ = W.cell? ⟨q, o, none⟩) ∧ W.heap.size ≤ w'.heap.size ∧ Grew B w' ∧ ∃ F f, LMap w' Tryd.prog 9 mb k f ∧ FIs f T ∧ Pl.Srt T ∧ B.heap.size ≤ mb ∧ TabAt w' F tb (Pl.tdel T key) ∧ (∀ j, F j → B.heap.size ≤ j) ∧ ¬ F mb := by
  obtain ⟨F, f, h1, h2, h3, h4, h5, h6, h7⟩ := hB
  have hs := h1.srt
  have hlt : ∀ j, F j → j < wr.heap.size := by obtain ⟨v, h⟩ := h1; exact h.lt
  refine (delT_any hS E (hE.grew gW) (h1.grew gW) hx key (by omega)).mono ?_
  rintro e w' ⟨rfl, hT⟩
  have ho := hT.1
  obtain ⟨g, hm, F', q1, q2, q3⟩ := hT.map h2 (h3.grew gW) h5 (h7.trans gW)
  exact ⟨rfl, fun q o hq1 hq2 => ho.cell hq2 (fun hf => by have := hlt q hf; omega) o, ho.size, g, F', f, hm, h4, hs, h6, q1, q2, q3⟩
theorem act_put {wr W : World} (hE : Errs S E wr) {k : Nat} {T : List Pr} (hB : BothAt B wr tb mb k T) (gW : Grew wr W) (hx : T.length ≤ 1000000) (key val : ByteArray) (v : Int) (hy : key.size ≤ 300) (hv : val.size ≤ 300) :
    Calls Tryd.prog 36 #[.pointer (some ⟨tb, 0, none⟩), .string key, .string val, .int .i64 v] W fun e w' => e = .returned (errOf E (Pl.putN ⟨key, val, v⟩)) ∧ (∀ q o, wr.heap.size ≤ q → q < W.heap.size → w'.cell? ⟨q, o, none⟩ = W.cell? ⟨q, o, none⟩) ∧ W.heap.size ≤ w'.heap.size ∧ Grew B w' ∧ ∃ F f, LMap w' Tryd.prog 9 mb k f ∧ FIs f T ∧ Pl.Srt T ∧ B.heap.size ≤ mb ∧ TabAt w' F tb (Pl.putT T ⟨key, val, v⟩) ∧ (∀ j, F j → B.heap.size ≤ j) ∧ ¬ F mb := by
  obtain ⟨F, f, h1, h2, h3, h4, h5, h6, h7⟩ := hB
  have hs := h1.srt
  have hlt : ∀ j, F j → j < wr.heap.size := by obtain ⟨v, h⟩ := h1; exact h.lt
  refine (putT_any hS E (hE.grew gW) (h1.grew gW) hx key val v (by omega) (by omega)).mono ?_
  rintro e w' ⟨rfl, hT⟩
  have ho := hT.1
  obtain ⟨g, hm, F', q1, q2, q3⟩ := hT.map h2 (h3.grew gW) h5 (h7.trans gW)
  exact ⟨rfl, fun q o hq1 hq2 => ho.cell hq2 (fun hf => by have := hlt q hf; omega) o, ho.size, g, F', f, hm, h4, hs, h6, q1, q2, q3⟩
end
theorem keyOf_str {s : ByteArray} (h : s.size ≤ 300) : keyOf Tryd.prog 9 (.string s) = some (klit s) := WideMaps.keyOf_string_mk Tryd.underlying9 (by unfold maxLen; omega)
/-- The look-up of a key in the map: what the table has there. -/
theorem BothAt.look {B w : World} {tb mb n : Nat} {T : List Pr} (h : BothAt B w tb mb n T) (key : ByteArray) (hk : key.size ≤ 300) :
    (Instr.lookup 60 (.map (some mb)) (.string key) true).run Tryd.prog w = .ok (.tuple #[((Pl.getT T key).getD Pr.none).agg, .bool (Pl.getT T key).isSome]) w := by
  obtain ⟨F, f, h1, h2, h3, h4, h5, h6, h7⟩ := h
  rw [h3.lookup_ok str_key Tryd.underlying60 (zero_pair _) (keyOf_str hk), h4.at h1.srt]
  cases Pl.getT T key <;> rfl
end Go.Proofs.YtbkombicbgjlnaaDoor
