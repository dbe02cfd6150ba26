/- RgnS, PkB, PkT: one text. -/
import Derived.Test.YtifcnammekbfoaaGreatDoorFinTablePlaysQ12
import Derived.Deep.QuietTactic
import Derived.BigQuiet
import Derived.Test.YtifcnammekbfoaaGreatDoorFinTablePlaysQ1
import Derived.Test.YtifcnammekbfoaaGreatDoorFinTablePlaysQ11
import Derived.Laws.BytesArg
import Derived.Lib.AppendStr
import Derived.Deep.AppendLies
import Derived.Test.YtifcnammekbfoaaGreatDoorFinTablePlaysQ22
/- wpMix shut up in a structure: elaboration does not unfold it (a region with guards that are false). No program in it. -/
namespace Go.Proofs.YtifcnammekbfoaaGreatDoor
open Go.RowKit Go.Maps

structure MixS (P : Program) (ops : Array Oper) (n : Nat) (Z : List Nat) (I : World → Prop) (T : World → World → Prop) (K : Act → Prop) (l : List Oper) (k : Nat) (a : Act) : Prop where
  out : wpMix P ops n Z I T K l k a
section
variable {P : Program} {ops : Array Oper} {n k : Nat} {Z : List Nat} {I : World → Prop} {T : World → World → Prop} {K : Act → Prop} {o : Oper} {l : List Oper} {a : Act}
theorem mixS_nil (h : K a) : MixS P ops n Z I T K [] k a := ⟨wpMix_nil h⟩
theorem mixS_done (hk : decide (k < n) = false) (h : K a) : MixS P ops n Z I T K (o :: l) k a := ⟨wpMix_done hk h⟩
theorem mixS_loose (hk : decide (k < n) = true) (hz : Z.contains k = true) (h : MixS P ops n Z I T K l (k + 1) a) : MixS P ops n Z I T K (o :: l) k a := ⟨wpMix_loose hk hz h.out⟩
theorem mixS_skip (hk : decide (k < n) = true) (hz : Z.contains k = false) (hw : Region.wanted o (yielded ops a.tmps) = false) (h : MixS P ops n Z I T K l (k + 1) (a.put o.dst undef)) : MixS P ops n Z I T K (o :: l) k a := ⟨wpMix_skip hk hz hw h.out⟩
theorem mixS_call (hcall : callB o.op = true) (hk : decide (k < n) = true) (hz : Z.contains k = false) (hw : Region.wanted o (yielded ops a.tmps) = true) {fn : FuncId} {args : Array Value} {v : Value} (hx : ∀ w, (execOp a.eval o).run P w = .ok (.enter fn args) w)
    (hc : ∀ w, I w → Calls P fn args w fun e w' => e = .returned v ∧ T w w') (h : MixS P ops n Z I T K l (k + 1) (a.put o.dst v)) : MixS P ops n Z I T K (o :: l) k a := ⟨wpMix_call hcall hk hz hw hx hc h.out⟩
theorem mixS_plain (hk : decide (k < n) = true) (hz : Z.contains k = false) (hp : plainB o.op = true) (hT : ∀ w, T w w) (hw : Region.wanted o (yielded ops a.tmps) = true)
    (h : ∀ K' : Act → Prop, (∀ a, MixS P ops n Z I T K l (k + 1) a → K' a) → o.quiet P a (fun w => ∃ p : Wd I, w = p.w) K') : MixS P ops n Z I T K (o :: l) k a :=
  ⟨wpMix_plain hk hz hp hT hw fun K' hK => h K' fun a h => hK a h.out⟩
theorem wp_region_mixS {id : Nat} {Q : Exit → Act → World → Prop} {a0 : Act} {w : World} {l : List Oper} (n : Nat) (Z : List Nat) (I : World → Prop) (T : World → World → Prop) (J : (Nat → Bool) → (Nat → Value) → World → Prop) (g : (Nat → Value) → Act → Act)
    (hm : P.follows .mixedOrders = true) (hB : mixB l.toArray n Z = true) (hg : ∀ f a, actGo (fun j => Z.contains j) f l 0 a = g f a)
    (h0 : J (fun _ => false) (fun _ => undef) w.drew) (hI : ∀ L f w, J L f w → I w) (hT : ∀ w, T w w) (hmono : ∀ L f w w', J L f w → T w w' → J L f w')
    (h : MixS P l.toArray n Z I T (fun a => AllZ (LooseStep P l Z J a) Z ∧ ∀ (f : Nat → Value) (w : World), J (fun j => Z.contains j) f w → wpList P l.toArray Q (l.drop n) (g f a) w) l 0 a0) :
    (Code.region id l.toArray true).wp P Q a0 w := wp_region_mix n Z I T J g hm hB hg h0 hI hT hmono h.out
end
/-- Every operation steady. -/
theorem wp_region_still {P : Program} {id : Nat} {Q : Exit → Act → World → Prop} {a0 : Act} {w : World} {l : List Oper} (n : Nat) (hm : P.follows .mixedOrders = true) (hB : mixB l.toArray n [] = true) (hg : ∀ f a, actGo (fun j => ([] : List Nat).contains j) f l 0 a = a)
    (h : MixS P l.toArray n [] (Grew w) Grew (fun a => ∀ (w' : World), Grew w w' → wpList P l.toArray Q (l.drop n) a w') l 0 a0) : (Code.region id l.toArray true).wp P Q a0 w :=
  wp_region_mix n [] (Grew w) Grew (fun _ _ x => Grew w x) (fun _ a => a) hm hB hg (Grew.refl w).drew (fun _ _ _ h => h) Grew.refl (fun _ _ _ _ h g => h.trans g) (by
    have h2 := h.out
    have e : (fun a => ∀ (w' : World), Grew w w' → wpList P l.toArray Q (l.drop n) a w') = (fun a => AllZ (LooseStep P l [] (fun _ _ x => Grew w x) a) [] ∧ ∀ (f : Nat → Value) (w' : World), Grew w w' → wpList P l.toArray Q (l.drop n) a w') := by
      funext a
      exact propext ⟨fun h => ⟨trivial, fun _ => h⟩, fun h => h.2 fun _ => undef⟩
    rw [e] at h2
    exact h2)
end Go.Proofs.YtifcnammekbfoaaGreatDoor

/- Bytes in memory: a row of byte cells; numbers and texts as bytes (plain); append of bytes, of a text. -/
set_option linter.unusedVariables false
set_option linter.unusedSectionVars false
set_option linter.unusedSimpArgs false
namespace Go.Proofs.YtifcnammekbfoaaGreatDoor
open Go.RowKit Go.Maps
attribute [local go_sem] Oper.semAt_some

/-- Bytes, as cells. -/
def u8Flat (ns : List Int) : List Value := ns.map (Value.int .u8)
theorem u8Flat_length (ns : List Int) : (u8Flat ns).length = ns.length := by simp [u8Flat]
theorem u8Flat_append (a b : List Int) : u8Flat (a ++ b) = u8Flat a ++ u8Flat b := by simp [u8Flat]
theorem u8Flat_one (ns : List Int) : ∀ u ∈ u8Flat ns, u.oneCell' = true := by
  intro u hu
  obtain ⟨n, _, rfl⟩ := List.mem_map.1 hu
  rfl
/-- A text's bytes, as numbers. -/
def strNums (s : ByteArray) : List Int := s.data.toList.map fun b => (b.toNat : Int)
theorem strNums_length (s : ByteArray) : (strNums s).length = s.size := by
  unfold strNums
  rw [List.length_map, Array.length_toList]; rfl
theorem strNums_flat (s : ByteArray) : u8Flat (strNums s) = Lib.strCells s := by
  unfold u8Flat strNums Lib.strCells
  rw [List.map_map]; rfl
theorem info_u8 : (Tryz.prog.info? 5).map (fun i => (i.zero, i.size, i.bytes)) = some (some (.int .u8 0), 1, 1) := by kernel_rfl

namespace Pl
/-- A number's bytes. -/
def numB (n : Nat) : List Int := if n < 128 then [(n : Int)] else ((n % 128 + 128 : Nat) : Int) :: numB (n / 128)
termination_by n
decreasing_by omega
theorem numB_small {n : Nat} (h : n < 128) : numB n = [(n : Int)] := by rw [numB]; simp [h]
theorem numB_great {n : Nat} (h : ¬ n < 128) : numB n = ((n % 128 + 128 : Nat) : Int) :: numB (n / 128) := by rw [numB]; simp [h]
theorem numB_len (k : Nat) : ∀ n, n < 128 ^ (k + 1) → (numB n).length ≤ k + 1 := by
  induction k with
  | zero => intro n h; rw [numB_small (by simpa using h)]; simp
  | succ k ih =>
    intro n h
    by_cases hn : n < 128
    · rw [numB_small hn]; simp
    · rw [numB_great hn, List.length_cons]
      have := ih (n / 128) (by rw [Nat.div_lt_iff_lt_mul (by decide)]; rw [Nat.pow_succ] at h; exact h)
      omega
theorem numB_pos (n : Nat) : 0 < (numB n).length := by
  by_cases h : n < 128
  · rw [numB_small h]; simp
  · rw [numB_great h]; simp
theorem numB_byte (n : Nat) : ∀ b ∈ numB n, 0 ≤ b ∧ b < 256 := by
  induction n using Nat.strongRecOn with
  | ind n ih =>
    by_cases h : n < 128
    · rw [numB_small h]; intro b hb; rw [List.mem_singleton.1 hb]; omega
    · rw [numB_great h]
      intro b hb
      rcases List.mem_cons.1 hb with rfl | hb
      · omega
      · exact ih (n / 128) (by omega) b hb
/-- A text's bytes. -/
def textB (s : ByteArray) : List Int := numB s.size ++ strNums s
theorem textB_len (s : ByteArray) (h : s.size < 2097152) : (textB s).length ≤ s.size + 3 := by
  unfold textB
  rw [List.length_append, strNums_length]
  have := numB_len 2 s.size (by simpa using h)
  omega
theorem strNums_byte (s : ByteArray) : ∀ b ∈ strNums s, 0 ≤ b ∧ b < 256 := by
  intro b hb
  obtain ⟨u, _, rfl⟩ := List.mem_map.1 hb
  have := u.toNat_lt
  omega
theorem textB_byte (s : ByteArray) : ∀ b ∈ textB s, 0 ≤ b ∧ b < 256 := by
  intro b hb
  rcases List.mem_append.1 hb with hb | hb
  · exact numB_byte _ b hb
  · exact strNums_byte s b hb
end Pl

/-- Bytes that a slice leads to. -/
def BytesAt (W : World) (a : Option Addr) (ns : List Int) : Prop := ns = [] ∨ ∃ b off, a = some ⟨b, off, none⟩ ∧ b < W.heap.size ∧ ∀ j n, ns[j]? = some n → W.cell? ⟨b, off + j, none⟩ = some (.int .u8 n)
theorem BytesAt.kept {S : Nat → Prop} {W W' : World} {a : Option Addr} {ns : List Int} (h : BytesAt W a ns) (g : Only S W W') (hS : ∀ b off, a = some ⟨b, off, none⟩ → ¬ S b) : BytesAt W' a ns := by
  rcases h with h | ⟨b, off, rfl, hb, hc⟩
  · exact .inl h
  · exact .inr ⟨b, off, rfl, Nat.lt_of_lt_of_le hb g.size, fun j n hj => (g.cell hb (hS b off rfl) _).trans (hc j n hj)⟩
theorem BytesAt.grew {W W' : World} {a : Option Addr} {ns : List Int} (h : BytesAt W a ns) (g : Grew W W') : BytesAt W' a ns := h.kept (g.only fun _ => False) (fun _ _ _ h => h)
theorem bytesAt_of {W : World} {B : Nat} {v : Value} {ns : List Int} (h : W.ownsRow B 5 1 v ns.length (u8Flat ns)) : ∃ a cap, v = .slice a ns.length cap ∧ BytesAt W a ns ∧ SlForm a cap ∧ ns.length ≤ cap := by
  rcases h.2 with ⟨h2, h3⟩ | ⟨b, cap, cur, e1, _, hb, hc, _⟩
  · refine ⟨none, 0, ?_, .inl (List.eq_nil_of_length_eq_zero h3), .inl ⟨rfl, rfl⟩, by omega⟩
    rw [h2, h3]
  · refine ⟨_, cap, e1, .inr ⟨b, 0, rfl, (Array.getElem?_eq_some_iff.1 hb).1, fun j n hj => ?_⟩, .inr ⟨_, _, rfl⟩, hc⟩
    have := h.cells (g := b) (by rw [e1]; rfl) j (.int .u8 n) (by unfold u8Flat; rw [List.getElem?_map, hj]; rfl)
    rwa [Addr.add_lit] at this
theorem BytesAt.drop {W : World} {b off : Nat} {ns : List Int} (h : BytesAt W (some ⟨b, off, none⟩) ns) (i : Nat) : BytesAt W (some ⟨b, off + i, none⟩) (ns.drop i) := by
  rcases h with h | ⟨b', off', e, hb, hc⟩
  · exact .inl (by rw [h]; simp)
  · cases e
    refine .inr ⟨b, off + i, rfl, hb, fun j n hj => ?_⟩
    rw [List.getElem?_drop] at hj
    have := hc (i + j) n hj
    rwa [← Nat.add_assoc] at this
theorem BytesAt.take {W : World} {a : Option Addr} {ns : List Int} (h : BytesAt W a ns) (i : Nat) : BytesAt W a (ns.take i) := by
  rcases h with h | ⟨b, off, rfl, hb, hc⟩
  · exact .inl (by rw [h]; simp)
  · refine .inr ⟨b, off, rfl, hb, fun j n hj => ?_⟩
    rw [List.getElem?_take] at hj
    split at hj
    · exact hc j n hj
    · cases hj

/-- append(own, bytes...), at a run. -/
theorem run_append_bytes {w : World} {B : Nat} {v : Value} {m : Nat} {ys xs : List Int} (hown : w.ownsRow B 5 1 v m (u8Flat ys)) {ao : Option Addr} {n cap : Nat} (hn : n = xs.length) (hA : BytesAt w ao xs) (hf : SlForm ao cap) (hbig : m + n ≤ 100000000) (hB : B ≤ w.heap.size) (ty : TypeId) :
    ∃ a' cap' w', (Builtin.append_ #[37, 37] ty #[v, .slice ao n cap]).run Tryz.prog w = .ok (.slice a' (m + n) cap') w' ∧ w'.ownsRow B 5 1 (.slice a' (m + n) cap') (m + n) (u8Flat (ys ++ xs)) ∧ w.grownBy w' v.ownBlock ∧ ∀ g, Value.ownBlock (.slice a' (m + n) cap') = some g → v.ownBlock = some g ∨ g = w.heap.size := by
  obtain ⟨i0, hi0, hz0, hz1, hz2⟩ := info_parts info_u8
  subst hn
  rcases Nat.eq_zero_or_pos xs.length with h0 | h0
  · have e := List.eq_nil_of_length_eq_zero h0
    subst e
    have hsrc : Src Tryz.prog i0.size 37 (.slice ao 0 cap) 0 [] w := by
      rcases hf with ⟨rfl, rfl⟩ | ⟨b, off, rfl⟩
      · exact Src.ofNil w Tryz.underlying37 0
      · exact Src.ofSlice w Tryz.underlying37 ⟨b, off, none⟩ 0 cap [] (by simp) (fun j u hj => by simp at hj) (fun u hu => by cases hu)
    have hb : ∃ a' cap', v = .slice a' m cap' ∧ m ≤ cap' := by
      rcases hown.2 with ⟨rfl, h2⟩ | ⟨b, c, cur, rfl, _, _, h4, _⟩
      · subst h2; exact ⟨_, _, rfl, Nat.le_refl _⟩
      · exact ⟨_, _, rfl, h4⟩
    obtain ⟨a', cap', rfl, hc⟩ := hb
    exact ⟨a', cap', w, run_append_nothing w _ _ _ 5 i0 Tryz.underlying37 hi0 a' m cap' hc _ hsrc, by simpa using hown, ⟨rfl, rfl, rfl, Nat.le_refl _, fun _ _ _ => rfl⟩, fun g h => .inl h⟩
  · rcases hA with h1 | ⟨b, off, rfl, hb, hR⟩
    · rw [h1] at h0; simp at h0
    · obtain ⟨g, cap2, w2, h1, h2, h3, h4, h5⟩ := run_append_lies (P := Tryz.prog) (w := w) 37 ty B 5 i0 _ 1 1 Tryz.underlying37 hi0 hz0 hz1 hz2 rfl (by omega) v m (u8Flat ys) hown ⟨b, off, none⟩ xs.length cap (u8Flat xs) (by rw [u8Flat_length]; omega) (fun j u hj => by
          rw [Addr.add_lit]
          unfold u8Flat at hj
          rw [List.getElem?_map] at hj
          cases hq : xs[j]? with
          | none => rw [hq] at hj; cases hj
          | some q => rw [hq] at hj; cases hj; exact hR j q hq) (u8Flat_one xs) h0 (by unfold maxLen; omega) (by omega) hB _ rfl
      rw [← u8Flat_append] at h2
      exact ⟨_, _, w2, h1, h2, h3, fun g' hg' => by
        have : g' = g := by simpa [Value.ownBlock] using hg'.symm
        subst this; exact h4⟩

/-- append(own, text...), at a run. -/
theorem run_append_text {w : World} {B : Nat} {v : Value} {m : Nat} {ys : List Int} (hown : w.ownsRow B 5 1 v m (u8Flat ys)) (s : ByteArray) (hbig : m + s.size ≤ 100000000) (hB : B ≤ w.heap.size) (ty : TypeId) :
    ∃ v' w', (Builtin.append_ #[37, 9] ty #[v, .string s]).run Tryz.prog w = .ok v' w' ∧ w'.ownsRow B 5 1 v' (m + s.size) (u8Flat (ys ++ strNums s)) ∧ w.grownBy w' v.ownBlock ∧ ∀ g, v'.ownBlock = some g → v.ownBlock = some g ∨ g = w.heap.size := by
  obtain ⟨i0, hi0, hz0, hz1, hz2⟩ := info_parts info_u8
  have hxl : (u8Flat ys).length = m := by simpa using hown.1
  obtain ⟨v', w', hr, h2, h3, h4⟩ := Lib.run_append_own_string (P := Tryz.prog) w B 37 9 ty 5 i0 Tryz.underlying37 Tryz.underlying9 hi0 hz0 hz1 hz2 v m (u8Flat ys) hown s (by unfold maxLen; omega) (by omega) hB
  refine ⟨v', w', hr, by rw [u8Flat_append, strNums_flat]; exact h2, h3, fun g hg => ?_⟩
  rcases hown.2 with ⟨rfl, rfl⟩ | ⟨b, cap, cur, rfl, hbg, hb, hnc, hcm, hcs, htake⟩
  · by_cases hm : s.size = 0
    · rw [(h4.2 ⟨rfl, hm⟩)] at hg; cases hg
    · have hr2 := run_append_nil_string (P := Tryz.prog) w 37 9 ty 5 i0 (.int .u8 0) Tryz.underlying37 Tryz.underlying9 hi0 hz0 s (by omega) (by omega) (by rw [hz2]; omega)
      rw [hr] at hr2
      cases hr2
      exact .inr (by simpa [Value.ownBlock] using hg.symm)
  · by_cases hroom : m + s.size ≤ cap
    · have hr2 := Lib.run_append_room_string (P := Tryz.prog) w 37 9 ty 5 i0 Tryz.underlying37 Tryz.underlying9 hi0 hz1 b m cap cur hb s hroom (by omega)
      rw [hr] at hr2
      cases hr2
      exact .inl hg
    · have hr2 := Lib.run_append_grow_string (P := Tryz.prog) w 37 9 ty 5 i0 (.int .u8 0) Tryz.underlying37 Tryz.underlying9 hi0 hz0 ⟨b, 0, none⟩ m cap (u8Flat ys) (by rw [hz1, hxl]; omega) (fun j u hj => hown.cells (g := b) rfl j u hj) s (by omega) (by omega) (by rw [hz2]; exact growslice_fits (by omega) (by omega))
      rw [hr] at hr2
      cases hr2
      exact .inr (by simpa [Value.ownBlock] using hg.symm)
end Go.Proofs.YtifcnammekbfoaaGreatDoor

/- Plain: a table's bytes; what may stand in a table; a sorted row that is put pair by pair is itself. No program in it. -/
set_option linter.unusedVariables false
set_option linter.unusedSimpArgs false
namespace Go.Proofs.YtifcnammekbfoaaGreatDoor
namespace Pl
theorem enc_le4 (c : Nat) : (enc c).length ≤ 4 := by
  unfold enc
  repeat' split
  all_goals simp
theorem runes_cover : ∀ (n : Nat) (l : List UInt8) (r : List Nat), l.length ≤ n → runes l = some r → l.length ≤ 4 * r.length := by
  intro n
  induction n with
  | zero =>
    intro l r hl h
    omega
  | succ n ih =>
    intro l r hl h
    by_cases e : l = []
    · subst e; simp
    · rw [runes_step l e] at h
      cases hs : step1 l with
      | none => rw [hs] at h; cases h
      | some d =>
        rw [hs] at h
        simp only [Option.bind_some, Option.map_eq_some_iff] at h
        obtain ⟨t, ht, rfl⟩ := h
        obtain ⟨c, w⟩ := d
        have hp := step1_pos l e c w hs
        have h4 : w ≤ 4 := by have := (step1_enc l e c w hs).2.1; rw [this]; exact enc_le4 c
        have := ih (l.drop w) t (by simp; omega) ht
        simp at this ⊢
        omega
theorem key_size {k : ByteArray} (h : keyN k = 0) : k.size ≤ 96 := by
  unfold keyN at h
  split at h
  · cases h
  · next l hl =>
    have := runes_cover _ _ _ (Nat.le_refl _) hl
    have hs : k.size = k.data.toList.length := by rw [Array.length_toList]; rfl
    unfold keyL at h
    split at h
    · cases h
    · split at h
      · cases h
      · omega
/-- A pair's bytes; a table's. -/
def pairB (p : Pr) : List Int := textB p.key ++ textB p.val ++ numB p.ver.toNat
def pairsB (P : List Pr) : List Int := P.flatMap pairB
def tabB (P : List Pr) : List Int := numB P.length ++ pairsB P
/-- What may stand in a table. -/
def Good (P : List Pr) : Prop := ∀ c ∈ P, putN c = 0
theorem good_nil : Good [] := fun c h => by cases h
theorem Good.sub {P Q : List Pr} (h : Good P) (hs : Q.Sublist P) : Good Q := fun c hc => h c (hs.subset hc)
theorem Good.take {P : List Pr} (h : Good P) (k : Nat) : Good (P.take k) := h.sub (List.take_sublist k P)
theorem Good.drop {P : List Pr} (h : Good P) (k : Nat) : Good (P.drop k) := h.sub (List.drop_sublist k P)
theorem tdel_sub (P : List Pr) (k : ByteArray) : (tdel P k).Sublist P := by
  unfold tdel
  split
  · have h1 : (P.take (pos P k) ++ P.drop (pos P k + 1)).Sublist (P.take (pos P k) ++ P.drop (pos P k)) :=
      List.Sublist.append (List.Sublist.refl _) (by rw [← List.drop_drop]; exact List.drop_sublist 1 _)
    rwa [List.take_append_drop] at h1
  · exact List.Sublist.refl _
theorem Good.del {P : List Pr} (h : Good P) (k : ByteArray) : Good (tdel P k) := h.sub (tdel_sub P k)
theorem Good.put {P : List Pr} (h : Good P) (p : Pr) : Good (putT P p) := by
  unfold putT
  split
  · next hp =>
    intro c hc
    unfold tput at hc
    rw [List.mem_append, List.mem_append] at hc
    rcases hc with (hc | hc) | hc
    · exact h c (List.mem_of_mem_take hc)
    · rw [List.mem_singleton.1 hc]; exact hp
    · exact h c (List.mem_of_mem_drop hc)
  · exact h
theorem putT_len (P : List Pr) (p : Pr) : (putT P p).length ≤ P.length + 1 := by
  unfold putT; split
  · exact tput_length P p
  · omega
theorem pairB_byte (p : Pr) : ∀ b ∈ pairB p, 0 ≤ b ∧ b < 256 := by
  intro b hb
  unfold pairB at hb
  rw [List.mem_append, List.mem_append] at hb
  rcases hb with (hb | hb) | hb
  · exact textB_byte _ b hb
  · exact textB_byte _ b hb
  · exact numB_byte _ b hb
theorem tabB_byte (P : List Pr) : ∀ b ∈ tabB P, 0 ≤ b ∧ b < 256 := by
  intro b hb
  unfold tabB pairsB at hb
  rw [List.mem_append, List.mem_flatMap] at hb
  rcases hb with hb | ⟨p, _, hb⟩
  · exact numB_byte _ b hb
  · exact pairB_byte p b hb
theorem pairB_len {p : Pr} (h : putN p = 0) : (pairB p).length ≤ 170 := by
  obtain ⟨h1, h2, h3, h4⟩ := putN_zero h
  have k1 := key_size h1
  have a1 := textB_len p.key (by omega)
  have a2 := textB_len p.val (by omega)
  have a3 := numB_len 1 p.ver.toNat (by omega)
  unfold pairB
  rw [List.length_append, List.length_append]
  omega
theorem pairsB_len {P : List Pr} (h : Good P) : (pairsB P).length ≤ P.length * 170 := by
  unfold pairsB
  induction P with
  | nil => simp
  | cons p P ih =>
    have h1 := pairB_len (h p (by simp))
    have h2 := ih (fun c hc => h c (by simp [hc]))
    simp only [List.flatMap_cons, List.length_append, List.length_cons]
    omega
theorem tabB_len {P : List Pr} (h : Good P) (hl : P.length < 2097152) : (tabB P).length ≤ P.length * 170 + 3 := by
  have h1 := pairsB_len h
  have h2 := numB_len 2 P.length (by simpa using hl)
  unfold tabB
  rw [List.length_append]
  omega
theorem pairsB_drop (P : List Pr) (k : Nat) (hk : k < P.length) : pairsB (P.drop k) = pairB (prAt P k) ++ pairsB (P.drop (k + 1)) := by
  unfold pairsB
  rw [prAt_eq P k hk, List.drop_eq_getElem_cons hk, List.flatMap_cons]
theorem pairsB_take (P : List Pr) (k : Nat) (hk : k < P.length) : pairsB (P.take (k + 1)) = pairsB (P.take k) ++ pairB (prAt P k) := by
  unfold pairsB
  rw [prAt_eq P k hk, List.take_succ_eq_append_getElem hk, List.flatMap_append, List.flatMap_cons, List.flatMap_nil, List.append_nil]
/-- The next pair of a sorted row goes behind all. -/
theorem srt_next {P : List Pr} (h : Srt P) (hg : Good P) (k : Nat) (hk : k < P.length) : putT (P.take k) (prAt P k) = P.take (k + 1) ∧ putN (prAt P k) = 0 ∧ (∀ j, j < k → compare (prAt P j).key (prAt P k).key < 0) := by
  rw [prAt_eq P k hk]
  have hm : P[k] ∈ P := List.getElem_mem hk
  have hp := hg _ hm
  have hlt : ∀ c ∈ P.take k, compare c.key P[k].key < 0 := by
    intro c hc
    obtain ⟨j, hj, rfl⟩ := List.mem_take_iff_getElem.1 hc
    exact List.pairwise_iff_getElem.1 h.rise j k (by omega) hk (by omega)
  have hpos : pos (P.take k) P[k].key = (P.take k).length := by
    unfold pos
    rw [List.countP_eq_length]
    intro c hc
    simpa using hlt c hc
  have hhas : hasB (P.take k) P[k].key = false := by
    unfold hasB
    rw [hpos]
    simp
  refine ⟨?_, hp, fun j hj => ?_⟩
  · unfold putT
    rw [if_pos hp]
    unfold tput
    rw [hhas, hpos, List.take_length, List.take_succ_eq_append_getElem hk]
    simp
  · rw [prAt_eq P j (by omega)]
    exact List.pairwise_iff_getElem.1 h.rise j k (by omega) hk hj
end Pl
end Go.Proofs.YtifcnammekbfoaaGreatDoor
