/- The walk of tidewaterlaw21.TableParts. -/
import Derived.Test.YtajoihpjnnnkeaaDoorLaw21
import Derived.Test.YtajoihpjnnnkeaaDoorTabJ
import Derived.Test.YtajoihpjnnnkeaaDoorSamP
namespace Go.Proofs.YtajoihpjnnnkeaaDoor
open Go.RowKit Go.Maps
attribute [local go_sem] Oper.semAt_some

namespace Pl
/-- What a table is behind the puts. -/
def puts21 (xs : List Act21) : List Pr := xs.foldl (fun T a => putT T ⟨a.key, a.val, a.ver⟩) []
theorem puts21_snoc (xs : List Act21) (k : Nat) (h : k < xs.length) : puts21 (xs.take (k + 1)) = putT (puts21 (xs.take k)) ⟨(actAt21 xs k).key, (actAt21 xs k).val, (actAt21 xs k).ver⟩ := by
  unfold puts21
  rw [List.take_succ_eq_append_getElem h, actAt21_eq xs k h, List.foldl_append]; rfl
theorem putT_len (xs : List Pr) (p : Pr) : (putT xs p).length ≤ xs.length + 1 := by
  unfold putT; split
  · exact tput_length xs p
  · omega
theorem scan_whole {T : List Pr} (h : Srt T) (limit : Int) : scanT T ⟨#[]⟩ ⟨#[]⟩ limit = T.take limit.toNat := by unfold scanT; rw [scan_all h]
end Pl

/-- A table, nothing of old turned. -/
def OneT (B wr : World) (tb : Nat) (T : List Pr) : Prop := ∃ F, TabAt wr F tb T ∧ (∀ j, F j → B.heap.size ≤ j) ∧ Grew B wr
theorem OneT.grew {B wr w' : World} {tb : Nat} {T : List Pr} (h : OneT B wr tb T) (g : Grew wr w') : OneT B w' tb T := by
  obtain ⟨F, h1, h2, h3⟩ := h
  exact ⟨F, h1.grew g, h2, h3.trans g⟩
theorem OneT.turn {B w w' : World} {F : Nat → Prop} {tb : Nat} {T : List Pr} (h : TabTurn w F tb T w') (hF : ∀ j, F j → B.heap.size ≤ j) (g : Grew B w) : OneT B w' tb T := by
  obtain ⟨h1, F', h2, h3⟩ := h.grew hF g
  exact ⟨F', h2, h3, h1⟩

/-- A put: the table turns; nothing else does that is not the table's. -/
theorem one_put {S : Nat → Bool} (hS : TabS S) (E : Nat → Addr) {B wr : World} {tb : Nat} {T : List Pr} (hB : OneT B wr tb T) (hE : Errs S E B) (hx : T.length ≤ 1000000) (key val : ByteArray) (v : Int) (hy : key.size ≤ 300) (hv : val.size ≤ 300) (W : World) (gW : Grew wr W) :
    Calls Tryd.prog 25 #[.pointer (some ⟨tb, 0, none⟩), .string key, .string val, .int .i64 v] W fun e w' => (∃ u, e = .returned u) ∧ OneT B w' tb (Pl.putT T ⟨key, val, v⟩) := by
  obtain ⟨F, h1, h2, h3⟩ := hB
  refine (putT_any hS E ((hE.grew h3).grew gW) (h1.grew gW) hx key val v (by omega) (by omega)).mono ?_
  rintro e w' ⟨rfl, hT⟩
  exact ⟨⟨_, rfl⟩, OneT.turn hT h2 (h3.trans gW)⟩
theorem one_scan {S : Nat → Bool} (hS : TabS S) (E : Nat → Addr) {B wr : World} {tb : Nat} {T : List Pr} (hB : OneT B wr tb T) (hE : Errs S E B) (hx : T.length ≤ 1000000) (limit : Int) (W : World) (gW : Grew wr W) :
    Calls Tryd.prog 26 #[.pointer (some ⟨tb, 0, none⟩), .agg #[.string ⟨#[]⟩, .string ⟨#[]⟩], .int .i64 limit] W fun e w' => ∃ a cap, e = .returned (.slice a (T.take limit.toNat).length cap) ∧ w'.ownsRow W.heap.size 64 3 (.slice a (T.take limit.toNat).length cap) (T.take limit.toNat).length (prFlat (T.take limit.toNat)) ∧ Grew W w' := by
  obtain ⟨F, h1, h2, h3⟩ := hB
  refine (scanT_any hS E ((hE.grew h3).grew gW) (h1.grew gW) hx ⟨#[]⟩ ⟨#[]⟩ limit (by decide) (by decide)).mono ?_
  rw [Pl.scan_whole (tabAt_srt h1)]
  rintro e w' ⟨⟨v, rfl, hr⟩, hg⟩
  obtain ⟨a, cap, rfl, _⟩ := pairsAt_of hr
  exact ⟨a, cap, rfl, hr, hg⟩
theorem one_get {S : Nat → Bool} (hS : TabS S) (E : Nat → Addr) {B wr : World} {tb : Nat} {T : List Pr} (hB : OneT B wr tb T) (hE : Errs S E B) (hx : T.length ≤ 1000000) (c : Pr) (hc : c ∈ T) (W : World) (gW : Grew wr W) :
    Calls Tryd.prog 27 #[.pointer (some ⟨tb, 0, none⟩), .string c.key] W fun e w' => e = .returned (.tuple #[c.agg, .bool true]) ∧ Grew W w' := by
  obtain ⟨F, h1, h2, h3⟩ := hB
  have := getTab_any hS E ((hE.grew h3).grew gW) (h1.grew gW) hx c.key (tabAt_sz h1 c hc)
  rw [Pl.getT_mem (tabAt_srt h1) hc] at this
  exact this

/-- Two tables that a cut left, and a row of pairs apart. -/
def TwoT (B wr : World) (tb ob : Nat) (Y Z : List Pr) (v : Value) (T : List Pr) : Prop := ∃ F G, TabAt wr F tb Y ∧ TabAt wr G ob Z ∧ (∀ j, F j → B.heap.size ≤ j) ∧ Grew B wr ∧ wr.ownsRow B.heap.size 64 3 v T.length (prFlat T) ∧ ∀ g, v.ownBlock = some g → ¬ F g
theorem one_cut {B wr W : World} {tb : Nat} {T : List Pr} (hB : OneT B wr tb T) (gW : Grew wr W) {v : Value} (hv : W.ownsRow wr.heap.size 64 3 v T.length (prFlat T)) (hx : T.length ≤ 1000000) (key : ByteArray) (hy : key.size ≤ 70368744177664) (W' : World) (gW' : Grew W W') :
    Calls Tryd.prog 29 #[.pointer (some ⟨tb, 0, none⟩), .string key] W' fun e w' => ∃ ob, e = .returned (.pointer (some ⟨ob, 0, none⟩)) ∧ TwoT B w' tb ob (T.take (Pl.cutN T key)) (T.drop (Pl.cutN T key)) v T := by
  obtain ⟨F, h1, h2, h3⟩ := hB
  refine (cutT_any (h1.grew (gW.trans gW')) hx key hy).mono ?_
  rintro e w' ⟨ob, rfl, hO, F', G, q1, q2, q3, q4⟩
  have hlt := tabAt_lt h1
  have s1 := gW.size
  have s2 := gW'.size
  have s3 := h3.size
  have hg : ∀ g, v.ownBlock = some g → wr.heap.size ≤ g ∧ g < W.heap.size := fun g hg => hv.lt g hg
  refine ⟨ob, rfl, F', G, q1, q2, fun j hj => ?_, (((h3.trans (gW.trans gW')).only F).then hO).grew h2, ?_, fun g hgg hF => ?_⟩
  · rcases q3 j hj with h | h
    · exact h2 j h
    · omega
  · have hk := ownsRow_kept (ownsRow_grew gW' hv) hO (fun b hb hF => by have := (hg b hb).1; have := hlt b hF; omega)
    refine ⟨hk.1, ?_⟩
    rcases hk.2 with h | ⟨b, c, cur, e1, h5, h6⟩
    · exact .inl h
    · exact .inr ⟨b, c, cur, e1, by omega, h6⟩
  · have h5 := hg g hgg
    rcases q3 g hF with h | h
    · have := hlt g h; omega
    · omega
theorem two_len1 {B wr : World} {tb ob : Nat} {Y Z : List Pr} {v : Value} {T : List Pr} (h : TwoT B wr tb ob Y Z v T) : Calls Tryd.prog 30 #[.pointer (some ⟨tb, 0, none⟩)] wr fun e w' => e = .returned (.int .i64 (Y.length : Nat)) ∧ wr = w' := by
  obtain ⟨F, G, h1, _⟩ := h
  exact lenT_any h1
theorem two_len2 {B wr : World} {tb ob : Nat} {Y Z : List Pr} {v : Value} {T : List Pr} (h : TwoT B wr tb ob Y Z v T) : Calls Tryd.prog 30 #[.pointer (some ⟨ob, 0, none⟩)] wr fun e w' => e = .returned (.int .i64 (Z.length : Nat)) ∧ wr = w' := by
  obtain ⟨F, G, _, h1, _⟩ := h
  exact lenT_any h1
theorem two_join {S : Nat → Bool} (E : Nat → Addr) (hS18 : S 18 = true) {B wr : World} {tb ob n : Nat} {v : Value} {T : List Pr} (hE : Errs S E B) (hs : Pl.Srt T) (hx : T.length ≤ 1000000) (h : TwoT B wr tb ob (T.take n) (T.drop n) v T) :
    Calls Tryd.prog 31 #[.pointer (some ⟨tb, 0, none⟩), .pointer (some ⟨ob, 0, none⟩)] wr fun e w' => e = .returned .nilIface ∧ OneT B w' tb T ∧ w'.ownsRow B.heap.size 64 3 v T.length (prFlat T) := by
  obtain ⟨F, G, h1, h2, h3, h4, h5, h6⟩ := h
  refine (joinT_any E hS18 (hE.grew h4) h1 h2 (by rw [← List.length_append, List.take_append_drop]; exact hx)).mono ?_
  rintro e w' ⟨zs, hp, hz, hend⟩
  rw [List.take_append_drop] at hp
  obtain rfl := Pl.join_self hs hp hz
  rcases hend with ⟨hd, _⟩ | ⟨_, rfl, hT⟩
  · rw [Pl.srt_nodup hs] at hd; cases hd
  · exact ⟨rfl, OneT.turn hT h3 h4, ownsRow_kept h5 hT.1 fun b hb => h6 b hb⟩
end Go.Proofs.YtajoihpjnnnkeaaDoor
