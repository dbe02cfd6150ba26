/- RowV, DelP, Rt37: one text. -/
import Derived.Test.YtoiahcgaffffbaaGreatDoorFinDeltaBetweenQ32
import Derived.Test.YtoiahcgaffffbaaGreatDoorFinDeltaBetweenQ30
import Derived.Test.YtoiahcgaffffbaaGreatDoorFinDeltaBetweenQ20
set_option linter.unusedVariables false
set_option linter.unusedSectionVars false
set_option linter.unusedSimpArgs false
namespace Go.Proofs.YtoiahcgaffffbaaGreatDoor
open Go.RowKit Go.Maps
theorem run_append_str2 {w : World} {B : Nat} {v : Value} {m : Nat} {ks : List ByteArray} (hown : w.ownsRow B 9 1 v m (strFlat ks)) (kb : Nat) (key : ByteArray) (hk : w.cell? ⟨kb, 0, none⟩ = some (.string key)) (hbig : m ≤ 1000000) (hB : B ≤ w.heap.size) (ty : TypeId) :
    ∃ v' w', (Builtin.append_ #[33, 33] ty #[v, .slice (some ⟨kb, 0, none⟩) 1 1]).run Tryz.prog w = .ok v' w' ∧ w'.ownsRow B 9 1 v' (m + 1) (strFlat (ks ++ [key])) ∧ w.grownBy w' v.ownBlock ∧ ∀ g, v'.ownBlock = some g → v.ownBlock = some g ∨ g = w.heap.size := by
  obtain ⟨i0, hi0, hz0, hz1, hz2⟩ := info_parts info_str
  obtain ⟨g, cap2, w2, h1, h2, h3, h4, h5⟩ := run_append_lies (P := Tryz.prog) (w := w) 33 ty B 9 i0 _ 1 16 Tryz.underlying33 hi0 hz0 hz1 hz2 rfl (by omega) v m (strFlat ks) hown ⟨kb, 0, none⟩ 1 1 [.string key] rfl (fun j u hj => by
    rw [Addr.add_lit]
    cases j with
    | zero => cases hj; exact hk
    | succ j => simp at hj) (fun u hu => by simp at hu; subst hu; rfl) (by omega) (by unfold maxLen; omega) (by omega) hB _ rfl
  refine ⟨_, w2, h1, ?_, h3, fun g' hg' => by
    have : g' = g := by simpa [Value.ownBlock] using hg'.symm
    subst this; exact h4⟩
  have e : strFlat (ks ++ [key]) = strFlat ks ++ [.string key] := by simp [strFlat]
  rw [e]
  exact h2
structure Rw (W : World) (B : Nat) (T : TypeId) (k db i : Nat) (v : Value) (n : Nat) (L : List Value) : Prop where
  cell : W.cell? ⟨db, i, none⟩ = some v
  froz : W.frozen? ⟨db, i, none⟩ = false
  row : W.ownsRow B T k v n L
  own : ∀ g, v.ownBlock = some g → g ≠ db
section
variable {W W' X X2 : World} {B : Nat} {T T' : TypeId} {k k' db i i' n n' m : Nat} {v v' u : Value} {L L' M : List Value} {S : Nat → Prop}
theorem Rw.kept (h : Rw W B T k db i v n L) (g : Only S W W') (h1 : ¬ S db) (h2 : ∀ b, v.ownBlock = some b → ¬ S b) : Rw W' B T k db i v n L :=
  ⟨(g.cell (cell_lt h.cell) h1 i).trans h.cell, (g.frozen (cell_lt h.cell) h1 i).trans h.froz, ownsRow_kept h.row g h2, h.own⟩
theorem Rw.grew (h : Rw W B T k db i v n L) (g : Grew W W') : Rw W' B T k db i v n L := h.kept (g.only fun _ => False) (fun h => h) fun _ _ h => h
theorem Rw.lt (h : Rw W B T k db i v n L) : ∀ g, v.ownBlock = some g → B ≤ g ∧ g < W.heap.size := fun g hg => h.row.lt g hg
theorem Rw.app (h : Rw W B T k db i v n L) (g : Grew W X) (hr : X2.ownsRow B T k v' n' L') (hg : X.grownBy X2 v.ownBlock) (how : ∀ b, v'.ownBlock = some b → v.ownBlock = some b ∨ b = X.heap.size) :
    Rw (X2.setCell ⟨db, i, none⟩ v') B T k db i v' n' L' ∧ X2.cell? ⟨db, i, none⟩ = some v ∧ X2.frozen? ⟨db, i, none⟩ = false ∧ Only (fun j => some j = v.ownBlock) W X2 := by
  have hdb := cell_lt h.cell
  have ho : Only (fun j => some j = v.ownBlock) W X2 := (g.only _).then (Only.of_grownBy hg)
  have hn : ¬ some db = v.ownBlock := fun e => h.own db e.symm rfl
  have hc := (ho.cell hdb hn i).trans h.cell
  have hf := (ho.frozen hdb hn i).trans h.froz
  have hne : ∀ b, v'.ownBlock = some b → b ≠ db := fun b hb e => by
    rcases how b hb with q | q
    · exact h.own b q e
    · have := g.size; have hdb2 : db < W.heap.size := hdb; omega
  exact ⟨⟨World.cell?_setCell_same' _ _ _ (by rw [hc]; rfl), by rw [World.frozen?_setCell]; exact hf, ownsRow_kept hr (Only.setCell X2 ⟨db, i, none⟩ v') fun b hb => hne b hb, hne⟩, hc, hf, ho⟩
theorem Rw.other (h : Rw W B T k db i u m M) (ho : Only (fun j => some j = v.ownBlock) W X2) (hi : i ≠ i') (hdb : v.ownBlock ≠ some db) (ha : ∀ g, u.ownBlock = some g → v.ownBlock ≠ some g) : Rw (X2.setCell ⟨db, i', none⟩ v') B T k db i u m M := by
  have h1 := h.kept ho (fun e => hdb e.symm) fun b hb e => ha b hb e.symm
  exact ⟨(World.cell?_setCell_other _ _ _ _ (by intro e; injection e with _ e2; exact hi e2.symm)).trans h1.cell, by rw [World.frozen?_setCell]; exact h1.froz, ownsRow_kept h1.row (Only.setCell X2 ⟨db, i', none⟩ v') fun b hb => h1.own b hb, h1.own⟩
end
theorem pairsAt_base {W : World} {B : Nat} {v : Value} {xs : List Pr} (h : W.ownsRow B 83 3 v xs.length (prFlat xs)) : ∃ a cap, v = .slice a xs.length cap ∧ PairsAt W a xs ∧ SlForm a cap ∧ ∀ b off, 0 < xs.length → a = some ⟨b, off, none⟩ → B ≤ b := by
  obtain ⟨a, cap, rfl, hp⟩ := pairsAt_of h
  refine ⟨a, cap, rfl, hp, slForm_of h, fun b off h0 e => ?_⟩
  obtain ⟨g, c, e2, h1, h2⟩ := h.form h0
  rw [e] at e2
  injection e2 with e3
  injection e3 with e4
  injection e4 with e5
  omega
theorem JV.three {vars : List FV} {w u : World} {L : Nat → Bool} {f : Nat → Value} (h : JV vars w L f u) {V : FV} (hV : V ∈ vars) (hL : L V.a = true) (h2 : V.vals.length = 3) :
    ∃ m a b c, f V.a = .pointer (some ⟨m, 0, none⟩) ∧ u.cell? ⟨m, 0, none⟩ = some a ∧ u.cell? ⟨m, 1, none⟩ = some b ∧ u.cell? ⟨m, 2, none⟩ = some c ∧ u.frozen? ⟨m, 0, none⟩ = false ∧ u.frozen? ⟨m, 1, none⟩ = false ∧ u.frozen? ⟨m, 2, none⟩ = false := by
  obtain ⟨vs, hl, ⟨m, h1, _, _, hc⟩, _⟩ := h.made V hV hL
  have hl3 := hl.trans h2
  match vs, hl3 with
  | [a, b, c], _ => exact ⟨m, a, b, c, h1, (hc 0 _ rfl).1, (hc 1 _ rfl).1, (hc 2 _ rfl).1, (hc 0 _ rfl).2, (hc 1 _ rfl).2, (hc 2 _ rfl).2⟩
structure BtD (w W : World) (TC : TypeId) (db : Nat) (lo hi : ByteArray) (A : List Pr) (K : List ByteArray) (C : List (Int × An)) (vp vk vc : Value) : Prop where
  grew : Grew w W
  new : w.heap.size ≤ db
  c0 : W.cell? ⟨db, 0, none⟩ = some (.string lo)
  c1 : W.cell? ⟨db, 1, none⟩ = some (.string hi)
  p : Rw W w.heap.size 83 3 db 2 vp A.length (prFlat A)
  k : Rw W w.heap.size 9 1 db 3 vk K.length (strFlat K)
  c : Rw W w.heap.size TC 4 db 4 vc C.length (clFlat C)
  pk : ∀ g, vp.ownBlock = some g → vk.ownBlock ≠ some g
  pc : ∀ g, vp.ownBlock = some g → vc.ownBlock ≠ some g
  kc : ∀ g, vk.ownBlock = some g → vc.ownBlock ≠ some g
section
variable {w W X X2 : World} {TC : TypeId} {db : Nat} {lo hi : ByteArray} {A A' : List Pr} {K K' : List ByteArray} {C C' : List (Int × An)} {vp vk vc v' : Value}
theorem BtD.more (h : BtD w W TC db lo hi A K C vp vk vc) (g : Grew W X) : BtD w X TC db lo hi A K C vp vk vc :=
  have l : db < W.heap.size := cell_lt h.c0
  ⟨h.grew.trans g, h.new, (g.cells.1 _ _ l).trans h.c0, (g.cells.1 _ _ l).trans h.c1, h.p.grew g, h.k.grew g, h.c.grew g, h.pk, h.pc, h.kc⟩
theorem set_far {a b : Addr} {x u : Value} (h : W.cell? b = some u) (hn : a ≠ b) : (W.setCell a x).cell? b = some u := (World.cell?_setCell_other _ _ _ _ hn).trans h
theorem ne_off {db i j : Nat} (h : i ≠ j) : (⟨db, i, none⟩ : Addr) ≠ ⟨db, j, none⟩ := fun e => by injection e with _ e2; exact h e2
theorem ownNe {v : Value} {db : Nat} (h : ∀ g, v.ownBlock = some g → g ≠ db) : v.ownBlock ≠ some db := fun e => h db e rfl
theorem BtD.addP (h : BtD w W TC db lo hi A K C vp vk vc) (g : Grew W X) (hr : X2.ownsRow w.heap.size 83 3 v' A'.length (prFlat A')) (hg : X.grownBy X2 vp.ownBlock) (how : ∀ b, v'.ownBlock = some b → vp.ownBlock = some b ∨ b = X.heap.size) :
    BtD w (X2.setCell ⟨db, 2, none⟩ v') TC db lo hi A' K C v' vk vc ∧ X2.cell? ⟨db, 2, none⟩ = some vp ∧ X2.frozen? ⟨db, 2, none⟩ = false := by
  obtain ⟨r1, r2, r3, ho⟩ := h.p.app g hr hg how
  have hdb : db < W.heap.size := cell_lt h.c0
  have hnd := ownNe h.p.own
  have hset : Only (fun j => j = db) X2 (X2.setCell ⟨db, 2, none⟩ v') := Only.setCell X2 ⟨db, 2, none⟩ v'
  have hfr : ∀ u : Value, (∀ b, u.ownBlock = some b → b < W.heap.size) → (∀ b, vp.ownBlock = some b → u.ownBlock ≠ some b) → ∀ b, v'.ownBlock = some b → u.ownBlock ≠ some b := fun u h1 h2 b hb e => by
    rcases how b hb with q | q
    · exact h2 b q e
    · have := h1 b e; have := g.size; omega
  refine ⟨⟨?_, h.new, set_far ((ho.cell hdb (fun e => hnd e.symm) 0).trans h.c0) (ne_off (by decide)), set_far ((ho.cell hdb (fun e => hnd e.symm) 1).trans h.c1) (ne_off (by decide)), r1, h.k.other ho (by decide) hnd (fun b hb e => h.pk b e hb), h.c.other ho (by decide) hnd (fun b hb e => h.pc b e hb), hfr vk (fun b hb => (h.k.lt b hb).2) h.pk, hfr vc (fun b hb => (h.c.lt b hb).2) h.pc, h.kc⟩, r2, r3⟩
  refine (((h.grew.only _).trans ho (fun j hj => .inl hj)).trans hset (fun j hj => .inr ?_)).grew fun j hj => (h.p.lt j hj.symm).1
  rw [hj]; exact h.new
theorem BtD.addK (h : BtD w W TC db lo hi A K C vp vk vc) (g : Grew W X) (hr : X2.ownsRow w.heap.size 9 1 v' K'.length (strFlat K')) (hg : X.grownBy X2 vk.ownBlock) (how : ∀ b, v'.ownBlock = some b → vk.ownBlock = some b ∨ b = X.heap.size) :
    BtD w (X2.setCell ⟨db, 3, none⟩ v') TC db lo hi A K' C vp v' vc ∧ X2.cell? ⟨db, 3, none⟩ = some vk ∧ X2.frozen? ⟨db, 3, none⟩ = false := by
  obtain ⟨r1, r2, r3, ho⟩ := h.k.app g hr hg how
  have hdb : db < W.heap.size := cell_lt h.c0
  have hnd := ownNe h.k.own
  have hset : Only (fun j => j = db) X2 (X2.setCell ⟨db, 3, none⟩ v') := Only.setCell X2 ⟨db, 3, none⟩ v'
  refine ⟨⟨?_, h.new, set_far ((ho.cell hdb (fun e => hnd e.symm) 0).trans h.c0) (ne_off (by decide)), set_far ((ho.cell hdb (fun e => hnd e.symm) 1).trans h.c1) (ne_off (by decide)), h.p.other ho (by decide) hnd h.pk, r1, h.c.other ho (by decide) hnd (fun b hb e => h.kc b e hb), fun b hb e => ?_, h.pc, fun b hb e => ?_⟩, r2, r3⟩
  · refine (((h.grew.only _).trans ho (fun j hj => .inl hj)).trans hset (fun j hj => .inr ?_)).grew fun j hj => (h.k.lt j hj.symm).1
    rw [hj]; exact h.new
  · rcases how b e with q | q
    · exact h.pk b hb q
    · have := (h.p.lt b hb).2; have := g.size; omega
  · rcases how b hb with q | q
    · exact h.kc b q e
    · have := (h.c.lt b e).2; have := g.size; omega
theorem BtD.addC (h : BtD w W TC db lo hi A K C vp vk vc) (g : Grew W X) (hr : X2.ownsRow w.heap.size TC 4 v' C'.length (clFlat C')) (hg : X.grownBy X2 vc.ownBlock) (how : ∀ b, v'.ownBlock = some b → vc.ownBlock = some b ∨ b = X.heap.size) :
    BtD w (X2.setCell ⟨db, 4, none⟩ v') TC db lo hi A K C' vp vk v' ∧ X2.cell? ⟨db, 4, none⟩ = some vc ∧ X2.frozen? ⟨db, 4, none⟩ = false := by
  obtain ⟨r1, r2, r3, ho⟩ := h.c.app g hr hg how
  have hdb : db < W.heap.size := cell_lt h.c0
  have hnd := ownNe h.c.own
  have hset : Only (fun j => j = db) X2 (X2.setCell ⟨db, 4, none⟩ v') := Only.setCell X2 ⟨db, 4, none⟩ v'
  refine ⟨⟨?_, h.new, set_far ((ho.cell hdb (fun e => hnd e.symm) 0).trans h.c0) (ne_off (by decide)), set_far ((ho.cell hdb (fun e => hnd e.symm) 1).trans h.c1) (ne_off (by decide)), h.p.other ho (by decide) hnd h.pc, h.k.other ho (by decide) hnd h.kc, r1, h.pk, fun b hb e => ?_, fun b hb e => ?_⟩, r2, r3⟩
  · refine (((h.grew.only _).trans ho (fun j hj => .inl hj)).trans hset (fun j hj => .inr ?_)).grew fun j hj => (h.c.lt j hj.symm).1
    rw [hj]; exact h.new
  · rcases how b e with q | q
    · exact h.pc b hb q
    · have := (h.p.lt b hb).2; have := g.size; omega
  · rcases how b e with q | q
    · exact h.kc b hb q
    · have := (h.k.lt b hb).2; have := g.size; omega
end
end Go.Proofs.YtoiahcgaffffbaaGreatDoor
namespace Go.Proofs.YtoiahcgaffffbaaGreatDoor
namespace Pl
theorem srt_ext {P Q : List Pr} (hP : Srt P) (hQ : Srt Q) (h : ∀ c, c ∈ P ↔ c ∈ Q) : P = Q :=
  join_self hQ ((List.perm_ext_iff_of_nodup (nodup_of_ap (srt_ap hP)) (nodup_of_ap (srt_ap hQ))).2 h) (hP.rise.imp fun hab => compare_asymm hab)
def newB (P : List Pr) (p : Pr) : Bool := match getT P p.key with | none => true | some q => !(decide (q.key = p.key) && decide (q.val = p.val) && decide (q.ver = p.ver))
def pairsD (P Q : List Pr) : List Pr := Q.filter (newB P)
def goneB (Q : List Pr) (p : Pr) : Bool := !(getT Q p.key).isSome
def keysD (P Q : List Pr) : List ByteArray := (P.filter (goneB Q)).map Pr.key
theorem newB_iff {P : List Pr} (h : Srt P) (p : Pr) : newB P p = false ↔ p ∈ P := by
  unfold newB
  constructor
  · intro hn
    cases hg : getT P p.key with
    | none => rw [hg] at hn; cases hn
    | some q =>
      rw [hg] at hn
      dsimp only at hn
      have : q = p := by
        cases q; cases p
        simpa [Bool.and_eq_true, decide_eq_true_eq, and_assoc] using hn
      exact this ▸ (getT_some h hg).1
  · intro hp
    rw [getT_mem h hp]
    simp
theorem goneB_iff {Q : List Pr} (h : Srt Q) (p : Pr) : goneB Q p = true ↔ ∀ c ∈ Q, c.key ≠ p.key := by
  unfold goneB
  constructor
  · intro hn c hc e
    have := getT_mem h hc
    rw [e] at this
    rw [this] at hn; cases hn
  · intro hn
    rw [getT_none h hn]; rfl
def keptD (P : List Pr) (K : List ByteArray) : List Pr := P.filter fun p => !(K.any fun k => decide (k = p.key))
theorem keptD_keys {P Q : List Pr} (hP : Srt P) (hQ : Srt Q) : keptD P (keysD P Q) = P.filter fun p => !goneB Q p := by
  unfold keptD
  refine List.filter_congr fun p hp => ?_
  congr 1
  cases hg : goneB Q p with
  | true =>
    rw [List.any_eq_true]
    exact ⟨p.key, List.mem_map_of_mem (List.mem_filter.2 ⟨hp, hg⟩), by simp⟩
  | false =>
    rw [List.any_eq_false]
    intro k hk
    obtain ⟨c, hc, rfl⟩ := List.mem_map.1 hk
    obtain ⟨hc1, hc2⟩ := List.mem_filter.1 hc
    simp only [decide_eq_true_eq]
    intro e
    rw [goneB_iff hQ] at hc2
    have : goneB Q p = true := (goneB_iff hQ p).2 fun x hx hxe => hc2 x hx (by rw [hxe, e])
    rw [hg] at this; cases this
def putsT (T : List Pr) (xs : List Pr) : List Pr := xs.foldl putT T
theorem putsT_snoc (T xs : List Pr) (k : Nat) (h : k < xs.length) : putsT T (xs.take (k + 1)) = putT (putsT T (xs.take k)) (prAt xs k) := by
  unfold putsT
  rw [List.take_succ_eq_append_getElem h, prAt_eq xs k h, List.foldl_append]; rfl
theorem putsT_srt : ∀ (xs : List Pr) {T : List Pr}, Srt T → Srt (putsT T xs) := by
  intro xs
  induction xs with
  | nil => intro T h; exact h
  | cons p ps ih =>
    intro T h
    show Srt (putsT (putT T p) ps)
    refine ih ?_
    unfold putT
    split
    · next hp => exact srt_put h (putN_zero hp).1
    · exact h
theorem putsT_good : ∀ (xs : List Pr) {T : List Pr}, Good T → Good (putsT T xs) := by
  intro xs
  induction xs with
  | nil => intro T h; exact h
  | cons p ps ih => intro T h; exact ih (h.put p)
theorem putsT_len : ∀ (xs T : List Pr), (putsT T xs).length ≤ T.length + xs.length := by
  intro xs
  induction xs with
  | nil => intro T; simp [putsT]
  | cons p ps ih =>
    intro T
    have h1 := ih (putT T p)
    have h2 := putT_len T p
    show (putsT (putT T p) ps).length ≤ _
    simp only [List.length_cons]; omega
theorem putsT_mem : ∀ (xs : List Pr) {T : List Pr}, Srt T → Good xs → xs.Pairwise (fun a b => a.key ≠ b.key) → ∀ c, c ∈ putsT T xs ↔ c ∈ xs ∨ (c ∈ T ∧ ∀ p ∈ xs, p.key ≠ c.key) := by
  intro xs
  induction xs with
  | nil => intro T h _ _ c; simp [putsT]
  | cons p ps ih =>
    intro T h hg hd c
    rw [List.pairwise_cons] at hd
    have hp := hg p (by simp)
    have e : putT T p = tput T p := by unfold putT; rw [if_pos hp]
    show c ∈ putsT (putT T p) ps ↔ _
    rw [e, ih (srt_put h (putN_zero hp).1) (fun x hx => hg x (by simp [hx])) hd.2 c, mem_put h (putN_zero hp).1]
    constructor
    · rintro (hc | ⟨rfl | ⟨hc, hn⟩, hq⟩)
      · exact .inl (by simp [hc])
      · exact .inl (by simp)
      · refine .inr ⟨hc, fun x hx => ?_⟩
        rcases List.mem_cons.1 hx with rfl | hx
        · exact fun e => hn e.symm
        · exact hq x hx
    · rintro (hc | ⟨hc, hn⟩)
      · rcases List.mem_cons.1 hc with rfl | hc
        · exact .inr ⟨.inl rfl, fun x hx e => hd.1 x hx e.symm⟩
        · exact .inl hc
      · exact .inr ⟨.inr ⟨hc, fun e => hn p (by simp) e.symm⟩, fun x hx => hn x (by simp [hx])⟩
theorem putsT_self {Q : List Pr} (hQ : Srt Q) (hg : Good Q) (k : Nat) (hk : k ≤ Q.length) : putsT [] (Q.take k) = Q.take k := by
  induction k with
  | zero => rfl
  | succ k ih =>
    rw [putsT_snoc [] Q k (by omega), ih (by omega)]
    exact (srt_next hQ hg k (by omega)).1
theorem key_sizes {P : List Pr} (h : Good P) : ∀ c ∈ P, c.key.size ≤ 96 ∧ c.val.size ≤ 64 ∧ 1 ≤ c.ver ∧ c.ver ≤ 4096 := fun c hc => by
  obtain ⟨h1, h2, h3, h4⟩ := putN_zero (h c hc)
  exact ⟨key_size h1, h2, h3, h4⟩
theorem pairsD_srt {P Q : List Pr} (hQ : Srt Q) : Srt (pairsD P Q) := srt_sub hQ List.filter_sublist
theorem pairsD_good {P Q : List Pr} (hQ : Good Q) : Good (pairsD P Q) := hQ.sub List.filter_sublist
theorem keptD_srt {P : List Pr} (hP : Srt P) (K : List ByteArray) : Srt (keptD P K) := srt_sub hP List.filter_sublist
theorem keptD_good {P : List Pr} (hP : Good P) (K : List ByteArray) : Good (keptD P K) := hP.sub List.filter_sublist
theorem apply_makes {P Q : List Pr} (hP : Srt P) (hQ : Srt Q) (gQ : Good Q) : putsT (keptD P (keysD P Q)) (pairsD P Q) = Q := by
  have h1 := keptD_srt hP (keysD P Q)
  refine srt_ext (putsT_srt _ h1) hQ fun c => ?_
  rw [putsT_mem _ h1 (pairsD_good gQ) (srt_ap (pairsD_srt hQ)), keptD_keys hP hQ]
  constructor
  · rintro (hc | ⟨hc, hn⟩)
    · exact (List.mem_filter.1 hc).1
    · obtain ⟨hc1, hc2⟩ := List.mem_filter.1 hc
      have hg : goneB Q c = false := by simpa using hc2
      have hex : ∃ q ∈ Q, q.key = c.key := by
        refine Classical.byContradiction fun hno => ?_
        have := (goneB_iff hQ c).2 fun x hx e => hno ⟨x, hx, e⟩
        rw [hg] at this; cases this
      obtain ⟨q, hq, e⟩ := hex
      cases hb : newB P q with
      | true => exact absurd e (hn q (List.mem_filter.2 ⟨hq, hb⟩))
      | false =>
        have hqP := (newB_iff hP q).1 hb
        have e1 := getT_mem hP hqP
        have e2 := getT_mem hP hc1
        rw [e, e2] at e1
        cases e1
        exact hq
  · intro hc
    cases hb : newB P c with
    | true => exact .inl (List.mem_filter.2 ⟨hc, hb⟩)
    | false =>
      have hcP := (newB_iff hP c).1 hb
      refine .inr ⟨List.mem_filter.2 ⟨hcP, ?_⟩, fun q hq e => ?_⟩
      · cases hg : goneB Q c with
        | false => rfl
        | true => exact absurd rfl ((goneB_iff hQ c).1 hg c hc)
      · obtain ⟨q1, q2⟩ := List.mem_filter.1 hq
        have e1 := getT_mem hQ q1
        have e2 := getT_mem hQ hc
        rw [e, e2] at e1
        cases e1
        rw [hb] at q2; cases q2
theorem keptD_in {lo hi : ByteArray} {P Q : List Pr} (hP : Srt P) (hQ : Srt Q) (h : ∀ c ∈ Q, hasS lo hi c.key = true) : ∀ c ∈ keptD P (keysD P Q), hasS lo hi c.key = true := by
  intro c hc
  rw [keptD_keys hP hQ] at hc
  obtain ⟨hc1, hc2⟩ := List.mem_filter.1 hc
  have hg : goneB Q c = false := by simpa using hc2
  refine Classical.byContradiction fun hno => ?_
  have := (goneB_iff hQ c).2 fun x hx e => hno (by rw [← e]; exact h x hx)
  rw [hg] at this; cases this
end Pl
end Go.Proofs.YtoiahcgaffffbaaGreatDoor
namespace Go.Proofs.YtoiahcgaffffbaaGreatDoor
open Go.RowKit Go.Maps Go.Sort
attribute [local go_sem] Oper.semAt_some uponV
set_option maxRecDepth 100000 in
set_option maxHeartbeats 4000000 in
theorem seen37_any {w : World} {a : Option Addr} {cap : Nat} {C : List (Int × An)} (hC : ClsAt w a C) (hr : ClRow C) (v0 v1 v2 v3 : Value) :
    Calls Tryz.prog 135 #[.agg #[v0, v1, v2, v3, .slice a C.length cap]] w fun e w' => ∃ sb F, e = .returned (.tuple #[.pointer (some ⟨sb, 0, none⟩), .nilIface]) ∧ SeenAt w' F sb C.length (seenL C) ∧ (∀ j, F j → w.heap.size ≤ j) ∧ Grew w w' := by
  have HC := hid hC
  have HR := hid hr
  have hl := clRow_len hr
  clear hC hr
  go_enter Tryz.func135, Tryz.ntmps135
  go_wp2_with fail
  obtain ⟨Y, hY⟩ : ∃ Y, Y = w.alloc (.cells #[v0, v1, v2, v3, .slice a C.length cap] 36) := ⟨_, rfl⟩
  have gY : Grew w Y := by rw [hY]; exact (Grew.refl w).alloc _
  have y4 : Y.cell? ⟨w.heap.size, 4, none⟩ = some (.slice a C.length cap) := by rw [hY]; simp [go_sem]
  have hys : w.heap.size < Y.heap.size := by rw [hY]; simp
  rw [← hY]
  have HGY := hid gY
  clear hY gY
  refine (newD_any Y).mono ?_
  rintro e w2 ⟨sb, F0, rfl, hS2, hF0, hg2⟩
  have HS2 := hid hS2
  have HF0 := hid (fun j hj => Nat.le_trans HGY.out.size (hF0 j hj))
  have HG2 := hid (HGY.out.trans hg2)
  have y4 := (hg2.cells.1 _ 4 hys).trans y4
  have hys := Nat.lt_of_lt_of_le hys hg2.size
  clear hS2 hF0 hg2
  have hb0 : befL C 0 = 0 := rfl
  go_wp2_with fail
  go_loopw [5, 13] (fun l i wr => ∃ k : Nat, k ≤ C.length ∧ i = .int .i64 k ∧ l = .int .i64 (befL C k) ∧ Hid (Grew w wr ∧ ∃ F, SeenAt wr F sb k (seenL (C.take k)) ∧ ∀ j, F j → w.heap.size ≤ j)) (fun _ i _ => C.length - (intOf i).toNat)
  case atStart => exact ⟨0, Nat.zero_le _, rfl, rfl, HG2.out, F0, HS2.out, HF0.out⟩
  case round =>
    obtain ⟨k, hk, rfl, rfl, HW⟩ := hrel
    by_cases hlt : k < C.length
    · rcases HC.out with h0 | ⟨b, off, rfl, hb, hR⟩
      · rw [h0] at hlt; simp at hlt
      have hG := HW.out.1
      have q0 := (hG.cells.1 b (off + k * 4) hb).trans (hR.id k hlt)
      have q1 := (hG.cells.1 b (off + k * 4 + 1) hb).trans (hR.seq k hlt)
      have q2 := (hG.cells.1 b (off + k * 4 + 2) hb).trans (hR.code k hlt)
      have q3 := (hG.cells.1 b (off + k * 4 + 3) hb).trans (hR.at_ k hlt)
      have hbr := Nat.lt_of_lt_of_le hb hG.size
      obtain ⟨r1, r2, r3⟩ := clRow_at HR.out k hlt
      have hbf := befL_lt HR.out k hlt
      have HSN := hid (seenL_snoc HR.out k hlt)
      have HNO := hid (seenL_none HR.out k hlt)
      have HBF : Hid (befL C (k + 1) = (clAt C k).1) := by unfold Hid befL; rw [if_neg (by omega), Nat.add_sub_cancel]
      have HOK := hid (And.intro r1 (And.intro r2 r3))
      have hk9 : k < 1000000 := by omega
      clear hR hG r1 r2 r3
      generalize clAt C k = x at *
      obtain ⟨xc, xq, xk, xt⟩ := x
      dsimp only at *
      have hnb : ¬ xc ≤ befL C k := by omega
      generalize befL C k = bb at *
      clear hbf
      go_upto_region 6 with fail
      obtain ⟨X, hX⟩ : ∃ X, X = wr.alloc (.cells #[.int .i64 xc, .int .i64 xq, .int .i64 xk, .int .i64 xt] 137) := ⟨_, rfl⟩
      have gX : Grew wr X := by rw [hX]; exact (Grew.refl wr).alloc _
      have x0 : X.cell? ⟨wr.heap.size, 0, none⟩ = some (.int .i64 xc) := by rw [hX]; simp [go_sem]
      have x1 : X.cell? ⟨wr.heap.size, 1, none⟩ = some (.int .i64 xq) := by rw [hX]; simp [go_sem]
      have x2 : X.cell? ⟨wr.heap.size, 2, none⟩ = some (.int .i64 xk) := by rw [hX]; simp [go_sem]
      have x3 : X.cell? ⟨wr.heap.size, 3, none⟩ = some (.int .i64 xt) := by rw [hX]; simp [go_sem]
      have hxs : wr.heap.size < X.heap.size := by rw [hX]; simp
      obtain ⟨F, hT, hF⟩ := HW.out.2
      have HGX := hid (HW.out.1.trans gX)
      have HNT := hid (note_fresh (hT.grew gX) xc ⟨xq, xk, xt⟩ HOK.out.1 HOK.out.2.1 HOK.out.2.2 (by omega) (by rw [HNO.out]; rfl))
      rw [← HSN.out] at HNT
      have HFT := hid (fun j hj => hT.lt j hj)
      have HFN := hid hF
      rw [← hX]
      obtain ⟨kb, hkb⟩ : ∃ kb, kb = wr.heap.size := ⟨_, rfl⟩
      rw [← hkb] at x0 x1 x2 x3 hxs ⊢
      have HKB := hid (show ¬ F kb from fun hq => by have := HFT.out kb hq; omega)
      unfold ansAgg at HNT
      dsimp only at HNT
      clear hX gX hkb hT hF q0 q1 q2 q3 HW HSN HNO HOK
      go_wp2_with fail
      refine HNT.out.mono ?_
      rintro e w8 ⟨rfl, hT8⟩
      obtain ⟨hO8, hS8⟩ := hT8
      have x0 := (hO8.cell hxs HKB.out 0).trans x0
      have hxs := Nat.lt_of_lt_of_le hxs hO8.size
      have HR8 := hid (show Grew w w8 ∧ ∃ F, SeenAt w8 F sb (k + 1) (seenL (C.take (k + 1))) ∧ ∀ j, F j → w.heap.size ≤ j from ⟨((HGX.out.only _).then hO8).grew HFN.out, F, hS8, HFN.out⟩)
      clear hO8 hS8 HNT x1 x2 x3
      go_wp2_with fail
      go_roundw
      case rel => exact ⟨k + 1, by omega, by go_num, by rw [HBF.out], HR8.out⟩
      case measure => simp [intOf]; omega
    · have hkn : k = C.length := by omega
      subst hkn
      have HEND : Hid (∃ F, SeenAt wr F sb C.length (seenL C) ∧ (∀ j, F j → w.heap.size ≤ j) ∧ Grew w wr) := by
        obtain ⟨hg, F, h1, h2⟩ := HW.out
        rw [List.take_length] at h1
        exact ⟨F, h1, h2, hg⟩
      go_wp2_with fail
      go_ret2
      obtain ⟨F, h1, h2, h3⟩ := HEND.out
      exact ⟨sb, F, rfl, h1, h2, h3⟩
set_option maxRecDepth 100000 in
set_option maxHeartbeats 4000000 in
theorem keyed_any {w : World} {a : Option Addr} {cap : Nat} {A : List Pr} (hA : PairsAt w a A) (hx : A.length ≤ 1000) :
    Calls Tryz.prog 137 #[.slice a A.length cap] w fun e w' => (∃ v, e = .returned v ∧ w'.ownsRow w.heap.size 9 1 v (A.map Pr.key).length (strFlat (A.map Pr.key))) ∧ Grew w w' := by
  have HA := hid hA
  clear hA
  go_enter Tryz.func137, Tryz.ntmps137
  go_wp2_with fail
  go_loopw [3, 8] (fun v i wr => ∃ k : Nat, k ≤ A.length ∧ i = .int .i64 k ∧ Hid (Grew w wr ∧ wr.ownsRow w.heap.size 9 1 v k (strFlat ((A.take k).map Pr.key)))) (fun _ i _ => A.length - (intOf i).toNat)
  case atStart => exact ⟨0, Nat.zero_le _, rfl, Grew.refl w, World.ownsRow_nil _ _ _ _⟩
  case round =>
    obtain ⟨k, hk, rfl, HV⟩ := hrel
    by_cases hlt : k < A.length
    · rcases HA.out with h0 | ⟨b, off, rfl, hb, hR⟩
      · rw [h0] at hlt; simp at hlt
      have hG := HV.out.1
      have q0 := (hG.cells.1 b (off + k * 3) hb).trans (hR.key k hlt)
      have q1 := (hG.cells.1 b (off + k * 3 + 1) hb).trans (hR.val k hlt)
      have q2 := (hG.cells.1 b (off + k * 3 + 2) hb).trans (hR.ver k hlt)
      have hbr := Nat.lt_of_lt_of_le hb hG.size
      have e4 : (A.take (k + 1)).map Pr.key = (A.take k).map Pr.key ++ [(prAt A k).key] := by
        rw [List.take_succ_eq_append_getElem hlt, List.map_append, prAt_eq A k hlt]; rfl
      have HE4 := hid e4
      have hk9 : k < 1000000 := by omega
      clear hR hG e4
      generalize prAt A k = c at *
      obtain ⟨ck, cv, cn⟩ := c
      dsimp only at *
      go_upto_region 5 with fail
      obtain ⟨X, hX⟩ : ∃ X, X = wr.alloc (.cells #[.string ck, .string cv, .int .i64 cn] 83) := ⟨_, rfl⟩
      have gX : Grew wr X := by rw [hX]; exact (Grew.refl wr).alloc _
      have x0 : X.cell? ⟨wr.heap.size, 0, none⟩ = some (.string ck) := by rw [hX]; simp [go_sem]
      have hxs : wr.heap.size < X.heap.size := by rw [hX]; simp
      rw [← hX]
      obtain ⟨Z, hZ⟩ : ∃ Z, Z = X.alloc (.cells #[.string ck] 9) := ⟨_, rfl⟩
      have gZ : Grew X Z := by rw [hZ]; exact (Grew.refl X).alloc _
      have hpZ : Z.cell? ⟨X.heap.size, 0, none⟩ = some (.string ck) := by rw [hZ]; simp [go_sem]
      obtain ⟨v3, w3, hrun, hrow, hgr, _⟩ := run_append_str2 (w := Z) (ownsRow_grew (gX.trans gZ) HV.out.2) X.heap.size ck hpZ (by omega) (by have := HV.out.1.size; have := gX.size; have := gZ.size; omega) 33
      rw [← HE4.out] at hrow
      rw [hZ] at hrun
      have HRUN := hid hrun
      have hw3 : Grew w w3 := ((((HV.out.1.trans gX).trans gZ).only _).then (Only.of_grownBy hgr)).grew fun j hj => (HV.out.2.lt j hj.symm).1
      have HV3 := hid (And.intro hw3 hrow)
      clear hX gX hZ gZ hpZ hrun hrow hgr hw3 q0 q1 q2 HV HE4
      go_wp2_with (at_builtin; refine Lib.wpList_append_run _ rfl _ _ _ _ rfl _ _ rfl rfl _ _ HRUN.out ?_)
      go_roundw
      case rel => exact ⟨k + 1, by omega, by go_num, HV3.out⟩
      case measure => simp [intOf]; omega
    · have hkn : k = A.length := by omega
      subst hkn
      have h := HV.out.2
      rw [List.take_length] at h
      rw [show A.length = (A.map Pr.key).length from (List.length_map _).symm] at h
      have HEND := hid (And.intro h HV.out.1)
      clear h
      go_wp2_with fail
      go_ret
      exact ⟨⟨_, rfl, HEND.out.1⟩, HEND.out.2⟩
def RiseK (K : List ByteArray) : Prop := ∀ j, j + 1 < K.length → Pl.compare (K[j]?.getD ⟨#[]⟩) (K[j + 1]?.getD ⟨#[]⟩) < 0
theorem riseK_of {P : List Pr} (h : Pl.Srt P) : RiseK (P.map Pr.key) := by
  intro j hj
  rw [List.length_map] at hj
  rw [List.getElem?_eq_getElem (by rw [List.length_map]; omega), List.getElem?_eq_getElem (by rw [List.length_map]; omega)]
  simp only [List.getElem_map, Option.getD_some]
  exact List.pairwise_iff_getElem.1 h.rise j (j + 1) (by omega) hj (by omega)
set_option maxRecDepth 100000 in
set_option maxHeartbeats 4000000 in
theorem rises_any {w : World} {a : Option Addr} {cap : Nat} {K : List ByteArray} (hA : StrsAt w a K) (hr : RiseK K) (hx : K.length ≤ 1000) (hz : ∀ k ∈ K, k.size ≤ 70368744177664) :
    Calls Tryz.prog 136 #[.slice a K.length cap] w fun e w' => e = .returned (.bool true) ∧ Grew w w' := by
  have HA := hid hA
  have HR := hid hr
  have HZ := hid hz
  clear hA hr hz
  go_enter Tryz.func136, Tryz.ntmps136
  go_wp2_with fail
  go_loopw [6] (fun i wr => ∃ k : Nat, k ≤ K.length ∧ i = .int .i64 k ∧ Hid (Grew w wr)) (fun i _ => K.length - (intOf i).toNat)
  case atStart => exact ⟨0, Nat.zero_le _, rfl, Grew.refl w⟩
  case round =>
    obtain ⟨k, hk, rfl, HG⟩ := hrel
    by_cases hlt : k < K.length
    · rcases HA.out with h0 | ⟨b, off, rfl, hb, hR⟩
      · rw [h0] at hlt; simp at hlt
      have hbr := Nat.lt_of_lt_of_le hb HG.out.size
      have hk9 : k < 1000000 := by omega
      cases k with
      | zero =>
        clear hR
        go_upto_region 4 with fail
        refine wp_region_still 15 (by kernel_rfl) (by kernel_rfl) (fun _ _ => rfl) ?_
        repeat (first
    | (refine mixS_skip (by rfl) (by rfl) (by rfl) ?_; simp only [Act.put, List.setIfInBounds_toArray, List.set_cons_zero, List.set_cons_succ])
    | (refine mixS_plain (by rfl) (by rfl) (by rfl) (by first | exact Grew.refl | exact fun _ => rfl) (by rfl) ?_; intro K hK; go_big_quiet_op; go_big_quiet_on))
        refine mixS_nil ?_
        intro x hG
        have HGx := hid (HG.out.trans hG)
        clear hG
        dsimp only [List.drop]
        go_wp2_with fail
        go_roundw
        case rel => exact ⟨0 + 1, by omega, by go_num, HGx.out⟩
        case measure => simp [intOf]; omega
      | succ j =>
        have q0 := (HG.out.cells.1 b (off + j) hb).trans (hR j _ (List.getElem?_eq_getElem (by omega)))
        have q1 := (HG.out.cells.1 b (off + (j + 1)) hb).trans (hR (j + 1) _ (List.getElem?_eq_getElem hlt))
        have hc := HR.out j hlt
        rw [List.getElem?_eq_getElem (show j < K.length by omega), List.getElem?_eq_getElem hlt] at hc
        simp only [Option.getD_some] at hc
        have z0 := HZ.out _ (List.getElem_mem (show j < K.length by omega))
        have z1 := HZ.out _ (List.getElem_mem hlt)
        clear hR
        generalize K[j] = ka at *
        generalize K[j + 1] = kb at *
        have HCMP := hid (fun x => compare_any ka kb x z0 z1)
        have hc3 : ¬ (0 : Int) ≤ Pl.compare ka kb := by omega
        generalize Pl.compare ka kb = cc at *
        have C0 := wd_cell q0
        have C1 := wd_cell q1
        clear q0 q1 hc z0 z1
        go_upto_region 4 with fail
        refine wp_region_still 15 (by kernel_rfl) (by kernel_rfl) (fun _ _ => rfl) ?_
        repeat (first
    | (refine mixS_plain (by rfl) (by rfl) (by rfl) (by first | exact Grew.refl | exact fun _ => rfl) (by rfl) ?_; intro K hK; go_big_quiet_op; go_big_quiet_on)
    | (refine mixS_call (by rfl) (by rfl) (by rfl) (by rfl) (fun _ => by kernel_rfl) (fun u hu => HCMP.out u) ?_; simp only [Act.put, List.setIfInBounds_toArray, List.set_cons_zero, List.set_cons_succ])
    | (refine mixS_skip (by rfl) (by rfl) (by rfl) ?_; simp only [Act.put, List.setIfInBounds_toArray, List.set_cons_zero, List.set_cons_succ]))
        refine mixS_nil ?_
        intro x hG
        have HGx := hid (HG.out.trans hG)
        clear hG C0 C1 HCMP
        dsimp only [List.drop]
        go_wp2_with fail
        go_roundw
        case rel => exact ⟨j + 1 + 1, by omega, by go_num, HGx.out⟩
        case measure => simp [intOf]; omega
    · have hkn : k = K.length := by omega
      subst hkn
      go_wp2_with fail
      go_ret
      exact ⟨rfl, HG.out⟩
end Go.Proofs.YtoiahcgaffffbaaGreatDoor
