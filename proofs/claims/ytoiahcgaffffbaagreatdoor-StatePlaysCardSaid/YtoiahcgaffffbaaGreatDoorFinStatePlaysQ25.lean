/- PkI, RgnT, St1: one text. -/
import Derived.Test.YtoiahcgaffffbaaGreatDoorFinStatePlaysQ21
import Derived.Deep.DeepCutAuto
import Derived.Lib.EndianBits
import Derived.Test.YtoiahcgaffffbaaGreatDoorFinStatePlaysQ4
import Derived.Test.YtoiahcgaffffbaaGreatDoorFinStatePlaysQ22
import Derived.Test.YtoiahcgaffffbaaGreatDoorFinStatePlaysQ24
set_option linter.unusedVariables false
set_option linter.unusedSectionVars false
set_option linter.unusedSimpArgs false
namespace Go.Proofs.YtoiahcgaffffbaaGreatDoor
open Go.RowKit Go.Maps
attribute [local go_sem] Oper.semAt_some
structure InIs (w : World) (ib nb off cap : Nat) (bs : List Int) : Prop where
  c0 : w.cell? ⟨ib, 0, none⟩ = some (.slice (some ⟨nb, off, none⟩) bs.length cap)
  f0 : w.frozen? ⟨ib, 0, none⟩ = false
  c1 : w.cell? ⟨ib, 1, none⟩ = some .nilIface
  at_ : BytesAt w (some ⟨nb, off, none⟩) bs
  len : bs.length ≤ cap
  apart : nb ≠ ib
  lt : nb < w.heap.size
def InAt (w : World) (ib nb : Nat) (bs : List Int) : Prop := ∃ off cap, InIs w ib nb off cap bs
def InTurn (w : World) (ib nb : Nat) (bs : List Int) (w' : World) : Prop := Only (fun j => j = ib) w w' ∧ InAt w' ib nb bs
theorem InIs.kept {w w' : World} {S : Nat → Prop} {ib nb off cap : Nat} {bs : List Int} (h : InIs w ib nb off cap bs) (g : Only S w w') (h1 : ¬ S ib) (h2 : ¬ S nb) : InIs w' ib nb off cap bs where
  c0 := (g.cell (cell_lt h.c0) h1 0).trans h.c0
  f0 := (g.frozen (cell_lt h.c0) h1 0).trans h.f0
  c1 := (g.cell (cell_lt h.c0) h1 1).trans h.c1
  at_ := h.at_.kept g fun b off e => by cases e; exact h2
  len := h.len
  apart := h.apart
  lt := Nat.lt_of_lt_of_le h.lt g.size
theorem InAt.kept {w w' : World} {S : Nat → Prop} {ib nb : Nat} {bs : List Int} (h : InAt w ib nb bs) (g : Only S w w') (h1 : ¬ S ib) (h2 : ¬ S nb) : InAt w' ib nb bs := by
  obtain ⟨off, cap, h⟩ := h
  exact ⟨off, cap, h.kept g h1 h2⟩
theorem InAt.grew {w w' : World} {ib nb : Nat} {bs : List Int} (h : InAt w ib nb bs) (g : Grew w w') : InAt w' ib nb bs := h.kept (g.only fun _ => False) (fun h => h) (fun h => h)
theorem InAt.lt {w : World} {ib nb : Nat} {bs : List Int} (h : InAt w ib nb bs) : ib < w.heap.size ∧ nb < w.heap.size := by
  obtain ⟨off, cap, h⟩ := h
  exact ⟨cell_lt h.c0, h.lt⟩
theorem InIs.store {w : World} {ib nb off off' cap cap' : Nat} {bs cs : List Int} (h : InIs w ib nb off cap bs) (hA : BytesAt w (some ⟨nb, off', none⟩) cs) (hl : cs.length ≤ cap') : InTurn w ib nb cs (w.setCell ⟨ib, 0, none⟩ (.slice (some ⟨nb, off', none⟩) cs.length cap')) := by
  have hset : Only (fun j => j = ib) w (w.setCell ⟨ib, 0, none⟩ (.slice (some ⟨nb, off', none⟩) cs.length cap')) := Only.setCell w ⟨ib, 0, none⟩ _
  refine ⟨hset, off', cap', by simp [go_sem, h.c0], by simp [go_sem, h.f0], ?_, hA.kept hset fun b off e => (by cases e; exact h.apart), hl, h.apart, Nat.lt_of_lt_of_le h.lt hset.size⟩
  rw [World.cell?_setCell_other _ _ _ _ (by simp)]; exact h.c1
set_option maxRecDepth 100000 in
set_option maxHeartbeats 4000000 in
theorem inRead_any (w : World) (a : Option Addr) (n cap : Nat) (ns : List Int) (hn : n = ns.length) (hA : BytesAt w a ns) (hf : SlForm a cap) (hx : ns.length ≤ 1000000) (h0 : 0 < ns.length) :
    Calls Tryz.prog 71 #[.slice a n cap] w fun e w' => ∃ ib nb, e = .returned (.pointer (some ⟨ib, 0, none⟩)) ∧ w.heap.size ≤ ib ∧ w.heap.size ≤ nb ∧ InAt w' ib nb ns ∧ Grew w w' := by
  have HC := hid (cloneB_any w a n cap ns hn hA hf hx)
  have HN := hid hn
  clear hA hn hf
  go_enter Tryz.func71, Tryz.ntmps71
  go_wp2_with fail
  refine HC.out.mono ?_
  rintro e w1 ⟨a1, c1, rfl, hr, hg⟩
  have HF : Hid (∃ nb, w.heap.size ≤ nb ∧ InAt (w1.alloc (.cells #[.slice a1 n c1, .nilIface] 226)) w1.heap.size nb ns) := by
    have hB := bytesAt_of hr
    rw [← HN.out] at hB
    obtain ⟨a2, c2, e, hA2, hS2, hl2⟩ := hB
    cases e
    have hG : Grew w1 (w1.alloc (.cells #[.slice a1 n c1, .nilIface] 226)) := (Grew.refl w1).alloc _
    rcases hr.2 with ⟨h1, h2⟩ | ⟨nb, c, cur, h1, h2, h3, _⟩
    · omega
    · cases h1
      have hlt : nb < w1.heap.size := (Array.getElem?_eq_some_iff.1 h3).1
      exact ⟨nb, h2, 0, c1, by rw [← HN.out]; simp [go_sem], by simp [go_sem], by simp [go_sem], hA2.grew hG, by rw [← HN.out]; exact hl2, Nat.ne_of_lt hlt, Nat.lt_of_lt_of_le hlt hG.size⟩
  have HG := hid hg
  clear hr hg
  go_wp2_with fail
  go_ret
  obtain ⟨nb, h1, h2⟩ := HF.out
  exact ⟨_, nb, rfl, HG.out.size, h1, h2, HG.out.alloc _⟩
theorem i64_small (n : Int) (h0 : 0 ≤ n) (h1 : n < 2 ^ 62) : IntKind.i64.wrap n = n := by unfold IntKind.wrap; simp [IntKind.bits, IntKind.signed]; omega
theorem wrap64_small (n : Int) (h0 : 0 ≤ n) (h1 : n < 2 ^ 62) : wrap64 n = n := by unfold wrap64; omega
theorem raw_or (v k q : Nat) (hq : q = v / 128 ^ k) (hv : v < 4611686018427387904) : bits .or .i64 ((v : Int) % 128 ^ k) (wrap64 ((q : Int) % 128 * 2 ^ (7 * k))) = ((v % 128 ^ (k + 1) : Nat) : Int) := by
  obtain ⟨p, hp⟩ : ∃ p : Nat, p = 128 ^ k := ⟨_, rfl⟩
  have e0 : (2 : Nat) ^ (7 * k) = p := by rw [Nat.pow_mul, hp]
  have e2 : (2 : Int) ^ (7 * k) = (p : Int) := by rw [← e0]; push_cast; rfl
  have e3 : (128 : Int) ^ k = (p : Int) := by rw [hp]; push_cast; rfl
  have hpp : 0 < p := by rw [hp]; exact Nat.pow_pos (by decide)
  have h1 : v % 128 ^ (k + 1) = v % p + p * (q % 128) := by rw [Nat.pow_succ, ← hp, Nat.mod_mul, hq, hp]
  have h2 : v % 128 ^ (k + 1) ≤ v := Nat.mod_le _ _
  have h3 : p * (q % 128) ≤ v := by omega
  have e4 : ((q : Int) % 128 * (p : Int)) = ((p * (q % 128) : Nat) : Int) := by push_cast; rw [Int.mul_comm]
  have e5 : ((v : Int) % (p : Int)) = ((v % p : Nat) : Int) := by push_cast; rfl
  rw [e2, e3, e4, e5, wrap64_small _ (by omega) (by omega)]
  have hlt : v % p < p := Nat.mod_lt _ hpp
  rw [bits_join_low .i64 62 (by decide) i64_small (7 * k) _ _ (by omega) (by rw [e2]; omega) (by have := Nat.mod_le v p; omega) (by omega) (by rw [e2]; push_cast; exact Int.mul_emod_right _ _) (by omega), h1]
  push_cast
  rfl
set_option maxRecDepth 100000 in
set_option maxHeartbeats 4000000 in
theorem inRaw_any {w : World} {ib nb : Nat} (v : Nat) (hv : v < 4611686018427387904) {rest : List Int} (h : InAt w ib nb (Pl.numB v ++ rest)) (hx : rest.length ≤ 1000000) :
    Calls Tryz.prog 141 #[.pointer (some ⟨ib, 0, none⟩)] w fun e w' => e = .returned (.int .i64 (v : Nat)) ∧ InTurn w ib nb rest w' := by
  obtain ⟨off, cap, h⟩ := h
  have HI := hid h
  have c0 := h.c0
  have f0 := h.f0
  have hib : ib < w.heap.size := cell_lt c0
  have hlen := Pl.numB_len 8 v (by omega)
  have hpos := Pl.numB_pos v
  obtain ⟨b, hbe⟩ : ∃ b, b = nb := ⟨_, rfl⟩
  have hb := h.lt
  have hc : ∀ j n, (Pl.numB v ++ rest)[j]? = some n → w.cell? ⟨nb, off + j, none⟩ = some (.int .u8 n) := by
    rcases h.at_ with h1 | ⟨b', off', e, _, h1⟩
    · have : (Pl.numB v).length + rest.length = 0 := by rw [← List.length_append, h1]; rfl
      omega
    · cases e; exact h1
  subst hbe
  obtain ⟨m, hm⟩ : ∃ m, m = (Pl.numB v ++ rest).length := ⟨_, rfl⟩
  rw [← hm] at c0
  have hm1 : m ≤ 1000020 := by rw [hm, List.length_append]; omega
  have hmc : m ≤ cap := by rw [hm]; exact h.len
  have HC := hid hc
  have HM := hid hm
  clear h hc hm
  go_enter Tryz.func141, Tryz.ntmps141
  go_wp2_with fail
  go_loopw [3, 4, 5, 11] (fun n _ _ i wr => ∃ k : Nat, i = .int .i64 k ∧ k ≤ 8 ∧ n = .int .i64 ((v % 128 ^ k : Nat) : Int) ∧ Hid (∃ pre, Pl.numB v = pre ++ Pl.numB (v / 128 ^ k) ∧ pre.length = k) ∧ Hid (k = 0 ∨ 0 < v / 128 ^ k) ∧ Hid (wr = w)) (fun _ _ _ i _ => 9 - (intOf i).toNat)
  case atStart => exact ⟨0, rfl, by omega, by simp [Nat.mod_one], ⟨[], by simp, rfl⟩, .inl rfl, rfl⟩
  case round =>
    obtain ⟨k, rfl, hk, rfl, HP, HZ, HW⟩ := hrel
    obtain rfl := HW.out
    have hkm : k < m := by
      obtain ⟨pre, e1, e2⟩ := HP.out
      have h1 := congrArg List.length e1
      rw [List.length_append] at h1
      have h2 := Pl.numB_pos (v / 128 ^ k)
      rw [HM.out, List.length_append]; omega
    obtain ⟨q, hq⟩ : ∃ q, q = v / 128 ^ k := ⟨_, rfl⟩
    have HQ := hid hq
    by_cases h128 : q < 128
    · have hcell : wr.cell? ⟨b, off + k, none⟩ = some (.int .u8 (q : Int)) := by
        obtain ⟨pre, e1, e2⟩ := HP.out
        refine HC.out k q ?_
        rw [e1, ← hq, Pl.numB_small h128, List.append_assoc, List.getElem?_append_right (by omega), e2]
        simp
      have HSUM := hid (raw_or v k q hq hv)
      clear hq
      go_upto_region 6 with fail
      rw [HSUM.out]
      have hv2 : v % 128 ^ (k + 1) = v := by
        have h1 : v / 128 ^ k / 128 = 0 := by rw [← HQ.out]; omega
        rw [Nat.div_div_eq_div_mul, ← Nat.pow_succ] at h1
        exact Nat.mod_eq_of_lt (by
          rcases Nat.div_eq_zero_iff.1 h1 with h2 | h2
          · have : 0 < 128 ^ (k + 1) := Nat.pow_pos (by decide)
            omega
          · exact h2)
      rw [hv2]
      have b1 : (v : Int) ≤ 4611686018427387903 := by omega
      have b2 : ¬ (4611686018427387903 : Int) < (v : Int) := by omega
      have b3 : ¬ (v : Int) < 0 := by omega
      have b4 : ¬ (128 : Int) ≤ (q : Int) := by omega
      have b5 : k + 1 ≤ cap := by omega
      have b6 : ((k : Int) + 1) ≤ (m : Int) := by omega
      have b7 : ((k : Int) + 1) ≤ (cap : Int) := by omega
      have hdr : (Pl.numB v ++ rest).drop (k + 1) = rest := by
        obtain ⟨pre, e1, e2⟩ := HP.out
        rw [e1, ← HQ.out, Pl.numB_small h128, List.append_assoc, List.drop_append, e2, List.drop_of_length_le (by omega)]
        simp
      have hl : rest.length = m - (k + 1) := by have := congrArg List.length hdr; rw [List.length_drop, ← HM.out] at this; omega
      have HFB := hid (show InTurn wr ib b rest (wr.setCell ⟨ib, 0, none⟩ (.slice (some ⟨b, off + (k + 1), none⟩) (m - (k + 1)) (cap - (k + 1)))) from by
        have hB := HI.out.at_.drop (k + 1)
        rw [hdr] at hB
        rw [← hl]
        exact HI.out.store hB (by omega))
      have HFA := hid (fun (hcap : cap = k + 1) => show InTurn wr ib b rest (wr.setCell ⟨ib, 0, none⟩ (.slice (some ⟨b, off, none⟩) (m - (k + 1)) 0)) from by
        rw [← hl]
        exact HI.out.store (.inl (List.eq_nil_of_length_eq_zero (by omega))) (by omega))
      clear hdr hl
      by_cases hk0 : k = 0
      · subst hk0
        have HFB0 : Hid (InTurn wr ib b rest (wr.setCell ⟨ib, 0, none⟩ (.slice (some ⟨b, off + 1, none⟩) (m - 1) (cap - 1)))) := HFB.out
        have HFA0 : Hid (cap = 1 → InTurn wr ib b rest (wr.setCell ⟨ib, 0, none⟩ (.slice (some ⟨b, off, none⟩) (m - 1) 0))) := HFA.out
        clear HFA HFB
        go_wp2_with fail
        all_goals (go_ret; first | exact ⟨rfl, HFB0.out⟩ | exact ⟨rfl, HFA0.out (by omega)⟩)
      · have hq0 : 0 < q := by rcases HZ.out with h | h; exact absurd h hk0; rw [HQ.out]; exact h
        have b8 : ¬ (q : Int) = 0 := by omega
        have b9 : (0 : Int) < (k : Int) := by omega
        go_wp2_with fail
        all_goals (go_ret; first | exact ⟨rfl, HFB.out⟩ | exact ⟨rfl, HFA.out (by omega)⟩)
    · have hcell : wr.cell? ⟨b, off + k, none⟩ = some (.int .u8 ((q % 128 + 128 : Nat) : Int)) := by
        obtain ⟨pre, e1, e2⟩ := HP.out
        refine HC.out k _ ?_
        rw [e1, ← hq, Pl.numB_great h128, List.append_assoc, List.getElem?_append_right (by omega), e2]
        simp
      have HSUM := hid (raw_or v k q hq hv)
      have hk8 : k < 8 := by
        rcases Nat.lt_or_ge k 8 with h | h
        · exact h
        · have : k = 8 := by omega
          subst this
          omega
      clear hq
      go_upto_region 6 with fail
      rw [HSUM.out]
      have b1 : (128 : Int) ≤ (q : Int) % 128 + 128 := by omega
      have b2 : (k : Int) < 8 := by omega
      go_wp2_with fail
      go_roundw
      case rel =>
        refine ⟨k + 1, by go_num, by omega, by simp, ?_, ?_, by unfold Hid; first | rfl | trivial⟩
        · obtain ⟨pre, e1, e2⟩ := HP.out
          refine ⟨pre ++ [((q % 128 + 128 : Nat) : Int)], ?_, by simp [e2]⟩
          rw [e1, ← HQ.out, Pl.numB_great h128, Nat.pow_succ, ← Nat.div_div_eq_div_mul, ← HQ.out]
          simp
        · refine .inr ?_
          rw [Nat.pow_succ, ← Nat.div_div_eq_div_mul, ← HQ.out]
          omega
      case measure => simp [intOf]; omega
theorem InTurn.trans {w w1 w2 : World} {ib nb : Nat} {bs cs : List Int} (h : InTurn w ib nb bs w1) (k : InTurn w1 ib nb cs w2) : InTurn w ib nb cs w2 := ⟨h.1.then k.1, k.2⟩
set_option maxRecDepth 100000 in
set_option maxHeartbeats 4000000 in
theorem inNum_any {w : World} {ib nb : Nat} (v : Nat) (most : Int) (hv : v < 4611686018427387904) (hm : (v : Int) ≤ most) {rest : List Int} (h : InAt w ib nb (Pl.numB v ++ rest)) (hx : rest.length ≤ 1000000) :
    Calls Tryz.prog 73 #[.pointer (some ⟨ib, 0, none⟩), .int .i64 most] w fun e w' => e = .returned (.int .i64 (v : Nat)) ∧ InTurn w ib nb rest w' := by
  have HR := hid (inRaw_any v hv h hx)
  obtain ⟨off0, cap0, h⟩ := h
  have c1 := h.c1
  have hib : ib < w.heap.size := cell_lt c1
  have hm' : ¬ most < (v : Int) := by omega
  clear h
  go_enter Tryz.func73, Tryz.ntmps73
  go_wp2_with fail
  refine HR.out.mono ?_
  rintro e w1 ⟨rfl, hT⟩
  have HT := hid hT
  obtain ⟨_, a1, cap1, h1⟩ := hT
  have d1 := h1.c1
  have hib1 : ib < w1.heap.size := cell_lt d1
  clear h1
  go_wp2_with fail
  go_ret
  exact ⟨rfl, HT.out⟩
set_option maxRecDepth 100000 in
theorem inErr_any {w : World} {ib nb : Nat} {bs : List Int} (h : InAt w ib nb bs) :
    Calls Tryz.prog 74 #[.pointer (some ⟨ib, 0, none⟩)] w fun e w' => e = .returned .nilIface ∧ w' = w := by
  obtain ⟨off0, cap0, h⟩ := h
  have c1 := h.c1
  have hib : ib < w.heap.size := cell_lt c1
  clear h
  go_enter Tryz.func74, Tryz.ntmps74
  go_wp2_with fail
  go_ret
  exact ⟨rfl, rfl⟩
set_option maxRecDepth 100000 in
theorem inEnd_any {w : World} {ib nb : Nat} (h : InAt w ib nb []) :
    Calls Tryz.prog 75 #[.pointer (some ⟨ib, 0, none⟩)] w fun e w' => e = .returned .nilIface ∧ w' = w := by
  obtain ⟨off0, cap0, h⟩ := h
  have c0 := h.c0
  have c1 := h.c1
  have hib : ib < w.heap.size := cell_lt c1
  rw [List.length_nil] at c0
  clear h
  go_enter Tryz.func75, Tryz.ntmps75
  go_wp2_with fail
  go_ret
  exact ⟨rfl, rfl⟩
theorem strOf_strNums (s : ByteArray) : strOfNums (strNums s) = s := by
  have e : ((strNums s).map fun n => UInt8.ofNat n.toNat) = s.data.toList := by
    unfold strNums
    rw [List.map_map]
    conv => rhs; rw [← List.map_id s.data.toList]
    apply List.map_congr_left
    intro b _
    simp
  unfold strOfNums
  rw [e]
theorem bytes_getD {w : World} {b off : Nat} {ns : List Int} (h : BytesAt w (some ⟨b, off, none⟩) ns) (i : Nat) (hi : i < ns.length) : w.cell? ⟨b, off + i, none⟩ = some (.int .u8 (ns.getD i 0)) := by
  rcases h with h | ⟨b', off', e, _, hc⟩
  · rw [h] at hi; cases hi
  · cases e
    rw [hc i ns[i] (List.getElem?_eq_getElem hi), List.getD_eq_getElem?_getD, List.getElem?_eq_getElem hi]
    rfl
set_option maxRecDepth 100000 in
set_option maxHeartbeats 4000000 in
theorem inText_any {w : World} {ib nb : Nat} (s : ByteArray) (most : Int) (hs : s.size ≤ 800000) (hm : (s.size : Int) ≤ most) {rest : List Int} (h : InAt w ib nb (Pl.textB s ++ rest)) (hx : rest.length ≤ 190000) :
    Calls Tryz.prog 72 #[.pointer (some ⟨ib, 0, none⟩), .int .i64 most] w fun e w' => e = .returned (.string s) ∧ InTurn w ib nb rest w' := by
  have HN := hid (inNum_any s.size most (by omega) hm (rest := strNums s ++ rest) (by rw [← List.append_assoc]; exact h) (by rw [List.length_append, strNums_length]; omega))
  obtain ⟨off0, cap0, h⟩ := h
  have c1 := h.c1
  have hib : ib < w.heap.size := cell_lt c1
  clear h
  go_enter Tryz.func72, Tryz.ntmps72
  go_wp2_with fail
  refine HN.out.mono ?_
  rintro e w1 ⟨rfl, hO1, off, cap1, h1⟩
  have HO1 := hid hO1
  have d0 := h1.c0
  have d1 := h1.c1
  have e0 := h1.f0
  have hib1 : ib < w1.heap.size := cell_lt d1
  obtain ⟨m, hm⟩ : ∃ m, m = (strNums s ++ rest).length := ⟨_, rfl⟩
  rw [← hm] at d0
  have hml : m = s.size + rest.length := by rw [hm, List.length_append, strNums_length]
  have hmc : m ≤ cap1 := by rw [hm]; exact h1.len
  have hcv : (convert 44 9 (.slice (some ⟨nb, off, none⟩) s.size cap1)).run Tryz.prog w1 = .ok (.string s) w1 := by
    have := run_convert_bytes_arg (P := Tryz.prog) w1 44 5 Tryz.underlying44 Tryz.underlying5 nb off s.size cap1 (strNums s) (strNums_length s) (fun i hi => by
      have hB := bytes_getD (h1.at_.take s.size) i (by rw [List.length_take, List.length_append, strNums_length]; omega)
      rw [← strNums_length s, List.take_left] at hB
      exact hB) 9 Tryz.underlying9
    rwa [strOf_strNums] at this
  have hdr : (strNums s ++ rest).drop s.size = rest := by rw [← strNums_length s, List.drop_left]
  have hl : rest.length = m - s.size := by omega
  have HFB := hid (show InTurn w1 ib nb rest (w1.setCell ⟨ib, 0, none⟩ (.slice (some ⟨nb, off + s.size, none⟩) (m - s.size) (cap1 - s.size))) from by
    have hB := h1.at_.drop s.size
    rw [hdr] at hB
    rw [← hl]
    exact h1.store hB (by omega))
  have HFA := hid (fun (hcap : cap1 = s.size) => show InTurn w1 ib nb rest (w1.setCell ⟨ib, 0, none⟩ (.slice (some ⟨nb, off, none⟩) (m - s.size) 0)) from by
    rw [← hl]
    exact h1.store (.inl (List.eq_nil_of_length_eq_zero (by omega))) (by omega))
  have HCV := hid hcv
  have g1 : s.size ≤ m := by omega
  have g2 : s.size ≤ cap1 := by omega
  have g3 : ¬ (m : Int) < (s.size : Int) := by omega
  have hm1 : m ≤ 2000000 := by omega
  clear h1 hO1 hm hml hdr hl HN
  generalize s.size = z at *
  go_wp2_with fail
  all_goals (go_ret; first | exact ⟨rfl, HO1.out.then HFB.out.1, HFB.out.2⟩ | exact ⟨rfl, HO1.out.then (HFA.out (by omega)).1, (HFA.out (by omega)).2⟩)
theorem run_conv_bytes {w : World} {a : Option Addr} {n cap : Nat} {ns : List Int} (hn : n = ns.length) (hA : BytesAt w a ns) (hf : SlForm a cap) : (convert 44 9 (.slice a n cap)).run Tryz.prog w = .ok (.string (strOfNums ns)) w := by
  subst hn
  rcases hf with ⟨rfl, rfl⟩ | ⟨b, off, rfl⟩
  · have h0 : ns = [] := by
      rcases hA with h | ⟨b, off, h, _⟩
      · exact h
      · cases h
    subst h0
    exact run_convert_bytes_nil (P := Tryz.prog) w 44 5 Tryz.underlying44 Tryz.underlying5 _ _ 9 Tryz.underlying9
  · exact run_convert_bytes_arg (P := Tryz.prog) w 44 5 Tryz.underlying44 Tryz.underlying5 b off ns.length cap ns rfl (fun i hi => bytes_getD hA i hi) 9 Tryz.underlying9
end Go.Proofs.YtoiahcgaffffbaaGreatDoor
namespace Go.Proofs.YtoiahcgaffffbaaGreatDoor
open Go.RowKit Go.Maps
theorem loose_of2 {P : Program} {l : List Oper} {Z : List Nat} {J : (Nat → Bool) → (Nat → Value) → World → Prop} {a : Act} {i : Nat} {o : Oper} (ho : l[i]? = some o) (g : (Nat → Value) → Act → Act)
    (hg : ∀ f a, actGo (fun j => Z.contains j && (depsOf o).contains j) f l 0 a = g f a)
    (h : ∀ (L : Nat → Bool) (f : Nat → Value) (w : World), J L f w → L i = false → (∀ j, Z.contains j = true → j ∈ depsOf o → L j = true) → Region.wanted o (yielded l.toArray (g f a).tmps) = true ∧ uponV P (fun v w' => J (plus L i) (updV f i v) w') ((execOp (g f a).eval o).run P w)) : LooseStep P l Z J a i := by
  intro o' ho' L f w hi hL hV
  have : o = o' := Option.some.inj (ho.symm.trans ho')
  subst this
  rw [hg]
  obtain ⟨h1, h2⟩ := h L f w hi hL hV
  rw [if_pos h1]
  exact h2
structure JT (vs : Nat → Option Value) (od : List (Nat × Nat)) (s : Nat) (R0 R1 : World → Prop) (X : Nat → Option (World → Value → Prop)) (L : Nat → Bool) (f : Nat → Value) (x : World) : Prop where
  val : ∀ i v, L i = true → vs i = some v → f i = v
  ord : ∀ p ∈ od, L p.1 = true → L p.2 = true
  a : L s = false → R0 x
  d : L s = true → R1 x
  ex : ∀ i p, X i = some p → L i = true → p x (f i)
  xo : ∀ i p, X i = some p → L i = true → L s = true
structure StT (R0 R1 : World → Prop) (X : Nat → Option (World → Value → Prop)) : Prop where
  r0 : ∀ x x', Grew x x' → R0 x → R0 x'
  r1 : ∀ x x', Grew x x' → R1 x → R1 x'
  x : ∀ i p, X i = some p → ∀ x x' v, Grew x x' → p x v → p x' v
section
variable {vs : Nat → Option Value} {od : List (Nat × Nat)} {s : Nat} {R0 R1 : World → Prop} {X : Nat → Option (World → Value → Prop)} {L : Nat → Bool} {f : Nat → Value} {x x' : World}
theorem JT.start (h : R0 x) : JT vs od s R0 R1 X (fun _ => false) f x :=
  ⟨fun _ _ h => (by cases h), fun _ _ h => (by cases h), fun _ => h, fun h => (by cases h), fun _ _ _ h => (by cases h), fun _ _ _ h => (by cases h)⟩
theorem JT.more (st : StT R0 R1 X) (h : JT vs od s R0 R1 X L f x) (g : Grew x x') : JT vs od s R0 R1 X L f x' :=
  ⟨h.val, h.ord, fun hl => st.r0 _ _ g (h.a hl), fun hl => st.r1 _ _ g (h.d hl), fun i p hp hl => st.x i p hp _ _ _ g (h.ex i p hp hl), h.xo⟩
theorem plus_ne {L : Nat → Bool} {i j : Nat} (h : j ≠ i) : plus L i j = L j := by simp only [plus, if_neg h]
theorem plus_on {L : Nat → Bool} {i : Nat} : plus L i i = true := by simp [plus]
theorem plus_up {L : Nat → Bool} {i j : Nat} (h : L j = true) : plus L i j = true := by simp only [plus]; split; rfl; exact h
theorem ord_plus {od : List (Nat × Nat)} {L : Nat → Bool} {i : Nat} (h : ∀ p ∈ od, L p.1 = true → L p.2 = true) (ho : ∀ p ∈ od, p.1 = i → L p.2 = true) : ∀ p ∈ od, plus L i p.1 = true → plus L i p.2 = true := by
  intro p hp hl
  by_cases hi : p.1 = i
  · exact plus_up (ho p hp hi)
  · rw [plus_ne hi] at hl; exact plus_up (h p hp hl)
theorem val_plus {vs : Nat → Option Value} {L : Nat → Bool} {f : Nat → Value} {i : Nat} {v : Value} (h : ∀ i v, L i = true → vs i = some v → f i = v) (hv : ∀ u, vs i = some u → v = u) : ∀ j u, plus L i j = true → vs j = some u → updV f i v j = u := by
  intro j u hl hu
  by_cases hj : j = i
  · subst hj; rw [updV_same]; exact hv u hu
  · rw [plus_ne hj] at hl; rw [updV_ne hj]; exact h j u hl hu
theorem JT.put (h : JT vs od s R0 R1 X L f x) (i : Nat) (v : Value) (hv : vs i = some v) (hs : s ≠ i) (hX : X i = none) (ho : ∀ p ∈ od, p.1 = i → L p.2 = true) : JT vs od s R0 R1 X (plus L i) (updV f i v) x := by
  refine ⟨val_plus h.val (fun u hu => by rw [hv] at hu; exact Option.some.inj hu), ord_plus h.ord ho, fun hl => h.a (by rwa [plus_ne hs] at hl), fun hl => h.d (by rwa [plus_ne hs] at hl), fun j p hp hl => ?_, fun j p hp hl => ?_⟩
  · have hj : j ≠ i := fun e => by subst e; rw [hX] at hp; cases hp
    rw [plus_ne hj] at hl
    rw [updV_ne hj]; exact h.ex j p hp hl
  · have hj : j ≠ i := fun e => by subst e; rw [hX] at hp; cases hp
    rw [plus_ne hj] at hl
    exact plus_up (h.xo j p hp hl)
end
end Go.Proofs.YtoiahcgaffffbaaGreatDoor
namespace Go.Proofs.YtoiahcgaffffbaaGreatDoor
open Go.RowKit Go.Maps
attribute [local go_sem] Oper.semAt_some uponV
structure StIs (w : World) (Ft Fs : Nat → Prop) (st tb sb n : Nat) (lo hi : ByteArray) (P : List Pr) (S : Int → Option An) : Prop where
  c0 : w.cell? ⟨st, 0, none⟩ = some (.pointer (some ⟨tb, 0, none⟩))
  c1 : w.cell? ⟨st, 1, none⟩ = some (.string lo)
  c2 : w.cell? ⟨st, 2, none⟩ = some (.string hi)
  c3 : w.cell? ⟨st, 3, none⟩ = some (.pointer (some ⟨sb, 0, none⟩))
  f0 : ∀ i, w.frozen? ⟨st, i, none⟩ = false
  tab : TabAt w Ft tb P
  seen : SeenAt w Fs sb n S
  good : Pl.Good P
  apart : ∀ j, Ft j → ¬ Fs j ∧ j ≠ st
  own : ∀ j, Fs j → j ≠ st
def StAt (w : World) (Ft Fs : Nat → Prop) (st n : Nat) (lo hi : ByteArray) (P : List Pr) (S : Int → Option An) : Prop := ∃ tb sb, StIs w Ft Fs st tb sb n lo hi P S
section
variable {w w' : World} {Ft Fs T : Nat → Prop} {st tb sb n : Nat} {lo hi : ByteArray} {P : List Pr} {S : Int → Option An}
theorem StIs.kept (h : StIs w Ft Fs st tb sb n lo hi P S) (g : Only T w w') (h1 : ∀ j, Ft j → ¬ T j) (h2 : ∀ j, Fs j → ¬ T j) (h3 : ¬ T st) : StIs w' Ft Fs st tb sb n lo hi P S where
  c0 := (g.cell (cell_lt h.c0) h3 0).trans h.c0
  c1 := (g.cell (cell_lt h.c0) h3 1).trans h.c1
  c2 := (g.cell (cell_lt h.c0) h3 2).trans h.c2
  c3 := (g.cell (cell_lt h.c0) h3 3).trans h.c3
  f0 := fun i => (g.frozen (cell_lt h.c0) h3 i).trans (h.f0 i)
  tab := h.tab.kept g h1
  seen := h.seen.kept g h2
  good := h.good
  apart := h.apart
  own := h.own
theorem StAt.kept (h : StAt w Ft Fs st n lo hi P S) (g : Only T w w') (h1 : ∀ j, Ft j → ¬ T j) (h2 : ∀ j, Fs j → ¬ T j) (h3 : ¬ T st) : StAt w' Ft Fs st n lo hi P S := by
  obtain ⟨tb, sb, h⟩ := h
  exact ⟨tb, sb, h.kept g h1 h2 h3⟩
theorem StAt.grew (h : StAt w Ft Fs st n lo hi P S) (g : Grew w w') : StAt w' Ft Fs st n lo hi P S := h.kept (g.only fun _ => False) (fun _ _ h => h) (fun _ _ h => h) (fun h => h)
end
def stB (lo hi : ByteArray) (P : List Pr) (S : Int → Option An) : List Int := Pl.textB lo ++ Pl.textB hi ++ Pl.textB (strOfNums (Pl.tabB P)) ++ Pl.textB (strOfNums (seenB S))
structure JCpy (y : World) (n : Nat) (P : List Pr) (S : Int → Option An) (L : Nat → Bool) (f : Nat → Value) (x : World) : Prop where
  grew : Grew y x
  ord : L 13 = true → L 4 = true
  tab : L 4 = true → ∃ cb Fc, f 4 = .pointer (some ⟨cb, 0, none⟩) ∧ TabAt x Fc cb P ∧ (∀ j, Fc j → y.heap.size ≤ j) ∧ (L 13 = true → ∃ db Gs, f 13 = .pointer (some ⟨db, 0, none⟩) ∧ SeenAt x Gs db n S ∧ (∀ j, Gs j → y.heap.size ≤ j) ∧ ∀ j, Fc j → ¬ Gs j)
set_option maxRecDepth 100000 in
set_option maxHeartbeats 4000000 in
theorem copyS_any {w : World} {Ft Fs : Nat → Prop} {st n : Nat} {lo hi : ByteArray} {P : List Pr} {S : Int → Option An} (h : StAt w Ft Fs st n lo hi P S) (hx : P.length ≤ 1000) :
    Calls Tryz.prog 88 #[.pointer (some ⟨st, 0, none⟩)] w fun e w' => ∃ cb Gt Gs, e = .returned (.pointer (some ⟨cb, 0, none⟩)) ∧ StAt w' Gt Gs cb n lo hi P S ∧ w.heap.size ≤ cb ∧ (∀ j, Gt j → w.heap.size ≤ j) ∧ (∀ j, Gs j → w.heap.size ≤ j) ∧ Grew w w' := by
  obtain ⟨tb, sb, h⟩ := h
  have HC := hid (fun W (g : Grew w W) => copyT_any (h.tab.grew g) (by omega))
  have HD := hid (fun W (g : Grew w W) => copyD_any (h.seen.grew g))
  have HG := hid h.good
  have c0 := h.c0
  have hst : st < w.heap.size := cell_lt c0
  have C0 := wd_cell h.c0
  have C1 := wd_cell h.c1
  have C2 := wd_cell h.c2
  have C3 := wd_cell h.c3
  have HC3 := hid h.c3
  clear h c0
  go_enter Tryz.func88, Tryz.ntmps88
  go_wp2_with fail
  refine wp_region_mixS 14 [4, 13] (Grew w) Eq (JCpy w n P S) (fun f a => (a.put (some 7) (f 4)).put (some 16) (f 13)) (by kernel_rfl) (by kernel_rfl) (fun _ _ => rfl) ⟨(Grew.refl w).drew, (fun h => by cases h), (fun h => by cases h)⟩ (fun _ _ _ h => h.grew) (fun _ => rfl) (fun _ _ _ _ h g => g ▸ h) ?_
  repeat (first
    | (refine mixS_loose (by rfl) (by rfl) ?_)
    | (refine mixS_plain (by rfl) (by rfl) (by rfl) (by first | exact Grew.refl | exact fun _ => rfl) (by rfl) ?_; intro K hK; go_big_quiet_op; go_big_quiet_on)
    | (refine mixS_skip (by rfl) (by rfl) (by rfl) ?_; simp only [Act.put, List.setIfInBounds_toArray, List.set_cons_zero, List.set_cons_succ]))
  refine mixS_done (by rfl) ⟨⟨loose_of rfl (fun _ a => a) (fun _ _ => rfl) (fun _ => rfl) ?_, loose_of rfl (fun f a => a.put (some 7) (f 4)) (fun _ _ => rfl) (fun _ => rfl) ?_, trivial⟩, ?_⟩
  · intro L f x hJ hL hd
    have h13 : L 13 = false := bool_no fun h => by rw [hJ.ord h] at hL; cases hL
    have HJ := hid hJ
    have H13 := hid h13
    clear hJ hL hd C0 C1 C2 C3 h13
    go_simp
    refine (HC.out x HJ.out.grew).mono ?_
    rintro e x' ⟨⟨cb, Fc, rfl, hT, hF⟩, hg⟩
    refine ⟨_, rfl, HJ.out.grew.trans hg, fun h => plus_on, fun _ => ⟨cb, Fc, updV_same _ _ _, hT, fun j hj => Nat.le_trans HJ.out.grew.size (hF j hj), fun h => ?_⟩⟩
    rw [plus_ne (by decide), H13.out] at h; cases h
  · intro L f x hJ hL hd
    have l4 := hd 4 rfl (by decide)
    obtain ⟨cb, Fc, e4, hT, hF, _⟩ := hJ.tab l4
    have HJ := hid hJ
    have HT := hid (And.intro e4 (And.intro hT hF))
    have HL4 := hid l4
    clear hJ hL hd C0 C1 C2 C3 hT hF l4
    rw [e4]
    clear e4
    go_simp
    refine (HD.out x HJ.out.grew).mono ?_
    rintro e x' ⟨db, Gs, rfl, hS, hG2, hg⟩
    refine ⟨_, rfl, HJ.out.grew.trans hg, fun h => plus_up HL4.out, fun _ => ⟨cb, Fc, ?_, HT.out.2.1.grew hg, HT.out.2.2, fun _ => ⟨db, Gs, updV_same _ _ _, hS, fun j hj => Nat.le_trans HJ.out.grew.size (hG2 j hj), fun j hj hj2 => ?_⟩⟩⟩
    · rw [updV_ne (by decide)]; exact HT.out.1
    · have h1 := tabAt_lt HT.out.2.1 j hj
      have h2 := hG2 j hj2
      omega
  intro f x hJ
  obtain ⟨cb, Fc, e4, hT, hF, h13⟩ := hJ.tab rfl
  obtain ⟨db, Gs, e13, hS, hG2, hdis⟩ := h13 rfl
  have hgx := hJ.grew
  have HF : Hid (StAt (x.alloc (.cells #[.pointer (some ⟨cb, 0, none⟩), .string lo, .string hi, .pointer (some ⟨db, 0, none⟩)] 91)) Fc Gs x.heap.size n lo hi P S ∧ Grew w (x.alloc (.cells #[.pointer (some ⟨cb, 0, none⟩), .string lo, .string hi, .pointer (some ⟨db, 0, none⟩)] 91)) ∧ w.heap.size ≤ x.heap.size ∧ (∀ j, Fc j → w.heap.size ≤ j) ∧ ∀ j, Gs j → w.heap.size ≤ j) := by
    have gA : Grew x (x.alloc (.cells #[.pointer (some ⟨cb, 0, none⟩), .string lo, .string hi, .pointer (some ⟨db, 0, none⟩)] 91)) := (Grew.refl x).alloc _
    refine ⟨⟨cb, db, by simp [go_sem], by simp [go_sem], by simp [go_sem], by simp [go_sem], fun i => by simp [go_sem], hT.grew gA, hS.grew gA, HG.out, fun j hj => ⟨hdis j hj, fun e => ?_⟩, fun j hj e => ?_⟩, hgx.trans gA, hgx.size, hF, hG2⟩
    · have := tabAt_lt hT j hj; omega
    · have := hS.lt j hj; omega
  clear hT hF h13 hS hG2 hdis hgx hJ C0 C1 C2 C3
  dsimp only [List.drop]
  simp only [Act.put, List.setIfInBounds_toArray, List.set_cons_succ, List.set_cons_zero]
  rw [e4, e13]
  clear e4 e13
  go_wp2_with fail
  go_ret
  exact ⟨_, Fc, Gs, rfl, HF.out.1, HF.out.2.2.1, HF.out.2.2.2.1, HF.out.2.2.2.2, HF.out.2.1⟩
end Go.Proofs.YtoiahcgaffffbaaGreatDoor
