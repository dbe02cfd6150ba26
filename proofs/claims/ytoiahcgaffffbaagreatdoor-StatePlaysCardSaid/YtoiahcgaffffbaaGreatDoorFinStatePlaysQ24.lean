/- PkT, BytT, CopyT: one text. -/
import Derived.Test.YtoiahcgaffffbaaGreatDoorFinStatePlaysQ20
import Derived.Test.YtoiahcgaffffbaaGreatDoorFinStatePlaysQ23
import Derived.Test.YtoiahcgaffffbaaGreatDoorFinStatePlaysQ21
import Derived.Test.YtoiahcgaffffbaaGreatDoorFinStatePlaysQ11
import Derived.Test.YtoiahcgaffffbaaGreatDoorFinStatePlaysQ14
set_option linter.unusedVariables false
set_option linter.unusedSimpArgs false
namespace Go.Proofs.YtoiahcgaffffbaaGreatDoor
namespace Pl
theorem enc_le4 (c : Nat) : (enc c).length ≤ 4 := by
  unfold enc
  repeat' split
  all_goals simp
theorem runes_cover : ∀ (n : Nat) (l : List UInt8) (r : List Nat), l.length ≤ n → runes l = some r → l.length ≤ 4 * r.length := by
  intro n
  induction n with
  | zero =>
    intro l r hl h
    omega
  | succ n ih =>
    intro l r hl h
    by_cases e : l = []
    · subst e; simp
    · rw [runes_step l e] at h
      cases hs : step1 l with
      | none => rw [hs] at h; cases h
      | some d =>
        rw [hs] at h
        simp only [Option.bind_some, Option.map_eq_some_iff] at h
        obtain ⟨t, ht, rfl⟩ := h
        obtain ⟨c, w⟩ := d
        have hp := step1_pos l e c w hs
        have h4 : w ≤ 4 := by have := (step1_enc l e c w hs).2.1; rw [this]; exact enc_le4 c
        have := ih (l.drop w) t (by simp; omega) ht
        simp at this ⊢
        omega
theorem key_size {k : ByteArray} (h : keyN k = 0) : k.size ≤ 96 := by
  unfold keyN at h
  split at h
  · cases h
  · next l hl =>
    have := runes_cover _ _ _ (Nat.le_refl _) hl
    have hs : k.size = k.data.toList.length := by rw [Array.length_toList]; rfl
    unfold keyL at h
    split at h
    · cases h
    · split at h
      · cases h
      · omega
def pairB (p : Pr) : List Int := textB p.key ++ textB p.val ++ numB p.ver.toNat
def pairsB (P : List Pr) : List Int := P.flatMap pairB
def tabB (P : List Pr) : List Int := numB P.length ++ pairsB P
def Good (P : List Pr) : Prop := ∀ c ∈ P, putN c = 0
theorem good_nil : Good [] := fun c h => by cases h
theorem Good.sub {P Q : List Pr} (h : Good P) (hs : Q.Sublist P) : Good Q := fun c hc => h c (hs.subset hc)
theorem Good.take {P : List Pr} (h : Good P) (k : Nat) : Good (P.take k) := h.sub (List.take_sublist k P)
theorem Good.drop {P : List Pr} (h : Good P) (k : Nat) : Good (P.drop k) := h.sub (List.drop_sublist k P)
theorem tdel_sub (P : List Pr) (k : ByteArray) : (tdel P k).Sublist P := by
  unfold tdel
  split
  · have h1 : (P.take (pos P k) ++ P.drop (pos P k + 1)).Sublist (P.take (pos P k) ++ P.drop (pos P k)) :=
      List.Sublist.append (List.Sublist.refl _) (by rw [← List.drop_drop]; exact List.drop_sublist 1 _)
    rwa [List.take_append_drop] at h1
  · exact List.Sublist.refl _
theorem Good.del {P : List Pr} (h : Good P) (k : ByteArray) : Good (tdel P k) := h.sub (tdel_sub P k)
theorem Good.put {P : List Pr} (h : Good P) (p : Pr) : Good (putT P p) := by
  unfold putT
  split
  · next hp =>
    intro c hc
    unfold tput at hc
    rw [List.mem_append, List.mem_append] at hc
    rcases hc with (hc | hc) | hc
    · exact h c (List.mem_of_mem_take hc)
    · rw [List.mem_singleton.1 hc]; exact hp
    · exact h c (List.mem_of_mem_drop hc)
  · exact h
theorem putT_len (P : List Pr) (p : Pr) : (putT P p).length ≤ P.length + 1 := by
  unfold putT; split
  · exact tput_length P p
  · omega
theorem pairB_byte (p : Pr) : ∀ b ∈ pairB p, 0 ≤ b ∧ b < 256 := by
  intro b hb
  unfold pairB at hb
  rw [List.mem_append, List.mem_append] at hb
  rcases hb with (hb | hb) | hb
  · exact textB_byte _ b hb
  · exact textB_byte _ b hb
  · exact numB_byte _ b hb
theorem tabB_byte (P : List Pr) : ∀ b ∈ tabB P, 0 ≤ b ∧ b < 256 := by
  intro b hb
  unfold tabB pairsB at hb
  rw [List.mem_append, List.mem_flatMap] at hb
  rcases hb with hb | ⟨p, _, hb⟩
  · exact numB_byte _ b hb
  · exact pairB_byte p b hb
theorem pairB_len {p : Pr} (h : putN p = 0) : (pairB p).length ≤ 170 := by
  obtain ⟨h1, h2, h3, h4⟩ := putN_zero h
  have k1 := key_size h1
  have a1 := textB_len p.key (by omega)
  have a2 := textB_len p.val (by omega)
  have a3 := numB_len 1 p.ver.toNat (by omega)
  unfold pairB
  rw [List.length_append, List.length_append]
  omega
theorem pairsB_len {P : List Pr} (h : Good P) : (pairsB P).length ≤ P.length * 170 := by
  unfold pairsB
  induction P with
  | nil => simp
  | cons p P ih =>
    have h1 := pairB_len (h p (by simp))
    have h2 := ih (fun c hc => h c (by simp [hc]))
    simp only [List.flatMap_cons, List.length_append, List.length_cons]
    omega
theorem tabB_len {P : List Pr} (h : Good P) (hl : P.length < 2097152) : (tabB P).length ≤ P.length * 170 + 3 := by
  have h1 := pairsB_len h
  have h2 := numB_len 2 P.length (by simpa using hl)
  unfold tabB
  rw [List.length_append]
  omega
theorem pairsB_drop (P : List Pr) (k : Nat) (hk : k < P.length) : pairsB (P.drop k) = pairB (prAt P k) ++ pairsB (P.drop (k + 1)) := by
  unfold pairsB
  rw [prAt_eq P k hk, List.drop_eq_getElem_cons hk, List.flatMap_cons]
theorem pairsB_take (P : List Pr) (k : Nat) (hk : k < P.length) : pairsB (P.take (k + 1)) = pairsB (P.take k) ++ pairB (prAt P k) := by
  unfold pairsB
  rw [prAt_eq P k hk, List.take_succ_eq_append_getElem hk, List.flatMap_append, List.flatMap_cons, List.flatMap_nil, List.append_nil]
theorem srt_next {P : List Pr} (h : Srt P) (hg : Good P) (k : Nat) (hk : k < P.length) : putT (P.take k) (prAt P k) = P.take (k + 1) ∧ putN (prAt P k) = 0 ∧ (∀ j, j < k → compare (prAt P j).key (prAt P k).key < 0) := by
  rw [prAt_eq P k hk]
  have hm : P[k] ∈ P := List.getElem_mem hk
  have hp := hg _ hm
  have hlt : ∀ c ∈ P.take k, compare c.key P[k].key < 0 := by
    intro c hc
    obtain ⟨j, hj, rfl⟩ := List.mem_take_iff_getElem.1 hc
    exact List.pairwise_iff_getElem.1 h.rise j k (by omega) hk (by omega)
  have hpos : pos (P.take k) P[k].key = (P.take k).length := by
    unfold pos
    rw [List.countP_eq_length]
    intro c hc
    simpa using hlt c hc
  have hhas : hasB (P.take k) P[k].key = false := by
    unfold hasB
    rw [hpos]
    simp
  refine ⟨?_, hp, fun j hj => ?_⟩
  · unfold putT
    rw [if_pos hp]
    unfold tput
    rw [hhas, hpos, List.take_length, List.take_succ_eq_append_getElem hk]
    simp
  · rw [prAt_eq P j (by omega)]
    exact List.pairwise_iff_getElem.1 h.rise j k (by omega) hk hj
end Pl
end Go.Proofs.YtoiahcgaffffbaaGreatDoor
set_option linter.unusedSectionVars false
namespace Go.Proofs.YtoiahcgaffffbaaGreatDoor
open Go.RowKit Go.Maps
attribute [local go_sem] Oper.semAt_some
theorem pairs_fields {w : World} {a : Option Addr} {xs : List Pr} (h : PairsAt w a xs) (k : Nat) (hk : k < xs.length) : ∃ b off, a = some ⟨b, off, none⟩ ∧ b < w.heap.size ∧ PairRow w b off xs := by
  rcases h with h | h
  · rw [h] at hk; simp at hk
  · exact h
theorem good_ver {P : List Pr} (h : Pl.Good P) (k : Nat) (hk : k < P.length) : ((prAt P k).ver.toNat : Int) = (prAt P k).ver ∧ (prAt P k).ver.toNat ≤ 4096 ∧ (prAt P k).key.size ≤ 96 ∧ (prAt P k).val.size ≤ 64 := by
  rw [prAt_eq P k hk]
  obtain ⟨h1, h2, h3, h4⟩ := Pl.putN_zero (h _ (List.getElem_mem hk))
  have := Pl.key_size h1
  omega
set_option maxRecDepth 100000 in
set_option maxHeartbeats 8000000 in
theorem bytesT_any {w : World} {F : Nat → Prop} {tb : Nat} {P : List Pr} (h : TabAt w F tb P) (hg : Pl.Good P) (hx : P.length ≤ 1000) (hl : (Pl.tabB P).length ≤ 65536) :
    Calls Tryz.prog 90 #[.pointer (some ⟨tb, 0, none⟩)] w fun e w' => ∃ a c, e = .returned (.tuple #[.slice a (Pl.tabB P).length c, .nilIface]) ∧ w'.ownsRow w.heap.size 5 1 (.slice a (Pl.tabB P).length c) (Pl.tabB P).length (u8Flat (Pl.tabB P)) ∧ Grew w w' := by
  obtain ⟨v, h⟩ := h
  obtain ⟨a, cap, rfl, hA⟩ := pairsAt_of h.row
  have c0 := h.cell
  have htb := cell_lt c0
  have HA := hid hA
  have HGD := hid (fun k hk => good_ver hg k hk)
  have HPL := hid (Pl.pairsB_len hg)
  have HLN := hid hl
  obtain ⟨n, hn⟩ : ∃ n, n = P.length := ⟨_, rfl⟩
  have HN := hid hn
  rw [← hn] at c0
  obtain ⟨W1, hW1⟩ : ∃ W1, W1 = w.alloc (.cells #[.slice none 0 0, .nilIface] 151) := ⟨_, rfl⟩
  have HW1 := hid hW1
  have HNEW : Hid (OutAt W1 (fun j => j = w.heap.size) w.heap.size []) := by unfold Hid; rw [hW1]; exact OutAt.new w _
  have hGW : Grew w W1 := by rw [hW1]; exact (Grew.refl w).alloc _
  have hn1 : n ≤ 1000 := by omega
  clear h hA hg hl hx hn hW1
  go_enter Tryz.func90, Tryz.ntmps90
  go_wp2_with fail
  rw [← HW1.out]
  have cW := (hGW.cells.1 _ 0 htb).trans c0
  refine (outNum_any HNEW.out n (by omega) (by simp)).mono ?_
  rintro e w2 ⟨rfl, hT2⟩
  rw [List.nil_append] at hT2
  have HT2 := hid hT2
  have HG2 : Grew w w2 := hT2.new hGW (fun j hj => by rw [hj]; exact Nat.le_refl _)
  have c2 := (HG2.cells.1 _ 0 htb).trans c0
  have htb2 := Nat.lt_of_lt_of_le htb HG2.size
  clear cW hT2 c0
  go_wp2_with fail
  clear c2
  go_loopw [6, 21] (fun pz i wr => ∃ (k : Nat) (cs : List Int), i = .int .i64 k ∧ k ≤ n ∧ Hid (cs = Pl.numB n ++ Pl.pairsB (P.take k)) ∧ Hid (OutTurn W1 (fun j => j = w.heap.size) w.heap.size cs wr)) (fun _ i _ => n - (intOf i).toNat)
  case atStart => exact ⟨0, Pl.numB n, rfl, Nat.zero_le _, by unfold Hid; simp [Pl.pairsB], HT2⟩
  case round =>
    obtain ⟨k, cs, rfl, hk, HE, HT⟩ := hrel
    obtain ⟨g1, G1, hO, hGG⟩ := HT.out
    have hGr : Grew w wr := HT.out.new hGW (fun j hj => by rw [hj]; exact Nat.le_refl _)
    have HOA := hid hO
    have HG1 := hid g1
    have HGG := hid hGG
    have HGr := hid hGr
    have hlc : cs.length ≤ 200000 := by
      have h1 := Pl.numB_len 2 n (by omega)
      have h2 := HPL.out
      have h3 : (Pl.pairsB (P.take k)).length ≤ (Pl.pairsB P).length := by
        have := congrArg List.length (show Pl.pairsB (P.take k) ++ Pl.pairsB (P.drop k) = Pl.pairsB P by unfold Pl.pairsB; rw [← List.flatMap_append, List.take_append_drop])
        rw [List.length_append] at this; omega
      rw [HE.out, List.length_append]
      rw [← HN.out] at h2
      omega
    clear hO g1 hGG
    by_cases hlt : k < n
    · obtain ⟨b, off, rfl, hb, hR⟩ := pairs_fields HA.out k (by rw [← HN.out]; exact hlt)
      have hlt' : k < P.length := by rw [← HN.out]; exact hlt
      have q0 := (hGr.cells.1 b (off + k * 3) hb).trans (hR.key k hlt')
      have q1 := (hGr.cells.1 b (off + k * 3 + 1) hb).trans (hR.val k hlt')
      have q2 := (hGr.cells.1 b (off + k * 3 + 2) hb).trans (hR.ver k hlt')
      have HNX : Hid (cs ++ Pl.pairB (prAt P k) = Pl.numB n ++ Pl.pairsB (P.take (k + 1))) := by unfold Hid; rw [HE.out, Pl.pairsB_take P k hlt', List.append_assoc]
      obtain ⟨v1, v2, v3, v4⟩ := HGD.out k hlt'
      clear hR hlt' hGr
      generalize prAt P k = c at *
      obtain ⟨ck, cv, cn⟩ := c
      dsimp only at *
      obtain ⟨vn, hvn⟩ : ∃ vn : Nat, vn = cn.toNat := ⟨_, rfl⟩
      rw [← hvn] at v1 v2
      subst v1
      have HVN := hid hvn
      clear hvn
      have hbr := Nat.lt_of_lt_of_le hb HGr.out.size
      go_wp2_with fail
      clear q0 q1 q2
      -- key
      have hz0 : wr.heap.size < (wr.alloc (.cells #[.string ck, .string cv, .int .i64 vn] 83)).heap.size := by simp
      have hP0 : ¬ G1 wr.heap.size := fun h => by have := HOA.out.lt _ h; omega
      refine (outText_any (HOA.out.grew ((Grew.refl wr).alloc _)) ck (by omega) (by omega)).mono ?_
      rintro e w3 ⟨rfl, g3, G3, hO3, hG3⟩
      have HP3 := hid (show ¬ G3 wr.heap.size from fun h => by rcases hG3 _ h with h | h; exact hP0 h; omega)
      have m1 : w3.cell? ⟨wr.heap.size, 1, none⟩ = some (.string cv) := (g3.cell hz0 hP0 1).trans (by simp [go_sem])
      have M2 : Hid (w3.cell? ⟨wr.heap.size, 2, none⟩ = some (.int .i64 vn)) := (g3.cell hz0 hP0 2).trans (by simp [go_sem])
      have hz3 := Nat.lt_of_lt_of_le hz0 g3.size
      have HO3 := hid hO3
      have HG3 := hid hG3
      have HK3 := hid g3
      have l3 : (cs ++ Pl.textB ck).length ≤ 300000 := by rw [List.length_append]; have := Pl.textB_len ck (by omega); omega
      clear hO3 hG3 g3
      go_wp2_with fail
      clear m1
      -- value
      refine (outText_any HO3.out cv (by omega) (by omega)).mono ?_
      rintro e w4 ⟨rfl, g4, G4, hO4, hG4⟩
      have m2 : w4.cell? ⟨wr.heap.size, 2, none⟩ = some (.int .i64 vn) := (g4.cell hz3 HP3.out 2).trans M2.out
      have hz4 := Nat.lt_of_lt_of_le hz3 g4.size
      have HO4 := hid hO4
      have HG4 := hid hG4
      have HK4 := hid g4
      have l4 : (cs ++ Pl.textB ck ++ Pl.textB cv).length ≤ 400000 := by rw [List.length_append]; have := Pl.textB_len cv (by omega); omega
      clear hO4 hG4 g4 M2
      go_wp2_with fail
      clear m2
      -- version
      refine (outNum_any HO4.out vn (by omega) (by omega)).mono ?_
      rintro e w5 ⟨rfl, hT5⟩
      have HF : Hid (OutTurn W1 (fun j => j = w.heap.size) w.heap.size (cs ++ Pl.pairB ⟨ck, cv, vn⟩) w5) := by
        have h5 := OutTurn.step (HG1.out.grewT ((Grew.refl wr).alloc (.cells #[.string ck, .string cv, .int .i64 vn] 83))) HGG.out (OutTurn.step HK3.out HG3.out (OutTurn.step HK4.out HG4.out hT5))
        unfold Hid Pl.pairB
        dsimp only
        rw [show (vn : Int).toNat = vn by omega]
        simpa [List.append_assoc] using h5
      clear hT5
      go_wp2_with fail
      go_roundw
      case rel => exact ⟨k + 1, _, by go_num, by omega, HNX.out, HF⟩
      case measure => simp [intOf]; omega
    · have hkn : k = n := by omega
      subst hkn
      have HEN : Hid (cs = Pl.tabB P) := by unfold Hid Pl.tabB; rw [HE.out, HN.out, List.take_length]
      rw [HEN.out] at HOA
      have HD := hid (outDone_any HOA.out HLN.out)
      clear hGr
      go_wp2_with fail
      refine HD.out.mono ?_
      rintro e w3 ⟨a3, c3, rfl, hr3, hg3⟩
      have HR3 := hid (ownsRow_base HGr.out.size hr3)
      have HG3 := hid (HGr.out.trans hg3)
      clear hr3 hg3
      go_wp2_with fail
      go_ret2
      exact ⟨a3, c3, rfl, HR3.out, HG3.out⟩
set_option maxRecDepth 100000 in
set_option maxHeartbeats 8000000 in
theorem bytes21_any {w : World} {tb : Nat} {P D : List Pr} (h : MTab w tb D) (hT : Pl.Tt P D) (hg : Pl.Good P) (hx : P.length ≤ 1000) :
    Calls Tryz.prog 145 #[.pointer (some ⟨tb, 0, none⟩)] w fun e w' => ∃ a c, e = .returned (.slice a (Pl.tabB P).length c) ∧ w'.ownsRow w.heap.size 5 1 (.slice a (Pl.tabB P).length c) (Pl.tabB P).length (u8Flat (Pl.tabB P)) ∧ Grew w w' := by
  have hlen := hT.len
  have HSO := hid (fun W (g : Grew w W) => sorted21_any (h.grew g) (by omega) hT.key hT.ap)
  have HTS := hid (fun zs => hT.sorted (zs := zs))
  obtain ⟨a, cap, c0, hA⟩ := h
  have htb := cell_lt c0
  have HGD := hid (fun k hk => good_ver hg k hk)
  have HPL := hid (Pl.pairsB_len hg)
  obtain ⟨n, hn⟩ : ∃ n, n = P.length := ⟨_, rfl⟩
  have HN := hid hn
  rw [← hlen, ← hn] at c0
  have hn1 : n ≤ 1000 := by omega
  clear hA hg hx hn hlen hT
  go_enter Tryz.func145, Tryz.ntmps145
  go_wp2_with fail
  refine (num4_any n _ (by omega)).mono ?_
  rintro e w1 ⟨a1, c1, rfl, hr1, hg1⟩
  have HZ1 := hid (RowZ.start hr1 hg1.size)
  have hG1 := hg1
  clear c0 hr1 hg1
  go_wp2_with fail
  refine (HSO.out _ hG1).mono ?_
  rintro e w2 ⟨⟨v, zs, rfl, hp, hs, hrow⟩, hg2⟩
  obtain rfl := HTS.out _ hp hs
  obtain ⟨a2, c2, rfl, hA2⟩ := pairsAt_of hrow
  have HZ2 : Hid (∃ Z, RowZ w.heap.size Z w2 (.slice a1 (Pl.numB n).length c1) (Pl.numB n) ∧ ∀ b off, a2 = some ⟨b, off, none⟩ → Z b) := by
    rcases hrow.2 with ⟨h1, _⟩ | ⟨b, c, cur, h1, hb, hh, _⟩
    · exact ⟨_, HZ1.out.grew hg2, fun b off e => by rw [e] at h1; cases h1⟩
    · exact ⟨_, HZ1.out.more hg2 hb (Array.getElem?_eq_some_iff.1 hh).1, fun b' off e => .inr (by rw [e] at h1; cases h1; rfl)⟩
  obtain ⟨Z, hZ, hZb⟩ := HZ2.out
  have HZ3 := hid hZ
  have HZB := hid hZb
  have HA := hid hA2
  have hG2 := hG1.trans hg2
  rw [← HN.out]
  clear hZ hZb hA2 hp hs hrow hg2 HZ1 HZ2 hG1 HSO HTS
  go_wp2_with fail
  go_loopw [3, 5, 15] (fun v pz i wr => ∃ (k : Nat) (cs : List Int), i = .int .i64 k ∧ k ≤ n ∧ Hid (cs = Pl.numB n ++ Pl.pairsB (zs.take k)) ∧ Hid (RowZ w.heap.size Z wr v cs) ∧ Hid (Only (Free w.heap.size Z) w2 wr)) (fun _ _ i _ => n - (intOf i).toNat)
  case atStart => exact ⟨0, Pl.numB n, rfl, Nat.zero_le _, by unfold Hid; simp [Pl.pairsB], HZ3, Only.refl _ _⟩
  case round =>
    obtain ⟨k, cs, rfl, hk, HE, HV, HO⟩ := hrel
    obtain ⟨av, vc, rfl⟩ := HV.out.form
    have hGr : Grew w wr := ((hG2.only _).then HO.out).grew fun j hj => hj.2
    have HGr := hid hGr
    have hlc : cs.length ≤ 200000 := by
      have h1 := Pl.numB_len 2 n (by omega)
      have h2 := HPL.out
      have h3 : (Pl.pairsB (zs.take k)).length ≤ (Pl.pairsB zs).length := by
        have := congrArg List.length (show Pl.pairsB (zs.take k) ++ Pl.pairsB (zs.drop k) = Pl.pairsB zs by unfold Pl.pairsB; rw [← List.flatMap_append, List.take_append_drop])
        rw [List.length_append] at this; omega
      rw [HE.out, List.length_append]
      rw [← HN.out] at h2
      omega
    by_cases hlt : k < n
    · obtain ⟨b, off, rfl, hb, hR⟩ := pairs_fields HA.out k (by rw [← HN.out]; exact hlt)
      have hlt' : k < zs.length := by rw [← HN.out]; exact hlt
      have hnb : ¬ Free w.heap.size Z b := free_not (HZB.out b off rfl)
      have q0 := (HO.out.cell hb hnb _).trans (hR.key k hlt')
      have q1 := (HO.out.cell hb hnb _).trans (hR.val k hlt')
      have q2 := (HO.out.cell hb hnb _).trans (hR.ver k hlt')
      have HNX : Hid (cs ++ Pl.textB (prAt zs k).key ++ Pl.textB (prAt zs k).val ++ Pl.numB (prAt zs k).ver.toNat = Pl.numB n ++ Pl.pairsB (zs.take (k + 1))) := by unfold Hid; rw [HE.out, Pl.pairsB_take zs k hlt']; unfold Pl.pairB; simp [List.append_assoc]
      obtain ⟨v1, v2, v3, v4⟩ := HGD.out k hlt'
      clear hR hlt' hGr hnb
      generalize prAt zs k = c at *
      obtain ⟨ck, cv, cn⟩ := c
      dsimp only at *
      obtain ⟨vn, hvn⟩ : ∃ vn : Nat, vn = cn.toNat := ⟨_, rfl⟩
      rw [← hvn] at v1 v2 HNX
      subst v1
      clear hvn
      have hbr := Nat.lt_of_lt_of_le hb HO.out.size
      go_wp2_with fail
      clear q0 q1 q2
      -- key
      have hz0 : wr.heap.size < (wr.alloc (.cells #[.string ck, .string cv, .int .i64 vn] 83)).heap.size := by simp
      refine (text4_any (wr.alloc (.cells #[.string ck, .string cv, .int .i64 vn] 83)) ck (by omega)).mono ?_
      rintro e w3 ⟨a3, c3, rfl, hrow3, hg3⟩
      have hA3 : Grew wr w3 := ((Grew.refl wr).alloc (.cells #[.string ck, .string cv, .int .i64 vn] 83)).trans hg3
      have hz3 := Nat.lt_of_lt_of_le hz0 hg3.size
      have HV3 := hid (HV.out.more hA3 (Nat.le_refl _) hz3)
      have M1 : Hid (w3.cell? ⟨wr.heap.size, 1, none⟩ = some (.string cv)) := (hg3.cells.1 _ _ hz0).trans (by simp [go_sem])
      have M2 : Hid (w3.cell? ⟨wr.heap.size, 2, none⟩ = some (.int .i64 vn)) := (hg3.cells.1 _ _ hz0).trans (by simp [go_sem])
      have HR3 := hid hrow3
      have HO3 := hid (HO.out.grewT hA3)
      have l3 : (Pl.textB ck).length ≤ 1000 := by have := Pl.textB_len ck (by omega); omega
      clear hrow3 hg3 hA3
      go_wp2_with (at_builtin; refine wpList_append_z rfl _ _ rfl rfl HV3.out rfl HR3.out (by omega) ?_)
      intro d4 HD4 a4 c4 w4 hv4 ho4
      have m1 := (ho4.cell hz3 free_not1 1).trans M1.out
      have M4 := hid ((ho4.cell hz3 free_not1 2).trans M2.out)
      have hz4 := Nat.lt_of_lt_of_le hz3 ho4.size
      have HV4 := hid hv4
      have HO4 := hid (HO3.out.then (ho4.mono fun j hj => .inl (free_and hj)))
      have l4 : d4.length ≤ 300000 := by rw [HD4.out, List.length_append]; omega
      clear hv4 ho4 M1 M2 HR3 HV3 HO3
      go_wp2_with fail
      clear m1
      -- value
      refine (text4_any w4 cv (by omega)).mono ?_
      rintro e w5 ⟨a5, c5, rfl, hrow5, hg5⟩
      have hz5 := Nat.lt_of_lt_of_le hz4 hg5.size
      have HV5 := hid (HV4.out.grew hg5)
      have M5 : Hid (w5.cell? ⟨wr.heap.size, 2, none⟩ = some (.int .i64 vn)) := (hg5.cells.1 _ _ hz4).trans M4.out
      have HR5 := hid hrow5
      have HO5 := hid (HO4.out.grewT hg5)
      have l5 : (Pl.textB cv).length ≤ 1000 := by have := Pl.textB_len cv (by omega); omega
      clear hrow5 hg5 M4 HV4 HO4
      go_wp2_with (at_builtin; refine wpList_append_z rfl _ _ rfl rfl HV5.out rfl HR5.out (by omega) ?_)
      intro d6 HD6 a6 c6 w6 hv6 ho6
      have m2 := (ho6.cell hz5 free_not1 2).trans M5.out
      have hz6 := Nat.lt_of_lt_of_le hz5 ho6.size
      have HV6 := hid hv6
      have HO6 := hid (HO5.out.then (ho6.mono fun j hj => .inl (free_and hj)))
      have l6 : d6.length ≤ 400000 := by rw [HD6.out, List.length_append]; omega
      clear hv6 ho6 M5 HR5 HV5 HO5
      go_wp2_with fail
      clear m2
      -- version
      refine (num4_any vn w6 (by omega)).mono ?_
      rintro e w7 ⟨a7, c7, rfl, hrow7, hg7⟩
      have HV7 := hid (HV6.out.grew hg7)
      have HR7 := hid hrow7
      have HO7 := hid (HO6.out.grewT hg7)
      have l7 : (Pl.numB vn).length ≤ 10 := by have := Pl.numB_len 8 vn (by omega); omega
      clear hrow7 hg7 HV6 HO6
      go_wp2_with (at_builtin; refine wpList_append_z rfl _ _ rfl rfl HV7.out rfl HR7.out (by omega) ?_)
      intro d8 HD8 a8 c8 w8 hv8 ho8
      have HV8 := hid (hv8.less (Y := Z) fun j h => Or.inl h)
      have HO8 := hid (HO7.out.then (ho8.mono fun j hj => .inl (free_and hj)))
      clear hv8 ho8 HR7 HV7 HO7
      go_wp2_with fail
      go_roundw
      case rel => exact ⟨k + 1, _, by go_num, by omega, by unfold Hid; rw [HD8.out, HD6.out, HD4.out]; exact HNX.out, HV8, HO8⟩
      case measure => simp [intOf]; omega
    · have hkn : k = n := by omega
      subst hkn
      have HEN : Hid (cs = Pl.tabB zs) := by unfold Hid Pl.tabB; rw [HE.out, HN.out, List.take_length]
      have HROW := hid HV.out.row
      rw [HEN.out] at HROW
      clear hGr
      go_wp2_with fail
      go_ret
      exact ⟨av, vc, by simp [HEN.out], HROW.out, HGr.out⟩
end Go.Proofs.YtoiahcgaffffbaaGreatDoor
namespace Go.Proofs.YtoiahcgaffffbaaGreatDoor
open Go.RowKit Go.Maps
attribute [local go_sem] Oper.semAt_some
set_option maxRecDepth 100000 in
set_option maxHeartbeats 1000000 in
theorem copyT_any {w : World} {F : Nat → Prop} {tb : Nat} {xs : List Pr} (h : TabAt w F tb xs) (hx : xs.length ≤ 1000000) :
    Calls Tryz.prog 124 #[.pointer (some ⟨tb, 0, none⟩)] w fun e w' => (∃ cb Fc, e = .returned (.pointer (some ⟨cb, 0, none⟩)) ∧ TabAt w' Fc cb xs ∧ ∀ j, Fc j → w.heap.size ≤ j) ∧ Grew w w' := by
  have HS := hid (tabAt_srt h)
  have HZ := hid (tabAt_sz h)
  obtain ⟨v, h⟩ := h
  obtain ⟨a, cap, rfl, hA⟩ := pairsAt_of h.row
  have c0 := h.cell
  have htb := cell_lt c0
  have HCL := hid (cloneP_any w a xs.length cap xs rfl hA (slForm_of h.row) hx)
  clear h hA
  go_enter Tryz.func124, Tryz.ntmps124
  go_wp2_with fail
  refine HCL.out.mono ?_
  rintro e w1 ⟨a', c', rfl, hrow, hg⟩
  have HF : Hid ((∃ Fc, TabAt (w1.alloc (.cells #[.slice a' xs.length c'] 199)) Fc w1.heap.size xs ∧ ∀ j, Fc j → w.heap.size ≤ j) ∧ Grew w (w1.alloc (.cells #[.slice a' xs.length c'] 199))) := by
    have hG : Grew w1 (w1.alloc (.cells #[.slice a' xs.length c'] 199)) := (Grew.refl w1).alloc _
    refine ⟨⟨_, tabAt_mk (by simp [go_sem]) (by simp [go_sem]) (ownsRow_grew hG hrow) (.inr fun g hg' => ?_) HS.out HZ.out, fun j hj => ?_⟩, hg.trans hG⟩
    · have := (hrow.lt g hg').2; omega
    · rcases hj with rfl | ⟨_, hj⟩
      · exact hg.size
      · exact hj
  clear hrow
  go_wp2_with fail
  go_ret
  obtain ⟨⟨Fc, h1, h2⟩, h3⟩ := HF.out
  exact ⟨⟨_, Fc, rfl, h1, h2⟩, h3⟩
end Go.Proofs.YtoiahcgaffffbaaGreatDoor
