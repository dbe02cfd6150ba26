/- BzW, Byt37: one text. -/
import Derived.Test.YtoiahcgaffffbaaGreatDoorFinDeltaBetweenQ22
import Derived.Test.YtoiahcgaffffbaaGreatDoorFinDeltaBetweenQ40
set_option linter.unusedVariables false
set_option linter.unusedSectionVars false
set_option linter.unusedSimpArgs false
namespace Go.Proofs.YtoiahcgaffffbaaGreatDoor
open Go.RowKit Go.Maps
def BytesV (B : Nat) (cs : List Int) (v : Value) (x : World) : Prop := ∃ a c, v = .slice a cs.length c ∧ x.ownsRow B 5 1 v cs.length (u8Flat cs)
theorem BytesV.grew {B : Nat} {cs : List Int} {v : Value} {x x' : World} (h : BytesV B cs v x) (g : Grew x x') : BytesV B cs v x' := by
  obtain ⟨a, c, e, hr⟩ := h
  exact ⟨a, c, e, ownsRow_grew g hr⟩
def InV (V : List (Nat × List Value)) (j : Nat) : Prop := ∃ p ∈ V, p.1 = j
structure Bz (w W : World) (V : List (Nat × List Value)) (v : Value) (cs : List Int) : Prop where
  grew : Grew w W
  c : ∀ p ∈ V, ∀ (i : Nat) u, p.2[i]? = some u → W.cell? ⟨p.1, i, none⟩ = some u
  row : RowZ w.heap.size (InV V) W v cs
section
variable {w W X : World} {V : List (Nat × List Value)} {v v' : Value} {cs ds : List Int}
theorem Bz.lt (h : Bz w W V v cs) : ∀ p ∈ V, p.1 < W.heap.size := fun p hp => h.row.lt _ ⟨p, hp, rfl⟩
theorem Bz.start (g : Grew w W) (hr : BytesV w.heap.size cs v W) : Bz w W [] v cs := by
  obtain ⟨a, c, e, hr⟩ := hr
  exact ⟨g, fun p hp => by simp at hp, ⟨⟨a, c, e⟩, hr, fun j _ hz => by obtain ⟨p, hp, _⟩ := hz; simp at hp, g.size, fun j hz => by obtain ⟨p, hp, _⟩ := hz; simp at hp⟩⟩
theorem Bz.more (h : Bz w W V v cs) (g : Grew W X) : Bz w X V v cs :=
  ⟨h.grew.trans g, fun p hp i u hu => (g.cells.1 _ _ (h.lt p hp)).trans (h.c p hp i u hu), h.row.grew g⟩
theorem Bz.add (h : Bz w W V v cs) (g : Grew W X) (b : Nat) (vals : List Value) (hb : W.heap.size ≤ b) (hX : b < X.heap.size) (hc : ∀ (i : Nat) u, vals[i]? = some u → X.cell? ⟨b, i, none⟩ = some u) : Bz w X ((b, vals) :: V) v cs := by
  have hm := h.more g
  refine ⟨hm.grew, fun p hp => ?_, hm.row.form, hm.row.row, fun j hj hz => ?_, hm.row.base, fun j hz => ?_⟩
  · rcases List.mem_cons.1 hp with rfl | hp
    · exact hc
    · exact hm.c p hp
  · obtain ⟨p, hp, rfl⟩ := hz
    rcases List.mem_cons.1 hp with rfl | hp
    · have h1 := (h.row.row.lt _ hj).2
      dsimp only at h1; omega
    · exact hm.row.ne _ hj ⟨p, hp, rfl⟩
  · obtain ⟨p, hp, rfl⟩ := hz
    rcases List.mem_cons.1 hp with rfl | hp
    · exact hX
    · exact hm.row.lt _ ⟨p, hp, rfl⟩
theorem Bz.tail {p : Nat × List Value} (h : Bz w W (p :: V) v cs) : Bz w W V v cs :=
  ⟨h.grew, fun q hq => h.c q (List.mem_cons_of_mem _ hq), h.row.less fun j hj => by obtain ⟨q, hq, e⟩ := hj; exact ⟨q, List.mem_cons_of_mem _ hq, e⟩⟩
theorem Bz.next (h : Bz w W V v cs) (hr : RowZ w.heap.size (InV V) X v' ds) (ho : Only (Free w.heap.size (InV V)) W X) : Bz w X V v' ds :=
  ⟨((h.grew.only _).then ho).grew fun j hj => hj.2, fun p hp i u hu => (ho.cell (h.lt p hp) (free_not ⟨p, hp, rfl⟩) i).trans (h.c p hp i u hu), hr⟩
end
theorem wpList_append_bz {ops : Array Oper} {rest : List Oper} {o : Oper} {a : Act} {Q : Exit → Act → World → Prop} (hgd : o.guard = none) (s x : Operand)
    (ho : o.op = .call { callee := .builtin .append, args := #[s, x], argTypes := #[44, 44] }) {w W : World} {V : List (Nat × List Value)} {v : Value} {ys xs : List Int} (hs : a.eval s = v) (hown : Bz w W V v ys)
    {u : Value} {C : Nat} (hx : a.eval x = u) (hu : BytesV C xs u W) (hbig : ys.length + xs.length ≤ 100000000)
    (h : ∀ ds, Hid (ds = ys ++ xs) → ∀ a' c' w', Bz w w' V (.slice a' ds.length c') ds → wpList Tryz.prog ops Q rest (a.put o.dst (.slice a' ds.length c')) w') : wpList Tryz.prog ops Q (o :: rest) a W := by
  obtain ⟨au, cu, rfl, hr⟩ := hu
  refine wpList_append_z hgd s x ho hs hown.row hx hr hbig ?_
  intro ds hd a' c' w' hz hO
  exact h ds hd a' c' w' (hown.next hz hO)
end Go.Proofs.YtoiahcgaffffbaaGreatDoor
namespace Go.Proofs.YtoiahcgaffffbaaGreatDoor
open Go.RowKit Go.Maps
attribute [local go_sem] Oper.semAt_some uponV
def R37 (B : Nat) (lo : ByteArray) (i : Nat) (v : Value) (x : World) : Prop := i = 3 → BytesV B (Pl.textB lo) v x
theorem R37.mono (B : Nat) (lo : ByteArray) : MonoQ (R37 B lo) := fun i v x x' h g e => (h e).grew g
theorem text4v_any (B : Nat) (w : World) (t : ByteArray) (hB : B ≤ w.heap.size) (ht : t.size ≤ 1000000) : Calls Tryz.prog 69 #[.string t] w fun e w' => ∃ v, e = .returned v ∧ BytesV B (Pl.textB t) v w' ∧ Grew w w' := by
  refine (text4_any w t ht).mono ?_
  rintro e w' ⟨a, c, rfl, hr, hg⟩
  exact ⟨_, rfl, ⟨a, c, rfl, ownsRow_base hB hr⟩, hg⟩
theorem num4v_any (B : Nat) (w : World) (n : Nat) (hB : B ≤ w.heap.size) (hn : n < 4611686018427387904) : Calls Tryz.prog 70 #[.int .i64 n] w fun e w' => ∃ v, e = .returned v ∧ BytesV B (Pl.numB n) v w' ∧ Grew w w' := by
  refine (num4_any n w hn).mono ?_
  rintro e w' ⟨a, c, rfl, hr, hg⟩
  exact ⟨_, rfl, ⟨a, c, rfl, ownsRow_base hB hr⟩, hg⟩
set_option maxRecDepth 100000 in
set_option maxHeartbeats 8000000 in
theorem bytes37_any {w : World} {lo hi : ByteArray} {A : List Pr} {K : List ByteArray} {C : List (Int × An)} (hR : DlR lo hi A K C) {ap ak ac : Option Addr} {cp ck cc : Nat} (hM : DlM w ap ak ac A K C) (ha : A.length ≤ 240) (hk : K.length ≤ 240) :
    Calls Tryz.prog 17 #[.agg #[.string lo, .string hi, .slice ap A.length cp, .slice ak K.length ck, .slice ac C.length cc]] w fun e w' => ∃ a c, e = .returned (.slice a (Pl.delB lo hi A K C).length c) ∧ w'.ownsRow w.heap.size 5 1 (.slice a (Pl.delB lo hi A K C).length c) (Pl.delB lo hi A K C).length (u8Flat (Pl.delB lo hi A K C)) ∧ Grew w w' := by
  have HLEN := hid (Pl.delB_len hR.lsz hR.hsz hR.good ha (fun k h => (hR.keys k h).1) hk hR.cls)
  have HR := hid hR
  have HM := hid hM
  have HAK := hid (And.intro ha hk)
  have hls := hR.lsz
  have hhs := hR.hsz
  have HC4 := hid (clRow_len hR.cls)
  clear hR hM
  go_enter Tryz.func17, Tryz.ntmps17
  go_upto_region 1 with fail
  obtain ⟨Y, hY⟩ : ∃ Y, Y = w.alloc (.cells #[.string lo, .string hi, .slice ap A.length cp, .slice ak K.length ck, .slice ac C.length cc] 40) := ⟨_, rfl⟩
  have gY : Grew w Y := by rw [hY]; exact (Grew.refl w).alloc _
  have HD := hid (show ∀ (i : Nat) v, [Value.string lo, .string hi, .slice ap A.length cp, .slice ak K.length ck, .slice ac C.length cc][i]? = some v → Y.cell? ⟨w.heap.size, i, none⟩ = some v from by
    intro i v hv
    rw [hY, cell_block (heap_alloc_new w _)]
    exact hv)
  have hxl : w.heap.size < Y.heap.size := by rw [hY]; simp
  have HGY := hid gY
  rw [← hY]
  obtain ⟨x, hx⟩ : ∃ x, x = w.heap.size := ⟨_, rfl⟩
  rw [← hx] at HD hxl ⊢
  clear hY gY hx
  have HVC := hid (fun (W : World) (g : Grew Y W) (i : Nat) v (h : [Value.string lo, .string hi, .slice ap A.length cp, .slice ak K.length ck, .slice ac C.length cc][i]? = some v) => show W.cell? ⟨x, i, none⟩ = some v ∧ x < W.heap.size from ⟨(g.cells.1 _ _ hxl).trans (HD.out i v h), Nat.lt_of_lt_of_le hxl g.size⟩)
  have C0 := wd_cell (HD.out 0 _ rfl)
  have C1 := wd_cell (HD.out 1 _ rfl)
  have HRM := hid (R37.mono Y.heap.size lo)
  refine wp_region_mixS 7 [3] (Grew Y) Grew (JQ (R37 Y.heap.size lo) Y) (fun f a => a.put (some 15) (f 3)) (by kernel_rfl) (by kernel_rfl) (fun _ _ => rfl) (JQ.start ..) (fun _ _ _ h => h.grew) Grew.refl (fun _ _ _ _ h g => h.more HRM.out g) ?_
  repeat (first
    | (refine mixS_loose (by rfl) (by rfl) ?_)
    | (refine mixS_plain (by rfl) (by rfl) (by rfl) (by first | exact Grew.refl | exact fun _ => rfl) (by rfl) ?_; intro K hK; go_big_quiet_op; go_big_quiet_on)
    | (refine mixS_skip (by rfl) (by rfl) (by rfl) ?_; simp only [Act.put, List.setIfInBounds_toArray, List.set_cons_zero, List.set_cons_succ]))
  refine mixS_done (by rfl) ⟨⟨loose_of rfl (fun _ a => a) (fun _ _ => rfl) (fun _ => rfl) ?_, trivial⟩, ?_⟩
  · intro L f u hJ hL hd
    have HJ := hid hJ
    clear hJ hL hd C0 C1
    go_simp
    refine (text4v_any Y.heap.size u lo HJ.out.grew.size (by omega)).mono ?_
    rintro e u' ⟨v, rfl, hr, hg⟩
    exact ⟨_, rfl, HJ.out.put HRM.out 3 hg fun _ => hr⟩
  intro f u hJ
  have hr1 := hJ.at_ 3 rfl rfl
  have HGU := hid hJ.grew
  have HB1 := hid (Bz.start hJ.grew hr1)
  generalize f 3 = v1 at *
  clear hJ C0 C1 hr1 HRM
  dsimp only [List.drop]
  simp only [Act.put, List.setIfInBounds_toArray, List.set_cons_succ, List.set_cons_zero]
  have l1 := Pl.textB_len lo (by omega)
  have l2 := Pl.textB_len hi (by omega)
  go_wp2_with fail
  refine (text4v_any Y.heap.size u hi HGU.out.size (by omega)).mono ?_
  rintro e w2 ⟨v2, rfl, hr2, hg2⟩
  have HR2 := hid hr2
  have HB2 := hid (HB1.out.more hg2)
  clear hr2 hg2 HB1 HGU
  go_wp2_with (at_builtin; refine wpList_append_bz rfl _ _ rfl rfl HB2.out rfl HR2.out (by omega) ?_)
  intro d3 HD3 a3 c3 w3 hB3
  have HB3 := hid hB3
  have HL3 := hid (show d3.length ≤ 1000 from by rw [HD3.out, List.length_append]; omega)
  obtain ⟨k1, k2⟩ := HVC.out w3 hB3.grew 2 _ rfl
  clear hB3 HB2 HR2 l1 l2
  have n1 := Pl.numB_len 1 A.length (by omega)
  have l3 := HL3.out
  go_wp2_with fail
  refine (num4v_any Y.heap.size w3 A.length HB3.out.grew.size (by omega)).mono ?_
  rintro e w4 ⟨v4, rfl, hr4, hg4⟩
  have HR4 := hid hr4
  have HB4 := hid (HB3.out.more hg4)
  clear hr4 hg4 HB3
  go_wp2_with (at_builtin; refine wpList_append_bz rfl _ _ rfl rfl HB4.out rfl HR4.out (by omega) ?_)
  intro d5 HD5 a5 c5 w5 hB5
  have HB5 := hid hB5
  clear hB5 HB4 HR4
  obtain ⟨T1, hT1⟩ : ∃ T1, T1 = Pl.textB lo ++ Pl.textB hi ++ Pl.numB A.length := ⟨_, rfl⟩
  have HT1 := hid hT1
  have hd5 : d5 = T1 := by rw [HD5.out, HD3.out, hT1]
  subst hd5
  have HL1 := hid (show d5.length ≤ 1100 from by rw [HD5.out, List.length_append]; omega)
  have HB5 := hid (show Bz Y w5 [] (.slice a5 d5.length c5) (d5 ++ Pl.pairsB (A.take 0)) from by simpa [Pl.pairsB] using HB5.out)
  generalize Value.slice a5 d5.length c5 = v5 at *
  obtain ⟨k1, k2⟩ := HVC.out w5 HB5.out.grew 2 _ rfl
  clear hT1 n1 l3 HD3 HD5 HL3
  go_wp2_with fail
  clear k1 k2
  go_loopw [3, 30] (fun v i wr => ∃ (k : Nat) (cs : List Int), k ≤ A.length ∧ i = .int .i64 k ∧ Hid (cs = d5 ++ Pl.pairsB (A.take k)) ∧ Hid (Bz Y wr [] v cs)) (fun _ i _ => A.length - (intOf i).toNat)
  case atStart => exact ⟨0, _, Nat.zero_le _, rfl, rfl, HB5⟩
  case round =>
    obtain ⟨k, cs, hk1, rfl, HE, HB⟩ := hrel
    by_cases hlt : k < A.length
    · rcases HM.out.p with h0 | ⟨b, off, rfl, hb, hR⟩
      · rw [h0] at hlt; simp at hlt
      have gr := HGY.out.trans HB.out.grew
      have q0 := (gr.cells.1 b (off + k * 3) hb).trans (hR.key k hlt)
      have q1 := (gr.cells.1 b (off + k * 3 + 1) hb).trans (hR.val k hlt)
      have q2 := (gr.cells.1 b (off + k * 3 + 2) hb).trans (hR.ver k hlt)
      obtain ⟨v1, v2, v3, v4⟩ := good_ver HR.out.good k hlt
      have hbr := Nat.lt_of_lt_of_le hb gr.size
      have HNX := hid (show cs ++ Pl.textB (prAt A k).key ++ Pl.textB (prAt A k).val ++ Pl.numB (prAt A k).ver.toNat = d5 ++ Pl.pairsB (A.take (k + 1)) from by rw [HE.out, Pl.pairsB_snoc A k hlt]; unfold Pl.pairB; simp [List.append_assoc])
      have HLC := hid (show cs.length ≤ 200000 from by rw [HE.out]; have := Pl.pairsB_takele A k; have := Pl.pairsB_len HR.out.good; have := HL1.out; rw [List.length_append]; omega)
      have hk9 : k < 1000000 := by omega
      clear hR gr HE
      generalize prAt A k = p at *
      obtain ⟨pk, pv, pn⟩ := p
      dsimp only at q0 q1 q2 v1 v2 v3 v4 HNX
      obtain ⟨vn, hvn⟩ : ∃ vn : Nat, vn = pn.toNat := ⟨_, rfl⟩
      rw [← hvn] at v1 v2 HNX
      subst v1
      clear hvn
      go_upto_region 6 with fail
      clear q0 q1 q2 hbr
      obtain ⟨U, hU⟩ : ∃ U, U = wr.alloc (.cells #[.string pk, .string pv, .int .i64 vn] 83) := ⟨_, rfl⟩
      have gU : Grew wr U := by rw [hU]; exact (Grew.refl wr).alloc _
      obtain ⟨ub, hub⟩ : ∃ ub, ub = wr.heap.size := ⟨_, rfl⟩
      have HBU := hid (HB.out.add gU ub [.string pk, .string pv, .int .i64 vn] (by omega) (by rw [hU, hub]; simp) (by
        intro i v hv
        rw [hU, hub, cell_block (heap_alloc_new wr _)]
        exact hv))
      rw [← hU, ← hub]
      clear hU gU hub HB
      have lc := HLC.out
      have l1 := Pl.textB_len pk (by omega)
      have l2 := Pl.textB_len pv (by omega)
      have l3 := Pl.numB_len 8 vn (by omega)
      have u0 := HBU.out.c _ (List.mem_cons_self ..) 0 _ rfl
      have hul := HBU.out.lt _ (List.mem_cons_self ..)
      dsimp only at u0 hul
      go_wp2_with fail
      refine (text4v_any Y.heap.size U pk HBU.out.grew.size (by omega)).mono ?_
      rintro e w6 ⟨v6, rfl, hr6, hg6⟩
      have HR6 := hid hr6
      have HB6 := hid (HBU.out.more hg6)
      clear hr6 hg6 HBU
      go_wp2_with (at_builtin; refine wpList_append_bz rfl _ _ rfl rfl HB6.out rfl HR6.out (by omega) ?_)
      intro d7 HD7 a7 c7 w7 hB7
      have HB7 := hid hB7
      clear hB7 HB6 HR6
      have lc7 : d7.length ≤ 200400 := by rw [HD7.out, List.length_append]; omega
      clear u0 hul
      have u1 := HB7.out.c _ (List.mem_cons_self ..) 1 _ rfl
      have hul := HB7.out.lt _ (List.mem_cons_self ..)
      dsimp only at u1 hul
      go_wp2_with fail
      refine (text4v_any Y.heap.size w7 pv HB7.out.grew.size (by omega)).mono ?_
      rintro e w8 ⟨v8, rfl, hr8, hg8⟩
      have HR8 := hid hr8
      have HB8 := hid (HB7.out.more hg8)
      clear hr8 hg8 HB7
      go_wp2_with (at_builtin; refine wpList_append_bz rfl _ _ rfl rfl HB8.out rfl HR8.out (by omega) ?_)
      intro d9 HD9 a9 c9 w9 hB9
      have HB9 := hid hB9
      clear hB9 HB8 HR8
      have lc9 : d9.length ≤ 200800 := by rw [HD9.out, List.length_append]; omega
      clear u1 hul
      have u2 := HB9.out.c _ (List.mem_cons_self ..) 2 _ rfl
      have hul := HB9.out.lt _ (List.mem_cons_self ..)
      dsimp only at u2 hul
      go_wp2_with fail
      refine (num4v_any Y.heap.size w9 vn HB9.out.grew.size (by omega)).mono ?_
      rintro e w10 ⟨v10, rfl, hr10, hg10⟩
      have HR10 := hid hr10
      have HB10 := hid (HB9.out.more hg10)
      clear hr10 hg10 HB9
      go_wp2_with (at_builtin; refine wpList_append_bz rfl _ _ rfl rfl HB10.out rfl HR10.out (by omega) ?_)
      intro d11 HD11 a11 c11 w11 hB11
      have HB11 := hid hB11
      clear hB11 HB10 HR10
      have HB12 := hid HB11.out.tail
      clear u2 hul HB11
      go_wp2_with fail
      go_roundw
      case rel => exact ⟨k + 1, _, by omega, by go_num, by unfold Hid; rw [HD11.out, HD9.out, HD7.out]; exact HNX.out, HB12⟩
      case measure => simp [intOf]; omega
    · have hkn : k = A.length := by omega
      subst hkn
      rw [List.take_length] at HE
      have HLP := hid (Pl.pairsB_len HR.out.good)
      have HLC := hid (show cs.length ≤ 50000 from by rw [HE.out, List.length_append]; have := HL1.out; have := HLP.out; omega)
      obtain ⟨k1, k2⟩ := HVC.out wr HB.out.grew 3 _ rfl
      have lc := HLC.out
      have n1 := Pl.numB_len 1 K.length (by omega)
      clear hlt hk1 HB5
      go_wp2_with fail
      refine (num4v_any Y.heap.size wr K.length HB.out.grew.size (by omega)).mono ?_
      rintro e w6 ⟨v6, rfl, hr6, hg6⟩
      have HR6 := hid hr6
      have HB6 := hid (HB.out.more hg6)
      clear hr6 hg6 HB
      go_wp2_with (at_builtin; refine wpList_append_bz rfl _ _ rfl rfl HB6.out rfl HR6.out (by omega) ?_)
      intro d7 HD7 a7 c7 w7 hB7
      have HB7 := hid hB7
      clear hB7 HB6 HR6
      clear k1 k2
      obtain ⟨T2, hT2⟩ : ∃ T2, T2 = d5 ++ Pl.pairsB A ++ Pl.numB K.length := ⟨_, rfl⟩
      have hd7 : d7 = T2 := by rw [HD7.out, HE.out, hT2]
      subst hd7
      have HT2 := hid hT2
      have HL2 := hid (show d7.length ≤ 50010 from by rw [HD7.out, List.length_append]; omega)
      have HB7 := hid (show Bz Y w7 [] (.slice a7 d7.length c7) (d7 ++ Pl.keysB (K.take 0)) from by simpa [Pl.keysB] using HB7.out)
      generalize Value.slice a7 d7.length c7 = v7 at *
      obtain ⟨k1, k2⟩ := HVC.out w7 HB7.out.grew 3 _ rfl
      clear hT2 n1 lc HD7 HE HLC
      go_wp2_with fail
      clear k1 k2
      go_loopw [3, 59] (fun v i wr => ∃ (k : Nat) (cs : List Int), k ≤ K.length ∧ i = .int .i64 k ∧ Hid (cs = d7 ++ Pl.keysB (K.take k)) ∧ Hid (Bz Y wr [] v cs)) (fun _ i _ => K.length - (intOf i).toNat)
      case atStart => exact ⟨0, _, Nat.zero_le _, rfl, rfl, HB7⟩
      case round =>
        obtain ⟨k, cs, hk1, rfl, HE, HB⟩ := hrel
        by_cases hlt : k < K.length
        · rcases HM.out.k with h0 | ⟨b, off, rfl, hb, hR⟩
          · rw [h0] at hlt; simp at hlt
          have gr := HGY.out.trans HB.out.grew
          have q0 := (gr.cells.1 b (off + k) hb).trans (hR k _ (List.getElem?_eq_getElem hlt))
          have hbr := Nat.lt_of_lt_of_le hb gr.size
          have hks := (HR.out.keys _ (List.getElem_mem hlt)).1
          have HNX := hid (show cs ++ Pl.textB K[k] = d7 ++ Pl.keysB (K.take (k + 1)) from by rw [HE.out, Pl.keysB_snoc K k hlt, List.append_assoc])
          have lc : cs.length ≤ 100000 := by rw [HE.out]; have := Pl.keysB_takele K k; have := Pl.keysB_len (fun k h => (HR.out.keys k h).1); have := HL2.out; rw [List.length_append]; omega
          have hk9 : k < 1000000 := by omega
          clear hR gr HE
          generalize K[k] = kk at *
          have l1 := Pl.textB_len kk (by omega)
          go_wp2_with fail
          refine (text4v_any Y.heap.size wr kk HB.out.grew.size (by omega)).mono ?_
          rintro e w8 ⟨v8, rfl, hr8, hg8⟩
          have HR8 := hid hr8
          have HB8 := hid (HB.out.more hg8)
          clear hr8 hg8 HB
          go_wp2_with (at_builtin; refine wpList_append_bz rfl _ _ rfl rfl HB8.out rfl HR8.out (by omega) ?_)
          intro d9 HD9 a9 c9 w9 hB9
          have HB9 := hid hB9
          clear hB9 HB8 HR8
          clear q0 hbr
          go_wp2_with fail
          go_roundw
          case rel => exact ⟨k + 1, _, by omega, by go_num, by unfold Hid; rw [HD9.out]; exact HNX.out, HB9⟩
          case measure => simp [intOf]; omega
        · have hkn : k = K.length := by omega
          subst hkn
          rw [List.take_length] at HE
          have HLK := hid (Pl.keysB_len (fun k h => (HR.out.keys k h).1))
          have lc : cs.length ≤ 80000 := by rw [HE.out, List.length_append]; have := HL2.out; have := HLK.out; omega
          obtain ⟨k1, k2⟩ := HVC.out wr HB.out.grew 4 _ rfl
          have hc4 := HC4.out
          have n1 := Pl.numB_len 1 C.length (by omega)
          clear hlt hk1 HB7
          go_wp2_with fail
          refine (num4v_any Y.heap.size wr C.length HB.out.grew.size (by omega)).mono ?_
          rintro e w8 ⟨v8, rfl, hr8, hg8⟩
          have HR8 := hid hr8
          have HB8 := hid (HB.out.more hg8)
          clear hr8 hg8 HB
          go_wp2_with (at_builtin; refine wpList_append_bz rfl _ _ rfl rfl HB8.out rfl HR8.out (by omega) ?_)
          intro d9 HD9 a9 c9 w9 hB9
          have HB9 := hid hB9
          clear hB9 HB8 HR8
          clear k1 k2
          obtain ⟨T3, hT3⟩ : ∃ T3, T3 = d7 ++ Pl.keysB K ++ Pl.numB C.length := ⟨_, rfl⟩
          have hd9 : d9 = T3 := by rw [HD9.out, HE.out, hT3]
          subst hd9
          have HT3 := hid hT3
          have HL3 := hid (show d9.length ≤ 80010 from by rw [HD9.out, List.length_append]; omega)
          have HB9 := hid (show Bz Y w9 [] (.slice a9 d9.length c9) (d9 ++ clsB (C.take 0)) from by simpa [clsB] using HB9.out)
          generalize Value.slice a9 d9.length c9 = v9 at *
          obtain ⟨k1, k2⟩ := HVC.out w9 HB9.out.grew 4 _ rfl
          clear hT3 n1 lc HD9 HE
          go_wp2_with fail
          clear k1 k2
          go_loopw [3, 77] (fun v i wr => ∃ (k : Nat) (cs : List Int), k ≤ C.length ∧ i = .int .i64 k ∧ Hid (cs = d9 ++ clsB (C.take k)) ∧ Hid (Bz Y wr [] v cs)) (fun _ i _ => C.length - (intOf i).toNat)
          case atStart => exact ⟨0, _, Nat.zero_le _, rfl, rfl, HB9⟩
          case round =>
            obtain ⟨k, cs, hk1, rfl, HE, HB⟩ := hrel
            by_cases hlt : k < C.length
            · obtain ⟨b, off, rfl, hb, hR⟩ := clsR_of HM.out.c k hlt
              have gr := HGY.out.trans HB.out.grew
              have q0 := (gr.cells.1 b (off + k * 4) hb).trans (hR.id k hlt)
              have q1 := (gr.cells.1 b (off + k * 4 + 1) hb).trans (hR.seq k hlt)
              have q2 := (gr.cells.1 b (off + k * 4 + 2) hb).trans (hR.code k hlt)
              have q3 := (gr.cells.1 b (off + k * 4 + 3) hb).trans (hR.at_ k hlt)
              have hbr := Nat.lt_of_lt_of_le hb gr.size
              obtain ⟨o1, o2, o3⟩ := clRow_at HR.out.cls k hlt
              obtain ⟨o4, o5, o6, o7, o8⟩ := o3
              have HNX := hid (show cs ++ clB (clAt C k) = d9 ++ clsB (C.take (k + 1)) from by rw [HE.out, Pl.clsB_snoc C k hlt, List.append_assoc])
              have HLC := hid (show cs.length ≤ 91000 from by rw [HE.out]; have := Pl.clsB_takele C k; have := Pl.clsB_len HR.out.cls.ok; have := HL3.out; have := HC4.out; rw [List.length_append]; omega)
              have hk9 : k < 1000000 := by have := HC4.out; omega
              clear hR gr HE
              generalize clAt C k = y at *
              obtain ⟨yi, yq, yk, yt⟩ := y
              dsimp only at q0 q1 q2 q3 o1 o2 o4 o5 o6 o7 o8
              obtain ⟨n0, rfl⟩ : ∃ n : Nat, yi = (n : Int) := ⟨yi.toNat, by omega⟩
              obtain ⟨n1, rfl⟩ : ∃ n : Nat, yq = (n : Int) := ⟨yq.toNat, by omega⟩
              obtain ⟨n2, rfl⟩ : ∃ n : Nat, yk = (n : Int) := ⟨yk.toNat, by omega⟩
              obtain ⟨n3, rfl⟩ : ∃ n : Nat, yt = (n : Int) := ⟨yt.toNat, by omega⟩
              have HCB := hid (show clB ((n0 : Int), ⟨(n1 : Int), (n2 : Int), (n3 : Int)⟩) = [n0, n1, n2, n3].flatMap Pl.numB from by simp [clB])
              have HNB := hid (fun j (hj : j < 4) => show ∃ n, [n0, n1, n2, n3][j]? = some n ∧ n < 2000000000 from by
                match j, hj with
                | 0, _ => exact ⟨_, rfl, by omega⟩
                | 1, _ => exact ⟨_, rfl, by omega⟩
                | 2, _ => exact ⟨_, rfl, by omega⟩
                | 3, _ => exact ⟨_, rfl, by omega⟩)
              have HFL := hid (show ([n0, n1, n2, n3].flatMap Pl.numB).length ≤ 40 from by
                have a0 := Pl.numB_len 4 n0 (by omega)
                have a1 := Pl.numB_len 4 n1 (by omega)
                have a2 := Pl.numB_len 4 n2 (by omega)
                have a3 := Pl.numB_len 4 n3 (by omega)
                simp only [List.flatMap_cons, List.flatMap_nil, List.length_append, List.length_nil]
                omega)
              clear o1 o2 o4 o5 o6 o7 o8
              go_upto_region 20 with fail
              clear q0 q1 q2 q3 hbr
              obtain ⟨U, hU⟩ : ∃ U, U = wr.alloc (.cells #[.int .i64 n0, .int .i64 n1, .int .i64 n2, .int .i64 n3] 147) := ⟨_, rfl⟩
              have gU : Grew wr U := by rw [hU]; exact (Grew.refl wr).alloc _
              obtain ⟨ub, hub⟩ : ∃ ub, ub = wr.heap.size := ⟨_, rfl⟩
              have u0 : U.cell? ⟨ub, 0, none⟩ = some (.int .i64 n0) := by rw [hU, hub]; simp [go_sem]
              have u1 : U.cell? ⟨ub, 1, none⟩ = some (.int .i64 n1) := by rw [hU, hub]; simp [go_sem]
              have u2 : U.cell? ⟨ub, 2, none⟩ = some (.int .i64 n2) := by rw [hU, hub]; simp [go_sem]
              have u3 : U.cell? ⟨ub, 3, none⟩ = some (.int .i64 n3) := by rw [hU, hub]; simp [go_sem]
              have hus := cell_lt u0
              have HBU := hid (HB.out.more gU)
              rw [← hU, ← hub]
              clear hU gU hub HB
              go_wp2_with fail
              obtain ⟨Z, hZ⟩ : ∃ Z, Z = U.alloc (.cells #[.int .i64 n0, .int .i64 n1, .int .i64 n2, .int .i64 n3] 3) := ⟨_, rfl⟩
              have gZ : Grew U Z := by rw [hZ]; exact (Grew.refl U).alloc _
              obtain ⟨nb, hnb⟩ : ∃ nb, nb = U.heap.size := ⟨_, rfl⟩
              have HBZ := hid (HBU.out.add gZ nb ([n0, n1, n2, n3].map fun n : Nat => Value.int .i64 (n : Int)) (by omega) (by rw [hZ, hnb]; simp) (by
                intro i v hv
                rw [hZ, hnb, cell_block (heap_alloc_new U _)]
                exact hv))
              rw [← hZ, ← hnb]
              clear hZ gZ hnb u0 u1 u2 u3 hus HBU
              obtain ⟨ns, hns⟩ : ∃ ns, ns = [n0, n1, n2, n3] := ⟨_, rfl⟩
              have HNL := hid (show ns.take 4 = ns from by rw [hns]; rfl)
              rw [← hns] at HCB HNB HBZ HFL
              clear hns
              go_loopw [3, 93] (fun v i wr => ∃ (j : Nat) (es : List Int), j ≤ 4 ∧ i = .int .i64 j ∧ Hid (es = cs ++ (ns.take j).flatMap Pl.numB) ∧ Hid (Bz Y wr [(nb, ns.map fun n : Nat => Value.int .i64 (n : Int))] v es)) (fun _ i _ => 4 - (intOf i).toNat)
              case atStart => exact ⟨0, cs, by omega, rfl, by unfold Hid; simp, HBZ⟩
              case round =>
                obtain ⟨j, es, hj, rfl, HEj, HBj⟩ := hrel
                by_cases hj4 : j < 4
                · obtain ⟨n, hn1, hn2⟩ := HNB.out j hj4
                  have u := HBj.out.c _ (List.mem_cons_self ..) j (.int .i64 n) (by dsimp only; rw [List.getElem?_map, hn1]; rfl)
                  have hul := HBj.out.lt _ (List.mem_cons_self ..)
                  dsimp only at u hul
                  have htk : (ns.take (j + 1)).flatMap Pl.numB = (ns.take j).flatMap Pl.numB ++ Pl.numB n := by
                    obtain ⟨hjl, hju⟩ := List.getElem?_eq_some_iff.1 hn1
                    rw [List.take_succ_eq_append_getElem hjl, List.flatMap_append, hju]
                    simp
                  have htl : ((ns.take j).flatMap Pl.numB).length ≤ 40 := by
                    have h := congrArg List.length (show (ns.take j).flatMap Pl.numB ++ (ns.drop j).flatMap Pl.numB = ns.flatMap Pl.numB by rw [← List.flatMap_append, List.take_append_drop])
                    rw [List.length_append] at h
                    have := HFL.out
                    omega
                  have HTK := hid (show es ++ Pl.numB n = cs ++ (ns.take (j + 1)).flatMap Pl.numB from by rw [HEj.out, htk, List.append_assoc])
                  have lc : es.length ≤ 92000 := by rw [HEj.out, List.length_append]; have := HLC.out; omega
                  have l1 := Pl.numB_len 4 n (by omega)
                  clear htk htl hn1 HEj
                  go_wp2_with fail
                  refine (num4v_any Y.heap.size wr n HBj.out.grew.size (by omega)).mono ?_
                  rintro e w10 ⟨v10, rfl, hr10, hg10⟩
                  have HR10 := hid hr10
                  have HB10 := hid (HBj.out.more hg10)
                  clear hr10 hg10 HBj
                  go_wp2_with (at_builtin; refine wpList_append_bz rfl _ _ rfl rfl HB10.out rfl HR10.out (by omega) ?_)
                  intro d11 HD11 a11 c11 w11 hB11
                  have HB11 := hid hB11
                  clear hB11 HB10 HR10
                  clear u hul
                  go_wp2_with fail
                  go_roundw
                  case rel => exact ⟨j + 1, _, by omega, by go_num, by unfold Hid; rw [HD11.out]; exact HTK.out, HB11⟩
                  case measure => simp [intOf]; omega
                · have hjn : j = 4 := by omega
                  subst hjn
                  rw [HNL.out, ← HCB.out, HNX.out] at HEj
                  have HB7 := hid HBj.out.tail
                  go_wp2_with fail
                  go_roundw
                  case rel => exact ⟨k + 1, _, by omega, by go_num, HEj, HB7⟩
                  case measure => simp [intOf]; omega
            · have hkn : k = C.length := by omega
              subst hkn
              rw [List.take_length] at HE
              have hEQ : cs = Pl.delB lo hi A K C := by
                unfold Pl.delB Pl.tabB
                rw [HE.out, HT3.out, HT2.out, HT1.out]
                simp [List.append_assoc]
              obtain ⟨av, cv, rfl⟩ := HB.out.row.form
              have HF := hid (show Hid (cs = Pl.delB lo hi A K C) ∧ BytesV w.heap.size cs (.slice av cs.length cv) wr ∧ Grew w wr from ⟨hEQ, ⟨av, cv, rfl, ownsRow_base HGY.out.size HB.out.row.row⟩, HGY.out.trans HB.out.grew⟩)
              clear hEQ HB HE hlt hk1
              go_wp2_with fail
              go_ret
              obtain ⟨h1, ⟨a', c', h2, h3⟩, h4⟩ := HF.out
              cases h2
              have h1 := h1.out
              rw [h1] at h3
              exact ⟨av, cv, by simp [h1], h3, h4⟩
end Go.Proofs.YtoiahcgaffffbaaGreatDoor
