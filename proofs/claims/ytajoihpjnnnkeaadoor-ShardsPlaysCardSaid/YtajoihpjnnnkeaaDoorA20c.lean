/- The walk of tidewaterref20.Map.Apply: a merge. Then: The document's Apply, whatever the entry. -/
import Derived.Test.YtajoihpjnnnkeaaDoorA20b
import Derived.Test.YtajoihpjnnnkeaaDoorShd5
import Derived.Deep.Upon
import Derived.Test.YtajoihpjnnnkeaaDoorP20
set_option linter.unusedVariables false
set_option linter.unusedSectionVars false
set_option linter.unusedSimpArgs false
namespace Go.Proofs.YtajoihpjnnnkeaaDoor
open Go.RowKit Go.Maps
attribute [local go_sem] Oper.semAt_some uponV

section
variable {P : Program}
/-- append of a row, of nothing too, to an owned row, in a region that draws its order. -/
theorem uponV_appends {o : Oper} {a : Act} {w : World} {K : Value → World → Prop} (s x : Operand) (t : TypeId)
    (ho : o.op = .call { callee := .builtin .append, args := #[s, x], argTypes := #[t, t] })
    (e : TypeId) (i : TypeInfo) (z : Value) (size bytes : Nat) (ht : P.underlying t = some (.slice e)) (hi : P.info? e = some i) (hz : i.zero = some z)
    (hsize : i.size = size) (hby : i.bytes = bytes) (hzs : z.cells.size = size) (hsz : 0 < size)
    (B : Nat) (hB : B ≤ w.heap.size) (v : Value) (n : Nat) (xs : List Value) (hs : a.eval s = v) (hown : w.ownsRow B e size v n xs)
    (b off m c : Nat) (news : List Value) (hx : a.eval x = .slice (some ⟨b, off, none⟩) m c) (hl : news.length = m * size) (hnews : ∀ j u, news[j]? = some u → w.cell? ⟨b, off + j, none⟩ = some u) (h1 : ∀ u ∈ news, u.oneCell' = true)
    (h63 : n + m ≤ maxLen) (hbytes : (n + m) * bytes ≤ 140737488355328)
    (h : ∀ a' cap w', w'.ownsRow B e size (.slice a' (n + m) cap) (n + m) (xs ++ news) → w.grownBy w' v.ownBlock → K (.slice a' (n + m) cap) w') : uponV P K ((execOp a.eval o).run P w) := by
  rcases Nat.eq_zero_or_pos m with h0 | h0
  · subst h0
    have hn0 : news = [] := List.eq_nil_of_length_eq_zero (by omega)
    subst hn0
    have hsrc : Src P i.size t (.slice (some ⟨b, off, none⟩) 0 c) 0 [] w := Src.ofSlice w ht ⟨b, off, none⟩ 0 c [] (by simp) (fun j u hj => by simp at hj) (fun u hu => by cases hu)
    have hb : ∃ a' cap', v = .slice a' n cap' ∧ n ≤ cap' := by
      rcases hown.2 with ⟨rfl, h2⟩ | ⟨b, c, cur, rfl, _, _, h4, _⟩
      · subst h2; exact ⟨_, _, rfl, Nat.le_refl _⟩
      · exact ⟨_, _, rfl, h4⟩
    obtain ⟨a', cap', rfl, hc⟩ := hb
    have hr := run_append_nothing w t t o.type e i ht hi a' n cap' hc _ hsrc
    unfold execOp
    simp only [ho, resolve, invoke, builtin, Sem.run_bind, Sem.run_pure, Result.andThen_ok, List.map_toArray, List.map_cons, List.map_nil, hs, hx, hr]
    exact h a' cap' w (by simpa using hown) ⟨rfl, rfl, rfl, Nat.le_refl _, fun _ _ _ => rfl⟩
  · obtain ⟨g, cap, w', hr, h2, h3, h4, h5⟩ := run_append_lies (P := P) (w := w) t o.type B e i z size bytes ht hi hz hsize hby hzs hsz v n xs hown ⟨b, off, none⟩ m c news hl (fun j u hj => by rw [Addr.add_lit]; exact hnews j u hj) h1 h0 h63 hbytes hB w.heap.size rfl
    unfold execOp
    simp only [ho, resolve, invoke, builtin, Sem.run_bind, Sem.run_pure, Result.andThen_ok, List.map_toArray, List.map_cons, List.map_nil, hs, hx, hr]
    exact h _ _ w' h2 h3
end

/-- What holds inside the merge's last region. -/
structure JMrg (y : World) (X : List Sh) (n j : Nat) (L : Nat → Bool) (f : Nat → Value) (x : World) : Prop where
  a : L 8 = true → L 1 = true
  b : L 16 = true → L 8 = true
  g : Grew y x
  k1 : L 1 = true → L 8 = false → x.ownsRow y.heap.size 48 5 (f 1) 0 []
  k8 : L 8 = true → L 16 = false → x.ownsRow y.heap.size 48 5 (f 8) (0 + j) ([] ++ (shFlat X).take (j * 5))
  k16 : L 16 = true → x.ownsRow y.heap.size 48 5 (f 16) (0 + j + (n - (j + 1))) ([] ++ (shFlat X).take (j * 5) ++ (shFlat X).drop ((j + 1) * 5))
theorem grew_own {y x x' : World} {e : TypeId} {k : Nat} {v : Value} {n : Nat} {xs : List Value} (g : Grew y x) (h : x.ownsRow y.heap.size e k v n xs) (hg : x.grownBy x' v.ownBlock) : Grew y x' :=
  ((g.only (fun j => some j = v.ownBlock)).then (Only.of_grownBy hg)).grew (fun j hj => (h.lt j hj.symm).1)

section
variable {w : World} {F : Nat → Prop} {mb : Nat} {s : MdSt} (h : MdAt w F mb s) (hk : MdOk s) (e : En) (hA : EnAt w e) (hs : EnSm e)
include h hk hA hs
set_option maxRecDepth 100000 in
set_option maxHeartbeats 8000000 in
theorem apply20_merge (at' : Int) (hyes : Pl.app20 s e at' = true) (k3 : e.kind = 4) (i : Nat) (hi : i < s.xs.length) (hf : Pl.findM s.xs e.shard = (i : Nat)) (j : Nat) (hj : j < s.xs.length) (hfj : Pl.findM s.xs e.other = (j : Nat)) :
    Calls Tryd.prog 18 #[.pointer (some ⟨mb, 0, none⟩), e.agg, .int .i64 at'] w fun r w' => r = .returned (.bool true) ∧ MdTurn w F mb ⟨Pl.mergeM s.xs i j (Pl.joinV (Pl.rightR (shAt s.xs i).lo (shAt s.xs i).hi) (Pl.rightR (shAt s.xs j).lo (shAt s.xs j).hi) (shAt s.xs i).lo (shAt s.xs i).hi (shAt s.xs j).lo (shAt s.xs j).hi) at', s.us, s.ne + 1, s.evs ++ evVals at' e⟩ w' := by
  have HC := counts20_ok h hk e hA hs
  have HF1 := hid (fun W (g : Grew w W) => find20_any (h.grew g) (Nat.le_trans hk.few (by decide)) e.shard)
  have hks := hs.key
  have hfew := hk.few
  have hus := hk.us
  have hne := hk.ne
  have hsz := hk.sz _ (shAt_mem s.xs i hi)
  have hszj := hk.sz _ (shAt_mem s.xs j hj)
  have HF2 := hid (fun W (g : Grew w W) => find20_any (h.grew g) (Nat.le_trans hk.few (by decide)) e.other)
  have hap := hyes
  unfold Pl.app20 at hap
  simp only [Bool.and_eq_true, decide_eq_true_eq] at hap
  obtain ⟨⟨hc, ha0⟩, ha1⟩ := hap
  have ha0' : ¬ at' < 0 := by omega
  have ha1' : ¬ 4095 < at' := by omega
  have g0 : decide (at' < 0) = false := decide_eq_false ha0'
  have g1 : decide (4095 < at') = false := decide_eq_false ha1'
  rw [hc] at HC
  obtain ⟨xs, us, ne, evs⟩ := s
  obtain ⟨vl, vu, ve, h⟩ := h
  dsimp only at *
  obtain ⟨b, cap, rfl, _, hbb⟩ := h.row.form (by omega : 0 < xs.length)
  have c0 := h.live
  have hb := h.blt
  have hbmb : b ≠ mb := (h.foot1 b rfl).2
  rw [hf] at HF1
  rw [hfj] at HF2
  have hjI : ¬ ((j : Int) < 0) := by omega
  have hjL : (j : Int) < (xs.length : Int) := by omega
  have ql := md_cell h rfl j hj 3 (by omega)
  have qh := md_cell h rfl j hj 4 (by omega)
  have hiI : ¬ ((i : Int) < 0) := by omega
  have hiL : (i : Int) < (xs.length : Int) := by omega
  have rl := md_cell h rfl i hi 3 (by omega)
  have rh := md_cell h rfl i hi 4 (by omega)
  simp only [Sh.vals, List.getElem?_cons_zero, List.getElem?_cons_succ] at rl rh ql qh
  have HC2 := hid (fun W => ref_join (shAt xs i).lo (shAt xs i).hi (shAt xs j).lo (shAt xs j).hi W hsz.1 hsz.2 hszj.1 hszj.2)
  unfold RefJoinPost at HC2
  have HJI := hid hj
  have HS := hid h
  have HI := hid hi
  have hFlt : Hid (∀ j, F j → j < w.heap.size) := hid h.lt
  have HW := hid (EnBox.of_alloc w e 26)
  have HV := hid (evVals_one at' e)
  have hvl : (evVals at' e).length = 13 := rfl
  have hve : Hid (evVals at' e = .int .i64 at' :: e.vals) := rfl
  have b2 : (e.kind == 2) = false := by rw [k3]; rfl
  have b3 : (e.kind == 3) = false := by rw [k3]; rfl
  have b4 : (e.kind == 4) = true := by rw [k3]; rfl
  clear hyes hc hA hf h hi hk hs k3 hsz hszj hj hfj
  generalize Pl.joinV (Pl.rightR (shAt xs i).lo (shAt xs i).hi) (Pl.rightR (shAt xs j).lo (shAt xs j).hi) (shAt xs i).lo (shAt xs i).hi (shAt xs j).lo (shAt xs j).hi = jv at *
  generalize Pl.joinE (Pl.rightR (shAt xs i).lo (shAt xs i).hi) (Pl.rightR (shAt xs j).lo (shAt xs j).hi) (shAt xs i).lo (shAt xs i).hi (shAt xs j).lo (shAt xs j).hi = jn at *
  obtain ⟨lo, key⟩ := jv
  dsimp only at HC2
  generalize (shAt xs i).lo = lo0 at *
  generalize (shAt xs i).hi = hi' at *
  generalize (shAt xs j).lo = lo2 at *
  generalize (shAt xs j).hi = hi2 at *
  unfold En.agg at *
  go_enter Tryd.func18, Tryd.ntmps18
  unfold En.vals at HC ⊢
  go_wp2_with fail
  refine (HC.out _ ((Grew.refl w).alloc _)).mono ?_
  rintro r w1 ⟨rfl, hg⟩
  have hz : w.heap.size < w1.heap.size := by have := hg.size; simp at this; omega
  have HG := hid (((Grew.refl w).alloc _).trans hg)
  have HW1 := hid (HW.out.grew hg (by simp))
  obtain ⟨d0, d1, d2, d3, d4, d5, d6, d7, d8, d9, d10, d11⟩ := HW1.out.cells
  clear hg HC
  go_wp2_with fail
  refine (HF1.out _ HG.out).mono ?_
  rintro r w2 ⟨rfl, hg2⟩
  have HG2 := hid (HG.out.trans hg2)
  have HW2 := hid (HW1.out.grew hg2 hz)
  have hz2 : w.heap.size < w2.heap.size := Nat.lt_of_lt_of_le hz hg2.size
  clear d0 d1 d2 d3 d4 d5 d6 d7 d8 d9 d10 d11 HF1 hg2
  obtain ⟨d0, d1, d2, d3, d4, d5, d6, d7, d8, d9, d10, d11⟩ := HW2.out.cells
  have hb2 : mb < w2.heap.size := Nat.lt_of_lt_of_le hb HG2.out.size
  have hbb2 : b < w2.heap.size := Nat.lt_of_lt_of_le hbb HG2.out.size
  go_wp2_with fail
  refine (HF2.out _ HG2.out).mono ?_
  rintro r w3 ⟨rfl, hg3⟩
  have HG3 := hid (HG2.out.trans hg3)
  have HW3 := hid (HW2.out.grew hg3 hz2)
  have hz3 : w.heap.size < w3.heap.size := Nat.lt_of_lt_of_le hz2 hg3.size
  have hb3 : mb < w3.heap.size := Nat.lt_of_lt_of_le hb HG3.out.size
  have hbb3 : b < w3.heap.size := Nat.lt_of_lt_of_le hbb HG3.out.size
  clear d0 d1 d2 d3 d4 d5 d6 d7 d8 d9 d10 d11 HF2 hg3
  obtain ⟨d0, d1, d2, d3, d4, d5, d6, d7, d8, d9, d10, d11⟩ := HW3.out.cells
  go_wp2_with fail
  have C0 := wd_cell ((HG3.out.cells.1 _ _ hb).trans c0)
  have R3 := wd_cell ((HG3.out.cells.1 _ _ hbb).trans rl)
  have R4 := wd_cell ((HG3.out.cells.1 _ _ hbb).trans rh)
  have Q3 := wd_cell ((HG3.out.cells.1 _ _ hbb).trans ql)
  have Q4 := wd_cell ((HG3.out.cells.1 _ _ hbb).trans qh)
  clear d0 d1 d2 d3 d4 d5 d6 d7 d8 d9 d10 d11 rl rh ql qh c0
  -- s, _ := Join(..)
  refine wp_region_mix 23 [20, 21] (Grew w3) Grew (JV [⟨20, 21, [.string lo, .string key]⟩] w3) (fun f a => a.put (some 12) (f 20)) (by kernel_rfl) (by kernel_rfl) (fun _ _ => rfl) (JV.start _ w3 _) (fun _ _ _ h => h.grew) Grew.refl (fun _ _ _ _ h g => h.more g) ?_
  repeat (first
    | (refine wpMix_loose (by rfl) (by rfl) ?_)
    | (refine wpMix_plain (by rfl) (by rfl) (by rfl) (by first | exact Grew.refl | exact fun _ => rfl) (by rfl) ?_; intro K hK; go_big_quiet_op; go_big_quiet_on)
    | (refine wpMix_call (by rfl) (by rfl) (by rfl) (by rfl) (fun _ => by kernel_rfl) (fun u hu => HC2.out u) ?_; simp only [Act.put, List.setIfInBounds_toArray, List.set_cons_zero, List.set_cons_succ])
    | (refine wpMix_skip (by rfl) (by rfl) (by rfl) ?_; simp only [Act.put, List.setIfInBounds_toArray, List.set_cons_zero, List.set_cons_succ]))
  refine wpMix_nil ⟨⟨loose_of rfl (fun _ a => a) (fun _ _ => rfl) (fun _ => rfl) ?_, loose_of rfl (fun f a => a.put (some 12) (f 20)) (fun _ _ => rfl) (fun _ => rfl) ?_, trivial⟩, ?_⟩
  · intro L f u hJ hL hd
    clear HC2 C0 R3 R4 Q3 Q4
    go_simp
    exact hJ.alloc (by rfl) (V := ⟨20, 21, [.string lo, .string key]⟩) (by simp) hL [.string ⟨#[]⟩, .string ⟨#[]⟩] rfl _
  · intro L f u hJ hL hd
    clear HC2 C0 R3 R4 Q3 Q4
    obtain ⟨m, x, y, hm, k0, k1, f0, f1⟩ := hJ.two (V := ⟨20, 21, [.string lo, .string key]⟩) (by simp) (hd 20 rfl (by decide)) rfl
    dsimp only at hm
    rw [hm]
    go_simp
    exact hJ.store (by rfl) (V := ⟨20, 21, [.string lo, .string key]⟩) (by simp) (hd 20 rfl (by decide)) hm
  intro f u hJ
  clear HC2 C0 R3 R4 Q3 Q4
  obtain ⟨m7, q7, n7, l7, a0, a1, _, _⟩ := (hJ.full (V := ⟨20, 21, [.string lo, .string key]⟩) (by simp) rfl).two
  dsimp only at q7
  have HGu := hid (HG3.out.trans hJ.grew)
  have HWu := hid (HW3.out.grew hJ.grew hz3)
  have hzu : w.heap.size < u.heap.size := Nat.lt_of_lt_of_le hz3 hJ.grew.size
  clear hJ
  rw [q7]
  clear q7
  go_wp2_with fail
  -- m.Live[i].Span, m.Live[i].Since = a, at+1
  have HSu := hid (HS.out.grew HGu.out)
  have hmbu : mb < u.heap.size := Nat.lt_of_lt_of_le hb HGu.out.size
  have hbu : b < u.heap.size := Nat.lt_of_lt_of_le hbb HGu.out.size
  have hm7 : b ≠ m7 := by omega
  have C0 := wd_only (S := fun j => j = b) HSu.out.live (Ne.symm hbmb)
  have A0 := wd_only (S := fun j => j = b) a0 (Ne.symm hm7)
  have A1 := wd_only (S := fun j => j = b) a1 (Ne.symm hm7)
  have k2 := md_cell HSu.out rfl i HI.out 2 (by omega)
  have k3 := md_cell HSu.out rfl i HI.out 3 (by omega)
  have k4 := md_cell HSu.out rfl i HI.out 4 (by omega)
  simp only [Sh.vals, List.getElem?_cons_zero, List.getElem?_cons_succ] at k2 k3 k4
  have f2 : u.frozen? ⟨b, i * 5 + 2, none⟩ = false := HSu.out.row.frozenAt _
  have f3 : u.frozen? ⟨b, i * 5 + 3, none⟩ = false := HSu.out.row.frozenAt _
  have f4 : u.frozen? ⟨b, i * 5 + 4, none⟩ = false := HSu.out.row.frozenAt _
  have hw1 : IntKind.i64.wrap (at' + 1) = at' + 1 := IntWalk.i64_in _ (by omega)
  refine wp_region_mix 16 [15] (Only (fun j => j = b) u) Eq (fun L _ x => x = if L 15 = true then (u.drew.setCell ⟨b, i * 5 + 3, none⟩ (.string lo)).setCell ⟨b, i * 5 + 4, none⟩ (.string key) else u.drew) (fun _ a => a) (by kernel_rfl) (by kernel_rfl) (fun _ _ => rfl) rfl ?_ (fun _ => rfl) (fun _ _ _ _ h g => g ▸ h) ?_
  · rintro L f x rfl
    split
    · exact ((Only.refl _ u).drew.then (Only.setCell _ ⟨b, i * 5 + 3, none⟩ _)).then (Only.setCell _ ⟨b, i * 5 + 4, none⟩ _)
    · exact (Only.refl _ u).drew
  repeat (first
    | (refine wpMix_loose (by rfl) (by rfl) ?_)
    | (refine wpMix_plain (by rfl) (by rfl) (by rfl) (by first | exact Grew.refl | exact fun _ => rfl) (by rfl) ?_; intro K hK; go_big_quiet_op; go_big_quiet_on)
    | (refine wpMix_skip (by rfl) (by rfl) (by rfl) ?_; simp only [Act.put, List.setIfInBounds_toArray, List.set_cons_zero, List.set_cons_succ]))
  refine wpMix_done (by rfl) ⟨⟨loose_of rfl (fun _ a => a) (fun _ _ => rfl) (fun _ => rfl) ?_, trivial⟩, ?_⟩
  · rintro L f x rfl hL hd
    rw [hL]
    clear C0 A0 A1 HSu
    go_simp
  rintro f x hx'
  have hx2 : x = (u.drew.setCell ⟨b, i * 5 + 3, none⟩ (.string lo)).setCell ⟨b, i * 5 + 4, none⟩ (.string key) := hx'
  clear hx' A0 A1
  have C1 := C0 ⟨x, by rw [hx2]; exact ((Only.refl _ u).drew.then (Only.setCell _ ⟨b, i * 5 + 3, none⟩ _)).then (Only.setCell _ ⟨b, i * 5 + 4, none⟩ _)⟩
  dsimp only at C1
  have K2 : x.cell? ⟨b, i * 5 + 2, none⟩ = some (.int .i64 (shAt xs i).since) := by
    rw [hx2, World.cell?_setCell_other _ _ _ _ (by intro e; injection e with _ e; omega), World.cell?_setCell_other _ _ _ _ (by intro e; injection e with _ e; omega)]
    exact k2
  have F2 : x.frozen? ⟨b, i * 5 + 2, none⟩ = false := by
    rw [hx2, World.frozen?_setCell, World.frozen?_setCell]; exact f2
  have HX := hid hx2
  clear C0 k2 k3 k4 f2 f3 f4 hx2
  dsimp only [List.drop]
  go_wp2_with fail
  -- m.Live = append(..)
  have HY : Hid (∃ y, y = x.setCell ⟨b, i * 5 + 2, none⟩ (.int .i64 (at' + 1)) ∧ MdIs y F mb (.slice (some ⟨b, 0, none⟩) xs.length cap) vu ve (xs.set i ⟨(shAt xs i).id, (shAt xs i).server, at' + 1, lo, key⟩) us ne evs ∧ Only (fun j => j = b) u y) := by
    refine ⟨_, rfl, ?_, ?_⟩
    · rw [HX.out]
      exact (HSu.out.grew (Grew.refl u).drew).cut3 i HI.out lo key (at' + 1)
    · rw [HX.out]
      exact (((Only.refl _ u).drew.then (Only.setCell _ ⟨b, i * 5 + 3, none⟩ _)).then (Only.setCell _ ⟨b, i * 5 + 4, none⟩ _)).then (Only.setCell _ ⟨b, i * 5 + 2, none⟩ _)
  obtain ⟨y, hy, hSy, hOy⟩ := HY.out
  rw [← hy]
  have HSy := hid hSy
  have HOy := hid hOy
  have hboxb : w.heap.size ≠ b := by omega
  have hboxF : ¬ F w.heap.size := fun h => Nat.lt_irrefl _ (hFlt.out _ h)
  have HWy := hid (HWu.out.only hOy hzu hboxb)
  have hzy : w.heap.size < y.heap.size := Nat.lt_of_lt_of_le hzu hOy.size
  have hmby : mb < y.heap.size := Nat.lt_of_lt_of_le hmbu hOy.size
  clear hy HY hSy hOy HX K2 F2 C1 HSu a0 a1 HWu
  have hxl : (xs.set i ⟨(shAt xs i).id, (shAt xs i).server, at' + 1, lo, key⟩).length = xs.length := List.length_set
  have HXL := hid hxl
  clear hxl
  have hlen : xs.length ≤ cap := by
    have := HSy.out.row
    rw [HXL.out] at this
    rcases this.2 with ⟨h1, _⟩ | ⟨_, c', _, h1, _, _, h2, _⟩
    · cases h1
    · cases h1; exact h2
  have hw2 : IntKind.i64.wrap ((j : Int) + 1) = (j : Int) + 1 := IntWalk.i64_in _ (by omega)
  have hjle : (j : Int) ≤ (xs.length : Int) := by omega
  have hjle2 : (j : Int) + 1 ≤ (xs.length : Int) := by omega
  obtain ⟨X, hX⟩ : ∃ X, X = xs.set i ⟨(shAt xs i).id, (shAt xs i).server, at' + 1, lo, key⟩ := ⟨_, rfl⟩
  have HXE := hid hX
  rw [← hX] at HSy HXL
  clear hX
  have HROW := hid (fun x (g : Grew y x) (m : Nat) (u : Value) (hm : (shFlat X)[m]? = some u) => show x.cell? ⟨b, m, none⟩ = some u from by
    have h1 := (HSy.out.grew g).row
    rw [HXL.out] at h1
    have h2 := (List.getElem?_eq_some_iff.1 hm).1
    rw [shFlat_length, HXL.out] at h2
    exact (h1.cellAt m h2).trans hm)
  have C2 := wd_cell HSy.out.live
  obtain ⟨i0, hi0, hz0, hz1, hz3⟩ := info_parts info_sh20
  refine wp_region_mix 17 [1, 8, 16] (Grew y) Eq (JMrg y X xs.length j) (fun f a => ((a.put (some 149) (f 1)).put (some 156) (f 8)).put (some 164) (f 16)) (by kernel_rfl) (by kernel_rfl) (fun _ _ => rfl) ⟨fun h => (by cases h), fun h => (by cases h), (Grew.refl y).drew, fun h => (by cases h), fun h => (by cases h), fun h => (by cases h)⟩ (fun _ _ _ h => h.g) (fun _ => rfl) (fun _ _ _ _ h g => g ▸ h) ?_
  repeat (first
    | (refine wpMix_loose (by rfl) (by rfl) ?_)
    | (refine wpMix_plain (by rfl) (by rfl) (by rfl) (by first | exact Grew.refl | exact fun _ => rfl) (by rfl) ?_; intro K hK; go_big_quiet_op; go_big_quiet_on)
    | (refine wpMix_skip (by rfl) (by rfl) (by rfl) ?_; simp only [Act.put, List.setIfInBounds_toArray, List.set_cons_zero, List.set_cons_succ]))
  refine wpMix_done (by rfl) ⟨⟨loose_of rfl (fun _ a => a) (fun _ _ => rfl) (fun _ => rfl) ?_, loose_of rfl (fun f a => a.put (some 149) (f 1)) (fun _ _ => rfl) (fun _ => rfl) ?_, loose_of rfl (fun f a => a.put (some 156) (f 8)) (fun _ _ => rfl) (fun _ => rfl) ?_, trivial⟩, ?_⟩
  · rintro L f x ⟨o1, o2, hG, k1, k8, k16⟩ hL hd
    clear C2
    have hL8 : L 8 = false := by
      cases h : L 8 with
      | false => rfl
      | true => rw [o1 h] at hL; cases hL
    have hL16 : L 16 = false := by
      cases h : L 16 with
      | false => rfl
      | true => rw [o2 h] at hL8; cases hL8
    have HG := hid hG
    have HLS := hid (And.intro hL8 hL16)
    clear o1 o2 hG k1 k8 k16 hd hL hL8 hL16
    go_simp
    obtain ⟨hL8, hL16⟩ := HLS.out
    refine ⟨fun _ => rfl, fun h => ?_, HG.out.alloc _, fun _ _ => ?_, fun h => ?_, fun h => ?_⟩
    · have h' : L 16 = true := by simpa [plus] using h
      rw [hL16] at h'; cases h'
    · rw [updV_same]
      exact ownsRow_of_block (cur := []) HG.out.size (heap_alloc_new x _) (Nat.le_refl _) (by decide) rfl rfl
    · have h' : L 8 = true := by simpa [plus] using h
      rw [hL8] at h'; cases h'
    · have h' : L 16 = true := by simpa [plus] using h
      rw [hL16] at h'; cases h'
  · rintro L f x ⟨o1, o2, hG, k1, k8, k16⟩ hL hd
    clear C2
    have h1 := hd 1 rfl (by decide)
    have hL16 : L 16 = false := by
      cases h : L 16 with
      | false => rfl
      | true => rw [o2 h] at hL; cases hL
    have HR := hid (k1 h1 hL)
    have HG := hid hG
    refine uponV_appends _ _ _ rfl 48 i0 _ 5 56 Tryd.underlying101 hi0 hz0 hz1 hz3 sh20z_size (by omega) y.heap.size HG.out.size (f 1) 0 [] rfl HR.out b 0 j cap ((shFlat X).take (j * 5)) rfl ?_ ?_ ?_ (by unfold maxLen; omega) (by omega) ?_
    · rw [List.length_take, shFlat_length, HXL.out]
      exact Nat.min_eq_left (Nat.mul_le_mul_right _ (Nat.le_of_lt HJI.out))
    · intro m u hm
      rw [Nat.zero_add]
      rw [List.getElem?_take] at hm
      split at hm
      · exact HROW.out x HG.out m u hm
      · cases hm
    · intro u hu
      exact shFlat_one' X u (List.mem_of_mem_take hu)
    · intro a' cap' w' hD hgr
      have hgw := grew_own HG.out HR.out hgr
      refine ⟨fun _ => ?_, fun h => ?_, hgw, fun _ h => ?_, fun _ _ => ?_, fun h => ?_⟩
      · simpa [plus] using h1
      · have h' : L 16 = true := by simpa [plus] using h
        rw [hL16] at h'; cases h'
      · simp [plus] at h
      · rw [updV_same]; exact hD
      · have h' : L 16 = true := by simpa [plus] using h
        rw [hL16] at h'; cases h'
  · rintro L f x ⟨o1, o2, hG, k1, k8, k16⟩ hL hd
    clear C2
    have h8 := hd 8 rfl (by decide)
    have h1 := o1 h8
    have HR := hid (k8 h8 hL)
    have HG := hid hG
    refine uponV_appends _ _ _ rfl 48 i0 _ 5 56 Tryd.underlying101 hi0 hz0 hz1 hz3 sh20z_size (by omega) y.heap.size HG.out.size (f 8) (0 + j) ([] ++ (shFlat X).take (j * 5)) rfl HR.out b (if cap = j + 1 then 0 else (j + 1) * 5) (xs.length - (j + 1)) (cap - (j + 1)) ((shFlat X).drop ((j + 1) * 5)) ?_ ?_ ?_ ?_ (by unfold maxLen; omega) (by omega) ?_
    · by_cases hcj : cap = j + 1
      · have hx0 : xs.length = j + 1 := by omega
        rw [if_pos hcj]
        go_simp
      · rw [if_neg hcj]
        go_simp
    · rw [List.length_drop, shFlat_length, HXL.out]
      omega
    · intro m u hm
      by_cases hcj : cap = j + 1
      · have h2 := (List.getElem?_eq_some_iff.1 hm).1
        rw [List.length_drop, shFlat_length, HXL.out] at h2
        omega
      · rw [if_neg hcj]
        rw [List.getElem?_drop] at hm
        exact HROW.out x HG.out _ u hm
    · intro u hu
      exact shFlat_one' X u (List.mem_of_mem_drop hu)
    · intro a' cap' w' hD hgr
      have hgw := grew_own HG.out HR.out hgr
      refine ⟨fun _ => ?_, fun _ => ?_, hgw, fun _ h => ?_, fun _ h => ?_, fun _ => ?_⟩
      · simpa [plus] using h1
      · simpa [plus] using h8
      · have h' : L 8 = false := by simpa [plus] using h
        rw [h8] at h'; cases h'
      · simp [plus] at h
      · rw [updV_same]; exact hD
  rintro f x ⟨_, _, hG, _, _, k16⟩
  have r16 := k16 rfl
  clear C2 k16
  obtain ⟨r, hr⟩ : ∃ r, r = f 16 := ⟨_, rfl⟩
  rw [← hr] at r16 ⊢
  clear hr
  obtain ⟨ra, rn, rc, hre⟩ : ∃ ra rn rc, r = .slice ra rn rc := by
    rcases r16.2 with ⟨e, _⟩ | ⟨g, cp, cur, e, _⟩
    · exact ⟨_, _, _, e⟩
    · exact ⟨_, _, _, e⟩
  subst hre
  generalize f 8 = r8
  generalize f 1 = r1
  have ho1 : Only (fun k => some k = some b) y x := hG.only _
  have C3 : x.cell? ⟨mb, 0, none⟩ = some (.slice (some ⟨b, 0, none⟩) xs.length cap) := (hG.cells.1 _ _ hmby).trans HSy.out.live
  have F3 : x.frozen? ⟨mb, 0, none⟩ = false := (ho1.frozen hmby (fun h => hbmb (Option.some.inj h).symm) 0).trans (HSy.out.fz 0 (by omega))
  have hys : Pl.mergeM xs i j (lo, key) at' = X.take j ++ X.drop (j + 1) := by rw [HXE.out]; rfl
  have hys2 : (Pl.mergeM xs i j (lo, key) at').length = 0 + j + (xs.length - (j + 1)) := by
    have h1 := HXL.out
    have h2 := HJI.out
    rw [hys, List.length_append, List.length_take, List.length_drop, h1, Nat.zero_add, Nat.min_eq_left (Nat.le_of_lt h2)]
  have HT := hid (HSy.out.live_set ho1 (r := .slice ra rn rc) (ys := Pl.mergeM xs i j (lo, key) at') (fun g hg => .inr (r16.lt g hg).1) (by
    rw [hys2, hys, shFlat_append, shFlat_take, shFlat_drop]
    have := ownsRow_base (Nat.zero_le _) r16
    rw [List.nil_append] at this
    exact this))
  have HOx := hid (HWy.out.grew hG hzy)
  have hzx : w.heap.size < x.heap.size := Nat.lt_of_lt_of_le hzy ho1.size
  clear r16 hG ho1 hys hys2
  dsimp only [List.drop]
  go_wp2_with fail
  -- m.Events = append(..)
  all_goals (
  obtain ⟨v, hvv⟩ : ∃ v, v = x.setCell ⟨mb, 0, none⟩ (.slice ra rn rc) := ⟨_, rfl⟩
  rw [← hvv]
  rw [← hvv] at HT
  have HWv := hid (show EnBox v w.heap.size e from by
    rw [hvv]; exact HOx.out.only (Only.setCell x ⟨mb, 0, none⟩ _) hzx (fun h => by subst h; exact absurd hb (Nat.lt_irrefl _)))
  have hzv : w.heap.size < v.heap.size := by rw [hvv]; simpa using hzx
  clear hvv C3 F3
  obtain ⟨ov, F3, ⟨vl3, vu3, ve3, hSv⟩, hF3⟩ := HT.out
  have hF3b : ¬ F3 w.heap.size := fun h => by
    rcases hF3 _ h with h | h
    · exact hboxF h
    · omega
  have HSv := hid hSv
  have HF3 := hid hF3
  have HOv := hid ov
  have hbox : ¬ some w.heap.size = ve3.ownBlock := fun h => hF3b (hSv.foot3 _ h.symm).1
  have hsb : ¬ some mb = ve3.ownBlock := fun h => (hSv.foot3 _ h.symm).2.1 rfl
  have hsb2 : mb < v.heap.size := hSv.blt
  clear hSv hF3 ov HT
  have HFF : Hid (Only F w y ∧ ∀ j, F3 j → F j ∨ w.heap.size ≤ j) := by
    have o0 : Only F w y := (HGu.out.only F).then (HOy.out.mono fun j hj => .inl (by subst hj; exact (HS.out.foot1 j rfl).1))
    refine ⟨o0, fun j hj => ?_⟩
    rcases HF3.out j hj with h | h
    · exact .inl h
    · exact .inr (Nat.le_trans o0.size h)
  obtain ⟨d0, d1, d2, d3, d4, d5, d6, d7, d8, d9, d10, d11⟩ := HWv.out.cells
  have C0 := wd_only (S := fun j => some j = ve3.ownBlock) HSv.out.ev hsb
  have D0 := wd_only (S := fun j => some j = ve3.ownBlock) d0 hbox
  have D1 := wd_only (S := fun j => some j = ve3.ownBlock) d1 hbox
  have D2 := wd_only (S := fun j => some j = ve3.ownBlock) d2 hbox
  have D3 := wd_only (S := fun j => some j = ve3.ownBlock) d3 hbox
  have D4 := wd_only (S := fun j => some j = ve3.ownBlock) d4 hbox
  have D5 := wd_only (S := fun j => some j = ve3.ownBlock) d5 hbox
  have D6 := wd_only (S := fun j => some j = ve3.ownBlock) d6 hbox
  have D7 := wd_only (S := fun j => some j = ve3.ownBlock) d7 hbox
  have D8 := wd_only (S := fun j => some j = ve3.ownBlock) d8 hbox
  have D9 := wd_only (S := fun j => some j = ve3.ownBlock) d9 hbox
  have D10 := wd_only (S := fun j => some j = ve3.ownBlock) d10 hbox
  have D11 := wd_only (S := fun j => some j = ve3.ownBlock) d11 hbox
  clear d0 d1 d2 d3 d4 d5 d6 d7 d8 d9 d10 d11
  obtain ⟨i2, hi2, hx0, hx1, hx3⟩ := info_parts info_ev20
  refine wp_region_mix 10 [8, 9] (Only (fun j => some j = ve3.ownBlock) v) Eq (JOne 112 8 9 v (evVals at' e) (AppD 112 13 ve3 ne evs (evVals at' e))) (fun f a => (a.put (some 175) (f 8)).put (some 176) (f 9)) (by kernel_rfl) (by kernel_rfl) (fun _ _ => rfl) (JOne.start v) (fun L f x h => h.only fun _ _ _ h => h.only) (fun _ => rfl) (fun _ _ _ _ h g => g ▸ h) ?_
  repeat (first
    | (refine wpMix_loose (by rfl) (by rfl) ?_)
    | (refine wpMix_plain (by rfl) (by rfl) (by rfl) (by first | exact Grew.refl | exact fun _ => rfl) (by rfl) ?_; intro K hK; go_big_quiet_op; go_big_quiet_on)
    | (refine wpMix_skip (by rfl) (by rfl) (by rfl) ?_; simp only [Act.put, List.setIfInBounds_toArray, List.set_cons_zero, List.set_cons_succ]))
  refine wpMix_done (by rfl) ⟨⟨loose_of rfl (fun _ a => a) (fun _ _ => rfl) (fun _ => rfl) ?_, loose_of rfl (fun f a => a.put (some 175) (f 8)) (fun _ _ => rfl) (fun _ => rfl) ?_, trivial⟩, ?_⟩
  · intro L f x hJ hL hd
    clear C0 D0 D1 D2 D3 D4 D5 D6 D7 D8 D9 D10 D11
    have hm := hJ.make (by decide) hL
    have hm2 := hid hm
    clear hm hJ
    rw [hve.out] at hm2
    unfold En.vals at hm2
    go_simp
    exact hm2.out
  · intro L f x hJ hL hd
    clear C0 D0 D1 D2 D3 D4 D5 D6 D7 D8 D9 D10 D11
    have h8 := hd 8 rfl (by decide)
    obtain ⟨vb, q8, hvN, hvb⟩ := hJ.made h8 hL
    refine uponV_append _ _ _ rfl 112 i2 _ 13 144 Tryd.underlying103 hi2 hx0 hx1 hx3 evz_size (by omega) ve3 ne evs rfl ?_ vb 1 (evVals at' e) ?_ hvl hvb HV.out (by unfold maxLen; omega) (by omega) ?_
    · exact ownsRow_grew (hJ.grew hL) HSv.out.erow
    · exact q8
    · intro r w' hD
      exact hJ.call (by decide) hL h8 hD
  rintro f x hJ
  clear C0 D0 D1 D2 D3 D4 D5 D6 D7 D8 D9 D10 D11
  obtain ⟨x0, gx0, g5, c5, q9, hrow, hgr, hat⟩ := hJ.done rfl
  rw [q9]
  have ho1 : Only (fun j => some j = ve3.ownBlock) v x := (gx0.only _).then (Only.of_grownBy hgr)
  have C3 : x.cell? ⟨mb, 2, none⟩ = some ve3 := (ho1.cell hsb2 hsb 2).trans HSv.out.ev
  have F4 : x.frozen? ⟨mb, 2, none⟩ = false := (ho1.frozen hsb2 hsb 2).trans (HSv.out.fz 2 (by omega))
  have HT := hid (HSv.out.ev_set ho1 (r := .slice (some ⟨g5, 0, none⟩) (ne + 1) c5) (fun g hg => by
    cases hg
    rcases hat with h | h
    · exact .inl h
    · exact .inr (by rw [h]; exact gx0.size)) hrow)
  clear hJ q9 hrow hgr hat ho1 gx0
  dsimp only [List.drop]
  go_wp2_with fail
  go_ret
  refine ⟨rfl, ?_⟩
  refine MdTurn.trans (F1 := F3) (w1 := v) ?_ HFF.out.2 HT.out
  exact HFF.out.1.trans HOv.out (fun _ => .inl))
end
end Go.Proofs.YtajoihpjnnnkeaaDoor

set_option linter.unusedVariables false
set_option linter.unusedSimpArgs false
namespace Go.Proofs.YtajoihpjnnnkeaaDoor
namespace Pl
theorem cnt20_kind {t : MdSt} {e : En} (h : cnt20 t e = true) : ∃ i, i < t.xs.length ∧ findM t.xs e.shard = (i : Nat) ∧ iOf t.xs e = i ∧
    (e.kind = 2 ∨ (e.kind = 3 ∧ cutE (rightR (shAt t.xs i).lo (shAt t.xs i).hi) (keyN e.key) (hasR (shAt t.xs i).lo (shAt t.xs i).hi e.key) (shAt t.xs i).lo e.key = 0) ∨
     (e.kind = 4 ∧ ∃ j, j < t.xs.length ∧ findM t.xs e.other = (j : Nat) ∧ jOf t.xs e = j)) := by
  unfold cnt20 at h
  by_cases hr : rightB e = false
  · rw [if_pos hr] at h; cases h
  · rw [if_neg hr] at h
    rcases findM_is t.xs e.shard with hf | ⟨i, hi, hf⟩
    · rw [hf, if_pos (by decide)] at h; cases h
    · rw [hf, if_neg (by omega), Int.toNat_natCast] at h
      refine ⟨i, hi, hf, by unfold iOf; rw [hf]; rfl, ?_⟩
      by_cases k2 : e.kind = 2
      · exact .inl k2
      · rw [if_neg k2] at h
        by_cases k3 : e.kind = 3
        · rw [if_pos k3] at h
          refine .inr (.inl ⟨k3, ?_⟩)
          simp only [Bool.and_eq_true, Bool.not_eq_true'] at h
          obtain ⟨⟨_, h1⟩, h2⟩ := h
          have hk := h1
          unfold hasR at hk
          simp only [Bool.and_eq_true] at hk
          have h3 : keyN e.key = 0 := of_decide_eq_true hk.1.1.2
          unfold cutE
          rw [h1, hk.1.1.1, h3, if_neg (by decide), if_neg (by decide), if_neg]
          rintro (h4 | h4)
          · cases h4
          · rw [h4] at h2; simp at h2
        · rw [if_neg k3] at h
          by_cases k4 : e.kind = 4
          · rw [if_pos k4] at h
            rcases findM_is t.xs e.other with hg | ⟨j, hj, hg⟩
            · rw [hg, if_pos (by decide)] at h; cases h
            · exact .inr (.inr ⟨k4, j, hj, hg, by unfold jOf; rw [hg]; rfl⟩)
          · rw [if_neg k4] at h; cases h
end Pl

theorem apply20_any {w : World} {F : Nat → Prop} {mb : Nat} {s : MdSt} (h : MdAt w F mb s) (hk : MdOk s) (e : En) (hA : EnAt w e) (hs : EnSm e) (at' : Int) :
    Calls Tryd.prog 18 #[.pointer (some ⟨mb, 0, none⟩), e.agg, .int .i64 at'] w fun r w' => r = .returned (.bool (Pl.app20 s e at')) ∧ MdTurn w F mb (Pl.apP20 s e at') w' := by
  cases hap : Pl.app20 s e at' with
  | false =>
    refine (apply20_no h hk e hA hs at' hap).mono ?_
    rintro r w' ⟨rfl, g⟩
    refine ⟨rfl, ?_⟩
    unfold Pl.apP20
    rw [if_neg (by rw [hap]; simp)]
    exact MdTurn.of_grew h g
  | true =>
    have hc : Pl.cnt20 s e = true := by unfold Pl.app20 at hap; simp only [Bool.and_eq_true] at hap; exact hap.1.1
    obtain ⟨i, hi, hf, hiO, hkk⟩ := Pl.cnt20_kind hc
    have e0 : Pl.apP20 s e at' = Pl.done20 s e at' := by unfold Pl.apP20; rw [if_pos hap]
    rw [e0]
    unfold Pl.done20
    rcases hkk with k2 | ⟨k3, hcut⟩ | ⟨k4, j, hj, hfj, hjO⟩
    · rw [if_pos k2, hiO]
      exact apply20_move h hk e hA hs at' hap k2 i hi hf
    · rw [if_neg (by omega), if_pos k3, hiO]
      exact apply20_split h hk e hA hs at' hap k3 i hi hf hcut
    · rw [if_neg (by omega), if_neg (by omega), hiO, hjO]
      exact apply20_merge h hk e hA hs at' hap k4 i hi hf j hj hfj
end Go.Proofs.YtajoihpjnnnkeaaDoor
