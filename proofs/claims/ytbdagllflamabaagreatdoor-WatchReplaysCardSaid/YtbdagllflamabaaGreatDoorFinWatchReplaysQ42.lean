/- Aud13, Aud14: one text. -/
import Derived.Test.YtbdagllflamabaaGreatDoorFinWatchReplaysQ41
import Derived.Test.YtbdagllflamabaaGreatDoorFinWatchReplaysQ19
import Derived.Test.YtbdagllflamabaaGreatDoorFinWatchReplaysQ26
import Derived.Test.YtbdagllflamabaaGreatDoorFinWatchReplaysQ39
set_option linter.unusedVariables false
set_option linter.unusedSectionVars false
set_option linter.unusedSimpArgs false
namespace Go.Proofs.YtbdagllflamabaaGreatDoor
open Go.RowKit Go.Maps
attribute [local go_sem] Oper.semAt_some uponV
theorem AuAt.mono {W : World} {L : Nat → Nat} {k ab n n' : Nat} {A : AuP} (h : AuAt W L k ab n A) (hn : n ≤ n') : AuAt W L k ab n' A := by
  obtain ⟨sb, mb, nb, f, st, h⟩ := h
  exact ⟨sb, mb, nb, f, st, h.mono hn⟩
theorem AuTurn.still {W W' : World} {L : Nat → Nat} {k ab n n' : Nat} {A : AuP} (h : AuAt W L k ab n A) (g : Grew W W') (hn : n ≤ n') : AuTurn W L k ab n' A W' := by
  refine ⟨g.only _, fun j => if j < W.heap.size then L j else k + 50, fun j hj => if_pos hj, fun j hj => ?_, (h.mono hn).kept (g.only fun _ => False) (fun _ _ h => h.elim) fun j hj => if_pos hj⟩
  dsimp only
  rw [if_neg (by omega)]
  unfold Kin; omega
theorem AuTurn.mono {W W' : World} {L : Nat → Nat} {k ab n n' : Nat} {A : AuP} (h : AuTurn W L k ab n A W') (hn : n ≤ n') : AuTurn W L k ab n' A W' := by
  obtain ⟨h1, L', h2, h3, h4⟩ := h
  exact ⟨h1, L', h2, h3, h4.mono hn⟩
theorem AuTurn.step {W V W' : World} {L L1 : Nat → Nat} {k ab n : Nat} {A : AuP} (hO : Only (fun j => Kin k (L j)) W V) (hL : ∀ j, j < W.heap.size → L1 j = L j) (hN : ∀ j, W.heap.size ≤ j → Kin k (L1 j)) (h : AuTurn V L1 k ab n A W') : AuTurn W L k ab n A W' := by
  obtain ⟨h1, L', h2, h3, h4⟩ := h
  have hs := hO.size
  refine ⟨hO.trans h1 fun j hj => ?_, L', fun j hj => (h2 j (by omega)).trans (hL j hj), fun j hj => ?_, h4⟩
  · rcases Nat.lt_or_ge j W.heap.size with q | q
    · rw [hL j q] at hj; exact .inl hj
    · exact .inr q
  · rcases Nat.lt_or_ge j V.heap.size with q | q
    · rw [h2 j q]; exact hN j hj
    · exact h3 j q
theorem AuIs.gone2 {W Y : World} {L : Nat → Nat} {k ab sb mb nb n : Nat} {f : Lit → Option Value} {st : Nat → Nat} {A : AuP} (h : AuIs W L k ab sb mb nb n f st A) (g : Grew W Y) (a : Int) : ∃ L1, (∀ j, j < W.heap.size → L1 j = L j) ∧ (∀ j, W.heap.size ≤ j → L1 j = k + 50) ∧ Only (fun j => Kin k (L j)) W (Y.setCell ⟨ab, 0, none⟩ (.int .i64 a)) ∧ AuIs (Y.setCell ⟨ab, 0, none⟩ (.int .i64 a)) L1 k ab sb mb nb n f st ⟨a, A.sh, A.st⟩ := by
  have hr := h.relab (L' := fun j => if j < W.heap.size then L j else k + 50) g (fun j hj => if_pos hj)
  have hlab := h.lab
  refine ⟨fun j => if j < W.heap.size then L j else k + 50, fun j hj => if_pos hj, fun j hj => if_neg (by omega), (g.only _).then ((Only.setCell Y ⟨ab, 0, none⟩ _).mono fun j hj => .inl ?_), hr.gone a⟩
  have : j = ab := hj
  subst this
  unfold Kin; omega
theorem changeA_any (E : Nat → Addr) {W V : World} (hE : Errs auS E V) {L : Nat → Nat} {k ab sb mb nb n m0 : Nat} {f : Lit → Option Value} {st : Nat → Nat} {A : AuP} (h : AuIs W L k ab sb mb nb n f st A) (hOk : AuOk A m0) (hm0 : m0 ≤ 120) (hn : n ≤ 100000) {F F' : Nat → Prop} (hF : ∀ j, F j → L j = k + 3) (hlt : ∀ j, F j → j < W.heap.size) (hO : Only F W V) {e : En} {at' : Int} (ha : Pl.applyB A.sh.xs A.sh.used e at' = true)
    (hS : ShAt V F' sb (Pl.doneP A.sh e at')) (hF' : ∀ j, F' j → F j ∨ W.heap.size ≤ j) (hkz : e.key.size ≤ 300) :
    Calls Tryz.prog 45 #[.pointer (some ⟨ab, 0, none⟩), e.agg] V fun r w' => r = .returned .nilIface ∧ AuTurn W L k ab (n + 4) ⟨A.at_, Pl.doneP A.sh e at', Pl.changeS A e⟩ w' := by
  have hcb : Pl.countsB A.sh.xs A.sh.used e = true := by unfold Pl.applyB at ha; simp only [Bool.and_eq_true] at ha; exact ha.1.1
  obtain ⟨hr, i, hi, hf, hiO, hid1, hk⟩ := Pl.counts_kind hcb
  have hmi := Pl.mem_at hi
  have hidi := hOk.inv.ids _ hmi
  have hab := h.ablt
  have nab : ¬ F ab := fun t => by have := hF ab t; have := h.lab; omega
  have nmb : ¬ F mb := fun t => by have := hF mb t; have := h.lmb; omega
  have c2 := (hO.cell hab nab 2).trans h.c2
  obtain ⟨m1, e1, h1⟩ := h.lm
  have hlm := h1.kept hO nmb
  have srt : ∀ q P S, A.st q = some (P, S) → Pl.Srt P := fun q P S hq => by
    obtain ⟨_, c, _, _, Ft, Fs, m, _, ⟨tb, sb', hT⟩, _⟩ := h.states q P S hq
    exact tabAt_srt hT.tab
  have few : ∀ q P S, q < 13 → A.st q = some (P, S) → P.length ≤ 1000 := fun q P S hq hA => by
    have a := len_tot A.st q hq
    have b := hOk.few
    rw [hA] at a
    unfold lenS at a
    dsimp only at a
    omega
  rcases hk with k2 | ⟨k3, hu, o1, o2, hh, hne⟩ | ⟨k4, jj, hj, hfj, hjO, hid2, hz⟩
  · refine (changeA_move ab e k2).mono ?_
    rintro r w' ⟨rfl, g⟩
    have es : Pl.changeS A e = A.st := by unfold Pl.changeS; rw [if_neg (by omega), if_neg (by omega)]
    have hO2 : Only F W w' := hO.grewT g
    refine ⟨rfl, hO2.mono fun j hj => .inl (by unfold Kin; have := hF j hj; omega), fun j => if j < W.heap.size then L j else k + 3, fun j hj => if_pos hj, fun j hj => ?_, sb, mb, nb, f, st, ?_⟩
    · dsimp only; rw [if_neg (by omega)]; unfold Kin; omega
    · rw [es]
      exact (h.moved hF hO2 k2 hi hiO (hS.grew g) hF' (fun j hj => if_pos hj) (fun j hj => if_neg (by omega)) hlt).mono (by omega)
  · obtain ⟨P, S, hP, hin⟩ := hOk.dom _ hmi
    rw [hid1] at hP hidi
    obtain ⟨i12, c, hc, hcid, Ft, Fs, m, hm, hSt, hB⟩ := h.states _ P S hP
    have hci : c = shAt A.sh.xs i := by rw [← Pl.sh_uniq hOk hc hcid, Pl.sh_uniq hOk hmi (i := e.shard.toNat) (by omega)]
    have hsz := hOk.sz c hc
    have hBF : ∀ j, BlS Ft Fs (st e.shard.toNat) j → ¬ F j := fun j hj t => by have := hB j hj; have := hF j t; omega
    have hfv := h.val e.shard.toNat
    rw [hP, show ((e.shard.toNat : Nat) : Int) = e.shard by omega] at hfv
    refine (changeA_split E hE e k3 (by omega) (by omega) (by omega) (by omega) c2 hlm (by omega) hfv (hSt.kept hO (fun j hj => hBF j (.inl hj)) (fun j hj => hBF j (.inr (.inl hj))) (hBF _ (.inr (.inr rfl)))) ⟨fun t => by have := hB ab t; have := h.lab; omega, fun t => by have := hB mb t; have := h.lmb; omega, fun t => by have := h.lab; have := h.lmb; rw [t] at *; omega⟩ (few _ P S (by omega) hP) hsz.1 hsz.2 hkz (by rw [hci]; exact Pl.cut_zero hh hne)).mono ?_
    rintro r w' ⟨rfl, hC⟩
    refine ⟨rfl, AuTurn.mono (n := n + 1) ?_ (by omega)⟩
    exact h.split hOk hF hlt hO ha k3 hS hF' hP hc hcid (by omega) hm hB hSt.all hC
  · obtain ⟨P, S, hP, hinP⟩ := hOk.dom _ hmi
    have hmj := Pl.mem_at hj
    have hidj := hOk.inv.ids _ hmj
    obtain ⟨Q, T, hQ, hinQ⟩ := hOk.dom _ hmj
    rw [hid1] at hP hidi
    rw [hid2] at hQ hidj
    have hrs := (Pl.right_merge hr k4).2.2.2.2
    have hso : e.shard.toNat ≠ e.other.toNat := by omega
    obtain ⟨i12, c, hc, hcid, Ft, Fs, m, hm, hSt, hB⟩ := h.states _ P S hP
    obtain ⟨j12, d, hd, hdid, Gt, Gs, m2, hm2, hSu, hG⟩ := h.states _ Q T hQ
    have hci : c = shAt A.sh.xs i := by rw [← Pl.sh_uniq hOk hc hcid, Pl.sh_uniq hOk hmi (i := e.shard.toNat) (by omega)]
    have hdj : d = shAt A.sh.xs jj := by rw [← Pl.sh_uniq hOk hd hdid, Pl.sh_uniq hOk hmj (i := e.other.toNat) (by omega)]
    have hsz := hOk.sz c hc
    have hsz2 := hOk.sz d hd
    have hBF : ∀ j, BlS Ft Fs (st e.shard.toNat) j → ¬ F j := fun j hj t => by have := hB j hj; have := hF j t; omega
    have hGF : ∀ j, BlS Gt Gs (st e.other.toNat) j → ¬ F j := fun j hj t => by have := hG j hj; have := hF j t; omega
    have hfv := h.val e.shard.toNat
    rw [hP, show ((e.shard.toNat : Nat) : Int) = e.shard by omega] at hfv
    have hfu := h.val e.other.toNat
    rw [hQ, show ((e.other.toNat : Nat) : Int) = e.other by omega] at hfu
    have ri := hOk.chain.right i hi
    have rj := hOk.chain.right jj hj
    rw [← hci] at hinP ri hz
    rw [← hdj] at hinQ rj hz
    refine (changeA_merge E hE e k4 (by omega) (by omega) (by omega) (by omega) c2 hlm hfv hfu (hSt.kept hO (fun j hj => hBF j (.inl hj)) (fun j hj => hBF j (.inr (.inl hj))) (hBF _ (.inr (.inr rfl)))) (hSu.kept hO (fun j hj => hGF j (.inl hj)) (fun j hj => hGF j (.inr (.inl hj))) (hGF _ (.inr (.inr rfl)))) (fun j hj t => by have := hG j hj; have := hB j t; omega) ⟨fun t => by have := hB ab t; have := h.lab; omega, fun t => by have := hB mb t; have := h.lmb; omega⟩ (Pl.joinP_ok hinP hinQ (srt _ P S hP) (srt _ Q T hQ) ri rj hz) (few _ P S (by omega) hP) (few _ Q T (by omega) hQ) (by omega) (by omega) hsz.1 hsz.2 hsz2.1 hsz2.2 hz).mono ?_
    rintro r w' ⟨rfl, hC⟩
    exact ⟨rfl, h.merge hOk hF hlt hO ha k4 hS hF' hP hQ hc hcid hd hdid (by omega) hm hB hSt.all hC⟩
theorem auS_key : KeyT auS := ⟨rfl, rfl, rfl, rfl⟩
set_option maxRecDepth 100000 in
set_option maxHeartbeats 4000000 in
theorem applyA_form (E : Nat → Addr) {W : World} {L : Nat → Nat} {k ab n : Nat} {A : AuP} (hE : Errs auS E W) (h : AuAt W L k ab n A) (e : En) (hA : EnAt W e) (at' : Int) (hr : Pl.rightB e = false) :
    Calls Tryz.prog 11 #[.pointer (some ⟨ab, 0, none⟩), e.agg, .int .i64 at'] W fun r w' => r = .returned (errOf E 4) ∧ Grew W w' := by
  have g4 : W.cell? ⟨0, 0, none⟩ = some (.iface 343 (.pointer (some (E 4)))) := hE.cell 4 rfl
  have b4 := cell_lt g4
  have HR := hid (fun X (g : Grew W X) => rightE_any auS_key E e X (hE.grew g) (hA.grew g))
  rw [hr] at HR
  clear hE hA h hr
  obtain ⟨kind, shard, other, server, client, seq, key, upto, part, parts, ops, opsA, opsC, dataA, dataL, dataC⟩ := e
  unfold En.agg En.vals at *
  dsimp only at *
  go_enter Tryz.func11, Tryz.ntmps11
  go_wp2_with fail
  refine (HR.out _ ((Grew.refl W).alloc _)).mono ?_
  rintro e w1 ⟨rfl, hg⟩
  have hG := ((Grew.refl W).alloc _).trans hg
  have g4 := (hG.cells.1 _ 0 b4).trans g4
  have b4 := Nat.lt_of_lt_of_le b4 hG.size
  have HG := hid hG
  clear hg hG HR
  go_wp2_with fail
  go_ret
  exact ⟨rfl, HG.out⟩
set_option maxRecDepth 100000 in
set_option maxHeartbeats 4000000 in
theorem applyA_range (E : Nat → Addr) {W : World} {L : Nat → Nat} {k ab n : Nat} {A : AuP} (hE : Errs auS E W) (h : AuAt W L k ab n A) (e : En) (hA : EnAt W e) (at' : Int) (hr : Pl.rightB e = true) (hat : at' < A.at_ ∨ at' < 0 ∨ 4096 ≤ at') :
    Calls Tryz.prog 11 #[.pointer (some ⟨ab, 0, none⟩), e.agg, .int .i64 at'] W fun r w' => r = .returned (errOf E 1) ∧ Grew W w' := by
  have g1 : W.cell? ⟨1, 0, none⟩ = some (.iface 343 (.pointer (some (E 1)))) := hE.cell 1 rfl
  have b1 := cell_lt g1
  obtain ⟨sb, mb, nb, f, st, h⟩ := h
  have c0 := h.c0
  have hab := cell_lt c0
  have HR := hid (fun X (g : Grew W X) => rightE_any auS_key E e X (hE.grew g) (hA.grew g))
  rw [hr] at HR
  clear hE hA h hr
  obtain ⟨kind, shard, other, server, client, seq, key, upto, part, parts, ops, opsA, opsC, dataA, dataL, dataC⟩ := e
  unfold En.agg En.vals at *
  dsimp only at *
  go_enter Tryz.func11, Tryz.ntmps11
  go_wp2_with fail
  refine (HR.out _ ((Grew.refl W).alloc _)).mono ?_
  rintro e w1 ⟨rfl, hg⟩
  have hG := ((Grew.refl W).alloc _).trans hg
  have g1 := (hG.cells.1 _ 0 b1).trans g1
  have b1 := Nat.lt_of_lt_of_le b1 hG.size
  have c0 := (hG.cells.1 _ 0 hab).trans c0
  have hab := Nat.lt_of_lt_of_le hab hG.size
  have HG := hid hG
  clear hg hG HR
  by_cases q1 : at' < A.at_
  · clear hat
    go_wp2_with fail
    go_ret
    exact ⟨rfl, HG.out⟩
  by_cases q2 : at' < 0
  · clear hat
    go_wp2_with fail
    go_ret
    exact ⟨rfl, HG.out⟩
  have q3 : 4096 ≤ at' := by omega
  clear hat
  go_wp2_with fail
  go_ret
  exact ⟨rfl, HG.out⟩
set_option maxRecDepth 100000 in
set_option maxHeartbeats 8000000 in
theorem applyA_write (E : Nat → Addr) {W : World} {L : Nat → Nat} {k ab n n' : Nat} {A : AuP} (hE : ∀ X, Only (fun j => Kin k (L j)) W X → Errs auS E X) (h : AuAt W L k ab n A) (e : En) (hA : ∀ X, Only (fun j => Kin k (L j)) W X → EnAt X e) (at' : Int) (hr : Pl.rightB e = true) (hat : ¬ (at' < A.at_ ∨ at' < 0 ∨ 4096 ≤ at')) (hk : e.kind = 1) {v : Value} {B : AuP}
    (hw : ∀ X L1, (∀ j, j < W.heap.size → L1 j = L j) → Only (fun j => Kin k (L j)) W X → AuAt X L1 k ab n ⟨at' + 1, A.sh, A.st⟩ → Calls Tryz.prog 43 #[.pointer (some ⟨ab, 0, none⟩), e.agg, .int .i64 at'] X fun r w' => r = .returned v ∧ AuTurn X L1 k ab n' B w') :
    Calls Tryz.prog 11 #[.pointer (some ⟨ab, 0, none⟩), e.agg, .int .i64 at'] W fun r w' => r = .returned v ∧ AuTurn W L k ab n' B w' := by
  obtain ⟨sb, mb, nb, f, st, h⟩ := h
  have c0 := h.c0
  have hab := cell_lt c0
  have fz := h.fz 0
  have HR := hid (fun X (g : Grew W X) => rightE_any auS_key E e X (hE X (g.only _)) (hA X (g.only _)))
  rw [hr] at HR
  have HH := hid h
  have HW := hid hw
  have q1 : ¬ at' < A.at_ := fun q => hat (.inl q)
  have q2 : ¬ at' < 0 := fun q => hat (.inr (.inl q))
  have q3 : ¬ 4096 ≤ at' := fun q => hat (.inr (.inr q))
  have h0 : 0 ≤ at' := by omega
  have h1 : at' < 4096 := by omega
  clear hE hA h hat hr hw
  obtain ⟨kind, shard, other, server, client, seq, key, upto, part, parts, ops, opsA, opsC, dataA, dataL, dataC⟩ := e
  unfold En.agg En.vals at *
  dsimp only at *
  subst hk
  go_enter Tryz.func11, Tryz.ntmps11
  go_wp2_with fail
  obtain ⟨Y, hY⟩ : ∃ Y, Y = W.alloc (.cells #[.int .i64 1, .int .i64 shard, .int .i64 other, .int .i64 server, .int .i64 client, .int .i64 seq, .slice opsA ops.length opsC, .string key, .int .i64 upto, .int .i64 part, .int .i64 parts, .slice dataA dataL dataC] 26) := ⟨_, rfl⟩
  have gY : Grew W Y := by rw [hY]; exact (Grew.refl W).alloc _
  obtain ⟨xb, hxb⟩ : ∃ xb, xb = W.heap.size := ⟨_, rfl⟩
  have HX := hid (show ∀ q v, (#[.int .i64 1, .int .i64 shard, .int .i64 other, .int .i64 server, .int .i64 client, .int .i64 seq, .slice opsA ops.length opsC, .string key, .int .i64 upto, .int .i64 part, .int .i64 parts, .slice dataA dataL dataC] : Array Value)[q]? = some v → Y.cell? ⟨xb, q, none⟩ = some v from fun q v hv => by
    rw [hY, hxb, cell_of_row _ _ q _ _ _ (heap_alloc_new W _)]; simpa using hv)
  have hxY : xb < Y.heap.size := by rw [hY, hxb]; simp
  have hxa : xb ≠ ab := by omega
  have hxW : W.heap.size ≤ xb := by omega
  rw [← hY, ← hxb]
  refine (HR.out Y gY).mono ?_
  rintro e w1 ⟨rfl, hg⟩
  have HG1 := hid (gY.trans hg)
  have HX1 := hid (fun q v hv => (hg.cells.1 _ q hxY).trans (HX.out q v hv))
  have hx1 := Nat.lt_of_lt_of_le hxY hg.size
  have c0 := (HG1.out.cells.1 _ 0 hab).trans c0
  have fz := (HG1.out.cells.2 _ 0 hab).trans fz
  have hab := Nat.lt_of_lt_of_le hab HG1.out.size
  clear hg gY hY hxb HX hxY HR
  go_upto_region 5 with fail
  go_upto_region 6 with fail
  obtain ⟨L1, hL1, hN1, hO1, hI1⟩ := HH.out.gone2 HG1.out (at' + 1)
  obtain ⟨X, hX⟩ : ∃ X, X = w1.setCell ⟨ab, 0, none⟩ (.int .i64 (at' + 1)) := ⟨_, rfl⟩
  have hOX : Only (fun j => j = ab) w1 X := by rw [hX]; exact Only.setCell w1 ⟨ab, 0, none⟩ _
  rw [← hX] at hO1 hI1 ⊢
  clear hX
  have HXX := hid (fun q v hv => (hOX.cell hx1 hxa q).trans (HX1.out q v hv))
  have x0 := HXX.out 0 _ rfl
  have x1 := HXX.out 1 _ rfl
  have x2 := HXX.out 2 _ rfl
  have x3 := HXX.out 3 _ rfl
  have x4 := HXX.out 4 _ rfl
  have x5 := HXX.out 5 _ rfl
  have x6 := HXX.out 6 _ rfl
  have x7 := HXX.out 7 _ rfl
  have x8 := HXX.out 8 _ rfl
  have x9 := HXX.out 9 _ rfl
  have x10 := HXX.out 10 _ rfl
  have x11 := HXX.out 11 _ rfl
  have hxX := Nat.lt_of_lt_of_le hx1 hOX.size
  have habX := Nat.lt_of_lt_of_le hab hOX.size
  have HS := hid (And.intro hL1 (And.intro (fun j hj => (show Kin k (L1 j) from by rw [hN1 j hj]; unfold Kin; omega)) hO1))
  have HI1 := hid hI1
  have HW1 := hid (HW.out X L1 hL1 hO1 ⟨sb, mb, nb, f, st, hI1⟩)
  clear hL1 hN1 hO1 hI1 HW HX1 hOX c0 fz hab
  go_wp2_with fail
  refine HW1.out.mono ?_
  rintro e w2 ⟨rfl, hT⟩
  have HT := hid hT
  clear hT HW1 x0 x1 x2 x3 x4 x5 x6 x7 x8 x9 x10 x11
  go_wp2_with fail
  go_ret
  exact ⟨rfl, .step HS.out.2.2 HS.out.1 HS.out.2.1 HT.out⟩
set_option maxRecDepth 100000 in
set_option maxHeartbeats 8000000 in
theorem applyA_other (E : Nat → Addr) {W : World} {L : Nat → Nat} {k ab n n' : Nat} {A : AuP} (hE : ∀ X, Only (fun j => Kin k (L j)) W X → Errs auS E X) (h : AuAt W L k ab n A) (e : En) (hA : ∀ X, Only (fun j => Kin k (L j)) W X → EnAt X e) (at' : Int) (hr : Pl.rightB e = true) (hat : ¬ (at' < A.at_ ∨ at' < 0 ∨ 4096 ≤ at')) (hk : ¬ e.kind = 1) {B : AuP} {b : Bool}
    (hw : ∀ X L1 sb mb nb f st, (∀ j, j < W.heap.size → L1 j = L j) → Only (fun j => Kin k (L j)) W X → AuIs X L1 k ab sb mb nb n f st ⟨at' + 1, A.sh, A.st⟩ → ∀ U, Grew X U → Calls Tryz.prog 44 #[.pointer (some ⟨sb, 0, none⟩), e.agg, .int .i64 at'] U fun r V => r = .returned (.bool b) ∧ Only (fun j => L1 j = k + 3) X V ∧
      ((b = false ∧ AuTurn X L1 k ab n' B V) ∨ (b = true ∧ Calls Tryz.prog 45 #[.pointer (some ⟨ab, 0, none⟩), e.agg] V fun r w' => r = .returned .nilIface ∧ AuTurn X L1 k ab n' B w'))) :
    Calls Tryz.prog 11 #[.pointer (some ⟨ab, 0, none⟩), e.agg, .int .i64 at'] W fun r w' => r = .returned .nilIface ∧ AuTurn W L k ab n' B w' := by
  obtain ⟨sb, mb, nb, f, st, h⟩ := h
  have c0 := h.c0
  have hab := cell_lt c0
  have fz := h.fz 0
  have HR := hid (fun X (g : Grew W X) => rightE_any auS_key E e X (hE X (g.only _)) (hA X (g.only _)))
  rw [hr] at HR
  have HH := hid h
  have HW := hid hw
  have q1 : ¬ at' < A.at_ := fun q => hat (.inl q)
  have q2 : ¬ at' < 0 := fun q => hat (.inr (.inl q))
  have q3 : ¬ 4096 ≤ at' := fun q => hat (.inr (.inr q))
  have h0 : 0 ≤ at' := by omega
  have h1 : at' < 4096 := by omega
  clear hE hA h hat hr hw
  obtain ⟨kind, shard, other, server, client, seq, key, upto, part, parts, ops, opsA, opsC, dataA, dataL, dataC⟩ := e
  unfold En.agg En.vals at *
  dsimp only at *
  go_enter Tryz.func11, Tryz.ntmps11
  go_wp2_with fail
  obtain ⟨Y, hY⟩ : ∃ Y, Y = W.alloc (.cells #[.int .i64 kind, .int .i64 shard, .int .i64 other, .int .i64 server, .int .i64 client, .int .i64 seq, .slice opsA ops.length opsC, .string key, .int .i64 upto, .int .i64 part, .int .i64 parts, .slice dataA dataL dataC] 26) := ⟨_, rfl⟩
  have gY : Grew W Y := by rw [hY]; exact (Grew.refl W).alloc _
  obtain ⟨xb, hxb⟩ : ∃ xb, xb = W.heap.size := ⟨_, rfl⟩
  have HX := hid (show ∀ q v, (#[.int .i64 kind, .int .i64 shard, .int .i64 other, .int .i64 server, .int .i64 client, .int .i64 seq, .slice opsA ops.length opsC, .string key, .int .i64 upto, .int .i64 part, .int .i64 parts, .slice dataA dataL dataC] : Array Value)[q]? = some v → Y.cell? ⟨xb, q, none⟩ = some v from fun q v hv => by
    rw [hY, hxb, cell_of_row _ _ q _ _ _ (heap_alloc_new W _)]; simpa using hv)
  have hxY : xb < Y.heap.size := by rw [hY, hxb]; simp
  have hxa : xb ≠ ab := by omega
  have hxW : W.heap.size ≤ xb := by omega
  rw [← hY, ← hxb]
  refine (HR.out Y gY).mono ?_
  rintro e w1 ⟨rfl, hg⟩
  have HG1 := hid (gY.trans hg)
  have HX1 := hid (fun q v hv => (hg.cells.1 _ q hxY).trans (HX.out q v hv))
  have hx1 := Nat.lt_of_lt_of_le hxY hg.size
  have c0 := (HG1.out.cells.1 _ 0 hab).trans c0
  have fz := (HG1.out.cells.2 _ 0 hab).trans fz
  have hab := Nat.lt_of_lt_of_le hab HG1.out.size
  clear hg gY hY hxb HX hxY HR
  go_upto_region 5 with fail
  go_upto_region 6 with fail
  obtain ⟨L1, hL1, hN1, hO1, hI1⟩ := HH.out.gone2 HG1.out (at' + 1)
  obtain ⟨X, hX⟩ : ∃ X, X = w1.setCell ⟨ab, 0, none⟩ (.int .i64 (at' + 1)) := ⟨_, rfl⟩
  have hOX : Only (fun j => j = ab) w1 X := by rw [hX]; exact Only.setCell w1 ⟨ab, 0, none⟩ _
  rw [← hX] at hO1 hI1 ⊢
  clear hX
  have HXX := hid (fun q v hv => (hOX.cell hx1 hxa q).trans (HX1.out q v hv))
  have x0 := HXX.out 0 _ rfl
  have x1 := HXX.out 1 _ rfl
  have x2 := HXX.out 2 _ rfl
  have x3 := HXX.out 3 _ rfl
  have x4 := HXX.out 4 _ rfl
  have x5 := HXX.out 5 _ rfl
  have x6 := HXX.out 6 _ rfl
  have x7 := HXX.out 7 _ rfl
  have x8 := HXX.out 8 _ rfl
  have x9 := HXX.out 9 _ rfl
  have x10 := HXX.out 10 _ rfl
  have x11 := HXX.out 11 _ rfl
  have hxX := Nat.lt_of_lt_of_le hx1 hOX.size
  have habX := Nat.lt_of_lt_of_le hab hOX.size
  have HS := hid (And.intro hL1 (And.intro (fun j hj => (show Kin k (L1 j) from by rw [hN1 j hj]; unfold Kin; omega)) hO1))
  have HI1 := hid hI1
  have HW1 := hid (HW.out X L1 sb mb nb f st hL1 hO1 hI1)
  have c1 := hI1.c1
  have hlx := hI1.lab
  have HLL := hid (show ∀ V, Only (fun j => L1 j = k + 3) X V → ∀ q v, (#[.int .i64 kind, .int .i64 shard, .int .i64 other, .int .i64 server, .int .i64 client, .int .i64 seq, .slice opsA ops.length opsC, .string key, .int .i64 upto, .int .i64 part, .int .i64 parts, .slice dataA dataL dataC] : Array Value)[q]? = some v → V.cell? ⟨xb, q, none⟩ = some v from fun V hV q v hv => (hV.cell hxX (fun e => by rw [hN1 xb hxW] at e; omega) q).trans (HXX.out q v hv))
  clear hL1 hN1 hO1 hI1 HW HX1 hOX c0 fz hab
  go_upto_region 8 with fail
  have C1 := wd_cell c1
  have X0 := wd_cell x0
  have X1 := wd_cell x1
  have X2 := wd_cell x2
  have X3 := wd_cell x3
  have X4 := wd_cell x4
  have X5 := wd_cell x5
  have X6 := wd_cell x6
  have X7 := wd_cell x7
  have X8 := wd_cell x8
  have X9 := wd_cell x9
  have X10 := wd_cell x10
  have X11 := wd_cell x11
  clear x0 x1 x2 x3 x4 x5 x6 x7 x8 x9 x10 x11
  refine wp_region_still 6 (by kernel_rfl) (by kernel_rfl) (fun _ _ => rfl) ?_
  repeat (first
    | (refine mixS_plain (by rfl) (by rfl) (by rfl) (by first | exact Grew.refl | exact fun _ => rfl) (by rfl) ?_; intro K hK; go_big_quiet_op; go_big_quiet_on)
    | (refine mixS_skip (by rfl) (by rfl) (by rfl) ?_; simp only [Act.put, List.setIfInBounds_toArray, List.set_cons_zero, List.set_cons_succ]))
  refine mixS_done (by rfl) ?_
  intro u hGu
  have HU := hid hGu
  clear C1 X0 X1 X2 X3 X4 X5 X6 X7 X8 X9 X10 X11 hGu
  dsimp only [List.drop]
  go_wp2_with fail
  refine (HW1.out u HU.out).mono ?_
  rintro e V ⟨rfl, hOV, ⟨rfl, hT⟩ | ⟨rfl, hT⟩⟩
  · have HT := hid hT
    clear hT HW1 hOV
    go_wp2_with fail
    go_ret
    exact ⟨rfl, .step HS.out.2.2 HS.out.1 HS.out.2.1 HT.out⟩
  · have HT := hid hT
    have HXV := hid (HLL.out V hOV)
    have x0 := HXV.out 0 _ rfl
    have x1 := HXV.out 1 _ rfl
    have x2 := HXV.out 2 _ rfl
    have x3 := HXV.out 3 _ rfl
    have x4 := HXV.out 4 _ rfl
    have x5 := HXV.out 5 _ rfl
    have x6 := HXV.out 6 _ rfl
    have x7 := HXV.out 7 _ rfl
    have x8 := HXV.out 8 _ rfl
    have x9 := HXV.out 9 _ rfl
    have x10 := HXV.out 10 _ rfl
    have x11 := HXV.out 11 _ rfl
    have hxV := Nat.lt_of_lt_of_le hxX hOV.size
    clear hT HW1 hOV
    go_wp2_with fail
    refine HT.out.mono ?_
    rintro e w2 ⟨rfl, hT⟩
    have HT2 := hid hT
    clear hT HT x0 x1 x2 x3 x4 x5 x6 x7 x8 x9 x10 x11
    go_wp2_with fail
    go_ret
    exact ⟨rfl, .step HS.out.2.2 HS.out.1 HS.out.2.1 HT2.out⟩
theorem right_shard {e : En} (h : Pl.rightB e = true) (hk : e.kind = 1) : 1 ≤ e.shard ∧ e.shard ≤ 12 := by
  unfold Pl.rightB at h
  rw [if_pos hk] at h
  unfold Pl.wriB at h
  simp only [Bool.and_eq_true] at h
  exact (Pl.within_iff _ _).1 h.1.1.1.1
set_option maxHeartbeats 1000000 in
theorem applyA_any (E : Nat → Addr) {W : World} {L : Nat → Nat} {k ab n m0 : Nat} {A : AuP} (hE : ∀ X, Only (fun j => Kin k (L j)) W X → Errs auS E X) (h : AuAt W L k ab n A) (hOk : AuOk A m0) (hm0 : m0 ≤ 120) (hn : n ≤ 90000) (e : En) (hA : ∀ X, Only (fun j => Kin k (L j)) W X → EnAt X e) (hz : EnSz e) (hkz : e.key.size ≤ 300) (at' : Int) :
    Calls Tryz.prog 11 #[.pointer (some ⟨ab, 0, none⟩), e.agg, .int .i64 at'] W fun r w' => r = .returned (errOf E (Pl.applyA A e at').1) ∧ AuTurn W L k ab (n + 5) (Pl.applyA A e at').2 w' := by
  cases hr : Pl.rightB e with
  | false =>
    have e0 : Pl.applyA A e at' = (4, A) := by unfold Pl.applyA; rw [if_pos hr]
    rw [e0]
    refine (applyA_form E (hE W (Only.refl _ _)) h e (hA W (Only.refl _ _)) at' hr).mono ?_
    rintro r w' ⟨rfl, g⟩
    exact ⟨rfl, .still h g (by omega)⟩
  | true =>
  by_cases hat : at' < A.at_ ∨ at' < 0 ∨ 4096 ≤ at'
  · have e0 : Pl.applyA A e at' = (1, A) := by unfold Pl.applyA; rw [if_neg (by rw [hr]; simp), if_pos hat]
    rw [e0]
    refine (applyA_range E (hE W (Only.refl _ _)) h e (hA W (Only.refl _ _)) at' hr hat).mono ?_
    rintro r w' ⟨rfl, g⟩
    exact ⟨rfl, .still h g (by omega)⟩
  by_cases hk : e.kind = 1
  · have hsh := right_shard hr hk
    cases hst : A.st e.shard.toNat with
    | none =>
      have e0 : Pl.applyA A e at' = (0, ⟨at' + 1, A.sh, A.st⟩) := by unfold Pl.applyA; rw [if_neg (by rw [hr]; simp), if_neg hat, if_pos hk, hst]
      rw [e0]
      refine applyA_write E hE h e hA at' hr hat hk fun X L1 hL1 hO h1 => ?_
      refine (writeA_none h1 e (by omega) (by omega) hst at' (by omega) (by omega) (by omega)).mono ?_
      rintro r w' ⟨rfl, ht⟩
      exact ⟨rfl, ht.mono (by omega)⟩
    | some v =>
      obtain ⟨P, S⟩ := v
      have e0 : Pl.applyA A e at' = ((Pl.writeG (Pl.shOf A e.shard.toNat).lo (Pl.shOf A e.shard.toNat).hi P S e at').err, ⟨at' + 1, A.sh, updS A.st e.shard.toNat (some ((Pl.writeG (Pl.shOf A e.shard.toNat).lo (Pl.shOf A e.shard.toNat).hi P S e at').P, (Pl.writeG (Pl.shOf A e.shard.toNat).lo (Pl.shOf A e.shard.toNat).hi P S e at').S))⟩) := by unfold Pl.applyA; rw [if_neg (by rw [hr]; simp), if_neg hat, if_pos hk, hst]
      rw [e0]
      refine applyA_write E hE h e hA at' hr hat hk fun X L1 hL1 hO h1 => ?_
      refine (writeA_some E (auS_st (hE X hO)) h1 (hOk.at_ _) hm0 e (hA X hO) hz (by omega) (by omega) hst at' (by omega) (by omega) (by omega)).mono ?_
      rintro r w' ⟨rfl, ht⟩
      exact ⟨rfl, ht.mono (by omega)⟩
  · cases hap : Pl.applyB A.sh.xs A.sh.used e at' with
    | false =>
      have e0 : Pl.applyA A e at' = (0, ⟨at' + 1, A.sh, A.st⟩) := by unfold Pl.applyA; rw [if_neg (by rw [hr]; simp), if_neg hat, if_neg hk, if_neg (by rw [hap]; simp)]
      rw [e0]
      refine applyA_other E hE h e hA at' hr hat hk (b := false) fun X L1 sb mb nb f st hL1 hO hI U gU => ?_
      obtain ⟨F, hS, hF⟩ := hI.sh
      refine (apply_no auS_shd E (hE U (hO.grewT gU)) (hS.grew gU) (by have := hOk.inv.len; dsimp only; omega) e (hA U (hO.grewT gU)) (by omega) at' hap).mono ?_
      rintro r V ⟨rfl, g⟩
      exact ⟨rfl, (gU.trans g).only _, .inl ⟨rfl, .still ⟨sb, mb, nb, f, st, hI⟩ (gU.trans g) (by omega)⟩⟩
    | true =>
      have e0 : Pl.applyA A e at' = (0, ⟨at' + 1, Pl.doneP A.sh e at', Pl.changeS A e⟩) := by unfold Pl.applyA; rw [if_neg (by rw [hr]; simp), if_neg hat, if_neg hk, if_pos hap]
      rw [e0]
      refine applyA_other E hE h e hA at' hr hat hk (b := true) fun X L1 sb mb nb f st hL1 hO hI U gU => ?_
      obtain ⟨F, hS, hF⟩ := hI.sh
      refine (apply_any auS_shd E (hE U (hO.grewT gU)) (hS.grew gU) (by have := hOk.inv.len; dsimp only; omega) (by have := hOk.inv.few; dsimp only; omega) e (hA U (hO.grewT gU)) (by omega) at').mono ?_
      rintro r V ⟨rfl, hOF, F', hS', hF'⟩
      have e1 : Pl.applyP A.sh e at' = Pl.doneP A.sh e at' := by unfold Pl.applyP; rw [if_pos hap]
      rw [e1] at hS'
      have hXU := gU.size
      have hOX : Only F X V := (gU.only _).then hOF
      have hOW : Only (fun j => Kin k (L j)) W V := hO.trans hOX fun j hj => by
        rcases Nat.lt_or_ge j W.heap.size with q | q
        · refine .inl ?_
          have := hF j hj
          rw [hL1 j q] at this
          unfold Kin; omega
        · exact .inr q
      refine ⟨by rw [hap], hOX.mono fun j hj => .inl (hF j hj), .inr ⟨rfl, ?_⟩⟩
      refine (changeA_any E (hE V hOW) hI (hOk.at_ _) hm0 (by omega) hF hS.lt hOX hap hS' (fun j hj => (hF' j hj).imp id fun q => by omega) hkz).mono ?_
      rintro r w' ⟨rfl, ht⟩
      exact ⟨rfl, ht.mono (by omega)⟩
end Go.Proofs.YtbdagllflamabaaGreatDoor
namespace Go.Proofs.YtbdagllflamabaaGreatDoor
open Go.RowKit Go.Maps
attribute [local go_sem] Oper.semAt_some uponV
namespace Pl
end Pl
end Go.Proofs.YtbdagllflamabaaGreatDoor
