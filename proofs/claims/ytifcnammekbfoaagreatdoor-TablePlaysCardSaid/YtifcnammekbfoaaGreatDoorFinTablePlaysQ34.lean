/- Law21, PlaysT, Open21: one text. -/
import Derived.Test.YtifcnammekbfoaaGreatDoorFinTablePlaysQ21
import Derived.Test.YtifcnammekbfoaaGreatDoorFinTablePlaysQ33
import Derived.Test.YtifcnammekbfoaaGreatDoorFinTablePlaysQ25
import Derived.Test.YtifcnammekbfoaaGreatDoorFinTablePlaysQ27
import Derived.Test.YtifcnammekbfoaaGreatDoorFinTablePlaysQ29
import Derived.Deep.Slices
import Derived.ChangeSame
import Derived.ProofKit
import Derived.OpenShut
/- The walk of tidewaterlaw21.alive. -/
namespace Go.Proofs.YtifcnammekbfoaaGreatDoor
open Go.RowKit Go.Maps
attribute [local go_sem] Oper.semAt_some

abbrev aTxt : ByteArray := ⟨#[97]⟩
abbrev xTxt : ByteArray := ⟨#[120]⟩
abbrev alivePr : Pr := ⟨aTxt, xTxt, 1⟩
namespace Pl
theorem keyN_aT : keyN aTxt = 0 := by decide +kernel
theorem put_alive21 : putN alivePr = 0 := by
  unfold putN
  rw [if_neg (by rw [show alivePr.key = aTxt from rfl, keyN_aT]; simp), if_neg (by decide), if_neg (by decide)]
theorem putT_alive21 : putT [] alivePr = [alivePr] := by
  unfold putT; rw [if_pos put_alive21]; rfl
theorem getT_alive21 : getT [alivePr] aTxt = some alivePr := by
  have h : Srt [alivePr] := ⟨by intro c hc; rw [List.mem_singleton.1 hc]; exact keyN_aT, by simp⟩
  exact getT_mem h (c := alivePr) (by simp)
end Pl

theorem scan_alive {S : Nat → Bool} (hS : TabS S) (E : Nat → Addr) {w : World} (hE : Errs S E w) {F : Nat → Prop} {tb : Nat} (h : TabAt w F tb []) :
    Calls Tryz.prog 20 #[.pointer (some ⟨tb, 0, none⟩), .agg #[.string ⟨#[]⟩, .string ⟨#[]⟩], .int .i64 5] w fun e w' => (∃ a cap, e = .returned (.slice a 0 cap)) ∧ Grew w w' := by
  refine (scanT_any hS E hE h (by decide) ⟨#[]⟩ ⟨#[]⟩ 5 (by decide) (by decide)).mono ?_
  rintro e w' ⟨⟨v, rfl, hrow⟩, hg⟩
  obtain ⟨a, cap, rfl, _⟩ := pairsAt_of hrow
  exact ⟨⟨a, cap, rfl⟩, hg⟩
theorem put_alive21 {S : Nat → Bool} (hS : TabS S) (E : Nat → Addr) {w : World} (hE : Errs S E w) {F : Nat → Prop} {tb : Nat} (h : TabAt w F tb []) :
    Calls Tryz.prog 44 #[.pointer (some ⟨tb, 0, none⟩), .string aTxt, .string xTxt, .int .i64 1] w fun e w' => e = .returned .nilIface ∧ TabTurn w F tb [alivePr] w' := by
  refine (putT_any hS E hE h (by decide) aTxt xTxt 1 (by decide) (by decide)).mono ?_
  rintro e w' ⟨rfl, hT⟩
  rw [show (⟨aTxt, xTxt, 1⟩ : Pr) = alivePr from rfl, Pl.put_alive21]
  rw [show (⟨aTxt, xTxt, 1⟩ : Pr) = alivePr from rfl, Pl.putT_alive21] at hT
  exact ⟨rfl, hT⟩
theorem get_alive21 {S : Nat → Bool} (hS : TabS S) (E : Nat → Addr) {w : World} (hE : Errs S E w) {F : Nat → Prop} {tb : Nat} (h : TabAt w F tb [alivePr]) :
    Calls Tryz.prog 45 #[.pointer (some ⟨tb, 0, none⟩), .string aTxt] w fun e w' => e = .returned (.tuple #[.agg #[.string aTxt, .string xTxt, .int .i64 1], .bool true]) ∧ Grew w w' := by
  refine (getTab_any hS E hE h (by decide) aTxt (by decide)).mono ?_
  rw [Pl.getT_alive21]
  exact fun e w' h => h

set_option maxRecDepth 100000 in
set_option maxHeartbeats 2000000 in
theorem alive21 {S : Nat → Bool} (hS : TabS S) (E : Nat → Addr) (w : World) (hE : Errs S E w) :
    Calls Tryz.prog 8 #[] w fun e w' => e = .returned (.bool true) ∧ Grew w w' := by
  have HE := hid hE
  clear hE
  go_enter Tryz.func8, Tryz.ntmps8
  go_wp2_with fail
  refine (newT_any _).mono ?_
  rintro e w1 ⟨rfl, hg1, hT⟩
  have HT := hid hT
  clear hT
  go_wp2_with fail
  refine (scan_alive hS E (HE.out.grew hg1) HT.out).mono ?_
  rintro e w2 ⟨⟨a, cap, rfl⟩, hg2⟩
  have hG2 := hg1.trans hg2
  have HT2 := hid (HT.out.grew hg2)
  go_wp2_with fail
  refine (put_alive21 hS E (HE.out.grew hG2) HT2.out).mono ?_
  rintro e w3 ⟨rfl, hT3⟩
  obtain ⟨hG3, F3, hP3, hF3⟩ := hT3.grew (fun j hj => by subst hj; exact Nat.le_refl _) hG2
  have HT3 := hid hP3
  clear hT3 hP3 hF3
  go_wp2_with fail
  refine (get_alive21 hS E (HE.out.grew hG3) HT3.out).mono ?_
  rintro e w4 ⟨rfl, hg4⟩
  have hG4 := hG3.trans hg4
  have HT4 := hid ((HT3.out.grew hg4).grew ((Grew.refl _).alloc (.cells #[.string aTxt, .string xTxt, .int .i64 1] 104)))
  go_wp2_with fail
  refine (lenT_any HT4.out).mono ?_
  rintro e w5 ⟨rfl, rfl⟩
  go_wp2_with fail
  go_ret
  exact ⟨rfl, hG4.alloc _⟩
end Go.Proofs.YtifcnammekbfoaaGreatDoor

/- The walk of tidewaterlaw21.TablePlays. -/
set_option linter.unusedVariables false
set_option linter.unusedSimpArgs false
namespace Go.Proofs.YtifcnammekbfoaaGreatDoor
open Go.RowKit Go.Maps Go.Sort
attribute [local go_sem] Oper.semAt_some uponV

/-- The two tables, the same, with what may stand in them. -/
def AllT (w W : World) (tb rb k : Nat) : Prop := ∃ P D, M21 w W tb rb P D (fun _ _ => False) ∧ Pl.Tt P D ∧ Pl.Good P ∧ P.length ≤ k
theorem AllT.more {w W W' : World} {tb rb k : Nat} (h : AllT w W tb rb k) (g : Grew W W') : AllT w W' tb rb k := by
  obtain ⟨P, D, h1, h2⟩ := h
  exact ⟨P, D, h1.more g, h2⟩

theorem do21_any (E : Nat → Addr) {w0 w : World} (hE : Errs allS E w0) {tb rb k : Nat} (h : AllT w0 w tb rb k) (hk : k ≤ 1000) (ak av : Int) (akey aval alo ahi : ByteArray) (sk : akey.size ≤ 300) (sv : aval.size ≤ 300) (sl : alo.size ≤ 300) (sh : ahi.size ≤ 300) :
    Calls Tryz.prog 11 #[.pointer (some ⟨tb, 0, none⟩), .pointer (some ⟨rb, 0, none⟩), .agg #[.int .i64 ak, .int .i64 av, .string akey, .string aval, .string alo, .string ahi]] w fun e w' => e = .returned (.bool true) ∧ AllT w0 w' tb rb (k + 1) := by
  have hS : TabS allS := ⟨rfl, rfl, rfl, rfl, rfl⟩
  obtain ⟨P, D, hM, hT, hG, hl⟩ := h
  by_cases h0 : ak = 0
  · subst h0
    refine (do21_put E hE hM hT (by omega) av akey aval alo ahi sk sv sl sh).mono ?_
    rintro e w' ⟨rfl, h1⟩
    exact ⟨rfl, _, _, h1, hT.put _, hG.put _, by have := Pl.putT_len P ⟨akey, aval, av⟩; omega⟩
  by_cases h1 : ak = 1
  · subst h1
    refine (do21_del hS E hE hM hT (by omega) av akey aval alo ahi sk sv sl sh).mono ?_
    rintro e w' ⟨rfl, h1⟩
    exact ⟨rfl, _, _, h1, hT.del _, hG.del _, by have := Pl.tdel_length P akey; omega⟩
  by_cases h2 : ak = 2
  · subst h2
    refine (do21_get hS E hE hM hT (by omega) av akey aval alo ahi sk).mono ?_
    rintro e w' ⟨rfl, h1⟩
    exact ⟨rfl, _, _, h1, hT, hG, by omega⟩
  by_cases h3 : ak = 3
  · subst h3
    refine (do21_scan hS E hE hM hT (by omega) av akey aval alo ahi sl sh).mono ?_
    rintro e w' ⟨rfl, h1⟩
    exact ⟨rfl, _, _, h1, hT, hG, by omega⟩
  by_cases h4 : ak = 4
  · subst h4
    refine (do21_cut hS E hE hM hT (by omega) av akey aval alo ahi sk).mono ?_
    rintro e w' ⟨rfl, h1⟩
    exact ⟨rfl, _, _, h1, (hT.cut akey).1, hG.take _, by rw [List.length_take]; omega⟩
  · refine (do21_else E hE hM hT (by omega) ak av h0 h1 h2 h3 h4 akey aval alo ahi sk).mono ?_
    rintro e w' ⟨rfl, h1⟩
    exact ⟨rfl, _, _, h1, hT, hG, by omega⟩

theorem acts_fields21 {w : World} {a : Option Addr} {xs : List Act21} (h : ActsAt21 w a xs) (k : Nat) (hk : k < xs.length) : ∃ b off, a = some ⟨b, off, none⟩ ∧ b < w.heap.size ∧ ActRow21 w b off xs := by
  rcases h with h | h
  · rw [h] at hk; simp at hk
  · exact h

/-- The document's bytes, once they are there; their text. -/
structure JBy (y : World) (ns : List Int) (L : Nat → Bool) (f : Nat → Value) (x : World) : Prop where
  grew : Grew y x
  ord : L 7 = true → L 6 = true
  row : L 6 = true → ∃ a c, f 6 = .slice a ns.length c ∧ BytesAt x a ns ∧ SlForm a c
  txt : L 7 = true → f 7 = .string (strOfNums ns)

set_option maxRecDepth 100000 in
set_option maxHeartbeats 8000000 in
theorem tablePlays_walk (E : Nat → Addr) (a : Option Addr) (cap : Nat) (xs : List Act21) (w : World) (hE : Errs allS E w) (hA : ActsAt21 w a xs) (hx : xs.length ≤ 9223372036854775807)
    (hs : ∀ j, j < xs.length → (actAt21 xs j).key.size ≤ 9223372036854775807 ∧ (actAt21 xs j).val.size ≤ 9223372036854775807 ∧ (actAt21 xs j).lo.size ≤ 9223372036854775807 ∧ (actAt21 xs j).hi.size ≤ 9223372036854775807) :
    Calls Tryz.prog 3 #[.slice a xs.length cap] w fun e w' => e = .returned (.bool true) ∧ Grew w w' := by
  have hS : TabS allS := ⟨rfl, rfl, rfl, rfl, rfl⟩
  have HE := hid hE
  have HA := hid hA
  have HK := hid hs
  clear hE hA hs
  go_enter Tryz.func3, Tryz.ntmps3
  go_wp2_with fail
  refine (alive21 hS E _ HE.out).mono ?_
  rintro e w1 ⟨rfl, hg1⟩
  go_wp2_with fail
  refine (long21_any a cap xs _ (HA.out.grew hg1) hx HK.out).mono ?_
  rintro e w2 ⟨rfl, hg2⟩
  have hG2 := hg1.trans hg2
  clear hg1 hg2
  cases hl : long21B xs with
  | true =>
    go_wp2_with fail
    go_ret
    exact ⟨rfl, hG2⟩
  | false =>
    obtain ⟨hx80, hsh⟩ := long21_short hl
    have HSH := hid hsh
    clear hl hsh hx
    go_wp2_with fail
    refine (newT_any _).mono ?_
    rintro e w3 ⟨rfl, hg3, hT⟩
    obtain ⟨tb, htb⟩ : ∃ tb, tb = w2.heap.size := ⟨_, rfl⟩
    obtain ⟨rb, hrb⟩ : ∃ rb, rb = w3.heap.size := ⟨_, rfl⟩
    rw [← htb] at hT ⊢
    have HX0 : Hid (AllT w (w3.alloc (.cells #[.slice none 0 0] 30)) tb rb 0) := by
      have hA3 : Grew w3 (w3.alloc (.cells #[.slice none 0 0] 30)) := (Grew.refl w3).alloc _
      have hlt := tabAt_lt hT tb rfl
      refine ⟨[], [], ⟨(hG2.trans hg3).trans hA3, fun j o h => h.elim, fun j => j = tb, fun j => j = rb, hT.grew hA3, ⟨.slice none 0 0, by rw [hrb]; simp [go_sem], by rw [hrb]; simp [go_sem], World.ownsRow_nil _ _ _ _, rfl, (fun g h => by cases h), fun j hj => by rw [hj, hrb]; simp⟩, fun j hj => ⟨by rw [hj, htb]; exact hG2.size, fun h => ?_, fun o h => h⟩, fun j hj => ⟨by rw [hj, hrb]; exact (hG2.trans hg3).size, fun o h => h⟩⟩, Pl.Tt.nil, Pl.good_nil, Nat.le_refl _⟩
      rw [hj, hrb] at h
      omega
    have HRB := hid hrb
    clear hT hg3 hG2 htb hrb
    go_wp2_with fail
    rw [← HRB.out]
    go_loopw [6, 19] (fun pz i wr => ∃ k : Nat, k ≤ xs.length ∧ i = .int .i64 k ∧ Hid (AllT w wr tb rb k)) (fun _ i _ => xs.length - (intOf i).toNat)
    case atStart => exact ⟨0, Nat.zero_le _, rfl, HX0⟩
    case round =>
      obtain ⟨k, hk1, rfl, HX⟩ := hrel
      have HG : Hid (Grew w wr) := by obtain ⟨_, _, h, _⟩ := HX.out; exact h.grew
      by_cases hlt : k < xs.length
      · obtain ⟨b, off, rfl, hb, hR⟩ := acts_fields21 HA.out k hlt
        have q0 := (HG.out.cells.1 b (off + k * 6) hb).trans (hR.kind k hlt)
        have q1 := (HG.out.cells.1 b (off + k * 6 + 1) hb).trans (hR.ver k hlt)
        have q2 := (HG.out.cells.1 b (off + k * 6 + 2) hb).trans (hR.key k hlt)
        have q3 := (HG.out.cells.1 b (off + k * 6 + 3) hb).trans (hR.val k hlt)
        have q4 := (HG.out.cells.1 b (off + k * 6 + 4) hb).trans (hR.lo k hlt)
        have q5 := (HG.out.cells.1 b (off + k * 6 + 5) hb).trans (hR.hi k hlt)
        obtain ⟨s1, s2, s3, s4⟩ := HSH.out k hlt
        clear hR
        generalize actAt21 xs k = c at *
        obtain ⟨ak, av, akey, aval, alo, ahi⟩ := c
        dsimp only at *
        have HDO := hid (fun W (g : Grew wr W) => do21_any E HE.out (HX.out.more g) (by omega) ak av akey aval alo ahi s1 s2 s3 s4)
        have hwr := HG.out.size
        go_wp2_with fail
        refine (HDO.out _ ((Grew.refl wr).alloc _)).mono ?_
        rintro e w4 ⟨rfl, h4⟩
        have HX4 := hid h4
        clear h4 q0 q1 q2 q3 q4 q5
        go_wp2_with fail
        obtain ⟨P, D, hM, hTt, hGd, hPl⟩ := HX4.out
        obtain ⟨F, k1, _⟩ := hM.tab
        have HSM := hid (same21_any hS E (HE.out.grew hM.grew) k1 hM.read hTt (by omega))
        clear hM hTt hGd k1 hPl
        refine HSM.out.mono ?_
        rintro e w5 ⟨rfl, hg5⟩
        have HX5 := hid (HX4.out.more hg5)
        clear hg5
        go_wp2_with fail
        go_roundw
        case rel => exact ⟨k + 1, by omega, by go_num, HX5⟩
        case measure => simp [intOf]; omega
      · obtain ⟨P, D, hM, hTt, hGd, hPl⟩ := HX.out
        have hl1 := Pl.tabB_len hGd (by omega)
        obtain ⟨F, k1, _⟩ := hM.tab
        have HBY := hid (bytesT_any k1 hGd (by omega) (by omega))
        have HB2 := hid (fun W (g : Grew wr W) => bytes21_any (hM.more g).read hTt hGd (by omega))
        have HRD := hid (fun W (g : Grew wr W) (a : Option Addr) (c : Nat) (h1 : BytesAt W a (Pl.tabB P)) (h2 : SlForm a c) => readT_any hS E (HE.out.grew (hM.more g).grew) h1 h2 hTt.srt hGd (by omega))
        have HSM := hid (fun W (g : Grew wr W) (F2 : Nat → Prop) (xb : Nat) (h1 : TabAt W F2 xb P) => same21_any hS E (HE.out.grew (hM.more g).grew) h1 (hM.more g).read hTt (by omega))
        clear hM hTt hGd k1 hPl hl1
        generalize Pl.tabB P = ns at *
        clear HX HSH HK HX0
        go_wp2_with fail
        refine HBY.out.mono ?_
        rintro e w4 ⟨a4, c4, rfl, hr4, hg4⟩
        obtain ⟨a4', c4', e4, hA4, hS4, _⟩ := bytesAt_of hr4
        cases e4
        have HA4 := hid hA4
        have HS4 := hid hS4
        have HG4 := hid hg4
        have hcv : ∀ p : Wd (Grew w4), (convert 37 9 (.slice a4 ns.length c4)).run Tryz.prog p.w = .ok (.string (strOfNums ns)) p.w := fun p => run_conv_bytes rfl (hA4.grew p.ok) hS4
        clear hr4 hg4 hA4 hS4
        go_wp2_with fail
        refine wp_region_mixS 8 [6, 7] (Grew w4) Eq (JBy w4 ns) (fun f a => (a.put (some 46) (f 6)).put (some 47) (f 7)) (by kernel_rfl) (by kernel_rfl) (fun _ _ => rfl) ⟨(Grew.refl w4).drew, (fun h => by cases h), (fun h => by cases h), (fun h => by cases h)⟩ (fun _ _ _ h => h.grew) (fun _ => rfl) (fun _ _ _ _ h g => g ▸ h) ?_
        repeat (first
    | (refine mixS_loose (by rfl) (by rfl) ?_)
    | (refine mixS_plain (by rfl) (by rfl) (by rfl) (by first | exact Grew.refl | exact fun _ => rfl) (by rfl) ?_; intro K hK; go_big_quiet_op; go_big_quiet_on)
    | (refine mixS_skip (by rfl) (by rfl) (by rfl) ?_; simp only [Act.put, List.setIfInBounds_toArray, List.set_cons_zero, List.set_cons_succ]))
        refine mixS_done (by rfl) ⟨⟨loose_of rfl (fun _ a => a) (fun _ _ => rfl) (fun _ => rfl) ?_, loose_of rfl (fun f a => a.put (some 46) (f 6)) (fun _ _ => rfl) (fun _ => rfl) ?_, trivial⟩, ?_⟩
        · intro L f x hJ hL hd
          have hl7 : L 7 = false := bool_no fun h => by rw [hJ.ord h] at hL; cases hL
          have HJ := hid hJ
          have HL7 := hid hl7
          clear hJ hL hd hcv hl7
          go_simp
          refine (HB2.out x (HG4.out.trans HJ.out.grew)).mono ?_
          rintro e x' ⟨a5, c5, rfl, hr5, hg5⟩
          obtain ⟨a5', c5', e5, hA5, hS5, _⟩ := bytesAt_of hr5
          cases e5
          refine ⟨_, rfl, HJ.out.grew.trans hg5, fun _ => plus_on, fun _ => ⟨a5, c5, updV_same _ _ _, hA5, hS5⟩, fun h => ?_⟩
          rw [plus_ne (by decide), HL7.out] at h; cases h
        · intro L f x hJ hL hd
          have l6 := hd 6 rfl (by decide)
          obtain ⟨a5, c5, e5, hA5, hS5⟩ := hJ.row l6
          have hc5 := run_conv_bytes (w := x) rfl hA5 hS5
          have HJ := hid hJ
          have HL6 := hid l6
          have HR5 := hid (And.intro e5 (And.intro hA5 hS5))
          clear hJ hL hd hcv hA5 hS5 l6
          rw [e5]
          clear e5
          go_simp
          refine ⟨HJ.out.grew, fun _ => plus_up HL6.out, fun _ => ⟨a5, c5, ?_, HR5.out.2.1, HR5.out.2.2⟩, fun _ => updV_same _ _ _⟩
          rw [updV_ne (by decide)]; exact HR5.out.1
        intro f x hJ
        have e7 := hJ.txt rfl
        have HGX := hid (HG4.out.trans hJ.grew)
        have HA5 := hid (HA4.out.grew hJ.grew)
        clear hJ hcv
        dsimp only [List.drop]
        simp only [Act.put, List.setIfInBounds_toArray, List.set_cons_succ, List.set_cons_zero]
        rw [e7]
        clear e7
        go_wp2_with fail
        refine (HRD.out x HGX.out a4 c4 HA5.out HS4.out).mono ?_
        rintro e w6 ⟨xb, F6, rfl, hT6, hF6, hg6⟩
        have HT6 := hid hT6
        have HG6 := hid (HGX.out.trans hg6)
        clear hT6 hF6 hg6
        go_wp2_with fail
        refine (HSM.out w6 HG6.out F6 xb HT6.out).mono ?_
        rintro e w7 ⟨rfl, hg7⟩
        have HF := hid (HG.out.trans (HG6.out.trans hg7))
        clear hg7
        go_wp2_with fail
        go_ret
        exact ⟨rfl, HF.out⟩
end Go.Proofs.YtifcnammekbfoaaGreatDoor

/- How an argument that is a list of acts (tidewaterlaw21) lies in memory: out of the row's own word. -/
namespace Go.Proofs.YtifcnammekbfoaaGreatDoor
open Go.RowKit Go.ChangeShapes Go.WideShapes Go.Deep

instance : Inhabited Act21 := ⟨Act21.none⟩
theorem cells_act21 : Tryz.prog.cellsOf 34 = 6 := by kernel_rfl
theorem cells_span21 : Tryz.prog.cellsOf 32 = 2 := by kernel_rfl
theorem cells_int21 : Tryz.prog.cellsOf 3 = 1 := by kernel_rfl
theorem cells_str21 : Tryz.prog.cellsOf 9 = 1 := by kernel_rfl

theorem open_act21 {H : Type} {enc : TypeId × Value → H} {W : World} {base : Nat} {spare : Nat → Bool} {held : Bool} {n : Nat} {cs : List Value} {y : DataW H × List MemPlace} (hl : cs.length = 6)
    (h : DataW.trod enc Tryz.prog W base spare held n 34 cs = some y) :
    ∃ x : Act21, cs = [.int .i64 x.kind, .int .i64 x.ver, .string x.key, .string x.val, .string x.lo, .string x.hi] ∧ x.key.size ≤ 9223372036854775807 ∧ x.val.size ≤ 9223372036854775807 ∧ x.lo.size ≤ 9223372036854775807 ∧ x.hi.size ≤ 9223372036854775807 := by
  match cs, hl with
  | [c0, c1, c2, c3, c4, c5], _ =>
    obtain ⟨xs, n', _, hx, _, hlen, hg⟩ := DataW.trod_struct Tryz.underlying34 h
    have g0 := hg 0 _ rfl
    have g1 := hg 1 _ rfl
    have g2 := hg 2 _ rfl
    have g3 := hg 3 _ rfl
    have g4 := hg 4 _ rfl
    match xs, hlen with
    | [y0, y1, y2, y3, y4], _ =>
      simp [cells_int21, cells_str21, cells_span21] at g0 g1 g2 g3 g4
      obtain ⟨k, e0, _⟩ := DataW.trod_int Tryz.underlying3 g0
      obtain ⟨v, e1, _⟩ := DataW.trod_int Tryz.underlying3 g1
      obtain ⟨s2, e2, _, w2⟩ := DataW.trod_string Tryz.underlying9 g2
      obtain ⟨s3, e3, _, w3⟩ := DataW.trod_string Tryz.underlying9 g3
      obtain ⟨xs', n'', _, hx', _, hlen', hg'⟩ := DataW.trod_struct Tryz.underlying32 g4
      have q0 := hg' 0 _ rfl
      have q1 := hg' 1 _ rfl
      match xs', hlen' with
      | [z0, z1], _ =>
        simp [cells_str21] at q0 q1
        obtain ⟨s4, e4, _, w4⟩ := DataW.trod_string Tryz.underlying9 q0
        obtain ⟨s5, e5, _, w5⟩ := DataW.trod_string Tryz.underlying9 q1
        simp at e0 e1 e2 e3 e4 e5
        subst e0 e1 e2 e3 e4 e5
        unfold maxLen at w2 w3 w4 w5
        exact ⟨⟨k, v, s2, s3, s4, s5⟩, rfl, by dsimp only; omega, by dsimp only; omega, by dsimp only; omega, by dsimp only; omega⟩

set_option maxRecDepth 100000 in
theorem open_acts21 {H : Type} {enc : TypeId × Value → H} {W : World} {held : Bool} {base0 : Nat} {v : Value} {d : DataW H} {p : List MemPlace} (hv : Value.okWide Tryz.prog W .any base0 22 v)
    (h : DataW.Trod enc Tryz.prog W 0 (fun _ => true) held 22 v d p) :
    ∃ a cap xs, v = .slice a xs.length cap ∧ ActsAt21 W a xs ∧ xs.length ≤ 9223372036854775807 ∧ ∀ j, j < xs.length → (actAt21 xs j).key.size ≤ 9223372036854775807 ∧ (actAt21 xs j).val.size ≤ 9223372036854775807 ∧ (actAt21 xs j).lo.size ≤ 9223372036854775807 ∧ (actAt21 xs j).hi.size ≤ 9223372036854775807 := by
  obtain ⟨a0, l0, c0, rfl⟩ := okWide_slice Tryz.underlying22 hv
  obtain ⟨fuel, hf⟩ := h
  rcases open_slice Tryz.underlying22 hf with ⟨hcs, _⟩ | ⟨a, len, cap, m, n, D, Pl, hcs, _, hl, hm, hmm, _, hi⟩
  · simp [Value.cells] at hcs
    obtain ⟨rfl, rfl, rfl⟩ := hcs
    refine ⟨none, 0, [], rfl, .inl rfl, ?_, ?_⟩
    · simp only [List.length_nil]; omega
    · intro j hj; exact absurd hj (Nat.not_lt_zero j)
  · simp [Value.cells] at hcs
    obtain ⟨rfl, rfl, rfl⟩ := hcs
    simp only [if_true] at hmm
    subst hmm
    have each : ∀ i, i < l0 → ∃ x : Act21, (W.cell? (a.add (i * 6)) = some (.int .i64 x.kind) ∧ W.cell? (a.add (i * 6 + 1)) = some (.int .i64 x.ver) ∧ W.cell? (a.add (i * 6 + 2)) = some (.string x.key) ∧ W.cell? (a.add (i * 6 + 3)) = some (.string x.val) ∧ W.cell? (a.add (i * 6 + 4)) = some (.string x.lo) ∧ W.cell? (a.add (i * 6 + 5)) = some (.string x.hi)) ∧ x.key.size ≤ 9223372036854775807 ∧ x.val.size ≤ 9223372036854775807 ∧ x.lo.size ≤ 9223372036854775807 ∧ x.hi.size ≤ 9223372036854775807 := by
      intro i hil
      obtain ⟨cs', hc, ht⟩ := hi i (by omega)
      rw [cells_act21] at hc
      obtain ⟨_, hlen, hat⟩ := World.cells?_some hc
      obtain ⟨x, rfl, hx⟩ := open_act21 hlen ht
      refine ⟨x, ⟨?_, ?_, ?_, ?_, ?_, ?_⟩, hx⟩
      · have := hat 0 (by omega); rw [add_add] at this; exact this
      · have := hat 1 (by omega); rw [add_add] at this; exact this
      · have := hat 2 (by omega); rw [add_add] at this; exact this
      · have := hat 3 (by omega); rw [add_add] at this; exact this
      · have := hat 4 (by omega); rw [add_add] at this; exact this
      · have := hat 5 (by omega); rw [add_add] at this; exact this
    obtain ⟨X, hX⟩ := choose_lt each
    have hlenX : ((List.range l0).map X).length = l0 := by simp
    have hatX : ∀ j, j < l0 → actAt21 ((List.range l0).map X) j = X j := fun j hj => by unfold actAt21; simp [hj]
    refine ⟨some a, m, (List.range l0).map X, by rw [hlenX], ?_, by rw [hlenX]; unfold maxLen at hm; omega, ?_⟩
    · by_cases h0 : l0 = 0
      · left; rw [h0]; rfl
      · right
        obtain ⟨b, off, spot⟩ := a
        have hs : spot = none := by
          have := (hX 0 (by omega)).1.1
          simpa [Addr.add] using World.cell?_spot this
        subst hs
        refine ⟨b, off, rfl, block_lt_of_cell (by have := (hX 0 (by omega)).1.1; simpa [Addr.add] using this), ?_, ?_, ?_, ?_, ?_, ?_⟩ <;> intro j hj <;> rw [hlenX] at hj <;> rw [hatX j hj]
        · have := (hX j hj).1.1; rwa [Addr.add_lit] at this
        · have := (hX j hj).1.2.1; rwa [Addr.add_lit, ← Nat.add_assoc] at this
        · have := (hX j hj).1.2.2.1; rwa [Addr.add_lit, ← Nat.add_assoc] at this
        · have := (hX j hj).1.2.2.2.1; rwa [Addr.add_lit, ← Nat.add_assoc] at this
        · have := (hX j hj).1.2.2.2.2.1; rwa [Addr.add_lit, ← Nat.add_assoc] at this
        · have := (hX j hj).1.2.2.2.2.2; rwa [Addr.add_lit, ← Nat.add_assoc] at this
    · intro j hj
      rw [hlenX] at hj
      rw [hatX j hj]
      exact (hX j hj).2
end Go.Proofs.YtifcnammekbfoaaGreatDoor
