/- The walk of tidewaterlaw38.PastPlays (printed by gen_pp38.py). -/
import Derived.Test.YtapchoppcaacdaaGreatDoorDo38
import Derived.Test.YtapchoppcaacdaaGreatDoorRgnT
import Derived.Test.YtapchoppcaacdaaGreatDoorPast6h
set_option linter.unusedVariables false
set_option linter.unusedSectionVars false
set_option linter.unusedSimpArgs false
namespace Go.Proofs.YtapchoppcaacdaaGreatDoor
open Go.RowKit Go.Maps Go.Sort
attribute [local go_sem] Oper.semAt_some uponV

theorem floor_any {w : World} {F : Nat → Prop} {pb n : Nat} {K : ByteArray → List Ch} {fl : Int} (h : PastAt w F pb n K fl) :
    Calls Tryz.prog 10 #[.pointer (some ⟨pb, 0, none⟩)] w fun e w' => e = .returned (.int .i64 fl) ∧ Grew w w' := by
  obtain ⟨⟨mb, f, h⟩, _⟩ := h
  have c1 := h.flr
  have hb := cell_lt c1
  clear h
  go_enter Tryz.func10, Tryz.ntmps10
  go_wp2_with fail
  go_ret
  exact ⟨rfl, Grew.refl w⟩

def od38 : List (Nat × Nat) := [(4, 3), (5, 4), (13, 5), (14, 13), (20, 14), (21, 20)]
theorem od_none {i : Nat} {L : Nat → Bool} (h : ∀ p ∈ od38, p.1 ≠ i) : ∀ p ∈ od38, p.1 = i → L p.2 = true := fun p hp e => absurd e (h p hp)
theorem od_one {i j : Nat} {L : Nat → Bool} (h : ∀ p ∈ od38, p.1 = i → p.2 = j) (hj : L j = true) : ∀ p ∈ od38, p.1 = i → L p.2 = true := fun p hp e => by rw [h p hp e]; exact hj
/-- The two histories: slices of these pairs. -/
def x38 (Z : List Pr) (i : Nat) : Option (World → Value → Prop) := if i = 25 ∨ i = 29 then some (fun x v => ∃ a c, v = .slice a Z.length c ∧ PairsAt x a Z) else none
def vs38 (pb wb bb m2 : Nat) (ak av fl2 : Int) (akey aval alo ahi : ByteArray) (i : Nat) : Option Value := (([some (.pointer (some ⟨pb, 0, none⟩)), some (.pointer (some ⟨wb, 0, none⟩)), some (.agg #[.int .i64 ak, .int .i64 av, .string akey, .string aval, .string alo, .string ahi]), some (.bool true), some (.bool false), some (.bool false), some (.pointer (some ⟨pb, 0, none⟩)), some (.int .i64 fl2), some (.pointer (some ⟨wb, 0, none⟩)), some (.pointer (some ⟨wb, 0, none⟩)), some (.pointer (some ⟨wb, 1, none⟩)), some (.int .i64 fl2), some (.bool false), some (.bool false), some (.bool false), some (.pointer (some ⟨pb, 0, none⟩)), some (.int .i64 (m2 : Nat)), some (.pointer (some ⟨wb, 0, none⟩)), some (.int .i64 (m2 : Nat)), some (.bool false), some (.bool false), some (.bool false), some (.pointer (some ⟨pb, 0, none⟩)), some (.pointer (some ⟨bb, 2, none⟩)), some (.string akey), none, some (.pointer (some ⟨wb, 0, none⟩)), some (.pointer (some ⟨bb, 2, none⟩)), some (.string akey), none, some (.bool true), some (.bool false), some (.bool false)] : List (Option Value))[i]?).getD none
theorem acts_fields {w : World} {a : Option Addr} {xs : List Act38} (h : ActsAt38 w a xs) (k : Nat) (hk : k < xs.length) : ∃ b off, a = some ⟨b, off, none⟩ ∧ b < w.heap.size ∧ ActRow38 w b off xs := by
  rcases h with h | h
  · rw [h] at hk; simp at hk
  · exact h
theorem box_cell {x : World} {bb : Nat} {cs : Array Value} {t : TypeId} (h : x.heap[bb]? = some (.cells cs t (0, 0))) (i : Nat) : x.cell? ⟨bb, i, none⟩ = cs[i]? := by
  simp [World.cell?, h]

theorem pairs_hist {x : World} {B : Nat} {v : Value} {xs : List Ch} {Z : List Pr} (h : x.ownsRow B 82 3 v xs.length (pFlat xs)) (hZ : xs.map toPr = Z) : ∃ a c, v = .slice a Z.length c ∧ PairsAt x a Z := by
  subst hZ; exact pairs_of_p h

/-- The two pasts, and the law's own twin. -/
def AllX (w0 W : World) (pb wb k : Nat) : Prop := ∃ K A fl, TwoX w0 W pb wb k K A fl (fun _ _ => False) ∧ Pl.Tw A fl K ∧ A.length ≤ k

set_option maxRecDepth 100000 in
set_option maxHeartbeats 16000000 in
theorem pastPlays_walk (E : Nat → Addr) (a : Option Addr) (cap : Nat) (xs : List Act38) (w : World) (hE : Errs allS E w) (hA : ActsAt38 w a xs) (hx : xs.length ≤ 9223372036854775807)
    (hs : ∀ j, j < xs.length → (actAt38 xs j).key.size ≤ 9223372036854775807 ∧ (actAt38 xs j).val.size ≤ 9223372036854775807 ∧ (actAt38 xs j).lo.size ≤ 9223372036854775807 ∧ (actAt38 xs j).hi.size ≤ 9223372036854775807) :
    Calls Tryz.prog 3 #[.slice a xs.length cap] w fun e w' => e = .returned (.bool true) ∧ Grew w w' := by
  have HE := hid hE
  have HA := hid hA
  have HK := hid hs
  clear hE hA hs
  go_enter Tryz.func3, Tryz.ntmps3
  go_wp2_with fail
  refine (alive38 E _ HE.out).mono ?_
  rintro e w1 ⟨rfl, hg1⟩
  go_wp2_with fail
  refine (long38_any a cap xs _ (HA.out.grew hg1) hx HK.out).mono ?_
  rintro e w2 ⟨rfl, hg2⟩
  have hG2 := hg1.trans hg2
  clear hg1 hg2
  cases hl : long38B xs with
  | true =>
    go_wp2_with fail
    go_ret
    exact ⟨rfl, hG2⟩
  | false =>
    obtain ⟨hx60, hsh⟩ := long38_short hl
    have HSH := hid hsh
    clear hl hsh hx
    go_wp2_with fail
    refine (newP_any _).mono ?_
    rintro e w3 ⟨pb, rfl, hpb, hg3, F, hP, hF⟩
    have hG3 := hG2.trans hg3
    obtain ⟨wb, hwb⟩ : ∃ wb, wb = w3.heap.size := ⟨_, rfl⟩
    have HX0 : Hid (AllX w (w3.alloc (.cells #[.slice none 0 0, .int .i64 0] 30)) pb wb 0) := by
      refine ⟨_, [], 0, ⟨hG3.alloc _, fun j o h => h.elim, F, fun j => j = wb, hP.grew ((Grew.refl w3).alloc _), ⟨.slice none 0 0, ?_⟩, fun j hj => ⟨Nat.le_trans hG2.size (hF j hj), fun o h => h⟩, fun j hj => ⟨by rw [hj, hwb]; exact hG3.size, fun o h => h⟩, fun j hf hj => by have := hP.2 j hf; omega⟩, Pl.tw_nil, Nat.le_refl _⟩
      refine ⟨by rw [hwb]; simp [go_sem], by rw [hwb]; simp [go_sem], by rw [hwb]; simp [go_sem], by rw [hwb]; simp [go_sem], World.ownsRow_nil _ _ _ _, rfl, (fun g h => by cases h), fun j hj => by rw [hj, hwb]; simp⟩
    have HG3 := hid hG3
    clear hP hF hg3 hpb hG2 hG3
    go_wp2_with fail
    rw [← hwb]
    clear hwb
    go_loopw [16] (fun i wr => ∃ k : Nat, k ≤ xs.length ∧ i = .int .i64 k ∧ Hid (AllX w wr pb wb k)) (fun i _ => xs.length - (intOf i).toNat)
    case atStart => exact ⟨0, Nat.zero_le _, rfl, HX0⟩
    case round =>
      obtain ⟨k, hk1, rfl, HX⟩ := hrel
      by_cases hlt : k < xs.length
      · obtain ⟨K, A, fl, hX, hTw, hAl⟩ := HX.out
        have hG : Grew w wr := hX.1
        obtain ⟨b, off, rfl, hb, hR⟩ := acts_fields HA.out k hlt
        have q0 := (hG.cells.1 b (off + k * 6) hb).trans (hR.kind k hlt)
        have q1 := (hG.cells.1 b (off + k * 6 + 1) hb).trans (hR.ver k hlt)
        have q2 := (hG.cells.1 b (off + k * 6 + 2) hb).trans (hR.key k hlt)
        have q3 := (hG.cells.1 b (off + k * 6 + 3) hb).trans (hR.val k hlt)
        have q4 := (hG.cells.1 b (off + k * 6 + 4) hb).trans (hR.lo k hlt)
        have q5 := (hG.cells.1 b (off + k * 6 + 5) hb).trans (hR.hi k hlt)
        obtain ⟨s1, s2, s3, s4⟩ := HSH.out k hlt
        have HSMALL : Hid (Small38 (actAt38 xs k)) := ⟨s1, s2, s3, s4⟩
        clear hR HX HX0
        generalize actAt38 xs k = c at *
        have HTS := hid (hTw.step HSMALL.out)
        have HAL := hid (Pl.stepA_len A fl c)
        -- what the round leaves
        obtain ⟨K2, hK2⟩ : ∃ K2, K2 = Pl.stepK K fl c := ⟨_, rfl⟩
        obtain ⟨A2, hA2⟩ : ∃ A2, A2 = Pl.stepA A fl c := ⟨_, rfl⟩
        obtain ⟨fl2, hf2⟩ : ∃ fl2, fl2 = Pl.stepF fl c := ⟨_, rfl⟩
        rw [← hK2, ← hA2, ← hf2] at HTS
        rw [← hA2] at HAL
        have HDO := hid (fun x (B : Nat → Obj → Prop) (h : TwoX w x pb wb k K A fl B) => by
          have := do38_any E (HE.out) h hTw (by omega) (by omega) c HSMALL.out
          rw [← hK2, ← hA2, ← hf2] at this
          exact this)
        obtain ⟨m2, hm2⟩ : ∃ m2, m2 = (A2.filter (Pl.keptB A2 fl2)).length := ⟨_, rfl⟩
        obtain ⟨Z, hZe⟩ : ∃ Z, Z = (K2 c.key).map toPr := ⟨_, rfl⟩
        have hkl : (K2 c.key).length ≤ 1000 := by
          rw [HTS.out.hist]
          have := List.length_filter_le (fun d => Pl.sameK c.key d && Pl.keptB A2 fl2 d) A2
          have := HAL.out
          unfold Pl.histL; omega
        have hZ : Z.length ≤ 1000000 := by rw [hZe, List.length_map]; omega
        have hA2l : A2.length ≤ 100000 := by have := HAL.out; omega
        have HFL := hid (fun x (B : Nat → Obj → Prop) (h : TwoX w x pb wb (k + 1) K2 A2 fl2 B) => by
          obtain ⟨_, _, F, G, hP, _⟩ := h
          exact floor_any hP)
        have HLN := hid (fun x (B : Nat → Obj → Prop) (h : TwoX w x pb wb (k + 1) K2 A2 fl2 B) => show Calls Tryz.prog 11 #[.pointer (some ⟨pb, 0, none⟩)] x fun e w' => e = .returned (.int .i64 (m2 : Nat)) ∧ Grew x w' from by
          obtain ⟨_, _, F, G, hP, _⟩ := h
          refine (lenP_any hP (by omega)).mono ?_
          rintro e w' ⟨⟨m, rfl, hl⟩, hg⟩
          exact ⟨by rw [HTS.out.len hl, hm2], hg⟩)
        have HLR := hid (fun x (B : Nat → Obj → Prop) (h : TwoX w x pb wb (k + 1) K2 A2 fl2 B) => show Calls Tryz.prog 12 #[.pointer (some ⟨wb, 0, none⟩)] x fun e w' => e = .returned (.int .i64 (m2 : Nat)) ∧ Grew x w' from by
          obtain ⟨_, _, F, G, _, hR, _⟩ := h
          rw [hm2]
          exact len38_any hR.read (by omega))
        have HH1 := hid (fun x (B : Nat → Obj → Prop) (h : TwoX w x pb wb (k + 1) K2 A2 fl2 B) => show Calls Tryz.prog 14 #[.pointer (some ⟨pb, 0, none⟩), .string c.key] x fun e w' => (∃ v, e = .returned v ∧ ∃ a c, v = .slice a Z.length c ∧ PairsAt w' a Z) ∧ Grew x w' from by
          obtain ⟨_, _, F, G, hP, _⟩ := h
          refine (hist_any hP (by omega) c.key (by omega)).mono ?_
          rintro e w' ⟨⟨v, rfl, hrow⟩, hg⟩
          exact ⟨⟨v, rfl, pairs_hist hrow hZe.symm⟩, hg⟩)
        have HH2 := hid (fun x (B : Nat → Obj → Prop) (h : TwoX w x pb wb (k + 1) K2 A2 fl2 B) => show Calls Tryz.prog 15 #[.pointer (some ⟨wb, 0, none⟩), .string c.key] x fun e w' => (∃ v, e = .returned v ∧ ∃ a c, v = .slice a Z.length c ∧ PairsAt w' a Z) ∧ Grew x w' from by
          obtain ⟨_, _, F, G, _, hR, _⟩ := h
          refine (hist38_any hR.read (by omega) c.key).mono ?_
          rintro e w' ⟨⟨v, rfl, hrow⟩, hg⟩
          exact ⟨⟨v, rfl, pairs_hist hrow (by rw [← HTS.out.hist]; exact hZe.symm)⟩, hg⟩)
        have hwr : Grew wr (wr.alloc (.cells c.vals 34)) := (Grew.refl wr).alloc _
        have HBX := hid ((hX.box (b2 := wr.heap.size) (Nat.le_refl _) (heap_alloc_new wr (.cells c.vals 34)) hwr).less (B := fun j o => j = wr.heap.size ∧ o = (.cells c.vals 34 : Obj)) fun j o h => .inr h)
        clear hX hTw hK2 hA2 hf2 hm2 hZe hwr hG HSMALL hkl
        obtain ⟨ak, av, akey, aval, alo, ahi⟩ := c
        unfold Act38.agg Act38.vals at *
        dsimp only at *
        go_wp2_with fail
        generalize hYY : World.alloc wr _ = Y at HBX ⊢
        clear hYY
        obtain ⟨bb, hbb⟩ : ∃ bb, bb = wr.heap.size := ⟨_, rfl⟩
        rw [← hbb] at HBX ⊢
        clear hbb q0 q1 q2 q3 q4 q5
        obtain ⟨BX, hBX⟩ : ∃ BX : Nat → Obj → Prop, BX = fun j o => j = bb ∧ o = (.cells #[.int .i64 ak, .int .i64 av, .string akey, .string aval, .string alo, .string ahi] 34 : Obj) := ⟨_, rfl⟩
        rw [← hBX] at HBX
        have HBBX : Hid (BX bb (.cells #[.int .i64 ak, .int .i64 av, .string akey, .string aval, .string alo, .string ahi] 34)) := by unfold Hid; rw [hBX]; exact ⟨rfl, rfl⟩
        clear hBX
        obtain ⟨R0, hR0⟩ : ∃ R0 : World → Prop, R0 = fun x => TwoX w x pb wb k K A fl BX := ⟨_, rfl⟩
        obtain ⟨R1, hR1⟩ : ∃ R1 : World → Prop, R1 = fun x => TwoX w x pb wb (k + 1) K2 A2 fl2 BX := ⟨_, rfl⟩
        have HST : Hid (StT R0 R1 (x38 Z)) := by
          refine ⟨fun x x' g h => ?_, fun x x' g h => ?_, fun i p hp x x' v g h => ?_⟩
          · rw [hR0] at h ⊢; exact TwoX.grew h g
          · rw [hR1] at h ⊢; exact TwoX.grew h g
          · unfold x38 at hp
            split at hp
            · cases hp
              obtain ⟨a, c, e, hP⟩ := h
              exact ⟨a, c, e, hP.grew g⟩
            · cases hp
        have HR0 : Hid (R0 Y) := by unfold Hid; rw [hR0]; exact HBX.out
        replace HDO := hid (fun x (h : R0 x) => show Calls Tryz.prog 9 #[.pointer (some ⟨pb, 0, none⟩), .pointer (some ⟨wb, 0, none⟩), .agg #[.int .i64 ak, .int .i64 av, .string akey, .string aval, .string alo, .string ahi]] x fun e x' => e = .returned (.bool true) ∧ R1 x' from by
          rw [hR0] at h
          rw [hR1]
          exact HDO.out x BX h)
        replace HFL := hid (fun x (h : R1 x) => HFL.out x BX (by rw [hR1] at h; exact h))
        replace HLN := hid (fun x (h : R1 x) => HLN.out x BX (by rw [hR1] at h; exact h))
        replace HLR := hid (fun x (h : R1 x) => HLR.out x BX (by rw [hR1] at h; exact h))
        replace HH1 := hid (fun x (h : R1 x) => HH1.out x BX (by rw [hR1] at h; exact h))
        replace HH2 := hid (fun x (h : R1 x) => HH2.out x BX (by rw [hR1] at h; exact h))
        have HC1 := hid (fun x (h : R1 x) => show x.cell? ⟨wb, 1, none⟩ = some (.int .i64 fl2) from by rw [hR1] at h; obtain ⟨_, _, _, _, _, ⟨_, h⟩, _⟩ := h; exact h.c1)
        have HBOX := hid (fun (L : Nat → Bool) (f : Nat → Value) (x : World) (h : JT (vs38 pb wb bb m2 ak av fl2 akey aval alo ahi) od38 3 R0 R1 (x38 Z) L f x) => show x.heap[bb]? = some (.cells #[.int .i64 ak, .int .i64 av, .string akey, .string aval, .string alo, .string ahi] 34 (0, 0)) from by
          cases h3 : L 3 with
          | false =>
            have := h.a h3
            rw [hR0] at this
            exact this.2.1 bb _ HBBX.out
          | true =>
            have := h.d h3
            rw [hR1] at this
            exact this.2.1 bb _ HBBX.out)
        have HEND := hid (fun x (h : R1 x) => show AllX w x pb wb (k + 1) from by
          rw [hR1] at h
          exact ⟨K2, A2, fl2, h.less fun j o h => h.elim, HTS.out, by have := HAL.out; omega⟩)
        clear hR0 hR1 HBX HTS HAL
        refine wp_region_mix 33 [0, 1, 2, 3, 4, 5, 6, 7, 8, 9, 10, 11, 12, 13, 14, 15, 16, 17, 18, 19, 20, 21, 22, 23, 24, 25, 26, 27, 28, 29, 30, 31, 32] (fun _ => True) Eq (JT (vs38 pb wb bb m2 ak av fl2 akey aval alo ahi) od38 3 R0 R1 (x38 Z)) (fun f a => ((((((((((((((((((((((((((((((((a.put (some 20) (f 0)).put (some 21) (f 1)).put (some 22) (f 2)).put (some 23) (f 3)).put (some 24) (f 4)).put (some 25) (f 5)).put (some 26) (f 6)).put (some 27) (f 7)).put (some 28) (f 8)).put (some 29) (f 9)).put (some 30) (f 10)).put (some 31) (f 11)).put (some 32) (f 12)).put (some 33) (f 13)).put (some 34) (f 14)).put (some 35) (f 15)).put (some 36) (f 16)).put (some 37) (f 17)).put (some 38) (f 18)).put (some 39) (f 19)).put (some 40) (f 20)).put (some 41) (f 21)).put (some 42) (f 22)).put (some 43) (f 23)).put (some 44) (f 24)).put (some 45) (f 25)).put (some 46) (f 26)).put (some 47) (f 27)).put (some 48) (f 28)).put (some 49) (f 29)).put (some 50) (f 30)).put (some 51) (f 31)).put (some 52) (f 32)) (by kernel_rfl) (by kernel_rfl) (fun _ _ => rfl) (JT.start (HST.out.r0 _ _ (Grew.refl Y).drew HR0.out)) (fun _ _ _ _ => trivial) (fun _ => rfl) (fun _ _ _ _ h g => g ▸ h) ?_
        iterate 33 (refine wpMix_loose (by rfl) (by rfl) ?_)
        refine wpMix_nil ⟨⟨loose_of2 rfl (fun _ a => a) (fun _ _ => rfl) ?_, loose_of2 rfl (fun _ a => a) (fun _ _ => rfl) ?_, loose_of2 rfl (fun _ a => a) (fun _ _ => rfl) ?_, loose_of2 rfl (fun f a => ((a.put (some 20) (f 0)).put (some 21) (f 1)).put (some 22) (f 2)) (fun _ _ => rfl) ?_, loose_of2 rfl (fun f a => a.put (some 23) (f 3)) (fun _ _ => rfl) ?_, loose_of2 rfl (fun f a => (a.put (some 23) (f 3)).put (some 24) (f 4)) (fun _ _ => rfl) ?_, loose_of2 rfl (fun f a => a.put (some 25) (f 5)) (fun _ _ => rfl) ?_, loose_of2 rfl (fun f a => (a.put (some 25) (f 5)).put (some 26) (f 6)) (fun _ _ => rfl) ?_, loose_of2 rfl (fun f a => a.put (some 25) (f 5)) (fun _ _ => rfl) ?_, loose_of2 rfl (fun f a => (a.put (some 25) (f 5)).put (some 28) (f 8)) (fun _ _ => rfl) ?_, loose_of2 rfl (fun f a => (a.put (some 25) (f 5)).put (some 29) (f 9)) (fun _ _ => rfl) ?_, loose_of2 rfl (fun f a => (a.put (some 25) (f 5)).put (some 30) (f 10)) (fun _ _ => rfl) ?_, loose_of2 rfl (fun f a => ((a.put (some 25) (f 5)).put (some 27) (f 7)).put (some 31) (f 11)) (fun _ _ => rfl) ?_, loose_of2 rfl (fun f a => (a.put (some 25) (f 5)).put (some 32) (f 12)) (fun _ _ => rfl) ?_, loose_of2 rfl (fun f a => (a.put (some 27) (f 7)).put (some 33) (f 13)) (fun _ _ => rfl) ?_, loose_of2 rfl (fun f a => a.put (some 34) (f 14)) (fun _ _ => rfl) ?_, loose_of2 rfl (fun f a => (a.put (some 34) (f 14)).put (some 35) (f 15)) (fun _ _ => rfl) ?_, loose_of2 rfl (fun f a => a.put (some 34) (f 14)) (fun _ _ => rfl) ?_, loose_of2 rfl (fun f a => ((a.put (some 34) (f 14)).put (some 36) (f 16)).put (some 37) (f 17)) (fun _ _ => rfl) ?_, loose_of2 rfl (fun f a => ((a.put (some 34) (f 14)).put (some 36) (f 16)).put (some 38) (f 18)) (fun _ _ => rfl) ?_, loose_of2 rfl (fun f a => (a.put (some 34) (f 14)).put (some 39) (f 19)) (fun _ _ => rfl) ?_, loose_of2 rfl (fun f a => (a.put (some 38) (f 18)).put (some 40) (f 20)) (fun _ _ => rfl) ?_, loose_of2 rfl (fun f a => a.put (some 41) (f 21)) (fun _ _ => rfl) ?_, loose_of2 rfl (fun f a => a.put (some 41) (f 21)) (fun _ _ => rfl) ?_, loose_of2 rfl (fun f a => (a.put (some 41) (f 21)).put (some 43) (f 23)) (fun _ _ => rfl) ?_, loose_of2 rfl (fun f a => ((a.put (some 41) (f 21)).put (some 42) (f 22)).put (some 44) (f 24)) (fun _ _ => rfl) ?_, loose_of2 rfl (fun f a => a.put (some 41) (f 21)) (fun _ _ => rfl) ?_, loose_of2 rfl (fun f a => a.put (some 41) (f 21)) (fun _ _ => rfl) ?_, loose_of2 rfl (fun f a => (a.put (some 41) (f 21)).put (some 47) (f 27)) (fun _ _ => rfl) ?_, loose_of2 rfl (fun f a => (((a.put (some 41) (f 21)).put (some 45) (f 25)).put (some 46) (f 26)).put (some 48) (f 28)) (fun _ _ => rfl) ?_, loose_of2 rfl (fun f a => ((a.put (some 41) (f 21)).put (some 45) (f 25)).put (some 49) (f 29)) (fun _ _ => rfl) ?_, loose_of2 rfl (fun f a => (a.put (some 41) (f 21)).put (some 50) (f 30)) (fun _ _ => rfl) ?_, loose_of2 rfl (fun f a => (a.put (some 41) (f 21)).put (some 51) (f 31)) (fun _ _ => rfl) ?_, trivial⟩, ?_⟩
        · intro L f x hJ hL hd
          have HJ := hid hJ
          have HL := hid hL
          clear hJ hL hd
          refine ⟨rfl, ?_⟩
          go_simp
          exact HJ.out.put 0 _ rfl (by decide) rfl (od_none (by decide))
        · intro L f x hJ hL hd
          have HJ := hid hJ
          have HL := hid hL
          clear hJ hL hd
          refine ⟨rfl, ?_⟩
          go_simp
          exact HJ.out.put 1 _ rfl (by decide) rfl (od_none (by decide))
        · intro L f x hJ hL hd
          have hbx := HBOX.out L f x hJ
          have d0 : x.cell? ⟨bb, 0, none⟩ = _ := box_cell hbx 0
          have d1 : x.cell? ⟨bb, 1, none⟩ = _ := box_cell hbx 1
          have d2 : x.cell? ⟨bb, 2, none⟩ = _ := box_cell hbx 2
          have d3 : x.cell? ⟨bb, 3, none⟩ = _ := box_cell hbx 3
          have d4 : x.cell? ⟨bb, 4, none⟩ = _ := box_cell hbx 4
          have d5 : x.cell? ⟨bb, 5, none⟩ = _ := box_cell hbx 5
          clear hbx
          have HJ := hid hJ
          have HL := hid hL
          clear hJ hL hd
          refine ⟨rfl, ?_⟩
          go_simp
          exact HJ.out.put 2 _ rfl (by decide) rfl (od_none (by decide))
        · intro L f x hJ hL hd
          have l0 := hd 0 rfl (by decide)
          have l1 := hd 1 rfl (by decide)
          have l2 := hd 2 rfl (by decide)
          have q0 := hJ.val 0 _ l0 rfl
          have q1 := hJ.val 1 _ l1 rfl
          have q2 := hJ.val 2 _ l2 rfl
          have hR := hJ.a hL
          have HR := hid hR
          have HJ := hid hJ
          have HL := hid hL
          have HL0 := hid l0
          have HL1 := hid l1
          have HL2 := hid l2
          clear hJ hL hd hR l0 l1 l2
          rw [q0, q1, q2]
          refine ⟨rfl, ?_⟩
          go_simp
          refine (HDO.out x HR.out).mono ?_
          rintro r x' ⟨rfl, hT⟩
          exact ⟨_, rfl, HJ.out.switch _ rfl rfl HL.out hT (by decide)⟩
        · intro L f x hJ hL hd
          have l3 := hd 3 rfl (by decide)
          have q3 := hJ.val 3 _ l3 rfl
          have HJ := hid hJ
          have HL := hid hL
          have HL3 := hid l3
          clear hJ hL hd l3
          rw [q3]
          refine ⟨rfl, ?_⟩
          go_simp
          exact HJ.out.put 4 _ rfl (by decide) rfl (od_one (by decide) HL3.out)
        · intro L f x hJ hL hd
          have l3 := hd 3 rfl (by decide)
          have l4 := hd 4 rfl (by decide)
          have q3 := hJ.val 3 _ l3 rfl
          have q4 := hJ.val 4 _ l4 rfl
          have HJ := hid hJ
          have HL := hid hL
          have HL3 := hid l3
          have HL4 := hid l4
          clear hJ hL hd l3 l4
          rw [q3, q4]
          refine ⟨rfl, ?_⟩
          go_simp
          exact HJ.out.put 5 _ rfl (by decide) rfl (od_one (by decide) HL4.out)
        · intro L f x hJ hL hd
          have l5 := hd 5 rfl (by decide)
          have q5 := hJ.val 5 _ l5 rfl
          have HJ := hid hJ
          have HL := hid hL
          have HL5 := hid l5
          clear hJ hL hd l5
          rw [q5]
          refine ⟨rfl, ?_⟩
          go_simp
          exact HJ.out.put 6 _ rfl (by decide) rfl (od_none (by decide))
        · intro L f x hJ hL hd
          have l5 := hd 5 rfl (by decide)
          have l6 := hd 6 rfl (by decide)
          have q5 := hJ.val 5 _ l5 rfl
          have q6 := hJ.val 6 _ l6 rfl
          have hR := hJ.d (hJ.ord (4, 3) (by decide) (hJ.ord (5, 4) (by decide) l5))
          have HR := hid hR
          have HJ := hid hJ
          have HL := hid hL
          have HL5 := hid l5
          have HL6 := hid l6
          clear hJ hL hd hR l5 l6
          rw [q5, q6]
          refine ⟨rfl, ?_⟩
          go_simp
          refine (HFL.out x HR.out).mono ?_
          rintro r x' ⟨rfl, hg⟩
          exact ⟨_, rfl, (HJ.out.more HST.out hg).put 7 _ rfl (by decide) rfl (od_none (by decide))⟩
        · intro L f x hJ hL hd
          have l5 := hd 5 rfl (by decide)
          have q5 := hJ.val 5 _ l5 rfl
          have HJ := hid hJ
          have HL := hid hL
          have HL5 := hid l5
          clear hJ hL hd l5
          rw [q5]
          refine ⟨rfl, ?_⟩
          go_simp
          exact HJ.out.put 8 _ rfl (by decide) rfl (od_none (by decide))
        · intro L f x hJ hL hd
          have l5 := hd 5 rfl (by decide)
          have l8 := hd 8 rfl (by decide)
          have q5 := hJ.val 5 _ l5 rfl
          have q8 := hJ.val 8 _ l8 rfl
          have HJ := hid hJ
          have HL := hid hL
          have HL5 := hid l5
          have HL8 := hid l8
          clear hJ hL hd l5 l8
          rw [q5, q8]
          refine ⟨rfl, ?_⟩
          go_simp
          exact HJ.out.put 9 _ rfl (by decide) rfl (od_none (by decide))
        · intro L f x hJ hL hd
          have l5 := hd 5 rfl (by decide)
          have l9 := hd 9 rfl (by decide)
          have q5 := hJ.val 5 _ l5 rfl
          have q9 := hJ.val 9 _ l9 rfl
          have HJ := hid hJ
          have HL := hid hL
          have HL5 := hid l5
          have HL9 := hid l9
          clear hJ hL hd l5 l9
          rw [q5, q9]
          refine ⟨rfl, ?_⟩
          go_simp
          exact HJ.out.put 10 _ rfl (by decide) rfl (od_none (by decide))
        · intro L f x hJ hL hd
          have l5 := hd 5 rfl (by decide)
          have l10 := hd 10 rfl (by decide)
          have q5 := hJ.val 5 _ l5 rfl
          have q10 := hJ.val 10 _ l10 rfl
          have hR := hJ.d (hJ.ord (4, 3) (by decide) (hJ.ord (5, 4) (by decide) l5))
          have d11 : x.cell? ⟨wb, 1, none⟩ = some (.int .i64 fl2) := HC1.out x hR
          have hwb11 := cell_lt d11
          have HJ := hid hJ
          have HL := hid hL
          have HL5 := hid l5
          have HL10 := hid l10
          clear hJ hL hd hR l5 l10
          rw [q5, q10]
          refine ⟨rfl, ?_⟩
          go_simp
          exact HJ.out.put 11 _ rfl (by decide) rfl (od_none (by decide))
        · intro L f x hJ hL hd
          have l5 := hd 5 rfl (by decide)
          have l7 := hd 7 rfl (by decide)
          have l11 := hd 11 rfl (by decide)
          have q5 := hJ.val 5 _ l5 rfl
          have q7 := hJ.val 7 _ l7 rfl
          have q11 := hJ.val 11 _ l11 rfl
          have HJ := hid hJ
          have HL := hid hL
          have HL5 := hid l5
          have HL7 := hid l7
          have HL11 := hid l11
          clear hJ hL hd l5 l7 l11
          rw [q5, q7, q11]
          refine ⟨rfl, ?_⟩
          go_simp
          exact HJ.out.put 12 _ rfl (by decide) rfl (od_none (by decide))
        · intro L f x hJ hL hd
          have l5 := hd 5 rfl (by decide)
          have l12 := hd 12 rfl (by decide)
          have q5 := hJ.val 5 _ l5 rfl
          have q12 := hJ.val 12 _ l12 rfl
          have HJ := hid hJ
          have HL := hid hL
          have HL5 := hid l5
          have HL12 := hid l12
          clear hJ hL hd l5 l12
          rw [q5, q12]
          refine ⟨rfl, ?_⟩
          go_simp
          exact HJ.out.put 13 _ rfl (by decide) rfl (od_one (by decide) HL5.out)
        · intro L f x hJ hL hd
          have l7 := hd 7 rfl (by decide)
          have l13 := hd 13 rfl (by decide)
          have q7 := hJ.val 7 _ l7 rfl
          have q13 := hJ.val 13 _ l13 rfl
          have HJ := hid hJ
          have HL := hid hL
          have HL7 := hid l7
          have HL13 := hid l13
          clear hJ hL hd l7 l13
          rw [q7, q13]
          refine ⟨rfl, ?_⟩
          go_simp
          exact HJ.out.put 14 _ rfl (by decide) rfl (od_one (by decide) HL13.out)
        · intro L f x hJ hL hd
          have l14 := hd 14 rfl (by decide)
          have q14 := hJ.val 14 _ l14 rfl
          have HJ := hid hJ
          have HL := hid hL
          have HL14 := hid l14
          clear hJ hL hd l14
          rw [q14]
          refine ⟨rfl, ?_⟩
          go_simp
          exact HJ.out.put 15 _ rfl (by decide) rfl (od_none (by decide))
        · intro L f x hJ hL hd
          have l14 := hd 14 rfl (by decide)
          have l15 := hd 15 rfl (by decide)
          have q14 := hJ.val 14 _ l14 rfl
          have q15 := hJ.val 15 _ l15 rfl
          have hR := hJ.d (hJ.ord (4, 3) (by decide) (hJ.ord (5, 4) (by decide) (hJ.ord (13, 5) (by decide) (hJ.ord (14, 13) (by decide) l14))))
          have HR := hid hR
          have HJ := hid hJ
          have HL := hid hL
          have HL14 := hid l14
          have HL15 := hid l15
          clear hJ hL hd hR l14 l15
          rw [q14, q15]
          refine ⟨rfl, ?_⟩
          go_simp
          refine (HLN.out x HR.out).mono ?_
          rintro r x' ⟨rfl, hg⟩
          exact ⟨_, rfl, (HJ.out.more HST.out hg).put 16 _ rfl (by decide) rfl (od_none (by decide))⟩
        · intro L f x hJ hL hd
          have l14 := hd 14 rfl (by decide)
          have q14 := hJ.val 14 _ l14 rfl
          have HJ := hid hJ
          have HL := hid hL
          have HL14 := hid l14
          clear hJ hL hd l14
          rw [q14]
          refine ⟨rfl, ?_⟩
          go_simp
          exact HJ.out.put 17 _ rfl (by decide) rfl (od_none (by decide))
        · intro L f x hJ hL hd
          have l14 := hd 14 rfl (by decide)
          have l16 := hd 16 rfl (by decide)
          have l17 := hd 17 rfl (by decide)
          have q14 := hJ.val 14 _ l14 rfl
          have q16 := hJ.val 16 _ l16 rfl
          have q17 := hJ.val 17 _ l17 rfl
          have hR := hJ.d (hJ.ord (4, 3) (by decide) (hJ.ord (5, 4) (by decide) (hJ.ord (13, 5) (by decide) (hJ.ord (14, 13) (by decide) l14))))
          have HR := hid hR
          have HJ := hid hJ
          have HL := hid hL
          have HL14 := hid l14
          have HL16 := hid l16
          have HL17 := hid l17
          clear hJ hL hd hR l14 l16 l17
          rw [q14, q16, q17]
          refine ⟨rfl, ?_⟩
          go_simp
          refine (HLR.out x HR.out).mono ?_
          rintro r x' ⟨rfl, hg⟩
          exact ⟨_, rfl, (HJ.out.more HST.out hg).put 18 _ rfl (by decide) rfl (od_none (by decide))⟩
        · intro L f x hJ hL hd
          have l14 := hd 14 rfl (by decide)
          have l16 := hd 16 rfl (by decide)
          have l18 := hd 18 rfl (by decide)
          have q14 := hJ.val 14 _ l14 rfl
          have q16 := hJ.val 16 _ l16 rfl
          have q18 := hJ.val 18 _ l18 rfl
          have HJ := hid hJ
          have HL := hid hL
          have HL14 := hid l14
          have HL16 := hid l16
          have HL18 := hid l18
          clear hJ hL hd l14 l16 l18
          rw [q14, q16, q18]
          refine ⟨rfl, ?_⟩
          go_simp
          exact HJ.out.put 19 _ rfl (by decide) rfl (od_none (by decide))
        · intro L f x hJ hL hd
          have l14 := hd 14 rfl (by decide)
          have l19 := hd 19 rfl (by decide)
          have q14 := hJ.val 14 _ l14 rfl
          have q19 := hJ.val 19 _ l19 rfl
          have HJ := hid hJ
          have HL := hid hL
          have HL14 := hid l14
          have HL19 := hid l19
          clear hJ hL hd l14 l19
          rw [q14, q19]
          refine ⟨rfl, ?_⟩
          go_simp
          exact HJ.out.put 20 _ rfl (by decide) rfl (od_one (by decide) HL14.out)
        · intro L f x hJ hL hd
          have l18 := hd 18 rfl (by decide)
          have l20 := hd 20 rfl (by decide)
          have q18 := hJ.val 18 _ l18 rfl
          have q20 := hJ.val 20 _ l20 rfl
          have HJ := hid hJ
          have HL := hid hL
          have HL18 := hid l18
          have HL20 := hid l20
          clear hJ hL hd l18 l20
          rw [q18, q20]
          refine ⟨rfl, ?_⟩
          go_simp
          exact HJ.out.put 21 _ rfl (by decide) rfl (od_one (by decide) HL20.out)
        · intro L f x hJ hL hd
          have l21 := hd 21 rfl (by decide)
          have q21 := hJ.val 21 _ l21 rfl
          have HJ := hid hJ
          have HL := hid hL
          have HL21 := hid l21
          clear hJ hL hd l21
          rw [q21]
          refine ⟨rfl, ?_⟩
          go_simp
          exact HJ.out.put 22 _ rfl (by decide) rfl (od_none (by decide))
        · intro L f x hJ hL hd
          have l21 := hd 21 rfl (by decide)
          have q21 := hJ.val 21 _ l21 rfl
          have HJ := hid hJ
          have HL := hid hL
          have HL21 := hid l21
          clear hJ hL hd l21
          rw [q21]
          refine ⟨rfl, ?_⟩
          go_simp
          exact HJ.out.put 23 _ rfl (by decide) rfl (od_none (by decide))
        · intro L f x hJ hL hd
          have l21 := hd 21 rfl (by decide)
          have l23 := hd 23 rfl (by decide)
          have q21 := hJ.val 21 _ l21 rfl
          have q23 := hJ.val 23 _ l23 rfl
          have hbx := HBOX.out L f x hJ
          have d2 : x.cell? ⟨bb, 2, none⟩ = _ := box_cell hbx 2
          clear hbx
          have HJ := hid hJ
          have HL := hid hL
          have HL21 := hid l21
          have HL23 := hid l23
          clear hJ hL hd l21 l23
          rw [q21, q23]
          refine ⟨rfl, ?_⟩
          go_simp
          exact HJ.out.put 24 _ rfl (by decide) rfl (od_none (by decide))
        · intro L f x hJ hL hd
          have l21 := hd 21 rfl (by decide)
          have l22 := hd 22 rfl (by decide)
          have l24 := hd 24 rfl (by decide)
          have q21 := hJ.val 21 _ l21 rfl
          have q22 := hJ.val 22 _ l22 rfl
          have q24 := hJ.val 24 _ l24 rfl
          have hR := hJ.d (hJ.ord (4, 3) (by decide) (hJ.ord (5, 4) (by decide) (hJ.ord (13, 5) (by decide) (hJ.ord (14, 13) (by decide) (hJ.ord (20, 14) (by decide) (hJ.ord (21, 20) (by decide) l21))))))
          have HS3 := hid (hJ.ord (4, 3) (by decide) (hJ.ord (5, 4) (by decide) (hJ.ord (13, 5) (by decide) (hJ.ord (14, 13) (by decide) (hJ.ord (20, 14) (by decide) (hJ.ord (21, 20) (by decide) l21))))))
          have HR := hid hR
          have HJ := hid hJ
          have HL := hid hL
          have HL21 := hid l21
          have HL22 := hid l22
          have HL24 := hid l24
          clear hJ hL hd hR l21 l22 l24
          rw [q21, q22, q24]
          refine ⟨rfl, ?_⟩
          go_simp
          refine (HH1.out x HR.out).mono ?_
          rintro r x' ⟨⟨v, rfl, hp⟩, hg⟩
          exact ⟨_, rfl, (HJ.out.more HST.out hg).putX 25 _ _ rfl rfl (by decide) HS3.out hp (od_none (by decide))⟩
        · intro L f x hJ hL hd
          have l21 := hd 21 rfl (by decide)
          have q21 := hJ.val 21 _ l21 rfl
          have HJ := hid hJ
          have HL := hid hL
          have HL21 := hid l21
          clear hJ hL hd l21
          rw [q21]
          refine ⟨rfl, ?_⟩
          go_simp
          exact HJ.out.put 26 _ rfl (by decide) rfl (od_none (by decide))
        · intro L f x hJ hL hd
          have l21 := hd 21 rfl (by decide)
          have q21 := hJ.val 21 _ l21 rfl
          have HJ := hid hJ
          have HL := hid hL
          have HL21 := hid l21
          clear hJ hL hd l21
          rw [q21]
          refine ⟨rfl, ?_⟩
          go_simp
          exact HJ.out.put 27 _ rfl (by decide) rfl (od_none (by decide))
        · intro L f x hJ hL hd
          have l21 := hd 21 rfl (by decide)
          have l27 := hd 27 rfl (by decide)
          have q21 := hJ.val 21 _ l21 rfl
          have q27 := hJ.val 27 _ l27 rfl
          have hbx := HBOX.out L f x hJ
          have d2 : x.cell? ⟨bb, 2, none⟩ = _ := box_cell hbx 2
          clear hbx
          have HJ := hid hJ
          have HL := hid hL
          have HL21 := hid l21
          have HL27 := hid l27
          clear hJ hL hd l21 l27
          rw [q21, q27]
          refine ⟨rfl, ?_⟩
          go_simp
          exact HJ.out.put 28 _ rfl (by decide) rfl (od_none (by decide))
        · intro L f x hJ hL hd
          have l21 := hd 21 rfl (by decide)
          have l25 := hd 25 rfl (by decide)
          have l26 := hd 26 rfl (by decide)
          have l28 := hd 28 rfl (by decide)
          have q21 := hJ.val 21 _ l21 rfl
          have q26 := hJ.val 26 _ l26 rfl
          have q28 := hJ.val 28 _ l28 rfl
          obtain ⟨a25, c25, e25, P25⟩ := hJ.ex 25 _ rfl l25
          have HP25 := hid P25
          have hR := hJ.d (hJ.ord (4, 3) (by decide) (hJ.ord (5, 4) (by decide) (hJ.ord (13, 5) (by decide) (hJ.ord (14, 13) (by decide) (hJ.ord (20, 14) (by decide) (hJ.ord (21, 20) (by decide) l21))))))
          have HS3 := hid (hJ.ord (4, 3) (by decide) (hJ.ord (5, 4) (by decide) (hJ.ord (13, 5) (by decide) (hJ.ord (14, 13) (by decide) (hJ.ord (20, 14) (by decide) (hJ.ord (21, 20) (by decide) l21))))))
          have HR := hid hR
          have HJ := hid hJ
          have HL := hid hL
          have HL21 := hid l21
          have HL25 := hid l25
          have HL26 := hid l26
          have HL28 := hid l28
          clear hJ hL hd hR P25 l21 l25 l26 l28
          rw [q21, q26, q28, e25]
          refine ⟨rfl, ?_⟩
          go_simp
          refine (HH2.out x HR.out).mono ?_
          rintro r x' ⟨⟨v, rfl, hp⟩, hg⟩
          exact ⟨_, rfl, (HJ.out.more HST.out hg).putX 29 _ _ rfl rfl (by decide) HS3.out hp (od_none (by decide))⟩
        · intro L f x hJ hL hd
          have l21 := hd 21 rfl (by decide)
          have l25 := hd 25 rfl (by decide)
          have l29 := hd 29 rfl (by decide)
          have q21 := hJ.val 21 _ l21 rfl
          obtain ⟨a25, c25, e25, P25⟩ := hJ.ex 25 _ rfl l25
          have HP25 := hid P25
          obtain ⟨a29, c29, e29, P29⟩ := hJ.ex 29 _ rfl l29
          have HP29 := hid P29
          have HJ := hid hJ
          have HL := hid hL
          have HL21 := hid l21
          have HL25 := hid l25
          have HL29 := hid l29
          clear hJ hL hd P25 P29 l21 l25 l29
          rw [q21, e25, e29]
          refine ⟨rfl, ?_⟩
          go_simp
          refine (samePairs_same _ _ _ _ _ Z HP25.out HP29.out hZ).mono ?_
          rintro r x' ⟨rfl, hg⟩
          exact ⟨_, rfl, (HJ.out.more HST.out hg).put 30 _ rfl (by decide) rfl (od_none (by decide))⟩
        · intro L f x hJ hL hd
          have l21 := hd 21 rfl (by decide)
          have l30 := hd 30 rfl (by decide)
          have q21 := hJ.val 21 _ l21 rfl
          have q30 := hJ.val 30 _ l30 rfl
          have HJ := hid hJ
          have HL := hid hL
          have HL21 := hid l21
          have HL30 := hid l30
          clear hJ hL hd l21 l30
          rw [q21, q30]
          refine ⟨rfl, ?_⟩
          go_simp
          exact HJ.out.put 31 _ rfl (by decide) rfl (od_none (by decide))
        · intro L f x hJ hL hd
          have l21 := hd 21 rfl (by decide)
          have l31 := hd 31 rfl (by decide)
          have q21 := hJ.val 21 _ l21 rfl
          have q31 := hJ.val 31 _ l31 rfl
          have HJ := hid hJ
          have HL := hid hL
          have HL21 := hid l21
          have HL31 := hid l31
          clear hJ hL hd l21 l31
          rw [q21, q31]
          refine ⟨rfl, ?_⟩
          go_simp
          exact HJ.out.put 32 _ rfl (by decide) rfl (od_none (by decide))
        intro f x hJ
        have q32 := hJ.val 32 _ rfl rfl
        have HR1 := hid (hJ.d rfl)
        clear hJ
        rw [q32]
        clear q32
        have HAX := hid (HEND.out x HR1.out)
        clear HR1
        dsimp only [List.drop]
        simp only [Act.put, List.setIfInBounds_toArray, List.set_cons_succ, List.set_cons_zero]
        go_wp2_with fail
        go_roundw
        case rel => exact ⟨k + 1, by omega, by go_num, HAX⟩
        case measure => simp [intOf]; omega
      · have hG : Grew w wr := by obtain ⟨_, _, _, h, _⟩ := HX.out; exact h.1
        have hge : ¬ (k : Int) < (xs.length : Int) := by omega
        go_wp2_with fail
        go_ret
        exact ⟨rfl, hG⟩
end Go.Proofs.YtapchoppcaacdaaGreatDoor
