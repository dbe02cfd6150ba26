/- The walk of tidewaterlaw20.alive. -/
import Derived.Test.YtajoihpjnnnkeaaDoorLaw20P
import Derived.Test.YtajoihpjnnnkeaaDoorShd8
set_option linter.unusedVariables false
set_option linter.unusedSectionVars false
set_option linter.unusedSimpArgs false
namespace Go.Proofs.YtajoihpjnnnkeaaDoor
open Go.RowKit
attribute [local go_sem] Oper.semAt_some

namespace Pl
/-- The chapter's example. -/
def eS : En := { En.zero with kind := 3, shard := 1, other := 2, server := 1, key := ⟨#[109]⟩ }
theorem alive_apply : applyB ShSt.init.xs ShSt.init.used eS 4 = true := by kernel_rfl
theorem alive_owner : ownerI (applyP ShSt.init eS 4).xs ⟨#[122]⟩ = 1 := by kernel_rfl
theorem alive_shard : (ownerV (applyP ShSt.init eS 4).xs ⟨#[122]⟩).aggOf = .agg #[.int .i64 2, .int .i64 1, .int .i64 5, .string ⟨#[109]⟩, .string ⟨#[]⟩] := by
  have : ownerV (applyP ShSt.init eS 4).xs ⟨#[122]⟩ = ⟨2, 1, 5, ⟨#[109]⟩, ⟨#[]⟩⟩ := by
    kernel_rfl
  rw [this]; rfl
end Pl

set_option maxRecDepth 100000 in
set_option maxHeartbeats 2000000 in
theorem alive20 {S : Nat → Bool} (hS : ShdS S) (E : Nat → Addr) (w : World) (hE : Errs S E w) : Calls Tryd.prog 8 #[] w fun e w' => e = .returned (.bool true) ∧ Grew w w' := by
  have HA := hid (fun W F sb (g : Grew w W) (h : StAt W F sb ShSt.init) => apply_any hS E (hE.grew g) h (by decide) (by decide) Pl.eS ⟨.inl rfl, by decide, fun o ho => (by cases ho), by decide⟩ (by decide) 4)
  have HO := hid (fun W F sb (g : Grew w W) (h : StAt W F sb (Pl.applyP ShSt.init Pl.eS 4)) => owner_any hS E (hE.grew g) h (by have := (Pl.inv_apply Pl.inv_init Pl.eS 4).len; omega) ⟨#[122]⟩ (by decide))
  simp only [Pl.alive_apply, Pl.alive_owner, Pl.alive_shard] at HA HO
  have e0 : Pl.eS.agg = .agg #[.int .i64 3, .int .i64 1, .int .i64 2, .int .i64 1, .int .i64 0, .int .i64 0, .slice none 0 0, .string ⟨#[109]⟩, .int .i64 0, .int .i64 0, .int .i64 0, .slice none 0 0] := rfl
  rw [e0] at HA
  clear e0
  go_enter Tryd.func8, Tryd.ntmps8
  go_wp2_with fail
  refine (newM_any w).mono ?_
  rintro r w1 ⟨sb, rfl, hg1, hsb, F, hM, hF⟩
  have HM := hid hM
  have HF := hid hF
  clear hM hF
  go_wp2_with fail
  refine (HA.out w1 F sb hg1 HM.out).mono ?_
  rintro r w2 ⟨rfl, ho2, F2, h2, hF2⟩
  have HG2 := hid (((hg1.only F).then ho2).grew fun j hj => HF.out j hj)
  have H2 := hid h2
  clear ho2 h2 hF2
  go_wp2_with fail
  refine (HO.out w2 F2 sb HG2.out H2.out).mono ?_
  rintro r w3 ⟨rfl, hg3⟩
  have hG3 := HG2.out.trans hg3
  clear hg3
  go_wp2_with fail
  go_ret
  exact ⟨rfl, hG3.alloc _⟩
end Go.Proofs.YtajoihpjnnnkeaaDoor
