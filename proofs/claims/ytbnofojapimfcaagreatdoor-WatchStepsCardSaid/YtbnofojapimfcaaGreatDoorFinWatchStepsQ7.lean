/- Part 7 of the proof. -/
import Derived.Test.YtbnofojapimfcaaGreatDoorFinWatchStepsQ3
import Derived.Test.YtbnofojapimfcaaGreatDoorFinWatchStepsQ4
import Derived.Test.YtbnofojapimfcaaGreatDoorCards
import Derived.Test.YtbnofojapimfcaaGreatDoorTie
import Derived.ProofKit
import Derived.OpenShut
import Derived.ShutString
import Derived.LaidMore
import Derived.Stop.Joined
import Derived.Lib.SmallJoins
set_option linter.unusedVariables false
set_option linter.unusedSectionVars false
set_option linter.unusedSimpArgs false
set_option maxRecDepth 100000
set_option maxHeartbeats 16000000
namespace Go.Proofs.YtbnofojapimfcaaGreatDoor
section
open Go.RowKit
attribute [local go_sem] Oper.semAt_some
theorem Yy (p:Sh->Bool) (cb:Nat) (a:Option Addr) (cap:Nat) (xs:List Sh) (w:World) (hA:iR w a xs) (hx:xs.length<=1000000)
    (hp:∀j,j<xs.length->∀W,ae w W->Calls Tryz.prog 145 #[(ah xs j).cD,.pointer (some ⟨cb,0,none⟩)] W fun e W'=>e=.returned (.bool (p (ah xs j)))/\ae W W'):
    Calls Tryz.prog 114 #[.slice a xs.length cap,.func (.func 145) #[] #[.pointer (some ⟨cb,0,none⟩)]] w fun e w'=>e=.returned (.int .i64 (b7 p xs))/\ae w w':=by
 have HA:=af hA
 have HP:=af hp
 clear hA hp
 go_in
 go_wp2_with fail
 go_loopw [8] (fun i wr=>∃k:Nat,k<=xs.length/\i=.int .i64 k/\Hid ((xs.take k).all (fun c=>!p c)=true)/\ae w wr) (fun i _=>xs.length - (intOf i).toNat)
 case atStart=>exact ⟨0,Nat.zero_le _,rfl,rfl,ae.rf w⟩
 case round=>
  obtain ⟨k,hk1,rfl,HN,hG⟩:=hrel
  by_cases aq:k<xs.length
  · rcases HA.out with h0 | ⟨b,off,rfl,hb,hR⟩
    · rw [h0] at aq;simp at aq
    have q0:=(hG.cells.1 b (off+k*5) hb).trans (hR.id k aq)
    have q1:=(hG.cells.1 b (off+k*5+1) hb).trans (hR.server k aq)
    have q2:=(hG.cells.1 b (off+k*5+2) hb).trans (hR.since k aq)
    have q3:=(hG.cells.1 b (off+k*5+3) hb).trans (hR.lo k aq)
    have q4:=(hG.cells.1 b (off+k*5+4) hb).trans (hR.hi k aq)
    have HC:=af (HP.out k aq)
    have hat:ah xs k=xs[k]:=kD xs k aq
    have mF:=af hat
    clear hR hat
    have HS:=af (tU p xs k aq HN.out)
    have eI:=af (yR p xs k aq HN.out)
    rw [<-mF.out] at HS eI
    generalize ah xs k=c at *
    clear mF
    unfold Sh.cD at HC
    cases hpc:p c with
    | true=>
     rw [hpc] at HC
     have dt:=af (HS.out hpc)
     obtain ⟨c0,c1,c2,c3,c4⟩:=c
     dsimp only [Sh.vals] at *
     clear hpc HS eI
     go_wp2_with fail
     refine (HC.out _ hG).mono ?_
     rintro e w1 ⟨rfl,aA⟩
     go_wp2_with fail
     go_ret
     exact ⟨fV dt.out.symm,hG.trans aA⟩
    | false=>
     rw [hpc] at HC
     have dt:=af (eI.out hpc)
     obtain ⟨c0,c1,c2,c3,c4⟩:=c
     dsimp only [Sh.vals] at *
     clear hpc HS eI
     go_wp2_with fail
     refine (HC.out _ hG).mono ?_
     rintro e w1 ⟨rfl,aA⟩
     go_wp2_with fail
     go_roundw
     case rel=>exact ⟨k+1,by omega,by go_num,dt,hG.trans aA⟩
     case measure=>simp [intOf];omega
  · obtain rfl:k=xs.length:=by omega
    have HE:=af (rL p xs (by have:=HN.out;rwa [zQ2] at this))
    go_wp2_with fail
    go_ret
    exact ⟨fV HE.out.symm,hG⟩
theorem Yz (p:Sh->Bool) (cb:Nat) (a:Option Addr) (cap:Nat) (xs:List Sh) (w:World) (hA:iR w a xs) (hx:xs.length<=1000000)
    (hp:∀j,j<xs.length->∀W,ae w W->Calls Tryz.prog 115 #[(ah xs j).cD,.pointer (some ⟨cb,0,none⟩)] W fun e W'=>e=.returned (.bool (p (ah xs j)))/\ae W W'):
    Calls Tryz.prog 114 #[.slice a xs.length cap,.func (.func 115) #[] #[.pointer (some ⟨cb,0,none⟩)]] w fun e w'=>e=.returned (.int .i64 (b7 p xs))/\ae w w':=by
 have HA:=af hA
 have HP:=af hp
 clear hA hp
 go_in
 go_wp2_with fail
 go_loopw [8] (fun i wr=>∃k:Nat,k<=xs.length/\i=.int .i64 k/\Hid ((xs.take k).all (fun c=>!p c)=true)/\ae w wr) (fun i _=>xs.length - (intOf i).toNat)
 case atStart=>exact ⟨0,Nat.zero_le _,rfl,rfl,ae.rf w⟩
 case round=>
  obtain ⟨k,hk1,rfl,HN,hG⟩:=hrel
  by_cases aq:k<xs.length
  · rcases HA.out with h0 | ⟨b,off,rfl,hb,hR⟩
    · rw [h0] at aq;simp at aq
    have q0:=(hG.cells.1 b (off+k*5) hb).trans (hR.id k aq)
    have q1:=(hG.cells.1 b (off+k*5+1) hb).trans (hR.server k aq)
    have q2:=(hG.cells.1 b (off+k*5+2) hb).trans (hR.since k aq)
    have q3:=(hG.cells.1 b (off+k*5+3) hb).trans (hR.lo k aq)
    have q4:=(hG.cells.1 b (off+k*5+4) hb).trans (hR.hi k aq)
    have HC:=af (HP.out k aq)
    have hat:ah xs k=xs[k]:=kD xs k aq
    have mF:=af hat
    clear hR hat
    have HS:=af (tU p xs k aq HN.out)
    have eI:=af (yR p xs k aq HN.out)
    rw [<-mF.out] at HS eI
    generalize ah xs k=c at *
    clear mF
    unfold Sh.cD at HC
    cases hpc:p c with
    | true=>
     rw [hpc] at HC
     have dt:=af (HS.out hpc)
     obtain ⟨c0,c1,c2,c3,c4⟩:=c
     dsimp only [Sh.vals] at *
     clear hpc HS eI
     go_wp2_with fail
     refine (HC.out _ hG).mono ?_
     rintro e w1 ⟨rfl,aA⟩
     go_wp2_with fail
     go_ret
     exact ⟨fV dt.out.symm,hG.trans aA⟩
    | false=>
     rw [hpc] at HC
     have dt:=af (eI.out hpc)
     obtain ⟨c0,c1,c2,c3,c4⟩:=c
     dsimp only [Sh.vals] at *
     clear hpc HS eI
     go_wp2_with fail
     refine (HC.out _ hG).mono ?_
     rintro e w1 ⟨rfl,aA⟩
     go_wp2_with fail
     go_roundw
     case rel=>exact ⟨k+1,by omega,by go_num,dt,hG.trans aA⟩
     case measure=>simp [intOf];omega
  · obtain rfl:k=xs.length:=by omega
    have HE:=af (rL p xs (by have:=HN.out;rwa [zQ2] at this))
    go_wp2_with fail
    go_ret
    exact ⟨fV HE.out.symm,hG⟩
end
end Go.Proofs.YtbnofojapimfcaaGreatDoor
namespace Go.Proofs.YtbnofojapimfcaaGreatDoor.AU
open Go.ChangeShapes Go.WideShapes Go.ChangeAt Go.RowKit
theorem own:ownKnob Tryz.prog.godebug=none:=by kernel_rfl
theorem XC:laidOutB Tryz.prog=true:=by kernel_rfl
theorem laid_met (os:Os) (args:Array Value):laidMetH Tryz.prog Rows.watchStepsRow.laid ((World.doorLaid Tryz.prog 400 os).forCall (fun _ _=>0) ⟨#[],args,[]⟩).memory:=
 laidMet_of_run' 8 (by kernel_rfl) (by kernel_rfl)
theorem errs {W:World} (h:laidMetH Tryz.prog Rows.watchStepsRow.laid W):∃E,aY kd E W:=by
 have h':laidMet Tryz.prog Rows.watchStepsRow.laid W:=h
 exact y8x Rows.watchStepsRow.laid [1,2,3,4,5,6,7,8,9,10,11,12,13,14,15,16,17,18,19] kd
  (fun k hk=>by simp only [kd,Bool.and_eq_true,decide_eq_true_eq] at hk;simp only [List.mem_cons,List.not_mem_nil,or_false];omega) rfl
  (by simp only [Rows.watchStepsRow,List.forall_mem_cons];exact ⟨⟨_,rfl⟩,⟨_,rfl⟩,⟨_,rfl⟩,⟨_,rfl⟩,⟨_,rfl⟩,⟨_,rfl⟩,⟨_,rfl⟩,⟨_,rfl⟩,⟨_,rfl⟩,⟨_,rfl⟩,⟨_,rfl⟩,⟨_,rfl⟩,⟨_,rfl⟩,⟨_,rfl⟩,⟨_,rfl⟩,⟨_,rfl⟩,⟨_,rfl⟩,⟨_,rfl⟩,⟨_,rfl⟩,by simp⟩)
  (by kernel_rfl) (by simp only [zJ8,List.map_nil,List.forall_mem_cons];refine ⟨?_,?_,?_,?_,?_,?_,?_,?_,?_,?_,?_,?_,?_,?_,?_,?_,?_,?_,?_,by simp⟩<;> kernel_rfl) h'
end Go.Proofs.YtbnofojapimfcaaGreatDoor.AU
