/- Part 6 of the proof. -/
import Derived.Test.YtbnofojapimfcaaGreatDoorFinWatchStepsQ2
set_option linter.unusedVariables false
set_option linter.unusedSectionVars false
set_option linter.unusedSimpArgs false
set_option maxRecDepth 100000
set_option maxHeartbeats 16000000
namespace Go.Proofs.YtbnofojapimfcaaGreatDoor
section
open Go.RowKit
namespace Pl
theorem XK (s:ByteArray) (p:Nat) (hp:p<s.size) (h:(kC s p).isSome=right s) (hb:Utf8.decode s p=(65533,1)):right s=false:=by
 rw [<-h,Nn s p hp,zZ1 hb];rfl
theorem XL (s:ByteArray) (p:Nat) (hp:p<s.size) (h:(kC s p).isSome=right s) (hb:Utf8.decode s p≠(65533,1)):
    (kC s (p+(Utf8.decode s p).2)).isSome=right s:=by
 rw [<-h,Nn s p hp,zZ0 hb];simp
theorem Cr (s:ByteArray) (p:Nat) (h:¬((Utf8.decode s p).1:Int)=65533):Utf8.decode s p≠(65533,1):=by
 intro e;rw [e] at h;exact h rfl
end Pl
theorem pF (s:ByteArray) (w:World) (hs:s.size<=140737488351232):
    Calls Tryz.prog 121 #[.string s] w fun e w'=>e=.returned (.bool (Pl.right s))/\∃p,w'=w.iter s p:=by
 go_in
 go_wp2
 go_loopw [3,4] (fun _ _ w'=>∃p:Nat,w'=w.iter s p/\p<=s.size/\Hid ((Pl.kC s p).isSome=Pl.right s)) (fun _ _ w'=>s.size - w'.iterPos w.heap.size)
 case atStart=>exact ⟨0,rfl,Nat.zero_le _,rfl⟩
 case round=>
  obtain ⟨p,rfl,hle,HR⟩:=hrel
  by_cases hp:p<s.size
  · have hnx:∀ty,(Instr.next (.pointer (some ⟨w.heap.size,0,none⟩)) true ty).run Tryz.prog (w.iter s p)=_:=fun ty=>run_next_any w s p ty hp
    have AY:Utf8.decode s p≠(65533,1)->p+(Utf8.decode s p).2<=s.size/\1<=(Utf8.decode s p).2/\Hid ((Pl.kC s (p+(Utf8.decode s p).2)).isSome=Pl.right s):=fun h=>by
     have e:=Pl.Fu s p
     rw [zZ0 h] at e
     exact ⟨Pl.SA s p hp h,(Pl.GL _ (Pl.AX s p hp) _ e).1,Pl.XL s p hp HR.out h⟩
    have stop:Utf8.decode s p=(65533,1)->Pl.right s=false:=fun h=>Pl.XK s p hp HR.out h
    have HG:=af AY
    have HS:=af stop
    clear AY stop
    go_wp2
    · have h1:((Utf8.decode s p).1:Int)=65533:=by assumption
      have h2:(s.size:Int) - p<3\/(!(s.extract p (p+3)).toList==[239,191,189])=true:=by assumption
      go_ret
      refine ⟨bt ?_,_,rfl⟩
      rw [HS.out]
      refine zZ7 fun hne=>?_
      have hm:=(Pl.Np s p hp (by omega)).1 hne
      rcases h2 with h2 | h2
      · exact Pl.Sz s p (by omega) hm
      · rw [zQ3,hm] at h2
        simp at h2
    · have h1:((Utf8.decode s p).1:Int)=65533:=by assumption
      have h2:(3:Int)<=s.size - p/\(!(s.extract p (p+3)).toList==[239,191,189])=false:=by assumption
      have hne:Utf8.decode s p≠(65533,1):=(Pl.Np s p hp (by omega)).2 (by simpa [zQ3] using h2.2)
      obtain ⟨g1,g2,g3⟩:=HG.out hne
      go_roundw
      case rel=>exact ⟨_,rfl,g1,g3⟩
      case measure=>simp;omega
    · have h1:((Utf8.decode s p).1:Int)=65533:=by assumption
      have h2:(s.size:Int) - p<3:=by assumption
      go_ret
      refine ⟨bt ?_,_,rfl⟩
      rw [HS.out]
      refine zZ7 fun hne=>?_
      exact Pl.Sz s p (by omega) ((Pl.Np s p hp (by omega)).1 hne)
    · have h1:¬((Utf8.decode s p).1:Int)=65533:=by assumption
      obtain ⟨g1,g2,g3⟩:=HG.out (Pl.Cr s p h1)
      go_roundw
      case rel=>exact ⟨_,rfl,g1,g3⟩
      case measure=>simp;omega
  · have hnx:∀ty,(Instr.next (.pointer (some ⟨w.heap.size,0,none⟩)) true ty).run Tryz.prog (w.iter s p)=_:=fun ty=>run_next_end w s p ty hp
    go_wp2
    go_ret
    have e:Pl.right s=true:=by rw [<-HR.out,Pl.GM s p hp];rfl
    exact ⟨bt e.symm,_,rfl⟩
end
end Go.Proofs.YtbnofojapimfcaaGreatDoor
