/- Part 11 of the proof. -/
import Derived.Test.YtbnofojapimfcaaGreatDoorFinWatchStepsQ3
import Derived.Test.YtbnofojapimfcaaGreatDoorFinWatchStepsQ4
import Derived.Test.YtbnofojapimfcaaGreatDoorFinWatchStepsQ6
import Derived.Laws.IdiomStrings
import Derived.Shelf.GgSortFunc.Insertion
import Derived.Deep.QuietTactic
import Derived.BigQuiet
import Derived.Shelf.SlSortCmp.Whole1
import Derived.Shelf.SlSortCmp.NoneTotal
import Derived.Shelf.SlIter.Collect
set_option linter.unusedVariables false
set_option linter.unusedSectionVars false
set_option linter.unusedSimpArgs false
set_option maxRecDepth 100000
set_option maxHeartbeats 16000000
namespace Go.Proofs.YtbnofojapimfcaaGreatDoor
section
open Go.RowKit
namespace Pl
def count (s:ByteArray):Int:=match runes s.data.toList with | none=> -1 | some l=>l.length
def jH (c:Nat):Bool:=decide (c<32) || decide (c=127)
def ji (l:List Nat):Nat:=if l.length=0 then 2 else if 24<l.length then 3 else if l.any jH then 7 else 0
def aF (s:ByteArray):Nat:=match runes s.data.toList with | none=>6 | some l=>ji l
theorem Nr (s:ByteArray) (p:Nat) (r:List Nat) (hp:p<s.size) (h:kC s p=some r):
    ∃t,r=(Utf8.decode s p).1::t/\kC s (p+(Utf8.decode s p).2)=some t/\p+(Utf8.decode s p).2<=s.size/\1<=(Utf8.decode s p).2:=by
 rw [Nn s p hp] at h
 split at h
 · cases h
 · next hne=>
   simp only [zK9] at h
   obtain ⟨t,ht,rfl⟩:=h
   have e:=Fu s p
   rw [zZ0 hne] at e
   exact ⟨t,rfl,ht,SA s p hp hne,(GL _ (AX s p hp) _ e).1⟩
theorem SH (s:ByteArray) (p:Nat) (r:List Nat) (hp:¬p<s.size) (h:kC s p=some r):r=[]:=by
 rw [GM s p hp] at h;exact (Option.some.inj h).symm
theorem Cu:∀(n:Nat) (l:List UInt8) (r:List Nat),l.length<=n->runes l=some r->r.length<=l.length:=by
 intro n
 induction n with
 | zero=>
  intro l r hl h
  have:l=[]:=zX1 (by omega)
  subst this
  rw [tX] at h;cases h;simp
 | succ n ih=>
  intro l r hl h
  by_cases e:l=[]
  · subst e;rw [tX] at h;cases h;simp
  · rw [rM l e] at h
    cases hs:bp l with
    | none=>rw [hs] at h;cases h
    | some d=>
     rw [hs] at h
     simp only [zK8,zK9] at h
     obtain ⟨t,ht,rfl⟩:=h
     have hp:=GL l e d hs
     have:=ih (l.drop d.2) t (by simp;omega) ht
     simp at this ⊢
     omega
end Pl
theorem KV (s:ByteArray) (w:World) (hs:s.size<=140737488351232):
    Calls Tryz.prog 155 #[.string s] w fun e w'=>e=.returned (.int .i64 (Pl.count s))/\ae w w':=by
 cases hr:Pl.runes s.data.toList with
 | none=>
  have hq:Pl.right s=false:=by unfold Pl.right;rw [hr];rfl
  have hc:Pl.count s= -1:=by unfold Pl.count;rw [hr]
  have HC:=af hc
  clear hc hr
  go_in
  go_wp2_with (go_at_call 121;refine (pF _ _ hs).mono ?_;rintro e w' ⟨rfl,p,rfl⟩)
  go_ret
  exact ⟨fV HC.out.symm,(ae.rf w).iter _ _⟩
 | some l=>
  have hq:Pl.right s=true:=by unfold Pl.right;rw [hr];rfl
  have hc:Pl.count s=l.length:=by unfold Pl.count;rw [hr]
  have hl:l.length<=s.size:=by simpa using Pl.Cu _ _ l (zZ3 _) hr
  have HC:=af hc
  have HR:=af hr
  clear hc hr
  go_in
  go_wp2_with (go_at_call 121;refine (pF _ _ hs).mono ?_;rintro e w' ⟨rfl,p,rfl⟩)
  obtain ⟨W1,hW1⟩:∃W1,W1=w.iter s p:=⟨_,rfl⟩
  have hG:ae w W1:=by rw [hW1];exact (ae.rf w).iter _ _
  rw [<-hW1]
  clear hW1
  go_wp2
  go_loopw [3] (fun n w'=>∃(q k:Nat) (r:List Nat),n=.int .i64 k/\w'=W1.iter s q/\q<=s.size/\Hid (Pl.kC s q=some r)/\Hid (k+r.length=l.length)/\k<=l.length) (fun _ w'=>s.size - w'.iterPos W1.heap.size)
  case atStart=>exact ⟨0,0,l,rfl,rfl,Nat.zero_le _,HR.out,by simp [Hid],by omega⟩
  case round=>
   obtain ⟨q,k,r,rfl,rfl,hq2,HA,HL,hkl⟩:=hrel
   by_cases hp:q<s.size
   · have hnx:∀ty,(Instr.next (.pointer (some ⟨W1.heap.size,0,none⟩)) true ty).run Tryz.prog (W1.iter s q)=_:=fun ty=>run_next_any W1 s q ty hp
     have HN:=af (Pl.Nr s q r hp HA.out)
     go_wp2
     obtain ⟨t,rfl,ht,h1,h2⟩:=HN.out
     have hlen:=HL.out
     simp only [List.length_cons] at hlen
     go_roundw
     case rel=>exact ⟨_,k+1,t,by go_num,rfl,h1,ht,by unfold Hid;omega,by omega⟩
     case measure=>simp;omega
   · have hnx:∀ty,(Instr.next (.pointer (some ⟨W1.heap.size,0,none⟩)) true ty).run Tryz.prog (W1.iter s q)=_:=fun ty=>run_next_end W1 s q ty hp
     have HN:=af (Pl.SH s q r hp HA.out)
     go_wp2
     go_ret
     have e1:=HN.out
     have hlen:=HL.out
     rw [e1] at hlen
     simp at hlen
     exact ⟨fV (by rw [HC.out];omega),hG.iter _ _⟩
theorem XU (W:World) (s:ByteArray) (p g:Nat) (v:Value) (h:W.cell? ⟨g,0,none⟩=some v):(W.iter s p).cell? ⟨g,0,none⟩=some v:=
 ((ae.rf W).iter s p).below.cell (p:=⟨g,0,none⟩) (aN h) |>.trans h
theorem mZ (S:Nat->Bool) (E:Nat->Addr) (h2:S 2=true) (h3:S 3=true) (h6:S 6=true) (h7:S 7=true) (s:ByteArray) (w:World) (hs:s.size<=140737488351232) (hE:aY S E w):
    Calls Tryz.prog 113 #[.string s] w fun e w'=>e=.returned (aX E (Pl.aF s))/\ae w w':=by
 have HE:=af hE
 clear hE
 cases hr:Pl.runes s.data.toList with
 | none=>
  have hc:Pl.count s= -1:=by unfold Pl.count;rw [hr]
  have hk:Pl.aF s=6:=by unfold Pl.aF;rw [hr]
  have HC:=af hc
  have HK:=af hk
  clear hc hr hk
  go_in
  go_wp2_with (go_at_call 155;refine (KV _ _ hs).mono ?_;rw [HC.out];rintro e W1 ⟨rfl,hG⟩;have c6:W1.cell? ⟨5,0,none⟩=some (.iface 337 (.pointer (some (E 6)))):=(HE.out.ag hG).cell 6 h6)
  go_ret
  exact ⟨Fp (by rw [HK.out];rfl),hG⟩
 | some l=>
  have hc:Pl.count s=(l.length:Int):=by unfold Pl.count;rw [hr]
  have hk:Pl.aF s=Pl.ji l:=by unfold Pl.aF;rw [hr]
  have hl:l.length<=s.size:=by simpa using Pl.Cu _ _ l (zZ3 _) hr
  have HC:=af hc
  have HK:=af hk
  have HR:=af hr
  clear hc hr hk
  by_cases l0:l.length=0
  · have hk2:Pl.ji l=2:=by unfold Pl.ji;rw [zZ1 l0]
    have fX:Hid (Pl.count s=0):=by unfold Hid;rw [HC.out,l0];rfl
    have rN:=af hk2
    clear hk2 l0
    go_in
    go_wp2_with (go_at_call 155;refine (KV _ _ hs).mono ?_;rw [fX.out];rintro e W1 ⟨rfl,hG⟩;have c6:W1.cell? ⟨2,0,none⟩=some (.iface 337 (.pointer (some (E 2)))):=(HE.out.ag hG).cell 2 h2)
    go_ret
    exact ⟨Fp (by rw [HK.out,rN.out];rfl),hG⟩
  · by_cases GP:24<l.length
    · have hk2:Pl.ji l=3:=by unfold Pl.ji;rw [zZ0 l0,zZ1 GP]
      have rN:=af hk2
      clear hk2
      go_in
      go_wp2_with (go_at_call 155;refine (KV _ _ hs).mono ?_;rw [HC.out];rintro e W1 ⟨rfl,hG⟩;have c6:W1.cell? ⟨3,0,none⟩=some (.iface 337 (.pointer (some (E 3)))):=(HE.out.ag hG).cell 3 h3)
      go_ret
      exact ⟨Fp (by rw [HK.out,rN.out];rfl),hG⟩
    · have hk2:Pl.ji l=if l.any Pl.jH then 7 else 0:=by unfold Pl.ji;rw [zZ0 l0,zZ0 GP]
      have rN:=af hk2
      clear hk2
      have b0:((l.length:Int)==0)=false:=beq_eq_false_iff_ne.2 (by omega)
      have b1:decide ((l.length:Int)<0)=false:=by simp
      have b2:decide ((24:Int)<(l.length:Int))=false:=by simp;omega
      go_in
      go_wp2_with (go_at_call 155;refine (KV _ _ hs).mono ?_;rw [HC.out];rintro e W1 ⟨rfl,hG⟩)
      have Fv:=HE.out.ag hG
      have c7:W1.cell? ⟨6,0,none⟩=some (.iface 337 (.pointer (some (E 7)))):=Fv.cell 7 h7
      clear Fv
      go_loopw [5] (fun _ w'=>∃(q:Nat) (r:List Nat),w'=W1.iter s q/\q<=s.size/\Hid (Pl.kC s q=some r)/\Hid (r.any Pl.jH=l.any Pl.jH)) (fun _ w'=>s.size - w'.iterPos W1.heap.size)
      case atStart=>exact ⟨0,l,rfl,Nat.zero_le _,HR.out,rfl⟩
      case round=>
       obtain ⟨q,r,rfl,hq2,HA,HL⟩:=hrel
       by_cases hp:q<s.size
       · have hnx:∀ty,(Instr.next (.pointer (some ⟨W1.heap.size,0,none⟩)) true ty).run Tryz.prog (W1.iter s q)=_:=fun ty=>run_next_any W1 s q ty hp
         have HN:=af (Pl.Nr s q r hp HA.out)
         have c7':=XU W1 s (q+(Utf8.decode s q).2) 6 _ c7
         go_wp2
         · obtain ⟨t,rfl,ht,h1,h2⟩:=HN.out
           have g1:(32:Int)<=(Utf8.decode s q).1:=by assumption
           have g2:((Utf8.decode s q).1:Int)<32\/(((Utf8.decode s q).1:Int)==127)=true:=by assumption
           have g3:(Utf8.decode s q).1=127:=by rcases g2 with g2 | g2;exact absurd g2 (by omega);have:=eq_of_beq g2;omega
           have hb:l.any Pl.jH=true:=by rw [<-HL.out];simp [Pl.jH,g3]
           go_ret
           exact ⟨Fp (by rw [HK.out,rN.out,zZ1 hb];rfl),hG.iter _ _⟩
         · obtain ⟨t,rfl,ht,h1,h2⟩:=HN.out
           have g2:(32:Int)<=(Utf8.decode s q).1/\(((Utf8.decode s q).1:Int)==127)=false:=by assumption
           have g3:Pl.jH (Utf8.decode s q).1=false:=by simp [Pl.jH] at g2 ⊢;omega
           go_roundw
           case rel=>exact ⟨_,t,rfl,h1,ht,by unfold Hid;rw [<-HL.out];simp [g3]⟩
           case measure=>simp;omega
         · obtain ⟨t,rfl,ht,h1,h2⟩:=HN.out
           have g1:((Utf8.decode s q).1:Int)<32:=by assumption
           have hb:l.any Pl.jH=true:=by
            have g3:Pl.jH (Utf8.decode s q).1=true:=by simp [Pl.jH];omega
            rw [<-HL.out];simp [g3]
           go_ret
           exact ⟨Fp (by rw [HK.out,rN.out,zZ1 hb];rfl),hG.iter _ _⟩
       · have hnx:∀ty,(Instr.next (.pointer (some ⟨W1.heap.size,0,none⟩)) true ty).run Tryz.prog (W1.iter s q)=_:=fun ty=>run_next_end W1 s q ty hp
         have HN:=af (Pl.SH s q r hp HA.out)
         go_wp2
         go_ret
         have e1:=HN.out
         have hlen:=HL.out
         rw [e1] at hlen
         simp at hlen
         exact ⟨Fp (by rw [HK.out,rN.out,zZ0 (by simpa using hlen)];rfl),hG.iter _ _⟩
namespace Pl
def qL (a b:Int):Int:=if a<b then -1 else if b<a then 1 else 0
def eX:List Nat->List Nat->Int
 | [],[]=>0
 | [],_::_=> -1
 | _::_,[]=>1
 | a::x,b::y=>if a<b then -1 else if b<a then 1 else eX x y
def bE (a b:ByteArray):Int:=match runes a.data.toList,runes b.data.toList with | some x,some y=>eX x y | _,_=>0
end Pl
theorem uf (a b:Int) (w:World):Calls Tryz.prog 125 #[.int .i32 a,.int .i32 b] w fun e w'=>e=.returned (.int .i64 (Pl.qL a b))/\w=w':=by
 by_cases h1:a<b
 · have e:Pl.qL a b= -1:=by unfold Pl.qL;rw [zZ1 h1]
   rw [e]
   go_in
   go_wp2
   go_ret
   exact ⟨rfl,rfl⟩
 · by_cases h2:b<a
   · have e:Pl.qL a b=1:=by unfold Pl.qL;rw [zZ0 h1,zZ1 h2]
     rw [e]
     go_in
     go_wp2
     go_ret
     exact ⟨rfl,rfl⟩
   · have e:Pl.qL a b=0:=by unfold Pl.qL;rw [zZ0 h1,zZ0 h2]
     rw [e]
     go_in
     go_wp2
     go_ret
     exact ⟨rfl,rfl⟩
theorem Ns (a b:Int) (w:World):Calls Tryz.prog 124 #[.int .i32 a,.int .i32 b] w fun e w'=>e=.returned (.int .i64 (Pl.qL a b))/\w=w':=by
 go_in
 go_wp2_with (go_at_call 125;refine (uf a b _).mono ?_;rintro e w' ⟨rfl,rfl⟩)
 go_ret
 exact ⟨rfl,rfl⟩
def Cv (w:World) (v:Value) (l:List Nat):Prop:=
 ∃b cap,v=.slice (some ⟨b,0,none⟩) l.length cap/\∀i,i<l.length->w.cell? ⟨b,i,none⟩=some (.int .i32 (l.getD i 0:Nat))
theorem SI (s:ByteArray):∀(n p:Nat) (r:List Nat) (acc:Array Value),s.size<=p+n->Pl.kC s p=some r->
    Conv.runesFrom s n p acc=acc++(r.map fun c=>Value.int .i32 (c:Nat)).toArray:=by
 intro n
 induction n with
 | zero=>
  intro p r acc hn h
  rw [Pl.GM s p (by omega)] at h
  cases h
  simp [Conv.runesFrom]
 | succ n ih=>
  intro p r acc hn h
  unfold Conv.runesFrom
  by_cases hp:p<s.size
  · obtain ⟨t,rfl,ht,h1,h2⟩:=Pl.Nr s p r hp h
    rw [zZ1 hp]
    show Conv.runesFrom s n (p+(Utf8.decode s p).2) (acc.push (.int .i32 (Int.ofNat (Utf8.decode s p).1)))=_
    rw [ih _ t _ (by omega) ht]
    apply Array.ext'
    simp
  · rw [Pl.GM s p hp] at h
    cases h
    rw [zZ0 hp]
    simp
theorem SJ (s:ByteArray) (l:List Nat) (w:World) (hs:s.size<=70368744177664) (hr:Pl.runes s.data.toList=some l):
    Calls Tryz.prog 123 #[.string s] w fun e w'=>∃v,e=.returned v/\Cv w' v l/\ae w w':=by
 have hq:Pl.right s=true:=by unfold Pl.right;rw [hr];rfl
 have hf:Conv.runesFrom s s.size 0 #[]=(l.map fun c=>Value.int .i32 (c:Nat)).toArray:=by
  rw [SI s s.size 0 l #[] (by omega) hr];simp
 have hcv:=fun W=>run_runes_of_string (P:=Tryz.prog) W 9 224 21 s Tryz.underlying9 Tryz.underlying224 Tryz.underlying21 (by have:=size_runesFrom s s.size 0 #[];simp at this;omega)
 rw [hf] at hcv
 have HF:=af hf
 have HR:=af hr
 clear hf hr
 go_in
 go_wp2_with (go_at_call 121;refine (pF _ _ (by omega)).mono ?_;rintro e w' ⟨rfl,p,rfl⟩)
 go_ret
 refine ⟨_,rfl,⟨_,_,rfl,fun i hi=>?_⟩,(((ae.rf w).iter _ _).alloc _).drew⟩
 show (World.alloc _ _).cell? _=_
 rw [cell_of_row _ _ _ _ _ _ (heap_alloc_new _ _),Array.getElem?_append_left (by simpa using hi)]
 simp [hi]
theorem Cv.ag {w w':World} {v:Value} {l:List Nat} (h:Cv w v l) (g:ae w w'):Cv w' v l:=by
 obtain ⟨b,cap,rfl,hc⟩:=h
 refine ⟨b,cap,rfl,fun i hi=>?_⟩
 rw [<-hc i hi]
 exact g.below.cell (p:=⟨b,i,none⟩) (aN (hc i hi))
namespace Pl
theorem XV (x y:List Nat) (n:Nat) (h1:n<x.length) (h2:n<y.length):
    eX (x.drop n) (y.drop n)=if x.getD n 0<y.getD n 0 then -1 else if y.getD n 0<x.getD n 0 then 1 else eX (x.drop (n+1)) (y.drop (n+1)):=by
 rw [zJ4 h1,zJ4 h2]
 have e1:x.getD n 0=x[n]:=by rw [zJ0,List.getElem?_eq_getElem h1];rfl
 have e2:y.getD n 0=y[n]:=by rw [zJ0,List.getElem?_eq_getElem h2];rfl
 rw [e1,e2]
 rfl
theorem XW (x y:List Nat) (n:Nat) (h1:n<x.length) (h2:¬n<y.length):eX (x.drop n) (y.drop n)=1:=by
 rw [zJ4 h1,zJ5 (by omega:y.length<=n)];rfl
theorem XX (x y:List Nat) (n:Nat) (h1:¬n<x.length) (h2:n<y.length):eX (x.drop n) (y.drop n)= -1:=by
 rw [zJ4 h2,zJ5 (by omega:x.length<=n)];rfl
theorem XY (x y:List Nat) (n:Nat) (h1:¬n<x.length) (h2:¬n<y.length):eX (x.drop n) (y.drop n)=0:=by
 rw [zJ5 (by omega:y.length<=n),zJ5 (by omega:x.length<=n)];rfl
end Pl
theorem SK (v1 v2:Value) (x y:List Nat) (w:World) (h1:Cv w v1 x) (h2:Cv w v2 y) (hx:x.length<=140737488351232):
    Calls Tryz.prog 122 #[v1,v2,.func (.func 124) #[] #[]] w fun e w'=>e=.returned (.int .i64 (Pl.eX x y))/\w=w':=by
 obtain ⟨b1,XZ,rfl,hc1⟩:=h1
 obtain ⟨b2,cap2,rfl,hc2⟩:=h2
 have C1:=af hc1
 have C2:=af hc2
 clear hc1 hc2
 go_in
 go_wp2
 go_loop [7,8,9,10,13] (fun _ _ _ _ i=>∃n:Nat,i=.int .i64 n/\n<=x.length/\n<=y.length/\Hid (Pl.eX (x.drop n) (y.drop n)=Pl.eX x y)) (fun _ _ _ _ i=>x.length - (intOf i).toNat)
 case atStart=>exact ⟨0,rfl,Nat.zero_le _,Nat.zero_le _,rfl⟩
 case round=>
  obtain ⟨n,rfl,lF,fW,HN⟩:=hrel
  by_cases l1:n<x.length
  · have c1:=C1.out n l1
    by_cases l2:n<y.length
    · have c2:=C2.out n l2
      have hst:=af (Pl.XV x y n l1 l2)
      obtain ⟨a,ha⟩:∃a,a=x.getD n 0:=⟨_,rfl⟩
      obtain ⟨b,hb⟩:∃b,b=y.getD n 0:=⟨_,rfl⟩
      rw [<-ha] at c1
      rw [<-hb] at c2
      rw [<-ha,<-hb] at hst
      clear ha hb
      have HS:=hst
      by_cases q1:a<b
      · have e:Pl.qL (a:Int) b= -1:=by unfold Pl.qL;rw [zZ1 (by omega)]
        have e2:Pl.eX x y= -1:=by rw [<-HN.out,HS.out,zZ1 q1]
        have E2:=af e2
        clear e2
        go_wp2_with (go_at_call 124;refine (Ns _ _ _).mono ?_;rw [e];rintro e w' ⟨rfl,rfl⟩)
        go_ret
        exact ⟨fV E2.out.symm,rfl⟩
      · by_cases q2:b<a
        · have e:Pl.qL (a:Int) b=1:=by unfold Pl.qL;rw [zZ0 (by omega),zZ1 (by omega)]
          have e2:Pl.eX x y=1:=by rw [<-HN.out,HS.out,zZ0 q1,zZ1 q2]
          have E2:=af e2
          clear e2
          go_wp2_with (go_at_call 124;refine (Ns _ _ _).mono ?_;rw [e];rintro e w' ⟨rfl,rfl⟩)
          go_ret
          exact ⟨fV E2.out.symm,rfl⟩
        · have e:Pl.qL (a:Int) b=0:=by unfold Pl.qL;rw [zZ0 (by omega),zZ0 (by omega)]
          have e2:Pl.eX (x.drop (n+1)) (y.drop (n+1))=Pl.eX x y:=by rw [<-HN.out,HS.out,zZ0 q1,zZ0 q2]
          have E2:=af e2
          clear e2
          go_wp2_with (go_at_call 124;refine (Ns _ _ _).mono ?_;rw [e];rintro e w' ⟨rfl,rfl⟩)
          go_round
          case rel=>exact ⟨n+1,by go_num,by omega,by omega,E2⟩
          case measure=>simp [intOf];omega
    · have e2:Pl.eX x y=1:=by rw [<-HN.out,Pl.XW x y n l1 l2]
      have E2:=af e2
      clear e2
      go_wp2
      go_ret
      exact ⟨fV E2.out.symm,rfl⟩
  · by_cases l2:n<y.length
    · have e2:Pl.eX x y= -1:=by rw [<-HN.out,Pl.XX x y n l1 l2]
      have E2:=af e2
      clear e2
      go_wp2
      go_ret
      exact ⟨fV E2.out.symm,rfl⟩
    · have e2:Pl.eX x y=0:=by rw [<-HN.out,Pl.XY x y n l1 l2]
      have E2:=af e2
      clear e2
      go_wp2
      go_ret
      exact ⟨fV E2.out.symm,rfl⟩
theorem GQ (a b:ByteArray) (w:World) (ha:a.size<=70368744177664) (hb:b.size<=70368744177664):
    Calls Tryz.prog 77 #[.string a,.string b] w fun e w'=>e=.returned (.int .i64 (Pl.bE a b))/\ae w w':=by
 cases hr:Pl.runes a.data.toList with
 | none=>
  have hq:Pl.right a=false:=by unfold Pl.right;rw [hr];rfl
  have hc:Pl.bE a b=0:=by unfold Pl.bE;rw [hr]
  have HC:=af hc
  clear hc hr
  go_in
  go_wp2_with (go_at_call 121;refine (pF _ _ (by omega)).mono ?_;rintro e w' ⟨rfl,p,rfl⟩)
  go_ret
  exact ⟨fV HC.out.symm,(ae.rf w).iter _ _⟩
 | some x=>
  have hq:Pl.right a=true:=by unfold Pl.right;rw [hr];rfl
  cases hr2:Pl.runes b.data.toList with
  | none=>
   have hq2:Pl.right b=false:=by unfold Pl.right;rw [hr2];rfl
   have hc:Pl.bE a b=0:=by unfold Pl.bE;rw [hr,hr2]
   have HC:=af hc
   clear hc hr hr2
   go_in
   go_wp2_with fail
   refine (pF a _ (by omega)).mono ?_
   rintro e w' ⟨rfl,p,rfl⟩
   go_wp2_with fail
   refine (pF b _ (by omega)).mono ?_
   rintro e w' ⟨rfl,q,rfl⟩
   go_wp2_with fail
   go_ret
   exact ⟨fV HC.out.symm,((ae.rf w).iter _ _).iter _ _⟩
  | some y=>
   have hq2:Pl.right b=true:=by unfold Pl.right;rw [hr2];rfl
   have hc:Pl.bE a b=Pl.eX x y:=by unfold Pl.bE;rw [hr,hr2]
   have hx:x.length<=a.size:=by simpa using Pl.Cu _ _ x (zZ3 _) hr
   have hy:y.length<=b.size:=by simpa using Pl.Cu _ _ y (zZ3 _) hr2
   have HC:=af hc
   have HR:=af hr
   have ik:=af hr2
   clear hc hr hr2
   go_in
   go_wp2_with fail
   refine (pF a _ (by omega)).mono ?_
   rintro e w' ⟨rfl,p,rfl⟩
   go_wp2_with fail
   refine (pF b _ (by omega)).mono ?_
   rintro e w' ⟨rfl,q,rfl⟩
   go_wp2_with fail
   refine (SJ a x _ ha HR.out).mono ?_
   rintro e w1 ⟨v1,rfl,hv1,aA⟩
   go_wp2_with fail
   refine (SJ b y _ hb ik.out).mono ?_
   rintro e w2 ⟨v2,rfl,hv2,aB⟩
   go_wp2_with fail
   refine (SK v1 v2 x y _ (hv1.ag aB) hv2 (by omega)).mono ?_
   rintro e w' ⟨rfl,rfl⟩
   go_wp2_with fail
   go_ret
   exact ⟨fV HC.out.symm,(((ae.rf w).iter _ _).iter _ _).trans (aA.trans aB)⟩
end
section
open Go.RowKit Go.Shelf Go.Lib Go.Sort
def cH (w w':World):Prop:=ae w w'/\w.drawn<=w'.drawn
theorem cH.refl (w:World):cH w w:=⟨ae.rf w,zZ3 _⟩
theorem cH.trans {a b c:World} (h:cH a b) (k:cH b c):cH a c:=⟨h.1.trans k.1,zQ0 h.2 k.2⟩
theorem cH.alloc {a b:World} (h:cH a b) (o:Obj):cH a (b.alloc o):=⟨h.1.alloc o,h.2⟩
theorem cH.drew {a b:World} (h:cH a b):cH a b.drew:=⟨h.1.drew,Nat.le_succ_of_le h.2⟩
theorem cH.iter {a b:World} (h:cH a b) (s:ByteArray) (p:Nat):cH a (b.iter s p):=⟨h.1.iter s p,h.2⟩
theorem cH.grown {w w':World} (h:cH w w'):∃q os,w'=grow (w.drewN q) os:=by
 obtain ⟨⟨h1,h2,h3,h4,h5⟩,h6⟩:=h
 refine ⟨w'.drawn - w.drawn,w'.heap.extract w.heap.size w'.heap.size,?_⟩
 obtain ⟨hp,tp,dr,os,ou⟩:=w'
 obtain ⟨hp0,tp0,SL,os0,ou0⟩:=w
 dsimp only at *
 subst h1 h2 h3
 unfold grow World.drewN
 dsimp only
 have e1:SL+(dr - SL)=dr:=by omega
 have e2:hp0++hp.extract hp0.size hp.size=hp:=by
  apply Array.ext_getElem?
  intro i
  rw [Array.getElem?_append]
  by_cases hi:i<hp0.size
  · rw [zZ1 hi,h5 i hi]
  · rw [zZ0 hi,Array.getElem?_extract]
    by_cases h7:i<hp.size
    · rw [zZ1 (by omega)];congr 1;omega
    · rw [zZ0 (by omega),Array.getElem?_eq_none (by omega)]
 rw [e1,e2]
theorem SM (s:ByteArray) (l:List Nat) (w:World) (hs:s.size<=70368744177664) (hr:Pl.runes s.data.toList=some l):
    Calls Tryz.prog 123 #[.string s] w fun e w'=>∃v,e=.returned v/\Cv w' v l/\cH w w':=by
 have hq:Pl.right s=true:=by unfold Pl.right;rw [hr];rfl
 have hf:Conv.runesFrom s s.size 0 #[]=(l.map fun c=>Value.int .i32 (c:Nat)).toArray:=by
  rw [SI s s.size 0 l #[] (by omega) hr];simp
 have hcv:=fun W=>run_runes_of_string (P:=Tryz.prog) W 9 224 21 s Tryz.underlying9 Tryz.underlying224 Tryz.underlying21 (by have:=size_runesFrom s s.size 0 #[];simp at this;omega)
 rw [hf] at hcv
 have HF:=af hf
 have HR:=af hr
 clear hf hr
 go_in
 go_wp2_with (go_at_call 121;refine (pF _ _ (by omega)).mono ?_;rintro e w' ⟨rfl,p,rfl⟩)
 go_ret
 refine ⟨_,rfl,⟨_,_,rfl,fun i hi=>?_⟩,(((cH.refl w).iter _ _).alloc _).drew⟩
 show (World.alloc _ _).cell? _=_
 rw [cell_of_row _ _ _ _ _ _ (heap_alloc_new _ _),Array.getElem?_append_left (by simpa using hi)]
 simp [hi]
theorem SN (a b:ByteArray) (w:World) (ha:a.size<=70368744177664) (hb:b.size<=70368744177664):
    Calls Tryz.prog 77 #[.string a,.string b] w fun e w'=>e=.returned (.int .i64 (Pl.bE a b))/\cH w w':=by
 cases hr:Pl.runes a.data.toList with
 | none=>
  have hq:Pl.right a=false:=by unfold Pl.right;rw [hr];rfl
  have hc:Pl.bE a b=0:=by unfold Pl.bE;rw [hr]
  have HC:=af hc
  clear hc hr
  go_in
  go_wp2_with (go_at_call 121;refine (pF _ _ (by omega)).mono ?_;rintro e w' ⟨rfl,p,rfl⟩)
  go_ret
  exact ⟨fV HC.out.symm,(cH.refl w).iter _ _⟩
 | some x=>
  have hq:Pl.right a=true:=by unfold Pl.right;rw [hr];rfl
  cases hr2:Pl.runes b.data.toList with
  | none=>
   have hq2:Pl.right b=false:=by unfold Pl.right;rw [hr2];rfl
   have hc:Pl.bE a b=0:=by unfold Pl.bE;rw [hr,hr2]
   have HC:=af hc
   clear hc hr hr2
   go_in
   go_wp2_with fail
   refine (pF a _ (by omega)).mono ?_
   rintro e w' ⟨rfl,p,rfl⟩
   go_wp2_with fail
   refine (pF b _ (by omega)).mono ?_
   rintro e w' ⟨rfl,q,rfl⟩
   go_wp2_with fail
   go_ret
   exact ⟨fV HC.out.symm,((cH.refl w).iter _ _).iter _ _⟩
  | some y=>
   have hq2:Pl.right b=true:=by unfold Pl.right;rw [hr2];rfl
   have hc:Pl.bE a b=Pl.eX x y:=by unfold Pl.bE;rw [hr,hr2]
   have hx:x.length<=a.size:=by simpa using Pl.Cu _ _ x (zZ3 _) hr
   have hy:y.length<=b.size:=by simpa using Pl.Cu _ _ y (zZ3 _) hr2
   have HC:=af hc
   have HR:=af hr
   have ik:=af hr2
   clear hc hr hr2
   go_in
   go_wp2_with fail
   refine (pF a _ (by omega)).mono ?_
   rintro e w' ⟨rfl,p,rfl⟩
   go_wp2_with fail
   refine (pF b _ (by omega)).mono ?_
   rintro e w' ⟨rfl,q,rfl⟩
   go_wp2_with fail
   refine (SM a x _ ha HR.out).mono ?_
   rintro e w1 ⟨v1,rfl,hv1,aA⟩
   go_wp2_with fail
   refine (SM b y _ hb ik.out).mono ?_
   rintro e w2 ⟨v2,rfl,hv2,aB⟩
   go_wp2_with fail
   refine (SK v1 v2 x y _ (hv1.ag aB.1) hv2 (by omega)).mono ?_
   rintro e w' ⟨rfl,rfl⟩
   go_wp2_with fail
   go_ret
   exact ⟨fV HC.out.symm,(((cH.refl w).iter _ _).iter _ _).trans (aA.trans aB)⟩
end
section
namespace Pl
theorem SQ:∀(x y:List Nat),eX y x= - eX x y
 | [],[]=>rfl
 | [],_::_=>rfl
 | _::_,[]=>rfl
 | a::x,b::y=>by
  unfold eX
  by_cases h1:a<b
  · have h2:¬b<a:=by omega
    simp [h1,h2]
  · by_cases h2:b<a
    · simp [h1,h2]
    · simp only [h1,h2,if_false];exact SQ x y
theorem SR:∀(x y:List Nat),eX x y=0->x=y
 | [],[],_=>rfl
 | [],_::_,h=>by simp [eX] at h
 | _::_,[],h=>by simp [eX] at h
 | a::x,b::y,h=>by
  unfold eX at h
  by_cases h1:a<b
  · rw [zZ1 h1] at h;simp at h
  · by_cases h2:b<a
    · rw [zZ0 h1,zZ1 h2] at h;simp at h
    · rw [zZ0 h1,zZ0 h2] at h
      rw [show a=b by omega,SR x y h]
theorem SU:∀(x:List Nat),eX x x=0
 | []=>rfl
 | a::x=>by unfold eX;rw [zZ0 (by omega),zZ0 (by omega)];exact SU x
theorem SV:∀(x y z:List Nat),eX x y<0->eX y z<0->eX x z<0
 | [],[],_,h,_=>by simp [eX] at h
 | [],_::_,[],_,h=>by simp [eX] at h
 | [],_::_,_::_,_,_=>by simp [eX]
 | _::_,[],_,h,_=>by simp [eX] at h
 | _::_,_::_,[],_,h=>by simp [eX] at h
 | a::x,b::y,c::z,h,k=>by
  unfold eX at h k ⊢
  by_cases h1:a<b
  · by_cases k1:b<c
    · rw [zZ1 (by omega)];decide
    · by_cases k2:c<b
      · rw [zZ0 k1,zZ1 k2] at k;simp at k
      · rw [zZ1 (by omega)];decide
  · by_cases h2:b<a
    · rw [zZ0 h1,zZ1 h2] at h;simp at h
    · by_cases k1:b<c
      · rw [zZ1 (by omega)];decide
      · by_cases k2:c<b
        · rw [zZ0 k1,zZ1 k2] at k;simp at k
        · rw [zZ0 h1,zZ0 h2] at h
          rw [zZ0 k1,zZ0 k2] at k
          rw [zZ0 (by omega),zZ0 (by omega)]
          exact SV x y z h k
def Ok (s:ByteArray):Prop:=∃l,runes s.data.toList=some l
theorem iF {s:ByteArray} (h:aF s=0):Ok s:=by
 unfold aF at h
 cases hr:runes s.data.toList with
 | none=>rw [hr] at h;cases h
 | some l=>exact ⟨l,hr⟩
theorem qM {a b:ByteArray} (ha:Ok a) (hb:Ok b):bE b a= - bE a b:=by
 obtain ⟨x,hx⟩:=ha
 obtain ⟨y,hy⟩:=hb
 unfold bE
 rw [hx,hy]
 exact SQ x y
theorem ug {a b:ByteArray} (ha:Ok a) (hb:Ok b) (h:bE a b=0):a=b:=by
 obtain ⟨x,hx⟩:=ha
 obtain ⟨y,hy⟩:=hb
 unfold bE at h
 rw [hx,hy] at h
 have e:=SR x y h
 subst e
 have e2:=XG _ _ _ _ (zZ3 _) hx hy
 obtain ⟨⟨a⟩⟩:=a
 obtain ⟨⟨b⟩⟩:=b
 exact congrArg (fun l:List UInt8=>(⟨⟨l⟩⟩:ByteArray)) e2
theorem yV {a:ByteArray} (ha:Ok a):bE a a=0:=by
 obtain ⟨x,hx⟩:=ha
 unfold bE
 rw [hx]
 exact SU x
theorem pH {a b c:ByteArray} (ha:Ok a) (hb:Ok b) (hc:Ok c) (h:bE a b<0) (k:bE b c<0):bE a c<0:=by
 obtain ⟨x,hx⟩:=ha
 obtain ⟨y,hy⟩:=hb
 obtain ⟨z,hz⟩:=hc
 unfold bE at h k ⊢
 rw [hx,hy] at h
 rw [hy,hz] at k
 rw [hx,hz]
 exact SV x y z h k
end Pl
end
section
open Go.RowKit
attribute [local go_sem] Oper.semAt_some
namespace Pl
def cP (n most:Int):Bool:=decide (1<=n) && decide (n<=most)
end Pl
theorem A7 (n most:Int) (w:World):Calls Tryz.prog 264 #[.int .i64 n,.int .i64 most] w fun e w'=>e=.returned (.bool (Pl.cP n most))/\w=w':=by
 by_cases h1:1<=n
 · by_cases h2:n<=most
   · have e:Pl.cP n most=true:=by unfold Pl.cP;rw [decide_eq_true h1,decide_eq_true h2];rfl
     rw [e];clear e
     go_in
     go_wp2_with fail
     go_ret
     exact ⟨rfl,rfl⟩
   · have e:Pl.cP n most=false:=by unfold Pl.cP;rw [decide_eq_true h1,decide_eq_false h2];rfl
     rw [e];clear e
     go_in
     go_wp2_with fail
     go_ret
     exact ⟨rfl,rfl⟩
 · have e:Pl.cP n most=false:=by unfold Pl.cP;rw [decide_eq_false h1];rfl
   rw [e];clear e
   go_in
   go_wp2_with fail
   go_ret
   exact ⟨rfl,rfl⟩
theorem Cw (n:Int) (w:World):Calls Tryz.prog 263 #[.int .i64 n] w fun e w'=>e=.returned (.bool (Pl.cP n 12))/\w=w':=by
 go_in
 go_wp2_with fail
 refine (A7 _ _ _).mono ?_
 rintro e w' ⟨rfl,rfl⟩
 go_wp2_with fail
 go_ret
 exact ⟨rfl,rfl⟩
structure iW (S:Nat->Bool):Prop where
 h2:S 2=true
 h3:S 3=true
 h6:S 6=true
 h7:S 7=true
def bC.agg (o:bC):Value:=.agg #[.int .i64 o.kind,.string o.key,.string o.val,.string o.old,.int .i64 o.di]
namespace Pl
def jl (o:bC):Bool:=
 if aF o.key≠0 then false
 else if o.kind=1 then decide (o.val.size<=64)
 else if o.kind=2 then true
 else if o.kind=3 then decide (o.val.size<=64) && decide (o.old.size<=64)
 else if o.kind=4 then decide (0<=o.di) && decide (o.di<=4096)
 else false
end Pl
theorem Yd {S:Nat->Bool} (hS:iW S) (E:Nat->Addr) (o:bC) (w:World) (hE:aY S E w) (hk:o.key.size<=140737488351232) (hv:o.val.size<=9223372036854775807) (ho:o.old.size<=9223372036854775807):
    Calls Tryz.prog 271 #[o.agg] w fun e w'=>e=.returned (.bool (Pl.jl o))/\ae w w':=by
 obtain ⟨n,k,v,d,r⟩:=o
 dsimp only at hk hv ho
 have HK:=af (fun W (g:ae w W)=>mZ S E hS.h2 hS.h3 hS.h6 hS.h7 k W hk (hE.ag g))
 clear hE
 unfold bC.agg
 dsimp only
 by_cases hkn:Pl.aF k=0
 · rw [hkn] at HK
   have e0:∀b,Pl.jl ⟨n,k,v,d,r⟩=b↔(if n=1 then decide (v.size<=64) else if n=2 then true else if n=3 then decide (v.size<=64) && decide (d.size<=64) else if n=4 then decide (0<=r) && decide (r<=4096) else false)=b:=fun b=>by
    unfold Pl.jl;rw [zZ0 (by simp [hkn])]
   clear hkn
   by_cases n1:n=1
   · have HF:Hid (Pl.jl ⟨n,k,v,d,r⟩=decide ((v.size:Int)<=64)):=by
      unfold Hid
      rw [e0,zZ1 n1,zX5];simp;omega
     have b1:(n==1)=true:=beq_iff_eq.2 n1
     clear e0 n1
     go_in
     go_wp2_with fail
     refine (HK.out _ ((ae.rf w).alloc _)).mono ?_
     rintro e w1 ⟨rfl,hg⟩
     have hc:=hg.cells.1
     have hz:w.heap.size<w1.heap.size:=by have:=hg.size;simp at this;omega
     rw [ue]
     go_wp2_with fail
     go_ret
     exact ⟨bt HF.out.symm,((ae.rf w).alloc _).trans hg⟩
   · have b1:(n==1)=false:=beq_eq_false_iff_ne.2 n1
     by_cases n2:n=2
     · have HF:Hid (Pl.jl ⟨n,k,v,d,r⟩=true):=by
        unfold Hid
        rw [e0,zZ0 n1,zZ1 n2]
       have b2:(n==2)=true:=beq_iff_eq.2 n2
       clear e0 n1 n2
       go_in
       go_wp2_with fail
       refine (HK.out _ ((ae.rf w).alloc _)).mono ?_
       rintro e w1 ⟨rfl,hg⟩
       have hc:=hg.cells.1
       have hz:w.heap.size<w1.heap.size:=by have:=hg.size;simp at this;omega
       rw [ue]
       go_wp2_with fail
       go_ret
       exact ⟨bt HF.out.symm,((ae.rf w).alloc _).trans hg⟩
     · have b2:(n==2)=false:=beq_eq_false_iff_ne.2 n2
       by_cases n3:n=3
       · have HF:Hid (Pl.jl ⟨n,k,v,d,r⟩=(decide ((v.size:Int)<=64) && decide ((d.size:Int)<=64))):=by
          unfold Hid
          rw [e0,zZ0 n1,zZ0 n2,zZ1 n3,zX5];simp;omega
         have b3:(n==3)=true:=beq_iff_eq.2 n3
         clear e0 n1 n2 n3
         go_in
         go_wp2_with fail
         refine (HK.out _ ((ae.rf w).alloc _)).mono ?_
         rintro e w1 ⟨rfl,hg⟩
         have hc:=hg.cells.1
         have hz:w.heap.size<w1.heap.size:=by have:=hg.size;simp at this;omega
         rw [ue]
         by_cases Nt:(v.size:Int)<=64
         all_goals
          go_wp2_with fail
          go_ret
          exact ⟨bt (by rw [HF.out];first | (simp [Nt];done) | (simp;omega)),((ae.rf w).alloc _).trans hg⟩
       · have b3:(n==3)=false:=beq_eq_false_iff_ne.2 n3
         by_cases n4:n=4
         · have HF:Hid (Pl.jl ⟨n,k,v,d,r⟩=(decide (0<=r) && decide (r<=4096))):=by
            unfold Hid
            rw [e0,zZ0 n1,zZ0 n2,zZ0 n3,zZ1 n4]
           have b4:(n==4)=true:=beq_iff_eq.2 n4
           clear e0 n1 n2 n3 n4
           go_in
           go_wp2_with fail
           refine (HK.out _ ((ae.rf w).alloc _)).mono ?_
           rintro e w1 ⟨rfl,hg⟩
           have hc:=hg.cells.1
           have hz:w.heap.size<w1.heap.size:=by have:=hg.size;simp at this;omega
           rw [ue]
           by_cases hr0:0<=r
           all_goals
            go_wp2_with fail
            go_ret
            exact ⟨bt (by rw [HF.out];first | (simp [hr0];done) | (simp;omega)),((ae.rf w).alloc _).trans hg⟩
         · have HF:Hid (Pl.jl ⟨n,k,v,d,r⟩=false):=by
            unfold Hid
            rw [e0,zZ0 n1,zZ0 n2,zZ0 n3,zZ0 n4]
           have b4:(n==4)=false:=beq_eq_false_iff_ne.2 n4
           clear e0 n1 n2 n3 n4
           go_in
           go_wp2_with fail
           refine (HK.out _ ((ae.rf w).alloc _)).mono ?_
           rintro e w1 ⟨rfl,hg⟩
           have hc:=hg.cells.1
           have hz:w.heap.size<w1.heap.size:=by have:=hg.size;simp at this;omega
           rw [ue]
           go_wp2_with fail
           go_ret
           exact ⟨bt HF.out.symm,((ae.rf w).alloc _).trans hg⟩
 · have HF:Hid (Pl.jl ⟨n,k,v,d,r⟩=false):=by unfold Hid Pl.jl;rw [zZ1 hkn]
   have HN:=af (sX E _ hkn)
   go_in
   go_wp2_with fail
   refine (HK.out _ ((ae.rf w).alloc _)).mono ?_
   rw [HN.out]
   rintro e w1 ⟨rfl,hg⟩
   go_wp2_with fail
   go_ret
   exact ⟨bt HF.out.symm,((ae.rf w).alloc _).trans hg⟩
namespace Pl
def rR (sh sv:Int):Bool:=cP sh 12 && cP sv 4
def rS (sh ot:Int):Bool:=cP sh 12 && cP ot 12 && (sh !=ot)
def pI (sh ot sv:Int) (key:ByteArray):Bool:=cP sh 12 && cP ot 12 && (sh !=ot) && cP sv 4 && decide (aF key=0)
def pJ (sh up parts part:Int) (len:Nat):Bool:=((sh==0) || cP sh 12) && decide (0<=up) && decide (up<=4096) && cP parts 64 && decide (0<=part) && decide (part<parts) && decide ((len:Int)<=256)
end Pl
theorem Ye (sh sv:Int) (w:World):Calls Tryz.prog 273 #[.agg #[.int .i64 sh,.int .i64 sv]] w fun e w'=>e=.returned (.bool (Pl.rR sh sv))/\ae w w':=by
 unfold Pl.rR
 go_in
 go_wp2_with fail
 refine (Cw _ _).mono ?_
 rintro e w1 ⟨rfl,rfl⟩
 cases h0:Pl.cP sh 12 with
 | false=>
  go_wp2_with fail
  go_ret
  exact ⟨bt (by simp [*]),(ae.rf w).alloc _⟩
 | true=>
  go_wp2_with fail
  refine (A7 _ _ _).mono ?_
  rintro e w1 ⟨rfl,rfl⟩
  cases h1:Pl.cP sv 4 with
  | false=>
   go_wp2_with fail
   go_ret
   exact ⟨bt (by simp [*]),(ae.rf w).alloc _⟩
  | true=>
   go_wp2_with fail
   go_ret
   exact ⟨bt (by simp [*]),(ae.rf w).alloc _⟩
theorem Yf (sh ot:Int) (w:World):Calls Tryz.prog 276 #[.agg #[.int .i64 sh,.int .i64 ot]] w fun e w'=>e=.returned (.bool (Pl.rS sh ot))/\ae w w':=by
 unfold Pl.rS
 go_in
 go_wp2_with fail
 refine (Cw _ _).mono ?_
 rintro e w1 ⟨rfl,rfl⟩
 cases h0:Pl.cP sh 12 with
 | false=>
  go_wp2_with fail
  go_ret
  exact ⟨bt (by simp [*]),(ae.rf w).alloc _⟩
 | true=>
  go_wp2_with fail
  refine (Cw _ _).mono ?_
  rintro e w1 ⟨rfl,rfl⟩
  cases h1:Pl.cP ot 12 with
  | false=>
   go_wp2_with fail
   go_ret
   exact ⟨bt (by simp [*]),(ae.rf w).alloc _⟩
  | true=>
   cases h2:(sh !=ot) with
   | false=>
    go_wp2_with fail
    go_ret
    exact ⟨bt (by simp [*]),(ae.rf w).alloc _⟩
   | true=>
    go_wp2_with fail
    go_ret
    exact ⟨bt (by simp [*]),(ae.rf w).alloc _⟩
theorem Yg {S:Nat->Bool} (hS:iW S) (E:Nat->Addr) (sh ot sv:Int) (key:ByteArray) (w:World) (hE:aY S E w) (hk:key.size<=140737488351232):
    Calls Tryz.prog 260 #[.agg #[.int .i64 sh,.int .i64 ot,.int .i64 sv,.string key]] w fun e w'=>e=.returned (.bool (Pl.pI sh ot sv key))/\ae w w':=by
 have HK:=af (fun W (g:ae w W)=>mZ S E hS.h2 hS.h3 hS.h6 hS.h7 key W hk (hE.ag g))
 clear hE
 unfold Pl.pI
 go_in
 go_wp2_with fail
 refine (Cw _ _).mono ?_
 rintro e w1 ⟨rfl,rfl⟩
 cases h0:Pl.cP sh 12 with
 | false=>
  go_wp2_with fail
  go_ret
  exact ⟨bt (by simp [*]),(ae.rf w).alloc _⟩
 | true=>
  go_wp2_with fail
  refine (Cw _ _).mono ?_
  rintro e w1 ⟨rfl,rfl⟩
  cases h1:Pl.cP ot 12 with
  | false=>
   go_wp2_with fail
   go_ret
   exact ⟨bt (by simp [*]),(ae.rf w).alloc _⟩
  | true=>
   cases h2:(sh !=ot) with
   | false=>
    go_wp2_with fail
    go_ret
    exact ⟨bt (by simp [*]),(ae.rf w).alloc _⟩
   | true=>
    go_wp2_with fail
    refine (A7 _ _ _).mono ?_
    rintro e w1 ⟨rfl,rfl⟩
    cases h3:Pl.cP sv 4 with
    | false=>
     go_wp2_with fail
     go_ret
     exact ⟨bt (by simp [*]),(ae.rf w).alloc _⟩
    | true=>
     by_cases hkn:Pl.aF key=0
     · rw [hkn] at HK
       have HD:=af (decide_eq_true hkn)
       clear hkn
       go_wp2_with fail
       refine (HK.out _ ((ae.rf w).alloc _)).mono ?_
       rw [ue]
       rintro e w1 ⟨rfl,hg⟩
       go_wp2_with fail
       go_ret
       exact ⟨bt (by rw [HD.out];simp [h0,h1,h2,h3]),((ae.rf w).alloc _).trans hg⟩
     · have HN:=af (sX E _ hkn)
       have HD:=af (decide_eq_false hkn)
       clear hkn
       go_wp2_with fail
       refine (HK.out _ ((ae.rf w).alloc _)).mono ?_
       rw [HN.out]
       rintro e w1 ⟨rfl,hg⟩
       go_wp2_with fail
       go_ret
       exact ⟨bt (by rw [HD.out];simp),((ae.rf w).alloc _).trans hg⟩
theorem Yh (sh up parts part:Int) (a:Option Addr) (len cap:Nat) (w:World):
    Calls Tryz.prog 279 #[.agg #[.int .i64 sh,.int .i64 up,.int .i64 parts,.int .i64 part,.slice a len cap]] w fun e w'=>e=.returned (.bool (Pl.pJ sh up parts part len))/\ae w w':=by
 unfold Pl.pJ
 go_in
 cases h0:(sh==0) with
 | true=>
  cases h1:decide (0<=up) with
  | false=>
   go_wp2_with fail
   go_ret
   exact ⟨bt (by simp [*]),(ae.rf w).alloc _⟩
  | true=>
   cases h2:decide (up<=4096) with
   | false=>
    go_wp2_with fail
    go_ret
    exact ⟨bt (by simp [*]),(ae.rf w).alloc _⟩
   | true=>
    go_wp2_with fail
    refine (A7 _ _ _).mono ?_
    rintro e w1 ⟨rfl,rfl⟩
    cases h3:Pl.cP parts 64 with
    | false=>
     go_wp2_with fail
     go_ret
     exact ⟨bt (by simp [*]),(ae.rf w).alloc _⟩
    | true=>
     cases h4:decide (0<=part) with
     | false=>
      go_wp2_with fail
      go_ret
      exact ⟨bt (by simp [*]),(ae.rf w).alloc _⟩
     | true=>
      cases h5:decide (part<parts) with
      | false=>
       go_wp2_with fail
       go_ret
       exact ⟨bt (by simp [*]),(ae.rf w).alloc _⟩
      | true=>
       go_wp2_with fail
       go_ret
       exact ⟨bt (by simp [*]),(ae.rf w).alloc _⟩
 | false=>
  go_wp2_with fail
  refine (Cw _ _).mono ?_
  rintro e w1 ⟨rfl,rfl⟩
  cases h1:Pl.cP sh 12 with
  | false=>
   go_wp2_with fail
   go_ret
   exact ⟨bt (by simp [*]),(ae.rf w).alloc _⟩
  | true=>
   cases h2:decide (0<=up) with
   | false=>
    go_wp2_with fail
    go_ret
    exact ⟨bt (by simp [*]),(ae.rf w).alloc _⟩
   | true=>
    cases h3:decide (up<=4096) with
    | false=>
     go_wp2_with fail
     go_ret
     exact ⟨bt (by simp [*]),(ae.rf w).alloc _⟩
    | true=>
     go_wp2_with fail
     refine (A7 _ _ _).mono ?_
     rintro e w1 ⟨rfl,rfl⟩
     cases h4:Pl.cP parts 64 with
     | false=>
      go_wp2_with fail
      go_ret
      exact ⟨bt (by simp [*]),(ae.rf w).alloc _⟩
     | true=>
      cases h5:decide (0<=part) with
      | false=>
       go_wp2_with fail
       go_ret
       exact ⟨bt (by simp [*]),(ae.rf w).alloc _⟩
      | true=>
       cases h6:decide (part<parts) with
       | false=>
        go_wp2_with fail
        go_ret
        exact ⟨bt (by simp [*]),(ae.rf w).alloc _⟩
       | true=>
        go_wp2_with fail
        go_ret
        exact ⟨bt (by simp [*]),(ae.rf w).alloc _⟩
namespace Pl
def jO (sh cl sq:Int) (ops:List bC):Bool:=cP sh 12 && cP cl 4 && cP sq 1073741824 && cP ops.length 8 && !(ops.any fun o=>!jl o)
end Pl
def yX (o:bC):Prop:=o.key.size<=140737488351232/\o.val.size<=9223372036854775807/\o.old.size<=9223372036854775807
theorem Yi {S:Nat->Bool} (hS:iW S) (E:Nat->Addr) (o:bC) (w:World) (hE:aY S E w) (ho:yX o):
    Calls Tryz.prog 270 #[o.cD] w fun e w'=>e=.returned (.bool (!Pl.jl o))/\ae w w':=by
 have HO:=af (fun W (g:ae w W)=>Yd hS E o W (hE.ag g) ho.1 ho.2.1 ho.2.2)
 clear hE
 unfold bC.agg at HO
 unfold bC.cD bC.vals
 obtain ⟨n,k,v,d,r⟩:=o
 dsimp only at *
 go_in
 go_wp2_with fail
 refine (HO.out _ ((ae.rf w).alloc _)).mono ?_
 rintro e w1 ⟨rfl,hg⟩
 go_wp2_with fail
 go_ret
 exact ⟨rfl,((ae.rf w).alloc _).trans hg⟩
theorem Yj {S:Nat->Bool} (hS:iW S) (E:Nat->Addr) (a:Option Addr) (cap:Nat) (ops:List bC) (w:World) (hE:aY S E w) (hA:rQ w a ops) (hx:ops.length<=1000000) (ho:∀o∈ops,yX o):
    Calls Tryz.prog 269 #[.slice a ops.length cap,.func (.func 270) #[] #[]] w fun e w'=>e=.returned (.bool (ops.any fun o=>!Pl.jl o))/\ae w w':=by
 have HI:=af (uh (fun o=>!Pl.jl o) a cap ops w hA hx (fun j hj W g=>Yi hS E _ W (hE.ag g) (ho _ (yn ops j hj))))
 have HG:=af (tV (fun o=>!Pl.jl o) ops)
 clear hE hA
 generalize b7 (fun o=>!Pl.jl o) ops=n at *
 go_in
 go_wp2_with fail
 refine HI.out.mono ?_
 rintro e w1 ⟨rfl,hg⟩
 go_wp2_with fail
 go_ret
 exact ⟨bt HG.out,hg⟩
theorem Yk {S:Nat->Bool} (hS:iW S) (E:Nat->Addr) (sh cl sq:Int) (a:Option Addr) (cap:Nat) (ops:List bC) (w:World) (hE:aY S E w) (hA:rQ w a ops) (hx:ops.length<=1000000) (ho:∀o∈ops,yX o):
    Calls Tryz.prog 266 #[.agg #[.int .i64 sh,.int .i64 cl,.int .i64 sq,.slice a ops.length cap]] w fun e w'=>e=.returned (.bool (Pl.jO sh cl sq ops))/\ae w w':=by
 have HC:=af (fun W (g:ae w W)=>Yj hS E a cap ops W (hE.ag g) (hA.ag g) hx ho)
 clear hE hA
 unfold Pl.jO
 generalize (ops.any fun o=>!Pl.jl o)=bad at *
 go_in
 go_wp2_with fail
 refine (HC.out _ ((ae.rf w).alloc _)).mono ?_
 rintro e w1 ⟨rfl,hg⟩
 have hc:=hg.cells.1
 have hz:w.heap.size<w1.heap.size:=by have:=hg.size;simp at this;omega
 have hG:=((ae.rf w).alloc _).trans hg
 clear hg
 go_wp2_with fail
 refine (Cw _ _).mono ?_
 rintro e w2 ⟨rfl,rfl⟩
 cases h0:Pl.cP sh 12 with
 | false=>
  go_wp2_with fail
  go_ret
  exact ⟨bt (by simp [*]),hG⟩
 | true=>
  go_wp2_with fail
  refine (A7 _ _ _).mono ?_
  rintro e w2 ⟨rfl,rfl⟩
  cases h1:Pl.cP cl 4 with
  | false=>
   go_wp2_with fail
   go_ret
   exact ⟨bt (by simp [*]),hG⟩
  | true=>
   go_wp2_with fail
   refine (A7 _ _ _).mono ?_
   rintro e w2 ⟨rfl,rfl⟩
   cases h2:Pl.cP sq 1073741824 with
   | false=>
    go_wp2_with fail
    go_ret
    exact ⟨bt (by simp [*]),hG⟩
   | true=>
    go_wp2_with fail
    refine (A7 _ _ _).mono ?_
    rintro e w2 ⟨rfl,rfl⟩
    cases h3:Pl.cP (ops.length:Int) 8 with
    | false=>
     go_wp2_with fail
     go_ret
     exact ⟨bt (by simp [*]),hG⟩
    | true=>
     go_wp2_with fail
     go_ret
     exact ⟨bt (by simp [*]),hG⟩
structure En where
 kind:Int
 ai:Int
 other:Int
 server:Int
 ak:Int
 seq:Int
 key:ByteArray
 upto:Int
 part:Int
 parts:Int
 ops:List bC
 aC:Option Addr
 aG:Nat
 av:Option Addr
 ar:Nat
 aw:Nat
def En.vals (e:En):List Value:=[.int .i64 e.kind,.int .i64 e.ai,.int .i64 e.other,.int .i64 e.server,.int .i64 e.ak,.int .i64 e.seq,.slice e.aC e.ops.length e.aG,.string e.key,.int .i64 e.upto,.int .i64 e.part,.int .i64 e.parts,.slice e.av e.ar e.aw]
def En.agg (e:En):Value:=.agg e.vals.toArray
namespace Pl
def bR (e:En):Bool:=
 if e.kind=1 then jO e.ai e.ak e.seq e.ops
 else if e.kind=2 then rR e.ai e.server
 else if e.kind=3 then pI e.ai e.other e.server e.key
 else if e.kind=4 then rS e.ai e.other
 else if e.kind=5 then pJ e.ai e.upto e.parts e.part e.ar
 else false
def iJ (e:En):Value:=
 if e.kind=1 then .iface 218 (.agg #[.int .i64 e.ai,.int .i64 e.ak,.int .i64 e.seq,.slice e.aC e.ops.length e.aG])
 else if e.kind=2 then .iface 245 (.agg #[.int .i64 e.ai,.int .i64 e.server])
 else if e.kind=3 then .iface 215 (.agg #[.int .i64 e.ai,.int .i64 e.other,.int .i64 e.server,.string e.key])
 else if e.kind=4 then .iface 247 (.agg #[.int .i64 e.ai,.int .i64 e.other])
 else if e.kind=5 then .iface 249 (.agg #[.int .i64 e.ai,.int .i64 e.upto,.int .i64 e.parts,.int .i64 e.part,.slice e.av e.ar e.aw])
 else .nilIface
end Pl
theorem ui (e:En) (w:World):Calls Tryz.prog 93 #[e.agg] w fun r w'=>r=.returned (Pl.iJ e)/\ae w w':=by
 unfold En.agg En.vals
 obtain ⟨kind,ai,other,server,ak,seq,key,upto,part,parts,ops,aC,aG,av,ar,aw⟩:=e
 unfold Pl.iJ
 dsimp only
 by_cases k1:kind=1
 · subst k1
   go_in
   go_wp2_with fail
   go_ret
   exact ⟨rfl,(ae.rf w).alloc _⟩
 by_cases k2:kind=2
 · subst k2
   go_in
   go_wp2_with fail
   go_ret
   exact ⟨rfl,(ae.rf w).alloc _⟩
 by_cases k3:kind=3
 · subst k3
   go_in
   go_wp2_with fail
   go_ret
   exact ⟨rfl,(ae.rf w).alloc _⟩
 by_cases k4:kind=4
 · subst k4
   go_in
   go_wp2_with fail
   go_ret
   exact ⟨rfl,(ae.rf w).alloc _⟩
 by_cases k5:kind=5
 · subst k5
   go_in
   go_wp2_with fail
   go_ret
   exact ⟨rfl,(ae.rf w).alloc _⟩
 have b1:(kind==1)=false:=beq_eq_false_iff_ne.2 k1
 have b2:(kind==2)=false:=beq_eq_false_iff_ne.2 k2
 have b3:(kind==3)=false:=beq_eq_false_iff_ne.2 k3
 have b4:(kind==4)=false:=beq_eq_false_iff_ne.2 k4
 have b5:(kind==5)=false:=beq_eq_false_iff_ne.2 k5
 rw [zZ0 k1,zZ0 k2,zZ0 k3,zZ0 k4,zZ0 k5]
 clear k1 k2 k3 k4 k5
 go_in
 go_wp2_with fail
 go_ret
 exact ⟨rfl,(ae.rf w).alloc _⟩
structure bG (w:World) (e:En):Prop where
 ops:rQ w e.aC e.ops
 few:e.ops.length<=1000000
 ok:∀o∈e.ops,yX o
 key:e.kind=3->e.key.size<=140737488351232
theorem bG.ag {w w':World} {e:En} (h:bG w e) (g:ae w w'):bG w' e:=⟨h.ops.ag g,h.few,h.ok,h.key⟩
theorem Yl (cs:Array Value) (w:World):(method 477 218 (.agg cs) "tidewater/entry.right").run Tryz.prog w=.ok (266,.agg cs) w:=by kernel_rfl
theorem Ym (cs:Array Value) (w:World):(method 477 245 (.agg cs) "tidewater/entry.right").run Tryz.prog w=.ok (273,.agg cs) w:=by kernel_rfl
theorem Yn (cs:Array Value) (w:World):(method 477 215 (.agg cs) "tidewater/entry.right").run Tryz.prog w=.ok (260,.agg cs) w:=by kernel_rfl
theorem Yo (cs:Array Value) (w:World):(method 477 247 (.agg cs) "tidewater/entry.right").run Tryz.prog w=.ok (276,.agg cs) w:=by kernel_rfl
theorem Yp (cs:Array Value) (w:World):(method 477 249 (.agg cs) "tidewater/entry.right").run Tryz.prog w=.ok (279,.agg cs) w:=by kernel_rfl
theorem py {S:Nat->Bool} (hS:iW S) (E:Nat->Addr) (e:En) (w:World) (hE:aY S E w) (hA:bG w e):
    Calls Tryz.prog 48 #[e.agg] w fun r w'=>r=.returned (.bool (Pl.bR e))/\ae w w':=by
 have HE:=af hE
 have HA:=af hA
 have HO:=af (fun W=>ui e W)
 clear hE hA
 by_cases k1:e.kind=1
 · have HR:Hid (Pl.bR e=Pl.jO e.ai e.ak e.seq e.ops):=by unfold Hid Pl.bR;rw [zZ1 k1]
   have HV:Hid (Pl.iJ e=.iface 218 (.agg #[.int .i64 e.ai,.int .i64 e.ak,.int .i64 e.seq,.slice e.aC e.ops.length e.aG])):=by unfold Hid Pl.iJ;rw [zZ1 k1]
   rw [HV.out] at HO
   unfold En.agg En.vals at *
   clear k1
   have hm:=Yl
   go_in
   go_wp2_with fail
   refine (HO.out _).mono ?_
   rintro r w1 ⟨rfl,hg⟩
   have hG:=((ae.rf w).alloc _).trans hg
   go_wp2_with fail
   refine (Yk hS E _ _ _ _ _ _ _ (HE.out.ag hG) (HA.out.ag hG).ops HA.out.few HA.out.ok).mono ?_
   rintro r w2 ⟨rfl,aB⟩
   go_wp2_with fail
   go_ret
   exact ⟨bt HR.out.symm,hG.trans aB⟩
 by_cases k2:e.kind=2
 · have HR:Hid (Pl.bR e=Pl.rR e.ai e.server):=by unfold Hid Pl.bR;rw [zZ0 k1,zZ1 k2]
   have HV:Hid (Pl.iJ e=.iface 245 (.agg #[.int .i64 e.ai,.int .i64 e.server])):=by unfold Hid Pl.iJ;rw [zZ0 k1,zZ1 k2]
   rw [HV.out] at HO
   unfold En.agg En.vals at *
   clear k1 k2
   have hm:=Ym
   go_in
   go_wp2_with fail
   refine (HO.out _).mono ?_
   rintro r w1 ⟨rfl,hg⟩
   have hG:=((ae.rf w).alloc _).trans hg
   go_wp2_with fail
   refine (Ye _ _ _).mono ?_
   rintro r w2 ⟨rfl,aB⟩
   go_wp2_with fail
   go_ret
   exact ⟨bt HR.out.symm,hG.trans aB⟩
 by_cases k3:e.kind=3
 · have HR:Hid (Pl.bR e=Pl.pI e.ai e.other e.server e.key):=by unfold Hid Pl.bR;rw [zZ0 k1,zZ0 k2,zZ1 k3]
   have HV:Hid (Pl.iJ e=.iface 215 (.agg #[.int .i64 e.ai,.int .i64 e.other,.int .i64 e.server,.string e.key])):=by unfold Hid Pl.iJ;rw [zZ0 k1,zZ0 k2,zZ1 k3]
   rw [HV.out] at HO
   have Nu:=af (HA.out.key k3)
   unfold En.agg En.vals at *
   clear k1 k2 k3
   have hm:=Yn
   go_in
   go_wp2_with fail
   refine (HO.out _).mono ?_
   rintro r w1 ⟨rfl,hg⟩
   have hG:=((ae.rf w).alloc _).trans hg
   go_wp2_with fail
   refine (Yg hS E _ _ _ _ _ (HE.out.ag hG) Nu.out).mono ?_
   rintro r w2 ⟨rfl,aB⟩
   go_wp2_with fail
   go_ret
   exact ⟨bt HR.out.symm,hG.trans aB⟩
 by_cases k4:e.kind=4
 · have HR:Hid (Pl.bR e=Pl.rS e.ai e.other):=by unfold Hid Pl.bR;rw [zZ0 k1,zZ0 k2,zZ0 k3,zZ1 k4]
   have HV:Hid (Pl.iJ e=.iface 247 (.agg #[.int .i64 e.ai,.int .i64 e.other])):=by unfold Hid Pl.iJ;rw [zZ0 k1,zZ0 k2,zZ0 k3,zZ1 k4]
   rw [HV.out] at HO
   unfold En.agg En.vals at *
   clear k1 k2 k3 k4
   have hm:=Yo
   go_in
   go_wp2_with fail
   refine (HO.out _).mono ?_
   rintro r w1 ⟨rfl,hg⟩
   have hG:=((ae.rf w).alloc _).trans hg
   go_wp2_with fail
   refine (Yf _ _ _).mono ?_
   rintro r w2 ⟨rfl,aB⟩
   go_wp2_with fail
   go_ret
   exact ⟨bt HR.out.symm,hG.trans aB⟩
 by_cases k5:e.kind=5
 · have HR:Hid (Pl.bR e=Pl.pJ e.ai e.upto e.parts e.part e.ar):=by unfold Hid Pl.bR;rw [zZ0 k1,zZ0 k2,zZ0 k3,zZ0 k4,zZ1 k5]
   have HV:Hid (Pl.iJ e=.iface 249 (.agg #[.int .i64 e.ai,.int .i64 e.upto,.int .i64 e.parts,.int .i64 e.part,.slice e.av e.ar e.aw])):=by unfold Hid Pl.iJ;rw [zZ0 k1,zZ0 k2,zZ0 k3,zZ0 k4,zZ1 k5]
   rw [HV.out] at HO
   unfold En.agg En.vals at *
   clear k1 k2 k3 k4 k5
   have hm:=Yp
   go_in
   go_wp2_with fail
   refine (HO.out _).mono ?_
   rintro r w1 ⟨rfl,hg⟩
   have hG:=((ae.rf w).alloc _).trans hg
   go_wp2_with fail
   refine (Yh _ _ _ _ _ _ _ _).mono ?_
   rintro r w2 ⟨rfl,aB⟩
   go_wp2_with fail
   go_ret
   exact ⟨bt HR.out.symm,hG.trans aB⟩
 have HR:Hid (Pl.bR e=false):=by unfold Hid Pl.bR;rw [zZ0 k1,zZ0 k2,zZ0 k3,zZ0 k4,zZ0 k5]
 have HV:Hid (Pl.iJ e=.nilIface):=by unfold Hid Pl.iJ;rw [zZ0 k1,zZ0 k2,zZ0 k3,zZ0 k4,zZ0 k5]
 rw [HV.out] at HO
 unfold En.agg En.vals at *
 clear k1 k2 k3 k4 k5
 go_in
 go_wp2_with fail
 refine (HO.out _).mono ?_
 rintro r w1 ⟨rfl,hg⟩
 go_wp2_with fail
 go_ret
 exact ⟨bt HR.out.symm,((ae.rf w).alloc _).trans hg⟩
end
section
open Go.RowKit Go.Maps
attribute [local go_sem] Oper.semAt_some
def iG (ks:List ByteArray):List Value:=ks.map Value.string
theorem uy:(Tryz.prog.info? 9).map (fun i=>(i.zero,i.size,i.bytes))=some (some (.string ⟨#[]⟩),1,16):=by kernel_rfl
theorem Yv {w:World} {B:Nat} {v:Value} {m:Nat} {ks:List ByteArray} (aD:w.ownsRow B 9 1 v m (iG ks)) (kb:Nat) (key:ByteArray) (hk:w.cell? ⟨kb,0,none⟩=some (.string key)) (hbig:m<=1000000) (hB:B<=w.heap.size) (ty:TypeId):
    ∃v' w',(Builtin.append_ #[95,95] ty #[v,.slice (some ⟨kb,0,none⟩) 1 1]).run Tryz.prog w=.ok v' w'/\w'.ownsRow B 9 1 v' (m+1) (iG (ks++[key]))/\w.grownBy w' v.ownBlock:=by
 obtain ⟨i0,hi0,hz0,hz1,hz2⟩:=info_parts uy
 obtain ⟨g,cap2,w2,h1,h2,h3,h4,h5⟩:=run_append_lies (P:=Tryz.prog) (w:=w) 95 ty B 9 i0 _ 1 16 Tryz.underlying95 hi0 hz0 hz1 hz2 rfl (by omega) v m (iG ks) aD ⟨kb,0,none⟩ 1 1 [.string key] rfl (fun j u hj=>by
  rw [Addr.add_lit]
  cases j with
  | zero=>cases hj;exact hk
  | succ j=>simp at hj) (fun u hu=>by simp at hu;subst hu;rfl) (by omega) (by unfold maxLen;omega) (by omega) hB _ rfl
 refine ⟨_,w2,h1,?_,h3⟩
 have e:iG (ks++[key])=iG ks++[.string key]:=by simp [iG]
 rw [e]
 exact h2
@[local go_sem] theorem za (v:Value) (xT:TypeId) (w:World):(Instr.typeAssert (.iface 218 v) xT 215 true).run Tryz.prog w=.ok (.tuple #[.agg #[.int .i64 0,.int .i64 0,.int .i64 0,.string ⟨#[]⟩],.bool false]) w:=by kernel_rfl
@[local go_sem] theorem CD (v:Value) (xT:TypeId) (w:World):(Instr.typeAssert (.iface 218 v) xT 218 true).run Tryz.prog w=.ok (.tuple #[v,.bool true]) w:=by kernel_rfl
theorem K5 {S:Nat->Bool} (hS:iW S) (E:Nat->Addr) (e:En) (w:World) (hE:aY S E w) (hA:bG w e) (hk:e.kind=1) (hr:Pl.bR e=true):
    Calls Tryz.prog 72 #[e.agg] w fun r w'=>(∃v,r=.returned v/\w'.ownsRow w.heap.size 9 1 v e.ops.length (iG (e.ops.map bC.key)))/\ae w w':=by
 have HR:=af (fun W (g:ae w W)=>py hS E e W (hE.ag g) (hA.ag g))
 rw [hr] at HR
 have HO:=af (fun W=>ui e W)
 have hrec:Pl.iJ e=.iface 218 (.agg #[.int .i64 e.ai,.int .i64 e.ak,.int .i64 e.seq,.slice e.aC e.ops.length e.aG]):=by unfold Pl.iJ;rw [zZ1 hk]
 rw [hrec] at HO
 have sY:=af hA.ops
 have fY:=hA.few
 clear hE hA hr hrec hk
 unfold En.agg En.vals at *
 obtain ⟨kind,ai,other,server,ak,seq,key,upto,part,parts,ops,aC,aG,av,ar,aw⟩:=e
 dsimp only at *
 obtain ⟨Y,hY⟩:∃Y,Y=w.alloc (.cells #[.int .i64 kind,.int .i64 ai,.int .i64 other,.int .i64 server,.int .i64 ak,.int .i64 seq,.slice aC ops.length aG,.string key,.int .i64 upto,.int .i64 part,.int .i64 parts,.slice av ar aw] 39):=⟨_,rfl⟩
 have gY:ae w Y:=by rw [hY];exact (ae.rf w).alloc _
 have HY:=af hY
 have cR:=af gY
 have lG:w.heap.size<Y.heap.size:=by rw [hY];simp
 clear hY gY
 go_in
 go_wp2_with fail
 rw [<-HY.out]
 refine (HR.out Y cR.out).mono ?_
 rintro e w1 ⟨rfl,aA⟩
 have d0:w1.cell? ⟨w.heap.size,0,none⟩=some (.int .i64 kind):=(aA.cells.1 _ 0 lG).trans (by rw [HY.out];simp [go_sem])
 have d1:w1.cell? ⟨w.heap.size,1,none⟩=some (.int .i64 ai):=(aA.cells.1 _ 1 lG).trans (by rw [HY.out];simp [go_sem])
 have d2:w1.cell? ⟨w.heap.size,2,none⟩=some (.int .i64 other):=(aA.cells.1 _ 2 lG).trans (by rw [HY.out];simp [go_sem])
 have d3:w1.cell? ⟨w.heap.size,3,none⟩=some (.int .i64 server):=(aA.cells.1 _ 3 lG).trans (by rw [HY.out];simp [go_sem])
 have d4:w1.cell? ⟨w.heap.size,4,none⟩=some (.int .i64 ak):=(aA.cells.1 _ 4 lG).trans (by rw [HY.out];simp [go_sem])
 have d5:w1.cell? ⟨w.heap.size,5,none⟩=some (.int .i64 seq):=(aA.cells.1 _ 5 lG).trans (by rw [HY.out];simp [go_sem])
 have d6:w1.cell? ⟨w.heap.size,6,none⟩=some (.slice aC ops.length aG):=(aA.cells.1 _ 6 lG).trans (by rw [HY.out];simp [go_sem])
 have d7:w1.cell? ⟨w.heap.size,7,none⟩=some (.string key):=(aA.cells.1 _ 7 lG).trans (by rw [HY.out];simp [go_sem])
 have d8:w1.cell? ⟨w.heap.size,8,none⟩=some (.int .i64 upto):=(aA.cells.1 _ 8 lG).trans (by rw [HY.out];simp [go_sem])
 have d9:w1.cell? ⟨w.heap.size,9,none⟩=some (.int .i64 part):=(aA.cells.1 _ 9 lG).trans (by rw [HY.out];simp [go_sem])
 have d10:w1.cell? ⟨w.heap.size,10,none⟩=some (.int .i64 parts):=(aA.cells.1 _ 10 lG).trans (by rw [HY.out];simp [go_sem])
 have d11:w1.cell? ⟨w.heap.size,11,none⟩=some (.slice av ar aw):=(aA.cells.1 _ 11 lG).trans (by rw [HY.out];simp [go_sem])
 have bI:=af (cR.out.trans aA)
 clear aA lG HR
 go_wp2_with fail
 clear d0 d1 d2 d3 d4 d5 d6 d7 d8 d9 d10 d11
 refine (HO.out w1).mono ?_
 rintro e w2 ⟨rfl,aB⟩
 have HG2:=af (bI.out.trans aB)
 clear aB HO
 obtain ⟨X,hX⟩:∃X,X=(w2.alloc (.cells #[.int .i64 0,.int .i64 0,.int .i64 0,.string ⟨#[]⟩] 215)).alloc (.cells #[.int .i64 ai,.int .i64 ak,.int .i64 seq,.slice aC ops.length aG] 218):=⟨_,rfl⟩
 have HX:=af hX
 have eo:=af (show ae w X from by rw [hX];exact (HG2.out.alloc _).alloc _)
 clear hX
 go_wp2_with fail
 rw [<-HX.out]
 go_loopw [8,35] (fun v i wr=>∃k:Nat,k<=ops.length/\i=.int .i64 k/\Hid (wr.ownsRow w.heap.size 9 1 v k (iG ((ops.take k).map bC.key)))/\ae w wr) (fun _ i _=>ops.length - (intOf i).toNat)
 case atStart=>exact ⟨0,Nat.zero_le _,rfl,World.ownsRow_nil _ _ _ _,eo.out⟩
 case round=>
  obtain ⟨k,hk1,rfl,HV,hG⟩:=hrel
  by_cases aq:k<ops.length
  · rcases sY.out with h0 | ⟨b,off,rfl,hb,hR⟩
    · rw [h0] at aq;simp at aq
    have q0:=(hG.cells.1 b (off+k*5) hb).trans (hR.kind k aq)
    have q1:=(hG.cells.1 b (off+k*5+1) hb).trans (hR.key k aq)
    have q2:=(hG.cells.1 b (off+k*5+2) hb).trans (hR.val k aq)
    have q3:=(hG.cells.1 b (off+k*5+3) hb).trans (hR.old k aq)
    have q4:=(hG.cells.1 b (off+k*5+4) hb).trans (hR.di k aq)
    have hat:bn ops k=ops[k]:=ym ops k aq
    have hnx:(ops.take (k+1)).map bC.key=(ops.take k).map bC.key++[(bn ops k).key]:=by
     rw [hat,zZ6 aq,List.map_append];rfl
    have kg:=af hnx
    clear hR hat hnx
    generalize bn ops k=c at *
    obtain ⟨c0,c1,c2,c3,c4⟩:=c
    dsimp only at *
    have GU:=af hG
    have gA:ae w ((wr.alloc (.cells #[.int .i64 c0,.string c1,.string c2,.string c3,.int .i64 c4] 88)).alloc (.cells #[.string c1] 9)):=(hG.alloc _).alloc _
    obtain ⟨v',W,hrun,aD,hgb⟩:=Yv (w:=(wr.alloc (.cells #[.int .i64 c0,.string c1,.string c2,.string c3,.int .i64 c4] 88)).alloc (.cells #[.string c1] 9)) ((World.ownsRow.alloc HV.out _).alloc _) (wr.heap.size+1) c1 (by simp [go_sem]) (by omega) gA.size 95
    rw [<-kg.out] at aD
    have K6:ae w W:=((gA.only _).then (aj.of_grownBy hgb)).ag fun j hj=>(HV.out.lt j hj.symm).1
    have HOWN:=af aD
    have ki:=af K6
    have cE:=af hrun
    clear gA aD hgb K6 hrun HV kg
    go_wp2_with (at_builtin;refine Lib.wpList_append_run _ rfl _ _ _ _ rfl _ _ rfl rfl _ _ cE.out ?_)
    clear q0 q1 q2 q3 q4 cE GU
    go_wp2_with fail
    go_roundw
    case rel=>exact ⟨k+1,by omega,by go_num,HOWN,ki.out⟩
    case measure=>simp [intOf];omega
  · obtain rfl:k=ops.length:=by omega
    go_wp2_with fail
    go_ret
    refine ⟨⟨_,rfl,?_⟩,hG⟩
    have:=HV.out
    rwa [zQ2] at this
end
section
open Go.Shelf
def Tryz.sortStr_ren:Go.Shelf.Ren:=⟨fun | 6=>75 | 15=>120 | 14=>119 | 28=>165 | 29=>166 | 20=>157 | 21=>158 | 22=>159 | 23=>160 | 24=>161 | 25=>162 | 26=>163 | 27=>164 | 46=>185 | 47=>186 | 48=>187 | 49=>188 | 50=>189 | 57=>198 | n=>n,fun | 22=>95 | 24=>9 | 25=>147 | 3=>3 | 39=>222 | 0=>0 | 53=>278 | 55=>280 | 4=>4 | 46=>272 | 45=>271 | 50=>268 | 5=>5 | 9=>9 | 66=>300 | 70=>304 | 76=>313 | 77=>314 | n=>n,fun | n=>n⟩
theorem Tryz.sortStr:Go.Proofs.SlLaysF.n6 Tryz.prog Tryz.sortStr_ren:={
 mixed:=by kernel_rfl
 f6:=⟨Tryz.f75.name,by decide,Tryz.func75.trans (congrArg some (by kernel_rfl))⟩
 f14:=⟨Tryz.f119.name,by decide,Tryz.func119.trans (congrArg some (by kernel_rfl))⟩
 f15:=Tryz.func120.trans (congrArg some (by kernel_rfl))
 f20:=⟨Tryz.f157.name,by decide,Tryz.func157.trans (congrArg some (by kernel_rfl))⟩
 f21:=⟨Tryz.f158.name,by decide,Tryz.func158.trans (congrArg some (by kernel_rfl))⟩
 f22:=⟨Tryz.f159.name,by decide,Tryz.func159.trans (congrArg some (by kernel_rfl))⟩
 f23:=⟨Tryz.f160.name,by decide,Tryz.func160.trans (congrArg some (by kernel_rfl))⟩
 f24:=⟨Tryz.f161.name,by decide,Tryz.func161.trans (congrArg some (by kernel_rfl))⟩
 f25:=⟨Tryz.f162.name,by decide,Tryz.func162.trans (congrArg some (by kernel_rfl))⟩
 f26:=⟨Tryz.f163.name,by decide,Tryz.func163.trans (congrArg some (by kernel_rfl))⟩
 f27:=⟨Tryz.f164.name,by decide,Tryz.func164.trans (congrArg some (by kernel_rfl))⟩
 f28:=Tryz.func165.trans (congrArg some (by kernel_rfl))
 f29:=Tryz.func166.trans (congrArg some (by kernel_rfl))
 f46:=⟨Tryz.f185.name,by decide,Tryz.func185.trans (congrArg some (by kernel_rfl))⟩
 f47:=Tryz.func186.trans (congrArg some (by kernel_rfl))
 f48:=Tryz.func187.trans (congrArg some (by kernel_rfl))
 f49:=⟨Tryz.f188.name,by decide,Tryz.func188.trans (congrArg some (by kernel_rfl))⟩
 f50:=⟨Tryz.f189.name,by decide,Tryz.func189.trans (congrArg some (by kernel_rfl))⟩
 f57:=⟨Tryz.f198.name,by decide,Tryz.func198.trans (congrArg some (by kernel_rfl))⟩
 t0:=Tryz.underlying0
 a0:=Tryz.isAgg0
 z0:=Tryz.sizeOf0
 v0:=Tryz.zeroValue0
 t3:=Tryz.underlying3
 a3:=Tryz.isAgg3
 z3:=Tryz.sizeOf3
 v3:=Tryz.zeroValue3
 t4:=Tryz.underlying4
 a4:=Tryz.isAgg4
 z4:=Tryz.sizeOf4
 v4:=Tryz.zeroValue4
 t5:=Tryz.underlying5
 a5:=Tryz.isAgg5
 z5:=Tryz.sizeOf5
 v5:=Tryz.zeroValue5
 t9:=Tryz.underlying9
 a9:=Tryz.isAgg9
 z9:=Tryz.sizeOf9
 v9:=Tryz.zeroValue9
 t22:=Tryz.underlying95
 a22:=Tryz.isAgg95
 z22:=Tryz.sizeOf95
 v22:=Tryz.zeroValue95
 a24:=Tryz.isAgg9
 z24:=Tryz.sizeOf9
 t25:=Tryz.underlying147
 a25:=Tryz.isAgg147
 z25:=Tryz.sizeOf147
 v25:=Tryz.zeroValue147
 t39:=Tryz.underlying222
 a39:=Tryz.isAgg222
 z39:=Tryz.sizeOf222
 v39:=Tryz.zeroValue222
 t45:=Tryz.underlying271
 a45:=Tryz.isAgg271
 z45:=Tryz.sizeOf271
 v45:=Tryz.zeroValue271
 t46:=Tryz.underlying272
 a46:=Tryz.isAgg272
 z46:=Tryz.sizeOf272
 v46:=Tryz.zeroValue272
 t50:=Tryz.underlying268
 a50:=Tryz.isAgg268
 z50:=Tryz.sizeOf268
 v50:=Tryz.zeroValue268
 t53:=Tryz.underlying278
 a53:=Tryz.isAgg278
 z53:=Tryz.sizeOf278
 v53:=Tryz.zeroValue278
 t55:=Tryz.underlying280
 a55:=Tryz.isAgg280
 z55:=Tryz.sizeOf280
 v55:=Tryz.zeroValue280
 t66:=Tryz.underlying300
 a66:=Tryz.isAgg300
 z66:=Tryz.sizeOf300
 v66:=Tryz.zeroValue300
 t70:=Tryz.underlying304
 a70:=Tryz.isAgg304
 z70:=Tryz.sizeOf304
 v70:=Tryz.zeroValue304
 t76:=Tryz.underlying313
 a76:=Tryz.isAgg313
 z76:=Tryz.sizeOf313
 v76:=Tryz.zeroValue313
 t77:=Tryz.underlying314
 a77:=Tryz.isAgg314
 z77:=Tryz.sizeOf314
 v77:=Tryz.zeroValue314}
end
section
open Go.RowKit Go.Shelf Go.Lib Go.Sort Go.Maps
attribute [local go_sem] Oper.semAt_some
structure kj where
 val:ByteArray
 ok:Pl.Ok val/\val.size<=70368744177664
instance:Inhabited kj:=⟨⟨⟨#[]⟩,⟨[],rfl⟩,by decide⟩⟩
def encS (x:kj):Value:=.string x.val
def yq (x y:kj):Int:=Pl.bE x.val y.val
theorem NA:SWO (ltOf yq) where
 irrefl x:=by
  unfold ltOf yq
  rw [decide_eq_false_iff_not,Pl.yV x.2.1];decide
 trans x y z h k:=by
  unfold ltOf yq at *
  rw [decide_eq_true_eq] at *
  exact Pl.pH x.2.1 y.2.1 z.2.1 h k
 ntrans x y z h k:=by
  unfold ltOf yq at *
  rw [decide_eq_false_iff_not] at *
  intro hz
  have s1:=Pl.qM x.2.1 y.2.1
  have s2:=Pl.qM y.2.1 z.2.1
  by_cases h1:Pl.bE y.1 x.1<0
  · have:=Pl.pH y.2.1 x.2.1 z.2.1 h1 hz
    omega
  · have h2:Pl.bE x.1 y.1=0:=by omega
    have e:=Pl.ug x.2.1 y.2.1 h2
    rw [e] at hz;omega
theorem Yw (x y:kj) (W:World):Calls Tryz.prog 76 #[.string x.val,.string y.val] W fun e w'=>e=.returned (.int .i64 (yq x y))/\cH W w':=by
 have hc:=fun W=>SN x.val y.val W x.2.2 y.2.2
 change ∀W,Calls Tryz.prog 77 _ W (fun e w'=>e=.returned (.int .i64 (yq x y))/\_) at hc
 have HC:=af hc
 clear hc
 generalize yq x y=r at HC ⊢
 go_in
 go_wp2_with fail
 refine (HC.out _).mono ?_
 rintro e w1 ⟨rfl,hg⟩
 go_wp2_with fail
 go_ret
 exact ⟨rfl,hg⟩
theorem NB (blk off size:Nat) (w:World):CmpLays1 Tryz.prog 76 #[] encS yq blk off size w:=
 fun _ _ _ _ x y=>(Yw x y _).mono fun _ _ ⟨he,hg⟩=>⟨he,hg.grown⟩
def ze (xs:List ByteArray) (hok:∀c∈xs,Pl.Ok c/\c.size<=70368744177664):Array kj:=(xs.attach.map fun c=>(⟨c.1,hok c.1 c.2⟩:kj)).toArray
theorem S4 (xs:List ByteArray) (hok):(ze xs hok).toList.map kj.val=xs:=by unfold ze;simp
theorem GV (xs:List ByteArray) (hok):(ze xs hok).size=xs.length:=by unfold ze;simp
theorem S5 (d:Array kj):d.toList.map encS=iG (d.toList.map kj.val):=by unfold iG encS;rw [List.map_map];rfl
theorem S6 {α:Type} [Inhabited α] (enc:α->Value) {w:World} {B:Nat} {e:TypeId} {g cap n:Nat} {L:List Value} (ho:w.ownsRow B e 1 (.slice (some ⟨g,0,none⟩) n cap) n L) (h0:0<n) (F:Array α) (hF:F.size=n):
    (putRow enc w g 0 F).ownsRow B e 1 (.slice (some ⟨g,0,none⟩) n cap) n (F.toList.map enc)/\aj (fun j=>j=g) w (putRow enc w g 0 F):=by
 obtain ⟨g',cap',cur,e1,hB,hg,hn,hc,hl,hx⟩:=rP ho h0
 cases e1
 have hheap:(putRow enc w g 0 F).heap[g]? =some (.cells ((putCells enc 0 F cur.toArray).toList).toArray e (0,0)):=by
  unfold putRow mapBlock
  dsimp only
  rw [Array.getElem?_modify,zZ1 rfl,hg]
  simp [onCells]
 refine ⟨na hB hheap hn hc ?_ ?_,⟨rfl,rfl,rfl,?_,?_⟩⟩
 · unfold putCells;simp [hl]
 · apply zK1
   intro t
   rw [List.getElem?_take]
   by_cases ht:t<n*1
   · rw [zZ1 ht]
     have h1:(putCells enc 0 F cur.toArray).toList[t]? =some (enc F[t]!):=by
      unfold putCells
      rw [zJ6,Array.getElem?_mapIdx]
      have:cur.toArray[t]? =some cur[t]:=by simp [List.getElem?_eq_getElem (show t<cur.length by omega)]
      rw [this]
      simp only [Option.map_some,Nat.zero_le,zK0,Nat.sub_zero,true_and]
      rw [zZ1 (by omega)]
     rw [h1,List.getElem?_map,zJ6,getElem!_pos F t (by omega),zJ7 (by omega)];rfl
   · rw [zZ0 ht,zJ1 (by simp;omega)]
 · unfold putRow mapBlock;simp
 · intro j hj hne
   unfold putRow mapBlock
   dsimp only
   rw [Array.getElem?_modify,zZ0 (fun h=>hne h.symm)]
theorem uz (w:World) (B g cap:Nat) (xs:List ByteArray) (ho:w.ownsRow B 9 1 (.slice (some ⟨g,0,none⟩) xs.length cap) xs.length (iG xs)) (h0:0<xs.length) (hbig:xs.length<=1000000) (hok:∀c∈xs,Pl.Ok c/\c.size<=70368744177664):
    Calls Tryz.prog 75 #[.slice (some ⟨g,0,none⟩) xs.length cap,.func (.func 76) #[] #[]] w fun e w'=>e=.returned (.tuple #[])/\aj (fun j=>j=g) w w'/\∃zs:List ByteArray,zs.Perm xs/\zs.Pairwise (fun a b=>¬Pl.bE b a<0)/\w'.ownsRow B 9 1 (.slice (some ⟨g,0,none⟩) zs.length cap) zs.length (iG zs):=by
 obtain ⟨g',cap',cur,e1,hB,hg,hn,hc,hl,hx⟩:=rP ho h0
 cases e1
 have aq:g<w.heap.size:=(zZ2.1 hg).1
 have hH:Holds encS w g 0 (ze xs hok):=by
  intro j hj
  have hj':=hj
  rw [GV] at hj'
  refine ⟨?_,by simp [World.frozen?,hg]⟩
  rw [zK0,fA hg j]
  have h1:cur[j]? =(iG xs)[j]? :=by rw [<-hx,List.getElem?_take,zZ1 (by omega)]
  have h2:=S5 (ze xs hok)
  rw [S4] at h2
  rw [h1,<-h2,List.getElem?_map,zJ6,zJ7 hj,getElem!_pos _ j hj];rfl
 have eg:∀args w,(callFunc 76 args).run Tryz.prog w=.ok (.enter 76 args) w:=enters_of Tryz.func76 (by kernel_rfl) rfl
 have hcon:=Any.slices_SortFunc Tryz.sortStr encS (fun _=>rfl) yq NA 76 #[] g 0 cap (ze xs hok) w eg (NB g 0 _ w) hH aq (by rw [GV];omega)
 rw [GV] at hcon
 refine hcon.mono ?_
 rintro e w' ⟨he,d',n,os,hp,hd,hw⟩
 obtain ⟨hs,_,hperm⟩:=hp
 rw [GV] at hs
 have e1:(ze xs hok).extract 0 xs.length=ze xs hok:=by rw [<-GV xs hok];simp
 have e2:d'.extract 0 xs.length=d':=by rw [<-hs];simp
 rw [e1,e2] at hperm
 have hlen:(d'.toList.map kj.val).length=xs.length:=by simp [hs]
 obtain ⟨hr,hO⟩:=S6 encS (w:=Sort.ahead w n) (show (Sort.ahead w n).ownsRow B 9 1 _ _ _ from ho) h0 d' hs
 have fL:aj (fun j=>j=g) w (putRow encS (Sort.ahead w n) g 0 d'):=(aj.mono (show aj (fun j=>j=g) w (Sort.ahead w n) from ⟨rfl,rfl,rfl,zZ3 _,fun _ _ _=>rfl⟩) (fun _ h=> .inl h)).then hO
 have hG:ae (putRow encS (Sort.ahead w n) g 0 d') w':=by
  rw [hw]
  refine ⟨rfl,rfl,rfl,?_,?_⟩
  · unfold sortWorld grow;simp
  · intro k hk
    show (_++os)[k]? =_
    rw [Array.getElem?_append]
    exact zZ1 hk
 refine ⟨he,fL.cm hG,d'.toList.map kj.val,?_,?_,?_⟩
 · have:=hperm.map kj.val
   rwa [S4] at this
 · rw [List.pairwise_map,zX0]
   intro i j hi hj hij
   have:=hd i j (Nat.zero_le _) hij (by simpa [hs] using hj)
   rw [getElem!_pos d' i (by simpa using hi),getElem!_pos d' j (by simpa using hj)] at this
   unfold ltOf yq at this
   simpa using this
 · rw [hlen,<-S5]
   exact gI hG hr
theorem S7 (p:Option Addr) (cap:Nat) (fv:Value) (W:World):Calls Tryz.prog 75 #[.slice p 0 cap,fv] W fun e w'=>e=.returned (.tuple #[])/\w'=W:=
 AnyF.slices_SortFunc_none (P:=Tryz.prog) (ρ:=Tryz.sortStr_ren) {Tryz.sortStr with} p cap fv W
end
section
open Go.RowKit
namespace Pl
def isKey (s:ByteArray):Bool:=decide (aF s=0)
def aP (s:ByteArray):Bool:=s.toList.isEmpty
def dv (s:ByteArray):Bool:=aP s || isKey s
def cI (key hi:ByteArray):Bool:=aP hi || decide (bE key hi<0)
def bf (lo hi:ByteArray):Bool:=dv lo && dv hi && cI lo hi
def aL (lo hi key:ByteArray):Bool:=bf lo hi && isKey key && decide (0<=bE key lo) && cI key hi
end Pl
theorem K7 (E:Nat->Addr) (s:ByteArray) (h:Pl.isKey s=true):aX E (Pl.aF s)=.nilIface:=by
 unfold Pl.isKey at h;rw [of_decide_eq_true h];rfl
theorem K8 (E:Nat->Addr) (s:ByteArray) (h:Pl.isKey s=false):aX E (Pl.aF s)=.iface 337 (.pointer (some (E (Pl.aF s)))):=
 sX E _ (of_decide_eq_false h)
def jP (S:Nat->Bool):Prop:=S 2=true/\S 3=true/\S 6=true/\S 7=true
theorem GW (S:Nat->Bool) (E:Nat->Addr) (hS:jP S) (s:ByteArray) (w:World) (hs:s.size<=140737488351232) (hE:aY S E w):
    Calls Tryz.prog 64 #[.string s] w fun e w'=>e=.returned (.bool (Pl.dv s))/\ae w w':=by
 obtain ⟨h2,h3,h6,h7⟩:=hS
 have hkey:=mZ S E h2 h3 h6 h7 s w hs hE
 clear h2 h3 h6 h7 hE
 cases he:s.toList.isEmpty with
 | true=>
  have e:Pl.dv s=true:=by unfold Pl.dv Pl.aP;rw [he];rfl
  have e2:s.toList=[]:=by simpa using he
  have HE:=af e
  clear e hkey
  go_in
  go_wp2
  go_ret
  exact ⟨bt HE.out.symm,ae.rf _⟩
 | false=>
  have e2:(!s.toList.isEmpty)=true:=by rw [he];rfl
  have e3:¬s.toList=[]:=by simpa using he
  cases hk:Pl.isKey s with
  | true=>
   have e:Pl.dv s=true:=by unfold Pl.dv;rw [hk];simp
   have HE:=af e
   rw [K7 E s hk] at hkey
   have HK:=af hkey
   clear e hk hkey
   go_in
   go_wp2_with (go_at_call 113;refine HK.out.mono ?_;rintro e w' ⟨rfl,hg⟩)
   go_ret
   exact ⟨bt HE.out.symm,by assumption⟩
  | false=>
   have e:Pl.dv s=false:=by unfold Pl.dv Pl.aP;rw [hk,he];rfl
   have HE:=af e
   rw [K8 E s hk] at hkey
   have HK:=af hkey
   clear e hk hkey
   go_in
   go_wp2_with (go_at_call 113;refine HK.out.mono ?_;rintro e w' ⟨rfl,hg⟩)
   go_ret
   exact ⟨bt HE.out.symm,by assumption⟩
theorem S8 (key hi:ByteArray) (w:World) (hk:key.size<=70368744177664) (hh:hi.size<=70368744177664):
    Calls Tryz.prog 65 #[.string key,.string hi] w fun e w'=>e=.returned (.bool (Pl.cI key hi))/\ae w w':=by
 cases he:hi.toList.isEmpty with
 | true=>
  have e:Pl.cI key hi=true:=by unfold Pl.cI Pl.aP;rw [he];rfl
  have e2:hi.toList=[]:=by simpa using he
  have HE:=af e
  clear e
  go_in
  go_wp2
  go_ret
  exact ⟨bt HE.out.symm,ae.rf _⟩
 | false=>
  have e2:(!hi.toList.isEmpty)=true:=by rw [he];rfl
  have e3:¬hi.toList=[]:=by simpa using he
  have e:Pl.cI key hi=decide (Pl.bE key hi<0):=by unfold Pl.cI Pl.aP;rw [he];rfl
  have HE:=af e
  clear e
  go_in
  go_wp2_with (go_at_call 77;refine (GQ _ _ _ hk hh).mono ?_;rintro e w' ⟨rfl,hg⟩)
  go_ret
  exact ⟨bt HE.out.symm,by assumption⟩
theorem jm (S:Nat->Bool) (E:Nat->Addr) (hS:jP S) (lo hi:ByteArray) (w:World) (hl:lo.size<=70368744177664) (hh:hi.size<=70368744177664) (hE:aY S E w):
    Calls Tryz.prog 31 #[.agg #[.string lo,.string hi]] w fun e w'=>e=.returned (.bool (Pl.bf lo hi))/\ae w w':=by
 have HE:=af hE
 have hle:lo.size<=140737488351232:=by omega
 have S9:hi.size<=140737488351232:=by omega
 clear hE
 cases h1:Pl.dv lo with
 | false=>
  have hr:Pl.bf lo hi=false:=by unfold Pl.bf;rw [h1];rfl
  have HR:=af hr
  clear hr
  go_in
  go_wp2_with fail
  refine (GW S E hS lo _ hle (HE.out.ag ((ae.rf w).alloc _))).mono ?_
  rintro e w1 ⟨rfl,hg⟩
  go_wp2_with fail
  go_ret
  exact ⟨bt HR.out.symm,((ae.rf w).alloc _).trans hg⟩
 | true=>
  cases h2:Pl.dv hi with
  | false=>
   have hr:Pl.bf lo hi=false:=by unfold Pl.bf;rw [h1,h2];rfl
   have HR:=af hr
   clear hr
   go_in
   go_wp2_with fail
   refine (GW S E hS lo _ hle (HE.out.ag ((ae.rf w).alloc _))).mono ?_
   rintro e w1 ⟨rfl,hg⟩
   have hG:ae w w1:=((ae.rf w).alloc _).trans hg
   obtain ⟨hc,_⟩:=hg.cells
   go_wp2_with fail
   refine (GW S E hS hi _ S9 (HE.out.ag hG)).mono ?_
   rintro e w2 ⟨rfl,aB⟩
   go_wp2_with fail
   go_ret
   exact ⟨bt HR.out.symm,hG.trans aB⟩
  | true=>
   have hr:Pl.bf lo hi=Pl.cI lo hi:=by unfold Pl.bf;rw [h1,h2];rfl
   have HR:=af hr
   clear hr
   go_in
   go_wp2_with fail
   refine (GW S E hS lo _ hle (HE.out.ag ((ae.rf w).alloc _))).mono ?_
   rintro e w1 ⟨rfl,hg⟩
   have hG:ae w w1:=((ae.rf w).alloc _).trans hg
   obtain ⟨hc,_⟩:=hg.cells
   go_wp2_with fail
   refine (GW S E hS hi _ S9 (HE.out.ag hG)).mono ?_
   rintro e w2 ⟨rfl,aB⟩
   have hz:w.heap.size<w1.heap.size:=by have:=hg.size;simp at this;omega
   obtain ⟨hc2,_⟩:=aB.cells
   go_wp2_with fail
   refine (S8 lo hi _ hl hh).mono ?_
   rintro e w3 ⟨rfl,hg3⟩
   go_wp2_with fail
   go_ret
   exact ⟨bt HR.out.symm,(hG.trans aB).trans hg3⟩
theorem CE (S:Nat->Bool) (E:Nat->Addr) (hS:jP S) (lo hi key:ByteArray) (w:World) (hl:lo.size<=70368744177664) (hh:hi.size<=70368744177664) (hk:key.size<=70368744177664) (hE:aY S E w):
    Calls Tryz.prog 74 #[.agg #[.string lo,.string hi],.string key] w fun e w'=>e=.returned (.bool (Pl.aL lo hi key))/\ae w w':=by
 have HE:=af hE
 obtain ⟨s2,s3,s6,s7⟩:=id hS
 clear hE
 cases h1:Pl.bf lo hi with
 | false=>
  have hr:Pl.aL lo hi key=false:=by unfold Pl.aL;rw [h1];rfl
  have HR:=af hr
  clear hr
  go_in
  go_wp2_with fail
  refine (jm S E hS lo hi _ hl hh (HE.out.ag ((ae.rf w).alloc _))).mono ?_
  rintro e w1 ⟨rfl,hg⟩
  go_wp2_with fail
  go_ret
  exact ⟨bt HR.out.symm,((ae.rf w).alloc _).trans hg⟩
 | true=>
  cases h2:Pl.isKey key with
  | false=>
   have hr:Pl.aL lo hi key=false:=by unfold Pl.aL;rw [h1,h2];rfl
   have HR:=af hr
   have HK:=af (K8 E key h2)
   clear hr
   go_in
   go_wp2_with fail
   refine (jm S E hS lo hi _ hl hh (HE.out.ag ((ae.rf w).alloc _))).mono ?_
   rintro e w1 ⟨rfl,hg⟩
   have hG:ae w w1:=((ae.rf w).alloc _).trans hg
   go_wp2_with fail
   refine (mZ S E s2 s3 s6 s7 key _ (by omega) (HE.out.ag hG)).mono ?_
   rw [HK.out]
   rintro e w2 ⟨rfl,aB⟩
   go_wp2_with fail
   go_ret
   exact ⟨bt HR.out.symm,hG.trans aB⟩
  | true=>
   have HK:=af (K7 E key h2)
   by_cases h3:0<=Pl.bE key lo
   · have hr:Pl.aL lo hi key=Pl.cI key hi:=by unfold Pl.aL;rw [h1,h2,decide_eq_true h3];rfl
     have HR:=af hr
     clear hr
     go_in
     go_wp2_with fail
     refine (jm S E hS lo hi _ hl hh (HE.out.ag ((ae.rf w).alloc _))).mono ?_
     rintro e w1 ⟨rfl,hg⟩
     have hG:ae w w1:=((ae.rf w).alloc _).trans hg
     have hz:w.heap.size<w1.heap.size:=by have:=hg.size;simp at this;omega
     obtain ⟨hc,_⟩:=hg.cells
     go_wp2_with fail
     refine (mZ S E s2 s3 s6 s7 key _ (by omega) (HE.out.ag hG)).mono ?_
     rw [HK.out]
     rintro e w2 ⟨rfl,aB⟩
     have hz2:w.heap.size<w2.heap.size:=by have:=aB.size;omega
     obtain ⟨hc2,_⟩:=aB.cells
     go_wp2_with fail
     refine (GQ key lo _ hk hl).mono ?_
     rintro e w3 ⟨rfl,hg3⟩
     obtain ⟨hc3,_⟩:=hg3.cells
     go_wp2_with fail
     refine (S8 key hi _ hk hh).mono ?_
     rintro e w4 ⟨rfl,hg4⟩
     go_wp2_with fail
     go_ret
     exact ⟨bt HR.out.symm,((hG.trans aB).trans hg3).trans hg4⟩
   · have hr:Pl.aL lo hi key=false:=by unfold Pl.aL;rw [h1,h2,decide_eq_false h3];rfl
     have HR:=af hr
     clear hr
     go_in
     go_wp2_with fail
     refine (jm S E hS lo hi _ hl hh (HE.out.ag ((ae.rf w).alloc _))).mono ?_
     rintro e w1 ⟨rfl,hg⟩
     have hG:ae w w1:=((ae.rf w).alloc _).trans hg
     have hz:w.heap.size<w1.heap.size:=by have:=hg.size;simp at this;omega
     obtain ⟨hc,_⟩:=hg.cells
     go_wp2_with fail
     refine (mZ S E s2 s3 s6 s7 key _ (by omega) (HE.out.ag hG)).mono ?_
     rw [HK.out]
     rintro e w2 ⟨rfl,aB⟩
     have hz2:w.heap.size<w2.heap.size:=by have:=aB.size;omega
     obtain ⟨hc2,_⟩:=aB.cells
     go_wp2_with fail
     refine (GQ key lo _ hk hl).mono ?_
     rintro e w3 ⟨rfl,hg3⟩
     go_wp2_with fail
     go_ret
     exact ⟨bt HR.out.symm,(hG.trans aB).trans hg3⟩
end
end Go.Proofs.YtbnofojapimfcaaGreatDoor
