/- Part 34 of the proof. -/
import Derived.Test.YtbnofojapimfcaaGreatDoorFinWatchStepsQ33
set_option linter.unusedVariables false
set_option linter.unusedSectionVars false
set_option linter.unusedSimpArgs false
set_option maxRecDepth 100000
set_option maxHeartbeats 16000000
namespace Go.Proofs.YtbnofojapimfcaaGreatDoor
section
open Go.RowKit
attribute [local go_sem] Oper.semAt_some
structure Ac where
 e:En
 at':Int
def En.zero:En:=⟨0,0,0,0,0,0,⟨#[]⟩,0,0,0,[],none,0,none,0,0⟩
def Ac.vals (a:Ac):List Value:=a.e.vals++[.int .i64 a.at']
instance:Inhabited Ac:=⟨⟨En.zero,0⟩⟩
def cV (xs:List Ac) (j:Nat):Ac:=xs[j]?.getD default
theorem MM (xs:List Ac) (i:Nat) (hi:i<xs.length):cV xs i=xs[i]:=by unfold cV;rw [List.getElem?_eq_getElem hi];rfl
structure mX (W:World) (a:Option Addr) (xs:List Ac):Prop where
 row:xs=[]\/∃b off,a=some ⟨b,off,none⟩/\b<W.heap.size/\∀j,j<xs.length->∀k v,(cV xs j).vals[k]? =some v->W.cell? ⟨b,off+j*13+k,none⟩=some v
 ops:∀j,j<xs.length->rQ W (cV xs j).e.aC (cV xs j).e.ops
theorem mX.ag {W W':World} {a:Option Addr} {xs:List Ac} (h:mX W a xs) (g:ae W W'):mX W' a xs:=by
 refine ⟨?_,fun j hj=>(h.ops j hj).ag g⟩
 rcases h.row with h0 | ⟨b,off,e,hb,hr⟩
 · exact .inl h0
 · exact .inr ⟨b,off,e,ltT hb g.size,fun j hj k v hv=>(g.cells.1 _ _ hb).trans (hr j hj k v hv)⟩
theorem Wa {W:World} {b off:Nat} {a:Ac} (h:∀k v,a.vals[k]? =some v->W.cell? ⟨b,off+k,none⟩=some v):W.cell? ⟨b,off,none⟩=some (.int .i64 a.e.kind)/\W.cell? ⟨b,off+1,none⟩=some (.int .i64 a.e.ai)/\W.cell? ⟨b,off+2,none⟩=some (.int .i64 a.e.other)/\W.cell? ⟨b,off+3,none⟩=some (.int .i64 a.e.server)/\W.cell? ⟨b,off+4,none⟩=some (.int .i64 a.e.ak)/\W.cell? ⟨b,off+5,none⟩=some (.int .i64 a.e.seq)/\W.cell? ⟨b,off+6,none⟩=some (.slice a.e.aC a.e.ops.length a.e.aG)/\W.cell? ⟨b,off+7,none⟩=some (.string a.e.key)/\W.cell? ⟨b,off+8,none⟩=some (.int .i64 a.e.upto)/\W.cell? ⟨b,off+9,none⟩=some (.int .i64 a.e.part)/\W.cell? ⟨b,off+10,none⟩=some (.int .i64 a.e.parts)/\W.cell? ⟨b,off+11,none⟩=some (.slice a.e.av a.e.ar a.e.aw)/\W.cell? ⟨b,off+12,none⟩=some (.int .i64 a.at'):=
 ⟨h 0 _ rfl,h 1 _ rfl,h 2 _ rfl,h 3 _ rfl,h 4 _ rfl,h 5 _ rfl,h 6 _ rfl,h 7 _ rfl,h 8 _ rfl,h 9 _ rfl,h 10 _ rfl,h 11 _ rfl,h 12 _ rfl⟩
def bC.long (o:bC):Bool:=decide (300<o.key.size) || decide (300<o.val.size) || decide (300<o.old.size)
def Ac.long (a:Ac):Bool:=decide (20<a.e.ops.length) || decide (300<a.e.key.size) || decide (600<a.e.ar) || a.e.ops.any bC.long
theorem y9X (xs:List Ac) (k:Nat) (h:k<xs.length):(xs.take (k+1)).any Ac.long=((xs.take k).any Ac.long || (cV xs k).long):=by
 rw [zZ6 h,MM xs k h,List.any_append];simp
theorem z3P (xs:List Ac) (k:Nat) (h:k<xs.length) (hl:(cV xs k).long=true):xs.any Ac.long=true:=by
 rw [MM xs k h] at hl
 exact zZ5.2 ⟨xs[k],zQ5 h,hl⟩
theorem y9R (xs:List bC) (k:Nat) (h:k<xs.length):(xs.take (k+1)).any bC.long=((xs.take k).any bC.long || (bn xs k).long):=by
 rw [zZ6 h,ym xs k h,List.any_append];simp
theorem z3J (xs:List bC) (k:Nat) (h:k<xs.length) (hl:(bn xs k).long=true):xs.any bC.long=true:=by
 rw [ym xs k h] at hl
 exact zZ5.2 ⟨xs[k],zQ5 h,hl⟩
def Gq (a:Ac):Prop:=a.e.ops.length<=9223372036854775807/\a.e.key.size<=9223372036854775807/\a.e.ar<=9223372036854775807/\∀j,j<a.e.ops.length->(bn a.e.ops j).key.size<=9223372036854775807/\(bn a.e.ops j).val.size<=9223372036854775807/\(bn a.e.ops j).old.size<=9223372036854775807
end
section
open Go.RowKit Go.Maps
section
variable {P:Program}
end
end
section
open Go.RowKit
attribute [local go_sem] Oper.semAt_some
def tN (lo hi:ByteArray) (xs:List Ac):Bool:=decide (60<xs.length) || decide (300<lo.size) || decide (300<hi.size) || xs.any Ac.long
theorem y9u {lo hi:ByteArray} {xs:List Ac} (h:tN lo hi xs=false):xs.length<=60/\lo.size<=300/\hi.size<=300/\∀j,j<xs.length->(cV xs j).e.ops.length<=20/\(cV xs j).e.key.size<=300/\(cV xs j).e.ar<=600/\∀o∈(cV xs j).e.ops,o.key.size<=300/\o.val.size<=300/\o.old.size<=300:=by
 unfold tN at h
 simp only [Bool.or_eq_false_iff,decide_eq_false_iff_not] at h
 refine ⟨by omega,by omega,by omega,fun j hj=>?_⟩
 have:=zZ9.1 h.2 _ (zQ5 hj)
 rw [<-MM xs j hj] at this
 unfold Ac.long at this
 simp only [Bool.or_eq_true,decide_eq_true_eq,not_or] at this
 obtain ⟨⟨⟨h1,h2⟩,h3⟩,h4⟩:=this
 refine ⟨by omega,by omega,by omega,fun o ho=>?_⟩
 have h5:=zZ9.1 (by simpa using h4:(cV xs j).e.ops.any bC.long=false) o ho
 unfold bC.long at h5
 simp only [Bool.or_eq_true,decide_eq_true_eq,not_or] at h5
 omega
theorem z1Y (a:Option Addr) (cap:Nat) (xs:List Ac) (lo hi:ByteArray) (hlo:lo.size<=9223372036854775807) (hhi:hi.size<=9223372036854775807) (w:World) (hA:mX w a xs) (hx:xs.length<=9223372036854775807) (hk:∀j,j<xs.length->Gq (cV xs j)):
    Calls Tryz.prog 6 #[.slice a xs.length cap,.agg #[.string lo,.string hi]] w fun e w'=>e=.returned (.bool (tN lo hi xs))/\ae w w':=by
 by_cases QX:60<xs.length
 · have e:tN lo hi xs=true:=by unfold tN;rw [decide_eq_true QX];rfl
   rw [e]
   clear e
   have h1:(60:Int)<(xs.length:Int):=by omega
   go_in
   go_wp2_with fail
   go_ret
   exact ⟨rfl,(ae.rf w).alloc _⟩
 by_cases hs1:(300:Int)<(lo.size:Int)
 · have e:tN lo hi xs=true:=by unfold tN;simp only [Bool.or_eq_true,decide_eq_true_eq];omega
   have h1:(xs.length:Int)<=60:=by omega
   rw [e]
   clear e
   go_in
   go_wp2_with fail
   go_ret
   exact ⟨rfl,(ae.rf w).alloc _⟩
 by_cases hs2:(300:Int)<(hi.size:Int)
 · have e:tN lo hi xs=true:=by unfold tN;simp only [Bool.or_eq_true,decide_eq_true_eq];omega
   have h1:(xs.length:Int)<=60:=by omega
   rw [e]
   clear e
   go_in
   go_wp2_with fail
   go_ret
   exact ⟨rfl,(ae.rf w).alloc _⟩
 · have h1:(xs.length:Int)<=60:=by omega
   have e:tN lo hi xs=xs.any Ac.long:=by unfold tN;rw [decide_eq_false QX,decide_eq_false (by omega),decide_eq_false (by omega)];rfl
   have HE:=af e
   have HA:=af hA
   have HK:=af hk
   clear e QX hA hk
   go_in
   go_wp2_with fail
   go_loopw [27] (fun i wr=>∃k:Nat,k<=xs.length/\i=.int .i64 k/\(xs.take k).any Ac.long=false/\ae w wr) (fun i _=>xs.length - (intOf i).toNat)
   case atStart=>exact ⟨0,Nat.zero_le _,rfl,rfl,(ae.rf w).alloc _⟩
   case round=>
    obtain ⟨k,hk1,rfl,hno,hG⟩:=hrel
    obtain ⟨wo,rfl⟩:∃wo:World,wo=wr:=⟨_,rfl⟩
    by_cases aq:k<xs.length
    · rcases HA.out.row with h0 | ⟨b,off,rfl,hb,hR⟩
      · rw [h0] at aq;simp at aq
      obtain ⟨q0,q1,q2,q3,q4,q5,q6,q7,q8,q9,Aw,gH,o6⟩:=Wa (W:=wo) (b:=b) (off:=off+k*13) (a:=cV xs k) (fun i v hv=>(hG.cells.1 _ _ hb).trans (hR k aq i v hv))
      have zW:=af (HA.out.ops k aq)
      have HN:=af (y9X xs k aq)
      have HY:=af (z3P xs k aq)
      have yJ:=af hno
      obtain ⟨cl,ck,cd,co⟩:=HK.out k aq
      have MN:=af co
      clear hR hno co
      generalize cV xs k=A at *
      obtain ⟨⟨kind,ai,other,server,ak,seq,key,upto,part,parts,ops,aC,aG,av,ar,aw⟩,at'⟩:=A
      dsimp only at *
      by_cases l1:(20:Int)<(ops.length:Int)
      · have HL:Hid (Ac.long ⟨⟨kind,ai,other,server,ak,seq,key,upto,part,parts,ops,aC,aG,av,ar,aw⟩,at'⟩=true):=by
         unfold Hid Ac.long;rw [decide_eq_true (by dsimp only;omega)];rfl
        go_wp2_with fail
        go_ret
        exact ⟨bt (by rw [HE.out,HY.out HL.out]),(hG.alloc _).alloc _⟩
      by_cases l2:(300:Int)<(key.size:Int)
      · have HL:Hid (Ac.long ⟨⟨kind,ai,other,server,ak,seq,key,upto,part,parts,ops,aC,aG,av,ar,aw⟩,at'⟩=true):=by
         unfold Hid Ac.long;simp only [Bool.or_eq_true,decide_eq_true_eq];omega
        go_wp2_with fail
        go_ret
        exact ⟨bt (by rw [HE.out,HY.out HL.out]),(hG.alloc _).alloc _⟩
      by_cases l3:(600:Int)<(ar:Int)
      · have HL:Hid (Ac.long ⟨⟨kind,ai,other,server,ak,seq,key,upto,part,parts,ops,aC,aG,av,ar,aw⟩,at'⟩=true):=by
         unfold Hid Ac.long;simp only [Bool.or_eq_true,decide_eq_true_eq];omega
        go_wp2_with fail
        go_ret
        exact ⟨bt (by rw [HE.out,HY.out HL.out]),(hG.alloc _).alloc _⟩
      have MO:Hid (Ac.long ⟨⟨kind,ai,other,server,ak,seq,key,upto,part,parts,ops,aC,aG,av,ar,aw⟩,at'⟩=ops.any bC.long):=by
       unfold Hid Ac.long
       rw [decide_eq_false (by dsimp only;omega),decide_eq_false (by dsimp only;omega),decide_eq_false (by dsimp only;omega)]
       rfl
      go_wp2_with fail
      have HG2:=af ((hG.alloc (Obj.cells #[.int .i64 kind,.int .i64 ai,.int .i64 other,.int .i64 server,.int .i64 ak,.int .i64 seq,.slice aC ops.length aG,.string key,.int .i64 upto,.int .i64 part,.int .i64 parts,.slice av ar aw,.int .i64 at'] 41)).alloc (Obj.cells #[.int .i64 kind,.int .i64 ai,.int .i64 other,.int .i64 server,.int .i64 ak,.int .i64 seq,.slice aC ops.length aG,.string key,.int .i64 upto,.int .i64 part,.int .i64 parts,.slice av ar aw] 39))
      clear q0 q1 q2 q3 q4 q5 q6 q7 q8 q9 Aw gH o6
      have bD:=HG2.out
      clear HG2
      generalize World.alloc (World.alloc wo _) _=w2 at bD ⊢
      clear hG
      go_loopw [52] (fun i wr=>∃m:Nat,m<=ops.length/\i=.int .i64 m/\(ops.take m).any bC.long=false/\ae w wr) (fun i _=>ops.length - (intOf i).toNat)
      case atStart=>exact ⟨0,Nat.zero_le _,rfl,rfl,bD⟩
      case round=>
       obtain ⟨m,hm1,rfl,hmo,yM⟩:=hrel
       by_cases pE:m<ops.length
       · rcases zW.out with h0 | ⟨ob,xk,rfl,gL,Ax⟩
         · rw [h0] at pE;simp at pE
         have p0:=(yM.cells.1 ob (xk+m*5) gL).trans (Ax.kind m pE)
         have p1:=(yM.cells.1 ob (xk+m*5+1) gL).trans (Ax.key m pE)
         have p2:=(yM.cells.1 ob (xk+m*5+2) gL).trans (Ax.val m pE)
         have p3:=(yM.cells.1 ob (xk+m*5+3) gL).trans (Ax.old m pE)
         have p4:=(yM.cells.1 ob (xk+m*5+4) gL).trans (Ax.di m pE)
         have HMN:=af (y9R ops m pE)
         have QY:=af (z3J ops m pE)
         have QZ:=af hmo
         obtain ⟨b1,b2,b3⟩:=MN.out m pE
         clear Ax hmo
         generalize bn ops m=O at *
         obtain ⟨rD,xm,xn,xp,over⟩:=O
         dsimp only at *
         by_cases o1:(300:Int)<(xm.size:Int)
         · have HL:Hid (bC.long ⟨rD,xm,xn,xp,over⟩=true):=by
            unfold Hid bC.long;simp only [Bool.or_eq_true,decide_eq_true_eq];omega
           go_wp2_with fail
           go_ret
           exact ⟨bt (by rw [HE.out,HY.out (MO.out.trans (QY.out HL.out))]),yM.alloc _⟩
         by_cases o2:(300:Int)<(xn.size:Int)
         · have HL:Hid (bC.long ⟨rD,xm,xn,xp,over⟩=true):=by
            unfold Hid bC.long;simp only [Bool.or_eq_true,decide_eq_true_eq];omega
           go_wp2_with fail
           go_ret
           exact ⟨bt (by rw [HE.out,HY.out (MO.out.trans (QY.out HL.out))]),yM.alloc _⟩
         by_cases o3:(300:Int)<(xp.size:Int)
         · have HL:Hid (bC.long ⟨rD,xm,xn,xp,over⟩=true):=by
            unfold Hid bC.long;simp only [Bool.or_eq_true,decide_eq_true_eq];omega
           go_wp2_with fail
           go_ret
           exact ⟨bt (by rw [HE.out,HY.out (MO.out.trans (QY.out HL.out))]),yM.alloc _⟩
         have HL:Hid (bC.long ⟨rD,xm,xn,xp,over⟩=false):=by
          unfold Hid bC.long;simp only [Bool.or_eq_false_iff,decide_eq_false_iff_not];omega
         go_wp2_with fail
         go_roundw
         case rel=>exact ⟨m+1,by omega,by go_num,by rw [HMN.out,QZ.out,HL.out];rfl,yM.alloc _⟩
         case measure=>simp [intOf];omega
       · obtain rfl:m=ops.length:=by omega
         rw [zQ2] at hmo
         have QZ:=af hmo
         clear hmo
         go_wp2_with fail
         go_roundw
         case rel=>exact ⟨k+1,by omega,by go_num,by rw [HN.out,yJ.out,MO.out,QZ.out];rfl,yM⟩
         case measure=>simp [intOf];omega
    · obtain rfl:k=xs.length:=by omega
      rw [zQ2] at hno
      have yJ:=af hno
      clear hno
      go_wp2_with fail
      go_ret
      exact ⟨bt (by rw [HE.out,yJ.out]),hG⟩
end
section
open Go.RowKit Go.Maps
attribute [local go_sem] Oper.semAt_some aT
namespace Pl
theorem z0D {xs:List Sh} {us:Nat->Bool} {e:En} {at':Int} (h:eQ xs us e at'=true):e.kind≠1:=by
 have hcb:iq xs us e=true:=by unfold eQ at h;simp only [Bool.and_eq_true] at h;exact h.1.1
 obtain ⟨_,_,_,_,_,_,hk⟩:=nz hcb
 rcases hk with k2 | ⟨k3,_⟩ | ⟨k4,_⟩<;> omega
theorem z2k {D:bj} {e:En} {at':Int} (h:dL D e at'=true):e.kind≠1:=by
 have hcb:gT D e=true:=by unfold dL at h;simp only [Bool.and_eq_true] at h;exact h.1.1
 obtain ⟨_,_,_,_,hk⟩:=WN hcb
 rcases hk with k2 | ⟨k3,_⟩ | ⟨k4,_⟩<;> omega
theorem z3H (A:bc) {e:En} {at':Int} (hr:bR e=true) (hat:¬(at'<A.at_\/at'<0\/4096<=at')):(bF A e at').2.sh=wC A.sh e at':=by
 unfold bF
 rw [zZ0 (by rw [hr];simp),zZ0 hat]
 unfold wC
 by_cases k1:e.kind=1
 · rw [zZ1 k1,zZ0 fun h=>z0D h k1]
   split<;> rfl
 · rw [zZ0 k1]
   split<;> rfl
theorem z0O {D:bj} {e:En} {at':Int} (k1:e.kind=1):dM D e at'=D:=by
 unfold dM
 rw [zZ0 fun h=>z2k h k1]
end Pl
def Kh (A:bc) (e:En) (at':Int):Value:=
 match A.st e.ai.toNat with
 | none=> .agg #[.int .i64 3,.int .i64 0]
 | some (P,S)=>gK (Pl.eW (Pl.cf A e.ai.toNat).lo (Pl.cf A e.ai.toNat).hi P S e at').code (Pl.eW (Pl.cf A e.ai.toNat).lo (Pl.cf A e.ai.toNat).hi P S e at').at_
noncomputable def xC (fa:Lit->Option Value) (A:bc) (e:En) (at':Int):Lit->Option Value:=if e.kind=1 then fC fa (bW at') (some (Kh A e at')) else fa
theorem y9f {W:World} {L:Nat->Nat} {k al n:Nat} {fa:Lit->Option Value} {D:bj} {A:bc} (h:eN W L k al n fa D A) (e:En) (hk:e.kind=1) (hs0:1<=e.ai) (hs1:e.ai<=12) (hst:A.st e.ai.toNat=none) (at':Int) (h0:0<=at') (h1:at'<4096) (hn:n<=1000000):
    Calls Tryz.prog 47 #[.pointer (some ⟨al,0,none⟩),e.agg,.int .i64 at'] W fun r w'=>r=.returned (.tuple #[])/\rG W L k al (n+1) (fC fa (bW at') (some (.agg #[.int .i64 3,.int .i64 0]))) D A w':=by
 obtain ⟨db,nb,ms,h⟩:=h
 obtain ⟨q,hq⟩:∃q:Nat,e.ai=q:=⟨e.ai.toNat,by omega⟩
 have cS:=h.cs q (by omega)
 rw [show dB A.st ms q=.pointer none from by unfold dB;rw [hq,Int.toNat_natCast] at hst;rw [hst];rfl] at cS
 have cN:=h.cn
 have hab:=aN cN
 have HH:=af h
 have ER:q<=12:=by omega
 have j0B:(q:Int)<13:=by omega
 clear h hst hs0 hs1
 obtain ⟨kind,ai,other,server,ak,seq,key,upto,part,parts,ops,aC,aG,av,ar,aw⟩:=e
 unfold En.agg En.vals
 dsimp only at *
 subst hk hq
 go_in
 go_upto_region 2 with fail
 obtain ⟨Y,hY⟩:∃Y,Y=W.alloc (.cells #[.int .i64 1,.int .i64 q,.int .i64 other,.int .i64 server,.int .i64 ak,.int .i64 seq,.slice aC ops.length aG,.string key,.int .i64 upto,.int .i64 part,.int .i64 parts,.slice av ar aw] 39):=⟨_,rfl⟩
 have gY:ae W Y:=by rw [hY];exact (ae.rf W).alloc _
 obtain ⟨xb,hxb⟩:∃xb,xb=W.heap.size:=⟨_,rfl⟩
 have X1:=aU (show Y.cell? ⟨xb,1,none⟩=some (.int .i64 q) from by rw [hY,hxb];simp [go_sem])
 have AS:=aU ((gY.cells.1 _ _ hab).trans cS)
 have cR:=af gY
 rw [<-hY,<-hxb]
 clear hY gY hxb cS
 refine lH 8 (by kernel_rfl) (by kernel_rfl) (fun _ _=>rfl) ?_
 repeat (first
  | (refine fF ?_;intro K hK;go_big_quiet_op;go_big_quiet_on)
  | (refine fE ?_;simp only [Act.put,sA,sB,sC]))
 refine uU ?_
 intro u fU
 have HU:=af (cR.out.trans fU)
 have dN:=(HU.out.cells.1 _ 14 hab).trans cN
 have qm:=ltT hab HU.out.size
 obtain ⟨m,hm,tL⟩:=HH.out.la
 obtain ⟨w2,hrun,r1,r2⟩:=(tL.ag HU.out).store (val:=.agg #[.int .i64 3,.int .i64 0]) ow Tryz.underlying74 (by unfold maxLen;omega) (keyOf_int_mk Tryz.underlying3 (pA (c:=at') (by omega) (by omega)))
 have cE:=af hrun
 have HR:=af (And.intro r1 (And.intro r2 hm))
 clear fU X1 AS hrun r1 r2 tL hm
 dsimp only [List.drop]
 go_wp2_with (at_mapUpdate;refine FD rfl _ _ _ rfl rfl rfl rfl cE.out ?_)
 refine bodyPost_ret (v:=.tuple #[]) (by simp [results,Tryz.results47,go_sem]) rfl ?_
 have hO:aj (fun j=>j=nb) u w2:=aj.dm HR.out.2.1
 refine ⟨rfl,((HU.out.only _).then (hO.mono fun j hj=> .inl (by rw [hj];unfold br;have:=HH.out.jU;omega))),fun j=>if j<W.heap.size then L j else k+50,fun j hj=>zZ1 hj,fun j hj=>?_,db,nb,ms,?_⟩
 · dsimp only
   rw [zZ0 (by omega)]
   unfold br;omega
 · have hr:=HH.out.kept (L':=fun j=>if j<W.heap.size then L j else k+50) (HU.out.only fun _=>False) (fun _ _ h=>h.elim) (fun j hj=>zZ1 hj) A.at_
   exact hr.answered hO (fun _ _=>rfl) (by have:=HR.out.2.2;omega) HR.out.1
def Rx (i:Nat):Option (Value->Value):=if i=9 then some id else if i=10 then some (ln 0) else if i=11 then some (ln 1) else none
theorem y9b {W:World} {L:Nat->Nat} {k al n m0:Nat} {fa:Lit->Option Value} {D:bj} {A:bc} (h:eN W L k al n fa D A) (bq:bw A m0) (hm0:m0<=120) (e:En) (hA:bG W e) (hs:∀o∈e.ops,o.key.size<=16777216) (yG:∀o∈e.ops,o.val.size<=140737488351232) (hk:e.kind=1) (hs0:1<=e.ai) (hs1:e.ai<=12) {P:List Pr} {S:Int->Option An} (hst:A.st e.ai.toNat=some (P,S)) (at':Int) (h0:0<=at') (h1:at'<4096) (hn:n<=1000000):
    Calls Tryz.prog 47 #[.pointer (some ⟨al,0,none⟩),e.agg,.int .i64 at'] W fun r w'=>r=.returned (.tuple #[])/\rG W L k al (n+1) (fC fa (bW at') (some (gK (Pl.eW (Pl.cf A e.ai.toNat).lo (Pl.cf A e.ai.toNat).hi P S e at').code (Pl.eW (Pl.cf A e.ai.toNat).lo (Pl.cf A e.ai.toNat).hi P S e at').at_))) D ⟨A.at_,A.sh,cM A.st e.ai.toNat (some ((Pl.eW (Pl.cf A e.ai.toNat).lo (Pl.cf A e.ai.toNat).hi P S e at').P,(Pl.eW (Pl.cf A e.ai.toNat).lo (Pl.cf A e.ai.toNat).hi P S e at').S))⟩ w':=by
 obtain ⟨db,nb,ms,h⟩:=h
 obtain ⟨q,hq⟩:∃q:Nat,e.ai=q:=⟨e.ai.toNat,by omega⟩
 have ER:q<=12:=by omega
 have AK:e.ai.toNat=q:=by omega
 rw [AK] at hst ⊢
 obtain ⟨i12,c,hc,bN,G,sb,Dt,hS,lU,hB⟩:=h.states q P S hst
 have hsh:=Pl.jh bq hc bN
 rw [hsh]
 have hsz:=bq.sz c hc
 have Gi:P.length<=1000:=by
  have a:=Eg A.st q (by omega)
  have b:=bq.few
  rw [hst] at a
  unfold fS at a
  dsimp only at a
  omega
 have hl:=lU.len
 have Ej:=af (fun X (g:ae W X)=>y9m e (fun _=>hA.ag g) hs yG at' (hS.ag g) lU (by omega) (by omega) (by omega))
 have cS:=h.cs q (by omega)
 rw [show dB A.st ms q=.pointer (some ⟨ms q,0,none⟩) from by unfold dB;rw [hst];rfl] at cS
 have cN:=h.cn
 have hab:=aN cN
 have tL:=hS.all
 have HH:=af h
 have HC:=af (And.intro hc bN)
 have HB:=af (And.intro hst (And.intro hB tL))
 have Aj:∀j,(j=ms q\/j=sb\/G j)->gP G (ms q) sb j:=fun j hj=>by
  rcases hj with t | t | t
  · exact .inr (.inl t)
  · exact .inr (.inr t)
  · exact .inl t
 have HTL:=af Aj
 have jd:¬(al=ms q\/al=sb\/G al):=fun t=>by have:=hB al (Aj al t);have:=h.lab;omega
 have Ry:¬(nb=ms q\/nb=sb\/G nb):=fun t=>by have:=hB nb (Aj nb t);have:=h.jU;omega
 have hnew:∀j,W.heap.size<=j->¬(j=ms q\/j=sb\/G j):=fun j hj t=>by have:=tL j (Aj j t);omega
 unfold gK at Ej ⊢
 generalize Pl.eW c.lo c.hi P S e at'=wr at *
 obtain ⟨wc,wa,we,wP,wS⟩:=wr
 dsimp only at *
 generalize WT:ms q=mq at *
 have WU:=af WT
 clear h hst hsh hsz Gi hl hA hs yG hS lU hB tL Aj bq hc bN hs0 hs1 AK WT i12
 obtain ⟨kind,ai,other,server,ak,seq,key,upto,part,parts,ops,aC,aG,av,ar,aw⟩:=e
 unfold En.agg En.vals at *
 dsimp only at *
 subst hk hq
 go_in
 go_upto_region 2 with fail
 obtain ⟨Y,hY⟩:∃Y,Y=W.alloc (.cells #[.int .i64 1,.int .i64 q,.int .i64 other,.int .i64 server,.int .i64 ak,.int .i64 seq,.slice aC ops.length aG,.string key,.int .i64 upto,.int .i64 part,.int .i64 parts,.slice av ar aw] 39):=⟨_,rfl⟩
 have gY:ae W Y:=by rw [hY];exact (ae.rf W).alloc _
 obtain ⟨xb,hxb⟩:∃xb,xb=W.heap.size:=⟨_,rfl⟩
 have HX:=af (show ∀i v,(#[.int .i64 1,.int .i64 q,.int .i64 other,.int .i64 server,.int .i64 ak,.int .i64 seq,.slice aC ops.length aG,.string key,.int .i64 upto,.int .i64 part,.int .i64 parts,.slice av ar aw]:Array Value)[i]? =some v->Y.cell? ⟨xb,i,none⟩=some v from fun i v hv=>by
  rw [hY,hxb,cell_of_row _ _ i _ _ _ (heap_alloc_new W _)];simpa using hv)
 have hnx:=hnew xb (by omega)
 have X1:=aU (HX.out 1 _ rfl)
 have AS:=aU ((gY.cells.1 _ _ hab).trans cS)
 have cR:=af gY
 have dA:xb<Y.heap.size:=by rw [hY,hxb];simp
 have wW:=af (show W.heap.size<=xb by omega)
 rw [<-hY,<-hxb]
 clear hY gY hxb cS
 refine lH 8 (by kernel_rfl) (by kernel_rfl) (fun _ _=>rfl) ?_
 repeat (first
  | (refine fF ?_;intro K hK;go_big_quiet_op;go_big_quiet_on)
  | (refine fE ?_;simp only [Act.put,sA,sB,sC]))
 refine uU ?_
 intro y Ef
 have Az:=af (cR.out.trans Ef)
 have tS:=af (fun (i:Nat) v hv=>(Ef.cells.1 _ i dA).trans (HX.out i v hv))
 have dN:=(Az.out.cells.1 _ 14 hab).trans cN
 have j0C:=ltT hab Az.out.size
 have hxy:=ltT dA Ef.size
 clear Ef X1 AS
 dsimp only [List.drop]
 go_upto_region 5 with fail
 obtain ⟨m,hm,hlm⟩:=HH.out.la
 have kA:¬((xb=mq\/xb=sb\/G xb)\/xb=nb):=fun t=>t.elim hnx fun e=>by have:=hlm.lt;have:=wW.out;omega
 have Rz:¬((al=mq\/al=sb\/G al)\/al=nb):=fun t=>t.elim jd fun e=>by have a:=HH.out.lab;have b:=HH.out.jU;rw [e] at a;omega
 have X0:=aV (S:=fun j=>(j=mq\/j=sb\/G j)\/j=nb) (tS.out 0 _ rfl) kA
 have X1:=aV (S:=fun j=>(j=mq\/j=sb\/G j)\/j=nb) (tS.out 1 _ rfl) kA
 have X2:=aV (S:=fun j=>(j=mq\/j=sb\/G j)\/j=nb) (tS.out 2 _ rfl) kA
 have X3:=aV (S:=fun j=>(j=mq\/j=sb\/G j)\/j=nb) (tS.out 3 _ rfl) kA
 have X4:=aV (S:=fun j=>(j=mq\/j=sb\/G j)\/j=nb) (tS.out 4 _ rfl) kA
 have X5:=aV (S:=fun j=>(j=mq\/j=sb\/G j)\/j=nb) (tS.out 5 _ rfl) kA
 have X6:=aV (S:=fun j=>(j=mq\/j=sb\/G j)\/j=nb) (tS.out 6 _ rfl) kA
 have X7:=aV (S:=fun j=>(j=mq\/j=sb\/G j)\/j=nb) (tS.out 7 _ rfl) kA
 have X8:=aV (S:=fun j=>(j=mq\/j=sb\/G j)\/j=nb) (tS.out 8 _ rfl) kA
 have X9:=aV (S:=fun j=>(j=mq\/j=sb\/G j)\/j=nb) (tS.out 9 _ rfl) kA
 have lu:=aV (S:=fun j=>(j=mq\/j=sb\/G j)\/j=nb) (tS.out 10 _ rfl) kA
 have lv:=aV (S:=fun j=>(j=mq\/j=sb\/G j)\/j=nb) (tS.out 11 _ rfl) kA
 have AN:=aV (S:=fun j=>(j=mq\/j=sb\/G j)\/j=nb) dN Rz
 have Jg:=af (And.intro hlm hm)
 obtain ⟨RW,tu⟩:∃RW:Value->World->Prop,RW=fun v u=>∃Y',ae y Y'/\∃D',oG Y' G mq sb c.lo c.hi D' wS u/\Pl.Tt wP D':=⟨_,rfl⟩
 obtain ⟨QW,ES⟩:∃QW:Value->World->Prop,QW=fun v u=>∃u0,RW v u0/\aj (fun j=>j=nb) u0 u/\bL u Tryz.prog 3 nb (m+1) (fC fa (bW at') (some (.agg #[.int .i64 wc,.int .i64 wa]))):=⟨_,rfl⟩
 have CY:=af tu
 have BR:=af ES
 have AL:∀v u,RW v u->aj (fun j=>j=mq\/j=sb\/G j) y u:=fun v u q=>by
  rw [tu] at q
  obtain ⟨Y',g,D',⟨hO,_⟩,_⟩:=q
  exact (g.only _).then hO
 have RA:=af AL
 have Ki:∀v u,QW v u->aj (fun j=>(j=mq\/j=sb\/G j)\/j=nb) y u:=fun v u q=>by
  rw [ES] at q
  obtain ⟨u0,q1,q2,_⟩:=q
  exact ((AL v u0 q1).mono fun j hj=> .inl (.inl hj)).then (q2.mono fun j hj=> .inl (.inr hj))
 have ky:=af (show JF 8 12 (ae y) (fun v=>v=.tuple #[.agg #[.int .i64 wc,.int .i64 wa],.int .i64 (we:Nat)]) RW QW Rx (fun _=>false) (fun _=>undef) y.drew from JF.start (ae.rf y).drew _)
 have Kj:∀L f u,JF 8 12 (ae y) (fun v=>v=.tuple #[.agg #[.int .i64 wc,.int .i64 wa],.int .i64 (we:Nat)]) RW QW Rx L f u->aj (fun j=>(j=mq\/j=sb\/G j)\/j=nb) y u:=fun L f u h=>by
  cases hL:L 8 with
  | false=>exact (h.pre hL).only _
  | true=>
   cases hL2:L 12 with
   | false=>exact (AL _ _ (h.mid hL hL2)).mono fun j hj=> .inl (.inl hj)
   | true=>exact Ki _ _ (h.post hL2)
 clear tu ES AL Ki hlm hm
 refine kW 13 [8,9,10,11,12] (aj (fun j=>(j=mq\/j=sb\/G j)\/j=nb) y) Eq (JF 8 12 (ae y) (fun v=>v=.tuple #[.agg #[.int .i64 wc,.int .i64 wa],.int .i64 (we:Nat)]) RW QW Rx) (fun f a=>(((a.put (some 34) (f 8)).put (some 25) (f 9)).put (some 35) (f 10)).put (some 36) (f 11)) (by kernel_rfl) (by kernel_rfl) (fun _ _=>rfl) ky.out Kj (fun _=>rfl) (fun _ _ _ _ h g=>g▸h) ?_
 clear Kj ky
 repeat (first
  | refine kV ?_
  | (refine fF ?_;intro K hK;go_big_quiet_op;go_big_quiet_on)
  | (refine fE ?_;simp only [Act.put,sA,sB,sC]))
 refine uU ⟨⟨bH rfl (fun _ a=>a) (fun _ _=>rfl) (fun _=>rfl) ?_,bH rfl (fun f a=>a.put (some 34) (f 8)) (fun _ _=>rfl) (fun _=>rfl) ?_,bH rfl (fun f a=>a.put (some 25) (f 9)) (fun _ _=>rfl) (fun _=>rfl) ?_,bH rfl (fun f a=>a.put (some 25) (f 9)) (fun _ _=>rfl) (fun _=>rfl) ?_,bH rfl (fun f a=>((a.put (some 34) (f 8)).put (some 25) (f 9)).put (some 35) (f 10)) (fun _ _=>rfl) (fun _=>rfl) ?_,trivial⟩,?_⟩
 · intro L f u hJ hL hd
   have HJ:=af hJ
   have HL:=af hL
   clear hJ hL hd X0 X1 X2 X3 X4 X5 X6 X7 X8 X9 lu lv AN
   go_simp
   have hg:=HJ.out.pre HL.out
   refine (Ej.out u (Az.out.trans hg)).mono ?_
   rintro r u' ⟨rfl,D',hM,hT⟩
   exact ⟨_,rfl,HJ.out.call HL.out rfl (by decide) rfl (by rw [CY.out];exact ⟨u,hg,D',hM,hT⟩)⟩
 · intro L f u hJ hL hd
   have HC:=af (hd 8 rfl (by decide))
   have HJ:=af hJ
   clear hJ hL hd X0 X1 X2 X3 X4 X5 X6 X7 X8 X9 lu lv AN
   go_simp
   exact HJ.out.put 9 HC.out (by decide) (by decide) (fun g hg=>by cases hg;rfl)
 · intro L f u hJ hL hd
   have h9:=hd 9 rfl (by decide)
   have HC:=af (hJ.ord 9 _ rfl h9)
   have HJ:=af hJ
   have e8:=hJ.form HC.out
   have e9:=hJ.val 9 _ rfl h9
   rw [e8] at e9
   have RB:=af e8
   clear hJ hL hd h9 X0 X1 X2 X3 X4 X5 X6 X7 X8 X9 lu lv AN e8
   rw [e9]
   clear e9
   dsimp only [id]
   go_simp
   exact HJ.out.put 10 HC.out (by decide) (by decide) (fun g hg=>by cases hg;rw [RB.out];rfl)
 · intro L f u hJ hL hd
   have h9:=hd 9 rfl (by decide)
   have HC:=af (hJ.ord 9 _ rfl h9)
   have HJ:=af hJ
   have e8:=hJ.form HC.out
   have e9:=hJ.val 9 _ rfl h9
   rw [e8] at e9
   have RB:=af e8
   clear hJ hL hd h9 X0 X1 X2 X3 X4 X5 X6 X7 X8 X9 lu lv AN e8
   rw [e9]
   clear e9
   dsimp only [id]
   go_simp
   exact HJ.out.put 11 HC.out (by decide) (by decide) (fun g hg=>by cases hg;rw [RB.out];rfl)
 · intro L f u hJ hL hd
   have h10:=hd 10 rfl (by decide)
   have hC:=hJ.ord 10 _ rfl h10
   have e8:=hJ.form hC
   have e10:=hJ.val 10 _ rfl h10
   rw [e8] at e10
   have hR:=hJ.mid hC hL
   have hO:=RA.out _ _ hR
   obtain ⟨w2,hrun,r1,r2⟩:=(Jg.out.1.kept ((Az.out.only _).then hO) Ry).store (val:=f 10) ow Tryz.underlying74 (by have:=Jg.out.2;unfold maxLen;omega) (keyOf_int_mk Tryz.underlying3 (pA (c:=at') (by omega) (by omega)))
   refine y8Y _ _ _ rfl rfl rfl rfl hrun fun v=>hJ.turn hC (by decide) rfl v ?_
   rw [BR.out]
   refine ⟨u,hR,aj.dm r2,?_⟩
   rw [e10] at r1
   exact r1
 intro f9 u hJ
 have e8:=hJ.form rfl
 have e9:=hJ.val 9 _ rfl rfl
 have e10:=hJ.val 10 _ rfl rfl
 have e11:=hJ.val 11 _ rfl rfl
 rw [e8] at e9 e10 e11
 dsimp only [id] at e9
 have Kk:f9 10=.agg #[.int .i64 wc,.int .i64 wa]:=e10
 have wX:f9 11=.int .i64 (we:Nat):=e11
 have hQ:=hJ.post rfl
 rw [BR.out] at hQ
 obtain ⟨u0,Kl,WV,hLn⟩:=hQ
 rw [CY.out] at Kl
 obtain ⟨Y',lq,D',⟨fL,G',hS1,Gw⟩,j3⟩:=Kl
 have hs1:=Az.out.size
 have hs2:=lq.size
 have HOW:=af (show aj (fun j=>j=mq\/j=sb\/G j) W u0 from (((Az.out.trans lq).only _).then fL))
 have HR:=af (And.intro hLn (And.intro WV Jg.out.2))
 have nS:=af (show dY u0 G' mq sb c.lo c.hi D' wS/\(∀j,G' j->G j\/W.heap.size<=j)/\Pl.Tt wP D' from ⟨hS1,fun j hj=>(Gw j hj).imp id fun q=>by omega,j3⟩)
 clear hJ fL hS1 Gw j3 e10 e11 WV hLn X0 X1 X2 X3 X4 X5 X6 X7 X8 X9 lu lv AN lq
 dsimp only [List.drop]
 simp only [Act.put,sA,sC,sB]
 rw [e8,e9,Kk,wX]
 clear e8 e9 Kk wX
 go_wp2_with fail
 refine bodyPost_ret (v:=.tuple #[]) (by simp [results,Tryz.results47,go_sem]) rfl ?_
 obtain ⟨hS1,jr,j3⟩:=nS.out
 have hO:=HR.out.2.1
 have yK:=HOW.out.size
 have hws:=hO.size
 have BZ:∀j,(j=mq\/j=sb\/G j)->L j=k+20+q:=fun j hj=>HB.out.2.1 j (HTL.out j hj)
 refine ⟨rfl,((HOW.out.mono fun j hj=> .inl ?_).then (hO.mono fun j hj=> .inl ?_)),fun j=>if j<W.heap.size then L j else k+20+q,fun j hj=>zZ1 hj,fun j hj=>?_,db,nb,ms,?_⟩
 · unfold br;rw [BZ j hj];omega
 · rw [hj];unfold br;have:=HH.out.jU;omega
 · dsimp only
   rw [zZ0 (by omega)]
   unfold br;omega
 · have hr:=HH.out.turned (W':=u0) (L':=fun j=>if j<W.heap.size then L j else k+20+q) (i:=q) HB.out.1 HOW.out (fun j _ hj=>BZ j hj) (fun j hj=>zZ1 hj) (P':=wP) (S':=wS) ⟨c,HC.out.1,HC.out.2,G',sb,D',by rw [WU.out];exact hS1,j3,fun j hj=>by
    rw [WU.out] at hj
    have old:∀x,gP G mq sb x->(if x<W.heap.size then L x else k+20+q)=k+20+q:=fun x hx=>by rw [zZ1 (HB.out.2.2 x hx)];exact HB.out.2.1 x hx
    rcases hj with t | t
    · rcases jr j t with t2 | t2
      · exact old j (.inl t2)
      · exact zZ0 (by omega)
    · exact old j (.inr t)⟩
   exact hr.answered hO (fun _ _=>rfl) (by have:=HR.out.2.2;omega) HR.out.1
def RD (v:Value):Value:=match v with | .bool b=> .bool (!b) | _=>undef
def B6 (i:Nat):Option (Value->Value):=if i=7 then some RD else none
theorem dP.mapped {W W':World} {L L':Nat->Nat} {k al db nb n:Nat} {ms:Nat->Nat} {fa:Lit->Option Value} {D D':bj} {A:bc} (h:dP W L k al db nb n ms fa D A) {F F':Nat->Prop} (hF:∀j,F j->L j=k+2) (aq:∀j,F j->j<W.heap.size) (hO:aj F W W') (hS:dU W' F' db D') (hF':∀j,F' j->F j\/W.heap.size<=j) (hL:∀j,j<W.heap.size->L' j=L j) (hN:∀j,W.heap.size<=j->L' j=k+2):dP W' L' k al db nb n ms fa D' A:=by
 have hab:=h.nH
 have tab:¬F al:=fun t=>by have a:=hF al t;have:=h.lab;omega
 refine h.eH hO (fun j _ t=>by rw [hF j t];omega) hL A.at_ ((hO.cell hab tab 0).trans h.c0) (fun j hj=>(hO.cell hab tab _).trans (h.cs j hj)) ((hO.cell hab tab 14).trans h.cn) (fun j=>(hO.frozen hab tab j).trans (h.fz j)) ⟨F',hS,fun j hj=>?_⟩ fun q P S hq=>?_
 · rcases hF' j hj with t | t
   · rw [hL j (aq j t),hF j t]
   · exact hN j t
 · exact h.other hO hL (q:=q) (fun j _ t=>by rw [hF j t];omega) hq
theorem WW {W:World} {L:Nat->Nat} {k:Nat} (j:Nat) (hj:W.heap.size<=j):br k (if j<W.heap.size then L j else k+2):=by
 rw [zZ0 (by omega)];unfold br;omega
theorem z2I {W:World} {L:Nat->Nat} {k al n m0:Nat} {fa:Lit->Option Value} {D:bj} {A:bc} (h:eN W L k al n fa D A) (bq:bw A m0) (hm0:m0<=120) (jN:Pl.Twin A.sh D) (e:En) (hA:bG W e) (hs:jx e) (kK:e.key.size<=300) (hk:e.kind≠1) (at':Int) (ha:Pl.eQ A.sh.xs A.sh.used e at'=false):
    Calls Tryz.prog 47 #[.pointer (some ⟨al,0,none⟩),e.agg,.int .i64 at'] W fun r w'=>r=.returned (.tuple #[])/\rG W L k al n fa (Pl.dM D e at') A w':=by
 obtain ⟨db,nb,ms,h⟩:=h
 obtain ⟨F,qC,hF⟩:=h.map
 have lB:=Pl.MZ jN bq.inv (fun c hc=>bq.sz c hc) (by omega)
 have hap:Pl.dL D e at'=false:=by rw [Pl.Ka jN bq.inv];exact ha
 have xD:=af (fun X (g:ae W X)=>M5 (qC.ag g) lB e (hA.ag g) hs at')
 rw [hap] at xD
 generalize Pl.dM D e at'=D' at *
 have mg:=tQ qC
 have jd:¬F al:=fun t=>by have:=hF al t;have:=h.lab;omega
 have hnew:∀j,W.heap.size<=j->¬F j:=fun j hj t=>by have:=mg j t;omega
 have cZ:=h.c0
 have hab:=aN cZ
 have HH:=af h
 have qA:=af (And.intro hF mg)
 clear h qC hF mg bq jN lB hap ha hA hs kK
 obtain ⟨kind,ai,other,server,ak,seq,key,upto,part,parts,ops,aC,aG,av,ar,aw⟩:=e
 unfold En.agg En.vals at *
 dsimp only at *
 have hkb:(kind==1)=false:=beq_eq_false_iff_ne.2 hk
 clear hk
 go_in
 go_upto_region 6 with fail
 obtain ⟨Y,hY⟩:∃Y,Y=W.alloc (.cells #[.int .i64 kind,.int .i64 ai,.int .i64 other,.int .i64 server,.int .i64 ak,.int .i64 seq,.slice aC ops.length aG,.string key,.int .i64 upto,.int .i64 part,.int .i64 parts,.slice av ar aw] 39):=⟨_,rfl⟩
 have gY:ae W Y:=by rw [hY];exact (ae.rf W).alloc _
 obtain ⟨xb,hxb⟩:∃xb,xb=W.heap.size:=⟨_,rfl⟩
 have HX:=af (show ∀i v,(#[.int .i64 kind,.int .i64 ai,.int .i64 other,.int .i64 server,.int .i64 ak,.int .i64 seq,.slice aC ops.length aG,.string key,.int .i64 upto,.int .i64 part,.int .i64 parts,.slice av ar aw]:Array Value)[i]? =some v->Y.cell? ⟨xb,i,none⟩=some v from fun i v hv=>by
  rw [hY,hxb,cell_of_row _ _ i _ _ _ (heap_alloc_new W _)];simpa using hv)
 have dA:xb<Y.heap.size:=by rw [hY,hxb];simp
 have hnx:=hnew xb (by omega)
 have wW:=af (show W.heap.size<=xb by omega)
 have cR:=af gY
 have aZ:=(gY.cells.1 _ 0 hab).trans cZ
 rw [<-hY,<-hxb]
 clear hY gY hxb
 have X0:=aV (S:=F) (HX.out 0 _ rfl) hnx
 have X1:=aV (S:=F) (HX.out 1 _ rfl) hnx
 have X2:=aV (S:=F) (HX.out 2 _ rfl) hnx
 have X3:=aV (S:=F) (HX.out 3 _ rfl) hnx
 have X4:=aV (S:=F) (HX.out 4 _ rfl) hnx
 have X5:=aV (S:=F) (HX.out 5 _ rfl) hnx
 have X6:=aV (S:=F) (HX.out 6 _ rfl) hnx
 have X7:=aV (S:=F) (HX.out 7 _ rfl) hnx
 have X8:=aV (S:=F) (HX.out 8 _ rfl) hnx
 have X9:=aV (S:=F) (HX.out 9 _ rfl) hnx
 have lu:=aV (S:=F) (HX.out 10 _ rfl) hnx
 have lv:=aV (S:=F) (HX.out 11 _ rfl) hnx
 have AZ:=aV (S:=F) aZ jd
 have ky:=af (show JE 6 (ae Y) (fun v u=>v=.bool false/\∃Y',ae Y Y'/\lA Y' F db D' u) B6 (fun _=>false) (fun _=>undef) Y.drew from JE.start (ae.rf Y).drew _)
 refine kW 8 [6,7] (aj F Y) Eq (JE 6 (ae Y) (fun v u=>v=.bool false/\∃Y',ae Y Y'/\lA Y' F db D' u) B6) (fun f a=>(a.put (some 43) (f 6)).put (some 44) (f 7)) (by kernel_rfl) (by kernel_rfl) (fun _ _=>rfl) ky.out (fun L _ _ h=>?_) (fun _=>rfl) (fun _ _ _ _ h g=>g▸h) ?_
 · cases hL:L 6 with
   | false=>exact (h.pre hL).only _
   | true=>
    obtain ⟨_,Y',g,hO,_⟩:=h.post hL
    exact (g.only _).then hO
 repeat (first
  | refine kV ?_
  | (refine fF ?_;intro K hK;go_big_quiet_op;go_big_quiet_on)
  | (refine fE ?_;simp only [Act.put,sA,sB,sC]))
 refine uU ⟨⟨bH rfl (fun _ a=>a) (fun _ _=>rfl) (fun _=>rfl) ?_,bH rfl (fun f a=>a.put (some 43) (f 6)) (fun _ _=>rfl) (fun _=>rfl) ?_,trivial⟩,?_⟩
 · intro L f u hJ hL hd
   have HJ:=af hJ
   have HL:=af hL
   clear hJ hL hd X0 X1 X2 X3 X4 X5 X6 X7 X8 X9 lu lv AZ
   go_simp
   have hg:=HJ.out.pre HL.out
   refine (xD.out u (cR.out.trans hg)).mono ?_
   rintro r u' ⟨rfl,hM⟩
   exact ⟨_,rfl,HJ.out.call HL.out rfl ⟨rfl,u,hg,hM⟩⟩
 · intro L f u hJ hL hd
   have h6:=hd 6 rfl (by decide)
   have HC:=af h6
   have HJ:=af hJ
   have e6:=(hJ.post h6).1
   have ET:=af e6
   clear hJ hL hd h6 X0 X1 X2 X3 X4 X5 X6 X7 X8 X9 lu lv AZ
   rw [e6]
   clear e6
   go_simp
   exact HJ.out.put 7 HC.out (by decide) (fun g hg=>by cases hg;rw [ET.out];rfl)
 intro f6 u hJ
 obtain ⟨e6,Y',lq,fL,F',qj,iT⟩:=hJ.post rfl
 have e7:=hJ.val 7 _ rfl rfl
 rw [e6] at e7
 have xE:f6 7=.bool true:=e7
 have kz:aj F Y u:=(lq.only _).then fL
 have HOW:=af (show aj F W u from (cR.out.only _).then kz)
 have hs1:=cR.out.size
 have hs2:=lq.size
 have xG:=af (show dU u F' db D'/\∀j,F' j->F j\/W.heap.size<=j from ⟨qj,fun j hj=>(iT j hj).imp id fun q=>by omega⟩)
 have tT:=af (fun (i:Nat) v hv=>(kz.cell dA hnx i).trans (HX.out i v hv))
 have zA9:=ltT dA kz.size
 clear hJ fL qj iT e7 X0 X1 X2 X3 X4 X5 X6 X7 X8 X9 lu lv AZ lq kz ky aZ
 dsimp only [List.drop]
 simp only [Act.put,sA,sC,sB]
 rw [e6,xE]
 clear e6 xE
 go_wp2_with fail
 refine bodyPost_ret (v:=.tuple #[]) (by simp [results,Tryz.results47,go_sem]) rfl ?_
 refine ⟨rfl,HOW.out.mono fun j hj=> .inl (by unfold br;rw [qA.out.1 j hj];omega),fun j=>if j<W.heap.size then L j else k+2,fun j hj=>zZ1 hj,fun j hj=>WW j hj,db,nb,ms,?_⟩
 exact HH.out.mapped qA.out.1 qA.out.2 HOW.out xG.out.1 xG.out.2 (fun j hj=>zZ1 hj) (fun j hj=>zZ0 (by omega))
theorem y9F {W:World} {L:Nat->Nat} {k al n m0:Nat} {fa:Lit->Option Value} {D:bj} {A:bc} (h:eN W L k al n fa D A) (bq:bw A m0) (hm0:m0<=120) (jN:Pl.Twin A.sh D) (e:En) (hA:bG W e) (hs:jx e) (kK:e.key.size<=300) (hk:e.kind=2) (at':Int) (ha:Pl.eQ A.sh.xs A.sh.used e at'=true):
    Calls Tryz.prog 47 #[.pointer (some ⟨al,0,none⟩),e.agg,.int .i64 at'] W fun r w'=>r=.returned (.tuple #[])/\rG W L k al n fa (Pl.dM D e at') ⟨A.at_,Pl.aW A.sh e at',Pl.gS A e⟩ w':=by
 obtain ⟨db,nb,ms,h⟩:=h
 obtain ⟨F,qC,hF⟩:=h.map
 have lB:=Pl.MZ jN bq.inv (fun c hc=>bq.sz c hc) (by omega)
 have hap:Pl.dL D e at'=true:=by rw [Pl.Ka jN bq.inv];exact ha
 have xD:=af (fun X (g:ae W X)=>M5 (qC.ag g) lB e (hA.ag g) hs at')
 rw [hap] at xD
 generalize Pl.dM D e at'=D' at *
 have mg:=tQ qC
 have jd:¬F al:=fun t=>by have:=hF al t;have:=h.lab;omega
 have hnew:∀j,W.heap.size<=j->¬F j:=fun j hj t=>by have:=mg j t;omega
 have cZ:=h.c0
 have hab:=aN cZ
 have HH:=af h
 have qA:=af (And.intro hF mg)
 have hcb:Pl.iq A.sh.xs A.sh.used e=true:=by unfold Pl.eQ at ha;simp only [Bool.and_eq_true] at ha;exact ha.1.1
 obtain ⟨hr,i,hi,hf,fc,bP,hkk⟩:=Pl.nz hcb
 have es:Pl.gS A e=A.st:=by unfold Pl.gS;rw [zZ0 (by omega),zZ0 (by omega)]
 rw [es]
 have dS:=af (fun (u:World) (F':Nat->Prop) (hO:aj F W u) (hM:dU u F' db D') (hF':∀j,F' j->F j\/W.heap.size<=j)=>h.moved hF hO hk hi fc hM hF' (L':=fun j=>if j<W.heap.size then L j else k+2) (at':=at') (fun j hj=>zZ1 hj) (fun j hj=>zZ0 (by omega)) mg)
 generalize Pl.aW A.sh e at'=ds at *
 clear h qC hF mg bq jN lB hap ha hA hs kK hcb hr hi hf fc bP hkk es
 obtain ⟨kind,ai,other,server,ak,seq,key,upto,part,parts,ops,aC,aG,av,ar,aw⟩:=e
 unfold En.agg En.vals at *
 dsimp only at *
 subst hk
 go_in
 go_upto_region 6 with fail
 obtain ⟨Y,hY⟩:∃Y,Y=W.alloc (.cells #[.int .i64 2,.int .i64 ai,.int .i64 other,.int .i64 server,.int .i64 ak,.int .i64 seq,.slice aC ops.length aG,.string key,.int .i64 upto,.int .i64 part,.int .i64 parts,.slice av ar aw] 39):=⟨_,rfl⟩
 have gY:ae W Y:=by rw [hY];exact (ae.rf W).alloc _
 obtain ⟨xb,hxb⟩:∃xb,xb=W.heap.size:=⟨_,rfl⟩
 have HX:=af (show ∀i v,(#[.int .i64 2,.int .i64 ai,.int .i64 other,.int .i64 server,.int .i64 ak,.int .i64 seq,.slice aC ops.length aG,.string key,.int .i64 upto,.int .i64 part,.int .i64 parts,.slice av ar aw]:Array Value)[i]? =some v->Y.cell? ⟨xb,i,none⟩=some v from fun i v hv=>by
  rw [hY,hxb,cell_of_row _ _ i _ _ _ (heap_alloc_new W _)];simpa using hv)
 have dA:xb<Y.heap.size:=by rw [hY,hxb];simp
 have hnx:=hnew xb (by omega)
 have wW:=af (show W.heap.size<=xb by omega)
 have cR:=af gY
 have aZ:=(gY.cells.1 _ 0 hab).trans cZ
 rw [<-hY,<-hxb]
 clear hY gY hxb
 have X0:=aV (S:=F) (HX.out 0 _ rfl) hnx
 have X1:=aV (S:=F) (HX.out 1 _ rfl) hnx
 have X2:=aV (S:=F) (HX.out 2 _ rfl) hnx
 have X3:=aV (S:=F) (HX.out 3 _ rfl) hnx
 have X4:=aV (S:=F) (HX.out 4 _ rfl) hnx
 have X5:=aV (S:=F) (HX.out 5 _ rfl) hnx
 have X6:=aV (S:=F) (HX.out 6 _ rfl) hnx
 have X7:=aV (S:=F) (HX.out 7 _ rfl) hnx
 have X8:=aV (S:=F) (HX.out 8 _ rfl) hnx
 have X9:=aV (S:=F) (HX.out 9 _ rfl) hnx
 have lu:=aV (S:=F) (HX.out 10 _ rfl) hnx
 have lv:=aV (S:=F) (HX.out 11 _ rfl) hnx
 have AZ:=aV (S:=F) aZ jd
 have ky:=af (show JE 6 (ae Y) (fun v u=>v=.bool true/\∃Y',ae Y Y'/\lA Y' F db D' u) B6 (fun _=>false) (fun _=>undef) Y.drew from JE.start (ae.rf Y).drew _)
 refine kW 8 [6,7] (aj F Y) Eq (JE 6 (ae Y) (fun v u=>v=.bool true/\∃Y',ae Y Y'/\lA Y' F db D' u) B6) (fun f a=>(a.put (some 43) (f 6)).put (some 44) (f 7)) (by kernel_rfl) (by kernel_rfl) (fun _ _=>rfl) ky.out (fun L _ _ h=>?_) (fun _=>rfl) (fun _ _ _ _ h g=>g▸h) ?_
 · cases hL:L 6 with
   | false=>exact (h.pre hL).only _
   | true=>
    obtain ⟨_,Y',g,hO,_⟩:=h.post hL
    exact (g.only _).then hO
 repeat (first
  | refine kV ?_
  | (refine fF ?_;intro K hK;go_big_quiet_op;go_big_quiet_on)
  | (refine fE ?_;simp only [Act.put,sA,sB,sC]))
 refine uU ⟨⟨bH rfl (fun _ a=>a) (fun _ _=>rfl) (fun _=>rfl) ?_,bH rfl (fun f a=>a.put (some 43) (f 6)) (fun _ _=>rfl) (fun _=>rfl) ?_,trivial⟩,?_⟩
 · intro L f u hJ hL hd
   have HJ:=af hJ
   have HL:=af hL
   clear hJ hL hd X0 X1 X2 X3 X4 X5 X6 X7 X8 X9 lu lv AZ
   go_simp
   have hg:=HJ.out.pre HL.out
   refine (xD.out u (cR.out.trans hg)).mono ?_
   rintro r u' ⟨rfl,hM⟩
   exact ⟨_,rfl,HJ.out.call HL.out rfl ⟨rfl,u,hg,hM⟩⟩
 · intro L f u hJ hL hd
   have h6:=hd 6 rfl (by decide)
   have HC:=af h6
   have HJ:=af hJ
   have e6:=(hJ.post h6).1
   have ET:=af e6
   clear hJ hL hd h6 X0 X1 X2 X3 X4 X5 X6 X7 X8 X9 lu lv AZ
   rw [e6]
   clear e6
   go_simp
   exact HJ.out.put 7 HC.out (by decide) (fun g hg=>by cases hg;rw [ET.out];rfl)
 intro f6 u hJ
 obtain ⟨e6,Y',lq,fL,F',qj,iT⟩:=hJ.post rfl
 have e7:=hJ.val 7 _ rfl rfl
 rw [e6] at e7
 have xE:f6 7=.bool false:=e7
 have kz:aj F Y u:=(lq.only _).then fL
 have HOW:=af (show aj F W u from (cR.out.only _).then kz)
 have hs1:=cR.out.size
 have hs2:=lq.size
 have xG:=af (show dU u F' db D'/\∀j,F' j->F j\/W.heap.size<=j from ⟨qj,fun j hj=>(iT j hj).imp id fun q=>by omega⟩)
 have tT:=af (fun (i:Nat) v hv=>(kz.cell dA hnx i).trans (HX.out i v hv))
 have zA9:=ltT dA kz.size
 clear hJ fL qj iT e7 X0 X1 X2 X3 X4 X5 X6 X7 X8 X9 lu lv AZ lq kz ky aZ
 dsimp only [List.drop]
 simp only [Act.put,sA,sC,sB]
 rw [e6,xE]
 clear e6 xE
 have k0:=tT.out 0 _ rfl
 go_wp2_with fail
 go_end0
 refine ⟨rfl,HOW.out.mono fun j hj=> .inl (by unfold br;rw [qA.out.1 j hj];omega),fun j=>if j<W.heap.size then L j else k+2,fun j hj=>zZ1 hj,fun j hj=>WW j hj,db,nb,ms,?_⟩
 exact dS.out u F' HOW.out xG.out.1 xG.out.2
def dsT (i:Nat):Option (Value->Value):=if i=13 then some id else if i=14 then some (ln 0) else if i=15 then some (ln 1) else none
theorem y7O {W:World} {L:Nat->Nat} {k al n m0:Nat} {fa:Lit->Option Value} {D:bj} {A:bc} (h:eN W L k al n fa D A) (bq:bw A m0) (hm0:m0<=120) (jN:Pl.Twin A.sh D) (e:En) (hA:bG W e) (hs:jx e) (kK:e.key.size<=300) (hk:e.kind=3) (at':Int) (ha:Pl.eQ A.sh.xs A.sh.used e at'=true):
    Calls Tryz.prog 47 #[.pointer (some ⟨al,0,none⟩),e.agg,.int .i64 at'] W fun r w'=>r=.returned (.tuple #[])/\rG W L k al n fa (Pl.dM D e at') ⟨A.at_,Pl.aW A.sh e at',Pl.gS A e⟩ w':=by
 obtain ⟨db,nb,ms,h⟩:=h
 obtain ⟨F,qC,hF⟩:=h.map
 have lB:=Pl.MZ jN bq.inv (fun c hc=>bq.sz c hc) (by omega)
 have hap:Pl.dL D e at'=true:=by rw [Pl.Ka jN bq.inv];exact ha
 have xD:=af (fun X (g:ae W X)=>M5 (qC.ag g) lB e (hA.ag g) hs at')
 rw [hap] at xD
 generalize Pl.dM D e at'=D' at *
 have mg:=tQ qC
 have jd:¬F al:=fun t=>by have:=hF al t;have:=h.lab;omega
 have hnew:∀j,W.heap.size<=j->¬F j:=fun j hj t=>by have:=mg j t;omega
 have cZ:=h.c0
 have hab:=aN cZ
 have HH:=af h
 have qA:=af (And.intro hF mg)
 have hcb:Pl.iq A.sh.xs A.sh.used e=true:=by unfold Pl.eQ at ha;simp only [Bool.and_eq_true] at ha;exact ha.1.1
 obtain ⟨hr,i,hi,hf,fc,bP,hkk⟩:=Pl.nz hcb
 obtain ⟨hu,o1,o2,hh,hne⟩:A.sh.used e.other.toNat=false/\1<=e.other/\e.other<=12/\Pl.aL (ah A.sh.xs i).lo (ah A.sh.xs i).hi e.key=true/\e.key.toList≠(ah A.sh.xs i).lo.toList:=by
  rcases hkk with k2 | ⟨_,q⟩ | ⟨k4,_⟩
  · omega
  · exact q
  · omega
 have iP:=Pl.jB hi
 have oU:=bq.inv.ids _ iP
 obtain ⟨P,S,hP,hin⟩:=bq.dom _ iP
 rw [bP] at hP oU
 obtain ⟨i12,c,hc,bN,G,sb,Dt,mi,lU,hB⟩:=h.states _ P S hP
 have jQ:c=ah A.sh.xs i:=by rw [<-Pl.jh bq hc bN,Pl.jh bq iP (i:=e.ai.toNat) (by omega)]
 have hsz:=bq.sz c hc
 have dh:A.st e.other.toNat=none:=by
  cases hx:A.st e.other.toNat with
  | none=>rfl
  | some v=>
   obtain ⟨x,hx1,af⟩:=bq.back e.other.toNat (by rw [hx];simp)
   have:=(bq.inv.ids x hx1).2.2
   rw [af,Int.toNat_natCast,hu] at this
   cases this
 have Gi:P.length<=1000:=by
  have a:=Eg A.st e.ai.toNat (by omega)
  have b:=bq.few
  rw [hP] at a
  unfold fS at a
  dsimp only at a
  omega
 have hcut:Pl.cU (Pl.dV c.lo c.hi) (Pl.aF e.key) (Pl.dX c.lo c.hi e.key) c.lo e.key=0:=by
  rw [Pl.vA,Pl.LN,jQ];exact Pl.Ml hh hne
 have hBl:=mi.all
 have dS:=af (fun (V U:World) (F':Nat->Prop) (ob:Nat) (hO:aj F W V) (hM:dU V F' db D') (hF':∀j,F' j->F j\/W.heap.size<=j) (hC:JZ V G (ms e.ai.toNat) sb c.lo e.key e.key c.hi (Dt.filter fun p=>!Pl.fH e.key p) (Dt.filter (Pl.fH e.key)) S ob U)=>h.split bq hF mg hO ha hk hM hF' hP hc bN lU hB hBl hC)
 have EU:=af (fun (X:World) (h2:dY X G (ms e.ai.toNat) sb c.lo c.hi Dt S)=>y9r h2 e.key (by have:=lU.len;omega) hsz.1 hsz.2 kK)
 rw [hcut] at EU
 obtain ⟨q,hq⟩:∃q:Nat,e.ai=q:=⟨e.ai.toNat,by omega⟩
 obtain ⟨o,ho⟩:∃o:Nat,e.other=o:=⟨e.other.toNat,by omega⟩
 have AK:e.ai.toNat=q:=by omega
 have Gx:e.other.toNat=o:=by omega
 have jM:q≠o:=fun e1=>by rw [Gx,<-e1,<-AK,hP] at dh;cases dh
 rw [AK] at hP dS EU hB hBl mi
 rw [Gx] at dS dh
 have cQ:=h.cs q (by omega)
 rw [show dB A.st ms q=.pointer (some ⟨ms q,0,none⟩) from by unfold dB;rw [hP];rfl] at cQ
 have cO:=h.cs o (by omega)
 have fO:=h.fz (1+o)
 generalize ms q=mq at *
 generalize Pl.aW A.sh e at'=dn at *
 generalize Pl.gS A e=cg at *
 have ER:q<=12:=by omega
 have He:o<=12:=by omega
 have rE:∀j,(j=mq\/G j)->gP G mq sb j:=fun j hj=>hj.elim (fun e=> .inr (.inl e)) .inl
 have lC:¬(al=mq\/G al):=fun t=>by have:=hB al (rE al t);have:=h.lab;omega
 have xH:∀j,gP G mq sb j->¬F j:=fun j hj t=>by have:=hB j hj;have:=hF j t;omega
 have rH:=af (And.intro rE (And.intro xH hBl))
 have HST:=af mi
 clear h qC hF mg bq jN lB hap ha hA hs kK hcb hr hi hf fc bP hkk hu o1 o2 hh hne iP oU hin bN jQ hsz Gi hcut hBl mi hB lU hc hP dh i12 AK Gx rE xH
 obtain ⟨kind,ai,other,server,ak,seq,key,upto,part,parts,ops,aC,aG,av,ar,aw⟩:=e
 unfold En.agg En.vals at *
 dsimp only at *
 subst hk hq ho
 go_in
 go_upto_region 6 with fail
 obtain ⟨Y,hY⟩:∃Y,Y=W.alloc (.cells #[.int .i64 3,.int .i64 q,.int .i64 o,.int .i64 server,.int .i64 ak,.int .i64 seq,.slice aC ops.length aG,.string key,.int .i64 upto,.int .i64 part,.int .i64 parts,.slice av ar aw] 39):=⟨_,rfl⟩
 have gY:ae W Y:=by rw [hY];exact (ae.rf W).alloc _
 obtain ⟨xb,hxb⟩:∃xb,xb=W.heap.size:=⟨_,rfl⟩
 have HX:=af (show ∀i v,(#[.int .i64 3,.int .i64 q,.int .i64 o,.int .i64 server,.int .i64 ak,.int .i64 seq,.slice aC ops.length aG,.string key,.int .i64 upto,.int .i64 part,.int .i64 parts,.slice av ar aw]:Array Value)[i]? =some v->Y.cell? ⟨xb,i,none⟩=some v from fun i v hv=>by
  rw [hY,hxb,cell_of_row _ _ i _ _ _ (heap_alloc_new W _)];simpa using hv)
 have dA:xb<Y.heap.size:=by rw [hY,hxb];simp
 have hnx:=hnew xb (by omega)
 have wW:=af (show W.heap.size<=xb by omega)
 have cR:=af gY
 have aZ:=(gY.cells.1 _ 0 hab).trans cZ
 rw [<-hY,<-hxb]
 clear hY gY hxb
 have X0:=aV (S:=F) (HX.out 0 _ rfl) hnx
 have X1:=aV (S:=F) (HX.out 1 _ rfl) hnx
 have X2:=aV (S:=F) (HX.out 2 _ rfl) hnx
 have X3:=aV (S:=F) (HX.out 3 _ rfl) hnx
 have X4:=aV (S:=F) (HX.out 4 _ rfl) hnx
 have X5:=aV (S:=F) (HX.out 5 _ rfl) hnx
 have X6:=aV (S:=F) (HX.out 6 _ rfl) hnx
 have X7:=aV (S:=F) (HX.out 7 _ rfl) hnx
 have X8:=aV (S:=F) (HX.out 8 _ rfl) hnx
 have X9:=aV (S:=F) (HX.out 9 _ rfl) hnx
 have lu:=aV (S:=F) (HX.out 10 _ rfl) hnx
 have lv:=aV (S:=F) (HX.out 11 _ rfl) hnx
 have AZ:=aV (S:=F) aZ jd
 have ky:=af (show JE 6 (ae Y) (fun v u=>v=.bool true/\∃Y',ae Y Y'/\lA Y' F db D' u) B6 (fun _=>false) (fun _=>undef) Y.drew from JE.start (ae.rf Y).drew _)
 refine kW 8 [6,7] (aj F Y) Eq (JE 6 (ae Y) (fun v u=>v=.bool true/\∃Y',ae Y Y'/\lA Y' F db D' u) B6) (fun f a=>(a.put (some 43) (f 6)).put (some 44) (f 7)) (by kernel_rfl) (by kernel_rfl) (fun _ _=>rfl) ky.out (fun L _ _ h=>?_) (fun _=>rfl) (fun _ _ _ _ h g=>g▸h) ?_
 · cases hL:L 6 with
   | false=>exact (h.pre hL).only _
   | true=>
    obtain ⟨_,Y',g,hO,_⟩:=h.post hL
    exact (g.only _).then hO
 repeat (first
  | refine kV ?_
  | (refine fF ?_;intro K hK;go_big_quiet_op;go_big_quiet_on)
  | (refine fE ?_;simp only [Act.put,sA,sB,sC]))
 refine uU ⟨⟨bH rfl (fun _ a=>a) (fun _ _=>rfl) (fun _=>rfl) ?_,bH rfl (fun f a=>a.put (some 43) (f 6)) (fun _ _=>rfl) (fun _=>rfl) ?_,trivial⟩,?_⟩
 · intro L f u hJ hL hd
   have HJ:=af hJ
   have HL:=af hL
   clear hJ hL hd X0 X1 X2 X3 X4 X5 X6 X7 X8 X9 lu lv AZ
   go_simp
   have hg:=HJ.out.pre HL.out
   refine (xD.out u (cR.out.trans hg)).mono ?_
   rintro r u' ⟨rfl,hM⟩
   exact ⟨_,rfl,HJ.out.call HL.out rfl ⟨rfl,u,hg,hM⟩⟩
 · intro L f u hJ hL hd
   have h6:=hd 6 rfl (by decide)
   have HC:=af h6
   have HJ:=af hJ
   have e6:=(hJ.post h6).1
   have ET:=af e6
   clear hJ hL hd h6 X0 X1 X2 X3 X4 X5 X6 X7 X8 X9 lu lv AZ
   rw [e6]
   clear e6
   go_simp
   exact HJ.out.put 7 HC.out (by decide) (fun g hg=>by cases hg;rw [ET.out];rfl)
 intro f6 u hJ
 obtain ⟨e6,Y',lq,fL,F',qj,iT⟩:=hJ.post rfl
 have e7:=hJ.val 7 _ rfl rfl
 rw [e6] at e7
 have xE:f6 7=.bool false:=e7
 have kz:aj F Y u:=(lq.only _).then fL
 have HOW:=af (show aj F W u from (cR.out.only _).then kz)
 have hs1:=cR.out.size
 have hs2:=lq.size
 have xG:=af (show dU u F' db D'/\∀j,F' j->F j\/W.heap.size<=j from ⟨qj,fun j hj=>(iT j hj).imp id fun q=>by omega⟩)
 have tT:=af (fun (i:Nat) v hv=>(kz.cell dA hnx i).trans (HX.out i v hv))
 have zA9:=ltT dA kz.size
 clear hJ fL qj iT e7 X0 X1 X2 X3 X4 X5 X6 X7 X8 X9 lu lv AZ lq kz ky aZ
 dsimp only [List.drop]
 simp only [Act.put,sA,sC,sB]
 rw [e6,xE]
 clear e6 xE
 have k0:=tT.out 0 _ rfl
 go_upto_region 9 with fail
 have aQ:=(HOW.out.cell hab jd _).trans cQ
 have aO:=(HOW.out.cell hab jd _).trans cO
 have fO:=(HOW.out.frozen hab jd _).trans fO
 have kB:=aN aQ
 have AO:=af (HST.out.kept HOW.out (fun j hj=>rH.out.2.1 j (.inl hj)) (rH.out.2.1 _ (.inr (.inl rfl))) (rH.out.2.1 _ (.inr (.inr rfl))))
 obtain ⟨I,hI⟩:∃I:World->Prop,I=fun x=>aj (fun j=>(j=mq\/G j)\/j=al) u x/\x.cell? ⟨al,1+q,none⟩=some (.pointer (some ⟨mq,0,none⟩)):=⟨_,rfl⟩
 have qx:∀x,I x->aj (fun j=>(j=mq\/G j)\/j=al) u x/\x.cell? ⟨al,1+q,none⟩=some (.pointer (some ⟨mq,0,none⟩)):=fun x h=>by rw [hI] at h;exact h
 have sH:∀x,aj (fun j=>(j=mq\/G j)\/j=al) u x->x.cell? ⟨al,1+q,none⟩=some (.pointer (some ⟨mq,0,none⟩))->I x:=fun x h h2=>by rw [hI];exact ⟨h,h2⟩
 clear hI
 have qD:¬((xb=mq\/G xb)\/xb=al):=fun t=>by
  have:=wW.out
  rcases t with t | t
  · have:=rH.out.2.2 xb (rH.out.1 xb t);omega
  · omega
 have x1:=tT.out 1 _ rfl
 have x2:=tT.out 2 _ rfl
 have x7:=tT.out 7 _ rfl
 have Z1:∀p:Wd I,p.w.cell? ⟨xb,1,none⟩=some (.int .i64 q):=fun p=>((qx p.w p.ok).1.cell zA9 qD _).trans x1
 have Z2:∀p:Wd I,p.w.cell? ⟨xb,2,none⟩=some (.int .i64 o):=fun p=>((qx p.w p.ok).1.cell zA9 qD _).trans x2
 have Z7:∀p:Wd I,p.w.cell? ⟨xb,7,none⟩=some (.string key):=fun p=>((qx p.w p.ok).1.cell zA9 qD _).trans x7
 have ZQ:∀p:Wd I,p.w.cell? ⟨al,1+q,none⟩=some (.pointer (some ⟨mq,0,none⟩)):=fun p=>(qx p.w p.ok).2
 have mL:Nonempty (Wd I):=⟨⟨u,sH u ((ae.rf u).only _) aQ⟩⟩
 obtain ⟨RW,tu⟩:∃RW:Value->World->Prop,RW=fun v x=>∃ob,v=.tuple #[.pointer (some ⟨ob,0,none⟩),.int .i64 0]/\∃Y',ae u Y'/\JZ Y' G mq sb c.lo key key c.hi (Dt.filter fun p=>!Pl.fH key p) (Dt.filter (Pl.fH key)) S ob x:=⟨_,rfl⟩
 obtain ⟨QW,ES⟩:∃QW:Value->World->Prop,QW=fun v x=>∃ob,v=.tuple #[.pointer (some ⟨ob,0,none⟩),.int .i64 0]/\∃x0,RW v x0/\x=x0.setCell ⟨al,1+o,none⟩ (.pointer (some ⟨ob,0,none⟩)):=⟨_,rfl⟩
 have CY:=af tu
 have BR:=af ES
 have AL:∀v x,RW v x->aj (fun j=>j=mq\/G j) u x:=fun v x r=>by
  rw [tu] at r
  obtain ⟨ob,_,Y',g,hO,_⟩:=r
  exact (g.only _).then hO
 have RA:=af AL
 have Ki:∀v x,QW v x->I x:=fun v x r=>by
  rw [ES] at r
  obtain ⟨ob,_,x0,r0,rfl⟩:=r
  have hO:=AL v x0 r0
  have a1:=(hO.cell kB lC _).trans aO
  refine sH _ ((hO.mono fun j hj=> .inl (.inl hj)).then ((aj.setCell x0 ⟨al,1+o,none⟩ _).mono fun j hj=> .inl (.inr hj))) ?_
  rw [(Kc a1).2.1 _ (by omega)]
  exact (hO.cell kB lC _).trans aQ
 have hVF:∀v x,RW v x->∃ob,v=.tuple #[.pointer (some ⟨ob,0,none⟩),.int .i64 0]:=fun v x r=>by
  rw [tu] at r
  obtain ⟨ob,e,_⟩:=r
  exact ⟨ob,e⟩
 have ky:=af (show JF 12 19 (ae u) (fun v=>∃ob,v=.tuple #[.pointer (some ⟨ob,0,none⟩),.int .i64 0]) RW QW dsT (fun _=>false) (fun _=>undef) u.drew from JF.start (ae.rf u).drew _)
 have Kj:∀L f x,JF 12 19 (ae u) (fun v=>∃ob,v=.tuple #[.pointer (some ⟨ob,0,none⟩),.int .i64 0]) RW QW dsT L f x->I x:=fun L f x h=>by
  cases hL:L 12 with
  | false=>exact sH x ((h.pre hL).only _) (((h.pre hL).cells.1 _ _ kB).trans aQ)
  | true=>
   cases hL2:L 19 with
   | false=>
    have hO:=AL _ _ (h.mid hL hL2)
    exact sH x (hO.mono fun j hj=> .inl (.inl hj)) ((hO.cell kB lC _).trans aQ)
   | true=>exact Ki _ _ (h.post hL2)
 clear tu ES AL Ki sH qx k0 x1 x2 x7 aQ
 have MN:=af (And.intro aO fO)
 clear aO fO cO cQ
 refine kW 20 [12,13,14,15,19] I Eq (JF 12 19 (ae u) (fun v=>∃ob,v=.tuple #[.pointer (some ⟨ob,0,none⟩),.int .i64 0]) RW QW dsT) (fun f a=>(((a.put (some 62) (f 12)).put (some 49) (f 13)).put (some 63) (f 14)).put (some 64) (f 15)) (by kernel_rfl) (by kernel_rfl) (fun _ _=>rfl) ky.out Kj (fun _=>rfl) (fun _ _ _ _ h g=>g▸h) ?_
 clear Kj ky
 repeat (first
  | refine kV ?_
  | (refine fF ?_;intro K hK;go_big_quiet_op;go_big_quiet_on)
  | (refine fE ?_;simp only [Act.put,sA,sB,sC]))
 refine uU ⟨⟨bH rfl (fun _ a=>a) (fun _ _=>rfl) (fun _=>rfl) ?_,bH rfl (fun f a=>a.put (some 62) (f 12)) (fun _ _=>rfl) (fun _=>rfl) ?_,bH rfl (fun f a=>a.put (some 49) (f 13)) (fun _ _=>rfl) (fun _=>rfl) ?_,bH rfl (fun f a=>a.put (some 49) (f 13)) (fun _ _=>rfl) (fun _=>rfl) ?_,bH rfl (fun f a=>((a.put (some 62) (f 12)).put (some 49) (f 13)).put (some 63) (f 14)) (fun _ _=>rfl) (fun _=>rfl) ?_,trivial⟩,?_⟩
 · intro L f x hJ hL hd
   have HJ:=af hJ
   have HL:=af hL
   clear hJ hL hd Z1 Z2 Z7 ZQ mL
   go_simp
   have hg:=HJ.out.pre HL.out
   refine (EU.out x (AO.out.ag hg)).mono ?_
   rintro r x' (⟨hc,_⟩ | ⟨_,ob,rfl,zB9⟩)
   · exact absurd rfl hc
   · exact ⟨_,rfl,HJ.out.call HL.out rfl (by decide) ⟨ob,rfl⟩ (by rw [CY.out];exact ⟨ob,rfl,x,hg,zB9⟩)⟩
 · intro L f x hJ hL hd
   have HC:=af (hd 12 rfl (by decide))
   have HJ:=af hJ
   clear hJ hL hd Z1 Z2 Z7 ZQ mL
   go_simp
   exact HJ.out.put 13 HC.out (by decide) (by decide) (fun g hg=>by cases hg;rfl)
 · intro L f x hJ hL hd
   have yO:=hd 13 rfl (by decide)
   have HC:=af (hJ.ord 13 _ rfl yO)
   have HJ:=af hJ
   obtain ⟨ob,e12⟩:=hJ.form HC.out
   have lQ:=hJ.val 13 _ rfl yO
   rw [e12] at lQ
   have HE:=af e12
   clear hJ hL hd yO Z1 Z2 Z7 ZQ mL e12
   rw [lQ]
   clear lQ
   dsimp only [id]
   go_simp
   exact HJ.out.put 14 HC.out (by decide) (by decide) (fun g hg=>by cases hg;rw [HE.out];rfl)
 · intro L f x hJ hL hd
   have yO:=hd 13 rfl (by decide)
   have HC:=af (hJ.ord 13 _ rfl yO)
   have HJ:=af hJ
   obtain ⟨ob,e12⟩:=hJ.form HC.out
   have lQ:=hJ.val 13 _ rfl yO
   rw [e12] at lQ
   have HE:=af e12
   clear hJ hL hd yO Z1 Z2 Z7 ZQ mL e12
   rw [lQ]
   clear lQ
   dsimp only [id]
   go_simp
   exact HJ.out.put 15 HC.out (by decide) (by decide) (fun g hg=>by cases hg;rw [HE.out];rfl)
 · intro L f x hJ hL hd
   have RF:=hd 14 rfl (by decide)
   have hC:=hJ.ord 14 _ rfl RF
   obtain ⟨ob,e12⟩:=hJ.form hC
   have yP:=hJ.val 14 _ rfl RF
   rw [e12] at yP
   have xI:f 14=.pointer (some ⟨ob,0,none⟩):=yP
   have hR:=hJ.mid hC hL
   have hO:=RA.out _ _ hR
   have b1:=(hO.cell kB lC _).trans MN.out.1
   have b2:=(hO.frozen kB lC _).trans MN.out.2
   have HT:=af (fun v=>hJ.turn (u':=x.setCell ⟨al,1+o,none⟩ (.pointer (some ⟨ob,0,none⟩))) hC (by decide) rfl v (by rw [BR.out];exact ⟨ob,e12,x,hR,rfl⟩))
   unfold dB at b1
   clear hJ hL hd RF hR hO Z1 Z2 Z7 ZQ mL e12 yP
   rw [xI]
   clear xI
   go_simp
   exact HT.out _
 intro f9 x hJ
 obtain ⟨ob,e12⟩:=hJ.form rfl
 have lQ:=hJ.val 13 _ rfl rfl
 have yP:=hJ.val 14 _ rfl rfl
 have RG:=hJ.val 15 _ rfl rfl
 rw [e12] at lQ yP RG
 dsimp only [id] at lQ
 have xI:f9 14=.pointer (some ⟨ob,0,none⟩):=yP
 have Km:f9 15=.int .i64 0:=RG
 have hQ:=hJ.post rfl
 rw [BR.out] at hQ
 obtain ⟨ob1,h1,x0,hR,rfl⟩:=hQ
 rw [CY.out] at hR
 obtain ⟨ob2,h2,Y2,Gy,zB9⟩:=hR
 have e1:ob1=ob:=by rw [e12] at h1;simpa using h1.symm
 have e2:ob2=ob:=by rw [e12] at h2;simpa using h2.symm
 subst e1 e2
 have cB:=af (And.intro Gy zB9)
 clear hJ h1 h2 Gy zB9 yP RG Z1 Z2 Z7 ZQ mL
 dsimp only [List.drop]
 simp only [Act.put,sA,sC,sB]
 rw [e12,lQ,xI,Km]
 clear e12 lQ xI Km
 go_wp2_with fail
 go_end0
 exact ⟨rfl,dS.out Y2 x0 F' _ (HOW.out.cm cB.out.1) (xG.out.1.ag cB.out.1) xG.out.2 cB.out.2⟩
theorem y7E {W:World} {L:Nat->Nat} {k al n m0:Nat} {fa:Lit->Option Value} {D:bj} {A:bc} (h:eN W L k al n fa D A) (bq:bw A m0) (hm0:m0<=120) (jN:Pl.Twin A.sh D) (e:En) (hA:bG W e) (hs:jx e) (kK:e.key.size<=300) (hk:e.kind=4) (at':Int) (ha:Pl.eQ A.sh.xs A.sh.used e at'=true):
    Calls Tryz.prog 47 #[.pointer (some ⟨al,0,none⟩),e.agg,.int .i64 at'] W fun r w'=>r=.returned (.tuple #[])/\rG W L k al n fa (Pl.dM D e at') ⟨A.at_,Pl.aW A.sh e at',Pl.gS A e⟩ w':=by
 obtain ⟨db,nb,ms,h⟩:=h
 obtain ⟨F,qC,hF⟩:=h.map
 have lB:=Pl.MZ jN bq.inv (fun c hc=>bq.sz c hc) (by omega)
 have hap:Pl.dL D e at'=true:=by rw [Pl.Ka jN bq.inv];exact ha
 have xD:=af (fun X (g:ae W X)=>M5 (qC.ag g) lB e (hA.ag g) hs at')
 rw [hap] at xD
 generalize Pl.dM D e at'=D' at *
 have mg:=tQ qC
 have jd:¬F al:=fun t=>by have:=hF al t;have:=h.lab;omega
 have hnew:∀j,W.heap.size<=j->¬F j:=fun j hj t=>by have:=mg j t;omega
 have cZ:=h.c0
 have hab:=aN cZ
 have HH:=af h
 have qA:=af (And.intro hF mg)
 have hcb:Pl.iq A.sh.xs A.sh.used e=true:=by unfold Pl.eQ at ha;simp only [Bool.and_eq_true] at ha;exact ha.1.1
 obtain ⟨hr,i,hi,hf,fc,bP,hkk⟩:=Pl.nz hcb
 obtain ⟨jj,hj,kF,nA,eA,hz⟩:∃j,j<A.sh.xs.length/\Pl.ax A.sh.xs e.other=(j:Nat)/\Pl.l9 A.sh.xs e=j/\(ah A.sh.xs j).id=e.other/\Pl.aK (Pl.bf (ah A.sh.xs i).lo (ah A.sh.xs i).hi) (Pl.bf (ah A.sh.xs j).lo (ah A.sh.xs j).hi) (ah A.sh.xs i).lo (ah A.sh.xs i).hi (ah A.sh.xs j).lo (ah A.sh.xs j).hi=0:=by
  rcases hkk with k2 | ⟨k3,_⟩ | ⟨_,q⟩
  · omega
  · omega
  · exact q
 have hrs:=(Pl.BG hr hk).2.2.2.2
 have iP:=Pl.jB hi
 have ll:=Pl.jB hj
 have nB:=bq.inv.ids _ iP
 have mh:=bq.inv.ids _ ll
 obtain ⟨P,S,hP,oV⟩:=bq.dom _ iP
 obtain ⟨Q,T,hQ,nC⟩:=bq.dom _ ll
 rw [bP] at hP nB
 rw [eA] at hQ mh
 have jM:e.ai.toNat≠e.other.toNat:=by omega
 obtain ⟨i12,c,hc,bN,G,sb,Dt,mi,lU,hB⟩:=h.states _ P S hP
 obtain ⟨j12,d,hd,mj,G2,so,Du,Et,M9,hB2⟩:=h.states _ Q T hQ
 have jQ:c=ah A.sh.xs i:=by rw [<-Pl.jh bq hc bN,Pl.jh bq iP (i:=e.ai.toNat) (by omega)]
 have BL:d=ah A.sh.xs jj:=by rw [<-Pl.jh bq hd mj,Pl.jh bq ll (i:=e.other.toNat) (by omega)]
 have hsz:=bq.sz c hc
 have sD:=bq.sz d hd
 have ri:=bq.chain.right i hi
 have rj:=bq.chain.right jj hj
 rw [<-jQ] at oV ri hz
 rw [<-BL] at nC rj hz
 have WX:=Pl.VG oV nC lU.fP M9.fP ri rj hz
 obtain ⟨WY,hno⟩:=Pl.AH WX lU M9
 have few:∀q P S,q<13->A.st q=some (P,S)->P.length<=1000:=fun q P S hq hA=>by
  have a:=Eg A.st q hq
  have b:=bq.few
  rw [hA] at a
  unfold fS at a
  dsimp only at a
  omega
 have hP1:=few _ P S (by omega) hP
 have hQ1:=few _ Q T (by omega) hQ
 have hJ:dI S T 5=joinL S (js T):=by
  obtain ⟨_,a⟩:=mi
  obtain ⟨_,b⟩:=Et
  exact y9W S T (fun x y hx=>(a.seen.ok x y hx).2.2.s1) (fun x y hx=>(b.seen.ok x y hx).2.2.s1)
 have hBl:=mi.all
 have Kn:=Et.all
 have dS:=af (fun (V U:World) (F':Nat->Prop) (hO:aj F W V) (hM:dU V F' db D') (hF':∀j,F' j->F j\/W.heap.size<=j) (hC:oG V G (ms e.ai.toNat) sb (Pl.aH (Pl.bf c.lo c.hi) (Pl.bf d.lo d.hi) c.lo c.hi d.lo d.hi).1 (Pl.aH (Pl.bf c.lo c.hi) (Pl.bf d.lo d.hi) c.lo c.hi d.lo d.hi).2 (Dt++Du) (dI S T 5) U)=>h.merge bq hF mg hO ha hk hM hF' hP hQ hc bN hd mj WY hJ hB hBl hC)
 have AP:=af (fun (X:World) (tb tq:Nat) (h2:iL X G (ms e.ai.toNat) tb sb c.lo c.hi Dt S) (k2:iL X G2 (ms e.other.toNat) tq so d.lo d.hi Du T)=>z0r h2 k2 (fun j hj FN=>by
  have a:gP G (ms e.ai.toNat) sb j:=by
   rcases hj with t | t | t
   · exact .inr (.inl t)
   · exact .inr (.inr t)
   · exact .inl t
  have b:gP G2 (ms e.other.toNat) so j:=by
   rcases FN with t | t | t
   · exact .inr (.inl t)
   · exact .inr (.inr t)
   · exact .inl t
  have:=hB j a
  have:=hB2 j b
  omega) (by have:=lU.len;omega) (by have:=M9.len;omega) hno hsz.1 hsz.2 sD.1 sD.2 (by rw [Pl.vA,Pl.vA];exact hz))
 rw [Pl.vA,Pl.vA] at AP
 generalize Pl.aH (Pl.bf c.lo c.hi) (Pl.bf d.lo d.hi) c.lo c.hi d.lo d.hi=vv at *
 generalize dI S T 5=jk at *
 obtain ⟨q,hq⟩:∃q:Nat,e.ai=q:=⟨e.ai.toNat,by omega⟩
 obtain ⟨o,ho⟩:∃o:Nat,e.other=o:=⟨e.other.toNat,by omega⟩
 have AK:e.ai.toNat=q:=by omega
 have Gx:e.other.toNat=o:=by omega
 rw [AK] at hP dS AP hB hBl mi
 rw [Gx] at dS AP hQ hB2 Kn Et
 have cQ:=h.cs q (by omega)
 rw [show dB A.st ms q=.pointer (some ⟨ms q,0,none⟩) from by unfold dB;rw [hP];rfl] at cQ
 have cO:=h.cs o (by omega)
 rw [show dB A.st ms o=.pointer (some ⟨ms o,0,none⟩) from by unfold dB;rw [hQ];rfl] at cO
 have fO:=h.fz (1+o)
 generalize ms q=mq at *
 generalize ms o=mo at *
 generalize Pl.aW A.sh e at'=dn at *
 generalize Pl.gS A e=cg at *
 have ER:q<=12:=by omega
 have He:o<=12:=by omega
 have rE:∀j,(j=mq\/j=sb\/G j)->gP G mq sb j:=fun j hj=>by
  rcases hj with t | t | t
  · exact .inr (.inl t)
  · exact .inr (.inr t)
  · exact .inl t
 have lC:¬(al=mq\/al=sb\/G al):=fun t=>by have:=hB al (rE al t);have:=h.lab;omega
 have xH:∀j,gP G mq sb j->¬F j:=fun j hj t=>by have:=hB j hj;have:=hF j t;omega
 have Ca:∀j,gP G2 mo so j->¬F j:=fun j hj t=>by have:=hB2 j hj;have:=hF j t;omega
 have rH:=af (And.intro rE (And.intro xH (And.intro Ca hBl)))
 have HST:=af (And.intro mi Et)
 clear h qC hF mg bq jN lB hap ha hA hs kK hcb hr hi hf fc bP hkk hj kF nA eA hz hrs iP ll nB mh oV nC jM i12 j12 hc bN hd mj jQ BL hsz sD ri rj WX WY hno few hP1 hQ1 hJ hBl Kn mi Et hB hB2 lU M9 hP hQ AK Gx rE xH Ca
 obtain ⟨kind,ai,other,server,ak,seq,key,upto,part,parts,ops,aC,aG,av,ar,aw⟩:=e
 unfold En.agg En.vals at *
 dsimp only at *
 subst hk hq ho
 go_in
 go_upto_region 6 with fail
 obtain ⟨Y,hY⟩:∃Y,Y=W.alloc (.cells #[.int .i64 4,.int .i64 q,.int .i64 o,.int .i64 server,.int .i64 ak,.int .i64 seq,.slice aC ops.length aG,.string key,.int .i64 upto,.int .i64 part,.int .i64 parts,.slice av ar aw] 39):=⟨_,rfl⟩
 have gY:ae W Y:=by rw [hY];exact (ae.rf W).alloc _
 obtain ⟨xb,hxb⟩:∃xb,xb=W.heap.size:=⟨_,rfl⟩
 have HX:=af (show ∀i v,(#[.int .i64 4,.int .i64 q,.int .i64 o,.int .i64 server,.int .i64 ak,.int .i64 seq,.slice aC ops.length aG,.string key,.int .i64 upto,.int .i64 part,.int .i64 parts,.slice av ar aw]:Array Value)[i]? =some v->Y.cell? ⟨xb,i,none⟩=some v from fun i v hv=>by
  rw [hY,hxb,cell_of_row _ _ i _ _ _ (heap_alloc_new W _)];simpa using hv)
 have dA:xb<Y.heap.size:=by rw [hY,hxb];simp
 have hnx:=hnew xb (by omega)
 have wW:=af (show W.heap.size<=xb by omega)
 have cR:=af gY
 have aZ:=(gY.cells.1 _ 0 hab).trans cZ
 rw [<-hY,<-hxb]
 clear hY gY hxb
 have X0:=aV (S:=F) (HX.out 0 _ rfl) hnx
 have X1:=aV (S:=F) (HX.out 1 _ rfl) hnx
 have X2:=aV (S:=F) (HX.out 2 _ rfl) hnx
 have X3:=aV (S:=F) (HX.out 3 _ rfl) hnx
 have X4:=aV (S:=F) (HX.out 4 _ rfl) hnx
 have X5:=aV (S:=F) (HX.out 5 _ rfl) hnx
 have X6:=aV (S:=F) (HX.out 6 _ rfl) hnx
 have X7:=aV (S:=F) (HX.out 7 _ rfl) hnx
 have X8:=aV (S:=F) (HX.out 8 _ rfl) hnx
 have X9:=aV (S:=F) (HX.out 9 _ rfl) hnx
 have lu:=aV (S:=F) (HX.out 10 _ rfl) hnx
 have lv:=aV (S:=F) (HX.out 11 _ rfl) hnx
 have AZ:=aV (S:=F) aZ jd
 have ky:=af (show JE 6 (ae Y) (fun v u=>v=.bool true/\∃Y',ae Y Y'/\lA Y' F db D' u) B6 (fun _=>false) (fun _=>undef) Y.drew from JE.start (ae.rf Y).drew _)
 refine kW 8 [6,7] (aj F Y) Eq (JE 6 (ae Y) (fun v u=>v=.bool true/\∃Y',ae Y Y'/\lA Y' F db D' u) B6) (fun f a=>(a.put (some 43) (f 6)).put (some 44) (f 7)) (by kernel_rfl) (by kernel_rfl) (fun _ _=>rfl) ky.out (fun L _ _ h=>?_) (fun _=>rfl) (fun _ _ _ _ h g=>g▸h) ?_
 · cases hL:L 6 with
   | false=>exact (h.pre hL).only _
   | true=>
    obtain ⟨_,Y',g,hO,_⟩:=h.post hL
    exact (g.only _).then hO
 repeat (first
  | refine kV ?_
  | (refine fF ?_;intro K hK;go_big_quiet_op;go_big_quiet_on)
  | (refine fE ?_;simp only [Act.put,sA,sB,sC]))
 refine uU ⟨⟨bH rfl (fun _ a=>a) (fun _ _=>rfl) (fun _=>rfl) ?_,bH rfl (fun f a=>a.put (some 43) (f 6)) (fun _ _=>rfl) (fun _=>rfl) ?_,trivial⟩,?_⟩
 · intro L f u hJ hL hd
   have HJ:=af hJ
   have HL:=af hL
   clear hJ hL hd X0 X1 X2 X3 X4 X5 X6 X7 X8 X9 lu lv AZ
   go_simp
   have hg:=HJ.out.pre HL.out
   refine (xD.out u (cR.out.trans hg)).mono ?_
   rintro r u' ⟨rfl,hM⟩
   exact ⟨_,rfl,HJ.out.call HL.out rfl ⟨rfl,u,hg,hM⟩⟩
 · intro L f u hJ hL hd
   have h6:=hd 6 rfl (by decide)
   have HC:=af h6
   have HJ:=af hJ
   have e6:=(hJ.post h6).1
   have ET:=af e6
   clear hJ hL hd h6 X0 X1 X2 X3 X4 X5 X6 X7 X8 X9 lu lv AZ
   rw [e6]
   clear e6
   go_simp
   exact HJ.out.put 7 HC.out (by decide) (fun g hg=>by cases hg;rw [ET.out];rfl)
 intro f6 u hJ
 obtain ⟨e6,Y',lq,fL,F',qj,iT⟩:=hJ.post rfl
 have e7:=hJ.val 7 _ rfl rfl
 rw [e6] at e7
 have xE:f6 7=.bool false:=e7
 have kz:aj F Y u:=(lq.only _).then fL
 have HOW:=af (show aj F W u from (cR.out.only _).then kz)
 have hs1:=cR.out.size
 have hs2:=lq.size
 have xG:=af (show dU u F' db D'/\∀j,F' j->F j\/W.heap.size<=j from ⟨qj,fun j hj=>(iT j hj).imp id fun q=>by omega⟩)
 have tT:=af (fun (i:Nat) v hv=>(kz.cell dA hnx i).trans (HX.out i v hv))
 have zA9:=ltT dA kz.size
 clear hJ fL qj iT e7 X0 X1 X2 X3 X4 X5 X6 X7 X8 X9 lu lv AZ lq kz ky aZ
 dsimp only [List.drop]
 simp only [Act.put,sA,sC,sB]
 rw [e6,xE]
 clear e6 xE
 have k0:=tT.out 0 _ rfl
 go_upto_region 11 with fail
 have aQ:=(HOW.out.cell hab jd _).trans cQ
 have aO:=(HOW.out.cell hab jd _).trans cO
 have fO:=(HOW.out.frozen hab jd _).trans fO
 have kB:=aN aQ
 have AO:=af (And.intro (HST.out.1.kept HOW.out (fun j hj=>rH.out.2.1 j (.inl hj)) (rH.out.2.1 _ (.inr (.inl rfl))) (rH.out.2.1 _ (.inr (.inr rfl)))) (HST.out.2.kept HOW.out (fun j hj=>rH.out.2.2.1 j (.inl hj)) (rH.out.2.2.1 _ (.inr (.inl rfl))) (rH.out.2.2.1 _ (.inr (.inr rfl)))))
 have qD:¬(xb=mq\/xb=sb\/G xb):=fun t=>by
  have:=wW.out
  have:=rH.out.2.2.2 xb (rH.out.1 xb t);omega
 have Z1:=aV (S:=fun j=>j=mq\/j=sb\/G j) (tT.out 1 _ rfl) qD
 have Z2:=aV (S:=fun j=>j=mq\/j=sb\/G j) (tT.out 2 _ rfl) qD
 have ZQ:=aV (S:=fun j=>j=mq\/j=sb\/G j) aQ lC
 have ZO:=aV (S:=fun j=>j=mq\/j=sb\/G j) aO lC
 have ky:=af (show JE 14 (ae u) (fun v x=>v=.int .i64 0/\∃Y',ae u Y'/\oG Y' G mq sb vv.1 vv.2 (Dt++Du) jk x) (fun _=>none) (fun _=>false) (fun _=>undef) u.drew from JE.start (ae.rf u).drew _)
 clear k0 cO cQ
 refine kW 15 [14] (aj (fun j=>j=mq\/j=sb\/G j) u) Eq (JE 14 (ae u) (fun v x=>v=.int .i64 0/\∃Y',ae u Y'/\oG Y' G mq sb vv.1 vv.2 (Dt++Du) jk x) (fun _=>none)) (fun f a=>a.put (some 84) (f 14)) (by kernel_rfl) (by kernel_rfl) (fun _ _=>rfl) ky.out (fun L _ _ h=>?_) (fun _=>rfl) (fun _ _ _ _ h g=>g▸h) ?_
 · cases hL:L 14 with
   | false=>exact (h.pre hL).only _
   | true=>
    obtain ⟨_,Y',g,hO,_⟩:=h.post hL
    exact (g.only _).then hO
 repeat (first
  | refine kV ?_
  | (refine fF ?_;intro K hK;go_big_quiet_op;go_big_quiet_on)
  | (refine fE ?_;simp only [Act.put,sA,sB,sC]))
 refine uU ⟨⟨bH rfl (fun _ a=>a) (fun _ _=>rfl) (fun _=>rfl) ?_,trivial⟩,?_⟩
 · intro L f x hJ hL hd
   have HJ:=af hJ
   have HL:=af hL
   clear hJ hL hd Z1 Z2 ZQ ZO
   go_simp
   have hg:=HJ.out.pre HL.out
   obtain ⟨tb,s1⟩:=AO.out.1.ag hg
   obtain ⟨tq,s2⟩:=AO.out.2.ag hg
   refine (AP.out x tb tq s1 s2).mono ?_
   rintro r x' ⟨rfl,hM⟩
   exact ⟨_,rfl,HJ.out.call HL.out rfl ⟨rfl,x,hg,hM⟩⟩
 intro f9 x hJ
 obtain ⟨yP,Y2,Gy,hMT⟩:=hJ.post rfl
 have EW:aj (fun j=>j=mq\/j=sb\/G j) u x:=(Gy.only _).then hMT.1
 have aQ:=(EW.cell kB lC _).trans aQ
 have aO:=(EW.cell kB lC _).trans aO
 have fO:=(EW.frozen kB lC _).trans fO
 have x2:=(EW.cell zA9 qD _).trans (tT.out 2 _ rfl)
 have F8:=ltT zA9 EW.size
 have Ko:=ltT kB EW.size
 have cB:=af (And.intro Gy hMT)
 clear hJ Gy hMT EW Z1 Z2 ZQ ZO ky
 dsimp only [List.drop]
 simp only [Act.put,sA,sC,sB]
 rw [yP]
 clear yP
 go_upto_region 12 with fail
 have Z2:=aU x2
 have ZO:=aU aO
 refine lH 5 (by kernel_rfl) (by kernel_rfl) (fun _ _=>rfl) ?_
 repeat (first
  | (refine fF ?_;intro K hK;go_big_quiet_op;go_big_quiet_on)
  | (refine fE ?_;simp only [Act.put,sA,sB,sC]))
 refine iH (by rfl) ?_
 intro z Na
 have aO:=(Na.cells.1 _ _ Ko).trans aO
 have fO:=(Na.cells.2 _ _ Ko).trans fO
 have gq:=af Na
 clear Na Z2 ZO x2 aQ
 dsimp only [List.drop]
 go_wp2_with fail
 go_end0
 have hMz:oG Y2 G mq sb vv.1 vv.2 (Dt++Du) jk z:=by
  obtain ⟨hO,G',a,b⟩:=cB.out.2
  exact ⟨hO.cm gq.out,G',a.ag gq.out,b⟩
 exact ⟨rfl,dS.out Y2 z F' (HOW.out.cm cB.out.1) (xG.out.1.ag cB.out.1) xG.out.2 hMz⟩
theorem rG.any {W W':World} {L:Nat->Nat} {k al n:Nat} {fa:Lit->Option Value} {D:bj} {A:bc} (h:rG W L k al n fa D A W') (a:Int):rG W L k al n fa D ⟨a,A.sh,A.st⟩ W':=by
 obtain ⟨h1,L',h2,h3,h4⟩:=h
 exact ⟨h1,L',h2,h3,h4.any a⟩
def Gz (e:En):Prop:=e.key.size<=300/\∀o∈e.ops,o.key.size<=300/\o.val.size<=300
theorem z0a {W:World} {L:Nat->Nat} {k al n m0:Nat} {fa:Lit->Option Value} {D:bj} {A:bc} (h:eN W L k al n fa D A) (bq:bw A m0) (hm0:m0<=120) (jN:Pl.Twin A.sh D) (e:En) (hA:bG W e) (hz:Gz e) (hr:Pl.bR e=true) (at':Int) (hat:¬(at'<A.at_\/at'<0\/4096<=at')) (hn:n<=1000000):
    Calls Tryz.prog 47 #[.pointer (some ⟨al,0,none⟩),e.agg,.int .i64 at'] W fun r w'=>r=.returned (.tuple #[])/\rG W L k al (n+1) (xC fa A e at') (Pl.dM D e at') (Pl.bF A e at').2 w':=by
 have hs:jx e:=⟨by have:=hz.1;omega,fun o ho=>by have:=(hz.2 o ho).1;omega⟩
 unfold Pl.bF
 rw [zZ0 (by rw [hr];simp),zZ0 hat]
 unfold xC
 by_cases k1:e.kind=1
 · have hsh:=VL hr k1
   rw [zZ1 k1,zZ1 k1,Pl.z0O k1]
   unfold Kh
   cases hst:A.st e.ai.toNat with
   | none=>
    refine (y9f h e k1 hsh.1 hsh.2 hst at' (by omega) (by omega) hn).mono ?_
    rintro r w' ⟨hr',hT⟩
    exact ⟨hr',hT.any _⟩
   | some v=>
    obtain ⟨P,S⟩:=v
    refine (y9b h bq hm0 e hA (fun o ho=>by have:=(hz.2 o ho).1;omega) (fun o ho=>by have:=(hz.2 o ho).2;omega) k1 hsh.1 hsh.2 hst at' (by omega) (by omega) hn).mono ?_
    rintro r w' ⟨hr',hT⟩
    exact ⟨hr',hT.any _⟩
 · rw [zZ0 k1,zZ0 k1]
   cases ha:Pl.eQ A.sh.xs A.sh.used e at' with
   | false=>
    rw [zZ0 (by simp)]
    refine (z2I h bq hm0 jN e hA hs hz.1 k1 at' ha).mono ?_
    rintro r w' ⟨hr',hT⟩
    exact ⟨hr',(hT.any _).mono (by omega)⟩
   | true=>
    rw [zZ1 rfl]
    have hcb:Pl.iq A.sh.xs A.sh.used e=true:=by unfold Pl.eQ at ha;simp only [Bool.and_eq_true] at ha;exact ha.1.1
    obtain ⟨_,_,_,_,_,_,hkk⟩:=Pl.nz hcb
    rcases hkk with k2 | ⟨k3,_⟩ | ⟨k4,_⟩
    · refine (y9F h bq hm0 jN e hA hs hz.1 k2 at' ha).mono ?_
      rintro r w' ⟨hr',hT⟩
      exact ⟨hr',(hT.any _).mono (by omega)⟩
    · refine (y7O h bq hm0 jN e hA hs hz.1 k3 at' ha).mono ?_
      rintro r w' ⟨hr',hT⟩
      exact ⟨hr',(hT.any _).mono (by omega)⟩
    · refine (y7E h bq hm0 jN e hA hs hz.1 k4 at' ha).mono ?_
      rintro r w' ⟨hr',hT⟩
      exact ⟨hr',(hT.any _).mono (by omega)⟩
def Kq (w:World) (al:Nat) (w':World):Prop:=w.heap.size<=al/\ae w w'/\∀(k:Nat) (L:Nat->Nat),∃L',(∀j,j<w.heap.size->L' j=L j)/\(∀j,w.heap.size<=j->br k (L' j))/\eN w' L' k al 0 (fun _=>none) bj.init bc.init
structure RH (Y:World) (v:Value) (u:World):Prop where
 ex:∃ms sb G,v=.pointer (some ⟨ms,0,none⟩)/\dY u G ms sb ⟨#[]⟩ ⟨#[]⟩ [] (fun _=>none)/\Y.heap.size<=ms/\Y.heap.size<=sb/\(∀j,G j->Y.heap.size<=j)/\ae Y u
theorem z4h (w:World):Calls Tryz.prog 34 #[] w fun e w'=>∃al,e=.returned (.pointer (some ⟨al,0,none⟩))/\Kq w al w':=by
 go_in
 go_wp2_with fail
 refine (z2Y w).mono ?_
 rintro e w1 ⟨db,rfl,aA,RI,F,hM,hF⟩
 have HM:=af (And.intro RI (And.intro hM hF))
 have bI:=af aA
 clear aA RI hM hF
 have hmm:=@run_makeMap Tryz.prog
 go_upto_region 2 with fail
 clear hmm
 obtain ⟨nb,hnb⟩:∃nb,nb=w1.heap.size:=⟨_,rfl⟩
 obtain ⟨al,hal⟩:∃al,al=w1.heap.size+1:=⟨_,rfl⟩
 have hl0:=bL.made w1 Tryz.prog 3
 obtain ⟨y0,hy0⟩:∃y0,y0=w1.alloc (.map #[] 0):=⟨_,rfl⟩
 rw [<-hy0,<-hnb] at hl0
 obtain ⟨Y,hY⟩:∃Y,Y=y0.alloc (.cells #[.pointer (some ⟨db,0,none⟩),.pointer none,.pointer none,.pointer none,.pointer none,.pointer none,.pointer none,.pointer none,.pointer none,.pointer none,.pointer none,.pointer none,.pointer none,.pointer none,.map (some nb)] 76):=⟨_,rfl⟩
 have g0:ae w1 y0:=by rw [hy0];exact (ae.rf w1).alloc _
 have gY:ae y0 Y:=by rw [hY];exact (ae.rf y0).alloc _
 have hs0:y0.heap.size=w1.heap.size+1:=by rw [hy0];simp
 have hcells:Y.heap[al]? =some (.cells #[.pointer (some ⟨db,0,none⟩),.pointer none,.pointer none,.pointer none,.pointer none,.pointer none,.pointer none,.pointer none,.pointer none,.pointer none,.pointer none,.pointer none,.pointer none,.pointer none,.map (some nb)] 76 (0,0)):=by
  rw [hY,hal,<-hs0];exact heap_alloc_new y0 _
 have MB:Y.heap.size=w1.heap.size+2:=by rw [hY];simp [hs0]
 rw [<-hy0,<-hal,<-hnb,<-hY]
 have pg:al<Y.heap.size:=by omega
 have hc:∀(i:Nat) v,(#[.pointer (some ⟨db,0,none⟩),.pointer none,.pointer none,.pointer none,.pointer none,.pointer none,.pointer none,.pointer none,.pointer none,.pointer none,.pointer none,.pointer none,.pointer none,.pointer none,.map (some nb)]:Array Value)[i]? =some v->Y.cell? ⟨al,i,none⟩=some v:=fun i v hv=>by
  rw [cell_of_row _ _ i _ _ _ hcells];simpa using hv
 have HC:=af hc
 have BJ:=af (show ∀i,Y.frozen? ⟨al,i,none⟩=false from fun i=>by simp [World.frozen?,hcells])
 have HL:=af (hl0.ag gY)
 have cR:=af (g0.trans gY)
 have HB:=af (show w1.heap.size<=nb/\nb<al/\al<Y.heap.size/\w1.heap.size<=al from ⟨by omega,by omega,by omega,by omega⟩)
 clear hy0 hY g0 gY hs0 hcells MB hnb hal hl0 hc
 refine kW 5 [2] (ae Y) Eq (JE 2 (ae Y) (RH Y) (fun _=>none)) (fun f a=>a.put (some 8) (f 2)) (by kernel_rfl) (by kernel_rfl) (fun _ _=>rfl) (JE.start (ae.rf Y).drew _) (fun L _ _ h=>?_) (fun _=>rfl) (fun _ _ _ _ h g=>g▸h) ?_
 · cases hL:L 2 with
   | false=>exact h.pre hL
   | true=>obtain ⟨_,_,_,_,_,_,_,_,g⟩:=(h.post hL).ex;exact g
 repeat (first
  | refine kV ?_
  | (refine fF ?_;intro K hK;go_big_quiet_op;go_big_quiet_on)
  | (refine fE ?_;simp only [Act.put,sA,sB,sC]))
 refine iH (by rfl) ⟨⟨bH rfl (fun _ a=>a) (fun _ _=>rfl) (fun _=>rfl) ?_,trivial⟩,?_⟩
 · intro L f u hJ hL hd
   have HJ:=af hJ
   have HL:=af hL
   clear hJ hL hd
   go_simp
   have hg:=HJ.out.pre HL.out
   refine (z3h u ⟨#[]⟩ ⟨#[]⟩).mono ?_
   rintro r u' ⟨ms,sb,G,rfl,h1,h2,h3,h4,h5⟩
   have:=hg.size
   exact ⟨_,rfl,HJ.out.call HL.out rfl ⟨ms,sb,G,rfl,h1,by omega,by omega,fun j hj=>by have:=h4 j hj;omega,hg.trans h5⟩⟩
 intro f u hJ
 obtain ⟨ms,sb,G,e2,h1,h2,h3,h4,h5⟩:=(hJ.post rfl).ex
 have FY:=af (And.intro h1 (And.intro h2 (And.intro h3 (And.intro h4 h5))))
 have a2:=(h5.cells.1 _ 2 pg).trans (HC.out 2 _ rfl)
 have f2:=(h5.cells.2 _ 2 pg).trans (BJ.out 2)
 have kB:=ltT pg h5.size
 clear hJ h1 h2 h3 h4 h5
 dsimp only [List.drop]
 simp only [Act.put,sA,sC,sB]
 rw [e2]
 clear e2
 go_wp2_with fail
 go_ret
 obtain ⟨b1,b2,b3,b4⟩:=HB.out
 obtain ⟨hS,m1,m2,m3,Cb⟩:=FY.out
 obtain ⟨RI,hM,hF⟩:=HM.out
 have s1:=bI.out.size
 have s2:=cR.out.size
 have s3:=Cb.size
 obtain ⟨x1,x2,x3,iQ⟩:=Kc (v:=.pointer (some ⟨ms,0,none⟩)) a2
 have K6:ae w (u.setCell ⟨al,2,none⟩ (.pointer (some ⟨ms,0,none⟩))):=((((bI.out.trans cR.out).trans Cb).only _).then iQ).ag fun j (hj:j=al)=>by omega
 refine ⟨al,rfl,by omega,K6,fun k L=>⟨fun j=>if j<w.heap.size then L j else if j<w1.heap.size then k+2 else if j=nb then k+1 else if j=al then k else k+21,fun j hj=>zZ1 hj,fun j hj=>?_,db,nb,fun _=>ms,?_⟩⟩
 · dsimp only
   rw [zZ0 (by omega)]
   unfold br
   repeat' split
   all_goals omega
 have hn:∀j,j≠al->¬(fun j=>j=al) j:=fun j hj=>hj
 have WZ:=tQ hM
 refine ⟨(x2 0 (by omega)).trans ((Cb.cells.1 _ 0 pg).trans (HC.out 0 _ rfl)),fun i hi=>?_,(x2 14 (by omega)).trans ((Cb.cells.1 _ 14 pg).trans (HC.out 14 _ rfl)),fun i=>(x3 i).trans ((Cb.cells.2 _ i pg).trans (BJ.out i)),?_,?_,⟨F,(hM.ag (cR.out.trans Cb)).kept iQ fun j hj hq=>by have:=WZ j hj;omega,fun j hj=>?_⟩,⟨0,zZ3 _,(HL.out.ag Cb).kept iQ (hn _ (by omega))⟩,fun i P S hi=>?_⟩
 · unfold dB
   by_cases e:i=1
   · subst e;exact x1
   · have e1:bc.init.st i=none:=zZ0 e
     rw [e1,x2 _ (by omega),Cb.cells.1 _ _ pg]
     refine HC.out (1+i) _ ?_
     obtain rfl | rfl | rfl | rfl | rfl | rfl | rfl | rfl | rfl | rfl | rfl | rfl | rfl:i=0\/i=1\/i=2\/i=3\/i=4\/i=5\/i=6\/i=7\/i=8\/i=9\/i=10\/i=11\/i=12:=by omega
     all_goals rfl
 · rw [zZ0 (by omega),zZ0 (by omega),zZ0 (by omega),zZ1 rfl]
 · rw [zZ0 (by omega),zZ0 (by omega),zZ1 rfl]
 · have:=hF j hj
   have:=WZ j hj
   rw [zZ0 (by omega),zZ1 (by omega)]
 · by_cases e:i=1
   · subst e
     have hi2:some (([]:List Pr),(fun _=>none:Int->Option An))=some (P,S):=hi
     cases hi2
     have hBn:∀j,gP G ms sb j->Y.heap.size<=j:=fun j hj=>by
      rcases hj with q | q | q
      · exact m3 j q
      · rw [q];exact m1
      · rw [q];exact m2
     refine ⟨by omega,Fz,List.mem_singleton.2 rfl,rfl,G,sb,[],hS.kept iQ (fun j hj hq=>by have:=m3 j hj;omega) (hn _ (by omega)) (hn _ (by omega)),Pl.Tt.nil,fun j hj=>?_⟩
     have:=hBn j hj
     rw [zZ0 (by omega),zZ0 (by omega),zZ0 (by omega),zZ0 (by omega)]
   · have e1:bc.init.st i=none:=zZ0 e
     rw [e1] at hi
     cases hi
structure RJ (W:World) (L:Nat->Nat) (k rb al n:Nat) (fa:Lit->Option Value) (D:bj) (A:bc):Prop where
 c0:W.cell? ⟨rb,0,none⟩=some (.int .i64 A.at_)
 c1:W.cell? ⟨rb,1,none⟩=some (.pointer (some ⟨al,0,none⟩))
 fz:W.frozen? ⟨rb,0,none⟩=false
 lab:L rb=k+149
 all:eN W L k al n fa D A
def dZ (W:World) (L:Nat->Nat) (k rb n:Nat) (fa:Lit->Option Value) (D:bj) (A:bc):Prop:=∃al,RJ W L k rb al n fa D A
theorem dZ.kept {W W':World} {L L':Nat->Nat} {T:Nat->Prop} {k rb n:Nat} {fa:Lit->Option Value} {D:bj} {A:bc} (h:dZ W L k rb n fa D A) (g:aj T W W') (hT:∀j,j<W.heap.size->T j->¬br k (L j)/\j≠rb) (hL:∀j,j<W.heap.size->L' j=L j):dZ W' L' k rb n fa D A:=by
 obtain ⟨al,h⟩:=h
 have hb:=aN h.c0
 have hn:¬T rb:=fun t=>(hT rb hb t).2 rfl
 exact ⟨al,(g.cell hb hn 0).trans h.c0,(g.cell hb hn 1).trans h.c1,(g.frozen hb hn 0).trans h.fz,(hL rb hb).trans h.lab,h.all.kept g (fun j hj t=>(hT j hj t).1) hL⟩
theorem dZ.ag {W W':World} {L:Nat->Nat} {k rb n:Nat} {fa:Lit->Option Value} {D:bj} {A:bc} (h:dZ W L k rb n fa D A) (g:ae W W'):dZ W' L k rb n fa D A:=h.kept (g.only fun _=>False) (fun _ _ h=>h.elim) fun _ _=>rfl
theorem dZ.mono {W:World} {L:Nat->Nat} {k rb n n':Nat} {fa:Lit->Option Value} {D:bj} {A:bc} (h:dZ W L k rb n fa D A) (hn:n<=n'):dZ W L k rb n' fa D A:=by
 obtain ⟨al,h⟩:=h
 exact ⟨al,h.c0,h.c1,h.fz,h.lab,h.all.mono hn⟩
theorem dZ.blt {W:World} {L:Nat->Nat} {k rb n:Nat} {fa:Lit->Option Value} {D:bj} {A:bc} (h:dZ W L k rb n fa D A):rb<W.heap.size/\L rb=k+149:=by
 obtain ⟨al,h⟩:=h
 exact ⟨aN h.c0,h.lab⟩
def GD (W:World) (L:Nat->Nat) (k rb n:Nat) (fa:Lit->Option Value) (D:bj) (A:bc) (W':World):Prop:=aj (fun j=>br k (L j)\/j=rb) W W'/\∃L',(∀j,j<W.heap.size->L' j=L j)/\(∀j,W.heap.size<=j->br k (L' j))/\dZ W' L' k rb n fa D A
def Kr (w:World) (rb:Nat) (w':World):Prop:=w.heap.size<=rb/\ae w w'/\∀(k:Nat) (L:Nat->Nat),∃L',(∀j,j<w.heap.size->L' j=L j)/\(∀j,w.heap.size<=j->br k (L' j)\/j=rb)/\dZ w' L' k rb 0 (fun _=>none) bj.init bc.init
theorem z4G (w:World):Calls Tryz.prog 10 #[] w fun e w'=>∃rb,e=.returned (.pointer (some ⟨rb,0,none⟩))/\Kr w rb w':=by
 go_in
 go_wp2_with fail
 refine (z4h w).mono ?_
 rintro e w1 ⟨al,rfl,hN⟩
 have HN:=af hN
 clear hN
 go_wp2_with fail
 go_ret
 obtain ⟨h1,h2,h3⟩:=HN.out
 have hs:=h2.size
 refine ⟨w1.heap.size,rfl,hs,h2.alloc _,fun k L=>?_⟩
 obtain ⟨L',l1,l2,l3⟩:=h3 k L
 have gA:ae w1 (w1.alloc (.cells #[.int .i64 0,.pointer (some ⟨al,0,none⟩)] 56)):=(ae.rf w1).alloc _
 refine ⟨fun j=>if j=w1.heap.size then k+149 else L' j,fun j hj=>?_,fun j hj=>?_,al,by simp [go_sem,bc.init],by simp [go_sem],by simp [go_sem],zZ1 rfl,l3.kept (gA.only fun _=>False) (fun _ _ h=>h.elim) fun j hj=>zZ0 (by omega)⟩
 · dsimp only;rw [zZ0 (by omega)];exact l1 j hj
 · dsimp only
   by_cases e:j=w1.heap.size
   · exact .inr e
   · rw [zZ0 e];exact .inl (l2 j hj)
end
end Go.Proofs.YtbnofojapimfcaaGreatDoor
