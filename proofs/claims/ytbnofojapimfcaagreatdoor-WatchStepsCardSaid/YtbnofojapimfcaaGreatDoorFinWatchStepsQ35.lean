/- Part 35 of the proof. -/
import Derived.Test.YtbnofojapimfcaaGreatDoorFinWatchStepsQ34
set_option linter.unusedVariables false
set_option linter.unusedSectionVars false
set_option linter.unusedSimpArgs false
set_option maxRecDepth 100000
set_option maxHeartbeats 16000000
namespace Go.Proofs.YtbnofojapimfcaaGreatDoor
section
open Go.RowKit Go.Maps
attribute [local go_sem] Oper.semAt_some aT
def mn (A:bc) (D:bj) (e:En) (at':Int):bj:=if Pl.bR e=false then D else if at'<A.at_\/at'<0\/4096<=at' then D else Pl.dM D e at'
noncomputable def pj (fa:Lit->Option Value) (A:bc) (e:En) (at':Int):Lit->Option Value:=if Pl.bR e=false then fa else if at'<A.at_\/at'<0\/4096<=at' then fa else xC fa A e at'
theorem xJ {A:bc} {m:Nat} (bq:bw A m) {D:bj} (h:Pl.Twin A.sh D) (e:En) (at':Int):Pl.Twin (Pl.bF A e at').2.sh (mn A D e at'):=by
 unfold mn
 by_cases hr:Pl.bR e=false
 · rw [zZ1 hr]
   unfold Pl.bF
   rw [zZ1 hr];exact h
 · rw [zZ0 hr]
   by_cases hat:at'<A.at_\/at'<0\/4096<=at'
   · rw [zZ1 hat]
     unfold Pl.bF
     rw [zZ0 hr,zZ1 hat];exact h
   · rw [zZ0 hat,Pl.z3H A (by simpa using hr) hat]
     exact Pl.z2b h bq.inv e at'
namespace Pl
theorem z2E {lo hi:ByteArray} {P:List Pr} {S:Int->Option An} {e:En} {at':Int} (hk:e.kind=1) (hr:bR e=true) (h0:0<=at') (h1:at'<4096):(eW lo hi P S e at').err=0:=by
 unfold eW
 rw [zZ0 (not_not_intro ⟨hk,hr⟩),zZ0 (by omega)]
 split
 · rfl
 · split
   · rfl
   · split<;> rfl
theorem W5 {A:bc} {e:En} {at':Int} (hr:bR e=true) (hat:¬(at'<A.at_\/at'<0\/4096<=at')):(bF A e at').1=0:=by
 unfold bF
 rw [zZ0 (by rw [hr];simp),zZ0 hat]
 by_cases k1:e.kind=1
 · rw [zZ1 k1]
   split
   · rfl
   · exact z2E k1 hr (by omega) (by omega)
 · rw [zZ0 k1]
   split<;> rfl
theorem z4C {A:bc} {e:En} {at':Int} (hr:bR e=true) (hat:¬(at'<A.at_\/at'<0\/4096<=at')):(bF A e at').2.at_=at'+1:=by
 unfold bF
 rw [zZ0 (by rw [hr];simp),zZ0 hat]
 by_cases k1:e.kind=1
 · rw [zZ1 k1]
   split<;> rfl
 · rw [zZ0 k1]
   split<;> rfl
end Pl
theorem GD.still {W W':World} {L:Nat->Nat} {k rb n n':Nat} {fa:Lit->Option Value} {D:bj} {A:bc} (h:dZ W L k rb n fa D A) (g:ae W W') (hn:n<=n'):GD W L k rb n' fa D A W':=by
 refine ⟨g.only _,fun j=>if j<W.heap.size then L j else k+50,fun j hj=>zZ1 hj,fun j hj=>?_,(h.mono hn).kept (g.only fun _=>False) (fun _ _ h=>h.elim) fun j hj=>zZ1 hj⟩
 dsimp only
 rw [zZ0 (by omega)]
 unfold br;omega
theorem W6 {W:World} {L:Nat->Nat} {k rb n:Nat} {fa:Lit->Option Value} {D:bj} {A:bc} (h:dZ W L k rb n fa D A) (e:En) (hA:bG W e) (hs:jx e) (at':Int) (hno:Pl.bR e=false\/at'<A.at_\/at'<0\/4096<=at'):
    Calls Tryz.prog 21 #[.pointer (some ⟨rb,0,none⟩),e.agg,.int .i64 at'] W fun r w'=>r=.returned (.int .i64 ((Pl.bF A e at').1:Nat))/\ae W w':=by
 obtain ⟨al,h⟩:=h
 have c0:=h.c0
 have hab:=aN c0
 have HR:=af (fun X (g:ae W X)=>O5 e X (hA.ag g) hs)
 have Cc:Hid ((Pl.bF A e at').1=if Pl.bR e=false then 4 else 1):=by
  unfold Hid Pl.bF
  by_cases hr:Pl.bR e=false
  · rw [zZ1 hr,zZ1 hr]
  · rw [zZ0 hr,zZ0 hr,zZ1 (hno.resolve_left hr)]
 generalize (Pl.bF A e at').1=cd at *
 generalize Pl.bR e=rb0 at *
 generalize A.at_=RL at *
 clear h hA hs
 obtain ⟨kind,ai,other,server,ak,seq,key,upto,part,parts,ops,aC,aG,av,ar,aw⟩:=e
 unfold En.agg En.vals at *
 dsimp only at *
 go_in
 go_wp2_with fail
 refine (HR.out _ ((ae.rf W).alloc _)).mono ?_
 rintro r w1 ⟨rfl,hg⟩
 have hG:=((ae.rf W).alloc _).trans hg
 have c0:=(hG.cells.1 _ 0 hab).trans c0
 have hab:=ltT hab hG.size
 have HG:=af hG
 clear hg hG HR
 cases jG:rb0 with
 | false=>
  rw [jG,zZ1 rfl] at Cc
  have lD:=Cc.out
  subst lD
  clear hno Cc jG
  go_wp2_with fail
  go_ret
  exact ⟨rfl,HG.out⟩
 | true=>
  rw [jG] at Cc
  have lD:cd=1:=Cc.out
  subst lD
  have EX:at'<RL\/at'<0\/4096<=at':=by
   rcases hno with h | h
   · rw [jG] at h;cases h
   · exact h
  clear hno Cc jG
  by_cases q1:at'<RL
  · clear EX
    go_wp2_with fail
    go_ret
    exact ⟨rfl,HG.out⟩
  by_cases q2:at'<0
  · clear EX
    go_wp2_with fail
    go_ret
    exact ⟨rfl,HG.out⟩
  have q3:4095<at':=by omega
  clear EX
  go_wp2_with fail
  go_ret
  exact ⟨rfl,HG.out⟩
theorem y9S {W:World} {L:Nat->Nat} {k rb n m0:Nat} {fa:Lit->Option Value} {D:bj} {A:bc} (h:dZ W L k rb n fa D A) (bq:bw A m0) (hm0:m0<=120) (jN:Pl.Twin A.sh D) (e:En) (hA:∀X,aj (fun j=>br k (L j)\/j=rb) W X->bG X e) (hz:Gz e) (at':Int) (hr:Pl.bR e=true) (hat:¬(at'<A.at_\/at'<0\/4096<=at')) (hn:n<=1000000):
    Calls Tryz.prog 21 #[.pointer (some ⟨rb,0,none⟩),e.agg,.int .i64 at'] W fun r w'=>r=.returned (.int .i64 0)/\GD W L k rb (n+1) (xC fa A e at') (Pl.dM D e at') (Pl.bF A e at').2 w':=by
 have hs:jx e:=⟨by have:=hz.1;omega,fun o ho=>by have:=(hz.2 o ho).1;omega⟩
 obtain ⟨al,h⟩:=h
 have c0:=h.c0
 have c1:=h.c1
 have fz:=h.fz
 have hab:=aN c0
 have HR:=af (fun X (g:ae W X)=>O5 e X ((hA X (g.only _))) hs)
 rw [hr] at HR
 have HH:=af h
 have lh:=af (fun X (L1:Nat->Nat) (hO:aj (fun j=>br k (L j)\/j=rb) W X) (h1:eN X L1 k al n fa D A)=>z0a h1 bq hm0 jN e (hA X hO) hz hr at' hat hn)
 have mF:=af (Pl.z4C hr hat)
 have q1:¬at'<A.at_:=fun q=>hat (.inl q)
 have q2:¬at'<0:=fun q=>hat (.inr (.inl q))
 have q3:¬4095<at':=fun q=>hat (.inr (.inr (by omega)))
 generalize xC fa A e at'=M7 at *
 generalize Pl.dM D e at'=D' at *
 generalize (Pl.bF A e at').2=B at *
 clear h hA hs hz hr hat bq jN
 have h63:at'<=4095:=by omega
 have h64:0<=at':=by omega
 generalize A.at_=RL at c0 q1
 obtain ⟨kind,ai,other,server,ak,seq,key,upto,part,parts,ops,aC,aG,av,ar,aw⟩:=e
 unfold En.agg En.vals at *
 dsimp only at *
 go_in
 go_upto_region 1 with fail
 obtain ⟨Y,hY⟩:∃Y,Y=W.alloc (.cells #[.int .i64 kind,.int .i64 ai,.int .i64 other,.int .i64 server,.int .i64 ak,.int .i64 seq,.slice aC ops.length aG,.string key,.int .i64 upto,.int .i64 part,.int .i64 parts,.slice av ar aw] 39):=⟨_,rfl⟩
 have gY:ae W Y:=by rw [hY];exact (ae.rf W).alloc _
 obtain ⟨xb,hxb⟩:∃xb,xb=W.heap.size:=⟨_,rfl⟩
 have HX:=af (show ∀i v,(#[.int .i64 kind,.int .i64 ai,.int .i64 other,.int .i64 server,.int .i64 ak,.int .i64 seq,.slice aC ops.length aG,.string key,.int .i64 upto,.int .i64 part,.int .i64 parts,.slice av ar aw]:Array Value)[i]? =some v->Y.cell? ⟨xb,i,none⟩=some v from fun i v hv=>by
  rw [hY,hxb,cell_of_row _ _ i _ _ _ (heap_alloc_new W _)];simpa using hv)
 have dA:xb<Y.heap.size:=by rw [hY,hxb];simp
 have hxr:¬xb=rb:=by have h1:rb<W.heap.size:=hab;omega
 have cR:=af gY
 have x0:=HX.out 0 _ rfl
 have x1:=HX.out 1 _ rfl
 have x2:=HX.out 2 _ rfl
 have x3:=HX.out 3 _ rfl
 have x4:=HX.out 4 _ rfl
 have x5:=HX.out 5 _ rfl
 have x6:=HX.out 6 _ rfl
 have x7:=HX.out 7 _ rfl
 have x8:=HX.out 8 _ rfl
 have x9:=HX.out 9 _ rfl
 have rz:=HX.out 10 _ rfl
 have rA:=HX.out 11 _ rfl
 rw [<-hY,<-hxb]
 clear hY gY hxb
 go_wp2_with fail
 refine (HR.out _ cR.out).mono ?_
 rintro r w1 ⟨rfl,hg⟩
 have hG:=cR.out.trans hg
 have c0:=(hG.cells.1 _ 0 hab).trans c0
 have c1:=(hG.cells.1 _ 1 hab).trans c1
 have fz:=(hG.cells.2 _ 0 hab).trans fz
 have Ak:=ltT hab hG.size
 have HXW:=af (fun (i:Nat) v hv=>(hg.cells.1 _ i dA).trans (HX.out i v hv))
 have hxw:=ltT dA hg.size
 have HG:=af hG
 clear hg hG HR x0 x1 x2 x3 x4 x5 x6 x7 x8 x9 rz rA
 go_upto_region 6 with fail
 obtain ⟨X,hX⟩:∃X,X=w1.setCell ⟨rb,0,none⟩ (.int .i64 (at'+1)):=⟨_,rfl⟩
 obtain ⟨s1,s2,s3,iQ⟩:=Kc (v:=.int .i64 (at'+1)) c0
 rw [<-hX] at s1 s2 s3 iQ
 have d1:=(s2 1 (by decide)).trans c1
 have Gm:aj (fun j=>br k (L j)\/j=rb) W X:=(HG.out.only _).then (iQ.mono fun j hj=> .inl (.inr hj))
 have sL:∀(i:Nat) v,(#[.int .i64 kind,.int .i64 ai,.int .i64 other,.int .i64 server,.int .i64 ak,.int .i64 seq,.slice aC ops.length aG,.string key,.int .i64 upto,.int .i64 part,.int .i64 parts,.slice av ar aw]:Array Value)[i]? =some v->X.cell? ⟨xb,i,none⟩=some v:=fun i v hv=>(iQ.cell hxw hxr i).trans (HXW.out i v hv)
 have EY:eN X (fun j=>if j<W.heap.size then L j else k+50) k al n fa D A:=HH.out.all.kept (T:=fun j=>j=rb) ((HG.out.only _).then iQ) (fun j hj e=>by have:=HH.out.lab;rw [e,this];unfold br;omega) (fun j hj=>zZ1 hj)
 have HAX:=af (lh.out X _ Gm EY)
 have HK:=af (And.intro s1 (And.intro d1 (And.intro ((s3 0).trans fz) Gm)))
 have x0:=aU (sL 0 _ rfl)
 have x1:=aU (sL 1 _ rfl)
 have x2:=aU (sL 2 _ rfl)
 have x3:=aU (sL 3 _ rfl)
 have x4:=aU (sL 4 _ rfl)
 have x5:=aU (sL 5 _ rfl)
 have x6:=aU (sL 6 _ rfl)
 have x7:=aU (sL 7 _ rfl)
 have x8:=aU (sL 8 _ rfl)
 have x9:=aU (sL 9 _ rfl)
 have rz:=aU (sL 10 _ rfl)
 have rA:=aU (sL 11 _ rfl)
 have D1:=aU d1
 have Ks:=af (show ∀Z,ae X Z->Calls Tryz.prog 47 #[.pointer (some ⟨al,0,none⟩),.agg #[.int .i64 kind,.int .i64 ai,.int .i64 other,.int .i64 server,.int .i64 ak,.int .i64 seq,.slice aC ops.length aG,.string key,.int .i64 upto,.int .i64 part,.int .i64 parts,.slice av ar aw],.int .i64 at'] Z fun r w'=>r=.returned (.tuple #[])/\rG Z (fun j=>if j<W.heap.size then L j else k+50) k al (n+1) M7 D' B w' from fun Z gZ=>lh.out Z _ (Gm.cm gZ) (EY.ag gZ))
 have Nb:=aN d1
 rw [<-hX]
 clear hX s1 s2 s3 iQ d1 Gm sL EY c0 c1 fz HAX lh
 refine lH 6 (by kernel_rfl) (by kernel_rfl) (fun _ _=>rfl) ?_
 repeat (first
  | (refine fF ?_;intro K hK;go_big_quiet_op;go_big_quiet_on)
  | (refine fE ?_;simp only [Act.put,sA,sB,sC]))
 refine iH (by rfl) ?_
 intro Z F5
 have gq:=af F5
 have HC:=af (Ks.out Z F5)
 clear x0 x1 x2 x3 x4 x5 x6 x7 x8 x9 rz rA D1 Ks F5
 dsimp only [List.drop]
 go_wp2_with fail
 refine HC.out.mono ?_
 rintro r w2 ⟨rfl,hT⟩
 have HT:=af hT
 clear hT HC
 go_wp2_with fail
 go_ret
 obtain ⟨eO,L',l1,l2,sN⟩:=HT.out
 dsimp only at eO l1
 obtain ⟨k0,k1,k2,kO⟩:=HK.out
 have hWX:=kO.size
 have hXZ:=gq.out.size
 have hlab:=HH.out.lab
 have jG:rb<W.heap.size:=hab
 have Ee:aj (fun j=>br k (L j)\/j=rb) W Z:=kO.cm gq.out
 have RM:¬br k (if rb<W.heap.size then L rb else k+50):=by rw [zZ1 jG,hlab];unfold br;omega
 have RN:=ltT Nb hXZ
 refine ⟨rfl,Ee.trans eO fun j hj=>?_,L',fun j hj=>?_,fun j hj=>?_,al,?_,?_,?_,?_,sN⟩
 · by_cases q:j<W.heap.size
   · rw [zZ1 q] at hj;exact .inl (.inl hj)
   · exact .inr (by omega)
 · rw [l1 j (by omega),zZ1 hj]
 · by_cases q:j<Z.heap.size
   · rw [l1 j q,zZ0 (by omega)];unfold br;omega
   · exact l2 j (by omega)
 · rw [eO.cell RN RM,gq.out.cells.1 _ _ Nb,k0,mF.out]
 · rw [eO.cell RN RM,gq.out.cells.1 _ _ Nb,k1]
 · rw [eO.frozen RN RM,gq.out.cells.2 _ _ Nb,k2]
 · rw [l1 rb (by omega),zZ1 jG,hlab]
theorem z0E {W:World} {L:Nat->Nat} {k rb n m0:Nat} {fa:Lit->Option Value} {D:bj} {A:bc} (h:dZ W L k rb n fa D A) (bq:bw A m0) (hm0:m0<=120) (jN:Pl.Twin A.sh D) (e:En) (hA:∀X,aj (fun j=>br k (L j)\/j=rb) W X->bG X e) (hz:Gz e) (at':Int) (hn:n<=1000000):
    Calls Tryz.prog 21 #[.pointer (some ⟨rb,0,none⟩),e.agg,.int .i64 at'] W fun r w'=>r=.returned (.int .i64 ((Pl.bF A e at').1:Nat))/\GD W L k rb (n+1) (pj fa A e at') (mn A D e at') (Pl.bF A e at').2 w':=by
 have hs:jx e:=⟨by have:=hz.1;omega,fun o ho=>by have:=(hz.2 o ho).1;omega⟩
 unfold pj mn
 by_cases hr:Pl.bR e=false
 · rw [zZ1 hr,zZ1 hr]
   refine (W6 h e (hA W (aj.refl _ _)) hs at' (.inl hr)).mono ?_
   rintro r w' ⟨hr',hg⟩
   have e2:(Pl.bF A e at').2=A:=by unfold Pl.bF;rw [zZ1 hr]
   rw [e2]
   exact ⟨hr',GD.still h hg (by omega)⟩
 · rw [zZ0 hr,zZ0 hr]
   by_cases hat:at'<A.at_\/at'<0\/4096<=at'
   · rw [zZ1 hat,zZ1 hat]
     refine (W6 h e (hA W (aj.refl _ _)) hs at' (.inr hat)).mono ?_
     rintro r w' ⟨hr',hg⟩
     have e2:(Pl.bF A e at').2=A:=by unfold Pl.bF;rw [zZ0 hr,zZ1 hat]
     rw [e2]
     exact ⟨hr',GD.still h hg (by omega)⟩
   · rw [zZ0 hat,zZ0 hat]
     have hr2:Pl.bR e=true:=by simpa using hr
     rw [Pl.W5 hr2 hat]
     exact y9S h bq hm0 jN e hA hz at' hr2 hat hn
structure AQ (w0:World) (tb:Nat) (A:bc) (n:Nat) (W:World):Prop where
 ex:∃G T,cL W G tb T/\(∀j,G j->w0.heap.size<=j)/\Pl.jD A n T/\ae w0 W
structure RO (w0:World) (A:bc) (tb:Nat) (T:List Pr) (W:World):Prop where
 ex:∃G,cL W G tb T/\(∀j,G j->w0.heap.size<=j)
 all:Pl.nI A T
 ag:ae w0 W
theorem W7 {w:World} {L:Nat->Nat} {k rb n m0:Nat} {fa:Lit->Option Value} {D:bj} {A:bc} (h:dZ w L k rb n fa D A) (bq:bw A m0) (hm0:m0<=120):
    Calls Tryz.prog 25 #[.pointer (some ⟨rb,0,none⟩)] w fun r w'=>∃tb T,r=.returned (.pointer (some ⟨tb,0,none⟩))/\T.length<=960/\RO w A tb T w':=by
 obtain ⟨al,h⟩:=h
 have c1:=h.c1
 have jG:=aN c1
 obtain ⟨db,nb,ms,sN⟩:=h.all
 have Kt:=sN.nH
 have hs:∀i P S,A.st i=some (P,S)->Pl.ct P:=fun i P S hi=>by
  obtain ⟨_,c,_,_,G,sb,Dt,_,hT,_⟩:=sN.states i P S hi
  exact hT.fP
 have HAL:=af sN
 have HSR:=af hs
 have mf:=af bq
 have lT:=af (fun W (g:ae w W) i (hi:i<13)=>(g.cells.1 _ (1+i) Kt).trans (sN.cs i hi))
 obtain ⟨pv,hpv⟩:∃pv:Nat->Value,pv=dB A.st ms:=⟨_,rfl⟩
 rw [<-hpv] at lT
 have W8:=af hpv
 clear h sN hs bq hpv
 go_in
 go_upto_region 2 with fail
 obtain ⟨Y,hY⟩:∃Y,Y=w.alloc (.cells #[.slice none 0 0] 100):=⟨_,rfl⟩
 have gY:ae w Y:=by rw [hY];exact (ae.rf w).alloc _
 obtain ⟨tb,dR⟩:∃tb,tb=w.heap.size:=⟨_,rfl⟩
 have Kl:AQ w tb A 0 Y:=by
  refine ⟨fun j=>j=tb,[],⟨.slice none 0 0,by rw [hY,dR];simp [go_sem],by rw [hY,dR];simp [go_sem],World.ownsRow_nil _ _ _ _,rfl,(fun g h=>(by cases h)),fun j hj=>by rw [hY];simp;omega⟩,fun j hj=>by omega,Pl.jD.start A,gY⟩
 have JG:=af Kl
 have c1:=(gY.cells.1 _ 1 jG).trans c1
 have p0:=lT.out Y gY 0 (by omega)
 have p1:=lT.out Y gY 1 (by omega)
 have p2:=lT.out Y gY 2 (by omega)
 have p3:=lT.out Y gY 3 (by omega)
 have p4:=lT.out Y gY 4 (by omega)
 have p5:=lT.out Y gY 5 (by omega)
 have p6:=lT.out Y gY 6 (by omega)
 have p7:=lT.out Y gY 7 (by omega)
 have p8:=lT.out Y gY 8 (by omega)
 have p9:=lT.out Y gY 9 (by omega)
 have W9:=lT.out Y gY 10 (by omega)
 have Xa:=lT.out Y gY 11 (by omega)
 have Xb:=lT.out Y gY 12 (by omega)
 simp only [Nat.reduceAdd] at p0 p1 p2 p3 p4 p5 p6 p7 p8 p9 W9 Xa Xb
 have pg:=ltT Kt gY.size
 rw [<-hY,<-dR]
 clear hY gY Kl dR
 go_wp2_with fail
 clear p0 p1 p2 p3 p4 p5 p6 p7 p8 p9 W9 Xa Xb
 go_loopw [15] (fun i wr=>∃q:Nat,q<=13/\i=.int .i64 q/\Hid (AQ w tb A q wr)) (fun i _=>13 - (intOf i).toNat)
 case atStart=>exact ⟨0,Nat.zero_le _,rfl,JG⟩
 case round=>
  obtain ⟨q,hq1,rfl,HQ⟩:=hrel
  obtain ⟨wo,rfl⟩:∃wo:World,wo=wr:=⟨_,rfl⟩
  by_cases aq:q<13
  · have hqI:(q:Int)<13:=by omega
    have hix:∀W:World,(Instr.index 73 (.agg #[pv 0,pv 1,pv 2,pv 3,pv 4,pv 5,pv 6,pv 7,pv 8,pv 9,pv 10,pv 11,pv 12]) (.int .i64 (q:Nat))).run Tryz.prog W=.ok (pv q) W:=by
     intro W
     obtain rfl | rfl | rfl | rfl | rfl | rfl | rfl | rfl | rfl | rfl | rfl | rfl | rfl:q=0\/q=1\/q=2\/q=3\/q=4\/q=5\/q=6\/q=7\/q=8\/q=9\/q=10\/q=11\/q=12:=by omega
     all_goals kernel_rfl
    obtain ⟨G,T,sS,nL,Ce,kI⟩:=HQ.out.ex
    cases hst:A.st q with
    | none=>
     rw [show pv q=.pointer none from by rw [W8.out];unfold dB;rw [hst];rfl] at hix
     have HN:=af (show AQ w tb A (q+1) wo from ⟨G,T,sS,nL,Ce.skip hst,kI⟩)
     clear hst sS nL Ce kI
     go_wp2_with fail
     go_roundw
     case rel=>exact ⟨q+1,by omega,by go_num,HN.out⟩
     case measure=>simp [intOf];omega
    | some v=>
     obtain ⟨P,S⟩:=v
     rw [show pv q=.pointer (some ⟨ms q,0,none⟩) from by rw [W8.out];unfold dB;rw [hst];rfl] at hix
     obtain ⟨_,c,_,_,G2,sb,Dt,⟨ob,hM⟩,lU,_⟩:=HAL.out.states q P S hst
     obtain ⟨hno,Xc⟩:=Ce.join mf.out HSR.out hst lU
     have hM:=iL.kept hM (kI.only fun _=>False) (fun _ _ h=>h) (fun h=>h) (fun h=>h)
     have m2:=hM.c2
     have hl1:=Ce.few mf.out (by omega)
     have hl2:Dt.length<=1000:=by
      have a:=Eg A.st q (by omega)
      have b:=mf.out.few
      rw [hst] at a
      unfold fS at a
      dsimp only at a
      rw [lU.len] at a
      omega
     have HJ:=af (Wl sS hM.tab (by omega) (by omega) hno)
     have HN:=af (show ∀W',lM wo G tb (T++Dt) W'->AQ w tb A (q+1) W' from fun W' hT=>by
      obtain ⟨hO,G',h1,h2⟩:=hT
      have:=kI.size
      exact ⟨G',T++Dt,h1,fun j hj=>(h2 j hj).elim (nL j) (fun h=>by omega),Xc,((kI.only _).then hO).ag nL⟩)
     clear hst sS nL Ce kI hM lU hno Xc hl1 hl2
     go_wp2_with fail
     refine HJ.out.mono ?_
     rintro r w2 ⟨rfl,hT⟩
     have HT:=af (HN.out w2 hT)
     clear hT HJ HN m2 hix
     go_wp2_with fail
     go_roundw
     case rel=>exact ⟨q+1,by omega,by go_num,HT.out⟩
     case measure=>simp [intOf];omega
  · obtain rfl:q=13:=by omega
    go_wp2_with fail
    go_ret
    obtain ⟨G,T,sS,nL,Ce,kI⟩:=HQ.out.ex
    have:=Ce.few mf.out (zZ3 _)
    exact ⟨tb,T,rfl,by omega,⟨⟨G,sS,nL⟩,Ce.all mf.out,kI⟩⟩
def EZ (W:World) (L:Nat->Nat) (k rb n:Nat) (fa:Lit->Option Value) (D:bj) (A:bc) (lo hi:ByteArray) (e:En) (at':Int) (r:Ending) (w':World):Prop:=
 ∃(a:Option Addr) (c:Nat) (cs:List Cg),r=.returned (.tuple #[.slice a cs.length c,.int .i64 ((Pl.bF A e at').1:Nat)])/\ft w' a cs/\
  aj (fun j=>br k (L j)\/j=rb) W w'/\(∃L',(∀j,j<W.heap.size->L' j=L j)/\dZ w' L' k rb (n+1) (pj fa A e at') (mn A D e at') (Pl.bF A e at').2)/\
  (((Pl.bF A e at').1≠0/\cs=[])\/((Pl.bF A e at').1=0/\∀ks,Pl.gG lo hi e ks->cs=lS A (Pl.bF A e at').2 at' ks))
structure xN (w0:World) (cb:Nat) (T:List Pr) (W:World):Prop where
 ex:∃G,cL W G cb T/\(∀j,G j->w0.heap.size<=j)
 ag:ae w0 W
structure po (w6:World) (ob:Nat) (v:Value) (cs:List Cg) (W:World):Prop where
 own:W.ownsRow 0 103 10 v cs.length (eB cs)
 blk:∀g,v.ownBlock=some g->g=ob\/w6.heap.size<=g
 only:aj (fun q=>q=ob) w6 W
theorem po.ag {w6 W W':World} {ob:Nat} {v:Value} {cs:List Cg} (h:po w6 ob v cs W) (g:ae W W'):po w6 ob v cs W':=⟨gI g h.own,h.blk,h.only.cm g⟩
theorem po.snoc {w6 W Z:World} {ob:Nat} {v:Value} {cs:List Cg} (h:po w6 ob v cs W) (gZ:ae W Z) (c:Cg) {b:Nat} (hc:∀q u,c.vals[q]? =some u->Z.cell? ⟨b,q,none⟩=some u) (hbig:cs.length<=1000000) (ty:TypeId):
    ∃r W',(Builtin.append_ #[45,45] ty #[v,.slice (some ⟨b,0,none⟩) 1 1]).run Tryz.prog Z=.ok r W'/\po w6 ob r (cs++[c]) W':=by
 obtain ⟨i0,hi0,hz0,hz1,hz2⟩:=info_parts VU
 have hs:=h.only.size
 obtain ⟨g,cap2,w2,h1,h2,h3,h4,_⟩:=run_append_lies (P:=Tryz.prog) (w:=Z) 45 ty 0 103 i0 _ 10 112 Tryz.underlying45 hi0 hz0 hz1 hz2 rfl (by omega) v cs.length (eB cs) (gI gZ h.own) ⟨b,0,none⟩ 1 1 c.vals rfl (fun j u hj=>by rw [Addr.add_lit,zK0];exact hc j u hj) (QF c) (by omega) (by unfold maxLen;omega) (by omega) (Nat.zero_le _) _ rfl
 have tP:=gZ.size
 refine ⟨_,w2,h1,?_,fun q hq=>?_,?_⟩
 · rw [MH,QD,zX8]
   exact h2
 · have:g=q:=by simpa [Value.ownBlock] using hq
   subst this
   rcases h4 with h4 | h4
   · exact h.blk g h4
   · exact .inr (by omega)
 · exact (h.only.cm gZ).trans (aj.of_grownBy h3) fun j hj=>h.blk j hj.symm
theorem z4b (A B:bc) (lo hi:ByteArray) (at':Int) (us:List ByteArray) (k:ByteArray):jW A B lo hi at' (us++[k])=jW A B lo hi at' us++(if (Pl.aL lo hi k && !(sF A B at' k).same)=true then [sF A B at' k] else []):=by
 unfold jW
 rw [List.map_append,List.filter_append]
 congr 1
 show List.filter _ [sF A B at' k]=_
 rw [List.filter_cons,List.filter_nil]
 rfl
theorem xO (A B:bc) (lo hi:ByteArray) (at':Int) (us:List ByteArray):(jW A B lo hi at' us).length<=us.length:=by
 unfold jW
 exact zQ0 (zJ9 _ _) (by rw [List.length_map];exact zZ3 _)
theorem z2W {W:World} {L:Nat->Nat} {k rb n m0:Nat} {fa:Lit->Option Value} {D:bj} {A:bc} (h:dZ W L k rb n fa D A) (hk1:1<=k) (bq:bw A m0) (hm0:m0<=119) (jN:Pl.Twin A.sh D) (lo hi:ByteArray) (hlo:lo.size<=300) (hhi:hi.size<=300) (e:En) (hA:∀X,aj (fun j=>br k (L j)\/j=rb) W X->bG X e) (hz:Gz e) (at':Int) (hn:n<=1000000):
    Calls Tryz.prog 12 #[.pointer (some ⟨rb,0,none⟩),.agg #[.string lo,.string hi],e.agg,.int .i64 at'] W (EZ W L k rb n fa D A lo hi e at'):=by
 have RT:=h.blt
 have hsrt:∀i P S,A.st i=some (P,S)->Pl.ct P:=fun i P S hi=>by
  obtain ⟨al,h⟩:=h
  obtain ⟨db,nb,ms,sN⟩:=h.all
  obtain ⟨_,c,_,_,G,sb,Dt,_,hT,_⟩:=sN.states i P S hi
  exact hT.fP
 have HRF:=af (fun X (g:ae W X)=>h.ag g)
 have sU:=Pl.Gg bq hsrt e at'
 have mf:=af (And.intro bq (And.intro sU hsrt))
 have tH:=af (fun X (g:ae W X)=>W7 (h.ag g) bq (by omega))
 have Kv:¬br k 0:=by unfold br;omega
 have lh:=af (fun X (g:ae W X)=>z0E (L:=fun j=>if j<W.heap.size then L j else 0) (h.kept (g.only fun _=>False) (fun _ _ h=>h.elim) fun j hj=>zZ1 hj) bq (by omega) jN e (fun Z hO=>hA Z ((g.only _).trans hO fun j hj=>by
  by_cases q:j<W.heap.size
  · rw [zZ1 q] at hj;exact .inl hj
  · exact .inr (by omega))) hz at' hn)
 have tz:=af (fun X (L2:Nat->Nat) (h2:dZ X L2 k rb (n+1) (pj fa A e at') (mn A D e at') (Pl.bF A e at').2)=>W7 h2 sU (by omega))
 have HQ:Hid (∀r w',(∃(a:Option Addr) (c:Nat) (cs:List Cg),r=.returned (.tuple #[.slice a cs.length c,.int .i64 ((Pl.bF A e at').1:Nat)])/\ft w' a cs/\
  aj (fun j=>br k (L j)\/j=rb) W w'/\(∃L',(∀j,j<W.heap.size->L' j=L j)/\dZ w' L' k rb (n+1) (pj fa A e at') (mn A D e at') (Pl.bF A e at').2)/\
  (((Pl.bF A e at').1≠0/\cs=[])\/((Pl.bF A e at').1=0/\∀ks,Pl.gG lo hi e ks->cs=lS A (Pl.bF A e at').2 at' ks)))->EZ W L k rb n fa D A lo hi e at' r w'):=fun r w' q=>q
 have HDB:=af (fun (lD:(Pl.bF A e at').1=0) (hs2:∀i P S,(Pl.bF A e at').2.st i=some (P,S)->Pl.ct P) (T1 T2 zs:List Pr) (h1:Pl.nI A T1) (h2:Pl.nI (Pl.bF A e at').2 T2) (hp:zs.Perm (Pl.cK T1 T2 T2.length)) (hz:Pl.ct zs) (ks:List ByteArray) (hks:Pl.gG lo hi e ks)=>xM bq hsrt sU hs2 lD h1 h2 hp hz hks)
 generalize EZ W L k rb n fa D A lo hi e at'=QQ at *
 generalize pj fa A e at'=RU at *
 generalize mn A D e at'=D2 at *
 generalize hB:(Pl.bF A e at').2=B at *
 generalize (Pl.bF A e at').1=cd at *
 generalize Pl.gG lo hi e=QA at *
 clear h bq sU hsrt jN hA hz hB
 obtain ⟨kind,ai,other,server,ak,seq,key,upto,part,parts,ops,aC,aG,av,ar,aw⟩:=e
 unfold En.agg En.vals at *
 dsimp only at *
 go_in
 go_upto_region 1 with fail
 obtain ⟨Y,hY⟩:∃Y,Y=(W.alloc (.cells #[.string lo,.string hi] 23)).alloc (.cells #[.int .i64 kind,.int .i64 ai,.int .i64 other,.int .i64 server,.int .i64 ak,.int .i64 seq,.slice aC ops.length aG,.string key,.int .i64 upto,.int .i64 part,.int .i64 parts,.slice av ar aw] 39):=⟨_,rfl⟩
 have gY:ae W Y:=by rw [hY];exact ((ae.rf W).alloc _).alloc _
 obtain ⟨xb,hxb⟩:∃xb,xb=W.heap.size+1:=⟨_,rfl⟩
 obtain ⟨sb,ia⟩:∃sb,sb=W.heap.size:=⟨_,rfl⟩
 have hblk:Y.heap[xb]? =some (.cells #[.int .i64 kind,.int .i64 ai,.int .i64 other,.int .i64 server,.int .i64 ak,.int .i64 seq,.slice aC ops.length aG,.string key,.int .i64 upto,.int .i64 part,.int .i64 parts,.slice av ar aw] 39 (0,0)):=by
  have e1:(W.alloc (.cells #[.string lo,.string hi] 23)).heap.size=W.heap.size+1:=by simp
  rw [hY,hxb,<-e1];exact heap_alloc_new _ _
 have HX:=af (show ∀i v,(#[.int .i64 kind,.int .i64 ai,.int .i64 other,.int .i64 server,.int .i64 ak,.int .i64 seq,.slice aC ops.length aG,.string key,.int .i64 upto,.int .i64 part,.int .i64 parts,.slice av ar aw]:Array Value)[i]? =some v->Y.cell? ⟨xb,i,none⟩=some v from fun i v hv=>by
  rw [cell_of_row _ _ i _ _ _ hblk];simpa using hv)
 have s0:Y.cell? ⟨sb,0,none⟩=some (.string lo):=by rw [hY,ia];simp [go_sem]
 have s1:Y.cell? ⟨sb,1,none⟩=some (.string hi):=by rw [hY,ia];simp [go_sem]
 have dA:xb<Y.heap.size:=(zZ2.1 hblk).1
 have Cf:=aN s0
 have Xh:=af (show W.heap.size<=sb/\W.heap.size<=xb from ⟨by omega,by omega⟩)
 have cR:=af gY
 rw [<-hY,<-hxb,<-ia]
 clear hY gY hxb ia hblk
 go_wp2_with fail
 refine (tH.out Y cR.out).mono ?_
 rintro r w1 ⟨tb1,T1,rfl,hl1,Ch⟩
 have BS:=af Ch
 have aA:=Ch.ag
 have x0:=(aA.cells.1 _ _ dA).trans (HX.out 0 _ rfl)
 have x1:=(aA.cells.1 _ _ dA).trans (HX.out 1 _ rfl)
 have x2:=(aA.cells.1 _ _ dA).trans (HX.out 2 _ rfl)
 have x3:=(aA.cells.1 _ _ dA).trans (HX.out 3 _ rfl)
 have x4:=(aA.cells.1 _ _ dA).trans (HX.out 4 _ rfl)
 have x5:=(aA.cells.1 _ _ dA).trans (HX.out 5 _ rfl)
 have x6:=(aA.cells.1 _ _ dA).trans (HX.out 6 _ rfl)
 have x7:=(aA.cells.1 _ _ dA).trans (HX.out 7 _ rfl)
 have x8:=(aA.cells.1 _ _ dA).trans (HX.out 8 _ rfl)
 have x9:=(aA.cells.1 _ _ dA).trans (HX.out 9 _ rfl)
 have rz:=(aA.cells.1 _ _ dA).trans (HX.out 10 _ rfl)
 have rA:=(aA.cells.1 _ _ dA).trans (HX.out 11 _ rfl)
 have s0:=(aA.cells.1 _ _ Cf).trans s0
 have s1:=(aA.cells.1 _ _ Cf).trans s1
 have hx1:=ltT dA aA.size
 have hs1:=ltT Cf aA.size
 have bI:=af (cR.out.trans aA)
 clear Ch aA tH
 go_wp2_with fail
 refine (lh.out w1 bI.out).mono ?_
 rintro r w2 ⟨rfl,hT⟩
 have HT:=af hT
 clear hT lh x0 x1 x2 x3 x4 x5 x6 x7 x8 x9 rz rA
 have tA:=af (show aj (fun j=>br k (L j)\/j=rb) W w2 from (bI.out.only _).trans HT.out.1 fun j hj=>by
  dsimp only at hj
  by_cases q:j<W.heap.size
  · rw [zZ1 q] at hj;exact .inl hj
  · exact .inr (by omega))
 have hnew:∀j,W.heap.size<=j->¬(br k (if j<W.heap.size then L j else 0)\/j=rb):=fun j hj t=>by
  rw [zZ0 (by omega)] at t
  rcases t with t | t
  · exact Kv t
  · have:=RT.1;omega
 have HNW:=af hnew
 have Fa:=af (show ∃L',(∀j,j<W.heap.size->L' j=L j)/\dZ w2 L' k rb (n+1) RU D2 B from by
  obtain ⟨_,L',l1,_,l3⟩:=HT.out
  have:=bI.out.size
  exact ⟨L',fun j hj=>(l1 j (by omega)).trans (zZ1 hj),l3⟩)
 by_cases lD:cd=0
 · subst lD
   obtain ⟨L2,l1,hR2⟩:=Fa.out
   have tz:=af (tz.out w2 L2 hR2)
   have dt:=af (show ∀i P S,B.st i=some (P,S)->Pl.ct P from fun i P S hi=>by
    obtain ⟨al,h⟩:=hR2
    obtain ⟨db,nb,ms,sN⟩:=h.all
    obtain ⟨_,c,_,_,G,sb,Dt,_,hT,_⟩:=sN.states i P S hi
    exact hT.fP)
   have Kw:=HT.out.1
   have s0:=(Kw.cell hs1 (hnew sb Xh.out.1) 0).trans s0
   have s1:=(Kw.cell hs1 (hnew sb Xh.out.1) 1).trans s1
   have hs2:=ltT hs1 Kw.size
   have RV:=af (show ∃G,cL w2 G tb1 T1/\Pl.nI A T1 from by
    obtain ⟨G,q1,q2⟩:=BS.out.ex
    refine ⟨G,q1.kept Kw fun j hj=>hnew j ?_,BS.out.all⟩
    have:=q2 j hj
    have:=cR.out.size
    omega)
   clear Kw hR2 l1 HT BS hnew
   go_wp2_with fail
   refine tz.out.mono ?_
   rintro r w3 ⟨tb2,T2,rfl,hl2,Ch⟩
   have BS:=af Ch
   have hg3:=Ch.ag
   have s0:=(hg3.cells.1 _ _ hs2).trans s0
   have s1:=(hg3.cells.1 _ _ hs2).trans s1
   have hs3:=ltT hs2 hg3.size
   have ey:=af hg3
   obtain ⟨G1,hb1,Ky⟩:=RV.out
   have RV:=af (hb1.ag hg3)
   have Ay:=af (And.intro Ky Ch.all)
   have Xi:=af (Ur (hb1.ag hg3) (by omega))
   clear Ch hg3 tz hb1 Ky
   go_wp2_with fail
   refine Xi.out.mono ?_
   rintro r w4 ⟨⟨cb,Gc,rfl,hC,Xj⟩,hg4⟩
   have S0:=af s0
   have S1:=af s1
   have hs4:=ltT hs3 hg4.size
   have pM:=af (show xN w3 cb (Pl.cK T1 T2 0) w4 from ⟨⟨Gc,by rw [Pl.z2f];exact hC,Xj⟩,hg4⟩)
   obtain ⟨G2,hb2,_⟩:=BS.out.ex
   have HB2:=af hb2
   obtain ⟨v2,Dq⟩:=hb2
   obtain ⟨a2,cap2,rfl,Jq⟩:=lJ Dq.row
   have HP2:=af Jq
   have t2:=(hg4.cells.1 _ _ (aN Dq.c0)).trans Dq.c0
   have ht2:=aN t2
   clear hC Xj hg4 Xi Dq Jq s0 s1 hs4
   have Gj:=af (show w3.cell? ⟨sb,0,none⟩=some (.string lo)/\w3.cell? ⟨sb,1,none⟩=some (.string hi) from ⟨S0.out,S1.out⟩)
   have Kz:=Ay.out.1.ap
   have KA:=Ay.out.2.ap
   have Fb:=af (And.intro Kz KA)
   clear Kz KA
   obtain ⟨i0,hi0,hz0,hz1,hz2⟩:=info_parts LI
   go_wp2_with fail
   go_loopw [43] (fun i wr=>∃j:Nat,j<=T2.length/\i=.int .i64 j/\Hid (xN w3 cb (Pl.cK T1 T2 j) wr)) (fun i _=>T2.length - (intOf i).toNat)
   case atStart=>exact ⟨0,Nat.zero_le _,rfl,pM⟩
   case round=>
    obtain ⟨j,Mn,rfl,HB⟩:=hrel
    obtain ⟨wo,rfl⟩:∃wo:World,wo=wr:=⟨_,rfl⟩
    have hgo:=HB.out.ag
    by_cases aq:j<T2.length
    · rcases HP2.out with h0 | ⟨b,off,rfl,hb,hR⟩
      · rw [h0] at aq;simp at aq
      have q0:=(hgo.cells.1 b (off+j*3) hb).trans (hR.key j aq)
      have q1:=(hgo.cells.1 b (off+j*3+1) hb).trans (hR.val j aq)
      have q2:=(hgo.cells.1 b (off+j*3+2) hb).trans (hR.di j aq)
      have xP:=Pl.z3j (T1:=T1) (T2:=T2) j aq
      have RX:=Pl.z4H (T1:=T1) Fb.out.2 j aq
      have hBl:=Pl.Xf T1 T2 j
      rw [<-jt T2 j aq] at xP RX
      obtain ⟨G,sS,nL⟩:=HB.out.ex
      have ml:=af (fun X (g:ae wo X)=>LO (sS.ag g).read (by omega) (ay T2 j).key)
      rw [RX] at ml
      have kg:=af xP
      have tK:=af (And.intro sS nL)
      clear hR xP RX sS nL
      generalize (T1.find? (Pl.isK (ay T2 j).key)).isSome=is at *
      generalize ((Pl.cK T1 T2 j).find? (Pl.isK (ay T2 j).key)).getD Pr.none=o at *
      generalize ay T2 j=c at *
      obtain ⟨ck,cv,cn⟩:=c
      obtain ⟨ok,ov,on⟩:=o
      unfold Pr.agg at ml
      dsimp only at *
      obtain ⟨lb,kX⟩:∃lb,lb=wo.heap.size:=⟨_,rfl⟩
      have k0:(wo.alloc (.cells #[.string ck,.string cv,.int .i64 cn] 80)).cell? ⟨lb,0,none⟩=some (.string ck):=by rw [kX];simp [go_sem]
      have k1:(wo.alloc (.cells #[.string ck,.string cv,.int .i64 cn] 80)).cell? ⟨lb,1,none⟩=some (.string cv):=by rw [kX];simp [go_sem]
      have k2:(wo.alloc (.cells #[.string ck,.string cv,.int .i64 cn] 80)).cell? ⟨lb,2,none⟩=some (.int .i64 cn):=by rw [kX];simp [go_sem]
      have xQ:=aN k0
      have zI:=af kX
      have Fe:=af (show ae wo (wo.alloc (.cells #[.string ck,.string cv,.int .i64 cn] 80)) from (ae.rf wo).alloc _)
      clear kX
      go_wp2_with fail
      refine (ml.out _ Fe.out).mono ?_
      rintro r w5 ⟨rfl,mN⟩
      rw [<-zI.out]
      have k0:=(mN.cells.1 _ _ xQ).trans k0
      have k1:=(mN.cells.1 _ _ xQ).trans k1
      have k2:=(mN.cells.1 _ _ xQ).trans k2
      have Ff:=ltT xQ mN.size
      have tI:=af (Fe.out.trans mN)
      clear mN ml q0 q1 q2 xQ
      cases is with
      | true=>
       have xP:=kg.out
       rw [zZ1 rfl] at xP
       have HN:=af xP
       clear xP
       go_wp2_with fail
       go_roundw
       case rel=>
        refine ⟨j+1,by omega,by go_num,?_⟩
        rw [HN.out]
        exact ⟨⟨G,tK.out.1.ag (tI.out.alloc _),tK.out.2⟩,hgo.trans (tI.out.alloc _)⟩
       case measure=>simp [intOf];omega
      | false=>
       have xP:=kg.out
       rw [zZ0 (by simp)] at xP
       have HN:=af xP
       clear xP kg
       have oY:ae w5 (w5.alloc (.cells #[.string ok,.string ov,.int .i64 on] 80)):=(ae.rf w5).alloc _
       have k0:=(oY.cells.1 _ _ Ff).trans k0
       have k1:=(oY.cells.1 _ _ Ff).trans k1
       have k2:=(oY.cells.1 _ _ Ff).trans k2
       go_upto_region 12 with fail
       generalize Dx:World.alloc w5 _=Y at k0 k1 k2 oY ⊢
       clear Dx
       have l5:=tI.out.trans oY
       obtain ⟨u,hI⟩:=tK.out.1
       have HI:=af hI
       clear hI
       have lF:¬some lb=u.ownBlock:=fun e=>by have:=HI.out.lt _ (HI.out.own _ e.symm).1;have:=zI.out;omega
       have fW:¬some cb=u.ownBlock:=fun e=>(HI.out.own _ e.symm).2 rfl
       have hlb:lb<Y.heap.size:=aN k0
       have np:=af (HI.out.kept (l5.only fun _=>False) (fun _ _ h=>h))
       have KB:=af (hgo.trans l5)
       have K0:=aV (S:=fun j=>some j=u.ownBlock) k0 lF
       have K1:=aV (S:=fun j=>some j=u.ownBlock) k1 lF
       have K2:=aV (S:=fun j=>some j=u.ownBlock) k2 lF
       have C0:=aV (S:=fun j=>some j=u.ownBlock) np.out.c0 fW
       have OY:=aN np.out.c0
       clear k0 k1 k2 oY l5
       refine gJ 8 [6,7] (aj (fun j=>some j=u.ownBlock) Y) Eq (dO 80 6 7 Y [.string ck,.string cv,.int .i64 cn] (jo 80 3 u (Pl.cK T1 T2 j).length (bM (Pl.cK T1 T2 j)) [.string ck,.string cv,.int .i64 cn])) (fun f a=>(a.put (some 62) (f 6)).put (some 63) (f 7)) (by kernel_rfl) (by kernel_rfl) (fun _ _=>rfl) (dO.start Y) (fun L f x h=>h.only fun _ _ _ h=>h.only) (fun _=>rfl) (fun _ _ _ _ h g=>g▸h) ?_
       repeat (first
        | refine gy ?_
        | (refine gB ?_;intro K hK;go_big_quiet_op;go_big_quiet_on)
        | (refine gz ?_;simp only [Act.put,sA,sB,sC]))
       refine jX (by rfl) ⟨⟨bH rfl (fun _ a=>a) (fun _ _=>rfl) (fun _=>rfl) ?_,bH rfl (fun f a=>a.put (some 62) (f 6)) (fun _ _=>rfl) (fun _=>rfl) ?_,trivial⟩,?_⟩
       · intro L f y hJ hL hd
         clear K0 K1 K2 C0
         have hm:=af (hJ.make (by decide) hL)
         clear hJ
         go_simp
         exact hm.out
       · intro L f y hJ hL hd
         clear K0 K1 K2 C0
         have h6:=hd 6 rfl (by decide)
         obtain ⟨vb,q7,tv,hvb⟩:=hJ.made h6 hL
         refine yu _ _ _ rfl 80 i0 _ 3 40 Tryz.underlying84 hi0 hz0 hz1 hz2 H6 (by omega) u (Pl.cK T1 T2 j).length (bM (Pl.cK T1 T2 j)) rfl ?_ vb 1 [.string ck,.string cv,.int .i64 cn] ?_ rfl hvb (by intro u hu;simp at hu;rcases hu with rfl | rfl | rfl<;> rfl) (by unfold maxLen;omega) (by omega) ?_
         · exact gI (hJ.ag hL) np.out.row
         · exact q7
         · intro r w' hD
           exact hJ.call (by decide) hL h6 hD
       rintro f y hJ
       clear K0 K1 K2 C0
       obtain ⟨g4,c4,q8,cy,fy,hT⟩:=np.out.snoc (p:=⟨ck,cv,cn⟩) (hJ.done rfl)
       rw [q8]
       have hty:=aN cy
       obtain ⟨rp,G',j3,lZ⟩:=hT
       have HF:Hid (xN w3 cb (Pl.cK T1 T2 (j+1)) (y.setCell ⟨cb,0,none⟩ (.slice (some ⟨g4,0,none⟩) ((Pl.cK T1 T2 j).length+1) c4))):=by
        unfold Hid
        rw [HN.out]
        have:=KB.out.size
        exact ⟨⟨G',j3,fun x hx=>(lZ x hx).elim (tK.out.2 x) (fun h=>by omega)⟩,((KB.out.only _).then rp).ag fun x hx=>tK.out.2 x hx⟩
       clear hJ q8 rp j3 lZ lF fW
       dsimp only [List.drop]
       go_wp2_with fail
       go_roundw
       case rel=>exact ⟨j+1,by omega,by go_num,HF⟩
       case measure=>simp [intOf];omega
    · obtain rfl:j=T2.length:=by omega
      obtain ⟨hA1,hA2,_⟩:=Pl.Xg Fb.out.1 Fb.out.2
      have hBl:=Pl.Xf T1 T2 T2.length
      obtain ⟨G,sS,nL⟩:=HB.out.ex
      generalize hbb:Pl.cK T1 T2 T2.length=bb at *
      have FQ:=af hbb
      clear hbb
      have xR:∀c∈bb,Pl.aF c.key=0:=fun c hc=>by
       have key:∀(A:bc) (hs:∀i P S,A.st i=some (P,S)->Pl.ct P) (p:Pr),Pl.tR A p->Pl.aF p.key=0:=fun A hs p ⟨i,P,S,hi,hp⟩=>(hs i P S hi).key p hp
       rcases hA2 c hc with q | q
       · exact key A mf.out.2.2 c ((Ay.out.1.mem c).1 q)
       · exact key B dt.out c ((Ay.out.2.mem c).1 q)
      have Eb:=af (fun X (g:ae wo X)=>Zx (sS.ag g).read (by omega) xR hA1)
      have HKEY:=af xR
      clear sS nL hA1 hA2 xR
      obtain ⟨ob,gL⟩:∃ob,ob=wo.heap.size:=⟨_,rfl⟩
      obtain ⟨Y,hY⟩:∃Y,Y=wo.alloc (.cells #[] 103):=⟨_,rfl⟩
      have gY:ae wo Y:=by rw [hY];exact (ae.rf wo).alloc _
      have hr0:Y.ownsRow 0 103 10 (.slice (some ⟨ob,0,none⟩) 0 0) 0 (eB []):=by rw [hY,gL];exact na (cur:=[]) (Nat.zero_le _) (heap_alloc_new wo _) (zZ3 _) (by decide) rfl rfl
      have JG:=af hr0
      go_upto_region 15 with fail
      rw [<-hY,<-gL]
      have Xk:=af (show w3.heap.size<=ob/\ob<Y.heap.size from ⟨by rw [gL];exact hgo.size,by rw [gL,hY];simp⟩)
      have RY:=af (hgo.trans gY)
      have Eb:=af (Eb.out Y gY)
      clear hr0 hY gY gL
      go_wp2_with fail
      refine Eb.out.mono ?_
      rintro r w6 ⟨⟨vz,zs,rfl,hperm,hsrt,xS⟩,rY⟩
      obtain ⟨az,cpz,rfl,Xl⟩:=lJ xS
      have hzl:zs.length<=1920:=by rw [hperm.length_eq];omega
      have Xm:=af (And.intro Xl xS)
      have HZ:=af (And.intro hperm hsrt)
      have HG6:=af (RY.out.trans rY)
      have Iu:=af (show po w6 ob (.slice (some ⟨ob,0,none⟩) 0 0) [] w6 from ⟨gI rY JG.out,fun g hg=> .inl (by simp [Value.ownBlock] at hg;exact hg.symm),aj.refl _ _⟩)
      clear hperm hsrt xS rY Xl Eb HB hgo
      go_wp2_with fail
      go_loopw [18,71] (fun v i wr=>∃j:Nat,j<=zs.length/\i=.int .i64 j/\Hid (po w6 ob v (jW A B lo hi at' ((zs.take j).map Pr.key)) wr)) (fun _ i _=>zs.length - (intOf i).toNat)
      case atStart=>exact ⟨0,Nat.zero_le _,rfl,Iu⟩
      case round=>
       rename_i vo
       obtain ⟨j,Mn,rfl,HO⟩:=hrel
       obtain ⟨wi,rfl⟩:∃wi:World,wi=wr:=⟨_,rfl⟩
       have hoi:=HO.out.only
       have sV:ae w3 wi:=((HG6.out.only _).then hoi).ag fun x (hx:x=ob)=>by rw [hx];exact Xk.out.1
       by_cases aq:j<zs.length
       · rcases Xm.out.1 with h0 | ⟨b,off,rfl,hb,hR⟩
         · rw [h0] at aq;simp at aq
         have RZ:¬b=ob:=fun e=>by
          have:=(Xm.out.2.lt b rfl).1
          have:=Xk.out.2
          omega
         have q0:=(hoi.cell hb RZ (off+j*3)).trans (hR.key j aq)
         have q1:=(hoi.cell hb RZ (off+j*3+1)).trans (hR.val j aq)
         have q2:=(hoi.cell hb RZ (off+j*3+2)).trans (hR.di j aq)
         have s0:=(sV.cells.1 _ _ hs3).trans Gj.out.1
         have s1:=(sV.cells.1 _ _ hs3).trans Gj.out.2
         have Ci:=ltT hs3 sV.size
         have hbi:=ltT hb hoi.size
         have kK:(ay zs j).key.size<=96:=Pl.Un (HKEY.out _ (HZ.out.1.mem_iff.1 (by rw [jt zs j aq];exact zQ5 aq)))
         have Fe:=af (fun X (g:ae wi X)=>LO (RV.out.ag (sV.trans g)).read (by omega) (ay zs j).key)
         have Nc:=af (fun X (g:ae wi X)=>LO (HB2.out.ag (sV.trans g)).read (by omega) (ay zs j).key)
         rw [Ay.out.1.get mf.out.1 mf.out.2.2] at Fe
         rw [Ay.out.2.get mf.out.2.1 dt.out] at Nc
         have Nf:=af (fun X=>FH lo hi (ay zs j).key X (by omega) (by omega) (by omega))
         rw [Pl.LN] at Nf
         have Xn:jW A B lo hi at' ((zs.take (j+1)).map Pr.key)=jW A B lo hi at' ((zs.take j).map Pr.key)++(if (Pl.aL lo hi (ay zs j).key && !(Cg.same ⟨at',(ay zs j).key,((Pl.aS A (ay zs j).key).getD Pr.none).key,((Pl.aS A (ay zs j).key).getD Pr.none).val,((Pl.aS A (ay zs j).key).getD Pr.none).di,((Pl.aS B (ay zs j).key).getD Pr.none).key,((Pl.aS B (ay zs j).key).getD Pr.none).val,((Pl.aS B (ay zs j).key).getD Pr.none).di,(Pl.aS A (ay zs j).key).isSome,(Pl.aS B (ay zs j).key).isSome⟩))=true then [⟨at',(ay zs j).key,((Pl.aS A (ay zs j).key).getD Pr.none).key,((Pl.aS A (ay zs j).key).getD Pr.none).val,((Pl.aS A (ay zs j).key).getD Pr.none).di,((Pl.aS B (ay zs j).key).getD Pr.none).key,((Pl.aS B (ay zs j).key).getD Pr.none).val,((Pl.aS B (ay zs j).key).getD Pr.none).di,(Pl.aS A (ay zs j).key).isSome,(Pl.aS B (ay zs j).key).isSome⟩] else []):=by
          rw [OI zs j aq,List.map_append]
          exact z4b A B lo hi at' _ _
         have hcl:=zQ0 (xO A B lo hi at' ((zs.take j).map Pr.key)) (by rw [List.length_map,List.length_take];omega:((zs.take j).map Pr.key).length<=1920)
         have qP:=af Xn
         clear hR Xn
         generalize (Pl.aS A (ay zs j).key).isSome=KC at *
         generalize (Pl.aS B (ay zs j).key).isSome=KD at *
         generalize (Pl.aS A (ay zs j).key).getD Pr.none=u1 at *
         generalize (Pl.aS B (ay zs j).key).getD Pr.none=u2 at *
         generalize Pl.aL lo hi (ay zs j).key=hs at *
         generalize jW A B lo hi at' ((zs.take j).map Pr.key)=cs at *
         generalize KE:jW A B lo hi at' ((zs.take (j+1)).map Pr.key)=xU at *
         have fX:=af KE
         clear KE
         generalize ay zs j=c at *
         obtain ⟨ck,cv,cn⟩:=c
         obtain ⟨k1,v1,n1⟩:=u1
         obtain ⟨k2,v2,n2⟩:=u2
         unfold Pr.agg at Fe Nc
         unfold Cg.same at qP
         dsimp only at *
         have HGI:=af sV
         clear hoi sV
         obtain ⟨pb,Fg⟩:∃pb,pb=wi.heap.size:=⟨_,rfl⟩
         obtain ⟨Z1,Ng⟩:∃Z1,Z1=wi.alloc (.cells #[.string ck,.string cv,.int .i64 cn] 80):=⟨_,rfl⟩
         have KF:ae wi Z1:=by rw [Ng];exact (ae.rf wi).alloc _
         have p0:Z1.cell? ⟨pb,0,none⟩=some (.string ck):=by rw [Ng,Fg];simp [go_sem]
         have R7:=aN p0
         go_upto_region 18 with fail
         rw [<-Ng,<-Fg]
         clear Ng Fg q0 q1 q2
         have s0:=(KF.cells.1 _ _ Ci).trans s0
         have s1:=(KF.cells.1 _ _ Ci).trans s1
         have Ci:=ltT Ci KF.size
         have gq:=af KF
         clear KF
         go_wp2_with fail
         refine (Fe.out Z1 gq.out).mono ?_
         rintro r w7 ⟨rfl,yQ⟩
         have p0:=(yQ.cells.1 _ _ R7).trans p0
         have GF:=ltT R7 yQ.size
         have s0:=(yQ.cells.1 _ _ Ci).trans s0
         have s1:=(yQ.cells.1 _ _ Ci).trans s1
         have Cj:=ltT Ci yQ.size
         obtain ⟨eb,xV⟩:∃eb,eb=w7.heap.size:=⟨_,rfl⟩
         obtain ⟨Z2,EG⟩:∃Z2,Z2=w7.alloc (.cells #[.string k1,.string v1,.int .i64 n1] 80):=⟨_,rfl⟩
         have Fh:ae w7 Z2:=by rw [EG];exact (ae.rf w7).alloc _
         have e0:Z2.cell? ⟨eb,0,none⟩=some (.string k1):=by rw [EG,xV];simp [go_sem]
         have e1:Z2.cell? ⟨eb,1,none⟩=some (.string v1):=by rw [EG,xV];simp [go_sem]
         have e2:Z2.cell? ⟨eb,2,none⟩=some (.int .i64 n1):=by rw [EG,xV];simp [go_sem]
         have KG:=aN e0
         go_upto_region 19 with fail
         rw [<-EG,<-xV]
         clear EG xV
         have p0:=(Fh.cells.1 _ _ GF).trans p0
         have s0:=(Fh.cells.1 _ _ Cj).trans s0
         have s1:=(Fh.cells.1 _ _ Cj).trans s1
         have GF:=ltT GF Fh.size
         have Cj:=ltT Cj Fh.size
         have gq:=af ((gq.out.trans yQ).trans Fh)
         clear Fh yQ Fe R7 Ci
         go_wp2_with fail
         refine (Nc.out Z2 gq.out).mono ?_
         rintro r w8 ⟨rfl,xW⟩
         have p0:=(xW.cells.1 _ _ GF).trans p0
         have s0:=(xW.cells.1 _ _ Cj).trans s0
         have s1:=(xW.cells.1 _ _ Cj).trans s1
         have e0:=(xW.cells.1 _ _ KG).trans e0
         have e1:=(xW.cells.1 _ _ KG).trans e1
         have e2:=(xW.cells.1 _ _ KG).trans e2
         have Nh:=ltT GF xW.size
         have Ni:=ltT Cj xW.size
         have xX:=ltT KG xW.size
         obtain ⟨fb,xY⟩:∃fb,fb=w8.heap.size:=⟨_,rfl⟩
         obtain ⟨Z3,GG⟩:∃Z3,Z3=w8.alloc (.cells #[.string k2,.string v2,.int .i64 n2] 80):=⟨_,rfl⟩
         have xZ:ae w8 Z3:=by rw [GG];exact (ae.rf w8).alloc _
         have f0:Z3.cell? ⟨fb,0,none⟩=some (.string k2):=by rw [GG,xY];simp [go_sem]
         have f1:Z3.cell? ⟨fb,1,none⟩=some (.string v2):=by rw [GG,xY];simp [go_sem]
         have f2:Z3.cell? ⟨fb,2,none⟩=some (.int .i64 n2):=by rw [GG,xY];simp [go_sem]
         have GH:=aN f0
         go_upto_region 20 with fail
         rw [<-GG,<-xY]
         clear GG xY
         have p0:=(xZ.cells.1 _ _ Nh).trans p0
         have s0:=(xZ.cells.1 _ _ Ni).trans s0
         have s1:=(xZ.cells.1 _ _ Ni).trans s1
         have e0:=(xZ.cells.1 _ _ xX).trans e0
         have e1:=(xZ.cells.1 _ _ xX).trans e1
         have e2:=(xZ.cells.1 _ _ xX).trans e2
         have Nh:=ltT Nh xZ.size
         have Ni:=ltT Ni xZ.size
         have xX:=ltT xX xZ.size
         have gq:=af ((gq.out.trans xW).trans xZ)
         clear xZ xW Nc KG GF Cj
         go_cut [102] (fun R9 wx=>R9=.bool (hs && !(k1.toList==k2.toList && v1.toList==v2.toList && n1==n2 && KC==KD))/\Hid (ae Z3 wx))
         case first=>
          go_wp2_with fail
          refine (Nf.out _).mono ?_
          rintro r w9 ⟨rfl,Ck⟩
          have e0:=(Ck.cells.1 _ _ xX).trans e0
          have e1:=(Ck.cells.1 _ _ xX).trans e1
          have e2:=(Ck.cells.1 _ _ xX).trans e2
          have f0:=(Ck.cells.1 _ _ GH).trans f0
          have f1:=(Ck.cells.1 _ _ GH).trans f1
          have f2:=(Ck.cells.1 _ _ GH).trans f2
          have Xo:=af Ck
          clear Ck Nf p0 s0 s1 qP
          cases hs with
          | false=>
           go_wp2_with fail
           go_meet
           exact ⟨by simp,Xo.out⟩
          | true=>
           go_wp2_with fail
           all_goals (go_meet;refine ⟨?_,Xo.out⟩;simp_all)
         case rest=>
          obtain ⟨rfl,eo⟩:=hcut
          generalize lD:(hs && !(k1.toList==k2.toList && v1.toList==v2.toList && n1==n2 && KC==KD))=cnd at *
          have hwx:=eo.out
          have p0:=(hwx.cells.1 _ _ Nh).trans p0
          have e0:=(hwx.cells.1 _ _ xX).trans e0
          have e1:=(hwx.cells.1 _ _ xX).trans e1
          have e2:=(hwx.cells.1 _ _ xX).trans e2
          have f0:=(hwx.cells.1 _ _ GH).trans f0
          have f1:=(hwx.cells.1 _ _ GH).trans f1
          have f2:=(hwx.cells.1 _ _ GH).trans f2
          have eo:=af (gq.out.trans hwx)
          clear lD hwx s0 s1 Nf gq
          cases cnd with
          | false=>
           have Fi:=qP.out
           rw [zZ0 (by simp),List.append_nil] at Fi
           have HN:=af Fi
           clear Fi qP
           go_wp2_with fail
           go_roundw
           case rel=>
            refine ⟨j+1,by omega,by go_num,?_⟩
            rw [fX.out,HN.out]
            exact HO.out.ag eo.out
           case measure=>simp [intOf];omega
          | true=>
           have Fi:=qP.out
           rw [zZ1 rfl] at Fi
           have HN:=af Fi
           clear Fi qP
           obtain ⟨Z4,Nj⟩:∃Z4,Z4=World.alloc wc (.cells #[.int .i64 at',.string ck,.string k1,.string v1,.int .i64 n1,.string k2,.string v2,.int .i64 n2,.bool KC,.bool KD] 103):=⟨_,rfl⟩
           have Sa:=eo.out.alloc (.cells #[.int .i64 at',.string ck,.string k1,.string v1,.int .i64 n1,.string k2,.string v2,.int .i64 n2,.bool KC,.bool KD] 103)
           rw [<-Nj] at Sa
           have hblk:Z4.heap[wc.heap.size]? =some (.cells (Cg.vals ⟨at',ck,k1,v1,n1,k2,v2,n2,KC,KD⟩).toArray 103 (0,0)):=by rw [Nj];exact heap_alloc_new _ _
           obtain ⟨r4,W2,hrun,Ax⟩:=HO.out.snoc Sa _ (QG hblk) (by omega) 45
           have cE:=af hrun
           have HOR:=af Ax
           have HZ4:=af Nj
           clear hrun Ax hblk Sa Nj
           go_wp2_with (at_builtin;rw [<-HZ4.out];refine Lib.wpList_append_run _ rfl _ _ _ _ rfl _ _ rfl rfl _ _ cE.out ?_)
           clear p0 e0 e1 e2 f0 f1 f2 cE
           go_wp2_with fail
           go_roundw
           case rel=>
            refine ⟨j+1,by omega,by go_num,?_⟩
            rw [fX.out,HN.out]
            exact HOR.out
           case measure=>simp [intOf];omega
       · obtain rfl:j=zs.length:=by omega
         have aD:=HO.out.own
         have hW2:ae w2 wi:=(ey.out.trans sV)
         rw [zQ2] at HO aD
         obtain ⟨a',c',rfl,hC⟩:=QE aD
         have HC:=af (And.intro hC hW2)
         clear aD hC hW2 sV hoi
         go_wp2_with fail
         refine HQ.out _ _ ⟨a',c',_,rfl,HC.out.1,tA.out.cm HC.out.2,?_,.inr ⟨(by trivial),fun ks hks=>?_⟩⟩
         · obtain ⟨L',l1,l2⟩:=Fa.out
           exact ⟨L',l1,l2.ag HC.out.2⟩
         · exact HDB.out (by trivial) dt.out T1 T2 zs Ay.out.1 Ay.out.2 (by rw [FQ.out];exact HZ.out.1) HZ.out.2 ks hks
 · have Rb:¬(cd:Int)=0:=by omega
   go_wp2_with fail
   exact HQ.out _ _ ⟨none,0,[],rfl,.inl rfl,tA.out,Fa.out,.inl ⟨lD,rfl⟩⟩
theorem Pl.pq (A:bc) (e:En) (at':Int):(Pl.bF A e at').1<=19:=by
 by_cases hr:Pl.bR e=false
 · unfold Pl.bF;rw [zZ1 hr];show (4:Nat)<=19;omega
 · by_cases hat:at'<A.at_\/at'<0\/4096<=at'
   · unfold Pl.bF;rw [zZ0 hr,zZ1 hat];show (1:Nat)<=19;omega
   · rw [Pl.W5 (by simpa using hr) hat];decide
structure j5 (w0 W:World) (wb ab rb:Nat) (lo hi:ByteArray) (n1 n2 m1 m2:Nat) (A1 A2:bc) (fa:Lit->Option Value) (D:bj) (t:Int) (a:Option Addr) (xs:List Cg):Prop where
 ag:ae w0 W
 c1:mW W wb ab lo hi t
 ex:∃L,(∀j,j<w0.heap.size->L j=0)/\L wb=150/\bQ W L 1 ab n1 A1/\dZ W L 201 rb n2 fa D A2/\(xs=[]\/∃b off,a=some ⟨b,off,none⟩/\b<W.heap.size/\(L b=0\/br 1 (L b))/\ly W b off xs)
 ok1:bw A1 m1
 ok2:bw A2 m2
 tw:Pl.Twin A2.sh D
section
variable {w0 W U:World} {wb ab rb:Nat} {lo hi:ByteArray} {n1 n2 m1 m2:Nat} {A1 A2:bc} {fa:Lit->Option Value} {D:bj} {t:Int} {a:Option Addr} {xs:List Cg}
theorem j5.more (h:j5 w0 W wb ab rb lo hi n1 n2 m1 m2 A1 A2 fa D t a xs) (g:ae W U):j5 w0 U wb ab rb lo hi n1 n2 m1 m2 A1 A2 fa D t a xs:=by
 obtain ⟨L,h1,h2,h4,h5,h6⟩:=h.ex
 refine ⟨h.ag.trans g,h.c1.ag g,⟨L,h1,h2,h4.ag g,h5.ag g,?_⟩,h.ok1,h.ok2,h.tw⟩
 rcases h6 with h6 | ⟨b,off,e,hb,hl,hr⟩
 · exact .inl h6
 · exact .inr ⟨b,off,e,ltT hb g.size,hl,hr.ag g hb⟩
theorem j5.less (h:j5 w0 W wb ab rb lo hi n1 n2 m1 m2 A1 A2 fa D t a xs) (a':Option Addr):j5 w0 W wb ab rb lo hi n1 n2 m1 m2 A1 A2 fa D t a' []:=by
 obtain ⟨L,h1,h2,h4,h5,_⟩:=h.ex
 exact ⟨h.ag,h.c1,⟨L,h1,h2,h4,h5,.inl rfl⟩,h.ok1,h.ok2,h.tw⟩
theorem j5.row (h:j5 w0 W wb ab rb lo hi n1 n2 m1 m2 A1 A2 fa D t a xs):ft W a xs:=by
 obtain ⟨L,h1,h2,h4,h5,h6⟩:=h.ex
 rcases h6 with h6 | ⟨b,off,e,hb,hl,hr⟩
 · exact .inl h6
 · exact .inr ⟨b,off,e,hb,hr⟩
theorem j5.ya (h:j5 w0 W wb ab rb lo hi n1 n2 m1 m2 A1 A2 fa D t a xs):W.cell? ⟨rb,0,none⟩=some (.int .i64 A2.at_):=by
 obtain ⟨L,h1,h2,h4,⟨al,h5⟩,h6⟩:=h.ex
 exact h5.c0
theorem j5.at1 (h:j5 w0 W wb ab rb lo hi n1 n2 m1 m2 A1 A2 fa D t a xs) (g:ae W U):Calls Tryz.prog 15 #[.pointer (some ⟨ab,0,none⟩)] U fun e w'=>e=.returned (.int .i64 A1.at_)/\ae U w':=by
 obtain ⟨L,h1,h2,h4,h5,h6⟩:=h.ex
 exact Ai (h4.ag g)
theorem j5.over (h:j5 w0 W wb ab rb lo hi n1 n2 m1 m2 A1 A2 fa D t a xs) (gU:ae W U):∃L,(∀j,j<w0.heap.size->L j=0)/\L wb=150/\bQ U L 1 ab n1 A1/\dZ U L 201 rb n2 fa D A2/\∀q,W.heap.size<=q->L q=0:=by
 obtain ⟨L,h1,h2,h4,h5,_⟩:=h.ex
 have s0:=h.ag.size
 have hb1:=aN h.c1.c0
 refine ⟨fun j=>if j<W.heap.size then L j else 0,fun j hj=>?_,?_,h4.kept (gU.only fun _=>False) (fun _ _ h=>h.elim) (fun j hj=>zZ1 hj),h5.kept (gU.only fun _=>False) (fun _ _ h=>h.elim) (fun j hj=>zZ1 hj),fun q hq=>zZ0 (by omega)⟩
 · dsimp only;rw [zZ1 (by omega)];exact h1 j hj
 · exact (zZ1 hb1).trans h2
theorem j5.bp (E:Nat->Addr) (hE:aY jC E w0) (h:j5 w0 W wb ab rb lo hi n1 n2 m1 m2 A1 A2 fa D t a xs) (gU:ae W U) (hm:m1<=119) (hn:n1<=90000) (e:En) (hA:bG w0 e) (hz:nt e) (kK:e.key.size<=300) (at':Int) (ht0:0<=t) (ht1:t<=1000000) (hl:lo.size<=70368744177664) (hh:hi.size<=70368744177664):
    Calls Tryz.prog 11 #[.pointer (some ⟨wb,0,none⟩),e.agg,.int .i64 at'] U fun r w'=>(∀q,W.heap.size<=q->q<U.heap.size->w'.heap[q]? =U.heap[q]?)/\∃ks,Pl.gG lo hi e ks/\(((Pl.bF A1 e at').1≠0/\r=.returned (.tuple #[.slice none 0 0,aX E (Pl.bF A1 e at').1])/\j5 w0 w' wb ab rb lo hi (n1+5) n2 (m1+1) m2 (Pl.bF A1 e at').2 A2 fa D t none [])\/
     ((Pl.bF A1 e at').1=0/\∃a c,r=.returned (.tuple #[.slice a (lS A1 (Pl.bF A1 e at').2 at' ks).length c,.nilIface])/\j5 w0 w' wb ab rb lo hi (n1+5) n2 (m1+1) m2 (Pl.bF A1 e at').2 A2 fa D (t+((lS A1 (Pl.bF A1 e at').2 at' ks).length:Nat)) a (lS A1 (Pl.bF A1 e at').2 at' ks))):=by
 obtain ⟨L,h1,h2,h4,h5,hq0⟩:=h.over gU
 have hw1:=aN h.c1.c0
 have h:=h.more gU
 have hb1:=aN h.c1.c0
 obtain ⟨jG,hrl⟩:=h5.blt
 have hne:rb≠wb:=fun q=>by rw [q,h2] at hrl;omega
 refine (VX E hE h.ag h.c1 h2 h4 (zZ3 _) (fun j hj=>by rw [h1 j hj];omega) h.ok1 hm hn e (fun X hO=>hA.ag (((h.ag.only (fun j=>w0.heap.size<=j)).then (hO.mono fun j hj=>by
  by_cases q:j<w0.heap.size
  · rw [h1 j q] at hj;unfold br at hj;omega
  · exact .inl (by omega))).ag fun j hj=>hj)) hz kK at' ht0 ht1 hl hh).mono ?_
 rintro r w' ⟨q1,q2,⟨L',l1,l2,l3⟩,ks,hk,q3⟩
 have k2:dZ w' L' 201 rb n2 fa D A2:=h5.kept q2 (fun j _ hj=>by
  rcases hj with hj | hj
  · refine ⟨by unfold br at hj ⊢;omega,fun e=>?_⟩
    rw [e,hrl] at hj;unfold br at hj;omega
  · exact ⟨by rw [hj,h2];unfold br;omega,fun e=>hne (e.symm.trans hj)⟩) l1
 have s0:=h.ag.size
 have base:∀j,j<w0.heap.size->L' j=0:=fun j hj=>(l1 j (ltT hj s0)).trans (h1 j hj)
 refine ⟨fun q hq1 hq2=>q2.block q hq2 fun hj=>?_,ks,hk,?_⟩
 · rcases hj with hj | hj
   · rw [hq0 q hq1] at hj;unfold br at hj;omega
   · have:=hw1;dsimp only at this;omega
 rcases q3 with ⟨c,hr,hw⟩ | ⟨c,b,cp,hr,Xp,Sb,hw⟩
 · exact .inl ⟨c,hr,q1,hw,⟨L',base,(l1 _ hb1).trans h2,l3,k2,.inl rfl⟩,Pl.Gg h.ok1 h4.fP e at',h.ok2,h.tw⟩
 · refine .inr ⟨c,some ⟨b,0,none⟩,cp,hr,q1,hw,⟨L',base,(l1 _ hb1).trans h2,l3,k2,?_⟩,Pl.Gg h.ok1 h4.fP e at',h.ok2,h.tw⟩
   rcases Sb with Sb | ⟨b',off,e',hb',hr'⟩
   · exact .inl Sb
   · cases e'
     exact .inr ⟨b,0,rfl,hb',l2 b Xp,hr'⟩
theorem j5.go1 (E:Nat->Addr) (hE:aY jC E w0) (h:j5 w0 W wb ab rb lo hi n1 n2 m1 m2 A1 A2 fa D t a xs) (gU:ae W U) (hm:m1<=119) (hn:n1<=90000) (e:En) (hA:bG w0 e) (hz:nt e) (kK:e.key.size<=300) (at':Int) (ht0:0<=t) (ht1:t<=1000000) (hl:lo.size<=70368744177664) (hh:hi.size<=70368744177664):
    Calls Tryz.prog 11 #[.pointer (some ⟨wb,0,none⟩),e.agg,.int .i64 at'] U fun r w'=>(∀q,W.heap.size<=q->q<U.heap.size->w'.heap[q]? =U.heap[q]?)/\∃(a1:Option Addr) (c:Nat) (cs:List Cg),r=.returned (.tuple #[.slice a1 cs.length c,aX E (Pl.bF A1 e at').1])/\j5 w0 w' wb ab rb lo hi (n1+5) n2 (m1+1) m2 (Pl.bF A1 e at').2 A2 fa D (t+(cs.length:Nat)) a1 cs/\cs.length<=8/\
     (((Pl.bF A1 e at').1≠0/\cs=[])\/((Pl.bF A1 e at').1=0/\∃ks,Pl.gG lo hi e ks/\cs=lS A1 (Pl.bF A1 e at').2 at' ks)):=by
 refine (h.bp E hE gU hm hn e hA hz kK at' ht0 ht1 hl hh).mono ?_
 rintro r w' ⟨px,ks,hks,⟨hc,rfl,hW⟩ | ⟨hc,a1,c,rfl,hW⟩⟩
 · refine ⟨px,none,0,[],rfl,?_,Nat.zero_le _,.inl ⟨hc,rfl⟩⟩
   rw [show t+(([]:List Cg).length:Nat)=t from by simp]
   exact hW
 · refine ⟨px,a1,c,_,?_,hW,?_,.inr ⟨hc,ks,hks,rfl⟩⟩
   · rw [hc];rfl
   · refine zQ0 ?_ hks.few
     unfold lS ig
     refine zQ0 (zJ9 _ _) ?_
     rw [List.length_map]
     exact zZ3 _
theorem dZ.fP {W:World} {L:Nat->Nat} {k rb n:Nat} {fa:Lit->Option Value} {D:bj} {A:bc} (h:dZ W L k rb n fa D A):∀i P S,A.st i=some (P,S)->Pl.ct P:=fun i P S hi=>by
 obtain ⟨al,h⟩:=h
 obtain ⟨db,nb,ms,sN⟩:=h.all
 obtain ⟨_,c,_,_,G,sb,Dt,_,hT,_⟩:=sN.states i P S hi
 exact hT.fP
theorem j5.KH (h:j5 w0 W wb ab rb lo hi n1 n2 m1 m2 A1 A2 fa D t a xs) (gU:ae W U) (hm:m2<=119) (hn:n2<=1000000) (e:En) (hA:bG w0 e) (hz:Gz e) (at':Int) (hl:lo.size<=300) (hh:hi.size<=300):
    Calls Tryz.prog 12 #[.pointer (some ⟨rb,0,none⟩),.agg #[.string lo,.string hi],e.agg,.int .i64 at'] U fun r w'=>∃(a2:Option Addr) (c:Nat) (cs:List Cg),r=.returned (.tuple #[.slice a2 cs.length c,.int .i64 ((Pl.bF A2 e at').1:Nat)])/\ft w' a2 cs/\j5 w0 w' wb ab rb lo hi n1 (n2+1) m1 (m2+1) A1 (Pl.bF A2 e at').2 (pj fa A2 e at') (mn A2 D e at') t a xs/\ae w0 w'/\
     (((Pl.bF A2 e at').1≠0/\cs=[])\/((Pl.bF A2 e at').1=0/\∀ks,Pl.gG lo hi e ks->cs=lS A2 (Pl.bF A2 e at').2 at' ks)):=by
 have h:=h.more gU
 obtain ⟨L,h1,h2,h4,h5,h6⟩:=h.ex
 have hb1:=aN h.c1.c0
 obtain ⟨jG,hrl⟩:=h5.blt
 have hne:wb≠rb:=fun q=>by rw [<-q,h2] at hrl;omega
 have hr0:w0.heap.size<=rb:=Nat.le_of_not_lt fun q=>by rw [h1 rb q] at hrl;omega
 refine (z2W h5 (by omega) h.ok2 hm h.tw lo hi hl hh e (fun X hO=>hA.ag (((h.ag.only (fun j=>w0.heap.size<=j)).then (hO.mono fun j hj=>by
  by_cases q:j<w0.heap.size
  · rw [h1 j q] at hj
    rcases hj with hj | hj
    · unfold br at hj;omega
    · omega
  · exact .inl (by omega))).ag fun j hj=>hj)) hz at' hn).mono ?_
 rintro r w' ⟨a2,c,cs,rfl,hcs,hO,⟨L',l1,l2⟩,hcase⟩
 have j3:∀j,br 201 (L j)\/j=rb->¬br 1 (L j):=fun j hj=>by
  rcases hj with hj | hj
  · unfold br at hj ⊢;omega
  · rw [hj,hrl];unfold br;omega
 have k2:bQ w' L' 1 ab n1 A1:=h4.kept hO (fun j _ hj=>j3 j hj) l1
 have k3:mW w' wb ab lo hi t:=h.c1.kept hO fun hj=>by
  rcases hj with hj | hj
  · rw [h2] at hj;unfold br at hj;omega
  · exact hne hj
 have s0:=h.ag.size
 have base:∀j,j<w0.heap.size->L' j=0:=fun j hj=>(l1 j (ltT hj s0)).trans (h1 j hj)
 have aI:xs=[]\/∃b off,a=some ⟨b,off,none⟩/\b<w'.heap.size/\(L' b=0\/br 1 (L' b))/\ly w' b off xs:=by
  rcases h6 with h6 | ⟨b,off,ea,hb,hl,hr⟩
  · exact .inl h6
  · have hT:¬(br 201 (L b)\/b=rb):=fun hj=>by
     rcases hj with hj | hj
     · rcases hl with hl | hl
       · rw [hl] at hj;unfold br at hj;omega
       · unfold br at hj hl;omega
     · rw [hj,hrl] at hl;unfold br at hl;omega
    refine .inr ⟨b,off,ea,ltT hb hO.size,by rw [l1 b hb];exact hl,?_⟩
    exact ⟨fun j hj=>(hO.cell hb hT _).trans (hr.at_ j hj),fun j hj=>(hO.cell hb hT _).trans (hr.key j hj),fun j hj=>(hO.cell hb hT _).trans (hr.wk j hj),fun j hj=>(hO.cell hb hT _).trans (hr.wv j hj),fun j hj=>(hO.cell hb hT _).trans (hr.wn j hj),fun j hj=>(hO.cell hb hT _).trans (hr.nk j hj),fun j hj=>(hO.cell hb hT _).trans (hr.nv j hj),fun j hj=>(hO.cell hb hT _).trans (hr.nn j hj),fun j hj=>(hO.cell hb hT _).trans (hr.had j hj),fun j hj=>(hO.cell hb hT _).trans (hr.has j hj)⟩
 have H8:ae w0 w':=((h.ag.only (fun j=>w0.heap.size<=j)).then (hO.mono fun j hj=>by
  by_cases q:j<w0.heap.size
  · rw [h1 j q] at hj
    rcases hj with hj | hj
    · unfold br at hj;omega
    · omega
  · exact .inl (by omega))).ag fun j hj=>hj
 exact ⟨a2,c,cs,rfl,hcs,⟨H8,k3,⟨L',base,(l1 _ hb1).trans h2,k2,l2,aI⟩,h.ok1,Pl.Gg h.ok2 h5.fP e at',xJ h.ok2 h.tw e at'⟩,H8,hcase⟩
end
end
section
open Go.RowKit Go.Maps
attribute [local go_sem] Oper.semAt_some aT
theorem Xq (E:Nat->Addr) (k:Nat) (hk:k<=19) (w:World) (hE:aY kd E w):
    Calls Tryz.prog 9 #[aX E k] w fun e w'=>e=.returned (.int .i64 (k:Nat))/\ae w w':=by
 by_cases h0:k=0
 · subst h0
   exact (num_nil w).mono fun e w' ⟨he,hw⟩=>⟨he,by rw [<-hw];exact ae.rf _⟩
 · rw [sX E k h0]
   exact yU E k (by omega) hk w hE
def jE (l:List Ac):bc:=l.foldl (fun A a=>(Pl.bF A a.e a.at').2) bc.init
theorem z2F (xs:List Ac) (k:Nat) (h:k<xs.length):jE (xs.take (k+1))=(Pl.bF (jE (xs.take k)) (cV xs k).e (cV xs k).at').2:=by
 unfold jE
 rw [zZ6 h,List.foldl_append,MM xs k h]
 rfl
theorem AR {W:World} {e:En} (h1:rQ W e.aC e.ops) (h2:e.ops.length<=20/\e.key.size<=300/\e.ar<=600/\∀o∈e.ops,o.key.size<=300/\o.val.size<=300/\o.old.size<=300):bG W e/\nt e/\e.key.size<=300/\Gz e:=by
 obtain ⟨a,b,c,d⟩:=h2
 exact ⟨⟨h1,by omega,fun o ho=>by obtain ⟨x,y,z⟩:=d o ho;exact ⟨by omega,by omega,by omega⟩,fun _=>by omega⟩,fun o ho=>by obtain ⟨x,y,z⟩:=d o ho;exact ⟨by omega,by omega⟩,b,b,fun o ho=>by obtain ⟨x,y,z⟩:=d o ho;exact ⟨x,y⟩⟩
structure Xr (w0 W:World) (wb ab rb:Nat) (lo hi:ByteArray) (k:Nat) (A:bc) (t:Int):Prop where
 ex:∃fa D,j5 w0 W wb ab rb lo hi (1+5*k) k k k A A fa D t none []
 t0:0<=t
 t1:t<=8*(k:Int)
def Sd (wb ab rb:Nat) (ya tB:Int) (i:Nat):Option Value:=(([none,none,none,none,none,none,none,none,some (.bool true),some (.bool false),some (.bool false),some (.bool false),some (.pointer (some ⟨wb,0,none⟩)),some (.pointer (some ⟨wb,0,none⟩)),some (.pointer (some ⟨wb,0,none⟩)),some (.pointer (some ⟨ab,0,none⟩)),some (.int .i64 ya),some (.pointer (some ⟨rb,0,none⟩)),some (.pointer (some ⟨rb,0,none⟩)),some (.pointer (some ⟨rb,0,none⟩)),some (.int .i64 ya),some (.bool false),some (.bool false),some (.bool false),some (.pointer (some ⟨wb,0,none⟩)),some (.int .i64 tB),some (.int .i64 tB)]:List (Option Value))[i]?).getD none
def Nk (cs:List Cg) (wb ab rb:Nat) (ya tB:Int) (i:Nat) (v:Value) (x:World):Prop:=(∀u,Sd wb ab rb ya tB i=some u->v=u)/\(i=6->∃(a':Option Addr) (c':Nat),v=.slice a' cs.length c'/\ft x a' cs)
theorem Nk.mono (cs:List Cg) (wb ab rb:Nat) (ya tB:Int):rI (Nk cs wb ab rb ya tB):=fun i v x x' h g=>⟨h.1,fun e=>by
 obtain ⟨a,c,e1,e2⟩:=h.2 e
 exact ⟨a,c,e1,e2.ag g⟩⟩
theorem y6d (E:Nat->Addr) (lo hi:ByteArray) (hlo:lo.size<=9223372036854775807) (hhi:hi.size<=9223372036854775807) (a:Option Addr) (cap:Nat) (xs:List Ac) (w:World) (hE:aY kd E w) (hA:mX w a xs) (hxl:xs.length<=9223372036854775807) (hk:∀j,j<xs.length->Gq (cV xs j)):
    Calls Tryz.prog 3 #[.agg #[.string lo,.string hi],.slice a xs.length cap] w fun e w'=>e=.returned (.bool true)/\ae w w':=by
 have Xt:aY jC E w:=hE.less fun k hk=>by
  simp only [jC,jK,Bool.or_eq_true,decide_eq_true_eq] at hk
  simp only [kd,Bool.and_eq_true,decide_eq_true_eq]
  omega
 have HE:=af hE
 have pD:=af Xt
 have HA:=af hA
 have HK:=af hk
 clear hE hA hk Xt
 go_in
 go_wp2_with fail
 obtain ⟨Y,hY⟩:∃Y,Y=w.alloc (.cells #[.string lo,.string hi] 23):=⟨_,rfl⟩
 have gY:ae w Y:=by rw [hY];exact (ae.rf w).alloc _
 obtain ⟨sb,ia⟩:∃sb,sb=w.heap.size:=⟨_,rfl⟩
 have x0:Y.cell? ⟨sb,0,none⟩=some (.string lo):=by rw [hY,ia];simp [go_sem]
 have x1:Y.cell? ⟨sb,1,none⟩=some (.string hi):=by rw [hY,ia];simp [go_sem]
 rw [<-hY,<-ia]
 clear hY ia
 have Cf:=aN x0
 refine (Av E _ (pD.out.ag gY)).mono ?_
 rintro r w1 ⟨rfl,aA⟩
 have x0:=(aA.cells.1 _ _ Cf).trans x0
 have x1:=(aA.cells.1 _ _ Cf).trans x1
 have bI:=af (gY.trans aA)
 have hs1:=ltT Cf aA.size
 clear aA gY Cf
 have HL:=af (z1Y a cap xs lo hi hlo hhi w1 (HA.out.ag bI.out) hxl HK.out)
 go_wp2_with fail
 refine HL.out.mono ?_
 rintro r w2 ⟨rfl,aB⟩
 have x0:=(aB.cells.1 _ _ hs1).trans x0
 have x1:=(aB.cells.1 _ _ hs1).trans x1
 have HG2:=af (bI.out.trans aB)
 have hs2:=ltT hs1 aB.size
 clear aB bI hs1 HL
 cases Cl:tN lo hi xs with
 | true=>
  go_wp2_with fail
  go_ret
  exact ⟨rfl,HG2.out⟩
 | false=>
  obtain ⟨j0E,Sg,Si,hshort⟩:=y9u Cl
  have HSH:=af hshort
  clear Cl hshort
  have yA:=af (fun X=>jJ lo hi X (by omega) (by omega))
  rw [Pl.vA] at yA
  cases hright:Pl.bf lo hi with
  | false=>
   rw [hright] at yA
   go_wp2_with fail
   refine (xd E (pD.out.ag HG2.out) lo hi (by omega) (by omega) hright).mono ?_
   rintro r w3 ⟨rfl,hg3⟩
   have x0:=(hg3.cells.1 _ _ hs2).trans x0
   have x1:=(hg3.cells.1 _ _ hs2).trans x1
   have ey:=af (HG2.out.trans hg3)
   clear hg3 hright
   have KI:=af (fun X (g:ae w X)=>Xq E 4 (by omega) X (HE.out.ag g))
   generalize aX E 4=ev at *
   go_wp2_with fail
   refine (yA.out _).mono ?_
   rintro r w4 ⟨rfl,hg4⟩
   have kG:=af (ey.out.trans hg4)
   clear hg4 x0 x1
   go_wp2_with fail
   refine (KI.out _ kG.out).mono ?_
   rintro r w5 ⟨rfl,mN⟩
   have tI:=af (kG.out.trans mN)
   clear mN
   go_wp2_with fail
   go_ret
   exact ⟨rfl,tI.out⟩
  | true=>
   rw [hright] at yA
   go_wp2_with fail
   refine (VV E (pD.out.ag HG2.out) lo hi (by omega) (by omega) hright).mono ?_
   rintro r w3 ⟨wb,ab,rfl,hg3,hW1,qu⟩
   have x0:=(hg3.cells.1 _ _ hs2).trans x0
   have x1:=(hg3.cells.1 _ _ hs2).trans x1
   have ey:=af hg3
   have bl:=af hW1
   have Xu:=af qu
   have hs3:=ltT hs2 hg3.size
   clear hg3 hW1 qu hright
   go_wp2_with fail
   refine (yA.out _).mono ?_
   rintro r w4 ⟨rfl,hg4⟩
   have x0:=(hg4.cells.1 _ _ hs3).trans x0
   have x1:=(hg4.cells.1 _ _ hs3).trans x1
   have kG:=af hg4
   have hs4:=ltT hs3 hg4.size
   clear hg4 yA
   go_wp2_with fail
   refine (z4G _).mono ?_
   rintro r w5 ⟨rb,rfl,hN⟩
   have HP0:Hid (Xr w2 w5 wb ab rb lo hi 0 bc.init 0):=by
    obtain ⟨n1,n2,n3⟩:=hN
    obtain ⟨La,a1,a2,a3,a4⟩:=Xu.out 1 (fun _=>0)
    obtain ⟨Lb,b1,b2,b3⟩:=n3 201 La
    have l1:=aN bl.out.c0
    have z3:=ey.out.size
    have z4:=kG.out.size
    have KJ:=kG.out.trans n2
    have l4:wb<w4.heap.size:=ltT l1 z4
    refine ⟨⟨_,_,(ey.out.trans KJ),bl.out.ag KJ,⟨Lb,fun j hj=>(b1 j (by omega)).trans (a1 j hj),(b1 _ l4).trans a3,(a4.ag kG.out).kept (n2.only fun _=>False) (fun _ _ h=>h.elim) b1,b3,.inl rfl⟩,Qi,Qi,Pl.z3k⟩,by omega,by omega⟩
   have hxs:w5.cell? ⟨sb,0,none⟩=some (.string lo)/\w5.cell? ⟨sb,1,none⟩=some (.string hi):=⟨(hN.2.1.cells.1 _ _ hs4).trans x0,(hN.2.1.cells.1 _ _ hs4).trans x1⟩
   have MA:=af (show w2.cell? ⟨sb,0,none⟩=some (.string lo)/\w2.cell? ⟨sb,1,none⟩=some (.string hi) from by
    have e0:=(kG.out.cells.1 sb 0 hs3)
    have e1:=(kG.out.cells.1 sb 1 hs3)
    have d0:=(ey.out.cells.1 sb 0 hs2)
    have d1:=(ey.out.cells.1 sb 1 hs2)
    exact ⟨(d0.symm.trans e0.symm).trans x0,(d1.symm.trans e1.symm).trans x1⟩)
   clear ey bl Xu kG hN x0 x1 hs3 hs4 hxs
   have Sj:=af (pD.out.ag HG2.out)
   have HE2:=af (HE.out.ag HG2.out)
   go_wp2_with fail
   go_loopw [8,44] (fun mv iv wr=>∃(k:Nat) (t:Int),k<=xs.length/\iv=.int .i64 k/\mv=.int .i64 t/\Hid (Xr w2 wr wb ab rb lo hi k (jE (xs.take k)) t)) (fun _ iv _=>xs.length - (intOf iv).toNat)
   case atStart=>exact ⟨0,0,Nat.zero_le _,rfl,rfl,HP0⟩
   case round=>
    obtain ⟨k,t,hk1,rfl,rfl,HP⟩:=hrel
    obtain ⟨wo,rfl⟩:∃wo:World,wo=wr:=⟨_,rfl⟩
    obtain ⟨⟨fa,D,hP⟩,ht0,ht1⟩:=HP.out
    have Sk:=af hP
    clear HP hP
    by_cases aq:k<xs.length
    · rcases HA.out.row with h0 | ⟨b,off,rfl,hb,hR⟩
      · rw [h0] at aq;simp at aq
      have kI:=HG2.out.trans Sk.out.ag
      obtain ⟨q0,q1,q2,q3,q4,q5,q6,q7,q8,q9,Aw,gH,o6⟩:=Wa (W:=wo) (b:=b) (off:=off+k*13) (a:=cV xs k) (fun i v hv=>(kI.cells.1 _ _ hb).trans (hR k aq i v hv))
      obtain ⟨Sl,pQ,Xv,Xw⟩:=AR ((HA.out.ops k aq).ag HG2.out) (HSH.out k aq)
      have Xx:=af (z2F xs k aq)
      have nS:=af (fun U (g:ae wo U)=>Sk.out.go1 E Sj.out g (by omega) (by omega) (cV xs k).e Sl pQ Xv (cV xs k).at' ht0 (by omega) (by omega) (by omega))
      have dt:=af (fun (V:World) (B:bc) (n1 m1:Nat) (u1:Int) (a':Option Addr) (ys:List Cg) (hV:j5 w2 V wb ab rb lo hi n1 k m1 k B (jE (xs.take k)) fa D u1 a' ys)=>hV.KH (ae.rf V) (by omega) (by omega) (cV xs k).e Sl Xw (cV xs k).at' Sg Si)
      have Cc:=af (Pl.pq (jE (xs.take k)) (cV xs k).e (cV xs k).at')
      have j0F:k<=60:=by omega
      clear kI hR Sl pQ Xv Xw
      rw [<-Xx.out] at nS dt
      clear Xx
      generalize FI:jE (xs.take (k+1))=PB at *
      have HPB:=af FI
      clear FI
      generalize (Pl.bF (jE (xs.take k)) (cV xs k).e (cV xs k).at').1=cd at *
      generalize jE (xs.take k)=PA at *
      generalize pj fa PA (cV xs k).e (cV xs k).at'=RU at *
      generalize mn PA D (cV xs k).e (cV xs k).at'=D2 at *
      generalize Pl.gG lo hi (cV xs k).e=QW at *
      generalize cV xs k=A at *
      obtain ⟨⟨yc,qE,qF,nJ,nK,Fj,Fl,ye,yf,qG,Fm,yg,yh,qH,qI,qJ⟩,Sm⟩:=A
      unfold En.agg En.vals at nS dt
      dsimp only at *
      go_wp2_with fail
      obtain ⟨Z,hZ⟩:∃Z,Z=wo.alloc (.cells #[.int .i64 yc,.int .i64 qE,.int .i64 qF,.int .i64 nJ,.int .i64 nK,.int .i64 Fj,.slice yg Fm.length yh,.string Fl,.int .i64 ye,.int .i64 yf,.int .i64 qG,.slice qH qI qJ,.int .i64 Sm] 41):=⟨_,rfl⟩
      have gZ:ae wo Z:=by rw [hZ];exact (ae.rf wo).alloc _
      have hzb:Z.heap[wo.heap.size]? =some (.cells #[.int .i64 yc,.int .i64 qE,.int .i64 qF,.int .i64 nJ,.int .i64 nK,.int .i64 Fj,.slice yg Fm.length yh,.string Fl,.int .i64 ye,.int .i64 yf,.int .i64 qG,.slice qH qI qJ,.int .i64 Sm] 41 (0,0)):=by rw [hZ];exact heap_alloc_new wo _
      rw [<-hZ]
      clear hZ q0 q1 q2 q3 q4 q5 q6 q7 q8 q9 Aw gH o6
      refine (nS.out Z gZ).mono ?_
      rintro r w6 ⟨px,a1,c1,cs,rfl,KL,hcl,hcase⟩
      have hzb:=(px _ (zZ3 _) (zZ2.1 hzb).1).trans hzb
      have rJ:∀(i:Nat) v,(#[.int .i64 yc,.int .i64 qE,.int .i64 qF,.int .i64 nJ,.int .i64 nK,.int .i64 Fj,.slice yg Fm.length yh,.string Fl,.int .i64 ye,.int .i64 yf,.int .i64 qG,.slice qH qI qJ,.int .i64 Sm]:Array Value)[i]? =some v->w6.cell? ⟨wo.heap.size,i,none⟩=some v:=fun i v hv=>by rw [cell_of_row _ _ i _ _ _ hzb];simpa using hv
      have d0:=rJ 0 _ rfl
      have d1:=rJ 1 _ rfl
      have d2:=rJ 2 _ rfl
      have d3:=rJ 3 _ rfl
      have d4:=rJ 4 _ rfl
      have d5:=rJ 5 _ rfl
      have d6:=rJ 6 _ rfl
      have d7:=rJ 7 _ rfl
      have d8:=rJ 8 _ rfl
      have d9:=rJ 9 _ rfl
      have d10:=rJ 10 _ rfl
      have d11:=rJ 11 _ rfl
      have d12:=rJ 12 _ rfl
      have y0:=(KL.ag.cells.1 _ _ hs2).trans MA.out.1
      have y1:=(KL.ag.cells.1 _ _ hs2).trans MA.out.2
      have hs6:=ltT hs2 KL.ag.size
      have lT:=af hcase
      have dt:=af (dt.out _ _ _ _ _ _ _ KL)
      have KI:=af (fun X (g:ae w2 X)=>Xq E cd Cc.out X (HE2.out.ag g))
      generalize aX E cd=ev at *
      clear rJ hzb px nS gZ hcase KL
      go_wp2_with fail
      refine dt.out.mono ?_
      rintro r w7 ⟨a2,c2,xU,rfl,hC2,EB,yQ,qK⟩
      have Sn:xU=cs:=by
       rcases lT.out with ⟨h1,h2⟩ | ⟨h1,ks,h2,h3⟩
       · rcases qK with ⟨_,h4⟩ | ⟨h4,_⟩
         · rw [h2,h4]
         · exact absurd h4 h1
       · rcases qK with ⟨h4,_⟩ | ⟨_,h4⟩
         · exact absurd h1 h4
         · rw [h3,h4 ks h2]
      subst Sn
      have fX:=af hC2
      have pC:=af EB
      have DR:=af yQ
      clear hC2 EB yQ qK lT dt d0 d1 d2 d3 d4 d5 d6 d7 d8 d9 d10 d11 d12 y0 y1 hs6
      have ht3:t<=480:=by omega
      have Rb:(xU.length:Int)<=8:=by omega
      go_upto_region 18 with fail
      have c15:=pC.out.c1.c0
      have c20:=pC.out.ya
      have KM:=aN c15
      have KN:=aN c20
      have HOF:=af (fun X (g:ae w7 X)=>xc a1 c1 xU X (pC.out.row.ag g) (by omega))
      have HSC:=af (fun X (g:ae w7 X) (a':Option Addr) (c':Nat) (h:ft X a' xU)=>z2B X a' a2 c' c2 xU h (fX.out.ag g) (by omega))
      have Sq:=af (fun X (g:ae w7 X)=>pC.out.at1 g)
      have Sr:=af (fun X (g:ae w7 X)=>VW (pC.out.c1.ag g))
      have KI:=af (fun X (g:ae w7 X)=>KI.out X (DR.out.trans g))
      have FW:=af (show 0<=t+(xU.length:Int)/\t+(xU.length:Int)<=8*((k+1:Nat):Int) from ⟨by omega,by omega⟩)
      generalize t+(xU.length:Int)=tB at *
      generalize PB.at_=ya at *
      have mC:=af (Nk.mono xU wb ab rb ya tB)
      refine kW 27 [6,8,9,10,11,12,13,14,15,16,17,18,19,20,21,22,23,24,25,26] (ae w7) ae (JQ (Nk xU wb ab rb ya tB) w7) (fun f a=>(((((((((((((((((((a.put (some 77) (f 6)).put (some 79) (f 8)).put (some 80) (f 9)).put (some 81) (f 10)).put (some 82) (f 11)).put (some 83) (f 12)).put (some 84) (f 13)).put (some 85) (f 14)).put (some 86) (f 15)).put (some 87) (f 16)).put (some 88) (f 17)).put (some 89) (f 18)).put (some 90) (f 19)).put (some 91) (f 20)).put (some 92) (f 21)).put (some 93) (f 22)).put (some 94) (f 23)).put (some 95) (f 24)).put (some 96) (f 25)).put (some 97) (f 26)) (by kernel_rfl) (by kernel_rfl) (fun _ _=>rfl) (JQ.start _ _ _) (fun _ _ _ h=>h.ag) ae.rf (fun _ _ _ _ h g=>h.more mC.out g) ?_
      repeat (first
       | refine kV ?_
       | (refine fF ?_;intro K hK;go_big_quiet_op;go_big_quiet_on)
       | (refine zq (fun _=>by kernel_rfl) (fun u hu=>KI.out u hu) ?_;simp only [Act.put,sA,sB,sC])
       | (refine fE ?_;simp only [Act.put,sA,sB,sC]))
      refine iH (by rfl) ⟨⟨mM rfl (fun _ a=>a) (fun _ _=>rfl) ?_,mM rfl (fun f a=>a.put (some 77) (f 6)) (fun _ _=>rfl) ?_,mM rfl (fun f a=>a.put (some 79) (f 8)) (fun _ _=>rfl) ?_,mM rfl (fun f a=>a.put (some 80) (f 9)) (fun _ _=>rfl) ?_,mM rfl (fun f a=>(a.put (some 79) (f 8)).put (some 81) (f 10)) (fun _ _=>rfl) ?_,mM rfl (fun f a=>a.put (some 82) (f 11)) (fun _ _=>rfl) ?_,mM rfl (fun f a=>(a.put (some 82) (f 11)).put (some 83) (f 12)) (fun _ _=>rfl) ?_,mM rfl (fun f a=>(a.put (some 82) (f 11)).put (some 84) (f 13)) (fun _ _=>rfl) ?_,mM rfl (fun f a=>(a.put (some 82) (f 11)).put (some 85) (f 14)) (fun _ _=>rfl) ?_,mM rfl (fun f a=>(a.put (some 82) (f 11)).put (some 86) (f 15)) (fun _ _=>rfl) ?_,mM rfl (fun f a=>a.put (some 82) (f 11)) (fun _ _=>rfl) ?_,mM rfl (fun f a=>(a.put (some 82) (f 11)).put (some 88) (f 17)) (fun _ _=>rfl) ?_,mM rfl (fun f a=>(a.put (some 82) (f 11)).put (some 89) (f 18)) (fun _ _=>rfl) ?_,mM rfl (fun f a=>(a.put (some 82) (f 11)).put (some 90) (f 19)) (fun _ _=>rfl) ?_,mM rfl (fun f a=>((a.put (some 82) (f 11)).put (some 87) (f 16)).put (some 91) (f 20)) (fun _ _=>rfl) ?_,mM rfl (fun f a=>(a.put (some 82) (f 11)).put (some 92) (f 21)) (fun _ _=>rfl) ?_,mM rfl (fun f a=>(a.put (some 87) (f 16)).put (some 93) (f 22)) (fun _ _=>rfl) ?_,mM rfl (fun f a=>a.put (some 94) (f 23)) (fun _ _=>rfl) ?_,mM rfl (fun f a=>(a.put (some 94) (f 23)).put (some 95) (f 24)) (fun _ _=>rfl) ?_,mM rfl (fun f a=>a.put (some 94) (f 23)) (fun _ _=>rfl) ?_,trivial⟩,?_⟩
      · intro L f x hJ hL hd
        have HJ:=af hJ
        have eo:=af hJ.ag
        clear hJ hL hd
        refine ⟨rfl,?_⟩
        go_simp
        refine (HOF.out x eo.out).mono ?_
        rintro r x' ⟨hg,a',c',rfl,hC⟩
        exact ⟨_,rfl,HJ.out.put mC.out 6 hg ⟨fun u hu=>(by cases hu),fun _=>⟨a',c',rfl,hC⟩⟩⟩
      · intro L f x hJ hL hd
        obtain ⟨a6,c6,e6,P6⟩:=(hJ.at_ 6 (hd 6 rfl (by decide))).2 rfl
        have HP6:=af P6
        have HJ:=af hJ
        have eo:=af hJ.ag
        clear hJ hL hd P6
        rw [e6]
        refine ⟨rfl,?_⟩
        clear e6
        go_simp
        refine (HSC.out x eo.out a6 c6 HP6.out).mono ?_
        rintro r x' ⟨rfl,hg⟩
        exact ⟨_,rfl,HJ.out.put mC.out 8 hg ⟨fun u hu=>by cases hu;rfl,fun e=>absurd e (by decide)⟩⟩
      · intro L f x hJ hL hd
        have q8:=(hJ.at_ 8 (hd 8 rfl (by decide))).1 _ rfl
        have HJ:=af hJ
        have eo:=af hJ.ag
        clear hJ hL hd
        rw [q8]
        refine ⟨rfl,?_⟩
        clear q8
        go_simp
        exact HJ.out.same mC.out 9 ⟨fun u hu=>by cases hu;rfl,fun e=>absurd e (by decide)⟩
      · intro L f x hJ hL hd
        have q9:=(hJ.at_ 9 (hd 9 rfl (by decide))).1 _ rfl
        have HJ:=af hJ
        have eo:=af hJ.ag
        clear hJ hL hd
        rw [q9]
        refine ⟨rfl,?_⟩
        clear q9
        go_simp
        exact HJ.out.same mC.out 10 ⟨fun u hu=>by cases hu;rfl,fun e=>absurd e (by decide)⟩
      · intro L f x hJ hL hd
        have q8:=(hJ.at_ 8 (hd 8 rfl (by decide))).1 _ rfl
        have Aw:=(hJ.at_ 10 (hd 10 rfl (by decide))).1 _ rfl
        have HJ:=af hJ
        have eo:=af hJ.ag
        clear hJ hL hd
        rw [q8,Aw]
        refine ⟨rfl,?_⟩
        clear q8 Aw
        go_simp
        exact HJ.out.same mC.out 11 ⟨fun u hu=>by cases hu;rfl,fun e=>absurd e (by decide)⟩
      · intro L f x hJ hL hd
        have gH:=(hJ.at_ 11 (hd 11 rfl (by decide))).1 _ rfl
        have HJ:=af hJ
        have eo:=af hJ.ag
        clear hJ hL hd
        rw [gH]
        refine ⟨rfl,?_⟩
        clear gH
        go_simp
        exact HJ.out.same mC.out 12 ⟨fun u hu=>by cases hu;rfl,fun e=>absurd e (by decide)⟩
      · intro L f x hJ hL hd
        have gH:=(hJ.at_ 11 (hd 11 rfl (by decide))).1 _ rfl
        have o6:=(hJ.at_ 12 (hd 12 rfl (by decide))).1 _ rfl
        have HJ:=af hJ
        have eo:=af hJ.ag
        clear hJ hL hd
        rw [gH,o6]
        refine ⟨rfl,?_⟩
        clear gH o6
        go_simp
        exact HJ.out.same mC.out 13 ⟨fun u hu=>by cases hu;rfl,fun e=>absurd e (by decide)⟩
      · intro L f x hJ hL hd
        have gH:=(hJ.at_ 11 (hd 11 rfl (by decide))).1 _ rfl
        have EJ:=(hJ.at_ 13 (hd 13 rfl (by decide))).1 _ rfl
        have HJ:=af hJ
        have eo:=af hJ.ag
        clear hJ hL hd
        rw [gH,EJ]
        refine ⟨rfl,?_⟩
        clear gH EJ
        go_simp
        exact HJ.out.same mC.out 14 ⟨fun u hu=>by cases hu;rfl,fun e=>absurd e (by decide)⟩
      · intro L f x hJ hL hd
        have gH:=(hJ.at_ 11 (hd 11 rfl (by decide))).1 _ rfl
        have BW:=(hJ.at_ 14 (hd 14 rfl (by decide))).1 _ rfl
        have HJ:=af hJ
        have eo:=af hJ.ag
        have d15:=(hJ.ag.cells.1 _ _ KM).trans c15
        have j0G:=ltT KM hJ.ag.size
        clear hJ hL hd
        rw [gH,BW]
        refine ⟨rfl,?_⟩
        clear gH BW
        go_simp
        exact HJ.out.same mC.out 15 ⟨fun u hu=>by cases hu;rfl,fun e=>absurd e (by decide)⟩
      · intro L f x hJ hL hd
        have gH:=(hJ.at_ 11 (hd 11 rfl (by decide))).1 _ rfl
        have CZ:=(hJ.at_ 15 (hd 15 rfl (by decide))).1 _ rfl
        have HJ:=af hJ
        have eo:=af hJ.ag
        clear hJ hL hd
        rw [gH,CZ]
        refine ⟨rfl,?_⟩
        clear gH CZ
        go_simp
        refine (Sq.out x eo.out).mono ?_
        rintro r x' ⟨rfl,hg⟩
        exact ⟨_,rfl,HJ.out.put mC.out 16 hg ⟨fun u hu=>by cases hu;rfl,fun e=>absurd e (by decide)⟩⟩
      · intro L f x hJ hL hd
        have gH:=(hJ.at_ 11 (hd 11 rfl (by decide))).1 _ rfl
        have HJ:=af hJ
        have eo:=af hJ.ag
        clear hJ hL hd
        rw [gH]
        refine ⟨rfl,?_⟩
        clear gH
        go_simp
        exact HJ.out.same mC.out 17 ⟨fun u hu=>by cases hu;rfl,fun e=>absurd e (by decide)⟩
      · intro L f x hJ hL hd
        have gH:=(hJ.at_ 11 (hd 11 rfl (by decide))).1 _ rfl
        have KO:=(hJ.at_ 17 (hd 17 rfl (by decide))).1 _ rfl
        have HJ:=af hJ
        have eo:=af hJ.ag
        clear hJ hL hd
        rw [gH,KO]
        refine ⟨rfl,?_⟩
        clear gH KO
        go_simp
        exact HJ.out.same mC.out 18 ⟨fun u hu=>by cases hu;rfl,fun e=>absurd e (by decide)⟩
      · intro L f x hJ hL hd
        have gH:=(hJ.at_ 11 (hd 11 rfl (by decide))).1 _ rfl
        have KP:=(hJ.at_ 18 (hd 18 rfl (by decide))).1 _ rfl
        have HJ:=af hJ
        have eo:=af hJ.ag
        clear hJ hL hd
        rw [gH,KP]
        refine ⟨rfl,?_⟩
        clear gH KP
        go_simp
        exact HJ.out.same mC.out 19 ⟨fun u hu=>by cases hu;rfl,fun e=>absurd e (by decide)⟩
      · intro L f x hJ hL hd
        have gH:=(hJ.at_ 11 (hd 11 rfl (by decide))).1 _ rfl
        have KQ:=(hJ.at_ 19 (hd 19 rfl (by decide))).1 _ rfl
        have HJ:=af hJ
        have eo:=af hJ.ag
        have d20:=(hJ.ag.cells.1 _ _ KN).trans c20
        have j0H:=ltT KN hJ.ag.size
        clear hJ hL hd
        rw [gH,KQ]
        refine ⟨rfl,?_⟩
        clear gH KQ
        go_simp
        exact HJ.out.same mC.out 20 ⟨fun u hu=>by cases hu;rfl,fun e=>absurd e (by decide)⟩
      · intro L f x hJ hL hd
        have gH:=(hJ.at_ 11 (hd 11 rfl (by decide))).1 _ rfl
        have Cm:=(hJ.at_ 16 (hd 16 rfl (by decide))).1 _ rfl
        have KR:=(hJ.at_ 20 (hd 20 rfl (by decide))).1 _ rfl
        have HJ:=af hJ
        have eo:=af hJ.ag
        clear hJ hL hd
        rw [gH,Cm,KR]
        refine ⟨rfl,?_⟩
        clear gH Cm KR
        go_simp
        exact HJ.out.same mC.out 21 ⟨fun u hu=>by cases hu;rfl,fun e=>absurd e (by decide)⟩
      · intro L f x hJ hL hd
        have gH:=(hJ.at_ 11 (hd 11 rfl (by decide))).1 _ rfl
        have KS:=(hJ.at_ 21 (hd 21 rfl (by decide))).1 _ rfl
        have HJ:=af hJ
        have eo:=af hJ.ag
        clear hJ hL hd
        rw [gH,KS]
        refine ⟨rfl,?_⟩
        clear gH KS
        go_simp
        exact HJ.out.same mC.out 22 ⟨fun u hu=>by cases hu;rfl,fun e=>absurd e (by decide)⟩
      · intro L f x hJ hL hd
        have Cm:=(hJ.at_ 16 (hd 16 rfl (by decide))).1 _ rfl
        have KT:=(hJ.at_ 22 (hd 22 rfl (by decide))).1 _ rfl
        have HJ:=af hJ
        have eo:=af hJ.ag
        clear hJ hL hd
        rw [Cm,KT]
        refine ⟨rfl,?_⟩
        clear Cm KT
        go_simp
        exact HJ.out.same mC.out 23 ⟨fun u hu=>by cases hu;rfl,fun e=>absurd e (by decide)⟩
      · intro L f x hJ hL hd
        have yi:=(hJ.at_ 23 (hd 23 rfl (by decide))).1 _ rfl
        have HJ:=af hJ
        have eo:=af hJ.ag
        clear hJ hL hd
        rw [yi]
        refine ⟨rfl,?_⟩
        clear yi
        go_simp
        exact HJ.out.same mC.out 24 ⟨fun u hu=>by cases hu;rfl,fun e=>absurd e (by decide)⟩
      · intro L f x hJ hL hd
        have yi:=(hJ.at_ 23 (hd 23 rfl (by decide))).1 _ rfl
        have KU:=(hJ.at_ 24 (hd 24 rfl (by decide))).1 _ rfl
        have HJ:=af hJ
        have eo:=af hJ.ag
        clear hJ hL hd
        rw [yi,KU]
        refine ⟨rfl,?_⟩
        clear yi KU
        go_simp
        refine (Sr.out x eo.out).mono ?_
        rintro r x' ⟨rfl,hg⟩
        exact ⟨_,rfl,HJ.out.put mC.out 25 hg ⟨fun u hu=>by cases hu;rfl,fun e=>absurd e (by decide)⟩⟩
      · intro L f x hJ hL hd
        have yi:=(hJ.at_ 23 (hd 23 rfl (by decide))).1 _ rfl
        have HJ:=af hJ
        have eo:=af hJ.ag
        clear hJ hL hd
        rw [yi]
        refine ⟨rfl,?_⟩
        clear yi
        go_simp
        exact HJ.out.same mC.out 26 ⟨fun u hu=>by cases hu;rfl,fun e=>absurd e (by decide)⟩
      intro f x hJ
      have q8:=(hJ.at_ 8 rfl).1 _ rfl
      have q9:=(hJ.at_ 9 rfl).1 _ rfl
      have Aw:=(hJ.at_ 10 rfl).1 _ rfl
      have gH:=(hJ.at_ 11 rfl).1 _ rfl
      have o6:=(hJ.at_ 12 rfl).1 _ rfl
      have EJ:=(hJ.at_ 13 rfl).1 _ rfl
      have BW:=(hJ.at_ 14 rfl).1 _ rfl
      have CZ:=(hJ.at_ 15 rfl).1 _ rfl
      have Cm:=(hJ.at_ 16 rfl).1 _ rfl
      have KO:=(hJ.at_ 17 rfl).1 _ rfl
      have KP:=(hJ.at_ 18 rfl).1 _ rfl
      have KQ:=(hJ.at_ 19 rfl).1 _ rfl
      have KR:=(hJ.at_ 20 rfl).1 _ rfl
      have KS:=(hJ.at_ 21 rfl).1 _ rfl
      have KT:=(hJ.at_ 22 rfl).1 _ rfl
      have yi:=(hJ.at_ 23 rfl).1 _ rfl
      have KU:=(hJ.at_ 24 rfl).1 _ rfl
      have Xy:=(hJ.at_ 25 rfl).1 _ rfl
      have Xz:=(hJ.at_ 26 rfl).1 _ rfl
      have eo:=af hJ.ag
      clear hJ
      dsimp only [List.drop]
      simp only [Act.put,sA,sC,sB]
      rw [q8,q9,Aw,gH,o6,EJ,BW,CZ,Cm,KO,KP,KQ,KR,KS,KT,yi,KU,Xy,Xz]
      clear q8 q9 Aw gH o6 EJ BW CZ Cm KO KP KQ KR KS KT yi KU Xy Xz
      go_wp2_with fail
      go_roundw
      case rel=>
       refine ⟨k+1,tB,by omega,by go_num,by first | rfl | go_num,⟨⟨RU,D2,?_⟩,FW.out.1,FW.out.2⟩⟩
       rw [HPB.out,show 1+5*(k+1)=1+5*k+5 from by omega]
       exact (pC.out.less none).more eo.out
      case measure=>simp [intOf];omega
    · obtain rfl:k=xs.length:=by omega
      go_wp2_with fail
      go_ret
      exact ⟨rfl,HG2.out.trans Sk.out.ag⟩
end
end Go.Proofs.YtbnofojapimfcaaGreatDoor
