/- Part 26 of the proof. -/
import Derived.Test.YtbnofojapimfcaaGreatDoorFinWatchStepsQ25
set_option linter.unusedVariables false
set_option linter.unusedSectionVars false
set_option linter.unusedSimpArgs false
set_option maxRecDepth 100000
set_option maxHeartbeats 16000000
namespace Go.Proofs.YtbnofojapimfcaaGreatDoor
section
open Go.RowKit Go.Maps
attribute [local go_sem] Oper.semAt_some aT
def Mo (w:World) (Ft Fs:Nat->Prop) (st n:Nat) (lo hi lo' hi':ByteArray) (P P':List Pr) (S:Int->Option An) (ob:Nat) (w':World):Prop:=
 aj (fun j=>j=st\/Ft j) w w'/\∃jL Go Gs,cY w' jL Fs st n lo hi P S/\cY w' Go Gs ob n lo' hi' P' S/\(∀j,jL j->Ft j\/w.heap.size<=j)/\(∀j,eZ Go Gs ob j->w.heap.size<=j/\¬eZ jL Fs st j)
structure F9 (y:World) (Ft:Nat->Prop) (tb n:Nat) (lo' hi':ByteArray) (P P':List Pr) (S:Int->Option An) (s:Nat) (f:Nat->Value) (u:World):Prop where
 only:aj Ft y u
 s0:s=0->ae y u
 ex:∃(ob cb nb:Nat) (F' Fo Gs:Nat->Prop),(1<=s->f 5=.pointer (some ⟨ob,0,none⟩)/\bo u F' tb P/\bo u Fo ob P'/\(∀j,F' j->Ft j\/y.heap.size<=j)/\(∀j,Fo j->y.heap.size<=j/\¬F' j))/\
  (2<=s->f 11=.pointer (some ⟨cb,0,none⟩)/\jI u Gs cb n S/\(∀j,Gs j->y.heap.size<=j/\¬F' j/\¬Fo j))/\
  (3<=s->f 12=.agg #[.pointer (some ⟨ob,0,none⟩),.string lo',.string hi',.pointer (some ⟨cb,0,none⟩)])/\
  (4<=s->f 13=.pointer (some ⟨nb,0,none⟩)/\y.heap.size<=nb/\¬F' nb/\¬Fo nb/\¬Gs nb/\u.heap[nb]? =some (.cells #[.pointer (some ⟨ob,0,none⟩),.string lo',.string hi',.pointer (some ⟨cb,0,none⟩)] 134 (0,0)))
def UZ (E:Nat->Addr) (w:World) (Ft Fs:Nat->Prop) (st n:Nat) (lo hi key:ByteArray) (P:List Pr) (S:Int->Option An) (c:Nat) (e:Ending) (w':World):Prop:=
 (c≠0/\e=.returned (.tuple #[.pointer none,aX E c])/\ae w w')\/
 (c=0/\∃ob,e=.returned (.tuple #[.pointer (some ⟨ob,0,none⟩),.nilIface])/\Mo w Ft Fs st n lo key key hi (P.take (Pl.bh P key)) (P.drop (Pl.bh P key)) S ob w')
theorem z2Q (S0:Nat->Bool) (E:Nat->Addr) (PU:mG S0) {w:World} (hE:aY S0 E w) {Ft Fs:Nat->Prop} {st n:Nat} {lo hi:ByteArray} {P:List Pr} {S:Int->Option An} (h:cY w Ft Fs st n lo hi P S) (key:ByteArray) (hx:P.length<=1000) (hl:lo.size<=300) (hh:hi.size<=300) (hk:key.size<=300):
    Calls Tryz.prog 99 #[.pointer (some ⟨st,0,none⟩),.string key] w (UZ E w Ft Fs st n lo hi key P S (Pl.cU (Pl.bf lo hi) (Pl.aF key) (Pl.aL lo hi key) lo key)):=by
 have iO:=af (Ta S0 E PU lo hi key w (by omega) (by omega) (by omega) hE)
 unfold UZ
 obtain ⟨tb,sb,h⟩:=h
 have HST:=af h
 have c1:=h.c1
 have c2:=h.c2
 have hst:st<w.heap.size:=aN c1
 clear h hE
 generalize Pl.cU (Pl.bf lo hi) (Pl.aF key) (Pl.aL lo hi key) lo key=c at *
 unfold K9 at iO
 by_cases hc:c=0
 · subst hc
   have e0:aX E 0=.nilIface:=rfl
   have e1:Pl.eJ 0 lo key=(lo,key):=rfl
   have e2:Pl.eJ 0 key hi=(key,hi):=rfl
   rw [e0,e1,e2] at iO
   clear e0 e1 e2
   go_in
   go_wp2_with fail
   refine iO.out.mono ?_
   rintro e w1 ⟨rfl,aA⟩
   have bI:=af aA
   have k1:=(aA.cells.1 _ 1 hst).trans c1
   have k2:=(aA.cells.1 _ 2 hst).trans c2
   have z1:=(aA.cells.2 _ 1 hst).trans (HST.out.f0 1)
   have z2:=(aA.cells.2 _ 2 hst).trans (HST.out.f0 2)
   have lg:=ltT hst aA.size
   clear aA iO c1 c2
   go_upto_region 4 with fail
   obtain ⟨Y,hY⟩:∃Y,Y=(w1.alloc (.cells #[.string lo,.string key] 23)).alloc (.cells #[.string key,.string hi] 23):=⟨_,rfl⟩
   have gY:ae w1 Y:=by rw [hY];exact ((ae.rf w1).alloc _).alloc _
   have a0:Y.cell? ⟨w1.heap.size,0,none⟩=some (.string lo):=by rw [hY];simp [go_sem]
   have a1:Y.cell? ⟨w1.heap.size,1,none⟩=some (.string key):=by rw [hY];simp [go_sem]
   have b0:Y.cell? ⟨w1.heap.size+1,0,none⟩=some (.string key):=by rw [hY];simp [go_sem]
   have b1:Y.cell? ⟨w1.heap.size+1,1,none⟩=some (.string hi):=by rw [hY];simp [go_sem]
   rw [<-hY]
   obtain ⟨x1,hx1⟩:∃x1,x1=w1.heap.size:=⟨_,rfl⟩
   obtain ⟨x2,hx2⟩:∃x2,x2=w1.heap.size+1:=⟨_,rfl⟩
   rw [<-hx2] at b0 b1 ⊢
   rw [<-hx1] at a0 a1 ⊢
   have I4:=af (show w1.heap.size<=x1/\w1.heap.size<=x2 from ⟨by omega,by omega⟩)
   have k1:=(gY.cells.1 _ 1 lg).trans k1
   have k2:=(gY.cells.1 _ 2 lg).trans k2
   have z1:=(gY.cells.2 _ 1 lg).trans z1
   have z2:=(gY.cells.2 _ 2 lg).trans z2
   have cR:=af (bI.out.trans gY)
   have PV:=ltT lg gY.size
   have hl1:=aN a0
   have hl2:=aN b0
   clear hY gY hx1 hx2
   go_upto_region 5 with fail
   obtain ⟨Z,hZ⟩:∃Z,Z=(Y.setCell ⟨st,1,none⟩ (.string lo)).setCell ⟨st,2,none⟩ (.string key):=⟨_,rfl⟩
   have hO:aj (fun j=>j=st) Y Z:=by rw [hZ];exact (aj.setCell Y ⟨st,1,none⟩ _).then (aj.setCell _ ⟨st,2,none⟩ _)
   have d1:Z.cell? ⟨st,1,none⟩=some (.string lo):=by rw [hZ];simp [go_sem,k1]
   have d2:Z.cell? ⟨st,2,none⟩=some (.string key):=by rw [hZ];simp [go_sem,k2]
   have d0:Z.cell? ⟨st,0,none⟩=some (.pointer (some ⟨tb,0,none⟩)):=by
    have q:=(cR.out.cells.1 _ 0 hst).trans HST.out.c0
    rw [hZ];simp [go_sem,q]
   have d3:Z.cell? ⟨st,3,none⟩=some (.pointer (some ⟨sb,0,none⟩)):=by
    have q:=(cR.out.cells.1 _ 3 hst).trans HST.out.c3
    rw [hZ];simp [go_sem,q]
   have dz:=af (fun i=>show Z.frozen? ⟨st,i,none⟩=false from by
    have q:=(cR.out.cells.2 _ i hst).trans (HST.out.f0 i)
    rw [hZ,World.frozen?_setCell,World.frozen?_setCell];exact q)
   have qc:¬x2=st:=by have:=I4.out;omega
   have b0:=(hO.cell hl2 qc 0).trans b0
   have b1:=(hO.cell hl2 qc 1).trans b1
   have Ad:=af (show aj (fun j=>j=st) w Z from (cR.out.only _).then hO)
   have PW:=af (HST.out.tab.kept Ad.out (fun j hj e=>(HST.out.apart j hj).2 e))
   have wu:=af (HST.out.seen.kept Ad.out (fun j hj e=>HST.out.own j hj e))
   have lh:=af (fun j (hj:Ft j)=>(HST.out.apart j hj).1)
   have HD:=af (And.intro d1 (And.intro d2 (And.intro d0 d3)))
   have hZs:=Ad.out.size
   have hn0:¬Ft st:=fun h=>(HST.out.apart st h).2 rfl
   have fW:¬Ft x2:=fun h=>by have:=nP HST.out.tab x2 h;have:=I4.out;have:=bI.out.size;omega
   rw [<-hZ]
   clear hZ hO a0 a1 k1 k2 z1 z2 hl1 hl2 qc
   have lj:=aN d0
   have PX:=aN b0
   have D0:=aV (S:=Ft) d0 hn0
   have D3:=aV (S:=Ft) d3 hn0
   have B0:=aV (S:=Ft) b0 fW
   have B1:=aV (S:=Ft) b1 fW
   have I5:F9 Z Ft tb n key hi (P.take (Pl.bh P key)) (P.drop (Pl.bh P key)) S 0 (fun _=>undef) Z.drew:=⟨((ae.rf Z).drew).only _,fun _=>(ae.rf Z).drew,0,0,0,fun _=>False,fun _=>False,fun _=>False,(fun e=>by omega),(fun e=>by omega),(fun e=>by omega),(fun e=>by omega)⟩
   have I6:=af I5
   clear I5 d0 d1 d2 d3 b0 b1 hn0 fW
   refine kW 14 [5,11,12,13] (aj Ft Z) Eq (JC [5,11,12,13] (F9 Z Ft tb n key hi (P.take (Pl.bh P key)) (P.drop (Pl.bh P key)) S)) (fun f a=>(((a.put (some 31) (f 5)).put (some 37) (f 11)).put (some 38) (f 12)).put (some 39) (f 13)) (by kernel_rfl) (by kernel_rfl) (fun _ _=>rfl) (JC.start I6.out) (fun _ _ _ h=>by obtain ⟨s,_,_,h⟩:=h.ex;exact h.only) (fun _=>rfl) (fun _ _ _ _ h g=>g▸h) ?_
   repeat (first
    | refine kV ?_
    | (refine fF ?_;intro K hK;go_big_quiet_op;go_big_quiet_on)
    | (refine fE ?_;simp only [Act.put,sA,sB,sC]))
   refine iH (by rfl) ⟨⟨bH rfl (fun _ a=>a) (fun _ _=>rfl) (fun _=>rfl) ?_,bH rfl (fun f a=>a.put (some 31) (f 5)) (fun _ _=>rfl) (fun _=>rfl) ?_,bH rfl (fun f a=>(a.put (some 31) (f 5)).put (some 37) (f 11)) (fun _ _=>rfl) (fun _=>rfl) ?_,bH rfl (fun f a=>a.put (some 38) (f 12)) (fun _ _=>rfl) (fun _=>rfl) ?_,trivial⟩,?_⟩
   · intro L f u hJ hL hd
     have hp:∀k,0=k+1->∃i',([5,11,12,13]:List Nat)[k]? =some i'/\L i'=true:=fun k e=>by omega
     have HM:=af (hJ.stage 0 5 rfl hL hp).2
     have dH:=af (fun u' v (h:F9 Z Ft tb n key hi (P.take (Pl.bh P key)) (P.drop (Pl.bh P key)) S 1 (bB f 5 v) u')=>hJ.put (by decide) 0 5 rfl hL hp h)
     clear hJ hL hd hp D0 D3 B0 B1
     go_simp
     have I7:=HM.out.s0 rfl
     refine (vF (PW.out.ag I7) (by omega) key (by omega)).mono ?_
     rintro e u' ⟨ob,rfl,hO,F',Fo,h1,h2,h3,h4⟩
     have yK:=I7.size
     exact ⟨_,rfl,dH.out _ _ ⟨HM.out.only.then hO,(fun e=>by omega),ob,0,0,F',Fo,fun _=>False,(fun _=>⟨fT _ _ _,h1,h2,fun j hj=>(h3 j hj).imp id fun q=>by omega,fun j hj=>⟨by have:=(h4 j hj).1;omega,(h4 j hj).2⟩⟩),(fun e=>by omega),(fun e=>by omega),(fun e=>by omega)⟩⟩
   · intro L f u hJ hL hd
     have hp:∀k,1=k+1->∃i',([5,11,12,13]:List Nat)[k]? =some i'/\L i'=true:=fun k e=>by obtain rfl:k=0:=(by omega);exact ⟨5,rfl,hd 5 rfl (by decide)⟩
     have HM:=af (hJ.stage 1 11 rfl hL hp).2
     have dH:=af (fun u' v (h:F9 Z Ft tb n key hi (P.take (Pl.bh P key)) (P.drop (Pl.bh P key)) S 2 (bB f 11 v) u')=>hJ.put (by decide) 1 11 rfl hL hp h)
     clear hJ hL hd hp D0 D3 B0 B1
     go_simp
     have yK:=HM.out.only.size
     obtain ⟨ob,_,_,F',Fo,_,m1,_⟩:=HM.out.ex
     obtain ⟨q1,q2,q3,q4,q5⟩:=m1 (by omega)
     refine (Ze (wu.out.kept HM.out.only (fun j hj e=>lh.out j e hj))).mono ?_
     rintro e u' ⟨cb,Gs,rfl,h1,h2,hg⟩
     exact ⟨_,rfl,dH.out _ _ ⟨HM.out.only.cm hg,(fun e=>by omega),ob,cb,0,F',Fo,Gs,(fun _=>⟨by rw [gg (by decide)];exact q1,q2.ag hg,q3.ag hg,q4,q5⟩),(fun _=>⟨fT _ _ _,h1,fun j hj=>⟨by have:=h2 j hj;omega,fun e=>by have:=h2 j hj;have:=nP q2 j e;omega,fun e=>by have:=h2 j hj;have:=nP q3 j e;omega⟩⟩),(fun e=>by omega),(fun e=>by omega)⟩⟩
   · intro L f u hJ hL hd
     have hp:∀k,2=k+1->∃i',([5,11,12,13]:List Nat)[k]? =some i'/\L i'=true:=fun k e=>by obtain rfl:k=1:=(by omega);exact ⟨11,rfl,hd 11 rfl (by decide)⟩
     have HM:=af (hJ.stage 2 12 rfl hL hp).2
     have dH:=af (fun u' v (h:F9 Z Ft tb n key hi (P.take (Pl.bh P key)) (P.drop (Pl.bh P key)) S 3 (bB f 12 v) u')=>hJ.put (by decide) 2 12 rfl hL hp h)
     obtain ⟨ob,cb,_,F',Fo,Gs,m1,m2,_⟩:=HM.out.ex
     have q1:=m1 (by omega)
     have q2:=m2 (by omega)
     have HQ:=af (And.intro q1 q2)
     have e5:=q1.1
     have e11:=q2.1
     clear hJ hL hd hp D0 D3 m1 m2 q1 q2
     rw [e5,e11]
     clear e5 e11
     go_simp
     obtain ⟨q1,q2⟩:=HQ.out
     exact dH.out _ _ ⟨HM.out.only,(fun e=>by omega),ob,cb,0,F',Fo,Gs,(fun _=>⟨by rw [gg (by decide)];exact q1.1,q1.2⟩),(fun _=>⟨by rw [gg (by decide)];exact q2.1,q2.2⟩),(fun _=>fT _ _ _),(fun e=>by omega)⟩
   · intro L f u hJ hL hd
     have hp:∀k,3=k+1->∃i',([5,11,12,13]:List Nat)[k]? =some i'/\L i'=true:=fun k e=>by obtain rfl:k=2:=(by omega);exact ⟨12,rfl,hd 12 rfl (by decide)⟩
     have HM:=af (hJ.stage 3 13 rfl hL hp).2
     have dH:=af (fun u' v (h:F9 Z Ft tb n key hi (P.take (Pl.bh P key)) (P.drop (Pl.bh P key)) S 4 (bB f 13 v) u')=>hJ.put (by decide) 3 13 rfl hL hp h)
     obtain ⟨ob,cb,_,F',Fo,Gs,m1,m2,m3,_⟩:=HM.out.ex
     have q1:=m1 (by omega)
     have q2:=m2 (by omega)
     have q3:=m3 (by omega)
     have HQ:=af (And.intro q1 (And.intro q2 q3))
     clear hJ hL hd hp D0 D3 B0 B1 m1 m2 m3 q1 q2
     rw [q3]
     clear q3
     go_simp
     obtain ⟨⟨q1,t1,t2,t3,t4⟩,⟨q2,s1,s2⟩,q3⟩:=HQ.out
     have gA:ae u (u.alloc (.cells #[.pointer (some ⟨ob,0,none⟩),.string key,.string hi,.pointer (some ⟨cb,0,none⟩)] 134)):=(ae.rf u).alloc _
     exact dH.out _ _ ⟨HM.out.only.cm gA,(fun e=>by omega),ob,cb,u.heap.size,F',Fo,Gs,(fun _=>⟨by rw [gg (by decide)];exact q1,t1.ag gA,t2.ag gA,t3,t4⟩),(fun _=>⟨by rw [gg (by decide)];exact q2,s1.ag gA,s2⟩),(fun _=>by rw [gg (by decide)];exact q3),(fun _=>⟨fT _ _ _,HM.out.only.size,fun e=>by have:=nP t1 _ e;omega,fun e=>by have:=nP t2 _ e;omega,fun e=>by have:=s1.lt _ e;omega,heap_alloc_new u _⟩)⟩
   intro f u hJ
   have hM:=hJ.done (by decide)
   obtain ⟨ob,cb,nb,F',Fo,Gs,m1,m2,m3,m4⟩:=hM.ex
   obtain ⟨e5,t1,t2,t3,t4⟩:=m1 (by decide)
   obtain ⟨e11,s1,s2⟩:=m2 (by decide)
   have e12:=m3 (by decide)
   obtain ⟨lQ,n0,n1,n2,n3,hnb⟩:=m4 (by decide)
   have dS:=af (show Mo w Ft Fs st n lo key key hi (P.take (Pl.bh P key)) (P.drop (Pl.bh P key)) S nb u from by
    have Ae:=hM.only
    have hl:=nP HST.out.tab
    have hs:=HST.out.seen.lt
    have ie:¬Ft st:=fun h=>(HST.out.apart st h).2 rfl
    have hcell:∀(i:Nat) v,Z.cell? ⟨st,i,none⟩=some v->u.cell? ⟨st,i,none⟩=some v:=fun i v hv=>(Ae.cell lj ie i).trans hv
    refine ⟨(Ad.out.mono fun j hj=> .inl (.inl hj)).then (Ae.mono fun j hj=> .inl (.inr hj)),F',Fo,Gs,⟨tb,sb,hcell 0 _ HD.out.2.2.1,hcell 1 _ HD.out.1,hcell 2 _ HD.out.2.1,hcell 3 _ HD.out.2.2.2,fun i=>(Ae.frozen lj ie i).trans (dz.out i),t1,wu.out.kept Ae (fun j hj e=>lh.out j e hj),HST.out.good.sub (List.take_sublist _ _),fun j hj=>?_,HST.out.own⟩,⟨ob,cb,?_,?_,?_,?_,fun i=>?_,t2,s1,HST.out.good.sub (List.drop_sublist _ _),fun j hj=>⟨fun e=>(s2 j e).2.2 hj,fun e=>n2 (by rw [<-e];exact hj)⟩,fun j hj e=>n3 (by rw [<-e];exact hj)⟩,fun j hj=>(t3 j hj).imp id fun q=>by omega,fun j hj=>?_⟩
    · rcases t3 j hj with q | q
      · exact HST.out.apart j q
      · exact ⟨fun e=>by have:=hs j e;omega,fun e=>by omega⟩
    · rw [fA hnb];rfl
    · rw [fA hnb];rfl
    · rw [fA hnb];rfl
    · rw [fA hnb];rfl
    · simp [World.frozen?,hnb]
    · have hj':Z.heap.size<=j/\¬F' j:=by
       rcases hj with q | q | rfl
       · exact t4 j q
       · exact ⟨(s2 j q).1,(s2 j q).2.1⟩
       · exact ⟨n0,n1⟩
      refine ⟨by omega,?_⟩
      rintro (q | q | q)
      · exact hj'.2 q
      · have:=hs j q;omega
      · omega)
   clear hJ hM m1 m2 m3 m4 t1 t2 t3 t4 s1 s2 n0 n1 n2 n3 hnb D0 D3 B0 B1 I6
   dsimp only [List.drop]
   simp only [Act.put,sA,sC,sB]
   rw [e5,e11,e12,lQ]
   clear e5 e11 e12 lQ
   go_wp2_with fail
   go_ret2
   exact ⟨nb,rfl,dS.out⟩
 · have I8:=af hc
   have e1:Pl.eJ c lo key=(bO,bO):=by unfold Pl.eJ;rw [zZ0 hc]
   have e2:Pl.eJ c key hi=(bO,bO):=by unfold Pl.eJ;rw [zZ0 hc]
   rw [e1,e2] at iO
   have Mq:Hid (aX E c=.iface 337 (.pointer (some (E c)))):=by
    unfold Hid aX
    rw [zZ0 hc]
   rw [Mq.out] at iO
   clear e1 e2 hc
   go_in
   go_wp2_with fail
   refine iO.out.mono ?_
   rintro e w1 ⟨rfl,aA⟩
   have HG2:=af (show ae w ((w1.alloc (.cells #[.string bO,.string bO] 23)).alloc (.cells #[.string bO,.string bO] 23)) from (aA.alloc _).alloc _)
   clear aA iO
   go_wp2_with fail
   go_ret2
   exact .inl ⟨I8.out,by rw [Mq.out];rfl,HG2.out⟩
namespace Pl
theorem Ah {zs:List Pr} (h:ct zs):jw zs=false:=T6 fun i hi e=>by
 have h1:=zX0.1 (OZ h) i (i+1) (by omega) hi (by omega)
 rw [jt zs i (by omega),jt zs (i+1) hi] at e
 exact h1 e
end Pl
def wQ (w:World) (Ft Fs:Nat->Prop) (st n:Nat) (lo hi:ByteArray) (R:List Pr) (S:Int->Option An) (w':World):Prop:=
 aj (fun j=>eZ Ft Fs st j) w w'/\∃jL n',n'<=n+4/\cY w' jL Fs st n' lo hi R S/\∀j,jL j->Ft j\/w.heap.size<=j
def Vl (E:Nat->Addr) (w:World) (Ft Fs:Nat->Prop) (st n:Nat) (v:ByteArray×ByteArray) (R:List Pr) (S:Int->Option An) (c:Nat) (e:Ending) (w':World):Prop:=
 (c≠0/\e=.returned (aX E c)/\ae w w')\/(c=0/\e=.returned .nilIface/\wQ w Ft Fs st n v.1 v.2 R S w')
theorem z2N (S0:Nat->Bool) (E:Nat->Addr) (PU:mG S0) (DZ:S0 18=true) {w:World} (hE:aY S0 E w) {Ft Fs Gt Gs:Nat->Prop} {st su n m:Nat} {lo hi lo' hi':ByteArray} {P Q R:List Pr} {S T:Int->Option An} (h:cY w Ft Fs st n lo hi P S) (k:cY w Gt Gs su m lo' hi' Q T)
    (hd:∀j,eZ Gt Gs su j->¬eZ Ft Fs st j) (Jj:Pl.aK (Pl.bf lo hi) (Pl.bf lo' hi') lo hi lo' hi'=0->Pl.ct R/\R.Perm (P++Q)) (hx:P.length<=1000) (hy:Q.length<=1000) (hn:n<=100000) (hm:m<=100000) (hl:lo.size<=300) (hh:hi.size<=300) (hl':lo'.size<=300) (hh':hi'.size<=300):
    Calls Tryz.prog 100 #[.pointer (some ⟨st,0,none⟩),.pointer (some ⟨su,0,none⟩)] w (Vl E w Ft Fs st n (Pl.aH (Pl.bf lo hi) (Pl.bf lo' hi') lo hi lo' hi') R (joinL S (js T)) (Pl.aK (Pl.bf lo hi) (Pl.bf lo' hi') lo hi lo' hi')):=by
 have Ed:=af (fun W (g:ae w W)=>NC S0 E PU lo hi lo' hi' W (by omega) (by omega) (by omega) (by omega) (hE.ag g))
 unfold Vl
 obtain ⟨tb,sb,h⟩:=h
 obtain ⟨tc,sc,k⟩:=k
 have HST:=af h
 have Qd:=af k
 have HQ:=af (fun (h0:Pl.aK (Pl.bf lo hi) (Pl.bf lo' hi') lo hi lo' hi'=0)=>show Pl.Good R/\(∀(zs:List Pr) (h1:zs.Perm (P++Q)) (h2:Pl.Mr zs),zs=R)/\Pl.jw R=false from ⟨fun c hc=>by
  rcases List.mem_append.1 ((Jj h0).2.mem_iff.1 hc) with q | q
  · exact h.good c q
  · exact k.good c q,fun zs h1 h2=>Pl.ZH (Jj h0).1 (h1.trans (Jj h0).2.symm) h2,Pl.Ah (Jj h0).1⟩)
 have HTJ:=af (fun W (g:ae w W)=>z3z E DZ (hE.ag g) (h.tab.ag g) (k.tab.ag g) (by omega))
 have HD:=af hd
 have c0:=h.c0
 have c1:=h.c1
 have c2:=h.c2
 have k1:=k.c1
 have k2:=k.c2
 have hst:st<w.heap.size:=aN c1
 have hsu:su<w.heap.size:=aN k1
 clear h k hE hd Jj
 generalize Pl.aH (Pl.bf lo hi) (Pl.bf lo' hi') lo hi lo' hi'=v at *
 generalize Pl.aK (Pl.bf lo hi) (Pl.bf lo' hi') lo hi lo' hi'=c at *
 obtain ⟨vl,vh⟩:=v
 unfold Lg at Ed
 dsimp only at Ed ⊢
 have C1:=aU c1
 have C2:=aU c2
 have K1:=aU k1
 have K2:=aU k2
 have Mq:Hid (c=0/\aX E c=.nilIface\/c≠0/\aX E c=.iface 337 (.pointer (some (E c)))):=by
  unfold Hid aX
  by_cases h:c=0
  · exact .inl ⟨h,zZ1 h⟩
  · exact .inr ⟨h,zZ0 h⟩
 generalize Mw:aX E c=ee at *
 go_in
 go_upto_region 1 with fail
 refine kW 14 [12,13] (ae w) ae (JV [⟨12,13,[.string vl,.string vh]⟩] w) (fun f a=>a.put (some 5) (f 12)) (by kernel_rfl) (by kernel_rfl) (fun _ _=>rfl) (JV.start _ w _) (fun _ _ _ h=>h.ag) ae.rf (fun _ _ _ _ h g=>h.more g) ?_
 repeat (first
  | refine kV ?_
  | (refine fF ?_;intro K hK;go_big_quiet_op;go_big_quiet_on)
  | (refine zq (fun _=>by kernel_rfl) (fun u hu=>Ed.out u hu) ?_;simp only [Act.put,sA,sB,sC])
  | (refine fE ?_;simp only [Act.put,sA,sB,sC]))
 refine iH (by rfl) ⟨⟨bH rfl (fun _ a=>a) (fun _ _=>rfl) (fun _=>rfl) ?_,bH rfl (fun f a=>a.put (some 5) (f 12)) (fun _ _=>rfl) (fun _=>rfl) ?_,trivial⟩,?_⟩
 · intro L f u hJ hL hd
   clear C1 C2 K1 K2 c0 c1 c2 k1 k2
   go_simp
   exact hJ.alloc (by rfl) (V:=⟨12,13,[.string vl,.string vh]⟩) (by simp) hL [.string ⟨#[]⟩,.string ⟨#[]⟩] rfl _
 · intro L f u hJ hL hd
   clear C1 C2 K1 K2 c0 c1 c2 k1 k2
   obtain ⟨m,x,y,hm,k0,k1,f0,f1⟩:=hJ.two (V:=⟨12,13,[.string vl,.string vh]⟩) (by simp) (hd 12 rfl (by decide)) rfl
   dsimp only at hm
   rw [hm]
   go_simp
   exact hJ.store (by rfl) (V:=⟨12,13,[.string vl,.string vh]⟩) (by simp) (hd 12 rfl (by decide)) hm
 intro f u hJ
 obtain ⟨m8,q8,n8,l8,Qe⟩:=hJ.full (V:=⟨12,13,[.string vl,.string vh]⟩) (by simp) rfl
 dsimp only at q8
 have o0:=(Qe 0 _ rfl).1
 have o1:=(Qe 1 _ rfl).1
 have kJ:=af hJ.ag
 clear hJ Qe C1 C2 K1 K2
 dsimp only [List.drop]
 simp only [Act.put,sA,sC,sB]
 rw [q8]
 clear q8
 rcases Mq.out with ⟨rfl,rfl⟩ | ⟨hc,rfl⟩
 · have GU:=af (HQ.out rfl).1
   have Vm:=af (HQ.out rfl).2.1
   have HDP:=af (HQ.out rfl).2.2
   clear HQ
   have d0:=(kJ.out.cells.1 _ 0 hst).trans c0
   have j0:=(kJ.out.cells.1 _ 0 hsu).trans Qd.out.c0
   have j0i:=ltT hst kJ.out.size
   have j0j:=ltT hsu kJ.out.size
   have D0:=aU d0
   have J0:=aU j0
   clear d0 j0 Ed Mw
   go_upto_region 4 with fail
   refine lH 8 (by kernel_rfl) (by kernel_rfl) (fun _ _=>rfl) ?_
   repeat (first
    | (refine fF ?_;intro K hK;go_big_quiet_op;go_big_quiet_on)
    | (refine fE ?_;simp only [Act.put,sA,sB,sC]))
   refine iH (by rfl) ?_
   intro x ju
   have eo:=af (kJ.out.trans ju)
   have o0:=(ju.cells.1 _ 0 l8).trans o0
   have o1:=(ju.cells.1 _ 1 l8).trans o1
   have qU:=ltT l8 ju.size
   have hns:w.heap.size<=m8:=n8
   clear D0 J0 ju l8
   dsimp only [List.drop]
   go_wp2_with fail
   refine (HTJ.out x eo.out).mono ?_
   rintro e w2 ⟨zs,hz1,hz2,⟨hb,_⟩ | ⟨_,rfl,hO,jL,j3,iT⟩⟩
   · have:=Vm.out zs hz1 hz2
     subst this
     rw [HDP.out] at hb;cases hb
   have:=Vm.out zs hz1 hz2
   subst this
   have hnF:∀j,w.heap.size<=j->¬Ft j:=fun j hj hf=>by have:=nP HST.out.tab j hf;omega
   have hxs:=eo.out.size
   have o0:=(hO.cell qU (hnF _ hns) 0).trans o0
   have o1:=(hO.cell qU (hnF _ hns) 1).trans o1
   have ie:¬Ft st:=fun h=>(HST.out.apart st h).2 rfl
   have qi:=ltT hst hxs
   have s0:=(hO.cell qi ie 0).trans ((eo.out.cells.1 _ 0 hst).trans HST.out.c0)
   have s1:=(hO.cell qi ie 1).trans ((eo.out.cells.1 _ 1 hst).trans HST.out.c1)
   have s2:=(hO.cell qi ie 2).trans ((eo.out.cells.1 _ 2 hst).trans HST.out.c2)
   have s3:=(hO.cell qi ie 3).trans ((eo.out.cells.1 _ 3 hst).trans HST.out.c3)
   have BJ:=af (fun i=>(hO.frozen qi ie i).trans ((eo.out.cells.2 _ i hst).trans (HST.out.f0 i)))
   have z1:=BJ.out 1
   have z2:=BJ.out 2
   have j0k:=ltT qi hO.size
   have j0l:=ltT qU hO.size
   have Jk:¬Ft su:=fun h=>HD.out su (.inr (.inr rfl)) (.inl h)
   have r3:=(hO.cell (ltT hsu hxs) Jk 3).trans ((eo.out.cells.1 _ 3 hsu).trans Qd.out.c3)
   have Qf:=ltT hsu (zQ0 hxs hO.size)
   have tA:=af (show aj Ft w w2 from (eo.out.only _).then hO)
   have Qg:=af (HST.out.seen.kept tA.out (fun j hj e=>(HST.out.apart j e).1 hj))
   have Qh:=af (Qd.out.seen.kept tA.out (fun j hj e=>HD.out j (.inr (.inl hj)) (.inl e)))
   have tH:=af (And.intro j3 iT)
   clear hO j3 iT hnF ie Jk qi qU
   go_upto_region 8 with fail
   obtain ⟨Z,hZ⟩:∃Z,Z=(w2.setCell ⟨st,1,none⟩ (.string vl)).setCell ⟨st,2,none⟩ (.string vh):=⟨_,rfl⟩
   have Ee:aj (fun j=>j=st) w2 Z:=by rw [hZ];exact (aj.setCell w2 ⟨st,1,none⟩ _).then (aj.setCell _ ⟨st,2,none⟩ _)
   have d0:Z.cell? ⟨st,0,none⟩=some (.pointer (some ⟨tb,0,none⟩)):=by rw [hZ];simp [go_sem,s0]
   have d1:Z.cell? ⟨st,1,none⟩=some (.string vl):=by rw [hZ];simp [go_sem,s1]
   have d2:Z.cell? ⟨st,2,none⟩=some (.string vh):=by rw [hZ];simp [go_sem,s2]
   have d3:Z.cell? ⟨st,3,none⟩=some (.pointer (some ⟨sb,0,none⟩)):=by rw [hZ];simp [go_sem,s3]
   have Hz:=af (fun i=>show Z.frozen? ⟨st,i,none⟩=false from by rw [hZ,World.frozen?_setCell,World.frozen?_setCell];exact BJ.out i)
   have hne:¬su=st:=fun e=>HD.out su (.inr (.inr rfl)) (.inr (.inr e))
   have r3:=(Ee.cell Qf hne 3).trans r3
   have Jl:=af (Qg.out.kept Ee (fun j hj e=>HST.out.own j hj e))
   have Jm:=af (Qh.out.kept Ee (fun j hj e=>HD.out j (.inr (.inl hj)) (.inr (.inr e))))
   have Vn:=af Ee
   have lj:=aN d0
   have j0m:=aN r3
   rw [<-hZ]
   have D3:=aU d3
   have J3:=aU r3
   clear hZ Ee s0 s1 s2 s3 z1 z2 o0 o1 r3
   refine lH 8 (by kernel_rfl) (by kernel_rfl) (fun _ _=>rfl) ?_
   repeat (first
    | (refine fF ?_;intro K hK;go_big_quiet_op;go_big_quiet_on)
    | (refine fE ?_;simp only [Act.put,sA,sB,sC]))
   refine iH (by rfl) ?_
   intro y Ef
   have cR:=af Ef
   clear D3 J3 Ef
   dsimp only [List.drop]
   go_wp2_with fail
   refine (z4N (Jl.out.ag cR.out) (Jm.out.ag cR.out) (fun j hj e=>HD.out j (.inr (.inl hj)) (.inr (.inl e))) hn (by omega)).mono ?_
   rintro e w3 ⟨rfl,n',hn',mV,Vo⟩
   have dS:=af (show wQ w Ft Fs st n vl vh zs (joinL S (js T)) w3 from by
    have hFs:=HST.out.seen.lt
    have hFt:=nP HST.out.tab
    have iw:aj Fs Z w3:=(cR.out.only _).then mV
    have hnF:¬Fs st:=fun h=>HST.out.own st h rfl
    have j3:∀j,jL j->¬(j=st)/\¬Fs j:=fun j hj=>by
     rcases tH.out.2 j hj with q | q
     · exact ⟨(HST.out.apart j q).2,(HST.out.apart j q).1⟩
     · exact ⟨fun e=>by omega,fun e=>by have:=hFs j e;omega⟩
    refine ⟨((tA.out.mono fun j hj=> .inl (.inl hj)).then (Vn.out.mono fun j (hj:j=st)=> .inl (.inr (.inr hj)))).then (iw.mono fun j hj=> .inl (.inr (.inl hj))),jL,n',hn',⟨tb,sb,⟨(iw.cell lj hnF 0).trans d0,(iw.cell lj hnF 1).trans d1,(iw.cell lj hnF 2).trans d2,(iw.cell lj hnF 3).trans d3,fun i=>(iw.frozen lj hnF i).trans (Hz.out i),(tH.out.1.kept Vn.out fun j hj e=>(j3 j hj).1 e).kept iw fun j hj e=>(j3 j hj).2 e,Vo,GU.out,fun j hj=>⟨(j3 j hj).2,(j3 j hj).1⟩,HST.out.own⟩⟩,fun j hj=>(tH.out.2 j hj).imp id fun q=>by omega⟩)
   clear mV Vo d0 d1 d2 d3
   go_wp2_with fail
   go_ret
   exact ⟨rfl,dS.out⟩
 · have I8:=af hc
   have HF:=af kJ.out
   clear hc Ed
   go_wp2_with fail
   go_ret
   exact .inl ⟨I8.out,rfl,HF.out⟩
end
end Go.Proofs.YtbnofojapimfcaaGreatDoor
