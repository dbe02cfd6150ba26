/- Part 29 of the proof. -/
import Derived.Test.YtbnofojapimfcaaGreatDoorFinWatchStepsQ28
set_option linter.unusedVariables false
set_option linter.unusedSectionVars false
set_option linter.unusedSimpArgs false
set_option maxRecDepth 100000
set_option maxHeartbeats 16000000
namespace Go.Proofs.YtbnofojapimfcaaGreatDoor
section
open Go.RowKit Go.Maps
attribute [local go_sem] Oper.semAt_some aT
theorem z2c {w:World} {rb:Nat} {S:Int->Option An} (h:cF w rb S):
    Calls Tryz.prog 137 #[.pointer (some ⟨rb,0,none⟩)] w fun e w'=>∃cb,e=.returned (.pointer (some ⟨cb,0,none⟩))/\cF w' cb S/\w.heap.size<=cb/\ae w w':=by
 have hok:=h.ok
 have jG:=h.lt
 have mf:=af hok
 have s0:=h.seq 0 (by omega)
 have s1:=h.seq 1 (by omega)
 have s2:=h.seq 2 (by omega)
 have s3:=h.seq 3 (by omega)
 have s4:=h.seq 4 (by omega)
 have k0:=h.code 0 (by omega)
 have k1:=h.code 1 (by omega)
 have k2:=h.code 2 (by omega)
 have k3:=h.code 3 (by omega)
 have k4:=h.code 4 (by omega)
 have t0:=h.at_ 0 (by omega)
 have t1:=h.at_ 1 (by omega)
 have t2:=h.at_ 2 (by omega)
 have t3:=h.at_ 3 (by omega)
 have t4:=h.at_ 4 (by omega)
 clear h hok
 generalize hq0:bT (S ((0:Nat):Int))=q0 at *
 generalize hq1:bT (S ((1:Nat):Int))=q1 at *
 generalize hq2:bT (S ((2:Nat):Int))=q2 at *
 generalize Wc:bT (S ((3:Nat):Int))=q3 at *
 generalize We:bT (S ((4:Nat):Int))=q4 at *
 generalize hc0:fQ (S ((0:Nat):Int))=c0 at *
 generalize hc1:fQ (S ((1:Nat):Int))=c1 at *
 generalize hc2:fQ (S ((2:Nat):Int))=c2 at *
 generalize hc3:fQ (S ((3:Nat):Int))=c3 at *
 generalize hc4:fQ (S ((4:Nat):Int))=c4 at *
 generalize ha0:pS (S ((0:Nat):Int))=a0 at *
 generalize ha1:pS (S ((1:Nat):Int))=a1 at *
 generalize ha2:pS (S ((2:Nat):Int))=a2 at *
 generalize Pm:pS (S ((3:Nat):Int))=a3 at *
 generalize Wh:pS (S ((4:Nat):Int))=a4 at *
 simp only [Nat.reduceMul,Nat.reduceAdd] at k0 k1 k2 k3 k4 t0 t1 t2 t3 t4
 have HEQ:=af (And.intro hq0 (And.intro hq1 (And.intro hq2 (And.intro Wc (And.intro We (And.intro hc0 (And.intro hc1 (And.intro hc2 (And.intro hc3 (And.intro hc4 (And.intro ha0 (And.intro ha1 (And.intro ha2 (And.intro Pm Wh))))))))))))))
 clear hq0 hq1 hq2 Wc We hc0 hc1 hc2 hc3 hc4 ha0 ha1 ha2 Pm Wh
 go_in
 go_wp2_with fail
 go_ret
 obtain ⟨e0,e1,e2,e3,e4,d0,d1,d2,d3,d4,b0,b1,b2,b3,b4⟩:=HEQ.out
 refine ⟨w.heap.size,rfl,⟨fun c hc=>?_,fun c hc=>?_,fun c hc=>?_,fun o ho=>?_,mf.out⟩,zZ3 _,(ae.rf w).alloc _⟩
 · obtain rfl | rfl | rfl | rfl | rfl:c=0\/c=1\/c=2\/c=3\/c=4:=by omega
   · rw [e0,fA (heap_alloc_new w _)];rfl
   · rw [e1,fA (heap_alloc_new w _)];rfl
   · rw [e2,fA (heap_alloc_new w _)];rfl
   · rw [e3,fA (heap_alloc_new w _)];rfl
   · rw [e4,fA (heap_alloc_new w _)];rfl
 · obtain rfl | rfl | rfl | rfl | rfl:c=0\/c=1\/c=2\/c=3\/c=4:=by omega
   · rw [d0,fA (heap_alloc_new w _)];rfl
   · rw [d1,fA (heap_alloc_new w _)];rfl
   · rw [d2,fA (heap_alloc_new w _)];rfl
   · rw [d3,fA (heap_alloc_new w _)];rfl
   · rw [d4,fA (heap_alloc_new w _)];rfl
 · obtain rfl | rfl | rfl | rfl | rfl:c=0\/c=1\/c=2\/c=3\/c=4:=by omega
   · rw [b0,fA (heap_alloc_new w _)];rfl
   · rw [b1,fA (heap_alloc_new w _)];rfl
   · rw [b2,fA (heap_alloc_new w _)];rfl
   · rw [b3,fA (heap_alloc_new w _)];rfl
   · rw [b4,fA (heap_alloc_new w _)];rfl
 · simp [go_sem]
def JZ (w:World) (G:Nat->Prop) (ms sb:Nat) (lo hi lo' hi':ByteArray) (Dl Dh:List Pr) (S:Int->Option An) (ob:Nat) (w':World):Prop:=
 aj (fun j=>j=ms\/G j) w w'/\∃G' Go cb,dY w' G' ms sb lo hi Dl S/\dY w' Go ob cb lo' hi' Dh S/\(∀j,G' j->G j\/w.heap.size<=j)/\∀j,gP Go ob cb j->w.heap.size<=j/\¬gP G' ms sb j
structure Gr (y:World) (G:Nat->Prop) (tb:Nat) (lo' hi':ByteArray) (Dl Dh:List Pr) (S:Int->Option An) (s:Nat) (f:Nat->Value) (u:World):Prop where
 only:aj G y u
 s0:s=0->ae y u
 ex:∃(bb cb nb:Nat) (G' Gb:Nat->Prop),(1<=s->f 6=.pointer (some ⟨bb,0,none⟩)/\cL u Gb bb Dh/\cL u G' tb Dl/\(∀j,G' j->G j\/y.heap.size<=j)/\∀j,Gb j->y.heap.size<=j/\¬G' j)/\
  (2<=s->f 11=.pointer (some ⟨cb,0,none⟩)/\cF u cb S/\y.heap.size<=cb/\¬G' cb/\¬Gb cb)/\
  (3<=s->f 12=.agg #[.string lo',.string hi',.pointer (some ⟨bb,0,none⟩),.pointer (some ⟨cb,0,none⟩)])/\
  (4<=s->f 13=.pointer (some ⟨nb,0,none⟩)/\dY u Gb nb cb lo' hi' Dh S/\y.heap.size<=nb/\¬G' nb)
def Wi (w:World) (G:Nat->Prop) (ms sb:Nat) (lo hi key:ByteArray) (D:List Pr) (S:Int->Option An) (c:Nat) (e:Ending) (w':World):Prop:=
 (c≠0/\e=.returned (.tuple #[.pointer none,.int .i64 (c:Nat)])/\ae w w')\/
 (c=0/\∃ob,e=.returned (.tuple #[.pointer (some ⟨ob,0,none⟩),.int .i64 0])/\JZ w G ms sb lo key key hi (D.filter fun p=>!Pl.fH key p) (D.filter (Pl.fH key)) S ob w')
theorem y9r {w:World} {G:Nat->Prop} {ms sb:Nat} {lo hi:ByteArray} {D:List Pr} {S:Int->Option An} (h:dY w G ms sb lo hi D S) (key:ByteArray) (hx:D.length<=1000) (hl:lo.size<=300) (hh:hi.size<=300) (hk:key.size<=300):
    Calls Tryz.prog 91 #[.pointer (some ⟨ms,0,none⟩),.string key] w (Wi w G ms sb lo hi key D S (Pl.cU (Pl.dV lo hi) (Pl.aF key) (Pl.dX lo hi key) lo key)):=by
 have iO:=af (Wb lo hi key w (by omega) (by omega) (by omega))
 unfold Wi
 obtain ⟨tb,h⟩:=h
 have HST:=af h
 have c0:=h.c0
 have c1:=h.c1
 have hst:ms<w.heap.size:=aN c0
 clear h
 generalize Pl.cU (Pl.dV lo hi) (Pl.aF key) (Pl.dX lo hi key) lo key=c at *
 unfold MP at iO
 by_cases hc:c=0
 · subst hc
   have e1:Pl.eJ 0 lo key=(lo,key):=rfl
   have e2:Pl.eJ 0 key hi=(key,hi):=rfl
   rw [e1,e2] at iO
   clear e1 e2
   generalize hDl:(D.filter fun p=>!Pl.fH key p)=Dl at *
   generalize Wj:D.filter (Pl.fH key)=Dh at *
   have Ea:=af (And.intro hDl Wj)
   clear hDl Wj
   go_in
   go_wp2_with fail
   refine iO.out.mono ?_
   rintro e w1 ⟨rfl,aA⟩
   have bI:=af aA
   have k0:=(aA.cells.1 _ 0 hst).trans c0
   have k1:=(aA.cells.1 _ 1 hst).trans c1
   have z0:=(aA.cells.2 _ 0 hst).trans HST.out.f0
   have z1:=(aA.cells.2 _ 1 hst).trans HST.out.f1
   have lg:=ltT hst aA.size
   clear aA iO c0 c1
   go_upto_region 4 with fail
   obtain ⟨Y,hY⟩:∃Y,Y=(w1.alloc (.cells #[.string lo,.string key] 23)).alloc (.cells #[.string key,.string hi] 23):=⟨_,rfl⟩
   have gY:ae w1 Y:=by rw [hY];exact ((ae.rf w1).alloc _).alloc _
   have a0:Y.cell? ⟨w1.heap.size,0,none⟩=some (.string lo):=by rw [hY];simp [go_sem]
   have a1:Y.cell? ⟨w1.heap.size,1,none⟩=some (.string key):=by rw [hY];simp [go_sem]
   have b0:Y.cell? ⟨w1.heap.size+1,0,none⟩=some (.string key):=by rw [hY];simp [go_sem]
   have b1:Y.cell? ⟨w1.heap.size+1,1,none⟩=some (.string hi):=by rw [hY];simp [go_sem]
   rw [<-hY]
   obtain ⟨x1,hx1⟩:∃x1,x1=w1.heap.size:=⟨_,rfl⟩
   obtain ⟨x2,hx2⟩:∃x2,x2=w1.heap.size+1:=⟨_,rfl⟩
   rw [<-hx2] at b0 b1 ⊢
   rw [<-hx1] at a0 a1 ⊢
   have I4:=af (show w1.heap.size<=x1/\w1.heap.size<=x2 from ⟨by omega,by omega⟩)
   have k0:=(gY.cells.1 _ 0 lg).trans k0
   have k1:=(gY.cells.1 _ 1 lg).trans k1
   have z0:=(gY.cells.2 _ 0 lg).trans z0
   have z1:=(gY.cells.2 _ 1 lg).trans z1
   have cR:=af (bI.out.trans gY)
   have PV:=ltT lg gY.size
   have hl1:=aN a0
   have hl2:=aN b0
   clear hY gY hx1 hx2
   go_upto_region 5 with fail
   obtain ⟨Z,hZ⟩:∃Z,Z=(Y.setCell ⟨ms,0,none⟩ (.string lo)).setCell ⟨ms,1,none⟩ (.string key):=⟨_,rfl⟩
   have hO:aj (fun j=>j=ms) Y Z:=by rw [hZ];exact (aj.setCell Y ⟨ms,0,none⟩ _).then (aj.setCell _ ⟨ms,1,none⟩ _)
   have d0:Z.cell? ⟨ms,0,none⟩=some (.string lo):=by rw [hZ];simp [go_sem,k0]
   have d1:Z.cell? ⟨ms,1,none⟩=some (.string key):=by rw [hZ];simp [go_sem,k1]
   have d2:Z.cell? ⟨ms,2,none⟩=some (.pointer (some ⟨tb,0,none⟩)):=by
    have q:=(cR.out.cells.1 _ 2 hst).trans HST.out.c2
    rw [hZ];simp [go_sem,q]
   have d3:Z.cell? ⟨ms,3,none⟩=some (.pointer (some ⟨sb,0,none⟩)):=by
    have q:=(cR.out.cells.1 _ 3 hst).trans HST.out.c3
    rw [hZ];simp [go_sem,q]
   have J1:Z.frozen? ⟨ms,0,none⟩=false:=by rw [hZ,World.frozen?_setCell,World.frozen?_setCell];exact (cR.out.cells.2 _ 0 hst).trans HST.out.f0
   have J2:Z.frozen? ⟨ms,1,none⟩=false:=by rw [hZ,World.frozen?_setCell,World.frozen?_setCell];exact (cR.out.cells.2 _ 1 hst).trans HST.out.f1
   have J4:Z.frozen? ⟨ms,2,none⟩=false:=by rw [hZ,World.frozen?_setCell,World.frozen?_setCell];exact (cR.out.cells.2 _ 2 hst).trans HST.out.f2
   have Ra:=af (And.intro J1 (And.intro J2 J4))
   have qc:¬x2=ms:=by have:=I4.out;omega
   have b0:=(hO.cell hl2 qc 0).trans b0
   have b1:=(hO.cell hl2 qc 1).trans b1
   have Ad:=af (show aj (fun j=>j=ms) w Z from (cR.out.only _).then hO)
   have PW:=af (HST.out.tab.kept Ad.out (fun j hj e=>(HST.out.apart j hj).1 e))
   have wu:=af (HST.out.seen.kept Ad.out (fun e=>HST.out.ne e.symm))
   have lh:=af (fun (e:G sb)=>(HST.out.apart sb e).2 rfl)
   have HD:=af (And.intro d0 (And.intro d1 (And.intro d2 d3)))
   have hZs:=Ad.out.size
   have hn0:¬G ms:=fun h=>(HST.out.apart ms h).1 rfl
   have fW:¬G x2:=fun h=>by have:=HST.out.tab.lt x2 h;have:=I4.out;have:=bI.out.size;omega
   rw [<-hZ]
   clear hZ hO a0 a1 k0 k1 z0 z1 hl1 hl2 qc J1 J2 J4
   have lj:=aN d0
   have PX:=aN b0
   have D2:=aV (S:=G) d2 hn0
   have D3:=aV (S:=G) d3 hn0
   have B0:=aV (S:=G) b0 fW
   have B1:=aV (S:=G) b1 fW
   have I5:Gr Z G tb key hi Dl Dh S 0 (fun _=>undef) Z.drew:=⟨((ae.rf Z).drew).only _,fun _=>(ae.rf Z).drew,0,0,0,fun _=>False,fun _=>False,(fun e=>by omega),(fun e=>by omega),(fun e=>by omega),(fun e=>by omega)⟩
   have I6:=af I5
   clear I5 d0 d1 d2 d3 b0 b1 hn0 fW
   refine kW 14 [6,11,12,13] (aj G Z) Eq (JC [6,11,12,13] (Gr Z G tb key hi Dl Dh S)) (fun f a=>(((a.put (some 32) (f 6)).put (some 37) (f 11)).put (some 38) (f 12)).put (some 39) (f 13)) (by kernel_rfl) (by kernel_rfl) (fun _ _=>rfl) (JC.start I6.out) (fun _ _ _ h=>by obtain ⟨s,_,_,h⟩:=h.ex;exact h.only) (fun _=>rfl) (fun _ _ _ _ h g=>g▸h) ?_
   repeat (first
    | refine kV ?_
    | (refine fF ?_;intro K hK;go_big_quiet_op;go_big_quiet_on)
    | (refine fE ?_;simp only [Act.put,sA,sB,sC]))
   refine iH (by rfl) ⟨⟨bH rfl (fun _ a=>a) (fun _ _=>rfl) (fun _=>rfl) ?_,bH rfl (fun f a=>a.put (some 32) (f 6)) (fun _ _=>rfl) (fun _=>rfl) ?_,bH rfl (fun f a=>(a.put (some 32) (f 6)).put (some 37) (f 11)) (fun _ _=>rfl) (fun _=>rfl) ?_,bH rfl (fun f a=>a.put (some 38) (f 12)) (fun _ _=>rfl) (fun _=>rfl) ?_,trivial⟩,?_⟩
   · intro L f u hJ hL hd
     have hp:∀k,0=k+1->∃i',([6,11,12,13]:List Nat)[k]? =some i'/\L i'=true:=fun k e=>by omega
     have HM:=af (hJ.stage 0 6 rfl hL hp).2
     have dH:=af (fun u' v (h:Gr Z G tb key hi Dl Dh S 1 (bB f 6 v) u')=>hJ.put (by decide) 0 6 rfl hL hp h)
     clear hJ hL hd hp D2 D3 B0 B1
     go_simp
     have I7:=HM.out.s0 rfl
     refine (Z5 (PW.out.ag I7) (by omega) key (by omega)).mono ?_
     rintro e u' ⟨bb,Gb,G',rfl,hM,hO,h1,h2,h3⟩
     rw [Ea.out.1] at h1
     rw [Ea.out.2] at hM
     have yK:=I7.size
     exact ⟨_,rfl,dH.out _ _ ⟨HM.out.only.then hO,(fun e=>by omega),bb,0,0,G',Gb,(fun _=>⟨fT _ _ _,hM,h1,fun j hj=>(h2 j hj).imp id fun q=>by omega,fun j hj=>⟨by have:=(h3 j hj).1;omega,(h3 j hj).2⟩⟩),(fun e=>by omega),(fun e=>by omega),(fun e=>by omega)⟩⟩
   · intro L f u hJ hL hd
     have hp:∀k,1=k+1->∃i',([6,11,12,13]:List Nat)[k]? =some i'/\L i'=true:=fun k e=>by obtain rfl:k=0:=(by omega);exact ⟨6,rfl,hd 6 rfl (by decide)⟩
     have HM:=af (hJ.stage 1 11 rfl hL hp).2
     have dH:=af (fun u' v (h:Gr Z G tb key hi Dl Dh S 2 (bB f 11 v) u')=>hJ.put (by decide) 1 11 rfl hL hp h)
     clear hJ hL hd hp D2 D3 B0 B1
     go_simp
     obtain ⟨bb,_,_,G',Gb,m1,_⟩:=HM.out.ex
     obtain ⟨q1,q2,q3,q4,q5⟩:=m1 (by omega)
     have yK:=HM.out.only.size
     refine (z2c (wu.out.kept HM.out.only lh.out)).mono ?_
     rintro e u' ⟨cb,rfl,h1,h2,hg⟩
     exact ⟨_,rfl,dH.out _ _ ⟨HM.out.only.cm hg,(fun e=>by omega),bb,cb,0,G',Gb,(fun _=>⟨by rw [gg (by decide)];exact q1,q2.ag hg,q3.ag hg,q4,q5⟩),(fun _=>⟨fT _ _ _,h1,by omega,fun hj=>by have:=q3.lt cb hj;omega,fun hj=>by have:=q2.lt cb hj;omega⟩),(fun e=>by omega),(fun e=>by omega)⟩⟩
   · intro L f u hJ hL hd
     have hp:∀k,2=k+1->∃i',([6,11,12,13]:List Nat)[k]? =some i'/\L i'=true:=fun k e=>by obtain rfl:k=1:=(by omega);exact ⟨11,rfl,hd 11 rfl (by decide)⟩
     have HM:=af (hJ.stage 2 12 rfl hL hp).2
     have dH:=af (fun u' v (h:Gr Z G tb key hi Dl Dh S 3 (bB f 12 v) u')=>hJ.put (by decide) 2 12 rfl hL hp h)
     obtain ⟨bb,cb,_,G',Gb,m1,m2,_⟩:=HM.out.ex
     have q1:=m1 (by omega)
     have q2:=m2 (by omega)
     have HQ:=af (And.intro q1 q2)
     have e6:=q1.1
     have e11:=q2.1
     clear hJ hL hd hp D2 D3 m1 m2 q1 q2
     rw [e6,e11]
     clear e6 e11
     go_simp
     obtain ⟨q1,q2⟩:=HQ.out
     exact dH.out _ _ ⟨HM.out.only,(fun e=>by omega),bb,cb,0,G',Gb,(fun _=>⟨by rw [gg (by decide)];exact q1.1,q1.2⟩),(fun _=>⟨by rw [gg (by decide)];exact q2.1,q2.2⟩),(fun _=>fT _ _ _),(fun e=>by omega)⟩
   · intro L f u hJ hL hd
     have hp:∀k,3=k+1->∃i',([6,11,12,13]:List Nat)[k]? =some i'/\L i'=true:=fun k e=>by obtain rfl:k=2:=(by omega);exact ⟨12,rfl,hd 12 rfl (by decide)⟩
     have HM:=af (hJ.stage 3 13 rfl hL hp).2
     have dH:=af (fun u' v (h:Gr Z G tb key hi Dl Dh S 4 (bB f 13 v) u')=>hJ.put (by decide) 3 13 rfl hL hp h)
     obtain ⟨bb,cb,_,G',Gb,m1,m2,m3,_⟩:=HM.out.ex
     have q1:=m1 (by omega)
     have q2:=m2 (by omega)
     have q3:=m3 (by omega)
     have HQ:=af (And.intro q1 (And.intro q2 q3))
     clear hJ hL hd hp D2 D3 B0 B1 m1 m2 m3 q1 q2
     rw [q3]
     clear q3
     go_simp
     obtain ⟨⟨q1,⟨vb,t1⟩,t2,t3,t4⟩,⟨q2,s1,s2,s3,s4⟩,q3⟩:=HQ.out
     have gA:ae u (u.alloc (.cells #[.string key,.string hi,.pointer (some ⟨bb,0,none⟩),.pointer (some ⟨cb,0,none⟩)] 126)):=(ae.rf u).alloc _
     have yK:=HM.out.only.size
     have hlc:=s1.lt
     exact dH.out _ _ ⟨HM.out.only.cm gA,(fun e=>by omega),bb,cb,u.heap.size,G',Gb,(fun _=>⟨by rw [gg (by decide)];exact q1,cL.ag ⟨vb,t1⟩ gA,t2.ag gA,t3,t4⟩),(fun _=>⟨by rw [gg (by decide)];exact q2,s1.ag gA,s2,s3,s4⟩),(fun _=>by rw [gg (by decide)];exact q3),(fun _=>⟨fT _ _ _,⟨bb,by simp [go_sem],by simp [go_sem],by simp [go_sem],by simp [go_sem],by simp [go_sem],by simp [go_sem],by simp [go_sem],cL.ag ⟨vb,t1⟩ gA,s1.ag gA,by omega,fun j hj=>⟨by have:=t1.lt j hj;omega,fun e=>s4 (e▸hj)⟩⟩,by omega,fun hj=>by have:=t2.lt _ hj;omega⟩)⟩
   intro f u hJ
   have hM:=hJ.done (by decide)
   obtain ⟨bb,cb,nb,G',Gb,m1,m2,m3,m4⟩:=hM.ex
   obtain ⟨e6,t1,t2,t3,t4⟩:=m1 (by decide)
   obtain ⟨e11,s1,s2,s3,s4⟩:=m2 (by decide)
   have e12:=m3 (by decide)
   obtain ⟨lQ,hnb,n1,n2⟩:=m4 (by decide)
   have dS:=af (show JZ w G ms sb lo key key hi Dl Dh S nb u from by
    have Ae:=hM.only
    have ie:¬G ms:=fun h=>(HST.out.apart ms h).1 rfl
    have hcell:∀(i:Nat) v,Z.cell? ⟨ms,i,none⟩=some v->u.cell? ⟨ms,i,none⟩=some v:=fun i v hv=>(Ae.cell lj ie i).trans hv
    have hfz:∀i,Z.frozen? ⟨ms,i,none⟩=false->u.frozen? ⟨ms,i,none⟩=false:=fun i hv=>(Ae.frozen lj ie i).trans hv
    have hsl:=HST.out.seen.lt
    refine ⟨(Ad.out.mono fun j hj=> .inl (.inl hj)).then (Ae.mono fun j hj=> .inl (.inr hj)),G',Gb,cb,⟨tb,hcell 0 _ HD.out.1,hcell 1 _ HD.out.2.1,hcell 2 _ HD.out.2.2.1,hcell 3 _ HD.out.2.2.2,hfz 0 Ra.out.1,hfz 1 Ra.out.2.1,hfz 2 Ra.out.2.2,t2,wu.out.kept Ae lh.out,HST.out.ne,fun j hj=>?_⟩,hnb,fun j hj=>(t3 j hj).imp id fun q=>by omega,fun j hj=>?_⟩
    · rcases t3 j hj with q | q
      · exact HST.out.apart j q
      · exact ⟨fun e=>by omega,fun e=>by omega⟩
    · have h0:Z.heap.size<=j/\¬G' j:=by
       rcases hj with hj | rfl | rfl
       · exact t4 j hj
       · exact ⟨n1,n2⟩
       · exact ⟨s2,s3⟩
      refine ⟨by omega,?_⟩
      rintro (q | q | q)
      · exact h0.2 q
      · omega
      · omega)
   clear hJ hM m1 m2 m3 m4 t1 t2 t3 t4 s1 s2 s3 s4 n1 n2 hnb D2 D3 B0 B1 I6
   dsimp only [List.drop]
   simp only [Act.put,sA,sC,sB]
   rw [e6,e11,e12,lQ]
   clear e6 e11 e12 lQ
   go_wp2_with fail
   go_ret2
   exact ⟨nb,rfl,dS.out⟩
 · have I8:=af hc
   have e1:Pl.eJ c lo key=(bO,bO):=by unfold Pl.eJ;rw [zZ0 hc]
   have e2:Pl.eJ c key hi=(bO,bO):=by unfold Pl.eJ;rw [zZ0 hc]
   rw [e1,e2] at iO
   have Rb:((c:Int)==0)=false:=beq_eq_false_iff_ne.mpr (by omega)
   clear e1 e2 hc
   go_in
   go_wp2_with fail
   refine iO.out.mono ?_
   rintro e w1 ⟨rfl,aA⟩
   have HG2:=af (show ae w ((w1.alloc (.cells #[.string bO,.string bO] 23)).alloc (.cells #[.string bO,.string bO] 23)) from (aA.alloc _).alloc _)
   clear aA iO
   go_wp2_with fail
   go_ret2
   exact .inl ⟨I8.out,rfl,HG2.out⟩
section
variable {P:Program}
theorem WJ {o:Oper} {a:Act} {w:World} {K:Value->World->Prop} (s x:Operand) (t:TypeId)
    (ho:o.op=.call {callee:=.builtin .append,args:=#[s,x],argTypes:=#[t,t]})
    (e:TypeId) (i:TypeInfo) (z:Value) (size bytes:Nat) (ht:P.underlying t=some (.slice e)) (hi:P.info? e=some i) (hz:i.zero=some z)
    (hsize:i.size=size) (hby:i.bytes=bytes) (hzs:z.cells.size=size) (hsz:0<size)
    (B:Nat) (hB:B<=w.heap.size) (v:Value) (n:Nat) (xs:List Value) (hs:a.eval s=v) (aD:w.ownsRow B e size v n xs)
    (b off m c:Nat) (news:List Value) (hx:a.eval x=.slice (some ⟨b,off,none⟩) m c) (hl:news.length=m*size) (hnews:∀j u,news[j]? =some u->w.cell? ⟨b,off+j,none⟩=some u) (h1:∀u∈news,u.oneCell'=true)
    (h63:n+m<=maxLen) (hbytes:(n+m)*bytes<=140737488355328)
    (h:∀a' cap w',w'.ownsRow B e size (.slice a' (n+m) cap) (n+m) (xs++news)->w.grownBy w' v.ownBlock->K (.slice a' (n+m) cap) w'):aT P K ((execOp a.eval o).run P w):=by
 rcases zX9 m with h0 | h0
 · subst h0
   have hn0:news=[]:=zX1 (by omega)
   subst hn0
   have hsrc:Src P i.size t (.slice (some ⟨b,off,none⟩) 0 c) 0 [] w:=Src.ofSlice w ht ⟨b,off,none⟩ 0 c [] (by simp) (fun j u hj=>by simp at hj) (fun u hu=>by cases hu)
   have hb:∃a' cap',v=.slice a' n cap'/\n<=cap':=by
    rcases aD.2 with ⟨rfl,h2⟩ | ⟨b,c,cur,rfl,_,_,h4,_⟩
    · subst h2;exact ⟨_,_,rfl,zZ3 _⟩
    · exact ⟨_,_,rfl,h4⟩
   obtain ⟨a',cap',rfl,hc⟩:=hb
   have hr:=run_append_nothing w t t o.type e i ht hi a' n cap' hc _ hsrc
   unfold execOp
   simp only [ho,resolve,invoke,builtin,Sem.run_bind,Sem.run_pure,Result.andThen_ok,List.map_toArray,zJ8,List.map_nil,hs,hx,hr]
   exact h a' cap' w (by simpa using aD) ⟨rfl,rfl,rfl,zZ3 _,fun _ _ _=>rfl⟩
 · obtain ⟨g,cap,w',hr,h2,h3,h4,h5⟩:=run_append_lies (P:=P) (w:=w) t o.type B e i z size bytes ht hi hz hsize hby hzs hsz v n xs aD ⟨b,off,none⟩ m c news hl (fun j u hj=>by rw [Addr.add_lit];exact hnews j u hj) h1 h0 h63 hbytes hB w.heap.size rfl
   unfold execOp
   simp only [ho,resolve,invoke,builtin,Sem.run_bind,Sem.run_pure,Result.andThen_ok,List.map_toArray,zJ8,List.map_nil,hs,hx,hr]
   exact h _ _ w' h2 h3
end
structure Rt (y:World) (X:List Sh) (n j:Nat) (L:Nat->Bool) (f:Nat->Value) (x:World):Prop where
 a:L 8=true->L 1=true
 b:L 16=true->L 8=true
 g:ae y x
 k1:L 1=true->L 8=false->x.ownsRow y.heap.size 191 5 (f 1) 0 []
 k8:L 8=true->L 16=false->x.ownsRow y.heap.size 191 5 (f 8) (0+j) ([]++(dC X).take (j*5))
 k16:L 16=true->x.ownsRow y.heap.size 191 5 (f 16) (0+j+(n - (j+1))) ([]++(dC X).take (j*5)++(dC X).drop ((j+1)*5))
theorem WL {y x x':World} {e:TypeId} {k:Nat} {v:Value} {n:Nat} {xs:List Value} (g:ae y x) (h:x.ownsRow y.heap.size e k v n xs) (hg:x.grownBy x' v.ownBlock):ae y x':=
 ((g.only (fun j=>some j=v.ownBlock)).then (aj.of_grownBy hg)).ag (fun j hj=>(h.lt j hj.symm).1)
section
variable {w:World} {F:Nat->Prop} {mb:Nat} {s:bj} (h:dU w F mb s) (hk:xt s) (e:En) (hA:bG w e) (hs:jx e)
include h hk hA hs
theorem y8e (at':Int) (iy:Pl.dL s e at'=true) (k3:e.kind=4) (i:Nat) (hi:i<s.xs.length) (hf:Pl.ax s.xs e.ai=(i:Nat)) (j:Nat) (hj:j<s.xs.length) (kF:Pl.ax s.xs e.other=(j:Nat)):
    Calls Tryz.prog 90 #[.pointer (some ⟨mb,0,none⟩),e.agg,.int .i64 at'] w fun r w'=>r=.returned (.bool true)/\lA w F mb ⟨Pl.ja s.xs i j (Pl.aH (Pl.dV (ah s.xs i).lo (ah s.xs i).hi) (Pl.dV (ah s.xs j).lo (ah s.xs j).hi) (ah s.xs i).lo (ah s.xs i).hi (ah s.xs j).lo (ah s.xs j).hi) at',s.us,s.ne+1,s.evs++jf at' e⟩ w':=by
 have HC:=MV h hk e hA hs
 have eY:=af (fun W (g:ae w W)=>Gu (h.ag g) (zQ0 hk.few (by decide)) e.ai)
 have hks:=hs.key
 have fY:=hk.few
 have yK:=hk.us
 have hne:=hk.ne
 have hsz:=hk.sz _ (kE s.xs i hi)
 have EO:=hk.sz _ (kE s.xs j hj)
 have kp:=af (fun W (g:ae w W)=>Gu (h.ag g) (zQ0 hk.few (by decide)) e.other)
 have hap:=iy
 unfold Pl.dL at hap
 simp only [Bool.and_eq_true,decide_eq_true_eq] at hap
 obtain ⟨⟨hc,ha0⟩,ha1⟩:=hap
 have og:¬at'<0:=by omega
 have oh:¬4095<at':=by omega
 have g0:decide (at'<0)=false:=decide_eq_false og
 have g1:decide (4095<at')=false:=decide_eq_false oh
 rw [hc] at HC
 obtain ⟨xs,us,ne,evs⟩:=s
 obtain ⟨vl,vu,ve,h⟩:=h
 dsimp only at *
 obtain ⟨b,cap,rfl,_,hbb⟩:=h.row.form (by omega:0<xs.length)
 have c0:=h.live
 have hb:=h.blt
 have qz:b≠mb:=(h.aJ b rfl).2
 rw [hf] at eY
 rw [kF] at kp
 have NZ:¬((j:Int)<0):=by omega
 have ng:(j:Int)<(xs.length:Int):=by omega
 have ql:=sK h rfl j hj 3 (by omega)
 have qh:=sK h rfl j hj 4 (by omega)
 have pN:¬((i:Int)<0):=by omega
 have tj:(i:Int)<(xs.length:Int):=by omega
 have rl:=sK h rfl i hi 3 (by omega)
 have rh:=sK h rfl i hi 4 (by omega)
 simp only [Sh.vals,zK4,zK5] at rl rh ql qh
 have fX:=af (fun W=>Rc (ah xs i).lo (ah xs i).hi (ah xs j).lo (ah xs j).hi W hsz.1 hsz.2 EO.1 EO.2)
 unfold MQ at fX
 have Hj:=af hj
 have HS:=af h
 have HI:=af hi
 have pR:Hid (∀j,F j->j<w.heap.size):=af h.lt
 have HW:=af (eK.dQ w e 39)
 have HV:=af (LF at' e)
 have hvl:(jf at' e).length=13:=rfl
 have C6:Hid (jf at' e=.int .i64 at'::e.vals):=rfl
 have b2:(e.kind==2)=false:=by rw [k3];rfl
 have b3:(e.kind==3)=false:=by rw [k3];rfl
 have b4:(e.kind==4)=true:=by rw [k3];rfl
 clear iy hc hA hf h hi hk hs k3 hsz EO hj kF
 generalize Pl.aH (Pl.dV (ah xs i).lo (ah xs i).hi) (Pl.dV (ah xs j).lo (ah xs j).hi) (ah xs i).lo (ah xs i).hi (ah xs j).lo (ah xs j).hi=jv at *
 generalize Pl.aK (Pl.dV (ah xs i).lo (ah xs i).hi) (Pl.dV (ah xs j).lo (ah xs j).hi) (ah xs i).lo (ah xs i).hi (ah xs j).lo (ah xs j).hi=jn at *
 obtain ⟨lo,key⟩:=jv
 dsimp only at fX
 generalize (ah xs i).lo=Y1 at *
 generalize (ah xs i).hi=hi' at *
 generalize (ah xs j).lo=pO at *
 generalize (ah xs j).hi=hi2 at *
 unfold En.agg at *
 go_in
 unfold En.vals at HC ⊢
 go_wp2_with fail
 refine (HC.out _ ((ae.rf w).alloc _)).mono ?_
 rintro r w1 ⟨rfl,hg⟩
 have hz:w.heap.size<w1.heap.size:=by have:=hg.size;simp at this;omega
 have HG:=af (((ae.rf w).alloc _).trans hg)
 have bl:=af (HW.out.ag hg (by simp))
 obtain ⟨d0,d1,d2,d3,d4,d5,d6,d7,d8,d9,d10,d11⟩:=bl.out.cells
 clear hg HC
 go_wp2_with fail
 refine (eY.out _ HG.out).mono ?_
 rintro r w2 ⟨rfl,aB⟩
 have HG2:=af (HG.out.trans aB)
 have jg:=af (bl.out.ag aB hz)
 have hz2:w.heap.size<w2.heap.size:=ltT hz aB.size
 clear d0 d1 d2 d3 d4 d5 d6 d7 d8 d9 d10 d11 eY aB
 obtain ⟨d0,d1,d2,d3,d4,d5,d6,d7,d8,d9,d10,d11⟩:=jg.out.cells
 have hb2:mb<w2.heap.size:=ltT hb HG2.out.size
 have Ew:b<w2.heap.size:=ltT hbb HG2.out.size
 go_wp2_with fail
 refine (kp.out _ HG2.out).mono ?_
 rintro r w3 ⟨rfl,hg3⟩
 have ey:=af (HG2.out.trans hg3)
 have jT:=af (jg.out.ag hg3 hz2)
 have hz3:w.heap.size<w3.heap.size:=ltT hz2 hg3.size
 have hb3:mb<w3.heap.size:=ltT hb ey.out.size
 have N7:b<w3.heap.size:=ltT hbb ey.out.size
 clear d0 d1 d2 d3 d4 d5 d6 d7 d8 d9 d10 d11 kp hg3
 obtain ⟨d0,d1,d2,d3,d4,d5,d6,d7,d8,d9,d10,d11⟩:=jT.out.cells
 go_wp2_with fail
 have C0:=aU ((ey.out.cells.1 _ _ hb).trans c0)
 have R3:=aU ((ey.out.cells.1 _ _ hbb).trans rl)
 have R4:=aU ((ey.out.cells.1 _ _ hbb).trans rh)
 have Q3:=aU ((ey.out.cells.1 _ _ hbb).trans ql)
 have Q4:=aU ((ey.out.cells.1 _ _ hbb).trans qh)
 clear d0 d1 d2 d3 d4 d5 d6 d7 d8 d9 d10 d11 rl rh ql qh c0
 -- s, _ := Join(..)
 refine gJ 23 [20,21] (ae w3) ae (JV [⟨20,21,[.string lo,.string key]⟩] w3) (fun f a=>a.put (some 12) (f 20)) (by kernel_rfl) (by kernel_rfl) (fun _ _=>rfl) (JV.start _ w3 _) (fun _ _ _ h=>h.ag) ae.rf (fun _ _ _ _ h g=>h.more g) ?_
 repeat (first
  | refine gy ?_
  | (refine gB ?_;intro K hK;go_big_quiet_op;go_big_quiet_on)
  | (refine pz (fun _=>by kernel_rfl) (fun u hu=>fX.out u) ?_;simp only [Act.put,sA,sB,sC])
  | (refine gz ?_;simp only [Act.put,sA,sB,sC]))
 refine td ⟨⟨bH rfl (fun _ a=>a) (fun _ _=>rfl) (fun _=>rfl) ?_,bH rfl (fun f a=>a.put (some 12) (f 20)) (fun _ _=>rfl) (fun _=>rfl) ?_,trivial⟩,?_⟩
 · intro L f u hJ hL hd
   clear fX C0 R3 R4 Q3 Q4
   go_simp
   exact hJ.alloc (by rfl) (V:=⟨20,21,[.string lo,.string key]⟩) (by simp) hL [.string ⟨#[]⟩,.string ⟨#[]⟩] rfl _
 · intro L f u hJ hL hd
   clear fX C0 R3 R4 Q3 Q4
   obtain ⟨m,x,y,hm,k0,k1,f0,f1⟩:=hJ.two (V:=⟨20,21,[.string lo,.string key]⟩) (by simp) (hd 20 rfl (by decide)) rfl
   dsimp only at hm
   rw [hm]
   go_simp
   exact hJ.store (by rfl) (V:=⟨20,21,[.string lo,.string key]⟩) (by simp) (hd 20 rfl (by decide)) hm
 intro f u hJ
 clear fX C0 R3 R4 Q3 Q4
 obtain ⟨m7,q7,n7,l7,a0,a1,_,_⟩:=(hJ.full (V:=⟨20,21,[.string lo,.string key]⟩) (by simp) rfl).two
 dsimp only at q7
 have ni:=af (ey.out.trans hJ.ag)
 have J6:=af (jT.out.ag hJ.ag hz3)
 have uQ:w.heap.size<u.heap.size:=ltT hz3 hJ.ag.size
 clear hJ
 rw [q7]
 clear q7
 go_wp2_with fail
 -- m.Live[i].Span, m.Live[i].Since = a, at+1
 have eT:=af (HS.out.ag ni.out)
 have EI:mb<u.heap.size:=ltT hb ni.out.size
 have Lx:b<u.heap.size:=ltT hbb ni.out.size
 have uR:b≠m7:=by omega
 have C0:=aV (S:=fun j=>j=b) eT.out.live (Ne.symm qz)
 have A0:=aV (S:=fun j=>j=b) a0 (Ne.symm uR)
 have A1:=aV (S:=fun j=>j=b) a1 (Ne.symm uR)
 have k2:=sK eT.out rfl i HI.out 2 (by omega)
 have k3:=sK eT.out rfl i HI.out 3 (by omega)
 have k4:=sK eT.out rfl i HI.out 4 (by omega)
 simp only [Sh.vals,zK4,zK5] at k2 k3 k4
 have f2:u.frozen? ⟨b,i*5+2,none⟩=false:=eT.out.row.frozenAt _
 have f3:u.frozen? ⟨b,i*5+3,none⟩=false:=eT.out.row.frozenAt _
 have f4:u.frozen? ⟨b,i*5+4,none⟩=false:=eT.out.row.frozenAt _
 have hw1:IntKind.i64.wrap (at'+1)=at'+1:=IntWalk.i64_in _ (by omega)
 refine gJ 16 [15] (aj (fun j=>j=b) u) Eq (fun L _ x=>x=if L 15=true then (u.drew.setCell ⟨b,i*5+3,none⟩ (.string lo)).setCell ⟨b,i*5+4,none⟩ (.string key) else u.drew) (fun _ a=>a) (by kernel_rfl) (by kernel_rfl) (fun _ _=>rfl) rfl ?_ (fun _=>rfl) (fun _ _ _ _ h g=>g▸h) ?_
 · rintro L f x rfl
   split
   · exact ((aj.refl _ u).drew.then (aj.setCell _ ⟨b,i*5+3,none⟩ _)).then (aj.setCell _ ⟨b,i*5+4,none⟩ _)
   · exact (aj.refl _ u).drew
 repeat (first
  | refine gy ?_
  | (refine gB ?_;intro K hK;go_big_quiet_op;go_big_quiet_on)
  | (refine gz ?_;simp only [Act.put,sA,sB,sC]))
 refine jX (by rfl) ⟨⟨bH rfl (fun _ a=>a) (fun _ _=>rfl) (fun _=>rfl) ?_,trivial⟩,?_⟩
 · rintro L f x rfl hL hd
   rw [hL]
   clear C0 A0 A1 eT
   go_simp
 rintro f x hx'
 have hx2:x=(u.drew.setCell ⟨b,i*5+3,none⟩ (.string lo)).setCell ⟨b,i*5+4,none⟩ (.string key):=hx'
 clear hx' A0 A1
 have C1:=C0 ⟨x,by rw [hx2];exact ((aj.refl _ u).drew.then (aj.setCell _ ⟨b,i*5+3,none⟩ _)).then (aj.setCell _ ⟨b,i*5+4,none⟩ _)⟩
 dsimp only at C1
 have K2:x.cell? ⟨b,i*5+2,none⟩=some (.int .i64 (ah xs i).since):=by
  rw [hx2,World.cell?_setCell_other _ _ _ _ (by intro e;injection e with _ e;omega),World.cell?_setCell_other _ _ _ _ (by intro e;injection e with _ e;omega)]
  exact k2
 have F2:x.frozen? ⟨b,i*5+2,none⟩=false:=by
  rw [hx2,World.frozen?_setCell,World.frozen?_setCell];exact f2
 have HX:=af hx2
 clear C0 k2 k3 k4 f2 f3 f4 hx2
 dsimp only [List.drop]
 go_wp2_with fail
 -- m.Live = append(..)
 have HY:Hid (∃y,y=x.setCell ⟨b,i*5+2,none⟩ (.int .i64 (at'+1))/\eG y F mb (.slice (some ⟨b,0,none⟩) xs.length cap) vu ve (xs.set i ⟨(ah xs i).id,(ah xs i).server,at'+1,lo,key⟩) us ne evs/\aj (fun j=>j=b) u y):=by
  refine ⟨_,rfl,?_,?_⟩
  · rw [HX.out]
    exact (eT.out.ag (ae.rf u).drew).uO i HI.out lo key (at'+1)
  · rw [HX.out]
    exact (((aj.refl _ u).drew.then (aj.setCell _ ⟨b,i*5+3,none⟩ _)).then (aj.setCell _ ⟨b,i*5+4,none⟩ _)).then (aj.setCell _ ⟨b,i*5+2,none⟩ _)
 obtain ⟨y,hy,qV,iw⟩:=HY.out
 rw [<-hy]
 have kq:=af qV
 have CX:=af iw
 have mY:w.heap.size≠b:=by omega
 have xu:¬F w.heap.size:=fun h=>Nat.lt_irrefl _ (pR.out _ h)
 have MW:=af (J6.out.only iw uQ mY)
 have uS:w.heap.size<y.heap.size:=ltT uQ iw.size
 have xw:mb<y.heap.size:=ltT EI iw.size
 clear hy HY qV iw HX K2 F2 C1 eT a0 a1 J6
 have hxl:(xs.set i ⟨(ah xs i).id,(ah xs i).server,at'+1,lo,key⟩).length=xs.length:=List.length_set
 have yN:=af hxl
 clear hxl
 have hlen:xs.length<=cap:=by
  have:=kq.out.row
  rw [yN.out] at this
  rcases this.2 with ⟨h1,_⟩ | ⟨_,c',_,h1,_,_,h2,_⟩
  · cases h1
  · cases h1;exact h2
 have hw2:IntKind.i64.wrap ((j:Int)+1)=(j:Int)+1:=IntWalk.i64_in _ (by omega)
 have j0y:(j:Int)<=(xs.length:Int):=by omega
 have WM:(j:Int)+1<=(xs.length:Int):=by omega
 obtain ⟨X,hX⟩:∃X,X=xs.set i ⟨(ah xs i).id,(ah xs i).server,at'+1,lo,key⟩:=⟨_,rfl⟩
 have PL:=af hX
 rw [<-hX] at kq yN
 clear hX
 have fD:=af (fun x (g:ae y x) (m:Nat) (u:Value) (hm:(dC X)[m]? =some u)=>show x.cell? ⟨b,m,none⟩=some u from by
  have h1:=(kq.out.ag g).row
  rw [yN.out] at h1
  have h2:=(zQ9.1 hm).1
  rw [sZ,yN.out] at h2
  exact (h1.cellAt m h2).trans hm)
 have C2:=aU kq.out.live
 obtain ⟨i0,hi0,hz0,hz1,hz3⟩:=info_parts Wx
 refine gJ 17 [1,8,16] (ae y) Eq (Rt y X xs.length j) (fun f a=>((a.put (some 149) (f 1)).put (some 156) (f 8)).put (some 164) (f 16)) (by kernel_rfl) (by kernel_rfl) (fun _ _=>rfl) ⟨fun h=>(by cases h),fun h=>(by cases h),(ae.rf y).drew,fun h=>(by cases h),fun h=>(by cases h),fun h=>(by cases h)⟩ (fun _ _ _ h=>h.g) (fun _=>rfl) (fun _ _ _ _ h g=>g▸h) ?_
 repeat (first
  | refine gy ?_
  | (refine gB ?_;intro K hK;go_big_quiet_op;go_big_quiet_on)
  | (refine gz ?_;simp only [Act.put,sA,sB,sC]))
 refine jX (by rfl) ⟨⟨bH rfl (fun _ a=>a) (fun _ _=>rfl) (fun _=>rfl) ?_,bH rfl (fun f a=>a.put (some 149) (f 1)) (fun _ _=>rfl) (fun _=>rfl) ?_,bH rfl (fun f a=>a.put (some 156) (f 8)) (fun _ _=>rfl) (fun _=>rfl) ?_,trivial⟩,?_⟩
 · rintro L f x ⟨o1,o2,hG,k1,k8,k16⟩ hL hd
   clear C2
   have Gv:L 8=false:=by
    cases h:L 8 with
    | false=>rfl
    | true=>rw [o1 h] at hL;cases hL
   have lX:L 16=false:=by
    cases h:L 16 with
    | false=>rfl
    | true=>rw [o2 h] at Gv;cases Gv
   have HG:=af hG
   have HLS:=af (And.intro Gv lX)
   clear o1 o2 hG k1 k8 k16 hd hL Gv lX
   go_simp
   obtain ⟨Gv,lX⟩:=HLS.out
   refine ⟨fun _=>rfl,fun h=>?_,HG.out.alloc _,fun _ _=>?_,fun h=>?_,fun h=>?_⟩
   · have h':L 16=true:=by simpa [plus] using h
     rw [lX] at h';cases h'
   · rw [fT]
     exact na (cur:=[]) HG.out.size (heap_alloc_new x _) (zZ3 _) (by decide) rfl rfl
   · have h':L 8=true:=by simpa [plus] using h
     rw [Gv] at h';cases h'
   · have h':L 16=true:=by simpa [plus] using h
     rw [lX] at h';cases h'
 · rintro L f x ⟨o1,o2,hG,k1,k8,k16⟩ hL hd
   clear C2
   have h1:=hd 1 rfl (by decide)
   have lX:L 16=false:=by
    cases h:L 16 with
    | false=>rfl
    | true=>rw [o2 h] at hL;cases hL
   have HR:=af (k1 h1 hL)
   have HG:=af hG
   refine WJ _ _ _ rfl 191 i0 _ 5 56 Tryz.underlying182 hi0 hz0 hz1 hz3 Rm (by omega) y.heap.size HG.out.size (f 1) 0 [] rfl HR.out b 0 j cap ((dC X).take (j*5)) rfl ?_ ?_ ?_ (by unfold maxLen;omega) (by omega) ?_
   · rw [List.length_take,sZ,yN.out]
     exact zX4 (Nat.mul_le_mul_right _ (Nat.le_of_lt Hj.out))
   · intro m u hm
     rw [zK0]
     rw [List.getElem?_take] at hm
     split at hm
     · exact fD.out x HG.out m u hm
     · cases hm
   · intro u hu
     exact Le X u (zX6 hu)
   · intro a' cap' w' hD hgr
     have Ru:=WL HG.out HR.out hgr
     refine ⟨fun _=>?_,fun h=>?_,Ru,fun _ h=>?_,fun _ _=>?_,fun h=>?_⟩
     · simpa [plus] using h1
     · have h':L 16=true:=by simpa [plus] using h
       rw [lX] at h';cases h'
     · simp [plus] at h
     · rw [fT];exact hD
     · have h':L 16=true:=by simpa [plus] using h
       rw [lX] at h';cases h'
 · rintro L f x ⟨o1,o2,hG,k1,k8,k16⟩ hL hd
   clear C2
   have h8:=hd 8 rfl (by decide)
   have h1:=o1 h8
   have HR:=af (k8 h8 hL)
   have HG:=af hG
   refine WJ _ _ _ rfl 191 i0 _ 5 56 Tryz.underlying182 hi0 hz0 hz1 hz3 Rm (by omega) y.heap.size HG.out.size (f 8) (0+j) ([]++(dC X).take (j*5)) rfl HR.out b (if cap=j+1 then 0 else (j+1)*5) (xs.length - (j+1)) (cap - (j+1)) ((dC X).drop ((j+1)*5)) ?_ ?_ ?_ ?_ (by unfold maxLen;omega) (by omega) ?_
   · by_cases M4:cap=j+1
     · have hx0:xs.length=j+1:=by omega
       rw [zZ1 M4]
       go_simp
     · rw [zZ0 M4]
       go_simp
   · rw [zQ8,sZ,yN.out]
     omega
   · intro m u hm
     by_cases M4:cap=j+1
     · have h2:=(zQ9.1 hm).1
       rw [zQ8,sZ,yN.out] at h2
       omega
     · rw [zZ0 M4]
       rw [List.getElem?_drop] at hm
       exact fD.out x HG.out _ u hm
   · intro u hu
     exact Le X u (zX7 hu)
   · intro a' cap' w' hD hgr
     have Ru:=WL HG.out HR.out hgr
     refine ⟨fun _=>?_,fun _=>?_,Ru,fun _ h=>?_,fun _ h=>?_,fun _=>?_⟩
     · simpa [plus] using h1
     · simpa [plus] using h8
     · have h':L 8=false:=by simpa [plus] using h
       rw [h8] at h';cases h'
     · simp [plus] at h
     · rw [fT];exact hD
 rintro f x ⟨_,_,hG,_,_,k16⟩
 have r16:=k16 rfl
 clear C2 k16
 obtain ⟨r,hr⟩:∃r,r=f 16:=⟨_,rfl⟩
 rw [<-hr] at r16 ⊢
 clear hr
 obtain ⟨ra,rn,rc,hre⟩:∃ra rn rc,r=.slice ra rn rc:=by
  rcases r16.2 with ⟨e,_⟩ | ⟨g,cp,cur,e,_⟩
  · exact ⟨_,_,_,e⟩
  · exact ⟨_,_,_,e⟩
 subst hre
 generalize f 8=r8
 generalize f 1=r1
 have ho1:aj (fun k=>some k=some b) y x:=hG.only _
 have C3:x.cell? ⟨mb,0,none⟩=some (.slice (some ⟨b,0,none⟩) xs.length cap):=(hG.cells.1 _ _ xw).trans kq.out.live
 have F3:x.frozen? ⟨mb,0,none⟩=false:=(ho1.frozen xw (fun h=>qz (Option.some.inj h).symm) 0).trans (kq.out.fz 0 (by omega))
 have hys:Pl.ja xs i j (lo,key) at'=X.take j++X.drop (j+1):=by rw [PL.out];rfl
 have Kb:(Pl.ja xs i j (lo,key) at').length=0+j+(xs.length - (j+1)):=by
  have h1:=yN.out
  have h2:=Hj.out
  rw [hys,zX8,List.length_take,zQ8,h1,zK0,zX4 (Nat.le_of_lt h2)]
 have HT:=af (kq.out.iu ho1 (r:=.slice ra rn rc) (ys:=Pl.ja xs i j (lo,key) at') (fun g hg=> .inr (r16.lt g hg).1) (by
  rw [Kb,hys,A8,Lc,Ld]
  have:=Fy (Nat.zero_le _) r16
  rw [List.nil_append] at this
  exact this))
 have wz:=af (MW.out.ag hG uS)
 have rT:w.heap.size<x.heap.size:=ltT uS ho1.size
 clear r16 hG ho1 hys Kb
 dsimp only [List.drop]
 go_wp2_with fail
 -- m.Events = append(..)
 all_goals (
 obtain ⟨v,hvv⟩:∃v,v=x.setCell ⟨mb,0,none⟩ (.slice ra rn rc):=⟨_,rfl⟩
 rw [<-hvv]
 rw [<-hvv] at HT
 have JR:=af (show eK v w.heap.size e from by
  rw [hvv];exact wz.out.only (aj.setCell x ⟨mb,0,none⟩ _) rT (fun h=>by subst h;exact absurd hb (Nat.lt_irrefl _)))
 have hzv:w.heap.size<v.heap.size:=by rw [hvv];simpa using rT
 clear hvv C3 F3
 obtain ⟨ov,F3,⟨vl3,vu3,gp,xy⟩,EK⟩:=HT.out
 have EL:¬F3 w.heap.size:=fun h=>by
  rcases EK _ h with h | h
  · exact xu h
  · omega
 have xz:=af xy
 have Rn:=af EK
 have Ro:=af ov
 have bz:¬some w.heap.size=gp.ownBlock:=fun h=>EL (xy.bX _ h.symm).1
 have ia:¬some mb=gp.ownBlock:=fun h=>(xy.bX _ h.symm).2.1 rfl
 have kU:mb<v.heap.size:=xy.blt
 clear xy EK ov HT
 have qA:Hid (aj F w y/\∀j,F3 j->F j\/w.heap.size<=j):=by
  have o0:aj F w y:=(ni.out.only F).then (CX.out.mono fun j hj=> .inl (by subst hj;exact (HS.out.aJ j rfl).1))
  refine ⟨o0,fun j hj=>?_⟩
  rcases Rn.out j hj with h | h
  · exact .inl h
  · exact .inr (zQ0 o0.size h)
 obtain ⟨d0,d1,d2,d3,d4,d5,d6,d7,d8,d9,d10,d11⟩:=JR.out.cells
 have C0:=aV (S:=fun j=>some j=gp.ownBlock) xz.out.ev ia
 have D0:=aV (S:=fun j=>some j=gp.ownBlock) d0 bz
 have D1:=aV (S:=fun j=>some j=gp.ownBlock) d1 bz
 have D2:=aV (S:=fun j=>some j=gp.ownBlock) d2 bz
 have D3:=aV (S:=fun j=>some j=gp.ownBlock) d3 bz
 have D4:=aV (S:=fun j=>some j=gp.ownBlock) d4 bz
 have D5:=aV (S:=fun j=>some j=gp.ownBlock) d5 bz
 have D6:=aV (S:=fun j=>some j=gp.ownBlock) d6 bz
 have D7:=aV (S:=fun j=>some j=gp.ownBlock) d7 bz
 have D8:=aV (S:=fun j=>some j=gp.ownBlock) d8 bz
 have D9:=aV (S:=fun j=>some j=gp.ownBlock) d9 bz
 have oo:=aV (S:=fun j=>some j=gp.ownBlock) d10 bz
 have oq:=aV (S:=fun j=>some j=gp.ownBlock) d11 bz
 clear d0 d1 d2 d3 d4 d5 d6 d7 d8 d9 d10 d11
 obtain ⟨i2,hi2,hx0,hx1,hx3⟩:=info_parts Wy
 refine gJ 10 [8,9] (aj (fun j=>some j=gp.ownBlock) v) Eq (dO 187 8 9 v (jf at' e) (jo 187 13 gp ne evs (jf at' e))) (fun f a=>(a.put (some 175) (f 8)).put (some 176) (f 9)) (by kernel_rfl) (by kernel_rfl) (fun _ _=>rfl) (dO.start v) (fun L f x h=>h.only fun _ _ _ h=>h.only) (fun _=>rfl) (fun _ _ _ _ h g=>g▸h) ?_
 repeat (first
  | refine gy ?_
  | (refine gB ?_;intro K hK;go_big_quiet_op;go_big_quiet_on)
  | (refine gz ?_;simp only [Act.put,sA,sB,sC]))
 refine jX (by rfl) ⟨⟨bH rfl (fun _ a=>a) (fun _ _=>rfl) (fun _=>rfl) ?_,bH rfl (fun f a=>a.put (some 175) (f 8)) (fun _ _=>rfl) (fun _=>rfl) ?_,trivial⟩,?_⟩
 · intro L f x hJ hL hd
   clear C0 D0 D1 D2 D3 D4 D5 D6 D7 D8 D9 oo oq
   have hm:=hJ.make (by decide) hL
   have hm2:=af hm
   clear hm hJ
   rw [C6.out] at hm2
   unfold En.vals at hm2
   go_simp
   exact hm2.out
 · intro L f x hJ hL hd
   clear C0 D0 D1 D2 D3 D4 D5 D6 D7 D8 D9 oo oq
   have h8:=hd 8 rfl (by decide)
   obtain ⟨vb,q8,tv,hvb⟩:=hJ.made h8 hL
   refine yu _ _ _ rfl 187 i2 _ 13 144 Tryz.underlying184 hi2 hx0 hx1 hx3 LD (by omega) gp ne evs rfl ?_ vb 1 (jf at' e) ?_ hvl hvb HV.out (by unfold maxLen;omega) (by omega) ?_
   · exact gI (hJ.ag hL) xz.out.iX
   · exact q8
   · intro r w' hD
     exact hJ.call (by decide) hL h8 hD
 rintro f x hJ
 clear C0 D0 D1 D2 D3 D4 D5 D6 D7 D8 D9 oo oq
 obtain ⟨x0,nQ,g5,c5,q9,aI,hgr,hat⟩:=hJ.done rfl
 rw [q9]
 have ho1:aj (fun j=>some j=gp.ownBlock) v x:=(nQ.only _).then (aj.of_grownBy hgr)
 have C3:x.cell? ⟨mb,2,none⟩=some gp:=(ho1.cell kU ia 2).trans xz.out.ev
 have F4:x.frozen? ⟨mb,2,none⟩=false:=(ho1.frozen kU ia 2).trans (xz.out.fz 2 (by omega))
 have HT:=af (xz.out.kT ho1 (r:=.slice (some ⟨g5,0,none⟩) (ne+1) c5) (fun g hg=>by
  cases hg
  rcases hat with h | h
  · exact .inl h
  · exact .inr (by rw [h];exact nQ.size)) aI)
 clear hJ q9 aI hgr hat ho1 nQ
 dsimp only [List.drop]
 go_wp2_with fail
 go_ret
 refine ⟨rfl,?_⟩
 refine lA.trans (F1:=F3) (w1:=v) ?_ qA.out.2 HT.out
 exact qA.out.1.trans Ro.out (fun _=> .inl))
end
end
section
namespace Pl
theorem WN {t:bj} {e:En} (h:gT t e=true):∃i,i<t.xs.length/\ax t.xs e.ai=(i:Nat)/\iI t.xs e=i/\
    (e.kind=2\/(e.kind=3/\cU (dV (ah t.xs i).lo (ah t.xs i).hi) (aF e.key) (dX (ah t.xs i).lo (ah t.xs i).hi e.key) (ah t.xs i).lo e.key=0)\/
     (e.kind=4/\∃j,j<t.xs.length/\ax t.xs e.other=(j:Nat)/\l9 t.xs e=j)):=by
 unfold gT at h
 by_cases hr:bR e=false
 · rw [zZ1 hr] at h;cases h
 · rw [zZ0 hr] at h
   rcases MS t.xs e.ai with hf | ⟨i,hi,hf⟩
   · rw [hf,zZ1 (by decide)] at h;cases h
   · rw [hf,zZ0 (by omega),Int.toNat_natCast] at h
     refine ⟨i,hi,hf,by unfold iI;rw [hf];rfl,?_⟩
     by_cases k2:e.kind=2
     · exact .inl k2
     · rw [zZ0 k2] at h
       by_cases k3:e.kind=3
       · rw [zZ1 k3] at h
         refine .inr (.inl ⟨k3,?_⟩)
         simp only [Bool.and_eq_true,Bool.not_eq_true'] at h
         obtain ⟨⟨_,h1⟩,h2⟩:=h
         have hk:=h1
         unfold dX at hk
         simp only [Bool.and_eq_true] at hk
         have h3:aF e.key=0:=of_decide_eq_true hk.1.1.2
         unfold cU
         rw [h1,hk.1.1.1,h3,zZ0 (by decide),zZ0 (by decide),zZ0]
         rintro (h4 | h4)
         · cases h4
         · rw [h4] at h2;simp at h2
       · rw [zZ0 k3] at h
         by_cases k4:e.kind=4
         · rw [zZ1 k4] at h
           rcases MS t.xs e.other with hg | ⟨j,hj,hg⟩
           · rw [hg,zZ1 (by decide)] at h;cases h
           · exact .inr (.inr ⟨k4,j,hj,hg,by unfold l9;rw [hg];rfl⟩)
         · rw [zZ0 k4] at h;cases h
end Pl
theorem M5 {w:World} {F:Nat->Prop} {mb:Nat} {s:bj} (h:dU w F mb s) (hk:xt s) (e:En) (hA:bG w e) (hs:jx e) (at':Int):
    Calls Tryz.prog 90 #[.pointer (some ⟨mb,0,none⟩),e.agg,.int .i64 at'] w fun r w'=>r=.returned (.bool (Pl.dL s e at'))/\lA w F mb (Pl.dM s e at') w':=by
 cases hap:Pl.dL s e at' with
 | false=>
  refine (z2L h hk e hA hs at' hap).mono ?_
  rintro r w' ⟨rfl,g⟩
  refine ⟨rfl,?_⟩
  unfold Pl.dM
  rw [zZ0 (by rw [hap];simp)]
  exact lA.b9 h g
 | true=>
  have hc:Pl.gT s e=true:=by unfold Pl.dL at hap;simp only [Bool.and_eq_true] at hap;exact hap.1.1
  obtain ⟨i,hi,hf,fc,hkk⟩:=Pl.WN hc
  have e0:Pl.dM s e at'=Pl.EM s e at':=by unfold Pl.dM;rw [zZ1 hap]
  rw [e0]
  unfold Pl.EM
  rcases hkk with k2 | ⟨k3,hcut⟩ | ⟨k4,j,hj,kF,nA⟩
  · rw [zZ1 k2,fc]
    exact y8O h hk e hA hs at' hap k2 i hi hf
  · rw [zZ0 (by omega),zZ1 k3,fc]
    exact y7s h hk e hA hs at' hap k3 i hi hf hcut
  · rw [zZ0 (by omega),zZ0 (by omega),fc,nA]
    exact y8e h hk e hA hs at' hap k4 i hi hf j hj kF
end
end Go.Proofs.YtbnofojapimfcaaGreatDoor
