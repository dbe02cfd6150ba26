/- Part 22 of the proof. -/
import Derived.Test.YtbnofojapimfcaaGreatDoorFinWatchStepsQ14
import Derived.Test.YtbnofojapimfcaaGreatDoorFinWatchStepsQ21
set_option linter.unusedVariables false
set_option linter.unusedSectionVars false
set_option linter.unusedSimpArgs false
set_option maxRecDepth 100000
set_option maxHeartbeats 16000000
namespace Go.Proofs.YtbnofojapimfcaaGreatDoor
section
open Go.RowKit Go.Maps
attribute [local go_sem] Oper.semAt_some aT
structure jb (w W:World) (st:Nat) (e:En) (a b:Int):Prop where
 ag:ae w W
 lt:w.heap.size+2<W.heap.size
 box:W.cell? ⟨w.heap.size,0,none⟩=some (.pointer (some ⟨st,0,none⟩))
 cT:∀j u,e.vals[j]? =some u->W.cell? ⟨w.heap.size+1,j,none⟩=some u
 a0:W.cell? ⟨w.heap.size+2,0,none⟩=some (.int .i64 a)
 a1:W.cell? ⟨w.heap.size+2,1,none⟩=some (.int .i64 b)
 f0:W.frozen? ⟨w.heap.size+2,0,none⟩=false
 f1:W.frozen? ⟨w.heap.size+2,1,none⟩=false
theorem jb.more {w W W':World} {st:Nat} {e:En} {a b:Int} (h:jb w W st e a b) (g:ae W W'):jb w W' st e a b:=
 have l:=h.lt
 ⟨h.ag.trans g,ltT h.lt g.size,(g.cells.1 _ _ (by omega)).trans h.box,fun j u hj=>(g.cells.1 _ _ (by omega)).trans (h.cT j u hj),(g.cells.1 _ _ (by omega)).trans h.a0,(g.cells.1 _ _ (by omega)).trans h.a1,(g.cells.2 _ _ (by omega)).trans h.f0,(g.cells.2 _ _ (by omega)).trans h.f1⟩
theorem jb.start (w:World) (st:Nat) (e:En):jb w (((w.alloc (.cells #[.pointer (some ⟨st,0,none⟩)] 109)).alloc (.cells e.vals.toArray 39)).alloc (.cells #[.int .i64 0,.int .i64 0] 68)) st e 0 0:=by
 refine ⟨(((ae.rf w).alloc _).alloc _).alloc _,by simp,by simp [go_sem],fun j u hj=>?_,by simp [go_sem],by simp [go_sem],by simp [go_sem],by simp [go_sem]⟩
 have hs:((w.alloc (.cells #[.pointer (some ⟨st,0,none⟩)] 109)).alloc (.cells e.vals.toArray 39)).heap.size=w.heap.size+2:=by simp
 have:=((ae.rf ((w.alloc (.cells #[.pointer (some ⟨st,0,none⟩)] 109)).alloc (.cells e.vals.toArray 39))).alloc (.cells #[.int .i64 0,.int .i64 0] 68)).cells.1 (w.heap.size+1) j (by omega)
 rw [this]
 have h2:(w.alloc (.cells #[.pointer (some ⟨st,0,none⟩)] 109)).heap.size=w.heap.size+1:=by simp
 have h3:=heap_alloc_new (w.alloc (.cells #[.pointer (some ⟨st,0,none⟩)] 109)) (.cells e.vals.toArray 39)
 rw [h2] at h3
 rw [fA h3]
 simpa using hj
theorem z0t (E:Nat->Addr) (e:En) (w:World) (hE:aY jK E w) (hA:bG w e) (at_:Int) (st:Nat) (h:¬(e.kind=1/\Pl.bR e=true)):
    Calls Tryz.prog 94 #[.pointer (some ⟨st,0,none⟩),e.agg,.int .i64 at_] w fun r w'=>r=.returned (.tuple #[gK 0 0,aX E 4])/\ae w w':=by
 have hS:iW jK:=⟨rfl,rfl,rfl,rfl⟩
 have HR:=af (fun W (g:ae w W)=>py hS E e W (hE.ag g) (hA.ag g))
 have HW:=af (jb.start w st e)
 have g4:w.cell? ⟨0,0,none⟩=some (.iface 337 (.pointer (some (E 4)))):=hE.cell 4 rfl
 have b4:0<w.heap.size:=aN g4
 have kG:=af (fun W (g:ae w W)=>(g.cells.1 _ _ b4).trans g4)
 have HK:Hid (Pl.bR e=false\/e.kind≠1):=by
  unfold Hid
  cases hr:Pl.bR e with
  | false=>exact .inl rfl
  | true=>exact .inr fun k=>h ⟨k,hr⟩
 clear hE hA h g4 b4
 generalize Pl.bR e=rb at *
 obtain ⟨Y,hY⟩:∃Y,Y=(((w.alloc (.cells #[.pointer (some ⟨st,0,none⟩)] 109)).alloc (.cells e.vals.toArray 39)).alloc (.cells #[.int .i64 0,.int .i64 0] 68)):=⟨_,rfl⟩
 rw [<-hY] at HW
 obtain ⟨ku⟩:Nonempty (Hid (Y=(((w.alloc (.cells #[.pointer (some ⟨st,0,none⟩)] 109)).alloc (.cells e.vals.toArray 39)).alloc (.cells #[.int .i64 0,.int .i64 0] 68)))):=⟨hY⟩
 clear hY
 unfold En.agg at *
 obtain ⟨kind,ai,other,server,ak,seq,key,upto,part,parts,ops,aC,aG,av,ar,aw⟩:=e
 unfold En.vals at HR ku ⊢
 dsimp only at *
 unfold gK
 rw [sX E 4 (by decide)]
 by_cases k1:kind=1
 · subst k1
   have HB:rb=false:=by rcases HK.out with h | h;exact h;exact absurd rfl h
   subst HB
   clear HK
   go_in
   go_wp2_with fail
   rw [<-ku.out]
   refine (HR.out Y HW.out.ag).mono ?_
   rintro e w1 ⟨rfl,aA⟩
   have bl:=af (HW.out.more aA)
   have hl:=bl.out.lt
   have q0:=kG.out w1 bl.out.ag
   have a0:=bl.out.a0
   have a1:=bl.out.a1
   have f0:=bl.out.f0
   have f1:=bl.out.f1
   clear aA HW HR kG
   go_wp2_with fail
   go_region
   go_wp2_with fail
   refine bodyPost_ret (v:=.tuple #[.agg #[.int .i64 0,.int .i64 0],.iface 337 (.pointer (some (E 4)))]) (by simp [results,Tryz.results94,go_sem,a0,a1,f0,f1]) rfl ⟨rfl,?_⟩
   refine ((bl.out.ag.setCell ?_ _).setCell ?_ _).drew<;> (show w.heap.size<=w.heap.size+2;omega)
 · clear HK HR
   go_in
   have q0:=kG.out Y HW.out.ag
   have a0:=HW.out.a0
   have a1:=HW.out.a1
   have f0:=HW.out.f0
   have f1:=HW.out.f1
   have k0:Y.cell? ⟨w.heap.size+1,0,none⟩=some (.int .i64 kind):=HW.out.cT 0 _ rfl
   have bl:=af HW.out
   have hl:=HW.out.lt
   clear kG HW
   go_wp2_with fail
   rw [<-ku.out]
   go_region
   go_wp2_with fail
   refine bodyPost_ret (v:=.tuple #[.agg #[.int .i64 0,.int .i64 0],.iface 337 (.pointer (some (E 4)))]) (by simp [results,Tryz.results94,go_sem,a0,a1,f0,f1]) rfl ⟨rfl,?_⟩
   refine ((bl.out.ag.setCell ?_ _).setCell ?_ _).drew<;> (show w.heap.size<=w.heap.size+2;omega)
theorem y9I (E:Nat->Addr) (e:En) (w:World) (hE:aY jK E w) (hA:bG w e) (at_:Int) (st:Nat) (hk:e.kind=1) (hr:Pl.bR e=true) (hat:at_<0\/4096<=at_):
    Calls Tryz.prog 94 #[.pointer (some ⟨st,0,none⟩),e.agg,.int .i64 at_] w fun r w'=>r=.returned (.tuple #[gK 0 0,aX E 1])/\ae w w':=by
 have hS:iW jK:=⟨rfl,rfl,rfl,rfl⟩
 have hR:=fun W (g:ae w W)=>py hS E e W (hE.ag g) (hA.ag g)
 rw [hr] at hR
 have HR:=af hR
 have HW:=af (jb.start w st e)
 have g4:w.cell? ⟨1,0,none⟩=some (.iface 337 (.pointer (some (E 1)))):=hE.cell 1 rfl
 have b4:1<w.heap.size:=aN g4
 have kG:=af (fun W (g:ae w W)=>(g.cells.1 _ _ b4).trans g4)
 clear hE hA g4 b4 hr hR
 obtain ⟨Y,hY⟩:∃Y,Y=(((w.alloc (.cells #[.pointer (some ⟨st,0,none⟩)] 109)).alloc (.cells e.vals.toArray 39)).alloc (.cells #[.int .i64 0,.int .i64 0] 68)):=⟨_,rfl⟩
 rw [<-hY] at HW
 obtain ⟨ku⟩:Nonempty (Hid (Y=(((w.alloc (.cells #[.pointer (some ⟨st,0,none⟩)] 109)).alloc (.cells e.vals.toArray 39)).alloc (.cells #[.int .i64 0,.int .i64 0] 68)))):=⟨hY⟩
 clear hY
 unfold En.agg at *
 obtain ⟨kind,ai,other,server,ak,seq,key,upto,part,parts,ops,aC,aG,av,ar,aw⟩:=e
 unfold En.vals at HR ku ⊢
 dsimp only at *
 unfold gK
 rw [sX E 1 (by decide)]
 subst hk
 go_in
 go_wp2_with fail
 rw [<-ku.out]
 refine (HR.out Y HW.out.ag).mono ?_
 rintro e w1 ⟨rfl,aA⟩
 have bl:=af (HW.out.more aA)
 have hl:=bl.out.lt
 have q0:=kG.out w1 bl.out.ag
 have a0:=bl.out.a0
 have a1:=bl.out.a1
 have f0:=bl.out.f0
 have f1:=bl.out.f1
 clear aA HW HR kG
 rcases hat with ha | ha
 · go_wp2_with fail
   go_region
   go_wp2_with fail
   refine bodyPost_ret (v:=.tuple #[.agg #[.int .i64 0,.int .i64 0],.iface 337 (.pointer (some (E 1)))]) (by simp [results,Tryz.results94,go_sem,a0,a1,f0,f1]) rfl ⟨rfl,?_⟩
   refine ((bl.out.ag.setCell ?_ _).setCell ?_ _).drew<;> (show w.heap.size<=w.heap.size+2;omega)
 · have ha2:¬at_<0:=by omega
   go_wp2_with fail
   go_region
   go_wp2_with fail
   refine bodyPost_ret (v:=.tuple #[.agg #[.int .i64 0,.int .i64 0],.iface 337 (.pointer (some (E 1)))]) (by simp [results,Tryz.results94,go_sem,a0,a1,f0,f1]) rfl ⟨rfl,?_⟩
   refine ((bl.out.ag.setCell ?_ _).setCell ?_ _).drew<;> (show w.heap.size<=w.heap.size+2;omega)
namespace Pl
theorem Io {e:En} (hk:e.kind=1) (hr:bR e=true):1<=e.ak/\e.ak<=4:=by
 unfold bR at hr
 rw [zZ1 hk] at hr
 unfold jO cP at hr
 simp only [Bool.and_eq_true,decide_eq_true_eq] at hr
 exact hr.1.1.1.2
end Pl
theorem y9V (E:Nat->Addr) (e:En) {w:World} (hE:aY jK E w) (hA:bG w e) (at_:Int) {Ft Fs:Nat->Prop} {st n:Nat} {lo hi:ByteArray} {P:List Pr} {S:Int->Option An} (h:cY w Ft Fs st n lo hi P S) (hk:e.kind=1) (hr:Pl.bR e=true) (h0:0<=at_) (h1:at_<4096) (hl:lo.size<=70368744177664) (hh:hi.size<=70368744177664) (hsz:∀o∈e.ops,o.key.size<=70368744177664) (hin:∀o∈e.ops,Pl.aL lo hi o.key=true) (hn:dF (S e.ak) e.seq≠1):
    Calls Tryz.prog 94 #[.pointer (some ⟨st,0,none⟩),e.agg,.int .i64 at_] w fun r w'=>r=.returned (.tuple #[if dF (S e.ak) e.seq=2 then gK (fp (S e.ak) e.seq).1 (fp (S e.ak) e.seq).2 else gK 4 0,.nilIface])/\ae w w':=by
 have zR:Hid (dF (S e.ak) e.seq=2\/dF (S e.ak) e.seq=3):=by
  unfold Hid
  cases hS:S e.ak with
  | none=>rw [hS] at hn;exact absurd rfl hn
  | some a=>
   rw [hS] at hn
   unfold dF at hn ⊢
   dsimp only at hn ⊢
   by_cases q:a.seq<e.seq
   · rw [zZ1 q] at hn;exact absurd rfl hn
   · rw [zZ0 q]
     by_cases q2:e.seq=a.seq
     · rw [zZ1 q2];exact .inl rfl
     · rw [zZ0 q2];exact .inr rfl
 have hT:iW jK:=⟨rfl,rfl,rfl,rfl⟩
 have Ip:jP jK:=⟨rfl,rfl,rfl,rfl⟩
 have hR:=fun W (g:ae w W)=>py hT E e W (hE.ag g) (hA.ag g)
 rw [hr] at hR
 have HR:=af hR
 have HW:=af (jb.start w st e)
 have iD:=af (fun W (g:ae w W)=>K5 hT E e W (hE.ag g) (hA.ag g) hk hr)
 have oH:((e.ops.map bC.key).any fun k=>!Pl.aL lo hi k)=false:=by
  rw [zZ9]
  intro k vU
  obtain ⟨o,ho,rfl⟩:=zZ4.1 vU
  simp [hin o ho]
 have fY:=hA.few
 have kZ:=fun W (g:ae w W) (a:Option Addr) (cap:Nat) (k:zQ W a (e.ops.map bC.key)) (hB:iC W w.heap.size st lo hi)=>O8 jK E Ip lo hi a cap (e.ops.map bC.key) W hl hh (hE.ag g) w.heap.size st hB k (by simpa using fY) (fun k vU=>by obtain ⟨o,ho,rfl⟩:=zZ4.1 vU;exact hsz o ho)
 rw [oH,List.length_map] at kZ
 have oI:=af kZ
 obtain ⟨tb,sb,h⟩:=h
 have hcl:1<=e.ak/\e.ak<=4:=Pl.Io hk hr
 have iM:=af (fun W (g:ae w W)=>Oi (h.seen.ag g) e.ak e.seq (by omega) (by omega))
 generalize dF (S e.ak) e.seq=an at *
 generalize (fp (S e.ak) e.seq).1=ac at *
 generalize (fp (S e.ak) e.seq).2=aa at *
 have HST:=af h
 have fJ:st<w.heap.size:=aN h.c0
 obtain ⟨Y,hY⟩:∃Y,Y=(((w.alloc (.cells #[.pointer (some ⟨st,0,none⟩)] 109)).alloc (.cells e.vals.toArray 39)).alloc (.cells #[.int .i64 0,.int .i64 0] 68)):=⟨_,rfl⟩
 rw [<-hY] at HW
 have ku:=af hY
 clear hY hE hA hr hR oH kZ h hin hsz
 unfold En.agg at *
 obtain ⟨kind,ai,other,server,ak,seq,key,upto,part,parts,ops,aC,aG,av,ar,aw⟩:=e
 unfold En.vals at HR ku iD ⊢
 dsimp only at *
 subst hk
 unfold gK at *
 go_in
 go_wp2_with fail
 rw [<-ku.out]
 refine (HR.out Y HW.out.ag).mono ?_
 rintro e w1 ⟨rfl,aA⟩
 have bl:=af (HW.out.more aA)
 have hl1:=bl.out.lt
 have d0:w1.cell? ⟨w.heap.size+1,0,none⟩=some (.int .i64 1):=bl.out.cT 0 _ rfl
 have d1:w1.cell? ⟨w.heap.size+1,1,none⟩=some (.int .i64 ai):=bl.out.cT 1 _ rfl
 have d2:w1.cell? ⟨w.heap.size+1,2,none⟩=some (.int .i64 other):=bl.out.cT 2 _ rfl
 have d3:w1.cell? ⟨w.heap.size+1,3,none⟩=some (.int .i64 server):=bl.out.cT 3 _ rfl
 have d4:w1.cell? ⟨w.heap.size+1,4,none⟩=some (.int .i64 ak):=bl.out.cT 4 _ rfl
 have d5:w1.cell? ⟨w.heap.size+1,5,none⟩=some (.int .i64 seq):=bl.out.cT 5 _ rfl
 have d6:w1.cell? ⟨w.heap.size+1,6,none⟩=some (.slice aC ops.length aG):=bl.out.cT 6 _ rfl
 have d7:w1.cell? ⟨w.heap.size+1,7,none⟩=some (.string key):=bl.out.cT 7 _ rfl
 have d8:w1.cell? ⟨w.heap.size+1,8,none⟩=some (.int .i64 upto):=bl.out.cT 8 _ rfl
 have d9:w1.cell? ⟨w.heap.size+1,9,none⟩=some (.int .i64 part):=bl.out.cT 9 _ rfl
 have d10:w1.cell? ⟨w.heap.size+1,10,none⟩=some (.int .i64 parts):=bl.out.cT 10 _ rfl
 have d11:w1.cell? ⟨w.heap.size+1,11,none⟩=some (.slice av ar aw):=bl.out.cT 11 _ rfl
 have k0:¬at_<0:=by omega
 have k1:¬4096<=at_:=by omega
 clear aA HW HR
 go_wp2_with fail
 refine (iD.out w1 bl.out.ag).mono ?_
 rintro e w2 ⟨⟨v,rfl,aD⟩,aB⟩
 obtain ⟨a,cap,rfl,hks⟩:=Im (by rw [List.length_map];exact aD)
 rw [List.length_map]
 have jg:=af (bl.out.more aB)
 have vV:=af hks
 clear aB aD hks iD d0 d1 d2 d3 d4 d5 d6 d7 d8 d9 d10 d11
 go_wp2_with fail
 refine (oI.out w2 jg.out.ag a cap vV.out ⟨jg.out.box,(jg.out.ag.cells.1 _ _ fJ).trans HST.out.c1,(jg.out.ag.cells.1 _ _ fJ).trans HST.out.c2⟩).mono ?_
 rintro e w3 ⟨rfl,hg3⟩
 have jT:=af (jg.out.more hg3)
 clear hg3 vV oI bl jg hl1
 go_wp2_with fail
 have hl3:=jT.out.lt
 have B0:=aU jT.out.box
 have B1:=aU (jT.out.cT 4 _ rfl)
 have B2:=aU (jT.out.cT 5 _ rfl)
 have B3:=aU ((jT.out.ag.cells.1 _ _ fJ).trans HST.out.c3)
 have jy:=af (fun W (g:ae w3 W)=>iM.out W (jT.out.ag.trans g))
 clear iM
 refine kW 14 [12,13] (ae w3) ae (JV [⟨12,13,[.int .i64 ac,.int .i64 aa]⟩] w3) (fun f a=>a.put (some 8) (f 12)) (by kernel_rfl) (by kernel_rfl) (fun _ _=>rfl) (JV.start _ w3 _) (fun _ _ _ h=>h.ag) ae.rf (fun _ _ _ _ h g=>h.more g) ?_
 repeat (first
  | refine kV ?_
  | (refine fF ?_;intro K hK;go_big_quiet_op;go_big_quiet_on)
  | (refine zq (fun _=>by kernel_rfl) (fun u hu=>jy.out u hu) ?_;simp only [Act.put,sA,sB,sC])
  | (refine fE ?_;simp only [Act.put,sA,sB,sC]))
 refine iH (by rfl) ⟨⟨bH rfl (fun _ a=>a) (fun _ _=>rfl) (fun _=>rfl) ?_,bH rfl (fun f a=>a.put (some 8) (f 12)) (fun _ _=>rfl) (fun _=>rfl) ?_,trivial⟩,?_⟩
 · intro L f u hJ hL hd
   clear jy B0 B1 B2 B3
   go_simp
   exact hJ.alloc (by rfl) (V:=⟨12,13,[.int .i64 ac,.int .i64 aa]⟩) (by simp) hL [.int .i64 0,.int .i64 0] rfl _
 · intro L f u hJ hL hd
   clear jy B0 B1 B2 B3
   obtain ⟨m,x,y,hm,k0,k1,f0,f1⟩:=hJ.two (V:=⟨12,13,[.int .i64 ac,.int .i64 aa]⟩) (by simp) (hd 12 rfl (by decide)) rfl
   dsimp only at hm
   rw [hm]
   go_simp
   exact hJ.store (by rfl) (V:=⟨12,13,[.int .i64 ac,.int .i64 aa]⟩) (by simp) (hd 12 rfl (by decide)) hm
 intro f u hJ
 clear jy B0 B1 B2 B3
 obtain ⟨m8,q8,n8,l8,v0,v1,_,_⟩:=(hJ.full (V:=⟨12,13,[.int .i64 ac,.int .i64 aa]⟩) (by simp) rfl).two
 dsimp only at q8
 have jc:=af (jT.out.more hJ.ag)
 have kG:=af hJ.ag
 clear hJ jT
 dsimp only [List.drop]
 simp only [Act.put,sA,sC,sB]
 rw [q8]
 clear q8
 have a0:=jc.out.a0
 have a1:=jc.out.a1
 have f0:=jc.out.f0
 have f1:=jc.out.f1
 rcases zR.out with rfl | rfl
 · clear zR hn
   go_wp2_with fail
   refine bodyPost_ret (v:=.tuple #[.agg #[.int .i64 ac,.int .i64 aa],.nilIface]) (by simp [results,Tryz.results94,go_sem,a0,a1,f0,f1]) rfl ⟨rfl,?_⟩
   exact (jc.out.ag.setCell (show w.heap.size<=w.heap.size+2 by omega) _).setCell (show w.heap.size<=w.heap.size+2 by omega) _
 · clear zR hn
   go_wp2_with fail
   refine bodyPost_ret (v:=.tuple #[.agg #[.int .i64 4,.int .i64 0],.nilIface]) (by simp [results,Tryz.results94,go_sem,a0,a1,f0,f1]) rfl ⟨rfl,?_⟩
   exact (jc.out.ag.setCell (show w.heap.size<=w.heap.size+2 by omega) _).setCell (show w.heap.size<=w.heap.size+2 by omega) _
namespace Pl
theorem O9 {e:En} (hk:e.kind=1) (hr:bR e=true):1<=e.seq/\e.seq<=1073741824/\e.ops.length<=8:=by
 unfold bR at hr
 rw [zZ1 hk] at hr
 unfold jO cP at hr
 simp only [Bool.and_eq_true,decide_eq_true_eq] at hr
 have:=hr.1.2.2
 exact ⟨hr.1.1.2.1,hr.1.1.2.2,by omega⟩
end Pl
structure Bu (u wr:World) (cb ob:Nat) (Q:List Pr) (c a:Int):Prop where
 ag:ae u wr
 tab:∃Fk,bo wr Fk cb Q/\∀j,Fk j->u.heap.size<=j/\j≠ob
 le:u.heap.size<=ob
 o0:wr.cell? ⟨ob,0,none⟩=some (.int .i64 c)
 o1:wr.cell? ⟨ob,1,none⟩=some (.int .i64 a)
 f0:wr.frozen? ⟨ob,0,none⟩=false
 f1:wr.frozen? ⟨ob,1,none⟩=false
section
variable {u wr wr':World} {cb ob:Nat} {Q Q':List Pr} {c c' a:Int}
theorem Bu.more (h:Bu u wr cb ob Q c a) (g:ae wr wr'):Bu u wr' cb ob Q c a where
 ag:=h.ag.trans g
 tab:=by obtain ⟨Fk,k1,k2⟩:=h.tab;exact ⟨Fk,k1.ag g,k2⟩
 le:=h.le
 o0:=(g.cells.1 _ _ (aN h.o0)).trans h.o0
 o1:=(g.cells.1 _ _ (aN h.o0)).trans h.o1
 f0:=(g.cells.2 _ _ (aN h.o0)).trans h.f0
 f1:=(g.cells.2 _ _ (aN h.o0)).trans h.f1
theorem Bu.step (h:Bu u wr cb ob Q c a) {Fk:Nat->Prop} (hF:∀j,Fk j->u.heap.size<=j/\j≠ob) (t:nj wr Fk cb Q' wr'):Bu u wr' cb ob Q' c a:=by
 have hl:ob<wr.heap.size:=aN h.o0
 obtain ⟨ho,F',k1,k2⟩:=t
 have hn:¬Fk ob:=fun e=>(hF ob e).2 rfl
 refine ⟨((h.ag.only Fk).then ho).ag fun j hj=>(hF j hj).1,⟨F',k1,fun j hj=>?_⟩,h.le,(ho.cell hl hn 0).trans h.o0,(ho.cell hl hn 1).trans h.o1,(ho.frozen hl hn 0).trans h.f0,(ho.frozen hl hn 1).trans h.f1⟩
 rcases k2 j hj with k | k
 · exact hF j k
 · have:=h.ag.size;exact ⟨by omega,fun e=>by omega⟩
end
theorem jb.only {w W W':World} {st:Nat} {e:En} {a b:Int} {T:Nat->Prop} (h:jb w W st e a b) (g:aj T W W') (hT:∀j,T j->w.heap.size+2<j):jb w W' st e a b:=
 have l:=h.lt
 have n0:∀i,i<=2->¬T (w.heap.size+i):=fun i hi ht=>by have:=hT _ ht;omega
 ⟨((h.ag.only T).then g).ag (fun j hj=>by have:=hT j hj;omega),ltT h.lt g.size,(g.cell (by omega) (n0 0 (by omega)) 0).trans h.box,fun j u hj=>(g.cell (by omega) (n0 1 (by omega)) j).trans (h.cT j u hj),(g.cell (by omega) (n0 2 (by omega)) 0).trans h.a0,(g.cell (by omega) (n0 2 (by omega)) 1).trans h.a1,(g.frozen (by omega) (n0 2 (by omega)) 0).trans h.f0,(g.frozen (by omega) (n0 2 (by omega)) 1).trans h.f1⟩
structure DD (w W:World) (st:Nat) (e:En) (a b:Int):Prop where
 lt:w.heap.size+2<W.heap.size
 box:W.cell? ⟨w.heap.size,0,none⟩=some (.pointer (some ⟨st,0,none⟩))
 cT:∀j u,e.vals[j]? =some u->W.cell? ⟨w.heap.size+1,j,none⟩=some u
 a0:W.cell? ⟨w.heap.size+2,0,none⟩=some (.int .i64 a)
 a1:W.cell? ⟨w.heap.size+2,1,none⟩=some (.int .i64 b)
 f0:W.frozen? ⟨w.heap.size+2,0,none⟩=false
 f1:W.frozen? ⟨w.heap.size+2,1,none⟩=false
theorem DD.of {w W:World} {st:Nat} {e:En} {a b:Int} (h:jb w W st e a b):DD w W st e a b:=⟨h.lt,h.box,h.cT,h.a0,h.a1,h.f0,h.f1⟩
theorem DD.only {w W W':World} {st:Nat} {e:En} {a b:Int} {T:Nat->Prop} (h:DD w W st e a b) (g:aj T W W') (hT:∀j,T j->j<w.heap.size):DD w W' st e a b:=
 have l:=h.lt
 have n0:∀i,¬T (w.heap.size+i):=fun i ht=>by have:=hT _ ht;omega
 ⟨ltT h.lt g.size,(g.cell (by omega) (n0 0) 0).trans h.box,fun j u hj=>(g.cell (by omega) (n0 1) j).trans (h.cT j u hj),(g.cell (by omega) (n0 2) 0).trans h.a0,(g.cell (by omega) (n0 2) 1).trans h.a1,(g.frozen (by omega) (n0 2) 0).trans h.f0,(g.frozen (by omega) (n0 2) 1).trans h.f1⟩
def Wrote (w w':World) (Ft Fs:Nat->Prop) (st n:Nat) (lo hi:ByteArray) (P:List Pr) (S:Int->Option An):Prop:=
 aj (fun j=>j=st\/Fs j) w w'/\∃Gt,cY w' Gt Fs st n lo hi P S/\∀j,Gt j->Ft j\/w.heap.size<=j
theorem Uz {w V x w':World} {Ft Fs:Nat->Prop} {st tb Pb sb n n':Nat} {lo hi:ByteArray} {P P':List Pr} {S S':Int->Option An} (h:vS w Ft Fs st tb sb n lo hi P S) (hV:aj (fun j=>j=st) w V)
    (c0:V.cell? ⟨st,0,none⟩=some (.pointer (some ⟨Pb,0,none⟩))) (c1:V.cell? ⟨st,1,none⟩=some (.string lo)) (c2:V.cell? ⟨st,2,none⟩=some (.string hi)) (c3:V.cell? ⟨st,3,none⟩=some (.pointer (some ⟨sb,0,none⟩))) (f0:∀i,V.frozen? ⟨st,i,none⟩=false)
    (hx:aj Fs V x) (hS:jI x Fs sb n' S') (hw:aj (fun j=>j=w.heap.size+2) x w')
    (ht:∃Gt,bo V Gt Pb P'/\∀j,Gt j->(Ft j\/w.heap.size<=j)/\¬Fs j/\j≠st/\j≠w.heap.size+2) (hg:Pl.Good P'):Wrote w w' Ft Fs st n' lo hi P' S':=by
 obtain ⟨Gt,t1,t2⟩:=ht
 have hst:st<w.heap.size:=aN h.c0
 have aq:∀j,Fs j->j<w.heap.size:=h.seen.lt
 have DF:aj (fun j=>Fs j\/j=w.heap.size+2) V w':=(hx.mono fun j hj=> .inl (.inl hj)).then (hw.mono fun j hj=> .inl (.inr hj))
 have hns:¬(Fs st\/st=w.heap.size+2):=by
  rintro (k | k)
  · exact h.own st k rfl
  · omega
 have hl:st<V.heap.size:=aN c0
 refine ⟨((hV.mono (T:=fun j=>j=st\/Fs j\/j=w.heap.size+2) fun j hj=> .inl (.inl hj)).then (DF.mono fun j hj=> .inl (.inr hj))).mono fun j hj=>?_,Gt,⟨Pb,sb,⟨(DF.cell hl hns 0).trans c0,(DF.cell hl hns 1).trans c1,(DF.cell hl hns 2).trans c2,(DF.cell hl hns 3).trans c3,fun i=>(DF.frozen hl hns i).trans (f0 i),t1.kept DF fun j hj=>?_,hS.kept hw fun j hj e=>?_,hg,fun j hj=>⟨(t2 j hj).2.1,(t2 j hj).2.2.1⟩,h.own⟩⟩,fun j hj=>(t2 j hj).1⟩
 · rcases hj with k | k | k
   · exact .inl (.inl k)
   · exact .inl (.inr k)
   · exact .inr (by omega)
 · rintro (k | k)
   · exact (t2 j hj).2.1 k
   · exact (t2 j hj).2.2.2 k
 · have:=aq j hj;omega
structure UA (V:World) (Fs:Nat->Prop) (sb n:Nat) (S:Int->Option An) (L:Nat->Bool) (f:Nat->Value) (x:World):Prop where
 only:aj Fs V x
 ahead:L 10=false->ae V x
 told:L 10=true->f 10=.nilIface/\jI x Fs sb n S
theorem z2d (E:Nat->Addr) (e:En) {w:World} (hE:aY jK E w) (hA:bG w e) (at_:Int) {Ft Fs:Nat->Prop} {st n:Nat} {lo hi:ByteArray} {P:List Pr} {S:Int->Option An} (h:cY w Ft Fs st n lo hi P S) (hk:e.kind=1) (hr:Pl.bR e=true) (h0:0<=at_) (h1:at_<4096) (hl:lo.size<=70368744177664) (hh:hi.size<=70368744177664) (hsz:∀o∈e.ops,o.key.size<=70368744177664) (hin:∀o∈e.ops,Pl.aL lo hi o.key=true) (yG:∀o∈e.ops,o.val.size<=140737488351232) (hx:P.length<=1000) (hnn:n<=1000000) (hf:dF (S e.ak) e.seq=1):
    Calls Tryz.prog 94 #[.pointer (some ⟨st,0,none⟩),e.agg,.int .i64 at_] w fun r w'=>r=.returned (.tuple #[gK (Pl.dK P e.ops at_) at_,.nilIface])/\Wrote w w' Ft Fs st (n+1) lo hi (Pl.gF P e.ops at_) (dw S e.ak ⟨e.seq,Pl.dK P e.ops at_,at_⟩):=by
 have hT:iW jK:=⟨rfl,rfl,rfl,rfl⟩
 have Ip:jP jK:=⟨rfl,rfl,rfl,rfl⟩
 have hR:=fun W (g:ae w W)=>py hT E e W (hE.ag g) (hA.ag g)
 rw [hr] at hR
 have HR:=af hR
 have HW:=af (jb.start w st e)
 have iD:=af (fun W (g:ae w W)=>K5 hT E e W (hE.ag g) (hA.ag g) hk hr)
 have oH:((e.ops.map bC.key).any fun k=>!Pl.aL lo hi k)=false:=by
  rw [zZ9]
  intro k vU
  obtain ⟨o,ho,rfl⟩:=zZ4.1 vU
  simp [hin o ho]
 have fY:=hA.few
 have kZ:=fun W (g:ae w W) (a:Option Addr) (cap:Nat) (k:zQ W a (e.ops.map bC.key)) (hB:iC W w.heap.size st lo hi)=>O8 jK E Ip lo hi a cap (e.ops.map bC.key) W hl hh (hE.ag g) w.heap.size st hB k (by simpa using fY) (fun k vU=>by obtain ⟨o,ho,rfl⟩:=zZ4.1 vU;exact hsz o ho)
 rw [oH,List.length_map] at kZ
 have oI:=af kZ
 have pT:=hA.ops
 have hTS:lY jK:=⟨rfl,rfl,rfl,rfl,rfl⟩
 obtain ⟨hs1,hs2,hs3⟩:=Pl.O9 hk hr
 have Iq:=af (fun W (g:ae w W) (F:Nat->Prop) (b:Nat) (Q:List Pr) (k:bo W F b Q) (hq:Q.length<=1000000) (o:bC) (ho:o∈e.ops)=>vT hTS E (hE.ag g) k hq o ⟨hsz o ho,yG o ho⟩ (at_+1) (by omega))
 have Bv:=af (fun W (b:Nat) (k:jI W Fs b n S) (c:Int) (hc:c=1\/c=2)=>Zb k e.ak ⟨e.seq,c,at_⟩ (Pl.Io hk hr).1 (Pl.Io hk hr).2 ⟨hs1,hs2,hc,h0,by dsimp only;omega⟩ hnn hf)
 obtain ⟨tb,sb,h⟩:=h
 have hcl:1<=e.ak/\e.ak<=4:=Pl.Io hk hr
 have iM:=af (fun W (g:ae w W)=>Oi (h.seen.ag g) e.ak e.seq (by omega) (by omega))
 generalize dF (S e.ak) e.seq=an at *
 generalize (fp (S e.ak) e.seq).1=ac at *
 generalize (fp (S e.ak) e.seq).2=aa at *
 have HST:=af h
 have fJ:st<w.heap.size:=aN h.c0
 obtain ⟨Y,hY⟩:∃Y,Y=(((w.alloc (.cells #[.pointer (some ⟨st,0,none⟩)] 109)).alloc (.cells e.vals.toArray 39)).alloc (.cells #[.int .i64 0,.int .i64 0] 68)):=⟨_,rfl⟩
 rw [<-hY] at HW
 have ku:=af hY
 clear hY hE hA hr hR oH kZ h hin hsz yG
 unfold En.agg at *
 obtain ⟨kind,ai,other,server,ak,seq,key,upto,part,parts,ops,aC,aG,av,ar,aw⟩:=e
 unfold En.vals at HR ku iD ⊢
 dsimp only at *
 subst hk
 unfold gK at *
 go_in
 go_wp2_with fail
 rw [<-ku.out]
 refine (HR.out Y HW.out.ag).mono ?_
 rintro e w1 ⟨rfl,aA⟩
 have bl:=af (HW.out.more aA)
 have hl1:=bl.out.lt
 have d0:w1.cell? ⟨w.heap.size+1,0,none⟩=some (.int .i64 1):=bl.out.cT 0 _ rfl
 have d1:w1.cell? ⟨w.heap.size+1,1,none⟩=some (.int .i64 ai):=bl.out.cT 1 _ rfl
 have d2:w1.cell? ⟨w.heap.size+1,2,none⟩=some (.int .i64 other):=bl.out.cT 2 _ rfl
 have d3:w1.cell? ⟨w.heap.size+1,3,none⟩=some (.int .i64 server):=bl.out.cT 3 _ rfl
 have d4:w1.cell? ⟨w.heap.size+1,4,none⟩=some (.int .i64 ak):=bl.out.cT 4 _ rfl
 have d5:w1.cell? ⟨w.heap.size+1,5,none⟩=some (.int .i64 seq):=bl.out.cT 5 _ rfl
 have d6:w1.cell? ⟨w.heap.size+1,6,none⟩=some (.slice aC ops.length aG):=bl.out.cT 6 _ rfl
 have d7:w1.cell? ⟨w.heap.size+1,7,none⟩=some (.string key):=bl.out.cT 7 _ rfl
 have d8:w1.cell? ⟨w.heap.size+1,8,none⟩=some (.int .i64 upto):=bl.out.cT 8 _ rfl
 have d9:w1.cell? ⟨w.heap.size+1,9,none⟩=some (.int .i64 part):=bl.out.cT 9 _ rfl
 have d10:w1.cell? ⟨w.heap.size+1,10,none⟩=some (.int .i64 parts):=bl.out.cT 10 _ rfl
 have d11:w1.cell? ⟨w.heap.size+1,11,none⟩=some (.slice av ar aw):=bl.out.cT 11 _ rfl
 have k0:¬at_<0:=by omega
 have k1:¬4096<=at_:=by omega
 clear aA HW HR
 go_wp2_with fail
 refine (iD.out w1 bl.out.ag).mono ?_
 rintro e w2 ⟨⟨v,rfl,aD⟩,aB⟩
 obtain ⟨a,cap,rfl,hks⟩:=Im (by rw [List.length_map];exact aD)
 rw [List.length_map]
 have jg:=af (bl.out.more aB)
 have vV:=af hks
 clear aB aD hks iD d0 d1 d2 d3 d4 d5 d6 d7 d8 d9 d10 d11
 go_wp2_with fail
 refine (oI.out w2 jg.out.ag a cap vV.out ⟨jg.out.box,(jg.out.ag.cells.1 _ _ fJ).trans HST.out.c1,(jg.out.ag.cells.1 _ _ fJ).trans HST.out.c2⟩).mono ?_
 rintro e w3 ⟨rfl,hg3⟩
 have jT:=af (jg.out.more hg3)
 clear hg3 vV oI bl jg hl1
 go_wp2_with fail
 have hl3:=jT.out.lt
 have B0:=aU jT.out.box
 have B1:=aU (jT.out.cT 4 _ rfl)
 have B2:=aU (jT.out.cT 5 _ rfl)
 have B3:=aU ((jT.out.ag.cells.1 _ _ fJ).trans HST.out.c3)
 have jy:=af (fun W (g:ae w3 W)=>iM.out W (jT.out.ag.trans g))
 clear iM
 refine kW 14 [12,13] (ae w3) ae (JV [⟨12,13,[.int .i64 ac,.int .i64 aa]⟩] w3) (fun f a=>a.put (some 8) (f 12)) (by kernel_rfl) (by kernel_rfl) (fun _ _=>rfl) (JV.start _ w3 _) (fun _ _ _ h=>h.ag) ae.rf (fun _ _ _ _ h g=>h.more g) ?_
 repeat (first
  | refine kV ?_
  | (refine fF ?_;intro K hK;go_big_quiet_op;go_big_quiet_on)
  | (refine zq (fun _=>by kernel_rfl) (fun u hu=>jy.out u hu) ?_;simp only [Act.put,sA,sB,sC])
  | (refine fE ?_;simp only [Act.put,sA,sB,sC]))
 refine iH (by rfl) ⟨⟨bH rfl (fun _ a=>a) (fun _ _=>rfl) (fun _=>rfl) ?_,bH rfl (fun f a=>a.put (some 8) (f 12)) (fun _ _=>rfl) (fun _=>rfl) ?_,trivial⟩,?_⟩
 · intro L f u hJ hL hd
   clear jy B0 B1 B2 B3
   go_simp
   exact hJ.alloc (by rfl) (V:=⟨12,13,[.int .i64 ac,.int .i64 aa]⟩) (by simp) hL [.int .i64 0,.int .i64 0] rfl _
 · intro L f u hJ hL hd
   clear jy B0 B1 B2 B3
   obtain ⟨m,x,y,hm,k0,k1,f0,f1⟩:=hJ.two (V:=⟨12,13,[.int .i64 ac,.int .i64 aa]⟩) (by simp) (hd 12 rfl (by decide)) rfl
   dsimp only at hm
   rw [hm]
   go_simp
   exact hJ.store (by rfl) (V:=⟨12,13,[.int .i64 ac,.int .i64 aa]⟩) (by simp) (hd 12 rfl (by decide)) hm
 intro f u hJ
 clear jy B0 B1 B2 B3
 obtain ⟨m8,q8,n8,l8,v0,v1,_,_⟩:=(hJ.full (V:=⟨12,13,[.int .i64 ac,.int .i64 aa]⟩) (by simp) rfl).two
 dsimp only at q8
 have jc:=af (jT.out.more hJ.ag)
 have kG:=af hJ.ag
 clear hJ jT
 dsimp only [List.drop]
 simp only [Act.put,sA,sC,sB]
 rw [q8]
 clear q8
 subst hf
 have sY:=af pT
 clear pT
 have b0:=jc.out.box
 have t0:=(jc.out.ag.cells.1 _ 0 fJ).trans HST.out.c0
 have Bz:=af (z4x (HST.out.tab.ag jc.out.ag) (by omega))
 clear v0 v1 kG
 have hlu:=jc.out.lt
 go_wp2_with fail
 refine Bz.out.mono ?_
 rintro e w5 ⟨⟨cb,Fc,rfl,hC,UB⟩,mN⟩
 have vZ:=af (jc.out.more mN)
 have tI:=af mN
 have HC:=af (And.intro hC UB)
 have UC:=vZ.out.lt
 have j0b:w.heap.size+1<w5.heap.size:=by omega
 have e6:w5.cell? ⟨w.heap.size+1,6,none⟩=some (.slice aC ops.length aG):=vZ.out.cT 6 _ rfl
 clear Bz hC UB mN b0 t0
 go_wp2_with fail
 obtain ⟨X,hX⟩:∃X,X=w5.alloc (.cells #[.int .i64 1,.int .i64 at_] 68):=⟨_,rfl⟩
 have gX:ae w5 X:=by rw [hX];exact (ae.rf w5).alloc _
 have HLP:=af (show Bu u X cb w5.heap.size P 1 at_ from by
  refine ⟨tI.out.trans gX,⟨Fc,HC.out.1.ag gX,fun j hj=>⟨HC.out.2 j hj,fun e=>?_⟩⟩,tI.out.size,?_,?_,?_,?_⟩
  · have:=nP HC.out.1 j hj;omega
  all_goals (rw [hX];simp [go_sem]))
 rw [<-hX]
 have lN:=af (vZ.out.more gX)
 have hwr:IntKind.i64.wrap (at_+1)=at_+1:=IntWalk.i64_in _ (by omega)
 clear gX hX HC e6
 go_loopw [69] (fun i wr=>∃k:Nat,k<=ops.length/\i=.int .i64 k/\Hid (∃Q,Bu u wr cb w5.heap.size Q 1 at_/\Pl.jz (ops.take k) (at_+1) P=(Q,true))/\Hid (jb w wr st ⟨1,ai,other,server,ak,seq,key,upto,part,parts,ops,aC,aG,av,ar,aw⟩ 0 0)) (fun i _=>ops.length - (intOf i).toNat)
 case atStart=>exact ⟨0,Nat.zero_le _,rfl,⟨P,HLP.out,rfl⟩,lN.out⟩
 case round=>
  obtain ⟨k,hk1,rfl,HQ,Ir⟩:=hrel
  by_cases aq:k<ops.length
  · obtain ⟨Q,DG,hrun⟩:=HQ.out
    rcases sY.out with h0' | ⟨b,off,rfl,hb,cC⟩
    · rw [h0'] at aq;simp at aq
    have hG:=Ir.out.ag
    have q0:=(hG.cells.1 b (off+k*5) hb).trans (cC.kind k aq)
    have q1:=(hG.cells.1 b (off+k*5+1) hb).trans (cC.key k aq)
    have q2:=(hG.cells.1 b (off+k*5+2) hb).trans (cC.val k aq)
    have q3:=(hG.cells.1 b (off+k*5+3) hb).trans (cC.old k aq)
    have q4:=(hG.cells.1 b (off+k*5+4) hb).trans (cC.di k aq)
    have hbr:=ltT hb hG.size
    have HM:=af (yn ops k aq)
    have hnx:=Pl.z0M aq hrun
    have Bj:Q.length<=1000000:=by
     have:=Pl.Ux (ops.take k) (at_+1) P
     rw [hrun,List.length_take] at this
     dsimp only at this;omega
    obtain ⟨Fk,kt,kf⟩:=DG.tab
    have nS:=af (fun W (g:ae wr W)=>Iq.out W (hG.trans g) Fk cb Q (kt.ag g) Bj _ HM.out)
    have Mb:=af kf
    have BA:=af DG
    have kg:=af hnx
    clear cC hG hnx Bj kt kf DG hrun HQ HM
    generalize bn ops k=c at *
    generalize Pl.bK Q c (at_+1)=r at *
    obtain ⟨Q',ok⟩:=r
    unfold bC.cD bC.vals at nS
    obtain ⟨c0,c1,c2,c3,c4⟩:=c
    dsimp only at *
    have iV:=af Ir.out
    clear Ir
    cases ok with
    | true=>
     go_wp2_with fail
     refine (nS.out _ ((ae.rf wr).alloc _)).mono ?_
     rintro e w6 ⟨rfl,ht⟩
     have zS:=af ((BA.out.more ((ae.rf wr).alloc _)).step Mb.out ht)
     have FT:=af ((iV.out.more ((ae.rf wr).alloc _)).only ht.1 (fun j hj=>by have:=(Mb.out j hj).1;omega))
     have Mc:=af (kg.out.1)
     clear ht q0 q1 q2 q3 q4 nS
     go_wp2_with fail
     go_roundw
     case rel=>exact ⟨k+1,by omega,by go_num,⟨Q',zS.out,Mc.out⟩,FT.out⟩
     case measure=>simp [intOf];omega
    | false=>
     go_wp2_with fail
     refine (nS.out _ ((ae.rf wr).alloc _)).mono ?_
     rintro e w6 ⟨rfl,ht⟩
     have zS:=af ((BA.out.more ((ae.rf wr).alloc _)).step Mb.out ht)
     have FT:=af ((iV.out.more ((ae.rf wr).alloc _)).only ht.1 (fun j hj=>by have:=(Mb.out j hj).1;omega))
     have Mc:=af (kg.out.2 trivial)
     have o0:=zS.out.o0
     have z0:=zS.out.f0
     clear ht q0 q1 q2 q3 q4 nS
     go_wp2_with fail
     obtain ⟨V,hV⟩:∃V,V=w6.setCell ⟨w5.heap.size,0,none⟩ (.int .i64 2):=⟨_,rfl⟩
     have HVE:=af hV
     rw [<-hV]
     have gL:w.heap.size+2<w5.heap.size:=UC
     have gV:aj (fun j=>j=w5.heap.size) w6 V:=by rw [hV];exact aj.setCell w6 ⟨w5.heap.size,0,none⟩ _
     have UD:=af (FT.out.only gV (fun j hj=>by omega))
     have oJ:=af (DD.of UD.out)
     have gW:ae w V:=UD.out.ag
     have Pc:=af (HST.out.seen.ag gW)
     have Iu:Hid (V.cell? ⟨w5.heap.size,0,none⟩=some (.int .i64 2)):=by unfold Hid;have q:=zS.out.o0;rw [hV];simp [go_sem,q]
     have rU:Hid (V.cell? ⟨w5.heap.size,1,none⟩=some (.int .i64 at_)):=by unfold Hid;have q:=zS.out.o1;rw [hV];simp [go_sem,q]
     have Pg:=af (gW.only fun j=>j=st)
     have pM:=af ((gW.cells.1 _ 0 fJ).trans HST.out.c0)
     have H9:=af ((gW.cells.1 _ 1 fJ).trans HST.out.c1)
     have fX:=af ((gW.cells.1 _ 2 fJ).trans HST.out.c2)
     have yH:=af ((gW.cells.1 _ 3 fJ).trans HST.out.c3)
     have DI:=af (fun i=>(gW.cells.2 _ i fJ).trans (HST.out.f0 i))
     have DK:Hid (Pl.dK P ops at_=2):=by unfold Hid Pl.dK;rw [Mc.out,zZ0 (by decide)]
     have BB:Pl.gF P ops at_=P:=by unfold Pl.gF;rw [Mc.out,zZ0 (by decide)]
     have FW:=af (show ∃Gt,bo V Gt tb (Pl.gF P ops at_)/\∀j,Gt j->(Ft j\/w.heap.size<=j)/\¬Fs j/\j≠st/\j≠w.heap.size+2 from ⟨Ft,by rw [BB];exact HST.out.tab.ag gW,fun j hj=>⟨.inl hj,(HST.out.apart j hj).1,(HST.out.apart j hj).2,fun e=>by have:=nP HST.out.tab j hj;omega⟩⟩)
     clear gV gW BB o0 z0
     clear hV
     have DL:∀j,Fs j->j<w.heap.size:=HST.out.seen.lt
     have hns:∀i,¬Fs (w.heap.size+i):=fun i hi=>by have:=DL _ hi;omega
     have ie:¬Fs st:=fun hi=>HST.out.own st hi rfl
     have pU:¬Fs w5.heap.size:=fun hi=>by have:=DL _ hi;omega
     have B0:=aV (S:=Fs) oJ.out.box (hns 0)
     have B1:=aV (S:=Fs) (oJ.out.cT 4 _ rfl) (hns 1)
     have B2:=aV (S:=Fs) (oJ.out.cT 5 _ rfl) (hns 1)
     have B3:=aV (S:=Fs) yH.out ie
     have O0:=aV (S:=Fs) Iu.out pU
     have O1:=aV (S:=Fs) rU.out pU
     have zT:=af hns
     clear DL hns ie pU
     refine kW 11 [10] (aj Fs V) Eq (UA V Fs sb (n+1) (dw S ak ⟨seq,2,at_⟩)) (fun f a=>a.put (some 98) (f 10)) (by kernel_rfl) (by kernel_rfl) (fun _ _=>rfl) ⟨((ae.rf V).drew).only Fs,fun _=>(ae.rf V).drew,fun h=>by cases h⟩ (fun _ _ _ h=>h.only) (fun _=>rfl) (fun _ _ _ _ h g=>g▸h) ?_
     repeat (first
      | refine kV ?_
      | (refine fF ?_;intro K hK;go_big_quiet_op;go_big_quiet_on)
      | (refine fE ?_;simp only [Act.put,sA,sB,sC]))
     refine iH (by rfl) ⟨⟨bH rfl (fun _ a=>a) (fun _ _=>rfl) (fun _=>rfl) ?_,trivial⟩,?_⟩
     · intro L f x hJ hL hd
       have HJ:=af hJ
       have HL:=af hL
       clear hJ hL hd B0 B1 B2 B3 O0 O1
       go_simp
       refine (Bv.out x sb (Pc.out.ag (HJ.out.ahead HL.out)) 2 (by decide)).mono ?_
       rintro e x' ⟨rfl,ho,tJ⟩
       exact ⟨_,rfl,HJ.out.only.then ho,fun h=>absurd h (by rw [yE];decide),fun _=>⟨fT _ _ _,tJ⟩⟩
     intro f x hJ
     obtain ⟨f10,tJ⟩:=hJ.told rfl
     have ho:=hJ.only
     have hlV:=oJ.out.lt
     have a0:=(ho.cell (by omega) (zT.out 2) 0).trans oJ.out.a0
     have a1:=(ho.cell (by omega) (zT.out 2) 1).trans oJ.out.a1
     have z0:=(ho.frozen (by omega) (zT.out 2) 0).trans oJ.out.f0
     have z1:=(ho.frozen (by omega) (zT.out 2) 1).trans oJ.out.f1
     have HO:=af ho
     have Ph:=af tJ
     clear hJ B0 B1 B2 B3 O0 O1 ho tJ
     dsimp only [List.drop]
     simp only [Act.put,sA,sC,sB]
     rw [f10]
     clear f10
     go_wp2_with fail
     refine bodyPost_ret (v:=.tuple #[.agg #[.int .i64 2,.int .i64 at_],.nilIface]) (by simp [results,Tryz.results94,go_sem,a0,a1,z0,z1]) rfl ⟨?_,?_⟩
     · rw [show Pl.dK P ops at_=2 from DK.out]
     · rw [show Pl.dK P ops at_=2 from DK.out]
       refine Uz HST.out Pg.out pM.out H9.out fX.out yH.out DI.out HO.out Ph.out ?_ FW.out (Pl.Uy HST.out.good _ _)
       exact (aj.setCell x ⟨w.heap.size+2,0,none⟩ _).then (aj.setCell _ ⟨w.heap.size+2,1,none⟩ _)
  · obtain rfl:k=ops.length:=by omega
    obtain ⟨Q,DG,hrun⟩:=HQ.out
    rw [zQ2] at hrun
    have cE:=af hrun
    have BA:=af DG
    have iV:=af Ir.out
    have o0:=DG.o0
    have b0:=iV.out.box
    have s0:=(iV.out.ag.cells.1 _ 0 fJ).trans HST.out.c0
    have y0:=(iV.out.ag.cells.2 _ 0 fJ).trans (HST.out.f0 0)
    have HYA:=af (fun i=>(iV.out.ag.cells.2 _ i fJ).trans (HST.out.f0 i))
    clear DG hrun HQ Ir
    go_wp2_with fail
    obtain ⟨V,hV⟩:∃V,V=wr.setCell ⟨st,0,none⟩ (.pointer (some ⟨cb,0,none⟩)):=⟨_,rfl⟩
    have HVE:=af hV
    rw [<-hV]
    have gr:ae w wr:=iV.out.ag
    have gV:aj (fun j=>j=st) wr V:=by rw [hV];exact aj.setCell wr ⟨st,0,none⟩ _
    have oJ:=af ((DD.of iV.out).only gV (fun j hj=>by omega))
    have Pc:=af ((HST.out.seen.ag gr).kept gV (fun j hj e=>HST.out.own j hj e))
    have Iu:Hid (V.cell? ⟨w5.heap.size,0,none⟩=some (.int .i64 1)):=(gV.cell (aN BA.out.o0) (by show ¬w5.heap.size=st;omega) 0).trans BA.out.o0
    have rU:Hid (V.cell? ⟨w5.heap.size,1,none⟩=some (.int .i64 at_)):=(gV.cell (aN BA.out.o0) (by show ¬w5.heap.size=st;omega) 1).trans BA.out.o1
    have Pg:=af ((gr.only fun j=>j=st).then gV)
    have pM:Hid (V.cell? ⟨st,0,none⟩=some (.pointer (some ⟨cb,0,none⟩))):=by unfold Hid;rw [hV];simp [go_sem,s0]
    have H9:Hid (V.cell? ⟨st,1,none⟩=some (.string lo)):=by unfold Hid;have q:=(gr.cells.1 _ 1 fJ).trans HST.out.c1;rw [hV];simp [go_sem,q]
    have fX:Hid (V.cell? ⟨st,2,none⟩=some (.string hi)):=by unfold Hid;have q:=(gr.cells.1 _ 2 fJ).trans HST.out.c2;rw [hV];simp [go_sem,q]
    have yH:Hid (V.cell? ⟨st,3,none⟩=some (.pointer (some ⟨sb,0,none⟩))):=by unfold Hid;have q:=(gr.cells.1 _ 3 fJ).trans HST.out.c3;rw [hV];simp [go_sem,q]
    have DI:Hid (∀i,V.frozen? ⟨st,i,none⟩=false):=by unfold Hid;intro i;rw [hV,World.frozen?_setCell];exact HYA.out i
    have DK:Hid (Pl.dK P ops at_=1):=by unfold Hid Pl.dK;rw [cE.out,zZ1 rfl]
    have BB:Pl.gF P ops at_=Q:=by unfold Pl.gF;rw [cE.out,zZ1 rfl]
    obtain ⟨Fk,kt,kf⟩:=BA.out.tab
    have FW:=af (show ∃Gt,bo V Gt cb (Pl.gF P ops at_)/\∀j,Gt j->(Ft j\/w.heap.size<=j)/\¬Fs j/\j≠st/\j≠w.heap.size+2 from ⟨Fk,by rw [BB];exact kt.kept gV (fun j hj e=>by have:=(kf j hj).1;omega),fun j hj=>by
     have h1:=(kf j hj).1
     exact ⟨.inr (by omega),fun hs=>by have:=HST.out.seen.lt j hs;omega,by omega,by omega⟩⟩)
    clear gV gr BB kt kf o0 b0 s0 y0
    clear hV
    have DL:∀j,Fs j->j<w.heap.size:=HST.out.seen.lt
    have hns:∀i,¬Fs (w.heap.size+i):=fun i hi=>by have:=DL _ hi;omega
    have ie:¬Fs st:=fun hi=>HST.out.own st hi rfl
    have pU:¬Fs w5.heap.size:=fun hi=>by have:=DL _ hi;omega
    have B0:=aV (S:=Fs) oJ.out.box (hns 0)
    have B1:=aV (S:=Fs) (oJ.out.cT 4 _ rfl) (hns 1)
    have B2:=aV (S:=Fs) (oJ.out.cT 5 _ rfl) (hns 1)
    have B3:=aV (S:=Fs) yH.out ie
    have O0:=aV (S:=Fs) Iu.out pU
    have O1:=aV (S:=Fs) rU.out pU
    have zT:=af hns
    clear DL hns ie pU
    refine kW 11 [10] (aj Fs V) Eq (UA V Fs sb (n+1) (dw S ak ⟨seq,1,at_⟩)) (fun f a=>a.put (some 98) (f 10)) (by kernel_rfl) (by kernel_rfl) (fun _ _=>rfl) ⟨((ae.rf V).drew).only Fs,fun _=>(ae.rf V).drew,fun h=>by cases h⟩ (fun _ _ _ h=>h.only) (fun _=>rfl) (fun _ _ _ _ h g=>g▸h) ?_
    repeat (first
     | refine kV ?_
     | (refine fF ?_;intro K hK;go_big_quiet_op;go_big_quiet_on)
     | (refine fE ?_;simp only [Act.put,sA,sB,sC]))
    refine iH (by rfl) ⟨⟨bH rfl (fun _ a=>a) (fun _ _=>rfl) (fun _=>rfl) ?_,trivial⟩,?_⟩
    · intro L f x hJ hL hd
      have HJ:=af hJ
      have HL:=af hL
      clear hJ hL hd B0 B1 B2 B3 O0 O1
      go_simp
      refine (Bv.out x sb (Pc.out.ag (HJ.out.ahead HL.out)) 1 (by decide)).mono ?_
      rintro e x' ⟨rfl,ho,tJ⟩
      exact ⟨_,rfl,HJ.out.only.then ho,fun h=>absurd h (by rw [yE];decide),fun _=>⟨fT _ _ _,tJ⟩⟩
    intro f x hJ
    obtain ⟨f10,tJ⟩:=hJ.told rfl
    have ho:=hJ.only
    have hlV:=oJ.out.lt
    have a0:=(ho.cell (by omega) (zT.out 2) 0).trans oJ.out.a0
    have a1:=(ho.cell (by omega) (zT.out 2) 1).trans oJ.out.a1
    have z0:=(ho.frozen (by omega) (zT.out 2) 0).trans oJ.out.f0
    have z1:=(ho.frozen (by omega) (zT.out 2) 1).trans oJ.out.f1
    have HO:=af ho
    have Ph:=af tJ
    clear hJ B0 B1 B2 B3 O0 O1 ho tJ
    dsimp only [List.drop]
    simp only [Act.put,sA,sC,sB]
    rw [f10]
    clear f10
    go_wp2_with fail
    refine bodyPost_ret (v:=.tuple #[.agg #[.int .i64 1,.int .i64 at_],.nilIface]) (by simp [results,Tryz.results94,go_sem,a0,a1,z0,z1]) rfl ⟨?_,?_⟩
    · rw [show Pl.dK P ops at_=1 from DK.out]
    · rw [show Pl.dK P ops at_=1 from DK.out]
      refine Uz HST.out Pg.out pM.out H9.out fX.out yH.out DI.out HO.out Ph.out ?_ FW.out (Pl.Uy HST.out.good _ _)
      exact (aj.setCell x ⟨w.heap.size+2,0,none⟩ _).then (aj.setCell _ ⟨w.heap.size+2,1,none⟩ _)
end
end Go.Proofs.YtbnofojapimfcaaGreatDoor
