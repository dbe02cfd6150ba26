/- Part 33 of the proof. -/
import Derived.Test.YtbnofojapimfcaaGreatDoorFinWatchStepsQ29
import Derived.Test.YtbnofojapimfcaaGreatDoorFinWatchStepsQ31
import Derived.Test.YtbnofojapimfcaaGreatDoorFinWatchStepsQ32
set_option linter.unusedVariables false
set_option linter.unusedSectionVars false
set_option linter.unusedSimpArgs false
set_option maxRecDepth 100000
set_option maxHeartbeats 16000000
namespace Go.Proofs.YtbnofojapimfcaaGreatDoor
section
open Go.RowKit Go.Maps
attribute [local go_sem] Oper.semAt_some aT
theorem bQ.fP {W:World} {L:Nat->Nat} {k ab n:Nat} {A:bc} (h:bQ W L k ab n A):∀i P S,A.st i=some (P,S)->Pl.ct P:=fun q P S hq=>by
 obtain ⟨sb,mb,nb,f,st,h⟩:=h
 obtain ⟨_,c,_,_,Ft,Fs,m,_,⟨tb,sb',hT⟩,_⟩:=h.states q P S hq
 exact FM hT.tab
theorem bw.len {A:bc} {m:Nat} (h:bw A m) (hm:m<=120):∀i P S,A.st i=some (P,S)->P.length<=1000:=fun q P S hA=>by
 have hq:=h.lt (i:=q) (by rw [hA];simp)
 have a:=Eg A.st q (by omega)
 have b:=h.few
 rw [hA] at a
 unfold fS at a
 dsimp only at a
 omega
theorem VN (E:Nat->Addr) {W:World} (hE:aY jC E W) {L:Nat->Nat} {k ab n m0:Nat} {A:bc} (h:bQ W L k ab n A) (bq:bw A m0) (hm0:m0<=120) (key:ByteArray) (hk:key.size<=70368744177664):
    Calls Tryz.prog 26 #[.pointer (some ⟨ab,0,none⟩),.string key] W fun e w'=>e=.returned (.tuple #[((Pl.aS A key).getD Pr.none).agg,.bool (Pl.aS A key).isSome])/\ae W w':=by
 have hl:A.sh.xs.length<=1000:=by have:=bq.inv.len;omega
 by_cases hn:Pl.kx A.sh.xs key<0
 · rw [Pl.Vy hn]
   exact z4y E (Mz hE) h hl key hk hn
 · obtain ⟨i,hi,af,P,S,hP,hg⟩:=Pl.Qq bq hn
   rw [hg]
   exact z2Z E (Mz hE) h hl key hk hn i (by omega) af hP (bq.len hm0 i P S hP)
structure AuR (w0 W:World) (ab n m:Nat) (A:bc):Prop where
 ag:ae w0 W
 ex:∃L,(∀j,j<w0.heap.size->L j=0)/\(∀j,L j<=200)/\bQ W L 1 ab n A
 ok:bw A m
 ev:∀u∈A.sh.evs,u.oneCell'=true
structure j0t (w0 w1 W:World) (ab cb n n2 m m2:Nat) (A C:bc):Prop where
 ag:ae w0 W
 size:w0.heap.size<=w1.heap.size/\w1.heap.size<=W.heap.size
 ex:∃L,(∀j,j<w0.heap.size->L j=0)/\(∀j,j<w1.heap.size->L j<=200)/\bQ W L 1 ab n A/\bQ W L 201 cb n2 C
 ok:bw A m
 ev:∀u∈A.sh.evs,u.oneCell'=true
 ok2:bw C m2
 ev2:∀u∈C.sh.evs,u.oneCell'=true
section
variable {w0 w1 W U:World} {ab cb n n2 m m2:Nat} {A C:bc}
end
end
section
open Go.RowKit Go.Maps
attribute [local go_sem] Oper.semAt_some aT
theorem z1T {S:Nat->Bool} (hS:iW S) (E:Nat->Addr) (e:En) (w:World) (hE:aY S E w) (hA:bG w e) (hr:Pl.bR e=false):
    Calls Tryz.prog 72 #[e.agg] w fun r w'=>r=.returned (.slice none 0 0)/\ae w w':=by
 have HR:=af (fun W (g:ae w W)=>py hS E e W (hE.ag g) (hA.ag g))
 rw [hr] at HR
 clear hE hA hr
 obtain ⟨kind,ai,other,server,ak,seq,key,upto,part,parts,ops,aC,aG,av,ar,aw⟩:=e
 unfold En.agg En.vals at *
 dsimp only at *
 go_in
 go_wp2_with fail
 refine (HR.out _ ((ae.rf w).alloc _)).mono ?_
 rintro e w1 ⟨rfl,aA⟩
 have bI:=af (((ae.rf w).alloc _).trans aA)
 clear aA HR
 go_wp2_with fail
 go_ret
 exact ⟨rfl,bI.out⟩
theorem wZ (bb:Nat) (w:World):Calls Tryz.prog 71 #[.slice none 0 0,.func (.func 73) #[] #[.pointer (some ⟨bb,0,none⟩)]] w fun e w'=>e=.returned (.slice none 0 0)/\ae w w':=by
 have HI:=af (UW (fun _=>true) bb none 0 [] w (.inl rfl) (by simp) (fun _ _ k hk=>by cases hk))
 have e0:b7 (fun _:ByteArray=>true) []= -1:=rfl
 rw [e0] at HI
 clear e0
 rw [zK3] at HI
 go_in
 go_wp2_with fail
 refine HI.out.mono ?_
 rintro e w1 ⟨rfl,hg⟩
 go_wp2_with fail
 go_ret
 exact ⟨rfl,hg⟩
namespace Pl
structure gG (lo hi:ByteArray) (e:En) (ks:List ByteArray):Prop where
 gD:ks.Pairwise fun a b=>bE a b<0
 mem:∀k,k∈ks↔e.kind=1/\bR e=true/\(∃o∈e.ops,o.key=k)/\aL lo hi k=true
 few:ks.length<=8
theorem z3G {e:En} (h:bR e=true) (hk:e.kind=1):1<=e.ops.length/\e.ops.length<=8:=by
 unfold bR at h
 rw [zZ1 hk] at h
 unfold jO at h
 simp only [Bool.and_eq_true] at h
 have:=(IP _ _).1 h.1.2
 omega
theorem VO {lo hi:ByteArray} {e:En} (h:¬(e.kind=1/\bR e=true)):gG lo hi e []:=⟨by simp,fun k=>⟨fun q=>(by cases q),fun q=>absurd ⟨q.1,q.2.1⟩ h⟩,by simp⟩
end Pl
structure mW (W:World) (wb ab:Nat) (lo hi:ByteArray) (told:Int):Prop where
 c0:W.cell? ⟨wb,0,none⟩=some (.pointer (some ⟨ab,0,none⟩))
 c1:W.cell? ⟨wb,1,none⟩=some (.string lo)
 c2:W.cell? ⟨wb,2,none⟩=some (.string hi)
 c3:W.cell? ⟨wb,3,none⟩=some (.int .i64 told)
 fz:∀i,W.frozen? ⟨wb,i,none⟩=false
theorem mW.kept {W W':World} {T:Nat->Prop} {wb ab:Nat} {lo hi:ByteArray} {told:Int} (h:mW W wb ab lo hi told) (g:aj T W W') (hT:¬T wb):mW W' wb ab lo hi told:=
 have hl:=aN h.c0
 ⟨(g.cell hl hT 0).trans h.c0,(g.cell hl hT 1).trans h.c1,(g.cell hl hT 2).trans h.c2,(g.cell hl hT 3).trans h.c3,fun i=>(g.frozen hl hT i).trans (h.fz i)⟩
theorem mW.ag {W W':World} {wb ab:Nat} {lo hi:ByteArray} {told:Int} (h:mW W wb ab lo hi told) (g:ae W W'):mW W' wb ab lo hi told:=h.kept (g.only fun _=>False) (fun h=>h)
theorem z4M (E:Nat->Addr) (e:En) {w:World} (hE:aY jC E w) (hA:bG w e) (hz:∀o∈e.ops,o.key.size<=70368744177664) {wb ab:Nat} {lo hi:ByteArray} {told:Int} (h:mW w wb ab lo hi told) (hl:lo.size<=70368744177664) (hh:hi.size<=70368744177664):
    Calls Tryz.prog 35 #[.pointer (some ⟨wb,0,none⟩),e.agg] w fun r w'=>ae w w'/\∃a cap ks,r=.returned (.slice a ks.length cap)/\zQ w' a ks/\Pl.gG lo hi e ks:=by
 by_cases hk:e.kind=1
 · by_cases hr:Pl.bR e=true
   · have fY:=Pl.z3G hr hk
     have HK:=af (fun X (g:ae w X)=>K5 Gl E e X (hE.ag g) (hA.ag g) hk hr)
     have HE:=af hE
     have HW:=af h
     have HZ:=af (show ∀k∈e.ops.map bC.key,k.size<=70368744177664 from fun k hk=>by
      obtain ⟨o,ho,rfl⟩:=zZ4.1 hk
      exact hz o ho)
     have hwb:=aN h.c0
     have HAS:=af (show ∀ks:List ByteArray,ks.Pairwise (fun a b=>Pl.bE a b<0)->(∀k,k∈ks↔k∈(e.ops.map bC.key).filter fun c=>!(!Pl.aL lo hi c))->ks.length<=8->Pl.gG lo hi e ks from fun ks h1 h2 h3=>⟨h1,fun k=>by
      rw [h2,List.mem_filter,zZ4]
      constructor
      · rintro ⟨⟨o,ho,e1⟩,q⟩
        exact ⟨hk,hr,⟨o,ho,e1⟩,by simpa using q⟩
      · rintro ⟨_,_,⟨o,ho,e1⟩,q⟩
        exact ⟨⟨o,ho,e1⟩,by simpa using q⟩,h3⟩)
     have hfl:(e.ops.map bC.key).length=e.ops.length:=List.length_map _
     generalize hxs:e.ops.map bC.key=xs at *
     rw [<-hfl] at HK
     rw [<-hfl] at fY
     clear hE hA hz h hr hxs hfl
     obtain ⟨kind,ai,other,server,ak,seq,key,upto,part,parts,ops,aC,aG,av,ar,aw⟩:=e
     unfold En.agg En.vals at *
     dsimp only at *
     subst hk
     go_in
     go_wp2_with fail
     obtain ⟨Y,hY⟩:∃Y,Y=(w.alloc (.cells #[.pointer (some ⟨wb,0,none⟩)] 27)).alloc (.cells #[.int .i64 1,.int .i64 ai,.int .i64 other,.int .i64 server,.int .i64 ak,.int .i64 seq,.slice aC ops.length aG,.string key,.int .i64 upto,.int .i64 part,.int .i64 parts,.slice av ar aw] 39):=⟨_,rfl⟩
     have gY:ae w Y:=by rw [hY];exact ((ae.rf w).alloc _).alloc _
     obtain ⟨bb,hbb⟩:∃bb,bb=w.heap.size:=⟨_,rfl⟩
     have bz:Y.cell? ⟨bb,0,none⟩=some (.pointer (some ⟨wb,0,none⟩)):=by rw [hY,hbb];simp [go_sem]
     have j0u:w.heap.size<=bb:=by omega
     rw [<-hY,<-hbb]
     refine (HK.out Y gY).mono ?_
     rintro r w1 ⟨⟨v,rfl,aI⟩,aA⟩
     have bI:=af (gY.trans aA)
     have Ev:=af (show iC w1 bb wb lo hi from ⟨(aA.cells.1 _ 0 (aN bz)).trans bz,(bI.out.cells.1 _ 1 hwb).trans HW.out.c1,(bI.out.cells.1 _ 2 hwb).trans HW.out.c2⟩)
     have MB:=gY.size
     have lG:bb<Y.heap.size:=aN bz
     obtain ⟨b,cap,rfl,QC,hbl⟩:=aI.form (by omega)
     have fD:=af aI
     have Ew:bb≠b:=by omega
     have Jy:wb≠b:=by omega
     clear aI aA hY hbb bz gY HK
     go_wp2_with fail
     have jA:=af (Aa (fun k=>!Pl.aL lo hi k) bb Y.heap.size b cap xs w1 fD.out (by omega) (by omega) (fun X hO k hk=>wG jC E ⟨rfl,rfl,rfl,rfl⟩ lo hi k X hl hh (HZ.out k hk) (HE.out.ag (((bI.out.only (fun j=>w.heap.size<=j)).then (hO.mono fun j hj=> .inl (by omega))).ag fun j hj=>hj)) bb wb ⟨(hO.cell (aN Ev.out.box) (fun e=>Ew e) 0).trans Ev.out.box,(hO.cell (aN Ev.out.c1) (fun e=>Jy e) 1).trans Ev.out.c1,(hO.cell (aN Ev.out.c1) (fun e=>Jy e) 2).trans Ev.out.c2⟩))
     have mf:=af (show ∀c∈xs.filter (fun c=>!(!Pl.aL lo hi c)),Pl.Ok c/\c.size<=70368744177664 from fun c hc=>by
      obtain ⟨h1,h2⟩:=List.mem_filter.1 hc
      have h3:Pl.aL lo hi c=true:=by simpa using h2
      exact ⟨Pl.sk (Pl.sf h3).2.1,HZ.out c h1⟩)
     have hyl:(xs.filter (fun c=>!(!Pl.aL lo hi c))).length<=xs.length:=zJ9 _ _
     generalize xs.filter (fun c=>!(!Pl.aL lo hi c))=ys at *
     refine jA.out.mono ?_
     rintro r w2 ⟨rfl,hrow2,eO⟩
     have HG2:=af (((bI.out.only (fun j=>w.heap.size<=j)).then (eO.mono fun j hj=> .inl (show w.heap.size<=j by omega))).ag fun j hj=>hj)
     have uN:=af hrow2
     have hw2:=HG2.out.size
     have hY2:Y.heap.size<=w2.heap.size:=by have:=eO.size;omega
     clear hrow2 eO jA fD Ev
     by_cases h0:ys.length=0
     · have hys:=zX1 h0
       subst hys
       have HF:=af (HAS.out [] (by simp) (fun k=>Iff.rfl) (by simp))
       rw [zK3]
       clear h0 HAS mf
       go_wp2_with fail
       refine (S7 _ _ _ _).mono ?_
       rintro r w3 ⟨rfl,rfl⟩
       go_wp2_with fail
       refine (UT _ _ _).mono ?_
       rintro r w4 ⟨rfl,rfl⟩
       go_wp2_with fail
       go_ret
       exact ⟨HG2.out,some ⟨b,0,none⟩,cap,[],rfl,.inl rfl,HF.out⟩
     · have HS:=af (uz w2 Y.heap.size b cap ys uN.out (by omega) (by omega) mf.out)
       go_wp2_with fail
       refine HS.out.mono ?_
       rintro r w3 ⟨rfl,mV,zs,hp,hz3,hrow3⟩
       have Ug:=hp.length_eq
       have HC:=af (z2y w3 Y.heap.size b cap zs hrow3 (by omega) (by omega) (fun c hc=>(mf.out c (hp.mem_iff.1 hc)).1) (hz3.imp fun {a b} h=>by omega))
       have ey:=af (((HG2.out.only (fun j=>w.heap.size<=j)).then (mV.mono fun j hj=> .inl (show w.heap.size<=j by omega))).ag fun j hj=>hj)
       have HM:=af (fun k=>(hp.mem_iff (a:=k)))
       rw [Ug] at HC
       clear mV hrow3 hz3 HS uN
       go_wp2_with fail
       refine HC.out.mono ?_
       rintro r w4 ⟨ks,rfl,VP,hrow4,hrise,hmem,hkl⟩
       obtain ⟨a4,c4,e4,hst⟩:=Im hrow4
       cases e4
       have kG:=af (((ey.out.only (fun j=>w.heap.size<=j)).then (VP.mono fun j hj=> .inl (show w.heap.size<=j by omega))).ag fun j hj=>hj)
       have HF:=af (And.intro hst (HAS.out ks hrise (fun k=>(hmem k).trans (HM.out k)) (by omega)))
       clear VP hrow4 hrise hmem hst HC hkl
       go_wp2_with fail
       go_ret
       exact ⟨kG.out,_,_,ks,rfl,HF.out.1,HF.out.2⟩
   · have hr':Pl.bR e=false:=by simpa using hr
     have HK:=af (fun X (g:ae w X)=>z1T Gl E e X (hE.ag g) (hA.ag g) hr')
     have HF:=af (Pl.VO (lo:=lo) (hi:=hi) (e:=e) fun q=>hr q.2)
     generalize e0:Pl.gG lo hi e=AS at *
     clear hE hA hz h hr hr' e0
     obtain ⟨kind,ai,other,server,ak,seq,key,upto,part,parts,ops,aC,aG,av,ar,aw⟩:=e
     unfold En.agg En.vals at *
     dsimp only at *
     subst hk
     go_in
     go_wp2_with fail
     refine (HK.out _ (((ae.rf w).alloc _).alloc _)).mono ?_
     rintro r w1 ⟨rfl,aA⟩
     have bI:=af ((((ae.rf w).alloc _).alloc _).trans aA)
     clear aA HK
     go_wp2_with fail
     refine (wZ _ _).mono ?_
     rintro r w2 ⟨rfl,aB⟩
     have HG2:=af (bI.out.trans aB)
     clear aB
     go_wp2_with fail
     refine (S7 _ _ _ _).mono ?_
     rintro r w3 ⟨rfl,rfl⟩
     go_wp2_with fail
     refine (UT _ _ _).mono ?_
     rintro r w4 ⟨rfl,rfl⟩
     go_wp2_with fail
     go_ret
     exact ⟨HG2.out,none,0,[],rfl,.inl rfl,HF.out⟩
 · have HF:=af (Pl.VO (lo:=lo) (hi:=hi) (e:=e) fun q=>hk q.1)
   generalize e0:Pl.gG lo hi e=AS at *
   clear hE hA hz h e0
   obtain ⟨kind,ai,other,server,ak,seq,key,upto,part,parts,ops,aC,aG,av,ar,aw⟩:=e
   unfold En.agg En.vals at *
   dsimp only at *
   go_in
   go_wp2_with fail
   go_ret
   exact ⟨((ae.rf w).alloc _).alloc _,none,0,[],rfl,.inl rfl,HF.out⟩
def QH (y:World) (v:Value) (u:World):Prop:=ae y u/\∃ab,v=.pointer (some ⟨ab,0,none⟩)/\∀(k:Nat) (L:Nat->Nat),∃L',(∀j,j<y.heap.size->L' j=L j)/\(∀j,y.heap.size<=j->br k (L' j))/\bQ u L' k ab 1 bc.init
theorem VV (E:Nat->Addr) {w:World} (hE:aY jC E w) (lo hi:ByteArray) (hl:lo.size<=70368744177664) (hh:hi.size<=70368744177664) (hr:Pl.bf lo hi=true):
    Calls Tryz.prog 7 #[.agg #[.string lo,.string hi]] w fun e w'=>∃wb ab,e=.returned (.tuple #[.pointer (some ⟨wb,0,none⟩),.nilIface])/\ae w w'/\mW w' wb ab lo hi 0/\∀(k:Nat) (L:Nat->Nat),∃L',(∀j,j<w.heap.size->L' j=L j)/\(∀j,w.heap.size<=j->j≠wb->br k (L' j))/\L' wb=k+149/\bQ w' L' k ab 1 bc.init:=by
 have HR:=af (fun X (g:ae w X)=>jm jC E ⟨rfl,rfl,rfl,rfl⟩ lo hi X hl hh (hE.ag g))
 rw [hr] at HR
 have HE:=af hE
 clear hE hr
 go_in
 go_wp2_with fail
 obtain ⟨Y,hY⟩:∃Y,Y=w.alloc (.cells #[.string lo,.string hi] 23):=⟨_,rfl⟩
 have gY:ae w Y:=by rw [hY];exact (ae.rf w).alloc _
 obtain ⟨xb,hxb⟩:∃xb,xb=w.heap.size:=⟨_,rfl⟩
 have x0:Y.cell? ⟨xb,0,none⟩=some (.string lo):=by rw [hY,hxb];simp [go_sem]
 have x1:Y.cell? ⟨xb,1,none⟩=some (.string hi):=by rw [hY,hxb];simp [go_sem]
 rw [<-hY,<-hxb]
 clear hY hxb
 have dA:=aN x0
 refine (HR.out Y gY).mono ?_
 rintro e w1 ⟨rfl,aA⟩
 have x0:=(aA.cells.1 _ 0 dA).trans x0
 have x1:=(aA.cells.1 _ 1 dA).trans x1
 have bI:=af (gY.trans aA)
 have hx1:=ltT dA aA.size
 clear aA gY HR dA
 go_upto_region 3 with fail
 have HN:=af (fun X (g:ae w1 X)=>wT E X (Mz (HE.out.ag (bI.out.trans g))))
 have X0:=aU x0
 have X1:=aU x1
 refine kW 2 [0] (ae w1) Eq (JE 0 (ae w1) (QH w1) (fun _=>none)) (fun f a=>a.put (some 8) (f 0)) (by kernel_rfl) (by kernel_rfl) (fun _ _=>rfl) (JE.start (ae.rf w1).drew _) (fun L0 _ _ h=>?_) (fun _=>rfl) (fun _ _ _ _ h g=>g▸h) ?_
 · cases hL:L0 0 with
   | false=>exact h.pre hL
   | true=>exact (h.post hL).1
 repeat (first
  | refine kV ?_
  | (refine fF ?_;intro K hK;go_big_quiet_op;go_big_quiet_on)
  | (refine fE ?_;simp only [Act.put,sA,sB,sC]))
 refine iH (by rfl) ⟨⟨bH rfl (fun _ a=>a) (fun _ _=>rfl) (fun _=>rfl) ?_,trivial⟩,?_⟩
 · intro L0 f0 u hJ hL hd
   have HJ:=af hJ
   have HL:=af hL
   clear hJ hL hd X0 X1
   go_simp
   have hg:=HJ.out.pre HL.out
   refine (HN.out u hg).mono ?_
   rintro e u' ⟨ab,rfl,aB,h⟩
   have hs:=hg.size
   refine ⟨_,rfl,HJ.out.call HL.out rfl ⟨hg.trans aB,ab,rfl,fun k L=>?_⟩⟩
   obtain ⟨L',h1,h2,h3⟩:=h k (fun j=>if j<w1.heap.size then L j else k)
   refine ⟨L',fun j hj=>(h1 j (by omega)).trans (zZ1 hj),fun j hj=>?_,h3⟩
   rcases Nat.lt_or_ge j u.heap.size with q | q
   · rw [h1 j q,zZ0 (by omega)];unfold br;omega
   · exact h2 j q
 intro f0 u hJ
 obtain ⟨gu,ab,e0,hA⟩:=hJ.post rfl
 have kJ:=af gu
 have HA:=af hA
 clear hJ gu hA X0 X1 HN
 dsimp only [List.drop]
 simp only [Act.put,sA,sC,sB]
 rw [e0]
 clear e0
 go_wp2_with fail
 have HF:Hid (ae w (u.alloc (.cells #[.pointer (some ⟨ab,0,none⟩),.string lo,.string hi,.int .i64 0] 53))/\mW (u.alloc (.cells #[.pointer (some ⟨ab,0,none⟩),.string lo,.string hi,.int .i64 0] 53)) u.heap.size ab lo hi 0/\∀(k:Nat) (L:Nat->Nat),∃L',(∀j,j<w.heap.size->L' j=L j)/\(∀j,w.heap.size<=j->j≠u.heap.size->br k (L' j))/\L' u.heap.size=k+149/\bQ (u.alloc (.cells #[.pointer (some ⟨ab,0,none⟩),.string lo,.string hi,.int .i64 0] 53)) L' k ab 1 bc.init):=by
  have gA:ae u (u.alloc (.cells #[.pointer (some ⟨ab,0,none⟩),.string lo,.string hi,.int .i64 0] 53)):=(ae.rf u).alloc _
  have s1:=bI.out.size
  have s2:=kJ.out.size
  refine ⟨(bI.out.trans kJ.out).trans gA,⟨by simp [go_sem],by simp [go_sem],by simp [go_sem],by simp [go_sem],fun i=>by simp [go_sem]⟩,fun k L=>?_⟩
  obtain ⟨L',h1,h2,h3⟩:=HA.out k (fun j=>if j<w.heap.size then L j else k)
  refine ⟨fun j=>if j=u.heap.size then k+149 else L' j,fun j hj=>?_,fun j hj hne=>?_,zZ1 rfl,h3.kept (gA.only fun _=>False) (fun _ _ h=>h.elim) fun j hj=>zZ0 (by omega)⟩
  · dsimp only
    rw [zZ0 (by omega),h1 j (by omega),zZ1 hj]
  · dsimp only
    rw [zZ0 hne]
    rcases Nat.lt_or_ge j w1.heap.size with q | q
    · rw [h1 j q,zZ0 (by omega)];unfold br;omega
    · exact h2 j q
 go_ret2
 exact ⟨_,ab,rfl,HF.out.1,HF.out.2.1,HF.out.2.2⟩
theorem xd (E:Nat->Addr) {w:World} (hE:aY jC E w) (lo hi:ByteArray) (hl:lo.size<=70368744177664) (hh:hi.size<=70368744177664) (hr:Pl.bf lo hi=false):
    Calls Tryz.prog 7 #[.agg #[.string lo,.string hi]] w fun e w'=>e=.returned (.tuple #[.pointer none,aX E 4])/\ae w w':=by
 have HR:=af (fun X (g:ae w X)=>jm jC E ⟨rfl,rfl,rfl,rfl⟩ lo hi X hl hh (hE.ag g))
 rw [hr] at HR
 have g4:w.cell? ⟨0,0,none⟩=some (.iface 337 (.pointer (some (E 4)))):=hE.cell 4 rfl
 have b4:=aN g4
 clear hE hr
 go_in
 go_wp2_with fail
 refine (HR.out _ ((ae.rf w).alloc _)).mono ?_
 rintro e w1 ⟨rfl,aA⟩
 have hG:=((ae.rf w).alloc _).trans aA
 have g4:=(hG.cells.1 _ 0 b4).trans g4
 have b4:=ltT b4 hG.size
 have HG:=af hG
 clear aA hG HR
 go_wp2_with fail
 go_region
 go_wp2_with fail
 go_ret2
 exact ⟨rfl,HG.out.drew⟩
theorem VW {w:World} {wb ab:Nat} {lo hi:ByteArray} {told:Int} (h:mW w wb ab lo hi told):
    Calls Tryz.prog 16 #[.pointer (some ⟨wb,0,none⟩)] w fun e w'=>e=.returned (.int .i64 told)/\ae w w':=by
 have c3:=h.c3
 have hb:=aN c3
 clear h
 go_in
 go_wp2_with fail
 go_ret
 exact ⟨rfl,ae.rf _⟩
def Aq (A:bc) (at':Int) (k:ByteArray):Cg:=⟨at',k,((Pl.aS A k).getD Pr.none).key,((Pl.aS A k).getD Pr.none).val,((Pl.aS A k).getD Pr.none).di,⟨#[]⟩,⟨#[]⟩,0,(Pl.aS A k).isSome,false⟩
def sF (A B:bc) (at':Int) (k:ByteArray):Cg:=⟨at',k,((Pl.aS A k).getD Pr.none).key,((Pl.aS A k).getD Pr.none).val,((Pl.aS A k).getD Pr.none).di,((Pl.aS B k).getD Pr.none).key,((Pl.aS B k).getD Pr.none).val,((Pl.aS B k).getD Pr.none).di,(Pl.aS A k).isSome,(Pl.aS B k).isSome⟩
def lS (A B:bc) (at':Int) (ks:List ByteArray):List Cg:=ig (ks.map (sF A B at'))
def fw (A B:bc) (at':Int) (ks:List ByteArray) (i:Nat):List Cg:=(ks.take i).map (sF A B at')++(ks.drop i).map (Aq A at')
theorem xe (A B:bc) (at':Int) (ks:List ByteArray) (i:Nat):(fw A B at' ks i).length=ks.length:=by
 unfold fw
 rw [zX8,List.length_map,List.length_map,<-zX8,List.take_append_drop]
theorem QI (A B:bc) (at':Int) (ks:List ByteArray) (i:Nat) (h:i<ks.length):bA (fw A B at' ks i) i=Aq A at' ks[i]:=by
 unfold bA fw
 rw [List.getElem?_append_right (by rw [List.length_map,List.length_take];omega),List.length_map,List.length_take,zX4 (by omega),Nat.sub_self,List.getElem?_map,List.getElem?_drop,zX3,List.getElem?_eq_getElem h]
 rfl
theorem z3b (A B:bc) (at':Int) (ks:List ByteArray) (i:Nat) (h:i<ks.length):fw A B at' ks (i+1)=(fw A B at' ks i).set i (sF A B at' ks[i]):=by
 unfold fw
 rw [List.set_append_right _ _ (by rw [List.length_map,List.length_take];omega),List.length_map,List.length_take,zX4 (by omega),Nat.sub_self,zJ4 h,zJ8,sB,zZ6 h,List.map_append,List.append_assoc]
 rfl
structure rB (w0 W:World) (E:Nat->Addr) (L:Nat->Nat) (k wb ab n:Nat) (A:bc) (lo hi:ByteArray) (told:Int) (e:En) (at':Int) (r:Ending) (w':World):Prop where
 ag:ae w0 w'
 only:aj (fun j=>br k (L j)\/j=wb) W w'
 ex:∃L',(∀j,j<W.heap.size->L' j=L j)/\(∀j,W.heap.size<=j->L' j=0\/br k (L' j))/\bQ w' L' k ab (n+5) (Pl.bF A e at').2
 res:∃ks,Pl.gG lo hi e ks/\(((Pl.bF A e at').1≠0/\r=.returned (.tuple #[.slice none 0 0,aX E (Pl.bF A e at').1])/\mW w' wb ab lo hi told)\/
  ((Pl.bF A e at').1=0/\∃b c,r=.returned (.tuple #[.slice (some ⟨b,0,none⟩) (lS A (Pl.bF A e at').2 at' ks).length c,.nilIface])/\W.heap.size<=b/\ft w' (some ⟨b,0,none⟩) (lS A (Pl.bF A e at').2 at' ks)/\mW w' wb ab lo hi (told+((lS A (Pl.bF A e at').2 at' ks).length:Nat))))
structure QJ (wv:World) (R:World->Prop) (L:Nat->Bool) (f:Nat->Value) (x:World):Prop where
 pre:L 19=false->ae wv x
 post:L 19=true->R x
theorem xg (A B:bc) (at':Int) (ks:List ByteArray):fw A B at' ks ks.length=ks.map (sF A B at'):=by
 unfold fw
 rw [zQ2,List.drop_length,List.map_nil,List.append_nil]
theorem bQ.apply' (E:Nat->Addr) {w0 W U:World} (hE:aY jC E w0) (g0:ae w0 W) (gU:ae W U) {L:Nat->Nat} {k ab n m0:Nat} {A:bc} (h:bQ W L k ab n A) (hL:∀j,j<w0.heap.size->L j<k) (bq:bw A m0) (hm0:m0<=120) (hn:n<=90000) (e:En) (hA:∀X,aj (fun j=>br k (L j)) W X->bG X e) (hz:nt e) (kK:e.key.size<=300) (at':Int):
    Calls Tryz.prog 22 #[.pointer (some ⟨ab,0,none⟩),e.agg,.int .i64 at'] U fun r w'=>r=.returned (aX E (Pl.bF A e at').1)/\ae w0 w'/\aj (fun j=>br k (L j)) W w'/\∃L',(∀j,j<W.heap.size->L' j=L j)/\(∀j,W.heap.size<=j->br k (L' j))/\bQ w' L' k ab (n+5) (Pl.bF A e at').2:=by
 have hWU:=gU.size
 have h0W:=g0.size
 have h1:bQ U (fun j=>if j<W.heap.size then L j else k+50) k ab n A:=h.kept (gU.only fun _=>False) (fun _ _ h=>h.elim) fun j hj=>zZ1 hj
 have gX:∀X,aj (fun j=>br k (if j<W.heap.size then L j else k+50)) U X->ae w0 X:=fun X hO=>(((g0.trans gU).only (fun j=>w0.heap.size<=j)).then (hO.mono fun j hj=>by
  by_cases q:j<w0.heap.size
  · rw [zZ1 (by omega)] at hj
    have:=hL j q
    unfold br at hj
    omega
  · exact .inl (by omega))).ag fun j hj=>hj
 have oX:∀X,aj (fun j=>br k (if j<W.heap.size then L j else k+50)) U X->aj (fun j=>br k (L j)) W X:=fun X hO=>(gU.only _).trans hO (fun j hj=>by
  by_cases q:j<W.heap.size
  · rw [zZ1 q] at hj;exact .inl hj
  · exact .inr (by omega))
 refine (z2J E (fun X hO=>hE.ag (gX X hO)) h1 bq hm0 hn e (fun X hO=>hA X (oX X hO)) hz kK at').mono ?_
 rintro r w' ⟨rfl,hO,L',h2,h3,h4⟩
 dsimp only at hO h2
 refine ⟨rfl,gX w' hO,oX w' hO,L',fun j hj=>?_,fun j hj=>?_,h4⟩
 · rw [h2 j (by omega),zZ1 hj]
 · by_cases q:j<U.heap.size
   · rw [h2 j q,zZ0 (by omega)];unfold br;omega
   · exact h3 j (by omega)
theorem VX (E:Nat->Addr) {w0 W:World} (hE:aY jC E w0) (g0:ae w0 W) {L:Nat->Nat} {k wb ab n m0:Nat} {A:bc} {lo hi:ByteArray} {told:Int} (hW:mW W wb ab lo hi told) (hwb:L wb=k+149) (h:bQ W L k ab n A) (hk1:1<=k) (hL:∀j,j<w0.heap.size->L j<k) (bq:bw A m0) (hm0:m0<=119) (hn:n<=90000) (e:En) (hA:∀X,aj (fun j=>br k (L j)) W X->bG X e) (hz:nt e) (kK:e.key.size<=300) (at':Int) (ht0:0<=told) (ht1:told<=1000000) (hl:lo.size<=70368744177664) (hh:hi.size<=70368744177664):
    Calls Tryz.prog 11 #[.pointer (some ⟨wb,0,none⟩),e.agg,.int .i64 at'] W (rB w0 W E L k wb ab n A lo hi told e at'):=by
 have c0:=hW.c0
 have xh:=aN c0
 have iM:=af (fun X (g:ae W X)=>z4M E e (hE.ag (g0.trans g)) (hA X (g.only _)) (fun o ho=>(hz o ho).1) (hW.ag g) hl hh)
 have HE:=af hE
 have tG:=af g0
 have HW:=af hW
 have pD:=af (And.intro h (And.intro hwb (And.intro hL bq)))
 have Gn:=af (And.intro hA (And.intro hz kK))
 obtain ⟨e0,he0⟩:∃e0,e0=e:=⟨_,rfl⟩
 clear hE hW h hwb hL bq hA hz kK g0
 rw [<-he0] at Gn
 obtain ⟨v0,hv0⟩:∃v0,v0=e0.agg:=⟨_,rfl⟩
 have HV0:=af hv0
 have VY:=af (show v0=e.agg from by rw [hv0,he0])
 clear hv0
 have VZ:=af (show rB w0 W E L k wb ab n A lo hi told e at'=rB w0 W E L k wb ab n A lo hi told e0 at' from by rw [he0])
 rw [VZ.out]
 have HAS:=af (show ∀ks,Pl.gG lo hi e ks->Pl.gG lo hi e0 ks from fun ks q=>by rw [he0];exact q)
 clear VZ he0
 obtain ⟨kind,ai,other,server,ak,seq,key,upto,part,parts,ops,aC,aG,av,ar,aw⟩:=e
 unfold En.agg En.vals at VY iM ⊢
 dsimp only at *
 generalize hQ:rB w0 W E L k wb ab n A lo hi told e0 at'=QQ
 have HQ:=af hQ
 clear hQ
 go_in
 go_wp2_with fail
 obtain ⟨Y,hY⟩:∃Y,Y=W.alloc (.cells #[.int .i64 kind,.int .i64 ai,.int .i64 other,.int .i64 server,.int .i64 ak,.int .i64 seq,.slice aC ops.length aG,.string key,.int .i64 upto,.int .i64 part,.int .i64 parts,.slice av ar aw] 39):=⟨_,rfl⟩
 have gY:ae W Y:=by rw [hY];exact (ae.rf W).alloc _
 obtain ⟨xb,hxb⟩:∃xb,xb=W.heap.size:=⟨_,rfl⟩
 have HX:=af (show ∀q v,(#[.int .i64 kind,.int .i64 ai,.int .i64 other,.int .i64 server,.int .i64 ak,.int .i64 seq,.slice aC ops.length aG,.string key,.int .i64 upto,.int .i64 part,.int .i64 parts,.slice av ar aw]:Array Value)[q]? =some v->Y.cell? ⟨xb,q,none⟩=some v from fun q v hv=>by
  rw [hY,hxb,cell_of_row _ _ q _ _ _ (heap_alloc_new W _)];simpa using hv)
 have dA:xb<Y.heap.size:=by rw [hY,hxb];simp
 have Qx:W.heap.size<=xb:=by omega
 rw [<-hY,<-hxb]
 refine (iM.out Y gY).mono ?_
 rintro r w1 ⟨aA,ka,kc,ks,rfl,hst,Ey⟩
 have bI:=af (gY.trans aA)
 have vV:=af hst
 have MJ:=af (HAS.out ks Ey)
 have hkf:=Ey.few
 have BN:=af (fun q v hv=>(aA.cells.1 _ q dA).trans (HX.out q v hv))
 have hx1:=ltT dA aA.size
 clear hY hxb gY aA hst Ey iM HX dA HAS
 obtain ⟨kl,hkl⟩:∃kl,kl=ks.length:=⟨_,rfl⟩
 have BP:=af hkl
 rw [<-hkl] at hkf ⊢
 clear hkl
 obtain ⟨i0,hi0,hz0,hz1,hz2⟩:=info_parts VT
 obtain ⟨w2,hmk,hrow2,aB⟩:=run_make_own (P:=Tryz.prog) (w:=w1) w1.heap.size 42 90 i0 _ 10 Tryz.underlying42 hi0 hz0 hz1 .i64 .i64 kl (by rw [hz2];omega) (by unfold maxLen;omega) (zZ3 _)
 have ik:=af hrow2
 have HG2:=af (show ae w1 w2 from (aj.of_grownBy aB).ag fun j hj=>by cases hj)
 clear hrow2 aB hi0 hz0 hz1 hz2
 go_wp2_with fail
 clear hmk
 obtain ⟨wo,rfl⟩:∃wo:World,wo=w2:=⟨_,rfl⟩
 go_loopw [9,24] (fun v i wr=>∃j:Nat,j<=kl/\i=.int .i64 j/\Hid (∃b c,v=.slice (some ⟨b,0,none⟩) j c/\wr.ownsRow w1.heap.size 90 10 v j (eB ((ks.take j).map (Aq A at'))))/\Hid (ae w1 wr)) (fun _ i _=>kl - (intOf i).toNat)
 case atStart=>exact ⟨0,Nat.zero_le _,rfl,⟨_,_,rfl,ik.out⟩,HG2.out⟩
 case round=>
  obtain ⟨j,Mn,rfl,HV,HG⟩:=hrel
  obtain ⟨wp,rfl⟩:∃wp:World,wp=wr:=⟨_,rfl⟩
  obtain ⟨b,c,rfl,aI⟩:=HV.out
  have fD:=af aI
  clear aI HV
  by_cases aq:j<kl
  · have hjl:j<ks.length:=by rw [<-BP.out];exact aq
    rcases vV.out with h0 | ⟨kb,ko,rfl,hkb,hkr⟩
    · rw [h0] at hjl;simp at hjl
    have q0:=(HG.out.cells.1 kb (ko+j) hkb).trans (hkr j _ (List.getElem?_eq_getElem hjl))
    have j0v:=ltT hkb HG.out.size
    have JH:=(HG.out.cells.1 _ 0 (ltT xh bI.out.size)).trans ((bI.out.cells.1 _ 0 xh).trans c0)
    have JI:=aN JH
    have xj:ks[j].size<=70368744177664:=by
     obtain ⟨_,_,⟨o,ho,e1⟩,_⟩:=(MJ.out.mem ks[j]).1 (zQ5 hjl)
     rw [<-e1]
     exact (Gn.out.2.1 o ho).1
    have ml:=af (fun X (g:ae wp X)=>VN E (HE.out.ag (tG.out.trans (bI.out.trans (HG.out.trans g)))) (pD.out.1.ag (bI.out.trans (HG.out.trans g))) pD.out.2.2.2 (by omega) ks[j] xj)
    have kg:=af (show (ks.take (j+1)).map (Aq A at')=(ks.take j).map (Aq A at')++[Aq A at' ks[j]] from by rw [zZ6 hjl,List.map_append];rfl)
    have HCG:=af (show Aq A at' ks[j]=⟨at',ks[j],((Pl.aS A ks[j]).getD Pr.none).key,((Pl.aS A ks[j]).getD Pr.none).val,((Pl.aS A ks[j]).getD Pr.none).di,⟨#[]⟩,⟨#[]⟩,0,(Pl.aS A ks[j]).isSome,false⟩ from rfl)
    clear hkr xj
    generalize (Pl.aS A ks[j]).isSome=Ei at *
    generalize (Pl.aS A ks[j]).getD Pr.none=o at *
    generalize Aq A at' ks[j]=cg at *
    generalize ks[j]=kk at *
    obtain ⟨ok,ov,on⟩:=o
    unfold Pr.agg at ml
    dsimp only at *
    go_wp2_with fail
    refine (ml.out _ (ae.rf _)).mono ?_
    rintro r w3 ⟨rfl,hg3⟩
    obtain ⟨Z,hZ⟩:∃Z,Z=(w3.alloc (.cells #[.string ok,.string ov,.int .i64 on] 80)).alloc (.cells #[.int .i64 at',.string kk,.string ok,.string ov,.int .i64 on,.string ⟨#[]⟩,.string ⟨#[]⟩,.int .i64 0,.bool Ei,.bool false] 90):=⟨_,rfl⟩
    have gZ:ae wp Z:=by rw [hZ];exact (hg3.alloc _).alloc _
    have hblk:Z.heap[w3.heap.size+1]? =some (.cells (Cg.vals ⟨at',kk,ok,ov,on,⟨#[]⟩,⟨#[]⟩,0,Ei,false⟩).toArray 90 (0,0)):=by
     have:=heap_alloc_new (w3.alloc (.cells #[.string ok,.string ov,.int .i64 on] 80)) (.cells #[.int .i64 at',.string kk,.string ok,.string ov,.int .i64 on,.string ⟨#[]⟩,.string ⟨#[]⟩,.int .i64 0,.bool Ei,.bool false] 90)
     rw [show (w3.alloc (.cells #[.string ok,.string ov,.int .i64 on] 80)).heap.size=w3.heap.size+1 by simp] at this
     rw [hZ];exact this
    obtain ⟨g,cp,W2,hrun,aD,hgb⟩:=y6N (gI gZ fD.out) _ (QG hblk) (by omega) (HG.out.trans gZ).size 42
    rw [<-HCG.out,<-kg.out] at aD
    have cE:=af hrun
    have HOWN:=af aD
    have Me:=af (show ae w1 W2 from (((HG.out.trans gZ).only (fun j=>w1.heap.size<=j)).then ((aj.of_grownBy hgb).mono fun j hj=> .inl ((fD.out.lt j hj.symm).1))).ag fun j hj=>hj)
    have HZ:=af hZ
    clear hrun aD hgb hblk kg gZ hZ hg3 ml
    go_wp2_with (at_builtin;rw [<-HZ.out];refine Lib.wpList_append_run _ rfl _ _ _ _ rfl _ _ rfl rfl _ _ cE.out ?_)
    clear q0 cE
    go_wp2_with fail
    go_roundw
    case rel=>exact ⟨j+1,by omega,by go_num,⟨_,_,rfl,HOWN.out⟩,Me⟩
    case measure=>simp [intOf];omega
  · obtain rfl:j=kl:=by omega
    have JJ:=af (show wp.ownsRow w1.heap.size 90 10 (.slice (some ⟨b,0,none⟩) j c) j (eB (fw A (Pl.bF A e0 at').2 at' ks 0)) from by
     have e1:(ks.take j).map (Aq A at')=fw A (Pl.bF A e0 at').2 at' ks 0:=by
      unfold fw
      rw [BP.out,zQ2];rfl
     have e3:=fD.out
     rw [e1] at e3
     exact e3)
    have QC:=(fD.out.lt b rfl)
    clear fD vV
    have qw:=af (bI.out.trans HG.out)
    -- V3
    have lh:=af (show ∀U,ae wp U->Calls Tryz.prog 22 #[.pointer (some ⟨ab,0,none⟩),e0.agg,.int .i64 at'] U fun r w'=>r=.returned (aX E (Pl.bF A e0 at').1)/\ae w0 w'/\aj (fun j=>br k (if j<W.heap.size then L j else 0)) wp w'/\∃L',(∀j,j<wp.heap.size->L' j=if j<W.heap.size then L j else 0)/\(∀j,wp.heap.size<=j->br k (L' j))/\bQ w' L' k ab (n+5) (Pl.bF A e0 at').2 from fun U gU=>
     bQ.apply' E HE.out (tG.out.trans qw.out) gU (pD.out.1.kept (L':=fun j=>if j<W.heap.size then L j else 0) (qw.out.only fun _=>False) (fun _ _ h=>h.elim) fun j hj=>zZ1 hj) (fun j hj=>by
      have:=tG.out.size
      rw [zZ1 (by omega)]
      exact pD.out.2.2.1 j hj) pD.out.2.2.2 (by omega) hn e0 (fun X hO=>Gn.out.1 X ((qw.out.only _).trans hO fun q hq=>by
      by_cases t:q<W.heap.size
      · rw [zZ1 t] at hq;exact .inl hq
      · exact .inr (by omega))) Gn.out.2.1 Gn.out.2.2 at')
    rw [<-HV0.out,VY.out] at lh
    have JH:=(qw.out.cells.1 _ 0 xh).trans c0
    have JI:=aN JH
    have hxp:=ltT hx1 HG.out.size
    have sG:=af (fun q v hv=>(HG.out.cells.1 _ q hx1).trans (BN.out q v hv))
    have QK:=af (Pl.Gg pD.out.2.2.2 pD.out.1.fP e0 at')
    generalize hB:(Pl.bF A e0 at').2=B at *
    generalize hC:(Pl.bF A e0 at').1=cd at *
    have Gp:=af (And.intro hB hC)
    clear hB hC
    go_upto_region 9 with fail
    have C0:=aU JH
    have D0:=aU (sG.out 0 _ rfl)
    have D1:=aU (sG.out 1 _ rfl)
    have D2:=aU (sG.out 2 _ rfl)
    have D3:=aU (sG.out 3 _ rfl)
    have D4:=aU (sG.out 4 _ rfl)
    have D5:=aU (sG.out 5 _ rfl)
    have D6:=aU (sG.out 6 _ rfl)
    have D7:=aU (sG.out 7 _ rfl)
    have D8:=aU (sG.out 8 _ rfl)
    have D9:=aU (sG.out 9 _ rfl)
    have oo:=aU (sG.out 10 _ rfl)
    have oq:=aU (sG.out 11 _ rfl)
    refine lH 6 (by kernel_rfl) (by kernel_rfl) (fun _ _=>rfl) ?_
    repeat (first
     | (refine fF ?_;intro K hK;go_big_quiet_op;go_big_quiet_on)
     | (refine fE ?_;simp only [Act.put,sA,sB,sC]))
    refine iH (by rfl) fun w4 g4=>?_
    clear C0 D0 D1 D2 D3 D4 D5 D6 D7 D8 D9 oo oq
    dsimp only [List.drop]
    go_wp2_with fail
    refine (lh.out _ g4).mono ?_
    rintro r w5 ⟨rfl,mN,JK,L5,MK,V4,V5⟩
    have hbW:W.heap.size<=b:=by have:=bI.out.size;omega
    have QL:=JK.size
    have Mf:=af (show L5 b=0 from by rw [MK b QC.2,zZ0 (by omega)])
    have JL:aj (fun j=>br k (L j)\/j=wb) W w5:=(qw.out.only _).trans JK fun q hq=>by
     by_cases t:q<W.heap.size
     · rw [zZ1 t] at hq;exact .inl (.inl hq)
     · exact .inr (by omega)
    have JM:mW w5 wb ab lo hi told:=(HW.out.ag qw.out).kept JK (by rw [zZ1 xh,pD.out.2.1];unfold br;omega)
    have JN:(∀q,q<W.heap.size->L5 q=L q)/\(∀q,W.heap.size<=q->L5 q=0\/br k (L5 q)):=⟨fun q hq=>by rw [MK q (ltT hq qw.out.size),zZ1 hq],fun q hq=>by
     by_cases t:q<wp.heap.size
     · rw [MK q t,zZ0 (by omega)];exact .inl rfl
     · exact .inr (V4 q (by omega))⟩
    have BQ:w5.ownsRow w1.heap.size 90 10 (.slice (some ⟨b,0,none⟩) j c) j (eB (fw A B at' ks 0)):=A6 JJ.out JK fun g hg=>by
     have e:b=g:=Option.some.inj hg
     rw [zZ0 (by omega)]
     unfold br;omega
    have tI:=af mN
    have V6:=af JL
    have vZ:=af JM
    have JO:=af JN
    have QM:=af V5
    have HR5:=af BQ
    have hb5:b<w5.heap.size:=ltT QC.2 QL
    have QO:wb<w5.heap.size:=by omega
    have Ez:wb≠b:=by omega
    clear mN JK MK V4 V5 JL JM JN BQ g4 lh sG JJ BN
    by_cases lD:cd=0
    · subst lD
      rw [ue]
      go_wp2_with fail
      clear JH JI hxp
      go_loopw [58] (fun i wr=>∃m:Nat,m<=j/\i=.int .i64 m/\Hid (wr.ownsRow w1.heap.size 90 10 (.slice (some ⟨b,0,none⟩) j c) j (eB (fw A B at' ks m))/\aj (fun q=>q=b) w5 wr)) (fun i _=>j - (intOf i).toNat)
      case atStart=>exact ⟨0,Nat.zero_le _,rfl,⟨HR5.out,(ae.rf w5).only _⟩⟩
      case round=>
       obtain ⟨m,hm1,rfl,HV⟩:=hrel
       obtain ⟨wv,rfl⟩:∃wv:World,wv=wr:=⟨_,rfl⟩
       have ML:=ltT hb5 HV.out.2.size
       by_cases aq:m<j
       · have hmI:(m:Int)<(j:Int):=by omega
         have pE:m<ks.length:=by rw [<-BP.out];exact aq
         have hlen:(fw A B at' ks m).length=j:=by rw [xe];exact BP.out.symm
         have hR':wv.ownsRow w1.heap.size 90 10 (.slice (some ⟨b,0,none⟩) (fw A B at' ks m).length c) (fw A B at' ks m).length (eB (fw A B at' ks m)):=by rw [hlen];exact HV.out.1
         obtain ⟨_,r1,_,_,_,r5,r6,r7,_,_⟩:=MI hR' m (by omega)
         rw [QI _ _ _ _ _ pE] at r1
         have r1:wv.cell? ⟨b,m*10+1,none⟩=some (.string ks[m]):=r1
         have xj:ks[m].size<=70368744177664:=by
          obtain ⟨_,_,⟨o,ho,e1⟩,_⟩:=(MJ.out.mem ks[m]).1 (zQ5 pE)
          rw [<-e1]
          exact (Gn.out.2.1 o ho).1
         have hw0:=tG.out.size
         have rC:=af (fun X (hX:aj (fun q=>q=b) w5 X)=>VN E (HE.out.ag (((tI.out.only (fun q=>q=b)).then hX).ag fun q hq=>by rw [hq];omega)) (QM.out.kept hX (fun q _ hq=>by rw [hq,Mf.out];unfold br;omega) fun _ _=>rfl) QK.out (by omega) ks[m] xj)
         have JP:=af (show eB (fw A B at' ks (m+1))=((((eB (fw A B at' ks m)).set (m*10+5) (.string ((Pl.aS B ks[m]).getD Pr.none).key)).set (m*10+6) (.string ((Pl.aS B ks[m]).getD Pr.none).val)).set (m*10+7) (.int .i64 ((Pl.aS B ks[m]).getD Pr.none).di)).set (m*10+9) (.bool (Pl.aS B ks[m]).isSome) from by
          rw [z3b _ _ _ _ _ pE,<-z2H _ m (by omega) ((Pl.aS B ks[m]).getD Pr.none) (Pl.aS B ks[m]).isSome,QI _ _ _ _ _ pE];rfl)
         have eY:=af (show (eB (fw A B at' ks m)).length=j*10 from by rw [Am,hlen])
         have kp:=af (show (eB (fw A B at' ks m))[m*10+1]? =some (.string ks[m]) from by
          rw [lR 1 (by omega) _ m (by omega),QI _ _ _ _ _ pE];rfl)
         have JR:=af ((vZ.out.kept HV.out.2 Ez).c0)
         have QP:wb<wv.heap.size:=ltT QO HV.out.2.size
         clear hR' xj hlen
         generalize (Pl.aS B ks[m]).isSome=Ei at *
         generalize (Pl.aS B ks[m]).getD Pr.none=o at *
         generalize ks[m]=kk at *
         generalize eB (fw A B at' ks m)=FL at *
         obtain ⟨ok,ov,on⟩:=o
         unfold Pr.agg at rC
         dsimp only at rC JP
         go_upto_region 15 with fail
         obtain ⟨I,hI⟩:∃I:World->Prop,I=fun x=>aj (fun q=>q=b) wv x/\x.cell? ⟨b,m*10+1,none⟩=some (.string kk):=⟨_,rfl⟩
         have qx:∀x,I x->aj (fun q=>q=b) wv x/\x.cell? ⟨b,m*10+1,none⟩=some (.string kk):=fun x h=>by rw [hI] at h;exact h
         have sH:∀x,aj (fun q=>q=b) wv x->x.cell? ⟨b,m*10+1,none⟩=some (.string kk)->I x:=fun x h k=>by rw [hI];exact ⟨h,k⟩
         clear hI
         have C0:∀p:Wd I,p.w.cell? ⟨wb,0,none⟩=some (.pointer (some ⟨ab,0,none⟩)):=fun p=>((qx p.w p.ok).1.cell QP Ez 0).trans JR.out
         have K1:∀p:Wd I,p.w.cell? ⟨b,m*10+1,none⟩=some (.string kk):=fun p=>(qx p.w p.ok).2
         have mL:Nonempty (Wd I):=⟨⟨wv,sH wv ((ae.rf wv).only _) r1⟩⟩
         have ml:=af (fun x hx=>rC.out x (HV.out.2.then (qx x hx).1))
         obtain ⟨QN,QR⟩:∃QN:World->Prop,QN=fun x=>x.ownsRow w1.heap.size 90 10 (.slice (some ⟨b,0,none⟩) j c) j (((FL.set (m*10+5) (.string ok)).set (m*10+6) (.string ov)).set (m*10+7) (.int .i64 on))/\aj (fun q=>q=b) wv x:=⟨_,rfl⟩
         have QS:=af (show ∀x,QN x->x.ownsRow w1.heap.size 90 10 (.slice (some ⟨b,0,none⟩) j c) j (((FL.set (m*10+5) (.string ok)).set (m*10+6) (.string ov)).set (m*10+7) (.int .i64 on))/\aj (fun q=>q=b) wv x from fun x h=>by rw [QR] at h;exact h)
         have BR:=af (show ∀x:World,x.ownsRow w1.heap.size 90 10 (.slice (some ⟨b,0,none⟩) j c) j (((FL.set (m*10+5) (.string ok)).set (m*10+6) (.string ov)).set (m*10+7) (.int .i64 on))->aj (fun q=>q=b) wv x->QN x from fun x h k=>by rw [QR];exact ⟨h,k⟩)
         clear QR
         have JU:=af sH
         clear qx sH rC
         refine kW 20 [19] I ae (QJ wv QN) (fun _ a=>a) (by kernel_rfl) (by kernel_rfl) (fun _ _=>rfl) ⟨fun _=>(ae.rf wv).drew,fun h=>(by cases h)⟩ (fun L0 f x h=>?_) ae.rf (fun L0 f x x' h g=>?_) ?_
         · cases q:L0 19 with
           | false=>
            have:=h.pre q
            exact JU.out x (this.only _) ((this.cells.1 _ _ ML).trans r1)
           | true=>
            obtain ⟨q1,q2⟩:=QS.out x (h.post q)
            refine JU.out x q2 ((q1.cellAt (m*10+1) (by omega)).trans ?_)
            rw [List.getElem?_set_ne (by omega),List.getElem?_set_ne (by omega),List.getElem?_set_ne (by omega)]
            exact kp.out
         · refine ⟨fun q=>(h.pre q).trans g,fun q=>?_⟩
           obtain ⟨q1,q2⟩:=QS.out x (h.post q)
           exact BR.out x' (gI g q1) (q2.cm g)
         repeat (first
          | refine kV ?_
          | (refine fF ?_;intro K hK;go_big_quiet_op;go_big_quiet_on)
          | (refine zq (fun _=>by kernel_rfl) (ml.out) ?_;simp only [Act.put,sA,sB,sC])
          | (refine fE ?_;simp only [Act.put,sA,sB,sC]))
         refine iH (by rfl) ⟨⟨bH rfl (fun _ a=>a) (fun _ _=>rfl) (fun _=>rfl) ?_,trivial⟩,?_⟩
         · intro L0 f x hJ hL hd
           have hG:=hJ.pre hL
           have hrx:=gI hG HV.out.1
           have s5:=(hG.cells.1 _ _ ML).trans r5
           have s6:=(hG.cells.1 _ _ ML).trans r6
           have s7:=(hG.cells.1 _ _ ML).trans r7
           have f5:x.frozen? ⟨b,m*10+5,none⟩=false:=hrx.frozenAt _
           have f6:x.frozen? ⟨b,m*10+6,none⟩=false:=hrx.frozenAt _
           have f7:x.frozen? ⟨b,m*10+7,none⟩=false:=hrx.frozenAt _
           have HRX:=af hrx
           have eo:=af hG
           clear hJ hL hd C0 K1 hrx hG
           go_simp
           obtain ⟨t1,g1⟩:=HRX.out.stored (m*10+5) (.string ok)
           obtain ⟨t2,g2⟩:=t1.stored (m*10+6) (.string ov)
           obtain ⟨t3,g3⟩:=t2.stored (m*10+7) (.int .i64 on)
           exact ⟨fun h=>(by rw [yE] at h;cases h),fun _=>BR.out _ t3 ((eo.out.only _).then ((aj.of_grownBy (g1.trans (g2.trans g3))).mono fun q hq=> .inl (Option.some.inj hq)))⟩
         intro f x hJ
         obtain ⟨q1,q2⟩:=QS.out x (hJ.post rfl)
         have r9:∃v,x.cell? ⟨b,m*10+9,none⟩=some v:=⟨_,(q1.cellAt (m*10+9) (by omega)).trans (List.getElem?_eq_getElem (by simp only [List.length_set];rw [eY.out];omega))⟩
         obtain ⟨v9,r9⟩:=r9
         have f9:x.frozen? ⟨b,m*10+9,none⟩=false:=q1.frozenAt _
         have HQ1:=af q1
         have HQ2:=af q2
         clear q1 q2 hJ C0 K1 mL
         dsimp only [List.drop]
         go_wp2_with fail
         go_roundw
         case rel=>
          obtain ⟨t1,t2⟩:=HQ1.out.stored (m*10+9) (.bool Ei)
          refine ⟨m+1,by omega,by go_num,⟨?_,(HV.out.2.then HQ2.out).then ((aj.of_grownBy t2).mono fun q hq=> .inl (Option.some.inj hq))⟩⟩
          rw [JP.out];exact t1
         case measure=>simp [intOf];omega
       · obtain rfl:m=j:=by omega
         have hdel:Calls Tryz.prog 36 #[.slice (some ⟨b,0,none⟩) m c,.func (.func 37) #[] #[]] wv fun e w'=>e=.returned (.slice (some ⟨b,0,none⟩) (lS A B at' ks).length c)/\w'.ownsRow w1.heap.size 90 10 (.slice (some ⟨b,0,none⟩) (lS A B at' ks).length c) (lS A B at' ks).length (eB (lS A B at' ks))/\aj (fun j=>j=b) wv w':=by
          have e2:=HV.out.1
          rw [BP.out,xg] at e2
          have e1:=Ex w1.heap.size b c (ks.map (sF A B at')) wv (by rw [List.length_map];exact e2) (by rw [List.length_map,<-BP.out];omega)
          rw [List.length_map,<-BP.out] at e1
          exact e1
         have fY:(lS A B at' ks).length<=8:=by
          have e1:(lS A B at' ks).length<=(ks.map (sF A B at')).length:=zJ9 _ _
          rw [List.length_map,<-BP.out] at e1
          omega
         obtain ⟨CH,QT⟩:∃CH,CH=lS A B at' ks:=⟨_,rfl⟩
         rw [<-QT] at hdel fY
         have HCH:=af QT
         have jA:=af hdel
         clear QT hdel
         go_wp2_with fail
         refine jA.out.mono ?_
         rintro r w7 ⟨rfl,V7,V8⟩
         have EA:=HV.out.2.then V8
         have EB:=vZ.out.kept EA Ez
         have t3:=EB.c3
         have f3:=EB.fz 3
         have HR7:=af V7
         have Ar:=af EA
         have pC:=af EB
         obtain ⟨nn,hnn⟩:∃nn,nn=CH.length:=⟨_,rfl⟩
         have Mt:=af hnn
         rw [<-hnn] at fY ⊢
         have z0:0<=told+(nn:Int):=by omega
         have z1:told+(nn:Int)<=1000008:=by omega
         clear V7 V8 EA EB hnn jA
         go_wp2_with fail
         rw [<-HQ.out]
         have hw0:=tG.out.size
         have hw7:=Ar.out.size
         have QU:w0.heap.size<=wb:=by
          rcases Nat.lt_or_ge wb w0.heap.size with q | q
          · have:=pD.out.2.2.1 wb q
            rw [pD.out.2.1] at this;omega
          · exact q
         have HS:=aj.setCell w7 ⟨wb,3,none⟩ (.int .i64 (told+(nn:Int)))
         have hA7:bQ w7 L5 k ab (n+5) B:=QM.out.kept Ar.out (fun q _ hq=>by rw [hq,Mf.out];unfold br;omega) fun _ _=>rfl
         have QV:L5 wb=k+149:=(JO.out.1 wb xh).trans pD.out.2.1
         have JW:(w7.setCell ⟨wb,3,none⟩ (.int .i64 (told+(nn:Int)))).ownsRow w1.heap.size 90 10 (.slice (some ⟨b,0,none⟩) CH.length c) CH.length (eB CH):=A6 HR7.out HS fun g hg=>fun (e:g=wb)=>by
          have e2:b=g:=Option.some.inj hg
          omega
         obtain ⟨a8,c8,e8,V9⟩:=QE JW
         have hW8:mW (w7.setCell ⟨wb,3,none⟩ (.int .i64 (told+(nn:Int)))) wb ab lo hi (told+(nn:Int)):=by
          obtain ⟨x0,x1,x2,x3,xf⟩:=pC.out
          exact ⟨by simp [go_sem,x0],by simp [go_sem,x1],by simp [go_sem,x2],by simp [go_sem,x3],fun i=>by simp [go_sem,xf]⟩
         refine ⟨(((tI.out.only (fun q=>w0.heap.size<=q)).then (Ar.out.mono fun q hq=> .inl (by rw [hq];omega))).then (HS.mono fun q (hq:q=wb)=> .inl (by rw [hq];exact QU))).ag fun q hq=>hq,((V6.out.trans Ar.out fun q hq=> .inr (by rw [hq];exact hbW))).trans HS fun q hq=> .inl (.inr hq),⟨L5,JO.out.1,JO.out.2,?_⟩,ks,MJ.out,.inr ⟨Gp.out.2,b,c,?_⟩⟩
         · rw [Gp.out.1]
           exact hA7.kept HS (fun q _ (hq:q=wb)=>by rw [hq,QV];unfold br;omega) fun _ _=>rfl
         · rw [Gp.out.1,<-HCH.out,<-Mt.out]
           rw [<-Mt.out] at e8
           obtain ⟨e8a,e8b⟩:some ⟨b,0,none⟩=a8/\c=c8:=by cases e8;exact ⟨rfl,rfl⟩
           rw [<-e8a] at V9
           exact ⟨rfl,hbW,V9,hW8⟩
    · have Mw:Hid (aX E cd=.iface 337 (.pointer (some (E cd)))):=sX E cd lD
      rw [Mw.out]
      go_wp2_with fail
      rw [<-HQ.out]
      refine ⟨tI.out,V6.out,⟨L5,JO.out.1,JO.out.2,by rw [Gp.out.1];exact QM.out⟩,ks,MJ.out,.inl ⟨by rw [Gp.out.2];exact lD,by rw [Gp.out.2,Mw.out];rfl,vZ.out⟩⟩
def JX:bC:=⟨1,⟨#[97]⟩,⟨#[120]⟩,⟨#[]⟩,0⟩
def ij (a:Option Addr):En:=⟨1,1,0,0,1,1,⟨#[]⟩,0,0,0,[JX],a,1,none,0,0⟩
theorem EC (a:Option Addr):(Pl.bF bc.init (ij a) 0).1=0:=by kernel_rfl
theorem ED {W:World} {ob:Nat} (h:W.heap[ob]? =some (.cells #[.int .i64 1,.string ⟨#[97]⟩,.string ⟨#[120]⟩,.string ⟨#[]⟩,.int .i64 0] 88 (0,0))):bG W (ij (some ⟨ob,0,none⟩)):=by
 have aq:=(zZ2.1 h).1
 have hc:∀(i:Nat) v,(#[.int .i64 1,.string ⟨#[97]⟩,.string ⟨#[120]⟩,.string ⟨#[]⟩,.int .i64 0]:Array Value)[i]? =some v->W.cell? ⟨ob,i,none⟩=some v:=fun i v hv=>by rw [cell_of_row _ ob i _ _ _ h];simpa using hv
 refine ⟨.inr ⟨ob,0,rfl,aq,?_,?_,?_,?_,?_⟩,by simp [ij],fun o ho=>?_,fun e=>by cases e⟩
 · intro j hj;obtain rfl:j=0:=by simpa [ij] using hj
   exact hc 0 _ rfl
 · intro j hj;obtain rfl:j=0:=by simpa [ij] using hj
   exact hc 1 _ rfl
 · intro j hj;obtain rfl:j=0:=by simpa [ij] using hj
   exact hc 2 _ rfl
 · intro j hj;obtain rfl:j=0:=by simpa [ij] using hj
   exact hc 3 _ rfl
 · intro j hj;obtain rfl:j=0:=by simpa [ij] using hj
   exact hc 4 _ rfl
 · simp [ij] at ho;subst ho;exact ⟨by decide,by decide,by decide⟩
theorem JY (a:Option Addr):nt (ij a):=fun o ho=>by simp [ij] at ho;subst ho;exact ⟨by decide,by decide⟩
theorem Au (a:Option Addr) {ks:List ByteArray} (h:Pl.gG ⟨#[]⟩ ⟨#[]⟩ (ij a) ks):ks=[⟨#[97]⟩]:=by
 have hm:∀k,k∈ks↔k=(⟨#[97]⟩:ByteArray):=fun k=>by
  rw [h.mem k]
  constructor
  · rintro ⟨_,_,⟨o,ho,rfl⟩,_⟩
    simp [ij] at ho;subst ho;rfl
  · rintro rfl
    exact ⟨rfl,by kernel_rfl,⟨JX,by simp [ij],rfl⟩,by kernel_rfl⟩
 have hr:=h.gD
 match ks,hm,hr with
 | [],hm,_=>exact absurd ((hm _).2 rfl) (by simp)
 | [x],hm,_=>rw [(hm x).1 (by simp)]
 | x::y::r,hm,hr=>
  have e1:=(hm x).1 (by simp)
  have e2:=(hm y).1 (by simp)
  subst e1;subst e2
  have:=(List.pairwise_cons.1 hr).1 _ (List.mem_cons_self)
  have e:¬(Pl.bE ⟨#[97]⟩ ⟨#[97]⟩<0):=by decide
  exact absurd this e
theorem EE (a:Option Addr):lS bc.init (Pl.bF bc.init (ij a) 0).2 0 [⟨#[97]⟩]=[⟨0,⟨#[97]⟩,⟨#[]⟩,⟨#[]⟩,0,⟨#[97]⟩,⟨#[120]⟩,1,false,true⟩]:=by kernel_rfl
theorem Av (E:Nat->Addr) (w:World) (hE:aY jC E w):Calls Tryz.prog 5 #[] w fun e w'=>e=.returned (.bool true)/\ae w w':=by
 have HE:=af hE
 have HN:=af (VV E hE ⟨#[]⟩ ⟨#[]⟩ (by decide) (by decide) (by kernel_rfl))
 clear hE
 go_in
 go_wp2_with fail
 refine HN.out.mono ?_
 rintro e w1 ⟨wb,ab,rfl,hg,hW,h⟩
 have HG:=af hg
 have HW:=af hW
 have HA:=af h
 clear hg hW h HN
 go_wp2_with fail
 obtain ⟨Y,hY⟩:∃Y,Y=w1.alloc (.cells #[.int .i64 1,.string ⟨#[97]⟩,.string ⟨#[120]⟩,.string ⟨#[]⟩,.int .i64 0] 88):=⟨_,rfl⟩
 have gY:ae w1 Y:=by rw [hY];exact (ae.rf w1).alloc _
 have hblk:Y.heap[w1.heap.size]? =some (.cells #[.int .i64 1,.string ⟨#[97]⟩,.string ⟨#[120]⟩,.string ⟨#[]⟩,.int .i64 0] 88 (0,0)):=by rw [hY];exact heap_alloc_new w1 _
 have HST:Hid (Calls Tryz.prog 11 #[.pointer (some ⟨wb,0,none⟩),(ij (some ⟨w1.heap.size,0,none⟩)).agg,.int .i64 0] Y fun r w'=>ae w w'/\mW w' wb ab ⟨#[]⟩ ⟨#[]⟩ 1/\∃b off c,r=.returned (.tuple #[.slice (some ⟨b,off,none⟩) 1 c,.nilIface])/\b<w'.heap.size/\w'.cell? ⟨b,off+8,none⟩=some (.bool false)/\w'.cell? ⟨b,off+9,none⟩=some (.bool true)):=by
  obtain ⟨L',h1,h2,h2w,h3⟩:=HA.out 1 (fun _=>0)
  have hs:=HG.out.size
  have hy:=gY.size
  have hl:w1.heap.size<Y.heap.size:=(zZ2.1 hblk).1
  have hwb:=aN HW.out.c0
  have h4:bQ Y (fun j=>if j<w1.heap.size then L' j else 0) 1 ab 1 bc.init:=h3.kept (gY.only fun _=>False) (fun _ _ h=>h.elim) fun j hj=>zZ1 hj
  refine (VX E HE.out (HG.out.trans gY) (HW.out.ag gY) (show (if wb<w1.heap.size then L' wb else 0)=1+149 from (zZ1 hwb).trans h2w) h4 (zZ3 _) (fun j hj=>by
   rw [zZ1 (by omega),h1 j hj];decide) Qi (by decide) (by decide) (ij (some ⟨w1.heap.size,0,none⟩)) (fun X hO=>ED ((hO.block _ hl (by rw [zZ0 (by omega)];unfold br;omega)).trans hblk)) (JY _) (show (⟨#[]⟩:ByteArray).size<=300 from by decide) 0 (by decide) (by decide) (by decide) (by decide)).mono ?_
  rintro r w' ⟨q1,_,_,ks,hk,q2⟩
  obtain rfl:=Au _ hk
  rw [EC,EE] at q2
  rcases q2 with ⟨q,_⟩ | ⟨_,b,c,rfl,_,hc,hw⟩
  · exact absurd rfl q
  · rcases hc with h | ⟨b,off,e,hb,hR⟩
    · cases h
    · cases e
      exact ⟨q1,hw,b,0,c,rfl,hb,hR.had 0 (by decide),hR.has 0 (by decide)⟩
 rw [<-hY]
 clear hY HA gY hblk HW
 unfold En.agg En.vals at HST
 unfold ij at HST
 dsimp only at HST
 refine HST.out.mono ?_
 rintro e w2 ⟨aB,hW2,b,off,c,rfl,hb,p8,p9⟩
 have HG2:=af aB
 have BS:=af (VW hW2)
 clear aB hW2 HST
 go_wp2_with fail
 refine BS.out.mono ?_
 rintro e w3 ⟨rfl,hg3⟩
 have ey:=af (HG2.out.trans hg3)
 clear hg3 BS p8 p9
 go_wp2_with fail
 go_ret
 exact ⟨rfl,ey.out⟩
def dB (st:Nat->Option (List Pr×(Int->Option An))) (ms:Nat->Nat) (i:Nat):Value:=.pointer ((st i).map fun _=>⟨ms i,0,none⟩)
structure dP (W:World) (L:Nat->Nat) (k al db nb n:Nat) (ms:Nat->Nat) (fa:Lit->Option Value) (D:bj) (A:bc):Prop where
 c0:W.cell? ⟨al,0,none⟩=some (.pointer (some ⟨db,0,none⟩))
 cs:∀i,i<13->W.cell? ⟨al,1+i,none⟩=some (dB A.st ms i)
 cn:W.cell? ⟨al,14,none⟩=some (.map (some nb))
 fz:∀i,W.frozen? ⟨al,i,none⟩=false
 lab:L al=k
 jU:L nb=k+1
 map:∃F,dU W F db D/\∀j,F j->L j=k+2
 la:∃m,m<=n/\bL W Tryz.prog 3 nb m fa
 states:∀i P S,A.st i=some (P,S)->i<=12/\∃c∈A.sh.xs,c.id=(i:Int)/\∃G sb Dt,dY W G (ms i) sb c.lo c.hi Dt S/\Pl.Tt P Dt/\∀j,gP G (ms i) sb j->L j=k+20+i
def eN (W:World) (L:Nat->Nat) (k al n:Nat) (fa:Lit->Option Value) (D:bj) (A:bc):Prop:=∃db nb ms,dP W L k al db nb n ms fa D A
theorem tQ {W:World} {F:Nat->Prop} {db:Nat} {D:bj} (h:dU W F db D):∀j,F j->j<W.heap.size:=by
 obtain ⟨_,_,_,h⟩:=h
 exact h.lt
section
variable {W W':World} {L L':Nat->Nat} {T:Nat->Prop} {k al db nb n n':Nat} {ms:Nat->Nat} {fa:Lit->Option Value} {D:bj} {A:bc}
theorem dP.nH (h:dP W L k al db nb n ms fa D A):al<W.heap.size:=aN h.c0
theorem dP.eH (h:dP W L k al db nb n ms fa D A) (hO:aj T W W') (hT:∀j,j<W.heap.size->T j->L j≠k+1) (hL:∀j,j<W.heap.size->L' j=L j) {s':df} {st':Nat->Option (List Pr×(Int->Option An))} {M6:Nat->Nat} {D':bj} (a:Int)
    (c0:W'.cell? ⟨al,0,none⟩=some (.pointer (some ⟨db,0,none⟩))) (cs:∀i,i<13->W'.cell? ⟨al,1+i,none⟩=some (dB st' M6 i)) (cn:W'.cell? ⟨al,14,none⟩=some (.map (some nb))) (fz:∀i,W'.frozen? ⟨al,i,none⟩=false)
    (hmap:∃F,dU W' F db D'/\∀j,F j->L' j=k+2)
    (hst:∀i P S,st' i=some (P,S)->i<=12/\∃c∈s'.xs,c.id=(i:Int)/\∃G sb Dt,dY W' G (M6 i) sb c.lo c.hi Dt S/\Pl.Tt P Dt/\∀j,gP G (M6 i) sb j->L' j=k+20+i):dP W' L' k al db nb n M6 fa D' ⟨a,s',st'⟩:=by
 obtain ⟨m,e,h2⟩:=h.la
 exact ⟨c0,cs,cn,fz,(hL al h.nH).trans h.lab,(hL nb h2.lt).trans h.jU,hmap,⟨m,e,h2.kept hO fun t=>hT nb h2.lt t h.jU⟩,hst⟩
theorem dP.other (h:dP W L k al db nb n ms fa D A) (hO:aj T W W') (hL:∀j,j<W.heap.size->L' j=L j) {q:Nat} (hT:∀j,j<W.heap.size->T j->L j≠k+20+q) {P:List Pr} {S:Int->Option An} (hq:A.st q=some (P,S)):
    q<=12/\∃c∈A.sh.xs,c.id=(q:Int)/\∃G sb Dt,dY W' G (ms q) sb c.lo c.hi Dt S/\Pl.Tt P Dt/\∀j,gP G (ms q) sb j->L' j=k+20+q:=by
 obtain ⟨i12,c,hc,bN,G,sb,Dt,hS,lU,hB⟩:=h.states q P S hq
 have ha:=hS.all
 have hn':∀j,gP G (ms q) sb j->¬T j:=fun j hj t=>hT j (ha j hj) t (hB j hj)
 exact ⟨i12,c,hc,bN,G,sb,Dt,hS.kept hO (fun x hx=>hn' x (.inl hx)) (hn' _ (.inr (.inl rfl))) (hn' _ (.inr (.inr rfl))),lU,fun x hx=>(hL x (ha x hx)).trans (hB x hx)⟩
theorem dP.kept (h:dP W L k al db nb n ms fa D A) (g:aj T W W') (hT:∀j,j<W.heap.size->T j->¬br k (L j)) (hL:∀j,j<W.heap.size->L' j=L j) (a:Int):dP W' L' k al db nb n ms fa D ⟨a,A.sh,A.st⟩:=by
 have hab:=h.nH
 have tab:¬T al:=fun t=>hT al hab t (by rw [h.lab];unfold br;omega)
 obtain ⟨F,h3,h4⟩:=h.map
 refine h.eH g (fun j hj t e=>hT j hj t (by rw [e];unfold br;omega)) hL a ((g.cell hab tab 0).trans h.c0) (fun i hi=>(g.cell hab tab _).trans (h.cs i hi)) ((g.cell hab tab 14).trans h.cn) (fun i=>(g.frozen hab tab i).trans (h.fz i)) ⟨F,h3.kept g fun j hj t=>hT j (tQ h3 j hj) t (by rw [h4 j hj];unfold br;omega),fun j hj=>(hL j (tQ h3 j hj)).trans (h4 j hj)⟩ fun i P S hi=>?_
 have i12:=(h.states i P S hi).1
 exact h.other g hL (fun j hj t e=>hT j hj t (by rw [e];unfold br;omega)) hi
theorem dP.mono (h:dP W L k al db nb n ms fa D A) (hn:n<=n'):dP W L k al db nb n' ms fa D A:=by
 obtain ⟨m,e,h2⟩:=h.la
 exact {h with la:=⟨m,by omega,h2⟩}
theorem dP.answered (h:dP W L k al db nb n ms fa D A) (hO:aj (fun j=>j=nb) W W') (hL:∀j,j<W.heap.size->L' j=L j) {M7:Lit->Option Value} {m:Nat} (hm:m<=n') (hl:bL W' Tryz.prog 3 nb m M7):dP W' L' k al db nb n' ms M7 D A:=by
 have hab:=h.nH
 have tab:¬al=nb:=fun e=>by have:=h.lab;have:=h.jU;rw [e] at *;omega
 obtain ⟨F,h3,h4⟩:=h.map
 obtain ⟨_,_,h2⟩:=h.la
 refine ⟨(hO.cell hab tab 0).trans h.c0,fun i hi=>(hO.cell hab tab _).trans (h.cs i hi),(hO.cell hab tab 14).trans h.cn,fun i=>(hO.frozen hab tab i).trans (h.fz i),(hL al hab).trans h.lab,(hL nb h2.lt).trans h.jU,⟨F,h3.kept hO fun j hj e=>by have a:=h4 j hj;have b:=h.jU;rw [e,b] at a;omega,fun j hj=>(hL j (tQ h3 j hj)).trans (h4 j hj)⟩,⟨m,hm,hl⟩,fun i P S hi=>?_⟩
 exact h.other hO hL (fun j _ t=>by have b:=h.jU;rw [t,b];omega) hi
theorem dP.turned (h:dP W L k al db nb n ms fa D A) {i:Nat} {P:List Pr} {S:Int->Option An} (hi:A.st i=some (P,S)) (hO:aj T W W') (hT:∀j,j<W.heap.size->T j->L j=k+20+i) (hL:∀j,j<W.heap.size->L' j=L j) {P':List Pr} {S':Int->Option An}
    (hS:∃c∈A.sh.xs,c.id=(i:Int)/\∃G sb Dt,dY W' G (ms i) sb c.lo c.hi Dt S'/\Pl.Tt P' Dt/\∀j,gP G (ms i) sb j->L' j=k+20+i):dP W' L' k al db nb n ms fa D ⟨A.at_,A.sh,cM A.st i (some (P',S'))⟩:=by
 have hab:=h.nH
 have i12:=(h.states i P S hi).1
 obtain ⟨F,h3,h4⟩:=h.map
 have tab:¬T al:=fun t=>by have a:=hT al hab t;have:=h.lab;omega
 refine h.eH hO (fun j hj t=>by rw [hT j hj t];omega) hL A.at_ ((hO.cell hab tab 0).trans h.c0) (fun j hj=>?_) ((hO.cell hab tab 14).trans h.cn) (fun j=>(hO.frozen hab tab j).trans (h.fz j)) ⟨F,h3.kept hO fun j hj t=>by have a:=hT j (tQ h3 j hj) t;have:=h4 j hj;omega,fun j hj=>(hL j (tQ h3 j hj)).trans (h4 j hj)⟩ fun j Q U hj=>?_
 · rw [(hO.cell hab tab _).trans (h.cs j hj)]
   unfold dB
   by_cases e:j=i
   · subst e;rw [il,hi];rfl
   · rw [fe _ _ e]
 · by_cases e:j=i
   · subst e
     rw [il] at hj
     cases hj
     exact ⟨i12,hS⟩
   · rw [fe _ _ e] at hj
     exact h.other hO hL (fun x hx t=>by rw [hT x hx t];omega) hj
theorem dP.moved (h:dP W L k al db nb n ms fa D A) {F F':Nat->Prop} (hF:∀j,F j->L j=k+2) (hO:aj F W W') {e:En} {at':Int} (k2:e.kind=2) {i:Nat} (hi:i<A.sh.xs.length) (fc:Pl.iI A.sh.xs e=i) {D':bj} (hS:dU W' F' db D') (hF':∀j,F' j->F j\/W.heap.size<=j) (hL:∀j,j<W.heap.size->L' j=L j) (hN:∀j,W.heap.size<=j->L' j=k+2) (aq:∀j,F j->j<W.heap.size):
    dP W' L' k al db nb n ms fa D' ⟨A.at_,Pl.aW A.sh e at',A.st⟩:=by
 have hab:=h.nH
 have tab:¬F al:=fun t=>by have a:=hF al t;have:=h.lab;omega
 refine h.eH hO (fun j _ t=>by rw [hF j t];omega) hL A.at_ ((hO.cell hab tab 0).trans h.c0) (fun j hj=>(hO.cell hab tab _).trans (h.cs j hj)) ((hO.cell hab tab 14).trans h.cn) (fun j=>(hO.frozen hab tab j).trans (h.fz j)) ⟨F',hS,fun j hj=>?_⟩ fun q P S hq=>?_
 · rcases hF' j hj with t | t
   · rw [hL j (aq j t),hF j t]
   · exact hN j t
 · obtain ⟨i12,c,hc,bN,rest⟩:=h.other hO hL (q:=q) (fun j _ t=>by rw [hF j t];omega) hq
   obtain ⟨kk,hkk,rfl⟩:=Pl.yL hc
   have ex:(Pl.aW A.sh e at').xs=A.sh.xs.set i ⟨(ah A.sh.xs i).id,e.server,(ah A.sh.xs i).since,(ah A.sh.xs i).lo,(ah A.sh.xs i).hi⟩:=by
    unfold Pl.aW;rw [zZ1 k2,fc]
   refine ⟨i12,ah (Pl.aW A.sh e at').xs kk,?_,?_,?_⟩
   · rw [ex];exact Pl.jB (by rw [List.length_set];exact hkk)
   · rw [ex,Pl.qb _ _ hi]
     by_cases e2:kk=i
     · rw [zZ1 e2,<-bN,e2]
     · rw [zZ0 e2];exact bN
   · rw [ex,Pl.qb _ _ hi]
     by_cases e2:kk=i
     · rw [zZ1 e2];subst e2;exact rest
     · rw [zZ0 e2];exact rest
end
def rG (W:World) (L:Nat->Nat) (k al n:Nat) (fa:Lit->Option Value) (D:bj) (A:bc) (W':World):Prop:=aj (fun j=>br k (L j)) W W'/\∃L',(∀j,j<W.heap.size->L' j=L j)/\(∀j,W.heap.size<=j->br k (L' j))/\eN W' L' k al n fa D A
section
variable {W V W':World} {L L1:Nat->Nat} {k al n n':Nat} {fa:Lit->Option Value} {D:bj} {A:bc}
theorem eN.mono (h:eN W L k al n fa D A) (hn:n<=n'):eN W L k al n' fa D A:=by
 obtain ⟨db,nb,ms,h⟩:=h
 exact ⟨db,nb,ms,h.mono hn⟩
theorem eN.kept {L':Nat->Nat} {T:Nat->Prop} (h:eN W L k al n fa D A) (g:aj T W W') (hT:∀j,j<W.heap.size->T j->¬br k (L j)) (hL:∀j,j<W.heap.size->L' j=L j):eN W' L' k al n fa D A:=by
 obtain ⟨db,nb,ms,h⟩:=h
 exact ⟨db,nb,ms,h.kept g hT hL A.at_⟩
theorem eN.ag (h:eN W L k al n fa D A) (g:ae W W'):eN W' L k al n fa D A:=h.kept (g.only fun _=>False) (fun _ _ h=>h.elim) fun _ _=>rfl
theorem eN.any (h:eN W L k al n fa D A) (a:Int):eN W L k al n fa D ⟨a,A.sh,A.st⟩:=by
 obtain ⟨db,nb,ms,h⟩:=h
 exact ⟨db,nb,ms,h.kept ((ae.rf W).only fun _=>False) (fun _ _ h=>h.elim) (fun _ _=>rfl) a⟩
theorem rG.mono (h:rG W L k al n fa D A W') (hn:n<=n'):rG W L k al n' fa D A W':=by
 obtain ⟨h1,L',h2,h3,h4⟩:=h
 exact ⟨h1,L',h2,h3,h4.mono hn⟩
end
end
section
open Go.RowKit Go.Maps
namespace Pl
theorem AH {c d:Sh} {P Q Dt Du:List Pr} (h:ct (fq c d P Q)/\(fq c d P Q).Perm (P++Q)) (hP:Tt P Dt) (hQ:Tt Q Du):Tt (fq c d P Q) (Dt++Du)/\∀p∈Du,b7 (isK p.key) Dt= -1:=by
 have hp:(fq c d P Q).Perm (Dt++Du):=h.2.trans (hP.perm.append hQ.perm)
 have hap:(Dt++Du).Pairwise fun a b=>a.key≠b.key:=(hp.pairwise_iff fun {a b} (e:a.key≠b.key)=>Ne.symm e).1 (OZ h.1)
 refine ⟨⟨h.1,hap,fun p=>hp.symm.mem_iff⟩,fun p hp=>rL _ _ (zX2.2 fun q hq=>?_)⟩
 cases hk:isK p.key q with
 | false=>rfl
 | true=>exact absurd ((fN p.key q).1 hk) ((List.pairwise_append.1 hap).2.2 q hq p hp)
end Pl
theorem Kc {U:World} {al i:Nat} {u v:Value} (h:U.cell? ⟨al,i,none⟩=some u):(U.setCell ⟨al,i,none⟩ v).cell? ⟨al,i,none⟩=some v/\(∀j,j≠i->(U.setCell ⟨al,i,none⟩ v).cell? ⟨al,j,none⟩=U.cell? ⟨al,j,none⟩)/\(∀j,(U.setCell ⟨al,i,none⟩ v).frozen? ⟨al,j,none⟩=U.frozen? ⟨al,j,none⟩)/\aj (fun j=>j=al) U (U.setCell ⟨al,i,none⟩ v):=
 ⟨World.cell?_setCell_same' _ _ _ (by rw [h];rfl),fun j hj=>World.cell?_setCell_other _ _ _ _ (by intro e;injection e with _ e2;exact hj e2.symm),fun j=>World.frozen?_setCell _ _ _ _,aj.setCell U ⟨al,i,none⟩ v⟩
open Classical in
theorem dP.split {W V U:World} {L:Nat->Nat} {k al db nb n m0:Nat} {ms:Nat->Nat} {fa:Lit->Option Value} {D D':bj} {A:bc} (h:dP W L k al db nb n ms fa D A) (bq:bw A m0) {F F':Nat->Prop} (hF:∀j,F j->L j=k+2) (aq:∀j,F j->j<W.heap.size) (hO:aj F W V) {e:En} {at':Int} (ha:Pl.eQ A.sh.xs A.sh.used e at'=true) (k3:e.kind=3)
    (hS:dU V F' db D') (hF':∀j,F' j->F j\/W.heap.size<=j) {P:List Pr} {S:Int->Option An} (hst:A.st e.ai.toNat=some (P,S)) {c:Sh} (hc:c∈A.sh.xs) (bN:c.id=(e.ai.toNat:Int)) {G:Nat->Prop} {sb ob:Nat} {Dt:List Pr} (lU:Pl.Tt P Dt) (hB:∀j,gP G (ms e.ai.toNat) sb j->L j=k+20+e.ai.toNat) (hBlt:∀j,gP G (ms e.ai.toNat) sb j->j<W.heap.size)
    (hC:JZ V G (ms e.ai.toNat) sb c.lo e.key e.key c.hi (Dt.filter fun p=>!Pl.fH e.key p) (Dt.filter (Pl.fH e.key)) S ob U):
    aj (fun j=>br k (L j)) W (U.setCell ⟨al,1+e.other.toNat,none⟩ (.pointer (some ⟨ob,0,none⟩)))/\∃L',(∀j,j<W.heap.size->L' j=L j)/\(∀j,W.heap.size<=j->br k (L' j))/\eN (U.setCell ⟨al,1+e.other.toNat,none⟩ (.pointer (some ⟨ob,0,none⟩))) L' k al n fa D' ⟨A.at_,Pl.aW A.sh e at',Pl.gS A e⟩:=by
 have hcb:Pl.iq A.sh.xs A.sh.used e=true:=by unfold Pl.eQ at ha;simp only [Bool.and_eq_true] at ha;exact ha.1.1
 obtain ⟨hr,i,hi,hf,fc,bP,hk⟩:=Pl.nz hcb
 obtain ⟨hu,o1,o2,hh,hne⟩:A.sh.used e.other.toNat=false/\1<=e.other/\e.other<=12/\Pl.aL (ah A.sh.xs i).lo (ah A.sh.xs i).hi e.key=true/\e.key.toList≠(ah A.sh.xs i).lo.toList:=by
  rcases hk with k2 | ⟨_,q⟩ | ⟨k4,_⟩
  · omega
  · exact q
  · omega
 have iP:=Pl.jB hi
 have oU:=bq.inv.ids _ iP
 have jQ:c=ah A.sh.xs i:=by
  rw [<-Pl.jh bq hc bN,Pl.jh bq iP (i:=e.ai.toNat) (by omega)]
 have dh:A.st e.other.toNat=none:=by
  cases hx:A.st e.other.toNat with
  | none=>rfl
  | some v=>
   obtain ⟨x,hx1,af⟩:=bq.back e.other.toNat (by rw [hx];simp)
   have:=(bq.inv.ids x hx1).2.2
   rw [af,Int.toNat_natCast,hu] at this
   cases this
 have jM:e.ai.toNat≠e.other.toNat:=fun e1=>by rw [e1,dh] at hst;cases hst
 have es:Pl.gS A e=cM (cM A.st e.ai.toNat (some (P.take (Pl.bh P e.key),S))) e.other.toNat (some (P.drop (Pl.bh P e.key),S)):=by
  unfold Pl.gS;rw [zZ1 k3,hst]
 have ex:(Pl.aW A.sh e at').xs=Pl.iU A.sh.xs i e.key e.other e.server at':=by
  unfold Pl.aW;rw [zZ0 (by omega),zZ1 k3,fc]
 obtain ⟨eO,G',Go,cb,hS1,jq,Gw,gL⟩:=hC
 obtain ⟨t1,t2⟩:=lU.cut e.key
 obtain ⟨q,hq⟩:∃q,q=e.ai.toNat:=⟨_,rfl⟩
 obtain ⟨o,ho⟩:∃o,o=e.other.toNat:=⟨_,rfl⟩
 have hoi:e.other=(o:Int):=by omega
 rw [<-hq] at hst bN hB hBlt eO hS1 gL jM es
 rw [<-ho] at dh jM es ⊢
 have Ju:=hO.size
 have hVU:=eO.size
 have hlab:=h.lab
 have qB:=h.nH
 have nF:¬F al:=fun t=>by have:=hF al t;omega
 have nG:¬(al=ms q\/G al):=fun t=>by
  have:gP G (ms q) sb al:=t.elim (fun e=> .inr (.inl e)) .inl
  have:=hB al this;omega
 have xB:=ltT qB Ju
 have cu:∀x,U.cell? ⟨al,x,none⟩=W.cell? ⟨al,x,none⟩:=fun x=>(eO.cell xB nG x).trans (hO.cell qB nF x)
 have fu:∀x,U.frozen? ⟨al,x,none⟩=W.frozen? ⟨al,x,none⟩:=fun x=>(eO.frozen xB nG x).trans (hO.frozen qB nF x)
 obtain ⟨s1,s2,s3,iQ⟩:=Kc (v:=.pointer (some ⟨ob,0,none⟩)) ((cu (1+o)).trans (h.cs o (by omega)))
 generalize hX:U.setCell ⟨al,1+o,none⟩ (.pointer (some ⟨ob,0,none⟩))=X at *
 obtain ⟨T,hT⟩:∃T:Nat->Prop,T=fun j=>F j\/gP G (ms q) sb j\/j=al:=⟨_,rfl⟩
 have qq:aj T W X:=by
  rw [hT]
  refine ((hO.mono fun j hj=> .inl (.inl hj)).then (eO.mono fun j hj=> .inl ?_)).then (iQ.mono fun j hj=> .inl (.inr (.inr hj)))
  rcases hj with t | t
  · exact .inr (.inl (.inr (.inl t)))
  · exact .inr (.inl (.inl t))
 have qs:∀j,T j->L j=k+2\/L j=k+20+q\/L j=k:=fun j hj=>by
  rw [hT] at hj
  rcases hj with t | t | t
  · exact .inl (hF j t)
  · exact .inr (.inl (hB j t))
  · exact .inr (.inr (by rw [t];exact hlab))
 have o6:=(h.states q P S hst).1
 have j0z:=hS1.all
 have j0A:=jq.all
 have Ke:∀{j},(j<W.heap.size->L j≠k)->¬j=al:=fun hj e=>hj (by omega) (by rw [e];exact hlab)
 have Kf:∀j,gP G' (ms q) sb j->gP G (ms q) sb j\/V.heap.size<=j:=fun j hj=>by
  rcases hj with t | t | t
  · exact (Gw j t).imp .inl id
  · exact .inl (.inr (.inl t))
  · exact .inl (.inr (.inr t))
 have n1:∀j,gP G' (ms q) sb j->¬j=al:=fun j hj=>Ke fun hl=>by
  rcases Kf j hj with t | t
  · rw [hB j t];omega
  · omega
 have n2:∀j,gP Go ob cb j->¬j=al:=fun j hj e=>by have:=(gL j hj).1;omega
 refine ⟨qq.mono fun j hj=> .inl (by unfold br;rcases qs j hj with t | t | t<;> omega),fun j=>if j<W.heap.size then L j else if j<V.heap.size then k+2 else if gP Go ob cb j then k+20+o else k+20+q,fun j hj=>zZ1 hj,fun j hj=>?_,db,nb,fun z=>if z=o then ob else ms z,?_⟩
 · dsimp only
   rw [zZ0 (by omega)]
   unfold br
   repeat' split
   all_goals omega
 refine h.eH qq (fun j _ t=>by rcases qs j t with t | t | t<;> omega) (fun j hj=>zZ1 hj) A.at_ ((s2 0 (by omega)).trans ((cu 0).trans h.c0)) (fun z hz=>?_) ((s2 14 (by omega)).trans ((cu 14).trans h.cn)) (fun z=>(s3 z).trans ((fu z).trans (h.fz z))) ⟨F',(hS.kept eO fun j hj t=>?_).kept iQ fun j hj=>Ke fun hl=>?_,fun j hj=>?_⟩ (fun z P2 S2 hz=>?_)
 · rw [es]
   unfold dB
   dsimp only
   by_cases e1:z=o
   · subst e1;rw [s1,il,zZ1 rfl];rfl
   · rw [s2 _ (by omega),cu,h.cs z hz,fe _ _ e1,zZ0 e1]
     unfold dB
     by_cases e2:z=q
     · subst e2;rw [il,hst];rfl
     · rw [fe _ _ e2]
 · have Kg:gP G (ms q) sb j:=t.elim (fun e=> .inr (.inl e)) .inl
   have a:=hB j Kg
   have b:=hBlt j Kg
   rcases hF' j hj with t2 | t2
   · have:=hF j t2;omega
   · omega
 · rcases hF' j hj with t2 | t2
   · rw [hF j t2];omega
   · omega
 · have Er:=tQ hS j hj
   rcases hF' j hj with t2 | t2
   · rw [zZ1 (aq j t2)];exact hF j t2
   · rw [zZ0 (by omega),zZ1 Er]
 · rw [es] at hz
   by_cases e1:z=o
   · subst e1
     rw [il] at hz
     cases hz
     refine ⟨by omega,⟨e.other,e.server,at'+1,e.key,(ah A.sh.xs i).hi⟩,by rw [ex];unfold Pl.iU;simp,hoi,Go,cb,_,?_,t2,fun j hj=>?_⟩
     · rw [zZ1 rfl];rw [jQ] at jq
       exact jq.kept iQ (fun x hx=>n2 x (.inl hx)) (n2 _ (.inr (.inl rfl))) (n2 _ (.inr (.inr rfl)))
     · rw [zZ1 rfl] at hj
       have:=(gL j hj).1
       rw [zZ0 (by omega),zZ0 (by omega),zZ1 hj]
   · rw [fe _ _ e1] at hz
     by_cases e2:z=q
     · subst e2
       rw [il] at hz
       cases hz
       refine ⟨o6,⟨(ah A.sh.xs i).id,(ah A.sh.xs i).server,at'+1,(ah A.sh.xs i).lo,e.key⟩,by rw [ex];unfold Pl.iU;simp,by rw [<-bN,jQ],G',sb,_,?_,t1,fun j hj=>?_⟩
       · rw [zZ0 e1];rw [jQ] at hS1
         exact hS1.kept iQ (fun x hx=>n1 x (.inl hx)) (n1 _ (.inr (.inl rfl))) (n1 _ (.inr (.inr rfl)))
       · rw [zZ0 e1] at hj
         rcases Kf j hj with t | t
         · rw [zZ1 (hBlt j t)];exact hB j t
         · rw [zZ0 (by omega),zZ0 (by omega),zZ0 (fun x=>(gL j x).2 hj)]
     · rw [fe _ _ e2] at hz
       rw [zZ0 e1]
       obtain ⟨i12,x,hx,jV,rest⟩:=h.other (L':=fun j=>if j<W.heap.size then L j else if j<V.heap.size then k+2 else if gP Go ob cb j then k+20+o else k+20+q) qq (fun j hj=>zZ1 hj) (q:=z) (fun j _ t=>by rcases qs j t with t | t | t<;> omega) hz
       obtain ⟨kk,hkk,rfl⟩:=Pl.yL hx
       have wR:kk≠i:=fun e3=>e2 (by rw [e3,bP] at jV;omega)
       exact ⟨i12,_,by rw [ex];exact Pl.Qk hkk wR,jV,rest⟩
theorem dP.merge {W V U:World} {L:Nat->Nat} {k al db nb n m0:Nat} {ms:Nat->Nat} {fa:Lit->Option Value} {D D':bj} {A:bc} (h:dP W L k al db nb n ms fa D A) (bq:bw A m0) {F F':Nat->Prop} (hF:∀j,F j->L j=k+2) (aq:∀j,F j->j<W.heap.size) (hO:aj F W V) {e:En} {at':Int} (ha:Pl.eQ A.sh.xs A.sh.used e at'=true) (k4:e.kind=4)
    (hS:dU V F' db D') (hF':∀j,F' j->F j\/W.heap.size<=j) {P Q:List Pr} {S T:Int->Option An} (hst:A.st e.ai.toNat=some (P,S)) (hsu:A.st e.other.toNat=some (Q,T)) {c d:Sh} (hc:c∈A.sh.xs) (bN:c.id=(e.ai.toNat:Int)) (hd:d∈A.sh.xs) (mj:d.id=(e.other.toNat:Int)) {G:Nat->Prop} {sb:Nat} {Dj:List Pr} {J:Int->Option An} (lU:Pl.Tt (Pl.fq c d P Q) Dj) (hJ:J=joinL S (js T)) (hB:∀j,gP G (ms e.ai.toNat) sb j->L j=k+20+e.ai.toNat) (hBlt:∀j,gP G (ms e.ai.toNat) sb j->j<W.heap.size)
    (hC:oG V G (ms e.ai.toNat) sb (Pl.aH (Pl.bf c.lo c.hi) (Pl.bf d.lo d.hi) c.lo c.hi d.lo d.hi).1 (Pl.aH (Pl.bf c.lo c.hi) (Pl.bf d.lo d.hi) c.lo c.hi d.lo d.hi).2 Dj J U):
    aj (fun j=>br k (L j)) W (U.setCell ⟨al,1+e.other.toNat,none⟩ (.pointer none))/\∃L',(∀j,j<W.heap.size->L' j=L j)/\(∀j,W.heap.size<=j->br k (L' j))/\eN (U.setCell ⟨al,1+e.other.toNat,none⟩ (.pointer none)) L' k al n fa D' ⟨A.at_,Pl.aW A.sh e at',Pl.gS A e⟩:=by
 subst hJ
 have hcb:Pl.iq A.sh.xs A.sh.used e=true:=by unfold Pl.eQ at ha;simp only [Bool.and_eq_true] at ha;exact ha.1.1
 obtain ⟨hr,i,hi,hf,fc,bP,hk⟩:=Pl.nz hcb
 obtain ⟨jj,hj,kF,nA,eA,hz⟩:∃j,j<A.sh.xs.length/\Pl.ax A.sh.xs e.other=(j:Nat)/\Pl.l9 A.sh.xs e=j/\(ah A.sh.xs j).id=e.other/\Pl.aK (Pl.bf (ah A.sh.xs i).lo (ah A.sh.xs i).hi) (Pl.bf (ah A.sh.xs j).lo (ah A.sh.xs j).hi) (ah A.sh.xs i).lo (ah A.sh.xs i).hi (ah A.sh.xs j).lo (ah A.sh.xs j).hi=0:=by
  rcases hk with k2 | ⟨k3,_⟩ | ⟨_,q⟩
  · omega
  · omega
  · exact q
 clear hk
 have hrs:=(Pl.BG hr k4).2.2.2.2
 have iP:=Pl.jB hi
 have ll:=Pl.jB hj
 have nB:=bq.inv.ids _ iP
 have mh:=bq.inv.ids _ ll
 have hij:i≠jj:=fun e1=>hrs (by rw [<-bP,<-eA,e1])
 have hsc:Pl.cf A e.ai.toNat=c:=Pl.jh bq hc bN
 have Jv:Pl.cf A e.other.toNat=d:=Pl.jh bq hd mj
 have jQ:c=ah A.sh.xs i:=by rw [<-hsc,Pl.jh bq iP (i:=e.ai.toNat) (by omega)]
 have BL:d=ah A.sh.xs jj:=by rw [<-Jv,Pl.jh bq ll (i:=e.other.toNat) (by omega)]
 have jM:e.ai.toNat≠e.other.toNat:=fun e1=>hrs (by omega)
 have es:Pl.gS A e=cM (cM A.st e.ai.toNat (some (Pl.fq c d P Q,joinL S (js T)))) e.other.toNat none:=by
  unfold Pl.gS;rw [zZ0 (by omega),zZ1 k4,hst,hsu]
  dsimp only
  rw [hsc,Jv]
 have ex:(Pl.aW A.sh e at').xs=Pl.ja A.sh.xs i jj (Pl.aH (Pl.bf c.lo c.hi) (Pl.bf d.lo d.hi) c.lo c.hi d.lo d.hi) at':=by
  unfold Pl.aW;rw [zZ0 (by omega),zZ0 (by omega),fc,nA,jQ,BL]
 generalize Pl.aH (Pl.bf c.lo c.hi) (Pl.bf d.lo d.hi) c.lo c.hi d.lo d.hi=vv at *
 obtain ⟨eO,G',hS1,Gw⟩:=hC
 obtain ⟨q,hq⟩:∃q,q=e.ai.toNat:=⟨_,rfl⟩
 obtain ⟨o,ho⟩:∃o,o=e.other.toNat:=⟨_,rfl⟩
 have hoi:e.other=(o:Int):=by omega
 rw [<-hq] at hst bN hB hBlt eO hS1 jM es
 rw [<-ho] at hsu jM es ⊢
 have Ju:=hO.size
 have hVU:=eO.size
 have hlab:=h.lab
 have qB:=h.nH
 have Rw:∀j,(j=ms q\/j=sb\/G j)->gP G (ms q) sb j:=fun j hj=>by
  rcases hj with t | t | t
  · exact .inr (.inl t)
  · exact .inr (.inr t)
  · exact .inl t
 have nF:¬F al:=fun t=>by have:=hF al t;omega
 have nG:¬(al=ms q\/al=sb\/G al):=fun t=>by have:=hB al (Rw al t);omega
 have xB:=ltT qB Ju
 have cu:∀x,U.cell? ⟨al,x,none⟩=W.cell? ⟨al,x,none⟩:=fun x=>(eO.cell xB nG x).trans (hO.cell qB nF x)
 have fu:∀x,U.frozen? ⟨al,x,none⟩=W.frozen? ⟨al,x,none⟩:=fun x=>(eO.frozen xB nG x).trans (hO.frozen qB nF x)
 obtain ⟨s1,s2,s3,iQ⟩:=Kc (v:=.pointer none) ((cu (1+o)).trans (h.cs o (by omega)))
 generalize hX:U.setCell ⟨al,1+o,none⟩ (.pointer none)=X at *
 obtain ⟨T',hT⟩:∃T':Nat->Prop,T'=fun j=>F j\/gP G (ms q) sb j\/j=al:=⟨_,rfl⟩
 have qq:aj T' W X:=by
  rw [hT]
  exact ((hO.mono fun j hj=> .inl (.inl hj)).then (eO.mono fun j hj=> .inl (.inr (.inl (Rw j hj))))).then (iQ.mono fun j hj=> .inl (.inr (.inr hj)))
 have qs:∀j,T' j->L j=k+2\/L j=k+20+q\/L j=k:=fun j hj=>by
  rw [hT] at hj
  rcases hj with t | t | t
  · exact .inl (hF j t)
  · exact .inr (.inl (hB j t))
  · exact .inr (.inr (by rw [t];exact hlab))
 have o6:=(h.states q P S hst).1
 have Ke:∀{j},(j<W.heap.size->L j≠k)->¬j=al:=fun hj e=>hj (by omega) (by rw [e];exact hlab)
 have Kf:∀j,gP G' (ms q) sb j->gP G (ms q) sb j\/V.heap.size<=j:=fun j hj=>by
  rcases hj with t | t | t
  · exact (Gw j t).imp .inl id
  · exact .inl (.inr (.inl t))
  · exact .inl (.inr (.inr t))
 have n1:∀j,gP G' (ms q) sb j->¬j=al:=fun j hj=>Ke fun hl=>by
  rcases Kf j hj with t | t
  · rw [hB j t];omega
  · omega
 refine ⟨qq.mono fun j hj=> .inl (by unfold br;rcases qs j hj with t | t | t<;> omega),fun j=>if j<W.heap.size then L j else if j<V.heap.size then k+2 else k+20+q,fun j hj=>zZ1 hj,fun j hj=>?_,db,nb,ms,?_⟩
 · dsimp only
   rw [zZ0 (by omega)]
   unfold br
   repeat' split
   all_goals omega
 refine h.eH qq (fun j _ t=>by rcases qs j t with t | t | t<;> omega) (fun j hj=>zZ1 hj) A.at_ ((s2 0 (by omega)).trans ((cu 0).trans h.c0)) (fun z hz=>?_) ((s2 14 (by omega)).trans ((cu 14).trans h.cn)) (fun z=>(s3 z).trans ((fu z).trans (h.fz z))) ⟨F',(hS.kept eO fun j hj t=>?_).kept iQ fun j hj=>Ke fun hl=>?_,fun j hj=>?_⟩ (fun z P2 S2 hz=>?_)
 · rw [es]
   unfold dB
   by_cases e1:z=o
   · subst e1;rw [s1,il];rfl
   · rw [s2 _ (by omega),cu,h.cs z hz,fe _ _ e1]
     unfold dB
     by_cases e2:z=q
     · subst e2;rw [il,hst];rfl
     · rw [fe _ _ e2]
 · have Kg:=Rw j t
   have a:=hB j Kg
   have b:=hBlt j Kg
   rcases hF' j hj with t2 | t2
   · have:=hF j t2;omega
   · omega
 · rcases hF' j hj with t2 | t2
   · rw [hF j t2];omega
   · omega
 · have Er:=tQ hS j hj
   rcases hF' j hj with t2 | t2
   · rw [zZ1 (aq j t2)];exact hF j t2
   · rw [zZ0 (by omega),zZ1 Er]
 · rw [es] at hz
   by_cases e1:z=o
   · subst e1
     rw [il] at hz
     cases hz
   · rw [fe _ _ e1] at hz
     by_cases e2:z=q
     · subst e2
       rw [il] at hz
       cases hz
       refine ⟨o6,_,by rw [ex];exact Pl.Gf hi (k:=i) hi hij,by rw [zZ1 rfl];dsimp only;rw [<-bN,jQ],G',sb,_,?_,lU,fun j hj=>?_⟩
       · rw [zZ1 rfl]
         exact hS1.kept iQ (fun x hx=>n1 x (.inl hx)) (n1 _ (.inr (.inl rfl))) (n1 _ (.inr (.inr rfl)))
       · rcases Kf j hj with t | t
         · rw [zZ1 (hBlt j t)];exact hB j t
         · rw [zZ0 (by omega),zZ0 (by omega)]
     · rw [fe _ _ e2] at hz
       obtain ⟨i12,x,hx,jV,rest⟩:=h.other (L':=fun j=>if j<W.heap.size then L j else if j<V.heap.size then k+2 else k+20+q) qq (fun j hj=>zZ1 hj) (q:=z) (fun j _ t=>by rcases qs j t with t | t | t<;> omega) hz
       obtain ⟨kk,hkk,rfl⟩:=Pl.yL hx
       have wR:kk≠i:=fun e3=>e2 (by rw [e3,bP] at jV;omega)
       have hkj:kk≠jj:=fun e3=>e1 (by rw [e3,eA] at jV;omega)
       have:=Pl.Gf (v:=vv) (at':=at') hi (j:=jj) (k:=kk) hkk hkj
       rw [zZ0 wR] at this
       exact ⟨i12,_,by rw [ex];exact this,jV,rest⟩
namespace Pl
theorem y6J:∀(x y:List Nat),eX x y<0->¬eX y x<0:=by
 intro x
 induction x with
 | nil=>intro y h;cases y<;> simp [eX] at h ⊢
 | cons a x ih=>
  intro y h
  cases y with
  | nil=>simp [eX] at h
  | cons b y=>
   unfold eX at h ⊢
   by_cases h1:a<b
   · have:¬(b<a):=by omega
     simp [h1,this]
   · by_cases h2:b<a
     · simp [h1,h2] at h
     · simp [h1,h2] at h ⊢
       have:=ih y h
       omega
theorem Xd {a b:ByteArray} (h:bE a b<0):¬bE b a<0:=by
 unfold bE at h ⊢
 cases h1:runes a.data.toList with
 | none=>rw [h1] at h;simp at h
 | some x=>
  cases h2:runes b.data.toList with
  | none=>rw [h1,h2] at h;simp at h
  | some y=>rw [h1,h2] at h;exact y6J x y h
end Pl
theorem xK {l l':List ByteArray} (h:l.Pairwise fun a b=>Pl.bE a b<0) (h':l'.Pairwise fun a b=>Pl.bE a b<0) (hm:∀x,x∈l↔x∈l'):l=l':=by
 have nd:∀{l:List ByteArray},(l.Pairwise fun a b=>Pl.bE a b<0)->l.Nodup:=fun h=>h.imp fun {a b} hab e=>by
  subst e
  exact Pl.Xd hab hab
 exact List.Perm.eq_of_pairwise (le:=fun a b=>Pl.bE a b<0) (fun a b _ _ h1 h2=>absurd h2 (Pl.Xd h1)) h h' ((List.perm_ext_iff_of_nodup (nd h) (nd h')).2 hm)
structure j0D (w0 W:World) (RP RQ RR RS:Nat) (lo hi:ByteArray) (n1 n2 m1 m2:Nat) (A1 A2:bc) (t1 t2:Int) (a:Option Addr) (xs:List Cg):Prop where
 ag:ae w0 W
 c1:mW W RP RQ lo hi t1
 c2:mW W RR RS ⟨#[]⟩ ⟨#[]⟩ t2
 ex:∃L,(∀j,j<w0.heap.size->L j=0)/\L RP=150/\L RR=350/\bQ W L 1 RQ n1 A1/\bQ W L 201 RS n2 A2/\(xs=[]\/∃b off,a=some ⟨b,off,none⟩/\b<W.heap.size/\(L b=0\/br 1 (L b))/\ly W b off xs)
 ok1:bw A1 m1
 ok2:bw A2 m2
section
variable {w0 W U:World} {RP RQ RR RS:Nat} {lo hi:ByteArray} {n1 n2 m1 m2:Nat} {A1 A2:bc} {t1 t2:Int} {a:Option Addr} {xs:List Cg}
end
end
section
def jW (A B:bc) (lo hi:ByteArray) (at':Int) (us:List ByteArray):List Cg:=(us.map (sF A B at')).filter fun c=>Pl.aL lo hi c.key && !c.same
theorem Xe {A B:bc} {at':Int} {k:ByteArray} (h:Pl.aS B k=Pl.aS A k):(sF A B at' k).same=true:=by
 rw [xa]
 unfold sF Cg.was Cg.now
 rw [h]
 exact ⟨rfl,rfl⟩
theorem z0N {A:bc} {m:Nat} (hok:bw A m) (hs:∀i P S,A.st i=some (P,S)->Pl.ct P) {lo hi:ByteArray} {e:En} {at':Int} (hs2:∀i P S,(Pl.bF A e at').2.st i=some (P,S)->Pl.ct P) (xL:(Pl.bF A e at').1=0) {ks us:List ByteArray} (h:Pl.gG lo hi e ks) (yK:us.Pairwise fun a b=>Pl.bE a b<0) (hm:∀k,k∈us↔(Pl.aS A k).isSome=true\/(Pl.aS (Pl.bF A e at').2 k).isSome=true):
    jW A (Pl.bF A e at').2 lo hi at' us=lS A (Pl.bF A e at').2 at' ks:=by
 have hr:Pl.bR e=true:=by
  cases q:Pl.bR e with
  | true=>rfl
  | false=>
   unfold Pl.bF at xL
   rw [zZ1 q] at xL
   cases xL
 have hsame:∀k,(sF A (Pl.bF A e at').2 at' k).same=false->e.kind=1/\∃o∈e.ops,o.key=k:=fun k q=>by
  apply zZ7
  intro hn
  have:=Xe (at':=at') (Pl.z0B hok hs e at' hs2 k fun k1 o ho e1=>hn ⟨k1,o,ho,e1⟩)
  rw [q] at this
  cases this
 unfold jW lS ig
 rw [List.filter_map,List.filter_map]
 congr 1
 refine xK (yK.filter _) (h.gD.filter _) fun k=>?_
 rw [List.mem_filter,List.mem_filter,hm,h.mem]
 simp only [Function.comp_apply,Bool.and_eq_true,Bool.not_eq_true']
 constructor
 · rintro ⟨_,h1,h2⟩
   obtain ⟨k1,ho⟩:=hsame k h2
   exact ⟨⟨k1,hr,ho,h1⟩,h2⟩
 · rintro ⟨⟨_,_,_,h1⟩,h2⟩
   refine ⟨?_,h1,h2⟩
   apply zZ7
   intro hn
   rw [not_or] at hn
   have e1:Pl.aS A k=none:=by simpa using hn.1
   have e2:Pl.aS (Pl.bF A e at').2 k=none:=by simpa using hn.2
   rw [Xe (e2.trans e1.symm)] at h2
   cases h2
namespace Pl
def cK (T1 T2:List Pr) (k:Nat):List Pr:=T1++(T2.take k).filter fun p=>(T1.find? (isK p.key)).isNone
theorem z2f (T1 T2:List Pr):cK T1 T2 0=T1:=by unfold cK;simp
theorem Ku {D:List Pr} {k:ByteArray}:(D.find? (isK k)).isSome=true↔∃p∈D,p.key=k:=by
 rw [List.find?_isSome]
 constructor
 · rintro ⟨p,h1,h2⟩;exact ⟨p,h1,(fN k p).1 h2⟩
 · rintro ⟨p,h1,h2⟩;exact ⟨p,h1,(fN k p).2 h2⟩
theorem z4H {T1 T2:List Pr} (h2:T2.Pairwise fun a b=>a.key≠b.key) (k:Nat) (hk:k<T2.length):((cK T1 T2 k).find? (isK T2[k].key)).isSome=(T1.find? (isK T2[k].key)).isSome:=by
 rw [zX5,Ku,Ku]
 unfold cK
 constructor
 · rintro ⟨p,hp,e⟩
   rcases List.mem_append.1 hp with q | q
   · exact ⟨p,q,e⟩
   · have q1:=(List.mem_filter.1 q).1
     obtain ⟨j,hj,rfl⟩:=List.mem_take_iff_getElem.1 q1
     exact absurd e (zX0.1 h2 j k (by omega) hk (by omega))
 · rintro ⟨p,hp,e⟩
   exact ⟨p,List.mem_append_left _ hp,e⟩
theorem z3j {T1 T2:List Pr} (k:Nat) (hk:k<T2.length):cK T1 T2 (k+1)=if (T1.find? (isK T2[k].key)).isSome=true then cK T1 T2 k else cK T1 T2 k++[T2[k]]:=by
 unfold cK
 rw [zZ6 hk,List.filter_append,List.filter_cons,List.filter_nil]
 cases h:T1.find? (isK T2[k].key)<;> simp
theorem Xf (T1 T2:List Pr) (k:Nat):(cK T1 T2 k).length<=T1.length+T2.length:=by
 unfold cK
 rw [zX8]
 have h1:=zJ9 (fun p=>(T1.find? (isK p.key)).isNone) (T2.take k)
 have h2:=List.length_take_le k T2
 have h3:(T2.take k).length<=T2.length:=by rw [List.length_take];omega
 omega
theorem Xg {T1 T2:List Pr} (h1:T1.Pairwise fun a b=>a.key≠b.key) (h2:T2.Pairwise fun a b=>a.key≠b.key):(cK T1 T2 T2.length).Pairwise (fun a b=>a.key≠b.key)/\(∀p∈cK T1 T2 T2.length,p∈T1\/p∈T2)/\∀k,(∃p∈cK T1 T2 T2.length,p.key=k)↔(T1.find? (isK k)).isSome=true\/(T2.find? (isK k)).isSome=true:=by
 unfold cK
 rw [zQ2]
 refine ⟨?_,fun p hp=>?_,fun k=>?_⟩
 · rw [List.pairwise_append]
   refine ⟨h1,h2.filter _,fun a ha b hb e=>?_⟩
   have:=(List.mem_filter.1 hb).2
   rw [Option.isNone_iff_eq_none] at this
   have hs:(T1.find? (isK b.key)).isSome=true:=Ku.2 ⟨a,ha,e⟩
   rw [this] at hs
   cases hs
 · rcases List.mem_append.1 hp with q | q
   · exact .inl q
   · exact .inr (List.mem_filter.1 q).1
 · rw [Ku,Ku]
   constructor
   · rintro ⟨p,hp,e⟩
     rcases List.mem_append.1 hp with q | q
     · exact .inl ⟨p,q,e⟩
     · exact .inr ⟨p,(List.mem_filter.1 q).1,e⟩
   · rintro (⟨p,hp,e⟩ | ⟨p,hp,e⟩)
     · exact ⟨p,List.mem_append_left _ hp,e⟩
     · cases hf:T1.find? (isK p.key) with
       | none=>exact ⟨p,List.mem_append_right _ (List.mem_filter.2 ⟨hp,by rw [hf];rfl⟩),e⟩
       | some q=>
        obtain ⟨q1,q2⟩:=(Ik h1 p.key q).1 hf
        exact ⟨q,List.mem_append_left _ q1,q2.trans e⟩
end Pl
theorem xM {A:bc} {m m':Nat} (hok:bw A m) (hs:∀i P S,A.st i=some (P,S)->Pl.ct P) {lo hi:ByteArray} {e:En} {at':Int} (sU:bw (Pl.bF A e at').2 m') (hs2:∀i P S,(Pl.bF A e at').2.st i=some (P,S)->Pl.ct P) (xL:(Pl.bF A e at').1=0) {T1 T2 zs:List Pr} (h1:Pl.nI A T1) (h2:Pl.nI (Pl.bF A e at').2 T2) (hp:zs.Perm (Pl.cK T1 T2 T2.length)) (hz:Pl.ct zs) {ks:List ByteArray} (hk:Pl.gG lo hi e ks):
    jW A (Pl.bF A e at').2 lo hi at' (zs.map Pr.key)=lS A (Pl.bF A e at').2 at' ks:=by
 refine z0N hok hs hs2 xL hk ?_ fun k=>?_
 · rw [List.pairwise_map]
   exact hz.gD.imp fun h=>h
 · rw [<-h1.get hok hs,<-h2.get sU hs2,<-(Pl.Xg h1.ap h2.ap).2.2 k,zZ4]
   constructor
   · rintro ⟨p,q1,q2⟩;exact ⟨p,hp.mem_iff.1 q1,q2⟩
   · rintro ⟨p,q1,q2⟩;exact ⟨p,hp.mem_iff.2 q1,q2⟩
end
end Go.Proofs.YtbnofojapimfcaaGreatDoor
