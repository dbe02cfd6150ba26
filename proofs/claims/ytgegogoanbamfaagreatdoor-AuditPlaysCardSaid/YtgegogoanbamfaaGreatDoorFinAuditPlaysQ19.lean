/- Part 19. -/
import Derived.Test.YtgegogoanbamfaaGreatDoorFinAuditPlaysQ18
set_option linter.unusedVariables false
set_option linter.unusedSectionVars false
set_option linter.unusedSimpArgs false
set_option maxRecDepth 100000
set_option maxHeartbeats 16000000
namespace Go.Proofs.YtgegogoanbamfaaGreatDoor
namespace Pl
end Pl
open Pl Go.Proofs.Tryz Go.RowKit Go.Maps
attribute [local go_sem] Oper.semAt_some
section
attribute [local go_sem] bl
theorem vB.any {W W':World}{L:Nat->Nat}{k al n:Nat}{fa:Lit->Option Value}{D:bG}{A:bC}(h:vB W L k al n fa D A W')(a:Int){an:Lit->Option Value}:vB W L k al n fa D ⟨a,A.sh,A.st,an⟩ W':=by
 obtain⟨h1,L',h2,h3,h4⟩:=h;exact⟨h1,L',h2,h3,h4.any a⟩
def PJ (e:En):Prop:=e.key.size<=300/\∀o∈e.ops,o.key.size<=300/\o.val.size<=300
theorem z1L {W:World}{L:Nat->Nat}{k al n m0:Nat}{fa:Lit->Option Value}{D:bG}{A:bC}(h:fT W L k al n fa D A)(bF:bV A m0)(lW:m0<=120)(kX:Pl.Twin A.sh D)(e:En)(hA:b7 W e)(hz:PJ e)(hr:Pl.cK e=true)(at':Int)(hat:¬(at'<A.at_\/at'<0\/4096<=at'))(hn:n<=1000000):
    Calls prog 28 #[.pointer (some ⟨al,0,none⟩),e.agg,.int .i64 at'] W fun r w'=>r=.returned (.tuple #[])/\vB W L k al (n+1) (wK fa A e at') (Pl.fw D e at') (Pl.fh A e at').2 w':=by
 have hs:ly e:=⟨by have:=hz.1;omega,fun o ho=>by have:=(hz.2 o ho).1;omega⟩
 unfold Pl.fh;rw[zZ0 (by rw[hr];simp),zZ0 hat];unfold wK;by_cases k1:e.ax=1
 . have qT:=y7f hr k1;rw[zZ1 k1,zZ1 k1,z2f k1];unfold Kj;cases hst:A.st e.aj.toNat with
   | none=>
    refine(y9t h e k1 qT.1 qT.2 hst at' (by omega) (by omega) hn).mono ?_;rintro r w' ⟨kA,hT⟩;exact⟨kA,hT.any _⟩
   | some v=>
    obtain⟨P,S⟩:=v;refine(z0Y h bF lW e hA (fun o ho=>by have:=(hz.2 o ho).1;omega) (fun o ho=>by have:=(hz.2 o ho).2;omega) k1 qT.1 qT.2 hst at' (by omega) (by omega) hn).mono ?_;rintro r w' ⟨kA,hT⟩;exact⟨kA,hT.any _⟩
 . rw[zZ0 k1,zZ0 k1];cases ha:gp A.sh.xs A.sh.aD e at' with
   | false=>
    rw[zZ0 (by simp)];refine(z3O h bF lW kX e hA hs hz.1 k1 at' ha).mono ?_;rintro r w' ⟨kA,hT⟩;exact⟨kA,(hT.any _).mono (by omega)⟩
   | true=>
    rw[zZ1 rfl];have hcb:Pl.jG A.sh.xs A.sh.aD e=true:=(by unfold gp at ha;simp only[zZ7]at ha;exact ha.1.1);obtain⟨_,_,_,_,_,_,jC⟩:=qx hcb;rcases jC with k2 | ⟨k3,_⟩ | ⟨k4,_⟩
    . refine(z0L h bF lW kX e hA hs hz.1 k2 at' ha).mono ?_;rintro r w' ⟨kA,hT⟩;exact⟨kA,(hT.any _).mono (by omega)⟩
    . refine(y8E h bF lW kX e hA hs hz.1 k3 at' ha).mono ?_;rintro r w' ⟨kA,hT⟩;exact⟨kA,(hT.any _).mono (by omega)⟩
    . refine(y8o h bF lW kX e hA hs hz.1 k4 at' ha).mono ?_;rintro r w' ⟨kA,hT⟩;exact⟨kA,(hT.any _).mono (by omega)⟩
def PK (w:World)(al:Nat)(w':World):Prop:=w.heap.size<=al/\ae w w'/\∀(k:Nat) (L:Nat->Nat),∃L',(∀j,j<w.heap.size->L' j=L j)/\(∀j,w.heap.size<=j->cr k (L' j))/\fT w' L' k al 0 (fun _=>none) bG.init bC.init
structure XH (Y:World)(v:Value)(u:World):Prop where
 ex:∃ms sb G,v=.pointer (some ⟨ms,0,none⟩)/\fE u G ms sb ⟨#[]⟩ ⟨#[]⟩ [] (fun _=>none)/\Y.heap.size<=ms/\Y.heap.size<=sb/\(∀j,G j->Y.heap.size<=j)/\ae Y u
theorem z4P (w:World):Calls prog 23 #[] w fun e w'=>∃al,e=.returned (.pointer (some ⟨al,0,none⟩))/\PK w al w':=by
 go_in;go_wp2_with fail;refine(z5d w).mono ?_;rintro e w1 ⟨db,rfl,aR,XI,F,hM,hF⟩;have HM:=af (And.intro XI (And.intro hM hF));have ct:=af aR;clear aR XI hM hF;have qJ:=@run_makeMap prog;go_upto_region 2 with fail;clear qJ;obtain⟨nb,kj⟩:∃nb,nb=w1.heap.size:=⟨_,rfl⟩
 obtain⟨al,uz⟩:∃al,al=w1.heap.size+1:=⟨_,rfl⟩
 have hl0:=bU.made w1 prog 3;obtain⟨y0,o6⟩:∃y0,y0=w1.alloc (.map #[] 0):=⟨_,rfl⟩
 rw[<-o6,<-kj]at hl0;obtain⟨Y,hY⟩:∃Y,Y=y0.alloc (.cells #[.pointer (some ⟨db,0,none⟩),.pointer none,.pointer none,.pointer none,.pointer none,.pointer none,.pointer none,.pointer none,.pointer none,.pointer none,.pointer none,.pointer none,.pointer none,.pointer none,.map (some nb)] 58):=⟨_,rfl⟩
 have g0:ae w1 y0:=by rw[o6];exact(ae.rf w1).alloc _
 have gY:ae y0 Y:=by rw[hY];exact(ae.rf y0).alloc _
 have hs0:y0.heap.size=w1.heap.size+1:=by rw[o6];simp
 have dB:Y.heap[al]? =some (.cells #[.pointer (some ⟨db,0,none⟩),.pointer none,.pointer none,.pointer none,.pointer none,.pointer none,.pointer none,.pointer none,.pointer none,.pointer none,.pointer none,.pointer none,.pointer none,.pointer none,.map (some nb)] 58 (0,0)):=by
  rw[hY,uz,<-hs0];exact wZ0 y0 _
 have Ii:Y.heap.size=w1.heap.size+2:=by rw[hY];simp[hs0]
 rw[<-o6,<-uz,<-kj,<-hY];have r5:al<Y.heap.size:=by omega
 have hc:∀(i:Nat) v,(#[.pointer (some ⟨db,0,none⟩),.pointer none,.pointer none,.pointer none,.pointer none,.pointer none,.pointer none,.pointer none,.pointer none,.pointer none,.pointer none,.pointer none,.pointer none,.pointer none,.map (some nb)]:Array Value)[i]? =some v->Y.cell? ⟨al,i,none⟩=some v:=fun i v hv=>by
  rw[wQ1 _ _ i _ _ _ dB];simpa using hv
 have HC:=af hc;have Gj:=af (show ∀i,Y.frozen? ⟨al,i,none⟩=false from fun i=>by simp[World.frozen?,dB]);have HL:=af (hl0.ah gY);have dg:=af (g0.trans gY);have HB:=af (show w1.heap.size<=nb/\nb<al/\al<Y.heap.size/\w1.heap.size<=al from⟨by omega,by omega,by omega,by omega⟩);clear o6 hY g0 gY hs0 dB Ii kj uz hl0 hc;refine kh 5 [2] (ae Y) Eq (JE 2 (ae Y) (XH Y) (fun _=>none)) (fun f a=>a.put (some 8) (f 2)) (JE.aX (ae.rf Y).drew _) (fun L _ _ h=>?_) (fun _=>rfl) (fun _ _ _ _ h g=>g▸h) ?_
 . cases hL:L 2 with
   | false=>exact h.pre hL
   | true=>obtain⟨_,_,_,_,_,_,_,_,g⟩:=(h.post hL).ex;exact g
 repeat (first|refine kg ?_|(refine gg ?_;intros;go_big_quiet_op;go_big_quiet_on)|(refine fZ ?_;simp only[Act.put,xB9,xC9,xD9]))
 refine jB (by rfl) ⟨⟨bL rfl (fun _ a=>a) ?_,trivial⟩,?_⟩
 . intro L f u hJ hL hd;have HJ:=af hJ;have HL:=af hL;clear hJ hL hd;go_simp;have hg:=HJ.pre HL;refine(z6f u ⟨#[]⟩ ⟨#[]⟩).mono ?_;rintro r u' ⟨ms,sb,G,rfl,h1,h2,h3,h4,h5⟩;have:=hg.size;exact⟨_,rfl,HJ.call HL rfl ⟨ms,sb,G,rfl,h1,by omega,by omega,fun j hj=>by have:=h4 j hj;omega,hg.trans h5⟩⟩
 intro f u hJ;obtain⟨ms,sb,G,e2,h1,h2,h3,h4,h5⟩:=(hJ.post rfl).ex;have Lc:=af (And.intro h1 (And.intro h2 (And.intro h3 (And.intro h4 h5))));have a2:=(h5.cells.1 _ 2 r5).trans (HC 2 _ rfl);have f2:=(h5.cells.2 _ 2 r5).trans (Gj 2);have mZ:=xA9 r5 h5.size;clear hJ h1 h2 h3 h4 h5;dsimp only[List.drop];simp only[Act.put,xB9,xD9,xC9];rw[e2];clear e2;go_wp2_with fail;go_ret;obtain⟨b1,b2,b3,b4⟩:=HB.out;obtain⟨hS,m1,m2,m3,xr⟩:=Lc.out;obtain⟨XI,hM,hF⟩:=HM.out;have s1:=ct.size;have s2:=dg.size;have s3:=xr.size;obtain⟨x1,x2,x3,kr⟩:=Px (v:=.pointer (some ⟨ms,0,none⟩)) a2;have zF:ae w (u.setCell ⟨al,2,none⟩ (.pointer (some ⟨ms,0,none⟩))):=((((ct.trans dg).trans xr).only _).then kr).ah fun j (hj:j=al)=>by omega
 refine⟨al,rfl,by omega,zF,fun k L=>⟨fun j=>if j<w.heap.size then L j else if j<w1.heap.size then k+2 else if j=nb then k+1 else if j=al then k else k+21,fun j hj=>zZ1 hj,fun j hj=>?_,db,nb,fun _=>ms,?_⟩⟩
 . dsimp only;rw[zZ0 (by omega)];unfold cr;repeat' split
   all_goals omega
 have hn:∀j,j≠al->¬(fun j=>j=al) j:=fun j hj=>hj;have hMl:=xx hM;refine⟨(x2 0 (by omega)).trans ((xr.cells.1 _ 0 r5).trans (HC 0 _ rfl)),fun i hi=>?_,(x2 14 (by omega)).trans ((xr.cells.1 _ 14 r5).trans (HC 14 _ rfl)),fun i=>(x3 i).trans ((xr.cells.2 _ i r5).trans (Gj i)),?_,?_,⟨F,(hM.ah (dg.trans xr)).aC kr fun j hj hq=>by have:=hMl j hj;omega,fun j hj=>?_⟩,⟨0,zZ3 _,(HL.ah xr).aC kr (hn _ (by omega))⟩,fun i P S hi=>?_⟩
 . unfold ey;by_cases e:i=1
   . subst e;exact x1
   . have e1:bC.init.st i=none:=zZ0 e;rw[e1,x2 _ (by omega),xr.cells.1 _ _ r5];refine HC (1+i) _ ?_;obtain rfl | rfl | rfl | rfl | rfl | rfl | rfl | rfl | rfl | rfl | rfl | rfl | rfl:i=0\/i=1\/i=2\/i=3\/i=4\/i=5\/i=6\/i=7\/i=8\/i=9\/i=10\/i=11\/i=12:=(by omega);all_goals rfl
 . rw[zZ0 (by omega),zZ0 (by omega),zZ0 (by omega),zZ1 rfl]
 . rw[zZ0 (by omega),zZ0 (by omega),zZ1 rfl]
 . have:=hF j hj;have:=hMl j hj;rw[zZ0 (by omega),zZ1 (by omega)]
 . by_cases e:i=1
   . subst e;have ml:some (([]:List Pr),(fun _=>none:Int->Option An))=some (P,S):=hi;cases ml;have ZA:∀j,jh G ms sb j->Y.heap.size<=j:=fun j hj=>by
      rcases hj with q | q | q
      . exact m3 j q
      . rw[q];exact m1
      . rw[q];exact m2
     refine⟨by omega,KH,zQ0.2 rfl,rfl,G,sb,[],hS.aC kr (fun j hj hq=>by have:=m3 j hj;omega) (hn _ (by omega)) (hn _ (by omega)),Pl.Tt.nil,fun j hj=>?_⟩;have:=ZA j hj;rw[zZ0 (by omega),zZ0 (by omega),zZ0 (by omega),zZ0 (by omega)]
   . have e1:bC.init.st i=none:=zZ0 e;rw[e1]at hi;cases hi
structure r9 (W:World)(L:Nat->Nat)(k rb al n:Nat)(fa:Lit->Option Value)(D:bG)(A:bC):Prop where
 c0:W.cell? ⟨rb,0,none⟩=some (.int .i64 A.at_)
 c1:W.cell? ⟨rb,1,none⟩=some (.pointer (some ⟨al,0,none⟩))
 fz:W.frozen? ⟨rb,0,none⟩=false
 iy:L rb=k+149
 all:fT W L k al n fa D A
def jY (W:World)(L:Nat->Nat)(k rb n:Nat)(fa:Lit->Option Value)(D:bG)(A:bC):Prop:=∃al,r9 W L k rb al n fa D A
theorem jY.aC {W W':World}{L L':Nat->Nat}{T:Nat->Prop}{k rb n:Nat}{fa:Lit->Option Value}{D:bG}{A:bC}(h:jY W L k rb n fa D A)(g:ar T W W')(hT:∀j,j<W.heap.size->T j->¬cr k (L j)/\j≠rb)(hL:∀j,j<W.heap.size->L' j=L j):jY W' L' k rb n fa D A:=by
 obtain⟨al,h⟩:=h;have hb:=bf h.c0;have hn:¬T rb:=fun t=>(hT rb hb t).2 rfl;exact⟨al,(g.cell hb hn 0).trans h.c0,(g.cell hb hn 1).trans h.c1,(g.frozen hb hn 0).trans h.fz,(hL rb hb).trans h.iy,h.all.aC g (fun j hj t=>(hT j hj t).1) hL⟩
theorem jY.mono {W:World}{L:Nat->Nat}{k rb n n':Nat}{fa:Lit->Option Value}{D:bG}{A:bC}(h:jY W L k rb n fa D A)(hn:n<=n'):jY W L k rb n' fa D A:=by
 obtain⟨al,h⟩:=h;exact⟨al,h.c0,h.c1,h.fz,h.iy,h.all.mono hn⟩
def LQ (W:World)(L:Nat->Nat)(k rb n:Nat)(fa:Lit->Option Value)(D:bG)(A:bC)(W':World):Prop:=ar (fun j=>cr k (L j)\/j=rb) W W'/\∃L',(∀j,j<W.heap.size->L' j=L j)/\(∀j,W.heap.size<=j->cr k (L' j))/\jY W' L' k rb n fa D A
def PL (w:World)(rb:Nat)(w':World):Prop:=w.heap.size<=rb/\ae w w'/\∀(k:Nat) (L:Nat->Nat),∃L',(∀j,j<w.heap.size->L' j=L j)/\(∀j,w.heap.size<=j->cr k (L' j)\/j=rb)/\jY w' L' k rb 0 (fun _=>none) bG.init bC.init
theorem z6s (w:World):Calls prog 7 #[] w fun e w'=>∃rb,e=.returned (.pointer (some ⟨rb,0,none⟩))/\PL w rb w':=by
 go_in;go_wp2_with fail;refine(z4P w).mono ?_;rintro e w1 ⟨al,rfl,hN⟩;have HN:=af hN;clear hN;go_wp2_with fail;go_ret;obtain⟨h1,h2,h3⟩:=HN.out;have hs:=h2.size;refine⟨w1.heap.size,rfl,hs,h2.alloc _,fun k L=>?_⟩;obtain⟨L',l1,l2,l3⟩:=h3 k L;have gA:ae w1 (w1.alloc (.cells #[.int .i64 0,.pointer (some ⟨al,0,none⟩)] 47)):=(ae.rf w1).alloc _;refine⟨fun j=>if j=w1.heap.size then k+149 else L' j,fun j hj=>?_,fun j hj=>?_,al,by simp[go_sem,bC.init],by simp[go_sem],by simp[go_sem],zZ1 rfl,l3.aC (gA.only fun _=>False) (fun _ _ h=>h.elim) fun j hj=>zZ0 (by omega)⟩
 . dsimp only;rw[zZ0 (by omega)];exact l1 j hj
 . dsimp only;by_cases e:j=w1.heap.size
   . exact .inr e
   . rw[zZ0 e];exact .inl (l2 j hj)
def wL (A:bC)(D:bG)(e:En)(at':Int):bG:=if Pl.cK e=false then D else if at'<A.at_\/at'<0\/4096<=at' then D else Pl.fw D e at'
noncomputable def EK (fa:Lit->Option Value)(A:bC)(e:En)(at':Int):Lit->Option Value:=if Pl.cK e=false then fa else if at'<A.at_\/at'<0\/4096<=at' then fa else wK fa A e at'
theorem Bl {A:bC}{m:Nat}(bF:bV A m){D:bG}(h:Pl.Twin A.sh D)(e:En)(at':Int):Pl.Twin (Pl.fh A e at').2.sh (wL A D e at'):=by
 unfold wL;by_cases hr:Pl.cK e=false
 . rw[zZ1 hr];unfold Pl.fh;rw[zZ1 hr];exact h
 . rw[zZ0 hr];by_cases hat:at'<A.at_\/at'<0\/4096<=at'
   . rw[zZ1 hat];unfold Pl.fh;rw[zZ0 hr,zZ1 hat];exact h
   . rw[zZ0 hat,z5L A (by simpa using hr) hat];exact z4F h bF.inv e at'
namespace Pl
theorem z3B {lo hi:ByteArray}{P:List Pr}{S:Int->Option An}{e:En}{at':Int}(hk:e.ax=1)(hr:cK e=true)(h0:0<=at')(h1:at'<4096):(gj lo hi P S e at').err=0:=by
 unfold gj;rw[zZ0 (not_not_intro ⟨hk,hr⟩),zZ0 (by omega)];split
 . rfl
 . split
   . rfl
   . split<;> rfl
theorem y8b {A:bC}{e:En}{at':Int}(hr:cK e=true)(hat:¬(at'<A.at_\/at'<0\/4096<=at')):(fh A e at').1=0:=by
 unfold fh;rw[zZ0 (by rw[hr];simp),zZ0 hat];by_cases k1:e.ax=1
 . rw[zZ1 k1];split
   . rfl
   . exact z3B k1 hr (by omega) (by omega)
 . rw[zZ0 k1];split<;> rfl
theorem z5p {A:bC}{e:En}{at':Int}(hr:cK e=true)(hat:¬(at'<A.at_\/at'<0\/4096<=at')):(fh A e at').2.at_=at'+1:=by
 unfold fh;rw[zZ0 (by rw[hr];simp),zZ0 hat];by_cases k1:e.ax=1
 . rw[zZ1 k1];split<;> rfl
 . rw[zZ0 k1];split<;> rfl
end Pl
theorem LQ.still {W W':World}{L:Nat->Nat}{k rb n n':Nat}{fa:Lit->Option Value}{D:bG}{A:bC}(h:jY W L k rb n fa D A)(g:ae W W')(hn:n<=n'):LQ W L k rb n' fa D A W':=by
 refine⟨g.only _,fun j=>if j<W.heap.size then L j else k+50,fun j hj=>zZ1 hj,fun j hj=>?_,(h.mono hn).aC (g.only fun _=>False) (fun _ _ h=>h.elim) fun j hj=>zZ1 hj⟩;dsimp only;rw[zZ0 (by omega)];unfold cr;omega
theorem y7K {W:World}{L:Nat->Nat}{k rb n:Nat}{fa:Lit->Option Value}{D:bG}{A:bC}(h:jY W L k rb n fa D A)(e:En)(hA:b7 W e)(hs:ly e)(at':Int)(hno:Pl.cK e=false\/at'<A.at_\/at'<0\/4096<=at'):
    Calls prog 9 #[.pointer (some ⟨rb,0,none⟩),e.agg,.int .i64 at'] W fun r w'=>r=.returned (.int .i64 ((Pl.fh A e at').1:Nat))/\ae W w':=by
 obtain⟨al,h⟩:=h;have c0:=h.c0;have hab:=bf c0;have HR:=af (fun X (g:ae W X)=>Vn e X (hA.ah g) hs);have LR:Hid ((Pl.fh A e at').1=if Pl.cK e=false then 4 else 1):=by
  unfold Hid Pl.fh;by_cases hr:Pl.cK e=false
  . rw[zZ1 hr,zZ1 hr]
  . rw[zZ0 hr,zZ0 hr,zZ1 (hno.resolve_left hr)]
 generalize (Pl.fh A e at').1=cd at *;generalize Pl.cK e=rb0 at *;generalize A.at_=XJ at *;clear h hA hs;obtain⟨ax,aj,ak,aq,aw,seq,key,aM,aL,aA,ops,aN,aS,aF,aB,aG⟩:=e;unfold En.agg En.vals at *;dsimp only at *;go_in;go_wp2_with fail;refine(HR _ ((ae.rf W).alloc _)).mono ?_;rintro r w1 ⟨rfl,hg⟩;have hG:=hg.jy;have c0:=(hG.cells.1 _ 0 hab).trans c0;have hab:=xA9 hab hG.size;have HG:=af hG;clear hg hG HR;cases kd:rb0 with
 | false=>
  rw[kd,zZ1 rfl]at LR;have xG:=LR.out;subst xG;clear hno LR kd;go_wp2_with fail;go_ret;exact⟨rfl,HG⟩
 | true=>
  rw[kd]at LR;have xG:cd=1:=LR.out;subst xG;have Ko:at'<XJ\/at'<0\/4096<=at':=by
   rcases hno with h | h
   . rw[kd]at h;cases h
   . exact h
  clear hno LR kd;by_cases q1:at'<XJ
  . clear Ko;go_wp2_with fail;go_ret;exact⟨rfl,HG⟩
  by_cases q2:at'<0
  . clear Ko;go_wp2_with fail;go_ret;exact⟨rfl,HG⟩
  have q3:4095<at':=by omega
  clear Ko;go_wp2_with fail;go_ret;exact⟨rfl,HG⟩
theorem z1g {W:World}{L:Nat->Nat}{k rb n m0:Nat}{fa:Lit->Option Value}{D:bG}{A:bC}(h:jY W L k rb n fa D A)(bF:bV A m0)(lW:m0<=120)(kX:Pl.Twin A.sh D)(e:En)(hA:∀X,ar (fun j=>cr k (L j)\/j=rb) W X->b7 X e)(hz:PJ e)(at':Int)(hr:Pl.cK e=true)(hat:¬(at'<A.at_\/at'<0\/4096<=at'))(hn:n<=1000000):
    Calls prog 9 #[.pointer (some ⟨rb,0,none⟩),e.agg,.int .i64 at'] W fun r w'=>r=.returned (.int .i64 0)/\LQ W L k rb (n+1) (wK fa A e at') (Pl.fw D e at') (Pl.fh A e at').2 w':=by
 have hs:ly e:=⟨by have:=hz.1;omega,fun o ho=>by have:=(hz.2 o ho).1;omega⟩
 obtain⟨al,h⟩:=h;have c0:=h.c0;have c1:=h.c1;have fz:=h.fz;have hab:=bf c0;have HR:=af (fun X (g:ae W X)=>Vn e X ((hA X (g.only _))) hs);rw[hr]at HR;have HH:=af h;have oU:=af (fun X (L1:Nat->Nat) (hO:ar (fun j=>cr k (L j)\/j=rb) W X) (h1:fT X L1 k al n fa D A)=>z1L h1 bF lW kX e (hA X hO) hz hr at' hat hn);have mh:=af (z5p hr hat);have q1:¬at'<A.at_:=fun q=>hat (.inl q);have q2:¬at'<0:=fun q=>hat (.inr (.inl q));have q3:¬4095<at':=fun q=>hat (.inr (.inr (by omega)));generalize wK fa A e at'=SK at *;generalize Pl.fw D e at'=D' at *;generalize (Pl.fh A e at').2=B at *;clear h hA hs hz hr hat bF kX;have h63:at'<=4095:=by omega
 have tM:0<=at':=by omega
 generalize A.at_=XJ at c0 q1;obtain⟨ax,aj,ak,aq,aw,seq,key,aM,aL,aA,ops,aN,aS,aF,aB,aG⟩:=e;unfold En.agg En.vals at *;dsimp only at *;go_in;go_upto_region 1 with fail;obtain⟨Y,hY⟩:∃Y,Y=W.alloc (.cells #[.int .i64 ax,.int .i64 aj,.int .i64 ak,.int .i64 aq,.int .i64 aw,.int .i64 seq,.slice aN ops.length aS,.string key,.int .i64 aM,.int .i64 aL,.int .i64 aA,.slice aF aB aG] 36):=⟨_,rfl⟩
 have gY:ae W Y:=by rw[hY];exact(ae.rf W).alloc _
 obtain⟨xb,eE⟩:∃xb,xb=W.heap.size:=⟨_,rfl⟩
 have HX:=af (show ∀i v,(#[.int .i64 ax,.int .i64 aj,.int .i64 ak,.int .i64 aq,.int .i64 aw,.int .i64 seq,.slice aN ops.length aS,.string key,.int .i64 aM,.int .i64 aL,.int .i64 aA,.slice aF aB aG]:Array Value)[i]? =some v->Y.cell? ⟨xb,i,none⟩=some v from fun i v hv=>by
  rw[hY,eE,wQ1 _ _ i _ _ _ (wZ0 W _)];simpa using hv)
 have ir:xb<Y.heap.size:=by rw[hY,eE];simp
 have hxr:¬xb=rb:=by have h1:rb<W.heap.size:=hab;omega
 have dg:=af gY;have x0:=HX 0 _ rfl;have x1:=HX 1 _ rfl;have x2:=HX 2 _ rfl;have x3:=HX 3 _ rfl;have x4:=HX 4 _ rfl;have x5:=HX 5 _ rfl;have x6:=HX 6 _ rfl;have x7:=HX 7 _ rfl;have x8:=HX 8 _ rfl;have x9:=HX 9 _ rfl;have qU:=HX 10 _ rfl;have qV:=HX 11 _ rfl;rw[<-hY,<-eE];clear hY gY eE;go_wp2_with fail;refine(HR _ dg).mono ?_;rintro r w1 ⟨rfl,hg⟩;have hG:=dg.trans hg;have c0:=(hG.cells.1 _ 0 hab).trans c0;have c1:=(hG.cells.1 _ 1 hab).trans c1;have fz:=(hG.cells.2 _ 0 hab).trans fz;have Eg:=xA9 hab hG.size;have HXW:=af (fun(i:Nat) v hv=>(hg.cells.1 _ i ir).trans (HX i v hv));have hxw:=xA9 ir hg.size;have HG:=af hG;clear hg hG HR x0 x1 x2 x3 x4 x5 x6 x7 x8 x9 qU qV;go_upto_region 6 with fail;obtain⟨X,hX⟩:∃X,X=w1.setCell ⟨rb,0,none⟩ (.int .i64 (at'+1)):=⟨_,rfl⟩
 obtain⟨s1,s2,s3,kr⟩:=Px (v:=.int .i64 (at'+1)) c0;rw[<-hX]at s1 s2 s3 kr;have d1:=(s2 1 (by decide)).trans c1;have Lm:ar (fun j=>cr k (L j)\/j=rb) W X:=(HG.only _).then (kr.mono fun j hj=> .inl (.inr hj));have wM:∀(i:Nat) v,(#[.int .i64 ax,.int .i64 aj,.int .i64 ak,.int .i64 aq,.int .i64 aw,.int .i64 seq,.slice aN ops.length aS,.string key,.int .i64 aM,.int .i64 aL,.int .i64 aA,.slice aF aB aG]:Array Value)[i]? =some v->X.cell? ⟨xb,i,none⟩=some v:=fun i v hv=>(kr.cell hxw hxr i).trans (HXW i v hv);have Kq:fT X (fun j=>if j<W.heap.size then L j else k+50) k al n fa D A:=HH.all.aC (T:=fun j=>j=rb) ((HG.only _).then kr) (fun j hj e=>by have:=HH.iy;rw[e,this];unfold cr;omega) (fun j hj=>zZ1 hj);have PM:=af (oU X _ Lm Kq);have HK:=af (And.intro s1 (And.intro d1 (And.intro ((s3 0).trans fz) Lm)));have x0:=bj (wM 0 _ rfl);have x1:=bj (wM 1 _ rfl);have x2:=bj (wM 2 _ rfl);have x3:=bj (wM 3 _ rfl);have x4:=bj (wM 4 _ rfl);have x5:=bj (wM 5 _ rfl);have x6:=bj (wM 6 _ rfl);have x7:=bj (wM 7 _ rfl);have x8:=bj (wM 8 _ rfl);have x9:=bj (wM 9 _ rfl);have qU:=bj (wM 10 _ rfl);have qV:=bj (wM 11 _ rfl);have D1:=bj d1;have PN:=af (show ∀Z,ae X Z->Calls prog 28 #[.pointer (some ⟨al,0,none⟩),.agg #[.int .i64 ax,.int .i64 aj,.int .i64 ak,.int .i64 aq,.int .i64 aw,.int .i64 seq,.slice aN ops.length aS,.string key,.int .i64 aM,.int .i64 aL,.int .i64 aA,.slice aF aB aG],.int .i64 at'] Z fun r w'=>r=.returned (.tuple #[])/\vB Z (fun j=>if j<W.heap.size then L j else k+50) k al (n+1) SK D' B w' from fun Z gZ=>oU Z _ (Lm.dG gZ) (Kq.ah gZ));have Po:=bf d1;rw[<-hX];clear hX s1 s2 s3 kr d1 Lm wM Kq c0 c1 fz PM oU;refine pO 6 ?_;repeat (first|(refine gg ?_;intros;go_big_quiet_op;go_big_quiet_on)|(refine fZ ?_;simp only[Act.put,xB9,xC9,xD9]))
 refine jB (by rfl) ?_;intro Z Ld;have jd:=af Ld;have HC:=af (PN Z Ld);clear x0 x1 x2 x3 x4 x5 x6 x7 x8 x9 qU qV D1 PN Ld;dsimp only[List.drop];go_wp2_with fail;refine HC.mono ?_;rintro r w2 ⟨rfl,hT⟩;have HT:=af hT;clear hT HC;go_wp2_with fail;go_ret;obtain⟨gN,L',l1,l2,xA⟩:=HT.out;dsimp only at gN l1;obtain⟨k0,k1,k2,kO⟩:=HK.out;have hWX:=kO.size;have hXZ:=jd.size;have qB:=HH.iy;have kd:rb<W.heap.size:=hab;have Jm:ar (fun j=>cr k (L j)\/j=rb) W Z:=kO.dG jd;have XK:¬cr k (if rb<W.heap.size then L rb else k+50):=by rw[zZ1 kd,qB];unfold cr;omega
 have PO:=xA9 Po hXZ;refine⟨rfl,Jm.trans gN fun j hj=>?_,L',fun j hj=>?_,fun j hj=>?_,al,?_,?_,?_,?_,xA⟩
 . by_cases q:j<W.heap.size
   . rw[zZ1 q]at hj;exact .inl (.inl hj)
   . exact .inr (by omega)
 . rw[l1 j (by omega),zZ1 hj]
 . by_cases q:j<Z.heap.size
   . rw[l1 j q,zZ0 (by omega)];unfold cr;omega
   . exact l2 j (by omega)
 . rw[gN.cell PO XK,jd.out.cells.1 _ _ Po,k0,mh.out]
 . rw[gN.cell PO XK,jd.out.cells.1 _ _ Po,k1]
 . rw[gN.frozen PO XK,jd.out.cells.2 _ _ Po,k2]
 . rw[l1 rb (by omega),zZ1 kd,qB]
theorem z1f {W:World}{L:Nat->Nat}{k rb n m0:Nat}{fa:Lit->Option Value}{D:bG}{A:bC}(h:jY W L k rb n fa D A)(bF:bV A m0)(lW:m0<=120)(kX:Pl.Twin A.sh D)(e:En)(hA:∀X,ar (fun j=>cr k (L j)\/j=rb) W X->b7 X e)(hz:PJ e)(at':Int)(hn:n<=1000000):
    Calls prog 9 #[.pointer (some ⟨rb,0,none⟩),e.agg,.int .i64 at'] W fun r w'=>r=.returned (.int .i64 ((Pl.fh A e at').1:Nat))/\LQ W L k rb (n+1) (EK fa A e at') (wL A D e at') (Pl.fh A e at').2 w':=by
 have hs:ly e:=⟨by have:=hz.1;omega,fun o ho=>by have:=(hz.2 o ho).1;omega⟩
 unfold EK wL;by_cases hr:Pl.cK e=false
 . rw[zZ1 hr,zZ1 hr];refine(y7K h e (hA W (ar.refl _ _)) hs at' (.inl hr)).mono ?_;rintro r w' ⟨kA,hg⟩;have e2:(Pl.fh A e at').2=A:=(by unfold Pl.fh;rw[zZ1 hr]);rw[e2];exact⟨kA,LQ.still h hg (by omega)⟩
 . rw[zZ0 hr,zZ0 hr];by_cases hat:at'<A.at_\/at'<0\/4096<=at'
   . rw[zZ1 hat,zZ1 hat];refine(y7K h e (hA W (ar.refl _ _)) hs at' (.inr hat)).mono ?_;rintro r w' ⟨kA,hg⟩;have e2:(Pl.fh A e at').2=A:=(by unfold Pl.fh;rw[zZ0 hr,zZ1 hat]);rw[e2];exact⟨kA,LQ.still h hg (by omega)⟩
   . rw[zZ0 hat,zZ0 hat];have hr2:Pl.cK e=true:=(by simpa using hr);rw[y8b hr2 hat];exact z1g h bF lW kX e hA hz at' hr2 hat hn
structure EL (w0:World)(tb:Nat)(A:bC)(n:Nat)(W:World):Prop where
 ex:∃G T,er W G tb T/\(∀j,G j->w0.heap.size<=j)/\Pl.lC A n T/\ae w0 W
structure XL (w0:World)(A:bC)(tb:Nat)(T:List Pr)(W:World):Prop where
 ex:∃G,er W G tb T/\(∀j,G j->w0.heap.size<=j)
 all:wJ A T
 ah:ae w0 W
theorem z1v {w:World}{L:Nat->Nat}{k rb n m0:Nat}{fa:Lit->Option Value}{D:bG}{A:bC}(h:jY w L k rb n fa D A)(bF:bV A m0)(lW:m0<=120):
    Calls prog 15 #[.pointer (some ⟨rb,0,none⟩)] w fun r w'=>∃tb T,r=.returned (.pointer (some ⟨tb,0,none⟩))/\T.length<=960/\XL w A tb T w':=by
 obtain⟨al,h⟩:=h;have c1:=h.c1;have kd:=bf c1;obtain⟨db,nb,ms,xA⟩:=h.all;have PQ:=xA.pH;have hs:∀i P S,A.st i=some (P,S)->Pl.dK P:=fun i P S hi=>by
  obtain⟨_,c,_,_,G,sb,Dt,_,hT,_⟩:=xA.bE i P S hi;exact hT.iD
 have HAL:=af xA;have Ey:=af hs;have mL:=af bF;have pG:=af (fun W (g:ae w W) i (hi:i<13)=>(g.cells.1 _ (1+i) PQ).trans (xA.cs i hi));obtain⟨pv,XM⟩:∃pv:Nat->Value,pv=ey A.st ms:=⟨_,rfl⟩
 rw[<-XM]at pG;have HPV:=af XM;clear h xA hs bF XM;go_in;go_upto_region 2 with fail;obtain⟨Y,hY⟩:∃Y,Y=w.alloc (.cells #[.slice none 0 0] 94):=⟨_,rfl⟩
 have gY:ae w Y:=by rw[hY];exact(ae.rf w).alloc _
 obtain⟨tb,eY⟩:∃tb,tb=w.heap.size:=⟨_,rfl⟩
 have PF:EL w tb A 0 Y:=by
  refine⟨fun j=>j=tb,[],⟨.slice none 0 0,by rw[hY,eY];simp[go_sem],by rw[hY,eY];simp[go_sem],World.ownsRow_nil _ _ _ _,rfl,(fun g h=>(by cases h)),fun j hj=>by rw[hY];simp;omega⟩,fun j hj=>by omega,Pl.lC.aX A,gY⟩
 have Wu:=af PF;have c1:=(gY.cells.1 _ 1 kd).trans c1;have p0:=pG Y gY 0 (by omega);have p1:=pG Y gY 1 (by omega);have p2:=pG Y gY 2 (by omega);have p3:=pG Y gY 3 (by omega);have p4:=pG Y gY 4 (by omega);have p5:=pG Y gY 5 (by omega);have p6:=pG Y gY 6 (by omega);have p7:=pG Y gY 7 (by omega);have p8:=pG Y gY 8 (by omega);have p9:=pG Y gY 9 (by omega);have p10:=pG Y gY 10 (by omega);have p11:=pG Y gY 11 (by omega);have p12:=pG Y gY 12 (by omega);simp only[Nat.reduceAdd]at p0 p1 p2 p3 p4 p5 p6 p7 p8 p9 p10 p11 p12;have r5:=xA9 PQ gY.size;rw[<-hY,<-eY];clear hY gY PF eY;go_wp2_with fail;clear p0 p1 p2 p3 p4 p5 p6 p7 p8 p9 p10 p11 p12;go_loopw [15] (fun i wr=>∃q:Nat,q<=13/\i=.int .i64 q/\Hid (EL w tb A q wr)) (fun i _=>13 - (intOf i).toNat);exact⟨0,zZ5 _,rfl,Wu⟩;obtain⟨q,SE,rfl,HQ⟩:=hrel;obtain⟨wo,rfl⟩:∃wo:World,wo=wr:=⟨_,rfl⟩
 by_cases az:q<13
 . have hqI:(q:Int)<13:=(by omega);have XN:∀W:World,(Instr.index 55 (.agg #[pv 0,pv 1,pv 2,pv 3,pv 4,pv 5,pv 6,pv 7,pv 8,pv 9,pv 10,pv 11,pv 12]) (.int .i64 (q:Nat))).run prog W=.ok (pv q) W:=by
    intro W;obtain rfl | rfl | rfl | rfl | rfl | rfl | rfl | rfl | rfl | rfl | rfl | rfl | rfl:q=0\/q=1\/q=2\/q=3\/q=4\/q=5\/q=6\/q=7\/q=8\/q=9\/q=10\/q=11\/q=12:=(by omega);all_goals kernel_rfl
   obtain⟨G,T,EM,vL,GR,nh⟩:=HQ.ex;cases hst:A.st q with
   | none=>
    rw[show pv q=.pointer none by rw[HPV.out];unfold ey;rw[hst];rfl]at XN;have HN:=af (show EL w tb A (q+1) wo from⟨G,T,EM,vL,GR.skip hst,nh⟩);clear hst EM vL GR nh;go_wp2_with fail;go_roundw;case rel=>exact⟨q+1,by omega,by go_num,HN⟩
    case measure=>simp[intOf];omega
   | some v=>
    obtain⟨P,S⟩:=v;rw[show pv q=.pointer (some ⟨ms q,0,none⟩)by rw[HPV.out];unfold ey;rw[hst];rfl]at XN;obtain⟨_,c,_,_,G2,sb,Dt,⟨ob,hM⟩,oZ,_⟩:=HAL.bE q P S hst;obtain⟨hno,hTJ⟩:=GR.join mL Ey hst oZ;have hM:=km.aC hM (nh.only fun _=>False) (fun _ _ h=>h) (fun h=>h) (fun h=>h);have m2:=hM.c2;have fC:=GR.few mL (by omega);have hl2:Dt.length<=1000:=by
     have a:=Ed A.st q (by omega);have b:=mL.few;rw[hst]at a;unfold ib at a;dsimp only at a;rw[oZ.len]at a;omega
    have HJ:=af (y7P EM hM.tab (by omega) (by omega) hno);have HN:=af (show ∀W',oN wo G tb (T++Dt) W'->EL w tb A (q+1) W' from fun W' hT=>by
     obtain⟨hO,G',h1,h2⟩:=hT;have:=nh.size;exact⟨G',T++Dt,h1,fun j hj=>(h2 j hj).elim (vL j) (fun h=>by omega),hTJ,((nh.only _).then hO).ah vL⟩)
    clear hst EM vL GR nh hM oZ hno hTJ fC hl2;go_wp2_with fail;refine HJ.mono ?_;rintro r w2 ⟨rfl,hT⟩;have HT:=af (HN w2 hT);clear hT HJ HN m2 XN;go_wp2_with fail;go_roundw;case rel=>exact⟨q+1,by omega,by go_num,HT⟩
    case measure=>simp[intOf];omega
 . obtain rfl:q=13:=(by omega);go_wp2_with fail;go_ret;obtain⟨G,T,EM,vL,GR,nh⟩:=HQ.ex;have:=GR.few mL (zZ3 _);exact⟨tb,T,rfl,by omega,⟨⟨G,EM,vL⟩,GR.all mL,nh⟩⟩
theorem Bn (w:World):(zeroValue 50).run prog w=.ok (fQ 0 0) w:=by kernel_rfl
theorem EN (A:bC)(e:En)(at':Int):EK A.gC A e at'=(Pl.fh A e at').2.gC:=by
 unfold EK Pl.fh;split
 . rfl
 split
 . rfl
 unfold wK;by_cases k1:e.ax=1
 . rw[zZ1 k1,zZ1 k1];unfold Kj;cases A.st e.aj.toNat with
   | none=>rfl
   | some v=>obtain⟨P,S⟩:=v;rfl
 . rw[zZ0 k1,zZ0 k1];split<;> rfl
theorem z2F {W:World}{nb m:Nat}{f:Lit->Option Value}(h:bU W prog 3 nb m f)(c:Int)(h1: -9223372036854775808<=c)(h2:c<9223372036854775808):
    (Instr.lookup 56 (.map (some nb)) (.int .i64 c) true).run prog W=.ok (.tuple #[(f (bt c)).getD (fQ 0 0),.bool (f (bt c)).isSome]) W:=
 h.pK ng underlying56 (Bn W) (keyOf_int_mk underlying3 (qH (c:=c) h1 h2))
def lD (f:Lit->Option Value):Prop:=∀l v,f l=some v->∃x y,v=fQ x y
theorem y8g {f:Lit->Option Value}(h:lD f)(l:Lit)(x y:Int):lD (fB f l (some (fQ x y))):=fun m v hm=>by
 by_cases e:m=l
 . subst e;rw[N7]at hm;cases hm;exact⟨x,y,rfl⟩
 . rw[Ee _ _ e]at hm;exact h m v hm
theorem z3t:lD bC.init.gC:=fun _ _ h=>by cases h
theorem z1z {A:bC}(h:lD A.gC)(e:En)(at':Int):lD (Pl.fh A e at').2.gC:=by
 unfold Pl.fh;split
 . exact h
 split
 . exact h
 split
 . cases A.st e.aj.toNat with
   | none=>exact y8g h _ 3 0
   | some v=>obtain⟨P,S⟩:=v;exact y8g h _ _ _
 split<;> exact h
theorem lD.get {f:Lit->Option Value}(h:lD f)(l:Lit):∃x y,(f l).getD (fQ 0 0)=fQ x y:=by
 cases e:f l with
 | none=>exact⟨0,0,rfl⟩
 | some v=>exact h l v e
theorem z2i {W:World}{L:Nat->Nat}{k ab n:Nat}{A:bC}(h:dh W L k ab n A)(ho:lD A.gC)(c:Int)(h1: -9223372036854775808<=c)(h2:c<9223372036854775808):
    Calls prog 14 #[.pointer (some ⟨ab,0,none⟩),.int .i64 c] W fun e w'=>e=.returned (.tuple #[(A.gC (bt c)).getD (fQ 0 0),.bool (A.gC (bt c)).isSome])/\ae W w':=by
 obtain⟨sb,mb,nb,f,st,h⟩:=h;have c3:=h.c3;have hab:=bf c3;obtain⟨m,_,hl⟩:=h.la;have hlk:=z2F (hl.ah ((ae.rf W).alloc (.cells #[.int .i64 0,.int .i64 0] 50))) c h1 h2;clear h hl;obtain⟨x,y,hv⟩:=ho.get (bt c);rw[hv]at hlk ⊢;generalize (A.gC (bt c)).isSome=b at *;clear hv ho;unfold fQ at *;go_in;go_wp2_with fail;exact wZ1 (v:=.tuple #[.agg #[.int .i64 x,.int .i64 y],.bool b]) (by simp[results,results14,go_sem]) rfl ⟨rfl,((ae.rf W).alloc _).alloc _⟩
end
end Go.Proofs.YtgegogoanbamfaaGreatDoor
namespace Go.Proofs.YtgegogoanbamfaaGreatDoor.Pl
def EP (acts:List Ac)(s:dR):Prop:=∃q:List Ac,s.evs=q.flatMap (fun a=>ja a.at' a.e)/\q.length=s.ne/\∀a∈q,a∈acts/\cK a.e=true/\(a.e.ax=3\/a.e.ax=4)/\0<=a.at'/\a.at'<4096
theorem ER (acts:List Ac):EP acts dR.init:=⟨[],rfl,rfl,fun a ha=>(by cases ha)⟩
theorem ES {acts:List Ac}{s:dR}(h:EP acts s){a:Ac}(ha:a∈acts)(h0:0<=a.at')(h1:a.at'<4096)(hap:gp s.xs s.aD a.e a.at'=true):EP acts (bp s a.e a.at'):=by
 have hc:jG s.xs s.aD a.e=true:=by unfold gp at hap;simp only[zZ7]at hap;exact hap.1.1
 obtain⟨hr,i,hi,hf,gL,cH,hk⟩:=qx hc;obtain⟨q,q1,q2,q3⟩:=h;have key:∀xs aD,(a.e.ax=3\/a.e.ax=4)->EP acts ⟨xs,aD,s.ne+1,s.evs++ja a.at' a.e⟩:=by
  intro xs aD hk;refine⟨q++[a],?_,?_,fun b hb=>?_⟩
  . dsimp only;rw[zK3,<-q1];simp
  . dsimp only;rw[zZ4,q2];rfl
  . rcases zQ8.1 hb with hb | hb
    . exact q3 b hb
    . rw[zQ0.1 hb];exact⟨ha,hr,hk,h0,h1⟩
 unfold bp;rcases hk with k2 | ⟨k3,_⟩ | ⟨k4,_⟩
 . rw[zZ1 k2];exact⟨q,q1,q2,q3⟩
 . rw[zZ0 (by omega),zZ1 k3];exact key _ _ (.inl k3)
 . rw[zZ0 (by omega),zZ0 (by omega)];exact key _ _ (.inr k4)
theorem z6o {acts:List Ac}{A:bC}(h:EP acts A.sh){a:Ac}(ha:a∈acts):EP acts (fh A a.e a.at').2.sh:=by
 unfold fh;split
 . exact h
 split
 . exact h
 next hat=>
 split
 . cases A.st a.e.aj.toNat with
   | none=>exact h
   | some v=>exact h
 split
 . next hap=>exact ES h ha (by omega) (by omega) hap
 . exact h
end Go.Proofs.YtgegogoanbamfaaGreatDoor.Pl
namespace Go.Proofs.YtgegogoanbamfaaGreatDoor
namespace Pl
end Pl
open Pl Go.Proofs.Tryz Go.RowKit Go.Maps
attribute [local go_sem] Oper.semAt_some
namespace Pl
theorem y9J {xs:List Sh}(h:ix xs){i j:Nat}(lQ:i<j)(hj:j<xs.length){a b:ByteArray}(ha:bk (ai xs i).lo (ai xs i).hi a=true)(hb:bk (ai xs j).lo (ai xs j).hi b=true):cU a b<0:=by
 obtain⟨_,k1,_,k2⟩:=uX ha;obtain⟨_,k5,k3,_⟩:=uX hb;obtain⟨l1,l2⟩:=h.link i (by omega);try dsimp only at l1 l2
 unfold dv at k2;rw[l2,yZ4,wZ2,l1]at k2;have oa:=uY k1;have ob:=uY k5;have o1:Ok (ai xs (i+1)).lo:=h.nZ (i+1) (by omega);have oj:Ok (ai xs j).lo:=h.nZ j hj;have k4:cU a (ai xs j).lo<0:=by
  by_cases he:i+1=j
  . subst he;exact k2
  . exact uM oa o1 oj k2 (h.low (i+1) j (by omega) hj)
 by_cases e:cU b (ai xs j).lo=0
 . rw[CS ob oj e];exact k4
 . have e2:=yU ob oj;exact uM oa oj ob k4 (by omega)
theorem z5u (xs ys:List Pr)(lo hi:ByteArray)(aI:Int):cD (xs++ys) lo hi aI=cD xs lo hi aI++cD ys lo hi (aI - ((cD xs lo hi aI).length:Int)):=by
 unfold cD;rw[xZ8,List.take_append];congr 2;rw[zZ9];omega
theorem z5c (xs:List Pr)(lo hi:ByteArray){aI:Int}(h:aI<=0):cD xs lo hi aI=[]:=by
 unfold cD;rw[show aI.toNat=0 by omega,List.take_zero]
def na (A:bC)(k:Nat):List Pr:=(A.sh.xs.take k).flatMap fun c=>ox (A.st c.id.toNat)
theorem XT (A:bC)(k:Nat)(h:k<A.sh.xs.length):na A (k+1)=na A k++ox (A.st (ai A.sh.xs k).id.toNat):=by
 unfold na;rw[zX1 h,zK3,j3 _ k h];simp
theorem z0O (A:bC)(lo hi:ByteArray)(aI:Int):∀k,k<=A.sh.xs.length->gG A lo hi aI k=cD (na A k) lo hi aI
 | 0,_=>by unfold gG na cD;simp
 | k+1,h=>by
  rw[Wo A lo hi aI k (by omega),XT A k (by omega),z5u,z0O A lo hi aI k (by omega)];unfold Ln;split
  . rfl
  . next hn=>
    have e0:cD (ox (A.st (ai A.sh.xs k).id.toNat)) lo hi (aI - ((cD (na A k) lo hi aI).length:Int))=[]:=z5c _ lo hi (by omega);rw[e0,yZ1]
theorem XU (A:bC)(p:Pr):∀k,k<=A.sh.xs.length->(p∈na A k↔∃i,i<k/\p∈ox (A.st (ai A.sh.xs i).id.toNat))
 | 0,_=>by unfold na;simp
 | k+1,h=>by
  rw[XT A k (by omega),zQ8,XU A p k (by omega)];constructor
  . rintro (⟨i,h1,h2⟩ | h2)
    . exact⟨i,by omega,h2⟩
    . exact⟨k,by omega,h2⟩
  . rintro ⟨i,h1,h2⟩;by_cases e:i=k
    . subst e;exact .inr h2
    . exact .inl ⟨i,by omega,h2⟩
theorem Bp {A:bC}{m:Nat}(h:bV A m){k:Nat}(hk:k<A.sh.xs.length):pB (ai A.sh.xs k).lo (ai A.sh.xs k).hi (ox (A.st (ai A.sh.xs k).id.toNat)):=by
 obtain⟨P,S,h1,h2⟩:=h.dom _ (k7 _ k hk);rw[h1];exact h2
theorem EU {A:bC}(hs:∀i P S,A.st i=some (P,S)->dK P)(i:Nat):dK (ox (A.st i)):=by
 cases h:A.st i with
 | none=>exact KU
 | some v=>obtain⟨P,S⟩:=v;exact hs i P S h
theorem z2k {A:bC}{m:Nat}(h:bV A m)(hs:∀i P S,A.st i=some (P,S)->dK P):∀k,k<=A.sh.xs.length->dK (na A k)
 | 0,_=>by unfold na;simpa using KU
 | k+1,hk=>by
  have ih:=z2k h hs k (by omega);have ht:=EU hs (ai A.sh.xs k).id.toNat;rw[XT A k (by omega)];refine⟨fun c hc=>?_,yX7.2 ⟨ih.iO,ht.iO,fun a ha b hb=>?_⟩⟩
  . rcases zQ8.1 hc with q | q
    . exact ih.key c q
    . exact ht.key c q
  . obtain⟨i,h1,h2⟩:=(XU A a k (by omega)).1 ha;exact y9J h.chain h1 (by omega) (Bp h (by omega) a h2) (Bp h (by omega) b hb)
theorem Bq {A:bC}{m:Nat}(h:bV A m)(p:Pr):p∈na A A.sh.xs.length↔SL A p:=by
 rw[XU A p _ (zZ3 _)];constructor
 . rintro ⟨i,h1,h2⟩;cases hA:A.st (ai A.sh.xs i).id.toNat with
   | none=>rw[hA]at h2;cases h2
   | some v=>obtain⟨P,S⟩:=v;rw[hA]at h2;exact⟨_,P,S,hA,h2⟩
 . rintro ⟨i,P,S,h1,h2⟩;obtain⟨c,hc,af⟩:=h.back i (by rw[h1];simp);obtain⟨k,hk,e⟩:=zK5 hc;refine⟨k,hk,?_⟩;rw[j3 _ k hk,e,af,zQ3,h1];exact h2
theorem Br {P Q:List Pr}(hP:dK P)(hQ:dK Q)(h:∀c,c∈P↔c∈Q):P=Q:=
 (UW (fun a b:Pr=>cU a.key b.key<0) Q P ((xX3 (RG (Nn hQ)) (RG (Nn hP))).2 fun c=>(h c).symm) hQ.iO (hP.iO.imp fun hab=>M8 hab) fun _ _ h=>M8 h).symm
theorem z2C {A:bC}{m:Nat}(h:bV A m)(hs:∀i P S,A.st i=some (P,S)->dK P){T zs:List Pr}(hT:wJ A T)(hp:zs.Perm T)(hz:dK zs)(lo hi:ByteArray)(aI:Int):sN A lo hi aI=cD zs lo hi aI:=by
 have e:na A A.sh.xs.length=zs:=Br (z2k h hs _ (zZ3 _)) hz fun c=>by rw[Bq h,<-hT.mem c];exact hp.mem_iff.symm
 have:=z0O A lo hi aI _ (zZ3 _);unfold gG at this;rw[zQ1,e]at this;exact this
end Pl
section
attribute [local go_sem] bl
def ET (a b c:Nat)(bs:List Int)(i:Nat):Option Value:=if i=a then some (.string (strOfNums bs))else if i=b then some (.bool false)else if i=c then some (.bool false)else none
structure SP (W:World)(al ms i:Nat)(lo hi:ByteArray)(P Dt:List Pr)(S:Int->Option An):Prop where
 c:W.cell? ⟨al,1+i,none⟩=some (.pointer (some ⟨ms,0,none⟩))
 r:LJ W ms lo hi Dt S
 tt:Pl.Tt P Dt
 few:P.length<=320
 XP:lo.size<=300
 hsz:hi.size<=300
 cL:(ew S).length<=1000
theorem SP.ah {W U:World}{al ms i:Nat}{lo hi:ByteArray}{P Dt:List Pr}{S:Int->Option An}(h:SP W al ms i lo hi P Dt S)(g:ae W U):SP U al ms i lo hi P Dt S:=
 ⟨(g.cells.1 _ _ (bf h.c)).trans h.c,h.r.ah g,h.tt,h.few,h.XP,h.hsz,h.cL⟩
theorem fe.stb {W:World}{L:Nat->Nat}{k al db nb n m:Nat}{ms:Nat->Nat}{fa:Lit->Option Value}{D:bG}{A:bC}(h:fe W L k al db nb n ms fa D A)(bF:bV A m)(hm:m<=40){i:Nat}{P:List Pr}{S:Int->Option An}(hi:A.st i=some (P,S)){c:Sh}(hc:c∈A.sh.xs)(af:c.id=(i:Int)):∃Dt,SP W al (ms i) i c.lo c.hi P Dt S:=by
 obtain⟨i12,c',hc',Jo,G,sb,Dt,hS,hT,_⟩:=h.bE i P S hi;have e:c'=c:=(kE bF hc' Jo).symm.trans (kE bF hc af);subst e;have hz:=bF.sz _ hc;refine⟨Dt,?_,hS.r,hT,?_,hz.1,hz.2,?_⟩
 . have:=h.cs i (by omega);unfold ey at this;rw[hi]at this;exact this
 . have a:=Ed A.st i (by omega);have b:=bF.few;rw[hi]at a;unfold ib at a;dsimp only at a;omega
 . obtain⟨tb,hS⟩:=hS;exact z4V hS.cL.ok
theorem y7W (E:Nat->Addr){W:World}(hE:bz my E W){L1 L2:Nat->Nat}{k1 k2 ab al n1 n2 m:Nat}{fa:Lit->Option Value}{A:bC}{D:bG}(h1:dh W L1 k1 ab n1 A)(h2:fT W L2 k2 al n2 fa D A)(bF:bV A m)(hm:m<=40)(jz:n1<=90000)(kX:Pl.Twin A.sh D){acts:List Ac}(hEv:Pl.EP acts A.sh)(Cj:∀a∈acts,b7 W a.e):
    Calls prog 13 #[.pointer (some ⟨ab,0,none⟩),.pointer (some ⟨al,0,none⟩)] W fun e w'=>e=.returned (.bool true)/\ae W w':=by
 obtain⟨q,q1,q2,q3⟩:=hEv;have jT:=bF.inv.few;have bK:=bF.inv.len;have PT:∀u∈A.sh.evs,u.oneCell'=true:=by
  rw[q1];intro u hu;obtain⟨a,_,ha⟩:=yJ7.1 hu;exact KQ _ _ u ha
 have HM:=af (Ax h1 bF.inv.pos (by omega) PT (by omega));have iN:∀c∈A.sh.xs,0<=c.id/\c.id<128/\0<=c.aq/\c.aq<128:=fun c hc=>by
  have a:=bF.inv.ids c hc;have b:=bF.inv.Jg c hc;omega
 have Gz:=af (fun X (g:ae W X) F cb (hF:gm X F cb A.sh)=>z4z Om E (hE.ah g) hF q1 q2 (fun a ha=>⟨(Cj a (q3 a ha).1).ah g,(q3 a ha).2⟩) (by omega) (by omega) iN);obtain⟨db,nb,ms,h2⟩:=h2;obtain⟨F,hD,_⟩:=h2.map;have PU:=af (fun X (g:ae W X)=>z1K (hD.ah g) kX.bZ (z4h bF.chain) bF.inv.pos (by omega) (kX.evs.trans q1) (q2.trans kX.ne.symm) (fun a ha=>(q3 a ha).2) (by omega) iN);have c0:=h2.c0;have uz:=h2.pH;have HST:=af (fun X (g:ae W X) (i:Nat)=>z3E (h1.ah g) i);have HX:=af (bF.len (by omega));have pG:=af (fun X (g:ae W X) (i:Nat) (hi:i<13)=>(g.cells.1 _ (1+i) uz).trans (h2.cs i hi));have HSB:=af (fun i P S (hi:A.st i=some (P,S)) c (hc:c∈A.sh.xs) (af:c.id=(i:Int))=>h2.stb bF hm hi hc af);have Vl:=af (show ∀i,13<=i->A.st i=none from fun i hi=>by
  cases e:A.st i with
  | none=>rfl
  | some v=>have:=bF.lt (i:=i) (by rw[e];simp);omega)
 generalize Pl.rX q A.sh.xs=bs at *;clear hE h1 h2 bF kX Cj q1 q2 q3 jT bK PT iN hD;go_in;go_wp2_with fail;refine HM.mono ?_;rintro r w1 ⟨cb,rfl,aR,F1,iu⟩;have ct:=af aR;have HMC:=af (Gz w1 aR F1 cb iu);clear aR iu Gz HM;go_wp2_with fail;refine HMC.mono ?_;rintro r Y ⟨a1,k1,rfl,Pp,iu,aR⟩;have cA:=af (ct.trans aR);have hcv:∀p:Wd (ae Y),(convert 34 9 (.slice a1 bs.length k1)).run prog p.w=.ok (.string (strOfNums bs)) p.w:=fun p=>B9 rfl (Pp.ah p.ok) iu;have C0:=bj ((cA.cells.1 _ 0 uz).trans c0);have haY:=xA9 uz cA.size;clear Pp iu aR HMC ct;go_upto_region 2 with fail;have j8:=af (GS.mono (k:=9) (fun v u u' (h:pY Y.heap.size bs v u) g=>h.ah g) (ET 10 11 12 bs));refine kh 13 [9,10,11,12] (ae Y) ae (JQ (GS 9 (pY Y.heap.size bs) (ET 10 11 12 bs)) Y) (fun f a=>(((a.put (some 27) (f 9)).put (some 28) (f 10)).put (some 29) (f 11)).put (some 30) (f 12)) (JQ.aX ..) (fun _ _ _ h=>h.ah) ae.rf (fun _ _ _ _ h g=>h.br j8 g) ?_;repeat (first|refine kg ?_|(refine gg ?_;intros;go_big_quiet_op;go_big_quiet_on)|(refine fZ ?_;simp only[Act.put,xB9,xC9,xD9]))
 refine rv ⟨⟨bL rfl (fun _ a=>a) ?_,bL rfl (fun f a=>a.put (some 27) (f 9)) ?_,bL rfl (fun f a=>a.put (some 28) (f 10)) ?_,bL rfl (fun f a=>a.put (some 29) (f 11)) ?_,trivial⟩,?_⟩
 . intro L f u hJ hL hd;have HJ:=af hJ;clear hJ hL hd hcv C0;go_simp;refine(PU u (cA.trans HJ.ah)).mono ?_;rintro e u' ⟨v,rfl,hr,hg⟩;obtain⟨a,c,rfl,hr⟩:=hr;exact⟨_,rfl,HJ.put j8 9 hg ⟨fun _=>⟨_,_,rfl,mg (zZ6 (ae.size (HJ.ah)) (zZ3 _)) hr⟩,fun c hc=>by cases hc⟩⟩
 . intro L f u hJ hL hd;obtain⟨a,c,jD,hr⟩:=(hJ.at_ 9 (hd 9 rfl (by decide))).1 rfl;rw[jD]at hr;obtain⟨a',c',e',hA,hF,_⟩:=uL hr;cases e';have XQ:=B9 (w:=u) rfl hA hF;have HJ:=af hJ;clear hJ hL hd hcv hr hA hF C0;rw[jD];clear jD;go_simp;exact HJ.same j8 10 (.val (by decide) rfl)
 . intro L f u hJ hL hd;have e7:=(hJ.at_ 10 (hd 10 rfl (by decide))).2 _ rfl;have HJ:=af hJ;clear hJ hL hd hcv C0;rw[e7];clear e7;go_simp;exact HJ.same j8 11 (.val (by decide) rfl)
 . intro L f u hJ hL hd;have e7:=(hJ.at_ 11 (hd 11 rfl (by decide))).2 _ rfl;have HJ:=af hJ;clear hJ hL hd hcv C0;rw[e7];clear e7;go_simp;exact HJ.same j8 12 (.val (by decide) rfl)
 intro f u hJ;have kp:=(hJ.at_ 12 rfl).2 _ rfl;have fI:=af (cA.trans hJ.ah);clear hJ hcv C0 PU c0;dsimp only[List.drop];simp only[Act.put,xB9,xD9,xC9];rw[kp];clear kp j8;go_wp2_with fail;go_loopw [31] (fun i wr=>∃k:Nat,k<=14/\i=.int .i64 k/\Hid (ae W wr)) (fun i _=>14 - (intOf i).toNat);exact⟨0,by omega,rfl,fI⟩;obtain⟨k,hk,rfl,HG⟩:=hrel;by_cases az:k<14
 . have HS:=af (HST wr HG k (by omega) (fun P S hi=>HX k P S hi));have lx:(k:Int)<14:=(by omega);go_wp2_with fail;refine HS.mono ?_;rintro r w4 ⟨hg4,PV⟩;have mm:=af (HG.trans hg4);clear HS hg4;have Ku:=xA9 uz mm.size;rcases PV with⟨hn,rfl⟩ | ⟨P,S,hi,c',hc,cH,cb,Gt,Gs,m',yA,rfl,mX⟩
   . by_cases nV:k<13
     . have wE:(k:Int)<13:=(by omega);have c:w4.cell? ⟨al,1+k,none⟩=some (.pointer none):=(by rw[pG.out w4 mm.out k nV];unfold ey;rw[hn];rfl);have XR:Int.tmod (k:Int) 13=k:=Int.tmod_eq_of_lt (by omega) (by omega);clear hn;go_wp2_with fail;go_roundw;case rel=>exact⟨k+1,by omega,by go_num,mm⟩
       case measure=>simp[intOf];omega
     . have wE:¬(k:Int)<13:=(by omega);go_wp2_with fail;go_roundw;case rel=>exact⟨k+1,by omega,by go_num,mm⟩
       case measure=>simp[intOf];omega
   . have nV:k<13:=Nat.lt_of_not_le fun q=>by rw[Vl.out k q]at hi;cases hi
     have wE:(k:Int)<13:=(by omega);obtain⟨Dt,hB⟩:=HSB k P S hi c' hc cH;have Ik:=hB.ah mm;have c:=Ik.c;have XR:Int.tmod (k:Int) 13=k:=Int.tmod_eq_of_lt (by omega) (by omega);have uV:=mX;have Ah:=af mX;have sV:=af Ik;clear hB Ik mX hi hc cH uV;generalize c'.lo=lo at *;generalize c'.hi=hi at *;have HQ:=af (show Pl.Good P/\(Pl.gi P).length<=60000 by
      obtain⟨tb,sb',hI⟩:=Ah.out;have:=zE hI.good (by have:=sV.few;omega);exact⟨hI.good,by have:=sV.few;omega⟩)
     have H1:=af (z3C Ah (by have:=sV.few;omega) (by omega) sV.XP sV.hsz HQ.2 sV.cL);have H2:=af (fun X (g:ae w4 X)=>z1q (sV.r.ah g) sV.tt HQ.1 (by have:=sV.few;omega) sV.XP sV.hsz HQ.2 sV.cL);generalize xi lo hi P S=qs at *;clear Ah sV HQ;go_wp2_with fail;refine H1.mono ?_;rintro r Z ⟨a2,c2,rfl,hr2,aP⟩;obtain⟨a2',c2',e2,uR,hF2,_⟩:=uL hr2;cases e2;have jd:=af aP;have BZ:=af (mm.trans aP);have hcv:∀p:Wd (ae Z),(convert 34 9 (.slice a2 qs.length c2)).run prog p.w=.ok (.string (strOfNums qs)) p.w:=fun p=>B9 rfl (uR.ah p.ok) hF2;have C0:=bj ((aP.cells.1 _ _ Ku).trans c);have haZ:=xA9 Ku aP.size;clear hr2 uR hF2 aP H1 c Ku;go_upto_region 12 with fail;have j8:=af (GS.mono (k:=11) (fun v u u' (h:pY Z.heap.size qs v u) g=>h.ah g) (ET 12 13 14 qs));refine kh 15 [11,12,13,14] (ae Z) ae (JQ (GS 11 (pY Z.heap.size qs) (ET 12 13 14 qs)) Z) (fun f a=>(((a.put (some 72) (f 11)).put (some 73) (f 12)).put (some 74) (f 13)).put (some 75) (f 14)) (JQ.aX ..) (fun _ _ _ h=>h.ah) ae.rf (fun _ _ _ _ h g=>h.br j8 g) ?_;repeat (first|refine kg ?_|(refine gg ?_;intros;go_big_quiet_op;go_big_quiet_on)|(refine fZ ?_;simp only[Act.put,xB9,xC9,xD9]))
     refine rv ⟨⟨bL rfl (fun _ a=>a) ?_,bL rfl (fun f a=>a.put (some 72) (f 11)) ?_,bL rfl (fun f a=>a.put (some 73) (f 12)) ?_,bL rfl (fun f a=>a.put (some 74) (f 13)) ?_,trivial⟩,?_⟩
     . intro L f u hJ hL hd;have HJ:=af hJ;clear hJ hL hd hcv C0;go_simp;refine(H2 u (jd.trans HJ.ah)).mono ?_;rintro e u' ⟨v,rfl,hr,hg⟩;obtain⟨a,c,rfl,hr⟩:=hr;exact⟨_,rfl,HJ.put j8 11 hg ⟨fun _=>⟨_,_,rfl,mg (ae.size (HJ.ah)) hr⟩,fun c hc=>by cases hc⟩⟩
     . intro L f u hJ hL hd;obtain⟨a,c,jD,hr⟩:=(hJ.at_ 11 (hd 11 rfl (by decide))).1 rfl;rw[jD]at hr;obtain⟨a',c',e',hA,hF,_⟩:=uL hr;cases e';have XQ:=B9 (w:=u) rfl hA hF;have HJ:=af hJ;clear hJ hL hd hcv hr hA hF C0;rw[jD];clear jD;go_simp;exact HJ.same j8 12 (.val (by decide) rfl)
     . intro L f u hJ hL hd;have e7:=(hJ.at_ 12 (hd 12 rfl (by decide))).2 _ rfl;have HJ:=af hJ;clear hJ hL hd hcv C0;rw[e7];clear e7;go_simp;exact HJ.same j8 13 (.val (by decide) rfl)
     . intro L f u hJ hL hd;have e7:=(hJ.at_ 13 (hd 13 rfl (by decide))).2 _ rfl;have HJ:=af hJ;clear hJ hL hd hcv C0;rw[e7];clear e7;go_simp;exact HJ.same j8 14 (.val (by decide) rfl)
     intro f u hJ;have kp:=(hJ.at_ 14 rfl).2 _ rfl;have SQ:=af (BZ.trans hJ.ah);clear hJ hcv C0 H2;dsimp only[List.drop];simp only[Act.put,xB9,xD9,xC9];rw[kp];clear kp j8;go_wp2_with fail;go_roundw;case rel=>exact⟨k+1,by omega,by go_num,SQ⟩
     case measure=>simp[intOf];omega
 . obtain rfl:k=14:=(by omega);go_wp2_with fail;go_ret;exact⟨rfl,HG⟩
theorem jY.iD {W:World}{L:Nat->Nat}{k rb n:Nat}{fa:Lit->Option Value}{D:bG}{A:bC}(h:jY W L k rb n fa D A):∀i P S,A.st i=some (P,S)->Pl.dK P:=fun i P S hi=>by
 obtain⟨al,h⟩:=h;obtain⟨db,nb,ms,xA⟩:=h.all;obtain⟨_,c,_,_,G,sb,Dt,_,hT,_⟩:=xA.bE i P S hi;exact hT.iD
theorem r9.aC {W W':World}{L L':Nat->Nat}{T:Nat->Prop}{k rb al n:Nat}{fa:Lit->Option Value}{D:bG}{A:bC}(h:r9 W L k rb al n fa D A)(g:ar T W W')(hT:∀j,j<W.heap.size->T j->¬cr k (L j)/\j≠rb)(hL:∀j,j<W.heap.size->L' j=L j):r9 W' L' k rb al n fa D A:=by
 have hb:=bf h.c0;have hn:¬T rb:=fun t=>(hT rb hb t).2 rfl;exact⟨(g.cell hb hn 0).trans h.c0,(g.cell hb hn 1).trans h.c1,(g.frozen hb hn 0).trans h.fz,(hL rb hb).trans h.iy,h.all.aC g (fun j hj t=>(hT j hj t).1) hL⟩
theorem r9.ah {W W':World}{L:Nat->Nat}{k rb al n:Nat}{fa:Lit->Option Value}{D:bG}{A:bC}(h:r9 W L k rb al n fa D A)(g:ae W W'):r9 W' L k rb al n fa D A:=h.aC (g.only fun _=>False) (fun _ _ h=>h.elim) fun _ _=>rfl
def Bo (W:World)(L:Nat->Nat)(B:Nat->Obj->Prop):Prop:=∀j o,B j o->W.heap[j]? =some o/\L j=0
theorem Bo.aC {W W':World}{L L':Nat->Nat}{B:Nat->Obj->Prop}(h:Bo W L B){T:Nat->Prop}(g:ar T W W')(hT:∀j,T j->L j≠0)(hL:∀j,j<W.heap.size->L' j=L j):Bo W' L' B:=fun j o hb=>by
 obtain⟨h1,h2⟩:=h j o hb;have hj:=(zZ2.1 h1).1;exact⟨(g.block j hj fun t=>hT j t h2).trans h1,(hL j hj).trans h2⟩
structure xB (w0 W:World)(B:Nat->Obj->Prop)(ab rb n1 n3 m:Nat)(A:bC)(D:bG):Prop where
 ah:ae w0 W
 ex:∃L,(∀j,j<w0.heap.size->L j=0)/\dh W L 1 ab n1 A/\jY W L 201 rb n3 A.gC D A/\Bo W L B
 ok:bV A m
 tw:Pl.Twin A.sh D
structure kY (w0 W:World)(B:Nat->Obj->Prop)(ab cb rb al n1 n2 n3 m1 m2 m3:Nat)(A1 A2 A3:bC)(D:bG):Prop where
 ah:ae w0 W
 ex:∃L,(∀j,j<w0.heap.size->L j=0)/\dh W L 1 ab n1 A1/\dh W L 401 cb n2 A2/\r9 W L 201 rb al n3 A3.gC D A3/\Bo W L B
 LS:bV A1 m1
 Lu:bV A2 m2
 GU:bV A3 m3
 tw:Pl.Twin A3.sh D
section
variable {w0 W U:World}{B B':Nat->Obj->Prop}{ab cb rb al n1 n2 n3 m m1 m2 m3:Nat}{A A1 A2 A3:bC}{D:bG}
theorem kY.br (h:kY w0 W B ab cb rb al n1 n2 n3 m1 m2 m3 A1 A2 A3 D)(g:ae W U):kY w0 U B ab cb rb al n1 n2 n3 m1 m2 m3 A1 A2 A3 D:=by
 obtain⟨L,h1,h2,h3,h4,h5⟩:=h.ex;exact⟨h.ah.trans g,⟨L,h1,h2.ah g,h3.ah g,h4.ah g,h5.aC (g.only fun _=>False) (fun _ h=>h.elim) fun _ _=>rfl⟩,h.LS,h.Lu,h.GU,h.tw⟩
theorem xB.less (h:xB w0 W B ab rb n1 n3 m A D)(hB:∀j o,B' j o->B j o):xB w0 W B' ab rb n1 n3 m A D:=by
 obtain⟨L,h1,h2,h3,h4⟩:=h.ex;exact⟨h.ah,⟨L,h1,h2,h3,fun j o hb=>h4 j o (hB j o hb)⟩,h.ok,h.tw⟩
theorem xB.aX (h:xB w0 W B ab rb n1 n3 m A D)(hb:∀j o,B' j o->W.heap.size<=j/\U.heap[j]? =some o)(g:ae W U):xB w0 U B' ab rb n1 n3 m A D:=by
 obtain⟨L,h1,h2,h3,h4⟩:=h.ex;have gO:=g.only fun _=>False;have hs:=h.ah.size;have e:∀j,j<W.heap.size->(fun j=>if j<W.heap.size then L j else 0) j=L j:=fun j hj=>zZ1 hj;exact⟨h.ah.trans g,⟨fun j=>if j<W.heap.size then L j else 0,fun j hj=>by rw[e j (by omega)];exact h1 j hj,h2.aC gO (fun _ _ h=>h.elim) e,h3.aC gO (fun _ _ h=>h.elim) e,fun j o hj=>⟨(hb j o hj).2,zZ0 (by have:=(hb j o hj).1;omega)⟩⟩,h.ok,h.tw⟩
theorem kY.drop (h:kY w0 W B ab cb rb al n1 n2 n3 m m2 m3 A A2 A D):xB w0 W B ab rb n1 n3 m A D:=by
 obtain⟨L,h1,h2,h3,h4,h5⟩:=h.ex;exact⟨h.ah,⟨L,h1,h2,⟨al,h4⟩,h5⟩,h.LS,h.tw⟩
theorem kY.box (h:kY w0 W B ab cb rb al n1 n2 n3 m1 m2 m3 A1 A2 A3 D){j:Nat}{o:Obj}(hb:B j o):W.heap[j]? =some o:=by
 obtain⟨L,h1,h2,h3,h4,h5⟩:=h.ex;exact(h5 j o hb).1
theorem kY.rc0 (h:kY w0 W B ab cb rb al n1 n2 n3 m1 m2 m3 A1 A2 A3 D):W.cell? ⟨rb,0,none⟩=some (.int .i64 A3.at_):=by
 obtain⟨L,h1,h2,h3,h4,h5⟩:=h.ex;exact h4.c0
theorem kY.rc1 (h:kY w0 W B ab cb rb al n1 n2 n3 m1 m2 m3 A1 A2 A3 D):W.cell? ⟨rb,1,none⟩=some (.pointer (some ⟨al,0,none⟩)):=by
 obtain⟨L,h1,h2,h3,h4,h5⟩:=h.ex;exact h4.c1
theorem xB.copy (h:xB w0 W B ab rb n1 n3 m A D)(hm:m<=120)(hn:n1<=90000)(Lq:∀u∈A.sh.evs,u.oneCell'=true):
    Calls prog 8 #[.pointer (some ⟨ab,0,none⟩)] W fun e w'=>∃cb al,e=.returned (.pointer (some ⟨cb,0,none⟩))/\ae W w'/\kY w0 w' B ab cb rb al n1 n1 n3 m m m A A A D:=by
 obtain⟨L,h1,h2,⟨al,h3⟩,h4⟩:=h.ex;refine(z5l h2 (h.ok.len hm) h.ok.inv.pos (by have:=h.ok.inv.len;omega) Lq (by have:=h.ok.inv.few;omega) (by omega) 401).mono ?_;rintro e w' ⟨cb,rfl,g,L',l3,l4,l5⟩;have gO:=g.only fun _=>False;exact⟨cb,al,rfl,g,h.ah.trans g,⟨L',fun j hj=>(l3 j (xA9 hj h.ah.size)).trans (h1 j hj),h2.aC gO (fun _ _ h=>h.elim) l3,l5,h3.aC gO (fun _ _ h=>h.elim) l3,h4.aC gO (fun _ h=>h.elim) l3⟩,h.ok,h.ok,h.ok,h.tw⟩
theorem kY.Kv (E:Nat->Addr)(hE:bz my E w0)(h:kY w0 W B ab cb rb al n1 n2 n3 m1 m2 m3 A1 A2 A3 D)(hm:m1<=119)(hn:n1<=90000)(e:En)(hA:b7 w0 e)(hz:rJ e)(np:e.key.size<=300)(at':Int):
    Calls prog 11 #[.pointer (some ⟨ab,0,none⟩),e.agg,.int .i64 at'] W fun r w'=>r=.returned (bA E (Pl.fh A1 e at').1)/\kY w0 w' B ab cb rb al (n1+5) n2 n3 (m1+1) m2 m3 (Pl.fh A1 e at').2 A2 A3 D:=by
 obtain⟨L,h1,h2,h3,h4,h5⟩:=h.ex;have wW:=h4.iy;refine(h2.apply E hE h.ah (ae.rf _) (fun j hj=>by rw[h1 j hj];omega) h.LS (by omega) hn e hA hz np at').mono ?_;rintro r w' ⟨rfl,g,hO,L',l1,l2,l3⟩
 exact⟨rfl,g,⟨L',fun j hj=>(l1 j (xA9 hj h.ah.size)).trans (h1 j hj),l3,h3.aC hO (fun j _ hj hk=>by unfold cr at hj hk;omega) l1,
  h4.aC hO (fun j _ hj=>⟨fun hk=>by unfold cr at hj hk;omega,fun e=>by rw[e,wW]at hj;unfold cr at hj;omega⟩) l1,h5.aC hO (fun j hj e=>by rw[e]at hj;unfold cr at hj;omega) l1⟩,R6 h.LS h2.iD e at',h.Lu,h.GU,h.tw⟩
theorem kY.Kw (E:Nat->Addr)(hE:bz my E w0)(h:kY w0 W B ab cb rb al n1 n2 n3 m1 m2 m3 A1 A2 A3 D)(hm:m2<=119)(hn:n2<=90000)(e:En)(hA:b7 w0 e)(hz:rJ e)(np:e.key.size<=300)(at':Int):
    Calls prog 11 #[.pointer (some ⟨cb,0,none⟩),e.agg,.int .i64 at'] W fun r w'=>r=.returned (bA E (Pl.fh A2 e at').1)/\kY w0 w' B ab cb rb al n1 (n2+5) n3 m1 (m2+1) m3 A1 (Pl.fh A2 e at').2 A3 D:=by
 obtain⟨L,h1,h2,h3,h4,h5⟩:=h.ex;have wW:=h4.iy;refine(h3.apply E hE h.ah (ae.rf _) (fun j hj=>by rw[h1 j hj];omega) h.Lu (by omega) hn e hA hz np at').mono ?_;rintro r w' ⟨rfl,g,hO,L',l1,l2,l3⟩
 exact⟨rfl,g,⟨L',fun j hj=>(l1 j (xA9 hj h.ah.size)).trans (h1 j hj),h2.aC hO (fun j _ hj hk=>by unfold cr at hj hk;omega) l1,l3,
  h4.aC hO (fun j _ hj=>⟨fun hk=>by unfold cr at hj hk;omega,fun e=>by rw[e,wW]at hj;unfold cr at hj;omega⟩) l1,h5.aC hO (fun j hj e=>by rw[e]at hj;unfold cr at hj;omega) l1⟩,h.LS,R6 h.Lu h3.iD e at',h.GU,h.tw⟩
theorem kY.Ky (h:kY w0 W B ab cb rb al n1 n2 n3 m1 m2 m3 A1 A2 A3 D)(hm:m3<=119)(hn:n3<=90000)(e:En)(hA:b7 w0 e)(hz:PJ e)(at':Int):
    Calls prog 9 #[.pointer (some ⟨rb,0,none⟩),e.agg,.int .i64 at'] W fun r w'=>r=.returned (.int .i64 ((Pl.fh A3 e at').1:Nat))/\∃al',kY w0 w' B ab cb rb al' n1 n2 (n3+1) m1 m2 (m3+1) A1 A2 (Pl.fh A3 e at').2 (wL A3 D e at'):=by
 obtain⟨L,h1,h2,h3,h4,h5⟩:=h.ex;have wW:=h4.iy;have mG:w0.heap.size<=rb:=Nat.le_of_not_lt fun q=>by rw[h1 rb q]at wW;omega
 have Dc:∀X,ar (fun j=>cr 201 (L j)\/j=rb) W X->ae w0 X:=fun X hO=>((h.ah.only (fun j=>w0.heap.size<=j)).then (hO.mono fun j hj=>by
  by_cases q:j<w0.heap.size
  . rw[h1 j q]at hj;rcases hj with hj | hj
    . unfold cr at hj;omega
    . omega
  . exact .inl (by omega))).ah fun j hj=>hj
 have uO:jY W L 201 rb n3 A3.gC D A3:=⟨al,h4⟩
 refine(z1f uO h.GU (by omega) h.tw e (fun X hO=>hA.ah (Dc X hO)) hz at' (by omega)).mono ?_;rintro r w' ⟨rfl,hO,L',l1,l2,l3⟩;rw[EN]at l3;obtain⟨al',l3⟩:=l3;have hT:∀k,k=1\/k=401->∀j,cr 201 (L j)\/j=rb->¬cr k (L j):=fun k hk j hj hn=>by
  rcases hj with hj | hj
  . unfold cr at hj hn;omega
  . rw[hj,wW]at hn;unfold cr at hn;omega
 exact⟨rfl,al',Dc w' hO,⟨L',fun j hj=>(l1 j (xA9 hj h.ah.size)).trans (h1 j hj),h2.aC hO (fun j _ hj=>hT 1 (.inl rfl) j hj) l1,h3.aC hO (fun j _ hj=>hT 401 (.inr rfl) j hj) l1,l3,h5.aC hO (fun j hj e=>by
  rcases hj with hj | hj
  . rw[e]at hj;unfold cr at hj;omega
  . rw[hj,wW]at e;omega) l1⟩,h.LS,h.Lu,R6 h.GU uO.iD e at',Bl h.GU h.tw e at'⟩
end
theorem z5v (w:World){W U:World}{ab n m:Nat}(h:OI w W ab n m bC.init)(gU:ae W U):
    Calls prog 7 #[] U fun e w'=>∃rb,e=.returned (.pointer (some ⟨rb,0,none⟩))/\xB w w' (fun _ _=>False) ab rb n 0 m bC.init bG.init:=by
 have h:=h.br gU;obtain⟨L,h1,h2,h3⟩:=h.ex;refine(z6s U).mono ?_;rintro e w' ⟨rb,rfl,n1,n2,n3⟩;obtain⟨L',b1,b2,b3⟩:=n3 201 L;exact⟨rb,rfl,h.ah.trans n2,⟨L',fun j hj=>(b1 j (xA9 hj h.ah.size)).trans (h1 j hj),h3.aC (n2.only fun _=>False) (fun _ _ h=>h.elim) b1,b3,fun _ _ h=>h.elim⟩,h.ok,z4X⟩
end
section
attribute [local go_sem] bl
def PW:List (Nat×Nat):=[(6,5),(8,6),(9,8),(15,9),(16,15),(18,16),(19,18),(20,19),(28,20),(29,28),(37,29),(38,37)]
theorem jZ {i:Nat}{L:Nat->Bool}(h:∀p∈PW,p.1≠i):∀p∈PW,p.1=i->L p.2=true:=fun p hp e=>absurd e (h p hp)
theorem xC {i j:Nat}{L:Nat->Bool}(h:∀p∈PW,p.1=i->p.2=j)(hj:L j=true):∀p∈PW,p.1=i->L p.2=true:=fun p hp e=>by rw[h p hp e];exact hj
def vsA (ab cb rb al bb:Nat)(Bt SV cn:Int)(ev ag:Value)(i:Nat):Option Value:=(([some (.pointer (some ⟨ab,0,none⟩)),some (.pointer (some ⟨bb,0,none⟩)),some ag,some (.pointer (some ⟨bb,12,none⟩)),some (.int .i64 Bt),some ev,some (.int .i64 cn),some (.int .i64 cn),some (.bool false),some (.bool false),some (.pointer (some ⟨cb,0,none⟩)),some (.pointer (some ⟨bb,0,none⟩)),some ag,some (.pointer (some ⟨bb,12,none⟩)),some (.int .i64 Bt),some ev,some (.int .i64 cn),some (.int .i64 cn),some (.bool false),some (.bool false),some (.bool false),some (.pointer (some ⟨ab,0,none⟩)),some (.int .i64 SV),some (.pointer (some ⟨rb,0,none⟩)),some (.pointer (some ⟨rb,0,none⟩)),some (.pointer (some ⟨rb,0,none⟩)),some (.int .i64 SV),some (.bool false),some (.bool false),some (.bool false),some (.pointer (some ⟨ab,0,none⟩)),some (.pointer (some ⟨rb,0,none⟩)),some (.pointer (some ⟨rb,0,none⟩)),some (.pointer (some ⟨rb,1,none⟩)),some (.pointer (some ⟨al,0,none⟩)),some (.bool true),some (.bool false),some (.bool false),some (.bool false),some (.pointer (some ⟨cb,0,none⟩)),some (.pointer (some ⟨rb,0,none⟩)),some (.pointer (some ⟨rb,0,none⟩)),some (.pointer (some ⟨rb,1,none⟩)),some (.pointer (some ⟨al,0,none⟩)),some (.bool true),some (.bool false),some (.bool false)]:List (Option Value))[i]?).getD none
theorem y9M {x:World}{bb:Nat}{cs:Array Value}{t:TypeId}(h:x.heap[bb]? =some (.cells cs t (0,0)))(i:Nat):x.cell? ⟨bb,i,none⟩=cs[i]? :=by
 simp[World.cell?,h]
theorem PX {x:World}{bb:Nat}{cs:Array Value}{t:TypeId}(h:x.heap[bb]? =some (.cells cs t (0,0))):x.cell? ⟨bb,0,none⟩=cs[0]? /\x.cell? ⟨bb,1,none⟩=cs[1]? /\x.cell? ⟨bb,2,none⟩=cs[2]? /\x.cell? ⟨bb,3,none⟩=cs[3]? /\x.cell? ⟨bb,4,none⟩=cs[4]? /\x.cell? ⟨bb,5,none⟩=cs[5]? /\x.cell? ⟨bb,6,none⟩=cs[6]? /\x.cell? ⟨bb,7,none⟩=cs[7]? /\x.cell? ⟨bb,8,none⟩=cs[8]? /\x.cell? ⟨bb,9,none⟩=cs[9]? /\x.cell? ⟨bb,10,none⟩=cs[10]? /\x.cell? ⟨bb,11,none⟩=cs[11]? /\x.cell? ⟨bb,12,none⟩=cs[12]? :=by
 have h:=y9M h;exact⟨h 0,h 1,h 2,h 3,h 4,h 5,h 6,h 7,h 8,h 9,h 10,h 11,h 12⟩
section
variable {vs:Nat->Option Value}{od:List (Nat×Nat)}{M:Nat->World->Prop}{L:Nat->Bool}{f:Nat->Value}{x:World}
theorem JW.EX (h:JW vs od [5,15] M L f x)(h5:L 5=false):M 0 x:=h.stage 0 (by decide) (fun k hk=>by omega) (fun i hi=>by obtain rfl:i=5:=(Option.some.inj hi).symm;exact h5)
theorem JW.EY (h:JW vs od [5,15] M L f x)(h5:L 5=true)(LK:L 15=false):M 1 x:=h.stage 1 (by decide) (fun k hk=>⟨5,by obtain rfl:k=0:=(by omega);rfl,h5⟩) (fun i hi=>by obtain rfl:i=15:=(Option.some.inj hi).symm;exact LK)
theorem JW.j9 (h:JW vs od [5,15] M L f x)(LK:L 15=true):M 2 x:=h.stage 2 (by decide) (fun k hk=>⟨15,by obtain rfl:k=1:=(by omega);rfl,LK⟩) (fun i hi=>by simp at hi)
end
theorem Bu (A:bC)(e:En)(at':Int):(Pl.fh A e at').1<=19:=by
 by_cases hr:Pl.cK e=false
 . unfold Pl.fh;rw[zZ1 hr];show(4:Nat)<=19;omega
 . by_cases hat:at'<A.at_\/at'<0\/4096<=at'
   . unfold Pl.fh;rw[zZ0 hr,zZ1 hat];show(1:Nat)<=19;omega
   . rw[y8b (by simpa using hr) hat];decide
noncomputable def cG (l:List Ac):bC:=l.foldl (fun A a=>(Pl.fh A a.e a.at').2) bC.init
theorem y7T (xs:List Ac)(k:Nat)(h:k<xs.length):cG (xs.take (k+1))=(Pl.fh (cG (xs.take k)) (di xs k).e (di xs k).at').2:=by
 unfold cG;rw[zX1 h,xX6,Lx xs k h];rfl
theorem XZ (xs:List Ac):∀k,k<=xs.length->Pl.EP xs (cG (xs.take k)).sh/\lD (cG (xs.take k)).gC
 | 0,_=>by rw[List.take_zero];exact⟨ER xs,z3t⟩
 | k+1,h=>by
  have ih:=XZ xs k (by omega);rw[y7T xs k (by omega)];exact⟨z6o ih.1 (a:=di xs k) (by rw[Lx xs k (by omega)];exact zQ4 _),z1z ih.2 _ _⟩
theorem EZ {acts:List Ac}{s:dR}(h:Pl.EP acts s):∀u∈s.evs,u.oneCell'=true:=by
 obtain⟨q,q1,_⟩:=h;rw[q1];intro u hu;obtain⟨a,_,ha⟩:=yJ7.1 hu;exact KQ _ _ u ha
theorem Bv {W:World}{e:En}(h1:vI W e.aN e.ops)(h2:e.ops.length<=20/\e.key.size<=300/\e.aB<=600/\∀o∈e.ops,o.key.size<=300/\o.val.size<=300/\o.old.size<=300):b7 W e/\rJ e/\e.key.size<=300/\PJ e:=by
 obtain⟨a,b,c,d⟩:=h2;exact⟨⟨h1,by omega,fun o ho=>by obtain⟨x,y,z⟩:=d o ho;exact⟨by omega,by omega,by omega⟩,fun _=>by omega⟩,fun o ho=>by obtain⟨x,y,z⟩:=d o ho;exact⟨by omega,by omega⟩,b,b,fun o ho=>by obtain⟨x,y,z⟩:=d o ho;exact⟨x,y⟩⟩
def RA (zs:List Pr)(i:Nat)(v:Value)(x:World):Prop:=(i=12\/i=16->∃a c,v=.slice a zs.length c/\jN x a zs)/\(i=17->v=.bool true)/\(i=18->v=.bool true)
theorem RA.mono (zs:List Pr):oy (RA zs):=fun i v x x' h g=>⟨fun e=>by
 obtain⟨a,c,e1,e2⟩:=h.1 e;exact⟨a,c,e1,e2.ah g⟩,h.2.1,h.2.2⟩
theorem z3i {c:Int}(h:(Lit.int .i64 c).wf=true): -9223372036854775808<=c/\c<9223372036854775808:=by
 simp[Lit.wf,IntKind.min,IntKind.max,IntKind.bits,IntKind.signed]at h;omega
theorem y7j (E:Nat->Addr)(a:Option Addr)(cap:Nat)(xs:List Ac)(key lo hi:ByteArray)(aI:Int)(w:World)(hE:bz mC E w)(hA:pX w a xs)(vS:xs.length<=9223372036854775807)(hk:∀j,j<xs.length->Lz (di xs j))(hat:∀j,j<xs.length->(Lit.int .i64 (di xs j).at').wf=true)(bX:key.size<=9223372036854775807)(sy:lo.size<=9223372036854775807)(tx:hi.size<=9223372036854775807)(JB:aI<=9223372036854775807):
    Calls prog 3 #[.slice a xs.length cap,.agg #[.string key,.string lo,.string hi,.int .i64 aI]] w fun e w'=>e=.returned (.bool true)/\ae w w':=by
 have hAU:bz my E w:=hE.less fun k hk=>by
  simp only[my,lI,yZ0,wZ2]at hk;simp only[mC,zZ7,wZ2];omega
 have HE:=af hE;have Ya:=af hAU;have HA:=af hA;have HK:=af hk;have HWF:=af hat;have Yb:=af JB;clear hE hA hk hAU hat JB;go_in;go_wp2_with fail;obtain⟨Y,hY⟩:∃Y,Y=w.alloc (.cells #[.string key,.string lo,.string hi,.int .i64 aI] 26):=⟨_,rfl⟩
 have gY:ae w Y:=by rw[hY];exact(ae.rf w).alloc _
 obtain⟨sb,iA⟩:∃sb,sb=w.heap.size:=⟨_,rfl⟩
 have x0:Y.cell? ⟨sb,0,none⟩=some (.string key):=by rw[hY,iA];simp[go_sem]
 have x1:Y.cell? ⟨sb,1,none⟩=some (.string lo):=by rw[hY,iA];simp[go_sem]
 have x2:Y.cell? ⟨sb,2,none⟩=some (.string hi):=by rw[hY,iA];simp[go_sem]
 have x3:Y.cell? ⟨sb,3,none⟩=some (.int .i64 aI):=by rw[hY,iA];simp[go_sem]
 rw[<-hY,<-iA];clear hY iA;have LU:=bf x0;refine(EO E _ (Ya.ah gY)).mono ?_;rintro r w1 ⟨rfl,aR⟩;have x0:=(aR.cells.1 _ _ LU).trans x0;have x1:=(aR.cells.1 _ _ LU).trans x1;have x2:=(aR.cells.1 _ _ LU).trans x2;have x3:=(aR.cells.1 _ _ LU).trans x3;have ct:=af (gY.trans aR);have hs1:=xA9 LU aR.size;clear aR gY LU;go_upto_region 3 with fail;have C0:=bj x0;have C1:=bj x1;have C2:=bj x2;have C3:=bj x3;refine kh 10 [6,7] (ae w1) Eq (JV [⟨6,7,[.string lo,.string hi]⟩] w1) (fun f a=>a.put (some 5) (f 6)) (JV.aX _ w1 _) (fun _ _ _ h=>h.ah) (fun _=>rfl) (fun _ _ _ _ h g=>g▸h) ?_;repeat (first|refine kg ?_|(refine gg ?_;intros;go_big_quiet_op;go_big_quiet_on)|(refine fZ ?_;simp only[Act.put,xB9,xC9,xD9]))
 refine rv ⟨⟨bL rfl (fun _ a=>a) ?_,bL rfl (fun f a=>a.put (some 5) (f 6)) ?_,trivial⟩,?_⟩
 . intro L f u hJ hL hd;clear C0 C1 C2 C3;go_simp;exact hJ.alloc (by rfl) (V:=⟨6,7,[.string lo,.string hi]⟩) (by simp) hL [.string ⟨#[]⟩,.string ⟨#[]⟩] rfl _
 . intro L f u hJ hL hd;clear C0 C1 C2 C3;obtain⟨m,y0,y1,hm,k0,k1,f0,f1⟩:=hJ.two (V:=⟨6,7,[.string lo,.string hi]⟩) (by simp) (hd 6 rfl (by decide)) rfl;dsimp only at hm;rw[hm];go_simp;exact hJ.store (by rfl) (V:=⟨6,7,[.string lo,.string hi]⟩) (by simp) (hd 6 rfl (by decide)) hm
 intro f u hJ;obtain⟨pb,q5,n5,l5,GL⟩:=hJ.full (V:=⟨6,7,[.string lo,.string hi]⟩) (by simp) rfl;dsimp only at q5;have o0:=(GL 0 _ rfl).1;have o1:=(GL 1 _ rfl).1;have cA:=af (ct.trans hJ.ah);clear hJ GL n5 C0 C1 C2 C3 x0 x1 x2 x3 hs1 ct;dsimp only[List.drop];simp only[Act.put,xB9,xD9,xC9];rw[q5];clear q5;have HL:=af (z3F a cap xs u (HA.ah cA) vS HK);go_wp2_with fail;refine HL.mono ?_;rintro r w2 ⟨rfl,aP⟩;have o0:=(aP.cells.1 _ 0 l5).trans o0;have o1:=(aP.cells.1 _ 1 l5).trans o1;have l5:=xA9 l5 aP.size;have fI:=af (cA.trans aP);clear aP cA HL;cases GV:Gx xs with
 | true=>
  go_wp2_with fail;go_ret;exact⟨rfl,fI⟩
 | false=>
  by_cases h1:300<lo.size
  . have yH:(300:Int)<(lo.size:Int):=(by omega);go_wp2_with fail;go_ret;exact⟨rfl,fI⟩
  have yH:¬(300:Int)<(lo.size:Int):=by omega
  by_cases h2:300<hi.size
  . have Rj:(300:Int)<(hi.size:Int):=(by omega);go_wp2_with fail;go_ret;exact⟨rfl,fI⟩
  have Rj:¬(300:Int)<(hi.size:Int):=by omega
  by_cases h3:300<key.size
  . have UH:(300:Int)<(key.size:Int):=(by omega);go_wp2_with fail;go_ret;exact⟨rfl,fI⟩
  have UH:¬(300:Int)<(key.size:Int):=by omega
  obtain⟨j0N,Bw⟩:=y9B GV;have Lp:=af Bw;have PY:=af (show ∀a∈xs,b7 w2 a.e from fun a ha=>by
   obtain⟨j,hj,rfl⟩:=zK5 ha;rw[<-Lx xs j hj];exact(Bv ((HA.ops j hj).ah fI) (Lp j hj)).1)
  have HE2:=af (HE.ah fI);have BA:=af (Ya.ah fI);have yT:=af (show w2.cell? ⟨pb,0,none⟩=some (.string lo)/\w2.cell? ⟨pb,1,none⟩=some (.string hi)/\pb<w2.heap.size from⟨o0,o1,l5⟩);have iI:=af (show lo.size<=300/\hi.size<=300/\key.size<=300 from⟨by omega,by omega,by omega⟩);clear GV Bw vS bX sy tx h1 h2 h3 HE Ya;go_wp2_with fail;refine(Aw E w2 BA).mono ?_;rintro r w3 ⟨ab,rfl,hM⟩;have PZ:=af hM;clear hM o0 o1 l5 yH Rj UH;go_wp2_with fail;refine(z5v w2 PZ (ae.rf _)).mono ?_;rintro r w4 ⟨rb,rfl,K5⟩;have HP0:=af K5;clear K5 PZ;go_wp2_with fail;go_loopw [54] (fun i wr=>∃k:Nat,k<=xs.length/\i=.int .i64 k/\Hid (∃D,xB w2 wr (fun _ _=>False) ab rb (1+5*k) k k (cG (xs.take k)) D)) (fun i _=>xs.length - (intOf i).toNat);exact⟨0,zZ5 _,rfl,⟨_,HP0⟩⟩;obtain⟨k,fV,rfl,HP⟩:=hrel;clear HP0;by_cases az:k<xs.length
  . obtain⟨D,hP⟩:=HP.out;rcases HA.out.row with h0 | ⟨b,off,rfl,hb,hR⟩
    . rw[h0]at az;simp at az
    have nh:=fI.trans hP.ah;obtain⟨q0,q1,q2,q3,q4,q5,q6,q7,q8,q9,LA,LB,vg⟩:=z2j (W:=wr) (b:=b) (off:=off+k*13) (a:=di xs k) (fun i v hv=>(nh.cells.1 _ _ hb).trans (hR k az i v hv));obtain⟨Cj,sD,Yc,hE3⟩:=Bv ((HA.ops k az).ah fI) (Lp k az);have HPS:=y7T xs k az;have P0:=EZ (XZ xs k (by omega)).1;have BB:=XZ xs (k+1) (by omega);obtain⟨Yd,Ye⟩:=z3i (HWF k az);have P1:=Bu (cG (xs.take k)) (di xs k).e (di xs k).at';obtain⟨n1,jz⟩:∃n1,n1=1+5*k:=⟨_,rfl⟩
    rw[<-jz]at hP;obtain⟨D2,FI⟩:∃D2,D2=wL (cG (xs.take k)) D (di xs k).e (di xs k).at':=⟨_,rfl⟩
    have BC:=af (fun x (B:Nat->Obj->Prop) cb al (h:kY w2 x B ab cb rb al n1 n1 k k k k (cG (xs.take k)) (cG (xs.take k)) (cG (xs.take k)) D)=>h.Ky (by omega) (by omega) (di xs k).e Cj hE3 (di xs k).at');have Fa:=af (fun x (B:Nat->Obj->Prop) cb al (h:kY w2 x B ab cb rb al n1 n1 (k+1) k k (k+1) (cG (xs.take k)) (cG (xs.take k)) (cG (xs.take (k+1))) D2)=>h.Kv E BA (by omega) (by omega) (di xs k).e Cj sD Yc (di xs k).at');have Fb:=af (fun x (B:Nat->Obj->Prop) cb al (h:kY w2 x B ab cb rb al (n1+5) n1 (k+1) (k+1) k (k+1) (cG (xs.take (k+1))) (cG (xs.take k)) (cG (xs.take (k+1))) D2)=>h.Kw E BA (by omega) (by omega) (di xs k).e Cj sD Yc (di xs k).at');have mA:=af (fun x (B:Nat->Obj->Prop) cb al (h:kY w2 x B ab cb rb al (n1+5) (n1+5) (k+1) (k+1) (k+1) (k+1) (cG (xs.take (k+1))) (cG (xs.take (k+1))) (cG (xs.take (k+1))) D2)=>show(Calls prog 13 #[.pointer (some ⟨ab,0,none⟩),.pointer (some ⟨al,0,none⟩)] x fun e w'=>e=.returned (.bool true)/\ae x w')/\(Calls prog 13 #[.pointer (some ⟨cb,0,none⟩),.pointer (some ⟨al,0,none⟩)] x fun e w'=>e=.returned (.bool true)/\ae x w')/\(Calls prog 12 #[.pointer (some ⟨ab,0,none⟩)] x fun e w'=>e=.returned (.int .i64 (cG (xs.take (k+1))).at_)/\ae x w')/\(Calls prog 14 #[.pointer (some ⟨ab,0,none⟩),.int .i64 (di xs k).at'] x fun e w'=>e=.returned (.tuple #[((cG (xs.take (k+1))).gC (bt (di xs k).at')).getD (fQ 0 0),.bool ((cG (xs.take (k+1))).gC (bt (di xs k).at')).isSome])/\ae x w')/\(∃nb,x.cell? ⟨al,14,none⟩=some (.map (some nb))/\∀X,ae x X->(Instr.lookup 56 (.map (some nb)) (.int .i64 (di xs k).at') true).run prog X=.ok (.tuple #[((cG (xs.take (k+1))).gC (bt (di xs k).at')).getD (fQ 0 0),.bool ((cG (xs.take (k+1))).gC (bt (di xs k).at')).isSome]) X)by
     obtain⟨L,l1,l2,l3,l4,l5⟩:=h.ex;have P5:∀a∈xs,b7 x a.e:=fun a ha=>(PY a ha).ah h.ah;have hau:=BA.ah h.ah;refine⟨y7W E hau l2 l4.all h.GU (by omega) (by omega) h.tw BB.1 P5,y7W E hau l3 l4.all h.GU (by omega) (by omega) h.tw BB.1 P5,z5V l2,z2i l2 BB.2 _ Yd Ye,?_⟩;obtain⟨db,nb,ms,xA⟩:=l4.all;obtain⟨m,_,rU⟩:=xA.la;exact⟨nb,xA.cn,fun X g=>z2F (rU.ah g) _ Yd Ye⟩)
    obtain⟨xv,yv,BD⟩:=BB.2.get (bt (di xs k).at');rw[<-HPS]at BC Fa Fb;rw[<-FI]at BC;rw[BD]at mA;unfold fQ at mA;obtain⟨is,K7⟩:∃is,is=((cG (xs.take (k+1))).gC (bt (di xs k).at')).isSome:=⟨_,rfl⟩
    rw[<-K7]at mA;have Yf:=af (fun x (B:Nat->Obj->Prop) cb al (h:kY w2 x B ab cb rb al (n1+5) (n1+5) (k+1) (k+1) (k+1) (k+1) (cG (xs.take (k+1))) (cG (xs.take (k+1))) (cG (xs.take (k+1))) D2)=>show ∃D,xB w2 x (fun _ _=>False) ab rb (1+5*(k+1)) (k+1) (k+1) (cG (xs.take (k+1))) D from⟨D2,by rw[show 1+5*(k+1)=n1+5 by omega];exact h.drop.less fun j o h=>h.elim⟩);generalize (Pl.fh (cG (xs.take k)) (di xs k).e (di xs k).at').1=cn at *;clear HPS BB BD K7 FI nh hR Cj sD Yc hE3 Yd Ye;generalize cG (xs.take k)=A1 at *;generalize uR:cG (xs.take (k+1))=A2 at *;have Yg:=af uR;clear uR;generalize di xs k=ac at *;obtain⟨⟨ax,aj,ak,aq,aw,seq,nJ,aM,aL,aA,ops,aN,aS,aF,aB,aG⟩,Bt⟩:=ac;unfold En.agg En.vals at BC Fa Fb;dsimp only at *;clear HP;have HHP:=af hP;have P6:=af P0;clear hP P0;go_upto_region 10 with fail;clear q0 q1 q2 q3 q4 q5 q6 q7 q8 q9 LA LB vg;obtain⟨U,hU⟩:∃U,U=wr.alloc (.cells #[.int .i64 ax,.int .i64 aj,.int .i64 ak,.int .i64 aq,.int .i64 aw,.int .i64 seq,.slice aN ops.length aS,.string nJ,.int .i64 aM,.int .i64 aL,.int .i64 aA,.slice aF aB aG,.int .i64 Bt] 38):=⟨_,rfl⟩
    have gU:ae wr U:=(by rw[hU];exact(ae.rf wr).alloc _);obtain⟨bb,eT⟩:∃bb,bb=wr.heap.size:=⟨_,rfl⟩
    obtain⟨B,hB⟩:∃B:Nat->Obj->Prop,B=fun j o=>j=bb/\o=.cells #[.int .i64 ax,.int .i64 aj,.int .i64 ak,.int .i64 aq,.int .i64 aw,.int .i64 seq,.slice aN ops.length aS,.string nJ,.int .i64 aM,.int .i64 aL,.int .i64 aA,.slice aF aB aG,.int .i64 Bt] 38 (0,0):=⟨_,rfl⟩
    have HB:=af (show B bb (.cells #[.int .i64 ax,.int .i64 aj,.int .i64 ak,.int .i64 aq,.int .i64 aw,.int .i64 seq,.slice aN ops.length aS,.string nJ,.int .i64 aM,.int .i64 aL,.int .i64 aA,.slice aF aB aG,.int .i64 Bt] 38 (0,0))by rw[hB];exact⟨rfl,rfl⟩);have HU:=af (HHP.aX (B':=B) (U:=U) (fun j o hj=>by
     rw[hB]at hj;obtain⟨rfl,rfl⟩:=hj;exact⟨by omega,by rw[hU,eT];exact wZ0 wr _⟩) gU)
    rw[<-hU,<-eT];clear hU gU eT HHP hB;go_wp2_with fail;refine(HU.copy (by omega) (by omega) P6).mono ?_;rintro r w5 ⟨cb,al0,rfl,jq,h5⟩;have H5:=af h5;have j5:=h5.box HB;obtain⟨d0,d1,d2,d3,d4,d5,d6,d7,d8,d9,d10,d11,d12⟩:=PX j5;have hbl:=(zZ2.1 j5).1;clear j5 h5 jq HU P6;go_wp2_with fail;refine(BC w5 B cb al0 H5).mono ?_;rintro r Y ⟨rfl,al,h6⟩;have H6:=af h6;clear h6 H5 BC d0 d1 d2 d3 d4 d5 d6 d7 d8 d9 d10 d11 d12 hbl;obtain⟨M,hM⟩:∃M:Nat->World->Prop,M=fun s x=>(s=0->kY w2 x B ab cb rb al n1 n1 (k+1) k k (k+1) A1 A1 A2 D2)/\(s=1->kY w2 x B ab cb rb al (n1+5) n1 (k+1) (k+1) k (k+1) A2 A1 A2 D2)/\(s=2->kY w2 x B ab cb rb al (n1+5) (n1+5) (k+1) (k+1) (k+1) (k+1) A2 A2 A2 D2):=⟨_,rfl⟩
    have PZ:=af (show M 0 Y by rw[hM];exact⟨fun _=>H6,fun h=>absurd h (by decide),fun h=>absurd h (by decide)⟩);have Ao:=af (show ∀s x x',ae x x'->M s x->M s x' by rw[hM];exact fun s x x' g h=>⟨fun e=>(h.1 e).br g,fun e=>(h.2.1 e).br g,fun e=>(h.2.2 e).br g⟩);have DV:=af (fun x (h:M 0 x)=>show Calls prog 11 #[.pointer (some ⟨ab,0,none⟩),.agg #[.int .i64 ax,.int .i64 aj,.int .i64 ak,.int .i64 aq,.int .i64 aw,.int .i64 seq,.slice aN ops.length aS,.string nJ,.int .i64 aM,.int .i64 aL,.int .i64 aA,.slice aF aB aG],.int .i64 Bt] x fun r x'=>r=.returned (bA E cn)/\M 1 x' by
     rw[hM]at h ⊢;refine(Fa x B cb al (h.1 rfl)).mono ?_;rintro r x' ⟨e,h⟩;exact⟨e,fun h=>absurd h (by decide),fun _=>h,fun h=>absurd h (by decide)⟩)
    have Cf:=af (fun x (h:M 1 x)=>show Calls prog 11 #[.pointer (some ⟨cb,0,none⟩),.agg #[.int .i64 ax,.int .i64 aj,.int .i64 ak,.int .i64 aq,.int .i64 aw,.int .i64 seq,.slice aN ops.length aS,.string nJ,.int .i64 aM,.int .i64 aL,.int .i64 aA,.slice aF aB aG],.int .i64 Bt] x fun r x'=>r=.returned (bA E cn)/\M 2 x' by
     rw[hM]at h ⊢;refine(Fb x B cb al (h.2.1 rfl)).mono ?_;rintro r x' ⟨e,h⟩;exact⟨e,fun h=>absurd h (by decide),fun h=>absurd h (by decide),fun _=>h⟩)
    have yT:=af (fun s x (hs:s<=[5,15].length) (h:M s x)=>show x.heap[bb]? =some (.cells #[.int .i64 ax,.int .i64 aj,.int .i64 ak,.int .i64 aq,.int .i64 aw,.int .i64 seq,.slice aN ops.length aS,.string nJ,.int .i64 aM,.int .i64 aL,.int .i64 aA,.slice aF aB aG,.int .i64 Bt] 38 (0,0))by
     rw[hM]at h;have hs2:s<=2:=hs;obtain rfl | rfl | rfl:s=0\/s=1\/s=2:=by omega
     . exact(h.1 rfl).box HB
     . exact(h.2.1 rfl).box HB
     . exact(h.2.2 rfl).box HB)
    have Yh:=af (fun s x (hs:s<=[5,15].length) (h:M s x)=>show Calls prog 10 #[bA E cn] x fun r x'=>r=.returned (.int .i64 (cn:Nat))/\ae x x' by
     rw[hM]at h;have hs2:s<=2:=hs;refine EW E cn P1 x (HE2.ah ?_);obtain rfl | rfl | rfl:s=0\/s=1\/s=2:=by omega
     . exact(h.1 rfl).ah
     . exact(h.2.1 rfl).ah
     . exact(h.2.2 rfl).ah)
    have cE:=af (fun x (h:M 2 x)=>show kY w2 x B ab cb rb al (n1+5) (n1+5) (k+1) (k+1) (k+1) (k+1) A2 A2 A2 D2 by rw[hM]at h;exact h.2.2 rfl);have mh:=af (fun x (h:M 2 x)=>(mA x B cb al (cE x h)).2.2.1);have sJ:=af (fun x (h:M 2 x)=>(mA x B cb al (cE x h)).1);have eR:=af (fun x (h:M 2 x)=>(mA x B cb al (cE x h)).2.1);have pN:=af (fun x (h:M 2 x)=>(cE x h).rc0);have zm:=af (fun x (h:M 2 x)=>(cE x h).rc1);clear hM H6 Fa Fb;generalize A2.at_=SV at mh pN;generalize bA E cn=ev at *;go_upto_region 12 with fail;refine jA 47 [0,1,2,3,4,5,6,7,8,9,10,11,12,13,14,15,16,17,18,19,20,21,22,23,24,25,26,27,28,29,30,31,32,33,34,35,36,37,38,39,40,41,42,43,44,45,46] (fun _=>True) Eq (JW (vsA ab cb rb al bb Bt SV cn ev (.agg #[.int .i64 ax,.int .i64 aj,.int .i64 ak,.int .i64 aq,.int .i64 aw,.int .i64 seq,.slice aN ops.length aS,.string nJ,.int .i64 aM,.int .i64 aL,.int .i64 aA,.slice aF aB aG])) PW [5,15] M) (fun f a=>((((((((((((((((((((((((((((((((((((((((((((((a.put (some 66) (f 0)).put (some 67) (f 1)).put (some 68) (f 2)).put (some 69) (f 3)).put (some 70) (f 4)).put (some 71) (f 5)).put (some 72) (f 6)).put (some 73) (f 7)).put (some 74) (f 8)).put (some 75) (f 9)).put (some 76) (f 10)).put (some 77) (f 11)).put (some 78) (f 12)).put (some 79) (f 13)).put (some 80) (f 14)).put (some 81) (f 15)).put (some 82) (f 16)).put (some 83) (f 17)).put (some 84) (f 18)).put (some 85) (f 19)).put (some 86) (f 20)).put (some 87) (f 21)).put (some 88) (f 22)).put (some 89) (f 23)).put (some 90) (f 24)).put (some 91) (f 25)).put (some 92) (f 26)).put (some 93) (f 27)).put (some 94) (f 28)).put (some 95) (f 29)).put (some 96) (f 30)).put (some 97) (f 31)).put (some 98) (f 32)).put (some 99) (f 33)).put (some 100) (f 34)).put (some 101) (f 35)).put (some 102) (f 36)).put (some 103) (f 37)).put (some 104) (f 38)).put (some 105) (f 39)).put (some 106) (f 40)).put (some 107) (f 41)).put (some 108) (f 42)).put (some 109) (f 43)).put (some 110) (f 44)).put (some 111) (f 45)).put (some 112) (f 46)) (JW.aX (Ao _ _ _ (ae.rf Y).drew PZ)) (fun _ _ _ _=>trivial) (fun _=>rfl) (fun _ _ _ _ h g=>g▸h) ?_;iterate 47 (refine QL (by rfl) (by rfl) ?_)
    refine vM ⟨⟨gT rfl (fun _ a=>a) ?_,gT rfl (fun _ a=>a) ?_,gT rfl (fun f a=>a.put (some 67) (f 1)) ?_,gT rfl (fun _ a=>a) ?_,gT rfl (fun f a=>a.put (some 69) (f 3)) ?_,gT rfl (fun f a=>((a.put (some 66) (f 0)).put (some 68) (f 2)).put (some 70) (f 4)) ?_,gT rfl (fun f a=>a.put (some 71) (f 5)) ?_,gT rfl (fun _ a=>a) ?_,gT rfl (fun f a=>(a.put (some 72) (f 6)).put (some 73) (f 7)) ?_,gT rfl (fun f a=>(a.put (some 72) (f 6)).put (some 74) (f 8)) ?_,gT rfl (fun f a=>a.put (some 75) (f 9)) ?_,gT rfl (fun f a=>a.put (some 75) (f 9)) ?_,gT rfl (fun f a=>(a.put (some 75) (f 9)).put (some 77) (f 11)) ?_,gT rfl (fun f a=>a.put (some 75) (f 9)) ?_,gT rfl (fun f a=>(a.put (some 75) (f 9)).put (some 79) (f 13)) ?_,gT rfl (fun f a=>(((a.put (some 75) (f 9)).put (some 76) (f 10)).put (some 78) (f 12)).put (some 80) (f 14)) ?_,gT rfl (fun f a=>(a.put (some 75) (f 9)).put (some 81) (f 15)) ?_,gT rfl (fun f a=>a.put (some 75) (f 9)) ?_,gT rfl (fun f a=>((a.put (some 75) (f 9)).put (some 82) (f 16)).put (some 83) (f 17)) ?_,gT rfl (fun f a=>(a.put (some 75) (f 9)).put (some 84) (f 18)) ?_,gT rfl (fun f a=>(a.put (some 82) (f 16)).put (some 85) (f 19)) ?_,gT rfl (fun f a=>a.put (some 86) (f 20)) ?_,gT rfl (fun f a=>(a.put (some 86) (f 20)).put (some 87) (f 21)) ?_,gT rfl (fun f a=>a.put (some 86) (f 20)) ?_,gT rfl (fun f a=>(a.put (some 86) (f 20)).put (some 89) (f 23)) ?_,gT rfl (fun f a=>(a.put (some 86) (f 20)).put (some 90) (f 24)) ?_,gT rfl (fun f a=>(a.put (some 86) (f 20)).put (some 91) (f 25)) ?_,gT rfl (fun f a=>((a.put (some 86) (f 20)).put (some 88) (f 22)).put (some 92) (f 26)) ?_,gT rfl (fun f a=>(a.put (some 86) (f 20)).put (some 93) (f 27)) ?_,gT rfl (fun f a=>(a.put (some 88) (f 22)).put (some 94) (f 28)) ?_,gT rfl (fun f a=>a.put (some 95) (f 29)) ?_,gT rfl (fun f a=>a.put (some 95) (f 29)) ?_,gT rfl (fun f a=>(a.put (some 95) (f 29)).put (some 97) (f 31)) ?_,gT rfl (fun f a=>(a.put (some 95) (f 29)).put (some 98) (f 32)) ?_,gT rfl (fun f a=>(a.put (some 95) (f 29)).put (some 99) (f 33)) ?_,gT rfl (fun f a=>((a.put (some 95) (f 29)).put (some 96) (f 30)).put (some 100) (f 34)) ?_,gT rfl (fun f a=>(a.put (some 95) (f 29)).put (some 101) (f 35)) ?_,gT rfl (fun f a=>(a.put (some 95) (f 29)).put (some 102) (f 36)) ?_,gT rfl (fun f a=>(a.put (some 101) (f 35)).put (some 103) (f 37)) ?_,gT rfl (fun f a=>a.put (some 104) (f 38)) ?_,gT rfl (fun f a=>a.put (some 104) (f 38)) ?_,gT rfl (fun f a=>(a.put (some 104) (f 38)).put (some 106) (f 40)) ?_,gT rfl (fun f a=>(a.put (some 104) (f 38)).put (some 107) (f 41)) ?_,gT rfl (fun f a=>(a.put (some 104) (f 38)).put (some 108) (f 42)) ?_,gT rfl (fun f a=>((a.put (some 104) (f 38)).put (some 105) (f 39)).put (some 109) (f 43)) ?_,gT rfl (fun f a=>(a.put (some 104) (f 38)).put (some 110) (f 44)) ?_,gT rfl (fun f a=>(a.put (some 104) (f 38)).put (some 111) (f 45)) ?_,trivial⟩,?_⟩
    . intro L f x hJ hL hd;have HJ:=af hJ;clear hJ hL hd;refine⟨rfl,?_⟩;go_simp;exact HJ.put 0 _ rfl (by decide) (jZ (by decide))
    . intro L f x hJ hL hd;have HJ:=af hJ;clear hJ hL hd;refine⟨rfl,?_⟩;go_simp;exact HJ.put 1 _ rfl (by decide) (jZ (by decide))
    . intro L f x hJ hL hd;have q1:=hJ.val 1 _ (hd 1 rfl (by decide)) rfl;have HJ:=af hJ;clear hJ hL hd;obtain⟨s0,hs0,se⟩:=HJ.fU;obtain⟨d0,d1,d2,d3,d4,d5,d6,d7,d8,d9,d10,d11,d12⟩:=PX (yT s0 x hs0 se);clear se hs0;rw[q1];clear q1;refine⟨rfl,?_⟩;go_simp;exact HJ.put 2 _ rfl (by decide) (jZ (by decide))
    . intro L f x hJ hL hd;have HJ:=af hJ;clear hJ hL hd;refine⟨rfl,?_⟩;go_simp;exact HJ.put 3 _ rfl (by decide) (jZ (by decide))
    . intro L f x hJ hL hd;have q3:=hJ.val 3 _ (hd 3 rfl (by decide)) rfl;have HJ:=af hJ;clear hJ hL hd;obtain⟨s0,hs0,se⟩:=HJ.fU;obtain⟨d0,d1,d2,d3,d4,d5,d6,d7,d8,d9,d10,d11,d12⟩:=PX (yT s0 x hs0 se);clear se hs0;rw[q3];clear q3;refine⟨rfl,?_⟩;go_simp;exact HJ.put 4 _ rfl (by decide) (jZ (by decide))
    . intro L f x hJ hL hd;have q0:=hJ.val 0 _ (hd 0 rfl (by decide)) rfl;have q2:=hJ.val 2 _ (hd 2 rfl (by decide)) rfl;have q4:=hJ.val 4 _ (hd 4 rfl (by decide)) rfl;have HL:=af hL;have HJ:=af hJ;clear hJ hL hd;have HR:=af (HJ.EX HL);rw[q0,q2,q4];clear q0 q2 q4;refine⟨rfl,?_⟩;go_simp;refine(DV x HR).mono ?_;rintro r x' ⟨rfl,hM⟩;exact⟨_,rfl,HJ.switch (by decide) 0 5 rfl HL (fun k hk=>by omega) rfl hM (jZ (by decide))⟩
    . intro L f x hJ hL hd;have KT:=af (hd 5 rfl (by decide));have q5:=hJ.val 5 _ KT rfl;have HJ:=af hJ;clear hJ hL hd;obtain⟨s0,hs0,se⟩:=HJ.fU;have HR:=af (Yh s0 x hs0 se);clear se hs0;rw[q5];clear q5;refine⟨rfl,?_⟩;go_simp;refine HR.mono ?_;rintro r x' ⟨rfl,hg⟩;exact⟨_,rfl,(HJ.br Ao hg).put 6 _ rfl (by decide) (xC (by decide) KT)⟩
    . intro L f x hJ hL hd;have HJ:=af hJ;clear hJ hL hd;refine⟨rfl,?_⟩;go_simp;exact HJ.put 7 _ rfl (by decide) (jZ (by decide))
    . intro L f x hJ hL hd;have rH:=af (hd 6 rfl (by decide));have q6:=hJ.val 6 _ rH rfl;have q7:=hJ.val 7 _ (hd 7 rfl (by decide)) rfl;have HJ:=af hJ;clear hJ hL hd;rw[q6,q7];clear q6 q7;refine⟨rfl,?_⟩;go_simp;exact HJ.put 8 _ rfl (by decide) (xC (by decide) rH)
    . intro L f x hJ hL hd;have qP:=af (hd 8 rfl (by decide));have q6:=hJ.val 6 _ (hd 6 rfl (by decide)) rfl;have q8:=hJ.val 8 _ qP rfl;have HJ:=af hJ;clear hJ hL hd;rw[q6,q8];clear q6 q8;refine⟨rfl,?_⟩;go_simp;exact HJ.put 9 _ rfl (by decide) (xC (by decide) qP)
    . intro L f x hJ hL hd;have q9:=hJ.val 9 _ (hd 9 rfl (by decide)) rfl;have HJ:=af hJ;clear hJ hL hd;rw[q9];clear q9;refine⟨rfl,?_⟩;go_simp;exact HJ.put 10 _ rfl (by decide) (jZ (by decide))
    . intro L f x hJ hL hd;have q9:=hJ.val 9 _ (hd 9 rfl (by decide)) rfl;have HJ:=af hJ;clear hJ hL hd;rw[q9];clear q9;refine⟨rfl,?_⟩;go_simp;exact HJ.put 11 _ rfl (by decide) (jZ (by decide))
    . intro L f x hJ hL hd;have q9:=hJ.val 9 _ (hd 9 rfl (by decide)) rfl;have LB:=hJ.val 11 _ (hd 11 rfl (by decide)) rfl;have HJ:=af hJ;clear hJ hL hd;obtain⟨s0,hs0,se⟩:=HJ.fU;obtain⟨d0,d1,d2,d3,d4,d5,d6,d7,d8,d9,d10,d11,d12⟩:=PX (yT s0 x hs0 se);clear se hs0;rw[q9,LB];clear q9 LB;refine⟨rfl,?_⟩;go_simp;exact HJ.put 12 _ rfl (by decide) (jZ (by decide))
    . intro L f x hJ hL hd;have q9:=hJ.val 9 _ (hd 9 rfl (by decide)) rfl;have HJ:=af hJ;clear hJ hL hd;rw[q9];clear q9;refine⟨rfl,?_⟩;go_simp;exact HJ.put 13 _ rfl (by decide) (jZ (by decide))
    . intro L f x hJ hL hd;have q9:=hJ.val 9 _ (hd 9 rfl (by decide)) rfl;have Sz:=hJ.val 13 _ (hd 13 rfl (by decide)) rfl;have HJ:=af hJ;clear hJ hL hd;obtain⟨s0,hs0,se⟩:=HJ.fU;obtain⟨d0,d1,d2,d3,d4,d5,d6,d7,d8,d9,d10,d11,d12⟩:=PX (yT s0 x hs0 se);clear se hs0;rw[q9,Sz];clear q9 Sz;refine⟨rfl,?_⟩;go_simp;exact HJ.put 14 _ rfl (by decide) (jZ (by decide))
    . intro L f x hJ hL hd;have SX:=af (hd 9 rfl (by decide));have q9:=hJ.val 9 _ SX rfl;have LA:=hJ.val 10 _ (hd 10 rfl (by decide)) rfl;have vg:=hJ.val 12 _ (hd 12 rfl (by decide)) rfl;have Gw:=hJ.val 14 _ (hd 14 rfl (by decide)) rfl;have HL:=af hL;have HJ:=af hJ;clear hJ hL hd;have HR:=af (HJ.EY (HJ.ord (6,5) (by decide) (HJ.ord (8,6) (by decide) (HJ.ord (9,8) (by decide) SX))) HL);rw[q9,LA,vg,Gw];clear q9 LA vg Gw;refine⟨rfl,?_⟩;go_simp;refine(Cf x HR).mono ?_;rintro r x' ⟨rfl,hM⟩;exact⟨_,rfl,HJ.switch (by decide) 1 15 rfl HL (fun k hk=>⟨5,by obtain rfl:k=0:=(by omega);rfl,(HJ.ord (6,5) (by decide) (HJ.ord (8,6) (by decide) (HJ.ord (9,8) (by decide) SX)))⟩) rfl hM (xC (by decide) SX)⟩
    . intro L f x hJ hL hd;have P7:=af (hd 15 rfl (by decide));have q9:=hJ.val 9 _ (hd 9 rfl (by decide)) rfl;have QV:=hJ.val 15 _ P7 rfl;have HJ:=af hJ;clear hJ hL hd;obtain⟨s0,hs0,se⟩:=HJ.fU;have HR:=af (Yh s0 x hs0 se);clear se hs0;rw[q9,QV];clear q9 QV;refine⟨rfl,?_⟩;go_simp;refine HR.mono ?_;rintro r x' ⟨rfl,hg⟩;exact⟨_,rfl,(HJ.br Ao hg).put 16 _ rfl (by decide) (xC (by decide) P7)⟩
    . intro L f x hJ hL hd;have q9:=hJ.val 9 _ (hd 9 rfl (by decide)) rfl;have HJ:=af hJ;clear hJ hL hd;rw[q9];clear q9;refine⟨rfl,?_⟩;go_simp;exact HJ.put 17 _ rfl (by decide) (jZ (by decide))
    . intro L f x hJ hL hd;have P8:=af (hd 16 rfl (by decide));have q9:=hJ.val 9 _ (hd 9 rfl (by decide)) rfl;have P9:=hJ.val 16 _ P8 rfl;have q17:=hJ.val 17 _ (hd 17 rfl (by decide)) rfl;have HJ:=af hJ;clear hJ hL hd;rw[q9,P9,q17];clear q9 P9 q17;refine⟨rfl,?_⟩;go_simp;exact HJ.put 18 _ rfl (by decide) (xC (by decide) P8)
    . intro L f x hJ hL hd;have Qa:=af (hd 18 rfl (by decide));have q9:=hJ.val 9 _ (hd 9 rfl (by decide)) rfl;have q18:=hJ.val 18 _ Qa rfl;have HJ:=af hJ;clear hJ hL hd;rw[q9,q18];clear q9 q18;refine⟨rfl,?_⟩;go_simp;exact HJ.put 19 _ rfl (by decide) (xC (by decide) Qa)
    . intro L f x hJ hL hd;have Qb:=af (hd 19 rfl (by decide));have P9:=hJ.val 16 _ (hd 16 rfl (by decide)) rfl;have q19:=hJ.val 19 _ Qb rfl;have HJ:=af hJ;clear hJ hL hd;rw[P9,q19];clear P9 q19;refine⟨rfl,?_⟩;go_simp;exact HJ.put 20 _ rfl (by decide) (xC (by decide) Qb)
    . intro L f x hJ hL hd;have oD:=hJ.val 20 _ (hd 20 rfl (by decide)) rfl;have HJ:=af hJ;clear hJ hL hd;rw[oD];clear oD;refine⟨rfl,?_⟩;go_simp;exact HJ.put 21 _ rfl (by decide) (jZ (by decide))
    . intro L f x hJ hL hd;have sf:=af (hd 20 rfl (by decide));have oD:=hJ.val 20 _ sf rfl;have q21:=hJ.val 21 _ (hd 21 rfl (by decide)) rfl;have HJ:=af hJ;clear hJ hL hd;have HR:=af (HJ.j9 (HJ.ord (16,15) (by decide) (HJ.ord (18,16) (by decide) (HJ.ord (19,18) (by decide) (HJ.ord (20,19) (by decide) sf)))));rw[oD,q21];clear oD q21;refine⟨rfl,?_⟩;go_simp;refine(mh x HR).mono ?_;rintro r x' ⟨rfl,hg⟩;exact⟨_,rfl,(HJ.br Ao hg).put 22 _ rfl (by decide) (jZ (by decide))⟩
    . intro L f x hJ hL hd;have oD:=hJ.val 20 _ (hd 20 rfl (by decide)) rfl;have HJ:=af hJ;clear hJ hL hd;rw[oD];clear oD;refine⟨rfl,?_⟩;go_simp;exact HJ.put 23 _ rfl (by decide) (jZ (by decide))
    . intro L f x hJ hL hd;have oD:=hJ.val 20 _ (hd 20 rfl (by decide)) rfl;have q23:=hJ.val 23 _ (hd 23 rfl (by decide)) rfl;have HJ:=af hJ;clear hJ hL hd;rw[oD,q23];clear oD q23;refine⟨rfl,?_⟩;go_simp;exact HJ.put 24 _ rfl (by decide) (jZ (by decide))
    . intro L f x hJ hL hd;have oD:=hJ.val 20 _ (hd 20 rfl (by decide)) rfl;have q24:=hJ.val 24 _ (hd 24 rfl (by decide)) rfl;have HJ:=af hJ;clear hJ hL hd;rw[oD,q24];clear oD q24;refine⟨rfl,?_⟩;go_simp;exact HJ.put 25 _ rfl (by decide) (jZ (by decide))
    . intro L f x hJ hL hd;have sf:=af (hd 20 rfl (by decide));have oD:=hJ.val 20 _ sf rfl;have q25:=hJ.val 25 _ (hd 25 rfl (by decide)) rfl;have HJ:=af hJ;clear hJ hL hd;have HR:=af (HJ.j9 (HJ.ord (16,15) (by decide) (HJ.ord (18,16) (by decide) (HJ.ord (19,18) (by decide) (HJ.ord (20,19) (by decide) sf)))));have c26:=pN x HR;have j0O:=bf c26;rw[oD,q25];clear oD q25;refine⟨rfl,?_⟩;go_simp;exact HJ.put 26 _ rfl (by decide) (jZ (by decide))
    . intro L f x hJ hL hd;have oD:=hJ.val 20 _ (hd 20 rfl (by decide)) rfl;have Qc:=hJ.val 22 _ (hd 22 rfl (by decide)) rfl;have q26:=hJ.val 26 _ (hd 26 rfl (by decide)) rfl;have HJ:=af hJ;clear hJ hL hd;rw[oD,Qc,q26];clear oD Qc q26;refine⟨rfl,?_⟩;go_simp;exact HJ.put 27 _ rfl (by decide) (jZ (by decide))
    . intro L f x hJ hL hd;have sf:=af (hd 20 rfl (by decide));have oD:=hJ.val 20 _ sf rfl;have q27:=hJ.val 27 _ (hd 27 rfl (by decide)) rfl;have HJ:=af hJ;clear hJ hL hd;rw[oD,q27];clear oD q27;refine⟨rfl,?_⟩;go_simp;exact HJ.put 28 _ rfl (by decide) (xC (by decide) sf)
    . intro L f x hJ hL hd;have Qd:=af (hd 28 rfl (by decide));have Qc:=hJ.val 22 _ (hd 22 rfl (by decide)) rfl;have q28:=hJ.val 28 _ Qd rfl;have HJ:=af hJ;clear hJ hL hd;rw[Qc,q28];clear Qc q28;refine⟨rfl,?_⟩;go_simp;exact HJ.put 29 _ rfl (by decide) (xC (by decide) Qd)
    . intro L f x hJ hL hd;have oF:=hJ.val 29 _ (hd 29 rfl (by decide)) rfl;have HJ:=af hJ;clear hJ hL hd;rw[oF];clear oF;refine⟨rfl,?_⟩;go_simp;exact HJ.put 30 _ rfl (by decide) (jZ (by decide))
    . intro L f x hJ hL hd;have oF:=hJ.val 29 _ (hd 29 rfl (by decide)) rfl;have HJ:=af hJ;clear hJ hL hd;rw[oF];clear oF;refine⟨rfl,?_⟩;go_simp;exact HJ.put 31 _ rfl (by decide) (jZ (by decide))
    . intro L f x hJ hL hd;have oF:=hJ.val 29 _ (hd 29 rfl (by decide)) rfl;have q31:=hJ.val 31 _ (hd 31 rfl (by decide)) rfl;have HJ:=af hJ;clear hJ hL hd;rw[oF,q31];clear oF q31;refine⟨rfl,?_⟩;go_simp;exact HJ.put 32 _ rfl (by decide) (jZ (by decide))
    . intro L f x hJ hL hd;have oF:=hJ.val 29 _ (hd 29 rfl (by decide)) rfl;have q32:=hJ.val 32 _ (hd 32 rfl (by decide)) rfl;have HJ:=af hJ;clear hJ hL hd;rw[oF,q32];clear oF q32;refine⟨rfl,?_⟩;go_simp;exact HJ.put 33 _ rfl (by decide) (jZ (by decide))
    . intro L f x hJ hL hd;have sg:=af (hd 29 rfl (by decide));have oF:=hJ.val 29 _ sg rfl;have q33:=hJ.val 33 _ (hd 33 rfl (by decide)) rfl;have HJ:=af hJ;clear hJ hL hd;have HR:=af (HJ.j9 (HJ.ord (16,15) (by decide) (HJ.ord (18,16) (by decide) (HJ.ord (19,18) (by decide) (HJ.ord (20,19) (by decide) (HJ.ord (28,20) (by decide) (HJ.ord (29,28) (by decide) sg)))))));have Yi:=zm x HR;have Yj:=bf Yi;rw[oF,q33];clear oF q33;refine⟨rfl,?_⟩;go_simp;exact HJ.put 34 _ rfl (by decide) (jZ (by decide))
    . intro L f x hJ hL hd;have sg:=af (hd 29 rfl (by decide));have oF:=hJ.val 29 _ sg rfl;have q30:=hJ.val 30 _ (hd 30 rfl (by decide)) rfl;have q34:=hJ.val 34 _ (hd 34 rfl (by decide)) rfl;have HJ:=af hJ;clear hJ hL hd;have HR:=af (HJ.j9 (HJ.ord (16,15) (by decide) (HJ.ord (18,16) (by decide) (HJ.ord (19,18) (by decide) (HJ.ord (20,19) (by decide) (HJ.ord (28,20) (by decide) (HJ.ord (29,28) (by decide) sg)))))));rw[oF,q30,q34];clear oF q30 q34;refine⟨rfl,?_⟩;go_simp;refine(sJ x HR).mono ?_;rintro r x' ⟨rfl,hg⟩;exact⟨_,rfl,(HJ.br Ao hg).put 35 _ rfl (by decide) (jZ (by decide))⟩
    . intro L f x hJ hL hd;have oF:=hJ.val 29 _ (hd 29 rfl (by decide)) rfl;have Qe:=hJ.val 35 _ (hd 35 rfl (by decide)) rfl;have HJ:=af hJ;clear hJ hL hd;rw[oF,Qe];clear oF Qe;refine⟨rfl,?_⟩;go_simp;exact HJ.put 36 _ rfl (by decide) (jZ (by decide))
    . intro L f x hJ hL hd;have sg:=af (hd 29 rfl (by decide));have oF:=hJ.val 29 _ sg rfl;have q36:=hJ.val 36 _ (hd 36 rfl (by decide)) rfl;have HJ:=af hJ;clear hJ hL hd;rw[oF,q36];clear oF q36;refine⟨rfl,?_⟩;go_simp;exact HJ.put 37 _ rfl (by decide) (xC (by decide) sg)
    . intro L f x hJ hL hd;have Qf:=af (hd 37 rfl (by decide));have Qe:=hJ.val 35 _ (hd 35 rfl (by decide)) rfl;have q37:=hJ.val 37 _ Qf rfl;have HJ:=af hJ;clear hJ hL hd;rw[Qe,q37];clear Qe q37;refine⟨rfl,?_⟩;go_simp;exact HJ.put 38 _ rfl (by decide) (xC (by decide) Qf)
    . intro L f x hJ hL hd;have oG:=hJ.val 38 _ (hd 38 rfl (by decide)) rfl;have HJ:=af hJ;clear hJ hL hd;rw[oG];clear oG;refine⟨rfl,?_⟩;go_simp;exact HJ.put 39 _ rfl (by decide) (jZ (by decide))
    . intro L f x hJ hL hd;have oG:=hJ.val 38 _ (hd 38 rfl (by decide)) rfl;have HJ:=af hJ;clear hJ hL hd;rw[oG];clear oG;refine⟨rfl,?_⟩;go_simp;exact HJ.put 40 _ rfl (by decide) (jZ (by decide))
    . intro L f x hJ hL hd;have oG:=hJ.val 38 _ (hd 38 rfl (by decide)) rfl;have q40:=hJ.val 40 _ (hd 40 rfl (by decide)) rfl;have HJ:=af hJ;clear hJ hL hd;rw[oG,q40];clear oG q40;refine⟨rfl,?_⟩;go_simp;exact HJ.put 41 _ rfl (by decide) (jZ (by decide))
    . intro L f x hJ hL hd;have oG:=hJ.val 38 _ (hd 38 rfl (by decide)) rfl;have q41:=hJ.val 41 _ (hd 41 rfl (by decide)) rfl;have HJ:=af hJ;clear hJ hL hd;rw[oG,q41];clear oG q41;refine⟨rfl,?_⟩;go_simp;exact HJ.put 42 _ rfl (by decide) (jZ (by decide))
    . intro L f x hJ hL hd;have BF:=af (hd 38 rfl (by decide));have oG:=hJ.val 38 _ BF rfl;have q42:=hJ.val 42 _ (hd 42 rfl (by decide)) rfl;have HJ:=af hJ;clear hJ hL hd;have HR:=af (HJ.j9 (HJ.ord (16,15) (by decide) (HJ.ord (18,16) (by decide) (HJ.ord (19,18) (by decide) (HJ.ord (20,19) (by decide) (HJ.ord (28,20) (by decide) (HJ.ord (29,28) (by decide) (HJ.ord (37,29) (by decide) (HJ.ord (38,37) (by decide) BF)))))))));have Yi:=zm x HR;have Yj:=bf Yi;rw[oG,q42];clear oG q42;refine⟨rfl,?_⟩;go_simp;exact HJ.put 43 _ rfl (by decide) (jZ (by decide))
    . intro L f x hJ hL hd;have BF:=af (hd 38 rfl (by decide));have oG:=hJ.val 38 _ BF rfl;have q39:=hJ.val 39 _ (hd 39 rfl (by decide)) rfl;have q43:=hJ.val 43 _ (hd 43 rfl (by decide)) rfl;have HJ:=af hJ;clear hJ hL hd;have HR:=af (HJ.j9 (HJ.ord (16,15) (by decide) (HJ.ord (18,16) (by decide) (HJ.ord (19,18) (by decide) (HJ.ord (20,19) (by decide) (HJ.ord (28,20) (by decide) (HJ.ord (29,28) (by decide) (HJ.ord (37,29) (by decide) (HJ.ord (38,37) (by decide) BF)))))))));rw[oG,q39,q43];clear oG q39 q43;refine⟨rfl,?_⟩;go_simp;refine(eR x HR).mono ?_;rintro r x' ⟨rfl,hg⟩;exact⟨_,rfl,(HJ.br Ao hg).put 44 _ rfl (by decide) (jZ (by decide))⟩
    . intro L f x hJ hL hd;have oG:=hJ.val 38 _ (hd 38 rfl (by decide)) rfl;have q44:=hJ.val 44 _ (hd 44 rfl (by decide)) rfl;have HJ:=af hJ;clear hJ hL hd;rw[oG,q44];clear oG q44;refine⟨rfl,?_⟩;go_simp;exact HJ.put 45 _ rfl (by decide) (jZ (by decide))
    . intro L f x hJ hL hd;have oG:=hJ.val 38 _ (hd 38 rfl (by decide)) rfl;have q45:=hJ.val 45 _ (hd 45 rfl (by decide)) rfl;have HJ:=af hJ;clear hJ hL hd;rw[oG,q45];clear oG q45;refine⟨rfl,?_⟩;go_simp;exact HJ.put 46 _ rfl (by decide) (jZ (by decide))
    intro f x hJ;have q46:=hJ.val 46 _ rfl rfl;have Jq:=af (cE x (hJ.all (fun i hi=>by simp at hi;rcases hi with rfl | rfl<;> rfl)));clear hJ;dsimp only[List.drop];simp only[Act.put,xB9,xD9,xC9];rw[q46];clear q46;have j5:=Jq.box HB;have d12:=y9M j5 12;have hbl:=(zZ2.1 j5).1;obtain⟨_,_,_,BD,nb,Qg,hlk⟩:=mA x B cb al Jq;have c1:=Jq.rc1;have kd:=bf c1;have uz:=bf Qg;have qy:=af hlk;clear j5 mA Yh cE mh sJ eR pN zm PZ Ao DV Cf yT hlk;go_wp2_with fail;refine BD.mono ?_;rintro r w7 ⟨rfl,oO⟩;have d12:=(oO.cells.1 _ _ hbl).trans d12;have c1:=(oO.cells.1 _ _ kd).trans c1;have Qg:=(oO.cells.1 _ _ uz).trans Qg;have hbl:=xA9 hbl oO.size;have kd:=xA9 kd oO.size;have uz:=xA9 uz oO.size;have zP:=af oO;clear oO BD;go_upto_region 15 with fail;obtain⟨Z,hZ⟩:∃Z,Z=w7.alloc (.cells #[.int .i64 xv,.int .i64 yv] 50):=⟨_,rfl⟩
    have gZ:ae w7 Z:=(by rw[hZ];exact(ae.rf w7).alloc _);obtain⟨zb,hzb⟩:∃zb,zb=w7.heap.size:=⟨_,rfl⟩
    have z0:Z.cell? ⟨zb,0,none⟩=some (.int .i64 xv):=(by rw[hZ,hzb];simp[go_sem]);have z1:Z.cell? ⟨zb,1,none⟩=some (.int .i64 yv):=(by rw[hZ,hzb];simp[go_sem]);rw[<-hZ,<-hzb];have jd:=af (zP.trans gZ);have CB:=bj ((gZ.cells.1 _ _ hbl).trans d12);have CR:=bj ((gZ.cells.1 _ _ kd).trans c1);have CA:=bj ((gZ.cells.1 _ _ uz).trans Qg);have KL:∀p:Wd (ae Z),(Instr.lookup 56 (.map (some nb)) (.int .i64 Bt) true).run prog p.w=.ok (.tuple #[.agg #[.int .i64 xv,.int .i64 yv],.bool is]) p.w:=fun p=>qy p.w (jd.trans p.ok);have hbZ:=xA9 hbl gZ.size;have PO:=xA9 kd gZ.size;have haZ:=xA9 uz gZ.size;have SY:=bf z0;clear hZ hzb gZ hbl kd uz d12 c1 Qg qy zP;refine kh 16 [13,14] (ae Z) Eq (JV [⟨13,14,[.int .i64 xv,.int .i64 yv]⟩] Z) (fun f a=>a.put (some 16) (f 13)) (JV.aX _ Z _) (fun _ _ _ h=>h.ah) (fun _=>rfl) (fun _ _ _ _ h g=>g▸h) ?_;repeat (first|refine kg ?_|(refine gg ?_;intros;go_big_quiet_op;go_big_quiet_on)|(refine fZ ?_;simp only[Act.put,xB9,xC9,xD9]))
    refine rv ⟨⟨bL rfl (fun _ a=>a) ?_,bL rfl (fun f a=>a.put (some 16) (f 13)) ?_,trivial⟩,?_⟩
    . intro L f u hJ hL hd;clear CB CR CA KL;go_simp;exact hJ.alloc (by rfl) (V:=⟨13,14,[.int .i64 xv,.int .i64 yv]⟩) (by simp) hL [.int .i64 0,.int .i64 0] rfl _
    . intro L f u hJ hL hd;clear CB CR CA KL;obtain⟨m,y0,y1,hm,k0,k1,f0,f1⟩:=hJ.two (V:=⟨13,14,[.int .i64 xv,.int .i64 yv]⟩) (by simp) (hd 13 rfl (by decide)) rfl;dsimp only at hm;rw[hm];go_simp;exact hJ.store (by rfl) (V:=⟨13,14,[.int .i64 xv,.int .i64 yv]⟩) (by simp) (hd 13 rfl (by decide)) hm
    intro f u hJ;obtain⟨mb,q5,n5,l5,GL⟩:=hJ.full (V:=⟨13,14,[.int .i64 xv,.int .i64 yv]⟩) (by simp) rfl;dsimp only at q5;have m0:=(GL 0 _ rfl).1;have m1:=(GL 1 _ rfl).1;have z0:=(hJ.ah.cells.1 _ _ SY).trans z0;have z1:=(hJ.ah.cells.1 _ _ SY).trans z1;have wR:=xA9 SY hJ.ah.size;have dJ:=af (Yf u B cb al (Jq.br (jd.trans hJ.ah)));clear hJ GL n5 CB CR CA KL hbZ PO haZ SY jd Jq;dsimp only[List.drop];simp only[Act.put,xB9,xD9,xC9];rw[q5];clear q5;go_wp2_with fail;go_roundw;case rel=>exact⟨k+1,by omega,by go_num,by unfold Hid;rw[Yg.out];exact dJ⟩
    case measure=>simp[intOf];omega
  . obtain rfl:k=xs.length:=(by omega);rw[zQ1]at HP;obtain⟨D,hP⟩:=HP.out;obtain⟨L,l1,l2,l3,_⟩:=hP.ex;have eK:=hP.ok;have Qh:=l2.iD;have mm:=af (fI.trans hP.ah);have PM:=af (BA.ah hP.ah);have hb2:=yT.2.2;have LV:=af (show wr.cell? ⟨pb,0,none⟩=some (.string lo)/\wr.cell? ⟨pb,1,none⟩=some (.string hi)/\pb<wr.heap.size from⟨(hP.ah.cells.1 _ _ hb2).trans yT.1,(hP.ah.cells.1 _ _ hb2).trans yT.2.1,xA9 hb2 hP.ah.size⟩);clear hb2;clear HP hP HK HWF Lp PY HA;generalize cG xs=A at *;have HT:=af (z1v l3 eK (by omega));have Kz:=af l2;have mL:=af eK;have Ey:=af Qh;clear l1 l2 l3 eK Qh;go_wp2_with fail;refine HT.mono ?_;rintro r w5 ⟨tb,T,rfl,Ak,hT⟩;obtain⟨G,EM,_⟩:=hT.ex;have BG:=hT.all;have g5:=hT.ah;have Yk:=EM.read;have HKEY:=af (show ∀c∈T,Pl.aT c.key=0 from fun c hc=>by
     obtain⟨i,P,S,h1,h2⟩:=(BG.mem c).1 hc;exact(Ey i P S h1).key c h2)
    have Qi:=af (fun X (g:ae w5 X)=>show Calls prog 19 #[.pointer (some ⟨ab,0,none⟩),.agg #[.string lo,.string hi],.int .i64 aI] X fun e w'=>∃v,e=.returned v/\(∃a c,v=.slice a (Pl.sN A lo hi aI).length c/\jN w' a (Pl.sN A lo hi aI))/\ae X w' by
     refine(z4L E (PM.ah (g5.trans g)) (Kz.ah (g5.trans g)) mL (by omega) lo hi aI (by have:=iI.out;omega) (by have:=iI.out;omega) Yb).mono ?_;rintro e w' ⟨hg,a,c,rfl,hr⟩;obtain⟨a',c',e',hp⟩:=lT hr;cases e';exact⟨_,rfl,⟨_,_,rfl,hp⟩,hg⟩)
    have Qj:=af (fun X (g:ae w5 X)=>show Calls prog 20 #[.pointer (some ⟨tb,0,none⟩),.agg #[.string lo,.string hi],.int .i64 aI] X fun e w'=>∃v,e=.returned v/\(∃a c,v=.slice a (Pl.sN A lo hi aI).length c/\jN w' a (Pl.sN A lo hi aI))/\ae X w' by
     refine(z4f (Yk.ah g) (by omega) HKEY BG.ap (fun c hc=>by have:=F5 (HKEY c hc);omega) lo hi aI (by have:=iI.out;omega) (by have:=iI.out;omega)).mono ?_;rintro e w' ⟨⟨v,zs,rfl,hp,hz,hr⟩,hg⟩;rw[<-Pl.z2C mL.out Ey.out BG hp hz lo hi aI]at hr;obtain⟨a',c',rfl,hp⟩:=lT hr;exact⟨_,rfl,⟨_,_,rfl,hp⟩,hg⟩)
    have Im:=af (show(Pl.sN A lo hi aI).length<=200000 by
     have h1:=mL.inv.len;have:=Wp (mL.len (by omega)) lo hi aI A.sh.xs.length (zZ3 _);unfold Pl.gG at this;rw[zQ1]at this;unfold Pl.sN;omega)
    have SZ:=af (fun X (g:ae w5 X)=>z2J E (PM.ah (g5.trans g)) (Kz.ah (g5.trans g)) mL (by omega) key (by have:=iI.out;omega));have xm:=af (fun X (g:ae w5 X)=>Z3 (Yk.ah g) (by omega) key);rw[wJ.get mL.out Ey.out BG key]at xm;have Qk:=af (show w5.cell? ⟨pb,0,none⟩=some (.string lo)/\w5.cell? ⟨pb,1,none⟩=some (.string hi)/\pb<w5.heap.size from⟨(g5.cells.1 _ _ LV.2.2).trans LV.1,(g5.cells.1 _ _ LV.2.2).trans LV.2.1,xA9 LV.2.2 g5.size⟩);have BZ:=af (mm.trans g5);clear hT EM BG g5 Yk HT PM Kz mL Ey LV HKEY mm Ak;generalize Pl.sN A lo hi aI=zs at *;generalize (Pl.iR A key).isSome=is at *;generalize (Pl.iR A key).getD Pr.none=o at *;obtain⟨ok,ov,on⟩:=o;unfold Pr.agg at SZ xm;dsimp only at SZ xm;go_wp2_with fail;refine(SZ w5 (ae.rf _)).mono ?_;rintro r w6 ⟨rfl,tR⟩;have SQ:=af tR;clear tR SZ;go_upto_region 21 with fail;obtain⟨X,hX⟩:∃X,X=w6.alloc (.cells #[.string ok,.string ov,.int .i64 on] 62):=⟨_,rfl⟩
    have gX:ae w6 X:=(by rw[hX];exact(ae.rf w6).alloc _);obtain⟨zb,hzb⟩:∃zb,zb=w6.heap.size:=⟨_,rfl⟩
    have z0:X.cell? ⟨zb,0,none⟩=some (.string ok):=(by rw[hX,hzb];simp[go_sem]);have z1:X.cell? ⟨zb,1,none⟩=some (.string ov):=(by rw[hX,hzb];simp[go_sem]);have z2:X.cell? ⟨zb,2,none⟩=some (.int .i64 on):=(by rw[hX,hzb];simp[go_sem]);rw[<-hX,<-hzb];have ke:=af (SQ.trans gX);have B8:=af (And.intro z0 (And.intro z1 (And.intro z2 (bf z0))));clear hX hzb gX SQ z0 z1 z2;go_wp2_with fail;refine(xm X ke).mono ?_;rintro r w7 ⟨rfl,oO⟩;have zP:=af (ke.trans oO);have GW:=af (show w7.cell? ⟨zb,0,none⟩=some (.string ok)/\w7.cell? ⟨zb,1,none⟩=some (.string ov)/\w7.cell? ⟨zb,2,none⟩=some (.int .i64 on)/\zb<w7.heap.size from⟨(oO.cells.1 _ _ B8.2.2.2).trans B8.1,(oO.cells.1 _ _ B8.2.2.2).trans B8.2.1,(oO.cells.1 _ _ B8.2.2.2).trans B8.2.2.1,xA9 B8.2.2.2 oO.size⟩);clear oO xm ke B8;go_upto_region 22 with fail;obtain⟨Y,hY⟩:∃Y,Y=w7.alloc (.cells #[.string ok,.string ov,.int .i64 on] 62):=⟨_,rfl⟩
    have gY:ae w7 Y:=(by rw[hY];exact(ae.rf w7).alloc _);obtain⟨yb,Ql⟩:∃yb,yb=w7.heap.size:=⟨_,rfl⟩
    have y0:Y.cell? ⟨yb,0,none⟩=some (.string ok):=(by rw[hY,Ql];simp[go_sem]);have y1:Y.cell? ⟨yb,1,none⟩=some (.string ov):=(by rw[hY,Ql];simp[go_sem]);have y2:Y.cell? ⟨yb,2,none⟩=some (.int .i64 on):=(by rw[hY,Ql];simp[go_sem]);rw[<-hY,<-Ql];have dg:=af (zP.trans gY);have nW:=xA9 Qk.2.2 dg.size;have hzY:=xA9 GW.2.2.2 gY.size;have hyY:=bf y0;have D0:=bj ((dg.cells.1 _ _ Qk.2.2).trans Qk.1);have D1:=bj ((dg.cells.1 _ _ Qk.2.2).trans Qk.2.1);have Z0:=bj ((gY.cells.1 _ _ GW.2.2.2).trans GW.1);have Z1:=bj ((gY.cells.1 _ _ GW.2.2.2).trans GW.2.1);have Z2:=bj ((gY.cells.1 _ _ GW.2.2.2).trans GW.2.2.1);have Y0:=bj y0;have Y1:=bj y1;have Y2:=bj y2;clear hY Ql gY y0 y1 y2 zP GW;have j8:=af (RA.mono zs);refine kh 19 [12,16,17,18] (ae Y) ae (JQ (RA zs) Y) (fun f a=>(((a.put (some 168) (f 12)).put (some 172) (f 16)).put (some 173) (f 17)).put (some 174) (f 18)) (JQ.aX ..) (fun _ _ _ h=>h.ah) ae.rf (fun _ _ _ _ h g=>h.br j8 g) ?_;repeat (first|refine kg ?_|(refine gg ?_;intros;go_big_quiet_op;go_big_quiet_on)|(refine fZ ?_;simp only[Act.put,xB9,xC9,xD9]))
    refine jB (by rfl) ⟨⟨bL rfl (fun _ a=>a) ?_,bL rfl (fun f a=>a.put (some 168) (f 12)) ?_,bL rfl (fun f a=>(a.put (some 168) (f 12)).put (some 172) (f 16)) ?_,bL rfl (fun f a=>a.put (some 173) (f 17)) ?_,trivial⟩,?_⟩
    . intro L f u hJ hL hd;have HJ:=af hJ;clear hJ hL hd D0 D1 Z0 Z1 Z2 Y0 Y1 Y2;go_simp;refine(Qi u (dg.trans HJ.ah)).mono ?_;rintro e u' ⟨v,rfl,hp,hg⟩;exact⟨_,rfl,HJ.put j8 12 hg ⟨fun _=>hp,fun e=>absurd e (by decide),fun e=>absurd e (by decide)⟩⟩
    . intro L f u hJ hL hd;have HJ:=af hJ;clear hJ hL hd D0 D1 Z0 Z1 Z2 Y0 Y1 Y2;go_simp;refine(Qj u (dg.trans HJ.ah)).mono ?_;rintro e u' ⟨v,rfl,hp,hg⟩;exact⟨_,rfl,HJ.put j8 16 hg ⟨fun _=>hp,fun e=>absurd e (by decide),fun e=>absurd e (by decide)⟩⟩
    . intro L f u hJ hL hd;obtain⟨a1,c1,e1,p1⟩:=(hJ.at_ 12 (hd 12 rfl (by decide))).1 (.inl rfl);obtain⟨a2,c2,e2,p2⟩:=(hJ.at_ 16 (hd 16 rfl (by decide))).1 (.inr rfl);have Od:=af (y7F u a1 a2 c1 c2 zs p1 p2 (by have:=Im.out;omega));have HJ:=af hJ;clear hJ hL hd D0 D1 Z0 Z1 Z2 Y0 Y1 Y2 p1 p2;rw[e1,e2];clear e1 e2;go_simp;refine Od.mono ?_;rintro e u' ⟨rfl,hg⟩;exact⟨_,rfl,HJ.put j8 17 hg ⟨fun e=>absurd e (by decide),fun _=>rfl,fun e=>absurd e (by decide)⟩⟩
    . intro L f u hJ hL hd;have e17:=(hJ.at_ 17 (hd 17 rfl (by decide))).2.1 rfl;have HJ:=af hJ;clear hJ hL hd D0 D1 Z0 Z1 Z2 Y0 Y1 Y2;rw[e17];clear e17;go_simp;exact HJ.same j8 18 ⟨fun e=>absurd e (by decide),fun e=>absurd e (by decide),fun _=>rfl⟩
    intro f u hJ;have e18:=(hJ.at_ 18 rfl).2.2 rfl;have K6:=af (BZ.trans (dg.trans hJ.ah));clear hJ D0 D1 Z0 Z1 Z2 Y0 Y1 Y2 Qi Qj nW hzY hyY;dsimp only[List.drop];simp only[Act.put,xB9,xD9,xC9];rw[e18];clear e18 j8;go_wp2_with fail;go_ret;exact⟨rfl,K6⟩
end
end Go.Proofs.YtgegogoanbamfaaGreatDoor
