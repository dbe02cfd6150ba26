/- Part 18. -/
import Derived.Test.YtgegogoanbamfaaGreatDoorFinAuditPlaysQ17
set_option linter.unusedVariables false
set_option linter.unusedSectionVars false
set_option linter.unusedSimpArgs false
set_option maxRecDepth 100000
set_option maxHeartbeats 16000000
namespace Go.Proofs.YtgegogoanbamfaaGreatDoor
namespace Pl
end Pl
open Pl Go.Proofs.Tryz Go.RowKit Go.Maps
attribute [local go_sem] Oper.semAt_some
section
attribute [local go_sem] bl
def my (k:Nat):Bool:=lI k || decide (k=18)
theorem Oc {E:Nat->Addr}{w:World}(h:bz my E w):bz lI E w:=h.less fun k hk=>by unfold my;rw[hk];rfl
theorem z2m:pI my:=⟨⟨rfl,rfl,rfl,rfl⟩,rfl,rfl⟩
theorem z5K:iM my:=⟨rfl,rfl,rfl,rfl,rfl,rfl⟩
theorem Ei:mM my:=⟨rfl,rfl,rfl,rfl,rfl⟩
def z3a (w:World)(Ft Fs:Nat->Prop)(st mb m n:Nat)(f:Lit->Option Value)(lo hi key:ByteArray)(P:List Pr)(S:Int->Option An)(ak:Int)(w':World):Prop:=
 ∃ob lK Go Gs,ar (fun j=>j=st\/Ft j\/j=mb) w w'/\bU w' prog 3 mb (m+1) (fB f (bt ak) (some (.pointer (some ⟨ob,0,none⟩))))/\dE w' lK Fs st n lo key (P.take (Pl.bN P key)) S/\dE w' Go Gs ob n key hi (P.drop (Pl.bN P key)) S/\(∀j,lK j->Ft j\/w.heap.size<=j)/\∀j,gq Go Gs ob j->w.heap.size<=j/\¬gq lK Fs st j
def dsC (i:Nat):Option (Value->Value):=match i with | 10=>some id | 11=>some (oh 0) | 12=>some (oh 1) | 13=>some (oh 0) | _=>none
theorem y8w (E:Nat->Addr){w:World}(hE:bz my E w){ab mb m n st:Nat}{f:Lit->Option Value}{Ft Fs:Nat->Prop}{lo hi:ByteArray}{P:List Pr}{S:Int->Option An}(e:En)(k3:e.ax=3)(hs0:0<=e.aj)(hs1:e.aj<1000000)(ho0:0<=e.ak)(eN:e.ak<1000000)
    (c2:w.cell? ⟨ab,2,none⟩=some (.map (some mb))) (hm:bU w prog 3 mb m f) (yV:m<=1000000) (hf:f (bt e.aj)=some (.pointer (some ⟨st,0,none⟩))) (hS:dE w Ft Fs st n lo hi P S) (hb:¬gq Ft Fs st ab/\¬gq Ft Fs st mb/\ab≠mb)
    (hx:P.length<=1000) (hl:lo.size<=300) (hh:hi.size<=300) (np:e.key.size<=300) (hz:Pl.eA (Pl.bD lo hi) (Pl.aT e.key) (Pl.bk lo hi e.key) lo e.key=0):
    Calls prog 33 #[.pointer (some ⟨ab,0,none⟩),e.agg] w fun r w'=>r=.returned .nilIface/\z3a w Ft Fs st mb m n f lo hi e.key P S e.ak w':=by
 have hab:=bf c2;have vW:=hm.lt;have Od:=af (fun X (g:ae w X)=>z4s my E z2m (hE.ah g) (hS.ah g) e.key hx hl hh np);rw[hz]at Od;have HM:=af hm;have HST:=af hS;have HB:=af hb;have HF:=af hf;clear hE hS hf hz hm hb;obtain⟨ax,aj,ak,aq,aw,seq,key,aM,aL,aA,ops,aN,aS,aF,aB,aG⟩:=e;unfold En.agg En.vals;dsimp only at *;subst k3;go_in;go_upto_region 3 with fail;obtain⟨Y,hY⟩:∃Y,Y=w.alloc (.cells #[.int .i64 3,.int .i64 aj,.int .i64 ak,.int .i64 aq,.int .i64 aw,.int .i64 seq,.slice aN ops.length aS,.string key,.int .i64 aM,.int .i64 aL,.int .i64 aA,.slice aF aB aG] 36):=⟨_,rfl⟩
 have gY:ae w Y:=by rw[hY];exact(ae.rf w).alloc _
 obtain⟨xb,eE⟩:∃xb,xb=w.heap.size:=⟨_,rfl⟩
 have x1:Y.cell? ⟨xb,1,none⟩=some (.int .i64 aj):=by rw[hY,eE];simp[go_sem]
 have x2:Y.cell? ⟨xb,2,none⟩=some (.int .i64 ak):=by rw[hY,eE];simp[go_sem]
 have x7:Y.cell? ⟨xb,7,none⟩=some (.string key):=by rw[hY,eE];simp[go_sem]
 have ir:xb<Y.heap.size:=bf x1;have az:=HST.all;have Al:=af (show w.heap.size<=xb by omega);rw[<-hY,<-eE];clear hY eE;have qA:¬(ab=st\/Ft ab):=fun h=>HB.1 (by rcases h with h | h;exact .inr (.inr h);exact .inl h);have ue:¬(mb=st\/Ft mb):=fun h=>HB.2.1 (by rcases h with h | h;exact .inr (.inr h);exact .inl h);have uf:¬(xb=st\/Ft xb):=fun h=>by
  have:=Al.out;rcases h with h | h
  . have:=az xb (.inr (.inr h));omega
  . have:=az xb (.inl h);omega
 have X1:=bu (S:=fun j=>j=st\/Ft j) x1 uf;have X7:=bu (S:=fun j=>j=st\/Ft j) x7 uf;have A2:=bu (S:=fun j=>j=st\/Ft j) ((gY.cells.1 _ 2 hab).trans c2) qA;have hlk:∀p:Wd (ar (fun j=>j=st\/Ft j) Y),(Instr.lookup 73 (.map (some mb)) (.int .i64 aj) false).run prog p.w=.ok (.pointer (some ⟨st,0,none⟩)) p.w:=fun p=>by
  have q:=((HM.ah gY).aC p.ok ue).lookup ng underlying73 (R8 p.w) (keyOf_int_mk underlying3 (qH (c:=aj) (by omega) (by omega)));rw[show(Lit.int .i64 aj)=bt aj from rfl,HF.out]at q;exact q
 have dg:=af gY;have Jq:=af x2;have lS:=af (show JE 9 (ae Y) (fun v u=>∃ob,v=.tuple #[.pointer (some ⟨ob,0,none⟩),.nilIface]/\∃Y',ae Y Y'/\RX Y' Ft Fs st n lo key key hi (P.take (Pl.bN P key)) (P.drop (Pl.bN P key)) S ob u) dsC (fun _=>false) (fun _=>undef) Y.drew from JE.aX (ae.rf Y).drew _);clear gY x1 x2 x7;refine kh 14 [9,10,11,12,13] (ar (fun j=>j=st\/Ft j) Y) Eq (JE 9 (ae Y) (fun v u=>∃ob,v=.tuple #[.pointer (some ⟨ob,0,none⟩),.nilIface]/\∃Y',ae Y Y'/\RX Y' Ft Fs st n lo key key hi (P.take (Pl.bN P key)) (P.drop (Pl.bN P key)) S ob u) dsC) (fun f a=>((((a.put (some 22) (f 9)).put (some 12) (f 10)).put (some 23) (f 11)).put (some 24) (f 12)).put (some 5) (f 13)) lS (fun L _ _ h=>?_) (fun _=>rfl) (fun _ _ _ _ h g=>g▸h) ?_
 . cases hL:L 9 with
   | false=>exact(h.pre hL).only _
   | true=>
    obtain⟨ob,_,Y',g,hO,_⟩:=h.post hL;exact(g.only _).then hO
 repeat (first|refine kg ?_|(refine gg ?_;intros;go_big_quiet_op;go_big_quiet_on)|(refine fZ ?_;simp only[Act.put,xB9,xC9,xD9]))
 refine jB (by rfl) ⟨⟨bL rfl (fun _ a=>a) ?_,bL rfl (fun f a=>a.put (some 22) (f 9)) ?_,bL rfl (fun f a=>a.put (some 12) (f 10)) ?_,bL rfl (fun f a=>a.put (some 12) (f 10)) ?_,bL rfl (fun f a=>((a.put (some 22) (f 9)).put (some 12) (f 10)).put (some 23) (f 11)) ?_,trivial⟩,?_⟩
 . intro L f u hJ hL hd;have HJ:=af hJ;have HL:=af hL;clear hJ hL hd X1 X7 A2 hlk;go_simp;have hg:=HJ.pre HL;refine(Od u (dg.trans hg)).mono ?_;rintro r u' (⟨hc,_⟩ | ⟨_,ob,rfl,wC⟩)
   . exact absurd rfl hc
   . exact⟨_,rfl,HJ.call HL rfl ⟨ob,rfl,u,hg,wC⟩⟩
 . intro L f u hJ hL hd;have HC:=af (hd 9 rfl (by decide));have HJ:=af hJ;clear hJ hL hd X1 X7 A2 hlk;go_simp;exact HJ.put 10 HC (by decide) (fun g hg=>by cases hg;rfl)
 . intro L f u hJ hL hd;have h10:=hd 10 rfl (by decide);have HC:=af (hJ.ord 10 _ rfl h10);have HJ:=af hJ;obtain⟨ob,e9,_⟩:=hJ.post HC;have oV:=hJ.val 10 _ rfl h10;rw[e9]at oV;have Wh:=af e9;clear hJ hL hd h10 X1 X7 A2 hlk e9;rw[oV];clear oV;dsimp only[id];go_simp;exact HJ.put 11 HC (by decide) (fun g hg=>by cases hg;rw[Wh.out];rfl)
 . intro L f u hJ hL hd;have h10:=hd 10 rfl (by decide);have HC:=af (hJ.ord 10 _ rfl h10);have HJ:=af hJ;obtain⟨ob,e9,_⟩:=hJ.post HC;have oV:=hJ.val 10 _ rfl h10;rw[e9]at oV;have Wh:=af e9;clear hJ hL hd h10 X1 X7 A2 hlk e9;rw[oV];clear oV;dsimp only[id];go_simp;exact HJ.put 12 HC (by decide) (fun g hg=>by cases hg;rw[Wh.out];rfl)
 . intro L f u hJ hL hd;have h11:=hd 11 rfl (by decide);have HC:=af (hJ.ord 11 _ rfl h11);have HJ:=af hJ;have HV:=af (hJ.val 11 _ rfl h11);clear hJ hL hd h11 X1 X7 A2 hlk;go_simp;exact HJ.put 13 HC (by decide) (fun g hg=>by cases hg;exact HV)
 intro f9 u hJ;obtain⟨ob,e9,Y',oo,iJ,lK,Go,Gs,hS1,j4,iu,dS⟩:=hJ.post rfl;have oV:=hJ.val 10 _ rfl rfl;have e11:=hJ.val 11 _ rfl rfl;have kp:=hJ.val 12 _ rfl rfl;have kB:=hJ.val 13 _ rfl rfl;rw[e9]at oV e11 kp kB;dsimp only[id]at oV;have Am:f9 11=.pointer (some ⟨ob,0,none⟩):=e11;have Oe:f9 12=.nilIface:=kp;have Og:f9 13=.pointer (some ⟨ob,0,none⟩):=kB;have Ii:=dg.size;have j0w:=oo.size;have kL:ar (fun j=>j=st\/Ft j) Y u:=(oo.only _).then iJ;have d2:=(kL.cell (xA9 hab Ii) qA 2).trans ((dg.cells.1 _ 2 hab).trans c2);have y2:=(kL.cell ir uf 2).trans Jq;have vP:=af (show ar (fun j=>j=st\/Ft j) w u from(dg.only _).then kL);have Jr:=af ((HM.ah dg).aC kL ue);have sJ:=af (show dE u lK Fs st n lo key (P.take (Pl.bN P key)) S/\dE u Go Gs ob n key hi (P.drop (Pl.bN P key)) S/\(∀j,lK j->Ft j\/w.heap.size<=j)/\∀j,gq Go Gs ob j->w.heap.size<=j/\¬gq lK Fs st j from⟨hS1,j4,fun j hj=>(iu j hj).imp id fun q=>by omega,fun j hj=>⟨by have:=(dS j hj).1;omega,(dS j hj).2⟩⟩);have Eg:=bf d2;have Wi:=bf y2;clear hJ iJ hS1 j4 iu dS e11 kp kB qA uf Od X1 X7 A2 hlk kL oo lS e9;dsimp only[List.drop];simp only[Act.put,xB9,xD9,xC9];rw[oV,Am,Oe,Og];clear oV Am Oe Og;go_upto_region 5 with fail;have D2:=bj d2;have Y2:=bj y2;refine pO 7 ?_;repeat (first|(refine gg ?_;intros;go_big_quiet_op;go_big_quiet_on)|(refine fZ ?_;simp only[Act.put,xB9,xC9,xD9]))
 refine jB (by rfl) ?_;intro v Eh;have Sa:=af Eh;obtain⟨w2,hrun,r1,r2⟩:=(Jr.ah Eh).store (val:=.pointer (some ⟨ob,0,none⟩)) ng underlying73 (by unfold maxLen;omega) (keyOf_int_mk underlying3 (qH (c:=ak) (by omega) (by omega)));have eH:=af hrun;have HR:=af (And.intro r1 r2);clear D2 Y2 d2 y2 Eh hrun r1 r2;dsimp only[List.drop];go_wp2_with (at_mapUpdate;refine H3 rfl _ _ _ rfl rfl rfl rfl eH.out ?_);go_wp2_with fail;go_ret;have gN:ar (fun j=>j=mb) u w2:=(Sa.only _).then (ar.eh HR.2);obtain⟨hS1,j4,iu,dS⟩:=sJ.out;have Js:∀j,gq lK Fs st j->¬j=mb:=fun j hj e=>by
  subst e;rcases hj with a | a | a
  . rcases iu _ a with b | b
    . exact HB.2.1 (.inl b)
    . omega
  . exact HB.2.1 (.inr (.inl a))
  . exact HB.2.1 (.inr (.inr a))
 have Jt:∀j,gq Go Gs ob j->¬j=mb:=fun j hj e=>by have:=(dS j hj).1;omega
 refine⟨rfl,ob,lK,Go,Gs,(vP.mono fun j hj=> .inl (by rcases hj with a | a;exact .inl a;exact .inr (.inl a))).then (gN.mono fun j hj=> .inl (.inr (.inr hj))),HR.1,hS1.aC gN (fun j hj=>Js j (.inl hj)) (fun j hj=>Js j (.inr (.inl hj))) (Js _ (.inr (.inr rfl))),j4.aC gN (fun j hj=>Jt j (.inl hj)) (fun j hj=>Jt j (.inr (.inl hj))) (Jt _ (.inr (.inr rfl))),iu,dS⟩
def z2U (w:World)(Ft Fs:Nat->Prop)(st mb m n:Nat)(f:Lit->Option Value)(v:ByteArray×ByteArray)(R:List Pr)(S:Int->Option An)(ak:Int)(w':World):Prop:=
 ∃lK n',n'<=n+4/\ar (fun j=>gq Ft Fs st j\/j=mb) w w'/\bU w' prog 3 mb m (fB f (bt ak) none)/\dE w' lK Fs st n' v.1 v.2 R S/\∀j,lK j->Ft j\/w.heap.size<=j
theorem y6X {P:Program}{k e t:TypeId}{b n:Nat}{f:Lit->Option Value}{w:World}{ops:Array Oper}{rest:List Oper}{o:Oper}{a:Act}{Q:Exit->Act->World->Prop}(hg:o.guard=none)(m x:Operand)(hop:o.op=Op.call {callee:=Callee.builtin Builtin.delete,args:=#[m,x],argTypes:=#[t,k]}) (K:Keyed P k) (ht:P.underlying t=some (.map k e))
    (hm:a.eval m=.map (some b)) (h:bU w P k b n f) (key:Value) (l:Lit) (hx:a.eval x=key) (bX:keyOf P k key=some l)
    (hK:∀w',bU w' P k b n (fB f l none)->ar (fun j=>j=b) w w'->wpList P ops Q rest (a.put o.dst (.tuple #[])) w'):wpList P ops Q (o::rest) a w:=by
 refine wpList_plain hg fun K' hK'=>?_;obtain⟨w',hrun,r1,r2⟩:=h.drop K ht bX o.type;unfold Oper.wp;simp[execOp,hop,resolve,invoke,builtin,hm,hx,hrun,Result.andThen];exact hK' _ _ (hK w' r1 (ar.eh r2))
theorem y8S (E:Nat->Addr){w:World}(hE:bz my E w){ab mb m n st su n2:Nat}{f:Lit->Option Value}{Ft Fs Gt Gs:Nat->Prop}{lo hi gM hi':ByteArray}{P Q R:List Pr}{S T:Int->Option An}(e:En)(k4:e.ax=4)(hs0:0<=e.aj)(hs1:e.aj<1000000)(ho0:0<=e.ak)(eN:e.ak<1000000)
    (c2:w.cell? ⟨ab,2,none⟩=some (.map (some mb))) (hm:bU w prog 3 mb m f) (hf:f (bt e.aj)=some (.pointer (some ⟨st,0,none⟩))) (hf2:f (bt e.ak)=some (.pointer (some ⟨su,0,none⟩))) (hS:dE w Ft Fs st n lo hi P S) (j4:dE w Gt Gs su n2 gM hi' Q T) (hd:∀j,gq Gt Gs su j->¬gq Ft Fs st j) (hb:¬gq Ft Fs st ab/\¬gq Ft Fs st mb)
    (hR:Pl.dK R/\R.Perm (P++Q)) (hx:P.length<=1000) (hy:Q.length<=1000) (hn:n<=100000) (iU:n2<=100000) (hl:lo.size<=300) (hh:hi.size<=300) (hl':gM.size<=300) (hh':hi'.size<=300) (hz:Pl.bg (Pl.bD lo hi) (Pl.bD gM hi') lo hi gM hi'=0):
    Calls prog 33 #[.pointer (some ⟨ab,0,none⟩),e.agg] w fun r w'=>r=.returned .nilIface/\z2U w Ft Fs st mb m n f (Pl.aW (Pl.bD lo hi) (Pl.bD gM hi') lo hi gM hi') R (dC S (iB T)) e.ak w':=by
 have hab:=bf c2;have vW:=hm.lt;have Ao:=af (fun X (g:ae w X)=>z3A my E z2m rfl (hE.ah g) (hS.ah g) (j4.ah g) hd (fun _=>hR) hx hy hn iU hl hh hl' hh');rw[hz]at Ao;generalize Pl.aW (Pl.bD lo hi) (Pl.bD gM hi') lo hi gM hi'=vv at *;generalize dC S (iB T)=SS at *;have HM:=af hm;have HST:=af hS;have HB:=af hb;have HF:=af (And.intro hf hf2);clear hE hS j4 hf hf2 hz hm hb hd hR;obtain⟨ax,aj,ak,aq,aw,seq,key,aM,aL,aA,ops,aN,aS,aF,aB,aG⟩:=e;unfold En.agg En.vals;dsimp only at *;subst k4;go_in;go_upto_region 8 with fail;obtain⟨Y,hY⟩:∃Y,Y=w.alloc (.cells #[.int .i64 4,.int .i64 aj,.int .i64 ak,.int .i64 aq,.int .i64 aw,.int .i64 seq,.slice aN ops.length aS,.string key,.int .i64 aM,.int .i64 aL,.int .i64 aA,.slice aF aB aG] 36):=⟨_,rfl⟩
 have gY:ae w Y:=by rw[hY];exact(ae.rf w).alloc _
 obtain⟨xb,eE⟩:∃xb,xb=w.heap.size:=⟨_,rfl⟩
 have x1:Y.cell? ⟨xb,1,none⟩=some (.int .i64 aj):=by rw[hY,eE];simp[go_sem]
 have x2:Y.cell? ⟨xb,2,none⟩=some (.int .i64 ak):=by rw[hY,eE];simp[go_sem]
 have az:=HST.all;have Al:=af (show w.heap.size<=xb by omega);rw[<-hY,<-eE];clear hY eE;have X1:=bj x1;have X2:=bj x2;have A2:=bj ((gY.cells.1 _ 2 hab).trans c2);have hlk:∀p:Wd (ae Y),(Instr.lookup 73 (.map (some mb)) (.int .i64 aj) false).run prog p.w=.ok (.pointer (some ⟨st,0,none⟩)) p.w:=fun p=>by
  have q:=((HM.ah gY).ah p.ok).lookup ng underlying73 (R8 p.w) (keyOf_int_mk underlying3 (qH (c:=aj) (by omega) (by omega)));rw[show(Lit.int .i64 aj)=bt aj from rfl,HF.out.1]at q;exact q
 have Wj:∀p:Wd (ae Y),(Instr.lookup 73 (.map (some mb)) (.int .i64 ak) false).run prog p.w=.ok (.pointer (some ⟨su,0,none⟩)) p.w:=fun p=>by
  have q:=((HM.ah gY).ah p.ok).lookup ng underlying73 (R8 p.w) (keyOf_int_mk underlying3 (qH (c:=ak) (by omega) (by omega)));rw[show(Lit.int .i64 ak)=bt ak from rfl,HF.out.2]at q;exact q
 have dg:=af gY;have ir:=bf x2;clear gY x1;refine pO 14 ?_;repeat (first|(refine gg ?_;intros;go_big_quiet_op;go_big_quiet_on)|(refine fZ ?_;simp only[Act.put,xB9,xC9,xD9]))
 refine jB (by rfl) ?_;intro u iH;have HU:=af (dg.trans iH);have x2:=(iH.cells.1 _ 2 ir).trans x2;have wB:=xA9 ir iH.size;have ud:=xA9 hab HU.size;clear iH X1 X2 A2 hlk Wj;dsimp only[List.drop];go_wp2_with fail;refine(Ao u HU).mono ?_;rintro r w1 (⟨hc,_⟩ | ⟨_,rfl,iJ,lK,n',nk,hS1,iu⟩)
 . exact absurd rfl hc
 have qA:¬gq Ft Fs st ab:=HB.1;have ue:¬gq Ft Fs st mb:=HB.2;have uf:¬gq Ft Fs st xb:=fun h=>by have:=Al.out;have:=az xb h;omega
 have d2:=(iJ.cell ud qA 2).trans ((HU.cells.1 _ 2 hab).trans c2);have y2:=(iJ.cell wB uf 2).trans x2;have vP:=af (show ar (fun j=>gq Ft Fs st j) w w1 from(HU.only _).then iJ);have Jr:=af ((HM.ah HU).aC iJ ue);have sJ:=af (And.intro nk (And.intro hS1 (fun j hj=>(iu j hj).imp id fun q=>(show w.heap.size<=j by have:=HU.size;omega))));have Eg:=bf d2;have Wi:=bf y2;have D2:=bj d2;have Y2:=bj y2;clear iJ hS1 iu nk x2 wB ud c2 qA uf Ao d2 y2;go_upto_region 9 with fail;refine pO 6 ?_;repeat (first|(refine gg ?_;intros;go_big_quiet_op;go_big_quiet_on)|(refine fZ ?_;simp only[Act.put,xB9,xC9,xD9]))
 refine jB (by rfl) ?_;intro v Eh;have Sa:=af Eh;clear D2 Y2 Eh;dsimp only[List.drop];go_wp2_with (at_delete;refine y6X rfl _ _ rfl ng underlying73 rfl (Jr.out.ah Sa.out) _ _ rfl (keyOf_int_mk underlying3 (qH (c:=ak) (by omega) (by omega))) ?_);intro w2 hl2 gN;have Ng:=af (And.intro hl2 gN);clear hl2 gN;go_wp2_with fail;go_ret;obtain⟨nk,hS1,iu⟩:=sJ.out;have gN:ar (fun j=>j=mb) w1 w2:=(Sa.only _).then Ng.2;refine⟨rfl,lK,n',nk,(vP.mono fun j hj=> .inl (.inl hj)).then (gN.mono fun j hj=> .inl (.inr hj)),Ng.1,hS1.aC gN (fun j hj t=>?_) (fun j hj t=>?_) (fun t=>?_),iu⟩
 . subst t;rcases iu j hj with a | a
   . exact ue (.inl a)
   . omega
 . subst t;exact ue (.inr (.inl hj))
 . exact ue (.inr (.inr t.symm))
theorem z0Z {w:World}(ab:Nat)(e:En)(k2:e.ax=2):
    Calls prog 33 #[.pointer (some ⟨ab,0,none⟩),e.agg] w fun r w'=>r=.returned .nilIface/\ae w w':=by
 obtain⟨ax,aj,ak,aq,aw,seq,key,aM,aL,aA,ops,aN,aS,aF,aB,aG⟩:=e;unfold En.agg En.vals;dsimp only at *;subst k2;go_in;go_wp2_with fail;go_ret;exact⟨rfl,(ae.rf w).alloc _⟩
end
section
section
variable {W W':World}{L L':Nat->Nat}{k ab sb mb nb n n':Nat}{f:Lit->Option Value}{st:Nat->Nat}{A:bC}
theorem dF.fW (h:dF W L k ab sb mb nb n f st A){T:Nat->Prop}(hO:ar T W W')(hT:∀j,j<W.heap.size->T j->L j≠k/\L j≠k+2)(hn:n<=n')(hL:∀j,j<W.heap.size->L' j=L j){s':dR}{f':Lit->Option Value}{Gm:Nat->Nat}{D:Nat->Option (List Pr×(Int->Option An))}
    (qT:∃F,gm W' F sb s'/\∀j,F j->L' j=k+3) (ni:∃m,m<=n'/\bU W' prog 3 mb m f')
    (hval:∀i:Nat,f' (bt i)=(D i).map fun _=> .pointer (some ⟨Gm i,0,none⟩)) (Ju:∀l,f' l≠none->∃i:Nat,l=bt i)
    (hst:∀i P S,D i=some (P,S)->i<=12/\∃c∈s'.xs,c.id=(i:Int)/\∃Ft Fs m,m<=n'/\dE W' Ft Fs (Gm i) m c.lo c.hi P S/\∀j,gq Ft Fs (Gm i) j->L' j=k+20+i):dF W' L' k ab sb mb nb n' f' Gm ⟨A.at_,s',D,A.gC⟩:=by
 have hab:=h.wu;obtain⟨m1,e1,h1⟩:=h.lm;obtain⟨m2,e2,h2⟩:=h.la;have tab:¬T ab:=fun t=>(hT ab hab t).1 h.iy;have tnb:¬T nb:=fun t=>(hT nb h2.lt t).2 h.kP;exact⟨(hO.cell hab tab 0).trans h.c0,(hO.cell hab tab 1).trans h.c1,(hO.cell hab tab 2).trans h.c2,(hO.cell hab tab 3).trans h.c3,fun q=>(hO.frozen hab tab q).trans (h.fz q),(hL ab hab).trans h.iy,(hL mb h1.lt).trans h.pC,(hL nb h2.lt).trans h.kP,qT,ni,hval,Ju,⟨m2,by omega,h2.aC hO tnb⟩,hst⟩
theorem dF.ak (h:dF W L k ab sb mb nb n f st A){T:Nat->Prop}(hO:ar T W W')(hL:∀j,j<W.heap.size->L' j=L j){q:Nat}(hT:∀j,j<W.heap.size->T j->L j≠k+20+q)(hn:n<=n'){P:List Pr}{S:Int->Option An}(hq:A.st q=some (P,S)):
    q<=12/\∃c∈A.sh.xs,c.id=(q:Int)/\∃Ft Fs m,m<=n'/\dE W' Ft Fs (st q) m c.lo c.hi P S/\∀j,gq Ft Fs (st q) j->L' j=k+20+q:=by
 obtain⟨i12,c,hc,bY,Ft,Fs,m,hm,hS,hB⟩:=h.bE q P S hq;have ha:=hS.all;have nk:∀j,gq Ft Fs (st q) j->¬T j:=fun j hj t=>hT j (ha j hj) t (hB j hj);exact⟨i12,c,hc,bY,Ft,Fs,m,by omega,hS.aC hO (fun x hx=>nk x (.inl hx)) (fun x hx=>nk x (.inr (.inl hx))) (nk _ (.inr (.inr rfl))),fun x hx=>(hL x (ha x hx)).trans (hB x hx)⟩
theorem dF.moved (h:dF W L k ab sb mb nb n f st A){F F':Nat->Prop}(hF:∀j,F j->L j=k+3)(hO:ar F W W'){e:En}{at':Int}(k2:e.ax=2){i:Nat}(hi:i<A.sh.xs.length)(gL:Pl.j7 A.sh.xs e=i)(hS:gm W' F' sb (Pl.bp A.sh e at'))(hF':∀j,F' j->F j\/W.heap.size<=j)(hL:∀j,j<W.heap.size->L' j=L j)(hN:∀j,W.heap.size<=j->L' j=k+3)(az:∀j,F j->j<W.heap.size):
    dF W' L' k ab sb mb nb n f st ⟨A.at_,Pl.bp A.sh e at',A.st,A.gC⟩:=by
 obtain⟨m1,e1,h1⟩:=h.lm;refine h.fW hO (fun j _ t=>by rw[hF j t];omega) (zZ3 _) hL ⟨F',hS,fun j hj=>?_⟩ ⟨m1,e1,h1.aC hO fun t=>by have:=hF mb t;have:=h.pC;omega⟩ h.val h.lit fun q P S hq=>?_
 . rcases hF' j hj with t | t
   . rw[hL j (az j t),hF j t]
   . exact hN j t
 . obtain⟨i12,c,hc,bY,rest⟩:=h.ak hO hL (q:=q) (fun j _ t=>by rw[hF j t];omega) (zZ3 _) hq;obtain⟨kk,jC,rfl⟩:=Cg hc;have ex:(Pl.bp A.sh e at').xs=A.sh.xs.set i ⟨(ai A.sh.xs i).id,e.aq,(ai A.sh.xs i).cJ,(ai A.sh.xs i).lo,(ai A.sh.xs i).hi⟩:=by
    unfold Pl.bp;rw[zZ1 k2,gL]
   refine⟨i12,ai (Pl.bp A.sh e at').xs kk,?_,?_,?_⟩
   . rw[ex];exact Pl.lL (by rw[zX8];exact jC)
   . rw[ex,Pl.tU _ _ hi];by_cases e2:kk=i
     . rw[zZ1 e2,<-bY,e2]
     . rw[zZ0 e2];exact bY
   . rw[ex,Pl.tU _ _ hi];by_cases e2:kk=i
     . rw[zZ1 e2];subst e2;exact rest
     . rw[zZ0 e2];exact rest
end
open Classical in
theorem dF.split {W V W':World}{L:Nat->Nat}{k ab sb mb nb n:Nat}{f:Lit->Option Value}{st:Nat->Nat}{A:bC}{m0:Nat}(h:dF W L k ab sb mb nb n f st A)(bF:bV A m0){F F':Nat->Prop}(hF:∀j,F j->L j=k+3)(az:∀j,F j->j<W.heap.size)(hO:ar F W V){e:En}{at':Int}(ha:gp A.sh.xs A.sh.aD e at'=true)(k3:e.ax=3)
    (hS:gm V F' sb (Pl.bp A.sh e at')) (hF':∀j,F' j->F j\/W.heap.size<=j) {P:List Pr} {S:Int->Option An} (hst:A.st e.aj.toNat=some (P,S)) {c:Sh} (hc:c∈A.sh.xs) (bY:c.id=(e.aj.toNat:Int)) {Ft Fs:Nat->Prop} {m n1:Nat} (hm:m<=n) (jz:n1<=n) (hB:∀j,gq Ft Fs (st e.aj.toNat) j->L j=k+20+e.aj.toNat) (hBlt:∀j,gq Ft Fs (st e.aj.toNat) j->j<W.heap.size)
    (hC:z3a V Ft Fs (st e.aj.toNat) mb m n1 f c.lo c.hi e.key P S e.ak W'):
    ar (fun j=>cr k (L j)) W W'/\∃L',(∀j,j<W.heap.size->L' j=L j)/\(∀j,W.heap.size<=j->cr k (L' j))/\dh W' L' k ab (n+1) ⟨A.at_,Pl.bp A.sh e at',Pl.kD A e,A.gC⟩:=by
 have hcb:Pl.jG A.sh.xs A.sh.aD e=true:=by unfold gp at ha;simp only[zZ7]at ha;exact ha.1.1
 obtain⟨hr,i,hi,hf,gL,cH,hk⟩:=qx hcb;obtain⟨hu,o1,o2,hh,hne⟩:A.sh.aD e.ak.toNat=false/\1<=e.ak/\e.ak<=12/\Pl.bk (ai A.sh.xs i).lo (ai A.sh.xs i).hi e.key=true/\e.key.toList≠(ai A.sh.xs i).lo.toList:=by
  rcases hk with k2 | ⟨_,q⟩ | ⟨k4,_⟩
  . omega
  . exact q
  . omega
 have kq:=Pl.lL hi;have wz:=bF.inv.ids _ kq;have lg:c=ai A.sh.xs i:=by
  rw[<-kE bF hc bY,kE bF kq (i:=e.aj.toNat) (by omega)]
 have fG:A.st e.ak.toNat=none:=by
  cases hx:A.st e.ak.toNat with
  | none=>rfl
  | some v=>
   obtain⟨x,hx1,af⟩:=bF.back e.ak.toNat (by rw[hx];simp);have:=(bF.inv.ids x hx1).2.2;rw[af,zQ3,hu]at this;cases this
 have pE:e.aj.toNat≠e.ak.toNat:=fun e1=>by rw[e1,fG]at hst;cases hst
 have es:Pl.kD A e=fF (fF A.st e.aj.toNat (some (P.take (Pl.bN P e.key),S))) e.ak.toNat (some (P.drop (Pl.bN P e.key),S)):=by
  unfold Pl.kD;rw[zZ1 k3,hst]
 have ex:(Pl.bp A.sh e at').xs=Pl.kz A.sh.xs i e.key e.ak e.aq at':=by
  unfold Pl.bp;rw[zZ0 (by omega),zZ1 k3,gL]
 obtain⟨ob,lK,Go,Gs,gN,Oh,hS1,j4,Jv,dS⟩:=hC;obtain⟨q,hq⟩:∃q,q=e.aj.toNat:=⟨_,rfl⟩
 obtain⟨o,ho⟩:∃o,o=e.ak.toNat:=⟨_,rfl⟩
 have hoi:e.ak=(o:Int):=by omega
 rw[<-hq]at hst bY hB hBlt gN hS1 dS pE es;rw[<-ho]at fG pE es;rw[hoi]at Oh;have Oi:=hO.size;have hVW:=gN.size;have ni:=h.pC;have Ej:mb<W.heap.size:=by obtain⟨_,_,x⟩:=h.lm;exact x.lt
 obtain⟨T,hT⟩:∃T:Nat->Prop,T=fun j=>F j\/gq Ft Fs (st q) j\/j=mb:=⟨_,rfl⟩
 have ug:ar T W W':=by
  rw[hT];refine(hO.mono fun j hj=> .inl (.inl hj)).then (gN.mono fun j hj=> .inl ?_);rcases hj with t | t | t
  . exact .inr (.inl (.inr (.inr t)))
  . exact .inr (.inl (.inl t))
  . exact .inr (.inr t)
 have uh:∀j,T j->L j=k+3\/L j=k+20+q\/L j=k+1:=fun j hj=>by
  rw[hT]at hj;rcases hj with t | t | t
  . exact .inl (hF j t)
  . exact .inr (.inl (hB j t))
  . exact .inr (.inr (by rw[t];exact ni))
 have vg:=(h.bE q P S hst).1;refine⟨ug.mono fun j hj=> .inl (by unfold cr;rcases uh j hj with t | t | t<;> omega),fun j=>if j<W.heap.size then L j else if j<V.heap.size then k+3 else if gq Go Gs ob j then k+20+o else k+20+q,fun j hj=>zZ1 hj,fun j hj=>?_,sb,mb,nb,fB f (bt o) (some (.pointer (some ⟨ob,0,none⟩))),fun z=>if z=o then ob else st z,?_⟩
 . dsimp only;rw[zZ0 (by omega)];unfold cr;repeat' split
   all_goals omega
 refine h.fW (n':=n+1) ug (fun j _ t=>by rcases uh j t with t | t | t<;> omega) (by omega) (fun j hj=>zZ1 hj) ⟨F',hS.aC gN (fun j hj t=>?_),fun j hj=>?_⟩ ⟨m+1,by omega,Oh⟩ (fun z=>?_) (fun l hl=>?_) (fun z P2 S2 hz=>?_)
 . -- the map of shards is none of a Sb blocks
   have hj':L j=k+3/\j<W.heap.size\/W.heap.size<=j:=by
    rcases hF' j hj with t2 | t2
    . exact .inl ⟨hF j t2,az j t2⟩
    . exact .inr t2
   have sM:j<W.heap.size->L j=k+3:=fun hl=>by rcases hj' with a | a;exact a.1;omega
   rcases t with t | t | t
   . have a:=hB (st q) (.inr (.inr rfl));have b:=hBlt (st q) (.inr (.inr rfl));subst t;have:=sM b;omega
   . have a:=hB j (.inl t);have b:=hBlt j (.inl t);have:=sM b;omega
   . subst t;have:=sM Ej;omega
 . have Jw:=hS.lt j hj;rcases hF' j hj with t2 | t2
   . rw[zZ1 (az j t2)];exact hF j t2
   . rw[zZ0 (by omega),zZ1 Jw]
 . rw[es];by_cases e1:z=o
   . subst e1;rw[N7,mv,zZ1 rfl];rfl
   . rw[Ee _ _ (fun x=>e1 (R7 x)),jW _ _ e1,zZ0 e1,h.val];by_cases e2:z=q
     . subst e2;rw[mv,hst];rfl
     . rw[jW _ _ e2]
 . by_cases e1:l=bt o
   . exact⟨o,e1⟩
   . rw[Ee _ _ e1]at hl;exact h.lit l hl
 . rw[es]at hz;by_cases e1:z=o
   . subst e1;rw[mv]at hz;cases hz;refine⟨by omega,⟨e.ak,e.aq,at'+1,e.key,(ai A.sh.xs i).hi⟩,by rw[ex];unfold Pl.kz;simp,hoi,Go,Gs,n1,by omega,?_,fun j hj=>?_⟩
     . rw[zZ1 rfl];rw[lg]at j4;exact j4
     . rw[zZ1 rfl]at hj;have:=(dS j hj).1;rw[zZ0 (by omega),zZ0 (by omega),zZ1 hj]
   . rw[jW _ _ e1]at hz;by_cases e2:z=q
     . subst e2;rw[mv]at hz;cases hz;refine⟨vg,⟨(ai A.sh.xs i).id,(ai A.sh.xs i).aq,at'+1,(ai A.sh.xs i).lo,e.key⟩,by rw[ex];unfold Pl.kz;simp,by rw[<-bY,lg],lK,Fs,n1,by omega,?_,fun j hj=>?_⟩
       . rw[zZ0 e1];rw[lg]at hS1;exact hS1
       . rw[zZ0 e1]at hj;have old:∀y,gq Ft Fs (st z) y->y=j->(if j<W.heap.size then L j else if j<V.heap.size then k+3 else if gq Go Gs ob j then k+20+o else k+20+z)=k+20+z:=fun y hy e=>by
          subst e;rw[zZ1 (hBlt y hy)];exact hB y hy
         rcases hj with t | t | t
         . rcases Jv j t with t2 | t2
           . exact old j (.inl t2) rfl
           . rw[zZ0 (by omega),zZ0 (by omega),zZ0 (fun x=>(dS j x).2 (.inl t))]
         . exact old j (.inr (.inl t)) rfl
         . exact old j (.inr (.inr t)) rfl
     . rw[jW _ _ e2]at hz;rw[zZ0 e1];obtain⟨i12,x,hx,l9,rest⟩:=h.ak (n':=n+1) (L':=fun j=>if j<W.heap.size then L j else if j<V.heap.size then k+3 else if gq Go Gs ob j then k+20+o else k+20+q) ug (fun j hj=>zZ1 hj) (q:=z) (fun j _ t=>by rcases uh j t with t | t | t<;> omega) (by omega) hz;obtain⟨kk,jC,rfl⟩:=Cg hx;have Ag:kk≠i:=fun e3=>e2 (by rw[e3,cH]at l9;omega);exact⟨i12,_,by rw[ex];exact Wb jC Ag,l9,rest⟩
theorem dF.merge {W V W':World}{L:Nat->Nat}{k ab sb mb nb n:Nat}{f:Lit->Option Value}{st:Nat->Nat}{A:bC}{m0:Nat}(h:dF W L k ab sb mb nb n f st A)(bF:bV A m0){F F':Nat->Prop}(hF:∀j,F j->L j=k+3)(az:∀j,F j->j<W.heap.size)(hO:ar F W V){e:En}{at':Int}(ha:gp A.sh.xs A.sh.aD e at'=true)(k4:e.ax=4)
    (hS:gm V F' sb (Pl.bp A.sh e at')) (hF':∀j,F' j->F j\/W.heap.size<=j) {P Q:List Pr} {S T:Int->Option An} (hst:A.st e.aj.toNat=some (P,S)) (hsu:A.st e.ak.toNat=some (Q,T)) {c d:Sh} (hc:c∈A.sh.xs) (bY:c.id=(e.aj.toNat:Int)) (hd:d∈A.sh.xs) (pF:d.id=(e.ak.toNat:Int)) {Ft Fs:Nat->Prop} {m n1:Nat} (hm:m<=n) (jz:n1<=n) (hB:∀j,gq Ft Fs (st e.aj.toNat) j->L j=k+20+e.aj.toNat) (hBlt:∀j,gq Ft Fs (st e.aj.toNat) j->j<W.heap.size)
    (hC:z2U V Ft Fs (st e.aj.toNat) mb m n1 f (Pl.aW (Pl.bD c.lo c.hi) (Pl.bD d.lo d.hi) c.lo c.hi d.lo d.hi) (iQ c d P Q) (dC S (iB T)) e.ak W'):
    ar (fun j=>cr k (L j)) W W'/\∃L',(∀j,j<W.heap.size->L' j=L j)/\(∀j,W.heap.size<=j->cr k (L' j))/\dh W' L' k ab (n+4) ⟨A.at_,Pl.bp A.sh e at',Pl.kD A e,A.gC⟩:=by
 have hcb:Pl.jG A.sh.xs A.sh.aD e=true:=by unfold gp at ha;simp only[zZ7]at ha;exact ha.1.1
 obtain⟨hr,i,hi,hf,gL,cH,hk⟩:=qx hcb;obtain⟨jj,hj,nI,qQ,gz,hz⟩:∃j,j<A.sh.xs.length/\Pl.aK A.sh.xs e.ak=(j:Nat)/\pU A.sh.xs e=j/\(ai A.sh.xs j).id=e.ak/\Pl.bg (Pl.bD (ai A.sh.xs i).lo (ai A.sh.xs i).hi) (Pl.bD (ai A.sh.xs j).lo (ai A.sh.xs j).hi) (ai A.sh.xs i).lo (ai A.sh.xs i).hi (ai A.sh.xs j).lo (ai A.sh.xs j).hi=0:=by
  rcases hk with k2 | ⟨k3,_⟩ | ⟨_,q⟩
  . omega
  . omega
  . exact q
 clear hk;have Ch:=(zY hr k4).2.2.2.2;have kq:=Pl.lL hi;have pV:=Pl.lL hj;have qz:=bF.inv.ids _ kq;have rP:=bF.inv.ids _ pV;have lQ:i≠jj:=fun e1=>Ch (by rw[<-cH,<-gz,e1]);have hsc:Pl.cB A e.aj.toNat=c:=kE bF hc bY;have Oj:Pl.cB A e.ak.toNat=d:=kE bF hd pF;have lg:c=ai A.sh.xs i:=by rw[<-hsc,kE bF kq (i:=e.aj.toNat) (by omega)]
 have Gn:d=ai A.sh.xs jj:=by rw[<-Oj,kE bF pV (i:=e.ak.toNat) (by omega)]
 have pE:e.aj.toNat≠e.ak.toNat:=fun e1=>Ch (by omega);have es:Pl.kD A e=fF (fF A.st e.aj.toNat (some (iQ c d P Q,dC S (iB T)))) e.ak.toNat none:=by
  unfold Pl.kD;rw[zZ0 (by omega),zZ1 k4,hst,hsu];dsimp only;rw[hsc,Oj]
 have ex:(Pl.bp A.sh e at').xs=Pl.kJ A.sh.xs i jj (Pl.aW (Pl.bD c.lo c.hi) (Pl.bD d.lo d.hi) c.lo c.hi d.lo d.hi) at':=by
  unfold Pl.bp;rw[zZ0 (by omega),zZ0 (by omega),gL,qQ,lg,Gn]
 generalize Pl.aW (Pl.bD c.lo c.hi) (Pl.bD d.lo d.hi) c.lo c.hi d.lo d.hi=vv at *;obtain⟨lK,n',nk,gN,Oh,hS1,Jv⟩:=hC;obtain⟨q,hq⟩:∃q,q=e.aj.toNat:=⟨_,rfl⟩
 obtain⟨o,ho⟩:∃o,o=e.ak.toNat:=⟨_,rfl⟩
 have hoi:e.ak=(o:Int):=by omega
 rw[<-hq]at hst bY hB hBlt gN hS1 pE es;rw[<-ho]at hsu pE es;rw[hoi]at Oh;have Oi:=hO.size;have hVW:=gN.size;have ni:=h.pC;have Ej:mb<W.heap.size:=by obtain⟨_,_,x⟩:=h.lm;exact x.lt
 obtain⟨T',hT⟩:∃T':Nat->Prop,T'=fun j=>F j\/gq Ft Fs (st q) j\/j=mb:=⟨_,rfl⟩
 have ug:ar T' W W':=by
  rw[hT];refine(hO.mono fun j hj=> .inl (.inl hj)).then (gN.mono fun j hj=> .inl (.inr hj))
 have uh:∀j,T' j->L j=k+3\/L j=k+20+q\/L j=k+1:=fun j hj=>by
  rw[hT]at hj;rcases hj with t | t | t
  . exact .inl (hF j t)
  . exact .inr (.inl (hB j t))
  . exact .inr (.inr (by rw[t];exact ni))
 have vg:=(h.bE q P S hst).1;refine⟨ug.mono fun j hj=> .inl (by unfold cr;rcases uh j hj with t | t | t<;> omega),fun j=>if j<W.heap.size then L j else if j<V.heap.size then k+3 else k+20+q,fun j hj=>zZ1 hj,fun j hj=>?_,sb,mb,nb,fB f (bt o) none,st,?_⟩
 . dsimp only;rw[zZ0 (by omega)];unfold cr;repeat' split
   all_goals omega
 refine h.fW (n':=n+4) ug (fun j _ t=>by rcases uh j t with t | t | t<;> omega) (by omega) (fun j hj=>zZ1 hj) ⟨F',hS.aC gN (fun j hj t=>?_),fun j hj=>?_⟩ ⟨m,by omega,Oh⟩ (fun z=>?_) (fun l hl=>?_) (fun z P2 S2 hz=>?_)
 . have hj':L j=k+3/\j<W.heap.size\/W.heap.size<=j:=by
    rcases hF' j hj with t2 | t2
    . exact .inl ⟨hF j t2,az j t2⟩
    . exact .inr t2
   have sM:j<W.heap.size->L j=k+3:=fun hl=>by rcases hj' with a | a;exact a.1;omega
   rcases t with t | t
   . have a:=hB j t;have b:=hBlt j t;have:=sM b;omega
   . subst t;have:=sM Ej;omega
 . have Jw:=hS.lt j hj;rcases hF' j hj with t2 | t2
   . rw[zZ1 (az j t2)];exact hF j t2
   . rw[zZ0 (by omega),zZ1 Jw]
 . rw[es];by_cases e1:z=o
   . subst e1;rw[N7,mv];rfl
   . rw[Ee _ _ (fun x=>e1 (R7 x)),jW _ _ e1,h.val];by_cases e2:z=q
     . subst e2;rw[mv,hst];rfl
     . rw[jW _ _ e2]
 . by_cases e1:l=bt o
   . exact⟨o,e1⟩
   . rw[Ee _ _ e1]at hl;exact h.lit l hl
 . rw[es]at hz;by_cases e1:z=o
   . subst e1;rw[mv]at hz;cases hz
   . rw[jW _ _ e1]at hz;by_cases e2:z=q
     . subst e2;rw[mv]at hz;cases hz;refine⟨vg,_,by rw[ex];exact Pl.Lk hi (k:=i) hi lQ,by rw[zZ1 rfl];dsimp only;rw[<-bY,lg],lK,Fs,n',by omega,by rw[zZ1 rfl];exact hS1,fun j hj=>?_⟩;have old:∀y,gq Ft Fs (st z) y->y=j->(if j<W.heap.size then L j else if j<V.heap.size then k+3 else k+20+z)=k+20+z:=fun y hy e=>by
        subst e;rw[zZ1 (hBlt y hy)];exact hB y hy
       rcases hj with t | t | t
       . rcases Jv j t with t2 | t2
         . exact old j (.inl t2) rfl
         . rw[zZ0 (by omega),zZ0 (by omega)]
       . exact old j (.inr (.inl t)) rfl
       . exact old j (.inr (.inr t)) rfl
     . rw[jW _ _ e2]at hz;obtain⟨i12,x,hx,l9,rest⟩:=h.ak (n':=n+4) (L':=fun j=>if j<W.heap.size then L j else if j<V.heap.size then k+3 else k+20+q) ug (fun j hj=>zZ1 hj) (q:=z) (fun j _ t=>by rcases uh j t with t | t | t<;> omega) (by omega) hz;obtain⟨kk,jC,rfl⟩:=Cg hx;have Ag:kk≠i:=fun e3=>e2 (by rw[e3,cH]at l9;omega);have hkj:kk≠jj:=fun e3=>e1 (by rw[e3,gz]at l9;omega);have:=Pl.Lk (v:=vv) (at':=at') hi (j:=jj) (k:=kk) jC hkj;rw[zZ0 Ag]at this;exact⟨i12,_,by rw[ex];exact this,l9,rest⟩
end
section
attribute [local go_sem] bl
theorem dh.mono {W:World}{L:Nat->Nat}{k ab n n':Nat}{A:bC}(h:dh W L k ab n A)(hn:n<=n'):dh W L k ab n' A:=by
 obtain⟨sb,mb,nb,f,st,h⟩:=h;exact⟨sb,mb,nb,f,st,h.mono hn⟩
theorem qR.still {W W':World}{L:Nat->Nat}{k ab n n':Nat}{A:bC}(h:dh W L k ab n A)(g:ae W W')(hn:n<=n'):qR W L k ab n' A W':=by
 refine⟨g.only _,fun j=>if j<W.heap.size then L j else k+50,fun j hj=>zZ1 hj,fun j hj=>?_,(h.mono hn).aC (g.only fun _=>False) (fun _ _ h=>h.elim) fun j hj=>zZ1 hj⟩;dsimp only;rw[zZ0 (by omega)];unfold cr;omega
theorem qR.mono {W W':World}{L:Nat->Nat}{k ab n n':Nat}{A:bC}(h:qR W L k ab n A W')(hn:n<=n'):qR W L k ab n' A W':=by
 obtain⟨h1,L',h2,h3,h4⟩:=h;exact⟨h1,L',h2,h3,h4.mono hn⟩
theorem qR.step {W V W':World}{L L1:Nat->Nat}{k ab n:Nat}{A:bC}(hO:ar (fun j=>cr k (L j)) W V)(hL:∀j,j<W.heap.size->L1 j=L j)(hN:∀j,W.heap.size<=j->cr k (L1 j))(h:qR V L1 k ab n A W'):qR W L k ab n A W':=by
 obtain⟨h1,L',h2,h3,h4⟩:=h;have hs:=hO.size;refine⟨hO.trans h1 fun j hj=>?_,L',fun j hj=>(h2 j (by omega)).trans (hL j hj),fun j hj=>?_,h4⟩
 . rcases zJ7 j W.heap.size with q | q
   . rw[hL j q]at hj;exact .inl hj
   . exact .inr q
 . rcases zJ7 j V.heap.size with q | q
   . rw[h2 j q];exact hN j hj
   . exact h3 j q
theorem dF.Gp {W Y:World}{L:Nat->Nat}{k ab sb mb nb n:Nat}{f:Lit->Option Value}{st:Nat->Nat}{A:bC}(h:dF W L k ab sb mb nb n f st A)(g:ae W Y)(a:Int):∃L1,(∀j,j<W.heap.size->L1 j=L j)/\(∀j,W.heap.size<=j->L1 j=k+50)/\ar (fun j=>cr k (L j)) W (Y.setCell ⟨ab,0,none⟩ (.int .i64 a))/\dF (Y.setCell ⟨ab,0,none⟩ (.int .i64 a)) L1 k ab sb mb nb n f st ⟨a,A.sh,A.st,A.gC⟩:=by
 have hr:=h.Aj (L':=fun j=>if j<W.heap.size then L j else k+50) g (fun j hj=>zZ1 hj);have qB:=h.iy;refine⟨fun j=>if j<W.heap.size then L j else k+50,fun j hj=>zZ1 hj,fun j hj=>zZ0 (by omega),(g.only _).then ((ar.setCell Y ⟨ab,0,none⟩ _).mono fun j hj=> .inl ?_),hr.gone a⟩;have:j=ab:=hj;subst this;unfold cr;omega
theorem z2d (E:Nat->Addr){W V:World}(hE:bz my E V){L:Nat->Nat}{k ab sb mb nb n m0:Nat}{f:Lit->Option Value}{st:Nat->Nat}{A:bC}(h:dF W L k ab sb mb nb n f st A)(bF:bV A m0)(lW:m0<=120)(hn:n<=100000){F F':Nat->Prop}(hF:∀j,F j->L j=k+3)(az:∀j,F j->j<W.heap.size)(hO:ar F W V){e:En}{at':Int}(ha:gp A.sh.xs A.sh.aD e at'=true)
    (hS:gm V F' sb (Pl.bp A.sh e at')) (hF':∀j,F' j->F j\/W.heap.size<=j) (np:e.key.size<=300):
    Calls prog 33 #[.pointer (some ⟨ab,0,none⟩),e.agg] V fun r w'=>r=.returned .nilIface/\qR W L k ab (n+4) ⟨A.at_,Pl.bp A.sh e at',Pl.kD A e,A.gC⟩ w':=by
 have hcb:Pl.jG A.sh.xs A.sh.aD e=true:=by unfold gp at ha;simp only[zZ7]at ha;exact ha.1.1
 obtain⟨hr,i,hi,hf,gL,cH,hk⟩:=qx hcb;have kq:=Pl.lL hi;have qz:=bF.inv.ids _ kq;have hab:=h.wu;have nab:¬F ab:=fun t=>by have:=hF ab t;have:=h.iy;omega
 have Jy:¬F mb:=fun t=>by have:=hF mb t;have:=h.pC;omega
 have c2:=(hO.cell hab nab 2).trans h.c2;obtain⟨m1,e1,h1⟩:=h.lm;have ni:=h1.aC hO Jy;have iD:∀q P S,A.st q=some (P,S)->Pl.dK P:=fun q P S hq=>by
  obtain⟨_,c,_,_,Ft,Fs,m,_,⟨tb,sb',hT⟩,_⟩:=h.bE q P S hq;exact KY hT.tab
 have few:∀q P S,q<13->A.st q=some (P,S)->P.length<=1000:=fun q P S hq hA=>by
  have a:=Ed A.st q hq;have b:=bF.few;rw[hA]at a;unfold ib at a;dsimp only at a;omega
 rcases hk with k2 | ⟨k3,hu,o1,o2,hh,hne⟩ | ⟨k4,jj,hj,nI,qQ,gz,hz⟩
 . refine(z0Z ab e k2).mono ?_;rintro r w' ⟨rfl,g⟩;have es:Pl.kD A e=A.st:=(by unfold Pl.kD;rw[zZ0 (by omega),zZ0 (by omega)]);have gN:ar F W w':=hO.dG g;refine⟨rfl,gN.mono fun j hj=> .inl (by unfold cr;have:=hF j hj;omega),fun j=>if j<W.heap.size then L j else k+3,fun j hj=>zZ1 hj,fun j hj=>?_,sb,mb,nb,f,st,?_⟩
   . dsimp only;rw[zZ0 (by omega)];unfold cr;omega
   . rw[es];exact(h.moved hF gN k2 hi gL (hS.ah g) hF' (fun j hj=>zZ1 hj) (fun j hj=>zZ0 (by omega)) az).mono (by omega)
 . obtain⟨P,S,hP,iG⟩:=bF.dom _ kq;rw[cH]at hP qz;obtain⟨i12,c,hc,bY,Ft,Fs,m,hm,mX,hB⟩:=h.bE _ P S hP;have lg:c=ai A.sh.xs i:=(by rw[<-kE bF hc bY,kE bF kq (i:=e.aj.toNat) (by omega)]);have hsz:=bF.sz c hc;have Jz:∀j,gq Ft Fs (st e.aj.toNat) j->¬F j:=fun j hj t=>by have:=hB j hj;have:=hF j t;omega
   have Ol:=h.val e.aj.toNat;rw[hP,show((e.aj.toNat:Nat):Int)=e.aj by omega]at Ol;refine(y8w E hE e k3 (by omega) (by omega) (by omega) (by omega) c2 ni (by omega) Ol (mX.aC hO (fun j hj=>Jz j (.inl hj)) (fun j hj=>Jz j (.inr (.inl hj))) (Jz _ (.inr (.inr rfl)))) ⟨fun t=>by have:=hB ab t;have:=h.iy;omega,fun t=>by have:=hB mb t;have:=h.pC;omega,fun t=>by have:=h.iy;have:=h.pC;rw[t]at *;omega⟩ (few _ P S (by omega) hP) hsz.1 hsz.2 np (by rw[lg];exact Pl.RT hh hne)).mono ?_;rintro r w' ⟨rfl,hC⟩;refine⟨rfl,qR.mono (n:=n+1) ?_ (by omega)⟩;exact h.split bF hF az hO ha k3 hS hF' hP hc bY (by omega) hm hB mX.all hC
 . obtain⟨P,S,hP,rQ⟩:=bF.dom _ kq;have pV:=Pl.lL hj;have rP:=bF.inv.ids _ pV;obtain⟨Q,T,hQ,rR⟩:=bF.dom _ pV;rw[cH]at hP qz;rw[gz]at hQ rP;have Ch:=(zY hr k4).2.2.2.2;have pE:e.aj.toNat≠e.ak.toNat:=(by omega);obtain⟨i12,c,hc,bY,Ft,Fs,m,hm,mX,hB⟩:=h.bE _ P S hP;obtain⟨R9,d,hd,pF,Gt,Gs,m2,ky,JA,hG⟩:=h.bE _ Q T hQ;have lg:c=ai A.sh.xs i:=(by rw[<-kE bF hc bY,kE bF kq (i:=e.aj.toNat) (by omega)]);have Gn:d=ai A.sh.xs jj:=(by rw[<-kE bF hd pF,kE bF pV (i:=e.ak.toNat) (by omega)]);have hsz:=bF.sz c hc;have wD:=bF.sz d hd;have Jz:∀j,gq Ft Fs (st e.aj.toNat) j->¬F j:=fun j hj t=>by have:=hB j hj;have:=hF j t;omega
   have Wk:∀j,gq Gt Gs (st e.ak.toNat) j->¬F j:=fun j hj t=>by have:=hG j hj;have:=hF j t;omega
   have Ol:=h.val e.aj.toNat;rw[hP,show((e.aj.toNat:Nat):Int)=e.aj by omega]at Ol;have hfu:=h.val e.ak.toNat;rw[hQ,show((e.ak.toNat:Nat):Int)=e.ak by omega]at hfu;have ri:=bF.chain.right i hi;have rj:=bF.chain.right jj hj;rw[<-lg]at rQ ri hz;rw[<-Gn]at rR rj hz;refine(y8S E hE e k4 (by omega) (by omega) (by omega) (by omega) c2 ni Ol hfu (mX.aC hO (fun j hj=>Jz j (.inl hj)) (fun j hj=>Jz j (.inr (.inl hj))) (Jz _ (.inr (.inr rfl)))) (JA.aC hO (fun j hj=>Wk j (.inl hj)) (fun j hj=>Wk j (.inr (.inl hj))) (Wk _ (.inr (.inr rfl)))) (fun j hj t=>by have:=hG j hj;have:=hB j t;omega) ⟨fun t=>by have:=hB ab t;have:=h.iy;omega,fun t=>by have:=hB mb t;have:=h.pC;omega⟩ (z2N rQ rR (iD _ P S hP) (iD _ Q T hQ) ri rj hz) (few _ P S (by omega) hP) (few _ Q T (by omega) hQ) (by omega) (by omega) hsz.1 hsz.2 wD.1 wD.2 hz).mono ?_;rintro r w' ⟨rfl,hC⟩;exact⟨rfl,h.merge bF hF az hO ha k4 hS hF' hP hQ hc bY hd pF (by omega) hm hB mX.all hC⟩
theorem Om:jo my:=⟨rfl,rfl,rfl,rfl⟩
theorem z2e (E:Nat->Addr){W:World}{L:Nat->Nat}{k ab n:Nat}{A:bC}(hE:bz my E W)(h:dh W L k ab n A)(e:En)(hA:b7 W e)(at':Int)(hr:Pl.cK e=false):
    Calls prog 11 #[.pointer (some ⟨ab,0,none⟩),e.agg,.int .i64 at'] W fun r w'=>r=.returned (bA E 4)/\ae W w':=by
 have g4:W.cell? ⟨3,0,none⟩=some (.iface 302 (.pointer (some (E 4)))):=hE.cell 4 rfl;have b4:=bf g4;have HR:=af (fun X (g:ae W X)=>qX Om E e X (hE.ah g) (hA.ah g));rw[hr]at HR;clear hE hA h hr;obtain⟨ax,aj,ak,aq,aw,seq,key,aM,aL,aA,ops,aN,aS,aF,aB,aG⟩:=e;unfold En.agg En.vals at *;dsimp only at *;go_in;go_wp2_with fail;refine(HR _ ((ae.rf W).alloc _)).mono ?_;rintro e w1 ⟨rfl,hg⟩;have hG:=hg.jy;have g4:=(hG.cells.1 _ 0 b4).trans g4;have b4:=xA9 b4 hG.size;have HG:=af hG;clear hg hG HR;go_wp2_with fail;go_ret;exact⟨rfl,HG⟩
theorem z0I (E:Nat->Addr){W:World}{L:Nat->Nat}{k ab n:Nat}{A:bC}(hE:bz my E W)(h:dh W L k ab n A)(e:En)(hA:b7 W e)(at':Int)(hr:Pl.cK e=true)(hat:at'<A.at_\/at'<0\/4096<=at'):
    Calls prog 11 #[.pointer (some ⟨ab,0,none⟩),e.agg,.int .i64 at'] W fun r w'=>r=.returned (bA E 1)/\ae W w':=by
 have g1:W.cell? ⟨0,0,none⟩=some (.iface 302 (.pointer (some (E 1)))):=hE.cell 1 rfl;have b1:=bf g1;obtain⟨sb,mb,nb,f,st,h⟩:=h;have c0:=h.c0;have hab:=bf c0;have HR:=af (fun X (g:ae W X)=>qX Om E e X (hE.ah g) (hA.ah g));rw[hr]at HR;clear hE hA h hr;obtain⟨ax,aj,ak,aq,aw,seq,key,aM,aL,aA,ops,aN,aS,aF,aB,aG⟩:=e;unfold En.agg En.vals at *;dsimp only at *;go_in;go_wp2_with fail;refine(HR _ ((ae.rf W).alloc _)).mono ?_;rintro e w1 ⟨rfl,hg⟩;have hG:=hg.jy;have g1:=(hG.cells.1 _ 0 b1).trans g1;have b1:=xA9 b1 hG.size;have c0:=(hG.cells.1 _ 0 hab).trans c0;have hab:=xA9 hab hG.size;have HG:=af hG;clear hg hG HR;by_cases q1:at'<A.at_
 . clear hat;go_wp2_with fail;go_ret;exact⟨rfl,HG⟩
 by_cases q2:at'<0
 . clear hat;go_wp2_with fail;go_ret;exact⟨rfl,HG⟩
 have q3:4096<=at':=by omega
 clear hat;go_wp2_with fail;go_ret;exact⟨rfl,HG⟩
theorem y6o (E:Nat->Addr){W:World}{L:Nat->Nat}{k ab n n':Nat}{A:bC}(hE:∀X,ar (fun j=>cr k (L j)) W X->bz my E X)(h:dh W L k ab n A)(e:En)(hA:∀X,ar (fun j=>cr k (L j)) W X->b7 X e)(at':Int)(hr:Pl.cK e=true)(hat:¬(at'<A.at_\/at'<0\/4096<=at'))(hk:e.ax=1){v:Value}{B:bC}
    (hw:∀X L1,(∀j,j<W.heap.size->L1 j=L j)->ar (fun j=>cr k (L j)) W X->dh X L1 k ab n ⟨at'+1,A.sh,A.st,A.gC⟩->Calls prog 31 #[.pointer (some ⟨ab,0,none⟩),e.agg,.int .i64 at'] X fun r w'=>r=.returned v/\qR X L1 k ab n' B w'):
    Calls prog 11 #[.pointer (some ⟨ab,0,none⟩),e.agg,.int .i64 at'] W fun r w'=>r=.returned v/\qR W L k ab n' B w':=by
 obtain⟨sb,mb,nb,f,st,h⟩:=h;have c0:=h.c0;have hab:=bf c0;have fz:=h.fz 0;have HR:=af (fun X (g:ae W X)=>qX Om E e X (hE X (g.only _)) (hA X (g.only _)));rw[hr]at HR;have HH:=af h;have HW:=af hw;have q1:¬at'<A.at_:=fun q=>hat (.inl q);have q2:¬at'<0:=fun q=>hat (.inr (.inl q));have q3:¬4096<=at':=fun q=>hat (.inr (.inr q));have h0:0<=at':=by omega
 have h1:at'<4096:=by omega
 clear hE hA h hat hr hw;obtain⟨ax,aj,ak,aq,aw,seq,key,aM,aL,aA,ops,aN,aS,aF,aB,aG⟩:=e;unfold En.agg En.vals at *;dsimp only at *;subst hk;go_in;go_wp2_with fail;obtain⟨Y,hY⟩:∃Y,Y=W.alloc (.cells #[.int .i64 1,.int .i64 aj,.int .i64 ak,.int .i64 aq,.int .i64 aw,.int .i64 seq,.slice aN ops.length aS,.string key,.int .i64 aM,.int .i64 aL,.int .i64 aA,.slice aF aB aG] 36):=⟨_,rfl⟩
 have gY:ae W Y:=by rw[hY];exact(ae.rf W).alloc _
 obtain⟨xb,eE⟩:∃xb,xb=W.heap.size:=⟨_,rfl⟩
 have HX:=af (show ∀q v,(#[.int .i64 1,.int .i64 aj,.int .i64 ak,.int .i64 aq,.int .i64 aw,.int .i64 seq,.slice aN ops.length aS,.string key,.int .i64 aM,.int .i64 aL,.int .i64 aA,.slice aF aB aG]:Array Value)[q]? =some v->Y.cell? ⟨xb,q,none⟩=some v from fun q v hv=>by
  rw[hY,eE,wQ1 _ _ q _ _ _ (wZ0 W _)];simpa using hv)
 have ir:xb<Y.heap.size:=by rw[hY,eE];simp
 have Wl:xb≠ab:=by omega
 have hxW:W.heap.size<=xb:=by omega
 rw[<-hY,<-eE];refine(HR Y gY).mono ?_;rintro e w1 ⟨rfl,hg⟩;have ct:=af (gY.trans hg);have Oo:=af (fun q v hv=>(hg.cells.1 _ q ir).trans (HX q v hv));have hx1:=xA9 ir hg.size;have c0:=(ct.cells.1 _ 0 hab).trans c0;have fz:=(ct.cells.2 _ 0 hab).trans fz;have hab:=xA9 hab ct.size;clear hg gY hY eE HX ir HR;go_upto_region 5 with fail;go_upto_region 6 with fail;obtain⟨L1,tK,Ll,iJ,Ap⟩:=HH.Gp ct (at'+1);obtain⟨X,hX⟩:∃X,X=w1.setCell ⟨ab,0,none⟩ (.int .i64 (at'+1)):=⟨_,rfl⟩
 have kr:ar (fun j=>j=ab) w1 X:=by rw[hX];exact ar.setCell w1 ⟨ab,0,none⟩ _
 rw[<-hX]at iJ Ap ⊢;clear hX;have mz:=af (fun q v hv=>(kr.cell hx1 Wl q).trans (Oo q v hv));have x0:=mz 0 _ rfl;have x1:=mz 1 _ rfl;have x2:=mz 2 _ rfl;have x3:=mz 3 _ rfl;have x4:=mz 4 _ rfl;have x5:=mz 5 _ rfl;have x6:=mz 6 _ rfl;have x7:=mz 7 _ rfl;have x8:=mz 8 _ rfl;have x9:=mz 9 _ rfl;have qU:=mz 10 _ rfl;have qV:=mz 11 _ rfl;have Wm:=xA9 hx1 kr.size;have Wn:=xA9 hab kr.size;have HS:=af (And.intro tK (And.intro (fun j hj=>(show cr k (L1 j)by rw[Ll j hj];unfold cr;omega)) iJ));have MG:=af Ap;have bM:=af (HW X L1 tK iJ ⟨sb,mb,nb,f,st,Ap⟩);clear tK Ll iJ Ap HW Oo kr c0 fz hab;go_wp2_with fail;refine bM.mono ?_;rintro e w2 ⟨rfl,hT⟩;have HT:=af hT;clear hT bM x0 x1 x2 x3 x4 x5 x6 x7 x8 x9 qU qV;go_wp2_with fail;go_ret;exact⟨rfl,.step HS.2.2 HS.1 HS.2.1 HT⟩
theorem y6n (E:Nat->Addr){W:World}{L:Nat->Nat}{k ab n n':Nat}{A:bC}(hE:∀X,ar (fun j=>cr k (L j)) W X->bz my E X)(h:dh W L k ab n A)(e:En)(hA:∀X,ar (fun j=>cr k (L j)) W X->b7 X e)(at':Int)(hr:Pl.cK e=true)(hat:¬(at'<A.at_\/at'<0\/4096<=at'))(hk:¬e.ax=1){B:bC}{b:Bool}
    (hw:∀X L1 sb mb nb f st,(∀j,j<W.heap.size->L1 j=L j)->ar (fun j=>cr k (L j)) W X->dF X L1 k ab sb mb nb n f st ⟨at'+1,A.sh,A.st,A.gC⟩->∀U,ae X U->Calls prog 32 #[.pointer (some ⟨sb,0,none⟩),e.agg,.int .i64 at'] U fun r V=>r=.returned (.bool b)/\ar (fun j=>L1 j=k+3) X V/\
     ((b=false/\qR X L1 k ab n' B V)\/(b=true/\Calls prog 33 #[.pointer (some ⟨ab,0,none⟩),e.agg] V fun r w'=>r=.returned .nilIface/\qR X L1 k ab n' B w'))):
    Calls prog 11 #[.pointer (some ⟨ab,0,none⟩),e.agg,.int .i64 at'] W fun r w'=>r=.returned .nilIface/\qR W L k ab n' B w':=by
 obtain⟨sb,mb,nb,f,st,h⟩:=h;have c0:=h.c0;have hab:=bf c0;have fz:=h.fz 0;have HR:=af (fun X (g:ae W X)=>qX Om E e X (hE X (g.only _)) (hA X (g.only _)));rw[hr]at HR;have HH:=af h;have HW:=af hw;have q1:¬at'<A.at_:=fun q=>hat (.inl q);have q2:¬at'<0:=fun q=>hat (.inr (.inl q));have q3:¬4096<=at':=fun q=>hat (.inr (.inr q));have h0:0<=at':=by omega
 have h1:at'<4096:=by omega
 clear hE hA h hat hr hw;obtain⟨ax,aj,ak,aq,aw,seq,key,aM,aL,aA,ops,aN,aS,aF,aB,aG⟩:=e;unfold En.agg En.vals at *;dsimp only at *;go_in;go_wp2_with fail;obtain⟨Y,hY⟩:∃Y,Y=W.alloc (.cells #[.int .i64 ax,.int .i64 aj,.int .i64 ak,.int .i64 aq,.int .i64 aw,.int .i64 seq,.slice aN ops.length aS,.string key,.int .i64 aM,.int .i64 aL,.int .i64 aA,.slice aF aB aG] 36):=⟨_,rfl⟩
 have gY:ae W Y:=by rw[hY];exact(ae.rf W).alloc _
 obtain⟨xb,eE⟩:∃xb,xb=W.heap.size:=⟨_,rfl⟩
 have HX:=af (show ∀q v,(#[.int .i64 ax,.int .i64 aj,.int .i64 ak,.int .i64 aq,.int .i64 aw,.int .i64 seq,.slice aN ops.length aS,.string key,.int .i64 aM,.int .i64 aL,.int .i64 aA,.slice aF aB aG]:Array Value)[q]? =some v->Y.cell? ⟨xb,q,none⟩=some v from fun q v hv=>by
  rw[hY,eE,wQ1 _ _ q _ _ _ (wZ0 W _)];simpa using hv)
 have ir:xb<Y.heap.size:=by rw[hY,eE];simp
 have Wl:xb≠ab:=by omega
 have hxW:W.heap.size<=xb:=by omega
 rw[<-hY,<-eE];refine(HR Y gY).mono ?_;rintro e w1 ⟨rfl,hg⟩;have ct:=af (gY.trans hg);have Oo:=af (fun q v hv=>(hg.cells.1 _ q ir).trans (HX q v hv));have hx1:=xA9 ir hg.size;have c0:=(ct.cells.1 _ 0 hab).trans c0;have fz:=(ct.cells.2 _ 0 hab).trans fz;have hab:=xA9 hab ct.size;clear hg gY hY eE HX ir HR;go_upto_region 5 with fail;go_upto_region 6 with fail;obtain⟨L1,tK,Ll,iJ,Ap⟩:=HH.Gp ct (at'+1);obtain⟨X,hX⟩:∃X,X=w1.setCell ⟨ab,0,none⟩ (.int .i64 (at'+1)):=⟨_,rfl⟩
 have kr:ar (fun j=>j=ab) w1 X:=by rw[hX];exact ar.setCell w1 ⟨ab,0,none⟩ _
 rw[<-hX]at iJ Ap ⊢;clear hX;have mz:=af (fun q v hv=>(kr.cell hx1 Wl q).trans (Oo q v hv));have x0:=mz 0 _ rfl;have x1:=mz 1 _ rfl;have x2:=mz 2 _ rfl;have x3:=mz 3 _ rfl;have x4:=mz 4 _ rfl;have x5:=mz 5 _ rfl;have x6:=mz 6 _ rfl;have x7:=mz 7 _ rfl;have x8:=mz 8 _ rfl;have x9:=mz 9 _ rfl;have qU:=mz 10 _ rfl;have qV:=mz 11 _ rfl;have Wm:=xA9 hx1 kr.size;have Wn:=xA9 hab kr.size;have HS:=af (And.intro tK (And.intro (fun j hj=>(show cr k (L1 j)by rw[Ll j hj];unfold cr;omega)) iJ));have MG:=af Ap;have bM:=af (HW X L1 sb mb nb f st tK iJ Ap);have c1:=Ap.c1;have hlx:=Ap.iy;have HLL:=af (show ∀V,ar (fun j=>L1 j=k+3) X V->∀q v,(#[.int .i64 ax,.int .i64 aj,.int .i64 ak,.int .i64 aq,.int .i64 aw,.int .i64 seq,.slice aN ops.length aS,.string key,.int .i64 aM,.int .i64 aL,.int .i64 aA,.slice aF aB aG]:Array Value)[q]? =some v->V.cell? ⟨xb,q,none⟩=some v from fun V hV q v hv=>(hV.cell Wm (fun e=>by rw[Ll xb hxW]at e;omega) q).trans (mz q v hv));clear tK Ll iJ Ap HW Oo kr c0 fz hab;go_upto_region 8 with fail;have C1:=bj c1;have X0:=bj x0;have X1:=bj x1;have X2:=bj x2;have X3:=bj x3;have X4:=bj x4;have X5:=bj x5;have X6:=bj x6;have X7:=bj x7;have X8:=bj x8;have X9:=bj x9;have oq:=bj qU;have ow:=bj qV;clear x0 x1 x2 x3 x4 x5 x6 x7 x8 x9 qU qV;refine pO 6 ?_;repeat (first|(refine gg ?_;intros;go_big_quiet_op;go_big_quiet_on)|(refine fZ ?_;simp only[Act.put,xB9,xC9,xD9]))
 refine jB (by rfl) ?_;intro u iH;have HU:=af iH;clear C1 X0 X1 X2 X3 X4 X5 X6 X7 X8 X9 oq ow iH;dsimp only[List.drop];go_wp2_with fail;refine(bM u HU).mono ?_;rintro e V ⟨rfl,Sc,⟨rfl,hT⟩ | ⟨rfl,hT⟩⟩
 . have HT:=af hT;clear hT bM Sc;go_wp2_with fail;go_ret;exact⟨rfl,.step HS.2.2 HS.1 HS.2.1 HT⟩
 . have HT:=af hT;have xn:=af (HLL V Sc);have x0:=xn 0 _ rfl;have x1:=xn 1 _ rfl;have x2:=xn 2 _ rfl;have x3:=xn 3 _ rfl;have x4:=xn 4 _ rfl;have x5:=xn 5 _ rfl;have x6:=xn 6 _ rfl;have x7:=xn 7 _ rfl;have x8:=xn 8 _ rfl;have x9:=xn 9 _ rfl;have qU:=xn 10 _ rfl;have qV:=xn 11 _ rfl;have hxV:=xA9 Wm Sc.size;clear hT bM Sc;go_wp2_with fail;refine HT.mono ?_;rintro e w2 ⟨rfl,hT⟩;have yJ:=af hT;clear hT HT x0 x1 x2 x3 x4 x5 x6 x7 x8 x9 qU qV;go_wp2_with fail;go_ret;exact⟨rfl,.step HS.2.2 HS.1 HS.2.1 yJ⟩
theorem y7f {e:En}(h:Pl.cK e=true)(hk:e.ax=1):1<=e.aj/\e.aj<=12:=by
 unfold Pl.cK at h;rw[zZ1 hk]at h;unfold Pl.mH at h;simp only[zZ7]at h;exact(Pl.RU _ _).1 h.1.1.1.1
theorem y7Q (E:Nat->Addr){W:World}{L:Nat->Nat}{k ab n m0:Nat}{A:bC}(hE:∀X,ar (fun j=>cr k (L j)) W X->bz my E X)(h:dh W L k ab n A)(bF:bV A m0)(lW:m0<=120)(hn:n<=90000)(e:En)(hA:∀X,ar (fun j=>cr k (L j)) W X->b7 X e)(hz:rJ e)(np:e.key.size<=300)(at':Int):
    Calls prog 11 #[.pointer (some ⟨ab,0,none⟩),e.agg,.int .i64 at'] W fun r w'=>r=.returned (bA E (Pl.fh A e at').1)/\qR W L k ab (n+5) (Pl.fh A e at').2 w':=by
 cases hr:Pl.cK e with
 | false=>
  have e0:Pl.fh A e at'=(4,A):=by unfold Pl.fh;rw[zZ1 hr]
  rw[e0];refine(z2e E (hE W (ar.refl _ _)) h e (hA W (ar.refl _ _)) at' hr).mono ?_;rintro r w' ⟨rfl,g⟩;exact⟨rfl,.still h g (by omega)⟩
 | true=>
 by_cases hat:at'<A.at_\/at'<0\/4096<=at'
 . have e0:Pl.fh A e at'=(1,A):=(by unfold Pl.fh;rw[zZ0 (by rw[hr];simp),zZ1 hat]);rw[e0];refine(z0I E (hE W (ar.refl _ _)) h e (hA W (ar.refl _ _)) at' hr hat).mono ?_;rintro r w' ⟨rfl,g⟩;exact⟨rfl,.still h g (by omega)⟩
 by_cases hk:e.ax=1
 . have qT:=y7f hr hk;cases hst:A.st e.aj.toNat with
   | none=>
    have e0:Pl.fh A e at'=(0,⟨at'+1,A.sh,A.st,fB A.gC (bt at') (some (fQ 3 0))⟩):=(by unfold Pl.fh;rw[zZ0 (by rw[hr];simp),zZ0 hat,zZ1 hk,hst]);rw[e0];refine y6o E hE h e hA at' hr hat hk fun X L1 tK hO h1=>?_;refine(z1Y h1 e (by omega) (by omega) hst at' (by omega) (by omega) (by omega)).mono ?_;rintro r w' ⟨rfl,ht⟩;exact⟨rfl,ht.mono (by omega)⟩
   | some v=>
    obtain⟨P,S⟩:=v;have e0:Pl.fh A e at'=((Pl.gj (Pl.cB A e.aj.toNat).lo (Pl.cB A e.aj.toNat).hi P S e at').err,⟨at'+1,A.sh,fF A.st e.aj.toNat (some ((Pl.gj (Pl.cB A e.aj.toNat).lo (Pl.cB A e.aj.toNat).hi P S e at').P,(Pl.gj (Pl.cB A e.aj.toNat).lo (Pl.cB A e.aj.toNat).hi P S e at').S)),fB A.gC (bt at') (some (fQ (Pl.gj (Pl.cB A e.aj.toNat).lo (Pl.cB A e.aj.toNat).hi P S e at').cI (Pl.gj (Pl.cB A e.aj.toNat).lo (Pl.cB A e.aj.toNat).hi P S e at').at_))⟩):=(by unfold Pl.fh;rw[zZ0 (by rw[hr];simp),zZ0 hat,zZ1 hk,hst]);rw[e0];refine y6o E hE h e hA at' hr hat hk fun X L1 tK hO h1=>?_;refine(z1B E (Oc (hE X hO)) h1 (bF.at_ _) lW e (hA X hO) hz (by omega) (by omega) hst at' (by omega) (by omega) (by omega)).mono ?_;rintro r w' ⟨rfl,ht⟩;exact⟨rfl,ht.mono (by omega)⟩
 . cases hap:gp A.sh.xs A.sh.aD e at' with
   | false=>
    have e0:Pl.fh A e at'=(0,⟨at'+1,A.sh,A.st,A.gC⟩):=(by unfold Pl.fh;rw[zZ0 (by rw[hr];simp),zZ0 hat,zZ0 hk,zZ0 (by rw[hap];simp)]);rw[e0];refine y6n E hE h e hA at' hr hat hk (b:=false) fun X L1 sb mb nb f st tK hO hI U gU=>?_;obtain⟨F,hS,hF⟩:=hI.sh;refine(Zh z5K E (hE U (hO.dG gU)) (hS.ah gU) (by have:=bF.inv.len;dsimp only;omega) e (hA U (hO.dG gU)) (by omega) at' hap).mono ?_;rintro r V ⟨rfl,g⟩;exact⟨rfl,(gU.trans g).only _,.inl ⟨rfl,.still ⟨sb,mb,nb,f,st,hI⟩ (gU.trans g) (by omega)⟩⟩
   | true=>
    have e0:Pl.fh A e at'=(0,⟨at'+1,Pl.bp A.sh e at',Pl.kD A e,A.gC⟩):=(by unfold Pl.fh;rw[zZ0 (by rw[hr];simp),zZ0 hat,zZ0 hk,zZ1 hap]);rw[e0];refine y6n E hE h e hA at' hr hat hk (b:=true) fun X L1 sb mb nb f st tK hO hI U gU=>?_;obtain⟨F,hS,hF⟩:=hI.sh;refine(z5Y z5K E (hE U (hO.dG gU)) (hS.ah gU) (by have:=bF.inv.len;dsimp only;omega) (by have:=bF.inv.few;dsimp only;omega) e (hA U (hO.dG gU)) (by omega) at').mono ?_;rintro r V ⟨rfl,hOF,F',tP,hF'⟩;have e1:Pl.zW A.sh e at'=Pl.bp A.sh e at':=(by unfold Pl.zW;rw[zZ1 hap]);rw[e1]at tP;have hXU:=gU.size;have kr:ar F X V:=(gU.only _).then hOF;have Lm:ar (fun j=>cr k (L j)) W V:=hO.trans kr fun j hj=>by
     rcases zJ7 j W.heap.size with q | q
     . refine .inl ?_;have:=hF j hj;rw[tK j q]at this;unfold cr;omega
     . exact .inr q
    refine⟨by rw[hap],kr.mono fun j hj=> .inl (hF j hj),.inr ⟨rfl,?_⟩⟩;refine(z2d E (hE V Lm) hI (bF.at_ _) lW (by omega) hF hS.lt kr hap tP (fun j hj=>(hF' j hj).imp id fun q=>by omega) np).mono ?_;rintro r w' ⟨rfl,ht⟩;exact⟨rfl,ht.mono (by omega)⟩
namespace Pl
def ox (v:Option (List Pr×(Int->Option An))):List Pr:=match v with | none=>[] | some v=>v.1
def Ln (st:Nat->Option (List Pr×(Int->Option An)))(lo hi:ByteArray)(aI:Int)(out:List Pr)(c:Sh):List Pr:=if 0<aI/\0<aI - (out.length:Int)then out++cD (ox (st c.id.toNat)) lo hi (aI - (out.length:Int))else out
def sN (A:bC)(lo hi:ByteArray)(aI:Int):List Pr:=A.sh.xs.foldl (Ln A.st lo hi aI) []
def gG (A:bC)(lo hi:ByteArray)(aI:Int)(k:Nat):List Pr:=(A.sh.xs.take k).foldl (Ln A.st lo hi aI) []
theorem Wo (A:bC)(lo hi:ByteArray)(aI:Int)(k:Nat)(h:k<A.sh.xs.length):gG A lo hi aI (k+1)=Ln A.st lo hi aI (gG A lo hi aI k) (ai A.sh.xs k):=by
 unfold gG;rw[zX1 h,xX6,j3 _ k h];rfl
theorem z5n (xs:List Pr)(lo hi:ByteArray)(aI:Int):(cD xs lo hi aI).length<=xs.length:=by
 unfold cD;rw[zZ9];have:=xX1 (fun c:Pr=>bk lo hi c.key) xs;omega
theorem Wp {A:bC}(hx:∀i P S,A.st i=some (P,S)->P.length<=1000)(lo hi:ByteArray)(aI:Int):∀k,k<=A.sh.xs.length->(gG A lo hi aI k).length<=1000*k
 | 0,_=>by unfold gG;simp
 | k+1,h=>by
  have ih:=Wp hx lo hi aI k (by omega);rw[Wo A lo hi aI k (by omega)];unfold Ln;split
  . rw[zZ4];have h1:=z5n (ox (A.st (ai A.sh.xs k).id.toNat)) lo hi (aI - ((gG A lo hi aI k).length:Int));have h2:(ox (A.st (ai A.sh.xs k).id.toNat)).length<=1000:=by
     cases hA:A.st (ai A.sh.xs k).id.toNat with
     | none=>simp[ox]
     | some v=>obtain⟨P,S⟩:=v;exact hx _ P S hA
    omega
  . omega
end Pl
theorem z4L (E:Nat->Addr){W:World}(hE:bz my E W){L:Nat->Nat}{k ab n m0:Nat}{A:bC}(h:dh W L k ab n A)(bF:bV A m0)(lW:m0<=120)(lo hi:ByteArray)(aI:Int)(sy:lo.size<=70368744177664)(tx:hi.size<=70368744177664)(JB:aI<=9223372036854775807):
    Calls prog 19 #[.pointer (some ⟨ab,0,none⟩),.agg #[.string lo,.string hi],.int .i64 aI] W fun e w'=>ae W w'/\∃a cap,e=.returned (.slice a (Pl.sN A lo hi aI).length cap)/\w'.ownsRow W.heap.size 62 3 (.slice a (Pl.sN A lo hi aI).length cap) (Pl.sN A lo hi aI).length (cq (Pl.sN A lo hi aI)):=by
 obtain⟨sb,mb,nb,f,st,h⟩:=h;obtain⟨F,hS,_⟩:=h.sh;have few:∀q P S,A.st q=some (P,S)->P.length<=1000:=fun q P S hA=>by
  have hq:=bF.lt (i:=q) (by rw[hA];simp);have a:=Ed A.st q (by omega);have b:=bF.few;rw[hA]at a;unfold ib at a;dsimp only at a;omega
 have vS:A.sh.xs.length<=121:=by have:=bF.inv.len;omega
 have Lp:=af (fun X (g:ae W X)=>z4j (hS.ah g) (by omega) bF.inv.pos);have c1:=h.c1;have c2:=h.c2;have hab:=bf c1;have HLEN:=af (fun k (hk:k<=A.sh.xs.length)=>Wp few lo hi aI k hk);have HSC:=af (fun k (hk:k<A.sh.xs.length)=>Wo A lo hi aI k hk);have xp:=af (show Pl.gG A lo hi aI A.sh.xs.length=Pl.sN A lo hi aI by unfold Pl.gG Pl.sN;rw[zQ1]);have HST:=af (show ∀k,k<A.sh.xs.length->∃(i:Nat) (sp tb:Nat) (P:List Pr) (Ft:Nat->Prop),(ai A.sh.xs k).id=(i:Int)/\i<=12/\Pl.ox (A.st (ai A.sh.xs k).id.toNat)=P/\P.length<=1000/\(∀X,ae W X->(Instr.lookup 73 (.map (some mb)) (.int .i64 (i:Int)) false).run prog X=.ok (.pointer (some ⟨sp,0,none⟩)) X)/\W.cell? ⟨sp,0,none⟩=some (.pointer (some ⟨tb,0,none⟩))/\bI W Ft tb P from fun k hk=>by
  have hm:=Pl.lL hk;have af:=bF.inv.ids _ hm;obtain⟨P,S,hP,_⟩:=bF.dom _ hm;obtain⟨i12,c,_,_,Ft,Fs,m,_,⟨tb,yb,hT⟩,_⟩:=h.bE _ P S hP;refine⟨(ai A.sh.xs k).id.toNat,st (ai A.sh.xs k).id.toNat,tb,P,Ft,by omega,i12,by rw[hP];rfl,few _ P S hP,fun X g=>?_,hT.c0,hT.tab⟩;have:=h.look g (ai A.sh.xs k).id.toNat (by omega);rw[this];unfold lZ;rw[hP];rfl)
 have HE:=af hE;clear h hS bF few hE;generalize iN:A.sh.xs=xs at *;go_in;go_wp2_with fail;refine(Lp _ ((ae.rf W).alloc _)).mono ?_;rintro e w1 ⟨g,cap,rfl,aJ,aR⟩;have hz1:W.heap.size<w1.heap.size:=by have:=aR.size;simp at this;omega
 have l0:w1.cell? ⟨W.heap.size,0,none⟩=some (.string lo):=by rw[aR.cells.1 _ _ (by simp)];simp[go_sem]
 have l1:w1.cell? ⟨W.heap.size,1,none⟩=some (.string hi):=by rw[aR.cells.1 _ _ (by simp)];simp[go_sem]
 have ct:=af (((ae.rf W).alloc _).trans aR);have gI:=af (show g<w1.heap.size/\∀j,j<xs.length->∀q v,(ai xs j).vals[q]? =some v->w1.cell? ⟨g,j*5+q,none⟩=some v by
  refine⟨(aJ.lt g rfl).2,fun j hj q v hv=>?_⟩;have hq:q<5:=(zQ9.1 hv).1;have:=aJ.cellAt (j*5+q) (by omega);rw[this,mF q hq xs j hj,hv])
 clear aJ aR Lp;go_wp2_with fail;obtain⟨wo,rfl⟩:∃wo:World,wo=w1:=⟨_,rfl⟩
 go_loopw [7,17] (fun v i wr=>∃(k m:Nat) (ys:List Pr) (a2:Option Addr) (ep:Nat),k<=xs.length/\v=.slice a2 m ep/\i=.int .i64 k/\Hid (ys=Pl.gG A lo hi aI k)/\Hid (m=ys.length)/\m<=1000*k/\Hid (wr.ownsRow wo.heap.size 62 3 (.slice a2 m ep) m (cq ys))/\ae wo wr) (fun _ i _=>xs.length - (intOf i).toNat);exact⟨0,0,[],none,0,zZ5 _,rfl,rfl,by unfold Hid Pl.gG;simp,by unfold Hid;rfl,zZ5 _,World.ownsRow_nil _ _ _ _,ae.rf _⟩;obtain⟨k,m,ys,a2,ep,fV,rfl,rfl,HY,HM,UN,kM,hG⟩:=hrel;obtain⟨wp,rfl⟩:∃wp:World,wp=wr:=⟨_,rfl⟩
 by_cases az:k<xs.length
 . obtain⟨sS,aJ⟩:=gI.out;have zF:=ct.trans hG;have q0:=(hG.cells.1 g (k*5+0) sS).trans (aJ k az 0 _ rfl);have q1:=(hG.cells.1 g (k*5+1) sS).trans (aJ k az 1 _ rfl);have q2:=(hG.cells.1 g (k*5+2) sS).trans (aJ k az 2 _ rfl);have q3:=(hG.cells.1 g (k*5+3) sS).trans (aJ k az 3 _ rfl);have q4:=(hG.cells.1 g (k*5+4) sS).trans (aJ k az 4 _ rfl);simp only[zX9]at q0;have hgp:=xA9 sS hG.size;have iw:=af (HSC k az);have pW:=HLEN (k+1) (by omega);obtain⟨i,sp,tb,P,Ft,lg,j0x,hP,Ef,hlk,hs0,hT⟩:=HST k az;clear aJ HST HSC HLEN;generalize ai xs k=c at *;obtain⟨cid,csv,csn,clo,chi⟩:=c;dsimp only at *;subst lg;unfold Ln at iw;dsimp only at iw;rw[<-HY.out,hP,<-HM.out]at iw;have Np:=af Ef;have qy:=af hlk;have HT:=af hT;have mN:=af zF;clear hP hlk hT zF Ef;by_cases h0:0<aI
   . by_cases h2:0<aI - (m:Int)
     . have eR:=af (iw.trans (zZ1 ⟨h0,h2⟩));have tI:m+(cD P lo hi (aI - (m:Int))).length<=1000*(k+1):=by
        have:=pW;rw[eR.out,zZ4,<-HM.out]at this;exact this
       clear iw pW;go_upto_region 7 with fail;obtain⟨Y,hY⟩:∃Y,Y=wp.alloc (.cells #[.int .i64 (i:Int),.int .i64 csv,.int .i64 csn,.string clo,.string chi] 100):=⟨_,rfl⟩
       have gY:ae wp Y:=(by rw[hY];exact(ae.rf wp).alloc _);obtain⟨xb,eE⟩:∃xb,xb=wp.heap.size:=⟨_,rfl⟩
       have X0:=bj (show Y.cell? ⟨xb,0,none⟩=some (.int .i64 (i:Int))by rw[hY,eE];simp[go_sem]);rw[<-hY,<-eE];have dg:=af gY;have Aq:=af (mN.trans gY);have JG:=af (hG.trans gY);have Oq:=bf hs0;have A2:=bj ((Aq.cells.1 _ 2 hab).trans c2);have S0:=bj ((Aq.cells.1 _ 0 Oq).trans hs0);have L0:=bj ((JG.cells.1 _ 0 hz1).trans l0);have L1:=bj ((JG.cells.1 _ 1 hz1).trans l1);have hlk:∀p:Wd (ae Y),(Instr.lookup 73 (.map (some mb)) (.int .i64 (i:Int)) false).run prog p.w=.ok (.pointer (some ⟨sp,0,none⟩)) p.w:=fun p=>qy p.w (Aq.trans p.ok);obtain⟨zs,hzs⟩:∃zs,zs=cD P lo hi (aI - (m:Int)):=⟨_,rfl⟩
       have JH:=af (fun X (g:ae Y X)=>z6y Ei E (HE.ah (Aq.trans g)) (HT.ah (Aq.trans g)) (by have:=Np.out;omega) lo hi (aI - (m:Int)) sy tx);rw[<-hzs]at JH tI eR;clear hY eE gY hzs q0 q1 q2 q3 q4;refine kh 14 [13] (ae Y) Eq (JE 13 (ae Y) (fun v u=>ae Y u/\∃a c,v=.slice a zs.length c/\jN u a zs/\qg a c) (fun _=>none)) (fun f a=>a.put (some 44) (f 13)) (JE.aX (ae.rf Y).drew _) (fun L0 _ _ h=>?_) (fun _=>rfl) (fun _ _ _ _ h g=>g▸h) ?_
       . cases hL:L0 13 with
         | false=>exact h.pre hL
         | true=>exact(h.post hL).1
       repeat (first|refine kg ?_|(refine gg ?_;intros;go_big_quiet_op;go_big_quiet_on)|(refine fZ ?_;simp only[Act.put,xB9,xC9,xD9]))
       refine jB (by rfl) ⟨⟨bL rfl (fun _ a=>a) ?_,trivial⟩,?_⟩
       . intro L0' f0 u hJ hL hd;have HJ:=af hJ;have HL:=af hL;clear hJ hL hd X0 A2 S0 L0 L1 hlk;go_simp;have hg:=HJ.pre HL;refine(JH u hg).mono ?_;rintro r u' ⟨⟨v,rfl,aH⟩,aP⟩;obtain⟨av,cv,rfl,Sd⟩:=lT aH;exact⟨_,rfl,HJ.call HL rfl ⟨hg.trans aP,av,cv,rfl,Sd,Ib aH⟩⟩
       intro f0 u hJ;obtain⟨xr,av,cv,kB,Sd,hSF⟩:=hJ.post rfl;have HU:=af (JG.trans xr);have pw:=af (And.intro Sd hSF);have Ot:=af (gP (dg.trans xr) kM);have hwu:=HU.size;obtain⟨zn,Wq⟩:∃zn,zn=zs.length:=⟨_,rfl⟩
       have KW:=af Wq;rw[<-Wq]at tI kB;clear hJ xr Sd hSF X0 A2 S0 L0 L1 hlk JH hs0 Oq Wq;dsimp only[List.drop];simp only[Act.put,xB9,xD9,xC9];rw[kB];clear kB;go_wp2_with (at_builtin;refine Uf rfl _ _ rfl rfl Ot.out rfl KW.out pw.out.1 pw.out.2 (by omega) hwu ?_);intro a' bo w' hown' hgrow';have dJ:=af (And.intro hown' (show ae wo w' from((HU.only _).then (ar.ay hgrow')).ah fun j hj=>by
        have:=(Ot.lt j hj.symm).1;exact this))
       clear hown' hgrow';go_wp2_with fail;go_roundw;case rel=>exact⟨k+1,m+zn,ys++zs,a',bo,by omega,rfl,by go_num,eR.symm,by unfold Hid;rw[zZ4,<-HM.out,KW.out],by omega,dJ.1,dJ.2⟩
       case measure=>simp[intOf];omega
     . have eR:Hid (ys=Pl.gG A lo hi aI (k+1)):=(iw.trans (zZ0 fun q=>h2 q.2)).symm;have h3:aI - (m:Int)<=0:=(by omega);clear iw hs0;go_wp2_with fail;go_roundw;case rel=>exact⟨k+1,m,ys,a2,ep,by omega,rfl,by go_num,eR,HM,by omega,gP ((ae.rf wp).alloc _) kM,hG.alloc _⟩
       case measure=>simp[intOf];omega
   . have eR:Hid (ys=Pl.gG A lo hi aI (k+1)):=(iw.trans (zZ0 fun q=>h0 q.1)).symm;have h3:aI<=0:=(by omega);clear iw hs0;go_wp2_with fail;go_roundw;case rel=>exact⟨k+1,m,ys,a2,ep,by omega,rfl,by go_num,eR,HM,by omega,gP ((ae.rf wp).alloc _) kM,hG.alloc _⟩
     case measure=>simp[intOf];omega
 . obtain rfl:k=xs.length:=(by omega);go_wp2_with fail;go_ret;have e1:ys=Pl.sN A lo hi aI:=HY.trans xp;have e2:m=(Pl.sN A lo hi aI).length:=HM.trans (by rw[e1]);refine⟨ct.trans hG,a2,ep,by rw[<-e2];rfl,?_⟩;rw[<-e2,<-e1];exact mg (by omega) kM
theorem dh.iD {W:World}{L:Nat->Nat}{k ab n:Nat}{A:bC}(h:dh W L k ab n A):∀i P S,A.st i=some (P,S)->Pl.dK P:=fun q P S hq=>by
 obtain⟨sb,mb,nb,f,st,h⟩:=h;obtain⟨_,c,_,_,Ft,Fs,m,_,⟨tb,sb',hT⟩,_⟩:=h.bE q P S hq;exact KY hT.tab
theorem bV.len {A:bC}{m:Nat}(h:bV A m)(hm:m<=120):∀i P S,A.st i=some (P,S)->P.length<=1000:=fun q P S hA=>by
 have hq:=h.lt (i:=q) (by rw[hA];simp);have a:=Ed A.st q (by omega);have b:=h.few;rw[hA]at a;unfold ib at a;dsimp only at a;omega
theorem z2J (E:Nat->Addr){W:World}(hE:bz my E W){L:Nat->Nat}{k ab n m0:Nat}{A:bC}(h:dh W L k ab n A)(bF:bV A m0)(lW:m0<=120)(key:ByteArray)(hk:key.size<=70368744177664):
    Calls prog 16 #[.pointer (some ⟨ab,0,none⟩),.string key] W fun e w'=>e=.returned (.tuple #[((Pl.iR A key).getD Pr.none).agg,.bool (Pl.iR A key).isSome])/\ae W w':=by
 have hl:A.sh.xs.length<=1000:=by have:=bF.inv.len;omega
 by_cases hn:Pl.mU A.sh.xs key<0
 . rw[y7O hn];exact z6D E (Oc hE) h hl key hk hn
 . obtain⟨i,hi,af,P,S,hP,hg⟩:=Wf bF hn;rw[hg];exact z6G E (Oc hE) h hl key hk hn i (by omega) af hP (bF.len lW i P S hP)
theorem dh.apply (E:Nat->Addr){w0 W U:World}(hE:bz my E w0)(g0:ae w0 W)(gU:ae W U){L:Nat->Nat}{k ab n m0:Nat}{A:bC}(h:dh W L k ab n A)(hL:∀j,j<w0.heap.size->L j<k)(bF:bV A m0)(lW:m0<=120)(hn:n<=90000)(e:En)(hA:b7 w0 e)(hz:rJ e)(np:e.key.size<=300)(at':Int):
    Calls prog 11 #[.pointer (some ⟨ab,0,none⟩),e.agg,.int .i64 at'] U fun r w'=>r=.returned (bA E (Pl.fh A e at').1)/\ae w0 w'/\ar (fun j=>cr k (L j)) W w'/\∃L',(∀j,j<W.heap.size->L' j=L j)/\(∀j,W.heap.size<=j->cr k (L' j))/\dh w' L' k ab (n+5) (Pl.fh A e at').2:=by
 have hWU:=gU.size;have h0W:=g0.size;have h1:dh U (fun j=>if j<W.heap.size then L j else k+50) k ab n A:=h.aC (gU.only fun _=>False) (fun _ _ h=>h.elim) fun j hj=>zZ1 hj;have gX:∀X,ar (fun j=>cr k (if j<W.heap.size then L j else k+50)) U X->ae w0 X:=fun X hO=>(((g0.trans gU).only (fun j=>w0.heap.size<=j)).then (hO.mono fun j hj=>by
  by_cases q:j<w0.heap.size
  . rw[zZ1 (by omega)]at hj;have:=hL j q;unfold cr at hj;omega
  . exact .inl (by omega))).ah fun j hj=>hj
 refine(y7Q E (fun X hO=>hE.ah (gX X hO)) h1 bF lW hn e (fun X hO=>hA.ah (gX X hO)) hz np at').mono ?_;rintro r w' ⟨rfl,hO,L',h2,h3,h4⟩;dsimp only at hO h2;refine⟨rfl,gX w' hO,(gU.only _).trans hO (fun j hj=>?_),L',fun j hj=>?_,fun j hj=>?_,h4⟩
 . by_cases q:j<W.heap.size
   . rw[zZ1 q]at hj;exact .inl hj
   . exact .inr (by omega)
 . rw[h2 j (by omega),zZ1 hj]
 . by_cases q:j<U.heap.size
   . rw[h2 j q,zZ0 (by omega)];unfold cr;omega
   . exact h3 j (by omega)
structure OI (w0 W:World)(ab n m:Nat)(A:bC):Prop where
 ah:ae w0 W
 ex:∃L,(∀j,j<w0.heap.size->L j=0)/\(∀j,L j<=200)/\dh W L 1 ab n A
 ok:bV A m
 ev:∀u∈A.sh.evs,u.oneCell'=true
structure j0A (w0 w1 W:World)(ab cb n n2 m m2:Nat)(A C:bC):Prop where
 ah:ae w0 W
 size:w0.heap.size<=w1.heap.size/\w1.heap.size<=W.heap.size
 ex:∃L,(∀j,j<w0.heap.size->L j=0)/\(∀j,j<w1.heap.size->L j<=200)/\dh W L 1 ab n A/\dh W L 201 cb n2 C
 ok:bV A m
 ev:∀u∈A.sh.evs,u.oneCell'=true
 Lu:bV C m2
 ev2:∀u∈C.sh.evs,u.oneCell'=true
section
variable {w0 w1 W U:World}{ab cb n n2 m m2:Nat}{A C:bC}
theorem OI.br (h:OI w0 W ab n m A)(g:ae W U):OI w0 U ab n m A:=by
 obtain⟨L,h1,h2,h3⟩:=h.ex;exact⟨h.ah.trans g,⟨L,h1,h2,h3.ah g⟩,h.ok,h.ev⟩
end
theorem Aw (E:Nat->Addr)(w:World)(hE:bz my E w):Calls prog 6 #[] w fun e w'=>∃ab,e=.returned (.pointer (some ⟨ab,0,none⟩))/\OI w w' ab 1 0 bC.init:=by
 refine(z2W E w (Oc hE)).mono ?_;rintro e w' ⟨ab,rfl,g,h⟩;obtain⟨L',h1,h2,h3⟩:=h 1 (fun _=>0);refine⟨ab,rfl,g,⟨L',h1,fun j=>?_,h3⟩,V9,fun u hu=>by cases hu⟩;rcases zJ7 j w.heap.size with q | q
 . rw[h1 j q];omega
 . have:=h2 j q;unfold cr at this;omega
end
section
attribute [local go_sem] bl
theorem Ax {W:World}{L:Nat->Nat}{k ab n:Nat}{A:bC}(h:dh W L k ab n A)(h0:0<A.sh.xs.length)(hx:A.sh.xs.length<=1000000)(h1:∀u∈A.sh.evs,u.oneCell'=true)(hb:A.sh.ne<=1000000):
    Calls prog 34 #[.pointer (some ⟨ab,0,none⟩)] W fun e w'=>∃cb,e=.returned (.pointer (some ⟨cb,0,none⟩))/\ae W w'/\∃F,gm w' F cb A.sh:=by
 obtain⟨sb,mb,nb,f,st,h⟩:=h;obtain⟨F,hS,_⟩:=h.sh;have c1:=h.c1;have hab:=h.wu;have HC:=af (y9F hS h0 hx h1 hb);clear h hS h0 hx h1 hb;go_in;go_wp2_with fail;refine HC.mono ?_;rintro e w1 ⟨cb,rfl,g,_,F',hF,_⟩;have HF:=af (show ae W w1/\∃F,gm w1 F cb A.sh from⟨g,F',hF⟩);clear g hF HC;go_wp2_with fail;go_ret;exact⟨cb,rfl,HF⟩
def ey (st:Nat->Option (List Pr×(Int->Option An)))(ms:Nat->Nat)(i:Nat):Value:=.pointer ((st i).map fun _=>⟨ms i,0,none⟩)
structure fe (W:World)(L:Nat->Nat)(k al db nb n:Nat)(ms:Nat->Nat)(fa:Lit->Option Value)(D:bG)(A:bC):Prop where
 c0:W.cell? ⟨al,0,none⟩=some (.pointer (some ⟨db,0,none⟩))
 cs:∀i,i<13->W.cell? ⟨al,1+i,none⟩=some (ey A.st ms i)
 cn:W.cell? ⟨al,14,none⟩=some (.map (some nb))
 fz:∀i,W.frozen? ⟨al,i,none⟩=false
 iy:L al=k
 kP:L nb=k+1
 map:∃F,fp W F db D/\∀j,F j->L j=k+2
 la:∃m,m<=n/\bU W prog 3 nb m fa
 bE:∀i P S,A.st i=some (P,S)->i<=12/\∃c∈A.sh.xs,c.id=(i:Int)/\∃G sb Dt,fE W G (ms i) sb c.lo c.hi Dt S/\Pl.Tt P Dt/\∀j,jh G (ms i) sb j->L j=k+20+i
def fT (W:World)(L:Nat->Nat)(k al n:Nat)(fa:Lit->Option Value)(D:bG)(A:bC):Prop:=∃db nb ms,fe W L k al db nb n ms fa D A
theorem xx {W:World}{F:Nat->Prop}{db:Nat}{D:bG}(h:fp W F db D):∀j,F j->j<W.heap.size:=by
 obtain⟨_,_,_,h⟩:=h;exact h.lt
section
variable {W W':World}{L L':Nat->Nat}{T:Nat->Prop}{k al db nb n n':Nat}{ms:Nat->Nat}{fa:Lit->Option Value}{D:bG}{A:bC}
theorem fe.pH (h:fe W L k al db nb n ms fa D A):al<W.heap.size:=bf h.c0
theorem fe.fW (h:fe W L k al db nb n ms fa D A)(hO:ar T W W')(hT:∀j,j<W.heap.size->T j->L j≠k+1)(hL:∀j,j<W.heap.size->L' j=L j){s':dR}{Gm:Nat->Option (List Pr×(Int->Option An))}{SJ:Nat->Nat}{D':bG}(a:Int){an:Lit->Option Value}
    (c0:W'.cell? ⟨al,0,none⟩=some (.pointer (some ⟨db,0,none⟩))) (cs:∀i,i<13->W'.cell? ⟨al,1+i,none⟩=some (ey Gm SJ i)) (cn:W'.cell? ⟨al,14,none⟩=some (.map (some nb))) (fz:∀i,W'.frozen? ⟨al,i,none⟩=false)
    (hmap:∃F,fp W' F db D'/\∀j,F j->L' j=k+2)
    (hst:∀i P S,Gm i=some (P,S)->i<=12/\∃c∈s'.xs,c.id=(i:Int)/\∃G sb Dt,fE W' G (SJ i) sb c.lo c.hi Dt S/\Pl.Tt P Dt/\∀j,jh G (SJ i) sb j->L' j=k+20+i):fe W' L' k al db nb n SJ fa D' ⟨a,s',Gm,an⟩:=by
 obtain⟨m,e,h2⟩:=h.la;exact⟨c0,cs,cn,fz,(hL al h.pH).trans h.iy,(hL nb h2.lt).trans h.kP,hmap,⟨m,e,h2.aC hO fun t=>hT nb h2.lt t h.kP⟩,hst⟩
theorem fe.ak (h:fe W L k al db nb n ms fa D A)(hO:ar T W W')(hL:∀j,j<W.heap.size->L' j=L j){q:Nat}(hT:∀j,j<W.heap.size->T j->L j≠k+20+q){P:List Pr}{S:Int->Option An}(hq:A.st q=some (P,S)):
    q<=12/\∃c∈A.sh.xs,c.id=(q:Int)/\∃G sb Dt,fE W' G (ms q) sb c.lo c.hi Dt S/\Pl.Tt P Dt/\∀j,jh G (ms q) sb j->L' j=k+20+q:=by
 obtain⟨i12,c,hc,bY,G,sb,Dt,hS,oZ,hB⟩:=h.bE q P S hq;have ha:=hS.all;have nk:∀j,jh G (ms q) sb j->¬T j:=fun j hj t=>hT j (ha j hj) t (hB j hj);exact⟨i12,c,hc,bY,G,sb,Dt,hS.aC hO (fun x hx=>nk x (.inl hx)) (nk _ (.inr (.inl rfl))) (nk _ (.inr (.inr rfl))),oZ,fun x hx=>(hL x (ha x hx)).trans (hB x hx)⟩
theorem fe.aC (h:fe W L k al db nb n ms fa D A)(g:ar T W W')(hT:∀j,j<W.heap.size->T j->¬cr k (L j))(hL:∀j,j<W.heap.size->L' j=L j)(a:Int){an:Lit->Option Value}:fe W' L' k al db nb n ms fa D ⟨a,A.sh,A.st,an⟩:=by
 have hab:=h.pH;have tab:¬T al:=fun t=>hT al hab t (by rw[h.iy];unfold cr;omega);obtain⟨F,h3,h4⟩:=h.map;refine h.fW g (fun j hj t e=>hT j hj t (by rw[e];unfold cr;omega)) hL a ((g.cell hab tab 0).trans h.c0) (fun i hi=>(g.cell hab tab _).trans (h.cs i hi)) ((g.cell hab tab 14).trans h.cn) (fun i=>(g.frozen hab tab i).trans (h.fz i)) ⟨F,h3.aC g fun j hj t=>hT j (xx h3 j hj) t (by rw[h4 j hj];unfold cr;omega),fun j hj=>(hL j (xx h3 j hj)).trans (h4 j hj)⟩ fun i P S hi=>?_;have i12:=(h.bE i P S hi).1;exact h.ak g hL (fun j hj t e=>hT j hj t (by rw[e];unfold cr;omega)) hi
theorem fe.mono (h:fe W L k al db nb n ms fa D A)(hn:n<=n'):fe W L k al db nb n' ms fa D A:=by
 obtain⟨m,e,h2⟩:=h.la;exact {h with la:=⟨m,by omega,h2⟩}
theorem fe.answered (h:fe W L k al db nb n ms fa D A)(hO:ar (fun j=>j=nb) W W')(hL:∀j,j<W.heap.size->L' j=L j){SK:Lit->Option Value}{m:Nat}(hm:m<=n')(hl:bU W' prog 3 nb m SK):fe W' L' k al db nb n' ms SK D A:=by
 have hab:=h.pH;have tab:¬al=nb:=fun e=>by have:=h.iy;have:=h.kP;rw[e]at *;omega
 obtain⟨F,h3,h4⟩:=h.map;obtain⟨_,_,h2⟩:=h.la;refine⟨(hO.cell hab tab 0).trans h.c0,fun i hi=>(hO.cell hab tab _).trans (h.cs i hi),(hO.cell hab tab 14).trans h.cn,fun i=>(hO.frozen hab tab i).trans (h.fz i),(hL al hab).trans h.iy,(hL nb h2.lt).trans h.kP,⟨F,h3.aC hO fun j hj e=>by have a:=h4 j hj;have b:=h.kP;rw[e,b]at a;omega,fun j hj=>(hL j (xx h3 j hj)).trans (h4 j hj)⟩,⟨m,hm,hl⟩,fun i P S hi=>?_⟩;exact h.ak hO hL (fun j _ t=>by have b:=h.kP;rw[t,b];omega) hi
theorem fe.turned (h:fe W L k al db nb n ms fa D A){i:Nat}{P:List Pr}{S:Int->Option An}(hi:A.st i=some (P,S))(hO:ar T W W')(hT:∀j,j<W.heap.size->T j->L j=k+20+i)(hL:∀j,j<W.heap.size->L' j=L j){P':List Pr}{S':Int->Option An}
    (hS:∃c∈A.sh.xs,c.id=(i:Int)/\∃G sb Dt,fE W' G (ms i) sb c.lo c.hi Dt S'/\Pl.Tt P' Dt/\∀j,jh G (ms i) sb j->L' j=k+20+i):fe W' L' k al db nb n ms fa D ⟨A.at_,A.sh,fF A.st i (some (P',S')),A.gC⟩:=by
 have hab:=h.pH;have i12:=(h.bE i P S hi).1;obtain⟨F,h3,h4⟩:=h.map;have tab:¬T al:=fun t=>by have a:=hT al hab t;have:=h.iy;omega
 refine h.fW hO (fun j hj t=>by rw[hT j hj t];omega) hL A.at_ ((hO.cell hab tab 0).trans h.c0) (fun j hj=>?_) ((hO.cell hab tab 14).trans h.cn) (fun j=>(hO.frozen hab tab j).trans (h.fz j)) ⟨F,h3.aC hO fun j hj t=>by have a:=hT j (xx h3 j hj) t;have:=h4 j hj;omega,fun j hj=>(hL j (xx h3 j hj)).trans (h4 j hj)⟩ fun j Q U hj=>?_
 . rw[(hO.cell hab tab _).trans (h.cs j hj)];unfold ey;by_cases e:j=i
   . subst e;rw[mv,hi];rfl
   . rw[jW _ _ e]
 . by_cases e:j=i
   . subst e;rw[mv]at hj;cases hj;exact⟨i12,hS⟩
   . rw[jW _ _ e]at hj;exact h.ak hO hL (fun x hx t=>by rw[hT x hx t];omega) hj
theorem fe.moved (h:fe W L k al db nb n ms fa D A){F F':Nat->Prop}(hF:∀j,F j->L j=k+2)(hO:ar F W W'){e:En}{at':Int}(k2:e.ax=2){i:Nat}(hi:i<A.sh.xs.length)(gL:Pl.j7 A.sh.xs e=i){D':bG}(hS:fp W' F' db D')(hF':∀j,F' j->F j\/W.heap.size<=j)(hL:∀j,j<W.heap.size->L' j=L j)(hN:∀j,W.heap.size<=j->L' j=k+2)(az:∀j,F j->j<W.heap.size):
    fe W' L' k al db nb n ms fa D' ⟨A.at_,Pl.bp A.sh e at',A.st,A.gC⟩:=by
 have hab:=h.pH;have tab:¬F al:=fun t=>by have a:=hF al t;have:=h.iy;omega
 refine h.fW hO (fun j _ t=>by rw[hF j t];omega) hL A.at_ ((hO.cell hab tab 0).trans h.c0) (fun j hj=>(hO.cell hab tab _).trans (h.cs j hj)) ((hO.cell hab tab 14).trans h.cn) (fun j=>(hO.frozen hab tab j).trans (h.fz j)) ⟨F',hS,fun j hj=>?_⟩ fun q P S hq=>?_
 . rcases hF' j hj with t | t
   . rw[hL j (az j t),hF j t]
   . exact hN j t
 . obtain⟨i12,c,hc,bY,rest⟩:=h.ak hO hL (q:=q) (fun j _ t=>by rw[hF j t];omega) hq;obtain⟨kk,jC,rfl⟩:=Cg hc;have ex:(Pl.bp A.sh e at').xs=A.sh.xs.set i ⟨(ai A.sh.xs i).id,e.aq,(ai A.sh.xs i).cJ,(ai A.sh.xs i).lo,(ai A.sh.xs i).hi⟩:=by
    unfold Pl.bp;rw[zZ1 k2,gL]
   refine⟨i12,ai (Pl.bp A.sh e at').xs kk,?_,?_,?_⟩
   . rw[ex];exact Pl.lL (by rw[zX8];exact jC)
   . rw[ex,Pl.tU _ _ hi];by_cases e2:kk=i
     . rw[zZ1 e2,<-bY,e2]
     . rw[zZ0 e2];exact bY
   . rw[ex,Pl.tU _ _ hi];by_cases e2:kk=i
     . rw[zZ1 e2];subst e2;exact rest
     . rw[zZ0 e2];exact rest
end
def vB (W:World)(L:Nat->Nat)(k al n:Nat)(fa:Lit->Option Value)(D:bG)(A:bC)(W':World):Prop:=ar (fun j=>cr k (L j)) W W'/\∃L',(∀j,j<W.heap.size->L' j=L j)/\(∀j,W.heap.size<=j->cr k (L' j))/\fT W' L' k al n fa D A
section
variable {W V W':World}{L L1:Nat->Nat}{k al n n':Nat}{fa:Lit->Option Value}{D:bG}{A:bC}
theorem fT.mono (h:fT W L k al n fa D A)(hn:n<=n'):fT W L k al n' fa D A:=by
 obtain⟨db,nb,ms,h⟩:=h;exact⟨db,nb,ms,h.mono hn⟩
theorem fT.aC {L':Nat->Nat}{T:Nat->Prop}(h:fT W L k al n fa D A)(g:ar T W W')(hT:∀j,j<W.heap.size->T j->¬cr k (L j))(hL:∀j,j<W.heap.size->L' j=L j):fT W' L' k al n fa D A:=by
 obtain⟨db,nb,ms,h⟩:=h;exact⟨db,nb,ms,h.aC g hT hL A.at_⟩
theorem fT.ah (h:fT W L k al n fa D A)(g:ae W W'):fT W' L k al n fa D A:=h.aC (g.only fun _=>False) (fun _ _ h=>h.elim) fun _ _=>rfl
theorem fT.any (h:fT W L k al n fa D A)(a:Int){an:Lit->Option Value}:fT W L k al n fa D ⟨a,A.sh,A.st,an⟩:=by
 obtain⟨db,nb,ms,h⟩:=h;exact⟨db,nb,ms,h.aC ((ae.rf W).only fun _=>False) (fun _ _ h=>h.elim) (fun _ _=>rfl) a⟩
theorem vB.mono (h:vB W L k al n fa D A W')(hn:n<=n'):vB W L k al n' fa D A W':=by
 obtain⟨h1,L',h2,h3,h4⟩:=h;exact⟨h1,L',h2,h3,h4.mono hn⟩
end
end
namespace Pl
def inN (A:bC)(n:Nat)(p:Pr):Prop:=∃i P S,i<n/\A.st i=some (P,S)/\p∈P
structure lC (A:bC)(n:Nat)(T:List Pr):Prop where
 ap:T.Pairwise fun a b=>a.key≠b.key
 mem:∀p,p∈T↔inN A n p
 len:T.length=((List.range n).map fun i=>ib (A.st i)).sum
theorem lC.aX (A:bC):lC A 0 []:=⟨List.Pairwise.nil,fun p=>⟨fun h=>(by cases h),fun⟨i,_,_,h,_⟩=>(by omega)⟩,rfl⟩
theorem Xv (g:Nat->Nat)(n:Nat):((List.range (n+1)).map g).sum=((List.range n).map g).sum+g n:=by
 rw[List.range_succ,yX3,List.sum_append];simp only[zJ5,yQ5,List.sum_cons,List.sum_nil,zX9]
theorem lC.skip {A:bC}{n:Nat}{T:List Pr}(h:lC A n T)(hn:A.st n=none):lC A (n+1) T:=by
 refine⟨h.ap,fun p=>?_,?_⟩
 . rw[h.mem];constructor
   . rintro ⟨i,P,S,h1,h2,h3⟩;exact⟨i,P,S,by omega,h2,h3⟩
   . rintro ⟨i,P,S,h1,h2,h3⟩;by_cases e:i=n
     . rw[e,hn]at h2;cases h2
     . exact⟨i,P,S,by omega,h2,h3⟩
 . rw[Xv,hn];exact h.len
theorem Ki {A:bC}{m:Nat}(h:bV A m)(hs:∀i P S,A.st i=some (P,S)->dK P){i j:Nat}{P Q:List Pr}{S T:Int->Option An}(hi:A.st i=some (P,S))(hj:A.st j=some (Q,T)){p q:Pr}(hp:p∈P)(hq:q∈Q)(e:p.key=q.key):i=j:=by
 have h1:rT A p.key i=true:=by unfold rT;rw[hi];dsimp only;rw[Rv (hs i P S hi) hp];rfl
 have h2:rT A p.key j=true:=by unfold rT;rw[hj];dsimp only;rw[e,Rv (hs j Q T hj) hq];rfl
 have a:=(We h hs h1).2;have b:=(We h hs h2).2;rw[a]at b;omega
theorem lC.join {A:bC}{m:Nat}(eK:bV A m)(hs:∀i P S,A.st i=some (P,S)->dK P){n:Nat}{T:List Pr}(h:lC A n T){P Dt:List Pr}{S:Int->Option An}(hn:A.st n=some (P,S))(hT:Tt P Dt):(∀p∈Dt,dU (gB p.key) T= -1)/\lC A (n+1) (T++Dt):=by
 have hne:∀p∈Dt,∀q∈T,q.key≠p.key:=fun p hp q hq e=>by
  obtain⟨i,Q,U,h1,h2,h3⟩:=(h.mem q).1 hq;have:=Ki eK hs h2 hn h3 ((hT.mem p).1 hp) e;omega
 refine⟨fun p hp=>xD _ _ (zK0.2 fun q hq=>?_),?_,fun p=>?_,?_⟩
 . cases hk:gB p.key q with
   | false=>rfl
   | true=>exact absurd ((j6 p.key q).1 hk) (hne p hp q hq)
 . rw[yX7];exact⟨h.ap,hT.ap,fun a ha b hb=>hne b hb a ha⟩
 . rw[zQ8,h.mem,hT.mem];constructor
   . rintro (⟨i,Q,U,h1,h2,h3⟩ | hp)
     . exact⟨i,Q,U,by omega,h2,h3⟩
     . exact⟨n,P,S,by omega,hn,hp⟩
   . rintro ⟨i,Q,U,h1,h2,h3⟩;by_cases e:i=n
     . subst e;rw[hn]at h2;cases h2;exact .inr h3
     . exact .inl ⟨i,Q,U,by omega,h2,h3⟩
 . rw[zZ4,h.len,Xv,hn,<-hT.len];rfl
theorem EE {A:bC}{m:Nat}(h:bV A m)(p:Pr):inN A 13 p↔SL A p:=by
 constructor
 . rintro ⟨i,P,S,_,h2,h3⟩;exact⟨i,P,S,h2,h3⟩
 . rintro ⟨i,P,S,h2,h3⟩;obtain⟨c,hc,af⟩:=h.back i (by rw[h2];simp);have:=h.inv.ids c hc;exact⟨i,P,S,by omega,h2,h3⟩
theorem lC.few {A:bC}{m:Nat}(eK:bV A m){n:Nat}{T:List Pr}(h:lC A n T)(hn:n<=13):T.length<=8*m:=by
 rw[h.len];refine zZ6 ?_ eK.few;unfold Aa;have:∀d,((List.range n).map fun i=>ib (A.st i)).sum<=((List.range (n+d)).map fun i=>ib (A.st i)).sum:=by
  intro d;induction d with
  | zero=>exact zZ3 _
  | succ d ih=>rw[<-yQ1,Xv];omega
 have:=this (13 - n);rwa[show n+(13 - n)=13 by omega]at this
structure wJ (A:bC)(T:List Pr):Prop where
 ap:T.Pairwise fun a b=>a.key≠b.key
 mem:∀p,p∈T↔SL A p
theorem lC.all {A:bC}{m:Nat}(eK:bV A m){T:List Pr}(h:lC A 13 T):wJ A T:=⟨h.ap,fun p=>(h.mem p).trans (EE eK p)⟩
theorem wJ.get {A:bC}{m:Nat}(eK:bV A m)(hs:∀i P S,A.st i=some (P,S)->dK P){T:List Pr}(h:wJ A T)(key:ByteArray):T.find? (gB key)=iR A key:=by
 cases hg:iR A key with
 | some p=>
  obtain⟨h1,h2⟩:=(z0e eK hs key p).1 hg;exact(RH h.ap key p).2 ⟨(h.mem p).2 h1,h2⟩
 | none=>
  cases hf:T.find? (gB key)with
  | none=>rfl
  | some p=>
   obtain⟨h1,h2⟩:=(RH h.ap key p).1 hf;have:=(z0e eK hs key p).2 ⟨(h.mem p).1 h1,h2⟩;rw[hg]at this;cases this
end Pl
section
namespace Pl
theorem EF {c d:Sh}{P Q Dt Du:List Pr}(h:dK (iQ c d P Q)/\(iQ c d P Q).Perm (P++Q))(hP:Tt P Dt)(hQ:Tt Q Du):Tt (iQ c d P Q) (Dt++Du)/\∀p∈Du,dU (gB p.key) Dt= -1:=by
 have hp:(iQ c d P Q).Perm (Dt++Du):=h.2.trans (hP.perm.append hQ.perm);have hap:(Dt++Du).Pairwise fun a b=>a.key≠b.key:=(hp.pairwise_iff fun {a b} (e:a.key≠b.key)=>Ne.symm e).1 (Nn h.1);refine⟨⟨h.1,hap,fun p=>hp.symm.mem_iff⟩,fun p hp=>xD _ _ (zK0.2 fun q hq=>?_)⟩;cases hk:gB p.key q with
 | false=>rfl
 | true=>exact absurd ((j6 p.key q).1 hk) ((yX7.1 hap).2.2 q hq p hp)
end Pl
theorem Px {U:World}{al i:Nat}{u v:Value}(h:U.cell? ⟨al,i,none⟩=some u):(U.setCell ⟨al,i,none⟩ v).cell? ⟨al,i,none⟩=some v/\(∀j,j≠i->(U.setCell ⟨al,i,none⟩ v).cell? ⟨al,j,none⟩=U.cell? ⟨al,j,none⟩)/\(∀j,(U.setCell ⟨al,i,none⟩ v).frozen? ⟨al,j,none⟩=U.frozen? ⟨al,j,none⟩)/\ar (fun j=>j=al) U (U.setCell ⟨al,i,none⟩ v):=
 ⟨World.cell?_setCell_same' _ _ _ (by rw[h];rfl),fun j hj=>World.cell?_setCell_other _ _ _ _ (by intro e;injection e with _ e2;exact hj e2.symm),fun j=>World.frozen?_setCell _ _ _ _,ar.setCell U ⟨al,i,none⟩ v⟩
open Classical in
theorem fe.split {W V U:World}{L:Nat->Nat}{k al db nb n m0:Nat}{ms:Nat->Nat}{fa:Lit->Option Value}{D D':bG}{A:bC}(h:fe W L k al db nb n ms fa D A)(bF:bV A m0){F F':Nat->Prop}(hF:∀j,F j->L j=k+2)(az:∀j,F j->j<W.heap.size)(hO:ar F W V){e:En}{at':Int}(ha:gp A.sh.xs A.sh.aD e at'=true)(k3:e.ax=3)
    (hS:fp V F' db D') (hF':∀j,F' j->F j\/W.heap.size<=j) {P:List Pr} {S:Int->Option An} (hst:A.st e.aj.toNat=some (P,S)) {c:Sh} (hc:c∈A.sh.xs) (bY:c.id=(e.aj.toNat:Int)) {G:Nat->Prop} {sb ob:Nat} {Dt:List Pr} (oZ:Pl.Tt P Dt) (hB:∀j,jh G (ms e.aj.toNat) sb j->L j=k+20+e.aj.toNat) (hBlt:∀j,jh G (ms e.aj.toNat) sb j->j<W.heap.size)
    (hC:Ps V G (ms e.aj.toNat) sb c.lo e.key e.key c.hi (Dt.filter fun p=>!Pl.im e.key p) (Dt.filter (Pl.im e.key)) S ob U):
    ar (fun j=>cr k (L j)) W (U.setCell ⟨al,1+e.ak.toNat,none⟩ (.pointer (some ⟨ob,0,none⟩)))/\∃L',(∀j,j<W.heap.size->L' j=L j)/\(∀j,W.heap.size<=j->cr k (L' j))/\fT (U.setCell ⟨al,1+e.ak.toNat,none⟩ (.pointer (some ⟨ob,0,none⟩))) L' k al n fa D' ⟨A.at_,Pl.bp A.sh e at',Pl.kD A e,A.gC⟩:=by
 have hcb:Pl.jG A.sh.xs A.sh.aD e=true:=by unfold gp at ha;simp only[zZ7]at ha;exact ha.1.1
 obtain⟨hr,i,hi,hf,gL,cH,hk⟩:=qx hcb;obtain⟨hu,o1,o2,hh,hne⟩:A.sh.aD e.ak.toNat=false/\1<=e.ak/\e.ak<=12/\Pl.bk (ai A.sh.xs i).lo (ai A.sh.xs i).hi e.key=true/\e.key.toList≠(ai A.sh.xs i).lo.toList:=by
  rcases hk with k2 | ⟨_,q⟩ | ⟨k4,_⟩
  . omega
  . exact q
  . omega
 have kq:=Pl.lL hi;have wz:=bF.inv.ids _ kq;have lg:c=ai A.sh.xs i:=by
  rw[<-kE bF hc bY,kE bF kq (i:=e.aj.toNat) (by omega)]
 have fG:A.st e.ak.toNat=none:=by
  cases hx:A.st e.ak.toNat with
  | none=>rfl
  | some v=>
   obtain⟨x,hx1,af⟩:=bF.back e.ak.toNat (by rw[hx];simp);have:=(bF.inv.ids x hx1).2.2;rw[af,zQ3,hu]at this;cases this
 have pE:e.aj.toNat≠e.ak.toNat:=fun e1=>by rw[e1,fG]at hst;cases hst
 have es:Pl.kD A e=fF (fF A.st e.aj.toNat (some (P.take (Pl.bN P e.key),S))) e.ak.toNat (some (P.drop (Pl.bN P e.key),S)):=by
  unfold Pl.kD;rw[zZ1 k3,hst]
 have ex:(Pl.bp A.sh e at').xs=Pl.kz A.sh.xs i e.key e.ak e.aq at':=by
  unfold Pl.bp;rw[zZ0 (by omega),zZ1 k3,gL]
 obtain⟨gN,G',Go,cb,hS1,j4,LN,dS⟩:=hC;obtain⟨t1,t2⟩:=oZ.cut e.key;obtain⟨q,hq⟩:∃q,q=e.aj.toNat:=⟨_,rfl⟩
 obtain⟨o,ho⟩:∃o,o=e.ak.toNat:=⟨_,rfl⟩
 have hoi:e.ak=(o:Int):=by omega
 rw[<-hq]at hst bY hB hBlt gN hS1 dS pE es;rw[<-ho]at fG pE es ⊢;have Oi:=hO.size;have hVU:=gN.size;have qB:=h.iy;have uw:=h.pH;have nF:¬F al:=fun t=>by have:=hF al t;omega
 have nG:¬(al=ms q\/G al):=fun t=>by
  have:jh G (ms q) sb al:=t.elim (fun e=> .inr (.inl e)) .inl;have:=hB al this;omega
 have Bg:=xA9 uw Oi;have cu:∀x,U.cell? ⟨al,x,none⟩=W.cell? ⟨al,x,none⟩:=fun x=>(gN.cell Bg nG x).trans (hO.cell uw nF x);have fu:∀x,U.frozen? ⟨al,x,none⟩=W.frozen? ⟨al,x,none⟩:=fun x=>(gN.frozen Bg nG x).trans (hO.frozen uw nF x);obtain⟨s1,s2,s3,kr⟩:=Px (v:=.pointer (some ⟨ob,0,none⟩)) ((cu (1+o)).trans (h.cs o (by omega)));generalize hX:U.setCell ⟨al,1+o,none⟩ (.pointer (some ⟨ob,0,none⟩))=X at *;obtain⟨T,hT⟩:∃T:Nat->Prop,T=fun j=>F j\/jh G (ms q) sb j\/j=al:=⟨_,rfl⟩
 have ug:ar T W X:=by
  rw[hT];refine((hO.mono fun j hj=> .inl (.inl hj)).then (gN.mono fun j hj=> .inl ?_)).then (kr.mono fun j hj=> .inl (.inr (.inr hj)));rcases hj with t | t
  . exact .inr (.inl (.inr (.inl t)))
  . exact .inr (.inl (.inl t))
 have uh:∀j,T j->L j=k+2\/L j=k+20+q\/L j=k:=fun j hj=>by
  rw[hT]at hj;rcases hj with t | t | t
  . exact .inl (hF j t)
  . exact .inr (.inl (hB j t))
  . exact .inr (.inr (by rw[t];exact qB))
 have vg:=(h.bE q P S hst).1;have j0H:=hS1.all;have j0I:=j4.all;have Py:∀{j},(j<W.heap.size->L j≠k)->¬j=al:=fun hj e=>hj (by omega) (by rw[e];exact qB);have Pz:∀j,jh G' (ms q) sb j->jh G (ms q) sb j\/V.heap.size<=j:=fun j hj=>by
  rcases hj with t | t | t
  . exact(LN j t).imp .inl id
  . exact .inl (.inr (.inl t))
  . exact .inl (.inr (.inr t))
 have n1:∀j,jh G' (ms q) sb j->¬j=al:=fun j hj=>Py fun hl=>by
  rcases Pz j hj with t | t
  . rw[hB j t];omega
  . omega
 have n2:∀j,jh Go ob cb j->¬j=al:=fun j hj e=>by have:=(dS j hj).1;omega
 refine⟨ug.mono fun j hj=> .inl (by unfold cr;rcases uh j hj with t | t | t<;> omega),fun j=>if j<W.heap.size then L j else if j<V.heap.size then k+2 else if jh Go ob cb j then k+20+o else k+20+q,fun j hj=>zZ1 hj,fun j hj=>?_,db,nb,fun z=>if z=o then ob else ms z,?_⟩
 . dsimp only;rw[zZ0 (by omega)];unfold cr;repeat' split
   all_goals omega
 refine h.fW ug (fun j _ t=>by rcases uh j t with t | t | t<;> omega) (fun j hj=>zZ1 hj) A.at_ ((s2 0 (by omega)).trans ((cu 0).trans h.c0)) (fun z hz=>?_) ((s2 14 (by omega)).trans ((cu 14).trans h.cn)) (fun z=>(s3 z).trans ((fu z).trans (h.fz z))) ⟨F',(hS.aC gN fun j hj t=>?_).aC kr fun j hj=>Py fun hl=>?_,fun j hj=>?_⟩ (fun z P2 S2 hz=>?_)
 . rw[es];unfold ey;dsimp only;by_cases e1:z=o
   . subst e1;rw[s1,mv,zZ1 rfl];rfl
   . rw[s2 _ (by omega),cu,h.cs z hz,jW _ _ e1,zZ0 e1];unfold ey;by_cases e2:z=q
     . subst e2;rw[mv,hst];rfl
     . rw[jW _ _ e2]
 . have PA:jh G (ms q) sb j:=t.elim (fun e=> .inr (.inl e)) .inl;have a:=hB j PA;have b:=hBlt j PA;rcases hF' j hj with t2 | t2
   . have:=hF j t2;omega
   . omega
 . rcases hF' j hj with t2 | t2
   . rw[hF j t2];omega
   . omega
 . have Jw:=xx hS j hj;rcases hF' j hj with t2 | t2
   . rw[zZ1 (az j t2)];exact hF j t2
   . rw[zZ0 (by omega),zZ1 Jw]
 . rw[es]at hz;by_cases e1:z=o
   . subst e1;rw[mv]at hz;cases hz;refine⟨by omega,⟨e.ak,e.aq,at'+1,e.key,(ai A.sh.xs i).hi⟩,by rw[ex];unfold Pl.kz;simp,hoi,Go,cb,_,?_,t2,fun j hj=>?_⟩
     . rw[zZ1 rfl];rw[lg]at j4;exact j4.aC kr (fun x hx=>n2 x (.inl hx)) (n2 _ (.inr (.inl rfl))) (n2 _ (.inr (.inr rfl)))
     . rw[zZ1 rfl]at hj;have:=(dS j hj).1;rw[zZ0 (by omega),zZ0 (by omega),zZ1 hj]
   . rw[jW _ _ e1]at hz;by_cases e2:z=q
     . subst e2;rw[mv]at hz;cases hz;refine⟨vg,⟨(ai A.sh.xs i).id,(ai A.sh.xs i).aq,at'+1,(ai A.sh.xs i).lo,e.key⟩,by rw[ex];unfold Pl.kz;simp,by rw[<-bY,lg],G',sb,_,?_,t1,fun j hj=>?_⟩
       . rw[zZ0 e1];rw[lg]at hS1;exact hS1.aC kr (fun x hx=>n1 x (.inl hx)) (n1 _ (.inr (.inl rfl))) (n1 _ (.inr (.inr rfl)))
       . rw[zZ0 e1]at hj;rcases Pz j hj with t | t
         . rw[zZ1 (hBlt j t)];exact hB j t
         . rw[zZ0 (by omega),zZ0 (by omega),zZ0 (fun x=>(dS j x).2 hj)]
     . rw[jW _ _ e2]at hz;rw[zZ0 e1];obtain⟨i12,x,hx,l9,rest⟩:=h.ak (L':=fun j=>if j<W.heap.size then L j else if j<V.heap.size then k+2 else if jh Go ob cb j then k+20+o else k+20+q) ug (fun j hj=>zZ1 hj) (q:=z) (fun j _ t=>by rcases uh j t with t | t | t<;> omega) hz;obtain⟨kk,jC,rfl⟩:=Cg hx;have Ag:kk≠i:=fun e3=>e2 (by rw[e3,cH]at l9;omega);exact⟨i12,_,by rw[ex];exact Wb jC Ag,l9,rest⟩
theorem fe.merge {W V U:World}{L:Nat->Nat}{k al db nb n m0:Nat}{ms:Nat->Nat}{fa:Lit->Option Value}{D D':bG}{A:bC}(h:fe W L k al db nb n ms fa D A)(bF:bV A m0){F F':Nat->Prop}(hF:∀j,F j->L j=k+2)(az:∀j,F j->j<W.heap.size)(hO:ar F W V){e:En}{at':Int}(ha:gp A.sh.xs A.sh.aD e at'=true)(k4:e.ax=4)
    (hS:fp V F' db D') (hF':∀j,F' j->F j\/W.heap.size<=j) {P Q:List Pr} {S T:Int->Option An} (hst:A.st e.aj.toNat=some (P,S)) (hsu:A.st e.ak.toNat=some (Q,T)) {c d:Sh} (hc:c∈A.sh.xs) (bY:c.id=(e.aj.toNat:Int)) (hd:d∈A.sh.xs) (pF:d.id=(e.ak.toNat:Int)) {G:Nat->Prop} {sb:Nat} {Dj:List Pr} {J:Int->Option An} (oZ:Pl.Tt (iQ c d P Q) Dj) (hJ:J=dC S (iB T)) (hB:∀j,jh G (ms e.aj.toNat) sb j->L j=k+20+e.aj.toNat) (hBlt:∀j,jh G (ms e.aj.toNat) sb j->j<W.heap.size)
    (hC:rE V G (ms e.aj.toNat) sb (Pl.aW (Pl.bD c.lo c.hi) (Pl.bD d.lo d.hi) c.lo c.hi d.lo d.hi).1 (Pl.aW (Pl.bD c.lo c.hi) (Pl.bD d.lo d.hi) c.lo c.hi d.lo d.hi).2 Dj J U):
    ar (fun j=>cr k (L j)) W (U.setCell ⟨al,1+e.ak.toNat,none⟩ (.pointer none))/\∃L',(∀j,j<W.heap.size->L' j=L j)/\(∀j,W.heap.size<=j->cr k (L' j))/\fT (U.setCell ⟨al,1+e.ak.toNat,none⟩ (.pointer none)) L' k al n fa D' ⟨A.at_,Pl.bp A.sh e at',Pl.kD A e,A.gC⟩:=by
 subst hJ;have hcb:Pl.jG A.sh.xs A.sh.aD e=true:=by unfold gp at ha;simp only[zZ7]at ha;exact ha.1.1
 obtain⟨hr,i,hi,hf,gL,cH,hk⟩:=qx hcb;obtain⟨jj,hj,nI,qQ,gz,hz⟩:∃j,j<A.sh.xs.length/\Pl.aK A.sh.xs e.ak=(j:Nat)/\pU A.sh.xs e=j/\(ai A.sh.xs j).id=e.ak/\Pl.bg (Pl.bD (ai A.sh.xs i).lo (ai A.sh.xs i).hi) (Pl.bD (ai A.sh.xs j).lo (ai A.sh.xs j).hi) (ai A.sh.xs i).lo (ai A.sh.xs i).hi (ai A.sh.xs j).lo (ai A.sh.xs j).hi=0:=by
  rcases hk with k2 | ⟨k3,_⟩ | ⟨_,q⟩
  . omega
  . omega
  . exact q
 clear hk;have Ch:=(zY hr k4).2.2.2.2;have kq:=Pl.lL hi;have pV:=Pl.lL hj;have qz:=bF.inv.ids _ kq;have rP:=bF.inv.ids _ pV;have lQ:i≠jj:=fun e1=>Ch (by rw[<-cH,<-gz,e1]);have hsc:Pl.cB A e.aj.toNat=c:=kE bF hc bY;have Oj:Pl.cB A e.ak.toNat=d:=kE bF hd pF;have lg:c=ai A.sh.xs i:=by rw[<-hsc,kE bF kq (i:=e.aj.toNat) (by omega)]
 have Gn:d=ai A.sh.xs jj:=by rw[<-Oj,kE bF pV (i:=e.ak.toNat) (by omega)]
 have pE:e.aj.toNat≠e.ak.toNat:=fun e1=>Ch (by omega);have es:Pl.kD A e=fF (fF A.st e.aj.toNat (some (iQ c d P Q,dC S (iB T)))) e.ak.toNat none:=by
  unfold Pl.kD;rw[zZ0 (by omega),zZ1 k4,hst,hsu];dsimp only;rw[hsc,Oj]
 have ex:(Pl.bp A.sh e at').xs=Pl.kJ A.sh.xs i jj (Pl.aW (Pl.bD c.lo c.hi) (Pl.bD d.lo d.hi) c.lo c.hi d.lo d.hi) at':=by
  unfold Pl.bp;rw[zZ0 (by omega),zZ0 (by omega),gL,qQ,lg,Gn]
 generalize Pl.aW (Pl.bD c.lo c.hi) (Pl.bD d.lo d.hi) c.lo c.hi d.lo d.hi=vv at *;obtain⟨gN,G',hS1,LN⟩:=hC;obtain⟨q,hq⟩:∃q,q=e.aj.toNat:=⟨_,rfl⟩
 obtain⟨o,ho⟩:∃o,o=e.ak.toNat:=⟨_,rfl⟩
 have hoi:e.ak=(o:Int):=by omega
 rw[<-hq]at hst bY hB hBlt gN hS1 pE es;rw[<-ho]at hsu pE es ⊢;have Oi:=hO.size;have hVU:=gN.size;have qB:=h.iy;have uw:=h.pH;have Xw:∀j,(j=ms q\/j=sb\/G j)->jh G (ms q) sb j:=fun j hj=>by
  rcases hj with t | t | t
  . exact .inr (.inl t)
  . exact .inr (.inr t)
  . exact .inl t
 have nF:¬F al:=fun t=>by have:=hF al t;omega
 have nG:¬(al=ms q\/al=sb\/G al):=fun t=>by have:=hB al (Xw al t);omega
 have Bg:=xA9 uw Oi;have cu:∀x,U.cell? ⟨al,x,none⟩=W.cell? ⟨al,x,none⟩:=fun x=>(gN.cell Bg nG x).trans (hO.cell uw nF x);have fu:∀x,U.frozen? ⟨al,x,none⟩=W.frozen? ⟨al,x,none⟩:=fun x=>(gN.frozen Bg nG x).trans (hO.frozen uw nF x);obtain⟨s1,s2,s3,kr⟩:=Px (v:=.pointer none) ((cu (1+o)).trans (h.cs o (by omega)));generalize hX:U.setCell ⟨al,1+o,none⟩ (.pointer none)=X at *;obtain⟨T',hT⟩:∃T':Nat->Prop,T'=fun j=>F j\/jh G (ms q) sb j\/j=al:=⟨_,rfl⟩
 have ug:ar T' W X:=by
  rw[hT];exact((hO.mono fun j hj=> .inl (.inl hj)).then (gN.mono fun j hj=> .inl (.inr (.inl (Xw j hj))))).then (kr.mono fun j hj=> .inl (.inr (.inr hj)))
 have uh:∀j,T' j->L j=k+2\/L j=k+20+q\/L j=k:=fun j hj=>by
  rw[hT]at hj;rcases hj with t | t | t
  . exact .inl (hF j t)
  . exact .inr (.inl (hB j t))
  . exact .inr (.inr (by rw[t];exact qB))
 have vg:=(h.bE q P S hst).1;have Py:∀{j},(j<W.heap.size->L j≠k)->¬j=al:=fun hj e=>hj (by omega) (by rw[e];exact qB);have Pz:∀j,jh G' (ms q) sb j->jh G (ms q) sb j\/V.heap.size<=j:=fun j hj=>by
  rcases hj with t | t | t
  . exact(LN j t).imp .inl id
  . exact .inl (.inr (.inl t))
  . exact .inl (.inr (.inr t))
 have n1:∀j,jh G' (ms q) sb j->¬j=al:=fun j hj=>Py fun hl=>by
  rcases Pz j hj with t | t
  . rw[hB j t];omega
  . omega
 refine⟨ug.mono fun j hj=> .inl (by unfold cr;rcases uh j hj with t | t | t<;> omega),fun j=>if j<W.heap.size then L j else if j<V.heap.size then k+2 else k+20+q,fun j hj=>zZ1 hj,fun j hj=>?_,db,nb,ms,?_⟩
 . dsimp only;rw[zZ0 (by omega)];unfold cr;repeat' split
   all_goals omega
 refine h.fW ug (fun j _ t=>by rcases uh j t with t | t | t<;> omega) (fun j hj=>zZ1 hj) A.at_ ((s2 0 (by omega)).trans ((cu 0).trans h.c0)) (fun z hz=>?_) ((s2 14 (by omega)).trans ((cu 14).trans h.cn)) (fun z=>(s3 z).trans ((fu z).trans (h.fz z))) ⟨F',(hS.aC gN fun j hj t=>?_).aC kr fun j hj=>Py fun hl=>?_,fun j hj=>?_⟩ (fun z P2 S2 hz=>?_)
 . rw[es];unfold ey;by_cases e1:z=o
   . subst e1;rw[s1,mv];rfl
   . rw[s2 _ (by omega),cu,h.cs z hz,jW _ _ e1];unfold ey;by_cases e2:z=q
     . subst e2;rw[mv,hst];rfl
     . rw[jW _ _ e2]
 . have PA:=Xw j t;have a:=hB j PA;have b:=hBlt j PA;rcases hF' j hj with t2 | t2
   . have:=hF j t2;omega
   . omega
 . rcases hF' j hj with t2 | t2
   . rw[hF j t2];omega
   . omega
 . have Jw:=xx hS j hj;rcases hF' j hj with t2 | t2
   . rw[zZ1 (az j t2)];exact hF j t2
   . rw[zZ0 (by omega),zZ1 Jw]
 . rw[es]at hz;by_cases e1:z=o
   . subst e1;rw[mv]at hz;cases hz
   . rw[jW _ _ e1]at hz;by_cases e2:z=q
     . subst e2;rw[mv]at hz;cases hz;refine⟨vg,_,by rw[ex];exact Pl.Lk hi (k:=i) hi lQ,by rw[zZ1 rfl];dsimp only;rw[<-bY,lg],G',sb,_,?_,oZ,fun j hj=>?_⟩
       . rw[zZ1 rfl];exact hS1.aC kr (fun x hx=>n1 x (.inl hx)) (n1 _ (.inr (.inl rfl))) (n1 _ (.inr (.inr rfl)))
       . rcases Pz j hj with t | t
         . rw[zZ1 (hBlt j t)];exact hB j t
         . rw[zZ0 (by omega),zZ0 (by omega)]
     . rw[jW _ _ e2]at hz;obtain⟨i12,x,hx,l9,rest⟩:=h.ak (L':=fun j=>if j<W.heap.size then L j else if j<V.heap.size then k+2 else k+20+q) ug (fun j hj=>zZ1 hj) (q:=z) (fun j _ t=>by rcases uh j t with t | t | t<;> omega) hz;obtain⟨kk,jC,rfl⟩:=Cg hx;have Ag:kk≠i:=fun e3=>e2 (by rw[e3,cH]at l9;omega);have hkj:kk≠jj:=fun e3=>e1 (by rw[e3,gz]at l9;omega);have:=Pl.Lk (v:=vv) (at':=at') hi (j:=jj) (k:=kk) jC hkj;rw[zZ0 Ag]at this;exact⟨i12,_,by rw[ex];exact this,l9,rest⟩
end
section
attribute [local go_sem] bl
namespace Pl
theorem z1C {xs:List Sh}{us:Nat->Bool}{e:En}{at':Int}(h:gp xs us e at'=true):e.ax≠1:=by
 have hcb:jG xs us e=true:=by unfold gp at h;simp only[zZ7]at h;exact h.1.1
 obtain⟨_,_,_,_,_,_,hk⟩:=qx hcb;rcases hk with k2 | ⟨k3,_⟩ | ⟨k4,_⟩<;> omega
theorem z3Q {D:bG}{e:En}{at':Int}(h:ft D e at'=true):e.ax≠1:=by
 have hcb:ji D e=true:=by unfold ft at h;simp only[zZ7]at h;exact h.1.1
 obtain⟨_,_,_,_,hk⟩:=y8a hcb;rcases hk with k2 | ⟨k3,_⟩ | ⟨k4,_⟩<;> omega
theorem z5L (A:bC){e:En}{at':Int}(hr:cK e=true)(hat:¬(at'<A.at_\/at'<0\/4096<=at')):(fh A e at').2.sh=zW A.sh e at':=by
 unfold fh;rw[zZ0 (by rw[hr];simp),zZ0 hat];unfold zW;by_cases k1:e.ax=1
 . rw[zZ1 k1,zZ0 fun h=>z1C h k1];split<;> rfl
 . rw[zZ0 k1];split<;> rfl
theorem z2f {D:bG}{e:En}{at':Int}(k1:e.ax=1):fw D e at'=D:=by
 unfold fw;rw[zZ0 fun h=>z3Q h k1]
end Pl
def Kj (A:bC)(e:En)(at':Int):Value:=
 match A.st e.aj.toNat with
 | none=> .agg #[.int .i64 3,.int .i64 0]
 | some (P,S)=>fQ (Pl.gj (Pl.cB A e.aj.toNat).lo (Pl.cB A e.aj.toNat).hi P S e at').cI (Pl.gj (Pl.cB A e.aj.toNat).lo (Pl.cB A e.aj.toNat).hi P S e at').at_
noncomputable def wK (fa:Lit->Option Value)(A:bC)(e:En)(at':Int):Lit->Option Value:=if e.ax=1 then fB fa (bt at') (some (Kj A e at'))else fa
theorem y9t {W:World}{L:Nat->Nat}{k al n:Nat}{fa:Lit->Option Value}{D:bG}{A:bC}(h:fT W L k al n fa D A)(e:En)(hk:e.ax=1)(hs0:1<=e.aj)(hs1:e.aj<=12)(hst:A.st e.aj.toNat=none)(at':Int)(h0:0<=at')(h1:at'<4096)(hn:n<=1000000):
    Calls prog 28 #[.pointer (some ⟨al,0,none⟩),e.agg,.int .i64 at'] W fun r w'=>r=.returned (.tuple #[])/\vB W L k al (n+1) (fB fa (bt at') (some (.agg #[.int .i64 3,.int .i64 0]))) D A w':=by
 obtain⟨db,nb,ms,h⟩:=h;obtain⟨q,hq⟩:∃q:Nat,e.aj=q:=⟨e.aj.toNat,by omega⟩
 have cS:=h.cs q (by omega);rw[show ey A.st ms q=.pointer none by unfold ey;rw[hq,zQ3]at hst;rw[hst];rfl]at cS;have cN:=h.cn;have hab:=bf cN;have HH:=af h;have Kk:q<=12:=by omega
 have j0J:(q:Int)<13:=by omega
 clear h hst hs0 hs1;obtain⟨ax,aj,ak,aq,aw,seq,key,aM,aL,aA,ops,aN,aS,aF,aB,aG⟩:=e;unfold En.agg En.vals;dsimp only at *;subst hk hq;go_in;go_upto_region 2 with fail;obtain⟨Y,hY⟩:∃Y,Y=W.alloc (.cells #[.int .i64 1,.int .i64 q,.int .i64 ak,.int .i64 aq,.int .i64 aw,.int .i64 seq,.slice aN ops.length aS,.string key,.int .i64 aM,.int .i64 aL,.int .i64 aA,.slice aF aB aG] 36):=⟨_,rfl⟩
 have gY:ae W Y:=by rw[hY];exact(ae.rf W).alloc _
 obtain⟨xb,eE⟩:∃xb,xb=W.heap.size:=⟨_,rfl⟩
 have X1:=bj (show Y.cell? ⟨xb,1,none⟩=some (.int .i64 q)by rw[hY,eE];simp[go_sem]);have AS:=bj ((gY.cells.1 _ _ hab).trans cS);have dg:=af gY;rw[<-hY,<-eE];clear hY gY eE cS;refine pO 8 ?_;repeat (first|(refine gg ?_;intros;go_big_quiet_op;go_big_quiet_on)|(refine fZ ?_;simp only[Act.put,xB9,xC9,xD9]))
 refine rv ?_;intro u iH;have HU:=af (dg.trans iH);have dN:=(HU.cells.1 _ 14 hab).trans cN;have ud:=xA9 hab HU.size;obtain⟨m,hm,rU⟩:=HH.la;obtain⟨w2,hrun,r1,r2⟩:=(rU.ah HU).store (val:=.agg #[.int .i64 3,.int .i64 0]) ng underlying56 (by unfold maxLen;omega) (keyOf_int_mk underlying3 (qH (c:=at') (by omega) (by omega)));have eH:=af hrun;have HR:=af (And.intro r1 (And.intro r2 hm));clear iH X1 AS hrun r1 r2 rU hm;dsimp only[List.drop];go_wp2_with (at_mapUpdate;refine H3 rfl _ _ _ rfl rfl rfl rfl eH.out ?_);refine wZ1 (v:=.tuple #[]) (by simp[results,results28,go_sem]) rfl ?_;have hO:ar (fun j=>j=nb) u w2:=ar.eh HR.2.1;refine⟨rfl,((HU.only _).then (hO.mono fun j hj=> .inl (by rw[hj];unfold cr;have:=HH.kP;omega))),fun j=>if j<W.heap.size then L j else k+50,fun j hj=>zZ1 hj,fun j hj=>?_,db,nb,ms,?_⟩
 . dsimp only;rw[zZ0 (by omega)];unfold cr;omega
 . have hr:=HH.aC (L':=fun j=>if j<W.heap.size then L j else k+50) (HU.only fun _=>False) (fun _ _ h=>h.elim) (fun j hj=>zZ1 hj) A.at_ (an:=A.gC);exact hr.answered hO (fun _ _=>rfl) (by have:=HR.2.2;omega) HR.1
def Xy (i:Nat):Option (Value->Value):=if i=9 then some id else if i=10 then some (oh 0)else if i=11 then some (oh 1)else none
theorem z0Y {W:World}{L:Nat->Nat}{k al n m0:Nat}{fa:Lit->Option Value}{D:bG}{A:bC}(h:fT W L k al n fa D A)(bF:bV A m0)(lW:m0<=120)(e:En)(hA:b7 W e)(hs:∀o∈e.ops,o.key.size<=16777216)(Cc:∀o∈e.ops,o.val.size<=140737488351232)(hk:e.ax=1)(hs0:1<=e.aj)(hs1:e.aj<=12){P:List Pr}{S:Int->Option An}(hst:A.st e.aj.toNat=some (P,S))(at':Int)(h0:0<=at')(h1:at'<4096)(hn:n<=1000000):
    Calls prog 28 #[.pointer (some ⟨al,0,none⟩),e.agg,.int .i64 at'] W fun r w'=>r=.returned (.tuple #[])/\vB W L k al (n+1) (fB fa (bt at') (some (fQ (Pl.gj (Pl.cB A e.aj.toNat).lo (Pl.cB A e.aj.toNat).hi P S e at').cI (Pl.gj (Pl.cB A e.aj.toNat).lo (Pl.cB A e.aj.toNat).hi P S e at').at_))) D ⟨A.at_,A.sh,fF A.st e.aj.toNat (some ((Pl.gj (Pl.cB A e.aj.toNat).lo (Pl.cB A e.aj.toNat).hi P S e at').P,(Pl.gj (Pl.cB A e.aj.toNat).lo (Pl.cB A e.aj.toNat).hi P S e at').S)),A.gC⟩ w':=by
 obtain⟨db,nb,ms,h⟩:=h;obtain⟨q,hq⟩:∃q:Nat,e.aj=q:=⟨e.aj.toNat,by omega⟩
 have Kk:q<=12:=by omega
 have EG:e.aj.toNat=q:=by omega
 rw[EG]at hst ⊢;obtain⟨i12,c,hc,bY,G,sb,Dt,hS,oZ,hB⟩:=h.bE q P S hst;have qT:=kE bF hc bY;rw[qT];have hsz:=bF.sz c hc;have Ef:P.length<=1000:=by
  have a:=Ed A.st q (by omega);have b:=bF.few;rw[hst]at a;unfold ib at a;dsimp only at a;omega
 have hl:=oZ.len;have Jp:=af (fun X (g:ae W X)=>y9K e (fun _=>hA.ah g) hs Cc at' (hS.ah g) oZ (by omega) (by omega) (by omega));have cS:=h.cs q (by omega);rw[show ey A.st ms q=.pointer (some ⟨ms q,0,none⟩)by unfold ey;rw[hst];rfl]at cS;have cN:=h.cn;have hab:=bf cN;have rU:=hS.all;have HH:=af h;have HC:=af (And.intro hc bY);have HB:=af (And.intro hst (And.intro hB rU));have Ak:∀j,(j=ms q\/j=sb\/G j)->jh G (ms q) sb j:=fun j hj=>by
  rcases hj with t | t | t
  . exact .inr (.inl t)
  . exact .inr (.inr t)
  . exact .inl t
 have Xd:=af Ak;have kQ:¬(al=ms q\/al=sb\/G al):=fun t=>by have:=hB al (Ak al t);have:=h.iy;omega
 have Xz:¬(nb=ms q\/nb=sb\/G nb):=fun t=>by have:=hB nb (Ak nb t);have:=h.kP;omega
 have nY:∀j,W.heap.size<=j->¬(j=ms q\/j=sb\/G j):=fun j hj t=>by have:=rU j (Ak j t);omega
 unfold fQ at Jp ⊢;generalize Pl.gj c.lo c.hi P S e at'=wr at *;obtain⟨wc,wa,we,wP,wS⟩:=wr;dsimp only at *;generalize hmq:ms q=mq at *;have HMQ:=af hmq;clear h hst qT hsz Ef hl hA hs Cc hS oZ hB rU Ak bF hc bY hs0 hs1 EG hmq i12;obtain⟨ax,aj,ak,aq,aw,seq,key,aM,aL,aA,ops,aN,aS,aF,aB,aG⟩:=e;unfold En.agg En.vals at *;dsimp only at *;subst hk hq;go_in;go_upto_region 2 with fail;obtain⟨Y,hY⟩:∃Y,Y=W.alloc (.cells #[.int .i64 1,.int .i64 q,.int .i64 ak,.int .i64 aq,.int .i64 aw,.int .i64 seq,.slice aN ops.length aS,.string key,.int .i64 aM,.int .i64 aL,.int .i64 aA,.slice aF aB aG] 36):=⟨_,rfl⟩
 have gY:ae W Y:=by rw[hY];exact(ae.rf W).alloc _
 obtain⟨xb,eE⟩:∃xb,xb=W.heap.size:=⟨_,rfl⟩
 have HX:=af (show ∀i v,(#[.int .i64 1,.int .i64 q,.int .i64 ak,.int .i64 aq,.int .i64 aw,.int .i64 seq,.slice aN ops.length aS,.string key,.int .i64 aM,.int .i64 aL,.int .i64 aA,.slice aF aB aG]:Array Value)[i]? =some v->Y.cell? ⟨xb,i,none⟩=some v from fun i v hv=>by
  rw[hY,eE,wQ1 _ _ i _ _ _ (wZ0 W _)];simpa using hv)
 have ez:=nY xb (by omega);have X1:=bj (HX 1 _ rfl);have AS:=bj ((gY.cells.1 _ _ hab).trans cS);have dg:=af gY;have ir:xb<Y.heap.size:=by rw[hY,eE];simp
 have Al:=af (show W.heap.size<=xb by omega);rw[<-hY,<-eE];clear hY gY eE cS;refine pO 8 ?_;repeat (first|(refine gg ?_;intros;go_big_quiet_op;go_big_quiet_on)|(refine fZ ?_;simp only[Act.put,xB9,xC9,xD9]))
 refine rv ?_;intro y Jn;have ED:=af (dg.trans Jn);have xy:=af (fun(i:Nat) v hv=>(Jn.cells.1 _ i ir).trans (HX i v hv));have dN:=(ED.cells.1 _ 14 hab).trans cN;have j0K:=xA9 hab ED.size;have hxy:=xA9 ir Jn.size;clear Jn X1 AS;dsimp only[List.drop];go_upto_region 5 with fail;obtain⟨m,hm,ni⟩:=HH.la;have mY:¬((xb=mq\/xb=sb\/G xb)\/xb=nb):=fun t=>t.elim ez fun e=>by have:=ni.lt;have:=Al.out;omega
 have XA:¬((al=mq\/al=sb\/G al)\/al=nb):=fun t=>t.elim kQ fun e=>by have a:=HH.iy;have b:=HH.kP;rw[e]at a;omega
 have X0:=bu (S:=fun j=>(j=mq\/j=sb\/G j)\/j=nb) (xy 0 _ rfl) mY;have X1:=bu (S:=fun j=>(j=mq\/j=sb\/G j)\/j=nb) (xy 1 _ rfl) mY;have X2:=bu (S:=fun j=>(j=mq\/j=sb\/G j)\/j=nb) (xy 2 _ rfl) mY;have X3:=bu (S:=fun j=>(j=mq\/j=sb\/G j)\/j=nb) (xy 3 _ rfl) mY;have X4:=bu (S:=fun j=>(j=mq\/j=sb\/G j)\/j=nb) (xy 4 _ rfl) mY;have X5:=bu (S:=fun j=>(j=mq\/j=sb\/G j)\/j=nb) (xy 5 _ rfl) mY;have X6:=bu (S:=fun j=>(j=mq\/j=sb\/G j)\/j=nb) (xy 6 _ rfl) mY;have X7:=bu (S:=fun j=>(j=mq\/j=sb\/G j)\/j=nb) (xy 7 _ rfl) mY;have X8:=bu (S:=fun j=>(j=mq\/j=sb\/G j)\/j=nb) (xy 8 _ rfl) mY;have X9:=bu (S:=fun j=>(j=mq\/j=sb\/G j)\/j=nb) (xy 9 _ rfl) mY;have oq:=bu (S:=fun j=>(j=mq\/j=sb\/G j)\/j=nb) (xy 10 _ rfl) mY;have ow:=bu (S:=fun j=>(j=mq\/j=sb\/G j)\/j=nb) (xy 11 _ rfl) mY;have AN:=bu (S:=fun j=>(j=mq\/j=sb\/G j)\/j=nb) dN XA;have BU:=af (And.intro ni hm);obtain⟨RW,wT⟩:∃RW:Value->World->Prop,RW=fun v u=>∃Y',ae y Y'/\∃D',rE Y' G mq sb c.lo c.hi D' wS u/\Pl.Tt wP D':=⟨_,rfl⟩
 obtain⟨QW,Kl⟩:∃QW:Value->World->Prop,QW=fun v u=>∃u0,RW v u0/\ar (fun j=>j=nb) u0 u/\bU u prog 3 nb (m+1) (fB fa (bt at') (some (.agg #[.int .i64 wc,.int .i64 wa]))):=⟨_,rfl⟩
 have wU:=af wT;have PB:=af Kl;have EH:∀v u,RW v u->ar (fun j=>j=mq\/j=sb\/G j) y u:=fun v u q=>by
  rw[wT]at q;obtain⟨Y',g,D',⟨hO,_⟩,_⟩:=q;exact(g.only _).then hO
 have XB:=af EH;have PC:∀v u,QW v u->ar (fun j=>(j=mq\/j=sb\/G j)\/j=nb) y u:=fun v u q=>by
  rw[Kl]at q;obtain⟨u0,q1,q2,_⟩:=q;exact((EH v u0 q1).mono fun j hj=> .inl (.inl hj)).then (q2.mono fun j hj=> .inl (.inr hj))
 have lS:=af (show JF 8 12 (ae y) (fun v=>v=.tuple #[.agg #[.int .i64 wc,.int .i64 wa],.int .i64 (we:Nat)]) RW QW Xy (fun _=>false) (fun _=>undef) y.drew from JF.aX (ae.rf y).drew _);have PD:∀L f u,JF 8 12 (ae y) (fun v=>v=.tuple #[.agg #[.int .i64 wc,.int .i64 wa],.int .i64 (we:Nat)]) RW QW Xy L f u->ar (fun j=>(j=mq\/j=sb\/G j)\/j=nb) y u:=fun L f u h=>by
  cases hL:L 8 with
  | false=>exact(h.pre hL).only _
  | true=>
   cases hL2:L 12 with
   | false=>exact(EH _ _ (h.mid hL hL2)).mono fun j hj=> .inl (.inl hj)
   | true=>exact PC _ _ (h.post hL2)
 clear wT Kl EH PC ni hm;refine kh 13 [8,9,10,11,12] (ar (fun j=>(j=mq\/j=sb\/G j)\/j=nb) y) Eq (JF 8 12 (ae y) (fun v=>v=.tuple #[.agg #[.int .i64 wc,.int .i64 wa],.int .i64 (we:Nat)]) RW QW Xy) (fun f a=>(((a.put (some 34) (f 8)).put (some 25) (f 9)).put (some 35) (f 10)).put (some 36) (f 11)) lS PD (fun _=>rfl) (fun _ _ _ _ h g=>g▸h) ?_;clear PD lS;repeat (first|refine kg ?_|(refine gg ?_;intros;go_big_quiet_op;go_big_quiet_on)|(refine fZ ?_;simp only[Act.put,xB9,xC9,xD9]))
 refine rv ⟨⟨bL rfl (fun _ a=>a) ?_,bL rfl (fun f a=>a.put (some 34) (f 8)) ?_,bL rfl (fun f a=>a.put (some 25) (f 9)) ?_,bL rfl (fun f a=>a.put (some 25) (f 9)) ?_,bL rfl (fun f a=>((a.put (some 34) (f 8)).put (some 25) (f 9)).put (some 35) (f 10)) ?_,trivial⟩,?_⟩
 . intro L f u hJ hL hd;have HJ:=af hJ;have HL:=af hL;clear hJ hL hd X0 X1 X2 X3 X4 X5 X6 X7 X8 X9 oq ow AN;go_simp;have hg:=HJ.pre HL;refine(Jp u (ED.trans hg)).mono ?_;rintro r u' ⟨rfl,D',hM,hT⟩;exact⟨_,rfl,HJ.call HL rfl (by decide) rfl (by rw[wU.out];exact⟨u,hg,D',hM,hT⟩)⟩
 . intro L f u hJ hL hd;have HC:=af (hd 8 rfl (by decide));have HJ:=af hJ;clear hJ hL hd X0 X1 X2 X3 X4 X5 X6 X7 X8 X9 oq ow AN;go_simp;exact HJ.put 9 HC (by decide) (by decide) (fun g hg=>by cases hg;rfl)
 . intro L f u hJ hL hd;have h9:=hd 9 rfl (by decide);have HC:=af (hJ.ord 9 _ rfl h9);have HJ:=af hJ;have e8:=hJ.form HC;have e9:=hJ.val 9 _ rfl h9;rw[e8]at e9;have XC:=af e8;clear hJ hL hd h9 X0 X1 X2 X3 X4 X5 X6 X7 X8 X9 oq ow AN e8;rw[e9];clear e9;dsimp only[id];go_simp;exact HJ.put 10 HC (by decide) (by decide) (fun g hg=>by cases hg;rw[XC.out];rfl)
 . intro L f u hJ hL hd;have h9:=hd 9 rfl (by decide);have HC:=af (hJ.ord 9 _ rfl h9);have HJ:=af hJ;have e8:=hJ.form HC;have e9:=hJ.val 9 _ rfl h9;rw[e8]at e9;have XC:=af e8;clear hJ hL hd h9 X0 X1 X2 X3 X4 X5 X6 X7 X8 X9 oq ow AN e8;rw[e9];clear e9;dsimp only[id];go_simp;exact HJ.put 11 HC (by decide) (by decide) (fun g hg=>by cases hg;rw[XC.out];rfl)
 . intro L f u hJ hL hd;have h10:=hd 10 rfl (by decide);have hC:=hJ.ord 10 _ rfl h10;have e8:=hJ.form hC;have oV:=hJ.val 10 _ rfl h10;rw[e8]at oV;have hR:=hJ.mid hC hL;have hO:=XB _ _ hR;obtain⟨w2,hrun,r1,r2⟩:=(BU.1.aC ((ED.only _).then hO) Xz).store (val:=f 10) ng underlying56 (by have:=BU.2;unfold maxLen;omega) (keyOf_int_mk underlying3 (qH (c:=at') (by omega) (by omega)));refine z1a _ _ _ rfl rfl rfl rfl hrun fun v=>hJ.turn hC (by decide) rfl v ?_;rw[PB.out];refine⟨u,hR,ar.eh r2,?_⟩;rw[oV]at r1;exact r1
 intro f9 u hJ;have e8:=hJ.form rfl;have e9:=hJ.val 9 _ rfl rfl;have oV:=hJ.val 10 _ rfl rfl;have e11:=hJ.val 11 _ rfl rfl;rw[e8]at e9 oV e11;dsimp only[id]at e9;have PE:f9 10=.agg #[.int .i64 wc,.int .i64 wa]:=oV;have Am:f9 11=.int .i64 (we:Nat):=e11;have hQ:=hJ.post rfl;rw[PB.out]at hQ;obtain⟨u0,PF,hOn,hLn⟩:=hQ;rw[wU.out]at PF;obtain⟨Y',oo,D',⟨iJ,G',hS1,LN⟩,px⟩:=PF;have hs1:=ED.size;have hs2:=oo.size;have HOW:=af (show ar (fun j=>j=mq\/j=sb\/G j) W u0 from(((ED.trans oo).only _).then iJ));have HR:=af (And.intro hLn (And.intro hOn BU.2));have sJ:=af (show fE u0 G' mq sb c.lo c.hi D' wS/\(∀j,G' j->G j\/W.heap.size<=j)/\Pl.Tt wP D' from⟨hS1,fun j hj=>(LN j hj).imp id fun q=>by omega,px⟩);clear hJ iJ hS1 LN px oV e11 hOn hLn X0 X1 X2 X3 X4 X5 X6 X7 X8 X9 oq ow AN oo;dsimp only[List.drop];simp only[Act.put,xB9,xD9,xC9];rw[e8,e9,PE,Am];clear e8 e9 PE Am;go_wp2_with fail;refine wZ1 (v:=.tuple #[]) (by simp[results,results28,go_sem]) rfl ?_;obtain⟨hS1,gh,px⟩:=sJ.out;have hO:=HR.2.1;have DX:=HOW.size;have hws:=hO.size;have GN:∀j,(j=mq\/j=sb\/G j)->L j=k+20+q:=fun j hj=>HB.2.1 j (Xd j hj);refine⟨rfl,((HOW.mono fun j hj=> .inl ?_).then (hO.mono fun j hj=> .inl ?_)),fun j=>if j<W.heap.size then L j else k+20+q,fun j hj=>zZ1 hj,fun j hj=>?_,db,nb,ms,?_⟩
 . unfold cr;rw[GN j hj];omega
 . rw[hj];unfold cr;have:=HH.kP;omega
 . dsimp only;rw[zZ0 (by omega)];unfold cr;omega
 . have hr:=HH.turned (W':=u0) (L':=fun j=>if j<W.heap.size then L j else k+20+q) (i:=q) HB.1 HOW (fun j _ hj=>GN j hj) (fun j hj=>zZ1 hj) (P':=wP) (S':=wS) ⟨c,HC.1,HC.2,G',sb,D',by rw[HMQ.out];exact hS1,px,fun j hj=>by
    rw[HMQ.out]at hj;have old:∀x,jh G mq sb x->(if x<W.heap.size then L x else k+20+q)=k+20+q:=fun x hx=>by rw[zZ1 (HB.2.2 x hx)];exact HB.2.1 x hx
    rcases hj with t | t
    . rcases gh j t with t2 | t2
      . exact old j (.inl t2)
      . exact zZ0 (by omega)
    . exact old j (.inr t)⟩
   exact hr.answered hO (fun _ _=>rfl) (by have:=HR.2.2;omega) HR.1
def XD (v:Value):Value:=match v with | .bool b=> .bool (!b) | _=>undef
def GP (i:Nat):Option (Value->Value):=if i=7 then some XD else none
theorem fe.mapped {W W':World}{L L':Nat->Nat}{k al db nb n:Nat}{ms:Nat->Nat}{fa:Lit->Option Value}{D D':bG}{A:bC}(h:fe W L k al db nb n ms fa D A){F F':Nat->Prop}(hF:∀j,F j->L j=k+2)(az:∀j,F j->j<W.heap.size)(hO:ar F W W')(hS:fp W' F' db D')(hF':∀j,F' j->F j\/W.heap.size<=j)(hL:∀j,j<W.heap.size->L' j=L j)(hN:∀j,W.heap.size<=j->L' j=k+2):fe W' L' k al db nb n ms fa D' A:=by
 have hab:=h.pH;have tab:¬F al:=fun t=>by have a:=hF al t;have:=h.iy;omega
 refine h.fW hO (fun j _ t=>by rw[hF j t];omega) hL A.at_ ((hO.cell hab tab 0).trans h.c0) (fun j hj=>(hO.cell hab tab _).trans (h.cs j hj)) ((hO.cell hab tab 14).trans h.cn) (fun j=>(hO.frozen hab tab j).trans (h.fz j)) ⟨F',hS,fun j hj=>?_⟩ fun q P S hq=>?_
 . rcases hF' j hj with t | t
   . rw[hL j (az j t),hF j t]
   . exact hN j t
 . exact h.ak hO hL (q:=q) (fun j _ t=>by rw[hF j t];omega) hq
theorem z6g {W:World}{L:Nat->Nat}{k:Nat}(j:Nat)(hj:W.heap.size<=j):cr k (if j<W.heap.size then L j else k+2):=by
 rw[zZ0 (by omega)];unfold cr;omega
theorem z3O {W:World}{L:Nat->Nat}{k al n m0:Nat}{fa:Lit->Option Value}{D:bG}{A:bC}(h:fT W L k al n fa D A)(bF:bV A m0)(lW:m0<=120)(kX:Pl.Twin A.sh D)(e:En)(hA:b7 W e)(hs:ly e)(np:e.key.size<=300)(hk:e.ax≠1)(at':Int)(ha:gp A.sh.xs A.sh.aD e at'=false):
    Calls prog 28 #[.pointer (some ⟨al,0,none⟩),e.agg,.int .i64 at'] W fun r w'=>r=.returned (.tuple #[])/\vB W L k al n fa (Pl.fw D e at') A w':=by
 obtain⟨db,nb,ms,h⟩:=h;obtain⟨F,ux,hF⟩:=h.map;have oB:=SC kX bF.inv (fun c hc=>bF.sz c hc) (by omega);have hap:ft D e at'=false:=by rw[O9 kX bF.inv];exact ha
 have vp:=af (fun X (g:ae W X)=>SI (ux.ah g) oB e (hA.ah g) hs at');rw[hap]at vp;generalize Pl.fw D e at'=D' at *;have pD:=xx ux;have kQ:¬F al:=fun t=>by have:=hF al t;have:=h.iy;omega
 have nY:∀j,W.heap.size<=j->¬F j:=fun j hj t=>by have:=pD j t;omega
 have cZ:=h.c0;have hab:=bf cZ;have HH:=af h;have um:=af (And.intro hF pD);clear h ux hF pD bF kX oB hap ha hA hs np;obtain⟨ax,aj,ak,aq,aw,seq,key,aM,aL,aA,ops,aN,aS,aF,aB,aG⟩:=e;unfold En.agg En.vals at *;dsimp only at *;have hkb:(ax==1)=false:=wZ3.2 hk;clear hk;go_in;go_upto_region 6 with fail;obtain⟨Y,hY⟩:∃Y,Y=W.alloc (.cells #[.int .i64 ax,.int .i64 aj,.int .i64 ak,.int .i64 aq,.int .i64 aw,.int .i64 seq,.slice aN ops.length aS,.string key,.int .i64 aM,.int .i64 aL,.int .i64 aA,.slice aF aB aG] 36):=⟨_,rfl⟩
 have gY:ae W Y:=by rw[hY];exact(ae.rf W).alloc _
 obtain⟨xb,eE⟩:∃xb,xb=W.heap.size:=⟨_,rfl⟩
 have HX:=af (show ∀i v,(#[.int .i64 ax,.int .i64 aj,.int .i64 ak,.int .i64 aq,.int .i64 aw,.int .i64 seq,.slice aN ops.length aS,.string key,.int .i64 aM,.int .i64 aL,.int .i64 aA,.slice aF aB aG]:Array Value)[i]? =some v->Y.cell? ⟨xb,i,none⟩=some v from fun i v hv=>by
  rw[hY,eE,wQ1 _ _ i _ _ _ (wZ0 W _)];simpa using hv)
 have ir:xb<Y.heap.size:=by rw[hY,eE];simp
 have ez:=nY xb (by omega);have Al:=af (show W.heap.size<=xb by omega);have dg:=af gY;have aZ:=(gY.cells.1 _ 0 hab).trans cZ;rw[<-hY,<-eE];clear hY gY eE;have X0:=bu (S:=F) (HX 0 _ rfl) ez;have X1:=bu (S:=F) (HX 1 _ rfl) ez;have X2:=bu (S:=F) (HX 2 _ rfl) ez;have X3:=bu (S:=F) (HX 3 _ rfl) ez;have X4:=bu (S:=F) (HX 4 _ rfl) ez;have X5:=bu (S:=F) (HX 5 _ rfl) ez;have X6:=bu (S:=F) (HX 6 _ rfl) ez;have X7:=bu (S:=F) (HX 7 _ rfl) ez;have X8:=bu (S:=F) (HX 8 _ rfl) ez;have X9:=bu (S:=F) (HX 9 _ rfl) ez;have oq:=bu (S:=F) (HX 10 _ rfl) ez;have ow:=bu (S:=F) (HX 11 _ rfl) ez;have AZ:=bu (S:=F) aZ kQ;have lS:=af (show JE 6 (ae Y) (fun v u=>v=.bool false/\∃Y',ae Y Y'/\oA Y' F db D' u) GP (fun _=>false) (fun _=>undef) Y.drew from JE.aX (ae.rf Y).drew _);refine kh 8 [6,7] (ar F Y) Eq (JE 6 (ae Y) (fun v u=>v=.bool false/\∃Y',ae Y Y'/\oA Y' F db D' u) GP) (fun f a=>(a.put (some 43) (f 6)).put (some 44) (f 7)) lS (fun L _ _ h=>?_) (fun _=>rfl) (fun _ _ _ _ h g=>g▸h) ?_
 . cases hL:L 6 with
   | false=>exact(h.pre hL).only _
   | true=>
    obtain⟨_,Y',g,hO,_⟩:=h.post hL;exact(g.only _).then hO
 repeat (first|refine kg ?_|(refine gg ?_;intros;go_big_quiet_op;go_big_quiet_on)|(refine fZ ?_;simp only[Act.put,xB9,xC9,xD9]))
 refine rv ⟨⟨bL rfl (fun _ a=>a) ?_,bL rfl (fun f a=>a.put (some 43) (f 6)) ?_,trivial⟩,?_⟩
 . intro L f u hJ hL hd;have HJ:=af hJ;have HL:=af hL;clear hJ hL hd X0 X1 X2 X3 X4 X5 X6 X7 X8 X9 oq ow AZ;go_simp;have hg:=HJ.pre HL;refine(vp u (dg.trans hg)).mono ?_;rintro r u' ⟨rfl,hM⟩;exact⟨_,rfl,HJ.call HL rfl ⟨rfl,u,hg,hM⟩⟩
 . intro L f u hJ hL hd;have h6:=hd 6 rfl (by decide);have HC:=af h6;have HJ:=af hJ;have e6:=(hJ.post h6).1;have xw:=af e6;clear hJ hL hd h6 X0 X1 X2 X3 X4 X5 X6 X7 X8 X9 oq ow AZ;rw[e6];clear e6;go_simp;exact HJ.put 7 HC (by decide) (fun g hg=>by cases hg;rw[xw.out];rfl)
 intro f6 u hJ;obtain⟨e6,Y',oo,iJ,F',ua,iu⟩:=hJ.post rfl;have e7:=hJ.val 7 _ rfl rfl;rw[e6]at e7;have Bh:f6 7=.bool true:=e7;have kL:ar F Y u:=(oo.only _).then iJ;have HOW:=af (show ar F W u from(dg.only _).then kL);have hs1:=dg.size;have hs2:=oo.size;have Bi:=af (show fp u F' db D'/\∀j,F' j->F j\/W.heap.size<=j from⟨ua,fun j hj=>(iu j hj).imp id fun q=>by omega⟩);have xz:=af (fun(i:Nat) v hv=>(kL.cell ir ez i).trans (HX i v hv));have wB:=xA9 ir kL.size;clear hJ iJ ua iu e7 X0 X1 X2 X3 X4 X5 X6 X7 X8 X9 oq ow AZ oo kL lS aZ;dsimp only[List.drop];simp only[Act.put,xB9,xD9,xC9];rw[e6,Bh];clear e6 Bh;go_wp2_with fail;refine wZ1 (v:=.tuple #[]) (by simp[results,results28,go_sem]) rfl ?_;refine⟨rfl,HOW.mono fun j hj=> .inl (by unfold cr;rw[um.out.1 j hj];omega),fun j=>if j<W.heap.size then L j else k+2,fun j hj=>zZ1 hj,fun j hj=>z6g j hj,db,nb,ms,?_⟩;exact HH.mapped um.1 um.2 HOW Bi.1 Bi.2 (fun j hj=>zZ1 hj) (fun j hj=>zZ0 (by omega))
theorem z0L {W:World}{L:Nat->Nat}{k al n m0:Nat}{fa:Lit->Option Value}{D:bG}{A:bC}(h:fT W L k al n fa D A)(bF:bV A m0)(lW:m0<=120)(kX:Pl.Twin A.sh D)(e:En)(hA:b7 W e)(hs:ly e)(np:e.key.size<=300)(hk:e.ax=2)(at':Int)(ha:gp A.sh.xs A.sh.aD e at'=true):
    Calls prog 28 #[.pointer (some ⟨al,0,none⟩),e.agg,.int .i64 at'] W fun r w'=>r=.returned (.tuple #[])/\vB W L k al n fa (Pl.fw D e at') ⟨A.at_,Pl.bp A.sh e at',Pl.kD A e,A.gC⟩ w':=by
 obtain⟨db,nb,ms,h⟩:=h;obtain⟨F,ux,hF⟩:=h.map;have oB:=SC kX bF.inv (fun c hc=>bF.sz c hc) (by omega);have hap:ft D e at'=true:=by rw[O9 kX bF.inv];exact ha
 have vp:=af (fun X (g:ae W X)=>SI (ux.ah g) oB e (hA.ah g) hs at');rw[hap]at vp;generalize Pl.fw D e at'=D' at *;have pD:=xx ux;have kQ:¬F al:=fun t=>by have:=hF al t;have:=h.iy;omega
 have nY:∀j,W.heap.size<=j->¬F j:=fun j hj t=>by have:=pD j t;omega
 have cZ:=h.c0;have hab:=bf cZ;have HH:=af h;have um:=af (And.intro hF pD);have hcb:Pl.jG A.sh.xs A.sh.aD e=true:=by unfold gp at ha;simp only[zZ7]at ha;exact ha.1.1
 obtain⟨hr,i,hi,hf,gL,cH,jC⟩:=qx hcb;have es:Pl.kD A e=A.st:=by unfold Pl.kD;rw[zZ0 (by omega),zZ0 (by omega)]
 rw[es];have dJ:=af (fun(u:World) (F':Nat->Prop) (hO:ar F W u) (hM:fp u F' db D') (hF':∀j,F' j->F j\/W.heap.size<=j)=>h.moved hF hO hk hi gL hM hF' (L':=fun j=>if j<W.heap.size then L j else k+2) (at':=at') (fun j hj=>zZ1 hj) (fun j hj=>zZ0 (by omega)) pD);generalize Pl.bp A.sh e at'=ds at *;clear h ux hF pD bF kX oB hap ha hA hs np hcb hr hi hf gL cH jC es;obtain⟨ax,aj,ak,aq,aw,seq,key,aM,aL,aA,ops,aN,aS,aF,aB,aG⟩:=e;unfold En.agg En.vals at *;dsimp only at *;subst hk;go_in;go_upto_region 6 with fail;obtain⟨Y,hY⟩:∃Y,Y=W.alloc (.cells #[.int .i64 2,.int .i64 aj,.int .i64 ak,.int .i64 aq,.int .i64 aw,.int .i64 seq,.slice aN ops.length aS,.string key,.int .i64 aM,.int .i64 aL,.int .i64 aA,.slice aF aB aG] 36):=⟨_,rfl⟩
 have gY:ae W Y:=by rw[hY];exact(ae.rf W).alloc _
 obtain⟨xb,eE⟩:∃xb,xb=W.heap.size:=⟨_,rfl⟩
 have HX:=af (show ∀i v,(#[.int .i64 2,.int .i64 aj,.int .i64 ak,.int .i64 aq,.int .i64 aw,.int .i64 seq,.slice aN ops.length aS,.string key,.int .i64 aM,.int .i64 aL,.int .i64 aA,.slice aF aB aG]:Array Value)[i]? =some v->Y.cell? ⟨xb,i,none⟩=some v from fun i v hv=>by
  rw[hY,eE,wQ1 _ _ i _ _ _ (wZ0 W _)];simpa using hv)
 have ir:xb<Y.heap.size:=by rw[hY,eE];simp
 have ez:=nY xb (by omega);have Al:=af (show W.heap.size<=xb by omega);have dg:=af gY;have aZ:=(gY.cells.1 _ 0 hab).trans cZ;rw[<-hY,<-eE];clear hY gY eE;have X0:=bu (S:=F) (HX 0 _ rfl) ez;have X1:=bu (S:=F) (HX 1 _ rfl) ez;have X2:=bu (S:=F) (HX 2 _ rfl) ez;have X3:=bu (S:=F) (HX 3 _ rfl) ez;have X4:=bu (S:=F) (HX 4 _ rfl) ez;have X5:=bu (S:=F) (HX 5 _ rfl) ez;have X6:=bu (S:=F) (HX 6 _ rfl) ez;have X7:=bu (S:=F) (HX 7 _ rfl) ez;have X8:=bu (S:=F) (HX 8 _ rfl) ez;have X9:=bu (S:=F) (HX 9 _ rfl) ez;have oq:=bu (S:=F) (HX 10 _ rfl) ez;have ow:=bu (S:=F) (HX 11 _ rfl) ez;have AZ:=bu (S:=F) aZ kQ;have lS:=af (show JE 6 (ae Y) (fun v u=>v=.bool true/\∃Y',ae Y Y'/\oA Y' F db D' u) GP (fun _=>false) (fun _=>undef) Y.drew from JE.aX (ae.rf Y).drew _);refine kh 8 [6,7] (ar F Y) Eq (JE 6 (ae Y) (fun v u=>v=.bool true/\∃Y',ae Y Y'/\oA Y' F db D' u) GP) (fun f a=>(a.put (some 43) (f 6)).put (some 44) (f 7)) lS (fun L _ _ h=>?_) (fun _=>rfl) (fun _ _ _ _ h g=>g▸h) ?_
 . cases hL:L 6 with
   | false=>exact(h.pre hL).only _
   | true=>
    obtain⟨_,Y',g,hO,_⟩:=h.post hL;exact(g.only _).then hO
 repeat (first|refine kg ?_|(refine gg ?_;intros;go_big_quiet_op;go_big_quiet_on)|(refine fZ ?_;simp only[Act.put,xB9,xC9,xD9]))
 refine rv ⟨⟨bL rfl (fun _ a=>a) ?_,bL rfl (fun f a=>a.put (some 43) (f 6)) ?_,trivial⟩,?_⟩
 . intro L f u hJ hL hd;have HJ:=af hJ;have HL:=af hL;clear hJ hL hd X0 X1 X2 X3 X4 X5 X6 X7 X8 X9 oq ow AZ;go_simp;have hg:=HJ.pre HL;refine(vp u (dg.trans hg)).mono ?_;rintro r u' ⟨rfl,hM⟩;exact⟨_,rfl,HJ.call HL rfl ⟨rfl,u,hg,hM⟩⟩
 . intro L f u hJ hL hd;have h6:=hd 6 rfl (by decide);have HC:=af h6;have HJ:=af hJ;have e6:=(hJ.post h6).1;have xw:=af e6;clear hJ hL hd h6 X0 X1 X2 X3 X4 X5 X6 X7 X8 X9 oq ow AZ;rw[e6];clear e6;go_simp;exact HJ.put 7 HC (by decide) (fun g hg=>by cases hg;rw[xw.out];rfl)
 intro f6 u hJ;obtain⟨e6,Y',oo,iJ,F',ua,iu⟩:=hJ.post rfl;have e7:=hJ.val 7 _ rfl rfl;rw[e6]at e7;have Bh:f6 7=.bool false:=e7;have kL:ar F Y u:=(oo.only _).then iJ;have HOW:=af (show ar F W u from(dg.only _).then kL);have hs1:=dg.size;have hs2:=oo.size;have Bi:=af (show fp u F' db D'/\∀j,F' j->F j\/W.heap.size<=j from⟨ua,fun j hj=>(iu j hj).imp id fun q=>by omega⟩);have xz:=af (fun(i:Nat) v hv=>(kL.cell ir ez i).trans (HX i v hv));have wB:=xA9 ir kL.size;clear hJ iJ ua iu e7 X0 X1 X2 X3 X4 X5 X6 X7 X8 X9 oq ow AZ oo kL lS aZ;dsimp only[List.drop];simp only[Act.put,xB9,xD9,xC9];rw[e6,Bh];clear e6 Bh;have k0:=xz 0 _ rfl;go_wp2_with fail;go_end0;refine⟨rfl,HOW.mono fun j hj=> .inl (by unfold cr;rw[um.out.1 j hj];omega),fun j=>if j<W.heap.size then L j else k+2,fun j hj=>zZ1 hj,fun j hj=>z6g j hj,db,nb,ms,?_⟩;exact dJ u F' HOW Bi.1 Bi.2
def XE (i:Nat):Option (Value->Value):=if i=13 then some id else if i=14 then some (oh 0)else if i=15 then some (oh 1)else none
theorem y8E {W:World}{L:Nat->Nat}{k al n m0:Nat}{fa:Lit->Option Value}{D:bG}{A:bC}(h:fT W L k al n fa D A)(bF:bV A m0)(lW:m0<=120)(kX:Pl.Twin A.sh D)(e:En)(hA:b7 W e)(hs:ly e)(np:e.key.size<=300)(hk:e.ax=3)(at':Int)(ha:gp A.sh.xs A.sh.aD e at'=true):
    Calls prog 28 #[.pointer (some ⟨al,0,none⟩),e.agg,.int .i64 at'] W fun r w'=>r=.returned (.tuple #[])/\vB W L k al n fa (Pl.fw D e at') ⟨A.at_,Pl.bp A.sh e at',Pl.kD A e,A.gC⟩ w':=by
 obtain⟨db,nb,ms,h⟩:=h;obtain⟨F,ux,hF⟩:=h.map;have oB:=SC kX bF.inv (fun c hc=>bF.sz c hc) (by omega);have hap:ft D e at'=true:=by rw[O9 kX bF.inv];exact ha
 have vp:=af (fun X (g:ae W X)=>SI (ux.ah g) oB e (hA.ah g) hs at');rw[hap]at vp;generalize Pl.fw D e at'=D' at *;have pD:=xx ux;have kQ:¬F al:=fun t=>by have:=hF al t;have:=h.iy;omega
 have nY:∀j,W.heap.size<=j->¬F j:=fun j hj t=>by have:=pD j t;omega
 have cZ:=h.c0;have hab:=bf cZ;have HH:=af h;have um:=af (And.intro hF pD);have hcb:Pl.jG A.sh.xs A.sh.aD e=true:=by unfold gp at ha;simp only[zZ7]at ha;exact ha.1.1
 obtain⟨hr,i,hi,hf,gL,cH,jC⟩:=qx hcb;obtain⟨hu,o1,o2,hh,hne⟩:A.sh.aD e.ak.toNat=false/\1<=e.ak/\e.ak<=12/\Pl.bk (ai A.sh.xs i).lo (ai A.sh.xs i).hi e.key=true/\e.key.toList≠(ai A.sh.xs i).lo.toList:=by
  rcases jC with k2 | ⟨_,q⟩ | ⟨k4,_⟩
  . omega
  . exact q
  . omega
 have kq:=Pl.lL hi;have wz:=bF.inv.ids _ kq;obtain⟨P,S,hP,iG⟩:=bF.dom _ kq;rw[cH]at hP wz;obtain⟨i12,c,hc,bY,G,sb,Dt,mX,oZ,hB⟩:=h.bE _ P S hP;have lg:c=ai A.sh.xs i:=by rw[<-kE bF hc bY,kE bF kq (i:=e.aj.toNat) (by omega)]
 have hsz:=bF.sz c hc;have fG:A.st e.ak.toNat=none:=by
  cases hx:A.st e.ak.toNat with
  | none=>rfl
  | some v=>
   obtain⟨x,hx1,af⟩:=bF.back e.ak.toNat (by rw[hx];simp);have:=(bF.inv.ids x hx1).2.2;rw[af,zQ3,hu]at this;cases this
 have Ef:P.length<=1000:=by
  have a:=Ed A.st e.aj.toNat (by omega);have b:=bF.few;rw[hP]at a;unfold ib at a;dsimp only at a;omega
 have hcut:Pl.eA (Pl.fJ c.lo c.hi) (Pl.aT e.key) (Pl.fN c.lo c.hi e.key) c.lo e.key=0:=by
  rw[B4,Rk,lg];exact Pl.RT hh hne
 have hBl:=mX.all;have dJ:=af (fun(V U:World) (F':Nat->Prop) (ob:Nat) (hO:ar F W V) (hM:fp V F' db D') (hF':∀j,F' j->F j\/W.heap.size<=j) (hC:Ps V G (ms e.aj.toNat) sb c.lo e.key e.key c.hi (Dt.filter fun p=>!Pl.im e.key p) (Dt.filter (Pl.im e.key)) S ob U)=>h.split bF hF pD hO ha hk hM hF' hP hc bY oZ hB hBl hC);have Km:=af (fun(X:World) (h2:fE X G (ms e.aj.toNat) sb c.lo c.hi Dt S)=>z0m h2 e.key (by have:=oZ.len;omega) hsz.1 hsz.2 np);rw[hcut]at Km;obtain⟨q,hq⟩:∃q:Nat,e.aj=q:=⟨e.aj.toNat,by omega⟩
 obtain⟨o,ho⟩:∃o:Nat,e.ak=o:=⟨e.ak.toNat,by omega⟩
 have EG:e.aj.toNat=q:=by omega
 have LO:e.ak.toNat=o:=by omega
 have pE:q≠o:=fun e1=>by rw[LO,<-e1,<-EG,hP]at fG;cases fG
 rw[EG]at hP dJ Km hB hBl mX;rw[LO]at dJ fG;have cQ:=h.cs q (by omega);rw[show ey A.st ms q=.pointer (some ⟨ms q,0,none⟩)by unfold ey;rw[hP];rfl]at cQ;have cO:=h.cs o (by omega);have fO:=h.fz (1+o);generalize ms q=mq at *;generalize Pl.bp A.sh e at'=dn at *;generalize Pl.kD A e=cg at *;have Kk:q<=12:=by omega
 have Mm:o<=12:=by omega
 have vA:∀j,(j=mq\/G j)->jh G mq sb j:=fun j hj=>hj.elim (fun e=> .inr (.inl e)) .inl;have oC:¬(al=mq\/G al):=fun t=>by have:=hB al (vA al t);have:=h.iy;omega
 have Bj:∀j,jh G mq sb j->¬F j:=fun j hj t=>by have:=hB j hj;have:=hF j t;omega
 have vC:=af (And.intro vA (And.intro Bj hBl));have HST:=af mX;clear h ux hF pD bF kX oB hap ha hA hs np hcb hr hi hf gL cH jC hu o1 o2 hh hne kq wz iG bY lg hsz Ef hcut hBl mX hB oZ hc hP fG i12 EG LO vA Bj;obtain⟨ax,aj,ak,aq,aw,seq,key,aM,aL,aA,ops,aN,aS,aF,aB,aG⟩:=e;unfold En.agg En.vals at *;dsimp only at *;subst hk hq ho;go_in;go_upto_region 6 with fail;obtain⟨Y,hY⟩:∃Y,Y=W.alloc (.cells #[.int .i64 3,.int .i64 q,.int .i64 o,.int .i64 aq,.int .i64 aw,.int .i64 seq,.slice aN ops.length aS,.string key,.int .i64 aM,.int .i64 aL,.int .i64 aA,.slice aF aB aG] 36):=⟨_,rfl⟩
 have gY:ae W Y:=by rw[hY];exact(ae.rf W).alloc _
 obtain⟨xb,eE⟩:∃xb,xb=W.heap.size:=⟨_,rfl⟩
 have HX:=af (show ∀i v,(#[.int .i64 3,.int .i64 q,.int .i64 o,.int .i64 aq,.int .i64 aw,.int .i64 seq,.slice aN ops.length aS,.string key,.int .i64 aM,.int .i64 aL,.int .i64 aA,.slice aF aB aG]:Array Value)[i]? =some v->Y.cell? ⟨xb,i,none⟩=some v from fun i v hv=>by
  rw[hY,eE,wQ1 _ _ i _ _ _ (wZ0 W _)];simpa using hv)
 have ir:xb<Y.heap.size:=by rw[hY,eE];simp
 have ez:=nY xb (by omega);have Al:=af (show W.heap.size<=xb by omega);have dg:=af gY;have aZ:=(gY.cells.1 _ 0 hab).trans cZ;rw[<-hY,<-eE];clear hY gY eE;have X0:=bu (S:=F) (HX 0 _ rfl) ez;have X1:=bu (S:=F) (HX 1 _ rfl) ez;have X2:=bu (S:=F) (HX 2 _ rfl) ez;have X3:=bu (S:=F) (HX 3 _ rfl) ez;have X4:=bu (S:=F) (HX 4 _ rfl) ez;have X5:=bu (S:=F) (HX 5 _ rfl) ez;have X6:=bu (S:=F) (HX 6 _ rfl) ez;have X7:=bu (S:=F) (HX 7 _ rfl) ez;have X8:=bu (S:=F) (HX 8 _ rfl) ez;have X9:=bu (S:=F) (HX 9 _ rfl) ez;have oq:=bu (S:=F) (HX 10 _ rfl) ez;have ow:=bu (S:=F) (HX 11 _ rfl) ez;have AZ:=bu (S:=F) aZ kQ;have lS:=af (show JE 6 (ae Y) (fun v u=>v=.bool true/\∃Y',ae Y Y'/\oA Y' F db D' u) GP (fun _=>false) (fun _=>undef) Y.drew from JE.aX (ae.rf Y).drew _);refine kh 8 [6,7] (ar F Y) Eq (JE 6 (ae Y) (fun v u=>v=.bool true/\∃Y',ae Y Y'/\oA Y' F db D' u) GP) (fun f a=>(a.put (some 43) (f 6)).put (some 44) (f 7)) lS (fun L _ _ h=>?_) (fun _=>rfl) (fun _ _ _ _ h g=>g▸h) ?_
 . cases hL:L 6 with
   | false=>exact(h.pre hL).only _
   | true=>
    obtain⟨_,Y',g,hO,_⟩:=h.post hL;exact(g.only _).then hO
 repeat (first|refine kg ?_|(refine gg ?_;intros;go_big_quiet_op;go_big_quiet_on)|(refine fZ ?_;simp only[Act.put,xB9,xC9,xD9]))
 refine rv ⟨⟨bL rfl (fun _ a=>a) ?_,bL rfl (fun f a=>a.put (some 43) (f 6)) ?_,trivial⟩,?_⟩
 . intro L f u hJ hL hd;have HJ:=af hJ;have HL:=af hL;clear hJ hL hd X0 X1 X2 X3 X4 X5 X6 X7 X8 X9 oq ow AZ;go_simp;have hg:=HJ.pre HL;refine(vp u (dg.trans hg)).mono ?_;rintro r u' ⟨rfl,hM⟩;exact⟨_,rfl,HJ.call HL rfl ⟨rfl,u,hg,hM⟩⟩
 . intro L f u hJ hL hd;have h6:=hd 6 rfl (by decide);have HC:=af h6;have HJ:=af hJ;have e6:=(hJ.post h6).1;have xw:=af e6;clear hJ hL hd h6 X0 X1 X2 X3 X4 X5 X6 X7 X8 X9 oq ow AZ;rw[e6];clear e6;go_simp;exact HJ.put 7 HC (by decide) (fun g hg=>by cases hg;rw[xw.out];rfl)
 intro f6 u hJ;obtain⟨e6,Y',oo,iJ,F',ua,iu⟩:=hJ.post rfl;have e7:=hJ.val 7 _ rfl rfl;rw[e6]at e7;have Bh:f6 7=.bool false:=e7;have kL:ar F Y u:=(oo.only _).then iJ;have HOW:=af (show ar F W u from(dg.only _).then kL);have hs1:=dg.size;have hs2:=oo.size;have Bi:=af (show fp u F' db D'/\∀j,F' j->F j\/W.heap.size<=j from⟨ua,fun j hj=>(iu j hj).imp id fun q=>by omega⟩);have xz:=af (fun(i:Nat) v hv=>(kL.cell ir ez i).trans (HX i v hv));have wB:=xA9 ir kL.size;clear hJ iJ ua iu e7 X0 X1 X2 X3 X4 X5 X6 X7 X8 X9 oq ow AZ oo kL lS aZ;dsimp only[List.drop];simp only[Act.put,xB9,xD9,xC9];rw[e6,Bh];clear e6 Bh;have k0:=xz 0 _ rfl;go_upto_region 9 with fail;have aQ:=(HOW.cell hab kQ _).trans cQ;have aO:=(HOW.cell hab kQ _).trans cO;have fO:=(HOW.frozen hab kQ _).trans fO;have mZ:=bf aQ;have EI:=af (HST.aC HOW (fun j hj=>vC.2.1 j (.inl hj)) (vC.2.1 _ (.inr (.inl rfl))) (vC.2.1 _ (.inr (.inr rfl))));obtain⟨I,hI⟩:∃I:World->Prop,I=fun x=>ar (fun j=>(j=mq\/G j)\/j=al) u x/\x.cell? ⟨al,1+q,none⟩=some (.pointer (some ⟨mq,0,none⟩)):=⟨_,rfl⟩
 have Cn:∀x,I x->ar (fun j=>(j=mq\/G j)\/j=al) u x/\x.cell? ⟨al,1+q,none⟩=some (.pointer (some ⟨mq,0,none⟩)):=fun x h=>by rw[hI]at h;exact h
 have EC:∀x,ar (fun j=>(j=mq\/G j)\/j=al) u x->x.cell? ⟨al,1+q,none⟩=some (.pointer (some ⟨mq,0,none⟩))->I x:=fun x h h2=>by rw[hI];exact⟨h,h2⟩
 clear hI;have uy:¬((xb=mq\/G xb)\/xb=al):=fun t=>by
  have:=Al.out;rcases t with t | t
  . have:=vC.2.2 xb (vC.1 xb t);omega
  . omega
 have x1:=xz 1 _ rfl;have x2:=xz 2 _ rfl;have x7:=xz 7 _ rfl;have Z1:∀p:Wd I,p.w.cell? ⟨xb,1,none⟩=some (.int .i64 q):=fun p=>((Cn p.w p.ok).1.cell wB uy _).trans x1;have Z2:∀p:Wd I,p.w.cell? ⟨xb,2,none⟩=some (.int .i64 o):=fun p=>((Cn p.w p.ok).1.cell wB uy _).trans x2;have Z7:∀p:Wd I,p.w.cell? ⟨xb,7,none⟩=some (.string key):=fun p=>((Cn p.w p.ok).1.cell wB uy _).trans x7;have ZQ:∀p:Wd I,p.w.cell? ⟨al,1+q,none⟩=some (.pointer (some ⟨mq,0,none⟩)):=fun p=>(Cn p.w p.ok).2;have pq:Nonempty (Wd I):=⟨⟨u,EC u ((ae.rf u).only _) aQ⟩⟩
 obtain⟨RW,wT⟩:∃RW:Value->World->Prop,RW=fun v x=>∃ob,v=.tuple #[.pointer (some ⟨ob,0,none⟩),.int .i64 0]/\∃Y',ae u Y'/\Ps Y' G mq sb c.lo key key c.hi (Dt.filter fun p=>!Pl.im key p) (Dt.filter (Pl.im key)) S ob x:=⟨_,rfl⟩
 obtain⟨QW,Kl⟩:∃QW:Value->World->Prop,QW=fun v x=>∃ob,v=.tuple #[.pointer (some ⟨ob,0,none⟩),.int .i64 0]/\∃x0,RW v x0/\x=x0.setCell ⟨al,1+o,none⟩ (.pointer (some ⟨ob,0,none⟩)):=⟨_,rfl⟩
 have wU:=af wT;have PB:=af Kl;have EH:∀v x,RW v x->ar (fun j=>j=mq\/G j) u x:=fun v x r=>by
  rw[wT]at r;obtain⟨ob,_,Y',g,hO,_⟩:=r;exact(g.only _).then hO
 have XB:=af EH;have PC:∀v x,QW v x->I x:=fun v x r=>by
  rw[Kl]at r;obtain⟨ob,_,x0,r0,rfl⟩:=r;have hO:=EH v x0 r0;have a1:=(hO.cell mZ oC _).trans aO;refine EC _ ((hO.mono fun j hj=> .inl (.inl hj)).then ((ar.setCell x0 ⟨al,1+o,none⟩ _).mono fun j hj=> .inl (.inr hj))) ?_;rw[(Px a1).2.1 _ (by omega)];exact(hO.cell mZ oC _).trans aQ
 have hVF:∀v x,RW v x->∃ob,v=.tuple #[.pointer (some ⟨ob,0,none⟩),.int .i64 0]:=fun v x r=>by
  rw[wT]at r;obtain⟨ob,e,_⟩:=r;exact⟨ob,e⟩
 have lS:=af (show JF 12 19 (ae u) (fun v=>∃ob,v=.tuple #[.pointer (some ⟨ob,0,none⟩),.int .i64 0]) RW QW XE (fun _=>false) (fun _=>undef) u.drew from JF.aX (ae.rf u).drew _);have PD:∀L f x,JF 12 19 (ae u) (fun v=>∃ob,v=.tuple #[.pointer (some ⟨ob,0,none⟩),.int .i64 0]) RW QW XE L f x->I x:=fun L f x h=>by
  cases hL:L 12 with
  | false=>exact EC x ((h.pre hL).only _) (((h.pre hL).cells.1 _ _ mZ).trans aQ)
  | true=>
   cases hL2:L 19 with
   | false=>
    have hO:=EH _ _ (h.mid hL hL2);exact EC x (hO.mono fun j hj=> .inl (.inl hj)) ((hO.cell mZ oC _).trans aQ)
   | true=>exact PC _ _ (h.post hL2)
 clear wT Kl EH PC EC Cn k0 x1 x2 x7 aQ;have Sn:=af (And.intro aO fO);clear aO fO cO cQ;refine kh 20 [12,13,14,15,19] I Eq (JF 12 19 (ae u) (fun v=>∃ob,v=.tuple #[.pointer (some ⟨ob,0,none⟩),.int .i64 0]) RW QW XE) (fun f a=>(((a.put (some 62) (f 12)).put (some 49) (f 13)).put (some 63) (f 14)).put (some 64) (f 15)) lS PD (fun _=>rfl) (fun _ _ _ _ h g=>g▸h) ?_;clear PD lS;repeat (first|refine kg ?_|(refine gg ?_;intros;go_big_quiet_op;go_big_quiet_on)|(refine fZ ?_;simp only[Act.put,xB9,xC9,xD9]))
 refine rv ⟨⟨bL rfl (fun _ a=>a) ?_,bL rfl (fun f a=>a.put (some 62) (f 12)) ?_,bL rfl (fun f a=>a.put (some 49) (f 13)) ?_,bL rfl (fun f a=>a.put (some 49) (f 13)) ?_,bL rfl (fun f a=>((a.put (some 62) (f 12)).put (some 49) (f 13)).put (some 63) (f 14)) ?_,trivial⟩,?_⟩
 . intro L f x hJ hL hd;have HJ:=af hJ;have HL:=af hL;clear hJ hL hd Z1 Z2 Z7 ZQ pq;go_simp;have hg:=HJ.pre HL;refine(Km x (EI.ah hg)).mono ?_;rintro r x' (⟨hc,_⟩ | ⟨_,ob,rfl,wC⟩)
   . exact absurd rfl hc
   . exact⟨_,rfl,HJ.call HL rfl (by decide) ⟨ob,rfl⟩ (by rw[wU.out];exact⟨ob,rfl,x,hg,wC⟩)⟩
 . intro L f x hJ hL hd;have HC:=af (hd 12 rfl (by decide));have HJ:=af hJ;clear hJ hL hd Z1 Z2 Z7 ZQ pq;go_simp;exact HJ.put 13 HC (by decide) (by decide) (fun g hg=>by cases hg;rfl)
 . intro L f x hJ hL hd;have nV:=hd 13 rfl (by decide);have HC:=af (hJ.ord 13 _ rfl nV);have HJ:=af hJ;obtain⟨ob,kp⟩:=hJ.form HC;have kB:=hJ.val 13 _ rfl nV;rw[kp]at kB;have HE:=af kp;clear hJ hL hd nV Z1 Z2 Z7 ZQ pq kp;rw[kB];clear kB;dsimp only[id];go_simp;exact HJ.put 14 HC (by decide) (by decide) (fun g hg=>by cases hg;rw[HE.out];rfl)
 . intro L f x hJ hL hd;have nV:=hd 13 rfl (by decide);have HC:=af (hJ.ord 13 _ rfl nV);have HJ:=af hJ;obtain⟨ob,kp⟩:=hJ.form HC;have kB:=hJ.val 13 _ rfl nV;rw[kp]at kB;have HE:=af kp;clear hJ hL hd nV Z1 Z2 Z7 ZQ pq kp;rw[kB];clear kB;dsimp only[id];go_simp;exact HJ.put 15 HC (by decide) (by decide) (fun g hg=>by cases hg;rw[HE.out];rfl)
 . intro L f x hJ hL hd;have XF:=hd 14 rfl (by decide);have hC:=hJ.ord 14 _ rfl XF;obtain⟨ob,kp⟩:=hJ.form hC;have jD:=hJ.val 14 _ rfl XF;rw[kp]at jD;have Bk:f 14=.pointer (some ⟨ob,0,none⟩):=jD;have hR:=hJ.mid hC hL;have hO:=XB _ _ hR;have b1:=(hO.cell mZ oC _).trans Sn.1;have b2:=(hO.frozen mZ oC _).trans Sn.2;have HT:=af (fun v=>hJ.turn (u':=x.setCell ⟨al,1+o,none⟩ (.pointer (some ⟨ob,0,none⟩))) hC (by decide) rfl v (by rw[PB.out];exact⟨ob,kp,x,hR,rfl⟩));unfold ey at b1;clear hJ hL hd XF hR hO Z1 Z2 Z7 ZQ pq kp jD;rw[Bk];clear Bk;go_simp;exact HT _
 intro f9 x hJ;obtain⟨ob,kp⟩:=hJ.form rfl;have kB:=hJ.val 13 _ rfl rfl;have jD:=hJ.val 14 _ rfl rfl;have EA:=hJ.val 15 _ rfl rfl;rw[kp]at kB jD EA;dsimp only[id]at kB;have Bk:f9 14=.pointer (some ⟨ob,0,none⟩):=jD;have PG:f9 15=.int .i64 0:=EA;have hQ:=hJ.post rfl;rw[PB.out]at hQ;obtain⟨ob1,h1,x0,hR,rfl⟩:=hQ;rw[wU.out]at hR;obtain⟨ob2,h2,Y2,LP,wC⟩:=hR;have e1:ob1=ob:=by rw[kp]at h1;simpa using h1.symm
 have e2:ob2=ob:=by rw[kp]at h2;simpa using h2.symm
 subst e1 e2;have cE:=af (And.intro LP wC);clear hJ h1 h2 LP wC jD EA Z1 Z2 Z7 ZQ pq;dsimp only[List.drop];simp only[Act.put,xB9,xD9,xC9];rw[kp,kB,Bk,PG];clear kp kB Bk PG;go_wp2_with fail;go_end0;exact⟨rfl,dJ Y2 x0 F' _ (HOW.dG cE.1) (Bi.1.ah cE.1) Bi.2 cE.2⟩
theorem y8o {W:World}{L:Nat->Nat}{k al n m0:Nat}{fa:Lit->Option Value}{D:bG}{A:bC}(h:fT W L k al n fa D A)(bF:bV A m0)(lW:m0<=120)(kX:Pl.Twin A.sh D)(e:En)(hA:b7 W e)(hs:ly e)(np:e.key.size<=300)(hk:e.ax=4)(at':Int)(ha:gp A.sh.xs A.sh.aD e at'=true):
    Calls prog 28 #[.pointer (some ⟨al,0,none⟩),e.agg,.int .i64 at'] W fun r w'=>r=.returned (.tuple #[])/\vB W L k al n fa (Pl.fw D e at') ⟨A.at_,Pl.bp A.sh e at',Pl.kD A e,A.gC⟩ w':=by
 obtain⟨db,nb,ms,h⟩:=h;obtain⟨F,ux,hF⟩:=h.map;have oB:=SC kX bF.inv (fun c hc=>bF.sz c hc) (by omega);have hap:ft D e at'=true:=by rw[O9 kX bF.inv];exact ha
 have vp:=af (fun X (g:ae W X)=>SI (ux.ah g) oB e (hA.ah g) hs at');rw[hap]at vp;generalize Pl.fw D e at'=D' at *;have pD:=xx ux;have kQ:¬F al:=fun t=>by have:=hF al t;have:=h.iy;omega
 have nY:∀j,W.heap.size<=j->¬F j:=fun j hj t=>by have:=pD j t;omega
 have cZ:=h.c0;have hab:=bf cZ;have HH:=af h;have um:=af (And.intro hF pD);have hcb:Pl.jG A.sh.xs A.sh.aD e=true:=by unfold gp at ha;simp only[zZ7]at ha;exact ha.1.1
 obtain⟨hr,i,hi,hf,gL,cH,jC⟩:=qx hcb;obtain⟨jj,hj,nI,qQ,gz,hz⟩:∃j,j<A.sh.xs.length/\Pl.aK A.sh.xs e.ak=(j:Nat)/\pU A.sh.xs e=j/\(ai A.sh.xs j).id=e.ak/\Pl.bg (Pl.bD (ai A.sh.xs i).lo (ai A.sh.xs i).hi) (Pl.bD (ai A.sh.xs j).lo (ai A.sh.xs j).hi) (ai A.sh.xs i).lo (ai A.sh.xs i).hi (ai A.sh.xs j).lo (ai A.sh.xs j).hi=0:=by
  rcases jC with k2 | ⟨k3,_⟩ | ⟨_,q⟩
  . omega
  . omega
  . exact q
 have Ch:=(zY hr hk).2.2.2.2;have kq:=Pl.lL hi;have pV:=Pl.lL hj;have qz:=bF.inv.ids _ kq;have rP:=bF.inv.ids _ pV;obtain⟨P,S,hP,rQ⟩:=bF.dom _ kq;obtain⟨Q,T,hQ,rR⟩:=bF.dom _ pV;rw[cH]at hP qz;rw[gz]at hQ rP;have pE:e.aj.toNat≠e.ak.toNat:=by omega
 obtain⟨i12,c,hc,bY,G,sb,Dt,mX,oZ,hB⟩:=h.bE _ P S hP;obtain⟨R9,d,hd,pF,G2,so,Du,JA,SM,eo⟩:=h.bE _ Q T hQ;have lg:c=ai A.sh.xs i:=by rw[<-kE bF hc bY,kE bF kq (i:=e.aj.toNat) (by omega)]
 have Gn:d=ai A.sh.xs jj:=by rw[<-kE bF hd pF,kE bF pV (i:=e.ak.toNat) (by omega)]
 have hsz:=bF.sz c hc;have wD:=bF.sz d hd;have ri:=bF.chain.right i hi;have rj:=bF.chain.right jj hj;rw[<-lg]at rQ ri hz;rw[<-Gn]at rR rj hz;have hJP:=z2N rQ rR oZ.iD SM.iD ri rj hz;obtain⟨hTj,hno⟩:=EF hJP oZ SM;have few:∀q P S,q<13->A.st q=some (P,S)->P.length<=1000:=fun q P S hq hA=>by
  have a:=Ed A.st q hq;have b:=bF.few;rw[hA]at a;unfold ib at a;dsimp only at a;omega
 have hP1:=few _ P S (by omega) hP;have hQ1:=few _ Q T (by omega) hQ;have hJ:fc S T 5=dC S (iB T):=by
  obtain⟨_,a⟩:=mX;obtain⟨_,b⟩:=JA;exact z2g S T (fun x y hx=>(a.cL.ok x y hx).2.2.s1) (fun x y hx=>(b.cL.ok x y hx).2.2.s1)
 have hBl:=mX.all;have PH:=JA.all;have dJ:=af (fun(V U:World) (F':Nat->Prop) (hO:ar F W V) (hM:fp V F' db D') (hF':∀j,F' j->F j\/W.heap.size<=j) (hC:rE V G (ms e.aj.toNat) sb (Pl.aW (Pl.bD c.lo c.hi) (Pl.bD d.lo d.hi) c.lo c.hi d.lo d.hi).1 (Pl.aW (Pl.bD c.lo c.hi) (Pl.bD d.lo d.hi) c.lo c.hi d.lo d.hi).2 (Dt++Du) (fc S T 5) U)=>h.merge bF hF pD hO ha hk hM hF' hP hQ hc bY hd pF hTj hJ hB hBl hC);have EJ:=af (fun(X:World) (tb tq:Nat) (h2:km X G (ms e.aj.toNat) tb sb c.lo c.hi Dt S) (k2:km X G2 (ms e.ak.toNat) tq so d.lo d.hi Du T)=>z1k h2 k2 (fun j hj xd=>by
  have a:jh G (ms e.aj.toNat) sb j:=by
   rcases hj with t | t | t
   . exact .inr (.inl t)
   . exact .inr (.inr t)
   . exact .inl t
  have b:jh G2 (ms e.ak.toNat) so j:=by
   rcases xd with t | t | t
   . exact .inr (.inl t)
   . exact .inr (.inr t)
   . exact .inl t
  have:=hB j a;have:=eo j b;omega) (by have:=oZ.len;omega) (by have:=SM.len;omega) hno hsz.1 hsz.2 wD.1 wD.2 (by rw[B4,B4];exact hz))
 rw[B4,B4]at EJ;generalize Pl.aW (Pl.bD c.lo c.hi) (Pl.bD d.lo d.hi) c.lo c.hi d.lo d.hi=vv at *;generalize fc S T 5=jk at *;obtain⟨q,hq⟩:∃q:Nat,e.aj=q:=⟨e.aj.toNat,by omega⟩
 obtain⟨o,ho⟩:∃o:Nat,e.ak=o:=⟨e.ak.toNat,by omega⟩
 have EG:e.aj.toNat=q:=by omega
 have LO:e.ak.toNat=o:=by omega
 rw[EG]at hP dJ EJ hB hBl mX;rw[LO]at dJ EJ hQ eo PH JA;have cQ:=h.cs q (by omega);rw[show ey A.st ms q=.pointer (some ⟨ms q,0,none⟩)by unfold ey;rw[hP];rfl]at cQ;have cO:=h.cs o (by omega);rw[show ey A.st ms o=.pointer (some ⟨ms o,0,none⟩)by unfold ey;rw[hQ];rfl]at cO;have fO:=h.fz (1+o);generalize ms q=mq at *;generalize ms o=mo at *;generalize Pl.bp A.sh e at'=dn at *;generalize Pl.kD A e=cg at *;have Kk:q<=12:=by omega
 have Mm:o<=12:=by omega
 have vA:∀j,(j=mq\/j=sb\/G j)->jh G mq sb j:=fun j hj=>by
  rcases hj with t | t | t
  . exact .inr (.inl t)
  . exact .inr (.inr t)
  . exact .inl t
 have oC:¬(al=mq\/al=sb\/G al):=fun t=>by have:=hB al (vA al t);have:=h.iy;omega
 have Bj:∀j,jh G mq sb j->¬F j:=fun j hj t=>by have:=hB j hj;have:=hF j t;omega
 have GQ:∀j,jh G2 mo so j->¬F j:=fun j hj t=>by have:=eo j hj;have:=hF j t;omega
 have vC:=af (And.intro vA (And.intro Bj (And.intro GQ hBl)));have HST:=af (And.intro mX JA);clear h ux hF pD bF kX oB hap ha hA hs np hcb hr hi hf gL cH jC hj nI qQ gz hz Ch kq pV qz rP rQ rR pE i12 R9 hc bY hd pF lg Gn hsz wD ri rj hJP hTj hno few hP1 hQ1 hJ hBl PH mX JA hB eo oZ SM hP hQ EG LO vA Bj GQ;obtain⟨ax,aj,ak,aq,aw,seq,key,aM,aL,aA,ops,aN,aS,aF,aB,aG⟩:=e;unfold En.agg En.vals at *;dsimp only at *;subst hk hq ho;go_in;go_upto_region 6 with fail;obtain⟨Y,hY⟩:∃Y,Y=W.alloc (.cells #[.int .i64 4,.int .i64 q,.int .i64 o,.int .i64 aq,.int .i64 aw,.int .i64 seq,.slice aN ops.length aS,.string key,.int .i64 aM,.int .i64 aL,.int .i64 aA,.slice aF aB aG] 36):=⟨_,rfl⟩
 have gY:ae W Y:=by rw[hY];exact(ae.rf W).alloc _
 obtain⟨xb,eE⟩:∃xb,xb=W.heap.size:=⟨_,rfl⟩
 have HX:=af (show ∀i v,(#[.int .i64 4,.int .i64 q,.int .i64 o,.int .i64 aq,.int .i64 aw,.int .i64 seq,.slice aN ops.length aS,.string key,.int .i64 aM,.int .i64 aL,.int .i64 aA,.slice aF aB aG]:Array Value)[i]? =some v->Y.cell? ⟨xb,i,none⟩=some v from fun i v hv=>by
  rw[hY,eE,wQ1 _ _ i _ _ _ (wZ0 W _)];simpa using hv)
 have ir:xb<Y.heap.size:=by rw[hY,eE];simp
 have ez:=nY xb (by omega);have Al:=af (show W.heap.size<=xb by omega);have dg:=af gY;have aZ:=(gY.cells.1 _ 0 hab).trans cZ;rw[<-hY,<-eE];clear hY gY eE;have X0:=bu (S:=F) (HX 0 _ rfl) ez;have X1:=bu (S:=F) (HX 1 _ rfl) ez;have X2:=bu (S:=F) (HX 2 _ rfl) ez;have X3:=bu (S:=F) (HX 3 _ rfl) ez;have X4:=bu (S:=F) (HX 4 _ rfl) ez;have X5:=bu (S:=F) (HX 5 _ rfl) ez;have X6:=bu (S:=F) (HX 6 _ rfl) ez;have X7:=bu (S:=F) (HX 7 _ rfl) ez;have X8:=bu (S:=F) (HX 8 _ rfl) ez;have X9:=bu (S:=F) (HX 9 _ rfl) ez;have oq:=bu (S:=F) (HX 10 _ rfl) ez;have ow:=bu (S:=F) (HX 11 _ rfl) ez;have AZ:=bu (S:=F) aZ kQ;have lS:=af (show JE 6 (ae Y) (fun v u=>v=.bool true/\∃Y',ae Y Y'/\oA Y' F db D' u) GP (fun _=>false) (fun _=>undef) Y.drew from JE.aX (ae.rf Y).drew _);refine kh 8 [6,7] (ar F Y) Eq (JE 6 (ae Y) (fun v u=>v=.bool true/\∃Y',ae Y Y'/\oA Y' F db D' u) GP) (fun f a=>(a.put (some 43) (f 6)).put (some 44) (f 7)) lS (fun L _ _ h=>?_) (fun _=>rfl) (fun _ _ _ _ h g=>g▸h) ?_
 . cases hL:L 6 with
   | false=>exact(h.pre hL).only _
   | true=>
    obtain⟨_,Y',g,hO,_⟩:=h.post hL;exact(g.only _).then hO
 repeat (first|refine kg ?_|(refine gg ?_;intros;go_big_quiet_op;go_big_quiet_on)|(refine fZ ?_;simp only[Act.put,xB9,xC9,xD9]))
 refine rv ⟨⟨bL rfl (fun _ a=>a) ?_,bL rfl (fun f a=>a.put (some 43) (f 6)) ?_,trivial⟩,?_⟩
 . intro L f u hJ hL hd;have HJ:=af hJ;have HL:=af hL;clear hJ hL hd X0 X1 X2 X3 X4 X5 X6 X7 X8 X9 oq ow AZ;go_simp;have hg:=HJ.pre HL;refine(vp u (dg.trans hg)).mono ?_;rintro r u' ⟨rfl,hM⟩;exact⟨_,rfl,HJ.call HL rfl ⟨rfl,u,hg,hM⟩⟩
 . intro L f u hJ hL hd;have h6:=hd 6 rfl (by decide);have HC:=af h6;have HJ:=af hJ;have e6:=(hJ.post h6).1;have xw:=af e6;clear hJ hL hd h6 X0 X1 X2 X3 X4 X5 X6 X7 X8 X9 oq ow AZ;rw[e6];clear e6;go_simp;exact HJ.put 7 HC (by decide) (fun g hg=>by cases hg;rw[xw.out];rfl)
 intro f6 u hJ;obtain⟨e6,Y',oo,iJ,F',ua,iu⟩:=hJ.post rfl;have e7:=hJ.val 7 _ rfl rfl;rw[e6]at e7;have Bh:f6 7=.bool false:=e7;have kL:ar F Y u:=(oo.only _).then iJ;have HOW:=af (show ar F W u from(dg.only _).then kL);have hs1:=dg.size;have hs2:=oo.size;have Bi:=af (show fp u F' db D'/\∀j,F' j->F j\/W.heap.size<=j from⟨ua,fun j hj=>(iu j hj).imp id fun q=>by omega⟩);have xz:=af (fun(i:Nat) v hv=>(kL.cell ir ez i).trans (HX i v hv));have wB:=xA9 ir kL.size;clear hJ iJ ua iu e7 X0 X1 X2 X3 X4 X5 X6 X7 X8 X9 oq ow AZ oo kL lS aZ;dsimp only[List.drop];simp only[Act.put,xB9,xD9,xC9];rw[e6,Bh];clear e6 Bh;have k0:=xz 0 _ rfl;go_upto_region 11 with fail;have aQ:=(HOW.cell hab kQ _).trans cQ;have aO:=(HOW.cell hab kQ _).trans cO;have fO:=(HOW.frozen hab kQ _).trans fO;have mZ:=bf aQ;have EI:=af (And.intro (HST.1.aC HOW (fun j hj=>vC.2.1 j (.inl hj)) (vC.2.1 _ (.inr (.inl rfl))) (vC.2.1 _ (.inr (.inr rfl)))) (HST.2.aC HOW (fun j hj=>vC.2.2.1 j (.inl hj)) (vC.2.2.1 _ (.inr (.inl rfl))) (vC.2.2.1 _ (.inr (.inr rfl)))));have uy:¬(xb=mq\/xb=sb\/G xb):=fun t=>by
  have:=Al.out;have:=vC.2.2.2 xb (vC.1 xb t);omega
 have Z1:=bu (S:=fun j=>j=mq\/j=sb\/G j) (xz 1 _ rfl) uy;have Z2:=bu (S:=fun j=>j=mq\/j=sb\/G j) (xz 2 _ rfl) uy;have ZQ:=bu (S:=fun j=>j=mq\/j=sb\/G j) aQ oC;have ZO:=bu (S:=fun j=>j=mq\/j=sb\/G j) aO oC;have lS:=af (show JE 14 (ae u) (fun v x=>v=.int .i64 0/\∃Y',ae u Y'/\rE Y' G mq sb vv.1 vv.2 (Dt++Du) jk x) (fun _=>none) (fun _=>false) (fun _=>undef) u.drew from JE.aX (ae.rf u).drew _);clear k0 cO cQ;refine kh 15 [14] (ar (fun j=>j=mq\/j=sb\/G j) u) Eq (JE 14 (ae u) (fun v x=>v=.int .i64 0/\∃Y',ae u Y'/\rE Y' G mq sb vv.1 vv.2 (Dt++Du) jk x) (fun _=>none)) (fun f a=>a.put (some 84) (f 14)) lS (fun L _ _ h=>?_) (fun _=>rfl) (fun _ _ _ _ h g=>g▸h) ?_
 . cases hL:L 14 with
   | false=>exact(h.pre hL).only _
   | true=>
    obtain⟨_,Y',g,hO,_⟩:=h.post hL;exact(g.only _).then hO
 repeat (first|refine kg ?_|(refine gg ?_;intros;go_big_quiet_op;go_big_quiet_on)|(refine fZ ?_;simp only[Act.put,xB9,xC9,xD9]))
 refine rv ⟨⟨bL rfl (fun _ a=>a) ?_,trivial⟩,?_⟩
 . intro L f x hJ hL hd;have HJ:=af hJ;have HL:=af hL;clear hJ hL hd Z1 Z2 ZQ ZO;go_simp;have hg:=HJ.pre HL;obtain⟨tb,s1⟩:=EI.1.ah hg;obtain⟨tq,s2⟩:=EI.2.ah hg;refine(EJ x tb tq s1 s2).mono ?_;rintro r x' ⟨rfl,hM⟩;exact⟨_,rfl,HJ.call HL rfl ⟨rfl,x,hg,hM⟩⟩
 intro f9 x hJ;obtain⟨jD,Y2,LP,XG⟩:=hJ.post rfl;have Kn:ar (fun j=>j=mq\/j=sb\/G j) u x:=(LP.only _).then XG.1;have aQ:=(Kn.cell mZ oC _).trans aQ;have aO:=(Kn.cell mZ oC _).trans aO;have fO:=(Kn.frozen mZ oC _).trans fO;have x2:=(Kn.cell wB uy _).trans (xz 2 _ rfl);have hxx:=xA9 wB Kn.size;have PI:=xA9 mZ Kn.size;have cE:=af (And.intro LP XG);clear hJ LP XG Kn Z1 Z2 ZQ ZO lS;dsimp only[List.drop];simp only[Act.put,xB9,xD9,xC9];rw[jD];clear jD;go_upto_region 12 with fail;have Z2:=bj x2;have ZO:=bj aO;refine pO 5 ?_;repeat (first|(refine gg ?_;intros;go_big_quiet_op;go_big_quiet_on)|(refine fZ ?_;simp only[Act.put,xB9,xC9,xD9]))
 refine jB (by rfl) ?_;intro z SN;have aO:=(SN.cells.1 _ _ PI).trans aO;have fO:=(SN.cells.2 _ _ PI).trans fO;have jd:=af SN;clear SN Z2 ZO x2 aQ;dsimp only[List.drop];go_wp2_with fail;go_end0;have hMz:rE Y2 G mq sb vv.1 vv.2 (Dt++Du) jk z:=by
  obtain⟨hO,G',a,b⟩:=cE.2;exact⟨hO.dG jd,G',a.ah jd,b⟩
 exact⟨rfl,dJ Y2 z F' (HOW.dG cE.1) (Bi.1.ah cE.1) Bi.2 hMz⟩
def XO:cf:=⟨1,⟨#[97]⟩,⟨#[120]⟩,⟨#[]⟩,0⟩
def jx (a:Option Addr):En:=⟨1,1,0,0,1,1,⟨#[]⟩,0,0,0,[XO],a,1,none,0,0⟩
theorem Kr (a:Option Addr):(Pl.fh bC.init (jx a) 0).1=0:=by kernel_rfl
theorem PR (a:Option Addr):(Pl.fh bC.init (jx a) 0).2.at_=1:=by kernel_rfl
theorem Ks (a:Option Addr):Pl.iR (Pl.fh bC.init (jx a) 0).2 ⟨#[97]⟩=some ⟨⟨#[97]⟩,⟨#[120]⟩,1⟩:=by kernel_rfl
theorem Kt {W:World}{ob:Nat}(h:W.heap[ob]? =some (.cells #[.int .i64 1,.string ⟨#[97]⟩,.string ⟨#[120]⟩,.string ⟨#[]⟩,.int .i64 0] 70 (0,0))):b7 W (jx (some ⟨ob,0,none⟩)):=by
 have az:=(zZ2.1 h).1;have hc:∀(i:Nat) v,(#[.int .i64 1,.string ⟨#[97]⟩,.string ⟨#[120]⟩,.string ⟨#[]⟩,.int .i64 0]:Array Value)[i]? =some v->W.cell? ⟨ob,i,none⟩=some v:=fun i v hv=>by rw[wQ1 _ ob i _ _ _ h];simpa using hv
 refine⟨.inr ⟨ob,0,rfl,az,?_,?_,?_,?_,?_⟩,by simp[jx],fun o ho=>?_,fun e=>by cases e⟩
 . intro j hj;obtain rfl:j=0:=by simpa[jx]using hj
   exact hc 0 _ rfl
 . intro j hj;obtain rfl:j=0:=by simpa[jx]using hj
   exact hc 1 _ rfl
 . intro j hj;obtain rfl:j=0:=by simpa[jx]using hj
   exact hc 2 _ rfl
 . intro j hj;obtain rfl:j=0:=by simpa[jx]using hj
   exact hc 3 _ rfl
 . intro j hj;obtain rfl:j=0:=by simpa[jx]using hj
   exact hc 4 _ rfl
 . simp[jx]at ho;subst ho;exact⟨by decide,by decide,by decide⟩
theorem PS (a:Option Addr):rJ (jx a):=fun o ho=>by simp[jx]at ho;subst ho;exact⟨by decide,by decide⟩
theorem EO (E:Nat->Addr)(w:World)(hE:bz my E w):Calls prog 4 #[] w fun e w'=>e=.returned (.bool true)/\ae w w':=by
 have HE:=af hE;have HN:=af (z2W E w (Oc hE));clear hE;go_in;go_wp2_with fail;refine HN.mono ?_;rintro e w1 ⟨ab,rfl,hg,h⟩;have HG:=af hg;have HA:=af h;clear hg h HN;go_wp2_with fail;obtain⟨Y,hY⟩:∃Y,Y=w1.alloc (.cells #[.int .i64 1,.string ⟨#[97]⟩,.string ⟨#[120]⟩,.string ⟨#[]⟩,.int .i64 0] 70):=⟨_,rfl⟩
 have gY:ae w1 Y:=by rw[hY];exact(ae.rf w1).alloc _
 have hblk:Y.heap[w1.heap.size]? =some (.cells #[.int .i64 1,.string ⟨#[97]⟩,.string ⟨#[120]⟩,.string ⟨#[]⟩,.int .i64 0] 70 (0,0)):=by rw[hY];exact wZ0 w1 _
 have oU:Hid (Calls prog 11 #[.pointer (some ⟨ab,0,none⟩),(jx (some ⟨w1.heap.size,0,none⟩)).agg,.int .i64 0] Y fun r w'=>r=.returned .nilIface/\ae w w'/\∃L,dh w' L 1 ab 6 (Pl.fh bC.init (jx (some ⟨w1.heap.size,0,none⟩)) 0).2):=by
  obtain⟨L',h1,h2,h3⟩:=HA 1 (fun _=>0);have hs:=HG.size;have hy:=gY.size;have hl:w1.heap.size<Y.heap.size:=(zZ2.1 hblk).1;have h4:dh Y (fun j=>if j<w1.heap.size then L' j else 0) 1 ab 1 bC.init:=h3.aC (gY.only fun _=>False) (fun _ _ h=>h.elim) fun j hj=>zZ1 hj;have gX:∀X,ar (fun j=>cr 1 (if j<w1.heap.size then L' j else 0)) Y X->ae w X:=fun X hO=>(((HG.trans gY).only (fun j=>w.heap.size<=j)).then (hO.mono fun j hj=>by
   by_cases q:j<w.heap.size
   . rw[zZ1 (by omega),h1 j q]at hj;unfold cr at hj;omega
   . exact .inl (by omega))).ah fun j hj=>hj
  refine(y7Q E (fun X hO=>HE.ah (gX X hO)) h4 V9 (by decide) (by decide) (jx (some ⟨w1.heap.size,0,none⟩)) (fun X hO=>Kt ((hO.block _ hl (by rw[zZ0 (by omega)];unfold cr;omega)).trans hblk)) (PS _) (show(⟨#[]⟩:ByteArray).size<=300 by decide) 0).mono ?_;rintro r w' ⟨rfl,hO,L2,_,_,h5⟩;exact⟨by rw[Kr];rfl,gX w' hO,L2,h5⟩
 rw[<-hY];clear hY HA gY hblk;unfold En.agg En.vals at oU;generalize hB:(Pl.fh bC.init (jx (some ⟨w1.heap.size,0,none⟩)) 0).2=B at *;have HB:=af (show bV B 1/\Pl.iR B ⟨#[97]⟩=some ⟨⟨#[97]⟩,⟨#[120]⟩,1⟩/\B.at_=1 by
  rw[<-hB];exact⟨R6 V9 (fun i P S hi=>by
   unfold bC.init at hi;dsimp only at hi;split at hi
   . cases hi;exact Pl.KU
   . cases hi) _ _,Ks _,PR _⟩)
 clear hB;unfold jx at oU;dsimp only at oU;refine oU.mono ?_;rintro e w2 ⟨rfl,aP,L,h2⟩;have cA:=af aP;have H2:=af h2;clear aP h2 oU;go_wp2_with fail;refine(z2J E (HE.ah cA) H2 HB.1 (by decide) ⟨#[97]⟩ (by decide)).mono ?_;rintro e w3 ⟨rfl,hg3⟩;rw[HB.out.2.1];have fI:=af hg3;clear hg3;dsimp only[Option.getD,Option.isSome,Pr.agg];go_wp2_with fail;have gZ:ae w3 (w3.alloc (.cells #[.string ⟨#[97]⟩,.string ⟨#[120]⟩,.int .i64 1] 62)):=(ae.rf w3).alloc _;have HT:=af (z5V (H2.ah (fI.trans gZ)));rw[HB.out.2.2]at HT;have jd:=af (cA.trans (fI.trans gZ));clear gZ;refine HT.mono ?_;rintro e w4 ⟨rfl,hg4⟩;have mm:=af (jd.trans hg4);clear hg4 HT;go_wp2_with fail;go_ret;exact⟨rfl,mm⟩
end
end Go.Proofs.YtgegogoanbamfaaGreatDoor
