/- Part 13. -/
import Derived.Test.YtgegogoanbamfaaGreatDoorFinAuditPlaysQ10
import Derived.Test.YtgegogoanbamfaaGreatDoorFinAuditPlaysQ11
import Derived.BigRegionIn
set_option linter.unusedVariables false
set_option linter.unusedSectionVars false
set_option linter.unusedSimpArgs false
set_option maxRecDepth 100000
set_option maxHeartbeats 16000000
namespace Go.Proofs.YtgegogoanbamfaaGreatDoor
namespace Pl
end Pl
open Pl Go.Proofs.Tryz Go.RowKit Go.Maps
attribute [local go_sem] Oper.semAt_some
section
open Go.Shelf
def dQ (ob:Nat)(W:World)(j:Nat):Prop:=j=ob\/∃v,W.cell? ⟨ob,0,none⟩=some v/\v.ownBlock=some j
def ki (W:World)(ob:Nat)(cs:List Int):Prop:=cY W (dQ ob W) ob cs
theorem cY.l {w:World}{G:Nat->Prop}{ob:Nat}{cs:List Int}(h:cY w G ob cs):ki w ob cs/\∀j,dQ ob w j->G j:=by
 obtain⟨v,h⟩:=h;have hG:∀j,dQ ob w j->G j:=by
  rintro j (rfl | ⟨u,hu,hj⟩)
  . exact h.foot
  . rw[h.c0]at hu;cases hu;exact(h.own j hj).1
 exact⟨⟨v,h.c0,h.f0,h.c1,h.row,.inl rfl,fun g hg=>⟨.inr ⟨v,h.c0,hg⟩,(h.own g hg).2⟩,fun j hj=>h.lt j (hG j hj)⟩,hG⟩
theorem ki.cells {w:World}{ob:Nat}{cs:List Int}(h:ki w ob cs)(j:Nat)(hj:dQ ob w j):∃o:Obj,w.heap[j]? =some o/\o.isCells=true:=by
 obtain⟨v,h⟩:=h;rcases hj with rfl | ⟨u,hu,hj⟩
 . obtain⟨o,h1,h2⟩:=cells_of_cell h.c0;exact⟨o,h1,h2⟩
 . rw[h.c0]at hu;cases hu;rcases h.row.2 with⟨h1,_⟩ | ⟨g,c,cur,h1,_,h2,_⟩
   . rw[h1]at hj;cases hj
   . rw[h1]at hj;obtain rfl:g=j:=(by simpa[Value.ownBlock]using hj);exact⟨_,h2,rfl⟩
theorem dQ.same {w w':World}{ob:Nat}(h:w'.cell? ⟨ob,0,none⟩=w.cell? ⟨ob,0,none⟩)(j:Nat):dQ ob w' j↔dQ ob w j:=by unfold dQ;rw[h]
theorem ki.own {w w':World}{row:Option Nat}{ob:Nat}{cs:List Int}(h:ki w ob cs)(hg:w.grownBy w' row)(hr:∀r,row=some r->∃o:Obj,w.heap[r]? =some o/\o.isCells=false):ki w' ob cs/\∀j,dQ ob w' j↔dQ ob w j:=by
 have hO:=ar.ay hg;have rz:∀j,dQ ob w j->¬some j=row:=fun j hj e=>by
  obtain⟨o,h1,h2⟩:=h.cells j hj;obtain⟨o',h3,h4⟩:=hr j e.symm;rw[h1]at h3;cases h3;rw[h2]at h4;cases h4
 have hk:cY w' (dQ ob w) ob cs:=cY.aC h hO rz;have hs:∀j,dQ ob w' j↔dQ ob w j:=fun j=>dQ.same (by
  obtain⟨v,h⟩:=h;obtain⟨v',h'⟩:=hk;exact(hO.cell (bf h.c0) (rz ob (.inl rfl)) 0)) j
 refine⟨?_,hs⟩;have:=hk.l.1;exact this
def po (n₀ ob:Nat)(W W':World):Prop:=
 Below n₀ W W'/\W.heap.size<=W'.heap.size/\(∀(b:Nat) (o:Obj),W.heap[b]? =some o->o.isCells=true->¬dQ ob W b->W'.heap[b]? =some o)/\(∀j,dQ ob W' j->dQ ob W j\/W.heap.size<=j)
theorem po.trans {n₀ ob:Nat}{A B C:World}(h:po n₀ ob A B)(k:po n₀ ob B C):po n₀ ob A C:=by
 obtain⟨h1,h2,h3,h4⟩:=h;obtain⟨k1,k2,k3,k4⟩:=k;refine⟨h1.trans k1,zZ6 h2 k2,fun b o hb ho hn=>k3 b o (h3 b o hb ho hn) ho fun hB=>?_,fun j hj=>?_⟩
 . rcases h4 b hB with h | h
   . exact hn h
   . have:=(zZ2.1 hb).1;omega
 . rcases k4 j hj with h | h
   . exact h4 j h
   . exact .inr (zZ6 h2 h)
theorem po.put {n₀ ob:Nat}{w:World}(hn:n₀<=w.heap.size)(dS:ob<w.heap.size)(W:World)(l:Nat)(o o':Obj)(hl:w.heap.size<=l)(h1:W.heap[l]? =some o)(h2:o.isCells=false)(h3:o.isWalk=false):po n₀ ob W (W.putObj l o'):=by
 have hg:=grownBy_putObj' W l o';have hc:(W.putObj l o').cell? ⟨ob,0,none⟩=W.cell? ⟨ob,0,none⟩:=World.cell?_of_block (a:=⟨ob,0,none⟩) (World.putObj_heap_other (show ob≠l by omega));refine⟨belowK_b hn W l o o' hl h1 h2 h3,hg.size,fun b q hb hq kj=>?_,fun j hj=> .inl ((dQ.same hc j).1 hj)⟩;rw[World.putObj_heap_other (fun e=>?_)]
 . exact hb
 . subst e;rw[h1]at hb;cases hb;rw[h2]at hq;cases hq
theorem po.refl {n₀ ob:Nat}(W:World):po n₀ ob W W:=⟨Below.refl _ _,zZ3 _,fun _ _ h _ _=>h,fun _ h=> .inl h⟩
theorem po.ah {n₀ ob:Nat}{W W':World}(hn:n₀<=W.heap.size)(dS:ob<W.heap.size)(g:ae W W'):po n₀ ob W W':=
 ⟨Below.mono g hn,g.size,fun b o hb _ _=>(g.below.block b (zZ2.1 hb).1).trans hb,fun j hj=> .inl ((dQ.same (g.cells.1 ob 0 dS) j).1 hj)⟩
theorem po.cell {n₀ ob:Nat}{W W':World}(h:po n₀ ob W W'){b o:Nat}{v:Value}(hc:W.cell? ⟨b,o,none⟩=some v)(hn:¬dQ ob W b):W'.cell? ⟨b,o,none⟩=some v:=by
 obtain⟨q,h1,h2⟩:=cells_of_cell hc;rw[World.cell?_of_block (a:=⟨b,o,none⟩) ((h.2.2.1 b q h1 h2 hn).trans h1.symm)];exact hc
theorem KeepsFrom.ah {W W':World}(g:ae W W')(B:Nat):KeepsFrom B W W':=⟨g.size,fun k o _ hk _=>(g.below.block k (zZ2.1 hk).1).trans hk⟩
theorem ki.lt {w:World}{ob:Nat}{cs:List Int}(h:ki w ob cs):∀j,dQ ob w j->j<w.heap.size:=cY.lt h
theorem ki.ah {w w':World}{ob:Nat}{cs:List Int}(h:ki w ob cs)(g:ae w w'):ki w' ob cs/\∀j,dQ ob w' j↔dQ ob w j:=by
 have h1:cY w' (dQ ob w) ob cs:=cY.ah h g;exact⟨h1.l.1,fun j=>dQ.same (g.cells.1 ob 0 (h.lt ob (.inl rfl))) j⟩
theorem po.turn {n₀ ob:Nat}{W W':World}{cs ds:List Int}(h:ki W ob cs)(hz:n₀<=W.heap.size)(hn:∀j,dQ ob W j->n₀<=j)(hT:mn W (dQ ob W) ob ds W'):po n₀ ob W W'/\ki W' ob ds/\(∀B,KeepsFrom B W W'):=by
 obtain⟨hO,G',hA,hG⟩:=hT;obtain⟨hL,hB⟩:=hA.l;have FN:∀(b:Nat) (o:Obj),W.heap[b]? =some o->¬dQ ob W b->W'.heap[b]? =some o:=fun b o hb kj=>(hO.block b (zZ2.1 hb).1 kj).trans hb;refine⟨⟨⟨hO.os,hO.tape,hO.output,hO.size,fun k hk=>?_⟩,hO.size,fun b o hb _ kj=>FN b o hb kj,fun j hj=>hG j (hB j hj)⟩,hL,fun B=>⟨hO.size,fun k o _ hk ho=>FN k o hk fun hb=>?_⟩⟩
 . exact hO.block k (by omega) fun hb=>by have:=hn k hb;omega
 . obtain⟨o',h1,h2⟩:=h.cells k hb;rw[hk]at h1;cases h1;rw[ho]at h2;cases h2
def BW (x:Int×An):List Int:=Pl.aU x.1.toNat++Pl.aU x.2.seq.toNat++Pl.aU x.2.cI.toNat++Pl.aU x.2.at_.toNat
def fM (xs:List (Int×An)):List Int:=xs.flatMap BW
def ew (S:Int->Option An):List Int:=Pl.aU (iB S).length++fM (iB S)
theorem Zy (w:World)(sb:Nat):Calls prog 125 #[.pointer (some ⟨sb,0,none⟩)] w fun e w'=>e=.returned (.func (.func 145) #[] #[.pointer (some ⟨w.heap.size,0,none⟩)])/\w'=w.alloc (.cells #[.pointer (some ⟨sb,0,none⟩)] 104):=by
 go_in;go_wp2_with fail;go_ret;exact⟨rfl,rfl⟩
theorem z0u {w w':World}{b:Nat}(e:w'.heap[b]? =w.heap[b]?)(o:Nat):w'.cell? ⟨b,o,none⟩=w.cell? ⟨b,o,none⟩:=by simp[World.cell?,e]
theorem bU.blk {w w':World}{P:Program}{k:TypeId}{b n:Nat}{f:Lit->Option Value}(h:bU w P k b n f)(e:w'.heap[b]? =w.heap[b]?):bU w' P k b n f:=by
 obtain⟨D,⟨es,clock,h1,h2⟩,hf⟩:=h;exact⟨D,⟨es,clock,e.trans h1,h2⟩,hf⟩
theorem y8z (n:Nat)(hn:7<=n)(Kp:World->World->Prop){w:World}{F:Nat->Prop}{Bs sb mb nn:Nat}{f:Lit->Option Value}{S:Int->Option An}(h:qI w F sb mb nn f S)(FJ:nn<=1000000)(wV:w.cell? ⟨Bs,0,none⟩=some (.pointer (some ⟨sb,0,none⟩)))
    (T3:∀{A B C:World},Kp A B->Kp B C->Kp A C) (Q1:∀A B,Kp A B->B.heap[sb]? =A.heap[sb]? /\B.heap[mb]? =A.heap[mb]?)
    (T4:∀W1 W2,Below w.heap.size w W1->Kp W1 W2->W2.cell? ⟨Bs,0,none⟩=some (.pointer (some ⟨sb,0,none⟩)))
    (T5:∀W W1 W2,Below w.heap.size w W->Below W.heap.size W W1->Kp W1 W2->∀(b:Nat) (o:Obj),W.heap.size<=b->W1.heap[b]? =some o->o.isCells=true->W2.heap[b]? =some o):
    SeqStopsK Fence.wide n prog 145 #[.pointer (some ⟨Bs,0,none⟩)] pP Kp (fun xs=>xs.map Subtype.val=iB S) (fun _=>True) 4 w:=by
 intro l J Jx W hW T6 T7 hY h0;have hG:ae w W:=hW;have vR:qI W F sb mb nn f S:=h.aC (hG.only fun _=>False) (fun _ _ h=>h);have yM:=(hG.cells.1 _ 0 (bf wV)).trans wV;have hc0:=vR.c0;have kU:=af vR;have uK:=af (fun mb W=>(callsIn_wide (n:=n - 1)).2 ((callsIn_wide (n:=5)).1 (AnyZI.keys_in Tryz.keysCl Fence.wide 5 trivial rfl mb W)));change Hid (∀(Ms:Option Nat) (W:World),CallsIn Fence.wide (n - 1) prog 147 #[.map Ms] W fun e w'=>e=.returned (.func (.func 162) #[] #[.pointer (some ⟨W.heap.size,0,none⟩)])/\w'=W.alloc (.cells #[.map Ms] 169))at uK;have gA:ae W (W.alloc (.cells #[.map (some mb)] 169)):=(ae.rf W).alloc _;have FK:=af ((callsIn_wide (n:=n - 1)).2 ((callsIn_wide (n:=5)).1 (Zm (W.alloc (.cells #[.map (some mb)] 169)) mb nn f (vR.lm.ah gA) FJ W.heap.size (by simp[go_sem]))));have eK:=h.ok;obtain⟨xs,iN⟩:=Zo eK;have hval:=h.val;have FL:=af iN;have yN:=af (fun(ks:List Int) (hr:ks.Pairwise fun a b=>a<b) (hm:∀c,c∈ks↔f (bt c)≠none)=>show ks=xs.map (fun x=>x.1.1)by
  have e:xs.map (fun x=>x.1.1)=(iB S).map (·.1):=by rw[<-iN,List.map_map];rfl
  rw[e];refine Zn hr (TZ S) fun c=>?_;rw[hm,hval,zX3];constructor
  . intro hc;cases hS:S c with
    | none=>rw[hS]at hc;exact absurd rfl hc
    | some a=>exact⟨(c,a),CL.2 ⟨by have:=eK c a hS;omega,hS⟩,rfl⟩
  . rintro ⟨⟨d,a⟩,hd,rfl⟩;rw[(CL.1 hd).2];simp)
 have vS:xs.length<=4:=by have:=wZ7 List.length iN;rw[zX6]at this;have:=H8 S;omega
 have mh:=af (fun(x:qK) (hx:x∈xs)=>show S x.1.1=some x.1.2 by
  have:x.1∈iB S:=by rw[<-iN];exact zX3.2 ⟨x,hx,rfl⟩
  exact(CL.1 this).2)
 have hfK:Fence.wide.fn 147:=trivial;have hfS:Fence.wide.fn 146:=trivial;clear vR hG iN hval eK gA;refine callsIn_of_wp func145 rfl trivial ?_ rfl;simp only[ntmps145,xQ4,zQ6,zJ0,Nat.reduceAdd,Nat.reduceSub,xQ5,xQ6,xQ7,yJ1,zK8,yZ8];gi_wp2;refine⟨fun _=>by omega,(uK _ _).mono ?_⟩;rintro e w' ⟨rfl,rfl⟩;gi_wp2;refine⟨fun _=>by omega,FK.mono ?_⟩;rintro e W1 ⟨v,ks,rfl,hr,hm,hl,aJ,hb⟩;have oK:=yN ks hr hm;subst oK;have tF:Below W.heap.size W W1:=(((ae.rf W).alloc (.cells #[.map (some mb)] 169)).trans hb:ae W W1)
 have yO:=af tF;have Mt:J [] W1:=T6 [] W W1 none h0 ⟨tF.os,tF.tape,tF.output,tF.size,fun k hk _=>tF.block k hk⟩ (fun r e=>by cases e);rw[zX6]at aJ;obtain⟨m,yA⟩:∃m,m=xs.length:=⟨_,rfl⟩
 have nM:=af yA;have cF:∃ao cap,v=.slice ao m cap:=by
  rw[yA];rcases aJ.2 with⟨h1,h2⟩ | ⟨b,c,cur,h1,_⟩
  . exact⟨none,0,by rw[h1,h2]⟩
  . exact⟨_,_,h1⟩
 obtain⟨ao,cap,rfl⟩:=cF;have gI:=af aJ;have lS:=af Mt;have Mu:m<=4:=by omega
 clear aJ hm hr hl hb Mt yA yN tF h0 uK FK;gi_wp2;gi_loopw [4,12] (fun u i wr=>∃k:Nat,k<=m/\i=.int .i64 k/\Hid (J (xs.take k) wr)/\Hid (wr=W1\/Kp W1 wr)) (fun _ i _=>m - (intOf i).toNat);exact⟨0,zZ5 _,rfl,by unfold Hid;simpa using lS.out,.inl rfl⟩;obtain⟨k,hk,rfl,HJ,HC⟩:=hrel;have hBl:wr.heap[sb]? =W.heap[sb]? /\wr.heap[mb]? =W.heap[mb]? :=by
  have h0:W1.heap[sb]? =W.heap[sb]? /\W1.heap[mb]? =W.heap[mb]? :=⟨yO.block sb (bf hc0),yO.block mb kU.lm.lt⟩
  rcases HC.out with rfl | nN
  . exact h0
  . exact⟨(Q1 _ _ nN).1.trans h0.1,(Q1 _ _ nN).2.trans h0.2⟩
 have d0:wr.cell? ⟨Bs,0,none⟩=some (.pointer (some ⟨sb,0,none⟩)):=by
  rcases HC.out with rfl | nN
  . exact(yO.cell (p:=⟨Bs,0,none⟩) (bf yM)).trans yM
  . exact T4 W1 wr (hW.trans (yO.mono hW.size)) nN
 have d1:=(z0u hBl.1 0).trans hc0;have BU:=af (kU.lm.blk hBl.2);by_cases az:k<m
 . obtain⟨x,hx⟩:∃x,x=xs[k]'(by rw[<-nM.out];exact az):=⟨_,rfl⟩
   have Mv:x∈xs:=(by rw[hx];exact zQ4 _);have aJ:=gI.out;rw[<-nM.out]at aJ;obtain⟨zb,T8,cur,e1,hzb,lj,hz1,hz2,hz3,CM⟩:=Fp aJ (by omega);have Mw:W.heap.size<=zb:=zZ6 (by simp) hzb;have kK:wr.heap[zb]? =some (.cells cur.toArray 3 (0,0)):=by
    rcases HC.out with rfl | nN
    . exact lj
    . exact T5 W W1 wr hW yO nN zb _ Mw lj rfl
   have hcell:wr.cell? ⟨zb,k,none⟩=some (.int .i64 x.1.1):=by
    have h5:cur[k]? =some (.int .i64 x.1.1):=by
     have h6:(cur.take (m*1))[k]? =cur[k]? :=(by rw[zX5,zZ1 (by omega)]);rw[<-h6,CM,List.map_map,yZ3,zQ5 (by rw[<-nM.out];exact az),<-hx];rfl
    rw[gw kK k,h5]
   cases e1;have T9:zb<wr.heap.size:=(zZ2.1 kK).1;have hlk:(Instr.lookup 169 (.map (some mb)) (.int .i64 x.1.1) false).run prog wr=.ok x.1.2.agg wr:=by
    have h7:=BU.lookup ng underlying169 (Q0 wr) (keyOf_int_mk underlying3 (qH (c:=x.1.1) (by have:=x.2.1;omega) (by have:=x.2.2.1;omega)));rw[show(Lit.int .i64 x.1.1)=bt x.1.1 from rfl,kU.out.val,mh.out x Mv]at h7;exact h7
   have ry:xs.take (k+1)=xs.take k++[x]:=(by rw[zX1 (by rw[<-nM.out];exact az),hx]);have pj:=af ry;obtain⟨fn,tmps,assign,body,hy,hR⟩:=hY (xs.take k) x wr HJ (by rw[zZ9];omega);unfold pP at hy;have Ua:=af (fun W3 (hk3:Kp wr W3)=>show wr=W1/\Kp W1 W3\/Kp W1 W3 by
    rcases HC.out with rfl | nN
    . exact .inl ⟨rfl,hk3⟩
    . exact .inr (T3 nN hk3))
   clear aJ lj kK hz1 hz2 hz3 CM hzb Mw hx Mv ry hBl;gi_wp2;refine⟨fun _=>by omega,hR.mono ?_⟩;rintro e W3 (⟨rfl,hJ3,hk3⟩ | ⟨rfl,H9⟩)
   . have Ub:=af hJ3;have Hg:=af (Ua W3 hk3);clear hJ3 hk3;gi_wp2;go_roundw;case rel=>exact⟨k+1,by omega,by go_num,by unfold Hid;rw[pj.out];exact Ub,by rcases Hg.out with⟨_,h⟩ | h<;> exact .inr h⟩
     case measure=>simp[intOf];omega
   . gi_wp2;refine wZ1 (results_none rfl _ _ _) rfl ?_;exact⟨⟨_,rfl⟩,.inr ⟨_,trivial,H9⟩⟩
 . have vT:k=m:=(by omega);subst vT;have Mx:J xs wr:=(by have:=HJ.out;rwa[nM.out,zQ1]at this);have Uc:=af Mx;clear Mx hBl;gi_wp2;go_end0;exact⟨⟨_,rfl⟩,.inl ⟨xs,FL,Uc⟩⟩
def vd (S:Int->Option An)(x:Int×An):Int->Option An:=if cM (S x.1)<x.2.seq then eJ S x.1 x.2 else S
def dC (S:Int->Option An)(xs:List (Int×An)):Int->Option An:=xs.foldl vd S
theorem z4w (S:Int->Option An)(xs:List (Int×An))(x:Int×An):dC S (xs++[x])=vd (dC S xs) x:=by
 unfold dC;rw[xX6];rfl
theorem z3T (X:World)(a b c:Value)(h:a.oneCell'=true):(Instr.field 179 (.agg #[a,b,c]) 0).run prog X=.ok a X:=by
 cases a<;> first | (simp[Value.oneCell']at h;done) | kernel_rfl
theorem y8l (W:World)(k:Nat):ae W (W.drewN k):=by
 have h:=(ae.rf W)
 exact⟨h.os,h.tape,h.output,h.size,h.block⟩
def tY (n₀ mR:Nat)(A B:World):Prop:=A.heap.size<=B.heap.size/\(∀b,b<n₀->b≠mR->B.heap[b]? =A.heap[b]?)/\∀(b:Nat) (o:Obj),n₀<=b->A.heap[b]? =some o->o.isCells=true->B.heap[b]? =some o
theorem tY.trans {n₀ mR:Nat}{A B C:World}(h:tY n₀ mR A B)(k:tY n₀ mR B C):tY n₀ mR A C:=⟨zZ6 h.1 k.1,fun b h1 h2=>(k.2.1 b h1 h2).trans (h.2.1 b h1 h2),fun b o h1 h2 h3=>k.2.2 b o h1 (h.2.2 b o h1 h2 h3) h3⟩
theorem tY.put {n₀ mR:Nat}{w:World}(hn:n₀<=w.heap.size)(W:World)(l:Nat)(o o':Obj)(hl:w.heap.size<=l)(h1:W.heap[l]? =some o)(h2:o.isCells=false)(h3:o.isWalk=false):tY n₀ mR W (W.putObj l o'):=by
 refine⟨?_,fun b hb _=>?_,fun b q hb hq hc=>?_⟩
 . exact(grownBy_putObj' W l o').size
 . exact(grownBy_putObj' W l o').block b (by have:=(zZ2.1 h1).1;omega) (fun e=>by have:=Option.some.inj e;omega)
 . refine((grownBy_putObj' W l o').block b (zZ2.1 hq).1 (fun e=>?_)).trans hq;have e:=Option.some.inj e;subst e;rw[h1]at hq;cases hq;rw[h2]at hc;cases hc
theorem tY.only {n₀ mR:Nat}{A B:World}(g:ar (fun j=>j=mR) A B)(hm:mR<n₀)(hn:n₀<=A.heap.size):tY n₀ mR A B:=
 ⟨g.size,fun b hb h2=>g.block b (by omega) h2,fun b o hb h1 _=>(g.block b (zZ2.1 h1).1 (fun(e:b=mR)=>by omega)).trans h1⟩
theorem qI.N0 {w w':World}{F:Nat->Prop}{sb mb n:Nat}{f:Lit->Option Value}{S:Int->Option An}(h:qI w F sb mb n f S)(c:Int)(a:An)(h1:1<=c)(h2:c<=4)(h3:a.Ok)(hn:n<=1000000)(g:ae w w'):
    ∃w2 f2,(Instr.mapUpdate 169 (.map (some mb)) (.int .i64 c) a.agg).run prog w'=.ok () w2/\ar (fun j=>j=mb) w' w2/\qI w2 F sb mb (n+1) f2 (eJ S c a):=by
 have hg:=h.aC (g.only fun _=>False) (fun _ _ h=>h);obtain⟨w2,hrun,r1,r2⟩:=hg.lm.store (val:=a.agg) ng underlying169 (by unfold maxLen;omega) (keyOf_int_mk underlying3 (qH (c:=c) (by omega) (by omega)));have hO:ar (fun j=>j=mb) w' w2:=ar.eh r2;refine⟨w2,_,hrun,hO,⟨(hO.cell (bf hg.c0) (fun e=>h.ne e) 0).trans hg.c0,r1,fun d=>?_,fun l hl=>?_,fun d b hb=>?_,h.bH,h.aY,h.ne,fun j hj=>xA9 (h.lt j hj) (zZ6 g.size hO.size)⟩⟩
 . unfold fB eJ bt;by_cases hd:d=c
   . subst hd;simp
   . rw[zZ0 hd,zZ0 (fun e=>hd (by injection e)),<-h.val];rfl
 . unfold fB at hl;by_cases hd:l=.int .i64 c
   . exact⟨c,hd⟩
   . rw[zZ0 hd]at hl;exact h.lit l hl
 . unfold eJ at hb;by_cases hd:d=c
   . rw[zZ1 hd]at hb;cases hb;subst hd;exact⟨h1,h2,h3⟩
   . rw[zZ0 hd]at hb;exact h.ok d b hb
def DJ (w w4:World)(F:Nat->Prop)(sR mR nR:Nat)(S:Int->Option An)(pre:List qK)(W:World):Prop:=
 (∃n f,n<=nR+pre.length/\qI W F sR mR n f (dC S (pre.map Subtype.val)))/\ar F w W/\W.cell? ⟨w.heap.size,0,none⟩=some (.pointer (some ⟨sR,0,none⟩))/\w4.heap.size<=W.heap.size
theorem DJ.turn {w w4:World}{F:Nat->Prop}{sR mR nR:Nat}{S:Int->Option An}{pre:List qK}{W W':World}{Q:Nat->Prop}(h:DJ w w4 F sR mR nR S pre W)(hF:∀j,F j->j<w.heap.size)(g:ar Q W W')(hQ:∀j,Q j->w.heap.size+1<=j):DJ w w4 F sR mR nR S pre W':=by
 obtain⟨⟨n,f,h1,h2⟩,h3,h4,h5⟩:=h;refine⟨⟨n,f,h1,h2.aC g fun j hj hq=>?_⟩,h3.trans g fun j hj=> .inr ?_,(g.cell (bf h4) (fun hq=>?_) 0).trans h4,zZ6 h5 g.size⟩
 . have:=hF j hj;have:=hQ j hq;omega
 . have:=hQ j hj;omega
 . have q:=hQ w.heap.size hq;omega
theorem DJ.own {w w4:World}{F:Nat->Prop}{sR mR nR:Nat}{S:Int->Option An}(hF:∀j,F j->j<w.heap.size)(h4:w.heap.size+1<=w4.heap.size):OwnFrom w4.heap.size (DJ w w4 F sR mR nR S):=by
 intro pre W W' row h hg hr;exact h.turn hF (ar.ay hg) fun j hj=>zZ6 h4 (hr j hj.symm).1
def DB (w4:World)(Bx:Nat)(x:qK)(W:World):Prop:=w4.heap.size<=Bx/\W.cell? ⟨Bx,0,none⟩=some (.int .i64 x.1.2.seq)/\W.cell? ⟨Bx,1,none⟩=some (.int .i64 x.1.2.cI)/\W.cell? ⟨Bx,2,none⟩=some (.int .i64 x.1.2.at_)
theorem DB.own {w4:World}{Bx:Nat}{x:qK}{B:Nat}:OwnFrom B (fun(_:Unit) W=>DB w4 Bx x W):=by
 rintro _ W W' row ⟨h1,h2,h3,h4⟩ hg hr;have kA:=fun r e=>(hr r e).2;exact⟨h1,cell_kept h2 hg kA,cell_kept h3 hg kA,cell_kept h4 hg kA⟩
theorem z5h {w:World}{F G:Nat->Prop}{sR sO nR nO:Nat}{S T:Int->Option An}(h:lh w F sR nR S)(k:lh w G sO nO T)(hd:∀j,G j->¬F j)(hn:nR<=100000)(iU:nO<=1000000):
    Calls prog 122 #[.pointer (some ⟨sR,0,none⟩),.pointer (some ⟨sO,0,none⟩)] w fun e w'=>e=.returned (.tuple #[])/\∃n',n'<=nR+4/\TU w F sR n' (dC S (iB T)) w':=by
 obtain⟨mR,fR,h⟩:=h;obtain⟨mO,fO,k⟩:=k;have HR:=af h;have HO:=af k;have hsR:sR<w.heap.size:=bf h.c0;have hsO:sO<w.heap.size:=bf k.c0;have VZ:mR<w.heap.size:=h.lm.lt;have hmO:mO<w.heap.size:=k.lm.lt;have hne:sO≠mR/\mO≠mR/\sR≠mR:=⟨fun e=>hd _ k.bH (by rw[e];exact h.aY),fun e=>hd _ k.aY (by rw[e];exact h.aY),h.ne⟩
 clear h k;refine(callsIn_wide (n:=20)).1 (callsIn_of_wp_marks func122 rfl trivial ?_);refine wpIn_wide.2 ?_;simp only[ntmps122,xQ4,zQ6,zJ0,Nat.reduceAdd,Nat.reduceSub,xQ5,xQ6,xQ7,yJ1,zK8,yZ8];go_wp2_with fail;refine(Zy _ sO).mono ?_;rintro e w4 ⟨rfl,hw4⟩;have jO:=af hw4;clear hw4;go_wp2_with fail;have g4:ae w w4:=by rw[jO.out];exact((ae.rf w).alloc _).alloc _
 have FO:w4.heap.size=w.heap.size+2:=by rw[jO.out];simp
 have j5:w4.cell? ⟨w.heap.size,0,none⟩=some (.pointer (some ⟨sR,0,none⟩)):=by rw[jO.out];simp[go_sem]
 have wV:w4.cell? ⟨w.heap.size+1,0,none⟩=some (.pointer (some ⟨sO,0,none⟩)):=by rw[jO.out];simp[go_sem]
 have hBh:∃o:Obj,w4.heap[w.heap.size+1]? =some o/\o.isCells=true:=by
  have hs:(w.alloc (.cells #[.pointer (some ⟨sR,0,none⟩)] 104)).heap.size=w.heap.size+1:=by simp
  rw[jO.out,<-hs];exact⟨_,wZ0 _ _,rfl⟩
 have pD:=HR.lt;have MF:DJ w w4 F sR mR nR S [] w4:=⟨⟨nR,fR,by simp,HR.aC (g4.only fun _=>False) (fun _ _ h=>h)⟩,g4.only _,j5,zZ3 _⟩
 have jb:=y8z 19 (by omega) (tY w.heap.size mR) (HO.aC (g4.only fun _=>False) (fun _ _ h=>h)) iU wV (fun h k=>h.trans k) (fun A B h=>⟨h.2.1 _ hsO hne.1,h.2.1 _ hmO hne.2.1⟩)
  (fun W1 W2 hW1 hk=>by
   obtain⟨o,ho,hc⟩:=hBh;have q1:=(hW1.block (w.heap.size+1) (by omega)).trans ho;have q2:=hk.2.2 _ o (by omega) q1 hc;rw[z0u (q2.trans ho.symm) 0];exact wV)
  (fun W W1 W2 hW hW1 hk b o hb ho hc=>hk.2.2 b o (by have:=hW.size;omega) ho hc)
 have Ut:=af MF;clear MF j5 hBh;refine(wpIn_wide (n:=20)).1 ?_;refine wpIn_rangeFunc_ownH rfl (by omega) (gf:=145) (lb:=#[.pointer (some ⟨w.heap.size+1,0,none⟩)]) rfl trivial (enters_of func145 (by kernel_rfl) rfl)
  jb (fun h k=>h.trans k) (tY.put (by omega)) (Below.refl _ _) (fun _=>rfl)
  (DJ w w4 F sR mR nR S) (fun _ _ _=>False) (DJ.own pD (by omega)) (fun c=>fun _ _ _ _ h _ _=>h) Ut
  (fun x a' W=>∃Bx,DB w4 Bx x W/\a'={tmps:=#[.pointer (some ⟨sR,0,none⟩),.pointer (some ⟨sO,0,none⟩),.pointer (some ⟨w.heap.size,0,none⟩),undef,.int .i64 x.1.1,.pointer (some ⟨Bx,0,none⟩),.pointer (some ⟨sO,0,none⟩),.func (.func 145) #[] #[.pointer (some ⟨w.heap.size+1,0,none⟩)],.int .i64 x.1.1,x.1.2.agg,undef,undef,undef,undef,undef,undef,undef,undef,undef,undef,undef,undef,undef,undef,undef,undef],defers:=[]})
  (fun x a' _ X Y row hs hg hr=>by obtain⟨Bx,h1,h2⟩:=hs;exact⟨Bx,DB.own () X Y row h1 hg hr,h2⟩)
  ?assign ?body ?done ?stop
 case assign=>
  rintro l pre ⟨⟨c,q,k,t⟩,hx⟩ W K hI hK;have hz:=hI.2.2.2;have gA:ae W (W.alloc (.cells #[.int .i64 q,.int .i64 k,.int .i64 t] 179)):=(ae.rf W).alloc _;have HX:=af (hK {tmps:=#[.pointer (some ⟨sR,0,none⟩),.pointer (some ⟨sO,0,none⟩),.pointer (some ⟨w.heap.size,0,none⟩),undef,.int .i64 c,.pointer (some ⟨W.heap.size,0,none⟩),.pointer (some ⟨sO,0,none⟩),.func (.func 145) #[] #[.pointer (some ⟨w.heap.size+1,0,none⟩)],.int .i64 c,.agg #[.int .i64 q,.int .i64 k,.int .i64 t],undef,undef,undef,undef,undef,undef,undef,undef,undef,undef,undef,undef,undef,undef,undef,undef],defers:=[]} (W.alloc (.cells #[.int .i64 q,.int .i64 k,.int .i64 t] 179)) (KeepsFrom.ah gA _) (tY.only (gA.only _) VZ (by omega)) (hI.turn pD (gA.only fun _=>False) (fun _ h=>h.elim)) ⟨W.heap.size,⟨hz,by simp[go_sem],by simp[go_sem],by simp[go_sem]⟩,rfl⟩);clear hK hI gA FO jb;dsimp only[An.agg,pP];gi_wp2;exact HX
 case body=>
  rintro l pre ⟨⟨c,q,k,t⟩,hx1,hx2,hx3⟩ a' W hl vY hI ⟨Bx,hDB,rfl⟩ az;have s1:1<=q:=hx3.s1;have s2:q<=1073741824:=hx3.s2;have s6:1<=c:=hx1;have s7:c<=4:=hx2;clear jb vY;obtain⟨⟨n,f,nk,Li⟩,hO,j5,hsz⟩:=hI;obtain⟨hBx,b0,b1,b2⟩:=hDB;dsimp only at *;have c0:=Li.c0;have IV:=bf c0;have hbl:=bf j5;have hBl:=bf b0;have kU:=af Li;unfold An.agg;dsimp only;obtain⟨vq,V3⟩:∃v,v=cM (dC S (pre.map Subtype.val) c):=⟨_,rfl⟩
  obtain⟨vk,hvk⟩:∃v,v=ia (dC S (pre.map Subtype.val) c):=⟨_,rfl⟩
  obtain⟨vt,hvt⟩:∃v,v=sI (dC S (pre.map Subtype.val) c):=⟨_,rfl⟩
  have qy:=af (fun(X:World) (g:ae W X)=>show(Instr.lookup 169 (.map (some mR)) (.int .i64 c) false).run prog X=.ok (.agg #[.int .i64 vq,.int .i64 vk,.int .i64 vt]) X by
   have h7:=(kU.lm.ah g).lookup ng underlying169 (Q0 X) (keyOf_int_mk underlying3 (qH (c:=c) (by omega) (by omega)));rw[show(Lit.int .i64 c)=bt c from rfl,kU.out.val]at h7;rw[V3,hvk,hvt];cases h8:dC S (pre.map Subtype.val) c with
   | none=>rw[h8]at h7;exact h7
   | some a=>rw[h8]at h7;exact h7)
  have HJC:=af (show dC S ((pre++[(⟨(c,⟨q,k,t⟩),hx1,hx2,hx3⟩:qK)]).map Subtype.val)=if vq<q then eJ (dC S (pre.map Subtype.val)) c ⟨q,k,t⟩else dC S (pre.map Subtype.val)by
   rw[yX3,List.map_singleton,z4w,V3];rfl)
  have HOW:=af hO;have iI:=af hsz;have hWs:=hO.size;clear V3 hvk hvt hO hsz;have hfd:=fun j:Nat=>z3T (W.drewN j) (.int .i64 vq) (.int .i64 vk) (.int .i64 vt) rfl;have N1:=fun j:Nat=>qy (W.drewN j) (y8l W j);gi_wp2;refine y5r (F:=Fence.wide) (C:=fun w'=>∃k:Nat,w'=W.drewN k) rfl (by kernel_rfl) (by kernel_rfl) (by kernel_rfl) ⟨1,rfl⟩ ?_;dsimp only;repeat (gi_big_quiet_step (fail))
  refine wpQuietIn_nil ?_;rintro X ⟨k2,rfl⟩;have gX:=y8l W k2;generalize W.drewN k2=X at *;have hXs:=gX.size;by_cases hq:vq<q
  . have d0:=(gX.cells.1 _ 0 IV).trans c0;have dx:=(gX.cells.1 _ 0 hbl).trans j5;have e0:=(gX.cells.1 _ 0 hBl).trans b0;have e1:=(gX.cells.1 _ 1 hBl).trans b1;have e2:=(gX.cells.1 _ 2 hBl).trans b2;obtain⟨X2,f2,hrun,gN,j4⟩:=kU.N0 c ⟨q,k,t⟩ hx1 hx2 hx3 (by have:=nk;omega) gX.drew;have mK:ar (fun j=>j=mR) W X2:=(gX.drew.only _).then gN;have cE:Hid (KeepsFrom w4.heap.size W X2/\tY w.heap.size mR W X2/\DJ w w4 F sR mR nR S (pre++[(⟨(c,⟨q,k,t⟩),hx1,hx2,hx3⟩:qK)]) X2):=by
     refine⟨⟨mK.size,fun j o hj ho _=>(mK.block j (zZ2.1 ho).1 (fun(e:j=mR)=>by omega)).trans ho⟩,tY.only mK VZ (by omega),⟨n+1,f2,by rw[zZ4,xQ2];omega,?_⟩,HOW.then (mK.mono fun j hj=> .inl (by rw[hj];exact HR.aY)),(mK.cell hbl (fun(e:w.heap.size=mR)=>by omega) 0).trans j5,zZ6 iI mK.size⟩;rw[HJC.out,zZ1 hq];exact j4
    unfold An.agg at hrun;dsimp only at hrun;clear gN j4 mK gX N1 hfd c0 b0 b1 b2 j5 FO;gi_wp2;gi_region;all_goals gi_wp2
    all_goals exact cE
  . have mK:ar (fun j=>j=mR) W X:=gX.only _;have cE:Hid (KeepsFrom w4.heap.size W X/\tY w.heap.size mR W X/\DJ w w4 F sR mR nR S (pre++[(⟨(c,⟨q,k,t⟩),hx1,hx2,hx3⟩:qK)]) X):=by
     refine⟨KeepsFrom.ah gX _,tY.only mK VZ (by omega),⟨n,f,by rw[zZ4,xQ2];omega,?_⟩,HOW.then (mK.mono fun j hj=> .inl (by rw[hj];exact HR.aY)),(gX.cells.1 _ 0 hbl).trans j5,zZ6 iI hXs⟩;rw[HJC.out,zZ0 hq];exact kU.aC (gX.only fun _=>False) (fun _ _ h=>h)
    clear mK gX N1 hfd c0 b0 b1 b2 j5 FO;gi_wp2;exact cE
 case done=>
  rintro D ys W hD hS ⟨⟨n,f,nk,Li⟩,hO,j5,hsz⟩ hK;have hyl:ys.length<=4:=by have:=wZ7 List.length hS;rw[zX6]at this;have:=H8 T;omega
  rw[hS]at Li;have HK:=af hK;have HF:=af (show lh W F sR n (dC S (iB T))from⟨mR,f,Li⟩);have uJ:=af hO;have Uw:w4.heap.size<=D:=hD;clear jb Li hO hK;have hDn:w.heap.size<=D:=by omega
  clear FO hD Uw;go_wp2_with fail;refine⟨by simp,.inl ⟨_,_,rfl,run_takeDeferred HK,?_⟩⟩;have hP:=ar.ay (grownBy_putObj' W D (Obj.deferred none));refine⟨.tuple #[],by simp[results,Tryz.f122,go_sem],rfl,n,by omega,uJ.trans hP (fun j hj=> .inr (by have:=Option.some.inj hj;omega)),HF.aC hP (fun j hj e=>by have:=Option.some.inj e;have:=HR.lt j hj;omega)⟩
 case stop=>
  rintro D c pre W hD _ h _;exact h.elim
end
section
open Go.Shelf
attribute [local go_sem] bl
theorem qI.len {w w':World}{F:Nat->Prop}{sb mb n:Nat}{f:Lit->Option Value}{S:Int->Option An}(h:qI w F sb mb n f S)(g:ae w w')(ty:TypeId):(Builtin.len_ #[169] ty #[.map (some mb)]).run prog w'=.ok (.int .i64 ((iB S).length:Nat)) w':=by
 obtain⟨D,aH,hf⟩:=h.lm.ah g;obtain⟨qD,fD,_,_⟩:=Zj aH ng underlying3;rw[aH.len underlying169 ty];have hl:Maps.size D=(intKeys D).length:=by
  obtain⟨es,hD,_⟩:=aH.entries ng;rw[hD];unfold intKeys Maps.size;simp
 have e:(intKeys D).Perm ((iB S).map (·.1)):=by
  refine(xX3 qD ((TZ S).imp fun {a b} hab=>by omega)).2 fun c=>?_;rw[fD,hf,h.val,zX3];constructor
  . intro hc;cases hS:S c with
    | none=>rw[hS]at hc;exact absurd rfl hc
    | some a=>exact⟨(c,a),CL.2 ⟨by have:=h.ok c a hS;omega,hS⟩,rfl⟩
  . rintro ⟨⟨d,a⟩,hd,rfl⟩;rw[(CL.1 hd).2];simp
 rw[hl,e.length_eq,zX6]
structure Uo (y:World)(m:Nat)(L:Nat->Bool)(f:Nat->Value)(x:World):Prop where
 ah:ae y x
 len:L 5=true->f 5=.int .i64 (m:Nat)
def DI (w w4:World)(ob m:Nat)(pre:List qK)(W:World):Prop:=(ki W ob (Pl.aU m++fM (pre.map Subtype.val))/\W.cell? ⟨ob+1,0,none⟩=some (.pointer (some ⟨ob,0,none⟩))/\(∀j,dQ ob W j->w.heap.size<=j/\j≠ob+1)/\w4.heap.size<=W.heap.size)/\Below w.heap.size w W
theorem DI.own {w w4:World}{ob m:Nat}(h4:w.heap.size<=w4.heap.size):OwnFrom w4.heap.size (DI w w4 ob m):=by
 rintro pre W W' row ⟨⟨h1,h2,h3,h5⟩,h6⟩ hg hr;obtain⟨k1,k2⟩:=h1.own hg (fun r e=>(hr r e).2);exact⟨⟨k1,cell_kept h2 hg (fun r e=>(hr r e).2),fun j hj=>h3 j ((k2 j).1 hj),zZ6 h5 hg.size⟩,h6.grown hg h6.size (fun k e=>zZ6 h4 (hr k e).1)⟩
theorem DI.ah {w w4 W W':World}{ob m:Nat}{pre:List qK}(h:DI w w4 ob m pre W)(g:ae W W'):DI w w4 ob m pre W':=by
 obtain⟨⟨h1,h2,h3,h5⟩,h6⟩:=h;obtain⟨k1,k2⟩:=h1.ah g;exact⟨⟨k1,(g.cells.1 _ _ (bf h2)).trans h2,fun j hj=>h3 j ((k2 j).1 hj),zZ6 h5 g.size⟩,h6.trans (Below.mono g h6.size)⟩
def DA (w4:World)(ob Bx:Nat)(x:qK)(W:World):Prop:=w4.heap.size<=Bx/\W.cell? ⟨Bx,0,none⟩=some (.int .i64 x.1.2.seq)/\W.cell? ⟨Bx,1,none⟩=some (.int .i64 x.1.2.cI)/\W.cell? ⟨Bx,2,none⟩=some (.int .i64 x.1.2.at_)/\Bx≠ob/\∃v,W.cell? ⟨ob,0,none⟩=some v/\v.ownBlock≠some Bx
theorem DA.own {w4:World}{ob Bx:Nat}{x:qK}{B:Nat}:OwnFrom B (fun(_:Unit) W=>DA w4 ob Bx x W):=by
 rintro _ W W' row ⟨h1,h2,h3,h4,h5,v,h6,h7⟩ hg hr;have kA:=fun r e=>(hr r e).2;exact⟨h1,cell_kept h2 hg kA,cell_kept h3 hg kA,cell_kept h4 hg kA,h5,v,cell_kept h6 hg kA,h7⟩
theorem DA.cC {w4 W:World}{ob Bx:Nat}{x:qK}(h:DA w4 ob Bx x W):¬dQ ob W Bx:=by
 obtain⟨_,_,_,_,h5,v,h6,h7⟩:=h;rintro (e | ⟨u,hu,hj⟩)
 . exact h5 e
 . rw[h6]at hu;cases hu;exact h7 hj
theorem z4m {w:World}{F:Nat->Prop}{sb n:Nat}{S:Int->Option An}(h:lh w F sb n S)(hn:n<=1000000):
    Calls prog 83 #[.pointer (some ⟨sb,0,none⟩)] w fun e w'=>∃a c,e=.returned (.tuple #[.slice a (ew S).length c,.nilIface])/\w'.ownsRow w.heap.size 5 1 (.slice a (ew S).length c) (ew S).length (dX (ew S))/\ae w w':=by
 obtain⟨mb,f,h⟩:=h;have HS:=af h;have c0:=h.c0;have iA:sb<w.heap.size:=bf c0;obtain⟨m,hm⟩:∃m,m=(iB S).length:=⟨_,rfl⟩
 have HM:=af hm;have Mu:m<=4:=by rw[hm];exact H8 S
 have Rc:=af (fun W (g:ae w W) ty=>h.len g ty);rw[<-hm]at Rc;have vW:mb<w.heap.size:=h.lm.lt;clear h hm;refine(callsIn_wide (n:=20)).1 (callsIn_of_wp_marks func83 rfl trivial ?_);refine wpIn_wide.2 ?_;simp only[ntmps83,xQ4,zQ6,zJ0,Nat.reduceAdd,Nat.reduceSub,xQ5,xQ6,xQ7,yJ1,zK8,yZ8];go_wp2_with fail;obtain⟨ob,dS⟩:∃ob,ob=w.heap.size:=⟨_,rfl⟩
 obtain⟨Y,hY⟩:∃Y,Y=(w.alloc (.cells #[.slice none 0 0,.nilIface] 147)).alloc (.cells #[.pointer (some ⟨w.heap.size,0,none⟩)] 145):=⟨_,rfl⟩
 have yS:=af dS;have kL:cY Y (fun j=>j=ob) ob []:=by rw[hY,dS];exact(cY.new w _).ah ((ae.rf _).alloc _)
 have FE:ae w Y:=by rw[hY];exact((ae.rf w).alloc _).alloc _
 have j5:Y.cell? ⟨ob+1,0,none⟩=some (.pointer (some ⟨ob,0,none⟩)):=by rw[hY,dS];simp[go_sem]
 have hsz:Y.heap.size=ob+2:=by rw[hY,dS];simp
 rw[<-dS]at hY ⊢;rw[<-hY];have Up:=af kL;have dg:=af FE;have yT:=af j5;have iI:=af hsz;have C0:=bj ((FE.cells.1 _ 0 iA).trans c0);have C1:=bj j5;clear hY kL FE j5 hsz dS;refine kh 6 [5] (ae Y) Eq (Uo Y m) (fun f a=>a.put (some 16) (f 5)) ⟨(ae.rf Y).drew,fun h=>by cases h⟩ (fun _ _ _ h=>h.ah) (fun _=>rfl) (fun _ _ _ _ h g=>g▸h) ?_;repeat (first|refine kg ?_|(refine gg ?_;intros;go_big_quiet_op;go_big_quiet_on)|(refine fZ ?_;simp only[Act.put,xB9,xC9,xD9]))
 refine jB (by rfl) ⟨⟨bL rfl (fun _ a=>a) ?_,trivial⟩,?_⟩
 . intro L f x hJ hL hd;have tI:=Rc x (dg.trans hJ.ah);have HJ:=af hJ;clear hJ hL hd C0 C1 c0;go_simp;exact⟨HJ.ah,fun _=>fY _ _ _⟩
 intro f x hJ;have e5:=hJ.len rfl;have ke:=af hJ.ah;clear hJ C0 C1;dsimp only[List.drop];simp only[Act.put,xB9,xD9,xC9];rw[e5];clear e5;go_wp2_with fail;refine(KR (Up.ah ke) m (by omega) (by simp)).mono ?_;rintro e w3 ⟨rfl,MD⟩;have Ih:=af MD;clear MD;go_wp2_with fail;refine(Zy w3 sb).mono ?_;rintro e w4 ⟨rfl,hw4⟩;have jO:=af hw4;clear hw4;go_wp2_with fail;have dS:=yS.out;have mK:=Ih.2.choose_spec.1.l;have ME:ae w w3:=Ih.new (dg.trans ke) (fun j hj=>by rw[hj,dS];exact zZ3 _);have Ii:=iI.out;have iN:=ke.size;have Uq:=Ih.1.size;have hb3:∀j,dQ ob w3 j->j=ob\/x.heap.size<=j:=fun j hj=>Ih.2.choose_spec.2 j (mK.2 j hj);have g4:ae w3 w4:=by rw[jO.out];exact(ae.rf w3).alloc _
 have Ij:=mK.1.ah g4;have FO:w4.heap.size=w3.heap.size+1:=by rw[jO.out];simp
 have Ur:w4.cell? ⟨ob+1,0,none⟩=some (.pointer (some ⟨ob,0,none⟩)):=by
  rw[g4.cells.1 _ _ (by omega),Ih.out.1.cell (by omega) (by omega) 0,ke.out.cells.1 _ _ (by omega)];exact yT
 have wV:w4.cell? ⟨w3.heap.size,0,none⟩=some (.pointer (some ⟨sb,0,none⟩)):=by rw[jO.out];simp[go_sem]
 have vX:ae w w4:=ME.trans g4;have MF:DI w w4 ob m [] w4:=⟨⟨by simpa[fM]using Ij.1,Ur,fun j hj=>by
  rcases hb3 j ((Ij.2 j).1 hj)with h | h
  . omega
  . omega,zZ3 _⟩,vX⟩
 have Ik:∀j,dQ ob w4 j->j<w3.heap.size:=fun j hj=>mK.1.lt j ((Ij.2 j).1 hj);have Us:∀W,Below w4.heap.size w4 W->∀j,dQ ob W j↔dQ ob w4 j:=fun W hW j=>dQ.same (hW.cell (p:=⟨ob,0,none⟩) (by show ob<_;omega)) j;have Ut:=af MF;have Uu:=af vX;have jb:=z0j 19 (by omega) (po w.heap.size ob) w.heap.size (HS.aC (vX.only fun _=>False) (fun _ _ h=>h)) hn wV iA vW vX.size (fun h k=>h.trans k) (fun A B h=>h.1)
  (fun W1 W2 hW1 hk=>hk.cell ((hW1.cell (p:=⟨w3.heap.size,0,none⟩) (by show w3.heap.size<_;omega)).trans wV) (fun hb=>by have:=Ik _ ((Us W1 hW1 _).1 hb);omega))
  (fun W W1 W2 hW hW1 hk b o hb ho hc=>hk.2.2.1 b o ho hc fun eT=>by
   have h1:=Ik _ ((Us W1 (hW.trans (Below.mono hW1 hW.size)) _).1 eT);have:=hW.size;omega)
 clear mK hb3 g4 Ij wV Ik Us MF ME;refine(wpIn_wide (n:=20)).1 ?_;refine wpIn_rangeFunc_ownH rfl (by omega) (gf:=145) (lb:=#[.pointer (some ⟨w3.heap.size,0,none⟩)]) rfl trivial (enters_of func145 (by kernel_rfl) rfl)
  jb (fun h k=>h.trans k) (po.put (by have:=vX.size;omega) (by omega)) (Below.refl _ _) (fun _=>rfl)
  (DI w w4 ob m) (fun _ _ _=>False) (DI.own vX.size) (fun c=>fun _ _ _ _ h _ _=>h) Ut
  (fun x a' W=>∃Bx,DA w4 ob Bx x W/\a'={tmps:=#[.pointer (some ⟨sb,0,none⟩),undef,.slice none 0 0,.nilIface,.pointer (some ⟨ob+1,0,none⟩),.int .i64 x.1.1,.pointer (some ⟨Bx,0,none⟩),undef,undef,.agg #[.slice none 0 0,.nilIface],.pointer (some ⟨ob,0,none⟩),.pointer (some ⟨ob,0,none⟩),.pointer (some ⟨sb,0,none⟩),.pointer (some ⟨sb,0,none⟩),.pointer (some ⟨sb,0,none⟩),.map (some mb),.int .i64 m,.tuple #[],.pointer (some ⟨sb,0,none⟩),.func (.func 145) #[] #[.pointer (some ⟨w3.heap.size,0,none⟩)],.int .i64 x.1.1,x.1.2.agg,undef,undef,undef,undef,undef,undef,undef,undef,undef,undef,undef,undef,undef,undef,undef,undef,undef,undef,undef,undef,undef,undef,undef],defers:=[]})
  (fun x a' _ X Y row hs hg hr=>by obtain⟨Bx,h1,h2⟩:=hs;exact⟨Bx,DA.own () X Y row h1 hg hr,h2⟩)
  ?assign ?body ?done ?stop
 case assign=>
  rintro l pre ⟨⟨c,q,k,t⟩,hx⟩ W K hI hK;have hz:=hI.2.size;have Re:=hI.1.1.lt ob (.inl rfl);clear dS Ii iN Uq FO jb;have gA:ae W (W.alloc (.cells #[.int .i64 q,.int .i64 k,.int .i64 t] 179)):=(ae.rf W).alloc _;have HX:=af (hK {tmps:=#[.pointer (some ⟨sb,0,none⟩),undef,.slice none 0 0,.nilIface,.pointer (some ⟨ob+1,0,none⟩),.int .i64 c,.pointer (some ⟨W.heap.size,0,none⟩),undef,undef,.agg #[.slice none 0 0,.nilIface],.pointer (some ⟨ob,0,none⟩),.pointer (some ⟨ob,0,none⟩),.pointer (some ⟨sb,0,none⟩),.pointer (some ⟨sb,0,none⟩),.pointer (some ⟨sb,0,none⟩),.map (some mb),.int .i64 m,.tuple #[],.pointer (some ⟨sb,0,none⟩),.func (.func 145) #[] #[.pointer (some ⟨w3.heap.size,0,none⟩)],.int .i64 c,.agg #[.int .i64 q,.int .i64 k,.int .i64 t],undef,undef,undef,undef,undef,undef,undef,undef,undef,undef,undef,undef,undef,undef,undef,undef,undef,undef,undef,undef,undef,undef,undef],defers:=[]} (W.alloc (.cells #[.int .i64 q,.int .i64 k,.int .i64 t] 179)) (KeepsFrom.ah gA _) (po.ah hz Re gA) (hI.ah gA) ⟨W.heap.size,⟨hI.1.2.2.2,by simp[go_sem],by simp[go_sem],by simp[go_sem],by omega,by
   obtain⟨v,hv⟩:=hI.1.1;refine⟨v,(gA.cells.1 _ _ Re).trans hv.c0,fun e=>?_⟩;have:=hI.1.1.lt _ (.inr ⟨v,hv.c0,e⟩);omega⟩,rfl⟩)
  clear hK hI gA;dsimp only[An.agg,pP];gi_wp2;exact HX
 case body=>
  rintro l pre ⟨⟨c,q,k,t⟩,hx1,hx2,hx3⟩ a' W hl vY hI ⟨Bx,Zz,rfl⟩ az;have s1:1<=q:=hx3.s1;have s2:q<=1073741824:=hx3.s2;have s3:k=1\/k=2:=hx3.c1;have s4:0<=t:=hx3.a1;have s5:t<4096:=hx3.a2;have s6:1<=c:=hx1;have s7:c<=4:=hx2;clear dS Ii iN Uq FO jb vY;obtain⟨⟨i1,i2,i3,i4⟩,i5⟩:=hI;have ZA:=Zz.cC;obtain⟨_,b0,b1,b2,_,_⟩:=Zz;dsimp only at *;obtain⟨ds,vZ⟩:∃ds,ds=Pl.aU m++fM (pre.map Subtype.val):=⟨_,rfl⟩
  rw[<-vZ]at i1;have ZB:=af vZ;have Il:ds.length<=100000:=by
   rw[vZ,zZ4];have h1:=ie 8 m (by omega);have h2:(fM (pre.map Subtype.val)).length<=pre.length*40:=by
    clear h1 vZ i1 i2 i3 i4 i5 ZB az;induction pre with
    | nil=>simp[fM]
    | cons y ys ih=>
     obtain⟨⟨yc,ya⟩,y1,y2,y3⟩:=y;have z1:1<=ya.seq:=y3.s1;have z2:ya.seq<=1073741824:=y3.s2;have z3:ya.cI=1\/ya.cI=2:=y3.c1;have z4:0<=ya.at_:=y3.a1;have z5:ya.at_<4096:=y3.a2;have z6:1<=yc:=y1;have z7:yc<=4:=y2;dsimp only at *;have e1:=ie 8 yc.toNat (by omega);have e2:=ie 8 ya.seq.toNat (by omega);have e3:=ie 8 ya.cI.toNat (by omega);have e4:=ie 8 ya.at_.toNat (by omega);unfold fM at ih ⊢;simp only[zJ5,zK2,zZ4,zQ6,BW];omega
   omega
  clear vZ;have MG:=af i1;have ZC:=af i2;have HI3:=af i3;have HI4:=af i4;have HI5:=af i5;have hz:=i5.size;have Re:=i1.lt ob (.inl rfl);obtain⟨vs,KS⟩:∃vs:List Int,vs=[c,q,k,t]:=⟨_,rfl⟩
  obtain⟨W1,hW1⟩:∃W1,W1=W.alloc (.cells #[.int .i64 c,.int .i64 q,.int .i64 k,.int .i64 t] 3):=⟨_,rfl⟩
  have g1:ae W W1:=by rw[hW1];exact(ae.rf W).alloc _
  have ct:=af g1;have bM:=af hW1;have KP:=af KS;have Im:=af (fun(j:Nat) (hj:j<4)=>show ∃u:Nat,vs[j]? =some (u:Int)/\W1.cell? ⟨W.heap.size,j,none⟩=some (.int .i64 u)/\u<4611686018427387904 by
   rw[KS,hW1];match j,hj with
   | 0,_=>exact⟨c.toNat,by simp;omega,by simp[go_sem];omega,by omega⟩
   | 1,_=>exact⟨q.toNat,by simp;omega,by simp[go_sem];omega,by omega⟩
   | 2,_=>exact⟨k.toNat,by simp;omega,by simp[go_sem];omega,by omega⟩
   | 3,_=>exact⟨t.toNat,by simp;omega,by simp[go_sem];omega,by omega⟩)
  have fC:=(i1.ah g1)
  have HL1:=af fC.1;have FP:=af (fun j (hj:dQ ob W1 j)=>show j<W.heap.size/\w.heap.size<=j/\j≠ob+1 from⟨i1.lt j ((fC.2 j).1 hj),i3 j ((fC.2 j).1 hj)⟩);have MH:=af ((g1.cells.1 _ _ (bf i2)).trans i2);have hz1:w.heap.size<=W1.heap.size:=zZ6 hz g1.size;clear i1 i2 i3 i4 i5 g1 hW1 KS fC;gi_wp2;rw[<-bM.out];clear b0 b1 b2;gi_loopw [8,33] (fun u i wr=>∃j:Nat,j<=4/\i=.int .i64 j/\Hid (ki wr ob (ds++(vs.take j).flatMap fun u=>Pl.aU u.toNat))/\Hid (po w.heap.size ob W1 wr)/\Hid (KeepsFrom w4.heap.size W1 wr)) (fun _ i _=>4 - (intOf i).toNat);exact⟨0,by omega,rfl,by unfold Hid;simpa using HL1.out,po.refl _,KeepsFrom.refl _ _⟩;obtain⟨j,hj,rfl,HL,HK,HF⟩:=hrel;have tJ:w.heap.size<=wr.heap.size:=zZ6 hz1 HK.2.1;have CO:=HK.cell MH (fun h=>(FP _ h).2.2 rfl);have Uv:=bf CO;have ZE:=af (fun i (hi:dQ ob wr i)=>show w.heap.size<=i by
   rcases HK.out.2.2.2 i hi with h | h
   . exact(FP i h).2.1
   . omega)
  by_cases CP:j<4
  . obtain⟨u,MI,MJ,ZF⟩:=Im j CP;have hc:=HK.cell MJ (fun h=>by have:=(FP _ h).1;omega);have fP:=bf hc;have bK:(ds++(vs.take j).flatMap fun u=>Pl.aU u.toNat).length<=90000000:=by
     rw[zZ4];have h2:((vs.take j).flatMap fun u=>Pl.aU u.toNat).length<=40:=by
      have e1:=ie 8 c.toNat (by omega);have e2:=ie 8 q.toNat (by omega);have e3:=ie 8 k.toNat (by omega);have e4:=ie 8 t.toNat (by omega);rw[KP.out];match j,CP with
      | 0,_=>simp
      | 1,_=>simp;omega
      | 2,_=>simp;omega
      | 3,_=>simp;omega
     omega
    have HN:=af (CallsIn.inRound l ((callsIn_wide (n:=17)).2 (KR HL u ZF bK)));have ry:(vs.take (j+1)).flatMap (fun u=>Pl.aU u.toNat)=((vs.take j).flatMap fun u=>Pl.aU u.toNat)++Pl.aU u:=by
     obtain⟨jH,Io⟩:=zQ9.1 MI;rw[zX1 jH,zK3,Io];simp
    have pj:=af ry;clear MI MJ bK ry;gi_wp2;refine⟨trivial,HN.mono ?_⟩;rintro e w5 ⟨rfl,hT⟩;obtain⟨fV,tK,iu⟩:=po.turn HL tJ ZE hT;have KT:=af tK;have Rf:=af (HK.trans fV);have HF5:=af (HF.trans (iu w4.heap.size));clear hT fV tK iu hc CO;gi_wp2;go_roundw;case rel=>exact⟨j+1,by omega,by go_num,by unfold Hid;rw[pj.out,<-zQ7];exact KT,Rf,HF5⟩
    case measure=>simp[intOf];omega
  . have CQ:j=4:=(by omega);subst CQ;have cE:Hid (ki wr ob (Pl.aU m++fM ((pre++[(⟨(c,⟨q,k,t⟩),hx1,hx2,hx3⟩:qK)]).map Subtype.val))):=by
     have e:ds++((vs.take 4).flatMap fun u=>Pl.aU u.toNat)=Pl.aU m++fM ((pre++[(⟨(c,⟨q,k,t⟩),hx1,hx2,hx3⟩:qK)]).map Subtype.val):=by
      rw[ZB.out,KP.out];unfold fM;simp[BW,zQ7]
     unfold Hid;rw[<-e];exact HL
    have mL:=af CO;have pq:=af (fun i (hi:dQ ob wr i)=>show i≠ob+1 by
     rcases HK.out.2.2.2 i hi with h | h
     . exact(FP i h).2.2
     . have:ob+1<W1.heap.size:=bf MH;omega)
    clear CO;gi_wp2;refine⟨(KeepsFrom.ah ct _).trans HF,(po.ah hz Re ct).trans HK,⟨⟨cE,mL,fun i hi=>⟨ZE i hi,pq i hi⟩,?_⟩,?_⟩⟩
    . exact zZ6 HI4 (zZ6 ct.size HK.2.1)
    . exact HI5.trans ((Below.mono ct hz).trans HK.1)
 case done=>
  rintro D ys W hD hS ⟨⟨i1,i2,i3,i4⟩,i5⟩ hK;clear dS Ii iN Uq FO jb;have bK:(Pl.aU m++fM (ys.map Subtype.val))=ew S:=by rw[hS,HM.out];rfl
  rw[bK]at i1;have MK:(ew S).length<=65536:=by
   rw[<-bK,zZ4];have h1:=ie 8 m (by omega);have h3:ys.length<=4:=(by have:=wZ7 List.length hS;rw[zX6]at this;have:=H8 S;omega);have h2:(fM (ys.map Subtype.val)).length<=ys.length*40:=by
    clear hS bK h3 h1;induction ys with
    | nil=>simp[fM]
    | cons y ys ih=>
     obtain⟨⟨yc,ya⟩,y1,y2,y3⟩:=y;have z1:1<=ya.seq:=y3.s1;have z2:ya.seq<=1073741824:=y3.s2;have z3:ya.cI=1\/ya.cI=2:=y3.c1;have z4:0<=ya.at_:=y3.a1;have z5:ya.at_<4096:=y3.a2;have z6:1<=yc:=y1;have z7:yc<=4:=y2;have e1:=ie 8 yc.toNat (by omega);have e2:=ie 8 ya.seq.toNat (by omega);have e3:=ie 8 ya.cI.toNat (by omega);have e4:=ie 8 ya.at_.toNat (by omega);unfold fM at ih ⊢;simp only[zJ5,zK2,zZ4,zQ6,BW];omega
   omega
  have HD:=af (Q9 i1 MK);have HWB:=af i5;have Uv:=bf i2;have HK:=af hK;have hDW:D<W.heap.size:=(zZ2.1 hK).1;have Uw:=zZ6 Uu.size hD;clear i1 i3 bK;go_wp2_with fail;refine HD.mono ?_;rintro e W5 ⟨a5,c5,rfl,qM,jq⟩;have ZG:=(jq.below.block D hDW).trans HK;have BX:=af qM;have BZ:=af jq;have Rf:=af ZG;clear qM jq ZG hK;go_wp2_with fail;refine⟨by simp,.inl ⟨_,_,rfl,run_takeDeferred Rf,?_⟩⟩;refine⟨.tuple #[.slice a5 (ew S).length c5,.nilIface],by simp[results,Tryz.f83,go_sem],a5,c5,rfl,?_,?_⟩
  . refine mg i5.size (Ct BX (ar.ay (grownBy_putObj' _ D _)) fun b hb e=>?_);have:=(BX.lt b hb).1;have:b=D:=Option.some.inj e;omega
  . exact HWB.trans ((Below.mono BZ i5.size).trans (belowK_b (w:=w) (zZ3 _) W5 D _ _ Uw Rf rfl rfl))
 case stop=>
  rintro D c pre W hD _ h _;exact h.elim
end
def fH (S:Int->Option An)(k:Nat):List (Int×An):=(([1,2,3,4]:List Int).take (k - 1)).filterMap fun c=>(S c).map fun a=>(c,a)
theorem A8 (S:Int->Option An):fH S 5=iB S:=rfl
theorem z5x (S:Int->Option An)(k:Nat)(h1:1<=k)(h2:k<=4):fH S (k+1)=fH S k++match S (k:Int)with | none=>[] | some a=>[((k:Int),a)]:=by
 have e:([1,2,3,4]:List Int).take (k+1 - 1)=([1,2,3,4]:List Int).take (k - 1)++[(k:Int)]:=by
  obtain rfl | rfl | rfl | rfl:k=1\/k=2\/k=3\/k=4:=by omega
  all_goals rfl
 unfold fH;rw[e,List.filterMap_append];congr 1;cases h:S (k:Int)with
 | none=>simp[h]
 | some a=>simp[h]
theorem z2X (S:Int->Option An)(k:Nat):(fH S k).length<=4:=by
 unfold fH;have h1:=List.length_filterMap_le (fun c=>(S c).map fun a=>(c,a)) (([1,2,3,4]:List Int).take (k - 1));rw[zZ9]at h1;simp only[zQ6,zJ0]at h1;omega
def A9 (x:Int×An):List Value:=[.int .i64 x.1,.int .i64 x.2.seq,.int .i64 x.2.cI,.int .i64 x.2.at_]
theorem z2o:∀(xs:List (Int×An)),(∀x∈xs,1<=x.1/\x.1<=4/\x.2.Ok)->(fM xs).length<=xs.length*20:=by
 intro xs;induction xs with
 | nil=>intro _;simp[fM]
 | cons x xs ih=>
  intro hm;have e:fM (x::xs)=BW x++fM xs:=rfl;obtain⟨q1,q2,q3⟩:=hm x (by simp);have a1:=ie 4 x.1.toNat (by omega);have a2:=ie 4 x.2.seq.toNat (by have:=q3.s1;have:=q3.s2;omega);have a3:=ie 4 x.2.cI.toNat (by have:=q3.c1;omega);have a4:=ie 4 x.2.at_.toNat (by have:=q3.a1;have:=q3.a2;omega);have:=ih fun y hy=>hm y (by simp[hy]);rw[e,zZ4];unfold BW;simp only[zZ4,zQ6];omega
theorem z4V {S:Int->Option An}(h:∀c a,S c=some a->1<=c/\c<=4/\a.Ok):(ew S).length<=1000:=by
 have h1:=z2o (iB S) (fun x hx=>by
  obtain⟨c,_,hc⟩:=List.mem_filterMap.1 hx;cases hc2:S c with
  | none=>rw[hc2]at hc;cases hc
  | some b=>rw[hc2]at hc;cases hc;exact h _ _ hc2)
 have h2:=H8 S;have h3:=ie 0 (iB S).length (by omega);unfold ew;rw[zZ4];omega
section
attribute [local go_sem] bl
theorem Bz.Xi {w W:World}{V:List (Nat×List Value)}{g c:Nat}{x y:Int}{cs:List Int}(h:Bz w W V (.slice (some ⟨g,0,none⟩) (x::cs).length c) (x::cs)):Bz w (W.setCell ⟨g,0,none⟩ (.int .u8 y)) V (.slice (some ⟨g,0,none⟩) (y::cs).length c) (y::cs):=by
 obtain⟨h1,h2⟩:=h.row.row.stored 0 (.int .u8 y);obtain⟨k1,k2⟩:=h.row.next (v':=.slice (some ⟨g,0,none⟩) (y::cs).length c) (ds:=y::cs) ⟨_,_,rfl⟩ h1 h2 (fun j hj=> .inl hj);exact h.next k1 k2
def Ez (y:World)(T:TypeId)(x:Int×An)(i:Nat)(v:Value)(u:World):Prop:=(i=21->∃nb,v=.slice (some ⟨nb,0,none⟩) 4 4/\y.heap.size<=nb/\u.heap[nb]? =some (.cells (A9 x).toArray T (0,0)))/\(i=22->v=.int .i64 4)
theorem Ez.mono (y:World)(T:TypeId)(x:Int×An):oy (Ez y T x):=fun i v u u' h g=>⟨fun e=>by
 obtain⟨vb,h1,h2,h3⟩:=h.1 e;exact⟨vb,h1,h2,(g.below.block vb (zZ2.1 h3).1).trans h3⟩,fun e=>h.2 e⟩
theorem z1E {w:World}{rb:Nat}{S:Int->Option An}(h:dy w rb S):
    Calls prog 85 #[.pointer (some ⟨rb,0,none⟩)] w fun e w'=>∃v,e=.returned v/\pY w.heap.size (ew S) v w'/\ae w w':=by
 have HS:=af h;have mL:=af h.ok;have OJ:=af (show Bz w (w.alloc (.cells #[.int .u8 0] 5)) [] (.slice (some ⟨w.heap.size,0,none⟩) 1 1) (((fH S 1).length:Int)::fM (fH S 1))from Bz.aX ((ae.rf w).alloc _) ⟨_,1,rfl,World.ownsRow_lit w #[.int .u8 0] 1 (zZ3 _) (by decide) rfl⟩);clear h;go_in;go_wp2_with fail;go_loopw [3,4] (fun v i wr=>∃k:Nat,1<=k/\k<=5/\i=.int .i64 k/\Hid (Bz w wr [] v (((fH S k).length:Int)::fM (fH S k)))) (fun _ i _=>5 - (intOf i).toNat);exact⟨1,by omega,by omega,rfl,OJ⟩;obtain⟨k,fV,hk5,rfl,HB⟩:=hrel;by_cases az:k<=4
 . have SD:=af (HS.ah HB.ah);have js:=af (z5x S k fV az);have fP:=z2X S k;have d0:=SD.seq k (by omega);have d1:=SD.cI k (by omega);have d2:=SD.at_ k (by omega);have Pn:=SD.lt;have C6:=af (fun a (h:S (k:Int)=some a)=>(mL _ a h).2.2);generalize hS:S (k:Int)=so at *;cases so with
   | none=>
    have xw:=af (show fH S (k+1)=fH S k from js.trans (yZ1 _));clear hS js d1 d2 C6 fP;unfold cM at d0;dsimp only at d0;have hB:=HB.out;rw[<-xw.out]at hB;have qp:=af hB;clear hB;obtain rfl | rfl | rfl | rfl:k=1\/k=2\/k=3\/k=4:=(by omega);all_goals
     go_wp2_with fail
     go_roundw
     case rel=>
      first
       | exact⟨2,by omega,by omega,by go_num,qp⟩
       | exact⟨3,by omega,by omega,by go_num,qp⟩
       | exact⟨4,by omega,by omega,by go_num,qp⟩
       | exact⟨5,by omega,by omega,by go_num,qp⟩
     case measure=>simp[intOf]
   | some a=>
    obtain⟨xq,xk,xt⟩:=a;obtain⟨q1,q2,q3,q4,q5⟩:=C6 _ rfl;have xw:=af (show fH S (k+1)=fH S k++[((k:Int),⟨xq,xk,xt⟩)]from js);have rH:=af (z2X S (k+1));clear hS js C6;unfold cM at d0;unfold ia at d1;unfold sI at d2;dsimp only at d0 d1 d2 q1 q2 q3 q4 q5;have SE:0<xq:=(by omega);have SF:=af (show((fH S (k+1)).length:Int)=((fH S k).length:Int)+1/\fM (fH S (k+1))=fM (fH S k)++BW ((k:Int),⟨xq,xk,xt⟩)by
     rw[xw.out];constructor
     . simp
     . simp[fM])
    have Mu:(fH S (k+1)).length<=4:=rH.out;have iw:Hid (∀(W:World) v,Bz w W [] v ((((fH S k).length:Int)+1)::(fM (fH S k)++BW ((k:Int),⟨xq,xk,xt⟩)))->Bz w W [] v (((fH S (k+1)).length:Int)::fM (fH S (k+1)))):=fun W v h=>by rw[SF.out.2,SF.out.1];exact h
    have hm5:((fH S k).length:Int)+1<=4:=(by have:=SF.1;omega);have bK:(fM (fH S k)).length<=1000:=by
     have h1:=z2o (fH S k) (fun x hx=>by
      obtain⟨c,_,hc⟩:=List.mem_filterMap.1 hx;cases hc2:S c with
      | none=>rw[hc2]at hc;cases hc
      | some b=>rw[hc2]at hc;cases hc;exact mL _ _ hc2)
     omega
    clear xw rH SF fP Mu;obtain⟨g,cp,hvf,_,sS⟩:=HB.row.row.form (by simp);subst hvf;have cg:=HB.row.row.cellAt 0 (by simp);have fg:=HB.row.row.frozenAt 0;have pN:=af (show wr.cell? ⟨g,0,none⟩=some (.int .u8 ((fH S k).length:Int))from cg);have cg:=pN.out;clear pN;have LI:=af (fun y=>HB.Xi (y:=y));have hne:g≠rb:=fun e=>by have:=(HB.row.row.lt g rfl).1;have:=HS.lt;omega
    generalize hcs:fM (fH S k)=cs at *;generalize qJ:((fH S k).length:Int)=m at *;have lW:0<=m:=(by omega);obtain⟨n,hn⟩:∃n,n=(m::cs).length:=⟨_,rfl⟩
    have xe:(0:Int)<(n:Int):=(by rw[hn];simp);rw[<-hn];have Ex:=LI (m+1);rw[show(((m+1)::cs:List Int)).length=n from hn.symm]at Ex;have LG:=af Ex;have hx1:=(show ar (fun j=>j=g) wr (wr.setCell ⟨g,0,none⟩ (.int .u8 (m+1)))from ar.setCell wr ⟨g,0,none⟩ _)
    have HX:=af (show(∀i u,wr.cell? ⟨rb,i,none⟩=some u->(wr.setCell ⟨g,0,none⟩ (.int .u8 (m+1))).cell? ⟨rb,i,none⟩=some u)/\rb<(wr.setCell ⟨g,0,none⟩ (.int .u8 (m+1))).heap.size from⟨fun i u hu=>(hx1.cell Pn (fun e=>hne e.symm) i).trans hu,xA9 Pn hx1.size⟩);have wF:=af (show n=(((m+1)::cs:List Int)).length from hn);clear hx1 Ex HB LI;have hw:=Uk (n:=m+1) (by omega) (by omega);clear hcs qJ;obtain⟨n0,Kc⟩:∃n0:Nat,n0=k:=⟨_,rfl⟩
    obtain⟨n1,e1⟩:∃n:Nat,(n:Int)=xq:=⟨xq.toNat,by omega⟩
    obtain⟨n2,e2⟩:∃n:Nat,(n:Int)=xk:=⟨xk.toNat,by omega⟩
    obtain⟨n3,e3⟩:∃n:Nat,(n:Int)=xt:=⟨xt.toNat,by omega⟩
    obtain⟨ns,iV⟩:∃ns:List Nat,ns=[n0,n1,n2,n3]:=⟨_,rfl⟩
    have FX:=af (show BW ((k:Int),⟨xq,xk,xt⟩)=ns.flatMap Pl.aU by rw[iV,Kc,<-e1,<-e2,<-e3];simp[BW]);have HNB:=af (fun j (hj:j<4)=>show ∃n,ns[j]? =some n/\n<2000000000 by
     rw[iV];match j,hj with
     | 0,_=>exact⟨_,rfl,by omega⟩
     | 1,_=>exact⟨_,rfl,by omega⟩
     | 2,_=>exact⟨_,rfl,by omega⟩
     | 3,_=>exact⟨_,rfl,by omega⟩)
    have Cl:=af (show(ns.flatMap Pl.aU).length<=40 by
     have a0:=ie 4 n0 (by omega);have a1:=ie 4 n1 (by omega);have a2:=ie 4 n2 (by omega);have a3:=ie 4 n3 (by omega);rw[iV];simp only[zK2,xQ8,zZ4,zJ0];omega)
    have Xj:=af (show ns.take 4=ns by rw[iV];rfl);have HCV:=af (show(A9 ((k:Int),⟨xq,xk,xt⟩))=ns.map fun n:Nat=>Value.int .i64 (n:Int)by rw[iV,Kc,<-e1,<-e2,<-e3];rfl);rw[FX.out]at iw;have j8:=fun(y:World)=>af (Ez.mono y 3 ((k:Int),⟨xq,xk,xt⟩));clear iV Kc q1 q2 q3 q4 q5 e1 e2 e3;obtain rfl | rfl | rfl | rfl:k=1\/k=2\/k=3\/k=4:=(by omega);all_goals
     simp only[show((1:Nat):Int)=1 from rfl,show((2:Nat):Int)=2 from rfl,show((3:Nat):Int)=3 from rfl,show((4:Nat):Int)=4 from rfl]
     go_upto_region 7 with fail
     obtain⟨X,hX⟩:∃X,X=wr.setCell ⟨g,0,none⟩ (.int .u8 (m+1)):=⟨_,rfl⟩
     rw[<-hX]at LG HX ⊢
     have D0:=bj (HX.1 _ _ d0)
     have D1:=bj (HX.1 _ _ d1)
     have D2:=bj (HX.1 _ _ d2)
     have Po:=HX.2
     simp only[Nat.reduceMul,Nat.reduceAdd]at D0 D1 D2
     clear hX d0 d1 d2 cg fg hw
     refine kh 24 [21,22] (ae X) ae (JQ (Ez X 3 _) X) (fun f a=>(a.put (some 45) (f 21)).put (some 46) (f 22)) (JQ.aX ..) (fun _ _ _ h=>h.ah) ae.rf (fun _ _ _ _ h g=>h.br (j8 X).out g) ?_
     repeat (first|refine kg ?_|(refine gg ?_;intros;go_big_quiet_op;go_big_quiet_on)|(refine fZ ?_;simp only[Act.put,xB9,xC9,xD9]))
     refine rv ⟨⟨bL rfl (fun _ a=>a) ?_,bL rfl (fun f a=>a.put (some 45) (f 21)) ?_,trivial⟩,?_⟩
     . intro L f u hJ hL hd
       have HJ:=af hJ
       clear hJ hL hd D0 D1 D2
       go_simp
       exact HJ.put (j8 X).out 21 ((ae.rf u).alloc _) ⟨fun _=>⟨_,rfl,HJ.ah.size,wZ0 u _⟩,fun e=>absurd e (by decide)⟩
     . intro L f u hJ hL hd
       obtain⟨nb,GI,_⟩:=(hJ.at_ 21 (hd 21 rfl (by decide))).1 rfl
       have HJ:=af hJ
       clear hJ hL hd D0 D1 D2
       rw[GI]
       clear GI
       go_simp
       exact HJ.same (j8 X).out 22 ⟨fun e=>absurd e (by decide),fun _=>rfl⟩
     intro f u hJ
     obtain⟨nb,GI,kj,dB⟩:=(hJ.at_ 21 rfl).1 rfl
     have GJ:=(hJ.at_ 22 rfl).2 rfl
     rw[HCV.out]at dB
     have HBZ:=af (LG.add hJ.ah nb (ns.map fun n:Nat=>Value.int .i64 (n:Int)) kj (zZ2.1 dB).1 (fun i v hv=>by rw[gw dB];exact hv))
     clear hJ D0 D1 D2 kj dB HX
     dsimp only[List.drop]
     simp only[Act.put,xB9,xD9,xC9]
     rw[GI,GJ]
     clear GI GJ j8
     generalize Value.slice (some ⟨g,0,none⟩) n cp=vv at *
     go_wp2_with fail
     go_loopw [3,47] (fun v i wr=>∃(j:Nat) (es:List Int),j<=4/\i=.int .i64 j/\Hid (es=(m+1)::cs++(ns.take j).flatMap Pl.aU)/\Hid (Bz w wr [(nb,ns.map fun n:Nat=>Value.int .i64 (n:Int))] v es)) (fun _ i _=>4 - (intOf i).toNat)
     exact⟨0,_,by omega,rfl,by unfold Hid;simp,HBZ⟩
     obtain⟨j,es,hj,rfl,qa,kW⟩:=hrel
     by_cases CQ:j<4
     . obtain⟨n,jz,iU⟩:=HNB j CQ
       have u:=kW.c _ (zZ8 ..) j (.int .i64 n) (by dsimp only;rw[yZ3,jz];rfl)
       have kF:=kW.lt _ (zZ8 ..)
       dsimp only at u kF
       have ry:(ns.take (j+1)).flatMap Pl.aU=(ns.take j).flatMap Pl.aU++Pl.aU n:=by
        obtain⟨jH,Io⟩:=zQ9.1 jz;rw[zX1 jH,zK3,Io];simp
       have Sm:((ns.take j).flatMap Pl.aU).length<=40:=by
        have h:=wZ7 List.length (show(ns.take j).flatMap Pl.aU++(ns.drop j).flatMap Pl.aU=ns.flatMap Pl.aU by rw[<-zK3,zX7]);rw[zZ4]at h;have:=Cl.out;omega
       have pj:=af (show es++Pl.aU n=(m+1)::cs++(ns.take (j+1)).flatMap Pl.aU by rw[qa.out,ry,zQ7])
       have lc:es.length<=92000:=by rw[qa.out,zZ4,zQ6];omega
       have l1:=ie 4 n (by omega)
       clear ry Sm jz qa
       go_wp2_with fail
       refine(LD w.heap.size wr n kW.ah.size (by omega)).mono ?_
       rintro e w10 ⟨v10,rfl,Ba,Bb⟩
       have Bc:=af Ba
       have Bd:=af (kW.br Bb)
       clear Ba Bb kW
       go_wp2_with (at_builtin;refine JX rfl _ _ rfl rfl Bd.out rfl Bc.out (by omega) ?_)
       intro d11 Kd a11 c11 w11 Be
       have Ke:=af Be
       clear Be Bd Bc u kF
       go_wp2_with fail
       go_roundw;exact⟨j+1,d11,by omega,by go_num,by unfold Hid;rw[Kd.out];exact pj,Ke⟩;simp[intOf];omega
     . have kR:j=4:=by omega
       subst kR
       rw[Xj.out]at qa
       have oX:=kW.tail
       rw[qa.out]at oX
       have sU:=af (iw _ _ oX)
       clear oX kW
       go_wp2_with fail
       go_roundw
       case rel=>
        first
         | exact⟨2,by omega,by omega,by go_num,sU⟩
         | exact⟨3,by omega,by omega,by go_num,sU⟩
         | exact⟨4,by omega,by omega,by go_num,sU⟩
         | exact⟨5,by omega,by omega,by go_num,sU⟩
       case measure=>simp[intOf]
 . have Xk:k=5:=(by omega);subst Xk;rw[A8]at HB;have xp:=af (show((iB S).length:Int)::fM (iB S)=ew S by
    unfold ew;rw[show Pl.aU (iB S).length=[((iB S).length:Int)]from Pl.tG (by have:=H8 S;omega)];rfl)
   rw[xp.out]at HB;obtain⟨av,cv,rfl⟩:=HB.row.form;have HF:=af (And.intro HB.row.row HB.ah);clear xp HB;go_wp2_with fail;go_ret;exact⟨.slice av (ew S).length cv,by simp,⟨av,cv,rfl,HF.1⟩,HF.2⟩
end
theorem SG (S T:Int->Option An)(n:Nat)(h1:1<=n)(hS:∀c a,S c=some a->1<=a.seq)(hT:∀c a,T c=some a->1<=a.seq):fc S T (n+1)=match T (n:Int)with | none=>fc S T n | some a=>vd (fc S T n) ((n:Int),a):=by
 cases hq:T (n:Int)with
 | none=>
  dsimp only;refine Xq S T n fun az=>?_;rw[hq]at az;cases hs:S (n:Int)with
  | none=>rw[hs]at az;exact absurd az (by decide)
  | some b=>rw[hs]at az;have:=hS _ b hs;have h2:b.seq<0:=az;omega
 | some a=>
  have ha:=hT _ a hq;dsimp only;unfold vd;dsimp only;rw[z2x];by_cases az:cM (S (n:Int))<cM (T (n:Int))
  . rw[z0b S T n a h1 hq az];rw[hq]at az;have az:cM (S (n:Int))<a.seq:=az;rw[zZ1 az]
  . rw[Xq S T n az];rw[hq]at az;have az:¬cM (S (n:Int))<a.seq:=az;rw[zZ0 az]
theorem z2g (S T:Int->Option An)(hS:∀c a,S c=some a->1<=a.seq)(hT:∀c a,T c=some a->1<=a.seq):fc S T 5=dC S (iB T):=by
 have e1:=SG S T 1 (by omega) hS hT;have e2:=SG S T 2 (by omega) hS hT;have e3:=SG S T 3 (by omega) hS hT;have e4:=SG S T 4 (by omega) hS hT;rw[y6W]at e1;unfold iB dC;rw[e4,e3,e2,e1];cases h1:T 1<;> cases h2:T 2<;> cases h3:T 3<;> cases h4:T 4<;> simp[h1,h2,h3,h4]
end Go.Proofs.YtgegogoanbamfaaGreatDoor
