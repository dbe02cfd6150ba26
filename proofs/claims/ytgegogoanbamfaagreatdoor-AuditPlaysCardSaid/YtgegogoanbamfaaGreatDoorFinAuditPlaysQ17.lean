/- Part 17. -/
import Derived.Test.YtgegogoanbamfaaGreatDoorFinAuditPlaysQ16
set_option linter.unusedVariables false
set_option linter.unusedSectionVars false
set_option linter.unusedSimpArgs false
set_option maxRecDepth 100000
set_option maxHeartbeats 16000000
namespace Go.Proofs.YtgegogoanbamfaaGreatDoor
namespace Pl
end Pl
open Pl Go.Proofs.Tryz Go.RowKit Go.Maps
attribute [local go_sem] Oper.semAt_some
section
attribute [local go_sem] bl
theorem z1p (W:World)(ve:Value)(ne:Nat)(evs:List Value)(h:W.ownsRow 0 124 13 ve ne evs)(hnil:ne=0->ve=.slice none 0 0)(h1:∀u∈evs,u.oneCell'=true)(hb:ne<=1000000):
    Calls prog 54 #[ve] W fun e w'=>∃QX,e=.returned QX/\w'.ownsRow W.heap.size 124 13 QX ne evs/\(ne=0->QX=.slice none 0 0)/\ae W w':=by
 rcases zJ8 ne with h0 | h0
 . have hv:=hnil h0;subst hv h0;have he:evs=[]:=zX2 (by have:=h.1;omega);subst he;refine(y9h W).mono ?_;rintro e w' ⟨rfl,g⟩;exact⟨_,rfl,World.ownsRow_nil _ _ _ _,fun _=>rfl,g⟩
 . obtain⟨b,cap,rfl,_,_⟩:=h.form h0;refine(z4r W b 0 ne cap h0 hb evs h.1 (fun j u hj=>?_) h1).mono ?_
   . rw[zQ2];have jH:=(zQ9.1 hj).1;rw[h.1]at jH;exact(h.cellAt j jH).trans hj
   . rintro e w' ⟨g,c,rfl,hr,hg⟩;exact⟨_,rfl,hr,fun e0=>by omega,hg⟩
structure Ov (w:World)(xs:List Sh)(ne:Nat)(evs:List Value)(L:Nat->Bool)(f:Nat->Value)(x:World):Prop where
 g:ae w x
 k4:L 4=true->∃g c,f 4=.slice (some ⟨g,0,none⟩) xs.length c/\x.ownsRow w.heap.size 100 5 (.slice (some ⟨g,0,none⟩) xs.length c) xs.length (dL xs)
 Gq:L 13=true->x.ownsRow w.heap.size 124 13 (f 13) ne evs/\(ne=0->f 13=.slice none 0 0)
 Ek:L 4=true->L 13=true->∀g,(f 13).ownBlock=some g->(f 4).ownBlock≠some g
section
variable {w:World}{F:Nat->Prop}{sb:Nat}{s:dR}(h:gm w F sb s)
include h
theorem y9F (h0:0<s.xs.length)(hx:s.xs.length<=1000000)(h1:∀u∈s.evs,u.oneCell'=true)(hb:s.ne<=1000000):Calls prog 24 #[.pointer (some ⟨sb,0,none⟩)] w fun e w'=>∃cb,e=.returned (.pointer (some ⟨cb,0,none⟩))/\ae w w'/\w.heap.size<=cb/\∃F',gm w' F' cb s/\∀j,F' j->w.heap.size<=j:=by
 obtain⟨xs,aD,ne,evs⟩:=s;obtain⟨v,ve,h⟩:=h;dsimp only at *;obtain⟨b,cap,rfl,_,eT⟩:=h.row.form h0;have HC:=af (fun W (g:ae w W)=>YS W b 0 xs.length cap h0 hx (dL xs) (sr xs) (fun j u hj=>by
  rw[zQ2];have jH:=(zQ9.1 hj).1;rw[sr]at jH;exact((h.ah g).row.cellAt j jH).trans hj) (KG xs))
 have HE:=af (fun W (g:ae w W)=>z1p W ve ne evs (h.ah g).iL h.nil h1 hb);have C0:=bj h.bZ;have CE:=bj h.ev;have U0:=bj (h.aD 0 (by omega));have U1:=bj (h.aD 1 (by omega));have U2:=bj (h.aD 2 (by omega));have U3:=bj (h.aD 3 (by omega));have U4:=bj (h.aD 4 (by omega));have U5:=bj (h.aD 5 (by omega));have U6:=bj (h.aD 6 (by omega));have U7:=bj (h.aD 7 (by omega));have U8:=bj (h.aD 8 (by omega));have U9:=bj (h.aD 9 (by omega));have Sg:=bj (h.aD 10 (by omega));have Si:=bj (h.aD 11 (by omega));have Sj:=bj (h.aD 12 (by omega));simp only[Nat.reduceAdd]at U0 U1 U2 U3 U4 U5 U6 U7 U8 U9 Sg Si Sj;have iI:=af h.sz;have j0y:=h.blt;clear h h1;go_in;go_wp2_with fail;refine jA 14 [4,13] (ae w) Eq (Ov w xs ne evs) (fun f a=>(a.put (some 7) (f 4)).put (some 16) (f 13)) ⟨(ae.rf w).drew,fun h=>(by cases h),fun h=>(by cases h),fun h=>(by cases h)⟩ (fun _ _ _ h=>h.g) (fun _=>rfl) (fun _ _ _ _ h g=>g▸h) ?_;repeat (first|refine iX ?_|(refine iZ ?_;intros;go_big_quiet_op;go_big_quiet_on)|(refine iY ?_;simp only[Act.put,xB9,xC9,xD9]))
 refine mi (by rfl) ⟨⟨bL rfl (fun _ a=>a) ?_,bL rfl (fun f a=>a.put (some 7) (f 4)) ?_,trivial⟩,?_⟩
 . rintro L f x ⟨hG,k4,Gq,Ek⟩ hL hd;clear C0 CE U0 U1 U2 U3 U4 U5 U6 U7 U8 U9 Sg Si Sj;have HG:=af hG;have K13:=af Gq;clear hG k4 Gq Ek hd;go_simp;refine(HC x HG).mono ?_;rintro r x' ⟨g,c,rfl,hr,hg⟩;refine⟨_,rfl,HG.trans hg,fun _=>⟨g,c,fY _ _ _,mg HG.size hr⟩,fun nV=>?_,fun _ nV g' oJ=>?_⟩
   . have wE:L 13=true:=(by simpa[plus]using nV);obtain⟨a1,a2⟩:=K13.out wE;rw[gH (by decide)];exact⟨gP hg a1,a2⟩
   . have wE:L 13=true:=(by simpa[plus]using nV);obtain⟨a1,a2⟩:=K13.out wE;rw[gH (by decide)]at oJ;rw[fY];have l1:=(a1.lt g' oJ).2;have l2:=(hr.lt g rfl).1;intro e;have:g=g':=Option.some.inj e;omega
 . rintro L f x ⟨hG,k4,Gq,Ek⟩ hL hd;clear C0 CE U0 U1 U2 U3 U4 U5 U6 U7 U8 U9 Sg Si Sj;have HG:=af hG;have K4:=af k4;clear hG k4 Gq Ek hd;go_simp;refine(HE x HG).mono ?_;rintro r x' ⟨v',rfl,hr,hn,hg⟩;refine⟨_,rfl,HG.trans hg,fun h4=>?_,fun _=>?_,fun h4 _ g' oJ=>?_⟩
   . have uO:L 4=true:=(by simpa[plus]using h4);obtain⟨g,c,e1,a1⟩:=K4.out uO;rw[gH (by decide)];exact⟨g,c,e1,gP hg a1⟩
   . rw[fY];exact⟨mg HG.size hr,hn⟩
   . have uO:L 4=true:=(by simpa[plus]using h4);obtain⟨g,c,e1,a1⟩:=K4.out uO;rw[fY]at oJ;rw[gH (by decide),e1];have l1:=(hr.lt g' oJ).1;have l2:=(a1.lt g rfl).2;intro e;have:g=g':=Option.some.inj e;omega
 rintro f x ⟨hG,k4,Gq,Ek⟩;clear C0 CE U0 U1 U2 U3 U4 U5 U6 U7 U8 U9 Sg Si Sj HC HE;obtain⟨g,c,e4,r4⟩:=k4 rfl;obtain⟨El,n13⟩:=Gq rfl;have Em:=Ek rfl rfl;rw[e4]at Em ⊢;obtain⟨ea,en,ec,kB⟩:∃ea en ec,f 13=.slice ea en ec:=by
  rcases El.2 with⟨e,_⟩ | ⟨g,cp,cur,e,_⟩
  . exact⟨_,_,_,e⟩
  . exact⟨_,_,_,e⟩
 rw[kB]at Em El n13 ⊢;have HX:=af (And.intro hG (And.intro r4 (And.intro El (And.intro n13 Em))));clear k4 Gq Ek e4 r4 El n13 Em hG kB;dsimp only[List.drop];go_wp2_with fail;go_ret;obtain⟨hG,r4,El,n13,Ek⟩:=HX.out;have hs:=hG.size;refine⟨x.heap.size,rfl,hG.alloc _,hs,fun j=>j=x.heap.size\/j=g\/(Value.slice ea en ec).ownBlock=some j,⟨.slice (some ⟨g,0,none⟩) xs.length c,.slice ea en ec,?_⟩,?_⟩
 . refine⟨by simp[go_sem],fun i hi=>?_,by simp[go_sem],fun i _=>?_,mg (zZ5 _) (gP ((ae.rf x).alloc _) r4),mg (zZ5 _) (gP ((ae.rf x).alloc _) El),iI,.inl rfl,fun g' oJ=>?_,fun g' oJ=>⟨.inr (.inr oJ),?_,fun e=>Ek g' oJ e⟩,fun j hj=>?_,n13⟩
   . rw[wQ1 _ x.heap.size (1+i) _ _ _ (wZ0 x _),yQ9];exact match i,hi with
      | 0,_=>rfl
      | 1,_=>rfl
      | 2,_=>rfl
      | 3,_=>rfl
      | 4,_=>rfl
      | 5,_=>rfl
      | 6,_=>rfl
      | 7,_=>rfl
      | 8,_=>rfl
      | 9,_=>rfl
      | 10,_=>rfl
      | 11,_=>rfl
      | 12,_=>rfl
      | n+13,h=>absurd h (by omega)
   . exact frozen_of_row _ x.heap.size i _ _ (wZ0 x _)
   . have:g=g':=Option.some.inj oJ;subst this;have:=(r4.lt g rfl).2;exact⟨.inr (.inl rfl),by omega⟩
   . have:=(El.lt g' oJ).2;omega
   . refine xA9 (?_:j<x.heap.size+1) (by simp);rcases hj with rfl | rfl | hj
     . omega
     . have h2:j<x.heap.size:=(r4.lt _ rfl).2;omega
     . have h2:j<x.heap.size:=(El.lt _ hj).2;omega
 . intro j hj;rcases hj with rfl | rfl | hj
   . exact hs
   . exact(r4.lt _ rfl).1
   . exact(El.lt _ hj).1
end
end
section
attribute [local go_sem] bl
theorem y8H {w:World}{mb:Nat}{es:Array MapEntry}{clock:Nat}(h:w.heap[mb]? =some (.map es clock)):(callFunc 55 #[.iface 56 (.map (some mb))]).run prog w=.ok (.value (.iface 56 (.map (some w.heap.size)))) (w.alloc (.map es clock)):=by
 rw[run_callFunc_extern (P:=prog) (e:=Extern.MapsClone.clone) func55 (by kernel_rfl) (by kernel_rfl) (by kernel_rfl) (by kernel_rfl)];have h2:(Extern.MapsClone.clone #[.iface 56 (.map (some mb))]).run prog w=.ok (.iface 56 (.map (some w.heap.size))) (w.alloc (.map es clock)):=by
  have e:Extern.MapsClone.clone #[.iface 56 (.map (some mb))]=(getObj mb >>=fun o=>match o with
   | .map es c=>newObj (.map es c) >>=fun r=>pure (.iface 56 (.map (some r)))
   | _=>stuck "maps.clone: a map expected"):=rfl
  rw[e];rw[Sem.run_bind,Go.run_getObj_map w mb es clock h];rfl
 rw[h2];rfl
theorem y9s {w:World}{mb n:Nat}{f:Lit->Option Value}(h:bU w prog 3 mb n f):
    Calls prog 25 #[.map (some mb)] w fun e w'=>e=.returned (.map (some w.heap.size))/\bU w' prog 3 w.heap.size n f/\ae w w'/\w.heap.size<w'.heap.size:=by
 obtain⟨es,clock,hb,hL⟩:=h.again;have fP:=y8H hb;have heq:(binOp .eql 56 (.map (some mb)) (.map none)).run prog w=.ok (.bool false) w:=by kernel_rfl
 have FH:∀(x:Nat) (W:World),(Instr.typeAssert (.iface 56 (.map (some x))) 20 56 false).run prog W=.ok (.map (some x)) W:=fun x W=>by kernel_rfl
 have hF:=af (And.intro hL (And.intro ((ae.rf w).alloc (.map es clock)) (show w.heap.size<(w.alloc (.map es clock)).heap.size by simp)));clear hL h;go_in;go_wp2_with fail;go_ret;exact⟨rfl,hF.out⟩
theorem qW.JK {w:World}{P:Program}{k:TypeId}{b n r cnt:Nat}{f:Lit->Option Value}{left:Lit->Bool}(h:qW w P k b r n f left cnt):cnt<=n:=by
 obtain⟨D,h,_⟩:=h;obtain⟨es,clock,cJ,cL,c0,hb,F,hs,rfl,hr,hold,rfl,fC,hl2,hsc,hsk⟩:=h;refine zZ6 ?_ hs;unfold leftOf;rw[<-yZ7,Array.toList_filter,<-yZ7];exact xX1 _ _
structure rV (W wr:World)(L:Nat->Nat)(k' ob JL ku oW mb r n:Nat)(f:Lit->Option Value)(A:bC)(vo:Nat->Nat)(fo:Lit->Option Value)(q:Nat)(left:Lit->Bool)(cnt:Nat)(Lr:Nat->Nat):Prop where
 ah:ae W wr
 rng:qW wr prog 3 mb r n f left cnt
 JM:q+cnt<=n
 c0:wr.cell? ⟨ob,0,none⟩=some (.int .i64 A.at_)
 c1:wr.cell? ⟨ob,1,none⟩=some (.pointer (some ⟨JL,0,none⟩))
 c2:wr.cell? ⟨ob,2,none⟩=some (.map (some ku))
 c3:wr.cell? ⟨ob,3,none⟩=some (.map (some oW))
 fz:∀i,wr.frozen? ⟨ob,i,none⟩=false
 lm:bU wr prog 3 ku q fo
 val:∀i:Nat,fo (bt i)=if left (bt i)=true then none else(A.st i).map fun _=> .pointer (some ⟨vo i,0,none⟩)
 lit:∀l,fo l≠none->∃i:Nat,l=bt i
 la:∃m,m<=n/\bU wr prog 3 oW m A.gC
 sh:∃F,gm wr F JL A.sh/\∀j,F j->Lr j=k'+3
 Ow:∀j,j<W.heap.size->Lr j=L j
 Ox:∀j,W.heap.size<=j->cr k' (Lr j)
 Oy:Lr ob=k'
 pC:Lr ku=k'+1
 kP:Lr oW=k'+2
 lr:Lr r=k'+90
 nr:W.heap.size<=r
 Jy:W.heap.size<=ku
 bE:∀i P S,A.st i=some (P,S)->left (bt i)=false->i<=12/\∃c∈A.sh.xs,c.id=(i:Int)/\∃Ft Fs m,m<=n/\dE wr Ft Fs (vo i) m c.lo c.hi P S/\∀j,gq Ft Fs (vo i) j->Lr j=k'+20+i
section
variable {W wr w':World}{L:Nat->Nat}{k' ob JL ku oW mb r n:Nat}{f:Lit->Option Value}{A:bC}{vo Ar:Nat->Nat}{fo Sk:Lit->Option Value}{q q':Nat}{left left':Lit->Bool}{cnt cnt':Nat}{Lr Gv:Nat->Nat}
theorem rV.step (h:rV W wr L k' ob JL ku oW mb r n f A vo fo q left cnt Lr)(hO:ar (fun j=>j=r\/j=ku) wr w')(hL:∀j,j<wr.heap.size->Gv j=Lr j)(hN:∀j,wr.heap.size<=j->cr k' (Gv j))(Eo:qW w' prog 3 mb r n f left' cnt')(hq:q'+cnt'<=n)(ni:bU w' prog 3 ku q' Sk)
    (hval:∀i:Nat,Sk (bt i)=if left' (bt i)=true then none else(A.st i).map fun _=> .pointer (some ⟨Ar i,0,none⟩)) (Ju:∀l,Sk l≠none->∃i:Nat,l=bt i)
    (hst:∀i P S,A.st i=some (P,S)->left' (bt i)=false->(left (bt i)=false/\Ar i=vo i)\/(i<=12/\∃c∈A.sh.xs,c.id=(i:Int)/\∃Ft Fs m,m<=n/\dE w' Ft Fs (Ar i) m c.lo c.hi P S/\∀j,gq Ft Fs (Ar i) j->Gv j=k'+20+i)):rV W w' L k' ob JL ku oW mb r n f A Ar Sk q' left' cnt' Gv:=by
 have dS:=bf h.c0;have hr:=h.rng.lt;have vW:=h.lm.lt;have nT:∀j,Lr j≠k'+1->Lr j≠k'+90->¬(j=r\/j=ku):=fun j h1 h2 e=>by
  rcases e with e | e
  . exact h2 (by rw[e];exact h.lr)
  . exact h1 (by rw[e];exact h.pC)
 have Oz:=nT ob (by rw[h.Oy];omega) (by rw[h.Oy];omega);obtain⟨F,h3,h4⟩:=h.sh;obtain⟨m2,e2,h2⟩:=h.la;have gWw:ae W w':=((h.ah.only _).then hO).ah fun j hj=>by
  rcases hj with e | e
  . rw[e];exact h.nr
  . rw[e];exact h.Jy
 refine⟨gWw,Eo,hq,(hO.cell dS Oz 0).trans h.c0,(hO.cell dS Oz 1).trans h.c1,(hO.cell dS Oz 2).trans h.c2,(hO.cell dS Oz 3).trans h.c3,fun i=>(hO.frozen dS Oz i).trans (h.fz i),ni,hval,Ju,⟨m2,e2,h2.aC hO (nT oW (by rw[h.kP];omega) (by rw[h.kP];omega))⟩,
  ⟨F,h3.aC hO fun j hj=>nT j (by rw[h4 j hj];omega) (by rw[h4 j hj];omega),fun j hj=>(hL j (h3.lt j hj)).trans (h4 j hj)⟩,fun j hj=>(hL j (xA9 hj h.ah.size)).trans (h.Ow j hj),fun j hj=>?_,(hL ob dS).trans h.Oy,(hL ku vW).trans h.pC,(hL oW h2.lt).trans h.kP,(hL r hr).trans h.lr,h.nr,h.Jy,fun i P S hi hl=>?_⟩
 . rcases zJ7 j wr.heap.size with q | q
   . rw[hL j q];exact h.Ox j hj
   . exact hN j q
 . rcases hst i P S hi hl with⟨e1,e2⟩ | e
   . obtain⟨i12,c,hc,bY,Ft,Fs,m,hm,hS,hB⟩:=h.bE i P S hi e1;have ha:=hS.all;rw[e2];have hn:∀j,gq Ft Fs (vo i) j->¬(j=r\/j=ku):=fun j hj=>nT j (by rw[hB j hj];omega) (by rw[hB j hj];omega);exact⟨i12,c,hc,bY,Ft,Fs,m,hm,hS.aC hO (fun j hj=>hn j (.inl hj)) (fun j hj=>hn j (.inr (.inl hj))) (hn _ (.inr (.inr rfl))),fun j hj=>(hL j (ha j hj)).trans (hB j hj)⟩
   . exact e
theorem rV.done (h:rV W wr L k' ob JL ku oW mb r n f A vo fo q left cnt Lr)(hl:∀l,left l=false):dF wr Lr k' ob JL ku oW n fo vo A:=by
 refine⟨h.c0,h.c1,h.c2,h.c3,h.fz,h.Oy,h.pC,h.kP,h.sh,⟨q,by have:=h.JM;omega,h.lm⟩,fun i=>?_,h.lit,h.la,fun i P S hi=>h.bE i P S hi (hl _)⟩;rw[h.val,zZ0 (by rw[hl];simp)]
end
def Ws (y:World)(m:Nat)(lo hi:ByteArray)(P:List Pr)(S:Int->Option An)(v:Value)(u:World):Prop:=ae y u/\∃cb Gt Gs,v=.pointer (some ⟨cb,0,none⟩)/\dE u Gt Gs cb m lo hi P S/\∀j,gq Gt Gs cb j->y.heap.size<=j
def OA (s:dR)(m:Nat)(fa:Lit->Option Value)(i:Nat)(v:Value)(F:Nat->Prop)(x:World):Prop:=
 (i=8->∃cb,v=.pointer (some ⟨cb,0,none⟩)/\gm x F cb s)/\(i=9->∃b,v=.map (some b)/\bU x prog 3 b 0 (fun _=>none)/\F b)/\(i=14->∃b,v=.map (some b)/\bU x prog 3 b m fa/\F b)
theorem Wt (s:dR)(m:Nat)(fa:Lit->Option Value):Gr (OA s m fa):=fun i v F x x' h g=>⟨fun e=>by obtain⟨cb,e1,e2⟩:=h.1 e;exact⟨cb,e1,e2.ah g⟩,fun e=>by obtain⟨b,e1,e2,e3⟩:=h.2.1 e;exact⟨b,e1,e2.ah g,e3⟩,fun e=>by obtain⟨b,e1,e2,e3⟩:=h.2.2 e;exact⟨b,e1,e2.ah g,e3⟩⟩
theorem z5l {W:World}{L:Nat->Nat}{k ab n:Nat}{A:bC}(h:dh W L k ab n A)(hx:∀i P S,A.st i=some (P,S)->P.length<=1000)(h0:0<A.sh.xs.length)(h1:A.sh.xs.length<=1000000)(Lq:∀u∈A.sh.evs,u.oneCell'=true)(hne:A.sh.ne<=1000000)(hn:n<=1000000)(k':Nat):
    Calls prog 8 #[.pointer (some ⟨ab,0,none⟩)] W fun e w'=>∃cb,e=.returned (.pointer (some ⟨cb,0,none⟩))/\ae W w'/\∃L',(∀j,j<W.heap.size->L' j=L j)/\(∀j,W.heap.size<=j->cr k' (L' j))/\dh w' L' k' cb n A:=by
 obtain⟨sb,mb,nb,f,st,h⟩:=h;obtain⟨F,hS,_⟩:=h.sh;obtain⟨ma,Ob,rU⟩:=h.la;obtain⟨ms,qu,ni⟩:=h.lm;have c0:=h.c0;have c1:=h.c1;have c2:=h.c2;have c3:=h.c3;have hab:=bf c0;have HCM:=af (fun X (g:ae W X)=>y9F (hS.ah g) h0 h1 Lq hne);have HCA:=af (fun X (g:ae W X)=>y9s (rU.ah g));have BU:=af (fun X (g:ae W X)=>(ni.mono qu).ah g);have HH:=af h;have HX:=af hx;have vp:=af Ob;clear h hS rU ni qu Ob hx Lq;have C0:=bj c0;have C1:=bj c1;have C2:=bj c2;have C3:=bj c3;have qJ:=@run_makeMap prog;go_in;go_upto_region 1 with fail;refine kh 15 [8,9,14] (ae W) Eq (JJ (OA A.sh ma A.gC) W) (fun f a=>((a.put (some 14) (f 8)).put (some 15) (f 9)).put (some 20) (f 14)) (JJ.aX _ W _) (fun _ _ _ h=>h.ah) (fun _=>rfl) (fun _ _ _ _ h g=>g▸h) ?_;repeat (first|refine kg ?_|(refine gg ?_;intros;go_big_quiet_op;go_big_quiet_on)|(refine fZ ?_;simp only[Act.put,xB9,xC9,xD9]))
 refine jB (by rfl) ⟨⟨bL rfl (fun _ a=>a) ?_,bL rfl (fun _ a=>a) ?_,bL rfl (fun f a=>a.put (some 14) (f 8)) ?_,trivial⟩,?_⟩
 . intro L0 f0 u hJ hL hd;have HJ:=af hJ;have HL:=af hL;clear hJ hL hd C0 C1 C2 C3 qJ;go_simp;refine(HCM u HJ.ah).mono ?_;rintro e u' ⟨cb,rfl,hg,hcb,F',tP,hF'⟩;exact⟨_,rfl,HJ.put (Wt _ _ _) 8 HL hg ⟨fun _=>⟨cb,rfl,tP⟩,(fun e=>by omega),(fun e=>by omega)⟩ fun j hj=>⟨hF' j hj,tP.lt j hj⟩⟩
 . intro L0 f0 u hJ hL hd;have HJ:=af hJ;have HL:=af hL;clear hJ hL hd C0 C1 C2 C3;go_simp;exact HJ.put (Wt _ _ _) 9 HL ((ae.rf u).alloc _) (F:=fun j=>j=u.heap.size) ⟨(fun e=>by omega),(fun _=>⟨_,rfl,bU.made _ _ _,rfl⟩),(fun e=>by omega)⟩ (fun j hj=>by subst hj;simp)
 . intro L0 f0 u hJ hL hd;have HJ:=af hJ;have HL:=af hL;clear hJ hL hd C0 C1 C2 C3 qJ;go_simp;refine(HCA u HJ.ah).mono ?_;rintro e u' ⟨rfl,hl,hg,hz⟩;exact⟨_,rfl,HJ.put (Wt _ _ _) 14 HL hg (F:=fun j=>j=u.heap.size) ⟨(fun e=>by omega),(fun e=>by omega),fun _=>⟨_,rfl,hl,rfl⟩⟩ (fun j hj=>by subst hj;exact⟨zZ3 _,hz⟩)⟩
 intro f0 u hJ;obtain⟨φ,hφ,hap⟩:=hJ.ex;obtain⟨⟨q8,_,_⟩,n8⟩:=hφ 8 rfl;obtain⟨⟨_,q9,_⟩,n9⟩:=hφ 9 rfl;obtain⟨⟨_,_,Gw⟩,n14⟩:=hφ 14 rfl;obtain⟨cb,e8,hS8⟩:=q8 rfl;obtain⟨ku,e9,hM9,Jd⟩:=q9 rfl;obtain⟨oW,jD,OB,Au⟩:=Gw rfl;have HU:=af hJ.ah;have HS8:=af (And.intro hS8 (And.intro hM9 OB))
 have HN:=af (show(∀j,φ 8 j->W.heap.size<=j/\j<u.heap.size/\j≠ku/\j≠oW)/\W.heap.size<=ku/\ku<u.heap.size/\W.heap.size<=oW/\oW<u.heap.size/\ku≠oW from
  ⟨fun j hj=>⟨(n8 j hj).1,(n8 j hj).2,fun e=>hap 8 9 rfl rfl (by decide) j hj (e▸Jd),fun e=>hap 8 14 rfl rfl (by decide) j hj (e▸Au)⟩,(n9 _ Jd).1,(n9 _ Jd).2,(n14 _ Au).1,(n14 _ Au).2,fun e=>hap 9 14 rfl rfl (by decide) ku Jd (e▸Au)⟩)
 clear hJ hφ hap q8 q9 Gw n8 n9 n14 hS8 hM9 OB Jd Au C0 C1 C2 C3 HCM HCA qJ;dsimp only[List.drop];simp only[Act.put,xB9,xD9,xC9];rw[e8,e9,jD];clear e8 e9 jD;go_upto_region 2 with fail;obtain⟨Y,hY⟩:∃Y,Y=u.alloc (.cells #[.int .i64 A.at_,.pointer (some ⟨cb,0,none⟩),.map (some ku),.map (some oW)] 75):=⟨_,rfl⟩
 have gY:ae u Y:=by rw[hY];exact(ae.rf u).alloc _
 obtain⟨ob,dS⟩:∃ob,ob=u.heap.size:=⟨_,rfl⟩
 have HO:=af (show Y.cell? ⟨ob,0,none⟩=some (.int .i64 A.at_)/\Y.cell? ⟨ob,1,none⟩=some (.pointer (some ⟨cb,0,none⟩))/\Y.cell? ⟨ob,2,none⟩=some (.map (some ku))/\Y.cell? ⟨ob,3,none⟩=some (.map (some oW))/\∀i,Y.frozen? ⟨ob,i,none⟩=false by
  rw[hY,dS];exact⟨by simp[go_sem],by simp[go_sem],by simp[go_sem],by simp[go_sem],fun i=>by simp[go_sem]⟩)
 have rW:ob<Y.heap.size:=by rw[hY,dS];simp
 have dg:=af gY;have OC:=af (HU.trans gY);have yS:=af (show u.heap.size=ob from dS.symm);rw[<-hY,<-dS];clear hY dS gY;have d2:=(OC.cells.1 _ 2 hab).trans c2;have rS:=xA9 hab OC.size;go_wp2_with (at_range;refine y7y rfl _ rfl ng underlying73 rfl (BU.out Y OC.out) ?_);intro w5 Av OD qM K9 jq hs5;obtain⟨r,hr⟩:∃r,r=Y.heap.size:=⟨_,rfl⟩
 rw[<-hr]at qM ⊢;have Wu:Hid (∃Lr,rV W w5 L k' ob cb ku oW mb r n f A (fun _=>0) (fun _=>none) 0 Av OD Lr):=by
  classical
  obtain⟨n1,n2,n3,n4,n5,n6⟩:=HN.out;obtain⟨s1,s2,s3⟩:=HS8.out;obtain⟨o0,o1,o2,o3,o4⟩:=HO.out;have e0:=yS.out;have e1:=dg.size;have e2:=HU.size;have gA:=(dg.trans jq)
  refine⟨fun j=>if j<W.heap.size then L j else if j=ob then k' else if j=ku then k'+1 else if j=oW then k'+2 else if φ 8 j then k'+3 else k'+90,OC.trans jq,qM,by have:=qM.JK;omega,(jq.cells.1 _ _ rW).trans o0,(jq.cells.1 _ _ rW).trans o1,(jq.cells.1 _ _ rW).trans o2,(jq.cells.1 _ _ rW).trans o3,fun i=>(jq.cells.2 _ i rW).trans (o4 i),s2.ah gA,fun i=>?_,fun l hl=>absurd rfl hl,⟨ma,vp,s3.ah gA⟩,⟨φ 8,s1.ah gA,fun j hj=>?_⟩,fun j hj=>zZ1 hj,fun j hj=>?_,?_,?_,?_,?_,by omega,n2,fun i P S hi hl=>?_⟩
  . by_cases hq:Av (bt i)=true
    . rw[zZ1 hq]
    . rw[zZ0 hq];have h1:=K9 _ (by simpa using hq);rw[HH.out.val]at h1;cases hA:A.st i with
      | none=>rfl
      | some v=>rw[hA]at h1;cases h1
  . obtain⟨a1,a2,a3,a4⟩:=n1 j hj;rw[zZ0 (by omega),zZ0 (by omega),zZ0 a3,zZ0 a4,zZ1 hj]
  . rw[zZ0 (by omega)];unfold cr;repeat' split
    all_goals omega
  . rw[zZ0 (by omega),zZ1 rfl]
  . rw[zZ0 (by omega),zZ0 (by omega),zZ1 rfl]
  . rw[zZ0 (by omega),zZ0 (by omega),zZ0 (by omega),zZ1 rfl]
  . rw[zZ0 (by omega),zZ0 (by omega),zZ0 (by omega),zZ0 (by omega),zZ0 (fun q=>by have:=(n1 r q).2.1;omega)]
  . have h1:=K9 _ hl;rw[HH.out.val,hi]at h1;cases h1
 clear qM K9 jq hs5 BU HS8 HN vp HO dg OC yS HU d2 rS rW hr c0 c1 c2 c3;go_wp2_with fail;go_loopw [4,5] (fun _ _ wx=>∃(vo:Nat->Nat) (fo:Lit->Option Value) (q:Nat) (left:Lit->Bool) (cnt:Nat) (Lr:Nat->Nat),Hid (rV W wx L k' ob cb ku oW mb r n f A vo fo q left cnt Lr)) (fun _ _ wx=>wx.rangeLeft mb r);case atStart=>
  obtain⟨Lr,h⟩:=Wu.out;exact⟨_,_,0,Av,OD,Lr,h⟩
 case round=>
  obtain⟨vo,fo,q,left,cnt,Lr,HC⟩:=hrel;obtain⟨wo,rfl⟩:∃wo:World,wo=wr:=⟨_,rfl⟩
  have hR:=HC.rng;have OE:=af hR.left_eq;go_wp2_with (at_next;refine y7A rfl _ rfl underlying3 ng r left cnt rfl hR ?_ ?_)
  . intro hl0;have HD:=af (HC.done hl0);clear hR hl0;go_wp2_with fail;go_ret;exact⟨ob,rfl,HC.ah,Lr,HC.Ow,HC.Ox,cb,ku,oW,fo,vo,HD⟩
  . intro c v w6 JN JI hlc Wv Sl OG xg Ww hen;obtain⟨i,hi⟩:=HH.lit (bt c) (by rw[Wv];simp);obtain rfl:c=(i:Int):=(by unfold bt at hi;injection hi);have Ls:=HH.val i;rw[Wv]at Ls;cases hA:A.st i with
    | none=>rw[hA]at Ls;cases Ls
    | some ps=>
     obtain⟨P,S⟩:=ps;rw[hA]at Ls;have hv:v=.pointer (some ⟨st i,0,none⟩):=Option.some.inj Ls;subst hv;obtain⟨i12,cc,hc,bY,Ft,Fs,m,hm,hS,hB⟩:=HH.bE i P S hA;have hPx:=HX i P S hA;have nor:¬ob=r:=fun e=>by have a:=HC.Oy;have b:=HC.lr;rw[e]at a;omega
     have nmr:¬ku=r:=fun e=>by have a:=HC.pC;have b:=HC.lr;rw[e]at a;omega
     have g6:ae W w6:=((HC.ah.only _).then xg).ah fun j hj=>by rw[hj];exact HC.nr
     have o2:=(xg.cell (bf HC.c2) nor 2).trans HC.c2;have j0z:=bf o2;have OH:=af (HC.lm.aC xg nmr);have Wx:=af (fun X (g:ae w6 X)=>y9T (hS.ah (g6.trans g)) hPx);have HI:=af (And.intro i12 (And.intro hc (And.intro bY (And.intro hm hA))));have H6:=af (And.intro xg (And.intro Ww (And.intro hlc Sl)));have xu:=af OG;obtain⟨sp,hsp⟩:∃sp,st i=sp:=⟨_,rfl⟩
     rw[hsp]at hen Wx ⊢;clear hS hB hm hPx Ls Wv hi xg Ww hlc Sl hA hR i12 hc bY OG;go_upto_region 5 with fail;have O2:=bj o2;refine kh 7 [6] (ae w6) Eq (JE 6 (ae w6) (Ws w6 m cc.lo cc.hi P S) (fun _=>none)) (fun f a=>a.put (some 39) (f 6)) (JE.aX (ae.rf w6).drew _) (fun L0 _ _ h=>?_) (fun _=>rfl) (fun _ _ _ _ h g=>g▸h) ?_
     . cases hL:L0 6 with
       | false=>exact h.pre hL
       | true=>exact(h.post hL).1
     repeat (first|refine kg ?_|(refine gg ?_;intros;go_big_quiet_op;go_big_quiet_on)|(refine fZ ?_;simp only[Act.put,xB9,xC9,xD9]))
     refine jB (by rfl) ⟨⟨bL rfl (fun _ a=>a) ?_,trivial⟩,?_⟩
     . intro L0' f0 u hJ hL hd;have HJ:=af hJ;have HL:=af hL;clear hJ hL hd O2;go_simp;have hg:=HJ.pre HL;refine(Wx u hg).mono ?_;rintro e u' ⟨Lt,Gt,Gs,rfl,j4,h1,h2,h3,aP⟩;have hs:=hg.size;exact⟨_,rfl,HJ.call HL rfl ⟨hg.trans aP,Lt,Gt,Gs,rfl,j4,fun j hj=>by
        rcases hj with a | a | a
        . have:=h2 j a;omega
        . have:=h3 j a;omega
        . omega⟩⟩
     intro f0 u hJ;obtain⟨gu,Lt,Gt,Gs,e6,j4,eo⟩:=hJ.post rfl;have mW:=af gu;have eR:=af (And.intro j4 eo);obtain⟨w7,hrun,r1,r2⟩:=(OH.ah gu).store (val:=.pointer (some ⟨Lt,0,none⟩)) ng underlying73 (by have:=HC.JM;unfold maxLen;omega) (keyOf_int_mk underlying3 JI);have eH:=af hrun;have HR:=af (And.intro r1 r2);clear hJ gu j4 eo O2 hrun r1 r2 Wx;dsimp only[List.drop];simp only[Act.put,xB9,xD9,xC9];rw[e6];clear e6;go_wp2_with (at_mapUpdate;refine H3 rfl _ _ _ rfl rfl rfl rfl eH.out ?_);go_wp2_with fail;have Dz:Hid (qW w7 prog 3 mb r n f (fun z=>left z && !z.sameKey (bt (i:Int))) JN/\∃Gv,rV W w7 L k' ob cb ku oW mb r n f A (fun z=>if z=i then Lt else vo z) (fB fo (bt (i:Int)) (some (.pointer (some ⟨Lt,0,none⟩)))) (q+1) (fun z=>left z && !z.sameKey (bt (i:Int))) JN Gv):=by
      obtain⟨xg,Ww,hlc,Sl⟩:=H6.out;obtain⟨i12,hc,bY,hm,hA⟩:=HI.out;have Wy:ar (fun j=>j=ku) u w7:=ar.eh HR.2;have Ej:mb<W.heap.size:=(by obtain⟨_,_,x⟩:=HH.lm;exact x.lt);have Jy:¬mb=ku:=fun e=>by have:=HC.Jy;omega
      have nr:¬r=ku:=fun e=>nmr e.symm;have Eo:=(Sl.ah mW).aC Wy Jy nr;have DX:=mW.size;have hO:ar (fun j=>j=r\/j=ku) wo w7:=((xg.mono fun j hj=> .inl (.inl hj)).then (mW.only _)).then (Wy.mono fun j hj=> .inl (.inr hj));have lft:∀z:Nat,(left (bt (z:Int)) && !(bt (z:Int)).sameKey (bt (i:Int)))=if z=i then false else left (bt (z:Int)):=fun z=>by
       rw[z5I];by_cases e:z=i
       . rw[zZ1 e,wZ5 (by omega)];simp
       . rw[zZ0 e,wZ6 (by omega)];simp
      have oX:∀j,gq Gt Gs Lt j->¬j=ku:=fun j hj e=>by have:=eR.2 j hj;have:=OH.lt;omega
      refine⟨Eo,fun j=>if j<wo.heap.size then Lr j else k'+20+i,HC.step hO (fun j hj=>zZ1 hj) (fun j hj=>?_) Eo (by have:=HC.JM;have:=xu.out;omega) HR.1 (fun z=>?_) (fun l hl=>?_) (fun z P2 S2 hz hl=>?_)⟩
      . rw[zZ0 (by omega)];unfold cr;omega
      . rw[lft];by_cases e:z=i
        . subst e;rw[N7,zZ1 rfl,hA];simp
        . rw[Ee _ _ (fun x=>e (R7 x)),HC.out.val,zZ0 e,zZ0 e]
      . by_cases e:l=bt (i:Int)
        . exact⟨i,e⟩
        . rw[Ee _ _ e]at hl;exact HC.lit l hl
      . rw[lft]at hl;by_cases e:z=i
        . subst e;rw[hA]at hz;cases hz;refine .inr ⟨i12,cc,hc,bY,Gt,Gs,m,hm,?_,fun j hj=>?_⟩
          . rw[zZ1 rfl];exact eR.1.aC Wy (fun j hj=>oX j (.inl hj)) (fun j hj=>oX j (.inr (.inl hj))) (oX _ (.inr (.inr rfl)))
          . rw[zZ1 rfl]at hj;have:=eR.2 j hj;rw[zZ0 (by omega)]
        . rw[zZ0 e]at hl;exact .inl ⟨hl,zZ0 e⟩
     clear o2;go_roundw;case rel=>
      obtain⟨_,Gv,h⟩:=Dz.out;exact⟨_,_,q+1,_,JN,Gv,h⟩
     case measure=>rw[Dz.out.1.left_eq,OE.out];exact xu
end
section
attribute [local go_sem] bl
namespace Pl
def et (e:En):List Int:=if e.ax=3 then [3,e.aj.toNat,e.ak.toNat,e.aq.toNat].flatMap aU++bn e.key else [4,e.aj.toNat,e.ak.toNat].flatMap aU
end Pl
theorem iE.aX (w:World){w1:World}{vals:List Value}{T:TypeId}(g:ae (w.alloc (.cells vals.toArray T)) w1)(U:TypeId):iE w (w1.alloc (.cells #[.slice none 0 0,.nilIface] U)) [(w.heap.size,vals)] w1.heap.size []:=by
 have h0:ae w w1:=g.jy;have hs:(w.alloc (.cells vals.toArray T)).heap.size=w.heap.size+1:=by simp
 have h1:=g.size;have gA:ae w1 (w1.alloc (.cells #[.slice none 0 0,.nilIface] U)):=(ae.rf w1).alloc _;refine⟨h0.trans gA,fun p hp i v hv=>?_,fun p hp=>?_,_,cY.new w1 U,fun p hp=>?_,fun j hj=>?_⟩
 . rw[zQ0.1 hp]at hv ⊢;refine(gA.cells.1 _ _ (by dsimp only;omega)).trans ((g.cells.1 _ _ (by dsimp only;omega)).trans ?_);rw[wQ1 _ _ i _ _ _ (wZ0 w _)];simpa using hv
 . rw[zQ0.1 hp];have:=gA.size;dsimp only;omega
 . rw[zQ0.1 hp];dsimp only;omega
 . have:j=w1.heap.size:=hj;omega
theorem z6b (cs:Array Value)(w:World):(method 442 205 (.agg cs) "tidewater/entry.write").run prog w=.ok (244,.agg cs) w:=by kernel_rfl
theorem z4T (cs:Array Value)(w:World):(method 442 207 (.agg cs) "tidewater/entry.write").run prog w=.ok (247,.agg cs) w:=by kernel_rfl
theorem y7H {S:Nat->Bool}(hS:jo S)(E:Nat->Addr){w:World}(hE:bz S E w)(e:En)(hA:b7 w e)(hr:Pl.cK e=true)(k3:e.ax=3)(hs:0<=e.aj/\e.aj<128)(ho:0<=e.ak/\e.ak<128)(hv:0<=e.aq/\e.aq<128)(hk:e.key.size<=96):
    Calls prog 75 #[e.agg] w fun r w'=>∃a c,r=.returned (.tuple #[.slice a (Pl.et e).length c,.nilIface])/\qi w' a (Pl.et e)/\qg a c/\w'.ownsRow w.heap.size 5 1 (.slice a (Pl.et e).length c) (Pl.et e).length (dX (Pl.et e))/\ae w w':=by
 have HR:=af (fun W (g:ae w W)=>qX hS E e W (hE.ah g) (hA.ah g));rw[hr]at HR;have HO:=af (fun W=>QA e W);have HV:Hid (iK e=.iface 205 (.agg #[.int .i64 e.aj,.int .i64 e.ak,.int .i64 e.aq,.string e.key])):=by unfold Hid iK;rw[zZ0 (by omega),zZ0 (by omega),zZ1 k3]
 rw[HV.out]at HO;have oY:Hid (Pl.et e=[3,e.aj.toNat,e.ak.toNat,e.aq.toNat].flatMap Pl.aU++Pl.bn e.key):=by unfold Hid Pl.et;rw[zZ1 k3]
 generalize Pl.et e=bs at *;clear hE hA hr HV k3;obtain⟨ax,aj,ak,aq,aw,seq,key,aM,aL,aA,ops,aN,aS,aF,aB,aG⟩:=e;unfold En.agg En.vals at *;dsimp only at *;obtain⟨s,rfl⟩:=yQ2 hs.1;obtain⟨o,rfl⟩:=yQ2 ho.1;obtain⟨v,rfl⟩:=yQ2 hv.1;simp only[zQ3]at oY;have iI:=af (show s<128/\o<128/\v<128/\key.size<=96 from⟨by omega,by omega,by omega,hk⟩);clear hs ho hv hk;have xf:Hid (bs.length<=110):=by
  unfold Hid;rw[oY.out,zZ4];have a:=JO [3,s,o,v] (by intro n hn;have:=iI.out;simp at hn;omega) 4;rw[show [3,s,o,v].take 4=[3,s,o,v]from rfl]at a;have b:=tH key (by have:=iI.out;omega);have:=iI.out;omega
 have hm:=z6b;go_in;go_wp2_with fail;refine(HR _ ((ae.rf w).alloc _)).mono ?_;rintro r w1 ⟨rfl,aR⟩;have HS:=af (iE.aX w (vals:=[.int .i64 ax,.int .i64 s,.int .i64 o,.int .i64 v,.int .i64 aw,.int .i64 seq,.slice aN ops.length aS,.string key,.int .i64 aM,.int .i64 aL,.int .i64 aA,.slice aF aB aG]) aR 147);have x0:=HS.c _ (zQ0.2 rfl) 0 _ rfl;have x1:=HS.c _ (zQ0.2 rfl) 1 _ rfl;have x2:=HS.c _ (zQ0.2 rfl) 2 _ rfl;have x3:=HS.c _ (zQ0.2 rfl) 3 _ rfl;have x4:=HS.c _ (zQ0.2 rfl) 4 _ rfl;have x5:=HS.c _ (zQ0.2 rfl) 5 _ rfl;have x6:=HS.c _ (zQ0.2 rfl) 6 _ rfl;have x7:=HS.c _ (zQ0.2 rfl) 7 _ rfl;have x8:=HS.c _ (zQ0.2 rfl) 8 _ rfl;have x9:=HS.c _ (zQ0.2 rfl) 9 _ rfl;have qU:=HS.c _ (zQ0.2 rfl) 10 _ rfl;have qV:=HS.c _ (zQ0.2 rfl) 11 _ rfl;have xl:=HS.lt _ (zQ0.2 rfl);dsimp only at x0 x1 x2 x3 x4 x5 x6 x7 x8 x9 qU qV xl;clear aR HR;go_wp2_with fail;refine(HO _).mono ?_;rintro r w2 ⟨rfl,aP⟩;have HX:=af (z5z (HS.br aP) s o v iI.1 iI.2.1 iI.2.2.1 key (by have:=iI.out;omega) (by simp));rw[zK8,<-oY.out]at HX;clear aP HO x0 x1 x2 x3 x4 x5 x6 x7 x8 x9 qU qV xl oY HS;go_wp2_with fail;refine HX.mono ?_;rintro r w3 ⟨rfl,h3⟩;have HD:=af (h3.done (by have:=xf.out;omega));clear HX h3;go_wp2_with fail;refine HD.mono ?_;rintro r w4 ⟨a,c,rfl,hA,hf,hr4,hg4⟩;have HF:=af (And.intro hA (And.intro hf (And.intro hr4 hg4)));have Wz:=xf.out;generalize tI:bs.length=n at *;clear hA hf hr4 hg4 HD;go_wp2_with fail;exact wZ1 (v:=.tuple #[.slice a n c,.nilIface]) (by simp[results,results75,go_sem]) rfl ⟨a,c,by rw[tI],by rw[tI];exact HF⟩
theorem y7I {S:Nat->Bool}(hS:jo S)(E:Nat->Addr){w:World}(hE:bz S E w)(e:En)(hA:b7 w e)(hr:Pl.cK e=true)(k4:e.ax=4)(hs:0<=e.aj/\e.aj<128)(ho:0<=e.ak/\e.ak<128):
    Calls prog 75 #[e.agg] w fun r w'=>∃a c,r=.returned (.tuple #[.slice a (Pl.et e).length c,.nilIface])/\qi w' a (Pl.et e)/\qg a c/\w'.ownsRow w.heap.size 5 1 (.slice a (Pl.et e).length c) (Pl.et e).length (dX (Pl.et e))/\ae w w':=by
 have HR:=af (fun W (g:ae w W)=>qX hS E e W (hE.ah g) (hA.ah g));rw[hr]at HR;have HO:=af (fun W=>QA e W);have HV:Hid (iK e=.iface 207 (.agg #[.int .i64 e.aj,.int .i64 e.ak])):=by unfold Hid iK;rw[zZ0 (by omega),zZ0 (by omega),zZ0 (by omega),zZ1 k4]
 rw[HV.out]at HO;have oY:Hid (Pl.et e=[4,e.aj.toNat,e.ak.toNat].flatMap Pl.aU):=by unfold Hid Pl.et;rw[zZ0 (by omega)]
 generalize Pl.et e=bs at *;clear hE hA hr HV k4;obtain⟨ax,aj,ak,aq,aw,seq,key,aM,aL,aA,ops,aN,aS,aF,aB,aG⟩:=e;unfold En.agg En.vals at *;dsimp only at *;obtain⟨s,rfl⟩:=yQ2 hs.1;obtain⟨o,rfl⟩:=yQ2 ho.1;simp only[zQ3]at oY;have iI:=af (show s<128/\o<128 from⟨by omega,by omega⟩);clear hs ho;have xf:Hid (bs.length<=110):=by
  unfold Hid;rw[oY.out];have a:=JO [4,s,o] (by intro n hn;have:=iI.out;simp at hn;omega) 3;rw[show [4,s,o].take 3=[4,s,o]from rfl]at a;omega
 have hm:=z4T;go_in;go_wp2_with fail;refine(HR _ ((ae.rf w).alloc _)).mono ?_;rintro r w1 ⟨rfl,aR⟩;have HS:=af (iE.aX w (vals:=[.int .i64 ax,.int .i64 s,.int .i64 o,.int .i64 aq,.int .i64 aw,.int .i64 seq,.slice aN ops.length aS,.string key,.int .i64 aM,.int .i64 aL,.int .i64 aA,.slice aF aB aG]) aR 147);have x0:=HS.c _ (zQ0.2 rfl) 0 _ rfl;have x1:=HS.c _ (zQ0.2 rfl) 1 _ rfl;have x2:=HS.c _ (zQ0.2 rfl) 2 _ rfl;have x3:=HS.c _ (zQ0.2 rfl) 3 _ rfl;have x4:=HS.c _ (zQ0.2 rfl) 4 _ rfl;have x5:=HS.c _ (zQ0.2 rfl) 5 _ rfl;have x6:=HS.c _ (zQ0.2 rfl) 6 _ rfl;have x7:=HS.c _ (zQ0.2 rfl) 7 _ rfl;have x8:=HS.c _ (zQ0.2 rfl) 8 _ rfl;have x9:=HS.c _ (zQ0.2 rfl) 9 _ rfl;have qU:=HS.c _ (zQ0.2 rfl) 10 _ rfl;have qV:=HS.c _ (zQ0.2 rfl) 11 _ rfl;have xl:=HS.lt _ (zQ0.2 rfl);dsimp only at x0 x1 x2 x3 x4 x5 x6 x7 x8 x9 qU qV xl;clear aR HR;go_wp2_with fail;refine(HO _).mono ?_;rintro r w2 ⟨rfl,aP⟩;have HX:=af (z6c (HS.br aP) s o iI.1 iI.2 (by simp));rw[zK8,<-oY.out]at HX;clear aP HO x0 x1 x2 x3 x4 x5 x6 x7 x8 x9 qU qV xl oY HS;go_wp2_with fail;refine HX.mono ?_;rintro r w3 ⟨rfl,h3⟩;have HD:=af (h3.done (by have:=xf.out;omega));clear HX h3;go_wp2_with fail;refine HD.mono ?_;rintro r w4 ⟨a,c,rfl,hA,hf,hr4,hg4⟩;have HF:=af (And.intro hA (And.intro hf (And.intro hr4 hg4)));have Wz:=xf.out;generalize tI:bs.length=n at *;clear hA hf hr4 hg4 HD;go_wp2_with fail;exact wZ1 (v:=.tuple #[.slice a n c,.nilIface]) (by simp[results,results75,go_sem]) rfl ⟨a,c,by rw[tI],by rw[tI];exact HF⟩
def EB (y:World)(ns ms:List Int)(ts:List ByteArray)(i:Nat)(v:Value)(u:World):Prop:=
 (i=14->pY y.heap.size ns v u)/\(i=15->v=.string (strOfNums ns))/\(i=20->pY y.heap.size ms v u)/\(i=21->v=.string (strOfNums ms))/\
 (i=22->∃nb,v=.slice (some ⟨nb,0,none⟩) 4 4/\y.heap.size<=nb/\u.heap[nb]? =some (.cells (ts.map Value.string).toArray 9 (0,0)))/\(i=23->v=.int .i64 4)
theorem EB.mono (y:World)(ns ms:List Int)(ts:List ByteArray):oy (EB y ns ms ts):=fun i v u u' h g=>⟨fun e=>(h.1 e).ah g,h.2.1,fun e=>(h.2.2.1 e).ah g,h.2.2.2.1,fun e=>by
 obtain⟨vb,h1,h2,h3⟩:=h.2.2.2.2.1 e;exact⟨vb,h1,h2,(g.below.block vb (zZ2.1 h3).1).trans h3⟩,h.2.2.2.2.2⟩
theorem z1q {w:World}{ms:Nat}{lo hi:ByteArray}{P D:List Pr}{S:Int->Option An}(h:LJ w ms lo hi D S)(hT:Pl.Tt P D)(hg:Pl.Good P)(hx:P.length<=1000)(hl:lo.size<=300)(hh:hi.size<=300)(hP:(Pl.gi P).length<=60000)(hS:(ew S).length<=1000):
    Calls prog 39 #[.pointer (some ⟨ms,0,none⟩)] w fun e w'=>∃v,e=.returned v/\pY w.heap.size (xi lo hi P S) v w'/\ae w w':=by
 have bK:=z5S hl hh hP hS;obtain⟨tb,sb,c0,c1,c2,c3,h1,h2⟩:=h;have H1:=af (fun W (g:ae w W)=>z1l (h1.ah g) hT hg hx);have H2:=af (fun W (g:ae w W)=>z1E (h2.ah g));have qu:ms<w.heap.size:=bf c0;clear h1 h2 hT hg;have HLEN:=af bK;have xp:Hid (xi lo hi P S=Pl.bn lo++Pl.bn hi++Pl.bn (strOfNums (Pl.gi P))++Pl.bn (strOfNums (ew S))):=rfl;have kU:=af (show(strOfNums (Pl.gi P)).size<=60000/\(strOfNums (ew S)).size<=60000 from⟨by rw[strOfNums_size];exact hP,by rw[strOfNums_size];omega⟩);generalize xi lo hi P S=bs at *;generalize Pl.gi P=ns at *;generalize ew S=qs at *;obtain⟨Y,hY⟩:∃Y,Y=w.alloc (.cells #[] 5):=⟨_,rfl⟩
 have gY:ae w Y:=by rw[hY];exact(ae.rf w).alloc _
 have hB0:pY w.heap.size [] (.slice (some ⟨w.heap.size,0,none⟩) 0 0) Y:=by
  rw[hY];exact⟨_,0,rfl,World.ownsRow_lit w #[] 0 (zZ3 _) (by decide) rfl⟩
 have HY:=af hY;have OJ:=af hB0;clear hB0 hY;go_in;go_upto_region 2 with fail;rw[<-HY.out];have C0:=bj ((gY.cells.1 _ 0 qu).trans c0);have C1:=bj ((gY.cells.1 _ 1 qu).trans c1);have C2:=bj ((gY.cells.1 _ 2 qu).trans c2);have C3:=bj ((gY.cells.1 _ 3 qu).trans c3);have hmY:=xA9 qu gY.size;have dg:=af gY;generalize Value.slice (some ⟨w.heap.size,0,none⟩) 0 0=v0 at *;obtain⟨ts,GK⟩:∃ts:List ByteArray,ts=[lo,hi,strOfNums ns,strOfNums qs]:=⟨_,rfl⟩
 have DC:=af GK;have j8:=af (EB.mono Y ns qs ts);clear gY c0 c1 c2 c3 GK;refine kh 25 [14,15,20,21,22,23] (ae Y) ae (JQ (EB Y ns qs ts) Y) (fun f a=>(((((a.put (some 21) (f 14)).put (some 22) (f 15)).put (some 27) (f 20)).put (some 28) (f 21)).put (some 29) (f 22)).put (some 30) (f 23)) (JQ.aX ..) (fun _ _ _ h=>h.ah) ae.rf (fun _ _ _ _ h g=>h.br j8 g) ?_;repeat (first|refine kg ?_|(refine gg ?_;intros;go_big_quiet_op;go_big_quiet_on)|(refine fZ ?_;simp only[Act.put,xB9,xC9,xD9]))
 refine rv ⟨⟨bL rfl (fun _ a=>a) ?_,bL rfl (fun f a=>a.put (some 21) (f 14)) ?_,bL rfl (fun f a=>a.put (some 21) (f 14)) ?_,bL rfl (fun f a=>a.put (some 27) (f 20)) ?_,bL rfl (fun f a=>(a.put (some 22) (f 15)).put (some 28) (f 21)) ?_,bL rfl (fun f a=>a.put (some 29) (f 22)) ?_,trivial⟩,?_⟩
 . intro L f u hJ hL hd;have HJ:=af hJ;clear hJ hL hd C0 C1 C2 C3;go_simp;refine(H1 u (dg.trans HJ.ah)).mono ?_;rintro e u' ⟨a,c,rfl,hr,hg⟩;exact⟨_,rfl,HJ.put j8 14 hg ⟨fun _=>⟨_,_,rfl,mg HJ.ah.size hr⟩,fun e=>absurd e (by decide),fun e=>absurd e (by decide),fun e=>absurd e (by decide),fun e=>absurd e (by decide),fun e=>absurd e (by decide)⟩⟩
 . intro L f u hJ hL hd;obtain⟨a,c,jD,hr⟩:=(hJ.at_ 14 (hd 14 rfl (by decide))).1 rfl;rw[jD]at hr;obtain⟨a',c',e',hA,hF,_⟩:=uL hr;cases e';have hcv:=B9 (w:=u) rfl hA hF;have HJ:=af hJ;clear hJ hL hd C0 C1 C2 C3 hr hA hF;rw[jD];clear jD;go_simp;exact HJ.same j8 15 ⟨fun e=>absurd e (by decide),fun _=>rfl,fun e=>absurd e (by decide),fun e=>absurd e (by decide),fun e=>absurd e (by decide),fun e=>absurd e (by decide)⟩
 . intro L f u hJ hL hd;have HJ:=af hJ;clear hJ hL hd C0 C1 C2 C3;go_simp;refine(H2 u (dg.trans HJ.ah)).mono ?_;rintro e u' ⟨v,rfl,hr,hg⟩;obtain⟨a,c,rfl,hr⟩:=hr;exact⟨_,rfl,HJ.put j8 20 hg ⟨fun e=>absurd e (by decide),fun e=>absurd e (by decide),fun _=>⟨_,_,rfl,mg HJ.ah.size hr⟩,fun e=>absurd e (by decide),fun e=>absurd e (by decide),fun e=>absurd e (by decide)⟩⟩
 . intro L f u hJ hL hd;obtain⟨a,c,jD,hr⟩:=(hJ.at_ 20 (hd 20 rfl (by decide))).2.2.1 rfl;rw[jD]at hr;obtain⟨a',c',e',hA,hF,_⟩:=uL hr;cases e';have hcv:=B9 (w:=u) rfl hA hF;have HJ:=af hJ;clear hJ hL hd C0 C1 C2 C3 hr hA hF;rw[jD];clear jD;go_simp;exact HJ.same j8 21 ⟨fun e=>absurd e (by decide),fun e=>absurd e (by decide),fun e=>absurd e (by decide),fun _=>rfl,fun e=>absurd e (by decide),fun e=>absurd e (by decide)⟩
 . intro L f u hJ hL hd;have EA:=(hJ.at_ 15 (hd 15 rfl (by decide))).2.1 rfl;have GI:=(hJ.at_ 21 (hd 21 rfl (by decide))).2.2.2.1 rfl;have HJ:=af hJ;clear hJ hL hd C0 C1 C2 C3;rw[EA,GI];clear EA GI;go_simp;exact HJ.put j8 22 ((ae.rf u).alloc _) ⟨fun e=>absurd e (by decide),fun e=>absurd e (by decide),fun e=>absurd e (by decide),fun e=>absurd e (by decide),fun _=>⟨_,rfl,HJ.ah.size,by rw[DC.out];exact wZ0 u _⟩,fun e=>absurd e (by decide)⟩
 . intro L f u hJ hL hd;obtain⟨nb,GJ,_⟩:=(hJ.at_ 22 (hd 22 rfl (by decide))).2.2.2.2.1 rfl;have HJ:=af hJ;clear hJ hL hd C0 C1 C2 C3;rw[GJ];clear GJ;go_simp;exact HJ.same j8 23 ⟨fun e=>absurd e (by decide),fun e=>absurd e (by decide),fun e=>absurd e (by decide),fun e=>absurd e (by decide),fun e=>absurd e (by decide),fun _=>rfl⟩
 intro f u hJ;obtain⟨nb,GJ,kj,dB⟩:=(hJ.at_ 22 rfl).2.2.2.2.1 rfl;have e23:=(hJ.at_ 23 rfl).2.2.2.2.2 rfl;have FP:=af ((Bz.aX dg OJ).add hJ.ah nb (ts.map Value.string) kj (zZ2.1 dB).1 (fun i v hv=>by rw[gw dB];simpa using hv));have Im:=af (fun(j:Nat) (hj:j<4)=>show ∃t,ts[j]? =some t/\t.size<=60000 by
  rw[DC.out];have e2:=kU.out;match j,hj with
  | 0,_=>exact⟨lo,rfl,by omega⟩
  | 1,_=>exact⟨hi,rfl,by omega⟩
  | 2,_=>exact⟨_,rfl,e2.1⟩
  | 3,_=>exact⟨_,rfl,e2.2⟩)
 have LI:Hid ((ts.take 4).flatMap Pl.bn=bs):=by
  unfold Hid;rw[xp.out,DC.out];simp[zQ7]
 have xu:=af (fun(j:Nat) (hj:j<=4)=>show((ts.take j).flatMap Pl.bn).length<=65000 by
  have h4:bs=ts.flatMap Pl.bn:=by rw[xp.out,DC.out];simp[zQ7]
  have h5:(ts.take j).flatMap Pl.bn++(ts.drop j).flatMap Pl.bn=bs:=by rw[h4,<-zK3,zX7]
  have h6:=wZ7 List.length h5;rw[zZ4]at h6;have:=HLEN.out;omega)
 clear hJ C0 C1 C2 C3 kj dB;dsimp only[List.drop];simp only[Act.put,xB9,xD9,xC9];rw[GJ,e23];clear GJ e23 j8 DC;go_wp2_with fail;go_loopw [3,31] (fun v i wr=>∃(j:Nat) (es:List Int),j<=4/\i=.int .i64 j/\Hid (es=(ts.take j).flatMap Pl.bn)/\Hid (Bz w wr [(nb,ts.map Value.string)] v es)) (fun _ i _=>4 - (intOf i).toNat);exact⟨0,_,by omega,rfl,by unfold Hid;simp,FP⟩;obtain⟨j,es,hj,rfl,qa,kW⟩:=hrel;by_cases CQ:j<4
 . obtain⟨t,jz,iU⟩:=Im j CQ;have q:=kW.c _ (zZ8 ..) j (.string t) (by dsimp only;rw[yZ3,jz];rfl);have kF:=kW.lt _ (zZ8 ..);dsimp only at q kF;have ry:(ts.take (j+1)).flatMap Pl.bn=(ts.take j).flatMap Pl.bn++Pl.bn t:=by
    obtain⟨jH,Io⟩:=zQ9.1 jz;rw[zX1 jH,zK3,Io];simp
   have pj:=af (show es++Pl.bn t=(ts.take (j+1)).flatMap Pl.bn by rw[qa.out,ry]);have lc:es.length<=65000:=(by rw[qa.out];exact xu j (by omega));have l1:=tH t (by omega);clear ry jz qa;go_wp2_with fail;refine(y8c w.heap.size wr t kW.ah.size (by omega)).mono ?_;rintro e w10 ⟨v10,rfl,Ba,Bb⟩;have Bc:=af Ba;have Bd:=af (kW.br Bb);clear Ba Bb kW;go_wp2_with (at_builtin;refine JX rfl _ _ rfl rfl Bd.out rfl Bc.out (by omega) ?_);intro d11 Kd a11 c11 w11 Be;have Ke:=af Be;clear Be Bd Bc q kF;go_wp2_with fail;go_roundw;case rel=>exact⟨j+1,d11,by omega,by go_num,by unfold Hid;rw[Kd.out];exact pj,Ke⟩
   case measure=>simp[intOf];omega
 . have kR:j=4:=(by omega);subst kR;rw[LI.out]at qa;have oX:=kW.tail;obtain⟨av,cv,rfl⟩:=oX.row.form;have HF:=af (show pY w.heap.size bs (.slice av es.length cv) wr/\ae w wr from⟨⟨av,cv,by rw[qa.out],by rw[<-qa.out];exact oX.row.row⟩,oX.ah⟩);clear oX kW;go_wp2_with fail;go_ret;exact⟨.slice av es.length cv,by simp,HF⟩
theorem z4x {w:World}{rb:Nat}{S:Int->Option An}(h:dy w rb S):
    Calls prog 107 #[.pointer (some ⟨rb,0,none⟩)] w fun e w'=>∃cb,e=.returned (.pointer (some ⟨cb,0,none⟩))/\dy w' cb S/\w.heap.size<=cb/\ae w w':=by
 have eK:=h.ok;have kd:=h.lt;have mL:=af eK;have s0:=h.seq 0 (by omega);have s1:=h.seq 1 (by omega);have s2:=h.seq 2 (by omega);have s3:=h.seq 3 (by omega);have s4:=h.seq 4 (by omega);have k0:=h.cI 0 (by omega);have k1:=h.cI 1 (by omega);have k2:=h.cI 2 (by omega);have k3:=h.cI 3 (by omega);have k4:=h.cI 4 (by omega);have t0:=h.at_ 0 (by omega);have t1:=h.at_ 1 (by omega);have t2:=h.at_ 2 (by omega);have t3:=h.at_ 3 (by omega);have t4:=h.at_ 4 (by omega);clear h eK;generalize IU:cM (S ((0:Nat):Int))=q0 at *;generalize SE:cM (S ((1:Nat):Int))=q1 at *;generalize Fj:cM (S ((2:Nat):Int))=q2 at *;generalize hq3:cM (S ((3:Nat):Int))=q3 at *;generalize hq4:cM (S ((4:Nat):Int))=q4 at *;generalize hc0:ia (S ((0:Nat):Int))=c0 at *;generalize hc1:ia (S ((1:Nat):Int))=c1 at *;generalize hc2:ia (S ((2:Nat):Int))=c2 at *;generalize hc3:ia (S ((3:Nat):Int))=c3 at *;generalize RB:ia (S ((4:Nat):Int))=c4 at *;generalize ha0:sI (S ((0:Nat):Int))=a0 at *;generalize ha1:sI (S ((1:Nat):Int))=a1 at *;generalize ha2:sI (S ((2:Nat):Int))=a2 at *;generalize VB:sI (S ((3:Nat):Int))=a3 at *;generalize ha4:sI (S ((4:Nat):Int))=a4 at *;simp only[Nat.reduceMul,Nat.reduceAdd]at k0 k1 k2 k3 k4 t0 t1 t2 t3 t4;have xp:=af (And.intro IU (And.intro SE (And.intro Fj (And.intro hq3 (And.intro hq4 (And.intro hc0 (And.intro hc1 (And.intro hc2 (And.intro hc3 (And.intro RB (And.intro ha0 (And.intro ha1 (And.intro ha2 (And.intro VB ha4))))))))))))));clear IU SE Fj hq3 hq4 hc0 hc1 hc2 hc3 RB ha0 ha1 ha2 VB ha4;go_in;go_wp2_with fail;go_ret;obtain⟨e0,e1,e2,e3,e4,d0,d1,d2,d3,d4,b0,b1,b2,b3,b4⟩:=xp.out;refine⟨w.heap.size,rfl,⟨fun c hc=>?_,fun c hc=>?_,fun c hc=>?_,fun o ho=>?_,mL⟩,zZ3 _,(ae.rf w).alloc _⟩
 . obtain rfl | rfl | rfl | rfl | rfl:c=0\/c=1\/c=2\/c=3\/c=4:=by omega
   . rw[e0,gw (wZ0 w _)];rfl
   . rw[e1,gw (wZ0 w _)];rfl
   . rw[e2,gw (wZ0 w _)];rfl
   . rw[e3,gw (wZ0 w _)];rfl
   . rw[e4,gw (wZ0 w _)];rfl
 . obtain rfl | rfl | rfl | rfl | rfl:c=0\/c=1\/c=2\/c=3\/c=4:=by omega
   . rw[d0,gw (wZ0 w _)];rfl
   . rw[d1,gw (wZ0 w _)];rfl
   . rw[d2,gw (wZ0 w _)];rfl
   . rw[d3,gw (wZ0 w _)];rfl
   . rw[d4,gw (wZ0 w _)];rfl
 . obtain rfl | rfl | rfl | rfl | rfl:c=0\/c=1\/c=2\/c=3\/c=4:=by omega
   . rw[b0,gw (wZ0 w _)];rfl
   . rw[b1,gw (wZ0 w _)];rfl
   . rw[b2,gw (wZ0 w _)];rfl
   . rw[b3,gw (wZ0 w _)];rfl
   . rw[b4,gw (wZ0 w _)];rfl
 . simp[go_sem]
def Ps (w:World)(G:Nat->Prop)(ms sb:Nat)(lo hi gM hi':ByteArray)(Dl Dh:List Pr)(S:Int->Option An)(ob:Nat)(w':World):Prop:=
 ar (fun j=>j=ms\/G j) w w'/\∃G' Go cb,fE w' G' ms sb lo hi Dl S/\fE w' Go ob cb gM hi' Dh S/\(∀j,G' j->G j\/w.heap.size<=j)/\∀j,jh Go ob cb j->w.heap.size<=j/\¬jh G' ms sb j
structure LL (y:World)(G:Nat->Prop)(tb:Nat)(gM hi':ByteArray)(Dl Dh:List Pr)(S:Int->Option An)(s:Nat)(f:Nat->Value)(u:World):Prop where
 only:ar G y u
 s0:s=0->ae y u
 ex:∃(bb cb nb:Nat) (G' Gb:Nat->Prop),(1<=s->f 6=.pointer (some ⟨bb,0,none⟩)/\er u Gb bb Dh/\er u G' tb Dl/\(∀j,G' j->G j\/y.heap.size<=j)/\∀j,Gb j->y.heap.size<=j/\¬G' j)/\
  (2<=s->f 11=.pointer (some ⟨cb,0,none⟩)/\dy u cb S/\y.heap.size<=cb/\¬G' cb/\¬Gb cb)/\
  (3<=s->f 12=.agg #[.string gM,.string hi',.pointer (some ⟨bb,0,none⟩),.pointer (some ⟨cb,0,none⟩)])/\
  (4<=s->f 13=.pointer (some ⟨nb,0,none⟩)/\fE u Gb nb cb gM hi' Dh S/\y.heap.size<=nb/\¬G' nb)
def z2V (w:World)(G:Nat->Prop)(ms sb:Nat)(lo hi key:ByteArray)(D:List Pr)(S:Int->Option An)(c:Nat)(e:Ending)(w':World):Prop:=
 (c≠0/\e=.returned (.tuple #[.pointer none,.int .i64 (c:Nat)])/\ae w w')\/
 (c=0/\∃ob,e=.returned (.tuple #[.pointer (some ⟨ob,0,none⟩),.int .i64 0])/\Ps w G ms sb lo key key hi (D.filter fun p=>!Pl.im key p) (D.filter (Pl.im key)) S ob w')
theorem z0m {w:World}{G:Nat->Prop}{ms sb:Nat}{lo hi:ByteArray}{D:List Pr}{S:Int->Option An}(h:fE w G ms sb lo hi D S)(key:ByteArray)(hx:D.length<=1000)(hl:lo.size<=300)(hh:hi.size<=300)(hk:key.size<=300):
    Calls prog 62 #[.pointer (some ⟨ms,0,none⟩),.string key] w (z2V w G ms sb lo hi key D S (Pl.eA (Pl.fJ lo hi) (Pl.aT key) (Pl.fN lo hi key) lo key)):=by
 have ko:=af (z5M lo hi key w (by omega) (by omega) (by omega));unfold z2V;obtain⟨tb,h⟩:=h;have HST:=af h;have c0:=h.c0;have c1:=h.c1;have hst:ms<w.heap.size:=bf c0;clear h;generalize Pl.eA (Pl.fJ lo hi) (Pl.aT key) (Pl.fN lo hi key) lo key=c at *;unfold Sq at ko;by_cases hc:c=0
 . subst hc;have e1:fX 0 lo key=(lo,key):=rfl;have e2:fX 0 key hi=(key,hi):=rfl;rw[e1,e2]at ko;clear e1 e2;generalize hDl:(D.filter fun p=>!Pl.im key p)=Dl at *;generalize hDh:D.filter (Pl.im key)=Dh at *;have Jk:=af (And.intro hDl hDh);clear hDl hDh;go_in;go_wp2_with fail;refine ko.mono ?_;rintro e w1 ⟨rfl,aR⟩;have ct:=af aR;have k0:=(aR.cells.1 _ 0 hst).trans c0;have k1:=(aR.cells.1 _ 1 hst).trans c1;have z0:=(aR.cells.2 _ 0 hst).trans HST.f0;have z1:=(aR.cells.2 _ 1 hst).trans HST.f1;have mV:=xA9 hst aR.size;clear aR ko c0 c1;go_upto_region 4 with fail;obtain⟨Y,hY⟩:∃Y,Y=(w1.alloc (.cells #[.string lo,.string key] 24)).alloc (.cells #[.string key,.string hi] 24):=⟨_,rfl⟩
   have gY:ae w1 Y:=(by rw[hY];exact((ae.rf w1).alloc _).alloc _);have a0:Y.cell? ⟨w1.heap.size,0,none⟩=some (.string lo):=(by rw[hY];simp[go_sem]);have a1:Y.cell? ⟨w1.heap.size,1,none⟩=some (.string key):=(by rw[hY];simp[go_sem]);have b0:Y.cell? ⟨w1.heap.size+1,0,none⟩=some (.string key):=(by rw[hY];simp[go_sem]);have b1:Y.cell? ⟨w1.heap.size+1,1,none⟩=some (.string hi):=(by rw[hY];simp[go_sem]);rw[<-hY];obtain⟨x1,hx1⟩:∃x1,x1=w1.heap.size:=⟨_,rfl⟩
   obtain⟨x2,hx2⟩:∃x2,x2=w1.heap.size+1:=⟨_,rfl⟩
   rw[<-hx2]at b0 b1 ⊢;rw[<-hx1]at a0 a1 ⊢;have NR:=af (show w1.heap.size<=x1/\w1.heap.size<=x2 from⟨by omega,by omega⟩);have k0:=(gY.cells.1 _ 0 mV).trans k0;have k1:=(gY.cells.1 _ 1 mV).trans k1;have z0:=(gY.cells.2 _ 0 mV).trans z0;have z1:=(gY.cells.2 _ 1 mV).trans z1;have dg:=af (ct.trans gY);have NS:=xA9 mV gY.size;have fC:=bf a0;have hl2:=bf b0;clear hY gY hx1 hx2;go_upto_region 5 with fail;obtain⟨Z,hZ⟩:∃Z,Z=(Y.setCell ⟨ms,0,none⟩ (.string lo)).setCell ⟨ms,1,none⟩ (.string key):=⟨_,rfl⟩
   have hO:ar (fun j=>j=ms) Y Z:=(by rw[hZ];exact(ar.setCell Y ⟨ms,0,none⟩ _).then (ar.setCell _ ⟨ms,1,none⟩ _));have d0:Z.cell? ⟨ms,0,none⟩=some (.string lo):=(by rw[hZ];simp[go_sem,k0]);have d1:Z.cell? ⟨ms,1,none⟩=some (.string key):=(by rw[hZ];simp[go_sem,k1]);have d2:Z.cell? ⟨ms,2,none⟩=some (.pointer (some ⟨tb,0,none⟩)):=by
    have q:=(dg.cells.1 _ 2 hst).trans HST.c2;rw[hZ];simp[go_sem,q]
   have d3:Z.cell? ⟨ms,3,none⟩=some (.pointer (some ⟨sb,0,none⟩)):=by
    have q:=(dg.cells.1 _ 3 hst).trans HST.c3;rw[hZ];simp[go_sem,q]
   have Pt:Z.frozen? ⟨ms,0,none⟩=false:=(by rw[hZ,World.frozen?_setCell,World.frozen?_setCell];exact(dg.cells.2 _ 0 hst).trans HST.f0);have Pu:Z.frozen? ⟨ms,1,none⟩=false:=(by rw[hZ,World.frozen?_setCell,World.frozen?_setCell];exact(dg.cells.2 _ 1 hst).trans HST.f1);have Pv:Z.frozen? ⟨ms,2,none⟩=false:=(by rw[hZ,World.frozen?_setCell,World.frozen?_setCell];exact(dg.cells.2 _ 2 hst).trans HST.f2);have Xo:=af (And.intro Pt (And.intro Pu Pv));have tW:¬x2=ms:=(by have:=NR.out;omega);have b0:=(hO.cell hl2 tW 0).trans b0;have b1:=(hO.cell hl2 tW 1).trans b1;have DW:=af (show ar (fun j=>j=ms) w Z from(dg.only _).then hO);have VU:=af (HST.tab.aC DW (fun j hj e=>(HST.cC j hj).1 e));have iI:=af (HST.cL.aC DW (fun e=>HST.ne e.symm));have oU:=af (fun(e:G sb)=>(HST.cC sb e).2 rfl);have HD:=af (And.intro d0 (And.intro d1 (And.intro d2 d3)));have hZs:=DW.size;have xe:¬G ms:=fun h=>(HST.cC ms h).1 rfl;have iU:¬G x2:=fun h=>by have:=HST.tab.lt x2 h;have:=NR.out;have:=ct.size;omega
   rw[<-hZ];clear hZ hO a0 a1 k0 k1 z0 z1 fC hl2 tW Pt Pu Pv;have og:=bf d0;have VV:=bf b0;have D2:=bu (S:=G) d2 xe;have D3:=bu (S:=G) d3 xe;have B0:=bu (S:=G) b0 iU;have B1:=bu (S:=G) b1 iU;have NT:LL Z G tb key hi Dl Dh S 0 (fun _=>undef) Z.drew:=⟨((ae.rf Z).drew).only _,fun _=>(ae.rf Z).drew,0,0,0,fun _=>False,fun _=>False,(fun e=>by omega),(fun e=>by omega),(fun e=>by omega),(fun e=>by omega)⟩
   have NU:=af NT;clear NT d0 d1 d2 d3 b0 b1 xe iU;refine kh 14 [6,11,12,13] (ar G Z) Eq (JC [6,11,12,13] (LL Z G tb key hi Dl Dh S)) (fun f a=>(((a.put (some 32) (f 6)).put (some 37) (f 11)).put (some 38) (f 12)).put (some 39) (f 13)) (JC.aX NU) (fun _ _ _ h=>by obtain⟨s,_,_,h⟩:=h.ex;exact h.only) (fun _=>rfl) (fun _ _ _ _ h g=>g▸h) ?_;repeat (first|refine kg ?_|(refine gg ?_;intros;go_big_quiet_op;go_big_quiet_on)|(refine fZ ?_;simp only[Act.put,xB9,xC9,xD9]))
   refine jB (by rfl) ⟨⟨bL rfl (fun _ a=>a) ?_,bL rfl (fun f a=>a.put (some 32) (f 6)) ?_,bL rfl (fun f a=>(a.put (some 32) (f 6)).put (some 37) (f 11)) ?_,bL rfl (fun f a=>a.put (some 38) (f 12)) ?_,trivial⟩,?_⟩
   . intro L f u hJ hL hd;have hp:∀k,0=k+1->∃i',([6,11,12,13]:List Nat)[k]? =some i'/\L i'=true:=fun k e=>by omega
     have HM:=af (hJ.stage 0 6 rfl hL hp).2;have eZ:=af (fun u' v (h:LL Z G tb key hi Dl Dh S 1 (bQ f 6 v) u')=>hJ.put (by decide) 0 6 rfl hL hp h);clear hJ hL hd hp D2 D3 B0 B1;go_simp;have NV:=HM.s0 rfl;refine(z4t (VU.ah NV) (by omega) key (by omega)).mono ?_;rintro e u' ⟨bb,Gb,G',rfl,hM,hO,h1,h2,h3⟩;rw[Jk.out.1]at h1;rw[Jk.out.2]at hM;have DX:=NV.size;exact⟨_,rfl,eZ _ _ ⟨HM.only.then hO,(fun e=>by omega),bb,0,0,G',Gb,(fun _=>⟨fY _ _ _,hM,h1,fun j hj=>(h2 j hj).imp id fun q=>by omega,fun j hj=>⟨by have:=(h3 j hj).1;omega,(h3 j hj).2⟩⟩),(fun e=>by omega),(fun e=>by omega),(fun e=>by omega)⟩⟩
   . intro L f u hJ hL hd;have hp:∀k,1=k+1->∃i',([6,11,12,13]:List Nat)[k]? =some i'/\L i'=true:=fun k e=>by obtain rfl:k=0:=(by omega);exact⟨6,rfl,hd 6 rfl (by decide)⟩
     have HM:=af (hJ.stage 1 11 rfl hL hp).2;have eZ:=af (fun u' v (h:LL Z G tb key hi Dl Dh S 2 (bQ f 11 v) u')=>hJ.put (by decide) 1 11 rfl hL hp h);clear hJ hL hd hp D2 D3 B0 B1;go_simp;obtain⟨bb,_,_,G',Gb,m1,_⟩:=HM.ex;obtain⟨q1,q2,q3,q4,q5⟩:=m1 (by omega);have DX:=HM.only.size;refine(z4x (iI.aC HM.only oU)).mono ?_;rintro e u' ⟨cb,rfl,h1,h2,hg⟩;exact⟨_,rfl,eZ _ _ ⟨HM.only.dG hg,(fun e=>by omega),bb,cb,0,G',Gb,(fun _=>⟨by rw[gH (by decide)];exact q1,q2.ah hg,q3.ah hg,q4,q5⟩),(fun _=>⟨fY _ _ _,h1,by omega,fun hj=>by have:=q3.lt cb hj;omega,fun hj=>by have:=q2.lt cb hj;omega⟩),(fun e=>by omega),(fun e=>by omega)⟩⟩
   . intro L f u hJ hL hd;have hp:∀k,2=k+1->∃i',([6,11,12,13]:List Nat)[k]? =some i'/\L i'=true:=fun k e=>by obtain rfl:k=1:=(by omega);exact⟨11,rfl,hd 11 rfl (by decide)⟩
     have HM:=af (hJ.stage 2 12 rfl hL hp).2;have eZ:=af (fun u' v (h:LL Z G tb key hi Dl Dh S 3 (bQ f 12 v) u')=>hJ.put (by decide) 2 12 rfl hL hp h);obtain⟨bb,cb,_,G',Gb,m1,m2,_⟩:=HM.ex;have q1:=m1 (by omega);have q2:=m2 (by omega);have HQ:=af (And.intro q1 q2);have e6:=q1.1;have e11:=q2.1;clear hJ hL hd hp D2 D3 m1 m2 q1 q2;rw[e6,e11];clear e6 e11;go_simp;obtain⟨q1,q2⟩:=HQ.out;exact eZ _ _ ⟨HM.only,(fun e=>by omega),bb,cb,0,G',Gb,(fun _=>⟨by rw[gH (by decide)];exact q1.1,q1.2⟩),(fun _=>⟨by rw[gH (by decide)];exact q2.1,q2.2⟩),(fun _=>fY _ _ _),(fun e=>by omega)⟩
   . intro L f u hJ hL hd;have hp:∀k,3=k+1->∃i',([6,11,12,13]:List Nat)[k]? =some i'/\L i'=true:=fun k e=>by obtain rfl:k=2:=(by omega);exact⟨12,rfl,hd 12 rfl (by decide)⟩
     have HM:=af (hJ.stage 3 13 rfl hL hp).2;have eZ:=af (fun u' v (h:LL Z G tb key hi Dl Dh S 4 (bQ f 13 v) u')=>hJ.put (by decide) 3 13 rfl hL hp h);obtain⟨bb,cb,_,G',Gb,m1,m2,m3,_⟩:=HM.ex;have q1:=m1 (by omega);have q2:=m2 (by omega);have q3:=m3 (by omega);have HQ:=af (And.intro q1 (And.intro q2 q3));clear hJ hL hd hp D2 D3 B0 B1 m1 m2 m3 q1 q2;rw[q3];clear q3;go_simp;obtain⟨⟨q1,⟨vb,t1⟩,t2,t3,t4⟩,⟨q2,s1,s2,s3,s4⟩,q3⟩:=HQ.out;have gA:ae u (u.alloc (.cells #[.string key,.string hi,.pointer (some ⟨bb,0,none⟩),.pointer (some ⟨cb,0,none⟩)] 98)):=(ae.rf u).alloc _;have DX:=HM.only.size;have hlc:=s1.lt;exact eZ _ _ ⟨HM.only.dG gA,(fun e=>by omega),bb,cb,u.heap.size,G',Gb,(fun _=>⟨by rw[gH (by decide)];exact q1,er.ah ⟨vb,t1⟩ gA,t2.ah gA,t3,t4⟩),(fun _=>⟨by rw[gH (by decide)];exact q2,s1.ah gA,s2,s3,s4⟩),(fun _=>by rw[gH (by decide)];exact q3),(fun _=>⟨fY _ _ _,⟨bb,by simp[go_sem],by simp[go_sem],by simp[go_sem],by simp[go_sem],by simp[go_sem],by simp[go_sem],by simp[go_sem],er.ah ⟨vb,t1⟩ gA,s1.ah gA,by omega,fun j hj=>⟨by have:=t1.lt j hj;omega,fun e=>s4 (e▸hj)⟩⟩,by omega,fun hj=>by have:=t2.lt _ hj;omega⟩)⟩
   intro f u hJ;have hM:=hJ.done (by decide);obtain⟨bb,cb,nb,G',Gb,m1,m2,m3,m4⟩:=hM.ex;obtain⟨e6,t1,t2,t3,t4⟩:=m1 (by decide);obtain⟨e11,s1,s2,s3,s4⟩:=m2 (by decide);have kp:=m3 (by decide);obtain⟨kB,kj,n1,n2⟩:=m4 (by decide);have dJ:=af (show Ps w G ms sb lo key key hi Dl Dh S nb u by
    have DY:=hM.only;have jw:¬G ms:=fun h=>(HST.cC ms h).1 rfl;have hcell:∀(i:Nat) v,Z.cell? ⟨ms,i,none⟩=some v->u.cell? ⟨ms,i,none⟩=some v:=fun i v hv=>(DY.cell og jw i).trans hv;have Je:∀i,Z.frozen? ⟨ms,i,none⟩=false->u.frozen? ⟨ms,i,none⟩=false:=fun i hv=>(DY.frozen og jw i).trans hv;have IV:=HST.cL.lt;refine⟨(DW.mono fun j hj=> .inl (.inl hj)).then (DY.mono fun j hj=> .inl (.inr hj)),G',Gb,cb,⟨tb,hcell 0 _ HD.1,hcell 1 _ HD.2.1,hcell 2 _ HD.2.2.1,hcell 3 _ HD.2.2.2,Je 0 Xo.1,Je 1 Xo.2.1,Je 2 Xo.2.2,t2,iI.aC DY oU,HST.ne,fun j hj=>?_⟩,kj,fun j hj=>(t3 j hj).imp id fun q=>by omega,fun j hj=>?_⟩
    . rcases t3 j hj with q | q
      . exact HST.cC j q
      . exact⟨fun e=>by omega,fun e=>by omega⟩
    . have h0:Z.heap.size<=j/\¬G' j:=by
       rcases hj with hj | rfl | rfl
       . exact t4 j hj
       . exact⟨n1,n2⟩
       . exact⟨s2,s3⟩
      refine⟨by omega,?_⟩;rintro (q | q | q)
      . exact h0.2 q
      . omega
      . omega)
   clear hJ hM m1 m2 m3 m4 t1 t2 t3 t4 s1 s2 s3 s4 n1 n2 kj D2 D3 B0 B1 NU;dsimp only[List.drop];simp only[Act.put,xB9,xD9,xC9];rw[e6,e11,kp,kB];clear e6 e11 kp kB;go_wp2_with fail;go_ret2;exact⟨nb,rfl,dJ⟩
 . have NW:=af hc;have e1:fX c lo key=(cR,cR):=(by unfold fX;rw[zZ0 hc]);have e2:fX c key hi=(cR,cR):=(by unfold fX;rw[zZ0 hc]);rw[e1,e2]at ko;have hcI:((c:Int)==0)=false:=wZ3.mpr (by omega);clear e1 e2 hc;go_in;go_wp2_with fail;refine ko.mono ?_;rintro e w1 ⟨rfl,aR⟩;have cA:=af (show ae w ((w1.alloc (.cells #[.string cR,.string cR] 24)).alloc (.cells #[.string cR,.string cR] 24))from(aR.alloc _).alloc _);clear aR ko;go_wp2_with fail;go_ret2;exact .inl ⟨NW.out,rfl,cA⟩
end
theorem z0R {S:Nat->Bool}(hS:jo S)(E:Nat->Addr){w:World}(hE:bz S E w)(e:En)(hA:b7 w e)(hr:Pl.cK e=true)(hk:e.ax=3\/e.ax=4):
    Calls prog 75 #[e.agg] w fun r w'=>∃a c,r=.returned (.tuple #[.slice a (Pl.et e).length c,.nilIface])/\qi w' a (Pl.et e)/\qg a c/\w'.ownsRow w.heap.size 5 1 (.slice a (Pl.et e).length c) (Pl.et e).length (dX (Pl.et e))/\ae w w':=by
 rcases hk with k3 | k4
 . have h:=NL hr k3;exact y7H hS E hE e hA hr k3 ⟨by omega,by omega⟩ ⟨by omega,by omega⟩ ⟨by omega,by omega⟩ (F5 h.2.2.2.2.2.2.2)
 . have h:=zY hr k4;exact y7I hS E hE e hA hr k4 ⟨by omega,by omega⟩ ⟨by omega,by omega⟩
theorem AE (e:En):0<(Pl.et e).length:=by
 unfold Pl.et;split
 . rw[zZ4,zK2,zZ4];have:=Zs 3;omega
 . rw[zK2,zZ4];have:=Zs 4;omega
theorem WI {e:En}(hr:Pl.cK e=true)(hk:e.ax=3\/e.ax=4):(Pl.et e).length<=110:=by
 unfold Pl.et;rcases hk with k3 | k4
 . have h:=NL hr k3;have hs:=F5 h.2.2.2.2.2.2.2;rw[zZ1 k3,zZ4];have a:=JO [3,e.aj.toNat,e.ak.toNat,e.aq.toNat] (by intro n hn;simp at hn;omega) 4;rw[show [3,e.aj.toNat,e.ak.toNat,e.aq.toNat].take 4=[3,e.aj.toNat,e.ak.toNat,e.aq.toNat]from rfl]at a;have b:=tH e.key (by omega);omega
 . have h:=zY hr k4;rw[zZ0 (by omega)];have a:=JO [4,e.aj.toNat,e.ak.toNat] (by intro n hn;simp at hn;omega) 3;rw[show [4,e.aj.toNat,e.ak.toNat].take 3=[4,e.aj.toNat,e.ak.toNat]from rfl]at a;omega
section
attribute [local go_sem] bl
namespace Pl
def nt (q:List Ac):List Int:=q.flatMap fun a=>aU a.at'.toNat++bn (strOfNums (et a.e))
def iF (xs:List Sh):List Int:=xs.flatMap fun c=>aU c.id.toNat++aU c.aq.toNat
def rX (q:List Ac)(xs:List Sh):List Int:=aU q.length++nt q++(aU xs.length++iF xs)
theorem z2v (q:List Ac)(k:Nat)(h:k<q.length):nt (q.take (k+1))=nt (q.take k)++aU q[k].at'.toNat++bn (strOfNums (et q[k].e)):=by
 unfold nt;rw[zX1 h,zK3];simp
theorem y9r (xs:List Sh)(k:Nat)(h:k<xs.length):iF (xs.take (k+1))=iF (xs.take k)++aU xs[k].id.toNat++aU xs[k].aq.toNat:=by
 unfold iF;rw[zX1 h,zK3];simp
theorem z5f:∀{q:List Ac},(∀a∈q,cK a.e=true/\(a.e.ax=3\/a.e.ax=4)/\0<=a.at'/\a.at'<4096)->(nt q).length<=q.length*115
 | [],_=>by simp[nt]
 | a::q,h=>by
  have ih:=z5f fun b hb=>h b (zJ9 _ hb);obtain⟨h1,h2,h3,h4⟩:=h a (zZ8 ..);have e1:=WI h1 h2;have n1:=ie 1 a.at'.toNat (by omega);have t1:=tH (strOfNums (et a.e)) (by rw[strOfNums_size];omega);rw[strOfNums_size]at t1;rw[show nt (a::q)=(aU a.at'.toNat++bn (strOfNums (et a.e)))++nt q by unfold nt;rw[zK2],zZ4,zZ4,zQ6];omega
theorem z2n:∀{xs:List Sh},(∀c∈xs,0<=c.id/\c.id<128/\0<=c.aq/\c.aq<128)->(iF xs).length<=xs.length*2
 | [],_=>by simp[iF]
 | c::xs,h=>by
  have ih:=z2n fun b hb=>h b (zJ9 _ hb);obtain⟨h1,h2,h3,h4⟩:=h c (zZ8 ..);have n1:=ie 0 c.id.toNat (by omega);have n2:=ie 0 c.aq.toNat (by omega);rw[show iF (c::xs)=(aU c.id.toNat++aU c.aq.toNat)++iF xs by unfold iF;rw[zK2],zZ4,zZ4,zQ6];omega
theorem z2K {q:List Ac}(h:∀a∈q,cK a.e=true/\(a.e.ax=3\/a.e.ax=4)/\0<=a.at'/\a.at'<4096)(k:Nat):(nt (q.take k)).length<=q.length*115:=by
 have h1:=z5f (q:=q.take k) fun a ha=>h a (yZ2 ha);rw[zZ9]at h1;have:=Nat.min_le_right k q.length;omega
theorem y9S {xs:List Sh}(h:∀c∈xs,0<=c.id/\c.id<128/\0<=c.aq/\c.aq<128)(k:Nat):(iF (xs.take k)).length<=xs.length*2:=by
 have h1:=z2n (xs:=xs.take k) fun a ha=>h a (yZ2 ha);rw[zZ9]at h1;have:=Nat.min_le_right k xs.length;omega
end Pl
theorem iE.JR (w:World)(U:TypeId):iE w (w.alloc (.cells #[.slice none 0 0,.nilIface] U)) [] w.heap.size []:=
 ⟨(ae.rf w).alloc _,fun p hp=>(by cases hp),fun p hp=>(by cases hp),_,cY.new w U,fun p hp=>(by cases hp),fun j hj=>by have:j=w.heap.size:=hj;omega⟩
theorem WJ {w:World}{B k n:Nat}{e:TypeId}{v:Value}{xs:List Value}(h:w.ownsRow B e k v n xs):∃a c,v=.slice a n c:=by
 rcases h.2 with⟨rfl,hn⟩ | ⟨b,cap,cur,rfl,_⟩
 . exact⟨none,0,by rw[show n=0 by omega]⟩
 . exact⟨_,_,rfl⟩
theorem WK {w W:World}{k n c:Nat}{e:TypeId}{a:Option Addr}{xs:List Value}(h:w.ownsRow 0 e k (.slice a n c) n xs)(g:ae w W){j:Nat}{u:Value}(hj:xs[j]? =some u):∃b,a=some ⟨b,0,none⟩/\b<w.heap.size/\W.cell? ⟨b,j,none⟩=some u:=by
 have hl:=h.1;rcases h.2 with⟨e1,hn⟩ | ⟨b,cap,cur,e1,hb,hq,hr⟩
 . have:xs.length=0:=(by rw[hl,hn];simp);rw[zX2 this]at hj;cases hj
 . have e2:=e1;cases e2;have az:=(zZ2.1 hq).1;exact⟨b,rfl,az,(g.cells.1 _ j az).trans ((h.cellAt j (hl▸(zQ9.1 hj).1)).trans hj)⟩
theorem z4z {S:Nat->Bool}(hS:jo S)(E:Nat->Addr){w:World}(hE:bz S E w){F:Nat->Prop}{sb:Nat}{s:dR}(hM:gm w F sb s){q:List Ac}(hq:s.evs=q.flatMap (fun a=>ja a.at' a.e))(hn:q.length=s.ne)(ha:∀a∈q,b7 w a.e/\Pl.cK a.e=true/\(a.e.ax=3\/a.e.ax=4)/\0<=a.at'/\a.at'<4096)(qm:q.length<=100)(hx:s.xs.length<=100)(iN:∀c∈s.xs,0<=c.id/\c.id<128/\0<=c.aq/\c.aq<128):
    Calls prog 35 #[.pointer (some ⟨sb,0,none⟩)] w fun r w'=>∃a c,r=.returned (.tuple #[.slice a (Pl.rX q s.xs).length c,.nilIface])/\qi w' a (Pl.rX q s.xs)/\qg a c/\ae w w':=by
 obtain⟨v,ve,h⟩:=hM;obtain⟨ea,ec,rfl⟩:∃ea ec,ve=.slice ea s.ne ec:=WJ h.iL;obtain⟨xa,xc,rfl⟩:∃xa xc,v=.slice xa s.xs.length xc:=WJ h.row;have c0:=h.bZ;have c14:=h.ev;have iA:=bf c0;have HE:=af (fun W (g:ae w W) (j:Nat) u (hj:s.evs[j]? =some u)=>WK h.iL g hj);have HX:=af (fun W (g:ae w W) (j:Nat) u (hj:(dL s.xs)[j]? =some u)=>WK h.row g hj);have HN:=af hn;have HS0:=af (iE.JR w 147);rw[<-hn]at c14;have HA:=af (And.intro hq ha);have HL:=af (And.intro qm (And.intro hx iN));have HEE:=af hE;clear h hq ha qm hx iN hn hE;have Gz:Hid (Pl.rX q s.xs=Pl.aU q.length++Pl.nt q++(Pl.aU s.xs.length++Pl.iF s.xs)):=rfl;generalize Pl.rX q s.xs=bs at *;go_in;go_wp2_with fail;refine(HS0.num q.length (by have:=HL.1;omega) (by simp)).mono ?_;rintro r w1 ⟨rfl,h1⟩;rw[zK8]at h1;have H1:=af h1;have d14:=(h1.ah.cells.1 _ 14 iA).trans c14;clear h1;have JU:=af (fun(wr:World) (g:ae w wr) (j:Nat) (hj:j<q.length)=>show ∃b,ea=some ⟨b,0,none⟩/\b<w.heap.size/\∀i u,i<13->(ja q[j].at' q[j].e)[i]? =some u->wr.cell? ⟨b,j*13+i,none⟩=some u by
  have c0:=(Sp q j hj 0 (by omega)).trans (show _=some (Value.int .i64 q[j].at')from rfl);rw[<-HA.out.1]at c0;obtain⟨b,e1,e2,_⟩:=HE wr g _ _ c0;refine⟨b,e1,e2,fun i u hi hu=>?_⟩;have c1:=(Sp q j hj i hi).trans hu;rw[<-HA.out.1]at c1;obtain⟨b',e3,_,e4⟩:=HE wr g _ _ c1;rw[e1]at e3;cases e3;rwa[Nat.mul_comm]at e4)
 have pj:=af (fun k=>z2K (q:=q) (fun a h=>(HA.2 a h).2) k);have wF:=af (ie 1 q.length (by have:=HL.1;omega));go_wp2_with fail;go_loopw [6,7,8,25] (fun x b e i wr=>∃j:Nat,j<=q.length/\i=.int .i64 j/\Hid (iE w wr [] w.heap.size (Pl.aU q.length++Pl.nt (q.take j)))) (fun _ _ _ i _=>q.length - (intOf i).toNat);exact⟨0,zZ5 _,rfl,by unfold Hid;simpa[Pl.nt]using H1.out⟩;obtain⟨j,hj,rfl,HB⟩:=hrel;by_cases az:j<q.length
 . obtain⟨b,rfl,hb,hcs⟩:=JU wr HB.ah j az;have hbr:=xA9 hb HB.ah.size;obtain⟨Cj,hr,hk,ha0,ha1⟩:=HA.2 _ (zQ4 az);have oY:=af (fun W (g:ae w W)=>z0R hS E (HEE.ah g) q[j].e (Cj.ah g) hr hk);have js:=af (show Pl.aU q.length++Pl.nt (q.take (j+1))=Pl.aU q.length++Pl.nt (q.take j)++Pl.aU q[j].at'.toNat++Pl.bn (strOfNums (Pl.et q[j].e))by rw[z2v q j az];simp only[zQ7]);have bK:=WI hr hk;have tA:=AE q[j].e;have hq9:q.length<=100:=HL.1;have uS:=af (show(Pl.aU q.length++Pl.nt (q.take j)).length<=12000 by
    have h1:=pj j;have h2:=wF.out;rw[zZ4];omega)
   generalize Pl.aU q.length++Pl.nt (q.take j)=cs at *;generalize Pl.et q[j].e=ns at *;generalize q[j]=ac at *;obtain⟨⟨ax,aj,ak,aq,aw,seq,key,aM,aL,aA,ops,aN,aS,aF,aB,aG⟩,at'⟩:=ac;dsimp only at *;obtain⟨n0,rfl⟩:=yQ2 ha0;rw[zQ3]at js;unfold En.agg En.vals at oY;dsimp only at oY;have d0:=hcs 0 _ (by omega) rfl;have d1:=hcs 1 _ (by omega) rfl;have d2:=hcs 2 _ (by omega) rfl;have d3:=hcs 3 _ (by omega) rfl;have d4:=hcs 4 _ (by omega) rfl;have d5:=hcs 5 _ (by omega) rfl;have d6:=hcs 6 _ (by omega) rfl;have d7:=hcs 7 _ (by omega) rfl;have d8:=hcs 8 _ (by omega) rfl;have d9:=hcs 9 _ (by omega) rfl;have d10:=hcs 10 _ (by omega) rfl;have d11:=hcs 11 _ (by omega) rfl;have d12:=hcs 12 _ (by omega) rfl;rw[zX9]at d0;clear hcs Cj hr hk JU;go_upto_region 6 with fail;clear d0 d1 d2 d3 d4 d5 d6 d7 d8 d9 d10 d11 d12 hbr;obtain⟨U,hU⟩:∃U,U=wr.alloc (.cells #[.int .i64 (n0:Nat),.int .i64 ax,.int .i64 aj,.int .i64 ak,.int .i64 aq,.int .i64 aw,.int .i64 seq,.slice aN ops.length aS,.string key,.int .i64 aM,.int .i64 aL,.int .i64 aA,.slice aF aB aG] 124):=⟨_,rfl⟩
   have gU:ae wr U:=(by rw[hU];exact(ae.rf wr).alloc _);obtain⟨ub,qC⟩:∃ub,ub=wr.heap.size:=⟨_,rfl⟩
   have jX:=af (HB.add gU ub [.int .i64 (n0:Nat),.int .i64 ax,.int .i64 aj,.int .i64 ak,.int .i64 aq,.int .i64 aw,.int .i64 seq,.slice aN ops.length aS,.string key,.int .i64 aM,.int .i64 aL,.int .i64 aA,.slice aF aB aG] (by omega) (by rw[hU,qC];simp) (by
    intro i v hv;rw[hU,qC,gw (wZ0 wr _)];exact hv))
   rw[<-hU,<-qC];clear hU gU qC HB;have u0:=jX.c _ (zZ8 ..) 0 _ rfl;have u1:=jX.c _ (zZ8 ..) 1 _ rfl;have u2:=jX.c _ (zZ8 ..) 2 _ rfl;have u3:=jX.c _ (zZ8 ..) 3 _ rfl;have u4:=jX.c _ (zZ8 ..) 4 _ rfl;have u5:=jX.c _ (zZ8 ..) 5 _ rfl;have u6:=jX.c _ (zZ8 ..) 6 _ rfl;have u7:=jX.c _ (zZ8 ..) 7 _ rfl;have u8:=jX.c _ (zZ8 ..) 8 _ rfl;have u9:=jX.c _ (zZ8 ..) 9 _ rfl;have OM:=jX.c _ (zZ8 ..) 10 _ rfl;have OO:=jX.c _ (zZ8 ..) 11 _ rfl;have OP:=jX.c _ (zZ8 ..) 12 _ rfl;have kF:=jX.lt _ (zZ8 ..);dsimp only at u0 u1 u2 u3 u4 u5 u6 u7 u8 u9 OM OO OP kF;go_wp2_with fail;refine(oY U jX.ah).mono ?_;rintro r w5 ⟨ba,bc,rfl,_,hF5,qM,jq⟩;obtain⟨g,cp,e5,hgb,sS⟩:=qM.form tA;cases e5;have Ep:=af (jX.add jq g (dX ns) hgb sS (fun i v hv=>(qM.cellAt i (by have:=(zQ9.1 hv).1;rw[qM.1]at this;exact this)).trans hv));clear u0 u1 u2 u3 u4 u5 u6 u7 u8 u9 OM OO OP kF oY jX qM jq hF5 hgb sS;have u0:=Ep.c _ (zJ9 _ (zZ8 ..)) 0 _ rfl;have kF:=Ep.lt _ (zJ9 _ (zZ8 ..));dsimp only at u0 kF;have fP:=uS.out;generalize Jj:ns.length=nl at *;have sK:=af Jj;clear Jj;go_wp2_with fail;refine(Ep.num n0 (by omega) (by omega)).mono ?_;rintro r w6 ⟨rfl,h6⟩;have lM:=af h6;have hA6:qi w6 (some ⟨g,0,none⟩) ns:=.inr ⟨g,0,rfl,h6.lt _ (zZ8 ..),fun i n hn=>by
    rw[zQ2];exact h6.c _ (zZ8 ..) i (.int .u8 n) (by dsimp only;unfold dX;rw[yZ3,hn];rfl)⟩
   have hcv:=B9 (w:=w6) (n:=nl) (cap:=bc) sK.symm hA6 (.inr ⟨_,_,rfl⟩);have jz:=ie 1 n0 (by omega);have WL:=af (show(cs++Pl.aU n0).length<=13000 by rw[zZ4];omega);have iI:=af (show(strOfNums ns).size<=1000 by rw[strOfNums_size];have:=sK.out;omega);clear h6 hA6 u0 kF Ep jz;go_wp2_with fail;refine(lM.text (strOfNums ns) (by have:=iI.out;omega) (by have:=WL.out;omega)).mono ?_;rintro r w7 ⟨rfl,h7⟩;have sU:=af h7.tail.tail;clear h7 hcv lM;go_wp2_with fail;go_roundw;case rel=>exact⟨j+1,by omega,by go_num,by unfold Hid;rw[js.out];exact sU⟩
   case measure=>simp[intOf];omega
 . obtain rfl:j=q.length:=(by omega);rw[zQ1]at HB;have Dn:=(HB.ah.cells.1 _ 0 iA).trans c0;have hs2:=xA9 iA HB.ah.size;have uS:=af (show(Pl.aU q.length++Pl.nt q).length<=12000 by
    have h1:=pj q.length;rw[zQ1]at h1;have h2:=wF.out;have h3:=HL.1;rw[zZ4];omega)
   have WM:=af (fun(wr:World) (g:ae w wr) (j:Nat) (hj:j<s.xs.length)=>show ∃b,xa=some ⟨b,0,none⟩/\b<w.heap.size/\∀i u,i<5->(ai s.xs j).vals[i]? =some u->wr.cell? ⟨b,j*5+i,none⟩=some u by
    have c0:=(mF 0 (by omega) s.xs j hj).trans (show _=some (Value.int .i64 (ai s.xs j).id)from rfl);obtain⟨b,e1,e2,_⟩:=HX wr g _ _ c0;refine⟨b,e1,e2,fun i u hi hu=>?_⟩;have c1:=(mF i hi s.xs j hj).trans hu;obtain⟨b',e3,_,e4⟩:=HX wr g _ _ c1;rw[e1]at e3;cases e3;exact e4)
   have xu:=af (fun k=>y9S (xs:=s.xs) HL.2.2 k);have FL:=af (fun k (hk:k<s.xs.length)=>HL.2.2 _ (k7 s.xs k hk));have js:=af (fun k (hk:k<s.xs.length)=>by have h:=y9r s.xs k hk;rw[<-j3 s.xs k hk]at h;exact h);have hx9:s.xs.length<=100:=HL.2.1;generalize Pl.aU q.length++Pl.nt q=cs at *;generalize s.xs=xs at *;have OQ:=af (ie 1 xs.length (by omega));clear HL HA HX HN pj wF JU HE HEE HS0 H1;go_wp2_with fail;refine(HB.num xs.length (by omega) (by have:=uS.out;omega)).mono ?_;rintro r w3 ⟨rfl,h3⟩;have oQ:=af h3;have c0:=(h3.ah.cells.1 _ 0 iA).trans c0;have hs3:=xA9 iA h3.ah.size;clear h3 HB Dn hs2;go_wp2_with fail;clear c0 hs3;go_loopw [59] (fun i wr=>∃k:Nat,k<=xs.length/\i=.int .i64 k/\Hid (iE w wr [] w.heap.size (cs++Pl.aU xs.length++Pl.iF (xs.take k)))) (fun i _=>xs.length - (intOf i).toNat);exact⟨0,zZ5 _,rfl,by unfold Hid;simpa[Pl.iF]using oQ.out⟩;obtain⟨k,hk,rfl,HB⟩:=hrel;by_cases az:k<xs.length
   . obtain⟨b,rfl,hb,hcs⟩:=WM wr HB.ah k az;have hbr:=xA9 hb HB.ah.size;obtain⟨i0,i1,i2,i3⟩:=FL k az;have OS:=af (show cs++Pl.aU xs.length++Pl.iF (xs.take (k+1))=cs++Pl.aU xs.length++Pl.iF (xs.take k)++Pl.aU (ai xs k).id.toNat++Pl.aU (ai xs k).aq.toNat by rw[js.out k az];simp only[zQ7]);have Ja:=af (show(cs++Pl.aU xs.length++Pl.iF (xs.take k)).length<=13000 by
      have h1:=xu k;have h2:=uS.out;have h3:=OQ.out;rw[zZ4,zZ4];omega)
     generalize cs++Pl.aU xs.length++Pl.iF (xs.take k)=ds at *;generalize ai xs k=c at *;obtain⟨id,aq,cJ,lo,hi⟩:=c;dsimp only at *;obtain⟨n0,rfl⟩:=yQ2 i0;obtain⟨n1,rfl⟩:=yQ2 i2;rw[zQ3,zQ3]at OS;have d0:=hcs 0 _ (by omega) rfl;have d1:=hcs 1 _ (by omega) rfl;have d2:=hcs 2 _ (by omega) rfl;have d3:=hcs 3 _ (by omega) rfl;have d4:=hcs 4 _ (by omega) rfl;rw[zX9]at d0;have Il:=Ja.out;clear hcs WM;go_upto_region 16 with fail;clear d0 d1 d2 d3 d4 hbr;obtain⟨U,hU⟩:∃U,U=wr.alloc (.cells #[.int .i64 (n0:Nat),.int .i64 (n1:Nat),.int .i64 cJ,.string lo,.string hi] 100):=⟨_,rfl⟩
     have gU:ae wr U:=(by rw[hU];exact(ae.rf wr).alloc _);obtain⟨ub,qC⟩:∃ub,ub=wr.heap.size:=⟨_,rfl⟩
     have jX:=af (HB.add gU ub [.int .i64 (n0:Nat),.int .i64 (n1:Nat),.int .i64 cJ,.string lo,.string hi] (by omega) (by rw[hU,qC];simp) (by
      intro i v hv;rw[hU,qC,gw (wZ0 wr _)];exact hv))
     rw[<-hU,<-qC];clear hU gU qC HB;have u0:=jX.c _ (zZ8 ..) 0 _ rfl;have u1:=jX.c _ (zZ8 ..) 1 _ rfl;have kF:=jX.lt _ (zZ8 ..);dsimp only at u0 u1 kF;go_wp2_with fail;refine(jX.num n0 (by omega) (by omega)).mono ?_;rintro r w6 ⟨rfl,h6⟩;have lM:=af h6;clear u0 u1 kF jX h6;have u1:=lM.c _ (zZ8 ..) 1 _ rfl;have kF:=lM.lt _ (zZ8 ..);dsimp only at u1 kF;have jz:=ie 0 n0 (by omega);go_wp2_with fail;refine(lM.num n1 (by omega) (by rw[zZ4];omega)).mono ?_;rintro r w7 ⟨rfl,h7⟩;have sU:=af h7.tail;clear h7 lM u1 kF;go_wp2_with fail;go_roundw;case rel=>exact⟨k+1,by omega,by go_num,by unfold Hid;rw[OS.out];exact sU⟩
     case measure=>simp[intOf];omega
   . obtain rfl:k=xs.length:=(by omega);rw[zQ1]at HB;have HD:=af (show bs.length<=65536 by
      have h1:=xu xs.length;rw[zQ1]at h1;have h2:=uS.out;have h3:=OQ.out;rw[Gz.out,zZ4,zZ4];omega)
     have HE5:=af (show iE w wr [] w.heap.size bs by rw[Gz.out,<-zQ7];exact HB);have wQ:=af (HE5.done HD);clear HB HD Gz uS OQ xu js FL WM HE5 oQ;go_wp2_with fail;refine wQ.mono ?_;rintro r w4 ⟨a,c,rfl,hA,hf,_,hg4⟩;have HF:=af (And.intro hA (And.intro hf hg4));generalize tI:bs.length=n at *;clear hA hf hg4 wQ;go_wp2_with fail;exact wZ1 (v:=.tuple #[.slice a n c,.nilIface]) (by simp[results,results35,go_sem]) rfl ⟨a,c,by rw[tI],HF⟩
end
theorem WZ (w:World)(n:Nat)(hn:n<128):Calls prog 78 #[.int .i64 n] w fun e w'=>∃g,e=.returned (.slice (some ⟨g,0,none⟩) 1 1)/\w'.ownsRow w.heap.size 5 1 (.slice (some ⟨g,0,none⟩) 1 1) 1 (dX [(n:Int)])/\ae w w':=by
 have h1:(n:Int)<128:=by omega
 have hw:IntKind.u8.wrap (n:Int)=(n:Int):=by unfold IntKind.wrap;simp[IntKind.bits,IntKind.signed];omega
 go_in;go_wp2_with fail;go_ret;refine⟨_,rfl,?_,(ae.rf w).alloc _⟩;exact World.ownsRow_lit (base:=w.heap.size) (size:=1) w #[.int .u8 n] 1 (zZ3 _) (by decide) rfl
theorem z4d (w:World)(s:ByteArray)(hs:s.size<128):Calls prog 79 #[.string s] w fun e w'=>∃g cap,e=.returned (.slice (some ⟨g,0,none⟩) (1+s.size) cap)/\w'.ownsRow w.heap.size 5 1 (.slice (some ⟨g,0,none⟩) (1+s.size) cap) (1+s.size) (dX ((s.size:Int)::qL s))/\ae w w':=by
 obtain⟨i0,dA,hz0,hz1,hz3⟩:=wZ8 MA;have HN:=af (fun W=>WZ W s.size hs);have HF:Hid (∀(v':Value) (w':World),w'.ownsRow w.heap.size 5 1 v' (1+s.size) (dX [(s.size:Int)]++Lib.strCells s)->∃g cap,v'=.slice (some ⟨g,0,none⟩) (1+s.size) cap/\w'.ownsRow w.heap.size 5 1 (.slice (some ⟨g,0,none⟩) (1+s.size) cap) (1+s.size) (dX ((s.size:Int)::qL s))):=by
  intro v' w' h;obtain⟨g,cap,rfl,_,_⟩:=h.form (by omega);refine⟨g,cap,rfl,?_⟩;rw[show((s.size:Int)::qL s)=[(s.size:Int)]++qL s from rfl,Mz,Zr];exact h
 go_in;go_wp2_with fail;refine(HN _).mono ?_;rintro e w1 ⟨g,rfl,hr,hg⟩;have HR:=af hr;have HG:=af hg;clear hr hg;go_wp2_with (at_builtin;refine Lib.wpList_append_own_string _ rfl _ _ _ _ rfl w.heap.size 5 i0 underlying34 underlying9 dA hz0 hz1 hz3 (.slice (some ⟨g,0,none⟩) 1 1) 1 (dX [(s.size:Int)]) rfl HR.out s rfl (by unfold maxLen;omega) (by omega) HG.out.size ?_);intro v' w2 hr2 hgr _;obtain⟨g2,c2,rfl,hr3⟩:=HF v' w2 hr2;have yR:=af hr3;have cA:=af (((HG.only (fun j=>some j=Value.ownBlock (.slice (some ⟨g,0,none⟩) 1 1))).then (ar.ay hgr)).ah (fun j hj=>by
  have:j=g:=Option.some.inj hj;subst this;obtain⟨g',c',e',hb,_⟩:=HR.form (by decide);cases e';exact hb))
 clear hr2 hgr hr3;go_wp2_with fail;go_ret;exact⟨g2,c2,rfl,yR,cA⟩
theorem W4:(Value.cells (.int .u8 0)).size=1:=by kernel_rfl
theorem GF {ns:List Int}(h:∀n∈ns,0<=n/\n<128)(k:Nat)(hk:k<ns.length):∃q:Nat,q<128/\(ui ns)[k]? =some (.int .i64 q)/\dX (ns.take (k+1))=dX (ns.take k)++[.int .u8 q]:=by
 have h1:=h _ (zQ4 hk);have h2:((ns[k].toNat:Nat):Int)=ns[k]:=by omega
 refine⟨ns[k].toNat,by omega,?_,?_⟩
 . unfold ui;rw[yZ3,zQ5 hk,h2];rfl
 . rw[zX1 hk,Mz,h2];rfl
namespace Pl
def O3 (aj ak:Int):List Int:=[4,aj,ak]
def O4 (aj ak aq:Int)(key:ByteArray):List Int:=[3,aj,ak,aq]++((key.size:Int)::qL key)
end Pl
theorem z0G (e:En)(hk:e.ax=4)(h1:0<=e.aj/\e.aj<128)(h2:0<=e.ak/\e.ak<128)(w:World):
    Calls prog 80 #[e.agg] w fun r w'=>∃g n c,r=.returned (.slice (some ⟨g,0,none⟩) n c)/\w'.ownsRow w.heap.size 5 1 (.slice (some ⟨g,0,none⟩) n c) n (dX (O3 e.aj e.ak))/\ae w w':=by
 obtain⟨ax,aj,ak,aq,aw,seq,key,aM,aL,aA,ops,aN,aS,aF,aB,aG⟩:=e;dsimp only at *;subst hk;obtain⟨i0,dA,hz0,hz1,hz3⟩:=wZ8 MA;obtain⟨i1,Gu,o6,mE,OZ⟩:=wZ8 WU;obtain⟨ns,iV⟩:∃ns,ns=O3 aj ak:=⟨_,rfl⟩
 have AR:Hid (∀k,k<3->∃q:Nat,q<128/\(ui ns)[k]? =some (.int .i64 q)/\dX (ns.take (k+1))=dX (ns.take k)++[.int .u8 q]):=fun k hk=>by
  rw[iV];refine GF (fun n hn=>?_) k hk;simp only[O3,zX0,yX6,or_false]at hn;rcases hn with rfl | rfl | rfl<;> omega
 have pq:=af iV;have Cl:Hid (ui ns=[.int .i64 4,.int .i64 aj,.int .i64 ak]):=by rw[iV];rfl
 have AU:Hid (ns.length=3):=by rw[iV];rfl
 rw[<-iV];clear iV;unfold En.agg En.vals;go_in;go_wp2_with (at_builtin;refine wQ2 _ rfl _ _ 153 rfl w.heap.size 3 i1 _ 1 8 underlying153 Gu o6 mE OZ WV (by omega) (.slice (some ⟨w.heap.size+1,0,none⟩) 2 2) 2 [.int .i64 4,.int .i64 aj] rfl (gP ((ae.rf _).alloc _) (oI (cur:=[.int .i64 4,.int .i64 aj]) (yK9 _) (by simpa using wZ0 (w.alloc _) _) (zZ3 _) (by decide) rfl rfl)) ⟨w.heap.size+2,0,none⟩ 1 1 [.int .i64 ak] rfl rfl (World.news_of_block (cs:=#[.int .i64 ak]) (by simpa using wZ0 ((w.alloc _).alloc _) _)) (by intro u hu;rw[zQ0.1 hu];rfl) (by omega) (by unfold maxLen;omega) (by omega) (by simp;omega) _ rfl ?_);intro gl cl w1 aH bw hat J5;have ct:Hid (ae w w1):=(((((ae.rf w).alloc _).alloc _).alloc _ |>.only (fun j=>some j=Value.ownBlock (.slice (some ⟨w.heap.size+1,0,none⟩) 2 2))).then (ar.ay bw)).ah (fun j hj=>by have h1:j=w.heap.size+1:=Option.some.inj hj;omega);have j5:Hid (eW w1 w.heap.size (⟨4,aj,ak,aq,aw,seq,key,aM,aL,aA,ops,aN,aS,aF,aB,aG⟩:En)):=af ((eW.eC w (⟨4,aj,ak,aq,aw,seq,key,aM,aL,aA,ops,aN,aS,aF,aB,aG⟩:En) 36).only (((((ae.rf _).alloc _).alloc _).only (fun j=>some j=Value.ownBlock (.slice (some ⟨w.heap.size+1,0,none⟩) 2 2))).then (ar.ay bw)) (by simp) (fun h=>by have h1:w.heap.size=w.heap.size+1:=Option.some.inj h;omega));rw[<-Cl.out]at aH;have sK:=AR;have wF:=AU;have O5:=af aH;have wG:w.heap.size<w1.heap.size:=by have:=(ar.ay bw).size;simp at this;omega
 obtain⟨d0,d1,d2,d3,d4,d5,d6,d7,d8,d9,d10,d11⟩:=j5.out.cells;clear aH bw hat J5 AR AU d1 d2 d3 d4 d5 d6 d8 d9 d10 d11;dsimp only at d0 d7;have J6:gl<w1.heap.size:=by
  rcases O5.out.2 with⟨h,_⟩ | ⟨g,c,cur,h,_,hq,_⟩
  . cases h
  . cases h;exact(zZ2.1 hq).1
 have W6:Hid ((w1.alloc (.cells #[] 5)).ownsRow w1.heap.size 5 1 (.slice (some ⟨w1.heap.size,0,none⟩) 0 0) 0 (dX (ns.take 0))):=
  oI (cur:=[]) (zZ3 _) (wZ0 w1 _) (zZ3 _) (by decide) rfl rfl
 go_wp2_with fail;go_loopw [4,65] (fun out i wr=>∃(k g c:Nat),k<=3/\i=.int .i64 k/\out=.slice (some ⟨g,0,none⟩) k c/\Hid (wr.ownsRow w1.heap.size 5 1 (.slice (some ⟨g,0,none⟩) k c) k (dX (ns.take k)))/\Hid (ae w1 wr)) (fun _ i _=>3 - (intOf i).toNat);exact⟨0,_,_,zZ5 _,rfl,rfl,W6,af ((ae.rf w1).alloc _)⟩;obtain⟨k,g,c,fV,rfl,rfl,HO,cA⟩:=hrel;obtain⟨w2,rfl⟩:∃w2:World,w2=wr:=⟨_,rfl⟩
 by_cases az:k<3
 . obtain⟨q,W7,O6,O7⟩:=sK k az;have fP:w2.cell? ⟨gl,k,none⟩=some (.int .i64 q):=(cA.cells.1 _ _ J6).trans ((O5.cellAt k (by omega)).trans O6);have W8:=af O7;have AV:=af (fun W=>WZ W q W7);clear O6 O7;go_wp2_with fail;refine(AV.out _).mono ?_;rintro r w3 ⟨g',rfl,hr3,hg3⟩;have jm:Hid (∀j u,[Value.int .u8 q][j]? =some u->w3.cell? ⟨g',0+j,none⟩=some u):=fun j u hj=>by
    have jH:=(zQ9.1 hj).1;rw[zQ2];exact(hr3.cellAt j (by simpa using jH)).trans hj
   have qG:=af (gP hg3 HO);have fI:=af (cA.trans hg3);have J7:w1.heap.size<=g:=(HO.lt g rfl).1;clear hr3 hg3 fP AV HO;go_wp2_with (at_builtin;refine wQ2 _ rfl _ _ 34 rfl w1.heap.size 5 i0 _ 1 1 underlying34 dA hz0 hz1 hz3 W4 (by omega) (.slice (some ⟨g,0,none⟩) k c) k (dX (ns.take k)) rfl qG.out ⟨g',0,none⟩ 1 1 [.int .u8 q] rfl rfl (fun j u hj=>by rw[Addr.add_lit];exact jm.out j u hj) (by intro u hu;rw[zQ0.1 hu];rfl) (by omega) (by unfold maxLen;omega) (by omega) fI.out.size _ rfl ?_);intro g9 c9 w9 aH bw uq ur;rw[<-W8.out]at aH;have zS:=af aH;have GG:Hid (ae w1 w9):=((fI.only (fun j=>some j=Value.ownBlock (.slice (some ⟨g,0,none⟩) k c))).then (ar.ay bw)).ah (fun j hj=>by have h1:j=g:=Option.some.inj hj;omega);clear aH bw uq ur jm qG;go_wp2_with fail;go_roundw;case rel=>exact⟨k+1,g9,c9,by omega,by go_num,rfl,zS,GG⟩
   case measure=>simp[intOf];omega
 . obtain rfl:k=3:=(by omega);have d0':=(cA.cells.1 _ _ wG).trans d0;have d7':=(cA.cells.1 _ _ wG).trans d7;have O8:Hid (w2.ownsRow w1.heap.size 5 1 (.slice (some ⟨g,0,none⟩) 3 c) 3 (dX ns)):=by
    have h1:=HO.out;rw[<-wF.out,zQ1]at h1;rw[<-wF.out];exact h1
   clear HO;go_wp2_with fail;go_ret;exact⟨g,3,c,rfl,mg ct.size O8,ct.trans cA⟩
theorem y9z (e:En)(hk:e.ax=3)(h1:0<=e.aj/\e.aj<128)(h2:0<=e.ak/\e.ak<128)(h3:0<=e.aq/\e.aq<128)(bX:e.key.size<128)(w:World):
    Calls prog 80 #[e.agg] w fun r w'=>∃g n c,r=.returned (.slice (some ⟨g,0,none⟩) n c)/\w'.ownsRow w.heap.size 5 1 (.slice (some ⟨g,0,none⟩) n c) n (dX (Pl.O4 e.aj e.ak e.aq e.key))/\ae w w':=by
 obtain⟨ax,aj,ak,aq,aw,seq,key,aM,aL,aA,ops,aN,aS,aF,aB,aG⟩:=e;dsimp only at *;subst hk;obtain⟨i0,dA,hz0,hz1,hz3⟩:=wZ8 MA;obtain⟨i1,Gu,o6,mE,OZ⟩:=wZ8 WU;obtain⟨ns,iV⟩:∃ns:List Int,ns=[3,aj,ak,aq]:=⟨_,rfl⟩
 have AR:Hid (∀k,k<4->∃q:Nat,q<128/\(ui ns)[k]? =some (.int .i64 q)/\dX (ns.take (k+1))=dX (ns.take k)++[.int .u8 q]):=fun k hk=>by
  rw[iV];refine GF (fun n hn=>?_) k hk;simp only[zX0,yX6,or_false]at hn;rcases hn with rfl | rfl | rfl | rfl<;> omega
 have Cl:Hid (ui ns=[.int .i64 3,.int .i64 aj,.int .i64 ak,.int .i64 aq]):=by rw[iV];rfl
 have AU:Hid (ns.length=4):=by rw[iV];rfl
 have HBY:Hid (dX (Pl.O4 aj ak aq key)=dX ns++dX ((key.size:Int)::qL key)):=by rw[iV,<-Mz];rfl
 have HTX:=af (fun W=>z4d W key bX);generalize Pl.O4 aj ak aq key=BS at *;clear iV;unfold En.agg En.vals;go_in;go_wp2_with (at_builtin;refine wQ2 _ rfl _ _ 153 rfl w.heap.size 3 i1 _ 1 8 underlying153 Gu o6 mE OZ WV (by omega) (.slice (some ⟨w.heap.size+1,0,none⟩) 2 2) 2 [.int .i64 3,.int .i64 aj] rfl (gP ((ae.rf _).alloc _) (oI (cur:=[.int .i64 3,.int .i64 aj]) (yK9 _) (by simpa using wZ0 (w.alloc _) _) (zZ3 _) (by decide) rfl rfl)) ⟨w.heap.size+2,0,none⟩ 2 2 [.int .i64 ak,.int .i64 aq] rfl rfl (World.news_of_block (cs:=#[.int .i64 ak,.int .i64 aq]) (by simpa using wZ0 ((w.alloc _).alloc _) _)) (by intro u hu;simp at hu;rcases hu with rfl | rfl<;> rfl) (by omega) (by unfold maxLen;omega) (by omega) (by simp;omega) _ rfl ?_);intro gl cl w1 aH bw hat J5;have ct:Hid (ae w w1):=(((((ae.rf w).alloc _).alloc _).alloc _ |>.only (fun j=>some j=Value.ownBlock (.slice (some ⟨w.heap.size+1,0,none⟩) 2 2))).then (ar.ay bw)).ah (fun j hj=>by have h1:j=w.heap.size+1:=Option.some.inj hj;omega);have j5:Hid (eW w1 w.heap.size (⟨3,aj,ak,aq,aw,seq,key,aM,aL,aA,ops,aN,aS,aF,aB,aG⟩:En)):=af ((eW.eC w (⟨3,aj,ak,aq,aw,seq,key,aM,aL,aA,ops,aN,aS,aF,aB,aG⟩:En) 36).only (((((ae.rf _).alloc _).alloc _).only (fun j=>some j=Value.ownBlock (.slice (some ⟨w.heap.size+1,0,none⟩) 2 2))).then (ar.ay bw)) (by simp) (fun h=>by have h1:w.heap.size=w.heap.size+1:=Option.some.inj h;omega));rw[<-Cl.out]at aH;have sK:=AR;have wF:=AU;have O5:=af aH;have wG:w.heap.size<w1.heap.size:=by have:=(ar.ay bw).size;simp at this;omega
 obtain⟨d0,d1,d2,d3,d4,d5,d6,d7,d8,d9,d10,d11⟩:=j5.out.cells;clear aH bw hat J5 AR AU d1 d2 d3 d4 d5 d6 d8 d9 d10 d11;dsimp only at d0 d7;have J6:gl<w1.heap.size:=by
  rcases O5.out.2 with⟨h,_⟩ | ⟨g,c,cur,h,_,hq,_⟩
  . cases h
  . cases h;exact(zZ2.1 hq).1
 have W6:Hid ((w1.alloc (.cells #[] 5)).ownsRow w1.heap.size 5 1 (.slice (some ⟨w1.heap.size,0,none⟩) 0 0) 0 (dX (ns.take 0))):=
  oI (cur:=[]) (zZ3 _) (wZ0 w1 _) (zZ3 _) (by decide) rfl rfl
 go_wp2_with fail;go_loopw [4,65] (fun out i wr=>∃(k g c:Nat),k<=4/\i=.int .i64 k/\out=.slice (some ⟨g,0,none⟩) k c/\Hid (wr.ownsRow w1.heap.size 5 1 (.slice (some ⟨g,0,none⟩) k c) k (dX (ns.take k)))/\Hid (ae w1 wr)) (fun _ i _=>4 - (intOf i).toNat);exact⟨0,_,_,zZ5 _,rfl,rfl,W6,af ((ae.rf w1).alloc _)⟩;obtain⟨k,g,c,fV,rfl,rfl,HO,cA⟩:=hrel;obtain⟨w2,rfl⟩:∃w2:World,w2=wr:=⟨_,rfl⟩
 by_cases az:k<4
 . obtain⟨q,W7,O6,O7⟩:=sK k az;have fP:w2.cell? ⟨gl,k,none⟩=some (.int .i64 q):=(cA.cells.1 _ _ J6).trans ((O5.cellAt k (by omega)).trans O6);have W8:=af O7;have AV:=af (fun W=>WZ W q W7);clear O6 O7;go_wp2_with fail;refine(AV.out _).mono ?_;rintro r w3 ⟨g',rfl,hr3,hg3⟩;have jm:Hid (∀j u,[Value.int .u8 q][j]? =some u->w3.cell? ⟨g',0+j,none⟩=some u):=fun j u hj=>by
    have jH:=(zQ9.1 hj).1;rw[zQ2];exact(hr3.cellAt j (by simpa using jH)).trans hj
   have qG:=af (gP hg3 HO);have fI:=af (cA.trans hg3);have J7:w1.heap.size<=g:=(HO.lt g rfl).1;clear hr3 hg3 fP AV HO;go_wp2_with (at_builtin;refine wQ2 _ rfl _ _ 34 rfl w1.heap.size 5 i0 _ 1 1 underlying34 dA hz0 hz1 hz3 W4 (by omega) (.slice (some ⟨g,0,none⟩) k c) k (dX (ns.take k)) rfl qG.out ⟨g',0,none⟩ 1 1 [.int .u8 q] rfl rfl (fun j u hj=>by rw[Addr.add_lit];exact jm.out j u hj) (by intro u hu;rw[zQ0.1 hu];rfl) (by omega) (by unfold maxLen;omega) (by omega) fI.out.size _ rfl ?_);intro g9 c9 w9 aH bw uq ur;rw[<-W8.out]at aH;have zS:=af aH;have GG:Hid (ae w1 w9):=((fI.only (fun j=>some j=Value.ownBlock (.slice (some ⟨g,0,none⟩) k c))).then (ar.ay bw)).ah (fun j hj=>by have h1:j=g:=Option.some.inj hj;omega);clear aH bw uq ur jm qG;go_wp2_with fail;go_roundw;case rel=>exact⟨k+1,g9,c9,by omega,by go_num,rfl,zS,GG⟩
   case measure=>simp[intOf];omega
 . obtain rfl:k=4:=(by omega);have d0':=(cA.cells.1 _ _ wG).trans d0;have d7':=(cA.cells.1 _ _ wG).trans d7;have O8:Hid (w2.ownsRow w1.heap.size 5 1 (.slice (some ⟨g,0,none⟩) 4 c) 4 (dX ns)):=by
    have h1:=HO.out;rw[<-wF.out,zQ1]at h1;rw[<-wF.out];exact h1
   clear HO;have J7:w1.heap.size<=g:=(O8.lt g rfl).1;go_wp2_with fail;refine(HTX _).mono ?_;rintro r w3 ⟨g',c',rfl,hr3,hg3⟩;have jm:Hid (∀j u,(dX ((key.size:Int)::qL key))[j]? =some u->w3.cell? ⟨g',0+j,none⟩=some u):=fun j u hj=>by
    have jH:=(zQ9.1 hj).1;rw[zQ2];rw[hr3.1]at jH;exact(hr3.cellAt j jH).trans hj
   have qG:=af (gP hg3 O8);have fI:=af (cA.trans hg3);have HL3:=af hr3.1;clear hr3 hg3 HTX O8;go_wp2_with (at_builtin;refine wQ2 _ rfl _ _ 34 rfl w1.heap.size 5 i0 _ 1 1 underlying34 dA hz0 hz1 hz3 W4 (by omega) (.slice (some ⟨g,0,none⟩) 4 c) 4 (dX ns) rfl qG.out ⟨g',0,none⟩ (1+key.size) c' (dX ((key.size:Int)::qL key)) rfl HL3.out (fun j u hj=>by rw[Addr.add_lit];exact jm.out j u hj) (Uh _) (by omega) (by unfold maxLen;omega) (by omega) fI.out.size _ rfl ?_);intro g9 c9 w9 aH bw uq ur;rw[<-HBY.out]at aH;have zS:=af aH;have GG:Hid (ae w1 w9):=((fI.only (fun j=>some j=Value.ownBlock (.slice (some ⟨g,0,none⟩) 4 c))).then (ar.ay bw)).ah (fun j hj=>by have h1:j=g:=Option.some.inj hj;omega);clear aH bw uq ur jm qG;have j0D:=(GG.cells.1 _ _ wG).trans d0;go_wp2_with fail;go_ret;exact⟨g9,4+(1+key.size),c9,rfl,mg ct.size zS,ct.trans GG⟩
namespace Pl
def SA (e:En):List Int:=if e.ax=3 then O4 e.aj e.ak e.aq e.key else O3 e.aj e.ak
end Pl
theorem z3y (e:En)(hr:Pl.cK e=true)(hk:e.ax=3\/e.ax=4)(w:World):
    Calls prog 80 #[e.agg] w fun r w'=>∃g n c,r=.returned (.slice (some ⟨g,0,none⟩) n c)/\w'.ownsRow w.heap.size 5 1 (.slice (some ⟨g,0,none⟩) n c) n (dX (SA e))/\ae w w':=by
 unfold SA;rcases hk with hk | hk
 . obtain⟨a1,a2,a3,a4,_,a5,a6,a7⟩:=NL hr hk;have:=F5 a7;rw[zZ1 hk];exact y9z e hk ⟨by omega,by omega⟩ ⟨by omega,by omega⟩ ⟨by omega,by omega⟩ (by omega) w
 . obtain⟨a1,a2,a3,a4,_⟩:=zY hr hk;rw[zZ0 (by omega)];exact z0G e hk ⟨by omega,by omega⟩ ⟨by omega,by omega⟩ w
theorem Pl.AW {e:En}(hr:Pl.cK e=true)(hk:e.ax=3\/e.ax=4):SA e=Pl.et e:=by
 unfold SA Pl.et;rcases hk with hk | hk
 . obtain⟨a1,a2,a3,a4,_,a5,a6,a7⟩:=NL hr hk;have hs:=F5 a7;rw[zZ1 hk,zZ1 hk];unfold Pl.O4 Pl.bn;simp only[zK2,xQ8,Pl.tG (show 3<128 by omega),Pl.tG (show e.aj.toNat<128 by omega),Pl.tG (show e.ak.toNat<128 by omega),Pl.tG (show e.aq.toNat<128 by omega),Pl.tG (show e.key.size<128 by omega)];simp only[yZ8,zK8,yZ1];congr 2<;> first | omega | (congr 1<;> first | omega | (congr 1;omega))
 . obtain⟨a1,a2,a3,a4,_⟩:=zY hr hk;rw[zZ0 (by omega),zZ0 (by omega)];unfold O3;simp only[zK2,xQ8,Pl.tG (show 4<128 by omega),Pl.tG (show e.aj.toNat<128 by omega),Pl.tG (show e.ak.toNat<128 by omega)];simp only[yZ8,zK8,yZ1];congr 2<;> first | omega | (congr 1;omega)
theorem z1P (B:Nat)(e:En)(hr:Pl.cK e=true)(hk:e.ax=3\/e.ax=4)(w:World)(hB:B<=w.heap.size):
    Calls prog 80 #[e.agg] w fun r w'=>∃v,r=.returned v/\pY B (Pl.et e) v w'/\ae w w':=by
 refine(z3y e hr hk w).mono ?_;rintro r w' ⟨g,n,c,rfl,aJ,hg⟩;rw[Pl.AW hr hk]at aJ;have hn:(Pl.et e).length=n:=by have:=aJ.1;rw[Ug]at this;omega
 subst hn;exact⟨_,rfl,⟨_,_,rfl,mg hB aJ⟩,hg⟩
end Go.Proofs.YtgegogoanbamfaaGreatDoor
namespace Go.Proofs.YtgegogoanbamfaaGreatDoor.Pl
theorem y8h {α:Type}{l:List α}{i:Nat}(hi:i<l.length):(l[i]::l.eraseIdx i).Perm l:=by
 have e:l=l.take i++l[i]::l.drop (i+1):=by
  rw[<-yK5 hi,zX7]
 rw[xZ2];refine List.Perm.trans ?_ (List.Perm.of_eq e.symm);exact List.perm_middle.symm
theorem z2s {α:Type}{l:List α}{i:Nat}(hi:i<l.length)(a:α):(l.set i a).Perm (a::l.eraseIdx i):=by
 rw[xJ7,zZ1 hi,xZ2];exact List.perm_middle
theorem y8j {xs ys:List Sh}(hp:ys.Perm xs){i i':Nat}(hi':i'<ys.length)(hi:i<xs.length)(he:ai ys i'=ai xs i):(ys.eraseIdx i').Perm (xs.eraseIdx i):=by
 have h1:=y8h hi';have h2:=y8h hi;rw[j3 ys i' hi',j3 xs i hi]at he;rw[he]at h1;exact((h1.trans hp).trans h2.symm).cons_inv
theorem W9 {xs ys:List Sh}(hp:ys.Perm xs){i i':Nat}(hi':i'<ys.length)(hi:i<xs.length)(he:ai ys i'=ai xs i)(c:Sh):(ys.set i' c).Perm (xs.set i c):=
 (z2s hi' c).trans (((y8j hp hi' hi he).cons c).trans (z2s hi c).symm)
theorem SB {xs ys:List Sh}(hp:ys.Perm xs)(hn:(xs.map Sh.id).Nodup)(id:Int):
    (aK ys id= -1/\aK xs id= -1)\/∃i' i:Nat,i'<ys.length/\i<xs.length/\aK ys id=(i':Nat)/\aK xs id=(i:Nat)/\ai ys i'=ai xs i/\(ai xs i).id=id:=by
 have nk:(ys.map Sh.id).Nodup:=(hp.map Sh.id).nodup_iff.2 hn;rcases Hn ys id with h1 | ⟨i',hi',h1,e1⟩
 . rcases Hn xs id with h2 | ⟨i,hi,h2,e2⟩
   . exact .inl ⟨h1,h2⟩
   . have hm:ai xs i∈ys:=hp.mem_iff.2 (k7 xs i hi);obtain⟨j,hj,ej⟩:=yJ5.1 hm;have:=NN nk j hj;rw[j3 ys j hj,ej,e2,h1]at this;omega
 . have hm:ai ys i'∈xs:=hp.mem_iff.1 (k7 ys i' hi');obtain⟨i,hi,ei⟩:=yJ5.1 hm;have h2:=NN hn i hi;rw[j3 xs i hi,ei,e1]at h2;exact .inr ⟨i',i,hi',hi,h1,h2,by rw[j3 xs i hi,ei],by rw[j3 xs i hi,ei,e1]⟩
structure Twin (s:dR)(t:bG):Prop where
 bZ:t.xs.Perm s.xs
 aD:∀k:Int,1<=k->k<=12->(t.us.any fun u=>u==k)=s.aD k.toNat
 ne:t.ne=s.ne
 evs:t.evs=s.evs
 few:t.us.length<=s.ne+1
theorem z4X:Twin dR.init bG.init:=by
 refine⟨List.Perm.refl _,fun k h1 h2=>?_,rfl,rfl,zZ3 _⟩;show([1].any fun u=>u==k)=qZ k.toNat;unfold qZ;rw[zK4];simp;omega
theorem AX {s:dR}{t:bG}{n:Nat}(h:Twin s t)(hI:Inv s n)(e:En):ji t e=jG s.xs s.aD e:=by
 unfold ji jG;by_cases hr:cK e=false
 . rw[zZ1 hr,zZ1 hr]
 . rw[zZ0 hr,zZ0 hr];rcases SB h.bZ hI.nodup e.aj with⟨a1,a2⟩ | ⟨i',i,hi',hi,a1,a2,a3,a4⟩
   . rw[a1,a2,zZ1 (by decide),zZ1 (by decide)]
   . have n1:¬((i':Nat):Int)<0:=(by omega);have n2:¬((i:Nat):Int)<0:=(by omega);rw[a1,a2,zZ0 n1,zZ0 n2,zQ3,zQ3,a3];by_cases k2:e.ax=2
     . rw[zZ1 k2,zZ1 k2]
     . rw[zZ0 k2,zZ0 k2];by_cases k3:e.ax=3
       . rw[zZ1 k3,zZ1 k3];obtain⟨o1,o2⟩:=Tn (by simpa using hr) k3;rw[h.aD _ o1 o2,Rk];congr 2;rw[zK4];simp
       . rw[zZ0 k3,zZ0 k3];by_cases k4:e.ax=4
         . rw[zZ1 k4,zZ1 k4];rcases SB h.bZ hI.nodup e.ak with⟨b1,b2⟩ | ⟨j',j,hj',hj,b1,b2,b3,b4⟩
           . rw[b1,b2,zZ1 (by decide),zZ1 (by decide)]
           . have m1:¬((j':Nat):Int)<0:=(by omega);have m2:¬((j:Nat):Int)<0:=(by omega);rw[b1,b2,zZ0 m1,zZ0 m2,zQ3,zQ3,b3,B4,B4]
         . rw[zZ0 k4,zZ0 k4]
theorem O9 {s:dR}{t:bG}{n:Nat}(h:Twin s t)(hI:Inv s n)(e:En)(at':Int):ft t e at'=gp s.xs s.aD e at':=by
 unfold ft gp;rw[AX h hI];congr 1;rw[zK4];simp;omega
def J8 (s:bG)(e:En)(at':Int):bG:=
 if e.ax=2 then⟨s.xs.set (j7 s.xs e) ⟨(ai s.xs (j7 s.xs e)).id,e.aq,(ai s.xs (j7 s.xs e)).cJ,(ai s.xs (j7 s.xs e)).lo,(ai s.xs (j7 s.xs e)).hi⟩,s.us,s.ne,s.evs⟩
 else if e.ax=3 then⟨s.xs.set (j7 s.xs e) ⟨(ai s.xs (j7 s.xs e)).id,(ai s.xs (j7 s.xs e)).aq,at'+1,(ai s.xs (j7 s.xs e)).lo,e.key⟩++[⟨e.ak,e.aq,at'+1,e.key,(ai s.xs (j7 s.xs e)).hi⟩],s.us++[e.ak],s.ne+1,s.evs++ja at' e⟩
 else⟨kJ s.xs (j7 s.xs e) (pU s.xs e) (aW (fJ (ai s.xs (j7 s.xs e)).lo (ai s.xs (j7 s.xs e)).hi) (fJ (ai s.xs (pU s.xs e)).lo (ai s.xs (pU s.xs e)).hi) (ai s.xs (j7 s.xs e)).lo (ai s.xs (j7 s.xs e)).hi (ai s.xs (pU s.xs e)).lo (ai s.xs (pU s.xs e)).hi) at',s.us,s.ne+1,s.evs++ja at' e⟩
def fw (s:bG)(e:En)(at':Int):bG:=if ft s e at'=true then J8 s e at' else s
theorem y7m (xs:List Sh)(i j:Nat)(v:ByteArray×ByteArray)(at':Int):kJ xs i j v at'=(xs.set i ⟨(ai xs i).id,(ai xs i).aq,at'+1,v.1,v.2⟩).eraseIdx j:=by
 unfold kJ;rw[xZ2]
theorem z5y {s:dR}{t:bG}{n:Nat}(h:Twin s t)(hI:Inv s n){e:En}{at':Int}(ha:gp s.xs s.aD e at'=true):Twin (bp s e at') (J8 t e at'):=by
 have hc:jG s.xs s.aD e=true:=by unfold gp at ha;simp only[zZ7]at ha;exact ha.1.1
 obtain⟨hr,i,hi,hf,gL,cH,hk⟩:=qx hc;rcases SB h.bZ hI.nodup e.aj with⟨a1,a2⟩ | ⟨i',i2,hi',_,a1,a2,a3,a4⟩
 . omega
 obtain rfl:i2=i:=by omega
 have J9:j7 t.xs e=i':=by unfold j7;rw[a1];rfl
 obtain⟨hp,hu,hne,Lq,jT⟩:=h;have hN:=hI.nodup;obtain⟨xs,aD,ne,evs⟩:=s;obtain⟨ys,us,ne',vQ⟩:=t;dsimp only at *;subst hne Lq;rcases hk with k2 | ⟨k3,DX,o1,o2,hh,wY⟩ | ⟨k4,j,hj,nI,qQ,gz,kR⟩
 . unfold bp J8;rw[zZ1 k2,zZ1 k2];dsimp only;rw[gL,J9,a3];exact⟨W9 hp hi' hi a3 _,hu,rfl,rfl,jT⟩
 . unfold bp J8;have n2:¬e.ax=2:=(by omega);rw[zZ0 n2,zZ0 n2,zZ1 k3,zZ1 k3];dsimp only;rw[gL,J9,a3];refine⟨?_,fun k h1 h2=>?_,rfl,rfl,by simp;omega⟩
   . dsimp only;rw[TL xs i2 hi];have hs:=W9 hp hi' hi a3 ⟨(ai xs i2).id,(ai xs i2).aq,at'+1,(ai xs i2).lo,e.key⟩;generalize xs.set i2 _=X at *;refine(hs.append_right _).trans ?_;rw[zQ7];refine List.Perm.trans ?_ (List.Perm.append_left _ List.perm_append_comm);rw[<-zQ7,zX7]
   . dsimp only;rw[xZ4,hu k h1 h2];unfold tz;rw[zK4];by_cases BO:k.toNat=e.ak.toNat
     . have:e.ak=k:=(by omega);simp[BO,this]
     . have:¬e.ak=k:=(by rintro rfl;exact BO rfl);simp[BO,this]
 . rcases SB hp hN e.ak with⟨b1,b2⟩ | ⟨j',j2,hj',_,b1,b2,b3,b4⟩
   . omega
   obtain rfl:j2=j:=(by omega);have Xa:pU ys e=j':=(by unfold pU;rw[b1];rfl);have tk:=(zY hr k4).2.2.2.2;have lQ:i2≠j2:=(by intro he;subst he;exact tk (cH.symm.trans gz));have tV:i'≠j':=(by intro he;subst he;exact tk (by rw[<-a4,<-b4,<-a3,<-b3]));unfold bp J8;have n2:¬e.ax=2:=(by omega);have n3:¬e.ax=3:=(by omega);rw[zZ0 n2,zZ0 n2,zZ0 n3,zZ0 n3];dsimp only;rw[gL,J9,qQ,Xa,a3,b3,B4,B4];refine⟨?_,hu,rfl,rfl,by dsimp only;omega⟩;dsimp only;rw[y7m,y7m,a3];refine y8j (W9 hp hi' hi a3 _) (by simpa using hj') (by simpa using hj) ?_;rw[tU _ _ hi',tU _ _ hi,zZ0 (Ne.symm tV),zZ0 (Ne.symm lQ),b3]
theorem z4F {s:dR}{t:bG}{n:Nat}(h:Twin s t)(hI:Inv s n)(e:En)(at':Int):Twin (zW s e at') (fw t e at'):=by
 unfold zW fw;rw[O9 h hI];split
 . next ha=>exact z5y h hI ha
 . exact h
def Small (xs:List Sh):Prop:=∀c∈xs,c.lo.size<=300/\c.hi.size<=300
def mf (a b:ByteArray):Bool:=Op.bytesLess a.toList b.toList
def AY (xs:List Sh):Prop:=∀r q,r<xs.length->q<xs.length->mf (ai xs r).lo (ai xs q).lo=decide (r<q)
theorem z4h {xs:List Sh}(h:ix xs):AY xs:=by
 intro r q hr hq;have o1:=h.nZ r hr;have o2:=h.nZ q hq;unfold mf;rw[<-MU _ _ o1 o2,zK4,wZ2,wZ2];rcases xZ3 r q with h1 | h1 | h1
 . have:=h.low r q h1 hq;omega
 . subst h1;have:=CT o1;omega
 . have:=h.low q r h1 hr;have:=yU o1 o2;omega
def gJ (ys:List Sh)(last:Option ByteArray):Nat->Int
 | 0=> -1
 | m+1=>if(match last with | none=>true | some l=>mf l (ai ys m).lo) && (decide (gJ ys last m<0) || mf (ai ys m).lo (ai ys (gJ ys last m).toNat).lo)then(m:Nat)else gJ ys last m
def Cm (xs:List Sh)(k:Nat):Option ByteArray:=if k=0 then none else some (ai xs (k - 1)).lo
theorem A4 {xs ys:List Sh}(hp:ys.Perm xs)(hr:AY xs)(k:Nat)(hk:k<xs.length)(m:Nat)(hm:m<=ys.length):
    (gJ ys (Cm xs k) m= -1/\∀j,j<m->∀r,r<xs.length->ai ys j=ai xs r->r<k)\/
    ∃b r:Nat,b<m/\r<xs.length/\k<=r/\gJ ys (Cm xs k) m=(b:Nat)/\ai ys b=ai xs r/\∀j,j<m->∀q,q<xs.length->ai ys j=ai xs q->q<k\/r<=q:=by
 have Pa:∀j,j<ys.length->∃r,r<xs.length/\ai ys j=ai xs r:=by
  intro j hj;obtain⟨r,hr,e⟩:=yJ5.1 (hp.mem_iff.1 (k7 ys j hj));exact⟨r,hr,by rw[j3 xs r hr,e]⟩
 have Es:∀r q,r<xs.length->q<xs.length->ai xs r=ai xs q->r=q:=by
  intro r q h1 h2 e;have e1:=hr r q h1 h2;have e2:=hr q r h2 h1;rw[e]at e1 e2;have e3:=hr q q h2 h2;rw[e3]at e1 e2;simp at e1 e2;omega
 have A5:∀r,r<xs.length->(match Cm xs k with | none=>true | some l=>mf l (ai xs r).lo)=decide (k<=r):=by
  intro r h1;unfold Cm;by_cases h0:k=0
  . rw[zZ1 h0];simp[h0]
  . rw[zZ0 h0];dsimp only;rw[hr _ _ (by omega) h1,zK4,wZ2,wZ2];omega
 induction m with
 | zero=>exact .inl ⟨rfl,fun j hj=>absurd hj (yX4 j)⟩
 | succ m ih=>
  obtain⟨r0,mG,e0⟩:=Pa m (by omega);unfold gJ;rcases ih (by omega)with⟨e1,hall⟩ | ⟨b,r,hb,wW,hkr,e1,e2,hall⟩
  . rw[e1,e0,A5 r0 mG];by_cases qN:k<=r0
    . refine .inr ⟨m,r0,xZ6 m,mG,qN,by simp[qN],e0,fun j hj q hq eq=>?_⟩;by_cases sM:j<m
      . exact .inl (hall j sM q hq eq)
      . obtain rfl:j=m:=(by omega);have:=Es q r0 hq mG (eq.symm.trans e0);omega
    . refine .inl ⟨by simp[qN],fun j hj q hq eq=>?_⟩;by_cases sM:j<m
      . exact hall j sM q hq eq
      . obtain rfl:j=m:=(by omega);have:=Es q r0 hq mG (eq.symm.trans e0);omega
  . rw[e1,e0,A5 r0 mG,zQ3,e2,hr r0 r mG wW];have hb0:decide ((b:Int)<0)=false:=wZ6 (by omega);rw[hb0,yZ4];by_cases qN:k<=r0/\r0<r
    . refine .inr ⟨m,r0,xZ6 m,mG,qN.1,by simp[qN.1,qN.2],e0,fun j hj q hq eq=>?_⟩;by_cases sM:j<m
      . rcases hall j sM q hq eq with h | h
        . exact .inl h
        . exact .inr (by omega)
      . obtain rfl:j=m:=(by omega);have:=Es q r0 hq mG (eq.symm.trans e0);omega
    . refine .inr ⟨b,r,by omega,wW,hkr,?_,e2,fun j hj q hq eq=>?_⟩
      . rw[zZ0];simp only[zZ7,wZ2];exact qN
      . by_cases sM:j<m
        . exact hall j sM q hq eq
        . obtain rfl:j=m:=(by omega);have:=Es q r0 hq mG (eq.symm.trans e0);omega
theorem Et {xs ys:List Sh}(hp:ys.Perm xs)(hr:AY xs)(k:Nat)(hk:k<xs.length):
    ∃b:Nat,b<ys.length/\gJ ys (Cm xs k) ys.length=(b:Nat)/\ai ys b=ai xs k:=by
 obtain⟨j,hj,e⟩:=yJ5.1 (hp.mem_iff.2 (k7 xs k hk));have e':ai ys j=ai xs k:=by rw[j3 ys j hj,e]
 rcases A4 hp hr k hk ys.length (zZ3 _)with⟨_,hall⟩ | ⟨b,r,hb,wW,hkr,e1,e2,hall⟩
 . have:=hall j hj k hk e';omega
 . refine⟨b,hb,e1,?_⟩;rcases hall j hj k hk e' with h | h
   . omega
   . have:r=k:=(by omega);rw[e2,this]
theorem SC {s:dR}{t:bG}{n:Nat}(h:Twin s t)(hI:Inv s n)(hS:Small s.xs)(hn:n<=900):AH t:=by
 have h1:=hI.len;have h2:=hI.few;have h3:=h.few;refine⟨by rw[h.bZ.length_eq];omega,by omega,by rw[h.ne];omega,fun c hc=>?_⟩;have:=hS c (h.bZ.mem_iff.1 hc);omega
end Go.Proofs.YtgegogoanbamfaaGreatDoor.Pl
namespace Go.Proofs.YtgegogoanbamfaaGreatDoor
namespace Pl
end Pl
open Pl Go.Proofs.Tryz Go.RowKit Go.Maps
attribute [local go_sem] Oper.semAt_some
namespace Pl
theorem y8f (ys:List Sh)(last:Option ByteArray):∀m,gJ ys last m= -1\/∃b:Nat,b<m/\gJ ys last m=(b:Nat)
 | 0=> .inl rfl
 | m+1=>by
  have ih:=y8f ys last m;cases last with
  | none=>
   rw[gJ];split
   . exact .inr ⟨m,xZ6 m,rfl⟩
   . rcases ih with h | ⟨b,hb,h⟩
     . exact .inl h
     . exact .inr ⟨b,by omega,h⟩
  | some l=>
   rw[gJ];split
   . exact .inr ⟨m,xZ6 m,rfl⟩
   . rcases ih with h | ⟨b,hb,h⟩
     . exact .inl h
     . exact .inr ⟨b,by omega,h⟩
theorem z4J (zs:List Sh)(k j:Nat)(hj:j<k)(hk:k<=zs.length):ai (zs.take k) j=ai zs j:=by
 rw[j3 _ j (by rw[zZ9];omega),j3 zs j (by omega),yJ2]
theorem z6C (ys:List Sh)(m:Nat)(h:gJ ys none m= -1):gJ ys none (m+1)=(m:Nat):=by
 rw[gJ,h];rfl
theorem z3N (ys:List Sh)(m b:Nat)(h:gJ ys none m=(b:Nat))(hl:mf (ai ys m).lo (ai ys b).lo=true):gJ ys none (m+1)=(m:Nat):=by
 rw[gJ,h,zQ3,hl];simp
theorem z4D (ys:List Sh)(m b:Nat)(h:gJ ys none m=(b:Nat))(hl:mf (ai ys m).lo (ai ys b).lo=false):gJ ys none (m+1)=(b:Nat):=by
 have h0:¬((b:Int)<0):=by omega
 rw[gJ,h,zQ3,hl];simp[h0]
theorem z3P (ys:List Sh)(m:Nat)(l:ByteArray)(hl:mf l (ai ys m).lo=false):gJ ys (some l) (m+1)=gJ ys (some l) m:=by
 rw[gJ];simp[hl]
theorem z4Z (ys:List Sh)(m:Nat)(l:ByteArray)(hl:mf l (ai ys m).lo=true)(h:gJ ys (some l) m= -1):gJ ys (some l) (m+1)=(m:Nat):=by
 rw[gJ];simp[hl,h]
theorem z3m (ys:List Sh)(m b:Nat)(l:ByteArray)(hl:mf l (ai ys m).lo=true)(h:gJ ys (some l) m=(b:Nat))(h2:mf (ai ys m).lo (ai ys b).lo=true):gJ ys (some l) (m+1)=(m:Nat):=by
 rw[gJ];simp[hl,h,h2]
theorem z3M (ys:List Sh)(m b:Nat)(l:ByteArray)(hl:mf l (ai ys m).lo=true)(h:gJ ys (some l) m=(b:Nat))(h2:mf (ai ys m).lo (ai ys b).lo=false):gJ ys (some l) (m+1)=(b:Nat):=by
 have h0:¬((b:Int)<0):=by omega
 rw[gJ];simp[hl,h,h2,h0]
theorem z5O (zs:List Sh)(k:Nat):Cm zs (k+1)=some (ai zs k).lo:=by
 unfold Cm;rw[zZ0 (Nat.succ_ne_zero k)];rfl
end Pl
namespace Pl
theorem A6:∀x y:List UInt8,(Op.bytesLess x y=true/\Op.bytesLess y x=false/\(x==y)=false)\/(Op.bytesLess x y=false/\Op.bytesLess y x=true/\(x==y)=false)\/(x=y/\Op.bytesLess x y=false/\Op.bytesLess y x=false)
 | [],[]=> .inr (.inr ⟨rfl,rfl,rfl⟩)
 | [],_::_=> .inl ⟨rfl,rfl,rfl⟩
 | _::_,[]=> .inr (.inl ⟨rfl,rfl,rfl⟩)
 | a::x,b::y=>by
  have ih:=A6 x y;have nl:∀c d:UInt8,(c<d)↔c.toNat<d.toNat:=fun c d=>UInt8.lt_iff_toNat_lt;by_cases hab:a=b
  . subst hab;have h0:¬(a<a):=(by rw[nl];omega);have e1:Op.bytesLess (a::x) (a::y)=Op.bytesLess x y:=(by rw[Op.bytesLess];simp[h0]);have e2:Op.bytesLess (a::y) (a::x)=Op.bytesLess y x:=(by rw[Op.bytesLess];simp[h0]);have e3:((a::x)==(a::y))=(x==y):=(by simp[List.cons_beq_cons]);rw[e1,e2,e3];rcases ih with h | h | ⟨h,h1,h2⟩
    . exact .inl h
    . exact .inr (.inl h)
    . exact .inr (.inr ⟨by rw[h],h1,h2⟩)
  . have hne:a.toNat≠b.toNat:=fun h=>hab (UInt8.toNat_inj.1 h);have e3:((a::x)==(b::y))=false:=(by simp[hab]);have hba:¬b=a:=fun h=>hab h.symm;rcases Nat.lt_or_gt_of_ne hne with h | h
    . have l1:a<b:=(nl a b).2 h;have l2:¬b<a:=(by rw[nl];omega);exact .inl ⟨by rw[Op.bytesLess];simp[l1],by rw[Op.bytesLess];simp[l2,hba],e3⟩
    . have l1:b<a:=(nl b a).2 h;have l2:¬a<b:=(by rw[nl];omega);exact .inr (.inl ⟨by rw[Op.bytesLess];simp[l2,hab],by rw[Op.bytesLess];simp[l1],e3⟩)
end Pl
theorem y9O {w:World}{F:Nat->Prop}{mb:Nat}{s:bG}(h:fp w F mb s){zs:List Sh}(hp:s.xs.Perm zs)(hr:AY zs)(h0:0<zs.length)(hx:zs.length<=1000):
    Calls prog 81 #[.pointer (some ⟨mb,0,none⟩)] w fun e w'=>∃g c,e=.returned (.slice (some ⟨g,0,none⟩) zs.length c)/\w'.ownsRow w.heap.size 161 5 (.slice (some ⟨g,0,none⟩) zs.length c) zs.length (dL zs)/\ae w w':=by
 obtain⟨ys,us,ne,evs⟩:=s;obtain⟨vl,vu,ve,h⟩:=h;dsimp only at *;have bK:=hp.length_eq;obtain⟨b,cap,rfl,_,eT⟩:=h.row.form (by omega:0<ys.length);have c0:=h.bZ;have hb:=h.blt;have HS:=af h;have HLEN:=af bK;have Pb:=af (Et hp hr);have hy:ys.length<=1000:=by omega
 have Pc:Hid ((w.alloc (.cells #[] 161)).ownsRow w.heap.size 161 5 (.slice (some ⟨w.heap.size,0,none⟩) 0 0) 0 (dL (zs.take 0))):=
  oI (cur:=[]) (zZ3 _) (wZ0 w _) (zZ3 _) (by decide) rfl rfl
 obtain⟨i0,dA,hz0,hz1,hz3⟩:=wZ8 WT;clear h bK hp hr h0 hx;go_in;go_wp2_with fail;go_loopw [3,14] (fun out i wr=>∃(k g c:Nat),k<=ys.length/\i=.int .i64 k/\out=.slice (some ⟨g,0,none⟩) k c/\Hid (wr.ownsRow w.heap.size 161 5 (.slice (some ⟨g,0,none⟩) k c) k (dL (zs.take k)))/\Hid (ae w wr)) (fun _ i _=>ys.length - (intOf i).toNat);exact⟨0,_,_,zZ5 _,rfl,rfl,Pc,af ((ae.rf w).alloc _)⟩;obtain⟨k,g,c,fV,rfl,rfl,HO,HG⟩:=hrel;obtain⟨w1,rfl⟩:∃w1:World,w1=wr:=⟨_,rfl⟩
 by_cases az:k<ys.length
 . have c1:=(HG.cells.1 _ _ hb).trans c0;have J7:w.heap.size<=g:=(HO.lt g rfl).1;have sS:g<w1.heap.size:=(HO.lt g rfl).2;have hb1:mb<w1.heap.size:=xA9 hb HG.size;have vN:b<w1.heap.size:=xA9 eT HG.size;have qp:=af (Pb k (by have:=HLEN.out;omega));have vz:Hid (∀k',k=k'+1->w1.cell? ⟨g,k'*5+3,none⟩=some (.string (ai zs k').lo)):=by
    rintro k' rfl;have hl:=HLEN.out;have h1:=HO.cellAt (k'*5+3) (by omega);rw[mF 3 (by omega) (zs.take (k'+1)) k' (by rw[zZ9];omega),z4J zs (k'+1) k' (by omega) (by omega)]at h1;exact h1
   have lB:Hid (∀m,m<ys.length->∀i v,i<5->(ai ys m).vals[i]? =some v->∀W,ae w1 W->W.cell? ⟨b,m*5+i,none⟩=some v):=fun m hm i v hi hv W gW=>(gW.cells.1 _ _ vN).trans ((HG.cells.1 _ _ eT).trans ((vw HS rfl m hm i hi).trans hv));have A7:Hid (∀W,ae w1 W->∀q,q<ys.length->W.cell? ⟨b,q*5+3,none⟩=some (.string (ai ys q).lo)):=fun W gW q hq=>lB q hq 3 _ (by omega) rfl W gW;have Gy:Hid (k=0->Pl.Cm zs k=none):=(by rintro rfl;rfl);have Pf:Hid (∀k',k=k'+1->Pl.Cm zs k=some (ai zs k').lo):=(by rintro k' rfl;exact Pl.z5O zs k');generalize Pl.Cm zs k=ld at *;go_wp2_with fail;go_loopw [4,21] (fun Xb i wr=>∃m:Nat,m<=ys.length/\i=.int .i64 m/\Xb=.int .i64 (Pl.gJ ys ld m)/\Hid (ae w1 wr)) (fun _ i _=>ys.length - (intOf i).toNat);exact⟨0,zZ5 _,rfl,rfl,af (ae.rf w1)⟩;obtain⟨m,yV,rfl,rfl,cA⟩:=hrel;obtain⟨w2,rfl⟩:∃w2:World,w2=wr:=⟨_,rfl⟩
   have c2:=(cA.cells.1 _ _ hb1).trans c1;have aP:g<w2.heap.size:=xA9 sS cA.size;have hb2:mb<w2.heap.size:=xA9 hb1 cA.size;have OU:b<w2.heap.size:=xA9 vN cA.size;by_cases pW:m<ys.length
   . have p0:=lB m pW 0 _ (by omega) rfl w2 cA;have p1:=lB m pW 1 _ (by omega) rfl w2 cA;have p2:=lB m pW 2 _ (by omega) rfl w2 cA;have p3:=lB m pW 3 _ (by omega) rfl w2 cA;have p4:=lB m pW 4 _ (by omega) rfl w2 cA;rw[zX9]at p0;replace A7:=af (A7 w2 cA);have HC:=af (y8f ys ld m);rcases zJ8 k with qN | qN
     . have vH:=Gy qN;have np:((k:Int)==0)=true:=(by rw[qN];rfl);have Ka:=af (fun(h:Pl.gJ ys ld m= -1)=>show Pl.gJ ys ld (m+1)=(m:Nat)by rw[vH]at h ⊢;exact z6C ys m h);have Kb:=af (fun(b:Nat) (h:Pl.gJ ys ld m=(b:Nat)) (hl:Op.bytesLess (ai ys m).lo.toList (ai ys b).lo.toList=true)=>show Pl.gJ ys ld (m+1)=(m:Nat)by rw[vH]at h ⊢;exact z3N ys m b h hl);have Eb:=af (fun(b:Nat) (h:Pl.gJ ys ld m=(b:Nat)) (hl:Op.bytesLess (ai ys m).lo.toList (ai ys b).lo.toList=false)=>show Pl.gJ ys ld (m+1)=(b:Nat)by rw[vH]at h ⊢;exact z4D ys m b h hl);clear qp vz lB qN vH Gy Pf;generalize ai ys m=cm at *;obtain⟨x0,x1,x2,x3,x4⟩:=cm;dsimp only at *;rcases HC.out with fA | ⟨q,hqm,fA⟩
       . have HN:=af (Ka fA);rw[fA];clear fA Ka Kb Eb HC A7;go_wp2_with fail;go_quiet (fail)
         all_goals (
          go_wp2_with fail
          go_quiet (fail)
          all_goals (
           go_wp2_with fail
           go_roundw;exact⟨m+1,by omega,by go_num,by rw[HN.out],af ((cA.alloc _).drewN _)⟩;simp[intOf];omega))
       . have uu:=af (Kb q fA);have uv:=af (Eb q fA);have qm:q<ys.length:=(by omega);have hqL:(q:Int)<(ys.length:Int):=(by omega);have IU:¬((q:Int)<0):=(by omega);have p5:=A7 q qm;rw[fA];clear fA Ka Kb Eb HC A7;generalize (ai ys q).lo=lq at *;cases kI:Op.bytesLess x3.toList lq.toList with
         | true=>
          have HN:=af (uu kI);clear uu uv;go_wp2_with fail;go_quiet (fail)
          all_goals (
           go_wp2_with fail
           go_quiet (fail)
           all_goals (
            go_wp2_with fail
            go_roundw;exact⟨m+1,by omega,by go_num,by rw[HN.out],af ((cA.alloc _).drewN _)⟩;simp[intOf];omega))
         | false=>
          have HN:=af (uv kI);clear uu uv;go_wp2_with fail;go_quiet (fail)
          all_goals (
           go_wp2_with fail
           go_quiet (fail)
           all_goals (
            go_wp2_with fail
            go_roundw;exact⟨m+1,by omega,by go_num,by rw[HN.out],af ((cA.alloc _).drewN _)⟩;simp[intOf];omega))
     . obtain⟨k',jC⟩:∃k',k=k'+1:=⟨k - 1,by omega⟩
       have vH:=Pf k' jC;have nQ:=(cA.cells.1 _ _ sS).trans (vz k' jC);have i2:(k:Int) - 1=(k':Int):=(by omega);have i3:(k':Int)<(k:Int):=(by omega);have i5:k'<k:=(by omega);have i6:IntKind.i64.wrap (k':Int)=(k':Int):=IntWalk.i64_in _ (by omega);have i7:((k:Int)==0)=false:=(by rw[wZ3];omega);have HE:=af (fun(hl:Op.bytesLess (ai zs k').lo.toList (ai ys m).lo.toList=false)=>show Pl.gJ ys ld (m+1)=Pl.gJ ys ld m by rw[vH];exact z3P ys m (ai zs k').lo hl);have Eu:=af (fun(hl:Op.bytesLess (ai zs k').lo.toList (ai ys m).lo.toList=true) (h:Pl.gJ ys ld m= -1)=>show Pl.gJ ys ld (m+1)=(m:Nat)by rw[vH]at h ⊢;exact z4Z ys m _ hl h);have Ev:=af (fun(hl':Op.bytesLess (ai zs k').lo.toList (ai ys m).lo.toList=true) (b:Nat) (h:Pl.gJ ys ld m=(b:Nat)) (hl:Op.bytesLess (ai ys m).lo.toList (ai ys b).lo.toList=true)=>show Pl.gJ ys ld (m+1)=(m:Nat)by rw[vH]at h ⊢;exact z3m ys m b _ hl' h hl);have Ew:=af (fun(hl':Op.bytesLess (ai zs k').lo.toList (ai ys m).lo.toList=true) (b:Nat) (h:Pl.gJ ys ld m=(b:Nat)) (hl:Op.bytesLess (ai ys m).lo.toList (ai ys b).lo.toList=false)=>show Pl.gJ ys ld (m+1)=(b:Nat)by rw[vH]at h ⊢;exact z3M ys m b _ hl' h hl);clear qp vz lB jC vH qN Gy Pf;generalize (ai zs k').lo=ll at *;generalize ai ys m=cm at *;obtain⟨x0,x1,x2,x3,x4⟩:=cm;dsimp only at *;rcases Pl.A6 x3.toList ll.toList with⟨t1,t2,t3⟩ | ⟨t1,t2,t3⟩ | ⟨t0,t1,t2⟩
       . have HN:=af (HE t2);clear Eu Ev Ew HC HE A7;generalize Pl.gJ ys ld m=bq at *;go_wp2_with fail;go_quiet (fail)
         all_goals (
          go_wp2_with fail
          go_quiet (fail)
          all_goals (
           go_wp2_with fail
           go_roundw;exact⟨m+1,by omega,by go_num,by rw[HN.out],af ((cA.alloc _).drewN _)⟩;simp[intOf];omega))
       . have Ka:=af (Eu t2);have Kb:=af (Ev t2);have Eb:=af (Ew t2);clear Eu Ev Ew HE;rcases HC.out with fA | ⟨q,hqm,fA⟩
         . have HN:=af (Ka fA);rw[fA];clear fA Ka Kb Eb HC A7;go_wp2_with fail;go_quiet (fail)
           all_goals (
            go_wp2_with fail
            go_quiet (fail)
            all_goals (
             go_wp2_with fail
             go_roundw;exact⟨m+1,by omega,by go_num,by rw[HN.out],af ((cA.alloc _).drewN _)⟩;simp[intOf];omega))
         . have uu:=af (Kb q fA);have uv:=af (Eb q fA);have qm:q<ys.length:=(by omega);have hqL:(q:Int)<(ys.length:Int):=(by omega);have IU:¬((q:Int)<0):=(by omega);have p5:=A7 q qm;rw[fA];clear fA Ka Kb Eb HC A7;generalize (ai ys q).lo=lq at *;cases kI:Op.bytesLess x3.toList lq.toList with
           | true=>
            have HN:=af (uu kI);clear uu uv;go_wp2_with fail;go_quiet (fail)
            all_goals (
             go_wp2_with fail
             go_quiet (fail)
             all_goals (
              go_wp2_with fail
              go_roundw;exact⟨m+1,by omega,by go_num,by rw[HN.out],af ((cA.alloc _).drewN _)⟩;simp[intOf];omega))
           | false=>
            have HN:=af (uv kI);clear uu uv;go_wp2_with fail;go_quiet (fail)
            all_goals (
             go_wp2_with fail
             go_quiet (fail)
             all_goals (
              go_wp2_with fail
              go_roundw;exact⟨m+1,by omega,by go_num,by rw[HN.out],af ((cA.alloc _).drewN _)⟩;simp[intOf];omega))
       . have HN:=af (HE t2);have t3:(x3.toList==ll.toList)=true:=(by rw[t0];exact beq_self_eq_true _);clear Eu Ev Ew HC HE A7 t0;generalize Pl.gJ ys ld m=bq at *;go_wp2_with fail;go_quiet (fail)
         all_goals (
          go_wp2_with fail
          go_quiet (fail)
          all_goals (
           go_wp2_with fail
           go_roundw;exact⟨m+1,by omega,by go_num,by rw[HN.out],af ((cA.alloc _).drewN _)⟩;simp[intOf];omega))
   . obtain rfl:m=ys.length:=(by omega);obtain⟨q,hq,fA,hat⟩:=qp.out;have hqL:(q:Int)<(ys.length:Int):=(by omega);have IU:(0:Int)<=(q:Int):=(by omega);have p0:=lB q hq 0 _ (by omega) rfl w2 cA;have p1:=lB q hq 1 _ (by omega) rfl w2 cA;have p2:=lB q hq 2 _ (by omega) rfl w2 cA;have p3:=lB q hq 3 _ (by omega) rfl w2 cA;have p4:=lB q hq 4 _ (by omega) rfl w2 cA;rw[zX9]at p0;have uJ:=af (gP cA HO);have GH:dL (zs.take (k+1))=dL (zs.take k)++(ai ys q).vals:=by
      have np:k<zs.length:=(by have:=HLEN.out;omega);rw[zX1 np,Cu,Tf,hat,j3 zs k np]
     rw[fA];have Cl:=af GH;generalize dL (zs.take k)=L at *;obtain⟨L2,hL2⟩:∃L2,L2=dL (zs.take (k+1)):=⟨_,rfl⟩
     rw[<-hL2]at Cl;have Ng:=af hL2;clear hL2 GH fA hat qp vz lB A7 HO;generalize ai ys q=cm at *;obtain⟨x0,x1,x2,x3,x4⟩:=cm;dsimp only at *;unfold Sh.vals at Cl;dsimp only at Cl;go_wp2_with (at_builtin;refine wQ2 _ rfl _ _ 152 rfl w.heap.size 161 i0 _ 5 56 underlying152 dA hz0 hz1 hz3 Sx (by omega) (.slice (some ⟨g,0,none⟩) k c) k L rfl (gP ((ae.rf w2).alloc _) uJ.out) ⟨w2.heap.size,0,none⟩ 1 1 [.int .i64 x0,.int .i64 x1,.int .i64 x2,.string x3,.string x4] rfl rfl (World.news_of_block (cs:=#[.int .i64 x0,.int .i64 x1,.int .i64 x2,.string x3,.string x4]) (by simpa using wZ0 w2 _)) (by intro u hu;simp at hu;rcases hu with rfl | rfl | rfl | rfl | rfl<;> rfl) (by omega) (by unfold maxLen;omega) (by omega) (by have h1:=HG.out.size;have h2:=cA.out.size;simp;omega) _ rfl ?_);intro g9 c9 w9 aH bw uq ur;rw[<-Cl.out]at aH;have zS:=af aH;have GG:Hid (ae w w9):=(((((HG.trans cA).alloc _)).only (fun q=>some q=Value.ownBlock (.slice (some ⟨g,0,none⟩) k c))).then (ar.ay bw)).ah (fun q hq=>by have h1:q=g:=Option.some.inj hq;omega);clear aH bw uq ur p0 p1 p2 p3 p4;go_wp2_with fail;go_roundw;case rel=>exact⟨k+1,g9,c9,by omega,by go_num,rfl,by rw[<-Ng.out];exact zS,GG⟩
     case measure=>simp[intOf];omega
 . obtain rfl:k=ys.length:=(by omega);have uJ:=HO;rw[HLEN.out,zQ1]at uJ;go_wp2_with fail;go_ret;exact⟨g,c,by rw[HLEN.out];rfl,uJ,HG⟩
section
attribute [local go_sem] bl
theorem z1K {w:World}{F:Nat->Prop}{mb:Nat}{D:bG}(hM:fp w F mb D){zs:List Sh}(hp:D.xs.Perm zs)(hr:AY zs)(h0:0<zs.length)(hx:zs.length<=100){q:List Ac}(hq:D.evs=q.flatMap (fun a=>ja a.at' a.e))(hn:q.length=D.ne)(ha:∀a∈q,Pl.cK a.e=true/\(a.e.ax=3\/a.e.ax=4)/\0<=a.at'/\a.at'<4096)(qm:q.length<=100)(iN:∀c∈zs,0<=c.id/\c.id<128/\0<=c.aq/\c.aq<128):
    Calls prog 36 #[.pointer (some ⟨mb,0,none⟩)] w fun r w'=>∃v,r=.returned v/\pY w.heap.size (Pl.rX q zs) v w'/\ae w w':=by
 have Pg:=af (fun W (g:ae w W)=>y9O (hM.ah g) hp hr h0 (by omega));obtain⟨xs,us,ne,evs⟩:=D;obtain⟨vl,vu,ve,h⟩:=hM;dsimp only at *;obtain⟨ea,ec,rfl⟩:∃ea ec,ve=.slice ea ne ec:=WJ h.iL;have c2:=h.ev;have vW:=bf c2;have HE:=af (fun W (g:ae w W) (j:Nat) u (hj:evs[j]? =some u)=>WK h.iL g hj);rw[<-hn]at c2;have HA:=af (And.intro hq ha);have HL:=af (And.intro qm (And.intro hx iN));have JU:=af (fun(wr:World) (g:ae w wr) (j:Nat) (hj:j<q.length)=>show ∃b,ea=some ⟨b,0,none⟩/\b<w.heap.size/\∀i u,i<13->(ja q[j].at' q[j].e)[i]? =some u->wr.cell? ⟨b,j*13+i,none⟩=some u by
  have c0:=(Sp q j hj 0 (by omega)).trans (show _=some (Value.int .i64 q[j].at')from rfl);rw[<-HA.out.1]at c0;obtain⟨b,e1,e2,_⟩:=HE wr g _ _ c0;refine⟨b,e1,e2,fun i u hi hu=>?_⟩;have c1:=(Sp q j hj i hi).trans hu;rw[<-HA.out.1]at c1;obtain⟨b',e3,_,e4⟩:=HE wr g _ _ c1;rw[e1]at e3;cases e3;rwa[Nat.mul_comm]at e4)
 have pj:=af (fun k=>z2K (q:=q) ha k);have xu:=af (fun k=>y9S (xs:=zs) iN k);have wF:=af (ie 1 q.length (by omega));have OQ:=af (ie 1 zs.length (by omega));have hq9:=qm;have RR:=hx;clear h hq ha qm hx hn hp hr;have Gz:Hid (Pl.rX q zs=Pl.aU q.length++Pl.nt q++(Pl.aU zs.length++Pl.iF zs)):=rfl;have Xc:=af (fun k (hk:k<zs.length)=>by have h:=y9r zs k hk;rw[<-j3 zs k hk]at h;exact h);have FL:=af (fun k (hk:k<zs.length)=>iN _ (k7 zs k hk));generalize Pl.rX q zs=bs at *;go_in;go_wp2_with fail;refine(LD w.heap.size w q.length (zZ3 _) (by omega)).mono ?_;rintro r w1 ⟨v1,rfl,hr1,aR⟩;have FP:=af (Bz.aX aR hr1);have d2:=(aR.cells.1 _ 2 vW).trans c2;have yV:=xA9 vW aR.size;clear hr1 aR;go_wp2_with fail;clear d2 yV c2;go_loopw [3,20] (fun v i wr=>∃(j:Nat) (es:List Int),j<=q.length/\i=.int .i64 j/\Hid (es=Pl.aU q.length++Pl.nt (q.take j))/\Hid (Bz w wr [] v es)) (fun _ i _=>q.length - (intOf i).toNat);exact⟨0,_,zZ5 _,rfl,by unfold Hid;simp[Pl.nt],FP⟩;obtain⟨j,es,hj,rfl,qa,kW⟩:=hrel;by_cases az:j<q.length
 . obtain⟨b,rfl,hb,hcs⟩:=JU wr kW.ah j az;have hbr:=xA9 hb kW.ah.size;obtain⟨hr,hk,ha0,ha1⟩:=HA.2 _ (zQ4 az);have oY:=af (fun W (g:w.heap.size<=W.heap.size)=>z1P w.heap.size q[j].e hr hk W g);have js:=af (show es++Pl.aU q[j].at'.toNat++Pl.bn (strOfNums (Pl.et q[j].e))=Pl.aU q.length++Pl.nt (q.take (j+1))by rw[qa.out,z2v q j az];simp only[zQ7]);have bK:=WI hr hk;have uS:=af (show es.length<=12000 by
    have h1:=pj j;have h2:=wF.out;rw[qa.out,zZ4];omega)
   generalize Pl.et q[j].e=ns at *;generalize q[j]=ac at *;obtain⟨⟨ax,aj,ak,aq,aw,seq,key,aM,aL,aA,ops,aN,aS,aF,aB,aG⟩,at'⟩:=ac;dsimp only at *;obtain⟨n0,rfl⟩:=yQ2 ha0;rw[zQ3]at js;unfold En.agg En.vals at oY;dsimp only at oY;have d0:=hcs 0 _ (by omega) rfl;have d1:=hcs 1 _ (by omega) rfl;have d2:=hcs 2 _ (by omega) rfl;have d3:=hcs 3 _ (by omega) rfl;have d4:=hcs 4 _ (by omega) rfl;have d5:=hcs 5 _ (by omega) rfl;have d6:=hcs 6 _ (by omega) rfl;have d7:=hcs 7 _ (by omega) rfl;have d8:=hcs 8 _ (by omega) rfl;have d9:=hcs 9 _ (by omega) rfl;have d10:=hcs 10 _ (by omega) rfl;have d11:=hcs 11 _ (by omega) rfl;have d12:=hcs 12 _ (by omega) rfl;rw[zX9]at d0;clear hcs hr hk JU qa;go_upto_region 5 with fail;clear d0 d1 d2 d3 d4 d5 d6 d7 d8 d9 d10 d11 d12 hbr;obtain⟨U,hU⟩:∃U,U=wr.alloc (.cells #[.int .i64 (n0:Nat),.int .i64 ax,.int .i64 aj,.int .i64 ak,.int .i64 aq,.int .i64 aw,.int .i64 seq,.slice aN ops.length aS,.string key,.int .i64 aM,.int .i64 aL,.int .i64 aA,.slice aF aB aG] 157):=⟨_,rfl⟩
   have gU:ae wr U:=(by rw[hU];exact(ae.rf wr).alloc _);obtain⟨ub,qC⟩:∃ub,ub=wr.heap.size:=⟨_,rfl⟩
   have jX:=af (kW.add gU ub [.int .i64 (n0:Nat),.int .i64 ax,.int .i64 aj,.int .i64 ak,.int .i64 aq,.int .i64 aw,.int .i64 seq,.slice aN ops.length aS,.string key,.int .i64 aM,.int .i64 aL,.int .i64 aA,.slice aF aB aG] (by omega) (by rw[hU,qC];simp) (by
    intro i v hv;rw[hU,qC,gw (wZ0 wr _)];exact hv))
   rw[<-hU,<-qC];clear hU gU qC kW;have u0:=jX.c _ (zZ8 ..) 0 _ rfl;have kF:=jX.lt _ (zZ8 ..);dsimp only at u0 kF;have fP:=uS.out;have jz:=ie 1 n0 (by omega);go_wp2_with fail;refine(LD w.heap.size U n0 jX.ah.size (by omega)).mono ?_;rintro e w5 ⟨v5,rfl,qM,jq⟩;have BX:=af qM;have Ep:=af (jX.br jq);clear qM jq jX u0 kF;go_wp2_with (at_builtin;refine JX rfl _ _ rfl rfl Ep.out rfl BX.out (by omega) ?_);intro d6 Nr a6 c6 w6 hB6;have lM:=af hB6;have u0:=lM.c _ (zZ8 ..) 0 _ rfl;have u1:=lM.c _ (zZ8 ..) 1 _ rfl;have u2:=lM.c _ (zZ8 ..) 2 _ rfl;have u3:=lM.c _ (zZ8 ..) 3 _ rfl;have u4:=lM.c _ (zZ8 ..) 4 _ rfl;have u5:=lM.c _ (zZ8 ..) 5 _ rfl;have u6:=lM.c _ (zZ8 ..) 6 _ rfl;have u7:=lM.c _ (zZ8 ..) 7 _ rfl;have u8:=lM.c _ (zZ8 ..) 8 _ rfl;have u9:=lM.c _ (zZ8 ..) 9 _ rfl;have OM:=lM.c _ (zZ8 ..) 10 _ rfl;have OO:=lM.c _ (zZ8 ..) 11 _ rfl;have OP:=lM.c _ (zZ8 ..) 12 _ rfl;have kF:=lM.lt _ (zZ8 ..);dsimp only at u0 u1 u2 u3 u4 u5 u6 u7 u8 u9 OM OO OP kF;have rH:=af (show d6.length<=13000 by rw[Nr.out,zZ4];omega);have j0E:ns.length<=110:=bK;clear hB6 Ep BX jz;go_wp2_with fail;refine(oY w6 lM.ah.size).mono ?_;rintro r w7 ⟨v7,rfl,hr7,oO⟩;obtain⟨a7,c7,rfl,rD⟩:=hr7;obtain⟨a7',c7',e7,hA7,hF7,_⟩:=uL rD;cases e7;have hcv:=B9 (w:=w7) rfl hA7 hF7;have sU:=af (lM.br oO);have iI:=af (show(strOfNums ns).size<=1000 by rw[strOfNums_size];omega);have Xd:=af (tH (strOfNums ns) (by have:=iI.out;omega));clear rD hA7 hF7 oO lM u0 u1 u2 u3 u4 u5 u6 u7 u8 u9 OM OO OP kF oY;go_wp2_with fail;refine(y8c w.heap.size w7 (strOfNums ns) sU.ah.size (by have:=iI.out;omega)).mono ?_;rintro r w8 ⟨v8,rfl,Ph,Pj⟩;have Pk:=af Ph;have JP:=af (sU.br Pj);have hl6:=rH.out;have Sm:=Xd.out;have hsz:=iI.out;clear Ph Pj sU hcv;go_wp2_with (at_builtin;refine JX rfl _ _ rfl rfl JP.out rfl Pk.out (by omega) ?_);intro d9 Xe a9 c9 w9 Ex;have LG:=af Ex.tail;clear Ex JP Pk;go_wp2_with fail;go_roundw;case rel=>exact⟨j+1,d9,by omega,by go_num,by unfold Hid;rw[Xe.out,Nr.out];exact js,LG⟩
   case measure=>simp[intOf];omega
 . obtain rfl:j=q.length:=(by omega);rw[zQ1]at qa;have uS:=af (show es.length<=12000 by
    have h1:=pj q.length;rw[zQ1]at h1;have h2:=wF.out;rw[qa.out,zZ4];omega)
   have Ey:=af (Pg wr kW.ah);clear Pg JU pj HA HE;go_wp2_with fail;refine Ey.mono ?_;rintro r w3 ⟨g,c,rfl,aJ,hg3⟩;obtain⟨g',c',eg,hgb,sS⟩:=aJ.form h0;cases eg;have oQ:=af (kW.add hg3 g (dL zs) hgb sS (fun i v hv=>(aJ.cellAt i (by have:=(zQ9.1 hv).1;rw[aJ.1]at this;exact this)).trans hv));have fP:=uS.out;have pW:=OQ.out;clear aJ hg3 hgb sS Ey kW;go_wp2_with fail;refine(LD w.heap.size w3 zs.length oQ.ah.size (by omega)).mono ?_;rintro e w4 ⟨v4,rfl,hr4,hg4⟩;have HR4:=af hr4;have sV:=af (oQ.br hg4);clear hr4 hg4 oQ;go_wp2_with (at_builtin;refine JX rfl _ _ rfl rfl sV.out rfl HR4.out (by omega) ?_);intro d5 Xf a5 c5 w5 hB5;have Ep:=af hB5;have Xg:=af (show d5=Pl.aU q.length++Pl.nt q++Pl.aU zs.length by rw[Xf.out,qa.out]);have Xh:=af (show d5.length<=13000 by rw[Xf.out,zZ4];omega);clear hB5 sV HR4 Xf qa;go_wp2_with fail;go_loopw [3,46] (fun v i wr=>∃(k:Nat) (es:List Int),k<=zs.length/\i=.int .i64 k/\Hid (es=d5++Pl.iF (zs.take k))/\Hid (Bz w wr [(g,dL zs)] v es)) (fun _ i _=>zs.length - (intOf i).toNat);exact⟨0,_,zZ5 _,rfl,by unfold Hid;simp[Pl.iF],Ep⟩;obtain⟨k,es,hk,rfl,Pm,LH⟩:=hrel;by_cases az:k<zs.length
   . obtain⟨i0,i1,i2,i3⟩:=FL k az;have uT:=af (fun i (hi:i<5) u (hu:(ai zs k).vals[i]? =some u)=>LH.c _ (zZ8 ..) (k*5+i) u ((mF i hi zs k az).trans hu));have js:=af (show es++Pl.aU (ai zs k).id.toNat++Pl.aU (ai zs k).aq.toNat=d5++Pl.iF (zs.take (k+1))by rw[Pm.out,Xc.out k az];simp only[zQ7]);have Ja:=af (show es.length<=14000 by
      have h1:=xu k;have h2:=Xh.out;rw[Pm.out,zZ4];omega)
     have hgr:=LH.lt _ (zZ8 ..);generalize ai zs k=c at *;obtain⟨id,aq,cJ,lo,hi⟩:=c;dsimp only at *;obtain⟨n0,rfl⟩:=yQ2 i0;obtain⟨n1,rfl⟩:=yQ2 i2;rw[zQ3,zQ3]at js;have d0:=uT 0 (by omega) _ rfl;have d1:=uT 1 (by omega) _ rfl;have d2:=uT 2 (by omega) _ rfl;have d3:=uT 3 (by omega) _ rfl;have d4:=uT 4 (by omega) _ rfl;rw[zX9]at d0;have Il:=Ja.out;clear uT Pm;go_upto_region 13 with fail;clear d0 d1 d2 d3 d4 hgr;obtain⟨U,hU⟩:∃U,U=wr.alloc (.cells #[.int .i64 (n0:Nat),.int .i64 (n1:Nat),.int .i64 cJ,.string lo,.string hi] 161):=⟨_,rfl⟩
     have gU:ae wr U:=(by rw[hU];exact(ae.rf wr).alloc _);obtain⟨ub,qC⟩:∃ub,ub=wr.heap.size:=⟨_,rfl⟩
     have jX:=af (LH.add gU ub [.int .i64 (n0:Nat),.int .i64 (n1:Nat),.int .i64 cJ,.string lo,.string hi] (by omega) (by rw[hU,qC];simp) (by
      intro i v hv;rw[hU,qC,gw (wZ0 wr _)];exact hv))
     rw[<-hU,<-qC];clear hU gU qC LH;have u0:=jX.c _ (zZ8 ..) 0 _ rfl;have kF:=jX.lt _ (zZ8 ..);dsimp only at u0 kF;have xe:=ie 0 n0 (by omega);have jz:=ie 0 n1 (by omega);go_wp2_with fail;refine(LD w.heap.size U n0 jX.ah.size (by omega)).mono ?_;rintro e w6 ⟨v6,rfl,hr6,tR⟩;have I4:=af hr6;have lM:=af (jX.br tR);clear hr6 tR jX u0 kF;go_wp2_with (at_builtin;refine JX rfl _ _ rfl rfl lM.out rfl I4.out (by omega) ?_);intro d7 HD7 a7 c7 w7 oX;have sU:=af oX;have u1:=oX.c _ (zZ8 ..) 1 _ rfl;have kF:=oX.lt _ (zZ8 ..);dsimp only at u1 kF;have hd7:d7.length<=15000:=(by rw[HD7.out,zZ4];omega);clear oX lM I4;go_wp2_with fail;refine(LD w.heap.size w7 n1 sU.ah.size (by omega)).mono ?_;rintro e w8 ⟨v8,rfl,Ph,Pj⟩;have Pk:=af Ph;have JP:=af (sU.br Pj);clear Ph Pj sU u1 kF;go_wp2_with (at_builtin;refine JX rfl _ _ rfl rfl JP.out rfl Pk.out (by omega) ?_);intro d9 Xe a9 c9 w9 Ex;have LG:=af Ex.tail;clear Ex JP Pk;go_wp2_with fail;go_roundw;case rel=>exact⟨k+1,d9,by omega,by go_num,by unfold Hid;rw[Xe.out,HD7.out];exact js,LG⟩
     case measure=>simp[intOf];omega
   . obtain rfl:k=zs.length:=(by omega);rw[zQ1]at Pm;have oX:=LH.tail;have oY:=af (show es=bs by rw[Pm.out,Gz.out,Xg.out];simp only[zQ7]);obtain⟨av,cv,rfl⟩:=oX.row.form;have HF:=af (show pY w.heap.size bs (.slice av es.length cv) wr/\ae w wr from⟨⟨av,cv,by rw[oY.out],by rw[<-oY.out];exact oX.row.row⟩,oX.ah⟩);clear oX LH;go_wp2_with fail;go_ret;exact⟨.slice av es.length cv,by simp,HF⟩
section
variable {P:Program}
theorem y5q {o:Oper}{a:Act}{w:World}{K:Value->World->Prop}(s x:Operand)(t:TypeId)
    (ho:o.op=.call {callee:=.builtin .append,args:=#[s,x],argTypes:=#[t,t]})
    (e:TypeId) (i:TypeInfo) (z:Value) (size bytes:Nat) (ht:P.underlying t=some (.slice e)) (hi:P.info? e=some i) (hz:i.zero=some z)
    (hsize:i.size=size) (hby:i.bytes=bytes) (hzs:z.cells.size=size) (hsz:0<size)
    (B:Nat) (hB:B<=w.heap.size) (v:Value) (n:Nat) (xs:List Value) (hs:a.eval s=v) (aH:w.ownsRow B e size v n xs)
    (b off m c:Nat) (news:List Value) (hx:a.eval x=.slice (some ⟨b,off,none⟩) m c) (hl:news.length=m*size) (hnews:∀j u,news[j]? =some u->w.cell? ⟨b,off+j,none⟩=some u) (h1:∀u∈news,u.oneCell'=true)
    (h63:n+m<=maxLen) (hbytes:(n+m)*bytes<=140737488355328)
    (h:∀a' cap w',w'.ownsRow B e size (.slice a' (n+m) cap) (n+m) (xs++news)->w.grownBy w' v.ownBlock->K (.slice a' (n+m) cap) w'):bl P K ((execOp a.eval o).run P w):=by
 rcases zJ8 m with h0 | h0
 . subst h0;have xe:news=[]:=zX2 (by omega);subst xe;have jm:Src P i.size t (.slice (some ⟨b,off,none⟩) 0 c) 0 [] w:=Src.ofSlice w ht ⟨b,off,none⟩ 0 c [] (by simp) (fun j u hj=>by simp at hj) (fun u hu=>by cases hu);have hb:∃a' bo,v=.slice a' n bo/\n<=bo:=by
    rcases aH.2 with⟨rfl,h2⟩ | ⟨b,c,cur,rfl,_,_,h4,_⟩
    . subst h2;exact⟨_,_,rfl,zZ3 _⟩
    . exact⟨_,_,rfl,h4⟩
   obtain⟨a',bo,rfl,hc⟩:=hb;have hr:=run_append_nothing w t t o.type e i ht hi a' n bo hc _ jm;unfold execOp;simp only[ho,resolve,invoke,builtin,Sem.run_bind,Sem.run_pure,Result.andThen_ok,yK8,zJ5,yQ5,hs,hx,hr];exact h a' bo w (by simpa using aH) ⟨rfl,rfl,rfl,zZ3 _,fun _ _ _=>rfl⟩
 . obtain⟨g,cap,w',hr,h2,h3,h4,h5⟩:=run_append_lies (P:=P) (w:=w) t o.type B e i z size bytes ht hi hz hsize hby hzs hsz v n xs aH ⟨b,off,none⟩ m c news hl (fun j u hj=>by rw[Addr.add_lit];exact hnews j u hj) h1 h0 h63 hbytes hB w.heap.size rfl;unfold execOp;simp only[ho,resolve,invoke,builtin,Sem.run_bind,Sem.run_pure,Result.andThen_ok,yK8,zJ5,yQ5,hs,hx,hr];exact h _ _ w' h2 h3
end
structure Xu (y:World)(X:List Sh)(n j:Nat)(L:Nat->Bool)(f:Nat->Value)(x:World):Prop where
 a:L 8=true->L 1=true
 b:L 16=true->L 8=true
 g:ae y x
 k1:L 1=true->L 8=false->x.ownsRow y.heap.size 161 5 (f 1) 0 []
 k8:L 8=true->L 16=false->x.ownsRow y.heap.size 161 5 (f 8) (0+j) ([]++(dL X).take (j*5))
 Kg:L 16=true->x.ownsRow y.heap.size 161 5 (f 16) (0+j+(n - (j+1))) ([]++(dL X).take (j*5)++(dL X).drop ((j+1)*5))
theorem z2E {y x x':World}{e:TypeId}{k:Nat}{v:Value}{n:Nat}{xs:List Value}(g:ae y x)(h:x.ownsRow y.heap.size e k v n xs)(hg:x.grownBy x' v.ownBlock):ae y x':=
 ((g.only (fun j=>some j=v.ownBlock)).then (ar.ay hg)).ah (fun j hj=>(h.lt j hj.symm).1)
section
variable {w:World}{F:Nat->Prop}{mb:Nat}{s:bG}(h:fp w F mb s)(hk:AH s)(e:En)(hA:b7 w e)(hs:ly e)
include h hk hA hs
theorem y8r (at':Int)(jM:ft s e at'=true)(k3:e.ax=4)(i:Nat)(hi:i<s.xs.length)(hf:Pl.aK s.xs e.aj=(i:Nat))(j:Nat)(hj:j<s.xs.length)(nI:Pl.aK s.xs e.ak=(j:Nat)):
    Calls prog 61 #[.pointer (some ⟨mb,0,none⟩),e.agg,.int .i64 at'] w fun r w'=>r=.returned (.bool true)/\oA w F mb ⟨Pl.kJ s.xs i j (Pl.aW (Pl.fJ (ai s.xs i).lo (ai s.xs i).hi) (Pl.fJ (ai s.xs j).lo (ai s.xs j).hi) (ai s.xs i).lo (ai s.xs i).hi (ai s.xs j).lo (ai s.xs j).hi) at',s.us,s.ne+1,s.evs++ja at' e⟩ w':=by
 have HC:=Sw h hk e hA hs;have ic:=af (fun W (g:ae w W)=>LF (h.ah g) (zZ6 hk.few (by decide)) e.aj);have oK:=hs.key;have jT:=hk.few;have DX:=hk.us;have hne:=hk.ne;have hsz:=hk.sz _ (k7 s.xs i hi);have Kh:=hk.sz _ (k7 s.xs j hj);have nC:=af (fun W (g:ae w W)=>LF (h.ah g) (zZ6 hk.few (by decide)) e.ak);have hap:=jM;unfold ft at hap;simp only[zZ7,wZ2]at hap;obtain⟨⟨hc,ha0⟩,ha1⟩:=hap;have rr:¬at'<0:=by omega
 have ru:¬4095<at':=by omega
 have g0:decide (at'<0)=false:=wZ6 rr;have g1:decide (4095<at')=false:=wZ6 ru;rw[hc]at HC;obtain⟨xs,us,ne,evs⟩:=s;obtain⟨vl,vu,ve,h⟩:=h;dsimp only at *;obtain⟨b,cap,rfl,_,eT⟩:=h.row.form (by omega:0<xs.length);have c0:=h.bZ;have hb:=h.blt;have uk:b≠mb:=(h.aY b rfl).2;rw[hf]at ic;rw[nI]at nC;have TH:¬((j:Int)<0):=by omega
 have qd:(j:Int)<(xs.length:Int):=by omega
 have ql:=vw h rfl j hj 3 (by omega);have qh:=vw h rfl j hj 4 (by omega);have tu:¬((i:Int)<0):=by omega
 have BR:(i:Int)<(xs.length:Int):=by omega
 have rl:=vw h rfl i hi 3 (by omega);have rh:=vw h rfl i hi 4 (by omega);simp only[Sh.vals,zJ1,zJ2]at rl rh ql qh;have je:=af (fun W=>WO (ai xs i).lo (ai xs i).hi (ai xs j).lo (ai xs j).hi W hsz.1 hsz.2 Kh.1 Kh.2);unfold Sr at je;have Mr:=af hj;have HS:=af h;have HI:=af hi;have tB:Hid (∀j,F j->j<w.heap.size):=af h.lt;have HW:=af (eW.eC w e 36);have HV:=af (KQ at' e);have Hy:(ja at' e).length=13:=rfl;have Hz:Hid (ja at' e=.int .i64 at'::e.vals):=rfl;have b2:(e.ax==2)=false:=by rw[k3];rfl
 have b3:(e.ax==3)=false:=by rw[k3];rfl
 have b4:(e.ax==4)=true:=by rw[k3];rfl
 clear jM hc hA hf h hi hk hs k3 hsz Kh hj nI;generalize Pl.aW (Pl.fJ (ai xs i).lo (ai xs i).hi) (Pl.fJ (ai xs j).lo (ai xs j).hi) (ai xs i).lo (ai xs i).hi (ai xs j).lo (ai xs j).hi=jv at *;generalize Pl.bg (Pl.fJ (ai xs i).lo (ai xs i).hi) (Pl.fJ (ai xs j).lo (ai xs j).hi) (ai xs i).lo (ai xs i).hi (ai xs j).lo (ai xs j).hi=jn at *;obtain⟨lo,key⟩:=jv;dsimp only at je;generalize (ai xs i).lo=lo0 at *;generalize (ai xs i).hi=hi' at *;generalize (ai xs j).lo=tv at *;generalize (ai xs j).hi=ml at *;unfold En.agg at *;go_in;unfold En.vals at HC ⊢;go_wp2_with fail;refine(HC _ ((ae.rf w).alloc _)).mono ?_;rintro r w1 ⟨rfl,hg⟩;have hz:w.heap.size<w1.heap.size:=by have:=hg.size;simp at this;omega
 have HG:=af (((ae.rf w).alloc _).trans hg);have bM:=af (HW.ah hg (by simp));obtain⟨d0,d1,d2,d3,d4,d5,d6,d7,d8,d9,d10,d11⟩:=bM.cells;clear hg HC;go_wp2_with fail;refine(ic _ HG).mono ?_;rintro r w2 ⟨rfl,aP⟩;have cA:=af (HG.trans aP);have kT:=af (bM.ah aP hz);have hz2:w.heap.size<w2.heap.size:=xA9 hz aP.size;clear d0 d1 d2 d3 d4 d5 d6 d7 d8 d9 d10 d11 ic aP;obtain⟨d0,d1,d2,d3,d4,d5,d6,d7,d8,d9,d10,d11⟩:=kT.cells;have hb2:mb<w2.heap.size:=xA9 hb cA.size;have OU:b<w2.heap.size:=xA9 eT cA.size;go_wp2_with fail;refine(nC _ cA).mono ?_;rintro r w3 ⟨rfl,hg3⟩;have fI:=af (cA.trans hg3);have lY:=af (kT.ah hg3 hz2);have hz3:w.heap.size<w3.heap.size:=xA9 hz2 hg3.size;have hb3:mb<w3.heap.size:=xA9 hb fI.size;have TK:b<w3.heap.size:=xA9 eT fI.size;clear d0 d1 d2 d3 d4 d5 d6 d7 d8 d9 d10 d11 nC hg3;obtain⟨d0,d1,d2,d3,d4,d5,d6,d7,d8,d9,d10,d11⟩:=lY.cells;go_wp2_with fail;have C0:=bj ((fI.cells.1 _ _ hb).trans c0);have R3:=bj ((fI.cells.1 _ _ eT).trans rl);have R4:=bj ((fI.cells.1 _ _ eT).trans rh);have Q3:=bj ((fI.cells.1 _ _ eT).trans ql);have Q4:=bj ((fI.cells.1 _ _ eT).trans qh);clear d0 d1 d2 d3 d4 d5 d6 d7 d8 d9 d10 d11 rl rh ql qh c0
 -- s, _ := TS(..)
 refine jA 23 [20,21] (ae w3) ae (JV [⟨20,21,[.string lo,.string key]⟩] w3) (fun f a=>a.put (some 12) (f 20)) (JV.aX _ w3 _) (fun _ _ _ h=>h.ah) ae.rf (fun _ _ _ _ h g=>h.br g) ?_;repeat (first|refine iX ?_|(refine iZ ?_;intros;go_big_quiet_op;go_big_quiet_on)|(refine sx (fun _=>by kernel_rfl) (fun u hu=>je u) ?_;simp only[Act.put,xB9,xC9,xD9])|(refine iY ?_;simp only[Act.put,xB9,xC9,xD9]))
 refine vM ⟨⟨bL rfl (fun _ a=>a) ?_,bL rfl (fun f a=>a.put (some 12) (f 20)) ?_,trivial⟩,?_⟩
 . intro L f u hJ hL hd;clear je C0 R3 R4 Q3 Q4;go_simp;exact hJ.alloc (by rfl) (V:=⟨20,21,[.string lo,.string key]⟩) (by simp) hL [.string ⟨#[]⟩,.string ⟨#[]⟩] rfl _
 . intro L f u hJ hL hd;clear je C0 R3 R4 Q3 Q4;obtain⟨m,x,y,hm,k0,k1,f0,f1⟩:=hJ.two (V:=⟨20,21,[.string lo,.string key]⟩) (by simp) (hd 20 rfl (by decide)) rfl;dsimp only at hm;rw[hm];go_simp;exact hJ.store (by rfl) (V:=⟨20,21,[.string lo,.string key]⟩) (by simp) (hd 20 rfl (by decide)) hm
 intro f u hJ;clear je C0 R3 R4 Q3 Q4;obtain⟨m7,q7,n7,l7,a0,a1,_,_⟩:=(hJ.full (V:=⟨20,21,[.string lo,.string key]⟩) (by simp) rfl).two;dsimp only at q7;have qf:=af (fI.trans hJ.ah);have OV:=af (lY.ah hJ.ah hz3);have wR:w.heap.size<u.heap.size:=xA9 hz3 hJ.ah.size;clear hJ;rw[q7];clear q7;go_wp2_with fail
 -- m.Live[i].Span, m.Live[i].Since = a, at+1
 have gF:=af (HS.ah qf);have JZ:mb<u.heap.size:=xA9 hb qf.size;have QT:b<u.heap.size:=xA9 eT qf.size;have yD:b≠m7:=by omega
 have C0:=bu (S:=fun j=>j=b) gF.bZ (Ne.symm uk);have A0:=bu (S:=fun j=>j=b) a0 (Ne.symm yD);have A1:=bu (S:=fun j=>j=b) a1 (Ne.symm yD);have k2:=vw gF rfl i HI 2 (by omega);have k3:=vw gF rfl i HI 3 (by omega);have k4:=vw gF rfl i HI 4 (by omega);simp only[Sh.vals,zJ1,zJ2]at k2 k3 k4;have f2:u.frozen? ⟨b,i*5+2,none⟩=false:=gF.row.frozenAt _;have f3:u.frozen? ⟨b,i*5+3,none⟩=false:=gF.row.frozenAt _;have f4:u.frozen? ⟨b,i*5+4,none⟩=false:=gF.row.frozenAt _;have Fz:IntKind.i64.wrap (at'+1)=at'+1:=IntWalk.i64_in _ (by omega);refine jA 16 [15] (ar (fun j=>j=b) u) Eq (fun L _ x=>x=if L 15=true then(u.drew.setCell ⟨b,i*5+3,none⟩ (.string lo)).setCell ⟨b,i*5+4,none⟩ (.string key)else u.drew) (fun _ a=>a) rfl ?_ (fun _=>rfl) (fun _ _ _ _ h g=>g▸h) ?_
 . rintro L f x rfl;split
   . exact((ar.refl _ u).drew.then (ar.setCell _ ⟨b,i*5+3,none⟩ _)).then (ar.setCell _ ⟨b,i*5+4,none⟩ _)
   . exact(ar.refl _ u).drew
 repeat (first|refine iX ?_|(refine iZ ?_;intros;go_big_quiet_op;go_big_quiet_on)|(refine iY ?_;simp only[Act.put,xB9,xC9,xD9]))
 refine mi (by rfl) ⟨⟨bL rfl (fun _ a=>a) ?_,trivial⟩,?_⟩
 . rintro L f x rfl hL hd;rw[hL];clear C0 A0 A1 gF;go_simp
 rintro f x yE;have hx2:x=(u.drew.setCell ⟨b,i*5+3,none⟩ (.string lo)).setCell ⟨b,i*5+4,none⟩ (.string key):=yE;clear yE A0 A1;have C1:=C0 ⟨x,by rw[hx2];exact((ar.refl _ u).drew.then (ar.setCell _ ⟨b,i*5+3,none⟩ _)).then (ar.setCell _ ⟨b,i*5+4,none⟩ _)⟩;dsimp only at C1;have K2:x.cell? ⟨b,i*5+2,none⟩=some (.int .i64 (ai xs i).cJ):=by
  rw[hx2,World.cell?_setCell_other _ _ _ _ (by intro e;injection e with _ e;omega),World.cell?_setCell_other _ _ _ _ (by intro e;injection e with _ e;omega)];exact k2
 have F2:x.frozen? ⟨b,i*5+2,none⟩=false:=by
  rw[hx2,World.frozen?_setCell,World.frozen?_setCell];exact f2
 have HX:=af hx2;clear C0 k2 k3 k4 f2 f3 f4 hx2;dsimp only[List.drop];go_wp2_with fail
 -- m.Live = append(..)
 have HY:Hid (∃y,y=x.setCell ⟨b,i*5+2,none⟩ (.int .i64 (at'+1))/\fS y F mb (.slice (some ⟨b,0,none⟩) xs.length cap) vu ve (xs.set i ⟨(ai xs i).id,(ai xs i).aq,at'+1,lo,key⟩) us ne evs/\ar (fun j=>j=b) u y):=by
  refine⟨_,rfl,?_,?_⟩
  . rw[HX.out];exact(gF.ah (ae.rf u).drew).yB i HI lo key (at'+1)
  . rw[HX.out];exact(((ar.refl _ u).drew.then (ar.setCell _ ⟨b,i*5+3,none⟩ _)).then (ar.setCell _ ⟨b,i*5+4,none⟩ _)).then (ar.setCell _ ⟨b,i*5+2,none⟩ _)
 obtain⟨y,hy,uI,jL⟩:=HY.out;rw[<-hy];have mJ:=af uI;have Hx:=af jL;have pZ:w.heap.size≠b:=by omega
 have AJ:¬F w.heap.size:=fun h=>yX2 _ (tB.out _ h);have Sy:=af (OV.only jL wR pZ);have yF:w.heap.size<y.heap.size:=xA9 wR jL.size;have AK:mb<y.heap.size:=xA9 JZ jL.size;clear hy HY uI jL HX K2 F2 C1 gF a0 a1 OV;have vS:(xs.set i ⟨(ai xs i).id,(ai xs i).aq,at'+1,lo,key⟩).length=xs.length:=zX8;have Ck:=af vS;clear vS;have bK:xs.length<=cap:=by
  have:=mJ.row;rw[Ck.out]at this;rcases this.2 with⟨h1,_⟩ | ⟨_,c',_,h1,_,_,h2,_⟩
  . cases h1
  . cases h1;exact h2
 have hw2:IntKind.i64.wrap ((j:Int)+1)=(j:Int)+1:=IntWalk.i64_in _ (by omega);have j0G:(j:Int)<=(xs.length:Int):=by omega
 have j0b:(j:Int)+1<=(xs.length:Int):=by omega
 obtain⟨X,hX⟩:∃X,X=xs.set i ⟨(ai xs i).id,(ai xs i).aq,at'+1,lo,key⟩:=⟨_,rfl⟩
 have VP:=af hX;rw[<-hX]at mJ Ck;clear hX;have gI:=af (fun x (g:ae y x) (m:Nat) (u:Value) (hm:(dL X)[m]? =some u)=>show x.cell? ⟨b,m,none⟩=some u by
  have h1:=(mJ.ah g).row;rw[Ck.out]at h1;have h2:=(zQ9.1 hm).1;rw[sr,Ck.out]at h2;exact(h1.cellAt m h2).trans hm)
 have C2:=bj mJ.bZ;obtain⟨i0,dA,hz0,hz1,hz3⟩:=wZ8 WT;refine jA 17 [1,8,16] (ae y) Eq (Xu y X xs.length j) (fun f a=>((a.put (some 149) (f 1)).put (some 156) (f 8)).put (some 164) (f 16)) ⟨fun h=>(by cases h),fun h=>(by cases h),(ae.rf y).drew,fun h=>(by cases h),fun h=>(by cases h),fun h=>(by cases h)⟩ (fun _ _ _ h=>h.g) (fun _=>rfl) (fun _ _ _ _ h g=>g▸h) ?_;repeat (first|refine iX ?_|(refine iZ ?_;intros;go_big_quiet_op;go_big_quiet_on)|(refine iY ?_;simp only[Act.put,xB9,xC9,xD9]))
 refine mi (by rfl) ⟨⟨bL rfl (fun _ a=>a) ?_,bL rfl (fun f a=>a.put (some 149) (f 1)) ?_,bL rfl (fun f a=>a.put (some 156) (f 8)) ?_,trivial⟩,?_⟩
 . rintro L f x ⟨o1,o2,hG,k1,k8,Kg⟩ hL hd;clear C2;have LM:L 8=false:=by
    cases h:L 8 with
    | false=>rfl
    | true=>rw[o1 h]at hL;cases hL
   have pg:L 16=false:=by
    cases h:L 16 with
    | false=>rfl
    | true=>rw[o2 h]at LM;cases LM
   have HG:=af hG;have Pf:=af (And.intro LM pg);clear o1 o2 hG k1 k8 Kg hd hL LM pg;go_simp;obtain⟨LM,pg⟩:=Pf.out;refine⟨fun _=>rfl,fun h=>?_,HG.alloc _,fun _ _=>?_,fun h=>?_,fun h=>?_⟩
   . have h':L 16=true:=(by simpa[plus]using h);rw[pg]at h';cases h'
   . rw[fY];exact oI (cur:=[]) HG.size (wZ0 x _) (zZ3 _) (by decide) rfl rfl
   . have h':L 8=true:=(by simpa[plus]using h);rw[LM]at h';cases h'
   . have h':L 16=true:=(by simpa[plus]using h);rw[pg]at h';cases h'
 . rintro L f x ⟨o1,o2,hG,k1,k8,Kg⟩ hL hd;clear C2;have h1:=hd 1 rfl (by decide);have pg:L 16=false:=by
    cases h:L 16 with
    | false=>rfl
    | true=>rw[o2 h]at hL;cases hL
   have HR:=af (k1 h1 hL);have HG:=af hG;refine y5q _ _ _ rfl 161 i0 _ 5 56 underlying152 dA hz0 hz1 hz3 Sx (by omega) y.heap.size HG.size (f 1) 0 [] rfl HR b 0 j cap ((dL X).take (j*5)) rfl ?_ ?_ ?_ (by unfold maxLen;omega) (by omega) ?_
   . rw[zZ9,sr,Ck.out];exact yQ8 (xQ9 _ (Nat.le_of_lt Mr))
   . intro m u hm;rw[zQ2];rw[zX5]at hm;split at hm
     . exact gI x HG m u hm
     . cases hm
   . intro u hu;exact KG X u (yZ2 hu)
   . intro a' bo w' hD hgr;have J7:=z2E HG HR hgr;refine⟨fun _=>?_,fun h=>?_,J7,fun _ h=>?_,fun _ _=>?_,fun h=>?_⟩
     . simpa[plus]using h1
     . have h':L 16=true:=(by simpa[plus]using h);rw[pg]at h';cases h'
     . simp[plus]at h
     . rw[fY];exact hD
     . have h':L 16=true:=(by simpa[plus]using h);rw[pg]at h';cases h'
 . rintro L f x ⟨o1,o2,hG,k1,k8,Kg⟩ hL hd;clear C2;have h8:=hd 8 rfl (by decide);have h1:=o1 h8;have HR:=af (k8 h8 hL);have HG:=af hG;refine y5q _ _ _ rfl 161 i0 _ 5 56 underlying152 dA hz0 hz1 hz3 Sx (by omega) y.heap.size HG.size (f 8) (0+j) ([]++(dL X).take (j*5)) rfl HR b (if cap=j+1 then 0 else(j+1)*5) (xs.length - (j+1)) (cap - (j+1)) ((dL X).drop ((j+1)*5)) ?_ ?_ ?_ ?_ (by unfold maxLen;omega) (by omega) ?_
   . by_cases SH:cap=j+1
     . have hx0:xs.length=j+1:=(by omega);rw[zZ1 SH];go_simp
     . rw[zZ0 SH];go_simp
   . rw[zK1,sr,Ck.out];omega
   . intro m u hm;by_cases SH:cap=j+1
     . have h2:=(zQ9.1 hm).1;rw[zK1,sr,Ck.out]at h2;omega
     . rw[zZ0 SH];rw[zK7]at hm;exact gI x HG _ u hm
   . intro u hu;exact KG X u (zK6 hu)
   . intro a' bo w' hD hgr;have J7:=z2E HG HR hgr;refine⟨fun _=>?_,fun _=>?_,J7,fun _ h=>?_,fun _ h=>?_,fun _=>?_⟩
     . simpa[plus]using h1
     . simpa[plus]using h8
     . have h':L 8=false:=(by simpa[plus]using h);rw[h8]at h';cases h'
     . simp[plus]at h
     . rw[fY];exact hD
 rintro f x ⟨_,_,hG,_,_,Kg⟩;have r16:=Kg rfl;clear C2 Kg;obtain⟨r,hr⟩:∃r,r=f 16:=⟨_,rfl⟩
 rw[<-hr]at r16 ⊢;clear hr;obtain⟨ra,rn,rc,hre⟩:∃ra rn rc,r=.slice ra rn rc:=by
  rcases r16.2 with⟨e,_⟩ | ⟨g,cp,cur,e,_⟩
  . exact⟨_,_,_,e⟩
  . exact⟨_,_,_,e⟩
 subst hre;generalize f 8=r8;generalize f 1=r1;have eN:ar (fun k=>some k=some b) y x:=hG.only _;have C3:x.cell? ⟨mb,0,none⟩=some (.slice (some ⟨b,0,none⟩) xs.length cap):=(hG.cells.1 _ _ AK).trans mJ.bZ;have F3:x.frozen? ⟨mb,0,none⟩=false:=(eN.frozen AK (fun h=>uk (Option.some.inj h).symm) 0).trans (mJ.fz 0 (by omega));have uW:Pl.kJ xs i j (lo,key) at'=X.take j++X.drop (j+1):=by rw[VP.out];rfl
 have Pw:(Pl.kJ xs i j (lo,key) at').length=0+j+(xs.length - (j+1)):=by
  have h1:=Ck.out;have h2:=Mr.out;rw[uW,zZ4,zZ9,zK1,h1,zQ2,yQ8 (Nat.le_of_lt h2)]
 have HT:=af (mJ.jK eN (r:=.slice ra rn rc) (ys:=Pl.kJ xs i j (lo,key) at') (fun g hg=> .inr (r16.lt g hg).1) (by
  rw[Pw,uW,Cu,Qy,Qz];have:=mg (zZ5 _) r16;rw[zK8]at this;exact this))
 have zR:=af (Sy.ah hG yF);have vO:w.heap.size<x.heap.size:=xA9 yF eN.size;clear r16 hG eN uW Pw;dsimp only[List.drop];go_wp2_with fail
 -- m.J1 = append(..)
 all_goals (
 obtain⟨v,AO⟩:∃v,v=x.setCell ⟨mb,0,none⟩ (.slice ra rn rc):=⟨_,rfl⟩
 rw[<-AO];rw[<-AO]at HT;have WW:=af (show eW v w.heap.size e by
  rw[AO];exact zR.only (ar.setCell x ⟨mb,0,none⟩ _) vO (fun h=>by subst h;exact absurd hb (yX2 _)))
 have hzv:w.heap.size<v.heap.size:=by rw[AO];simpa using vO
 clear AO C3 F3;obtain⟨ov,F3,⟨vl3,vu3,iT,AP⟩,J2⟩:=HT.out;have J4:¬F3 w.heap.size:=fun h=>by
  rcases J2 _ h with h | h
  . exact AJ h
  . omega
 have AQ:=af AP;have WX:=af J2;have WY:=af ov;have b9:¬some w.heap.size=iT.ownBlock:=fun h=>J4 (AP.dm _ h.symm).1;have iA:¬some mb=iT.ownBlock:=fun h=>(AP.dm _ h.symm).2.1 rfl;have nL:mb<v.heap.size:=AP.blt;clear AP J2 ov HT;have um:Hid (ar F w y/\∀j,F3 j->F j\/w.heap.size<=j):=by
  have o0:ar F w y:=(qf.only F).then (Hx.mono fun j hj=> .inl (by subst hj;exact(HS.aY j rfl).1));refine⟨o0,fun j hj=>?_⟩;rcases WX.out j hj with h | h
  . exact .inl h
  . exact .inr (zZ6 o0.size h)
 obtain⟨d0,d1,d2,d3,d4,d5,d6,d7,d8,d9,d10,d11⟩:=WW.cells;have C0:=bu (S:=fun j=>some j=iT.ownBlock) AQ.ev iA;have D0:=bu (S:=fun j=>some j=iT.ownBlock) d0 b9;have D1:=bu (S:=fun j=>some j=iT.ownBlock) d1 b9;have D2:=bu (S:=fun j=>some j=iT.ownBlock) d2 b9;have D3:=bu (S:=fun j=>some j=iT.ownBlock) d3 b9;have D4:=bu (S:=fun j=>some j=iT.ownBlock) d4 b9;have D5:=bu (S:=fun j=>some j=iT.ownBlock) d5 b9;have D6:=bu (S:=fun j=>some j=iT.ownBlock) d6 b9;have D7:=bu (S:=fun j=>some j=iT.ownBlock) d7 b9;have D8:=bu (S:=fun j=>some j=iT.ownBlock) d8 b9;have D9:=bu (S:=fun j=>some j=iT.ownBlock) d9 b9;have tD:=bu (S:=fun j=>some j=iT.ownBlock) d10 b9;have tE:=bu (S:=fun j=>some j=iT.ownBlock) d11 b9;clear d0 d1 d2 d3 d4 d5 d6 d7 d8 d9 d10 d11;obtain⟨i2,ml,hx0,hx1,hx3⟩:=wZ8 z0d;refine jA 10 [8,9] (ar (fun j=>some j=iT.ownBlock) v) Eq (fL 157 8 9 v (ja at' e) (lR 157 13 iT ne evs (ja at' e))) (fun f a=>(a.put (some 175) (f 8)).put (some 176) (f 9)) (fL.aX v) (fun L f x h=>h.only fun _ _ _ h=>h.only) (fun _=>rfl) (fun _ _ _ _ h g=>g▸h) ?_;repeat (first|refine iX ?_|(refine iZ ?_;intros;go_big_quiet_op;go_big_quiet_on)|(refine iY ?_;simp only[Act.put,xB9,xC9,xD9]))
 refine mi (by rfl) ⟨⟨bL rfl (fun _ a=>a) ?_,bL rfl (fun f a=>a.put (some 175) (f 8)) ?_,trivial⟩,?_⟩
 . intro L f x hJ hL hd;clear C0 D0 D1 D2 D3 D4 D5 D6 D7 D8 D9 tD tE;have hm:=hJ.make (by decide) hL;have ky:=af hm;clear hm hJ;rw[Hz.out]at ky;unfold En.vals at ky;go_simp;exact ky.out
 . intro L f x hJ hL hd;clear C0 D0 D1 D2 D3 D4 D5 D6 D7 D8 D9 tD tE;have h8:=hd 8 rfl (by decide);obtain⟨vb,q8,yI,dP⟩:=hJ.made h8 hL;refine CG _ _ _ rfl 157 i2 _ 13 144 underlying154 ml hx0 hx1 hx3 QZ (by omega) iT ne evs rfl ?_ vb 1 (ja at' e) ?_ Hy dP HV (by unfold maxLen;omega) (by omega) ?_
   . exact gP (hJ.ah hL) AQ.iL
   . exact q8
   . intro r w' hD;exact hJ.call (by decide) hL h8 hD
 rintro f x hJ;clear C0 D0 D1 D2 D3 D4 D5 D6 D7 D8 D9 tD tE;obtain⟨x0,qO,g5,c5,q9,aJ,hgr,hat⟩:=hJ.done rfl;rw[q9];have eN:ar (fun j=>some j=iT.ownBlock) v x:=(qO.only _).then (ar.ay hgr);have C3:x.cell? ⟨mb,2,none⟩=some iT:=(eN.cell nL iA 2).trans AQ.ev;have F4:x.frozen? ⟨mb,2,none⟩=false:=(eN.frozen nL iA 2).trans (AQ.fz 2 (by omega));have HT:=af (AQ.nK eN (r:=.slice (some ⟨g5,0,none⟩) (ne+1) c5) (fun g hg=>by
  cases hg;rcases hat with h | h
  . exact .inl h
  . exact .inr (by rw[h];exact qO.size)) aJ)
 clear hJ q9 aJ hgr hat eN qO;dsimp only[List.drop];go_wp2_with fail;go_ret;refine⟨rfl,?_⟩;refine oA.trans (F1:=F3) (w1:=v) ?_ um.2 HT;exact um.1.trans WY (fun _=> .inl))
end
end
namespace Pl
theorem y8a {t:bG}{e:En}(h:ji t e=true):∃i,i<t.xs.length/\aK t.xs e.aj=(i:Nat)/\j7 t.xs e=i/\
    (e.ax=2\/(e.ax=3/\eA (fJ (ai t.xs i).lo (ai t.xs i).hi) (aT e.key) (fN (ai t.xs i).lo (ai t.xs i).hi e.key) (ai t.xs i).lo e.key=0)\/
     (e.ax=4/\∃j,j<t.xs.length/\aK t.xs e.ak=(j:Nat)/\pU t.xs e=j)):=by
 unfold ji at h;by_cases hr:cK e=false
 . rw[zZ1 hr]at h;cases h
 . rw[zZ0 hr]at h;rcases Ss t.xs e.aj with hf | ⟨i,hi,hf⟩
   . rw[hf,zZ1 (by decide)]at h;cases h
   . rw[hf,zZ0 (by omega),zQ3]at h;refine⟨i,hi,hf,by unfold j7;rw[hf];rfl,?_⟩;by_cases k2:e.ax=2
     . exact .inl k2
     . rw[zZ0 k2]at h;by_cases k3:e.ax=3
       . rw[zZ1 k3]at h;refine .inr (.inl ⟨k3,?_⟩);simp only[zZ7,yJ0]at h;obtain⟨⟨_,h1⟩,h2⟩:=h;have hk:=h1;unfold fN at hk;simp only[zZ7]at hk;have h3:aT e.key=0:=wQ3 hk.1.1.2;unfold eA;rw[h1,hk.1.1.1,h3,zZ0 (by decide),zZ0 (by decide),zZ0];rintro (h4 | h4)
         . cases h4
         . rw[h4]at h2;simp at h2
       . rw[zZ0 k3]at h;by_cases k4:e.ax=4
         . rw[zZ1 k4]at h;rcases Ss t.xs e.ak with hg | ⟨j,hj,hg⟩
           . rw[hg,zZ1 (by decide)]at h;cases h
           . exact .inr (.inr ⟨k4,j,hj,hg,by unfold pU;rw[hg];rfl⟩)
         . rw[zZ0 k4]at h;cases h
end Pl
theorem SI {w:World}{F:Nat->Prop}{mb:Nat}{s:bG}(h:fp w F mb s)(hk:AH s)(e:En)(hA:b7 w e)(hs:ly e)(at':Int):
    Calls prog 61 #[.pointer (some ⟨mb,0,none⟩),e.agg,.int .i64 at'] w fun r w'=>r=.returned (.bool (ft s e at'))/\oA w F mb (Pl.fw s e at') w':=by
 cases hap:ft s e at' with
 | false=>
  refine(z3W h hk e hA hs at' hap).mono ?_;rintro r w' ⟨rfl,g⟩;refine⟨rfl,?_⟩;unfold Pl.fw;rw[zZ0 (by rw[hap];simp)];exact oA.dw h g
 | true=>
  have hc:Pl.ji s e=true:=by unfold ft at hap;simp only[zZ7]at hap;exact hap.1.1
  obtain⟨i,hi,hf,gL,jC⟩:=y8a hc;have e0:Pl.fw s e at'=Pl.J8 s e at':=by unfold Pl.fw;rw[zZ1 hap]
  rw[e0];unfold Pl.J8;rcases jC with k2 | ⟨k3,hcut⟩ | ⟨k4,j,hj,nI,qQ⟩
  . rw[zZ1 k2,gL];exact z0v h hk e hA hs at' hap k2 i hi hf
  . rw[zZ0 (by omega),zZ1 k3,gL];exact y8u h hk e hA hs at' hap k3 i hi hf hcut
  . rw[zZ0 (by omega),zZ0 (by omega),gL,qQ];exact y8r h hk e hA hs at' hap k4 i hi hf j hj nI
end Go.Proofs.YtgegogoanbamfaaGreatDoor
