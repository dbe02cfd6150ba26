/- Part 9. -/
import Derived.Test.YtgegogoanbamfaaGreatDoorFinAuditPlaysQ2
import Derived.Test.YtgegogoanbamfaaGreatDoorFinAuditPlaysQ6
set_option linter.unusedVariables false
set_option linter.unusedSectionVars false
set_option linter.unusedSimpArgs false
set_option maxRecDepth 100000
set_option maxHeartbeats 16000000
namespace Go.Proofs.YtgegogoanbamfaaGreatDoor
namespace Pl
end Pl
open Pl Go.Proofs.Tryz Go.RowKit Go.Maps
attribute [local go_sem] Oper.semAt_some
section
def uG (w:World)(F:Nat->Prop)(sb:Nat)(ys:List Sh)(aD:Nat->Bool)(ne:Nat)(evs:List Value)(w':World):Prop:=ar F w w'/\∃F',gR w' F' sb ys aD ne evs/\∀j,F' j->F j\/w.heap.size<=j
section
variable {w u:World}{F:Nat->Prop}{sb:Nat}{v ve:Value}{xs ys:List Sh}{aD:Nat->Bool}{ne:Nat}{evs:List Value}
theorem uG.trans {w1 w2:World}{F1:Nat->Prop}{Y9:List Sh}{FB:Nat->Bool}{Za:Nat}{Mn:List Value}(o1:ar F w w1)(iu:∀j,F1 j->F j\/w.heap.size<=j)(h:uG w1 F1 sb Y9 FB Za Mn w2):uG w F sb Y9 FB Za Mn w2:=by
 obtain⟨h1,F',h2,h3⟩:=h;refine⟨o1.trans h1 iu,F',h2,fun j hj=>?_⟩;rcases h3 j hj with h | h
 . exact iu j h
 . exact .inr (zZ6 o1.size h)
theorem fK.jJ (h:fK w F sb v ve xs aD ne evs)(ho:ar (fun j=>some j=v.ownBlock) w u)(hr:u.ownsRow 0 100 5 v ys.length (dL ys))(hsz:∀c∈ys,c.lo.size<=70368744177664/\c.hi.size<=70368744177664):fK u F sb v ve ys aD ne evs:=by
 have n0:¬some sb=v.ownBlock:=fun e=>(h.aY sb e.symm).2 rfl;refine⟨(ho.cell h.blt n0 0).trans h.bZ,fun i hi=>(ho.cell h.blt n0 _).trans (h.aD i hi),(ho.cell h.blt n0 _).trans h.ev,fun i hi=>(ho.frozen h.blt n0 _).trans (h.fz i hi),hr,?_,hsz,h.bH,h.aY,h.bR,fun j hj=>xA9 (h.lt j hj) ho.size,h.nil⟩;exact kH ho h.iL (fun b hb e=>(h.bR b hb).2.2 e.symm)
theorem QO (xs:List Sh)(i:Nat)(hi:i<xs.length)(c:Sh):dL (xs.set i c)=(dL xs).take (i*5)++c.vals++(dL xs).drop ((i+1)*5):=by
 rw[xJ7,zZ1 hi,Cu,<-Qy,<-Qz,zQ7];congr 1
theorem qE (h:fK w F sb v ve xs aD ne evs){b cap:Nat}(hv:v=.slice (some ⟨b,0,none⟩) xs.length cap)(i:Nat)(hi:i<xs.length)(k:Nat)(hk:k<5):w.cell? ⟨b,i*5+k,none⟩=(ai xs i).vals[k]? :=by
 subst hv;have:=h.row.cellAt (i*5+k) (by omega);rw[mF k hk xs i hi]at this;exact this
theorem fK.yB {b cap:Nat}(h:fK w F sb (.slice (some ⟨b,0,none⟩) xs.length cap) ve xs aD ne evs)(i:Nat)(hi:i<xs.length)(lo hi':ByteArray)(n:Int)(sy:lo.size<=70368744177664)(tx:hi'.size<=70368744177664):
    fK (((w.setCell ⟨b,i*5+3,none⟩ (.string lo)).setCell ⟨b,i*5+4,none⟩ (.string hi')).setCell ⟨b,i*5+2,none⟩ (.int .i64 n)) F sb (.slice (some ⟨b,0,none⟩) xs.length cap) ve (xs.set i ⟨(ai xs i).id,(ai xs i).aq,n,lo,hi'⟩) aD ne evs:=by
 obtain⟨r1,g1⟩:=h.row.stored (i*5+3) (.string lo);obtain⟨r2,g2⟩:=r1.stored (i*5+4) (.string hi');obtain⟨r3,g3⟩:=r2.stored (i*5+2) (.int .i64 n);have bK:(xs.set i ⟨(ai xs i).id,(ai xs i).aq,n,lo,hi'⟩).length=xs.length:=zX8;refine h.jJ ((ar.ay (g1.trans (g2.trans g3))).mono fun j hj=> .inl hj) ?_ ?_
 . rw[bK];have e:dL (xs.set i ⟨(ai xs i).id,(ai xs i).aq,n,lo,hi'⟩)=(((dL xs).set (i*5+3) (.string lo)).set (i*5+4) (.string hi')).set (i*5+2) (.int .i64 n):=by
    rw[QO xs i hi];have QP:(dL xs).length=xs.length*5:=sr xs;have g0:=mF 0 (by omega) xs i hi;have g1:=mF 1 (by omega) xs i hi;generalize ai xs i=c at *;obtain⟨c0,c1,c2,c3,c4⟩:=c;generalize dL xs=L at *;simp only[Sh.vals,zJ1,zJ2,zX9]at g0 g1;apply yQ7;intro j;rw[yQ4,yQ4,zX5,zK7,yZ6,yZ6,yZ6];simp only[zZ4,zZ9,zX8,Sh.vals,zQ6,zJ0];rw[yQ8 (show i*5<=L.length by omega)];by_cases h1:j<i*5
    . rw[zZ1 (by omega),zZ1 h1,zZ1 h1,zZ0 (by omega),zZ0 (by omega),zZ0 (by omega)]
    . by_cases h2:j=i*5
      . subst h2;rw[zZ1 (by omega),zZ0 h1,zZ0 (by omega),zZ0 (by omega),zZ0 (by omega),g0];simp
      . by_cases h3:j=i*5+1
        . subst h3;rw[zZ1 (by omega),zZ0 h1,zZ0 (by omega),zZ0 (by omega),zZ0 (by omega),g1];simp
        . by_cases h4:j=i*5+2
          . subst h4;rw[zZ1 (by omega),zZ0 h1,zZ1 rfl,zZ1 (by omega)];simp
          . by_cases h5:j=i*5+3
            . subst h5;rw[zZ1 (by omega),zZ0 h1,zZ0 (by omega),zZ0 (by omega),zZ1 rfl,zZ1 (by omega)];simp
            . by_cases h6:j=i*5+4
              . subst h6;rw[zZ1 (by omega),zZ0 h1,zZ0 (by omega),zZ1 rfl,zZ1 (by omega)];simp
              . rw[zZ0 (by omega),zZ0 (by omega),zZ0 (by omega),zZ0 (by omega)];congr 1;omega
   rw[e];exact r3
 . intro c hc;rcases xK5 hc with hc | rfl
   . exact h.sz c hc
   . exact⟨sy,tx⟩
theorem fK.Hv {b cap:Nat}(h:fK w F sb (.slice (some ⟨b,0,none⟩) xs.length cap) ve xs aD ne evs)(i:Nat)(hi:i<xs.length)(n:Int):
    fK (w.setCell ⟨b,i*5+1,none⟩ (.int .i64 n)) F sb (.slice (some ⟨b,0,none⟩) xs.length cap) ve (xs.set i ⟨(ai xs i).id,n,(ai xs i).cJ,(ai xs i).lo,(ai xs i).hi⟩) aD ne evs:=by
 obtain⟨r1,g1⟩:=h.row.stored (i*5+1) (.int .i64 n);have bK:(xs.set i ⟨(ai xs i).id,n,(ai xs i).cJ,(ai xs i).lo,(ai xs i).hi⟩).length=xs.length:=zX8;refine h.jJ ((ar.ay g1).mono fun j hj=> .inl hj) ?_ ?_
 . rw[bK];have e:dL (xs.set i ⟨(ai xs i).id,n,(ai xs i).cJ,(ai xs i).lo,(ai xs i).hi⟩)=(dL xs).set (i*5+1) (.int .i64 n):=by
    rw[QO xs i hi];have QP:(dL xs).length=xs.length*5:=sr xs;have g0:=mF 0 (by omega) xs i hi;have g2:=mF 2 (by omega) xs i hi;have g3:=mF 3 (by omega) xs i hi;have g4:=mF 4 (by omega) xs i hi;generalize ai xs i=c at *;obtain⟨c0,c1,c2,c3,c4⟩:=c;generalize dL xs=L at *;simp only[Sh.vals,zJ1,zJ2,zX9]at g0 g2 g3 g4;apply yQ7;intro j;rw[yQ4,yQ4,zX5,zK7,yZ6];simp only[zZ4,zZ9,Sh.vals,zQ6,zJ0];rw[yQ8 (show i*5<=L.length by omega)];by_cases h1:j<i*5
    . rw[zZ1 (by omega),zZ1 h1,zZ1 h1,zZ0 (by omega)]
    . by_cases h2:j=i*5
      . subst h2;rw[zZ1 (by omega),zZ0 h1,zZ0 (by omega),g0];simp
      . by_cases h3:j=i*5+1
        . subst h3;rw[zZ1 (by omega),zZ0 h1,zZ1 rfl,zZ1 (by omega)];simp
        . by_cases h4:j=i*5+2
          . subst h4;rw[zZ1 (by omega),zZ0 h1,zZ0 (by omega),g2];simp
          . by_cases h5:j=i*5+3
            . subst h5;rw[zZ1 (by omega),zZ0 h1,zZ0 (by omega),g3];simp
            . by_cases h6:j=i*5+4
              . subst h6;rw[zZ1 (by omega),zZ0 h1,zZ0 (by omega),g4];simp
              . rw[zZ0 (by omega),zZ0 (by omega)];congr 1;omega
   rw[e];exact r1
 . intro c hc;rcases xK5 hc with hc | rfl
   . exact h.sz c hc
   . exact h.sz (ai xs i) (k7 xs i hi)
theorem fK.jK (h:fK w F sb v ve xs aD ne evs)(ho:ar (fun j=>some j=v.ownBlock) w u){r:Value}(cF:∀g,r.ownBlock=some g->v.ownBlock=some g\/w.heap.size<=g)(hr:u.ownsRow 0 100 5 r ys.length (dL ys))(hsz:∀c∈ys,c.lo.size<=70368744177664/\c.hi.size<=70368744177664):
    uG w F sb ys aD ne evs (u.setCell ⟨sb,0,none⟩ r):=by
 have n0:¬some sb=v.ownBlock:=fun e=>(h.aY sb e.symm).2 rfl;have hb:=h.blt;have hb2:sb<u.heap.size:=xA9 hb ho.size;have hc:u.cell? ⟨sb,0,none⟩=some v:=(ho.cell hb n0 0).trans h.bZ;have o2:=ar.setCell u ⟨sb,0,none⟩ r;have yC:∀g,r.ownBlock=some g->g≠sb:=by
  intro g hg;rcases cF g hg with h1 | h1
  . exact(h.aY g h1).2
  . omega
 have az:∀g,r.ownBlock=some g->g<u.heap.size:=by
  intro g hg;rcases hr.2 with⟨e,_⟩ | ⟨b,c,cur,e,_,hh,_⟩
  . rw[e]at hg;cases hg
  . rw[e]at hg;cases hg;exact(zZ2.1 hh).1
 have qF:∀k,k≠0->(u.setCell ⟨sb,0,none⟩ r).cell? ⟨sb,k,none⟩=u.cell? ⟨sb,k,none⟩:=fun k hk=>World.cell?_setCell_other _ _ _ _ (fun e=>hk (by injection e with _ e2;exact e2.symm));refine⟨(ho.mono fun j hj=> .inl (h.aY j hj.symm).1).then (o2.mono fun j hj=> .inl (by subst hj;exact h.bH)),fun j=>F j\/r.ownBlock=some j,⟨r,ve,?_⟩,?_⟩
 . refine⟨by simp[World.cell?_setCell_same,hc],fun i hi=>?_,?_,fun i hi=>?_,?_,?_,hsz,.inl h.bH,fun g hg=>⟨.inr hg,yC g hg⟩,fun g hg=>?_,?_,h.nil⟩
   . rw[qF _ (by omega)];exact(ho.cell hb n0 _).trans (h.aD i hi)
   . rw[qF _ (by omega)];exact(ho.cell hb n0 _).trans h.ev
   . rw[World.frozen?_setCell];exact(ho.frozen hb n0 _).trans (h.fz i hi)
   . exact kH o2 hr (fun b hb e=>yC b hb e)
   . have he:=kH ho h.iL (fun b hb e=>(h.bR b hb).2.2 e.symm);exact kH o2 he (fun b hb e=>(h.bR b hb).2.1 e)
   . obtain⟨h1,h2,h3⟩:=h.bR g hg;refine⟨.inl h1,h2,fun e=>?_⟩;rcases cF g e with h4 | h4
     . exact h3 h4
     . have:=h.lt g h1;omega
   . intro j hj;rcases hj with hj | hj
     . exact xA9 (h.lt j hj) (zZ6 ho.size o2.size)
     . exact xA9 (az j hj) o2.size
 . intro j hj;rcases hj with hj | hj
   . exact .inl hj
   . rcases cF j hj with h1 | h1
     . exact .inl (h.aY j h1).1
     . exact .inr h1
theorem fK.nD (h:fK w F sb v ve xs aD ne evs)(k:Nat)(hk:k<13):fK (w.setCell ⟨sb,1+k,none⟩ (.bool true)) F sb v ve xs (fun j=>if j=k then true else aD j) ne evs:=by
 have ho:=ar.setCell w ⟨sb,1+k,none⟩ (.bool true);have qF:∀o,o≠1+k->(w.setCell ⟨sb,1+k,none⟩ (.bool true)).cell? ⟨sb,o,none⟩=w.cell? ⟨sb,o,none⟩:=fun o hne=>World.cell?_setCell_other _ _ _ _ (fun e=>hne (by injection e with _ e2;exact e2.symm));refine⟨by rw[qF _ (by omega)];exact h.bZ,fun i hi=>?_,by rw[qF _ (by omega)];exact h.ev,fun i hi=>by rw[World.frozen?_setCell];exact h.fz i hi,kH ho h.row (fun b hb e=>(h.aY b hb).2 e),kH ho h.iL (fun b hb e=>(h.bR b hb).2.1 e),h.sz,h.bH,h.aY,h.bR,fun j hj=>xA9 (h.lt j hj) ho.size,h.nil⟩;by_cases hik:i=k
 . subst hik;rw[zZ1 rfl];have:=h.aD i hi;simp[World.cell?_setCell_same,this]
 . rw[zZ0 hik,qF _ (by omega)];exact h.aD i hi
end
end
section
attribute [local go_sem] bl
namespace Pl
def kz (xs:List Sh)(i:Nat)(key:ByteArray)(ak aq at':Int):List Sh:=
 xs.take i++[⟨(ai xs i).id,(ai xs i).aq,at'+1,(ai xs i).lo,key⟩,⟨ak,aq,at'+1,key,(ai xs i).hi⟩]++xs.drop (i+1)
theorem TL (xs:List Sh)(i:Nat)(hi:i<xs.length)(key:ByteArray)(ak aq at':Int):
    kz xs i key ak aq at'=(xs.set i ⟨(ai xs i).id,(ai xs i).aq,at'+1,(ai xs i).lo,key⟩).take (i+1)++[⟨ak,aq,at'+1,key,(ai xs i).hi⟩]++(xs.set i ⟨(ai xs i).id,(ai xs i).aq,at'+1,(ai xs i).lo,key⟩).drop (i+1):=by
 unfold kz;rw[xJ7,zZ1 hi];have e:(xs.take i).length=i:=by rw[zZ9];omega
 generalize xs.take i=A at *;generalize xs.drop (i+1)=B;have e1:i+1 - i=1:=by omega
 have e2:A.take (i+1)=A:=zJ3 (by omega);have e3:A.drop (i+1)=[]:=yZ9 (by omega);rw[List.take_append,List.drop_append,e,e1,e2,e3];simp
theorem QQ (xs:List Sh)(i:Nat)(hi:i<xs.length)(key:ByteArray)(ak aq at':Int):(kz xs i key ak aq at').length=xs.length+1:=by
 unfold kz;simp;omega
def tz (aD:Nat->Bool)(k:Nat)(j:Nat):Bool:=if j=k then true else aD j
end Pl
section
variable {S:Nat->Bool}(hS:iM S)(E:Nat->Addr){w:World}(hE:bz S E w){F:Nat->Prop}{sb:Nat}{xs:List Sh}{aD:Nat->Bool}{ne:Nat}{evs:List Value}(h:gR w F sb xs aD ne evs)(hx:xs.length<=1000)(e:En)(bX:e.key.size<=70368744177664)
include hS hE h hx bX
theorem z6p (at':Int)(ha0:0<=at')(ha1:at'<1000000)(i:Nat)(hi:i<xs.length)(hf:Pl.aK xs e.aj=(i:Nat))(o1:1<=e.ak)(o2:e.ak<=12)(hcut:Pl.eA (Pl.bD (ai xs i).lo (ai xs i).hi) (Pl.aT e.key) (Pl.bk (ai xs i).lo (ai xs i).hi e.key) (ai xs i).lo e.key=0):
    Calls prog 70 #[.pointer (some ⟨sb,0,none⟩),e.agg,.int .i64 at'] w fun r w'=>r=.returned (.tuple #[])/\uG w F sb (Pl.kz xs i e.key e.ak e.aq at') (tz aD e.ak.toNat) ne evs w':=by
 have HE:=af hE;have ic:=af (fun W (g:ae w W)=>yr (h.ah g) (by omega:xs.length<=1000000) e.aj);obtain⟨v,ve,h⟩:=h;obtain⟨b,cap,rfl,_,eT⟩:=h.row.form (by omega:0<xs.length);have c0:=h.bZ;have hb:=h.blt;have pd:b≠sb:=(h.aY b rfl).2;obtain⟨z1,z2⟩:=h.sz _ (k7 xs i hi);rw[hf]at ic;have tu:¬((i:Int)<0):=by omega
 have BR:(i:Int)<(xs.length:Int):=by omega
 have rl:=qE h rfl i hi 3 (by omega);have rh:=qE h rfl i hi 4 (by omega);simp only[Sh.vals,zJ1,zJ2]at rl rh;have HC:=af (fun W (g:ae w W)=>YL S E hS.span (ai xs i).lo (ai xs i).hi e.key W z1 z2 bX (HE.ah g));rw[hcut]at HC;unfold Qs at HC;simp only[fX,if_true,BK]at HC;have HS:=af h;have HI:=af hi;clear hE HE hf hcut z1 z2 h hi;unfold En.agg En.vals at *;obtain⟨ax,aj,ak,aq,aw,seq,key,aM,aL,aA,ops,aN,aS,aF,aB,aG⟩:=e;dsimp only at *;obtain⟨on,rfl⟩:∃on:Nat,ak=(on:Int):=⟨ak.toNat,by omega⟩
 have j0e:(on:Int)<13:=by omega
 have FC:on<13:=by omega
 rw[zQ3];generalize sy:(ai xs i).lo=lo at *;generalize tx:(ai xs i).hi=hi' at *;have QR:=af sy;have QS:=af tx;clear sy tx;go_in;go_wp2_with fail;refine(ic _ ((ae.rf w).alloc _)).mono ?_;rintro r w1 ⟨rfl,hg⟩;have hc:=hg.cells.1;have hz:w.heap.size<w1.heap.size:=by have:=hg.size;simp at this;omega
 have HG:=af (((ae.rf w).alloc _).trans hg);have E7:w1.cell? ⟨w.heap.size,7,none⟩=some (.string key):=(hc _ _ (by simp)).trans (by simp[go_sem]);have E2:w1.cell? ⟨w.heap.size,2,none⟩=some (.int .i64 on):=(hc _ _ (by simp)).trans (by simp[go_sem]);have E3:w1.cell? ⟨w.heap.size,3,none⟩=some (.int .i64 aq):=(hc _ _ (by simp)).trans (by simp[go_sem]);have hb1:sb<w1.heap.size:=xA9 hb HG.size;have vN:b<w1.heap.size:=xA9 eT HG.size;have C0:=bj ((HG.cells.1 _ _ hb).trans c0);have R3:=bj ((HG.cells.1 _ _ eT).trans rl);have R4:=bj ((HG.cells.1 _ _ eT).trans rh);have D7:=bj E7;clear hg hc rl rh c0 ic;go_wp2_with fail
 -- low, high, err := span.Cut(..)
 refine jA 20 [15,16,17,18] (ae w1) ae (JV [⟨15,17,[.string lo,.string key]⟩,⟨16,18,[.string key,.string hi']⟩] w1) (fun f a=>(a.put (some 7) (f 15)).put (some 8) (f 16)) (JV.aX _ w1 _) (fun _ _ _ h=>h.ah) ae.rf (fun _ _ _ _ h g=>h.br g) ?_;repeat (first|refine iX ?_|(refine iZ ?_;intros;go_big_quiet_op;go_big_quiet_on)|(refine sx (fun _=>by kernel_rfl) (fun u hu=>HC u (HG.trans hu)) ?_;simp only[Act.put,xB9,xC9,xD9])|(refine iY ?_;simp only[Act.put,xB9,xC9,xD9]))
 refine vM ⟨⟨bL rfl (fun _ a=>a) ?_,bL rfl (fun _ a=>a) ?_,bL rfl (fun f a=>(a.put (some 7) (f 15)).put (some 8) (f 16)) ?_,bL rfl (fun f a=>(a.put (some 7) (f 15)).put (some 8) (f 16)) ?_,trivial⟩,?_⟩
 . intro L f u hJ hL hd;clear HC C0 R3 R4 D7;go_simp;exact hJ.alloc (by rfl) (V:=⟨15,17,[.string lo,.string key]⟩) (by simp) hL [.string ⟨#[]⟩,.string ⟨#[]⟩] rfl _
 . intro L f u hJ hL hd;clear HC C0 R3 R4 D7;go_simp;exact hJ.alloc (by rfl) (V:=⟨16,18,[.string key,.string hi']⟩) (by simp) hL [.string ⟨#[]⟩,.string ⟨#[]⟩] rfl _
 . intro L f u hJ hL hd;clear HC C0 R3 R4 D7;obtain⟨m,x,y,hm,k0,k1,f0,f1⟩:=hJ.two (V:=⟨15,17,[.string lo,.string key]⟩) (by simp) (hd 15 rfl (by decide)) rfl;dsimp only at hm;rw[hm];go_simp;exact hJ.store (by rfl) (V:=⟨15,17,[.string lo,.string key]⟩) (by simp) (hd 15 rfl (by decide)) hm
 . intro L f u hJ hL hd;clear HC C0 R3 R4 D7;obtain⟨m,x,y,hm,k0,k1,f0,f1⟩:=hJ.two (V:=⟨16,18,[.string key,.string hi']⟩) (by simp) (hd 16 rfl (by decide)) rfl;dsimp only at hm;rw[hm];go_simp;exact hJ.store (by rfl) (V:=⟨16,18,[.string key,.string hi']⟩) (by simp) (hd 16 rfl (by decide)) hm
 . intro f u hJ;clear HC C0 R3 R4 D7;have iH:=HG.trans hJ.ah;obtain⟨m7,q7,n7,l7,a0,a1,_,_⟩:=(hJ.full (V:=⟨15,17,[.string lo,.string key]⟩) (by simp) rfl).two;obtain⟨m8,q8,n8,l8,b0,b1,_,_⟩:=(hJ.full (V:=⟨16,18,[.string key,.string hi']⟩) (by simp) rfl).two;dsimp only at q7 q8;have Zb:=(hJ.ah.cells.1 _ _ hz).trans E2;have Zc:=(hJ.ah.cells.1 _ _ hz).trans E3;have wR:w.heap.size<u.heap.size:=xA9 hz hJ.ah.size;have qf:=af iH;clear hJ HG iH E2 E3 E7;rw[q7,q8];clear q7 q8;go_wp2_with fail
   -- m.bZ[i].Span, m.bZ[i].Since = low, at+1
   have gF:=af (HS.ah qf);have Hw:sb<u.heap.size:=xA9 hb qf.size;have QT:b<u.heap.size:=xA9 eT qf.size;have yD:b≠m7:=(by omega);have uH:b≠m8:=(by omega);have C0:=bu (S:=fun j=>j=b) gF.bZ (Ne.symm pd);have A0:=bu (S:=fun j=>j=b) a0 (Ne.symm yD);have A1:=bu (S:=fun j=>j=b) a1 (Ne.symm yD);have k2:=qE gF rfl i HI 2 (by omega);have k3:=qE gF rfl i HI 3 (by omega);have k4:=qE gF rfl i HI 4 (by omega);simp only[Sh.vals,zJ1,zJ2]at k2 k3 k4;have f2:u.frozen? ⟨b,i*5+2,none⟩=false:=gF.row.frozenAt _;have f3:u.frozen? ⟨b,i*5+3,none⟩=false:=gF.row.frozenAt _;have f4:u.frozen? ⟨b,i*5+4,none⟩=false:=gF.row.frozenAt _;have Fz:IntKind.i64.wrap (at'+1)=at'+1:=IntWalk.i64_in _ (by omega);refine jA 16 [15] (ar (fun j=>j=b) u) Eq (fun L _ x=>x=if L 15=true then(u.drew.setCell ⟨b,i*5+3,none⟩ (.string lo)).setCell ⟨b,i*5+4,none⟩ (.string key)else u.drew) (fun _ a=>a) rfl ?_ (fun _=>rfl) (fun _ _ _ _ h g=>g▸h) ?_
   . rintro L f x rfl;split
     . exact((ar.refl _ u).drew.then (ar.setCell _ ⟨b,i*5+3,none⟩ _)).then (ar.setCell _ ⟨b,i*5+4,none⟩ _)
     . exact(ar.refl _ u).drew
   repeat (first|refine iX ?_|(refine iZ ?_;intros;go_big_quiet_op;go_big_quiet_on)|(refine iY ?_;simp only[Act.put,xB9,xC9,xD9]))
   refine mi (by rfl) ⟨⟨bL rfl (fun _ a=>a) ?_,trivial⟩,?_⟩
   . rintro L f x rfl hL hd;rw[hL];clear C0 A0 A1 gF;go_simp
   rintro f x yE;have hx2:x=(u.drew.setCell ⟨b,i*5+3,none⟩ (.string lo)).setCell ⟨b,i*5+4,none⟩ (.string key):=yE;clear yE A0 A1;have C1:=C0 ⟨x,by rw[hx2];exact((ar.refl _ u).drew.then (ar.setCell _ ⟨b,i*5+3,none⟩ _)).then (ar.setCell _ ⟨b,i*5+4,none⟩ _)⟩;dsimp only at C1;have K2:x.cell? ⟨b,i*5+2,none⟩=some (.int .i64 (ai xs i).cJ):=by
    rw[hx2,World.cell?_setCell_other _ _ _ _ (by intro e;injection e with _ e;omega),World.cell?_setCell_other _ _ _ _ (by intro e;injection e with _ e;omega)];exact k2
   have F2:x.frozen? ⟨b,i*5+2,none⟩=false:=by
    rw[hx2,World.frozen?_setCell,World.frozen?_setCell];exact f2
   have HX:=af hx2;clear C0 k2 k3 k4 f2 f3 f4 hx2;dsimp only[List.drop];go_wp2_with fail
   -- m.bZ = slices.Insert(..)
   have HY:Hid (∃y,y=x.setCell ⟨b,i*5+2,none⟩ (.int .i64 (at'+1))/\fK y F sb (.slice (some ⟨b,0,none⟩) xs.length cap) ve (xs.set i ⟨(ai xs i).id,(ai xs i).aq,at'+1,lo,key⟩) aD ne evs/\ar (fun j=>j=b) u y):=by
    refine⟨_,rfl,?_,?_⟩
    . rw[HX.out];exact(gF.ah (ae.rf u).drew).yB i HI lo key (at'+1) (by rw[<-QR.out];exact(HS.sz _ (k7 xs i HI)).1) bX
    . rw[HX.out];exact(((ar.refl _ u).drew.then (ar.setCell _ ⟨b,i*5+3,none⟩ _)).then (ar.setCell _ ⟨b,i*5+4,none⟩ _)).then (ar.setCell _ ⟨b,i*5+2,none⟩ _)
   obtain⟨y,hy,uI,jL⟩:=HY.out;rw[<-hy];have mJ:=af uI;have Hx:=af jL;have b9:w.heap.size≠b:=(by omega);have Mo:w.heap.size≠sb:=(by omega);have C2:=bu (S:=fun j=>j=b) uI.bZ (Ne.symm pd);have B0:=bu (S:=fun j=>j=b) ((jL.cell l8 (Ne.symm uH) 0).trans b0) (Ne.symm uH);have B1:=bu (S:=fun j=>j=b) ((jL.cell l8 (Ne.symm uH) 1).trans b1) (Ne.symm uH);have Mp:=(jL.cell wR b9 2).trans Zb;have QU:=(jL.cell wR b9 3).trans Zc;have G2:=bu (S:=fun j=>j=b) Mp b9;have G3:=bu (S:=fun j=>j=b) QU b9;have yF:w.heap.size<y.heap.size:=xA9 wR jL.size;have yG:sb<y.heap.size:=xA9 Hw jL.size;have hby:b<y.heap.size:=xA9 QT jL.size;clear hy HY uI jL HX K2 F2 C1 Zb Zc gF a0 a1 b0 b1;have hw2:IntKind.i64.wrap ((i:Int)+1)=(i:Int)+1:=IntWalk.i64_in _ (by omega);have CJ:=af (fun W (g:ae y W) vb dP hne=>yg W 0 (some ⟨b,0,none⟩) xs.length cap (dL (xs.set i ⟨(ai xs i).id,(ai xs i).aq,at'+1,lo,key⟩)) (by have:=(mJ.ah g).row;rw[zX8]at this;exact this) (zZ5 _) (KG _) (i+1) HI vb (Sh.vals ⟨on,aq,at'+1,key,hi'⟩) 1 dP rfl (by intro u hu;simp[Sh.vals]at hu;rcases hu with rfl | rfl | rfl | rfl | rfl<;> rfl) (by omega) hne);obtain⟨RW,wT⟩:∃RW,RW=(dL (xs.set i ⟨(ai xs i).id,(ai xs i).aq,at'+1,lo,key⟩)).take ((i+1)*5)++Sh.vals ⟨on,aq,at'+1,key,hi'⟩++(dL (xs.set i ⟨(ai xs i).id,(ai xs i).aq,at'+1,lo,key⟩)).drop ((i+1)*5):=⟨_,rfl⟩
   rw[<-wT]at CJ;have wU:=af wT;clear wT
   refine QK 17 [15,16] (ar (fun j=>j=b) y) Eq (fun L f x=>(L 16=true->L 15=true)/\(L 16=false->ae y x)/\(L 15=true->L 16=false->∃vb,f 15=.slice (some ⟨vb,0,none⟩) 1 1/\y.heap.size<=vb/\x.heap[vb]? =some (.cells (Sh.vals ⟨on,aq,at'+1,key,hi'⟩).toArray 100 (0,0)))/\
    (L 16=true->∃x0,ae y x0/\Hh x0 x (.slice (some ⟨b,0,none⟩) xs.length cap) (f 16) 0 (xs.length+1) RW)) (fun f a=>(a.put (some 63) (f 15)).put (some 64) (f 16)) (by kernel_rfl) (by kernel_rfl) (fun _ _=>rfl) ⟨fun h=>(by cases h),fun _=>(ae.rf y).drew,fun h=>(by cases h),fun h=>(by cases h)⟩ ?_ (fun _=>rfl) (fun _ _ _ _ h g=>g▸h) ?_
   . rintro L f x ⟨_,h1,_,h3⟩;cases hL:L 16 with
     | false=>exact(h1 hL).only _
     | true=>
      obtain⟨x0,g0,dA⟩:=h3 hL;exact(g0.only _).then ((ar.ay dA.grown).mono fun j hj=> .inl (Option.some.inj hj))
   repeat (first|refine iX ?_|(refine iZ ?_;intros;go_big_quiet_op;go_big_quiet_on)|(refine iY ?_;simp only[Act.put,xB9,xC9,xD9]))
   refine mi (by rfl) ⟨⟨bL rfl (fun _ a=>a) ?_,bL rfl (fun f a=>a.put (some 63) (f 15)) ?_,trivial⟩,?_⟩
   . rintro L f x' ⟨h0,h1,h2,h3⟩ hL hd;clear C2 B0 B1 G2 G3 Mp QU;have pg:L 16=false:=by
      cases h:L 16 with
      | false=>rfl
      | true=>rw[h0 h]at hL;cases hL
     have yH:=af (h1 pg);clear h0 h1 h2 h3 hd;go_simp;refine⟨yH.out.alloc _,x'.heap.size,fY _ _ _,yH.out.size,?_⟩;show(x'.heap.push _)[x'.heap.size]? =_;simp[Sh.vals]
   . rintro L f x' ⟨h0,h1,h2,h3⟩ hL hd;clear C2 B0 B1 G2 G3 Mp QU;obtain⟨vb,QV,yI,dP⟩:=h2 (hd 15 rfl (by decide)) hL;have yH:=af (h1 hL);have TM:=af dP;have TN:=af (hd 15 rfl (by decide));clear h0 h1 h2 h3 hd dP;rw[QV];go_simp;refine(CJ x' yH.out vb TM.out (fun e=>by have e2:b=vb:=Option.some.inj e;omega)).mono ?_;rintro r w'' ⟨v,rfl,nH⟩;exact⟨v,rfl,by rw[TN.out],x',yH.out,by rw[fY];exact nH⟩
   rintro f x' ⟨_,_,_,h3⟩;obtain⟨x0,g0,nH⟩:=h3 rfl;have eN:ar (fun j=>j=b) y x':=(g0.only _).then ((ar.ay nH.grown).mono fun j hj=> .inl (Option.some.inj hj));have HT:Hid (∀r,f 16=r->uG y F sb (Pl.kz xs i key on aq at') aD ne evs (x'.setCell ⟨sb,0,none⟩ r)):=by
    rintro r rfl;refine mJ.jK (eN.mono fun j hj=> .inl (wZ7 some hj)) ?_ ?_ ?_
    . obtain⟨g,c,hr,hg⟩:=nH.form;intro g' oJ;rw[hr]at oJ;cases oJ;rcases hg with hg | hg
      . exact .inl hg
      . exact .inr (zZ6 g0.size hg)
    . have:=nH.row;rw[wU.out,<-Qy,<-Qz,<-Tf,<-Cu,<-Cu]at this;rw[QQ xs i HI.out,Pl.TL xs i HI.out,QR.out,QS.out];exact this
    . intro c hc;rw[Pl.TL xs i HI.out,QR.out,QS.out]at hc;rcases zQ8.1 hc with hc | hc
      . rcases zQ8.1 hc with hc | hc
        . exact mJ.sz c (yZ2 hc)
        . rw[zQ0]at hc;subst hc;exact⟨bX,by rw[<-QS.out];exact(HS.sz _ (k7 xs i HI)).2⟩
      . exact mJ.sz c (zK6 hc)
   have qG:=af eN;have C3:x'.cell? ⟨sb,0,none⟩=some (.slice (some ⟨b,0,none⟩) xs.length cap):=(eN.cell yG (Ne.symm pd) 0).trans mJ.bZ;have F3:x'.frozen? ⟨sb,0,none⟩=false:=(eN.frozen yG (Ne.symm pd) 0).trans (mJ.fz 0 (by omega));have Zd:=(eN.cell yF b9 2).trans Mp;have vO:w.heap.size<x'.heap.size:=xA9 yF eN.size;obtain⟨g3,c3,TP,_⟩:=nH.form;have yJ:=af (HT _ TP);rw[TP];clear nH eN HT C2 B0 B1 G2 G3 Mp QU TP CJ h3;dsimp only[List.drop];go_wp2_with fail
   -- m.aD[e.Mq] = true
   obtain⟨z,hzz⟩:∃z,z=x'.setCell ⟨sb,0,none⟩ (.slice (some ⟨g3,0,none⟩) (xs.length+1) c3):=⟨_,rfl⟩
   rw[<-hzz];rw[<-hzz]at yJ;have E2z:z.cell? ⟨w.heap.size,2,none⟩=some (.int .i64 on):=by
    rw[hzz,World.cell?_setCell_other _ _ _ _ (by intro e;injection e with e _;exact Mo e.symm)];exact Zd
   have hzl:w.heap.size<z.heap.size:=(by rw[hzz];simpa using vO);have TQ:=af (show ar (fun j=>j=b\/j=sb) y z by
    rw[hzz];exact(qG.mono fun j hj=> .inl (.inl hj)).then ((ar.setCell x' ⟨sb,0,none⟩ _).mono fun j hj=> .inl (.inr hj)))
   obtain⟨o4,F',sD,hF'⟩:=yJ.out;obtain⟨v',QX,sD⟩:=sD;have U0:=sD.aD on FC;have FU:=sD.fz (1+on) (by omega);have FD:=af sD;have Ze:=af hF';have KO:=af o4;have W2:=bj E2z;clear hzz sD hF' o4 yJ C3 F3 Zd;refine jA 5 [] (ae z) Eq (fun _ _ q=>q=z.drew) (fun _ a=>a) rfl (fun _ _ q h=>by rw[h];exact(ae.rf z).drew) (fun _=>rfl) (fun _ _ _ _ h g=>g▸h) ?_;repeat (first|refine iX ?_|(refine iZ ?_;intros;go_big_quiet_op;go_big_quiet_on)|(refine iY ?_;simp only[Act.put,xB9,xC9,xD9]))
   refine mi (by rfl) ⟨trivial,?_⟩;rintro f2 q rfl;clear W2;dsimp only[List.drop];go_wp2_with fail;go_end0;refine⟨rfl,?_⟩;have yK:=(FD.ah (ae.rf z).drew).nD on FC;have o0:ar F w y:=(qf.only F).then (Hx.mono fun j hj=> .inl (by subst hj;exact(HS.aY j rfl).1));have o5:ar F w z:=o0.then KO;refine⟨o5.trans (((ar.refl F' z).drew).then ((ar.setCell _ ⟨sb,1+on,none⟩ _).mono fun j hj=> .inl (by subst hj;exact FD.bH))) ?_,F',⟨_,_,yK⟩,?_⟩
   . intro j hj;rcases Ze.out j hj with h | h
     . exact .inl h
     . exact .inr (zZ6 o0.size h)
   . intro j hj;rcases Ze.out j hj with h | h
     . exact .inl h
     . exact .inr (zZ6 o0.size h)
end
end
section
attribute [local go_sem] bl
namespace Pl
def kJ (xs:List Sh)(i j:Nat)(v:ByteArray×ByteArray)(at':Int):List Sh:=
 (xs.set i ⟨(ai xs i).id,(ai xs i).aq,at'+1,v.1,v.2⟩).take j++(xs.set i ⟨(ai xs i).id,(ai xs i).aq,at'+1,v.1,v.2⟩).drop (j+1)
theorem QY (xs:List Sh)(i j:Nat)(hj:j<xs.length)(v:ByteArray×ByteArray)(at':Int):(kJ xs i j v at').length=xs.length - 1:=by
 unfold kJ;simp;omega
theorem Zf (ra rb:Bool)(a b c d:ByteArray)(B:Nat)(h1:a.size<=B)(h2:b.size<=B)(h3:c.size<=B)(h4:d.size<=B):(aW ra rb a b c d).1.size<=B/\(aW ra rb a b c d).2.size<=B:=by
 have h0:(⟨#[]⟩:ByteArray).size<=B:=zZ5 _;unfold aW;split
 . exact⟨h0,h0⟩
 . split
   . exact⟨h1,h4⟩
   . split
     . exact⟨h3,h2⟩
     . exact⟨h0,h0⟩
end Pl
section
variable {S:Nat->Bool}(hS:iM S)(E:Nat->Addr){w:World}(hE:bz S E w){F:Nat->Prop}{sb:Nat}{xs:List Sh}{aD:Nat->Bool}{ne:Nat}{evs:List Value}(h:gR w F sb xs aD ne evs)(hx:xs.length<=1000)(e:En)
include hS hE h hx
theorem z5T (at':Int)(ha0:0<=at')(ha1:at'<1000000)(i:Nat)(hi:i<xs.length)(hf:Pl.aK xs e.aj=(i:Nat))(j:Nat)(hj:j<xs.length)(nI:Pl.aK xs e.ak=(j:Nat))(rq:Pl.bg (Pl.bD (ai xs i).lo (ai xs i).hi) (Pl.bD (ai xs j).lo (ai xs j).hi) (ai xs i).lo (ai xs i).hi (ai xs j).lo (ai xs j).hi=0):
    Calls prog 71 #[.pointer (some ⟨sb,0,none⟩),e.agg,.int .i64 at'] w fun r w'=>r=.returned (.tuple #[])/\uG w F sb (Pl.kJ xs i j (Pl.aW (Pl.bD (ai xs i).lo (ai xs i).hi) (Pl.bD (ai xs j).lo (ai xs j).hi) (ai xs i).lo (ai xs i).hi (ai xs j).lo (ai xs j).hi) at') aD ne evs w':=by
 have HE:=af hE;have ic:=af (fun W (g:ae w W)=>yr (h.ah g) (by omega:xs.length<=1000000) e.aj);have nC:=af (fun W (g:ae w W)=>yr (h.ah g) (by omega:xs.length<=1000000) e.ak);obtain⟨v,ve,h⟩:=h;obtain⟨b,cap,rfl,_,eT⟩:=h.row.form (by omega:0<xs.length);have c0:=h.bZ;have hb:=h.blt;have pd:b≠sb:=(h.aY b rfl).2;obtain⟨z1,z2⟩:=h.sz _ (k7 xs i hi);obtain⟨y1,y2⟩:=h.sz _ (k7 xs j hj);rw[hf]at ic;rw[nI]at nC;have tu:¬((i:Int)<0):=by omega
 have BR:(i:Int)<(xs.length:Int):=by omega
 have TH:¬((j:Int)<0):=by omega
 have qd:(j:Int)<(xs.length:Int):=by omega
 have rl:=qE h rfl i hi 3 (by omega);have rh:=qE h rfl i hi 4 (by omega);have ql:=qE h rfl j hj 3 (by omega);have qh:=qE h rfl j hj 4 (by omega);simp only[Sh.vals,zJ1,zJ2]at rl rh ql qh;have HC:=af (fun W (g:ae w W)=>Tm S E hS.span (ai xs i).lo (ai xs i).hi (ai xs j).lo (ai xs j).hi W z1 z2 y1 y2 (HE.ah g));rw[rq]at HC;unfold QC at HC;simp only[BK]at HC;have KP:=af (Zf (Pl.bD (ai xs i).lo (ai xs i).hi) (Pl.bD (ai xs j).lo (ai xs j).hi) (ai xs i).lo (ai xs i).hi (ai xs j).lo (ai xs j).hi _ z1 z2 y1 y2);have HS:=af h;have HI:=af hi;have Mr:=af hj;clear hE HE hf nI rq z1 z2 y1 y2 h hi hj;generalize Pl.aW (Pl.bD (ai xs i).lo (ai xs i).hi) (Pl.bD (ai xs j).lo (ai xs j).hi) (ai xs i).lo (ai xs i).hi (ai xs j).lo (ai xs j).hi=jv at *;obtain⟨lo,key⟩:=jv;dsimp only at HC KP;unfold En.agg En.vals at *;obtain⟨ax,aj,ak,aq,aw,seq,nJ,aM,aL,aA,ops,aN,aS,aF,aB,aG⟩:=e;dsimp only at *;generalize (ai xs i).lo=lo0 at *;generalize (ai xs i).hi=hi' at *;generalize (ai xs j).lo=tv at *;generalize (ai xs j).hi=ml at *;go_in;go_wp2_with fail
 -- i, k := m.find(e.Shard), m.find(e.Mq)
 have E1:=bj (w:=w.alloc (.cells #[.int .i64 ax,.int .i64 aj,.int .i64 ak,.int .i64 aq,.int .i64 aw,.int .i64 seq,.slice aN ops.length aS,.string nJ,.int .i64 aM,.int .i64 aL,.int .i64 aA,.slice aF aB aG] 36)) (a:=⟨w.heap.size,1,none⟩) (v:=.int .i64 aj) (by simp[go_sem]);have E2:=bj (w:=w.alloc (.cells #[.int .i64 ax,.int .i64 aj,.int .i64 ak,.int .i64 aq,.int .i64 aw,.int .i64 seq,.slice aN ops.length aS,.string nJ,.int .i64 aM,.int .i64 aL,.int .i64 aA,.slice aF aB aG] 36)) (a:=⟨w.heap.size,2,none⟩) (v:=.int .i64 ak) (by simp[go_sem]);have GA:Hid (ae w (w.alloc (.cells #[.int .i64 ax,.int .i64 aj,.int .i64 ak,.int .i64 aq,.int .i64 aw,.int .i64 seq,.slice aN ops.length aS,.string nJ,.int .i64 aM,.int .i64 aL,.int .i64 aA,.slice aF aB aG] 36))):=(ae.rf w).alloc _;generalize w.alloc _=wa at *;refine jA 7 [] (ae wa) ae (fun _ _ x=>ae wa x) (fun _ a=>a) (ae.rf wa).drew (fun _ _ _ h=>h) ae.rf (fun _ _ _ _ h g=>h.trans g) ?_;repeat (first|refine iX ?_|(refine iZ ?_;intros;go_big_quiet_op;go_big_quiet_on)|(refine sx (fun _=>by kernel_rfl) (fun u hu=>ic u (GA.out.trans hu)) ?_;simp only[Act.put,xB9,xC9,xD9])|(refine iY ?_;simp only[Act.put,xB9,xC9,xD9]))
 refine mi (by rfl) ⟨trivial,?_⟩;rintro f0 wb hgb;have TR:=af (GA.out.trans hgb);clear E1 E2 hgb GA;dsimp only[List.drop];go_wp2_with fail;refine(nC wb TR).mono ?_;rintro r w1 ⟨rfl,hg⟩;have HG:=af (TR.trans hg);have hb1:sb<w1.heap.size:=xA9 hb HG.size;have vN:b<w1.heap.size:=xA9 eT HG.size;have C0:=bj ((HG.cells.1 _ _ hb).trans c0);have R3:=bj ((HG.cells.1 _ _ eT).trans rl);have R4:=bj ((HG.cells.1 _ _ eT).trans rh);have Q3:=bj ((HG.cells.1 _ _ eT).trans ql);have Q4:=bj ((HG.cells.1 _ _ eT).trans qh);clear hg rl rh ql qh c0 ic nC TR;go_wp2_with fail
 -- both, err := span.TS(..)
 refine jA 23 [20,21] (ae w1) ae (JV [⟨20,21,[.string lo,.string key]⟩] w1) (fun f a=>a.put (some 8) (f 20)) (JV.aX _ w1 _) (fun _ _ _ h=>h.ah) ae.rf (fun _ _ _ _ h g=>h.br g) ?_;repeat (first|refine iX ?_|(refine iZ ?_;intros;go_big_quiet_op;go_big_quiet_on)|(refine sx (fun _=>by kernel_rfl) (fun u hu=>HC u (HG.trans hu)) ?_;simp only[Act.put,xB9,xC9,xD9])|(refine iY ?_;simp only[Act.put,xB9,xC9,xD9]))
 refine vM ⟨⟨bL rfl (fun _ a=>a) ?_,bL rfl (fun f a=>a.put (some 8) (f 20)) ?_,trivial⟩,?_⟩
 . intro L f u hJ hL hd;clear HC C0 R3 R4 Q3 Q4;go_simp;exact hJ.alloc (by rfl) (V:=⟨20,21,[.string lo,.string key]⟩) (by simp) hL [.string ⟨#[]⟩,.string ⟨#[]⟩] rfl _
 . intro L f u hJ hL hd;clear HC C0 R3 R4 Q3 Q4;obtain⟨m,x,y,hm,k0,k1,f0,f1⟩:=hJ.two (V:=⟨20,21,[.string lo,.string key]⟩) (by simp) (hd 20 rfl (by decide)) rfl;dsimp only at hm;rw[hm];go_simp;exact hJ.store (by rfl) (V:=⟨20,21,[.string lo,.string key]⟩) (by simp) (hd 20 rfl (by decide)) hm
 . intro f u hJ;clear HC C0 R3 R4 Q3 Q4;have iH:=HG.trans hJ.ah;obtain⟨m7,q7,n7,l7,a0,a1,_,_⟩:=(hJ.full (V:=⟨20,21,[.string lo,.string key]⟩) (by simp) rfl).two;dsimp only at q7;have qf:=af iH;clear hJ HG iH;rw[q7];clear q7;go_wp2_with fail
   -- m.bZ[i].Span, m.bZ[i].Since = low, at+1
   have gF:=af (HS.ah qf);have Hw:sb<u.heap.size:=xA9 hb qf.size;have QT:b<u.heap.size:=xA9 eT qf.size;have yD:b≠m7:=(by omega);have C0:=bu (S:=fun j=>j=b) gF.bZ (Ne.symm pd);have A0:=bu (S:=fun j=>j=b) a0 (Ne.symm yD);have A1:=bu (S:=fun j=>j=b) a1 (Ne.symm yD);have k2:=qE gF rfl i HI 2 (by omega);have k3:=qE gF rfl i HI 3 (by omega);have k4:=qE gF rfl i HI 4 (by omega);simp only[Sh.vals,zJ1,zJ2]at k2 k3 k4;have f2:u.frozen? ⟨b,i*5+2,none⟩=false:=gF.row.frozenAt _;have f3:u.frozen? ⟨b,i*5+3,none⟩=false:=gF.row.frozenAt _;have f4:u.frozen? ⟨b,i*5+4,none⟩=false:=gF.row.frozenAt _;have Fz:IntKind.i64.wrap (at'+1)=at'+1:=IntWalk.i64_in _ (by omega);refine jA 16 [15] (ar (fun j=>j=b) u) Eq (fun L _ x=>x=if L 15=true then(u.drew.setCell ⟨b,i*5+3,none⟩ (.string lo)).setCell ⟨b,i*5+4,none⟩ (.string key)else u.drew) (fun _ a=>a) rfl ?_ (fun _=>rfl) (fun _ _ _ _ h g=>g▸h) ?_
   . rintro L f x rfl;split
     . exact((ar.refl _ u).drew.then (ar.setCell _ ⟨b,i*5+3,none⟩ _)).then (ar.setCell _ ⟨b,i*5+4,none⟩ _)
     . exact(ar.refl _ u).drew
   repeat (first|refine iX ?_|(refine iZ ?_;intros;go_big_quiet_op;go_big_quiet_on)|(refine iY ?_;simp only[Act.put,xB9,xC9,xD9]))
   refine mi (by rfl) ⟨⟨bL rfl (fun _ a=>a) ?_,trivial⟩,?_⟩
   . rintro L f x rfl hL hd;rw[hL];clear C0 A0 A1 gF;go_simp
   rintro f x yE;have hx2:x=(u.drew.setCell ⟨b,i*5+3,none⟩ (.string lo)).setCell ⟨b,i*5+4,none⟩ (.string key):=yE;clear yE A0 A1;have C1:=C0 ⟨x,by rw[hx2];exact((ar.refl _ u).drew.then (ar.setCell _ ⟨b,i*5+3,none⟩ _)).then (ar.setCell _ ⟨b,i*5+4,none⟩ _)⟩;dsimp only at C1;have K2:x.cell? ⟨b,i*5+2,none⟩=some (.int .i64 (ai xs i).cJ):=by
    rw[hx2,World.cell?_setCell_other _ _ _ _ (by intro e;injection e with _ e;omega),World.cell?_setCell_other _ _ _ _ (by intro e;injection e with _ e;omega)];exact k2
   have F2:x.frozen? ⟨b,i*5+2,none⟩=false:=by
    rw[hx2,World.frozen?_setCell,World.frozen?_setCell];exact f2
   have HX:=af hx2;clear C0 k2 k3 k4 f2 f3 f4 hx2;dsimp only[List.drop];go_wp2_with fail;have HY:Hid (∃y,y=x.setCell ⟨b,i*5+2,none⟩ (.int .i64 (at'+1))/\fK y F sb (.slice (some ⟨b,0,none⟩) xs.length cap) ve (xs.set i ⟨(ai xs i).id,(ai xs i).aq,at'+1,lo,key⟩) aD ne evs/\ar (fun j=>j=b) u y):=by
    refine⟨_,rfl,?_,?_⟩
    . rw[HX.out];exact(gF.ah (ae.rf u).drew).yB i HI lo key (at'+1) KP.1 KP.2
    . rw[HX.out];exact(((ar.refl _ u).drew.then (ar.setCell _ ⟨b,i*5+3,none⟩ _)).then (ar.setCell _ ⟨b,i*5+4,none⟩ _)).then (ar.setCell _ ⟨b,i*5+2,none⟩ _)
   obtain⟨y,hy,uI,jL⟩:=HY.out;rw[<-hy];have mJ:=af uI;have Hx:=af jL;have C2:=uI.bZ;have yG:sb<y.heap.size:=xA9 Hw jL.size;clear hy HY uI jL HX K2 F2 C1 gF a0 a1;have hw2:IntKind.i64.wrap ((j:Int)+1)=(j:Int)+1:=IntWalk.i64_in _ (by omega);obtain⟨q,hq⟩:∃q,xs.length=q+1:=⟨xs.length - 1,by omega⟩
   have HD:=af (yi y 0 q j (some ⟨b,0,none⟩) cap (dL (xs.set i ⟨(ai xs i).id,(ai xs i).aq,at'+1,lo,key⟩)) (by have:=mJ.row;rw[zX8,hq]at this;exact this) (KG _) (by have:=Mr.out;omega) (by omega));rw[<-hq]at HD;have HQ:=af hq;clear hq
   -- m.bZ = slices.TT(m.bZ, k, k+1)
   go_wp2_with fail;refine HD.mono ?_;rintro r z ⟨rfl,aJ,hgr⟩;have gI:=af aJ;have eN:ar (fun j=>j=b) y z:=(ar.ay hgr).mono fun j hj=> .inl (Option.some.inj hj);have vP:=af eN;have C3:z.cell? ⟨sb,0,none⟩=some (.slice (some ⟨b,0,none⟩) xs.length cap):=(eN.cell yG (Ne.symm pd) 0).trans C2;have F3:z.frozen? ⟨sb,0,none⟩=false:=(eN.frozen yG (Ne.symm pd) 0).trans (mJ.fz 0 (by omega));clear aJ hgr eN C2 HD;go_wp2_with fail;go_end0;refine⟨rfl,?_⟩;have o0:ar F w y:=(qf.only F).then (Hx.mono fun j hj=> .inl (by subst hj;exact(HS.aY j rfl).1));refine uG.trans o0 (fun _=> .inl) (mJ.jK (vP.mono fun j hj=> .inl (wZ7 some hj)) (fun g hg=> .inl hg) ?_ ?_)
   . have:=gI.out;rw[QY xs i j Mr.out,show xs.length - 1=q by rw[HQ.out];rfl];unfold Pl.kJ;rw[Cu,Qy,Qz];exact this
   . intro c hc;unfold Pl.kJ at hc;rcases zQ8.1 hc with hc | hc
     . exact mJ.sz c (yZ2 hc)
     . exact mJ.sz c (zK6 hc)
end
end
section
section
variable {w:World}{F:Nat->Prop}{sb:Nat}{xs:List Sh}{aD:Nat->Bool}{ne:Nat}{evs:List Value}(h:gR w F sb xs aD ne evs)(hx:xs.length<=1000)
include h hx
theorem z4j (h0:0<xs.length):Calls prog 44 #[.pointer (some ⟨sb,0,none⟩)] w fun e w'=>∃g cap,e=.returned (.slice (some ⟨g,0,none⟩) xs.length cap)/\w'.ownsRow w.heap.size 100 5 (.slice (some ⟨g,0,none⟩) xs.length cap) xs.length (dL xs)/\ae w w':=by
 obtain⟨v,ve,h⟩:=h;obtain⟨b,cap,rfl,_,eT⟩:=h.row.form h0;have c0:=h.bZ;have HC:=af (YS w b 0 xs.length cap h0 (by omega) (dL xs) (sr xs) (fun j u hj=>by
  rw[zQ2];have jH:=(zQ9.1 hj).1;rw[sr]at jH;exact(h.row.cellAt j jH).trans hj) (KG xs))
 clear h;go_in;go_wp2_with fail;refine HC.mono ?_;rintro e w1 ⟨g,cp,rfl,ho,hg⟩;have HO:=af ho;clear ho;go_wp2_with fail;go_ret;exact⟨g,cp,rfl,HO,hg⟩
end
theorem z3Y {S:Nat->Bool}(hS:iM S)(E:Nat->Addr)(c:Sh)(cb:Nat)(key:ByteArray)(w:World)(hE:bz S E w)(hl:c.lo.size<=70368744177664)(hh:c.hi.size<=70368744177664)(hk:key.size<=70368744177664)(hc:w.cell? ⟨cb,0,none⟩=some (.string key)):
    Calls prog 88 #[c.dH,.pointer (some ⟨cb,0,none⟩)] w fun e w'=>e=.returned (.bool (Pl.bk c.lo c.hi key))/\ae w w':=by
 obtain⟨i,s,n,lo,hi⟩:=c;have HH:=af (fun W (g:ae w W)=>He S E hS.Cy lo hi key W hl hh hk (hE.ah g));unfold Sh.dH Sh.vals;dsimp only at *;have hb:cb<w.heap.size:=bf hc;clear hE;go_in;go_wp2_with fail;refine(HH _ ((ae.rf w).alloc _)).mono ?_;rintro e w1 ⟨rfl,hg⟩;go_wp2_with fail;go_ret;exact⟨rfl,((ae.rf w).alloc _).trans hg⟩
namespace Pl
def mU (xs:List Sh)(key:ByteArray):Int:=if isKey key=true then dU (fun c=>bk c.lo c.hi key) xs else -1
def rO (xs:List Sh)(key:ByteArray):Sh:=if mU xs key<0 then Sh.none else ai xs (mU xs key).toNat
end Pl
section
variable {S:Nat->Bool}(hS:iM S)(E:Nat->Addr){w:World}(hE:bz S E w){F:Nat->Prop}{sb:Nat}{xs:List Sh}{aD:Nat->Bool}{ne:Nat}{evs:List Value}(h:gR w F sb xs aD ne evs)(hx:xs.length<=1000)
include hS hE h hx
theorem y9X (key:ByteArray)(hk:key.size<=70368744177664):Calls prog 41 #[.pointer (some ⟨sb,0,none⟩),.string key] w fun e w'=>e=.returned (.tuple #[(Pl.rO xs key).dH,.bool (decide (0<=Pl.mU xs key))])/\ae w w':=by
 obtain⟨s2,s3,s6,s7⟩:=id hS.Cy;have HK:=af (fun W (g:ae w W)=>qb S E s2 s3 s6 s7 key W (by omega) (hE.ah g));cases hik:Pl.isKey key with
 | false=>
  have e0:Pl.mU xs key= -1:=by unfold Pl.mU;rw[zZ0 (by rw[hik];simp)]
  have e1:Pl.rO xs key=Sh.none:=by unfold Pl.rO;rw[e0];rfl
  rw[e0,e1];have HN:=af (Qr E key hik);rw[HN.out]at HK;unfold Sh.dH Sh.vals Sh.none;clear e0 e1 h hE hik;go_in;go_wp2_with fail;refine(HK _ (((ae.rf w).alloc _).alloc _)).mono ?_;rintro r w1 ⟨rfl,hg⟩;have hc:=hg.cells.1;have Je:=hg.cells.2;have hz:w.heap.size+1<w1.heap.size:=by have:=hg.size;simp at this;omega
  have hG:=hg.Qo;clear hg;go_wp2_with fail;refine wZ1 (v:=.tuple #[.agg #[.int .i64 0,.int .i64 0,.int .i64 0,.string ⟨#[]⟩,.string ⟨#[]⟩],.bool false]) (by simp[results,results41,go_sem,hc,hz]) rfl ⟨rfl,?_⟩;exact(((((hG.setCell (by simp) _).setCell (by simp) _).setCell (by simp) _).setCell (by simp) _).setCell (by simp) _)
 | true=>
  have HN:=af (Qq E key hik);rw[HN.out]at HK;have e0:Pl.mU xs key=dU (fun c=>Pl.bk c.lo c.hi key) xs:=by unfold Pl.mU;rw[zZ1 hik]
  have HI:Hid (∀W cb,ae w W->W.cell? ⟨cb,0,none⟩=some (.string key)->∀a cap,kx W a xs->Calls prog 87 #[.slice a xs.length cap,.func (.func 88) #[] #[.pointer (some ⟨cb,0,none⟩)]] W fun e w'=>e=.returned (.int .i64 (Pl.mU xs key))/\ae W w'):=by
   intro W cb g hc a cap hA;rw[e0];refine y8B (fun c=>Pl.bk c.lo c.hi key) cb a cap xs W hA (by omega) (fun j hj W' g'=>?_);obtain⟨v,ve,h⟩:=h;have hz:=h.sz _ (k7 xs j hj);exact z3Y hS E (ai xs j) cb key W' (hE.ah (g.trans g')) hz.1 hz.2 hk ((g'.cells.1 _ _ (bf hc)).trans hc)
  have Jf:Pl.mU xs key= -1\/∃i,i<xs.length/\Pl.mU xs key=(i:Nat):=by
   rw[e0];unfold dU;cases hf:xs.findIdx? (fun c=>Pl.bk c.lo c.hi key)with
   | none=>exact .inl rfl
   | some i=>exact .inr ⟨i,(yQ6.1 hf).1,rfl⟩
  obtain⟨v,ve,h⟩:=h;have hb:=h.blt;have HS:=af h;clear e0 hE hik h;obtain⟨a,cap,rfl,_⟩:=Fq HS.row;rcases Jf with hf | ⟨i,hi,hf⟩
  . have e1:Pl.rO xs key=Sh.none:=(by unfold Pl.rO;rw[hf];rfl);rw[hf]at HI;rw[e1,hf];unfold Sh.dH Sh.vals Sh.none;clear e1 hf;go_in;go_wp2_with fail;refine(HK _ (((ae.rf w).alloc _).alloc _)).mono ?_;rintro r w1 ⟨rfl,hg⟩;have hc:=hg.cells.1;have Je:=hg.cells.2;have hz:w.heap.size+1<w1.heap.size:=(by have:=hg.size;simp at this;omega);have hG:=hg.Qo;have c0:=(hG.cells.1 _ _ hb).trans HS.bZ;have FX:=af (show w1.cell? ⟨w.heap.size,0,none⟩=some (.string key)from(hc _ _ (by simp;omega)).trans (by simp[go_sem]));have DV:Hid (kx w1 a xs):=by
     obtain⟨a',bo,e',hA'⟩:=Fq (HS.ah hG).row;cases e';exact hA'
    clear hg;go_wp2_with fail;refine(HI w1 w.heap.size hG FX a cap DV).mono ?_;rintro r w2 ⟨rfl,aP⟩;have hc2:=aP.cells.1;have VN:=aP.cells.2;have hz2:w.heap.size+1<w2.heap.size:=xA9 hz aP.size;have bW:=hG.trans aP;clear aP;go_wp2_with fail;refine wZ1 (v:=.tuple #[.agg #[.int .i64 0,.int .i64 0,.int .i64 0,.string ⟨#[]⟩,.string ⟨#[]⟩],.bool false]) (by simp[results,results41,go_sem,hc,hc2,hz,hz2]) rfl ⟨rfl,?_⟩;exact(((((bW.setCell (by simp) _).setCell (by simp) _).setCell (by simp) _).setCell (by simp) _).setCell (by simp) _)
  . have e1:Pl.rO xs key=ai xs i:=(by unfold Pl.rO;rw[hf,zZ0 (by omega),zQ3]);have hd:decide (0<=(i:Int))=true:=(by simp);rw[hf]at HI;rw[e1,hf,hd];obtain⟨b,bo,e',_,eT⟩:=HS.row.form (by omega);cases e';have tu:¬((i:Int)<0):=(by omega);have BR:(i:Int)<(xs.length:Int):=(by omega);have NK:=af hi;clear e1 hf hd hi;obtain⟨x0,x1,x2,x3,x4,VO⟩:∃x0 x1 x2 x3 x4,ai xs i=⟨x0,x1,x2,x3,x4⟩:=⟨_,_,_,_,_,rfl⟩
    have VP:=af VO;rw[VO];clear VO;unfold Sh.dH Sh.vals;go_in;go_wp2_with fail;refine(HK _ (((ae.rf w).alloc _).alloc _)).mono ?_;rintro r w1 ⟨rfl,hg⟩;have hc:=hg.cells.1;have Je:=hg.cells.2;have hz:w.heap.size+1<w1.heap.size:=(by have:=hg.size;simp at this;omega);have hG:=hg.Qo;have c0:=(hG.cells.1 _ _ hb).trans HS.bZ;have FX:=af (show w1.cell? ⟨w.heap.size,0,none⟩=some (.string key)from(hc _ _ (by simp;omega)).trans (by simp[go_sem]));have DV:Hid (kx w1 (some ⟨b,0,none⟩) xs):=by
     obtain⟨a',bo,e',hA'⟩:=Fq (HS.ah hG).row;cases e';exact hA'
    clear hg;go_wp2_with fail;refine(HI w1 w.heap.size hG FX _ cap DV).mono ?_;rintro r w2 ⟨rfl,aP⟩;have hc2:=aP.cells.1;have VN:=aP.cells.2;have hz2:w.heap.size+1<w2.heap.size:=xA9 hz aP.size;have bW:=hG.trans aP;have gF:=af (HS.ah bW);have c0:=gF.bZ;have s0:=qE gF rfl i NK 0 (by omega);have s1:=qE gF rfl i NK 1 (by omega);have s2:=qE gF rfl i NK 2 (by omega);have s3:=qE gF rfl i NK 3 (by omega);have s4:=qE gF rfl i NK 4 (by omega);rw[VP.out]at s0 s1 s2 s3 s4;simp only[Sh.vals,zJ1,zJ2,zX9]at s0 s1 s2 s3 s4;clear aP HI HK;go_wp2_with fail;refine wZ1 (v:=.tuple #[.agg #[.int .i64 x0,.int .i64 x1,.int .i64 x2,.string x3,.string x4],.bool true]) (by simp[results,results41,go_sem,hc,hc2,hz,hz2]) rfl ⟨rfl,?_⟩;exact(((((bW.setCell (by simp) _).setCell (by simp) _).setCell (by simp) _).setCell (by simp) _).setCell (by simp) _)
end
end
section
theorem z0Q {W:World}{B:Nat}{v:Value}{xs:List Sh}(h:W.ownsRow B 161 5 v xs.length (dL xs)):∃a cap,v=.slice a xs.length cap/\kx W a xs:=by
 rcases zJ8 xs.length with h0 | h0
 . have hx:xs=[]:=zX2 h0;rcases h.2 with⟨rfl,_⟩ | ⟨g,cap,cur,rfl,_,hg,_⟩
   . exact⟨none,0,by rw[h0],.inl hx⟩
   . exact⟨_,_,rfl,.inl hx⟩
 . obtain⟨g,cap,rfl,_,az⟩:=h.form h0;refine⟨_,_,rfl,.inr ⟨g,0,rfl,az,?_⟩⟩;have hc:∀j,j<xs.length->∀i,i<5->W.cell? ⟨g,j*5+i,none⟩=(ai xs j).vals[i]? :=fun j hj i hi=>by
    rw[h.cellAt (j*5+i) (by omega)];exact mF i hi xs j hj
   refine⟨fun j hj=>?_,fun j hj=>?_,fun j hj=>?_,fun j hj=>?_,fun j hj=>?_⟩<;> rw[zQ2]
   . exact hc j hj 0 (by omega)
   . exact hc j hj 1 (by omega)
   . exact hc j hj 2 (by omega)
   . exact hc j hj 3 (by omega)
   . exact hc j hj 4 (by omega)
def ui (us:List Int):List Value:=us.map fun n=> .int .i64 n
structure fS (w:World)(F:Nat->Prop)(mb:Nat)(vl vu ve:Value)(xs:List Sh)(us:List Int)(ne:Nat)(evs:List Value):Prop where
 bZ:w.cell? ⟨mb,0,none⟩=some vl
 aD:w.cell? ⟨mb,1,none⟩=some vu
 ev:w.cell? ⟨mb,2,none⟩=some ve
 fz:∀i,i<3->w.frozen? ⟨mb,i,none⟩=false
 row:w.ownsRow 0 161 5 vl xs.length (dL xs)
 uj:w.ownsRow 0 3 1 vu us.length (ui us)
 iL:w.ownsRow 0 157 13 ve ne evs
 bH:F mb
 aY:∀g,vl.ownBlock=some g->F g/\g≠mb
 bR:∀g,vu.ownBlock=some g->F g/\g≠mb/\vl.ownBlock≠some g
 dm:∀g,ve.ownBlock=some g->F g/\g≠mb/\vl.ownBlock≠some g/\vu.ownBlock≠some g
 lt:∀j,F j->j<w.heap.size
structure bG where
 xs:List Sh
 us:List Int
 ne:Nat
 evs:List Value
def fp (w:World)(F:Nat->Prop)(mb:Nat)(s:bG):Prop:=∃vl vu ve,fS w F mb vl vu ve s.xs s.us s.ne s.evs
section
variable {w w':World}{F S:Nat->Prop}{mb:Nat}{vl vu ve:Value}{xs:List Sh}{us:List Int}{ne:Nat}{evs:List Value}{s:bG}
theorem fS.blt (h:fS w F mb vl vu ve xs us ne evs):mb<w.heap.size:=bf h.bZ
theorem fS.aC (h:fS w F mb vl vu ve xs us ne evs)(g:ar S w w')(hS:∀j,F j->¬S j):fS w' F mb vl vu ve xs us ne evs where
 bZ:=(g.cell h.blt (hS _ h.bH) 0).trans h.bZ
 aD:=(g.cell h.blt (hS _ h.bH) _).trans h.aD
 ev:=(g.cell h.blt (hS _ h.bH) _).trans h.ev
 fz i hi:=(g.frozen h.blt (hS _ h.bH) _).trans (h.fz i hi)
 row:=kH g h.row (fun b hb=>hS b (h.aY b hb).1)
 uj:=kH g h.uj (fun b hb=>hS b (h.bR b hb).1)
 iL:=kH g h.iL (fun b hb=>hS b (h.dm b hb).1)
 bH:=h.bH
 aY:=h.aY
 bR:=h.bR
 dm:=h.dm
 lt j hj:=xA9 (h.lt j hj) g.size
theorem fS.ah (h:fS w F mb vl vu ve xs us ne evs)(g:ae w w'):fS w' F mb vl vu ve xs us ne evs:=h.aC (g.only fun _=>False) (fun _ _ h=>h)
theorem fp.aC (h:fp w F mb s)(g:ar S w w')(hS:∀j,F j->¬S j):fp w' F mb s:=by
 obtain⟨a,b,c,h⟩:=h;exact⟨a,b,c,h.aC g hS⟩
theorem fp.ah (h:fp w F mb s)(g:ae w w'):fp w' F mb s:=by
 obtain⟨a,b,c,h⟩:=h;exact⟨a,b,c,h.ah g⟩
end
def bG.init:bG:=⟨[KH],[1],0,[]⟩
theorem z5d (w:World):Calls prog 51 #[] w fun e w'=>∃mb,e=.returned (.pointer (some ⟨mb,0,none⟩))/\ae w w'/\w.heap.size<=mb/\∃F,fp w' F mb bG.init/\∀j,F j->w.heap.size<=j:=by
 go_in;go_wp2_with fail;go_ret;generalize eN:Obj.cells #[.int .i64 1,.int .i64 1,.int .i64 0,.string ⟨#[]⟩,.string ⟨#[]⟩] 161=o1;generalize ho2:Obj.cells #[.int .i64 1] 3=o2;generalize GC:Obj.cells #[.slice (some ⟨w.heap.size,0,none⟩) 1 1,.slice (some ⟨w.heap.size+1,0,none⟩) 1 1,.slice none 0 0] 156=o3;have e1:(w.alloc o1).heap.size=w.heap.size+1:=by simp
 have e2:((w.alloc o1).alloc o2).heap.size=w.heap.size+1+1:=by simp
 have hr:=gP (((ae.rf (w.alloc o1)).alloc o2).alloc o3) (by rw[<-eN];exact World.ownsRow_lit (base:=0) (size:=5) w #[.int .i64 1,.int .i64 1,.int .i64 0,.string ⟨#[]⟩,.string ⟨#[]⟩] 1 (zZ5 _) (by decide) rfl:(w.alloc o1).ownsRow 0 161 5 (.slice (some ⟨w.heap.size,0,none⟩) 1 1) 1 _);have hu:=gP ((ae.rf ((w.alloc o1).alloc o2)).alloc o3) (by rw[<-ho2];exact World.ownsRow_lit (base:=0) (size:=1) (w.alloc o1) #[.int .i64 1] 1 (zZ5 _) (by decide) rfl:((w.alloc o1).alloc o2).ownsRow 0 3 1 (.slice (some ⟨(w.alloc o1).heap.size,0,none⟩) 1 1) 1 _);rw[e1]at hu;have hb:=wZ0 ((w.alloc o1).alloc o2) o3;rw[e2]at hb;subst GC;refine⟨w.heap.size+1+1,rfl,(((ae.rf w).alloc _).alloc _).alloc _,by omega,fun j=>j=w.heap.size\/j=w.heap.size+1\/j=w.heap.size+1+1,⟨_,_,_,⟨?_,?_,?_,?_,hr,hu,World.ownsRow_nil _ _ _ _,.inr (.inr rfl),?_,?_,(fun g hg=>by cases hg),?_⟩⟩,?_⟩
 . rw[wQ1 _ _ _ _ _ _ hb];rfl
 . rw[wQ1 _ _ _ _ _ _ hb];rfl
 . rw[wQ1 _ _ _ _ _ _ hb];rfl
 . intro i _;exact frozen_of_row _ _ i _ _ hb
 . intro g hg;cases hg;exact⟨.inl rfl,by dsimp only;omega⟩
 . intro g hg;cases hg;exact⟨.inr (.inl rfl),by dsimp only;omega,fun e=>by simp[Value.ownBlock]at e⟩
 . intro j hj;simp;omega
 . intro j hj;omega
theorem LF {w:World}{F:Nat->Prop}{mb:Nat}{s:bG}(h:fp w F mb s)(hx:s.xs.length<=1000000)(id:Int):
    Calls prog 103 #[.pointer (some ⟨mb,0,none⟩),.int .i64 id] w fun e w'=>e=.returned (.int .i64 (Pl.aK s.xs id))/\ae w w':=by
 obtain⟨xs,us,ne,evs⟩:=s;obtain⟨vl,vu,ve,h⟩:=h;dsimp only at *;obtain⟨a,cap,rfl,hA⟩:=z0Q h.row;have c0:=h.bZ;have hb:=h.blt;have HA:=af hA;unfold Pl.aK;clear h hA;go_in;go_wp2_with fail;go_loopw [12] (fun i wr=>∃k:Nat,k<=xs.length/\i=.int .i64 k/\Hid ((xs.take k).all (fun c=>!(c.id==id))=true)/\ae w wr) (fun i _=>xs.length - (intOf i).toNat);exact⟨0,zZ5 _,rfl,rfl,ae.rf w⟩;obtain⟨k,fV,rfl,HN,hG⟩:=hrel;by_cases az:k<xs.length
 . rcases HA.out with h0 | ⟨b,off,rfl,hb,hR⟩
   . rw[h0]at az;simp at az
   have q0:=(hG.cells.1 b (off+k*5) hb).trans (hR.id k az);have q1:=(hG.cells.1 b (off+k*5+1) hb).trans (hR.aq k az);have q2:=(hG.cells.1 b (off+k*5+2) hb).trans (hR.cJ k az);have q3:=(hG.cells.1 b (off+k*5+3) hb).trans (hR.lo k az);have q4:=(hG.cells.1 b (off+k*5+4) hb).trans (hR.hi k az);have hat:ai xs k=xs[k]:=j3 xs k az;have mh:=af hat;clear hR hat;have HS:=af (Co (fun c:Sh=>c.id==id) xs k az HN);have gK:=af (G6 (fun c:Sh=>c.id==id) xs k az HN);rw[<-mh.out]at HS gK;generalize ai xs k=c at *;clear mh;obtain⟨Dn,c1,c2,c3,c4⟩:=c;dsimp only at *;cases iz:(Dn==id)with
   | true=>
    have eR:=af (HS iz);clear HS gK;go_wp2_with fail;go_ret;exact⟨jl eR.symm,hG.alloc _⟩
   | false=>
    have eR:=af (gK iz);clear HS gK;go_wp2_with fail;go_roundw;case rel=>exact⟨k+1,by omega,by go_num,eR,hG.alloc _⟩
    case measure=>simp[intOf];omega
 . obtain rfl:k=xs.length:=(by omega);have HE:=af (xD (fun c:Sh=>c.id==id) xs (by have:=HN.out;rwa[zQ1]at this));go_wp2_with fail;go_ret;exact⟨jl HE.symm,hG⟩
def OT (W:World)(a:Option Addr)(us:List Int):Prop:=us=[]\/∃b off,a=some ⟨b,off,none⟩/\b<W.heap.size/\∀j,j<us.length->W.cell? ⟨b,off+j,none⟩=some (.int .i64 (us[j]?.getD 0))
theorem OT.ah {W W':World}{a:Option Addr}{us:List Int}(h:OT W a us)(g:ae W W'):OT W' a us:=by
 rcases h with h | ⟨b,off,e,hb,h⟩
 . exact .inl h
 . exact .inr ⟨b,off,e,xA9 hb g.size,fun j hj=>(g.cells.1 _ _ hb).trans (h j hj)⟩
theorem z4S {W:World}{B:Nat}{v:Value}{us:List Int}(h:W.ownsRow B 3 1 v us.length (ui us)):∃a cap,v=.slice a us.length cap/\OT W a us:=by
 rcases zJ8 us.length with h0 | h0
 . have hx:us=[]:=zX2 h0;rcases h.2 with⟨rfl,_⟩ | ⟨g,cap,cur,rfl,_,hg,_⟩
   . exact⟨none,0,by rw[h0],.inl hx⟩
   . exact⟨_,_,rfl,.inl hx⟩
 . obtain⟨g,cap,rfl,_,az⟩:=h.form h0;refine⟨_,_,rfl,.inr ⟨g,0,rfl,az,fun j hj=>?_⟩⟩;rw[zQ2,h.cellAt j (by omega)];unfold ui;rw[yZ3,zQ5 hj];rfl
theorem JY (w:World)(a:Option Addr)(cap:Nat)(us:List Int)(hA:OT w a us)(hx:us.length<=1000000)(n:Int):
    Calls prog 132 #[.slice a us.length cap,.int .i64 n] w fun e w'=>e=.returned (.bool (us.any fun u=>u==n))/\ae w w':=by
 have HA:=af hA;clear hA;go_in;go_wp2_with fail;go_loopw [9] (fun i wr=>∃k:Nat,k<=us.length/\i=.int .i64 k/\Hid ((us.take k).any (fun u=>u==n)=false)/\ae w wr) (fun i _=>us.length - (intOf i).toNat);exact⟨0,zZ5 _,rfl,rfl,ae.rf w⟩;obtain⟨k,fV,rfl,HN,hG⟩:=hrel;by_cases az:k<us.length
 . rcases HA.out with h0 | ⟨b,off,rfl,hb,hR⟩
   . rw[h0]at az;simp at az
   have q0:=(hG.cells.1 b (off+k) hb).trans (hR k az);have hat:us[k]?.getD 0=us[k]:=(by rw[zQ5 az];rfl);rw[hat]at q0;have HY:=af (fun(h:(us[k]==n)=true)=>show true=us.any (fun u=>u==n)from(zK9.2 ⟨us[k],zQ4 az,h⟩).symm);have js:=af (fun(h:(us[k]==n)=false)=>show(us.take (k+1)).any (fun u=>u==n)=false by
    rw[zX1 az,xZ4,HN.out];simp[h])
   clear hR hat;generalize us[k]=u at *;cases iz:(u==n)with
   | true=>
    have eR:=af (HY iz);clear HY js;go_wp2_with fail;go_ret;exact⟨bS eR,hG⟩
   | false=>
    have eR:=af (js iz);clear HY js;go_wp2_with fail;go_roundw;case rel=>exact⟨k+1,by omega,by go_num,eR,hG⟩
    case measure=>simp[intOf];omega
 . obtain rfl:k=us.length:=(by omega);have HE:Hid (false=us.any fun u=>u==n):=(by have:=HN.out;rw[zQ1]at this;exact this.symm);go_wp2_with fail;go_ret;exact⟨bS HE,hG⟩
end
section
def oA (w:World)(F:Nat->Prop)(mb:Nat)(s:bG)(w':World):Prop:=ar F w w'/\∃F',fp w' F' mb s/\∀j,F' j->F j\/w.heap.size<=j
section
variable {w u:World}{F:Nat->Prop}{mb:Nat}{vl vu ve:Value}{xs ys:List Sh}{us:List Int}{ne:Nat}{evs:List Value}{s s':bG}
theorem oA.dw (h:fp w F mb s)(g:ae w u):oA w F mb s u:=⟨g.only F,F,h.ah g,fun _=> .inl⟩
theorem oA.trans {w1 w2:World}{F1:Nat->Prop}(o1:ar F w w1)(iu:∀j,F1 j->F j\/w.heap.size<=j)(h:oA w1 F1 mb s w2):oA w F mb s w2:=by
 obtain⟨h1,F',h2,h3⟩:=h;refine⟨o1.trans h1 iu,F',h2,fun j hj=>?_⟩;rcases h3 j hj with h | h
 . exact iu j h
 . exact .inr (zZ6 o1.size h)
theorem vw (h:fS w F mb vl vu ve xs us ne evs){b cap:Nat}(hv:vl=.slice (some ⟨b,0,none⟩) xs.length cap)(i:Nat)(hi:i<xs.length)(k:Nat)(hk:k<5):w.cell? ⟨b,i*5+k,none⟩=(ai xs i).vals[k]? :=by
 subst hv;have:=h.row.cellAt (i*5+k) (by omega);rw[mF k hk xs i hi]at this;exact this
theorem fS.jJ (h:fS w F mb vl vu ve xs us ne evs)(ho:ar (fun j=>some j=vl.ownBlock) w u)(hr:u.ownsRow 0 161 5 vl ys.length (dL ys)):fS u F mb vl vu ve ys us ne evs:=by
 have n0:¬some mb=vl.ownBlock:=fun e=>(h.aY mb e.symm).2 rfl;refine⟨(ho.cell h.blt n0 0).trans h.bZ,(ho.cell h.blt n0 _).trans h.aD,(ho.cell h.blt n0 _).trans h.ev,fun i hi=>(ho.frozen h.blt n0 _).trans (h.fz i hi),hr,?_,?_,h.bH,h.aY,h.bR,h.dm,fun j hj=>xA9 (h.lt j hj) ho.size⟩
 . exact kH ho h.uj (fun b hb e=>(h.bR b hb).2.2 e.symm)
 . exact kH ho h.iL (fun b hb e=>(h.dm b hb).2.2.1 e.symm)
theorem fS.yB {b cap:Nat}(h:fS w F mb (.slice (some ⟨b,0,none⟩) xs.length cap) vu ve xs us ne evs)(i:Nat)(hi:i<xs.length)(lo hi':ByteArray)(n:Int):
    fS (((w.setCell ⟨b,i*5+3,none⟩ (.string lo)).setCell ⟨b,i*5+4,none⟩ (.string hi')).setCell ⟨b,i*5+2,none⟩ (.int .i64 n)) F mb (.slice (some ⟨b,0,none⟩) xs.length cap) vu ve (xs.set i ⟨(ai xs i).id,(ai xs i).aq,n,lo,hi'⟩) us ne evs:=by
 obtain⟨r1,g1⟩:=h.row.stored (i*5+3) (.string lo);obtain⟨r2,g2⟩:=r1.stored (i*5+4) (.string hi');obtain⟨r3,g3⟩:=r2.stored (i*5+2) (.int .i64 n);have bK:(xs.set i ⟨(ai xs i).id,(ai xs i).aq,n,lo,hi'⟩).length=xs.length:=zX8;refine h.jJ ((ar.ay (g1.trans (g2.trans g3))).mono fun j hj=> .inl hj) ?_
 . rw[bK];have e:dL (xs.set i ⟨(ai xs i).id,(ai xs i).aq,n,lo,hi'⟩)=(((dL xs).set (i*5+3) (.string lo)).set (i*5+4) (.string hi')).set (i*5+2) (.int .i64 n):=by
    rw[QO xs i hi];have QP:(dL xs).length=xs.length*5:=sr xs;have g0:=mF 0 (by omega) xs i hi;have g1:=mF 1 (by omega) xs i hi;generalize ai xs i=c at *;obtain⟨c0,c1,c2,c3,c4⟩:=c;generalize dL xs=L at *;simp only[Sh.vals,zJ1,zJ2,zX9]at g0 g1;apply yQ7;intro j;rw[yQ4,yQ4,zX5,zK7,yZ6,yZ6,yZ6];simp only[zZ4,zZ9,zX8,Sh.vals,zQ6,zJ0];rw[yQ8 (show i*5<=L.length by omega)];by_cases h1:j<i*5
    . rw[zZ1 (by omega),zZ1 h1,zZ1 h1,zZ0 (by omega),zZ0 (by omega),zZ0 (by omega)]
    . by_cases h2:j=i*5
      . subst h2;rw[zZ1 (by omega),zZ0 h1,zZ0 (by omega),zZ0 (by omega),zZ0 (by omega),g0];simp
      . by_cases h3:j=i*5+1
        . subst h3;rw[zZ1 (by omega),zZ0 h1,zZ0 (by omega),zZ0 (by omega),zZ0 (by omega),g1];simp
        . by_cases h4:j=i*5+2
          . subst h4;rw[zZ1 (by omega),zZ0 h1,zZ1 rfl,zZ1 (by omega)];simp
          . by_cases h5:j=i*5+3
            . subst h5;rw[zZ1 (by omega),zZ0 h1,zZ0 (by omega),zZ0 (by omega),zZ1 rfl,zZ1 (by omega)];simp
            . by_cases h6:j=i*5+4
              . subst h6;rw[zZ1 (by omega),zZ0 h1,zZ0 (by omega),zZ1 rfl,zZ1 (by omega)];simp
              . rw[zZ0 (by omega),zZ0 (by omega),zZ0 (by omega),zZ0 (by omega)];congr 1;omega
   rw[e];exact r3
theorem fS.Hv {b cap:Nat}(h:fS w F mb (.slice (some ⟨b,0,none⟩) xs.length cap) vu ve xs us ne evs)(i:Nat)(hi:i<xs.length)(n:Int):
    fS (w.setCell ⟨b,i*5+1,none⟩ (.int .i64 n)) F mb (.slice (some ⟨b,0,none⟩) xs.length cap) vu ve (xs.set i ⟨(ai xs i).id,n,(ai xs i).cJ,(ai xs i).lo,(ai xs i).hi⟩) us ne evs:=by
 obtain⟨r1,g1⟩:=h.row.stored (i*5+1) (.int .i64 n);have bK:(xs.set i ⟨(ai xs i).id,n,(ai xs i).cJ,(ai xs i).lo,(ai xs i).hi⟩).length=xs.length:=zX8;refine h.jJ ((ar.ay g1).mono fun j hj=> .inl hj) ?_
 . rw[bK];have e:dL (xs.set i ⟨(ai xs i).id,n,(ai xs i).cJ,(ai xs i).lo,(ai xs i).hi⟩)=(dL xs).set (i*5+1) (.int .i64 n):=by
    rw[QO xs i hi];have QP:(dL xs).length=xs.length*5:=sr xs;have g0:=mF 0 (by omega) xs i hi;have g2:=mF 2 (by omega) xs i hi;have g3:=mF 3 (by omega) xs i hi;have g4:=mF 4 (by omega) xs i hi;generalize ai xs i=c at *;obtain⟨c0,c1,c2,c3,c4⟩:=c;generalize dL xs=L at *;simp only[Sh.vals,zJ1,zJ2,zX9]at g0 g2 g3 g4;apply yQ7;intro j;rw[yQ4,yQ4,zX5,zK7,yZ6];simp only[zZ4,zZ9,Sh.vals,zQ6,zJ0];rw[yQ8 (show i*5<=L.length by omega)];by_cases h1:j<i*5
    . rw[zZ1 (by omega),zZ1 h1,zZ1 h1,zZ0 (by omega)]
    . by_cases h2:j=i*5
      . subst h2;rw[zZ1 (by omega),zZ0 h1,zZ0 (by omega),g0];simp
      . by_cases h3:j=i*5+1
        . subst h3;rw[zZ1 (by omega),zZ0 h1,zZ1 rfl,zZ1 (by omega)];simp
        . by_cases h4:j=i*5+2
          . subst h4;rw[zZ1 (by omega),zZ0 h1,zZ0 (by omega),g2];simp
          . by_cases h5:j=i*5+3
            . subst h5;rw[zZ1 (by omega),zZ0 h1,zZ0 (by omega),g3];simp
            . by_cases h6:j=i*5+4
              . subst h6;rw[zZ1 (by omega),zZ0 h1,zZ0 (by omega),g4];simp
              . rw[zZ0 (by omega),zZ0 (by omega)];congr 1;omega
   rw[e];exact r1
theorem fS.jK (h:fS w F mb vl vu ve xs us ne evs){ys:List Sh}(ho:ar (fun j=>some j=vl.ownBlock) w u){r:Value}(cF:∀g,r.ownBlock=some g->vl.ownBlock=some g\/w.heap.size<=g)(hr:u.ownsRow 0 161 5 r ys.length (dL ys)):
    oA w F mb ⟨ys,us,ne,evs⟩ (u.setCell ⟨mb,0,none⟩ r):=by
 have h1:∀g,vl.ownBlock=some g->g<w.heap.size:=fun g hg=>h.lt g (h.aY g hg).1;have h2:∀g,vu.ownBlock=some g->g<w.heap.size:=fun g hg=>h.lt g (h.bR g hg).1;have h3:∀g,ve.ownBlock=some g->g<w.heap.size:=fun g hg=>h.lt g (h.dm g hg).1;have vy:∀g,vl.ownBlock=some g->F g/\g≠mb:=fun g hg=>h.aY g hg;have n0:¬some mb=vl.ownBlock:=fun e=>(vy mb e.symm).2 rfl;have hb:=h.blt;have hc:u.cell? ⟨mb,0,none⟩=some vl:=(ho.cell hb n0 _).trans h.bZ;have o2:=ar.setCell u ⟨mb,0,none⟩ r;have rY:∀g,r.ownBlock=some g->g≠mb:=by
  intro g hg;rcases cF g hg with h4 | h4
  . exact(vy g h4).2
  . omega
 have az:∀g,r.ownBlock=some g->g<u.heap.size:=by
  intro g hg;rcases hr.2 with⟨e,_⟩ | ⟨b,c,cur,e,_,hh,_⟩
  . rw[e]at hg;cases hg
  . rw[e]at hg;cases hg;exact(zZ2.1 hh).1
 have qF:∀k,k≠0->(u.setCell ⟨mb,0,none⟩ r).cell? ⟨mb,k,none⟩=u.cell? ⟨mb,k,none⟩:=fun k hk=>World.cell?_setCell_other _ _ _ _ (fun e=>hk (by injection e with _ e2;exact e2.symm));refine⟨(ho.mono fun j hj=> .inl (vy j hj.symm).1).then (o2.mono fun j hj=> .inl (by subst hj;exact h.bH)),fun j=>F j\/r.ownBlock=some j,⟨r,vu,ve,?_⟩,?_⟩
 . refine⟨by simp[World.cell?_setCell_same,hc],by rw[qF _ (by omega)];exact(ho.cell hb n0 _).trans h.aD,by rw[qF _ (by omega)];exact(ho.cell hb n0 _).trans h.ev,fun i hi=>by rw[World.frozen?_setCell];exact(ho.frozen hb n0 _).trans (h.fz i hi),?_,?_,?_,.inl h.bH,fun g hg=>?_,fun g hg=>?_,fun g hg=>?_,?_⟩
   . exact kH o2 hr (fun b hb e=>rY b hb e)
   . exact kH o2 (kH ho h.uj (fun b hb e=>(h.bR b hb).2.2 e.symm)) (fun b hb e=>(h.bR b hb).2.1 e)
   . exact kH o2 (kH ho h.iL (fun b hb e=>(h.dm b hb).2.2.1 e.symm)) (fun b hb e=>(h.dm b hb).2.1 e)
   . exact⟨.inr hg,rY g hg⟩
   . exact⟨.inl (h.bR g hg).1,(h.bR g hg).2.1,(fun e=>by rcases cF g e with h4 | h4;exact(h.bR g hg).2.2 h4;have:=h2 g hg;omega)⟩
   . exact⟨.inl (h.dm g hg).1,(h.dm g hg).2.1,(fun e=>by rcases cF g e with h4 | h4;exact(h.dm g hg).2.2.1 h4;have:=h3 g hg;omega),(h.dm g hg).2.2.2⟩
   . intro j hj;rcases hj with hj | hj
     . exact xA9 (h.lt j hj) (zZ6 ho.size o2.size)
     . exact xA9 (az j hj) o2.size
 . intro j hj;rcases hj with hj | hj
   . exact .inl hj
   . rcases cF j hj with h4 | h4
     . exact .inl (vy j h4).1
     . exact .inr h4
theorem fS.nD (h:fS w F mb vl vu ve xs us ne evs){us':List Int}(ho:ar (fun j=>some j=vu.ownBlock) w u){r:Value}(cF:∀g,r.ownBlock=some g->vu.ownBlock=some g\/w.heap.size<=g)(hr:u.ownsRow 0 3 1 r us'.length (ui us')):
    oA w F mb ⟨xs,us',ne,evs⟩ (u.setCell ⟨mb,1,none⟩ r):=by
 have h1:∀g,vl.ownBlock=some g->g<w.heap.size:=fun g hg=>h.lt g (h.aY g hg).1;have h2:∀g,vu.ownBlock=some g->g<w.heap.size:=fun g hg=>h.lt g (h.bR g hg).1;have h3:∀g,ve.ownBlock=some g->g<w.heap.size:=fun g hg=>h.lt g (h.dm g hg).1;have vy:∀g,vu.ownBlock=some g->F g/\g≠mb:=fun g hg=>⟨(h.bR g hg).1,(h.bR g hg).2.1⟩
 have n0:¬some mb=vu.ownBlock:=fun e=>(vy mb e.symm).2 rfl;have hb:=h.blt;have hc:u.cell? ⟨mb,1,none⟩=some vu:=(ho.cell hb n0 _).trans h.aD;have o2:=ar.setCell u ⟨mb,1,none⟩ r;have rY:∀g,r.ownBlock=some g->g≠mb:=by
  intro g hg;rcases cF g hg with h4 | h4
  . exact(vy g h4).2
  . omega
 have az:∀g,r.ownBlock=some g->g<u.heap.size:=by
  intro g hg;rcases hr.2 with⟨e,_⟩ | ⟨b,c,cur,e,_,hh,_⟩
  . rw[e]at hg;cases hg
  . rw[e]at hg;cases hg;exact(zZ2.1 hh).1
 have qF:∀k,k≠1->(u.setCell ⟨mb,1,none⟩ r).cell? ⟨mb,k,none⟩=u.cell? ⟨mb,k,none⟩:=fun k hk=>World.cell?_setCell_other _ _ _ _ (fun e=>hk (by injection e with _ e2;exact e2.symm));refine⟨(ho.mono fun j hj=> .inl (vy j hj.symm).1).then (o2.mono fun j hj=> .inl (by subst hj;exact h.bH)),fun j=>F j\/r.ownBlock=some j,⟨vl,r,ve,?_⟩,?_⟩
 . refine⟨by rw[qF _ (by omega)];exact(ho.cell hb n0 _).trans h.bZ,by simp[World.cell?_setCell_same,hc],by rw[qF _ (by omega)];exact(ho.cell hb n0 _).trans h.ev,fun i hi=>by rw[World.frozen?_setCell];exact(ho.frozen hb n0 _).trans (h.fz i hi),?_,?_,?_,.inl h.bH,fun g hg=>?_,fun g hg=>?_,fun g hg=>?_,?_⟩
   . exact kH o2 (kH ho h.row (fun b hb e=>(h.bR b e.symm).2.2 hb)) (fun b hb e=>(h.aY b hb).2 e)
   . exact kH o2 hr (fun b hb e=>rY b hb e)
   . exact kH o2 (kH ho h.iL (fun b hb e=>(h.dm b hb).2.2.2 e.symm)) (fun b hb e=>(h.dm b hb).2.1 e)
   . exact⟨.inl (h.aY g hg).1,(h.aY g hg).2⟩
   . exact⟨.inr hg,rY g hg,(fun e=>by rcases cF g hg with h4 | h4;exact(h.bR g h4).2.2 e;have:=h1 g e;omega)⟩
   . exact⟨.inl (h.dm g hg).1,(h.dm g hg).2.1,(h.dm g hg).2.2.1,(fun e=>by rcases cF g e with h4 | h4;exact(h.dm g hg).2.2.2 h4;have:=h3 g hg;omega)⟩
   . intro j hj;rcases hj with hj | hj
     . exact xA9 (h.lt j hj) (zZ6 ho.size o2.size)
     . exact xA9 (az j hj) o2.size
 . intro j hj;rcases hj with hj | hj
   . exact .inl hj
   . rcases cF j hj with h4 | h4
     . exact .inl (vy j h4).1
     . exact .inr h4
theorem fS.nK (h:fS w F mb vl vu ve xs us ne evs){ne':Nat}{vQ:List Value}(ho:ar (fun j=>some j=ve.ownBlock) w u){r:Value}(cF:∀g,r.ownBlock=some g->ve.ownBlock=some g\/w.heap.size<=g)(hr:u.ownsRow 0 157 13 r ne' vQ):
    oA w F mb ⟨xs,us,ne',vQ⟩ (u.setCell ⟨mb,2,none⟩ r):=by
 have h1:∀g,vl.ownBlock=some g->g<w.heap.size:=fun g hg=>h.lt g (h.aY g hg).1;have h2:∀g,vu.ownBlock=some g->g<w.heap.size:=fun g hg=>h.lt g (h.bR g hg).1;have h3:∀g,ve.ownBlock=some g->g<w.heap.size:=fun g hg=>h.lt g (h.dm g hg).1;have vy:∀g,ve.ownBlock=some g->F g/\g≠mb:=fun g hg=>⟨(h.dm g hg).1,(h.dm g hg).2.1⟩
 have n0:¬some mb=ve.ownBlock:=fun e=>(vy mb e.symm).2 rfl;have hb:=h.blt;have hc:u.cell? ⟨mb,2,none⟩=some ve:=(ho.cell hb n0 _).trans h.ev;have o2:=ar.setCell u ⟨mb,2,none⟩ r;have rY:∀g,r.ownBlock=some g->g≠mb:=by
  intro g hg;rcases cF g hg with h4 | h4
  . exact(vy g h4).2
  . omega
 have az:∀g,r.ownBlock=some g->g<u.heap.size:=by
  intro g hg;rcases hr.2 with⟨e,_⟩ | ⟨b,c,cur,e,_,hh,_⟩
  . rw[e]at hg;cases hg
  . rw[e]at hg;cases hg;exact(zZ2.1 hh).1
 have qF:∀k,k≠2->(u.setCell ⟨mb,2,none⟩ r).cell? ⟨mb,k,none⟩=u.cell? ⟨mb,k,none⟩:=fun k hk=>World.cell?_setCell_other _ _ _ _ (fun e=>hk (by injection e with _ e2;exact e2.symm));refine⟨(ho.mono fun j hj=> .inl (vy j hj.symm).1).then (o2.mono fun j hj=> .inl (by subst hj;exact h.bH)),fun j=>F j\/r.ownBlock=some j,⟨vl,vu,r,?_⟩,?_⟩
 . refine⟨by rw[qF _ (by omega)];exact(ho.cell hb n0 _).trans h.bZ,by rw[qF _ (by omega)];exact(ho.cell hb n0 _).trans h.aD,by simp[World.cell?_setCell_same,hc],fun i hi=>by rw[World.frozen?_setCell];exact(ho.frozen hb n0 _).trans (h.fz i hi),?_,?_,?_,.inl h.bH,fun g hg=>?_,fun g hg=>?_,fun g hg=>?_,?_⟩
   . exact kH o2 (kH ho h.row (fun b hb e=>(h.dm b e.symm).2.2.1 hb)) (fun b hb e=>(h.aY b hb).2 e)
   . exact kH o2 (kH ho h.uj (fun b hb e=>(h.dm b e.symm).2.2.2 hb)) (fun b hb e=>(h.bR b hb).2.1 e)
   . exact kH o2 hr (fun b hb e=>rY b hb e)
   . exact⟨.inl (h.aY g hg).1,(h.aY g hg).2⟩
   . exact⟨.inl (h.bR g hg).1,(h.bR g hg).2.1,(h.bR g hg).2.2⟩
   . exact⟨.inr hg,rY g hg,(fun e=>by rcases cF g hg with h4 | h4;exact(h.dm g h4).2.2.1 e;have:=h1 g e;omega),(fun e=>by rcases cF g hg with h4 | h4;exact(h.dm g h4).2.2.2 e;have:=h2 g e;omega)⟩
   . intro j hj;rcases hj with hj | hj
     . exact xA9 (h.lt j hj) (zZ6 ho.size o2.size)
     . exact xA9 (az j hj) o2.size
 . intro j hj;rcases hj with hj | hj
   . exact .inl hj
   . rcases cF j hj with h4 | h4
     . exact .inl (vy j h4).1
     . exact .inr h4
end
end
end Go.Proofs.YtgegogoanbamfaaGreatDoor
