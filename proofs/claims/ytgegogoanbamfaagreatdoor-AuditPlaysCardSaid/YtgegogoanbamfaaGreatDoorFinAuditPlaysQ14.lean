/- Part 14. -/
import Derived.Test.YtgegogoanbamfaaGreatDoorFinAuditPlaysQ4
import Derived.Test.YtgegogoanbamfaaGreatDoorFinAuditPlaysQ13
set_option linter.unusedVariables false
set_option linter.unusedSectionVars false
set_option linter.unusedSimpArgs false
set_option maxRecDepth 100000
set_option maxHeartbeats 16000000
namespace Go.Proofs.YtgegogoanbamfaaGreatDoor
namespace Pl
end Pl
open Pl Go.Proofs.Tryz Go.RowKit Go.Maps
attribute [local go_sem] Oper.semAt_some
def nP (w:World)(tb:Nat)(xs:List Pr):Prop:=∃a cap,w.cell? ⟨tb,0,none⟩=some (.slice a xs.length cap)/\jN w a xs
theorem nP.ah {w w':World}{tb:Nat}{xs:List Pr}(h:nP w tb xs)(g:ae w w'):nP w' tb xs:=by
 obtain⟨a,cap,h1,h2⟩:=h;exact⟨a,cap,(g.cells.1 _ _ (bf h1)).trans h1,h2.ah g⟩
theorem ZZ {a b:ByteArray}(h:a.toList=b.toList):a=b:=by
 rw[yZ5,yZ5]at h;obtain⟨⟨a⟩⟩:=a;obtain⟨⟨b⟩⟩:=b;exact wZ7 (fun l:List UInt8=>(⟨⟨l⟩⟩:ByteArray)) h
def Pl.gB (k:ByteArray)(c:Pr):Bool:=c.key.toList==k.toList
theorem Pl.j6 (k:ByteArray)(c:Pr):Pl.gB k c=true↔c.key=k:=by
 unfold Pl.gB;rw[beq_iff_eq];exact⟨ZZ,fun h=>by rw[h]⟩
theorem UJ {w:World}{tb:Nat}{xs:List Pr}(h:nP w tb xs)(hx:xs.length<=1000000)(key:ByteArray):
    Calls prog 43 #[.pointer (some ⟨tb,0,none⟩),.string key] w fun e w'=>e=.returned (.int .i64 (dU (Pl.gB key) xs))/\ae w w':=by
 obtain⟨a,cap,c0,hA⟩:=h;have eY:=bf c0;have HA:=af hA;clear hA;go_in;go_wp2_with fail;go_loopw [12] (fun i wr=>∃k:Nat,k<=xs.length/\i=.int .i64 k/\Hid ((xs.take k).all (fun c=>!Pl.gB key c)=true)/\ae w wr) (fun i _=>xs.length - (intOf i).toNat);exact⟨0,zZ5 _,rfl,rfl,ae.rf w⟩;obtain⟨k,fV,rfl,HN,hG⟩:=hrel;by_cases az:k<xs.length
 . rcases HA.out with h0 | ⟨b,off,rfl,hb,hR⟩
   . rw[h0]at az;simp at az
   have q0:=(hG.cells.1 b (off+k*3) hb).trans (hR.key k az);have q1:=(hG.cells.1 b (off+k*3+1) hb).trans (hR.val k az);have q2:=(hG.cells.1 b (off+k*3+2) hb).trans (hR.eI k az);have hat:aV xs k=xs[k]:=kV xs k az;have HS:=af (Co (Pl.gB key) xs k az HN);have gK:=af (G6 (Pl.gB key) xs k az HN);rw[<-hat]at HS gK;clear hat hR;generalize aV xs k=c at *;obtain⟨ck,cv,cn⟩:=c;dsimp only at *;cases iz:(ck.toList==key.toList)with
   | true=>
    have eR:=af (HS iz);clear HS gK;go_wp2_with fail;go_ret;exact⟨jl eR.symm,hG.alloc _⟩
   | false=>
    have eR:=af (gK iz);clear HS gK;go_wp2_with fail;go_roundw;case rel=>exact⟨k+1,by omega,by go_num,eR,hG.alloc _⟩
    case measure=>simp[intOf];omega
 . obtain rfl:k=xs.length:=(by omega);have HE:=af (xD (Pl.gB key) xs (by have:=HN.out;rwa[zQ1]at this));go_wp2_with fail;go_ret;exact⟨jl HE.symm,hG⟩
theorem zf {α:Type}(p:α->Bool)(xs:List α):(dU p xs= -1/\xs.find? p=none)\/∃i:Nat,∃h:i<xs.length,dU p xs=(i:Nat)/\xs.find? p=some xs[i]:=by
 unfold dU;cases h:xs.findIdx? p with
 | none=>
  refine .inl ⟨rfl,?_⟩;rw[yJ6]at h;rw[List.find?_eq_none];intro x hx;simpa using h x hx
 | some i=>
  obtain⟨hi,h1,h2⟩:=yQ6.1 h;refine .inr ⟨i,hi,rfl,?_⟩;rw[List.find?_eq_some_iff_getElem];exact⟨h1,i,hi,rfl,fun j hj=>by simpa using h2 j hj⟩
theorem Z3 {w:World}{tb:Nat}{xs:List Pr}(h:nP w tb xs)(hx:xs.length<=1000000)(key:ByteArray):
    Calls prog 17 #[.pointer (some ⟨tb,0,none⟩),.string key] w fun e w'=>e=.returned (.tuple #[((xs.find? (Pl.gB key)).getD Pr.none).agg,.bool (xs.find? (Pl.gB key)).isSome])/\ae w w':=by
 have HF:=af (fun W (g:ae w W)=>UJ (h.ah g) hx key);obtain⟨a,cap,c0,hA⟩:=h;have eY:=bf c0;have HA:=af hA;clear hA;rcases zf (Pl.gB key) xs with⟨e1,e2⟩ | ⟨i,hi,e1,e2⟩
 . rw[e1]at HF;rw[e2];clear e1 e2;go_in;go_wp2_with fail;refine(HF _ ((ae.rf w).alloc _)).mono ?_;rintro e w1 ⟨rfl,hg⟩;have hz:w.heap.size<w1.heap.size:=(by have:=hg.size;simp at this;omega);obtain⟨hc,hf⟩:=hg.cells;go_wp2_with fail;refine wZ1 (v:=.tuple #[Pr.none.agg,.bool false]) (by simp[results,results17,go_sem,hc,hz,Pr.agg,Pr.none]) rfl ⟨rfl,?_⟩;have hG:=hg.jy;refine((hG.setCell ?_ _).setCell ?_ _).setCell ?_ _<;> exact zZ3 _
 . rw[e1]at HF;rw[e2];rcases HA.out with h0 | ⟨b,off,rfl,hb,hR⟩
   . rw[h0]at hi;simp at hi
   have hat:aV xs i=xs[i]:=kV xs i hi;have q0:=hR.key i hi;have q1:=hR.val i hi;have q2:=hR.eI i hi;rw[<-hat];clear hat hR e1 e2;generalize aV xs i=c at *;obtain⟨ck,cv,cn⟩:=c;dsimp only at *;have j0f:¬(i:Int)<0:=(by omega);have j0g:(i:Int)<(xs.length:Int):=(by omega);go_in;go_wp2_with fail;refine(HF _ ((ae.rf w).alloc _)).mono ?_;rintro e w1 ⟨rfl,hg⟩;have hz:w.heap.size<w1.heap.size:=(by have:=hg.size;simp at this;omega);obtain⟨hc,hf⟩:=hg.cells;have hG:=((ae.rf w).alloc (Obj.cells #[.string ⟨#[]⟩,.string ⟨#[]⟩,.int .i64 0] 62)).trans hg;have c1:=(hG.cells.1 _ _ eY).trans c0;have r0:=(hG.cells.1 _ _ hb).trans q0;have r1:=(hG.cells.1 _ _ hb).trans q1;have r2:=(hG.cells.1 _ _ hb).trans q2;have MV:=xA9 eY hG.size;have hb1:=xA9 hb hG.size;go_wp2_with fail;refine wZ1 (v:=.tuple #[.agg #[.string ck,.string cv,.int .i64 cn],.bool true]) (by simp[results,results17,go_sem,hc,hz]) rfl ⟨rfl,?_⟩;refine((hG.setCell ?_ _).setCell ?_ _).setCell ?_ _<;> exact zZ3 _
section
structure JS (y:World)(pv A C:List Value)(k n:Nat)(L:Nat->Bool)(f:Nat->Value)(x:World):Prop where
 ah:ae y x
 o4:L 4=true->L 0=true
 o7:L 7=true->L 4=true/\L 6=true
 Ix:L 11=true->L 7=true
 r0:L 0=true->L 4=false->x.ownsRow y.heap.size 62 3 (f 0) 0 []
 r6:L 6=true->L 7=false->∃vb,f 6=.slice (some ⟨vb,0,none⟩) 1 1/\y.heap.size<=vb/\x.heap[vb]? =some (.cells pv.toArray 62 (0,0))/\(L 0=true->L 4=false->(f 0).ownBlock≠some vb)/\(L 4=true->(f 4).ownBlock≠some vb)
 r4:L 4=true->L 7=false->x.ownsRow y.heap.size 62 3 (f 4) k A
 r7:L 7=true->L 11=false->x.ownsRow y.heap.size 62 3 (f 7) (k+1) (A++pv)
 wX:L 11=true->x.ownsRow y.heap.size 62 3 (f 11) (n+1) (A++pv++C)
section
variable {y x x':World}{pv A C:List Value}{k n:Nat}{L:Nat->Bool}{f:Nat->Value}
theorem JS.aX (y:World):JS y pv A C k n (fun _=>false) f y.drew:=
 ⟨(ae.rf y).drew,(fun h=>by cases h),(fun h=>by cases h),(fun h=>by cases h),(fun h=>by cases h),(fun h=>by cases h),(fun h=>by cases h),(fun h=>by cases h),(fun h=>by cases h)⟩
theorem sF {b:Bool}(h:b=true->False):b=false:=by cases b;rfl;exact(h rfl).elim
theorem JS.s0 (h:JS y pv A C k n L f x)(hL:L 0=false):JS y pv A C k n (plus L 0) (bQ f 0 (.slice (some ⟨x.heap.size,0,none⟩) 0 0)) (x.alloc (.cells #[] 62)):=by
 have l4:L 4=false:=sF fun h4=>by rw[h.o4 h4]at hL;cases hL
 have l7:L 7=false:=sF fun h7=>by rw[(h.o7 h7).1]at l4;cases l4
 have Iy:L 11=false:=sF fun h11=>by rw[h.Ix h11]at l7;cases l7
 refine⟨h.ah.alloc _,fun _=>rfl,h.o7,h.Ix,fun _ _=>?_,fun h6 h7=>?_,fun h4=>?_,fun h7=>?_,fun h11=>?_⟩
 . exact⟨rfl,.inr ⟨x.heap.size,0,#[],rfl,h.ah.size,wZ0 x _,zZ3 _,zZ5 _,rfl,rfl⟩⟩
 . obtain⟨vb,e1,e2,e3,_,e5⟩:=h.r6 h6 h7;have az:vb<x.heap.size:=(zZ2.1 e3).1;refine⟨vb,e1,e2,(Below.heap_alloc _ _ vb az).trans e3,fun _ _ e=>?_,e5⟩;have:x.heap.size=vb:=(by simpa[fY,Value.ownBlock]using e);omega
 . change L 4=true at h4;rw[l4]at h4;cases h4
 . change L 7=true at h7;rw[l7]at h7;cases h7
 . change L 11=true at h11;rw[Iy]at h11;cases h11
theorem JS.s6 (h:JS y pv A C k n L f x)(hL:L 6=false):JS y pv A C k n (plus L 6) (bQ f 6 (.slice (some ⟨x.heap.size,0,none⟩) 1 1)) (x.alloc (.cells pv.toArray 62)):=by
 have l7:L 7=false:=sF fun h7=>by rw[(h.o7 h7).2]at hL;cases hL
 have Iy:L 11=false:=sF fun h11=>by rw[h.Ix h11]at l7;cases l7
 have hG:ae x (x.alloc (.cells pv.toArray 62)):=(ae.rf x).alloc _;refine⟨h.ah.alloc _,h.o4,fun h7=>?_,h.Ix,fun h0 h4=>gP hG (h.r0 h0 h4),fun _ _=>⟨x.heap.size,fY _ _ _,h.ah.size,wZ0 x _,fun h0 h4 e=>?_,fun h4 e=>?_⟩,fun h4 h7=>gP hG (h.r4 h4 h7),fun h7=>?_,fun h11=>?_⟩
 . change L 7=true at h7;rw[l7]at h7;cases h7
 . have:=((h.r0 h0 h4).lt x.heap.size e).2;omega
 . have:=((h.r4 h4 l7).lt x.heap.size e).2;omega
 . change L 7=true at h7;rw[l7]at h7;cases h7
 . change L 11=true at h11;rw[Iy]at h11;cases h11
theorem JS.s4 (h:JS y pv A C k n L f x)(hL:L 4=false)(h0:L 0=true){r:Value}(aJ:x'.ownsRow y.heap.size 62 3 r k A)(hg:x.grownBy x' (f 0).ownBlock)(ho:∀g,r.ownBlock=some g->(f 0).ownBlock=some g\/g=x.heap.size):JS y pv A C k n (plus L 4) (bQ f 4 r) x':=by
 have l7:L 7=false:=sF fun h7=>by rw[(h.o7 h7).1]at hL;cases hL
 have Iy:L 11=false:=sF fun h11=>by rw[h.Ix h11]at l7;cases l7
 have mG:=h.r0 h0 hL;have hG:ae y x':=((h.ah.only _).then (ar.ay hg)).ah fun j hj=>(mG.lt j hj.symm).1;refine⟨hG,fun _=>h0,fun h7=>?_,h.Ix,(fun _ h4=>by cases h4),fun h6 _=>?_,fun _ _=>aJ,fun h7=>?_,fun h11=>?_⟩
 . change L 7=true at h7;rw[l7]at h7;cases h7
 . obtain⟨vb,e1,e2,e3,e4,_⟩:=h.r6 h6 l7;have az:vb<x.heap.size:=(zZ2.1 e3).1;have hne:=e4 h0 hL;refine⟨vb,e1,e2,(hg.block vb az (fun e=>hne e.symm)).trans e3,(fun _ h4=>by cases h4),fun _ e=>?_⟩;have e':r.ownBlock=some vb:=e;rcases ho vb e' with h1 | h1
   . exact hne h1
   . omega
 . change L 7=true at h7;rw[l7]at h7;cases h7
 . change L 11=true at h11;rw[Iy]at h11;cases h11
theorem JS.s7 (h:JS y pv A C k n L f x)(hL:L 7=false)(h4:L 4=true)(h6:L 6=true){r:Value}(aJ:x'.ownsRow y.heap.size 62 3 r (k+1) (A++pv))(hg:x.grownBy x' (f 4).ownBlock):JS y pv A C k n (plus L 7) (bQ f 7 r) x':=by
 have Iy:L 11=false:=sF fun h11=>by rw[h.Ix h11]at hL;cases hL
 have hG:ae y x':=((h.ah.only _).then (ar.ay hg)).ah fun j hj=>((h.r4 h4 hL).lt j hj.symm).1;refine⟨hG,h.o4,fun _=>⟨h4,h6⟩,fun _=>rfl,fun _ uO=>?_,(fun _ h7=>by cases h7),(fun _ h7=>by cases h7),fun _ _=>aJ,fun h11=>?_⟩
 . change L 4=false at uO;rw[h4]at uO;cases uO
 . change L 11=true at h11;rw[Iy]at h11;cases h11
theorem JS.Z4 (h:JS y pv A C k n L f x)(hL:L 11=false)(h7:L 7=true){r:Value}(aJ:x'.ownsRow y.heap.size 62 3 r (n+1) (A++pv++C))(hg:x.grownBy x' (f 7).ownBlock):JS y pv A C k n (plus L 11) (bQ f 11 r) x':=by
 have hG:ae y x':=((h.ah.only _).then (ar.ay hg)).ah fun j hj=>((h.r7 h7 hL).lt j hj.symm).1;refine⟨hG,h.o4,h.o7,fun _=>h7,fun _ uO=>?_,fun _ Iz=>?_,fun _ Iz=>?_,(fun _ h11=>by cases h11),fun _=>aJ⟩
 . change L 4=false at uO;rw[(h.o7 h7).1]at uO;cases uO
 . change L 7=false at Iz;rw[h7]at Iz;cases Iz
 . change L 7=false at Iz;rw[h7]at Iz;cases Iz
end
namespace Pl
theorem Z5 {zs:List Pr}(h:dK zs){p:Pr}(hp:aT p.key=0)(hd:∀c∈zs,c.key≠p.key)(k:Nat)(hk:k<=zs.length)(h1:∀j,k<=j->j<zs.length->0<cU (aV zs j).key p.key)(h2:0<k->¬0<cU (aV zs (k - 1)).key p.key):dK (zs.take k++[p]++zs.drop k):=by
 have ok:=jP hp;refine⟨?_,?_⟩
 . intro c hc;simp only[zQ8,zQ0]at hc;rcases hc with(hc | rfl) | hc
   . exact h.key c (yZ2 hc)
   . exact hp
   . exact h.key c (zK6 hc)
 . rw[zQ7,yX7];refine⟨h.iO.sublist (yJ9 _ _),?_,?_⟩
   . rw[xX0,yQ3];refine⟨fun c hc=>?_,h.iO.sublist (yK1 _ _)⟩;obtain⟨j,hj,rfl⟩:=zK5 hc;rw[zK1]at hj;have:=h1 (k+j) (by omega) (by omega);rw[kV zs (k+j) (by omega)]at this;rw[List.getElem_drop,yU (jP (h.key _ (zQ4 _))) ok];omega
   . intro a ha b hb;obtain⟨j,hj,rfl⟩:=zK5 ha;rw[zZ9]at hj;have qN:0<k:=(by omega);have oka:=jP (h.key _ (zQ4 (l:=zs) (n:=j) (by omega)));have nQ:cU (aV zs (k - 1)).key p.key<0:=by
      have hm:=CW zs (k - 1) (by omega);have h3:=h2 qN;have h4:cU (aV zs (k - 1)).key p.key≠0:=fun e=>hd _ hm (CS (jP (h.key _ hm)) ok e);omega
     have az:cU (zs[j]).key p.key<0:=by
      rcases zJ7 j (k - 1)with az | KI
      . have h5:=zJ4.1 h.iO j (k - 1) (by omega) (by omega) az;rw[kV zs (k - 1) (by omega)]at nQ;exact uM oka (jP (h.key _ (zQ4 _))) ok h5 nQ
      . obtain rfl:j=k - 1:=(by omega);rwa[kV zs (k - 1) (by omega)]at nQ
     rw[yJ2];rw[xX0]at hb;rcases zX0.1 hb with rfl | hb
     . exact az
     . obtain⟨i,hi,rfl⟩:=zK5 hb;rw[zK1]at hi;rw[List.getElem_drop];exact zJ4.1 h.iO j (k+i) (by omega) (by omega) (by omega)
theorem Rl (zs:List Pr)(p:Pr)(k:Nat):(zs.take k++[p]++zs.drop k).Perm (zs++[p]):=by
 rw[zQ7];have h1:([p]++zs.drop k).Perm (zs.drop k++[p]):=List.perm_append_comm;have h2:=List.Perm.append_left (zs.take k) h1;rw[<-zQ7 (zs.take k) (zs.drop k),zX7]at h2;exact h2
end Pl
theorem UK {W:World}{a:Option Addr}{xs:List Pr}(h:jN W a xs)(i:Nat):jN W a (xs.take i):=by
 rcases h with h | ⟨b,off,e,hb,h⟩
 . exact .inl (by rw[h];simp)
 . exact .inr ⟨b,off,e,hb,h.take i⟩
theorem UL {W:World}{b off:Nat}{xs:List Pr}(h:jN W (some ⟨b,off,none⟩) xs)(i:Nat):jN W (some ⟨b,off+i*3,none⟩) (xs.drop i):=by
 rcases h with h | ⟨b',MW,e,hb,h⟩
 . exact .inl (by rw[h];simp)
 . cases e;exact .inr ⟨b,off+i*3,rfl,hb,h.drop i⟩
theorem UM {W:World}{vb:Nat}{p:Pr}(h:W.heap[vb]? =some (.cells p.vals.toArray 62 (0,0))):jN W (some ⟨vb,0,none⟩) [p]:=by
 refine .inr ⟨vb,0,rfl,(zZ2.1 h).1,?_,?_,?_⟩<;> intro j hj<;> (obtain rfl:j=0:=by simp at hj;omega)<;> (rw[gw h];rfl)
theorem Z6 (xs:List Pr)(k:Nat)(h:k<xs.length):xs.take (k+1)=xs.take k++[aV xs k]:=by
 rw[zX1 h,kV xs k h]
theorem Z8 {w:World}{tb:Nat}{xs:List Pr}(h:nP w tb xs)(hx:xs.length<=1000000)(hk:∀c∈xs,Pl.aT c.key=0)(hd:xs.Pairwise fun a b=>a.key≠b.key):
    Calls prog 46 #[.pointer (some ⟨tb,0,none⟩)] w fun e w'=>(∃v zs,e=.returned v/\zs.Perm xs/\Pl.dK zs/\w'.ownsRow w.heap.size 62 3 v zs.length (cq zs))/\ae w w':=by
 obtain⟨a,cap,c0,hA⟩:=h;have eY:=bf c0;have HA:=af hA;have HK:=af hk;have HD:=af hd;clear hA hk hd;go_in;go_wp2_with fail;go_loopw [3,13] (fun v i wr=>∃(k:Nat) (zs:List Pr) (g:Nat) (cp:Nat),k<=xs.length/\v=.slice (some ⟨g,0,none⟩) k cp/\i=.int .i64 k/\Hid (zs.Perm (xs.take k)/\Pl.dK zs/\zs.length=k)/\wr.ownsRow w.heap.size 62 3 (.slice (some ⟨g,0,none⟩) k cp) k (cq zs)/\ae w wr) (fun _ i _=>xs.length - (intOf i).toNat);exact⟨0,[],w.heap.size,0,zZ5 _,rfl,rfl,⟨by simp,Pl.KU,rfl⟩,⟨rfl,.inr ⟨w.heap.size,0,#[],rfl,zZ3 _,wZ0 w _,zZ3 _,zZ5 _,rfl,rfl⟩⟩,(ae.rf w).alloc _⟩;obtain⟨k,zs,g,cp,fV,rfl,rfl,HZ,aH,hG⟩:=hrel;by_cases az:k<xs.length
 . rcases HA.out with h0 | ⟨b,off,rfl,hb,hR⟩
   . rw[h0]at az;simp at az
   have q0:=(hG.cells.1 b (off+k*3) hb).trans (hR.key k az);have q1:=(hG.cells.1 b (off+k*3+1) hb).trans (hR.val k az);have q2:=(hG.cells.1 b (off+k*3+2) hb).trans (hR.eI k az);have HT:=af (Z6 xs k az);have fD:=CW xs k az;have Rm:=af (HK.out _ fD);have MX:Hid (∀c∈zs,c.key≠(aV xs k).key):=fun c hc=>by
    have hc':=HZ.out.1.mem_iff.1 hc;obtain⟨j,hj,rfl⟩:=zK5 hc';rw[zZ9]at hj;rw[yJ2,kV xs k az];exact zJ4.1 HD.out j k (by omega) az (by omega)
   clear hR fD;generalize aV xs k=p at *;obtain⟨pk,pv,pn⟩:=p;dsimp only at *;obtain⟨wo,rfl⟩:∃wo:World,wo=wr:=⟨_,rfl⟩
   go_wp2_with fail;have k0:(wo.alloc (.cells #[.string pk,.string pv,.int .i64 pn] 62)).cell? ⟨wo.heap.size,0,none⟩=some (.string pk):=(by simp[go_sem]);have k1:(wo.alloc (.cells #[.string pk,.string pv,.int .i64 pn] 62)).cell? ⟨wo.heap.size,1,none⟩=some (.string pv):=(by simp[go_sem]);have k2:(wo.alloc (.cells #[.string pk,.string pv,.int .i64 pn] 62)).cell? ⟨wo.heap.size,2,none⟩=some (.int .i64 pn):=(by simp[go_sem]);have hz1:wo.heap.size<(wo.alloc (.cells #[.string pk,.string pv,.int .i64 pn] 62)).heap.size:=(by simp);have gh:ae w (wo.alloc (.cells #[.string pk,.string pv,.int .i64 pn] 62)):=hG.alloc _;have j0h:k<=cp:=by
    rcases aH.2 with⟨h,_⟩ | ⟨g',c',cur,h,_,_,hq,_⟩
    . cases h
    . cases h;exact hq
   have aR:g<(wo.alloc (.cells #[.string pk,.string pv,.int .i64 pn] 62)).heap.size:=by
    rcases aH.2 with⟨h,_⟩ | ⟨g',c',cur,h,_,hq,_⟩
    . cases h
    . cases h;have:=(zZ2.1 hq).1;simp;omega
   obtain⟨B,hB⟩:∃B,B=wo.alloc (.cells #[.string pk,.string pv,.int .i64 pn] 62):=⟨_,rfl⟩
   have kM:Hid (B.ownsRow w.heap.size 62 3 (.slice (some ⟨g,0,none⟩) k cp) k (cq zs)):=(by rw[hB];exact gP ((ae.rf wo).alloc (.cells #[.string pk,.string pv,.int .i64 pn] 62)) aH);rw[<-hB]at k0 k1 k2 hz1 gh aR ⊢;obtain⟨pb,C5⟩:∃pb,pb=wo.heap.size:=⟨_,rfl⟩
   rw[<-C5]at k0 k1 k2 hz1 ⊢;have uP:=af HZ.out.2.2;have hk6:k<1000000:=(by omega);clear hB aH C5 hG q0 q1 q2;go_loopw [6] (fun i wx=>∃m:Nat,m<=k/\i=.int .i64 m/\Hid (∀j,m<=j->j<k->0<Pl.cU (aV zs j).key pk)/\ae B wx) (fun i _=>(intOf i).toNat);exact⟨k,zZ3 _,rfl,fun j h1 h2=>by omega,ae.rf B⟩;obtain⟨m,UN,rfl,HJ,ln⟩:=hrel;have p0:=(ln.cells.1 _ _ hz1).trans k0;have p1:=(ln.cells.1 _ _ hz1).trans k1;have p2:=(ln.cells.1 _ _ hz1).trans k2;have vO:pb<wr.heap.size:=xA9 hz1 ln.size;cases m with
   | zero=>
    have dJ:Hid (Pl.dK (zs.take 0++[⟨pk,pv,pn⟩]++zs.drop 0)):=Z5 HZ.out.2.1 Rm.out MX.out 0 (zZ5 _) (fun j h1 h2=>HJ.out j h1 (by have:=uP.out;omega)) (fun h=>by omega);clear HJ;go_wp2_with fail;go_quiet (fail);go_wp2_with fail;generalize hY:World.drewN wr _=Y;have gY:ae B Y:=(by rw[<-hY];exact ln.drewN _);clear hY p0 p1 p2 vO ln;have hMk:0<=k:=(by omega);have hMi:((0:Nat):Int)<=(k:Int):=(by omega);have hMc:0<=cp:=(by omega);have hkc:(k:Int)<=(cp:Int):=(by omega);have UO:=xA9 hz1 gY.size;have pw:Hid (jN Y (some ⟨g,0,none⟩) zs):=by
     have h1:=kM.out;rw[<-uP.out]at h1;obtain⟨a',bo,e',hP⟩:=lT h1;cases e';exact hP.ah gY
    have K0:=bj (w:=Y) ((gY.cells.1 _ _ hz1).trans k0);have K1:=bj (w:=Y) ((gY.cells.1 _ _ hz1).trans k1);have K2:=bj (w:=Y) ((gY.cells.1 _ _ hz1).trans k2);refine jA 12 [0,4,6,7,11] (ae Y) Eq (JS Y (Pr.vals ⟨pk,pv,pn⟩) (cq (zs.take (0))) (cq (zs.drop (0))) (0) k) (fun f a=>((((a.put (some 34) (f 0)).put (some 38) (f 4)).put (some 40) (f 6)).put (some 41) (f 7)).put (some 45) (f 11)) (JS.aX Y) (fun L f x h=>h.ah) (fun _=>rfl) (fun _ _ _ _ h g=>g▸h) ?_;repeat (first|refine iX ?_|(refine iZ ?_;intros;go_big_quiet_op;go_big_quiet_on)|(refine iY ?_;simp only[Act.put,xB9,xC9,xD9]))
    refine mi (by rfl) ⟨⟨bL rfl (fun _ a=>a) ?_,bL rfl (fun f a=>a.put (some 34) (f 0)) ?_,bL rfl (fun _ a=>a) ?_,bL rfl (fun f a=>(a.put (some 38) (f 4)).put (some 40) (f 6)) ?_,bL rfl (fun f a=>a.put (some 41) (f 7)) ?_,trivial⟩,?_⟩
    . intro L f x hJ hL hd;have hm:=af (hJ.s0 hL);clear K0 K1 K2 hJ;go_simp;exact hm.out
    . intro L f x hJ hL hd;clear K0 K1 K2;have h0:=hd 0 rfl (by decide);refine BV _ _ rfl (B:=Y.heap.size) (v:=f 0) (m:=0) (ys:=[]) (xs:=zs.take (0)) rfl (hJ.r0 h0 hL) (ao:=some ⟨g,0,none⟩) (n:=0) (cap:=cp) rfl (by rw[zZ9];have:=uP.out;omega) (UK (pw.out.ah hJ.ah) _) (.inr ⟨_,_,rfl⟩) (by omega) hJ.ah.size ?_;intro r x' aJ hgr how;refine hJ.s4 hL h0 ?_ hgr how;simpa using aJ
    . intro L f x hJ hL hd;have hm:=af (hJ.s6 hL);clear K0 K1 K2 hJ;go_simp;exact hm.out
    . intro L f x hJ hL hd;clear K0 K1 K2;have h4:=hd 4 rfl (by decide);have h6:=hd 6 rfl (by decide);obtain⟨vb,e6,yI,dP,_,hne⟩:=hJ.r6 h6 hL;refine BV _ _ rfl (B:=Y.heap.size) (v:=f 4) (m:=0) (ys:=zs.take (0)) (xs:=[⟨pk,pv,pn⟩]) rfl (hJ.r4 h4 hL) (ao:=some ⟨vb,0,none⟩) (n:=1) (cap:=1) e6 rfl (UM dP) (.inr ⟨_,_,rfl⟩) (by omega) hJ.ah.size ?_;intro r x' aJ hgr how;refine hJ.s7 hL h4 h6 ?_ hgr;rw[lH,vU]at aJ;exact aJ
    . intro L f x hJ hL hd;clear K0 K1 K2;have h7:=hd 7 rfl (by decide);refine BV _ _ rfl (B:=Y.heap.size) (v:=f 7) (m:=0+1) (ys:=zs.take (0)++[⟨pk,pv,pn⟩]) (xs:=zs.drop (0)) rfl (by rw[lH,vU];exact hJ.r7 h7 hL) (ao:=some ⟨g,0*3,none⟩) (n:=k - (0)) (cap:=cp - (0)) ?_ (by rw[zK1];have:=uP.out;omega) (by have:=UL (pw.out.ah hJ.ah) (0);rw[zQ2]at this;first | exact this | (split;exact .inl (List.drop_eq_nil_of_le (by have:=uP.out;omega));exact this)) (by first | exact .inr ⟨_,_,rfl⟩ | (split<;> exact .inr ⟨_,_,rfl⟩)) (by omega) hJ.ah.size ?_
      . rfl
      intro r x' aJ hgr how;refine hJ.Z4 hL h7 ?_ hgr;rw[lH,lH,vU]at aJ;rw[show k+1=0+1+(k - (0)) by omega];exact aJ
    rintro f x hJ;clear K0 K1 K2;have wX:=hJ.wX rfl;obtain⟨g',bo,e11,_,_⟩:=wX.form (by omega);rw[e11]at wX;rw[e11];have ln:ae w x:=(gh.trans gY).trans hJ.ah;have MZ:x.ownsRow w.heap.size 62 3 (.slice (some ⟨g',0,none⟩) (k+1) bo) (k+1) (cq (zs.take (0)++[⟨pk,pv,pn⟩]++zs.drop (0))):=by
     rw[lH,lH,vU];exact mg (zZ6 gh.size gY.size) wX
    have UQ:=af MZ;have KW:Hid ((zs.take (0)++[(⟨pk,pv,pn⟩:Pr)]++zs.drop (0)).Perm (xs.take (k+1))/\Pl.dK (zs.take (0)++[(⟨pk,pv,pn⟩:Pr)]++zs.drop (0))/\(zs.take (0)++[(⟨pk,pv,pn⟩:Pr)]++zs.drop (0)).length=k+1):=by
     refine⟨?_,dJ.out,?_⟩
     . rw[HT.out];exact(Rl zs _ _).trans (HZ.out.1.append_right _)
     . rw[(Rl zs _ _).length_eq,zZ4,uP.out];rfl
    clear hJ e11 wX MZ gY gh pw UO dJ;dsimp only[List.drop];go_wp2_with fail;go_roundw;case rel=>exact⟨k+1,_,g',bo,by omega,rfl,by go_num,KW,UQ.out,ln⟩
    case measure=>simp[intOf];omega
   | succ m=>
    have UR:m<zs.length:=(by have:=uP.out;omega);have hgx:g<wr.heap.size:=xA9 aR ln.size;have hq:wr.cell? ⟨g,m*3,none⟩=some (.string (aV zs m).key):=by
     have h1:=(kM.out.cellAt (m*3+0) (by have:=yP zs;have:=uP.out;omega))
     rw[Ia 0 (by omega) zs m UR]at h1;exact(ln.cells.1 g (m*3) aR).trans h1
    have IA:=Pl.jP (HZ.out.2.1.key _ (CW zs m UR));have C6:=af (MU (aV zs m).key pk IA (Pl.jP Rm.out));have wY:(aV zs m).key≠pk:=MX.out _ (CW zs m UR);have Z9:Pl.cU (aV zs m).key pk≠0:=fun e=>wY (CS IA (Pl.jP Rm.out) e);have tk:((aV zs m).key.toList==pk.toList)=false:=(by rw[wZ3];exact fun e=>wY (ZZ e));have Rn:=af Z9;clear IA wY Z9;have i2:((m:Int)+1) - 1=(m:Int):=(by omega);have i0:(0:Int)<=(m:Int):=(by omega);have hmB:m<1000000:=(by omega);have i6:IntKind.i64.wrap (m:Int)=(m:Int):=IntWalk.i64_in _ (by omega);have i3:(m:Int)<(k:Int):=(by omega);have i4:m<k:=(by omega);have d2:decide ((0:Int)<(m:Int)+1)=true:=wZ5 (by omega);generalize jC:(aV zs m).key=ck at hq C6 tk Rn;cases Ro:Op.bytesLess ck.toList pk.toList with
    | false=>
     have HJ2:Hid (∀j,m<=j->j<k->0<Pl.cU (aV zs j).key pk):=fun j h1 h2=>by
      rcases zJ7 m j with h3 | h3
      . exact HJ.out j h3 h2
      . obtain rfl:j=m:=(by omega);rw[jC];have:=C6.out;rw[Ro]at this;have h4:=of_decide_eq_false this;have h5:=Rn.out;omega
     clear HJ C6 jC Rn;go_wp2_with fail;go_quiet (fail);go_wp2_with fail;go_roundw;case rel=>exact⟨m,by omega,by go_num,HJ2,ln.drewN _⟩
     case measure=>simp[intOf]
    | true=>
     have dJ:Hid (Pl.dK (zs.take (m+1)++[⟨pk,pv,pn⟩]++zs.drop (m+1))):=Z5 HZ.out.2.1 Rm.out MX.out (m+1) (by omega) (fun j h1 h2=>HJ.out j h1 (by have:=uP.out;omega)) (fun _=>by
      show ¬0<Pl.cU (aV zs m).key pk;rw[jC];have:=C6.out;rw[Ro]at this;have h4:=wQ3 this;omega)
     clear HJ C6 jC Rn;go_wp2_with fail;go_quiet (fail);go_wp2_with fail;generalize hY:World.drewN wr _=Y;have gY:ae B Y:=(by rw[<-hY];exact ln.drewN _);clear hY p0 p1 p2 vO ln;have hMk:(m+1)<=k:=(by omega);have hMi:(((m+1):Nat):Int)<=(k:Int):=(by omega);have hMc:(m+1)<=cp:=(by omega);have hkc:(k:Int)<=(cp:Int):=(by omega);have UO:=xA9 hz1 gY.size;have pw:Hid (jN Y (some ⟨g,0,none⟩) zs):=by
      have h1:=kM.out;rw[<-uP.out]at h1;obtain⟨a',bo,e',hP⟩:=lT h1;cases e';exact hP.ah gY
     have K0:=bj (w:=Y) ((gY.cells.1 _ _ hz1).trans k0);have K1:=bj (w:=Y) ((gY.cells.1 _ _ hz1).trans k1);have K2:=bj (w:=Y) ((gY.cells.1 _ _ hz1).trans k2);refine jA 12 [0,4,6,7,11] (ae Y) Eq (JS Y (Pr.vals ⟨pk,pv,pn⟩) (cq (zs.take ((m+1)))) (cq (zs.drop ((m+1)))) ((m+1)) k) (fun f a=>((((a.put (some 34) (f 0)).put (some 38) (f 4)).put (some 40) (f 6)).put (some 41) (f 7)).put (some 45) (f 11)) (JS.aX Y) (fun L f x h=>h.ah) (fun _=>rfl) (fun _ _ _ _ h g=>g▸h) ?_;repeat (first|refine iX ?_|(refine iZ ?_;intros;go_big_quiet_op;go_big_quiet_on)|(refine iY ?_;simp only[Act.put,xB9,xC9,xD9]))
     refine mi (by rfl) ⟨⟨bL rfl (fun _ a=>a) ?_,bL rfl (fun f a=>a.put (some 34) (f 0)) ?_,bL rfl (fun _ a=>a) ?_,bL rfl (fun f a=>(a.put (some 38) (f 4)).put (some 40) (f 6)) ?_,bL rfl (fun f a=>a.put (some 41) (f 7)) ?_,trivial⟩,?_⟩
     . intro L f x hJ hL hd;have hm:=af (hJ.s0 hL);clear K0 K1 K2 hJ;go_simp;exact hm.out
     . intro L f x hJ hL hd;clear K0 K1 K2;have h0:=hd 0 rfl (by decide);refine BV _ _ rfl (B:=Y.heap.size) (v:=f 0) (m:=0) (ys:=[]) (xs:=zs.take ((m+1))) rfl (hJ.r0 h0 hL) (ao:=some ⟨g,0,none⟩) (n:=(m+1)) (cap:=cp) rfl (by rw[zZ9];have:=uP.out;omega) (UK (pw.out.ah hJ.ah) _) (.inr ⟨_,_,rfl⟩) (by omega) hJ.ah.size ?_;intro r x' aJ hgr how;refine hJ.s4 hL h0 ?_ hgr how;simpa using aJ
     . intro L f x hJ hL hd;have hm:=af (hJ.s6 hL);clear K0 K1 K2 hJ;go_simp;exact hm.out
     . intro L f x hJ hL hd;clear K0 K1 K2;have h4:=hd 4 rfl (by decide);have h6:=hd 6 rfl (by decide);obtain⟨vb,e6,yI,dP,_,hne⟩:=hJ.r6 h6 hL;refine BV _ _ rfl (B:=Y.heap.size) (v:=f 4) (m:=(m+1)) (ys:=zs.take ((m+1))) (xs:=[⟨pk,pv,pn⟩]) rfl (hJ.r4 h4 hL) (ao:=some ⟨vb,0,none⟩) (n:=1) (cap:=1) e6 rfl (UM dP) (.inr ⟨_,_,rfl⟩) (by omega) hJ.ah.size ?_;intro r x' aJ hgr how;refine hJ.s7 hL h4 h6 ?_ hgr;rw[lH,vU]at aJ;exact aJ
     . intro L f x hJ hL hd;clear K0 K1 K2;have h7:=hd 7 rfl (by decide);refine BV _ _ rfl (B:=Y.heap.size) (v:=f 7) (m:=(m+1)+1) (ys:=zs.take ((m+1))++[⟨pk,pv,pn⟩]) (xs:=zs.drop ((m+1))) rfl (by rw[lH,vU];exact hJ.r7 h7 hL) (ao:=(if cp=m+1 then some ⟨g,0,none⟩else some ⟨g,(m+1)*3,none⟩)) (n:=k - ((m+1))) (cap:=cp - ((m+1))) ?_ (by rw[zK1];have:=uP.out;omega) (by have:=UL (pw.out.ah hJ.ah) ((m+1));rw[zQ2]at this;first | exact this | (split;exact .inl (List.drop_eq_nil_of_le (by have:=uP.out;omega));exact this)) (by first | exact .inr ⟨_,_,rfl⟩ | (split<;> exact .inr ⟨_,_,rfl⟩)) (by omega) hJ.ah.size ?_
       . rfl
       intro r x' aJ hgr how;refine hJ.Z4 hL h7 ?_ hgr;rw[lH,lH,vU]at aJ;rw[show k+1=(m+1)+1+(k - ((m+1))) by omega];exact aJ
     rintro f x hJ;clear K0 K1 K2;have wX:=hJ.wX rfl;obtain⟨g',bo,e11,_,_⟩:=wX.form (by omega);rw[e11]at wX;rw[e11];have ln:ae w x:=(gh.trans gY).trans hJ.ah;have MZ:x.ownsRow w.heap.size 62 3 (.slice (some ⟨g',0,none⟩) (k+1) bo) (k+1) (cq (zs.take ((m+1))++[⟨pk,pv,pn⟩]++zs.drop ((m+1)))):=by
      rw[lH,lH,vU];exact mg (zZ6 gh.size gY.size) wX
     have UQ:=af MZ;have KW:Hid ((zs.take ((m+1))++[(⟨pk,pv,pn⟩:Pr)]++zs.drop ((m+1))).Perm (xs.take (k+1))/\Pl.dK (zs.take ((m+1))++[(⟨pk,pv,pn⟩:Pr)]++zs.drop ((m+1)))/\(zs.take ((m+1))++[(⟨pk,pv,pn⟩:Pr)]++zs.drop ((m+1))).length=k+1):=by
      refine⟨?_,dJ.out,?_⟩
      . rw[HT.out];exact(Rl zs _ _).trans (HZ.out.1.append_right _)
      . rw[(Rl zs _ _).length_eq,zZ4,uP.out];rfl
     clear hJ e11 wX MZ gY gh pw UO dJ;dsimp only[List.drop];go_wp2_with fail;go_roundw;case rel=>exact⟨k+1,_,g',bo,by omega,rfl,by go_num,KW,UQ.out,ln⟩
     case measure=>simp[intOf];omega
 . obtain rfl:k=xs.length:=(by omega);have HR:=af aH;have C9:Hid (zs.Perm xs/\Pl.dK zs/\zs.length=xs.length):=(by have:=HZ.out;rw[zQ1]at this;exact this);clear aH HZ;go_wp2_with fail;go_ret;obtain⟨z1,z2,z3⟩:=C9.out;exact⟨⟨_,zs,rfl,z1,z2,by rw[z3];exact HR.out⟩,hG⟩
end
section
structure mP (w:World)(G:Nat->Prop)(tb:Nat)(v:Value)(xs:List Pr):Prop where
 c0:w.cell? ⟨tb,0,none⟩=some v
 f0:w.frozen? ⟨tb,0,none⟩=false
 row:w.ownsRow 0 62 3 v xs.length (cq xs)
 foot:G tb
 own:∀g,v.ownBlock=some g->G g/\g≠tb
 lt:∀j,G j->j<w.heap.size
def er (w:World)(G:Nat->Prop)(tb:Nat)(xs:List Pr):Prop:=∃v,mP w G tb v xs
def oN (w:World)(G:Nat->Prop)(tb:Nat)(xs:List Pr)(w':World):Prop:=ar G w w'/\∃G',er w' G' tb xs/\∀j,G' j->G j\/w.heap.size<=j
theorem mP.aC {w w':World}{G S:Nat->Prop}{tb:Nat}{v:Value}{xs:List Pr}(h:mP w G tb v xs)(g:ar S w w')(hS:∀j,G j->¬S j):mP w' G tb v xs where
 c0:=(g.cell (bf h.c0) (hS _ h.foot) 0).trans h.c0
 f0:=(g.frozen (bf h.c0) (hS _ h.foot) 0).trans h.f0
 row:=Ct h.row g fun b hb=>hS b (h.own b hb).1
 foot:=h.foot
 own:=h.own
 lt:=fun j hj=>xA9 (h.lt j hj) g.size
theorem er.aC {w w':World}{G S:Nat->Prop}{tb:Nat}{xs:List Pr}(h:er w G tb xs)(g:ar S w w')(hS:∀j,G j->¬S j):er w' G tb xs:=by obtain⟨v,h⟩:=h;exact⟨v,h.aC g hS⟩
theorem er.ah {w w':World}{G:Nat->Prop}{tb:Nat}{xs:List Pr}(h:er w G tb xs)(g:ae w w'):er w' G tb xs:=h.aC (g.only fun _=>False) (fun _ _ h=>h)
theorem er.lt {w:World}{G:Nat->Prop}{tb:Nat}{xs:List Pr}(h:er w G tb xs):∀j,G j->j<w.heap.size:=by obtain⟨v,h⟩:=h;exact h.lt
theorem mP.read {w:World}{G:Nat->Prop}{tb:Nat}{v:Value}{xs:List Pr}(h:mP w G tb v xs):nP w tb xs:=by
 obtain⟨a,cap,e,hA⟩:=lT h.row;exact⟨a,cap,by rw[<-e];exact h.c0,hA⟩
theorem er.read {w:World}{G:Nat->Prop}{tb:Nat}{xs:List Pr}(h:er w G tb xs):nP w tb xs:=by obtain⟨v,h⟩:=h;exact h.read
theorem oN.dw {w w':World}{G:Nat->Prop}{tb:Nat}{xs:List Pr}(h:er w G tb xs)(g:ae w w'):oN w G tb xs w':=⟨g.only _,G,h.ah g,fun j hj=> .inl hj⟩
theorem oN.trans {w w1 w2:World}{G G1:Nat->Prop}{tb:Nat}{xs:List Pr}(g1:ar G w w1)(hG:∀j,G1 j->G j\/w.heap.size<=j)(h:oN w1 G1 tb xs w2):oN w G tb xs w2:=by
 obtain⟨g2,G2,h2,h3⟩:=h;refine⟨g1.trans g2 hG,G2,h2,fun j hj=>?_⟩
 . rcases h3 j hj with h | h
   . exact hG j h
   . exact .inr (zZ6 g1.size h)
theorem mP.store {w y:World}{G:Nat->Prop}{tb:Nat}{v v':Value}{xs zs:List Pr}(h:mP w G tb v xs)(hO:ar G w y)(hc:∃u,y.cell? ⟨tb,0,none⟩=some u)(hf:y.frozen? ⟨tb,0,none⟩=false)(hr:y.ownsRow 0 62 3 v' zs.length (cq zs))(ho:∀g,v'.ownBlock=some g->(G g\/w.heap.size<=g)/\g≠tb/\g<y.heap.size):oN w G tb zs (y.setCell ⟨tb,0,none⟩ v'):=by
 obtain⟨u,hc⟩:=hc;have gy:ar (fun j=>j=tb) y (y.setCell ⟨tb,0,none⟩ v'):=ar.setCell y ⟨tb,0,none⟩ _;refine⟨hO.then (gy.mono fun j (hj:j=tb)=> .inl (by rw[hj];exact h.foot)),fun j=>G j\/v'.ownBlock=some j,⟨v',by simp[go_sem,hc],by simp[go_sem,hf],Ct hr gy fun b hb (e:b=tb)=>(ho b hb).2.1 e,.inl h.foot,fun g hg=>⟨.inr hg,(ho g hg).2.1⟩,fun j hj=>?_⟩,fun j hj=>?_⟩
 . rcases hj with hj | hj
   . exact xA9 (h.lt j hj) (zZ6 hO.size gy.size)
   . exact xA9 (ho j hj).2.2 gy.size
 . rcases hj with hj | hj
   . exact .inl hj
   . exact(ho j hj).1
structure JD (y:World)(A C:List Value)(k n:Nat)(L:Nat->Bool)(f:Nat->Value)(x:World):Prop where
 ah:ae y x
 o8:L 8=true->L 1=true
 IG:L 16=true->L 8=true
 r1:L 1=true->L 8=false->x.ownsRow y.heap.size 62 3 (f 1) 0 []
 r8:L 8=true->L 16=false->x.ownsRow y.heap.size 62 3 (f 8) k A
 r16:L 16=true->x.ownsRow y.heap.size 62 3 (f 16) n (A++C)
section
variable {y x x':World}{A C:List Value}{k n:Nat}{L:Nat->Bool}{f:Nat->Value}
theorem JD.aX (y:World):JD y A C k n (fun _=>false) f y.drew:=
 ⟨(ae.rf y).drew,(fun h=>by cases h),(fun h=>by cases h),(fun h=>by cases h),(fun h=>by cases h),(fun h=>by cases h)⟩
theorem JD.s1 (h:JD y A C k n L f x)(hL:L 1=false):JD y A C k n (plus L 1) (bQ f 1 (.slice (some ⟨x.heap.size,0,none⟩) 0 0)) (x.alloc (.cells #[] 62)):=by
 have l8:L 8=false:=sF fun h8=>by rw[h.o8 h8]at hL;cases hL
 have Dq:L 16=false:=sF fun jR=>by rw[h.IG jR]at l8;cases l8
 refine⟨h.ah.alloc _,fun _=>rfl,h.IG,fun _ _=>?_,fun h8=>?_,fun jR=>?_⟩
 . exact⟨rfl,.inr ⟨x.heap.size,0,#[],rfl,h.ah.size,wZ0 x _,zZ3 _,zZ5 _,rfl,rfl⟩⟩
 . change L 8=true at h8;rw[l8]at h8;cases h8
 . change L 16=true at jR;rw[Dq]at jR;cases jR
theorem JD.s8 (h:JD y A C k n L f x)(hL:L 8=false)(h1:L 1=true){r:Value}(aJ:x'.ownsRow y.heap.size 62 3 r k A)(hg:x.grownBy x' (f 1).ownBlock):JD y A C k n (plus L 8) (bQ f 8 r) x':=by
 have Dq:L 16=false:=sF fun jR=>by rw[h.IG jR]at hL;cases hL
 have hr1:=h.r1 h1 hL;have hG:ae y x':=((h.ah.only _).then (ar.ay hg)).ah fun j hj=>(hr1.lt j hj.symm).1;refine⟨hG,fun _=>h1,fun jR=>?_,(fun _ h8=>by cases h8),fun _ _=>aJ,fun jR=>?_⟩
 . change L 16=true at jR;rw[Dq]at jR;cases jR
 . change L 16=true at jR;rw[Dq]at jR;cases jR
theorem JD.Vb (h:JD y A C k n L f x)(hL:L 16=false)(h8:L 8=true){r:Value}(aJ:x'.ownsRow y.heap.size 62 3 r n (A++C))(hg:x.grownBy x' (f 8).ownBlock):JD y A C k n (plus L 16) (bQ f 16 r) x':=by
 have hG:ae y x':=((h.ah.only _).then (ar.ay hg)).ah fun j hj=>((h.r8 h8 hL).lt j hj.symm).1;refine⟨hG,h.o8,fun _=>h8,fun _ II=>?_,(fun _ jR=>by cases jR),fun _=>aJ⟩;change L 8=false at II;rw[h8]at II;cases II
end
theorem zv {α:Type}(p:α->Bool)(xs:List α):(dU p xs= -1/\xs.find? p=none/\xs.eraseP p=xs)\/∃i:Nat,∃h:i<xs.length,dU p xs=(i:Nat)/\xs.find? p=some xs[i]/\xs.eraseP p=xs.take i++xs.drop (i+1):=by
 unfold dU;cases h:xs.findIdx? p with
 | none=>
  rw[yJ6]at h;refine .inl ⟨rfl,?_,?_⟩
  . rw[List.find?_eq_none];intro x hx;simpa using h x hx
  . rw[List.eraseP_of_forall_not];intro x hx;simpa using h x hx
 | some i=>
  obtain⟨hi,h1,h2⟩:=yQ6.1 h;refine .inr ⟨i,hi,rfl,?_,?_⟩
  . rw[List.find?_eq_some_iff_getElem];exact⟨h1,i,hi,rfl,fun j hj=>by simpa using h2 j hj⟩
  . rw[List.eraseP_eq_eraseIdx,h];exact xZ2 xs i
theorem y9w {w:World}{G:Nat->Prop}{tb:Nat}{xs:List Pr}(h:er w G tb xs)(hx:xs.length<=1000000)(key:ByteArray):
    Calls prog 100 #[.pointer (some ⟨tb,0,none⟩),.string key] w fun e w'=>e=.returned (.bool (xs.find? (Pl.gB key)).isSome)/\oN w G tb (xs.eraseP (Pl.gB key)) w':=by
 have HF:=af (UJ h.read hx key);have HR:=af h;obtain⟨v,h⟩:=h;have c0:=h.c0;have eY:=bf c0;have HH:=af h;obtain⟨a,cap,e,hA⟩:=lT h.row;subst e;have qc:xs.length<=cap\/(a=none/\xs=[]):=by
  rcases h.row.2 with⟨h1,h2⟩ | ⟨g',c',cur,h1,_,_,hq,_⟩
  . rw[Value.slice.injEq]at h1;exact .inr ⟨h1.1,zX2 h1.2.1⟩
  . cases h1;exact .inl hq
 clear h;have HA:=af hA;clear hA;rcases zv (Pl.gB key) xs with⟨e1,e2,e3⟩ | ⟨i,hi,e1,e2,e3⟩
 . rw[e1]at HF;rw[e2,e3];clear e1 e2 e3;go_in;go_wp2_with fail;refine HF.mono ?_;rintro e w1 ⟨rfl,hg⟩;go_wp2_with fail;go_ret;exact⟨rfl,oN.dw HR hg⟩
 . rw[e1]at HF;rw[e2,e3];rcases HA.out with h0 | ⟨b,off,rfl,hb,hR⟩
   . rw[h0]at hi;simp at hi
   have Nd:xs.length<=cap:=by
    rcases qc with h | ⟨h,_⟩
    . exact h
    . cases h
   have Vc:off=0:=by
    rcases HH.out.row.2 with⟨h1,_⟩ | ⟨g',c',cur,h1,_⟩
    . rw[Value.slice.injEq]at h1;cases h1.1
    . cases h1;rfl
   subst Vc;clear hR e1 e2 e3 qc;obtain⟨n,hn⟩:∃n,n=xs.length:=⟨_,rfl⟩
   rw[<-hn]at hi Nd hx c0;have HN:=af hn;clear hn;have i1:¬(i:Int)<0:=(by omega);have i2:(i:Int)<=(cap:Int):=(by omega);have i3:((i:Int)+1)<=(n:Int):=(by omega);have i4:i<=cap:=(by omega);have i5:i+1<=n:=(by omega);have i6:n<=cap:=(by omega);have i7:(n:Int)<=(cap:Int):=(by omega);have i8:(0:Int)<=(i:Int):=(by omega);have i9:(0:Int)<=(i:Int)+1:=(by omega);have i10:i<1000000:=(by omega);go_in;go_wp2_with fail;refine HF.mono ?_;rintro e w1 ⟨rfl,hg⟩;have ct:=af hg;clear hg;go_wp2_with fail;have pw:Hid (jN w1 (some ⟨b,0,none⟩) xs):=by
    obtain⟨a',bo,e',hP⟩:=lT HH.row;cases e';exact hP.ah ct
   have C0:=bj (w:=w1) ((ct.cells.1 _ _ eY).trans c0);have MV:=xA9 eY ct.size;refine jA 17 [1,8,16] (ae w1) Eq (JD w1 (cq (xs.take i)) (cq (xs.drop (i+1))) i (n - 1)) (fun f a=>((a.put (some 12) (f 1)).put (some 19) (f 8)).put (some 27) (f 16)) (JD.aX w1) (fun L f x h=>h.ah) (fun _=>rfl) (fun _ _ _ _ h g=>g▸h) ?_;repeat (first|refine iX ?_|(refine iZ ?_;intros;go_big_quiet_op;go_big_quiet_on)|(refine iY ?_;simp only[Act.put,xB9,xC9,xD9]))
   refine mi (by rfl) ⟨⟨bL rfl (fun _ a=>a) ?_,bL rfl (fun f a=>a.put (some 12) (f 1)) ?_,bL rfl (fun f a=>a.put (some 19) (f 8)) ?_,trivial⟩,?_⟩
   . intro L f x hJ hL hd;have hm:=af (hJ.s1 hL);clear C0 hJ;go_simp;exact hm.out
   . intro L f x hJ hL hd;clear C0;have h1:=hd 1 rfl (by decide);refine BV _ _ rfl (B:=w1.heap.size) (v:=f 1) (m:=0) (ys:=[]) (xs:=xs.take i) rfl (hJ.r1 h1 hL) (ao:=some ⟨b,0,none⟩) (n:=i) (cap:=cap) rfl (by rw[zZ9];have:=HN.out;omega) (UK (pw.ah hJ.ah) _) (.inr ⟨_,_,rfl⟩) (by omega) hJ.ah.size ?_;intro r x' aJ hgr how;refine hJ.s8 hL h1 ?_ hgr;simpa using aJ
   . intro L f x hJ hL hd;clear C0;have h8:=hd 8 rfl (by decide);refine BV _ _ rfl (B:=w1.heap.size) (v:=f 8) (m:=i) (ys:=xs.take i) (xs:=xs.drop (i+1)) rfl (hJ.r8 h8 hL) (ao:=(if cap=i+1 then some ⟨b,0,none⟩else some ⟨b,(i+1)*3,none⟩)) (n:=n - (i+1)) (cap:=cap - (i+1)) ?_ (by rw[zK1];have:=HN.out;omega) (by have:=UL (pw.ah hJ.ah) (i+1);rw[zQ2]at this;split;exact .inl (List.drop_eq_nil_of_le (by have:=HN.out;omega));exact this) (by split<;> exact .inr ⟨_,_,rfl⟩) (by omega) hJ.ah.size ?_
     . rfl
     intro r x' aJ hgr how;refine hJ.Vb hL h8 ?_ hgr;rw[lH]at aJ;rw[show n - 1=i+(n - (i+1)) by omega];exact aJ
   rintro f x hJ;clear C0;have r16:=hJ.r16 rfl;have cF:∃a' bo,f 16=.slice a' (n - 1) bo:=by
    rcases r16.2 with⟨h1,h2⟩ | ⟨g',c',cur,h1,_⟩
    . have hz:=r16.1;rw[h2]at hz;simp at hz;rw[h1];exact⟨none,0,by first | rw[hz] | (rw[<-hz]) | simp_all⟩
    . exact⟨_,_,h1⟩
   obtain⟨a',bo,IJ⟩:=cF;rw[IJ]at r16;rw[IJ];have ln:=ct.trans hJ.ah;have HK:=HH.aC (ln.only fun _=>False) (fun _ _ h=>h);have cx:=HK.c0;have fx:=HK.f0;have Nf:=bf cx;have dJ:Hid (oN w G tb (xs.take i++xs.drop (i+1)) (x.setCell ⟨tb,0,none⟩ (.slice a' (n - 1) bo))):=by
    refine HH.store (ln.only _) ⟨_,cx⟩ fx ?_ fun g hg=>?_
    . have hl:(xs.take i++xs.drop (i+1)).length=n - 1:=(by rw[zZ4,zZ9,zK1];have:=HN.out;omega);rw[hl,lH];exact mg (zZ5 _) r16
    . have h1:=r16.lt g hg;have h2:=ct.size;exact⟨.inr (by omega),by omega,h1.2⟩
   clear hJ IJ r16 HK ln;dsimp only[List.drop];go_wp2_with fail;all_goals (go_ret;exact⟨rfl,dJ⟩)
theorem y2Y {ops:Array Oper}{rest:List Oper}{o:Oper}{a:Act}{Q:Exit->Act->World->Prop}(hgd:o.guard=none)(s x:Operand)
    (ho:o.op=.call {callee:=.builtin .append,args:=#[s,x],argTypes:=#[66,66]}) {w:World} {B:Nat} {v:Value} {m:Nat} {ys xs:List Pr} (hs:a.eval s=v) (aH:w.ownsRow B 62 3 v m (cq ys))
    {ao:Option Addr} {n cap:Nat} (hx:a.eval x=.slice ao n cap) (hn:n=xs.length) (hA:jN w ao xs) (hf:qg ao cap) (dI:m+n<=2000000) (hB:B<=w.heap.size)
    (h:∀a' bo w',w'.ownsRow B 62 3 (.slice a' (m+n) bo) (m+n) (cq (ys++xs))->w.grownBy w' v.ownBlock->(∀g,Value.ownBlock (.slice a' (m+n) bo)=some g->v.ownBlock=some g\/g=w.heap.size)->wpList prog ops Q rest (a.put o.dst (.slice a' (m+n) bo)) w'):wpList prog ops Q (o::rest) a w:=by
 obtain⟨a',bo,w',hr,h2,h3,h4⟩:=Zq aH hn hA hf dI hB o.type;exact Lib.wpList_append_run w hgd s x _ _ ho _ _ hs hx _ _ hr (h a' bo w' h2 h3 h4)
def Pl.jS (xs:List Pr)(p:Pr):List Pr:=if Pl.eM p=0 then xs.eraseP (Pl.gB p.key)++[p]else xs
theorem z6E (p:Pr->Bool)(xs:List Pr):(xs.eraseP p).length<=xs.length:=List.length_eraseP_le
theorem z5W {w:World}{G:Nat->Prop}{tb:Nat}{xs:List Pr}(h:er w G tb xs)(hx:xs.length<=1000000)(key val:ByteArray)(v:Int)(hk:key.size<=16777216)(hv:val.size<=140737488351232):
    Calls prog 99 #[.pointer (some ⟨tb,0,none⟩),.string key,.string val,.int .i64 v] w fun e w'=>e=.returned (.int .i64 (Pl.eM ⟨key,val,v⟩:Nat))/\oN w G tb (Pl.jS xs ⟨key,val,v⟩) w':=by
 have HR:=af h;have uK:=af (za key w hk);have HD:=af (fun W (g:ae w W)=>y9w (h.ah g) hx key);have HL:=af (z6E (Pl.gB key) xs);clear h;have pq:Hid (Pl.eM ⟨key,val,v⟩=if Pl.aT key≠0 then Pl.aT key else if 64<val.size then 3 else if v<1\/4096<v then 1 else 0):=rfl;have B6:Hid (Pl.jS xs ⟨key,val,v⟩=if Pl.eM ⟨key,val,v⟩=0 then xs.eraseP (Pl.gB key)++[⟨key,val,v⟩]else xs):=rfl;generalize Pl.jS xs ⟨key,val,v⟩=zs at B6 ⊢;generalize Pl.eM ⟨key,val,v⟩=ne at pq B6 ⊢;by_cases dO:Pl.aT key=0
 . rw[dO]at uK;by_cases tM:64<val.size
   . have e1:ne=3:=(by rw[pq.out,zZ0 (by simp[dO]),zZ1 tM]);subst e1;have e2:zs=xs:=(by rw[B6.out,zZ0 (by decide)]);subst e2;have zq:(64:Int)<(val.size:Int):=(by omega);clear pq dO B6;go_in;go_wp2_with fail;refine uK.mono ?_;rintro e w1 ⟨rfl,hg⟩;go_wp2_with fail;go_ret;exact⟨rfl,oN.dw HR hg⟩
   . have zq:(val.size:Int)<=64:=(by omega);by_cases hr:v<1\/4096<v
     . have e1:ne=1:=(by rw[pq.out,zZ0 (by simp[dO]),zZ0 tM,zZ1 hr]);subst e1;have e2:zs=xs:=(by rw[B6.out,zZ0 (by decide)]);subst e2;clear pq dO B6 tM;by_cases hr1:v<1
       . go_in;go_wp2_with fail;refine uK.mono ?_;rintro e w1 ⟨rfl,hg⟩;go_wp2_with fail;go_ret;exact⟨rfl,oN.dw HR hg⟩
       . have hr2:4096<v:=(by omega);go_in;go_wp2_with fail;refine uK.mono ?_;rintro e w1 ⟨rfl,hg⟩;go_wp2_with fail;go_ret;exact⟨rfl,oN.dw HR hg⟩
     . have hr1:1<=v:=(by omega);have hr2:v<=4096:=(by omega);have e1:ne=0:=(by rw[pq.out,zZ0 (by simp[dO]),zZ0 tM,zZ0 hr]);subst e1;have e2:zs=xs.eraseP (Pl.gB key)++[⟨key,val,v⟩]:=(by rw[B6.out,zZ1 rfl]);subst e2;clear pq dO B6 tM hr;generalize xs.eraseP (Pl.gB key)=ys at *;go_in;go_wp2_with fail;refine uK.mono ?_;rintro e w1 ⟨rfl,hg⟩;have ct:=af hg;clear hg;go_wp2_with fail;refine(HD _ ct).mono ?_;rintro e w2 ⟨rfl,hO,G2,⟨u,hI⟩,bW⟩;have HO:=af hO;have HI:=af hI;have cA:=af bW;have c0:=hI.c0;have eY:=bf c0;obtain⟨a2,ep,eu,_⟩:=lT hI.row;subst eu;clear hO hI bW;have Ng:=HL.out;have gI:=af (fun W (g:ae w2 W)=>gP g HI.row);go_wp2_with (at_builtin;refine y2Y rfl _ _ rfl rfl (gI.out _ ((ae.rf w2).alloc _)) rfl rfl (UM (p:=⟨key,val,v⟩) (wZ0 w2 _)) (.inr ⟨_,_,rfl⟩) (by simp only[zQ6,zJ0];omega) (zZ5 _) ?_);intro a' bo w3 aJ hgr how;have eN:ar (fun j=>some j=Value.ownBlock (.slice a2 ys.length ep)) w2 w3:=(((ae.rf w2).alloc (Obj.cells #[.string key,.string val,.int .i64 v] 62)).only _).then (ar.ay hgr);have iU:¬some tb=Value.ownBlock (.slice a2 ys.length ep):=fun e=>(HI.own _ e.symm).2 rfl;have c3:=(eN.cell eY iU 0).trans HI.c0;have f3:=(eN.frozen eY iU 0).trans HI.f0;have j0k:=bf c3;have dJ:Hid (oN w G tb (ys++[⟨key,val,v⟩]) (w3.setCell ⟨tb,0,none⟩ (.slice a' (ys.length+1) bo))):=by
        have iJ:ar G w w2:=(ct.only _).then HO;refine oN.trans iJ (fun j hj=>?_) (HI.store (eN.mono fun j (hj:some j=_)=> .inl (HI.own j hj.symm).1) ⟨_,c3⟩ f3 ?_ fun g hg=>?_)
        . rcases cA.out j hj with h | h
          . exact .inl h
          . exact .inr (zZ6 ct.size h)
        . rw[zZ4];exact aJ
        . have az:=aJ.lt g hg;rcases how g hg with h | h
          . exact⟨.inl (HI.own g h).1,(HI.own g h).2,az.2⟩
          . have hs3:w2.heap.size<=g:=(by rw[h];exact yK9 _);exact⟨.inr (by omega),by omega,az.2⟩
       clear aJ hgr how eN gI iU;go_wp2_with fail;go_ret;exact⟨rfl,dJ⟩
 . have e1:ne=Pl.aT key:=(by rw[pq.out,zZ1 dO]);have e2:zs=xs:=(by rw[B6.out,zZ0 (by rw[e1];exact dO)]);subst e2;subst e1;clear pq B6;have j0l:(Pl.aT key:Int)≠0:=(by omega);generalize Pl.aT key=kn at *;go_in;go_wp2_with fail;refine uK.mono ?_;rintro e w1 ⟨rfl,hg⟩;go_wp2_with fail;go_ret;exact⟨rfl,oN.dw HR hg⟩
end
theorem mP.snoc {Y y:World}{G:Nat->Prop}{tb:Nat}{v r:Value}{xs:List Pr}{p:Pr}(h:mP Y G tb v xs)(hD:∃x0,ae Y x0/\lR 62 3 v xs.length (cq xs) p.vals x0 r y):
    ∃g c,r=.slice (some ⟨g,0,none⟩) (xs.length+1) c/\y.cell? ⟨tb,0,none⟩=some v/\y.frozen? ⟨tb,0,none⟩=false/\oN Y G tb (xs++[p]) (y.setCell ⟨tb,0,none⟩ (.slice (some ⟨g,0,none⟩) (xs.length+1) c)):=by
 obtain⟨x0,qO,g4,c4,e,aJ,hgr,hat⟩:=hD;have eN:ar (fun j=>some j=v.ownBlock) Y y:=(qO.only _).then (ar.ay hgr);have eY:tb<Y.heap.size:=bf h.c0;have iU:¬some tb=v.ownBlock:=fun e=>(h.own _ e.symm).2 rfl;have c3:=(eN.cell eY iU 0).trans h.c0;have f3:=(eN.frozen eY iU 0).trans h.f0;refine⟨g4,c4,e,c3,f3,h.store (eN.mono fun j (hj:some j=_)=> .inl (h.own j hj.symm).1) ⟨_,c3⟩ f3 ?_ fun g hg=>?_⟩
 . rw[zZ4,lH,vU];exact aJ
 . have az:=aJ.lt g hg;have:g4=g:=(by simpa[Value.ownBlock]using hg);subst this;rcases hat with h1 | h1
   . exact⟨.inl (h.own _ h1).1,(h.own _ h1).2,az.2⟩
   . have:=qO.size;exact⟨.inr (by omega),by omega,az.2⟩
theorem mP.IK {w y:World}{G:Nat->Prop}{tb:Nat}{v v':Value}{xs zs:List Pr}(h:mP w G tb v xs)(hO:ar G w y)(hc:∃u,y.cell? ⟨tb,0,none⟩=some u)(hf:y.frozen? ⟨tb,0,none⟩=false)(hr:y.ownsRow 0 62 3 v' zs.length (cq zs))(ho:∀g,v'.ownBlock=some g->g≠tb/\g<y.heap.size):ar G w (y.setCell ⟨tb,0,none⟩ v')/\er (y.setCell ⟨tb,0,none⟩ v') (fun j=>j=tb\/v'.ownBlock=some j) tb zs:=by
 obtain⟨u,hc⟩:=hc;have gy:ar (fun j=>j=tb) y (y.setCell ⟨tb,0,none⟩ v'):=ar.setCell y ⟨tb,0,none⟩ _;refine⟨hO.then (gy.mono fun j (hj:j=tb)=> .inl (by rw[hj];exact h.foot)),v',by simp[go_sem,hc],by simp[go_sem,hf],Ct hr gy fun b hb (e:b=tb)=>(ho b hb).1 e,.inl rfl,fun g hg=>⟨.inr hg,(ho g hg).1⟩,fun j hj=>?_⟩;rcases hj with rfl | hj
 . exact bf (a:=⟨j,0,none⟩) (v:=v') (by simp[go_sem,hc])
 . exact xA9 (ho j hj).2 gy.size
def Pl.im (key:ByteArray)(p:Pr):Bool:=Pl.right key && !(Op.bytesLess p.key.toList key.toList)
structure rB (w wr:World)(ab bb:Nat)(ys zs:List Pr):Prop where
 ex:∃Ga Gb,er wr Ga ab ys/\er wr Gb bb zs/\(∀j,Ga j->w.heap.size<=j/\¬Gb j)/\(∀j,Gb j->w.heap.size<=j)
def IL (w:World)(G:Nat->Prop)(tb:Nat)(ys zs:List Pr)(e:Ending)(w':World):Prop:=∃bb Gb G',e=.returned (.pointer (some ⟨bb,0,none⟩))/\er w' Gb bb zs/\ar G w w'/\er w' G' tb ys/\(∀j,G' j->G j\/w.heap.size<=j)/\∀j,Gb j->w.heap.size<=j/\¬G' j
theorem z4t {w:World}{G:Nat->Prop}{tb:Nat}{xs:List Pr}(h:er w G tb xs)(hx:xs.length<=100000)(key:ByteArray)(hk:key.size<=16777216):
    Calls prog 106 #[.pointer (some ⟨tb,0,none⟩),.string key] w (IL w G tb (xs.filter fun p=>!Pl.im key p) (xs.filter (Pl.im key))):=by
 have HR:=af h;have HRU:=af (fun W=>ZU key W hk);obtain⟨i0,dA,hz0,hz1,hz2⟩:=wZ8 Q5;obtain⟨v,h⟩:=h;have c0:=h.c0;have eY:=bf c0;obtain⟨a,cap,e,hA⟩:=lT h.row;subst e;have HH:=af h;have HA:=af hA;have FX:Hid (∀p,Pl.im key p=(Pl.right key && !(Op.bytesLess p.key.toList key.toList))):=fun _=>rfl;generalize Pl.im key=pb at *;clear h hA;go_in;go_wp2_with fail;refine(HRU _).mono ?_;rintro e w1 ⟨hg,he⟩;obtain⟨vv,ok,rfl,eK⟩:∃vv ok,e=.returned (.tuple #[vv,.bool ok])/\Pl.right key=ok:=by
  rcases he with⟨h1,rfl⟩ | ⟨l,v,h1,rfl,_⟩
  . exact⟨_,_,rfl,by unfold Pl.right;rw[h1];rfl⟩
  . exact⟨_,_,rfl,by unfold Pl.right;rw[h1];rfl⟩
 have gh:ae w w1:=hg.Qo;have hza:w.heap.size<w1.heap.size:=by have:=hg.size;simp at this;omega
 have hzb:w.heap.size+1<w1.heap.size:=by have:=hg.size;simp at this;omega
 have pN:Hid (rB w w1 w.heap.size (w.heap.size+1) [] []):=by
  refine⟨fun j=>j=w.heap.size,fun j=>j=w.heap.size+1,⟨.slice none 0 0,?_,?_,World.ownsRow_nil _ _ _ _,rfl,(fun g h=>by cases h),fun j hj=>by rw[hj];exact hza⟩,⟨.slice none 0 0,?_,?_,World.ownsRow_nil _ _ _ _,rfl,(fun g h=>by cases h),fun j hj=>by rw[hj];exact hzb⟩,fun j hj=>⟨by omega,by omega⟩,fun j hj=>by omega⟩
  . rw[hg.cells.1 _ _ (by simp;omega)];simp[go_sem]
  . rw[hg.cells.2 _ _ (by simp;omega)];simp[go_sem]
  . rw[hg.cells.1 _ _ (by simp)];simp[go_sem]
  . rw[hg.cells.2 _ _ (by simp)];simp[go_sem]
 have c1:=(gh.cells.1 _ _ eY).trans c0;have MV:=xA9 eY gh.size;rw[eK]at FX;clear hg he hza hzb eK;go_wp2_with fail;obtain⟨ab,hab⟩:∃ab,ab=w.heap.size:=⟨_,rfl⟩
 obtain⟨bb,eT⟩:∃bb,bb=w.heap.size+1:=⟨_,rfl⟩
 rw[<-eT,<-hab]at pN;rw[<-eT,<-hab];have HAB:=af hab;have qp:=af eT;clear hab eT;go_loopw [25] (fun i wr=>∃(k:Nat) (ys zs:List Pr),k<=xs.length/\i=.int .i64 k/\Hid (ys=(xs.take k).filter (fun p=>!pb p))/\Hid (zs=(xs.take k).filter pb)/\Hid (rB w wr ab bb ys zs)/\Hid (ae w wr)) (fun i _=>xs.length - (intOf i).toNat);exact⟨0,[],[],zZ5 _,rfl,rfl,rfl,pN,gh⟩;obtain⟨k,ys,zs,fV,rfl,HY,HZ,HC,HG⟩:=hrel;by_cases az:k<xs.length
 . rcases HA.out with h0 | ⟨b,off,rfl,hb,hR⟩
   . rw[h0]at az;simp at az
   have q0:=(HG.cells.1 b (off+k*3) hb).trans (hR.key k az);have q1:=(HG.cells.1 b (off+k*3+1) hb).trans (hR.val k az);have q2:=(HG.cells.1 b (off+k*3+2) hb).trans (hR.eI k az);have hT:=Z6 xs k az;have hfa:(xs.take (k+1)).filter (fun p=>!pb p)=ys++(if pb (aV xs k)=true then []else [aV xs k]):=by
    rw[hT,xZ8,<-HY.out];cases h:pb (aV xs k)<;> simp[h]
   have hfb:(xs.take (k+1)).filter pb=zs++(if pb (aV xs k)=true then [aV xs k]else []):=by
    rw[hT,xZ8,<-HZ.out];cases h:pb (aV xs k)<;> simp[h]
   have B5:=af hfa;have Nh:=af hfb;have hly:ys.length<=100000:=(by have h1:=xX1 (fun p=>!pb p) (xs.take k);rw[<-HY.out,zZ9]at h1;omega);have hlz:zs.length<=100000:=(by have h1:=xX1 pb (xs.take k);rw[<-HZ.out,zZ9]at h1;omega);have B7:=FX (aV xs k);clear hR hfa hfb hT;generalize aV xs k=c at *;obtain⟨ck,cv,cn⟩:=c;dsimp only at *;obtain⟨Ga,Gb,RD,FY,lX⟩:=HC.ex;have nh:=HG.out;clear HC HY HZ;obtain⟨lb,zw⟩:∃lb,lb=wr.heap.size:=⟨_,rfl⟩
   have xf:=af zw;have gY:ae wr (wr.alloc (.cells #[.string ck,.string cv,.int .i64 cn] 62)):=(ae.rf wr).alloc _;have k0:(wr.alloc (.cells #[.string ck,.string cv,.int .i64 cn] 62)).cell? ⟨lb,0,none⟩=some (.string ck):=(by rw[zw];simp[go_sem]);have k1:(wr.alloc (.cells #[.string ck,.string cv,.int .i64 cn] 62)).cell? ⟨lb,1,none⟩=some (.string cv):=(by rw[zw];simp[go_sem]);have k2:(wr.alloc (.cells #[.string ck,.string cv,.int .i64 cn] 62)).cell? ⟨lb,2,none⟩=some (.int .i64 cn):=(by rw[zw];simp[go_sem]);clear zw;cases C5:pb ⟨ck,cv,cn⟩with
   | true=>
    rw[C5]at B7;have eN:ok=true:=(by cases ok;cases B7;rfl);subst eN;have fC:Op.bytesLess ck.toList key.toList=false:=(by cases h:Op.bytesLess ck.toList key.toList;rfl;rw[h]at B7;cases B7);have RF:Hid (ys=(xs.take (k+1)).filter (fun p=>!pb p)):=(by unfold Hid;rw[B5.out,C5];simp);have C9:Hid (zs++[⟨ck,cv,cn⟩]=(xs.take (k+1)).filter pb):=(by unfold Hid;rw[Nh.out,C5];simp);clear B5 Nh B7;go_wp2_with fail;rw[<-xf.out];generalize Ni:World.alloc wr _=Y at k0 k1 k2 gY ⊢;have rC:=gY;clear Ni gY q0 q1 q2;obtain⟨u,hI⟩:=FY;have HI:=af hI;have FZ:=af RD;clear hI RD;have jz:¬some lb=u.ownBlock:=fun e=>by have:=HI.lt _ (HI.own _ e.symm).1;have:=xf.out;omega
    have iU:¬some bb=u.ownBlock:=fun e=>(HI.own _ e.symm).2 rfl;have hlb:lb<Y.heap.size:=bf k0;have nU:=nh.trans rC;have uQ:=af (HI.aC (rC.only fun _=>False) (fun _ _ h=>h));have K0:=bu (S:=fun j=>some j=u.ownBlock) k0 jz;have K1:=bu (S:=fun j=>some j=u.ownBlock) k1 jz;have K2:=bu (S:=fun j=>some j=u.ownBlock) k2 jz;have C0:=bu (S:=fun j=>some j=u.ownBlock) uQ.c0 iU;have htY:=bf uQ.c0;clear k0 k1 k2;refine jA 8 [6,7] (ar (fun j=>some j=u.ownBlock) Y) Eq (fL 62 6 7 Y [.string ck,.string cv,.int .i64 cn] (lR 62 3 u zs.length (cq zs) [.string ck,.string cv,.int .i64 cn])) (fun f a=>(a.put (some 42) (f 6)).put (some 43) (f 7)) (fL.aX Y) (fun L f x h=>h.only fun _ _ _ h=>h.only) (fun _=>rfl) (fun _ _ _ _ h g=>g▸h) ?_;repeat (first|refine iX ?_|(refine iZ ?_;intros;go_big_quiet_op;go_big_quiet_on)|(refine iY ?_;simp only[Act.put,xB9,xC9,xD9]))
    refine mi (by rfl) ⟨⟨bL rfl (fun _ a=>a) ?_,bL rfl (fun f a=>a.put (some 42) (f 6)) ?_,trivial⟩,?_⟩
    . intro L f y hJ hL hd;clear K0 K1 K2 C0;have hm:=af (hJ.make (by decide) hL);clear hJ;go_simp;exact hm.out
    . intro L f y hJ hL hd;clear K0 K1 K2 C0;have h6:=hd 6 rfl (by decide);obtain⟨vb,q7,yI,dP⟩:=hJ.made h6 hL;refine CG _ _ _ rfl 62 i0 _ 3 40 underlying66 dA hz0 hz1 hz2 Rw (by omega) u zs.length (cq zs) rfl ?_ vb 1 [.string ck,.string cv,.int .i64 cn] ?_ rfl dP (by intro u hu;simp at hu;rcases hu with rfl | rfl | rfl<;> rfl) (by unfold maxLen;omega) (by omega) ?_
      . exact gP (hJ.ah hL) uQ.row
      . exact q7
      . intro r w' hD;exact hJ.call (by decide) hL h6 hD
    rintro f y hJ;clear K0 K1 K2 C0;obtain⟨g4,c4,q8,cy,fy,hT⟩:=uQ.snoc (p:=⟨ck,cv,cn⟩) (hJ.done rfl);rw[q8];have hty:=bf cy;obtain⟨zx,G',px,nS⟩:=hT;have HC:Hid (rB w (y.setCell ⟨bb,0,none⟩ (.slice (some ⟨g4,0,none⟩) (zs.length+1) c4)) ab bb ys (zs++[⟨ck,cv,cn⟩])):=by
     refine⟨Ga,G',(FZ.ah rC).aC zx (fun j h1 h2=>(lX.1 j h1).2 h2),px,fun j hj=>?_,fun j hj=>?_⟩
     . exact⟨(lX.1 j hj).1,fun h=>by rcases nS j h with h | h;exact(lX.1 j hj).2 h;have:=(FZ.ah rC).lt j hj;omega⟩
     . rcases nS j hj with h | h;exact lX.2 j h;have:=nU.size;omega
    have Nj:Hid (ae w (y.setCell ⟨bb,0,none⟩ (.slice (some ⟨g4,0,none⟩) (zs.length+1) c4))):=((nU.only _).then zx).ah (fun j hj=>lX.2 j hj);clear hJ q8 zx px nS lX nh nU rC jz iU;dsimp only[List.drop];go_wp2_with fail;go_roundw;case rel=>exact⟨k+1,ys,zs++[⟨ck,cv,cn⟩],by omega,by go_num,RF,C9,HC,Nj⟩
    case measure=>simp[intOf];omega
   | false=>
    rw[C5]at B7;have RF:Hid (ys++[⟨ck,cv,cn⟩]=(xs.take (k+1)).filter (fun p=>!pb p)):=(by unfold Hid;rw[B5.out,C5];simp);have C9:Hid (zs=(xs.take (k+1)).filter pb):=(by unfold Hid;rw[Nh.out,C5];simp);cases ok with
    | false=>
     clear B5 Nh B7;go_wp2_with fail;rw[<-xf.out];generalize Ni:World.alloc wr _=Y at k0 k1 k2 gY ⊢;have rC:=gY;clear Ni gY q0 q1 q2;obtain⟨u,hI⟩:=RD;have HI:=af hI;have FZ:=af FY;clear hI FY;have jz:¬some lb=u.ownBlock:=fun e=>by have:=HI.lt _ (HI.own _ e.symm).1;have:=xf.out;omega
     have iU:¬some ab=u.ownBlock:=fun e=>(HI.own _ e.symm).2 rfl;have hlb:lb<Y.heap.size:=bf k0;have nU:=nh.trans rC;have uQ:=af (HI.aC (rC.only fun _=>False) (fun _ _ h=>h));have K0:=bu (S:=fun j=>some j=u.ownBlock) k0 jz;have K1:=bu (S:=fun j=>some j=u.ownBlock) k1 jz;have K2:=bu (S:=fun j=>some j=u.ownBlock) k2 jz;have C0:=bu (S:=fun j=>some j=u.ownBlock) uQ.c0 iU;have htY:=bf uQ.c0;clear k0 k1 k2;refine jA 8 [6,7] (ar (fun j=>some j=u.ownBlock) Y) Eq (fL 62 6 7 Y [.string ck,.string cv,.int .i64 cn] (lR 62 3 u ys.length (cq ys) [.string ck,.string cv,.int .i64 cn])) (fun f a=>(a.put (some 52) (f 6)).put (some 53) (f 7)) (fL.aX Y) (fun L f x h=>h.only fun _ _ _ h=>h.only) (fun _=>rfl) (fun _ _ _ _ h g=>g▸h) ?_;repeat (first|refine iX ?_|(refine iZ ?_;intros;go_big_quiet_op;go_big_quiet_on)|(refine iY ?_;simp only[Act.put,xB9,xC9,xD9]))
     refine mi (by rfl) ⟨⟨bL rfl (fun _ a=>a) ?_,bL rfl (fun f a=>a.put (some 52) (f 6)) ?_,trivial⟩,?_⟩
     . intro L f y hJ hL hd;clear K0 K1 K2 C0;have hm:=af (hJ.make (by decide) hL);clear hJ;go_simp;exact hm.out
     . intro L f y hJ hL hd;clear K0 K1 K2 C0;have h6:=hd 6 rfl (by decide);obtain⟨vb,q7,yI,dP⟩:=hJ.made h6 hL;refine CG _ _ _ rfl 62 i0 _ 3 40 underlying66 dA hz0 hz1 hz2 Rw (by omega) u ys.length (cq ys) rfl ?_ vb 1 [.string ck,.string cv,.int .i64 cn] ?_ rfl dP (by intro u hu;simp at hu;rcases hu with rfl | rfl | rfl<;> rfl) (by unfold maxLen;omega) (by omega) ?_
       . exact gP (hJ.ah hL) uQ.row
       . exact q7
       . intro r w' hD;exact hJ.call (by decide) hL h6 hD
     rintro f y hJ;clear K0 K1 K2 C0;obtain⟨g4,c4,q8,cy,fy,hT⟩:=uQ.snoc (p:=⟨ck,cv,cn⟩) (hJ.done rfl);rw[q8];have hty:=bf cy;obtain⟨zx,G',px,nS⟩:=hT;have HC:Hid (rB w (y.setCell ⟨ab,0,none⟩ (.slice (some ⟨g4,0,none⟩) (ys.length+1) c4)) ab bb (ys++[⟨ck,cv,cn⟩]) zs):=by
      refine⟨G',Gb,px,(FZ.ah rC).aC zx (fun j h1 h2=>(lX.1 j h2).2 h1),fun j hj=>?_,fun j hj=>?_⟩
      . rcases nS j hj with h | h
        . exact lX.1 j h
        . refine⟨by have:=nU.size;omega,fun hb=>?_⟩;have:=(FZ.ah rC).lt j hb;omega
      . exact lX.2 j hj
     have Nj:Hid (ae w (y.setCell ⟨ab,0,none⟩ (.slice (some ⟨g4,0,none⟩) (ys.length+1) c4))):=((nU.only _).then zx).ah (fun j hj=>(lX.1 j hj).1);clear hJ q8 zx px nS lX nh nU rC jz iU;dsimp only[List.drop];go_wp2_with fail;go_roundw;case rel=>exact⟨k+1,ys++[⟨ck,cv,cn⟩],zs,by omega,by go_num,RF,C9,HC,Nj⟩
     case measure=>simp[intOf];omega
    | true=>
     have fC:Op.bytesLess ck.toList key.toList=true:=(by cases h:Op.bytesLess ck.toList key.toList;rw[h]at B7;cases B7;rfl);clear B5 Nh B7;go_wp2_with fail;rw[<-xf.out];generalize Ni:World.alloc wr _=Y at k0 k1 k2 gY ⊢;have rC:=gY;clear Ni gY q0 q1 q2;obtain⟨u,hI⟩:=RD;have HI:=af hI;have FZ:=af FY;clear hI FY;have jz:¬some lb=u.ownBlock:=fun e=>by have:=HI.lt _ (HI.own _ e.symm).1;have:=xf.out;omega
     have iU:¬some ab=u.ownBlock:=fun e=>(HI.own _ e.symm).2 rfl;have hlb:lb<Y.heap.size:=bf k0;have nU:=nh.trans rC;have uQ:=af (HI.aC (rC.only fun _=>False) (fun _ _ h=>h));have K0:=bu (S:=fun j=>some j=u.ownBlock) k0 jz;have K1:=bu (S:=fun j=>some j=u.ownBlock) k1 jz;have K2:=bu (S:=fun j=>some j=u.ownBlock) k2 jz;have C0:=bu (S:=fun j=>some j=u.ownBlock) uQ.c0 iU;have htY:=bf uQ.c0;clear k0 k1 k2;refine jA 8 [6,7] (ar (fun j=>some j=u.ownBlock) Y) Eq (fL 62 6 7 Y [.string ck,.string cv,.int .i64 cn] (lR 62 3 u ys.length (cq ys) [.string ck,.string cv,.int .i64 cn])) (fun f a=>(a.put (some 52) (f 6)).put (some 53) (f 7)) (fL.aX Y) (fun L f x h=>h.only fun _ _ _ h=>h.only) (fun _=>rfl) (fun _ _ _ _ h g=>g▸h) ?_;repeat (first|refine iX ?_|(refine iZ ?_;intros;go_big_quiet_op;go_big_quiet_on)|(refine iY ?_;simp only[Act.put,xB9,xC9,xD9]))
     refine mi (by rfl) ⟨⟨bL rfl (fun _ a=>a) ?_,bL rfl (fun f a=>a.put (some 52) (f 6)) ?_,trivial⟩,?_⟩
     . intro L f y hJ hL hd;clear K0 K1 K2 C0;have hm:=af (hJ.make (by decide) hL);clear hJ;go_simp;exact hm.out
     . intro L f y hJ hL hd;clear K0 K1 K2 C0;have h6:=hd 6 rfl (by decide);obtain⟨vb,q7,yI,dP⟩:=hJ.made h6 hL;refine CG _ _ _ rfl 62 i0 _ 3 40 underlying66 dA hz0 hz1 hz2 Rw (by omega) u ys.length (cq ys) rfl ?_ vb 1 [.string ck,.string cv,.int .i64 cn] ?_ rfl dP (by intro u hu;simp at hu;rcases hu with rfl | rfl | rfl<;> rfl) (by unfold maxLen;omega) (by omega) ?_
       . exact gP (hJ.ah hL) uQ.row
       . exact q7
       . intro r w' hD;exact hJ.call (by decide) hL h6 hD
     rintro f y hJ;clear K0 K1 K2 C0;obtain⟨g4,c4,q8,cy,fy,hT⟩:=uQ.snoc (p:=⟨ck,cv,cn⟩) (hJ.done rfl);rw[q8];have hty:=bf cy;obtain⟨zx,G',px,nS⟩:=hT;have HC:Hid (rB w (y.setCell ⟨ab,0,none⟩ (.slice (some ⟨g4,0,none⟩) (ys.length+1) c4)) ab bb (ys++[⟨ck,cv,cn⟩]) zs):=by
      refine⟨G',Gb,px,(FZ.ah rC).aC zx (fun j h1 h2=>(lX.1 j h2).2 h1),fun j hj=>?_,fun j hj=>?_⟩
      . rcases nS j hj with h | h
        . exact lX.1 j h
        . refine⟨by have:=nU.size;omega,fun hb=>?_⟩;have:=(FZ.ah rC).lt j hb;omega
      . exact lX.2 j hj
     have Nj:Hid (ae w (y.setCell ⟨ab,0,none⟩ (.slice (some ⟨g4,0,none⟩) (ys.length+1) c4))):=((nU.only _).then zx).ah (fun j hj=>(lX.1 j hj).1);clear hJ q8 zx px nS lX nh nU rC jz iU;dsimp only[List.drop];go_wp2_with fail;go_roundw;case rel=>exact⟨k+1,ys++[⟨ck,cv,cn⟩],zs,by omega,by go_num,RF,C9,HC,Nj⟩
     case measure=>simp[intOf];omega
 . obtain rfl:k=xs.length:=(by omega);obtain⟨Ga,Gb,⟨u,hI⟩,FY,lX⟩:=HC.ex;obtain⟨au,Dr,rfl,_⟩:=lT hI.row;have cu:=hI.c0;have j0m:=bf cu;have hG:=HG.out;have hK:=HH.aC (hG.only fun _=>False) (fun _ _ h=>h);have cx:=hK.c0;have fx:=hK.f0;have Nf:=bf cx;have gy:ar (fun j=>j=tb) wr (wr.setCell ⟨tb,0,none⟩ (.slice au ys.length Dr)):=ar.setCell wr ⟨tb,0,none⟩ _;have dJ:Hid (∃Gb G',er (wr.setCell ⟨tb,0,none⟩ (.slice au ys.length Dr)) Gb bb zs/\ar G w (wr.setCell ⟨tb,0,none⟩ (.slice au ys.length Dr))/\er (wr.setCell ⟨tb,0,none⟩ (.slice au ys.length Dr)) G' tb ys/\(∀j,G' j->G j\/w.heap.size<=j)/\∀j,Gb j->w.heap.size<=j/\¬G' j):=by
    obtain⟨q1,q2⟩:=HH.IK (hG.only _) ⟨_,cx⟩ fx hI.row fun g hg=>by
     have h1:=hI.own g hg;have h2:=lX.1 g h1.1;exact⟨by have:=h2.1;omega,hI.lt g h1.1⟩
    refine⟨Gb,_,FY.aC gy fun j hj (e:j=tb)=>by have:=lX.2 j hj;omega,q1,q2,fun j hj=>?_,fun j hj=>⟨lX.2 j hj,?_⟩⟩
    . rcases hj with rfl | hj
      . exact .inl HH.foot
      . exact .inr (lX.1 j (hI.own j hj).1).1
    . rintro (rfl | hq)
      . have:=lX.2 j hj;omega
      . exact(lX.1 j (hI.own j hq).1).2 hj
   have HY3:Hid (ys=xs.filter (fun p=>!pb p)):=(by have:=HY.out;rwa[zQ1]at this);have Vd:Hid (zs=xs.filter pb):=(by have:=HZ.out;rwa[zQ1]at this);clear hI FY lX hG hK gy HC HG HY HZ;go_wp2_with fail;go_ret;rw[<-Vd.out,<-HY3.out];obtain⟨Gb,G',q⟩:=dJ.out;exact⟨bb,Gb,G',rfl,q⟩
section
theorem y9U (w:World):(w.alloc (.cells #[] 62)).ownsRow w.heap.size 62 3 (.slice (some ⟨w.heap.size,0,none⟩) 0 0) 0 (cq []):=by
 have HO:=af (fun(t:TypeId) (h:t=62)=>show(w.alloc (.cells #[] t)).ownsRow w.heap.size 62 3 (.slice (some ⟨w.heap.size,0,none⟩) 0 0) 0 []by
  subst h;exact oI (cur:=[]) (zZ3 _) (wZ0 w _) (zZ3 _) (by decide) rfl rfl)
 exact HO _ rfl
theorem z3l {w:World}{G:Nat->Prop}{tb:Nat}{xs:List Pr}(h:er w G tb xs)(hx:xs.length<=1000000):
    Calls prog 98 #[.pointer (some ⟨tb,0,none⟩)] w fun e w'=>(∃cb G',e=.returned (.pointer (some ⟨cb,0,none⟩))/\er w' G' cb xs/\∀j,G' j->w.heap.size<=j)/\ae w w':=by
 obtain⟨v,h⟩:=h;obtain⟨a,cap,rfl,hA⟩:=lT h.row;have c0:=h.c0;have IV:=Ib h.row;have eY:=bf c0;have HA:=af hA;have HS:=af IV;clear hA IV h;have kM:=af (y9U w);go_in;go_wp2_with (at_builtin;refine y2Y rfl _ _ rfl rfl kM.out rfl rfl (HA.out.ah ((ae.rf w).alloc _)) HS.out (by omega) (by simp) ?_);intro a' bo w3 aJ hgr how;have k6:ae w w3:=by
  have h1:=((ae.rf w).alloc (.cells #[] 62))
  refine((h1.only _).then (ar.ay hgr)).ah fun j hj=>?_;simp[Value.ownBlock]at hj;omega
 have HF:Hid ((∃G',er (w3.alloc (.cells #[.slice a' xs.length bo] 94)) G' w3.heap.size xs/\∀j,G' j->w.heap.size<=j)/\ae w (w3.alloc (.cells #[.slice a' xs.length bo] 94))):=by
  have hG:ae w3 (w3.alloc (.cells #[.slice a' xs.length bo] 94)):=(ae.rf w3).alloc _;refine⟨⟨fun j=>j=w3.heap.size\/Value.ownBlock (.slice a' xs.length bo)=some j,⟨_,by simp[go_sem],by simp[go_sem],mg (zZ5 _) (gP hG aJ),.inl rfl,fun g hg=>⟨.inr hg,?_⟩,fun j hj=>?_⟩,fun j hj=>?_⟩,k6.trans hG⟩
  . have:=(aJ.lt g hg).2;omega
  . rcases hj with rfl | hj
    . simp
    . have:=(aJ.lt j hj).2;have:=hG.size;omega
  . rcases hj with rfl | hj
    . exact k6.size
    . exact(aJ.lt j hj).1
 clear aJ hgr how k6;go_wp2_with fail;go_ret;obtain⟨⟨G',h1,h2⟩,h3⟩:=HF.out;exact⟨⟨_,G',rfl,h1,h2⟩,h3⟩
structure km (w:World)(G:Nat->Prop)(ms tb sb:Nat)(lo hi:ByteArray)(D:List Pr)(S:Int->Option An):Prop where
 c0:w.cell? ⟨ms,0,none⟩=some (.string lo)
 c1:w.cell? ⟨ms,1,none⟩=some (.string hi)
 c2:w.cell? ⟨ms,2,none⟩=some (.pointer (some ⟨tb,0,none⟩))
 c3:w.cell? ⟨ms,3,none⟩=some (.pointer (some ⟨sb,0,none⟩))
 f0:w.frozen? ⟨ms,0,none⟩=false
 f1:w.frozen? ⟨ms,1,none⟩=false
 f2:w.frozen? ⟨ms,2,none⟩=false
 tab:er w G tb D
 cL:dy w sb S
 ne:ms≠sb
 cC:∀j,G j->j≠ms/\j≠sb
def fE (w:World)(G:Nat->Prop)(ms sb:Nat)(lo hi:ByteArray)(D:List Pr)(S:Int->Option An):Prop:=∃tb,km w G ms tb sb lo hi D S
section
variable {w w':World}{G T:Nat->Prop}{ms tb sb:Nat}{lo hi:ByteArray}{D:List Pr}{S:Int->Option An}
theorem km.aC (h:km w G ms tb sb lo hi D S)(g:ar T w w')(h1:∀j,G j->¬T j)(h2:¬T ms)(h3:¬T sb):km w' G ms tb sb lo hi D S where
 c0:=(g.cell (bf h.c0) h2 0).trans h.c0
 c1:=(g.cell (bf h.c0) h2 1).trans h.c1
 c2:=(g.cell (bf h.c0) h2 2).trans h.c2
 c3:=(g.cell (bf h.c0) h2 3).trans h.c3
 f0:=(g.frozen (bf h.c0) h2 0).trans h.f0
 f1:=(g.frozen (bf h.c0) h2 1).trans h.f1
 f2:=(g.frozen (bf h.c0) h2 2).trans h.f2
 tab:=h.tab.aC g h1
 cL:=h.cL.aC g h3
 ne:=h.ne
 cC:=h.cC
theorem fE.aC (h:fE w G ms sb lo hi D S)(g:ar T w w')(h1:∀j,G j->¬T j)(h2:¬T ms)(h3:¬T sb):fE w' G ms sb lo hi D S:=by
 obtain⟨tb,h⟩:=h;exact⟨tb,h.aC g h1 h2 h3⟩
theorem fE.ah (h:fE w G ms sb lo hi D S)(g:ae w w'):fE w' G ms sb lo hi D S:=h.aC (g.only fun _=>False) (fun _ _ h=>h) (fun h=>h) (fun h=>h)
theorem fE.lt (h:fE w G ms sb lo hi D S):ms<w.heap.size/\sb<w.heap.size/\∀j,G j->j<w.heap.size:=by
 obtain⟨tb,h⟩:=h;exact⟨bf h.c0,h.cL.lt,h.tab.lt⟩
end
def rE (w:World)(G:Nat->Prop)(ms sb:Nat)(lo hi:ByteArray)(D:List Pr)(S:Int->Option An)(w':World):Prop:=
 ar (fun j=>j=ms\/j=sb\/G j) w w'/\∃G',fE w' G' ms sb lo hi D S/\∀j,G' j->G j\/w.heap.size<=j
theorem rE.dw {w w':World}{G:Nat->Prop}{ms sb:Nat}{lo hi:ByteArray}{D:List Pr}{S:Int->Option An}(h:fE w G ms sb lo hi D S)(g:ae w w'):rE w G ms sb lo hi D S w':=⟨g.only _,G,h.ah g,fun _ hj=> .inl hj⟩
theorem z4A (w:World)(lo hi:ByteArray)(T1 T2:TypeId):fE (((w.alloc (.cells #[.slice none 0 0] T1)).alloc (.cells #[.int .i64 0,.int .i64 0,.int .i64 0,.int .i64 0,.int .i64 0,.int .i64 0,.int .i64 0,.int .i64 0,.int .i64 0,.int .i64 0,.int .i64 0,.int .i64 0,.int .i64 0,.int .i64 0,.int .i64 0] T2)).alloc (.cells #[.string lo,.string hi,.pointer (some ⟨w.heap.size,0,none⟩),.pointer (some ⟨w.heap.size+1,0,none⟩)] 98)) (fun j=>j=w.heap.size) (w.heap.size+1+1) (w.heap.size+1) lo hi [] (fun _=>none):=by
 have hA:er (w.alloc (.cells #[.slice none 0 0] T1)) (fun j=>j=w.heap.size) w.heap.size []:=⟨.slice none 0 0,by simp[go_sem],by simp[go_sem],World.ownsRow_nil _ _ _ _,rfl,(fun g h=>by cases h),fun j hj=>by rw[hj];simp⟩
 have hB:=dy.new (w.alloc (.cells #[.slice none 0 0] T1)) T2;have hs:(w.alloc (.cells #[.slice none 0 0] T1)).heap.size=w.heap.size+1:=by simp
 rw[hs]at hB;refine⟨w.heap.size,by simp[go_sem],by simp[go_sem],by simp[go_sem],by simp[go_sem],by simp[go_sem],by simp[go_sem],by simp[go_sem],(hA.ah ((ae.rf _).alloc _)).ah ((ae.rf _).alloc _),hB.ah ((ae.rf _).alloc _),by omega,fun j hj=>⟨by omega,by omega⟩⟩
theorem z6f (w:World)(lo hi:ByteArray):
    Calls prog 52 #[.agg #[.string lo,.string hi]] w fun e w'=>∃ms sb G,e=.returned (.pointer (some ⟨ms,0,none⟩))/\fE w' G ms sb lo hi [] (fun _=>none)/\w.heap.size<=ms/\w.heap.size<=sb/\(∀j,G j->w.heap.size<=j)/\ae w w':=by
 go_in;go_wp2_with fail;go_ret;have h:=z4A (w.alloc (.cells #[.string lo,.string hi] 24)) lo hi 94 175;have hs:(w.alloc (.cells #[.string lo,.string hi] 24)).heap.size=w.heap.size+1:=by simp
 rw[hs]at h;exact⟨_,_,_,rfl,h,by omega,by omega,fun j hj=>by omega,((((ae.rf w).alloc _).alloc _).alloc _).alloc _⟩
end
namespace Pl
structure Tt (P D:List Pr):Prop where
 iD:dK P
 ap:D.Pairwise fun a b=>a.key≠b.key
 mem:∀c,c∈D↔c∈P
theorem Tt.nil:Tt [] []:=⟨KU,by simp,fun c=>Iff.rfl⟩
theorem zB {k:ByteArray}:¬cU k k<0:=fun h=>M8 h h
theorem Nn {P:List Pr}(h:dK P):P.Pairwise fun a b=>a.key≠b.key:=h.iO.imp fun {a b} hab e=>by rw[e]at hab;exact zB hab
theorem RG {D:List Pr}(h:D.Pairwise fun a b=>a.key≠b.key):D.Nodup:=h.imp fun {a b} hab e=>hab (by rw[e])
theorem Tt.perm {P D:List Pr}(h:Tt P D):P.Perm D:=(xX3 (RG (Nn h.iD)) (RG h.ap)).2 fun c=>(h.mem c).symm
theorem Tt.len {P D:List Pr}(h:Tt P D):P.length=D.length:=h.perm.length_eq
theorem Tt.key {P D:List Pr}(h:Tt P D):∀c∈D,aT c.key=0:=fun c hc=>h.iD.key c ((h.mem c).1 hc)
theorem Tt.sorted {P D zs:List Pr}(h:Tt P D)(hp:zs.Perm D)(hs:dK zs):zs=P:=
 z0i h.iD (hp.trans h.perm.symm) (hs.iO.imp fun hab=>M8 hab)
theorem z2A {D:List Pr}(h:D.Pairwise fun a b=>a.key≠b.key)(k:ByteArray):(D.eraseP (gB k)).Pairwise fun a b=>a.key≠b.key:=h.sublist List.eraseP_sublist
theorem Vf {D:List Pr}(h:D.Pairwise fun a b=>a.key≠b.key)(k:ByteArray)(c:Pr):c∈D.eraseP (gB k)↔c∈D/\c.key≠k:=by
 induction D with
 | nil=>simp
 | cons d D ih=>
  rw[yQ3]at h;by_cases hd:gB k d=true
  . rw[List.eraseP_cons_of_pos hd];have hk:=(j6 k d).1 hd;constructor
    . intro hc;exact⟨zJ9 _ hc,fun e=>h.1 c hc (by rw[hk,e])⟩
    . rintro ⟨hc,hn⟩;rcases zX0.1 hc with rfl | hc
      . exact(hn hk).elim
      . exact hc
  . rw[List.eraseP_cons_of_neg hd,zX0,ih h.2,zX0];have hk:d.key≠k:=fun e=>hd ((j6 k d).2 e);constructor
    . rintro (rfl | ⟨hc,hn⟩)
      . exact⟨.inl rfl,hk⟩
      . exact⟨.inr hc,hn⟩
    . rintro ⟨rfl | hc,hn⟩
      . exact .inl rfl
      . exact .inr ⟨hc,hn⟩
theorem Tt.del {P D:List Pr}(h:Tt P D)(k:ByteArray):Tt (jQ P k) (D.eraseP (gB k)):=
 ⟨UD h.iD k,z2A h.ap k,fun c=>by rw[Vf h.ap,UE h.iD,h.mem]⟩
theorem Tt.put {P D:List Pr}(h:Tt P D)(p:Pr):Tt (lv P p) (jS D p):=by
 unfold lv jS;by_cases hn:eM p=0
 . rw[zZ1 hn,zZ1 hn];have hp:=(IE hn).1;refine⟨Rg h.iD hp,?_,fun c=>?_⟩
   . rw[yX7];refine⟨z2A h.ap _,by simp,fun a ha b hb=>?_⟩;rw[zQ0]at hb;subst hb;exact((Vf h.ap _ a).1 ha).2
   . rw[zQ8,zQ0,Vf h.ap,Rh h.iD hp,h.mem];exact Or.comm
 . rw[zZ0 hn,zZ0 hn];exact h
theorem RH {D:List Pr}(h:D.Pairwise fun a b=>a.key≠b.key)(k:ByteArray)(c:Pr):D.find? (gB k)=some c↔c∈D/\c.key=k:=by
 induction D with
 | nil=>simp
 | cons d D ih=>
  rw[yQ3]at h;by_cases hd:gB k d=true
  . rw[List.find?_cons_of_pos hd,Option.some.injEq];have hk:=(j6 k d).1 hd;constructor
    . rintro rfl;exact⟨zZ8,hk⟩
    . rintro ⟨hc,hn⟩;rcases zX0.1 hc with rfl | hc
      . rfl
      . exact(h.1 c hc (by rw[hk,hn])).elim
  . rw[List.find?_cons_of_neg hd,ih h.2,zX0];have hk:d.key≠k:=fun e=>hd ((j6 k d).2 e);constructor
    . rintro ⟨hc,hn⟩;exact⟨.inr hc,hn⟩
    . rintro ⟨rfl | hc,hn⟩
      . exact(hk hn).elim
      . exact⟨hc,hn⟩
theorem Tt.get {P D:List Pr}(h:Tt P D)(k:ByteArray):fl P k=D.find? (gB k):=by
 cases hf:D.find? (gB k)with
 | some c=>
  obtain⟨hc,rfl⟩:=(RH h.ap k c).1 hf;exact Rv h.iD ((h.mem c).1 hc)
 | none=>
  refine z6h h.iD fun c hc e=>?_;have:=(RH h.ap k c).2 ⟨(h.mem c).2 hc,e⟩;rw[hf]at this;cases this
theorem y6k {P:List Pr}(h:dK P){k:ByteArray}(hk:Ok k)(c:Pr):c∈P.take (pos P k)↔c∈P/\cU c.key k<0:=by
 constructor
 . intro hc;exact⟨yZ2 hc,Uz h hk c hc⟩
 . rintro ⟨hc,az⟩;obtain⟨j,hj,rfl⟩:=zK5 hc;have:=(FQ hk h j hj).1 (by rw[kV P j hj];exact az);rw[yK7];exact⟨j,by omega,rfl⟩
theorem y6i {P:List Pr}(h:dK P){k:ByteArray}(hk:Ok k)(c:Pr):c∈P.drop (pos P k)↔c∈P/\¬cU c.key k<0:=by
 constructor
 . intro hc;obtain⟨j,hj,rfl⟩:=yJ3.1 hc;refine⟨zQ4 _,fun az=>?_⟩;have:=(FQ hk h (pos P k+j) (by omega)).1 (by rw[kV P _ (by omega)];exact az);omega
 . rintro ⟨hc,az⟩;obtain⟨j,hj,rfl⟩:=zK5 hc;have KI:¬j<pos P k:=fun hh=>az (by have:=(FQ hk h j hj).2 hh;rwa[kV P j hj]at this);rw[yJ3];exact⟨j - pos P k,by omega,by congr 1;omega⟩
theorem Tt.cut {P D:List Pr}(h:Tt P D)(k:ByteArray):Tt (P.take (bN P k)) (D.filter fun p=>!im k p)/\Tt (P.drop (bN P k)) (D.filter (im k)):=by
 by_cases hr:right k=true
 . have hk:=z2M hr;have hc:∀c∈D,im k c=!decide (cU c.key k<0):=fun c hc=>by
    unfold im;rw[hr,MU c.key k (jP (h.key c hc)) hk];rfl
   have hn:bN P k=pos P k:=(by unfold bN;rw[zZ1 hr]);rw[hn];refine⟨⟨z3d h.iD _,h.ap.sublist List.filter_sublist,fun c=>?_⟩,⟨z3b h.iD _,h.ap.sublist List.filter_sublist,fun c=>?_⟩⟩
   . rw[List.mem_filter,y6k h.iD hk,<-h.mem];constructor
     . rintro ⟨h1,h2⟩;rw[hc c h1]at h2;exact⟨h1,by simpa using h2⟩
     . rintro ⟨h1,h2⟩;exact⟨h1,by rw[hc c h1];simpa using h2⟩
   . rw[List.mem_filter,y6i h.iD hk,<-h.mem];constructor
     . rintro ⟨h1,h2⟩;rw[hc c h1]at h2;exact⟨h1,by simpa using h2⟩
     . rintro ⟨h1,h2⟩;exact⟨h1,by rw[hc c h1];simpa using h2⟩
 . have kA:right k=false:=(by simpa using hr);have hc:∀c,im k c=false:=fun c=>by unfold im;rw[kA];rfl
   have hn:bN P k=P.length:=(by unfold bN;rw[zZ0 hr]);rw[hn,zQ1,yJ8];have e1:(D.filter fun p=>!im k p)=D:=List.filter_eq_self.2 fun c _=>by rw[hc];rfl
   have e2:D.filter (im k)=[]:=List.filter_eq_nil_iff.2 fun c _=>by rw[hc];simp
   rw[e1,e2];exact⟨h,Tt.nil⟩
theorem y9C (xs:List Pr)(p:Pr):(jS xs p).length<=xs.length+1:=by
 unfold jS;split
 . have:=List.length_eraseP_le (l:=xs) (p:=gB p.key);simp only[zZ4,zQ6,zJ0];omega
 . omega
end Pl
namespace Pl
theorem Dy (c:Nat):(enc c).length<=4:=by
 unfold enc;repeat' split
 all_goals simp
theorem z1I:∀(n:Nat) (l:List UInt8) (r:List Nat),l.length<=n->bJ l=some r->l.length<=4*r.length:=by
 intro n;induction n with
 | zero=>
  intro l r hl h;omega
 | succ n ih=>
  intro l r hl h;by_cases e:l=[]
  . subst e;simp
  . rw[vF l e]at h;cases hs:bT l with
    | none=>rw[hs]at h;cases h
    | some d=>
     rw[hs]at h;simp only[zX4,zJ6]at h;obtain⟨t,ht,rfl⟩:=h;obtain⟨c,w⟩:=d;have hp:=KC l e c w hs;have h4:w<=4:=(by have:=(G7 l e c w hs).2.1;rw[this];exact Dy c);have:=ih (l.drop w) t (by simp;omega) ht;simp at this ⊢;omega
theorem F5 {k:ByteArray}(h:aT k=0):k.size<=96:=by
 unfold aT at h;split at h
 . cases h
 . next l hl=>
   have:=z1I _ _ _ (zZ3 _) hl;have hs:k.size=k.data.toList.length:=(by rw[yZ7];rfl);unfold kZ at h;split at h
   . cases h
   . split at h
     . cases h
     . omega
def mr (p:Pr):List Int:=bn p.key++bn p.val++aU p.eI.toNat
def nj (P:List Pr):List Int:=P.flatMap mr
def gi (P:List Pr):List Int:=aU P.length++nj P
def Good (P:List Pr):Prop:=∀c∈P,eM c=0
theorem zC:Good []:=fun c h=>by cases h
theorem Good.sub {P Q:List Pr}(h:Good P)(hs:Q.Sublist P):Good Q:=fun c hc=>h c (hs.subset hc)
theorem z2r (P:List Pr)(k:ByteArray):(jQ P k).Sublist P:=by
 unfold jQ;split
 . have h1:(P.take (pos P k)++P.drop (pos P k+1)).Sublist (P.take (pos P k)++P.drop (pos P k)):=
    List.Sublist.append (List.Sublist.refl _) (by rw[<-List.drop_drop];exact yK1 1 _)
   rwa[zX7]at h1
 . exact List.Sublist.refl _
theorem Good.del {P:List Pr}(h:Good P)(k:ByteArray):Good (jQ P k):=h.sub (z2r P k)
theorem Good.put {P:List Pr}(h:Good P)(p:Pr):Good (lv P p):=by
 unfold lv;split
 . next hp=>
   intro c hc;unfold il at hc;rw[zQ8,zQ8]at hc;rcases hc with(hc | hc) | hc
   . exact h c (yZ2 hc)
   . rw[zQ0.1 hc];exact hp
   . exact h c (zK6 hc)
 . exact h
theorem zD (P:List Pr)(p:Pr):(lv P p).length<=P.length+1:=by
 unfold lv;split
 . exact z1O P p
 . omega
theorem z5F {p:Pr}(h:eM p=0):(mr p).length<=170:=by
 obtain⟨h1,h2,h3,h4⟩:=IE h;have k1:=F5 h1;have a1:=tH p.key (by omega);have a2:=tH p.val (by omega);have a3:=ie 1 p.eI.toNat (by omega);unfold mr;rw[zZ4,zZ4];omega
theorem Vg {P:List Pr}(h:Good P):(nj P).length<=P.length*170:=by
 unfold nj;induction P with
 | nil=>simp
 | cons p P ih=>
  have h1:=z5F (h p (by simp));have h2:=ih (fun c hc=>h c (by simp[hc]));simp only[zK2,zZ4,zQ6];omega
theorem zE {P:List Pr}(h:Good P)(hl:P.length<2097152):(gi P).length<=P.length*170+3:=by
 have h1:=Vg h;have h2:=ie 2 P.length (by simpa using hl);unfold gi;rw[zZ4];omega
theorem y6J (P:List Pr)(k:Nat)(hk:k<P.length):nj (P.take (k+1))=nj (P.take k)++mr (aV P k):=by
 unfold nj;rw[kV P k hk,zX1 hk,zK3,zK2,xQ8,yZ1]
end Pl
theorem y6f {w:World}{a:Option Addr}{xs:List Pr}(h:jN w a xs)(k:Nat)(hk:k<xs.length):∃b off,a=some ⟨b,off,none⟩/\b<w.heap.size/\vV w b off xs:=by
 rcases h with h | h
 . rw[h]at hk;simp at hk
 . exact h
theorem z2T {P:List Pr}(h:Pl.Good P)(k:Nat)(hk:k<P.length):((aV P k).eI.toNat:Int)=(aV P k).eI/\(aV P k).eI.toNat<=4096/\(aV P k).key.size<=96/\(aV P k).val.size<=64:=by
 rw[kV P k hk];obtain⟨h1,h2,h3,h4⟩:=Pl.IE (h _ (zQ4 hk));have:=F5 h1;omega
theorem z3K {w:World}{F:Nat->Prop}{tb:Nat}{P:List Pr}(h:bI w F tb P)(hg:Pl.Good P)(hx:P.length<=1000)(hl:(Pl.gi P).length<=65536):
    Calls prog 82 #[.pointer (some ⟨tb,0,none⟩)] w fun e w'=>∃a c,e=.returned (.tuple #[.slice a (Pl.gi P).length c,.nilIface])/\w'.ownsRow w.heap.size 5 1 (.slice a (Pl.gi P).length c) (Pl.gi P).length (dX (Pl.gi P))/\ae w w':=by
 obtain⟨v,h⟩:=h;obtain⟨a,cap,rfl,hA⟩:=lT h.row;have c0:=h.cell;have eY:=bf c0;have HA:=af hA;have Vh:=af (fun k hk=>z2T hg k hk);have Np:=af (Vg hg);have Rc:=af hl;obtain⟨n,hn⟩:∃n,n=P.length:=⟨_,rfl⟩
 have HN:=af hn;rw[<-hn]at c0;obtain⟨W1,hW1⟩:∃W1,W1=w.alloc (.cells #[.slice none 0 0,.nilIface] 147):=⟨_,rfl⟩
 have bM:=af hW1;have Dz:Hid (cY W1 (fun j=>j=w.heap.size) w.heap.size []):=by unfold Hid;rw[hW1];exact cY.new w _
 have zF:ae w W1:=by rw[hW1];exact(ae.rf w).alloc _
 have jz:n<=1000:=by omega
 clear h hA hg hl hx hn hW1;go_in;go_wp2_with fail;rw[<-bM.out];have cW:=(zF.cells.1 _ 0 eY).trans c0;refine(KR Dz n (by omega) (by simp)).mono ?_;rintro e w2 ⟨rfl,nS⟩;rw[zK8]at nS;have yJ:=af nS;have cA:ae w w2:=nS.new zF (fun j hj=>by rw[hj];exact zZ3 _);have c2:=(cA.cells.1 _ 0 eY).trans c0;have Nc:=xA9 eY cA.size;clear cW nS c0;go_wp2_with fail;clear c2;go_loopw [6,21] (fun pz i wr=>∃(k:Nat) (cs:List Int),i=.int .i64 k/\k<=n/\Hid (cs=Pl.aU n++nj (P.take k))/\Hid (mn W1 (fun j=>j=w.heap.size) w.heap.size cs wr)) (fun _ i _=>n - (intOf i).toNat);exact⟨0,Pl.aU n,rfl,zZ5 _,by unfold Hid;simp[nj],yJ⟩;obtain⟨k,cs,rfl,hk,HE,HT⟩:=hrel;obtain⟨g1,G1,hO,lX⟩:=HT.out;have rp:ae w wr:=HT.new zF (fun j hj=>by rw[hj];exact zZ3 _);have F6:=af hO;have ct:=af g1;have Ie:=af lX;have CI:=af rp;have hlc:cs.length<=200000:=by
  have h1:=ie 2 n (by omega);have h2:=Np.out;have h3:(nj (P.take k)).length<=(nj P).length:=by
   have:=wZ7 List.length (show nj (P.take k)++nj (P.drop k)=nj P by unfold nj;rw[<-zK3,zX7]);rw[zZ4]at this;omega
  rw[HE.out,zZ4];rw[<-HN.out]at h2;omega
 clear hO g1 lX;by_cases az:k<n
 . obtain⟨b,off,rfl,hb,hR⟩:=y6f HA k (by rw[<-HN.out];exact az);have lx:k<P.length:=(by rw[<-HN.out];exact az);have q0:=(rp.cells.1 b (off+k*3) hb).trans (hR.key k lx);have q1:=(rp.cells.1 b (off+k*3+1) hb).trans (hR.val k lx);have q2:=(rp.cells.1 b (off+k*3+2) hb).trans (hR.eI k lx);have js:Hid (cs++mr (aV P k)=Pl.aU n++nj (P.take (k+1))):=(by unfold Hid;rw[HE.out,y6J P k lx,zQ7]);obtain⟨v1,v2,v3,v4⟩:=Vh k lx;clear hR lx rp;generalize aV P k=c at *;obtain⟨ck,cv,cn⟩:=c;dsimp only at *;obtain⟨vn,K3⟩:∃vn:Nat,vn=cn.toNat:=⟨_,rfl⟩
   rw[<-K3]at v1 v2;subst v1;have HVN:=af K3;clear K3;have hbr:=xA9 hb CI.size;go_wp2_with fail;clear q0 q1 q2
   -- key
   have hz0:wr.heap.size<(wr.alloc (.cells #[.string ck,.string cv,.int .i64 vn] 62)).heap.size:=(by simp);have K5:¬G1 wr.heap.size:=fun h=>by have:=F6.lt _ h;omega
   refine(Q8 (F6.ah ((ae.rf wr).alloc _)) ck (by omega) (by omega)).mono ?_;rintro e w3 ⟨rfl,g3,G3,mK,k6⟩;have HP3:=af (show ¬G3 wr.heap.size from fun h=>by rcases k6 _ h with h | h;exact K5 h;omega);have m1:w3.cell? ⟨wr.heap.size,1,none⟩=some (.string cv):=(g3.cell hz0 K5 1).trans (by simp[go_sem]);have M2:Hid (w3.cell? ⟨wr.heap.size,2,none⟩=some (.int .i64 vn)):=(g3.cell hz0 K5 2).trans (by simp[go_sem]);have hz3:=xA9 hz0 g3.size;have qG:=af mK;have fI:=af k6;have Hg:=af g3;have l3:(cs++Pl.bn ck).length<=300000:=(by rw[zZ4];have:=tH ck (by omega);omega);clear mK k6 g3;go_wp2_with fail;clear m1
   -- value
   refine(Q8 qG cv (by omega) (by omega)).mono ?_;rintro e w4 ⟨rfl,g4,G4,Ij,KZ⟩;have m2:w4.cell? ⟨wr.heap.size,2,none⟩=some (.int .i64 vn):=(g4.cell hz3 HP3 2).trans M2.out;have CM:=xA9 hz3 g4.size;have KO:=af Ij;have mm:=af KZ;have HK4:=af g4;have l4:(cs++Pl.bn ck++Pl.bn cv).length<=400000:=(by rw[zZ4];have:=tH cv (by omega);omega);clear Ij KZ g4 M2;go_wp2_with fail;clear m2
   -- version
   refine(KR KO vn (by omega) (by omega)).mono ?_;rintro e w5 ⟨rfl,hT5⟩;have HF:Hid (mn W1 (fun j=>j=w.heap.size) w.heap.size (cs++mr ⟨ck,cv,vn⟩) w5):=by
    have h5:=mn.step (ct.dG ((ae.rf wr).alloc (.cells #[.string ck,.string cv,.int .i64 vn] 62))) Ie (mn.step Hg fI (mn.step HK4 mm hT5));unfold Hid mr;dsimp only;rw[show(vn:Int).toNat=vn by omega];simpa[zQ7]using h5
   clear hT5;go_wp2_with fail;go_roundw;case rel=>exact⟨k+1,_,by go_num,by omega,js,HF⟩
   case measure=>simp[intOf];omega
 . have dO:k=n:=(by omega);subst dO;have K6:Hid (cs=Pl.gi P):=(by unfold Hid Pl.gi;rw[HE.out,HN.out,zQ1]);rw[K6.out]at F6;have HD:=af (Q9 F6 Rc);clear rp;go_wp2_with fail;refine HD.mono ?_;rintro e w3 ⟨a3,c3,rfl,hr3,hg3⟩;have yR:=af (mg CI.size hr3);have fI:=af (CI.trans hg3);clear hr3 hg3;go_wp2_with fail;go_ret2;exact⟨a3,c3,rfl,yR,fI⟩
theorem z1l {w:World}{tb:Nat}{P D:List Pr}(h:nP w tb D)(hT:Pl.Tt P D)(hg:Pl.Good P)(hx:P.length<=1000):
    Calls prog 84 #[.pointer (some ⟨tb,0,none⟩)] w fun e w'=>∃a c,e=.returned (.slice a (Pl.gi P).length c)/\w'.ownsRow w.heap.size 5 1 (.slice a (Pl.gi P).length c) (Pl.gi P).length (dX (Pl.gi P))/\ae w w':=by
 have bK:=hT.len;have FK:=af (fun W (g:ae w W)=>Z8 (h.ah g) (by omega) hT.key hT.ap);have DC:=af (fun zs=>hT.sorted (zs:=zs));obtain⟨a,cap,c0,hA⟩:=h;have eY:=bf c0;have Vh:=af (fun k hk=>z2T hg k hk);have Np:=af (Vg hg);obtain⟨n,hn⟩:∃n,n=P.length:=⟨_,rfl⟩
 have HN:=af hn;rw[<-bK,<-hn]at c0;have jz:n<=1000:=by omega
 clear hA hg hx hn bK hT;go_in;go_wp2_with fail;refine(Ra n _ (by omega)).mono ?_;rintro e w1 ⟨a1,c1,rfl,hr1,aR⟩;have Vi:=af (iC.aX hr1 aR.size);have gh:=aR;clear c0 hr1 aR;go_wp2_with fail;refine(FK _ gh).mono ?_;rintro e w2 ⟨⟨v,zs,rfl,hp,hs,aJ⟩,aP⟩;obtain rfl:=DC _ hp hs;obtain⟨a2,c2,rfl,uR⟩:=lT aJ;have C9:Hid (∃Z,iC w.heap.size Z w2 (.slice a1 (Pl.aU n).length c1) (Pl.aU n)/\∀b off,a2=some ⟨b,off,none⟩->Z b):=by
  rcases aJ.2 with⟨h1,_⟩ | ⟨b,c,cur,h1,hb,hh,_⟩
  . exact⟨_,Vi.ah aP,fun b off e=>by rw[e]at h1;cases h1⟩
  . exact⟨_,Vi.br aP hb (zZ2.1 hh).1,fun b' off e=> .inr (by rw[e]at h1;cases h1;rfl)⟩
 obtain⟨Z,hZ,hZb⟩:=C9.out;have Vd:=af hZ;have B8:=af hZb;have HA:=af uR;have bW:=gh.trans aP;rw[<-HN.out];clear hZ hZb uR hp hs aJ aP Vi C9 gh FK DC;go_wp2_with fail;go_loopw [3,5,15] (fun v pz i wr=>∃(k:Nat) (cs:List Int),i=.int .i64 k/\k<=n/\Hid (cs=Pl.aU n++nj (zs.take k))/\Hid (iC w.heap.size Z wr v cs)/\Hid (ar (qj w.heap.size Z) w2 wr)) (fun _ _ i _=>n - (intOf i).toNat);exact⟨0,Pl.aU n,rfl,zZ5 _,by unfold Hid;simp[nj],Vd,ar.refl _ _⟩;obtain⟨k,cs,rfl,hk,HE,HV,HO⟩:=hrel;obtain⟨av,vc,rfl⟩:=HV.form;have rp:ae w wr:=((bW.only _).then HO).ah fun j hj=>hj.2;have CI:=af rp;have hlc:cs.length<=200000:=by
  have h1:=ie 2 n (by omega);have h2:=Np.out;have h3:(nj (zs.take k)).length<=(nj zs).length:=by
   have:=wZ7 List.length (show nj (zs.take k)++nj (zs.drop k)=nj zs by unfold nj;rw[<-zK3,zX7]);rw[zZ4]at this;omega
  rw[HE.out,zZ4];rw[<-HN.out]at h2;omega
 by_cases az:k<n
 . obtain⟨b,off,rfl,hb,hR⟩:=y6f HA k (by rw[<-HN.out];exact az);have lx:k<zs.length:=(by rw[<-HN.out];exact az);have kj:¬qj w.heap.size Z b:=Zx (B8 b off rfl);have q0:=(HO.cell hb kj _).trans (hR.key k lx);have q1:=(HO.cell hb kj _).trans (hR.val k lx);have q2:=(HO.cell hb kj _).trans (hR.eI k lx);have js:Hid (cs++Pl.bn (aV zs k).key++Pl.bn (aV zs k).val++Pl.aU (aV zs k).eI.toNat=Pl.aU n++nj (zs.take (k+1))):=(by unfold Hid;rw[HE.out,y6J zs k lx];unfold mr;simp[zQ7]);obtain⟨v1,v2,v3,v4⟩:=Vh k lx;clear hR lx rp kj;generalize aV zs k=c at *;obtain⟨ck,cv,cn⟩:=c;dsimp only at *;obtain⟨vn,K3⟩:∃vn:Nat,vn=cn.toNat:=⟨_,rfl⟩
   rw[<-K3]at v1 v2 js;subst v1;clear K3;have hbr:=xA9 hb HO.size;go_wp2_with fail;clear q0 q1 q2
   -- key
   have hz0:wr.heap.size<(wr.alloc (.cells #[.string ck,.string cv,.int .i64 vn] 62)).heap.size:=(by simp);refine(Ul (wr.alloc (.cells #[.string ck,.string cv,.int .i64 vn] 62)) ck (by omega)).mono ?_;rintro e w3 ⟨a3,c3,rfl,hrow3,hg3⟩;have Vj:ae wr w3:=((ae.rf wr).alloc (.cells #[.string ck,.string cv,.int .i64 vn] 62)).trans hg3;have hz3:=xA9 hz0 hg3.size;have HV3:=af (HV.br Vj (zZ3 _) hz3);have M1:Hid (w3.cell? ⟨wr.heap.size,1,none⟩=some (.string cv)):=(hg3.cells.1 _ _ hz0).trans (by simp[go_sem]);have M2:Hid (w3.cell? ⟨wr.heap.size,2,none⟩=some (.int .i64 vn)):=(hg3.cells.1 _ _ hz0).trans (by simp[go_sem]);have yR:=af hrow3;have qG:=af (HO.dG Vj);have l3:(Pl.bn ck).length<=1000:=(by have:=tH ck (by omega);omega);clear hrow3 hg3 Vj;go_wp2_with (at_builtin;refine Rb rfl _ _ rfl rfl HV3.out rfl yR.out (by omega) ?_);intro d4 HD4 a4 c4 w4 hv4 Nq;have m1:=(Nq.cell hz3 Um 1).trans M1.out;have M4:=af ((Nq.cell hz3 Um 2).trans M2.out);have CM:=xA9 hz3 Nq.size;have HV4:=af hv4;have KO:=af (qG.then (Nq.mono fun j hj=> .inl (Un hj)));have l4:d4.length<=300000:=(by rw[HD4.out,zZ4];omega);clear hv4 Nq M1 M2 yR HV3 qG;go_wp2_with fail;clear m1
   -- value
   refine(Ul w4 cv (by omega)).mono ?_;rintro e w5 ⟨a5,c5,rfl,F7,jq⟩;have hz5:=xA9 CM jq.size;have HV5:=af (HV4.ah jq);have M5:Hid (w5.cell? ⟨wr.heap.size,2,none⟩=some (.int .i64 vn)):=(jq.cells.1 _ _ CM).trans M4.out;have BX:=af F7;have HO5:=af (KO.dG jq);have l5:(Pl.bn cv).length<=1000:=(by have:=tH cv (by omega);omega);clear F7 jq M4 HV4 KO;go_wp2_with (at_builtin;refine Rb rfl _ _ rfl rfl HV5.out rfl BX.out (by omega) ?_);intro d6 Nr a6 c6 w6 hv6 xg;have m2:=(xg.cell hz5 Um 2).trans M5.out;have hz6:=xA9 hz5 xg.size;have HV6:=af hv6;have HO6:=af (HO5.then (xg.mono fun j hj=> .inl (Un hj)));have l6:d6.length<=400000:=(by rw[Nr.out,zZ4];omega);clear hv6 xg M5 BX HV5 HO5;go_wp2_with fail;clear m2
   -- version
   refine(Ra vn w6 (by omega)).mono ?_;rintro e w7 ⟨a7,c7,rfl,rD,oO⟩;have HV7:=af (HV6.ah oO);have HR7:=af rD;have F8:=af (HO6.dG oO);have l7:(Pl.aU vn).length<=10:=(by have:=ie 8 vn (by omega);omega);clear rD oO HV6 HO6;go_wp2_with (at_builtin;refine Rb rfl _ _ rfl rfl HV7.out rfl HR7.out (by omega) ?_);intro d8 HD8 a8 c8 w8 hv8 ho8;have HV8:=af (hv8.less (Y:=Z) fun j h=>Or.inl h);have HO8:=af (F8.then (ho8.mono fun j hj=> .inl (Un hj)));clear hv8 ho8 HR7 HV7 F8;go_wp2_with fail;go_roundw;case rel=>exact⟨k+1,_,by go_num,by omega,by unfold Hid;rw[HD8.out,Nr.out,HD4.out];exact js,HV8,HO8⟩
   case measure=>simp[intOf];omega
 . have dO:k=n:=(by omega);subst dO;have K6:Hid (cs=Pl.gi zs):=(by unfold Hid Pl.gi;rw[HE.out,HN.out,zQ1]);have gI:=af HV.row;rw[K6.out]at gI;clear rp;go_wp2_with fail;go_ret;exact⟨av,vc,by simp[K6.out],gI,CI⟩
section
attribute [local go_sem] bl
structure zG (w:World)(Ft Fs:Nat->Prop)(st tb sb n:Nat)(lo hi:ByteArray)(P:List Pr)(S:Int->Option An):Prop where
 c0:w.cell? ⟨st,0,none⟩=some (.pointer (some ⟨tb,0,none⟩))
 c1:w.cell? ⟨st,1,none⟩=some (.string lo)
 c2:w.cell? ⟨st,2,none⟩=some (.string hi)
 c3:w.cell? ⟨st,3,none⟩=some (.pointer (some ⟨sb,0,none⟩))
 f0:∀i,w.frozen? ⟨st,i,none⟩=false
 tab:bI w Ft tb P
 cL:lh w Fs sb n S
 good:Pl.Good P
 cC:∀j,Ft j->¬Fs j/\j≠st
 own:∀j,Fs j->j≠st
def dE (w:World)(Ft Fs:Nat->Prop)(st n:Nat)(lo hi:ByteArray)(P:List Pr)(S:Int->Option An):Prop:=∃tb sb,zG w Ft Fs st tb sb n lo hi P S
section
variable {w w':World}{Ft Fs T:Nat->Prop}{st tb sb n:Nat}{lo hi:ByteArray}{P:List Pr}{S:Int->Option An}
theorem zG.aC (h:zG w Ft Fs st tb sb n lo hi P S)(g:ar T w w')(h1:∀j,Ft j->¬T j)(h2:∀j,Fs j->¬T j)(h3:¬T st):zG w' Ft Fs st tb sb n lo hi P S where
 c0:=(g.cell (bf h.c0) h3 0).trans h.c0
 c1:=(g.cell (bf h.c0) h3 1).trans h.c1
 c2:=(g.cell (bf h.c0) h3 2).trans h.c2
 c3:=(g.cell (bf h.c0) h3 3).trans h.c3
 f0:=fun i=>(g.frozen (bf h.c0) h3 i).trans (h.f0 i)
 tab:=h.tab.aC g h1
 cL:=h.cL.aC g h2
 good:=h.good
 cC:=h.cC
 own:=h.own
theorem dE.aC (h:dE w Ft Fs st n lo hi P S)(g:ar T w w')(h1:∀j,Ft j->¬T j)(h2:∀j,Fs j->¬T j)(h3:¬T st):dE w' Ft Fs st n lo hi P S:=by
 obtain⟨tb,sb,h⟩:=h;exact⟨tb,sb,h.aC g h1 h2 h3⟩
theorem dE.ah (h:dE w Ft Fs st n lo hi P S)(g:ae w w'):dE w' Ft Fs st n lo hi P S:=h.aC (g.only fun _=>False) (fun _ _ h=>h) (fun _ _ h=>h) (fun h=>h)
end
def xi (lo hi:ByteArray)(P:List Pr)(S:Int->Option An):List Int:=Pl.bn lo++Pl.bn hi++Pl.bn (strOfNums (Pl.gi P))++Pl.bn (strOfNums (ew S))
structure Vk (y:World)(n:Nat)(P:List Pr)(S:Int->Option An)(L:Nat->Bool)(f:Nat->Value)(x:World):Prop where
 ah:ae y x
 ord:L 13=true->L 4=true
 tab:L 4=true->∃cb Fc,f 4=.pointer (some ⟨cb,0,none⟩)/\bI x Fc cb P/\(∀j,Fc j->y.heap.size<=j)/\(L 13=true->∃db Gs,f 13=.pointer (some ⟨db,0,none⟩)/\lh x Gs db n S/\(∀j,Gs j->y.heap.size<=j)/\∀j,Fc j->¬Gs j)
theorem y9T {w:World}{Ft Fs:Nat->Prop}{st n:Nat}{lo hi:ByteArray}{P:List Pr}{S:Int->Option An}(h:dE w Ft Fs st n lo hi P S)(hx:P.length<=1000):
    Calls prog 26 #[.pointer (some ⟨st,0,none⟩)] w fun e w'=>∃cb Gt Gs,e=.returned (.pointer (some ⟨cb,0,none⟩))/\dE w' Gt Gs cb n lo hi P S/\w.heap.size<=cb/\(∀j,Gt j->w.heap.size<=j)/\(∀j,Gs j->w.heap.size<=j)/\ae w w':=by
 obtain⟨tb,sb,h⟩:=h;have HC:=af (fun W (g:ae w W)=>z0z (h.tab.ah g) (by omega));have HD:=af (fun W (g:ae w W)=>Zi (h.cL.ah g));have HG:=af h.good;have c0:=h.c0;have hst:st<w.heap.size:=bf c0;have C0:=bj h.c0;have C1:=bj h.c1;have C2:=bj h.c2;have C3:=bj h.c3;have wj:=af h.c3;clear h c0;go_in;go_wp2_with fail;refine kh 14 [4,13] (ae w) Eq (Vk w n P S) (fun f a=>(a.put (some 7) (f 4)).put (some 16) (f 13)) ⟨(ae.rf w).drew,(fun h=>by cases h),(fun h=>by cases h)⟩ (fun _ _ _ h=>h.ah) (fun _=>rfl) (fun _ _ _ _ h g=>g▸h) ?_;repeat (first|refine kg ?_|(refine gg ?_;intros;go_big_quiet_op;go_big_quiet_on)|(refine fZ ?_;simp only[Act.put,xB9,xC9,xD9]))
 refine jB (by rfl) ⟨⟨bL rfl (fun _ a=>a) ?_,bL rfl (fun f a=>a.put (some 7) (f 4)) ?_,trivial⟩,?_⟩
 . intro L f x hJ hL hd;have nV:L 13=false:=sF fun h=>by rw[hJ.ord h]at hL;cases hL
   have HJ:=af hJ;have Vl:=af nV;clear hJ hL hd C0 C1 C2 C3 nV;go_simp;refine(HC x HJ.ah).mono ?_;rintro e x' ⟨⟨cb,Fc,rfl,hT,hF⟩,hg⟩;refine⟨_,rfl,HJ.ah.trans hg,fun h=>xh,fun _=>⟨cb,Fc,fY _ _ _,hT,fun j hj=>zZ6 HJ.ah.size (hF j hj),fun h=>?_⟩⟩;rw[py (by decide),Vl.out]at h;cases h
 . intro L f x hJ hL hd;have l4:=hd 4 rfl (by decide);obtain⟨cb,Fc,e4,hT,hF,_⟩:=hJ.tab l4;have HJ:=af hJ;have HT:=af (And.intro e4 (And.intro hT hF));have HL4:=af l4;clear hJ hL hd C0 C1 C2 C3 hT hF l4;rw[e4];clear e4;go_simp;refine(HD x HJ.ah).mono ?_;rintro e x' ⟨db,Gs,rfl,hS,bW,hg⟩;refine⟨_,rfl,HJ.ah.trans hg,fun h=>RI HL4,fun _=>⟨cb,Fc,?_,HT.2.1.ah hg,HT.2.2,fun _=>⟨db,Gs,fY _ _ _,hS,fun j hj=>zZ6 HJ.ah.size (bW j hj),fun j hj xd=>?_⟩⟩⟩
   . rw[gH (by decide)];exact HT.1
   . have h1:=pR HT.2.1 j hj;have h2:=bW j xd;omega
 intro f x hJ;obtain⟨cb,Fc,e4,hT,hF,nV⟩:=hJ.tab rfl;obtain⟨db,Gs,kB,hS,bW,rz⟩:=nV rfl;have hgx:=hJ.ah;have HF:Hid (dE (x.alloc (.cells #[.pointer (some ⟨cb,0,none⟩),.string lo,.string hi,.pointer (some ⟨db,0,none⟩)] 106)) Fc Gs x.heap.size n lo hi P S/\ae w (x.alloc (.cells #[.pointer (some ⟨cb,0,none⟩),.string lo,.string hi,.pointer (some ⟨db,0,none⟩)] 106))/\w.heap.size<=x.heap.size/\(∀j,Fc j->w.heap.size<=j)/\∀j,Gs j->w.heap.size<=j):=by
  have gA:ae x (x.alloc (.cells #[.pointer (some ⟨cb,0,none⟩),.string lo,.string hi,.pointer (some ⟨db,0,none⟩)] 106)):=(ae.rf x).alloc _;refine⟨⟨cb,db,by simp[go_sem],by simp[go_sem],by simp[go_sem],by simp[go_sem],fun i=>by simp[go_sem],hT.ah gA,hS.ah gA,HG,fun j hj=>⟨rz j hj,fun e=>?_⟩,fun j hj e=>?_⟩,hgx.trans gA,hgx.size,hF,bW⟩
  . have:=pR hT j hj;omega
  . have:=hS.lt j hj;omega
 clear hT hF nV hS bW rz hgx hJ C0 C1 C2 C3;dsimp only[List.drop];simp only[Act.put,xB9,xD9,xC9];rw[e4,kB];clear e4 kB;go_wp2_with fail;go_ret;exact⟨_,Fc,Gs,rfl,HF.1,HF.2.2.1,HF.2.2.2.1,HF.2.2.2.2,HF.2.1⟩
end
section
attribute [local go_sem] bl
structure kN (w W:World)(st:Nat)(e:En)(a b:Int):Prop where
 ah:ae w W
 lt:w.heap.size+2<W.heap.size
 box:W.cell? ⟨w.heap.size,0,none⟩=some (.pointer (some ⟨st,0,none⟩))
 dZ:∀j u,e.vals[j]? =some u->W.cell? ⟨w.heap.size+1,j,none⟩=some u
 a0:W.cell? ⟨w.heap.size+2,0,none⟩=some (.int .i64 a)
 a1:W.cell? ⟨w.heap.size+2,1,none⟩=some (.int .i64 b)
 f0:W.frozen? ⟨w.heap.size+2,0,none⟩=false
 f1:W.frozen? ⟨w.heap.size+2,1,none⟩=false
theorem kN.br {w W W':World}{st:Nat}{e:En}{a b:Int}(h:kN w W st e a b)(g:ae W W'):kN w W' st e a b:=
 have l:=h.lt
 ⟨h.ah.trans g,xA9 h.lt g.size,(g.cells.1 _ _ (by omega)).trans h.box,fun j u hj=>(g.cells.1 _ _ (by omega)).trans (h.dZ j u hj),(g.cells.1 _ _ (by omega)).trans h.a0,(g.cells.1 _ _ (by omega)).trans h.a1,(g.cells.2 _ _ (by omega)).trans h.f0,(g.cells.2 _ _ (by omega)).trans h.f1⟩
theorem kN.aX (w:World)(st:Nat)(e:En):kN w (((w.alloc (.cells #[.pointer (some ⟨st,0,none⟩)] 76)).alloc (.cells e.vals.toArray 36)).alloc (.cells #[.int .i64 0,.int .i64 0] 50)) st e 0 0:=by
 refine⟨(((ae.rf w).alloc _).alloc _).alloc _,by simp,by simp[go_sem],fun j u hj=>?_,by simp[go_sem],by simp[go_sem],by simp[go_sem],by simp[go_sem]⟩;have hs:((w.alloc (.cells #[.pointer (some ⟨st,0,none⟩)] 76)).alloc (.cells e.vals.toArray 36)).heap.size=w.heap.size+2:=by simp
 have:=((ae.rf ((w.alloc (.cells #[.pointer (some ⟨st,0,none⟩)] 76)).alloc (.cells e.vals.toArray 36))).alloc (.cells #[.int .i64 0,.int .i64 0] 50)).cells.1 (w.heap.size+1) j (by omega);rw[this];have h2:(w.alloc (.cells #[.pointer (some ⟨st,0,none⟩)] 76)).heap.size=w.heap.size+1:=by simp
 have h3:=wZ0 (w.alloc (.cells #[.pointer (some ⟨st,0,none⟩)] 76)) (.cells e.vals.toArray 36);rw[h2]at h3;rw[gw h3];simpa using hj
theorem z1b (E:Nat->Addr)(e:En)(w:World)(hE:bz lI E w)(hA:b7 w e)(at_:Int)(st:Nat)(h:¬(e.ax=1/\Pl.cK e=true)):
    Calls prog 67 #[.pointer (some ⟨st,0,none⟩),e.agg,.int .i64 at_] w fun r w'=>r=.returned (.tuple #[fQ 0 0,bA E 4])/\ae w w':=by
 have hS:jo lI:=⟨rfl,rfl,rfl,rfl⟩
 have HR:=af (fun W (g:ae w W)=>qX hS E e W (hE.ah g) (hA.ah g));have HW:=af (kN.aX w st e);have g4:w.cell? ⟨3,0,none⟩=some (.iface 302 (.pointer (some (E 4)))):=hE.cell 4 rfl;have b4:3<w.heap.size:=bf g4;have z4:∀k,k<=3->(k=w.heap.size)=False:=fun k hk=>by simp;omega
 have y4:∀k,k<=3->(w.heap.size=k)=False:=fun k hk=>by simp;omega
 have mm:=af (fun W (g:ae w W)=>(g.cells.1 _ _ b4).trans g4);have HK:Hid (Pl.cK e=false\/e.ax≠1):=by
  unfold Hid;cases hr:Pl.cK e with
  | false=>exact .inl rfl
  | true=>exact .inr fun k=>h ⟨k,hr⟩
 clear hE hA h g4 b4;generalize Pl.cK e=rb at *;obtain⟨Y,hY⟩:∃Y,Y=(((w.alloc (.cells #[.pointer (some ⟨st,0,none⟩)] 76)).alloc (.cells e.vals.toArray 36)).alloc (.cells #[.int .i64 0,.int .i64 0] 50)):=⟨_,rfl⟩
 rw[<-hY]at HW;obtain⟨mQ⟩:Nonempty (Hid (Y=(((w.alloc (.cells #[.pointer (some ⟨st,0,none⟩)] 76)).alloc (.cells e.vals.toArray 36)).alloc (.cells #[.int .i64 0,.int .i64 0] 50)))):=⟨hY⟩
 clear hY;unfold En.agg at *;obtain⟨ax,aj,ak,aq,aw,seq,key,aM,aL,aA,ops,aN,aS,aF,aB,aG⟩:=e;unfold En.vals at HR mQ ⊢;dsimp only at *;unfold fQ;rw[xN E 4 (by decide)];by_cases k1:ax=1
 . subst k1;have HB:rb=false:=(by rcases HK.out with h | h;exact h;exact absurd rfl h);subst HB;clear HK;go_in;go_wp2_with fail;rw[<-mQ.out];refine(HR Y HW.ah).mono ?_;rintro e w1 ⟨rfl,aR⟩;have bM:=af (HW.br aR);have hl:=bM.lt;have q0:=mm w1 bM.ah;have a0:=bM.a0;have a1:=bM.a1;have f0:=bM.f0;have f1:=bM.f1;clear aR HW HR mm;go_wp2_with fail;go_region;go_wp2_with fail;refine wZ1 (v:=.tuple #[.agg #[.int .i64 0,.int .i64 0],.iface 302 (.pointer (some (E 4)))]) (by simp[results,results67,go_sem,a0,a1,f0,f1]) rfl ⟨rfl,?_⟩;refine((bM.ah.setCell ?_ _).setCell ?_ _).drew<;> (show w.heap.size<=w.heap.size+2;omega)
 . clear HK HR;go_in;have q0:=mm Y HW.ah;have a0:=HW.a0;have a1:=HW.a1;have f0:=HW.f0;have f1:=HW.f1;have k0:Y.cell? ⟨w.heap.size+1,0,none⟩=some (.int .i64 ax):=HW.dZ 0 _ rfl;have bM:=af HW;have hl:=HW.lt;clear mm HW;go_wp2_with fail;rw[<-mQ.out];go_region;go_wp2_with fail;refine wZ1 (v:=.tuple #[.agg #[.int .i64 0,.int .i64 0],.iface 302 (.pointer (some (E 4)))]) (by simp[results,results67,go_sem,a0,a1,f0,f1]) rfl ⟨rfl,?_⟩;refine((bM.ah.setCell ?_ _).setCell ?_ _).drew<;> (show w.heap.size<=w.heap.size+2;omega)
theorem z0J (E:Nat->Addr)(e:En)(w:World)(hE:bz lI E w)(hA:b7 w e)(at_:Int)(st:Nat)(hk:e.ax=1)(hr:Pl.cK e=true)(hat:at_<0\/4096<=at_):
    Calls prog 67 #[.pointer (some ⟨st,0,none⟩),e.agg,.int .i64 at_] w fun r w'=>r=.returned (.tuple #[fQ 0 0,bA E 1])/\ae w w':=by
 have hS:jo lI:=⟨rfl,rfl,rfl,rfl⟩
 have hR:=fun W (g:ae w W)=>qX hS E e W (hE.ah g) (hA.ah g);rw[hr]at hR;have HR:=af hR;have HW:=af (kN.aX w st e);have g4:w.cell? ⟨0,0,none⟩=some (.iface 302 (.pointer (some (E 1)))):=hE.cell 1 rfl;have b4:0<w.heap.size:=bf g4;have z4:∀k,k<=0->(k=w.heap.size)=False:=fun k hk=>by simp;omega
 have y4:∀k,k<=0->(w.heap.size=k)=False:=fun k hk=>by simp;omega
 have mm:=af (fun W (g:ae w W)=>(g.cells.1 _ _ b4).trans g4);clear hE hA g4 b4 hr hR;obtain⟨Y,hY⟩:∃Y,Y=(((w.alloc (.cells #[.pointer (some ⟨st,0,none⟩)] 76)).alloc (.cells e.vals.toArray 36)).alloc (.cells #[.int .i64 0,.int .i64 0] 50)):=⟨_,rfl⟩
 rw[<-hY]at HW;obtain⟨mQ⟩:Nonempty (Hid (Y=(((w.alloc (.cells #[.pointer (some ⟨st,0,none⟩)] 76)).alloc (.cells e.vals.toArray 36)).alloc (.cells #[.int .i64 0,.int .i64 0] 50)))):=⟨hY⟩
 clear hY;unfold En.agg at *;obtain⟨ax,aj,ak,aq,aw,seq,key,aM,aL,aA,ops,aN,aS,aF,aB,aG⟩:=e;unfold En.vals at HR mQ ⊢;dsimp only at *;unfold fQ;rw[xN E 1 (by decide)];subst hk;go_in;go_wp2_with fail;rw[<-mQ.out];refine(HR Y HW.ah).mono ?_;rintro e w1 ⟨rfl,aR⟩;have bM:=af (HW.br aR);have hl:=bM.lt;have q0:=mm w1 bM.ah;have a0:=bM.a0;have a1:=bM.a1;have f0:=bM.f0;have f1:=bM.f1;clear aR HW HR mm;rcases hat with ha | ha
 . go_wp2_with fail;go_region;go_wp2_with fail;refine wZ1 (v:=.tuple #[.agg #[.int .i64 0,.int .i64 0],.iface 302 (.pointer (some (E 1)))]) (by simp[results,results67,go_sem,a0,a1,f0,f1]) rfl ⟨rfl,?_⟩;refine((bM.ah.setCell ?_ _).setCell ?_ _).drew<;> (show w.heap.size<=w.heap.size+2;omega)
 . have ha2:¬at_<0:=(by omega);go_wp2_with fail;go_region;go_wp2_with fail;refine wZ1 (v:=.tuple #[.agg #[.int .i64 0,.int .i64 0],.iface 302 (.pointer (some (E 1)))]) (by simp[results,results67,go_sem,a0,a1,f0,f1]) rfl ⟨rfl,?_⟩;refine((bM.ah.setCell ?_ _).setCell ?_ _).drew<;> (show w.heap.size<=w.heap.size+2;omega)
namespace Pl
theorem Nt {e:En}(hk:e.ax=1)(hr:cK e=true):1<=e.aw/\e.aw<=4:=by
 unfold cK at hr;rw[zZ1 hk]at hr;unfold mH dW at hr;simp only[zZ7,wZ2]at hr;exact hr.1.1.1.2
end Pl
theorem z1M (E:Nat->Addr)(e:En){w:World}(hE:bz lI E w)(hA:b7 w e)(at_:Int){Ft Fs:Nat->Prop}{st n:Nat}{lo hi:ByteArray}{P:List Pr}{S:Int->Option An}(h:dE w Ft Fs st n lo hi P S)(hk:e.ax=1)(hr:Pl.cK e=true)(h0:0<=at_)(h1:at_<4096)(hl:lo.size<=70368744177664)(hh:hi.size<=70368744177664)(hsz:∀o∈e.ops,o.key.size<=70368744177664)(iG:∀o∈e.ops,Pl.bk lo hi o.key=true)(hn:eX (S e.aw) e.seq≠1):
    Calls prog 67 #[.pointer (some ⟨st,0,none⟩),e.agg,.int .i64 at_] w fun r w'=>r=.returned (.tuple #[if eX (S e.aw) e.seq=2 then fQ (gS (S e.aw) e.seq).1 (gS (S e.aw) e.seq).2 else fQ 4 0,.nilIface])/\ae w w':=by
 have DL:Hid (eX (S e.aw) e.seq=2\/eX (S e.aw) e.seq=3):=by
  unfold Hid;cases hS:S e.aw with
  | none=>rw[hS]at hn;exact absurd rfl hn
  | some a=>
   rw[hS]at hn;unfold eX at hn ⊢;dsimp only at hn ⊢;by_cases q:a.seq<e.seq
   . rw[zZ1 q]at hn;exact absurd rfl hn
   . rw[zZ0 q];by_cases q2:e.seq=a.seq
     . rw[zZ1 q2];exact .inl rfl
     . rw[zZ0 q2];exact .inr rfl
 have hT:jo lI:=⟨rfl,rfl,rfl,rfl⟩
 have Nu:mD lI:=⟨rfl,rfl,rfl,rfl⟩
 have hR:=fun W (g:ae w W)=>qX hT E e W (hE.ah g) (hA.ah g);rw[hr]at hR;have HR:=af hR;have HW:=af (kN.aX w st e);have jU:=af (fun W (g:ae w W)=>Vp hT E e W (hE.ah g) (hA.ah g) hk hr);have rF:((e.ops.map cf.key).any fun k=>!Pl.bk lo hi k)=false:=by
  rw[yX9];intro k vT;obtain⟨o,ho,rfl⟩:=zX3.1 vT;simp[iG o ho]
 have jT:=hA.few;have nX:=fun W (g:ae w W) (a:Option Addr) (cap:Nat) (k:K8 W a (e.ops.map cf.key)) (hB:lz W w.heap.size st lo hi)=>Vr lI E Nu lo hi a cap (e.ops.map cf.key) W hl hh (hE.ah g) w.heap.size st hB k (by simpa using jT) (fun k vT=>by obtain⟨o,ho,rfl⟩:=zX3.1 vT;exact hsz o ho);rw[rF,zX6]at nX;have rG:=af nX;obtain⟨tb,sb,h⟩:=h;have fP:1<=e.aw/\e.aw<=4:=Nt hk hr;have mS:=af (fun W (g:ae w W)=>TV (h.cL.ah g) e.aw e.seq (by omega) (by omega));generalize eX (S e.aw) e.seq=an at *;generalize (gS (S e.aw) e.seq).1=ac at *;generalize (gS (S e.aw) e.seq).2=aa at *;have HST:=af h;have iq:st<w.heap.size:=bf h.c0;obtain⟨Y,hY⟩:∃Y,Y=(((w.alloc (.cells #[.pointer (some ⟨st,0,none⟩)] 76)).alloc (.cells e.vals.toArray 36)).alloc (.cells #[.int .i64 0,.int .i64 0] 50)):=⟨_,rfl⟩
 rw[<-hY]at HW;have mQ:=af hY;clear hY hE hA hr hR rF nX h iG hsz;unfold En.agg at *;obtain⟨ax,aj,ak,aq,aw,seq,key,aM,aL,aA,ops,aN,aS,aF,aB,aG⟩:=e;unfold En.vals at HR mQ jU ⊢;dsimp only at *;subst hk;unfold fQ at *;go_in;go_wp2_with fail;rw[<-mQ.out];refine(HR Y HW.ah).mono ?_;rintro e w1 ⟨rfl,aR⟩;have bM:=af (HW.br aR);have fC:=bM.lt;have d0:w1.cell? ⟨w.heap.size+1,0,none⟩=some (.int .i64 1):=bM.dZ 0 _ rfl;have d1:w1.cell? ⟨w.heap.size+1,1,none⟩=some (.int .i64 aj):=bM.dZ 1 _ rfl;have d2:w1.cell? ⟨w.heap.size+1,2,none⟩=some (.int .i64 ak):=bM.dZ 2 _ rfl;have d3:w1.cell? ⟨w.heap.size+1,3,none⟩=some (.int .i64 aq):=bM.dZ 3 _ rfl;have d4:w1.cell? ⟨w.heap.size+1,4,none⟩=some (.int .i64 aw):=bM.dZ 4 _ rfl;have d5:w1.cell? ⟨w.heap.size+1,5,none⟩=some (.int .i64 seq):=bM.dZ 5 _ rfl;have d6:w1.cell? ⟨w.heap.size+1,6,none⟩=some (.slice aN ops.length aS):=bM.dZ 6 _ rfl;have d7:w1.cell? ⟨w.heap.size+1,7,none⟩=some (.string key):=bM.dZ 7 _ rfl;have d8:w1.cell? ⟨w.heap.size+1,8,none⟩=some (.int .i64 aM):=bM.dZ 8 _ rfl;have d9:w1.cell? ⟨w.heap.size+1,9,none⟩=some (.int .i64 aL):=bM.dZ 9 _ rfl;have d10:w1.cell? ⟨w.heap.size+1,10,none⟩=some (.int .i64 aA):=bM.dZ 10 _ rfl;have d11:w1.cell? ⟨w.heap.size+1,11,none⟩=some (.slice aF aB aG):=bM.dZ 11 _ rfl;have k0:¬at_<0:=by omega
 have k1:¬4096<=at_:=by omega
 clear aR HW HR;go_wp2_with fail;refine(jU w1 bM.ah).mono ?_;rintro e w2 ⟨⟨v,rfl,aH⟩,aP⟩;obtain⟨a,cap,rfl,oK⟩:=Vq (by rw[zX6];exact aH);rw[zX6];have kT:=af (bM.br aP);have F9:=af oK;clear aP aH oK jU d0 d1 d2 d3 d4 d5 d6 d7 d8 d9 d10 d11;go_wp2_with fail;refine(rG w2 kT.ah a cap F9 ⟨kT.box,(kT.ah.cells.1 _ _ iq).trans HST.c1,(kT.ah.cells.1 _ _ iq).trans HST.c2⟩).mono ?_;rintro e w3 ⟨rfl,hg3⟩;have lY:=af (kT.br hg3);clear hg3 F9 rG bM kT fC;go_wp2_with fail;have hl3:=lY.lt;have B0:=bj lY.box;have B1:=bj (lY.dZ 4 _ rfl);have B2:=bj (lY.dZ 5 _ rfl);have B3:=bj ((lY.ah.cells.1 _ _ iq).trans HST.c3);have lA:=af (fun W (g:ae w3 W)=>mS W (lY.ah.trans g));clear mS;refine kh 14 [12,13] (ae w3) ae (JV [⟨12,13,[.int .i64 ac,.int .i64 aa]⟩] w3) (fun f a=>a.put (some 8) (f 12)) (JV.aX _ w3 _) (fun _ _ _ h=>h.ah) ae.rf (fun _ _ _ _ h g=>h.br g) ?_;repeat (first|refine kg ?_|(refine gg ?_;intros;go_big_quiet_op;go_big_quiet_on)|(refine H0 (fun _=>by kernel_rfl) (fun u hu=>lA u hu) ?_;simp only[Act.put,xB9,xC9,xD9])|(refine fZ ?_;simp only[Act.put,xB9,xC9,xD9]))
 refine jB (by rfl) ⟨⟨bL rfl (fun _ a=>a) ?_,bL rfl (fun f a=>a.put (some 8) (f 12)) ?_,trivial⟩,?_⟩
 . intro L f u hJ hL hd;clear lA B0 B1 B2 B3;go_simp;exact hJ.alloc (by rfl) (V:=⟨12,13,[.int .i64 ac,.int .i64 aa]⟩) (by simp) hL [.int .i64 0,.int .i64 0] rfl _
 . intro L f u hJ hL hd;clear lA B0 B1 B2 B3;obtain⟨m,x,y,hm,k0,k1,f0,f1⟩:=hJ.two (V:=⟨12,13,[.int .i64 ac,.int .i64 aa]⟩) (by simp) (hd 12 rfl (by decide)) rfl;dsimp only at hm;rw[hm];go_simp;exact hJ.store (by rfl) (V:=⟨12,13,[.int .i64 ac,.int .i64 aa]⟩) (by simp) (hd 12 rfl (by decide)) hm
 intro f u hJ;clear lA B0 B1 B2 B3;obtain⟨m8,q8,n8,l8,v0,v1,_,_⟩:=(hJ.full (V:=⟨12,13,[.int .i64 ac,.int .i64 aa]⟩) (by simp) rfl).two;dsimp only at q8;have jO:=af (lY.br hJ.ah);have mm:=af hJ.ah;clear hJ lY;dsimp only[List.drop];simp only[Act.put,xB9,xD9,xC9];rw[q8];clear q8;have a0:=jO.a0;have a1:=jO.a1;have f0:=jO.f0;have f1:=jO.f1;rcases DL.out with rfl | rfl
 . clear DL hn;go_wp2_with fail;refine wZ1 (v:=.tuple #[.agg #[.int .i64 ac,.int .i64 aa],.nilIface]) (by simp[results,results67,go_sem,a0,a1,f0,f1]) rfl ⟨rfl,?_⟩;exact(jO.ah.setCell (show w.heap.size<=w.heap.size+2 by omega) _).setCell (show w.heap.size<=w.heap.size+2 by omega) _
 . clear DL hn;go_wp2_with fail;refine wZ1 (v:=.tuple #[.agg #[.int .i64 4,.int .i64 0],.nilIface]) (by simp[results,results67,go_sem,a0,a1,f0,f1]) rfl ⟨rfl,?_⟩;exact(jO.ah.setCell (show w.heap.size<=w.heap.size+2 by omega) _).setCell (show w.heap.size<=w.heap.size+2 by omega) _
def Vz (y:World)(f:Nat->Value)(x:World):Prop:=∃cb Fc,f 0=.pointer (some ⟨cb,0,none⟩)/\bI x Fc cb []/\∀j,Fc j->y.heap.size<=j
def Nx (y:World)(f:Nat->Value)(x:World):Prop:=∃db Gs,f 2=.pointer (some ⟨db,0,none⟩)/\lh x Gs db 0 (fun _=>none)/\∀j,Gs j->y.heap.size<=j
def Ny (y:World)(f:Nat->Value)(x:World):Prop:=∃cb Fc db Gs,f 0=.pointer (some ⟨cb,0,none⟩)/\bI x Fc cb []/\(∀j,Fc j->y.heap.size<=j)/\f 2=.pointer (some ⟨db,0,none⟩)/\lh x Gs db 0 (fun _=>none)/\(∀j,Gs j->y.heap.size<=j)/\∀j,Fc j->¬Gs j
structure tQ (y:World)(L:Nat->Bool)(f:Nat->Value)(x:World):Prop where
 ah:ae y x
 tab:L 0=true->Vz y f x
 cL:L 2=true->Nx y f x
 both:L 0=true->L 2=true->Ny y f x
theorem tQ.one {y x x':World}{L:Nat->Bool}{f:Nat->Value}(h:tQ y L f x)(hL:L 0=false){cb:Nat}{Fc:Nat->Prop}(hT:bI x' Fc cb [])(hF:∀j,Fc j->x.heap.size<=j)(g:ae x x'):
    tQ y (plus L 0) (bQ f 0 (.pointer (some ⟨cb,0,none⟩))) x':=by
 have hF2:∀j,Fc j->y.heap.size<=j:=fun j hj=>zZ6 h.ah.size (hF j hj);have hs:plus L 0 2=true->L 2=true:=fun h=>by rwa[py (by decide)]at h
 refine⟨h.ah.trans g,fun _=>⟨cb,Fc,fY _ _ _,hT,hF2⟩,fun h2=>?_,fun _ h2=>?_⟩
 . obtain⟨db,Gs,e,hS,hG⟩:=h.cL (hs h2);exact⟨db,Gs,by rw[gH (by decide)];exact e,hS.ah g,hG⟩
 . obtain⟨db,Gs,e,hS,hG⟩:=h.cL (hs h2);exact⟨cb,Fc,db,Gs,fY _ _ _,hT,hF2,by rw[gH (by decide)];exact e,hS.ah g,hG,fun j hj xd=>by have:=hF j hj;have:=hS.lt j xd;omega⟩
theorem tQ.two {y x x':World}{L:Nat->Bool}{f:Nat->Value}(h:tQ y L f x)(hL:L 2=false){db:Nat}{Gs:Nat->Prop}(hT:lh x' Gs db 0 (fun _=>none))(hF:∀j,Gs j->x.heap.size<=j)(g:ae x x'):
    tQ y (plus L 2) (bQ f 2 (.pointer (some ⟨db,0,none⟩))) x':=by
 have hF2:∀j,Gs j->y.heap.size<=j:=fun j hj=>zZ6 h.ah.size (hF j hj);have hs:plus L 2 0=true->L 0=true:=fun h=>by rwa[py (by decide)]at h
 refine⟨h.ah.trans g,fun h2=>?_,fun _=>⟨db,Gs,fY _ _ _,hT,hF2⟩,fun h2 _=>?_⟩
 . obtain⟨cb,Fc,e,hS,hG⟩:=h.tab (hs h2);exact⟨cb,Fc,by rw[gH (by decide)];exact e,hS.ah g,hG⟩
 . obtain⟨cb,Fc,e,hS,hG⟩:=h.tab (hs h2);exact⟨cb,Fc,db,Gs,by rw[gH (by decide)];exact e,hS.ah g,hG,fY _ _ _,hT,hF2,fun j hj xd=>by have:=hF j xd;have:=pR hS j hj;omega⟩
theorem z5r:Pl.bD ⟨#[]⟩ ⟨#[]⟩=true:=by kernel_rfl
theorem zM (S:Nat->Bool)(E:Nat->Addr)(hS:mD S)(lo hi:ByteArray)(w:World)(hl:lo.size<=70368744177664)(hh:hi.size<=70368744177664)(hE:bz S E w)(hr:Pl.bD lo hi=true)(uV:Pl.Good []):
    Calls prog 22 #[.agg #[.string lo,.string hi]] w fun e w'=>∃cb Gt Gs,e=.returned (.tuple #[.pointer (some ⟨cb,0,none⟩),.nilIface])/\dE w' Gt Gs cb 0 lo hi [] (fun _=>none)/\(∀j,Gt j->w.heap.size<=j)/\(∀j,Gs j->w.heap.size<=j)/\w.heap.size<=cb/\ae w w':=by
 have HR:=af (fun W (g:ae w W)=>lN S E hS lo hi W hl hh (hE.ah g));rw[hr]at HR;have HG:=af uV;clear hE hr uV hS hl hh;go_in;go_wp2_with fail;refine(HR _ ((ae.rf w).alloc _)).mono ?_;rintro e w1 ⟨rfl,aR⟩;have ct:=af (((ae.rf w).alloc _).trans aR);have C0:=bj (w:=w1) (show w1.cell? ⟨w.heap.size,0,none⟩=some (.string lo)from(aR.cells.1 _ _ (by simp)).trans (by simp[go_sem]));have C1:=bj (w:=w1) (show w1.cell? ⟨w.heap.size,1,none⟩=some (.string hi)from(aR.cells.1 _ _ (by simp)).trans (by simp[go_sem]));clear HR aR;go_wp2_with fail;refine kh 3 [0,2] (ae w1) Eq (tQ w1) (fun f a=>(a.put (some 8) (f 0)).put (some 10) (f 2)) ⟨(ae.rf w1).drew,(fun h=>by cases h),(fun h=>by cases h),(fun h=>by cases h)⟩ (fun _ _ _ h=>h.ah) (fun _=>rfl) (fun _ _ _ _ h g=>g▸h) ?_;repeat (first|refine kg ?_|(refine gg ?_;intros;go_big_quiet_op;go_big_quiet_on)|(refine fZ ?_;simp only[Act.put,xB9,xC9,xD9]))
 refine jB (by rfl) ⟨⟨bL rfl (fun _ a=>a) ?_,bL rfl (fun f a=>a.put (some 8) (f 0)) ?_,trivial⟩,?_⟩
 . intro L f x hJ hL hd;have HJ:=af hJ;have HL:=af hL;clear hJ hL hd C0 C1;go_simp;refine(Rs x).mono ?_;rintro e x' ⟨rfl,hg,hT⟩;exact⟨_,rfl,HJ.one HL hT (fun j hj=>by rw[hj];exact zZ3 _) hg⟩
 . intro L f x hJ hL hd;have HJ:=af hJ;have HL:=af hL;clear hJ hL hd C0 C1;go_simp;refine(yL x).mono ?_;rintro e x' ⟨sb,F,rfl,hT,hF,hg⟩;exact⟨_,rfl,HJ.two HL hT hF hg⟩
 intro f x hJ;obtain⟨cb,Fc,db,Gs,e0,hT,hF,e2,hS,bW,rz⟩:=hJ.both rfl rfl;have hgx:=hJ.ah;have HF:Hid (dE (x.alloc (.cells #[.pointer (some ⟨cb,0,none⟩),.string lo,.string hi,.pointer (some ⟨db,0,none⟩)] 106)) Fc Gs x.heap.size 0 lo hi [] (fun _=>none)/\ae w (x.alloc (.cells #[.pointer (some ⟨cb,0,none⟩),.string lo,.string hi,.pointer (some ⟨db,0,none⟩)] 106))/\w.heap.size<=x.heap.size/\(∀j,Fc j->w.heap.size<=j)/\∀j,Gs j->w.heap.size<=j):=by
  have gA:ae x (x.alloc (.cells #[.pointer (some ⟨cb,0,none⟩),.string lo,.string hi,.pointer (some ⟨db,0,none⟩)] 106)):=(ae.rf x).alloc _;have gW:=ct.trans hgx;refine⟨⟨cb,db,by simp[go_sem],by simp[go_sem],by simp[go_sem],by simp[go_sem],fun i=>by simp[go_sem],hT.ah gA,hS.ah gA,HG,fun j hj=>⟨rz j hj,fun e=>?_⟩,fun j hj e=>?_⟩,gW.trans gA,gW.size,fun j hj=>zZ6 ct.size (hF j hj),fun j hj=>zZ6 ct.size (bW j hj)⟩
  . have:=pR hT j hj;omega
  . have:=hS.lt j hj;omega
 clear hT hF hS bW rz hgx hJ C0 C1;dsimp only[List.drop];simp only[Act.put,xB9,xD9,xC9];rw[e0,e2];clear e0 e2;go_wp2_with fail;go_ret2;exact⟨_,Fc,Gs,rfl,HF.1,HF.2.2.2.1,HF.2.2.2.2,HF.2.2.1,HF.2.1⟩
end
namespace Pl
theorem z0g {P:List Pr}(h:Good P)(o:cf)(v:Int):Good (cP P o v).1:=by
 unfold cP;split
 . exact h.del _
 . split
   . exact h
   . split
     . exact h
     . exact h.put _
theorem zJ (P:List Pr)(o:cf)(v:Int):(cP P o v).1.length<=P.length+1:=by
 unfold cP;split
 . have:=(z2r P o.key).length_le;dsimp only;omega
 . split
   . dsimp only;omega
   . split
     . dsimp only;omega
     . exact zD P _
def lJ:List cf->Int->List Pr->List Pr×Bool
 | [],_,P=>(P,true)
 | o::os,v,P=>if(cP P o v).2=true then lJ os v (cP P o v).1 else((cP P o v).1,false)
theorem IZ (o:cf)(os:List cf)(v:Int)(P:List Pr):lJ (o::os) v P=if(cP P o v).2=true then lJ os v (cP P o v).1 else((cP P o v).1,false):=rfl
theorem y5v (a b:List cf)(v:Int):∀P,lJ (a++b) v P=if(lJ a v P).2=true then lJ b v (lJ a v P).1 else lJ a v P:=by
 induction a with
 | nil=>intro P;simp[lJ]
 | cons o os ih=>
  intro P;rw[yZ8,IZ,IZ];cases hb:(cP P o v).2 with
  | true=>simp only[if_true];exact ih _
  | false=>simp
theorem z1d (a:List cf)(v:Int):∀P,Good P->Good (lJ a v P).1:=by
 induction a with
 | nil=>intro P h;exact h
 | cons o os ih=>
  intro P h;rw[IZ];split
  . exact ih _ (z0g h o v)
  . exact z0g h o v
theorem y7X (a:List cf)(v:Int):∀P,(lJ a v P).1.length<=P.length+a.length:=by
 induction a with
 | nil=>intro P;simp[lJ]
 | cons o os ih=>
  intro P;rw[IZ];have:=zJ P o v;split
  . have:=ih (cP P o v).1;simp only[zQ6];omega
  . simp only[zQ6];omega
theorem z1G {ops:List cf}{v:Int}{P Q:List Pr}{k:Nat}(hk:k<ops.length)(h:lJ (ops.take k) v P=(Q,true)):
    lJ (ops.take (k+1)) v P=cP Q (bO ops k) v/\((cP Q (bO ops k) v).2=false->(lJ ops v P).2=false):=by
 have e:∀o,lJ [o] v Q=cP Q o v:=by
  intro o;rw[IZ];cases hb:(cP Q o v).2 with
  | true=>rw[zZ1 rfl];show((cP Q o v).1,true)=_;rw[<-hb]
  | false=>rw[zZ0 (by decide),<-hb]
 have h1:lJ (ops.take (k+1)) v P=cP Q (bO ops k) v:=by
  rw[zX1 hk,y5v,h,zZ1 rfl,<-BL ops k hk];exact e _
 refine⟨h1,fun hf=>?_⟩;have h2:lJ ops v P=lJ (ops.take (k+1)++ops.drop (k+1)) v P:=by rw[zX7]
 rw[h2,y5v,h1,hf,zZ0 (by decide),hf]
def fq (P:List Pr)(ops:List cf)(at_:Int):Int:=if(lJ ops (at_+1) P).2=true then 1 else 2
def ju (P:List Pr)(ops:List cf)(at_:Int):List Pr:=if(lJ ops (at_+1) P).2=true then(lJ ops (at_+1) P).1 else P
theorem z0U {P:List Pr}(h:Good P)(ops:List cf)(at_:Int):Good (ju P ops at_):=by
 unfold ju;split
 . exact z1d _ _ _ h
 . exact h
theorem zK (P:List Pr)(ops:List cf)(at_:Int):(ju P ops at_).length<=P.length+ops.length:=by
 unfold ju;split
 . exact y7X _ _ _
 . omega
theorem zL (P:List Pr)(ops:List cf)(at_:Int):fq P ops at_=1\/fq P ops at_=2:=by
 unfold fq;split
 . exact .inl rfl
 . exact .inr rfl
end Pl
section
structure iE (w W:World)(V:List (Nat×List Value))(ob:Nat)(cs:List Int):Prop where
 ah:ae w W
 c:∀p∈V,∀(i:Nat) v,p.2[i]? =some v->W.cell? ⟨p.1,i,none⟩=some v
 lt:∀p∈V,p.1<W.heap.size
 out:∃G,cY W G ob cs/\(∀p∈V,¬G p.1)/\∀j,G j->w.heap.size<=j
section
variable {w W X:World}{ob:Nat}{V:List (Nat×List Value)}{cs bs:List Int}
theorem iE.br (h:iE w W V ob cs)(g:ae W X):iE w X V ob cs:=by
 obtain⟨G,h1,h2,h3⟩:=h.out;exact⟨h.ah.trans g,fun p hp i v hv=>(g.cells.1 _ _ (h.lt p hp)).trans (h.c p hp i v hv),fun p hp=>xA9 (h.lt p hp) g.size,G,h1.ah g,h2,h3⟩
theorem iE.add (h:iE w W V ob cs)(g:ae W X)(b:Nat)(vals:List Value)(hb:W.heap.size<=b)(hX:b<X.heap.size)(hc:∀(i:Nat) v,vals[i]? =some v->X.cell? ⟨b,i,none⟩=some v):iE w X ((b,vals)::V) ob cs:=by
 obtain⟨G,h1,h2,h3⟩:=h.out;have hm:=h.br g;refine⟨hm.ah,fun p hp=>?_,fun p hp=>?_,G,h1.ah g,fun p hp=>?_,h3⟩
 . rcases zX0.1 hp with rfl | hp
   . exact hc
   . exact hm.c p hp
 . rcases zX0.1 hp with rfl | hp
   . exact hX
   . exact hm.lt p hp
 . rcases zX0.1 hp with rfl | hp
   . exact fun hG=>by have:=h1.lt _ hG;dsimp only at this;omega
   . exact h2 p hp
theorem iE.tail {p:Nat×List Value}(h:iE w W (p::V) ob cs):iE w W V ob cs:=by
 obtain⟨G,h1,h2,h3⟩:=h.out;exact⟨h.ah,fun q hq=>h.c q (zJ9 _ hq),fun q hq=>h.lt q (zJ9 _ hq),G,h1,fun q hq=>h2 q (zJ9 _ hq),h3⟩
theorem iE.turn (h:iE w W V ob cs){G:Nat->Prop}(h2:∀p∈V,¬G p.1)(h3:∀j,G j->w.heap.size<=j)(hT:mn W G ob bs X):iE w X V ob bs:=by
 obtain⟨g,G',hO,hG⟩:=hT;refine⟨((h.ah.only _).then g).ah h3,fun p hp i v hv=>(g.cell (h.lt p hp) (h2 p hp) i).trans (h.c p hp i v hv),fun p hp=>xA9 (h.lt p hp) g.size,G',hO,fun p hp hx=>?_,fun j hj=>?_⟩
 . rcases hG _ hx with q | q
   . exact h2 p hp q
   . have:=h.lt p hp;omega
 . rcases hG _ hj with q | q
   . exact h3 j q
   . have:=h.ah.size;omega
theorem iE.text (h:iE w W V ob cs)(s:ByteArray)(hs:s.size<=1000000)(hb:cs.length<=80000000):Calls prog 76 #[.pointer (some ⟨ob,0,none⟩),.string s] W fun e w'=>e=.returned (.tuple #[])/\iE w w' V ob (cs++Pl.bn s):=by
 obtain⟨G,h1,h2,h3⟩:=h.out;refine(Q8 h1 s hs hb).mono ?_;rintro e w' ⟨rfl,hT⟩;exact⟨rfl,h.turn h2 h3 hT⟩
theorem iE.num (h:iE w W V ob cs)(n:Nat)(hn:n<4611686018427387904)(hb:cs.length<=90000000):Calls prog 74 #[.pointer (some ⟨ob,0,none⟩),.int .i64 n] W fun e w'=>e=.returned (.tuple #[])/\iE w w' V ob (cs++Pl.aU n):=by
 obtain⟨G,h1,h2,h3⟩:=h.out;refine(KR h1 n hn hb).mono ?_;rintro e w' ⟨rfl,hT⟩;exact⟨rfl,h.turn h2 h3 hT⟩
theorem iE.done (h:iE w W V ob cs)(hb:cs.length<=65536):Calls prog 77 #[.pointer (some ⟨ob,0,none⟩)] W fun e w'=>∃a c,e=.returned (.tuple #[.slice a cs.length c,.nilIface])/\qi w' a cs/\qg a c/\w'.ownsRow w.heap.size 5 1 (.slice a cs.length c) cs.length (dX cs)/\ae w w':=by
 obtain⟨G,h1,h2,h3⟩:=h.out;refine(Q9 h1 hb).mono ?_;rintro e w' ⟨a,c,rfl,hr,hg⟩;obtain⟨a',c',e',hA,hf,_⟩:=uL hr;cases e';exact⟨a,c,rfl,hA,hf,mg h.ah.size hr,h.ah.trans hg⟩
end
end
section
attribute [local go_sem] bl
namespace Pl
theorem Vs {e:En}(hk:e.ax=1)(hr:cK e=true):1<=e.seq/\e.seq<=1073741824/\e.ops.length<=8:=by
 unfold cK at hr;rw[zZ1 hk]at hr;unfold mH dW at hr;simp only[zZ7,wZ2]at hr;have:=hr.1.2.2;exact⟨hr.1.1.2.1,hr.1.1.2.2,by omega⟩
end Pl
structure Gc (u wr:World)(cb ob:Nat)(Q:List Pr)(c a:Int):Prop where
 ah:ae u wr
 tab:∃Fk,bI wr Fk cb Q/\∀j,Fk j->u.heap.size<=j/\j≠ob
 le:u.heap.size<=ob
 o0:wr.cell? ⟨ob,0,none⟩=some (.int .i64 c)
 o1:wr.cell? ⟨ob,1,none⟩=some (.int .i64 a)
 f0:wr.frozen? ⟨ob,0,none⟩=false
 f1:wr.frozen? ⟨ob,1,none⟩=false
section
variable {u wr wr':World}{cb ob:Nat}{Q Q':List Pr}{c c' a:Int}
theorem Gc.br (h:Gc u wr cb ob Q c a)(g:ae wr wr'):Gc u wr' cb ob Q c a where
 ah:=h.ah.trans g
 tab:=by obtain⟨Fk,k1,k2⟩:=h.tab;exact⟨Fk,k1.ah g,k2⟩
 le:=h.le
 o0:=(g.cells.1 _ _ (bf h.o0)).trans h.o0
 o1:=(g.cells.1 _ _ (bf h.o0)).trans h.o1
 f0:=(g.cells.2 _ _ (bf h.o0)).trans h.f0
 f1:=(g.cells.2 _ _ (bf h.o0)).trans h.f1
theorem Gc.step (h:Gc u wr cb ob Q c a){Fk:Nat->Prop}(hF:∀j,Fk j->u.heap.size<=j/\j≠ob)(t:qo wr Fk cb Q' wr'):Gc u wr' cb ob Q' c a:=by
 have hl:ob<wr.heap.size:=bf h.o0;obtain⟨ho,F',k1,k2⟩:=t;have hn:¬Fk ob:=fun e=>(hF ob e).2 rfl;refine⟨((h.ah.only Fk).then ho).ah fun j hj=>(hF j hj).1,⟨F',k1,fun j hj=>?_⟩,h.le,(ho.cell hl hn 0).trans h.o0,(ho.cell hl hn 1).trans h.o1,(ho.frozen hl hn 0).trans h.f0,(ho.frozen hl hn 1).trans h.f1⟩;rcases k2 j hj with k | k
 . exact hF j k
 . have:=h.ah.size;exact⟨by omega,fun e=>by omega⟩
end
theorem kN.only {w W W':World}{st:Nat}{e:En}{a b:Int}{T:Nat->Prop}(h:kN w W st e a b)(g:ar T W W')(hT:∀j,T j->w.heap.size+2<j):kN w W' st e a b:=
 have l:=h.lt
 have n0:∀i,i<=2->¬T (w.heap.size+i):=fun i hi ht=>by have:=hT _ ht;omega
 ⟨((h.ah.only T).then g).ah (fun j hj=>by have:=hT j hj;omega),xA9 h.lt g.size,(g.cell (by omega) (n0 0 (by omega)) 0).trans h.box,fun j u hj=>(g.cell (by omega) (n0 1 (by omega)) j).trans (h.dZ j u hj),(g.cell (by omega) (n0 2 (by omega)) 0).trans h.a0,(g.cell (by omega) (n0 2 (by omega)) 1).trans h.a1,(g.frozen (by omega) (n0 2 (by omega)) 0).trans h.f0,(g.frozen (by omega) (n0 2 (by omega)) 1).trans h.f1⟩
structure I0 (w W:World)(st:Nat)(e:En)(a b:Int):Prop where
 lt:w.heap.size+2<W.heap.size
 box:W.cell? ⟨w.heap.size,0,none⟩=some (.pointer (some ⟨st,0,none⟩))
 dZ:∀j u,e.vals[j]? =some u->W.cell? ⟨w.heap.size+1,j,none⟩=some u
 a0:W.cell? ⟨w.heap.size+2,0,none⟩=some (.int .i64 a)
 a1:W.cell? ⟨w.heap.size+2,1,none⟩=some (.int .i64 b)
 f0:W.frozen? ⟨w.heap.size+2,0,none⟩=false
 f1:W.frozen? ⟨w.heap.size+2,1,none⟩=false
theorem I0.of {w W:World}{st:Nat}{e:En}{a b:Int}(h:kN w W st e a b):I0 w W st e a b:=⟨h.lt,h.box,h.dZ,h.a0,h.a1,h.f0,h.f1⟩
theorem I0.only {w W W':World}{st:Nat}{e:En}{a b:Int}{T:Nat->Prop}(h:I0 w W st e a b)(g:ar T W W')(hT:∀j,T j->j<w.heap.size):I0 w W' st e a b:=
 have l:=h.lt
 have n0:∀i,¬T (w.heap.size+i):=fun i ht=>by have:=hT _ ht;omega
 ⟨xA9 h.lt g.size,(g.cell (by omega) (n0 0) 0).trans h.box,fun j u hj=>(g.cell (by omega) (n0 1) j).trans (h.dZ j u hj),(g.cell (by omega) (n0 2) 0).trans h.a0,(g.cell (by omega) (n0 2) 1).trans h.a1,(g.frozen (by omega) (n0 2) 0).trans h.f0,(g.frozen (by omega) (n0 2) 1).trans h.f1⟩
def uU (w w':World)(Ft Fs:Nat->Prop)(st n:Nat)(lo hi:ByteArray)(P:List Pr)(S:Int->Option An):Prop:=
 ar (fun j=>j=st\/Fs j) w w'/\∃Gt,dE w' Gt Fs st n lo hi P S/\∀j,Gt j->Ft j\/w.heap.size<=j
theorem z2O {w V x w':World}{Ft Fs:Nat->Prop}{st tb Vt sb n n':Nat}{lo hi:ByteArray}{P P':List Pr}{S S':Int->Option An}(h:zG w Ft Fs st tb sb n lo hi P S)(hV:ar (fun j=>j=st) w V)
    (c0:V.cell? ⟨st,0,none⟩=some (.pointer (some ⟨Vt,0,none⟩))) (c1:V.cell? ⟨st,1,none⟩=some (.string lo)) (c2:V.cell? ⟨st,2,none⟩=some (.string hi)) (c3:V.cell? ⟨st,3,none⟩=some (.pointer (some ⟨sb,0,none⟩))) (f0:∀i,V.frozen? ⟨st,i,none⟩=false)
    (hx:ar Fs V x) (hS:lh x Fs sb n' S') (hw:ar (fun j=>j=w.heap.size+2) x w')
    (ht:∃Gt,bI V Gt Vt P'/\∀j,Gt j->(Ft j\/w.heap.size<=j)/\¬Fs j/\j≠st/\j≠w.heap.size+2) (hg:Pl.Good P'):uU w w' Ft Fs st n' lo hi P' S':=by
 obtain⟨Gt,t1,t2⟩:=ht;have hst:st<w.heap.size:=bf h.c0;have az:∀j,Fs j->j<w.heap.size:=h.cL.lt;have I1:ar (fun j=>Fs j\/j=w.heap.size+2) V w':=(hx.mono fun j hj=> .inl (.inl hj)).then (hw.mono fun j hj=> .inl (.inr hj));have iV:¬(Fs st\/st=w.heap.size+2):=by
  rintro (k | k)
  . exact h.own st k rfl
  . omega
 have hl:st<V.heap.size:=bf c0;refine⟨((hV.mono (T:=fun j=>j=st\/Fs j\/j=w.heap.size+2) fun j hj=> .inl (.inl hj)).then (I1.mono fun j hj=> .inl (.inr hj))).mono fun j hj=>?_,Gt,⟨Vt,sb,⟨(I1.cell hl iV 0).trans c0,(I1.cell hl iV 1).trans c1,(I1.cell hl iV 2).trans c2,(I1.cell hl iV 3).trans c3,fun i=>(I1.frozen hl iV i).trans (f0 i),t1.aC I1 fun j hj=>?_,hS.aC hw fun j hj e=>?_,hg,fun j hj=>⟨(t2 j hj).2.1,(t2 j hj).2.2.1⟩,h.own⟩⟩,fun j hj=>(t2 j hj).1⟩
 . rcases hj with k | k | k
   . exact .inl (.inl k)
   . exact .inl (.inr k)
   . exact .inr (by omega)
 . rintro (k | k)
   . exact(t2 j hj).2.1 k
   . exact(t2 j hj).2.2.2 k
 . have:=az j hj;omega
structure JNt (V:World)(Fs:Nat->Prop)(sb n:Nat)(S:Int->Option An)(L:Nat->Bool)(f:Nat->Value)(x:World):Prop where
 only:ar Fs V x
 ahead:L 10=false->ae V x
 told:L 10=true->f 10=.nilIface/\lh x Fs sb n S
theorem z4G (E:Nat->Addr)(e:En){w:World}(hE:bz lI E w)(hA:b7 w e)(at_:Int){Ft Fs:Nat->Prop}{st n:Nat}{lo hi:ByteArray}{P:List Pr}{S:Int->Option An}(h:dE w Ft Fs st n lo hi P S)(hk:e.ax=1)(hr:Pl.cK e=true)(h0:0<=at_)(h1:at_<4096)(hl:lo.size<=70368744177664)(hh:hi.size<=70368744177664)(hsz:∀o∈e.ops,o.key.size<=70368744177664)(iG:∀o∈e.ops,Pl.bk lo hi o.key=true)(Cc:∀o∈e.ops,o.val.size<=140737488351232)(hx:P.length<=1000)(FJ:n<=1000000)(hf:eX (S e.aw) e.seq=1):
    Calls prog 67 #[.pointer (some ⟨st,0,none⟩),e.agg,.int .i64 at_] w fun r w'=>r=.returned (.tuple #[fQ (Pl.fq P e.ops at_) at_,.nilIface])/\uU w w' Ft Fs st (n+1) lo hi (Pl.ju P e.ops at_) (eJ S e.aw ⟨e.seq,Pl.fq P e.ops at_,at_⟩):=by
 have hT:jo lI:=⟨rfl,rfl,rfl,rfl⟩
 have Nu:mD lI:=⟨rfl,rfl,rfl,rfl⟩
 have hR:=fun W (g:ae w W)=>qX hT E e W (hE.ah g) (hA.ah g);rw[hr]at hR;have HR:=af hR;have HW:=af (kN.aX w st e);have jU:=af (fun W (g:ae w W)=>Vp hT E e W (hE.ah g) (hA.ah g) hk hr);have rF:((e.ops.map cf.key).any fun k=>!Pl.bk lo hi k)=false:=by
  rw[yX9];intro k vT;obtain⟨o,ho,rfl⟩:=zX3.1 vT;simp[iG o ho]
 have jT:=hA.few;have nX:=fun W (g:ae w W) (a:Option Addr) (cap:Nat) (k:K8 W a (e.ops.map cf.key)) (hB:lz W w.heap.size st lo hi)=>Vr lI E Nu lo hi a cap (e.ops.map cf.key) W hl hh (hE.ah g) w.heap.size st hB k (by simpa using jT) (fun k vT=>by obtain⟨o,ho,rfl⟩:=zX3.1 vT;exact hsz o ho);rw[rF,zX6]at nX;have rG:=af nX;have tN:=hA.ops;have hTS:mM lI:=⟨rfl,rfl,rfl,rfl,rfl⟩
 obtain⟨hs1,hs2,hs3⟩:=Vs hk hr;have iw:=af (fun W (g:ae w W) (F:Nat->Prop) (b:Nat) (Q:List Pr) (k:bI W F b Q) (hq:Q.length<=1000000) (o:cf) (ho:o∈e.ops)=>zH hTS E (hE.ah g) k hq o ⟨hsz o ho,Cc o ho⟩ (at_+1) (by omega));have Gd:=af (fun W (b:Nat) (k:lh W Fs b n S) (c:Int) (hc:c=1\/c=2)=>z4p k e.aw ⟨e.seq,c,at_⟩ (Nt hk hr).1 (Nt hk hr).2 ⟨hs1,hs2,hc,h0,by dsimp only;omega⟩ FJ hf);obtain⟨tb,sb,h⟩:=h;have fP:1<=e.aw/\e.aw<=4:=Nt hk hr;have mS:=af (fun W (g:ae w W)=>TV (h.cL.ah g) e.aw e.seq (by omega) (by omega));generalize eX (S e.aw) e.seq=an at *;generalize (gS (S e.aw) e.seq).1=ac at *;generalize (gS (S e.aw) e.seq).2=aa at *;have HST:=af h;have iq:st<w.heap.size:=bf h.c0;obtain⟨Y,hY⟩:∃Y,Y=(((w.alloc (.cells #[.pointer (some ⟨st,0,none⟩)] 76)).alloc (.cells e.vals.toArray 36)).alloc (.cells #[.int .i64 0,.int .i64 0] 50)):=⟨_,rfl⟩
 rw[<-hY]at HW;have mQ:=af hY;clear hY hE hA hr hR rF nX h iG hsz Cc;unfold En.agg at *;obtain⟨ax,aj,ak,aq,aw,seq,key,aM,aL,aA,ops,aN,aS,aF,aB,aG⟩:=e;unfold En.vals at HR mQ jU ⊢;dsimp only at *;subst hk;unfold fQ at *;go_in;go_wp2_with fail;rw[<-mQ.out];refine(HR Y HW.ah).mono ?_;rintro e w1 ⟨rfl,aR⟩;have bM:=af (HW.br aR);have fC:=bM.lt;have d0:w1.cell? ⟨w.heap.size+1,0,none⟩=some (.int .i64 1):=bM.dZ 0 _ rfl;have d1:w1.cell? ⟨w.heap.size+1,1,none⟩=some (.int .i64 aj):=bM.dZ 1 _ rfl;have d2:w1.cell? ⟨w.heap.size+1,2,none⟩=some (.int .i64 ak):=bM.dZ 2 _ rfl;have d3:w1.cell? ⟨w.heap.size+1,3,none⟩=some (.int .i64 aq):=bM.dZ 3 _ rfl;have d4:w1.cell? ⟨w.heap.size+1,4,none⟩=some (.int .i64 aw):=bM.dZ 4 _ rfl;have d5:w1.cell? ⟨w.heap.size+1,5,none⟩=some (.int .i64 seq):=bM.dZ 5 _ rfl;have d6:w1.cell? ⟨w.heap.size+1,6,none⟩=some (.slice aN ops.length aS):=bM.dZ 6 _ rfl;have d7:w1.cell? ⟨w.heap.size+1,7,none⟩=some (.string key):=bM.dZ 7 _ rfl;have d8:w1.cell? ⟨w.heap.size+1,8,none⟩=some (.int .i64 aM):=bM.dZ 8 _ rfl;have d9:w1.cell? ⟨w.heap.size+1,9,none⟩=some (.int .i64 aL):=bM.dZ 9 _ rfl;have d10:w1.cell? ⟨w.heap.size+1,10,none⟩=some (.int .i64 aA):=bM.dZ 10 _ rfl;have d11:w1.cell? ⟨w.heap.size+1,11,none⟩=some (.slice aF aB aG):=bM.dZ 11 _ rfl;have k0:¬at_<0:=by omega
 have k1:¬4096<=at_:=by omega
 clear aR HW HR;go_wp2_with fail;refine(jU w1 bM.ah).mono ?_;rintro e w2 ⟨⟨v,rfl,aH⟩,aP⟩;obtain⟨a,cap,rfl,oK⟩:=Vq (by rw[zX6];exact aH);rw[zX6];have kT:=af (bM.br aP);have F9:=af oK;clear aP aH oK jU d0 d1 d2 d3 d4 d5 d6 d7 d8 d9 d10 d11;go_wp2_with fail;refine(rG w2 kT.ah a cap F9 ⟨kT.box,(kT.ah.cells.1 _ _ iq).trans HST.c1,(kT.ah.cells.1 _ _ iq).trans HST.c2⟩).mono ?_;rintro e w3 ⟨rfl,hg3⟩;have lY:=af (kT.br hg3);clear hg3 F9 rG bM kT fC;go_wp2_with fail;have hl3:=lY.lt;have B0:=bj lY.box;have B1:=bj (lY.dZ 4 _ rfl);have B2:=bj (lY.dZ 5 _ rfl);have B3:=bj ((lY.ah.cells.1 _ _ iq).trans HST.c3);have lA:=af (fun W (g:ae w3 W)=>mS W (lY.ah.trans g));clear mS;refine kh 14 [12,13] (ae w3) ae (JV [⟨12,13,[.int .i64 ac,.int .i64 aa]⟩] w3) (fun f a=>a.put (some 8) (f 12)) (JV.aX _ w3 _) (fun _ _ _ h=>h.ah) ae.rf (fun _ _ _ _ h g=>h.br g) ?_;repeat (first|refine kg ?_|(refine gg ?_;intros;go_big_quiet_op;go_big_quiet_on)|(refine H0 (fun _=>by kernel_rfl) (fun u hu=>lA u hu) ?_;simp only[Act.put,xB9,xC9,xD9])|(refine fZ ?_;simp only[Act.put,xB9,xC9,xD9]))
 refine jB (by rfl) ⟨⟨bL rfl (fun _ a=>a) ?_,bL rfl (fun f a=>a.put (some 8) (f 12)) ?_,trivial⟩,?_⟩
 . intro L f u hJ hL hd;clear lA B0 B1 B2 B3;go_simp;exact hJ.alloc (by rfl) (V:=⟨12,13,[.int .i64 ac,.int .i64 aa]⟩) (by simp) hL [.int .i64 0,.int .i64 0] rfl _
 . intro L f u hJ hL hd;clear lA B0 B1 B2 B3;obtain⟨m,x,y,hm,k0,k1,f0,f1⟩:=hJ.two (V:=⟨12,13,[.int .i64 ac,.int .i64 aa]⟩) (by simp) (hd 12 rfl (by decide)) rfl;dsimp only at hm;rw[hm];go_simp;exact hJ.store (by rfl) (V:=⟨12,13,[.int .i64 ac,.int .i64 aa]⟩) (by simp) (hd 12 rfl (by decide)) hm
 intro f u hJ;clear lA B0 B1 B2 B3;obtain⟨m8,q8,n8,l8,v0,v1,_,_⟩:=(hJ.full (V:=⟨12,13,[.int .i64 ac,.int .i64 aa]⟩) (by simp) rfl).two;dsimp only at q8;have jO:=af (lY.br hJ.ah);have mm:=af hJ.ah;clear hJ lY;dsimp only[List.drop];simp only[Act.put,xB9,xD9,xC9];rw[q8];clear q8;subst hf;have xj:=af tN;clear tN;have b0:=jO.box;have t0:=(jO.ah.cells.1 _ 0 iq).trans HST.c0;have Ge:=af (z0z (HST.tab.ah jO.ah) (by omega));clear v0 v1 mm;have hlu:=jO.lt;go_wp2_with fail;refine Ge.mono ?_;rintro e w5 ⟨⟨cb,Fc,rfl,hC,hFc⟩,jq⟩;have I2:=af (jO.br jq);have BZ:=af jq;have HC:=af (And.intro hC hFc);have K9:=I2.lt;have j0n:w.heap.size+1<w5.heap.size:=by omega
 have e6:w5.cell? ⟨w.heap.size+1,6,none⟩=some (.slice aN ops.length aS):=I2.dZ 6 _ rfl;clear Ge hC hFc jq b0 t0;go_wp2_with fail;obtain⟨X,hX⟩:∃X,X=w5.alloc (.cells #[.int .i64 1,.int .i64 at_] 50):=⟨_,rfl⟩
 have gX:ae w5 X:=by rw[hX];exact(ae.rf w5).alloc _
 have HLP:=af (show Gc u X cb w5.heap.size P 1 at_ by
  refine⟨BZ.trans gX,⟨Fc,HC.1.ah gX,fun j hj=>⟨HC.2 j hj,fun e=>?_⟩⟩,BZ.size,?_,?_,?_,?_⟩
  . have:=pR HC.1 j hj;omega
  all_goals (rw[hX];simp[go_sem]))
 rw[<-hX];have oP:=af (I2.br gX);have hwr:IntKind.i64.wrap (at_+1)=at_+1:=IntWalk.i64_in _ (by omega);clear gX hX HC e6;go_loopw [69] (fun i wr=>∃k:Nat,k<=ops.length/\i=.int .i64 k/\Hid (∃Q,Gc u wr cb w5.heap.size Q 1 at_/\Pl.lJ (ops.take k) (at_+1) P=(Q,true))/\Hid (kN w wr st ⟨1,aj,ak,aq,aw,seq,key,aM,aL,aA,ops,aN,aS,aF,aB,aG⟩ 0 0)) (fun i _=>ops.length - (intOf i).toNat);exact⟨0,zZ5 _,rfl,⟨P,HLP,rfl⟩,oP⟩;obtain⟨k,fV,rfl,HQ,Nv⟩:=hrel;by_cases az:k<ops.length
 . obtain⟨Q,I3,hrun⟩:=HQ.out;rcases xj.out with Nw | ⟨b,off,rfl,hb,dD⟩
   . rw[Nw]at az;simp at az
   have hG:=Nv.ah;have q0:=(hG.cells.1 b (off+k*5) hb).trans (dD.ax k az);have q1:=(hG.cells.1 b (off+k*5+1) hb).trans (dD.key k az);have q2:=(hG.cells.1 b (off+k*5+2) hb).trans (dD.val k az);have q3:=(hG.cells.1 b (off+k*5+3) hb).trans (dD.old k az);have q4:=(hG.cells.1 b (off+k*5+4) hb).trans (dD.eI k az);have hbr:=xA9 hb hG.size;have HM:=af (BM ops k az);have ez:=z1G az hrun;have qm:Q.length<=1000000:=by
    have:=y7X (ops.take k) (at_+1) P;rw[hrun,zZ9]at this;dsimp only at this;omega
   obtain⟨Fk,kt,kf⟩:=I3.tab;have sJ:=af (fun W (g:ae wr W)=>iw W (hG.trans g) Fk cb Q (kt.ah g) qm _ HM);have RM:=af kf;have Gf:=af I3;have js:=af ez;clear dD hG ez qm kt kf I3 hrun HQ HM;generalize bO ops k=c at *;generalize Pl.cP Q c (at_+1)=r at *;obtain⟨Q',ok⟩:=r;unfold cf.dH cf.vals at sJ;obtain⟨c0,c1,c2,c3,c4⟩:=c;dsimp only at *;have kC:=af Nv;clear Nv;cases ok with
   | true=>
    go_wp2_with fail;refine(sJ _ ((ae.rf wr).alloc _)).mono ?_;rintro e w6 ⟨rfl,ht⟩;have rH:=af ((Gf.br ((ae.rf wr).alloc _)).step RM ht);have La:=af ((kC.br ((ae.rf wr).alloc _)).only ht.1 (fun j hj=>by have:=(RM j hj).1;omega));have I4:=af (js.1);clear ht q0 q1 q2 q3 q4 sJ;go_wp2_with fail;go_roundw;case rel=>exact⟨k+1,by omega,by go_num,⟨Q',rH,I4⟩,La⟩
    case measure=>simp[intOf];omega
   | false=>
    go_wp2_with fail;refine(sJ _ ((ae.rf wr).alloc _)).mono ?_;rintro e w6 ⟨rfl,ht⟩;have rH:=af ((Gf.br ((ae.rf wr).alloc _)).step RM ht);have La:=af ((kC.br ((ae.rf wr).alloc _)).only ht.1 (fun j hj=>by have:=(RM j hj).1;omega));have I4:=af (js.2 trivial);have o0:=rH.o0;have z0:=rH.f0;clear ht q0 q1 q2 q3 q4 sJ;go_wp2_with fail;obtain⟨V,hV⟩:∃V,V=w6.setCell ⟨w5.heap.size,0,none⟩ (.int .i64 2):=⟨_,rfl⟩
    have HVE:=af hV;rw[<-hV];have dS:w.heap.size+2<w5.heap.size:=K9;have gV:ar (fun j=>j=w5.heap.size) w6 V:=(by rw[hV];exact ar.setCell w6 ⟨w5.heap.size,0,none⟩ _);have HWI:=af (La.only gV (fun j hj=>by omega));have rI:=af (I0.of HWI);have gW:ae w V:=HWI.ah;have Vu:=af (HST.cL.ah gW);have Vv:Hid (V.cell? ⟨w5.heap.size,0,none⟩=some (.int .i64 2)):=(by unfold Hid;have q:=rH.o0;rw[hV];simp[go_sem,q]);have vP:Hid (V.cell? ⟨w5.heap.size,1,none⟩=some (.int .i64 at_)):=(by unfold Hid;have q:=rH.o1;rw[hV];simp[go_sem,q]);have Vw:=af (gW.only fun j=>j=st);have pN:=af ((gW.cells.1 _ 0 iq).trans HST.c0);have zm:=af ((gW.cells.1 _ 1 iq).trans HST.c1);have je:=af ((gW.cells.1 _ 2 iq).trans HST.c2);have wj:=af ((gW.cells.1 _ 3 iq).trans HST.c3);have I5:=af (fun i=>(gW.cells.2 _ i iq).trans (HST.f0 i));have I6:Hid (Pl.fq P ops at_=2):=(by unfold Hid Pl.fq;rw[I4.out,zZ0 (by decide)]);have Gg:Pl.ju P ops at_=P:=(by unfold Pl.ju;rw[I4.out,zZ0 (by decide)]);have Vx:=af (show ∃Gt,bI V Gt tb (Pl.ju P ops at_)/\∀j,Gt j->(Ft j\/w.heap.size<=j)/\¬Fs j/\j≠st/\j≠w.heap.size+2 from⟨Ft,by rw[Gg];exact HST.tab.ah gW,fun j hj=>⟨.inl hj,(HST.cC j hj).1,(HST.cC j hj).2,fun e=>by have:=pR HST.tab j hj;omega⟩⟩);clear gV gW Gg o0 z0;clear hV;have I7:∀j,Fs j->j<w.heap.size:=HST.cL.lt;have iV:∀i,¬Fs (w.heap.size+i):=fun i hi=>by have:=I7 _ hi;omega
    have jw:¬Fs st:=fun hi=>HST.own st hi rfl;have tO:¬Fs w5.heap.size:=fun hi=>by have:=I7 _ hi;omega
    have B0:=bu (S:=Fs) rI.box (iV 0);have B1:=bu (S:=Fs) (rI.dZ 4 _ rfl) (iV 1);have B2:=bu (S:=Fs) (rI.dZ 5 _ rfl) (iV 1);have B3:=bu (S:=Fs) wj jw;have O0:=bu (S:=Fs) Vv tO;have O1:=bu (S:=Fs) vP tO;have sK:=af iV;clear I7 iV jw tO;refine kh 11 [10] (ar Fs V) Eq (JNt V Fs sb (n+1) (eJ S aw ⟨seq,2,at_⟩)) (fun f a=>a.put (some 98) (f 10)) ⟨((ae.rf V).drew).only Fs,fun _=>(ae.rf V).drew,fun h=>by cases h⟩ (fun _ _ _ h=>h.only) (fun _=>rfl) (fun _ _ _ _ h g=>g▸h) ?_;repeat (first|refine kg ?_|(refine gg ?_;intros;go_big_quiet_op;go_big_quiet_on)|(refine fZ ?_;simp only[Act.put,xB9,xC9,xD9]))
    refine jB (by rfl) ⟨⟨bL rfl (fun _ a=>a) ?_,trivial⟩,?_⟩
    . intro L f x hJ hL hd;have HJ:=af hJ;have HL:=af hL;clear hJ hL hd B0 B1 B2 B3 O0 O1;go_simp;refine(Gd x sb (Vu.ah (HJ.ahead HL)) 2 (by decide)).mono ?_;rintro e x' ⟨rfl,ho,tP⟩;exact⟨_,rfl,HJ.only.then ho,fun h=>absurd h (by rw[xh];decide),fun _=>⟨fY _ _ _,tP⟩⟩
    intro f x hJ;obtain⟨f10,tP⟩:=hJ.told rfl;have ho:=hJ.only;have hlV:=rI.lt;have a0:=(ho.cell (by omega) (sK 2) 0).trans rI.a0;have a1:=(ho.cell (by omega) (sK 2) 1).trans rI.a1;have z0:=(ho.frozen (by omega) (sK 2) 0).trans rI.f0;have z1:=(ho.frozen (by omega) (sK 2) 1).trans rI.f1;have HO:=af ho;have Vy:=af tP;clear hJ B0 B1 B2 B3 O0 O1 ho tP;dsimp only[List.drop];simp only[Act.put,xB9,xD9,xC9];rw[f10];clear f10;go_wp2_with fail;refine wZ1 (v:=.tuple #[.agg #[.int .i64 2,.int .i64 at_],.nilIface]) (by simp[results,results67,go_sem,a0,a1,z0,z1]) rfl ⟨?_,?_⟩
    . rw[show Pl.fq P ops at_=2 from I6.out]
    . rw[show Pl.fq P ops at_=2 from I6.out];refine z2O HST Vw pN zm je wj I5 HO Vy ?_ Vx (z0U HST.good _ _);exact(ar.setCell x ⟨w.heap.size+2,0,none⟩ _).then (ar.setCell _ ⟨w.heap.size+2,1,none⟩ _)
 . obtain rfl:k=ops.length:=(by omega);obtain⟨Q,I3,hrun⟩:=HQ.out;rw[zQ1]at hrun;have eH:=af hrun;have Gf:=af I3;have kC:=af Nv;have o0:=I3.o0;have b0:=kC.box;have s0:=(kC.ah.cells.1 _ 0 iq).trans HST.c0;have y0:=(kC.ah.cells.2 _ 0 iq).trans (HST.f0 0);have HYA:=af (fun i=>(kC.ah.cells.2 _ i iq).trans (HST.f0 i));clear I3 hrun HQ Nv;go_wp2_with fail;obtain⟨V,hV⟩:∃V,V=wr.setCell ⟨st,0,none⟩ (.pointer (some ⟨cb,0,none⟩)):=⟨_,rfl⟩
   have HVE:=af hV;rw[<-hV];have gr:ae w wr:=kC.ah;have gV:ar (fun j=>j=st) wr V:=(by rw[hV];exact ar.setCell wr ⟨st,0,none⟩ _);have rI:=af ((I0.of kC).only gV (fun j hj=>by omega));have Vu:=af ((HST.cL.ah gr).aC gV (fun j hj e=>HST.own j hj e));have Vv:Hid (V.cell? ⟨w5.heap.size,0,none⟩=some (.int .i64 1)):=(gV.cell (bf Gf.o0) (by show ¬w5.heap.size=st;omega) 0).trans Gf.o0;have vP:Hid (V.cell? ⟨w5.heap.size,1,none⟩=some (.int .i64 at_)):=(gV.cell (bf Gf.o0) (by show ¬w5.heap.size=st;omega) 1).trans Gf.o1;have Vw:=af ((gr.only fun j=>j=st).then gV);have pN:Hid (V.cell? ⟨st,0,none⟩=some (.pointer (some ⟨cb,0,none⟩))):=(by unfold Hid;rw[hV];simp[go_sem,s0]);have zm:Hid (V.cell? ⟨st,1,none⟩=some (.string lo)):=(by unfold Hid;have q:=(gr.cells.1 _ 1 iq).trans HST.c1;rw[hV];simp[go_sem,q]);have je:Hid (V.cell? ⟨st,2,none⟩=some (.string hi)):=(by unfold Hid;have q:=(gr.cells.1 _ 2 iq).trans HST.c2;rw[hV];simp[go_sem,q]);have wj:Hid (V.cell? ⟨st,3,none⟩=some (.pointer (some ⟨sb,0,none⟩))):=(by unfold Hid;have q:=(gr.cells.1 _ 3 iq).trans HST.c3;rw[hV];simp[go_sem,q]);have I5:Hid (∀i,V.frozen? ⟨st,i,none⟩=false):=(by unfold Hid;intro i;rw[hV,World.frozen?_setCell];exact HYA i);have I6:Hid (Pl.fq P ops at_=1):=(by unfold Hid Pl.fq;rw[eH.out,zZ1 rfl]);have Gg:Pl.ju P ops at_=Q:=(by unfold Pl.ju;rw[eH.out,zZ1 rfl]);obtain⟨Fk,kt,kf⟩:=Gf.tab;have Vx:=af (show ∃Gt,bI V Gt cb (Pl.ju P ops at_)/\∀j,Gt j->(Ft j\/w.heap.size<=j)/\¬Fs j/\j≠st/\j≠w.heap.size+2 from⟨Fk,by rw[Gg];exact kt.aC gV (fun j hj e=>by have:=(kf j hj).1;omega),fun j hj=>by
    have h1:=(kf j hj).1;exact⟨.inr (by omega),fun hs=>by have:=HST.cL.lt j hs;omega,by omega,by omega⟩⟩)
   clear gV gr Gg kt kf o0 b0 s0 y0;clear hV;have I7:∀j,Fs j->j<w.heap.size:=HST.cL.lt;have iV:∀i,¬Fs (w.heap.size+i):=fun i hi=>by have:=I7 _ hi;omega
   have jw:¬Fs st:=fun hi=>HST.own st hi rfl;have tO:¬Fs w5.heap.size:=fun hi=>by have:=I7 _ hi;omega
   have B0:=bu (S:=Fs) rI.box (iV 0);have B1:=bu (S:=Fs) (rI.dZ 4 _ rfl) (iV 1);have B2:=bu (S:=Fs) (rI.dZ 5 _ rfl) (iV 1);have B3:=bu (S:=Fs) wj jw;have O0:=bu (S:=Fs) Vv tO;have O1:=bu (S:=Fs) vP tO;have sK:=af iV;clear I7 iV jw tO;refine kh 11 [10] (ar Fs V) Eq (JNt V Fs sb (n+1) (eJ S aw ⟨seq,1,at_⟩)) (fun f a=>a.put (some 98) (f 10)) ⟨((ae.rf V).drew).only Fs,fun _=>(ae.rf V).drew,fun h=>by cases h⟩ (fun _ _ _ h=>h.only) (fun _=>rfl) (fun _ _ _ _ h g=>g▸h) ?_;repeat (first|refine kg ?_|(refine gg ?_;intros;go_big_quiet_op;go_big_quiet_on)|(refine fZ ?_;simp only[Act.put,xB9,xC9,xD9]))
   refine jB (by rfl) ⟨⟨bL rfl (fun _ a=>a) ?_,trivial⟩,?_⟩
   . intro L f x hJ hL hd;have HJ:=af hJ;have HL:=af hL;clear hJ hL hd B0 B1 B2 B3 O0 O1;go_simp;refine(Gd x sb (Vu.ah (HJ.ahead HL)) 1 (by decide)).mono ?_;rintro e x' ⟨rfl,ho,tP⟩;exact⟨_,rfl,HJ.only.then ho,fun h=>absurd h (by rw[xh];decide),fun _=>⟨fY _ _ _,tP⟩⟩
   intro f x hJ;obtain⟨f10,tP⟩:=hJ.told rfl;have ho:=hJ.only;have hlV:=rI.lt;have a0:=(ho.cell (by omega) (sK 2) 0).trans rI.a0;have a1:=(ho.cell (by omega) (sK 2) 1).trans rI.a1;have z0:=(ho.frozen (by omega) (sK 2) 0).trans rI.f0;have z1:=(ho.frozen (by omega) (sK 2) 1).trans rI.f1;have HO:=af ho;have Vy:=af tP;clear hJ B0 B1 B2 B3 O0 O1 ho tP;dsimp only[List.drop];simp only[Act.put,xB9,xD9,xC9];rw[f10];clear f10;go_wp2_with fail;refine wZ1 (v:=.tuple #[.agg #[.int .i64 1,.int .i64 at_],.nilIface]) (by simp[results,results67,go_sem,a0,a1,z0,z1]) rfl ⟨?_,?_⟩
   . rw[show Pl.fq P ops at_=1 from I6.out]
   . rw[show Pl.fq P ops at_=1 from I6.out];refine z2O HST Vw pN zm je wj I5 HO Vy ?_ Vx (z0U HST.good _ _);exact(ar.setCell x ⟨w.heap.size+2,0,none⟩ _).then (ar.setCell _ ⟨w.heap.size+2,1,none⟩ _)
end
namespace Pl
structure WrR where
 cI:Int
 at_:Int
 err:Nat
 P:List Pr
 S:Int->Option An
end Pl
def rJ (e:En):Prop:=∀o∈e.ops,o.key.size<=70368744177664/\o.val.size<=140737488351232
namespace Pl
end Pl
section
attribute [local go_sem] bl
theorem z0C (E:Nat->Addr)(e:En){w:World}(hE:bz lI E w)(hA:b7 w e)(at_:Int){Ft Fs:Nat->Prop}{st n:Nat}{lo hi:ByteArray}{P:List Pr}{S:Int->Option An}(h:dE w Ft Fs st n lo hi P S)(hk:e.ax=1)(hr:Pl.cK e=true)(h0:0<=at_)(h1:at_<4096)(hl:lo.size<=70368744177664)(hh:hi.size<=70368744177664)(hsz:∀o∈e.ops,o.key.size<=70368744177664)(iG:(e.ops.any fun o=>!Pl.bk lo hi o.key)=true):
    Calls prog 67 #[.pointer (some ⟨st,0,none⟩),e.agg,.int .i64 at_] w fun r w'=>r=.returned (.tuple #[fQ 3 0,.nilIface])/\ae w w':=by
 have hT:jo lI:=⟨rfl,rfl,rfl,rfl⟩
 have Nu:mD lI:=⟨rfl,rfl,rfl,rfl⟩
 have hR:=fun W (g:ae w W)=>qX hT E e W (hE.ah g) (hA.ah g);rw[hr]at hR;have HR:=af hR;have HW:=af (kN.aX w st e);have jU:=af (fun W (g:ae w W)=>Vp hT E e W (hE.ah g) (hA.ah g) hk hr);have rF:((e.ops.map cf.key).any fun k=>!Pl.bk lo hi k)=true:=by
  rw[List.any_map];exact iG
 have jT:=hA.few;have nX:=fun W (g:ae w W) (a:Option Addr) (cap:Nat) (k:K8 W a (e.ops.map cf.key)) (hB:lz W w.heap.size st lo hi)=>Vr lI E Nu lo hi a cap (e.ops.map cf.key) W hl hh (hE.ah g) w.heap.size st hB k (by simpa using jT) (fun k vT=>by obtain⟨o,ho,rfl⟩:=zX3.1 vT;exact hsz o ho);rw[rF,zX6]at nX;have rG:=af nX;obtain⟨tb,sb,h⟩:=h;have HST:=af h;have iq:st<w.heap.size:=bf h.c0;obtain⟨Y,hY⟩:∃Y,Y=(((w.alloc (.cells #[.pointer (some ⟨st,0,none⟩)] 76)).alloc (.cells e.vals.toArray 36)).alloc (.cells #[.int .i64 0,.int .i64 0] 50)):=⟨_,rfl⟩
 rw[<-hY]at HW;have mQ:=af hY;clear hY hE hA hr hR rF nX h iG hsz;unfold En.agg at *;obtain⟨ax,aj,ak,aq,aw,seq,key,aM,aL,aA,ops,aN,aS,aF,aB,aG⟩:=e;unfold En.vals at HR mQ jU ⊢;dsimp only at *;subst hk;unfold fQ at *;go_in;go_wp2_with fail;rw[<-mQ.out];refine(HR Y HW.ah).mono ?_;rintro e w1 ⟨rfl,aR⟩;have bM:=af (HW.br aR);have fC:=bM.lt;have d0:w1.cell? ⟨w.heap.size+1,0,none⟩=some (.int .i64 1):=bM.dZ 0 _ rfl;have d1:w1.cell? ⟨w.heap.size+1,1,none⟩=some (.int .i64 aj):=bM.dZ 1 _ rfl;have d2:w1.cell? ⟨w.heap.size+1,2,none⟩=some (.int .i64 ak):=bM.dZ 2 _ rfl;have d3:w1.cell? ⟨w.heap.size+1,3,none⟩=some (.int .i64 aq):=bM.dZ 3 _ rfl;have d4:w1.cell? ⟨w.heap.size+1,4,none⟩=some (.int .i64 aw):=bM.dZ 4 _ rfl;have d5:w1.cell? ⟨w.heap.size+1,5,none⟩=some (.int .i64 seq):=bM.dZ 5 _ rfl;have d6:w1.cell? ⟨w.heap.size+1,6,none⟩=some (.slice aN ops.length aS):=bM.dZ 6 _ rfl;have d7:w1.cell? ⟨w.heap.size+1,7,none⟩=some (.string key):=bM.dZ 7 _ rfl;have d8:w1.cell? ⟨w.heap.size+1,8,none⟩=some (.int .i64 aM):=bM.dZ 8 _ rfl;have d9:w1.cell? ⟨w.heap.size+1,9,none⟩=some (.int .i64 aL):=bM.dZ 9 _ rfl;have d10:w1.cell? ⟨w.heap.size+1,10,none⟩=some (.int .i64 aA):=bM.dZ 10 _ rfl;have d11:w1.cell? ⟨w.heap.size+1,11,none⟩=some (.slice aF aB aG):=bM.dZ 11 _ rfl;have k0:¬at_<0:=by omega
 have k1:¬4096<=at_:=by omega
 clear aR HW HR;go_wp2_with fail;refine(jU w1 bM.ah).mono ?_;rintro e w2 ⟨⟨v,rfl,aH⟩,aP⟩;obtain⟨a,cap,rfl,oK⟩:=Vq (by rw[zX6];exact aH);rw[zX6];have kT:=af (bM.br aP);have F9:=af oK;clear aP aH oK jU d0 d1 d2 d3 d4 d5 d6 d7 d8 d9 d10 d11;go_wp2_with fail;refine(rG w2 kT.ah a cap F9 ⟨kT.box,(kT.ah.cells.1 _ _ iq).trans HST.c1,(kT.ah.cells.1 _ _ iq).trans HST.c2⟩).mono ?_;rintro e w3 ⟨rfl,hg3⟩;have lY:=af (kT.br hg3);clear hg3 F9 rG bM kT fC;have a0:=lY.a0;have a1:=lY.a1;have f0:=lY.f0;have f1:=lY.f1;have hl3:=lY.lt;go_wp2_with fail;refine wZ1 (v:=.tuple #[.agg #[.int .i64 3,.int .i64 0],.nilIface]) (by simp[results,results67,go_sem,a0,a1,f0,f1]) rfl ⟨rfl,?_⟩;exact(lY.ah.setCell (show w.heap.size<=w.heap.size+2 by omega) _).setCell (show w.heap.size<=w.heap.size+2 by omega) _
namespace Pl
def gj (lo hi:ByteArray)(P:List Pr)(S:Int->Option An)(e:En)(at_:Int):WrR:=
 if ¬(e.ax=1/\cK e=true)then⟨0,0,4,P,S⟩
 else if at_<0\/4096<=at_ then⟨0,0,1,P,S⟩
 else if(e.ops.any fun o=>!bk lo hi o.key)=true then⟨3,0,0,P,S⟩
 else if eX (S e.aw) e.seq=1 then⟨fq P e.ops at_,at_,0,ju P e.ops at_,eJ S e.aw ⟨e.seq,fq P e.ops at_,at_⟩⟩
 else if eX (S e.aw) e.seq=2 then⟨(gS (S e.aw) e.seq).1,(gS (S e.aw) e.seq).2,0,P,S⟩
 else⟨4,0,0,P,S⟩
theorem VA {lo hi:ByteArray}{ops:List cf}(h:¬(ops.any fun o=>!bk lo hi o.key)=true):∀o∈ops,bk lo hi o.key=true:=by
 intro o ho;cases hh:bk lo hi o.key with
 | true=>rfl
 | false=>exact absurd (zK9.2 ⟨o,ho,by rw[hh];rfl⟩) h
end Pl
theorem z3k (E:Nat->Addr)(e:En){w:World}(hE:bz lI E w)(hA:b7 w e)(hz:rJ e)(at_:Int){Ft Fs:Nat->Prop}{st n:Nat}{lo hi:ByteArray}{P:List Pr}{S:Int->Option An}(h:dE w Ft Fs st n lo hi P S)(hl:lo.size<=70368744177664)(hh:hi.size<=70368744177664)(hx:P.length<=1000)(hn:n<=1000000):
    Calls prog 67 #[.pointer (some ⟨st,0,none⟩),e.agg,.int .i64 at_] w fun r w'=>r=.returned (.tuple #[fQ (Pl.gj lo hi P S e at_).cI (Pl.gj lo hi P S e at_).at_,bA E (Pl.gj lo hi P S e at_).err])/\∃m,m<=n+1/\uU w w' Ft Fs st m lo hi (Pl.gj lo hi P S e at_).P (Pl.gj lo hi P S e at_).S:=by
 have still:∀{w'},ae w w'->∃m,m<=n+1/\uU w w' Ft Fs st m lo hi P S:=fun {w'} g=>⟨n,by omega,g.only _,Ft,h.ah g,fun _ hj=> .inl hj⟩
 unfold Pl.gj;by_cases h1:e.ax=1/\Pl.cK e=true
 . rw[zZ0 (not_not_intro h1)];by_cases h2:at_<0\/4096<=at_
   . rw[zZ1 h2];refine(z0J E e w hE hA at_ st h1.1 h1.2 h2).mono ?_;rintro r w' ⟨hr,hg⟩;exact⟨hr,still hg⟩
   . rw[zZ0 h2];by_cases h5:(e.ops.any fun o=>!Pl.bk lo hi o.key)=true
     . rw[zZ1 h5];refine(z0C E e hE hA at_ h h1.1 h1.2 (by omega) (by omega) hl hh (fun o ho=>(hz o ho).1) h5).mono ?_;rintro r w' ⟨hr,hg⟩;exact⟨hr,still hg⟩
     . rw[zZ0 h5];by_cases h3:eX (S e.aw) e.seq=1
       . rw[zZ1 h3];refine(z4G E e hE hA at_ h h1.1 h1.2 (by omega) (by omega) hl hh (fun o ho=>(hz o ho).1) (VA h5) (fun o ho=>(hz o ho).2) hx hn h3).mono ?_;rintro r w' ⟨hr,hg⟩;exact⟨hr,n+1,zZ3 _,hg⟩
       . rw[zZ0 h3];refine(z1M E e hE hA at_ h h1.1 h1.2 (by omega) (by omega) hl hh (fun o ho=>(hz o ho).1) (VA h5) h3).mono ?_;rintro r w' ⟨hr,hg⟩;by_cases h4:eX (S e.aw) e.seq=2
         . rw[zZ1 h4]at hr ⊢;exact⟨hr,still hg⟩
         . rw[zZ0 h4]at hr ⊢;exact⟨hr,still hg⟩
 . rw[zZ1 h1];refine(z1b E e w hE hA at_ st h1).mono ?_;rintro r w' ⟨hr,hg⟩;exact⟨hr,still hg⟩
end
namespace Pl
def jg (D:List Pr)(o:cf)(v:Int):List Pr:=
 if o.ax=1 then jS D ⟨o.key,o.val,v⟩
 else if o.ax=2 then D.eraseP (gB o.key)
 else if o.ax=3 then jS D ⟨o.key,o.val,v⟩
 else D
def zN (D:List Pr)(o:cf):Bool:=
 if o.ax=3 then !((D.find? (gB o.key)).isSome && decide (((D.find? (gB o.key)).getD Pr.none).val.toList=o.old.toList))
 else if o.ax=4 then !decide (((D.find? (gB o.key)).getD Pr.none).eI=o.eI)
 else false
def pS (ops:List cf)(v:Int)(s:List Pr×Int):List Pr×Int:=ops.foldl (fun s o=>(jg s.1 o v,if zN s.1 o=true then 2 else s.2)) s
theorem z1F (ops:List cf)(v:Int)(s:List Pr×Int)(k:Nat)(h:k<ops.length):
    pS (ops.take (k+1)) v s=(jg (pS (ops.take k) v s).1 (bO ops k) v,if zN (pS (ops.take k) v s).1 (bO ops k)=true then 2 else(pS (ops.take k) v s).2):=by
 unfold pS;rw[zX1 h,BL ops k h,xX6];rfl
theorem z4W (D:List Pr)(o:cf)(v:Int):(jg D o v).length<=D.length+1:=by
 unfold jg;split
 . exact y9C _ _
 . split
   . have:=List.length_eraseP_le (p:=gB o.key) (l:=D);omega
   . split
     . exact y9C _ _
     . omega
theorem z3j (ops:List cf)(v:Int):∀s:List Pr×Int,(pS ops v s).1.length<=s.1.length+ops.length:=by
 induction ops with
 | nil=>intro s;simp[pS]
 | cons o os ih=>
  intro s;have h1:=ih (jg s.1 o v,if zN s.1 o=true then 2 else s.2);have h2:=z4W s.1 o v;show(pS os v _).1.length<=_;simp only[zQ6];dsimp only at h1;omega
theorem z3n (ops:List cf)(v:Int):∀D,(pS ops v (D,2)).2=2:=by
 induction ops with
 | nil=>intro D;rfl
 | cons o os ih=>
  intro D;show(pS os v (_,if zN D o=true then 2 else 2)).2=2;rw[ite_self];exact ih _
theorem Nz {P D:List Pr}(h:Tt P D){o:cf}(hr:lf o=true){v:Int}(h1:1<=v)(h2:v<=4096):
    zN D o=!(cP P o v).2/\((cP P o v).2=true->Tt (cP P o v).1 (jg D o v)):=by
 have hg:=h.get o.key;unfold lf at hr;by_cases hk:aT o.key≠0
 . rw[zZ1 hk]at hr;cases hr
 . rw[zZ0 hk]at hr;have qN:aT o.key=0:=(by simpa using hk);unfold cP zN jg;by_cases k1:o.ax=1
   . rw[zZ1 k1]at hr;have hv:=wQ3 hr;have hp:eM ⟨o.key,o.val,v⟩=0:=by
      unfold eM;rw[zZ0 hk];dsimp only;rw[zZ0 (by omega),zZ0 (by omega)]
     rw[zZ0 (by omega),zZ0 (fun q=>by omega),zZ0 (by omega),zZ0 (by omega),zZ0 (by omega),zZ1 k1];exact⟨by simp[hp],fun _=>h.put _⟩
   . rw[zZ0 k1]at hr;by_cases k2:o.ax=2
     . rw[zZ1 k2,zZ0 (by omega),zZ0 (by omega),zZ0 (by omega),zZ1 k2];exact⟨rfl,fun _=>h.del _⟩
     . rw[zZ0 k2]at hr;by_cases k3:o.ax=3
       . rw[zZ1 k3]at hr;simp only[zZ7,wZ2]at hr;have hp:eM ⟨o.key,o.val,v⟩=0:=by
          unfold eM;rw[zZ0 hk];dsimp only;rw[zZ0 (by omega),zZ0 (by omega)]
         rw[zZ0 k2,zZ1 k3,zZ0 k1,zZ0 k2,zZ1 k3,hg];by_cases q:(D.find? (gB o.key)).isSome=false\/((D.find? (gB o.key)).getD Pr.none).val.toList≠o.old.toList
         . rw[zZ1 ⟨k3,q⟩];refine⟨?_,fun h=>by cases h⟩;rcases q with q | q
           . rw[q];rfl
           . rw[wZ6 q,xZ7]
         . rw[zZ0 (fun hh=>q hh.2),zZ0 (by omega)];refine⟨?_,fun _=>h.put _⟩;have q1:(D.find? (gB o.key)).isSome=true:=by
            cases hs:(D.find? (gB o.key)).isSome with
            | true=>rfl
            | false=>exact absurd (.inl hs) q
           have q2:((D.find? (gB o.key)).getD Pr.none).val.toList=o.old.toList:=Classical.byContradiction fun hn=>q (.inr hn);rw[q1,wZ5 q2,hp];rfl
       . rw[zZ0 k3]at hr;by_cases k4:o.ax=4
         . rw[zZ0 k2,zZ0 k3,zZ1 k4,zZ0 k1,zZ0 k2,zZ0 k3,zZ0 (show ¬(o.ax=3/\((fl P o.key).isSome=false\/((fl P o.key).getD Pr.none).val.toList≠o.old.toList))from fun q=>k3 q.1),zZ1 k4,hg];exact⟨rfl,fun _=>h⟩
         . rw[zZ0 k4]at hr;cases hr
theorem I8 (v:Int)(h1:1<=v)(h2:v<=4096):∀(ops:List cf) {P D:List Pr},Tt P D->(∀o∈ops,lf o=true)->
    ((lJ ops v P).2=true->(pS ops v (D,1)).2=1/\Tt (lJ ops v P).1 (pS ops v (D,1)).1)/\((lJ ops v P).2=false->(pS ops v (D,1)).2=2):=by
 intro ops;induction ops with
 | nil=>intro P D h _;exact⟨fun _=>⟨rfl,h⟩,(fun h=>by cases h)⟩
 | cons o os ih=>
  intro P D h hr;obtain⟨a,b⟩:=Nz h (hr o (by simp)) h1 h2;rw[IZ];show(_->(pS os v (jg D o v,if zN D o=true then 2 else 1)).2=1/\Tt _ (pS os v (jg D o v,if zN D o=true then 2 else 1)).1)/\(_->(pS os v (jg D o v,if zN D o=true then 2 else 1)).2=2);cases hs:(cP P o v).2 with
  | true=>
   rw[hs]at a b;rw[a];simp only[if_true,Bool.not_true,yK4,if_false];exact ih (b rfl) fun o ho=>hr o (by simp[ho])
  | false=>
   rw[hs]at a;rw[a];simp only[yK4,if_false,Bool.not_false,if_true];exact⟨(fun h=>by cases h),fun _=>z3n os v _⟩
theorem z0N {e:En}(hk:e.ax=1)(hr:cK e=true):∀o∈e.ops,lf o=true:=by
 intro o ho;unfold cK at hr;rw[zZ1 hk]at hr;unfold mH at hr;simp only[zZ7]at hr;have h:=hr.2;rw[yJ0,yX9]at h;have:=h o ho;simpa using this
def RN (D:List Pr)(ops:List cf)(at_:Int):List Pr:=if(pS ops (at_+1) (D,1)).2=1 then(pS ops (at_+1) (D,1)).1 else D
theorem zO {P D:List Pr}(h:Tt P D){e:En}(hk:e.ax=1)(hr:cK e=true){at_:Int}(h0:0<=at_)(h1:at_<4096):
    (pS e.ops (at_+1) (D,1)).2=fq P e.ops at_/\Tt (ju P e.ops at_) (RN D e.ops at_):=by
 obtain⟨a,b⟩:=I8 (at_+1) (by omega) (by omega) e.ops h (z0N hk hr);unfold fq ju RN;cases hs:(lJ e.ops (at_+1) P).2 with
 | true=>
  obtain⟨c,d⟩:=a hs;rw[c,zZ1 rfl,zZ1 rfl,zZ1 rfl];exact⟨rfl,d⟩
 | false=>
  have c:=b hs;rw[c,zZ0 (by decide),zZ0 (by decide),zZ0 (by decide)];exact⟨rfl,h⟩
end Pl
end Go.Proofs.YtgegogoanbamfaaGreatDoor
