/- Part 5. -/
import Derived.Test.YtgegogoanbamfaaGreatDoorFinAuditPlaysQ1
import Derived.Shelf.GgSortFunc.Insertion
import Derived.Stop.LaidErr
set_option linter.unusedVariables false
set_option linter.unusedSectionVars false
set_option linter.unusedSimpArgs false
set_option maxRecDepth 100000
set_option maxHeartbeats 16000000
namespace Go.Proofs.YtgegogoanbamfaaGreatDoor
namespace Pl
end Pl
open Pl Go.Proofs.Tryz Go.RowKit Go.Maps
attribute [local go_sem] Oper.semAt_some
section
open Go.Shelf Go.Lib Go.Sort
def dY (w w':World):Prop:=ae w w'/\w.drawn<=w'.drawn
theorem dY.refl (w:World):dY w w:=⟨ae.rf w,zZ3 _⟩
theorem dY.trans {a b c:World}(h:dY a b)(k:dY b c):dY a c:=⟨h.1.trans k.1,zZ6 h.2 k.2⟩
theorem dY.alloc {a b:World}(h:dY a b)(o:Obj):dY a (b.alloc o):=⟨h.1.alloc o,h.2⟩
theorem dY.drew {a b:World}(h:dY a b):dY a b.drew:=⟨h.1.drew,Nat.le_succ_of_le h.2⟩
theorem dY.iter {a b:World}(h:dY a b)(s:ByteArray)(p:Nat):dY a (b.iter s p):=⟨h.1.iter s p,h.2⟩
theorem dY.grown {w w':World}(h:dY w w'):∃q os,w'=grow (w.drewN q) os:=by
 obtain⟨⟨h1,h2,h3,h4,h5⟩,h6⟩:=h;refine⟨w'.drawn - w.drawn,w'.heap.extract w.heap.size w'.heap.size,?_⟩;obtain⟨hp,tp,dr,os,ou⟩:=w';obtain⟨UU,tp0,dr0,os0,ou0⟩:=w;dsimp only at *;subst h1 h2 h3;unfold grow World.drewN;dsimp only;have e1:dr0+(dr - dr0)=dr:=by omega
 have e2:UU++hp.extract UU.size hp.size=hp:=by
  apply Array.ext_getElem?;intro i;rw[Array.getElem?_append];by_cases hi:i<UU.size
  . rw[zZ1 hi,h5 i hi]
  . rw[zZ0 hi,Array.getElem?_extract];by_cases h7:i<hp.size
    . rw[zZ1 (by omega)];congr 1;omega
    . rw[zZ0 (by omega),Array.getElem?_eq_none (by omega)]
 rw[e1,e2]
theorem z0t (s:ByteArray)(l:List Nat)(w:World)(hs:s.size<=70368744177664)(hr:Pl.bJ s.data.toList=some l):
    Calls prog 149 #[.string s] w fun e w'=>∃v,e=.returned v/\Hd w' v l/\dY w w':=by
 have hq:Pl.right s=true:=by unfold Pl.right;rw[hr];rfl
 have hf:Conv.runesFrom s s.size 0 #[]=(l.map fun c=>Value.int .i32 (c:Nat)).toArray:=by
  rw[YG s s.size 0 l #[] (by omega) hr];simp
 have hcv:=fun W=>run_runes_of_string (P:=prog) W 9 255 21 s underlying9 underlying255 underlying21 (by have:=size_runesFrom s s.size 0 #[];simp at this;omega);rw[hf]at hcv;have HF:=af hf;have HR:=af hr;clear hf hr;go_in;go_wp2_with (go_at_call 141;refine(sW _ _ (by omega)).mono ?_;rintro e w' ⟨rfl,p,rfl⟩);go_ret;refine⟨_,rfl,⟨_,_,rfl,fun i hi=>?_⟩,(((dY.refl w).iter _ _).alloc _).drew⟩;show(World.alloc _ _).cell? _=_;rw[wQ1 _ _ _ _ _ _ (wZ0 _ _),Array.getElem?_append_left (by simpa using hi)];simp[hi]
theorem y9v (a b:ByteArray)(w:World)(ha:a.size<=70368744177664)(hb:b.size<=70368744177664):
    Calls prog 127 #[.string a,.string b] w fun e w'=>e=.returned (.int .i64 (Pl.cU a b))/\dY w w':=by
 cases hr:Pl.bJ a.data.toList with
 | none=>
  have hq:Pl.right a=false:=by unfold Pl.right;rw[hr];rfl
  have hc:Pl.cU a b=0:=by unfold Pl.cU;rw[hr]
  have HC:=af hc;clear hc hr;go_in;go_wp2_with (go_at_call 141;refine(sW _ _ (by omega)).mono ?_;rintro e w' ⟨rfl,p,rfl⟩);go_ret;exact⟨jl HC.symm,(dY.refl w).iter _ _⟩
 | some x=>
  have hq:Pl.right a=true:=by unfold Pl.right;rw[hr];rfl
  cases hr2:Pl.bJ b.data.toList with
  | none=>
   have Fj:Pl.right b=false:=(by unfold Pl.right;rw[hr2];rfl);have hc:Pl.cU a b=0:=(by unfold Pl.cU;rw[hr,hr2]);have HC:=af hc;clear hc hr hr2;go_in;go_wp2_with fail;refine(sW a _ (by omega)).mono ?_;rintro e w' ⟨rfl,p,rfl⟩;go_wp2_with fail;refine(sW b _ (by omega)).mono ?_;rintro e w' ⟨rfl,q,rfl⟩;go_wp2_with fail;go_ret;exact⟨jl HC.symm,((dY.refl w).iter _ _).iter _ _⟩
  | some y=>
   have Fj:Pl.right b=true:=(by unfold Pl.right;rw[hr2];rfl);have hc:Pl.cU a b=ij x y:=(by unfold Pl.cU;rw[hr,hr2]);have hx:x.length<=a.size:=(by simpa using Hc _ _ x (zZ3 _) hr);have hy:y.length<=b.size:=(by simpa using Hc _ _ y (zZ3 _) hr2);have HC:=af hc;have HR:=af hr;have jf:=af hr2;clear hc hr hr2;go_in;go_wp2_with fail;refine(sW a _ (by omega)).mono ?_;rintro e w' ⟨rfl,p,rfl⟩;go_wp2_with fail;refine(sW b _ (by omega)).mono ?_;rintro e w' ⟨rfl,q,rfl⟩;go_wp2_with fail;refine(z0t a x _ ha HR).mono ?_;rintro e w1 ⟨v1,rfl,L6,aR⟩;go_wp2_with fail;refine(z0t b y _ hb jf).mono ?_;rintro e w2 ⟨v2,rfl,hv2,aP⟩;go_wp2_with fail;refine(YI v1 v2 x y _ (L6.ah aP.1) hv2 (by omega)).mono ?_;rintro e w' ⟨rfl,rfl⟩;go_wp2_with fail;go_ret;exact⟨jl HC.symm,(((dY.refl w).iter _ _).iter _ _).trans (aR.trans aP)⟩
end
theorem y9Z:(prog.info? 62).map (fun i=>(i.zero,i.size,i.bytes))=some (some (.agg #[.string ⟨#[]⟩,.string ⟨#[]⟩,.int .i64 0]),3,40):=by kernel_rfl
theorem Df:(Value.cells (.agg #[.string ⟨#[]⟩,.string ⟨#[]⟩,.int .i64 0])).size=3:=by kernel_rfl
theorem z6q (gb off m c:Nat)(w:World):(binOp .eql 66 (.slice (some ⟨gb,off,none⟩) m c) (.slice none 0 0)).run prog w=.ok (.bool false) w:=by kernel_rfl
theorem zk (w:World):(binOp .eql 66 (.slice none 0 0) (.slice none 0 0)).run prog w=.ok (.bool true) w:=by kernel_rfl
theorem z4O (w:World)(gb off m c:Nat)(hm:0<m)(dI:m<=1000000)(news:List Value)(hl:news.length=m*3)(hnews:∀j u,news[j]? =some u->w.cell? ⟨gb,off+j,none⟩=some u)(h1:∀u∈news,u.oneCell'=true):
    Calls prog 95 #[.slice (some ⟨gb,off,none⟩) m c] w fun e w'=>∃g cap,e=.returned (.slice (some ⟨g,0,none⟩) m cap)/\w'.ownsRow w.heap.size 62 3 (.slice (some ⟨g,0,none⟩) m cap) m news/\ae w w':=by
 obtain⟨i0,dA,hz0,hz1,hz2⟩:=wZ8 y9Z;have had:gb<w.heap.size:=by
  have h0:0<news.length:=by omega
  have h2:=World.block_lt_of_cell? _ _ (hnews 0 news[0] (zQ5 h0));exact h2
 have HN:Hid (∀(t:TypeId) j u,news[j]? =some u->(w.alloc (.cells #[] t)).cell? ⟨gb,off+j,none⟩=some u):=fun t j u hj=>by
  have:=hnews j u hj;rw[<-this];exact((ae.rf w).alloc _).below.cell (World.block_lt_of_cell? _ _ this)
 have HL:=af hl;have H1:=af h1;have HO:=af (fun(t:TypeId) (h:t=62)=>show(w.alloc (.cells #[] t)).ownsRow w.heap.size 62 3 (.slice (some ⟨w.heap.size,0,none⟩) 0 0) 0 []by
  subst h;exact oI (cur:=[]) (zZ3 _) (wZ0 w _) (zZ3 _) (by decide) rfl rfl)
 clear hnews hl h1;have Fv:=z6q gb off m c;go_in;go_wp2_with (at_builtin;refine wQ2 _ rfl _ _ 66 rfl w.heap.size 62 i0 _ 3 40 underlying66 dA hz0 hz1 hz2 Df (by omega) (.slice (some ⟨w.heap.size,0,none⟩) 0 0) 0 [] rfl (HO.out _ rfl) ⟨gb,off,none⟩ m c news rfl HL.out (fun j u hj=>by rw[Addr.add_lit];exact HN.out _ j u hj) H1.out (by omega) (by unfold maxLen;omega) (by omega) (by simp) _ rfl ?_);intro g cap w1 aH bw hat az;have HO:=af aH;have HG:=af bw;clear aH bw hat;go_wp2_with fail;go_ret;refine⟨g,cap,by simp,by simpa using HO.out,?_⟩;refine(((ae.rf w).alloc _).only (fun j=>some j=Value.ownBlock (.slice (some ⟨w.heap.size,0,none⟩) 0 0))).then (ar.ay HG) |>.ah ?_;intro j hj;have:j=w.heap.size:=Option.some.inj hj;omega
theorem z0p (w:World):Calls prog 95 #[.slice none 0 0] w fun e w'=>e=.returned (.slice none 0 0)/\ae w w':=by
 have Fv:=zk;go_in;go_wp2_with fail;go_ret;exact⟨rfl,ae.rf w⟩
theorem y8y (w:World)(gb off c:Nat):Calls prog 95 #[.slice (some ⟨gb,off,none⟩) 0 c] w fun e w'=>e=.returned (.slice (some ⟨w.heap.size,0,none⟩) 0 0)/\w'.ownsRow w.heap.size 62 3 (.slice (some ⟨w.heap.size,0,none⟩) 0 0) 0 []/\ae w w':=by
 obtain⟨i0,dA,hz0,hz1,hz2⟩:=wZ8 y9Z;have HO:=af (fun(t:TypeId) (h:t=62)=>show(w.alloc (.cells #[] t)).ownsRow w.heap.size 62 3 (.slice (some ⟨w.heap.size,0,none⟩) 0 0) 0 []by
  subst h;exact oI (cur:=[]) (zZ3 _) (wZ0 w _) (zZ3 _) (by decide) rfl rfl)
 have HG:=af (fun(t:TypeId)=>(ae.rf w).alloc (.cells #[] t));have hS:∀W:World,Src prog i0.size 66 (.slice (some ⟨gb,off,none⟩) 0 c) 0 [] W:=fun W=>Src.ofSlice W underlying66 ⟨gb,off,none⟩ 0 c [] (by simp) (fun j u hj=>by simp at hj) (fun u hu=>by cases hu);have HS:=af hS;clear hS;have Fv:=z6q gb off 0 c;go_in;go_wp2_with (at_builtin;refine Lib.wpList_append_run _ rfl _ _ _ _ rfl _ _ rfl rfl _ _ (run_append_nothing _ 66 66 _ 62 i0 underlying66 dA _ 0 0 (zZ3 _) _ (HS.out _)) ?_);go_wp2_with fail;go_ret;exact⟨rfl,HO _ rfl,HG _⟩
theorem z6F:(prog.info? 62).map (fun i=>(i.zero,i.size,i.bytes))=some (some (.agg #[.string ⟨#[]⟩,.string ⟨#[]⟩,.int .i64 0]),3,40):=by kernel_rfl
theorem z6l (w:World):(zeroValue 62).run prog w=.ok (.agg #[.string ⟨#[]⟩,.string ⟨#[]⟩,.int .i64 0]) w:=by kernel_rfl
theorem z5R:(Value.cells (.agg #[.string ⟨#[]⟩,.string ⟨#[]⟩,.int .i64 0])).size=3:=by kernel_rfl
theorem Dv:∀v∈(Value.cells (.agg #[.string ⟨#[]⟩,.string ⟨#[]⟩,.int .i64 0])).toList,v.oneCell'=true:=by
 have h:(Value.cells (.agg #[.string ⟨#[]⟩,.string ⟨#[]⟩,.int .i64 0])).toList.all (fun v=>v.oneCell')=true:=by kernel_rfl
 exact fun v hv=>zK0.1 h v hv
theorem Dw (w:World)(B q i:Nat)(a0:Option Addr)(c0:Nat)(xs:List Value)(h:w.ownsRow B 62 3 (.slice a0 (q+1) c0) (q+1) xs)(h1:∀u∈xs,u.oneCell'=true)(hi:i<=q)(dI:q<=1000000):
    Calls prog 154 #[.slice a0 (q+1) c0,.int .i64 i,.int .i64 ((i:Int)+1)] w fun e w'=>e=.returned (.slice a0 q c0)/\w'.ownsRow B 62 3 (.slice a0 q c0) q (xs.take (i*3)++xs.drop ((i+1)*3))/\w.grownBy w' (Value.ownBlock (.slice a0 (q+1) c0)):=by
 obtain⟨i0,dA,hz0,hzs,hzb⟩:=wZ8 z6F;obtain⟨b,c,cur,e,Hi,hb,BN,hc,fP,hx⟩:=Fp h (by omega);cases e;subst hx;obtain⟨D,hD⟩:∃D,D=(cur.take ((q+1)*3)).drop ((i+1)*3):=⟨_,rfl⟩
 have hDl:D.length=(q - i)*3:=by rw[hD];simp;omega
 have hrun:∀ty a sc,(D≠[]->a=⟨b,(i+1)*3,none⟩)->(Builtin.append_ #[66,66] ty #[.slice (some ⟨b,0,none⟩) i c0,.slice (some a) (q - i) sc]).run prog w.drew=.ok (.slice (some ⟨b,0,none⟩) q c0) (w.drew.setRow b (dV cur (i*3) D).toArray):=fun ty a sc ha=>by
  have h:=run_append_room (P:=prog) w.drew 66 ty 62 i0 underlying66 dA b i c0 cur.toArray hb a (q - i) sc D (by rw[hzs];exact hDl)
   (fun j u hj=>by
    have hne:D≠[]:=fun e=>by rw[e]at hj;cases hj
    rw[ha hne,Addr.add_lit];show w.cell? _=_;rw[gw hb];rw[hD,zK7,zX5]at hj;split at hj
    . exact hj
    . cases hj)
   (fun u hu=>h1 u (by rw[hD]at hu;exact zK6 hu)) (by omega) (by rw[hzs,hDl];simp;omega)
  rw[show i+(q - i)=q by omega,hzs]at h;rw[h];simp[dV]
 obtain⟨W1,hW1⟩:∃W1,W1=w.drew.setRow b (dV cur (i*3) D).toArray:=⟨_,rfl⟩
 have jF:(dV cur (i*3) D).length=c0*3:=by rw[wO _ _ _ (by rw[hDl];omega),fP]
 have s9:W1.heap[b]? =some (.cells (dV cur (i*3) D).toArray 62 (0,0)):=by rw[hW1];exact setRow_heap w.drew b _ _ _ _ hb
 rw[<-hW1]at hrun;have yj:∀ty sc,(Builtin.clear_ #[66] ty #[.slice (some ⟨b,q*3,none⟩) 1 sc]).run prog W1=.ok (.tuple #[]) (W1.setRow b (dV (dV cur (i*3) D) (q*3) (Builtin.zeroCells (Value.cells (.agg #[.string ⟨#[]⟩,.string ⟨#[]⟩,.int .i64 0])) 1).toList).toArray):=fun ty sc=>
  YN W1 66 62 ty _ 3 underlying66 z6l z5R Dv b (q*3) sc _ 62 s9 (by rw[jF];omega)
 obtain⟨Z,hZ⟩:∃Z,Z=(Builtin.zeroCells (Value.cells (.agg #[.string ⟨#[]⟩,.string ⟨#[]⟩,.int .i64 0])) 1).toList:=⟨_,rfl⟩
 have Me:Z.length=3:=by rw[hZ,yZ7,size_zeroCells,z5R]
 rw[<-hZ]at yj;obtain⟨W2,hW2⟩:∃W2,W2=W1.setRow b (dV (dV cur (i*3) D) (q*3) Z).toArray:=⟨_,rfl⟩
 rw[<-hW2]at yj;have cE:Hid (W2.ownsRow B 62 3 (.slice (some ⟨b,0,none⟩) q c0) q ((cur.take ((q+1)*3)).take (i*3)++(cur.take ((q+1)*3)).drop ((i+1)*3))/\w.grownBy W2 (some b)):=by
  refine⟨oI (cur:=dV (dV cur (i*3) D) (q*3) Z) Hi (by rw[hW2];exact setRow_heap _ _ _ _ _ _ s9) (by omega) hc (by rw[wO _ _ _ (by rw[Me,jF];omega),jF]) ?_,?_⟩
  . rw[YM _ _ _ _ (zZ3 _) (by rw[jF];omega),show q*3=i*3+D.length by rw[hDl];omega,KF _ _ _ (by omega),hD,xZ0];congr 2;omega
  . have g1:w.grownBy W1 (some b):=(by rw[hW1];exact(show w.grownBy w.drew (some b)from⟨rfl,rfl,rfl,zZ3 _,fun _ _ _=>rfl⟩).trans (Fm w.drew b _));rw[hW2];exact g1.trans (Fm W1 b _)
 have eH:=af hrun;have hDn:c0=i+1->D=[]:=fun e=>zX2 (by rw[hDl];omega);have wQ:=af hDn;have z1:((i:Int)==(i:Int)+1)=false:=wZ3.2 (by omega);have z2:(0:Int)<=(i:Int)+1:=by omega
 have z3:((i:Int)+1).toNat=i+1:=by omega
 have z4:(i:Int)+1<=(q:Int)+1:=by omega
 have z5:(i:Int)<=(i:Int)+1:=by omega
 have z6:q+1<=c0:=BN;have z7:¬(c0=q):=by omega
 have z8:¬(c0=i):=by omega
 have z9:(i:Int)<=(c0:Int):=by omega
 have Mb:i<=q+1:=by omega
 have Tk:i<=c0:=by omega
 have z12:¬((i:Int)=(i:Int)+1):=by omega
 clear hrun hDn hDl hD hW1 jF s9 hZ Me hW2 hb fP h h1 BN;by_cases lg:c0=i+1
 . obtain rfl:i=q:=(by omega);subst lg;have mG:∀ty sc,(Builtin.append_ #[66,66] ty #[.slice (some ⟨b,0,none⟩) i (i+1),.slice (some ⟨b,0,none⟩) 0 sc]).run prog w.drew=.ok (.slice (some ⟨b,0,none⟩) i (i+1)) W1:=fun ty sc=>by
    have:=eH ty ⟨b,0,none⟩ sc (fun hne=>absurd (wQ rfl) hne);rwa[Nat.sub_self]at this
   clear eH wQ;go_in;go_wp2_with fail;go_region_law (refine Qv rfl (.tmp 22) (.tmp 25) 66 66 rfl (.slice (some ⟨b,0,none⟩) i (i+1)) (.slice (some ⟨b,0,none⟩) 0 0) (by simp[Act.eval,Act.put]) (by simp[Act.eval,Act.put]) (mG _ _) ?_);go_wp2_with fail;go_ret;exact⟨rfl,cE⟩
 . have mG:∀ty sc,(Builtin.append_ #[66,66] ty #[.slice (some ⟨b,0,none⟩) i c0,.slice (some ⟨b,(i+1)*3,none⟩) (q - i) sc]).run prog w.drew=.ok (.slice (some ⟨b,0,none⟩) q c0) W1:=fun ty sc=>eH ty ⟨b,(i+1)*3,none⟩ sc (fun _=>rfl);clear eH wQ;go_in;go_wp2_with fail;go_region_law (refine Qv rfl (.tmp 22) (.tmp 25) 66 66 rfl (.slice (some ⟨b,0,none⟩) i c0) (.slice (some ⟨b,(i+1)*3,none⟩) (q - i) (c0 - (i+1))) (by simp[Act.eval,Act.put]) (by simp[Act.eval,Act.put]) (mG _ _) ?_);go_wp2_with fail;go_ret;exact⟨rfl,cE⟩
theorem z3p {P:Program}{W:World}{nm:String}{ti tp te ts:TypeId}{ms:Array (String×TypeId)}{f:Field}
    (hi:P.underlying ti=some (.interface ms)) (aJ:∀u,P.typeName? 3 u=some nm->u=tp)
    (hp:P.underlying tp=some (.pointer te)) (he:P.underlying te=some (.struct #[f])) (hft:f.type=ts) (hfo:f.offset=0) (hs:P.underlying ts=some .string) (hc:P.cellsOf te=1) (hcs:P.cellsOf ts=1):
    ∀(L:List (String×DataW Unit)) (gs:List Nat) (ps:List MemPlace),(∀x∈L,∃text,x.2=.iface nm (.ptr (.agg [.lit (.string text)])))->L.map (fun x=>P.globalNamed x.1)=gs.map some->
     (∀g∈gs,(P.globals[g]?).map (·.type)=some ti)->DataW.LaidVars P W L ps->ps.Nodup->
     (∀b off,MemPlace.cell b off∈ps->(∃c t,W.heap[b]? =some (.cells c t (0,0)))/\∀u v,W.cell? ⟨b,off,none⟩=some (.iface u v)->Value.okWide P W .any 0 u v)->
     ∃vD:List Addr,vD.length=gs.length/\(∀(i g:Nat) (a:Addr),gs[i]? =some g->vD[i]? =some a->W.cell? ⟨g,0,none⟩=some (.iface tp (.pointer (some a)))/\∃c t,W.heap[a.block]? =some (.cells c t (0,0)))/\
      (∀a∈vD,MemPlace.cell a.block a.off∈ps)/\vD.Nodup:=by
 intro L;induction L with
 | nil=>
  intro gs ps _ hg _ _ _ _;cases gs with
  | nil=>exact⟨[],rfl,by simp,by simp,List.nodup_nil⟩
  | cons g r=>simp at hg
 | cons x L ih=>
  intro gs ps qT hg ht hL qD sk;obtain⟨n,d⟩:=x;cases gs with
  | nil=>simp at hg
  | cons g gs=>
   simp only[zJ5,List.cons.injEq]at hg;obtain⟨hg0,aR⟩:=hg;obtain⟨g0,t0,cs0,f0,p0,q0,KA,Yl,hv0,hd0,Qn,rfl⟩:=hL;obtain rfl:=Option.some.inj (hg0.symm.trans KA);obtain rfl:=Option.some.inj ((ht g (by simp)).symm.trans Yl);obtain⟨text,GY⟩:=qT (n,d) (by simp);simp only at GY;subst GY;obtain⟨l0⟩:=cs0;have ok0:∀u v,l0=[.iface u v]->Value.okWide P W .any 0 u v:=fun u v e=>by
    subst e;exact(sk g 0 (by simp[MemPlace.row])).2 u v (by simpa using World.var?_cell KA hv0 0)
   obtain⟨a0,s0,rfl,hc0,hs0,hz0,rfl⟩:=errorString_of_trod hi aJ hp he hft hfo hs hc hcs hd0 ok0;have Ym:q0.Nodup:=List.Nodup.sublist (List.sublist_append_right _ _) qD;obtain⟨vD,h1,h2,h3,h4⟩:=ih gs q0 (fun x hx=>qT x (zJ9 _ hx)) aR (fun g' oJ=>ht g' (zJ9 _ oJ)) Qn Ym
    (fun b off hm=>sk b off (List.mem_append_right _ hm))
   refine⟨a0::vD,by simp[h1],?_,?_,?_⟩
   . intro i g' a Yn hai;cases i with
     | zero=>
      simp at Yn hai;subst Yn hai;exact⟨by simpa using World.var?_cell KA hv0 0,(sk a0.block a0.off (by simp[MemPlace.row])).1⟩
     | succ i=>exact h2 i g' a (by simpa using Yn) (by simpa using hai)
   . intro a ha;rcases zX0.1 ha with rfl | ha
     . simp[MemPlace.row]
     . exact List.mem_append_right _ (h3 a ha)
   . refine List.nodup_cons.2 ⟨fun hm=>?_,h4⟩;have hd:=(List.nodup_append.1 qD).2.2 (MemPlace.cell a0.block a0.off) (by simp[MemPlace.row]) (MemPlace.cell a0.block a0.off) (h3 a0 hm);exact hd rfl
theorem z0r: "*" ++ "errors.errorString" = "*errors.errorString" :=by decide+kernel
theorem z4R (u:TypeId)(h:prog.typeName? 3 u=some "*errors.errorString"):u=302:=
 typeName_ptr_named (nm:= "errors.errorString") (by rw[z0r];kernel_rfl) (by kernel_rfl) (by decide) u (by rw[z0r];exact h)
theorem y5D:prog.cellsOf 331=1:=by kernel_rfl
theorem z0A:prog.cellsOf 9=1:=by kernel_rfl
theorem y9G (L:List (String×DataW Unit))(ks:List Nat)(S:Nat->Bool)(hS:∀k,S k=true->k∈ks)(h0:S 0=false){W:World}
    (qT:∀x∈L,∃text,x.2=.iface "*errors.errorString" (.ptr (.agg [.lit (.string text)]))) (hg:L.map (fun x=>prog.globalNamed x.1)=(ks.map sX).map some)
    (ht:∀g∈ks.map sX,(prog.globals[g]?).map (·.type)=some 42) (h:laidMet prog L W):∃E,bz S E W:=by
 obtain⟨ps,hL,qD,sk⟩:=h;obtain⟨vD,h1,h2,_,h4⟩:=z3p (P:=prog) (W:=W) underlying42 z4R underlying302 underlying331 rfl rfl underlying9 y5D z0A L (ks.map sX) ps qT hg ht hL qD sk;have get:∀k,k∈ks->∃a,vD[ks.idxOf k]? =some a/\(ks.map sX)[ks.idxOf k]? =some (sX k)/\vD.getD (ks.idxOf k) default=a:=by
  intro k hk;have az:ks.idxOf k<ks.length:=xJ1.2 hk;have hl:ks.idxOf k<vD.length:=by rw[h1];simpa using az
  refine⟨vD[ks.idxOf k],zQ5 hl,?_,?_⟩
  . rw[yZ3,zQ5 az,List.getElem_idxOf az];rfl
  . rw[yX1,zQ5 hl];rfl
 refine⟨fun k=>vD.getD (ks.idxOf k) default,h0,?_,?_,?_⟩
 . intro k hk;obtain⟨a,ha,Yo,e⟩:=get k (hS k hk);rw[e];exact(h2 _ _ _ Yo ha).1
 . intro k hk;obtain⟨a,ha,Yo,e⟩:=get k (hS k hk);rw[e];exact(h2 _ _ _ Yo ha).2
 . intro j k hj hk hne;obtain⟨a,ha,_,e⟩:=get j (hS j hj);obtain⟨b,hb,_,e'⟩:=get k (hS k hk);show vD.getD (ks.idxOf j) default≠vD.getD (ks.idxOf k) default;rw[e,e'];rintro rfl;obtain⟨fC,g1⟩:=zQ9.1 ha;obtain⟨hl2,g2⟩:=zQ9.1 hb;have hi:=zJ4.1 h4;have lQ:ks.idxOf j=ks.idxOf k:=by
    refine Classical.byContradiction fun hn=>?_;rcases Nat.lt_or_gt_of_ne hn with kI | kI
    . exact hi _ _ fC hl2 kI (g1.trans g2.symm)
    . exact hi _ _ hl2 fC kI (g2.trans g1.symm)
   have hj':ks.idxOf j<ks.length:=xJ1.2 (hS j hj);have nN:ks.idxOf k<ks.length:=xJ1.2 (hS k hk);have e1:=List.getElem_idxOf hj';have e2:=List.getElem_idxOf nN;simp only[lQ]at e1;exact hne (e1.symm.trans e2)
end Go.Proofs.YtgegogoanbamfaaGreatDoor
