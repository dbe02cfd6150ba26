/- Part 3. -/
import Derived.Test.YtgegogoanbamfaaGreatDoorFinAuditPlaysQ1
set_option linter.unusedVariables false
set_option linter.unusedSectionVars false
set_option linter.unusedSimpArgs false
set_option maxRecDepth 100000
set_option maxHeartbeats 16000000
namespace Go.Proofs.YtgegogoanbamfaaGreatDoor
namespace Pl
end Pl
open Pl Go.Proofs.Tryz Go.RowKit Go.Maps
attribute [local go_sem] Oper.semAt_some
theorem Zu:(prog.info? 5).map (fun i=>(i.zero,i.size,i.bytes))=some (some (.int .u8 0),1,1):=by kernel_rfl
theorem MB:(Value.cells (.int .u8 0)).size=1:=by kernel_rfl
theorem FM (gb off m c:Nat)(w:World):(binOp .eql 34 (.slice (some ⟨gb,off,none⟩) m c) (.slice none 0 0)).run prog w=.ok (.bool false) w:=by kernel_rfl
theorem Ic (w:World):(binOp .eql 34 (.slice none 0 0) (.slice none 0 0)).run prog w=.ok (.bool true) w:=by kernel_rfl
theorem CN (w:World)(gb off m c:Nat)(hm:0<m)(dI:m<=1000000)(news:List Value)(hl:news.length=m*1)(hnews:∀j u,news[j]? =some u->w.cell? ⟨gb,off+j,none⟩=some u)(h1:∀u∈news,u.oneCell'=true):
    Calls prog 124 #[.slice (some ⟨gb,off,none⟩) m c] w fun e w'=>∃g cap,e=.returned (.slice (some ⟨g,0,none⟩) m cap)/\w'.ownsRow w.heap.size 5 1 (.slice (some ⟨g,0,none⟩) m cap) m news/\ae w w':=by
 obtain⟨i0,dA,hz0,hz1,hz2⟩:=wZ8 Zu;have had:gb<w.heap.size:=by
  have h0:0<news.length:=by omega
  have h2:=World.block_lt_of_cell? _ _ (hnews 0 news[0] (zQ5 h0));exact h2
 have HN:Hid (∀(t:TypeId) j u,news[j]? =some u->(w.alloc (.cells #[] t)).cell? ⟨gb,off+j,none⟩=some u):=fun t j u hj=>by
  have:=hnews j u hj;rw[<-this];exact((ae.rf w).alloc _).below.cell (World.block_lt_of_cell? _ _ this)
 have HL:=af hl;have H1:=af h1;have HO:=af (fun(t:TypeId) (h:t=5)=>show(w.alloc (.cells #[] t)).ownsRow w.heap.size 5 1 (.slice (some ⟨w.heap.size,0,none⟩) 0 0) 0 []by
  subst h;exact oI (cur:=[]) (zZ3 _) (wZ0 w _) (zZ3 _) (by decide) rfl rfl)
 clear hnews hl h1;have Fv:=FM gb off m c;go_in;go_wp2_with (at_builtin;refine wQ2 _ rfl _ _ 34 rfl w.heap.size 5 i0 _ 1 1 underlying34 dA hz0 hz1 hz2 MB (by omega) (.slice (some ⟨w.heap.size,0,none⟩) 0 0) 0 [] rfl (HO.out _ rfl) ⟨gb,off,none⟩ m c news rfl HL.out (fun j u hj=>by rw[Addr.add_lit];exact HN.out _ j u hj) H1.out (by omega) (by unfold maxLen;omega) (by omega) (by simp) _ rfl ?_);intro g cap w1 aH bw hat az;have HO:=af aH;have HG:=af bw;clear aH bw hat;go_wp2_with fail;go_ret;refine⟨g,cap,by simp,by simpa using HO.out,?_⟩;refine(((ae.rf w).alloc _).only (fun j=>some j=Value.ownBlock (.slice (some ⟨w.heap.size,0,none⟩) 0 0))).then (ar.ay HG) |>.ah ?_;intro j hj;have:j=w.heap.size:=Option.some.inj hj;omega
theorem z4g (w:World):Calls prog 124 #[.slice none 0 0] w fun e w'=>e=.returned (.slice none 0 0)/\ae w w':=by
 have Fv:=Ic;go_in;go_wp2_with fail;go_ret;exact⟨rfl,ae.rf w⟩
theorem z1J (w:World)(gb off c:Nat):Calls prog 124 #[.slice (some ⟨gb,off,none⟩) 0 c] w fun e w'=>e=.returned (.slice (some ⟨w.heap.size,0,none⟩) 0 0)/\w'.ownsRow w.heap.size 5 1 (.slice (some ⟨w.heap.size,0,none⟩) 0 0) 0 []/\ae w w':=by
 obtain⟨i0,dA,hz0,hz1,hz2⟩:=wZ8 Zu;have HO:=af (fun(t:TypeId) (h:t=5)=>show(w.alloc (.cells #[] t)).ownsRow w.heap.size 5 1 (.slice (some ⟨w.heap.size,0,none⟩) 0 0) 0 []by
  subst h;exact oI (cur:=[]) (zZ3 _) (wZ0 w _) (zZ3 _) (by decide) rfl rfl)
 have HG:=af (fun(t:TypeId)=>(ae.rf w).alloc (.cells #[] t));have hS:∀W:World,Src prog i0.size 34 (.slice (some ⟨gb,off,none⟩) 0 c) 0 [] W:=fun W=>Src.ofSlice W underlying34 ⟨gb,off,none⟩ 0 c [] (by simp) (fun j u hj=>by simp at hj) (fun u hu=>by cases hu);have HS:=af hS;clear hS;have Fv:=FM gb off 0 c;go_in;go_wp2_with (at_builtin;refine Lib.wpList_append_run _ rfl _ _ _ _ rfl _ _ rfl rfl _ _ (run_append_nothing _ 34 34 _ 5 i0 underlying34 dA _ 0 0 (zZ3 _) _ (HS.out _)) ?_);go_wp2_with fail;go_ret;exact⟨rfl,HO _ rfl,HG _⟩
theorem Rp:(prog.info? 62).map (fun i=>(i.zero,i.size,i.bytes))=some (some (.agg #[.string ⟨#[]⟩,.string ⟨#[]⟩,.int .i64 0]),3,40):=by kernel_rfl
theorem Rq:(prog.info? 62).map (·.size)=some 3:=by kernel_rfl
structure IB (w w':World)(v r:Value)(B n:Nat)(ys:List Value):Prop where
 form:∃g cap,r=.slice (some ⟨g,0,none⟩) n cap/\(v.ownBlock=some g\/w.heap.size<=g)
 row:w'.ownsRow B 62 3 r n ys
 grown:w.grownBy w' v.ownBlock
theorem z1h (w:World)(B:Nat)(v:Value)(n:Nat)(xs:List Value)(a0:Option Addr)(c0:Nat)(hv:v=.slice a0 n c0)(h:w.ownsRow B 62 3 v n xs)(hB:B<=w.heap.size)(vb:Nat)(pv:List Value)(vc:Nat)(dP:w.heap[vb]? =some (.cells pv.toArray 62 (0,0)))(hpl:pv.length=3)(mI:∀u∈pv,u.oneCell'=true)(dI:n<=1000000):
    Calls prog 155 #[.slice a0 n c0,.int .i64 n,.slice (some ⟨vb,0,none⟩) 1 vc] w fun e w'=>∃r,e=.returned r/\IB w w' v r B (n+1) (xs++pv):=by
 subst hv;obtain⟨i0,dA,hz0,hz1,hz2⟩:=wZ8 Rp;have hcell:∀j u,pv[j]? =some u->w.cell? ((⟨vb,0,none⟩:Addr).add j)=some u:=fun j u hj=>by
  rw[Addr.add_lit,zQ2,gw dP];exact hj
 have HC:=af hcell;have HP:=af hpl;have H1:=af mI;have HH:=af h;have hnil:a0=none->n=0/\c0=0:=fun e=>by
  subst e;rcases h.2 with⟨e1,e2⟩ | ⟨_,_,_,e1,_⟩
  . cases e1;exact⟨rfl,rfl⟩
  . cases e1
 clear hcell hpl mI h dP;go_in;rcases HH.out.2 with⟨e1,e2⟩ | ⟨g,cap,cur,e1,e3,e4,e5,e6,e7,e8⟩
 . cases e1;clear e2 hnil;go_wp2_with (at_builtin;refine wQ2 _ rfl _ _ 66 rfl B 62 i0 _ 3 40 underlying66 dA hz0 hz1 hz2 rfl (by omega) _ 0 xs rfl HH.out ⟨vb,0,none⟩ 1 vc pv rfl HP.out HC.out H1.out (by omega) (by unfold maxLen;omega) (by omega) hB _ rfl ?_);intro g cap w1 aH bw hat az;have HO:=af aH;have HG:=af bw;have HA:=af hat;clear aH bw hat;go_wp2_with fail;go_ret;exact⟨_,rfl,⟨g,cap,rfl,by rcases HA.out with h | h;exact .inl h;exact .inr (by omega)⟩,HO,HG⟩
 . cases e1;clear e4 e7 e8 hnil;have qc:c0<=9223372036854775807:=(by unfold maxLen at e6;omega);by_cases hc:c0=n
   . subst hc;go_wp2_with (at_builtin;refine wQ2 _ rfl _ _ 66 rfl B 62 i0 _ 3 40 underlying66 dA hz0 hz1 hz2 rfl (by omega) _ c0 xs rfl HH.out ⟨vb,0,none⟩ 1 vc pv rfl HP.out HC.out H1.out (by omega) (by unfold maxLen;omega) (by omega) hB _ rfl ?_);intro g' cap w1 aH bw hat az;have HO:=af aH;have HG:=af bw;have HA:=af hat;clear aH bw hat;go_wp2_with fail;go_ret;exact⟨_,rfl,⟨g',cap,rfl,by rcases HA.out with h | h;exact .inl h;exact .inr (by omega)⟩,HO,HG⟩
   . go_wp2_with (at_builtin;refine wQ2 _ rfl _ _ 66 rfl B 62 i0 _ 3 40 underlying66 dA hz0 hz1 hz2 rfl (by omega) _ n xs rfl HH.out ⟨vb,0,none⟩ 1 vc pv rfl HP.out HC.out H1.out (by omega) (by unfold maxLen;omega) (by omega) hB _ rfl ?_);intro g' cap w1 aH bw hat az;have HO:=af aH;have HG:=af bw;have HA:=af hat;clear aH bw hat;go_wp2_with fail;go_ret;exact⟨_,rfl,⟨g',cap,rfl,by rcases HA.out with h | h;exact .inl h;exact .inr (by omega)⟩,HO,HG⟩
theorem z3V (w:World):(Go.sizeOf 62).run prog w=.ok 3 w:=by kernel_rfl
theorem y8q (w:World)(B b n c i:Nat)(cur:List Value)(hb:w.heap[b]? =some (.cells cur.toArray 62 (0,0)))(Hi:B<=b)(BN:n<c)(hc:c<=9223372036854775807)(fP:cur.length=c*3)(hi:i<n)(vb:Nat)(pv:List Value)(vc:Nat)(dP:w.heap[vb]? =some (.cells pv.toArray 62 (0,0)))(hpl:pv.length=3)(mI:∀u∈pv,u.oneCell'=true)(h1c:∀u∈cur.take (n*3),u.oneCell'=true)(dI:n<=1000000)(hne:vb≠b):
    Calls prog 155 #[.slice (some ⟨b,0,none⟩) n c,.int .i64 i,.slice (some ⟨vb,0,none⟩) 1 vc] w fun e w'=>∃r,e=.returned r/\IB w w' (.slice (some ⟨b,0,none⟩) n c) r B (n+1) ((cur.take (n*3)).take (i*3)++pv++(cur.take (n*3)).drop (i*3)):=by
 have hcell:∀j u,pv[j]? =some u->w.cell? ((⟨vb,0,none⟩:Addr).add j)=some u:=fun j u hj=>by
  rw[Addr.add_lit,zQ2,gw dP];exact hj
 obtain⟨cs1,gQ⟩:∃cs1,cs1=(cur.take (n*3)).drop (i*3):=⟨_,rfl⟩
 have fC:cs1.length=(n - i)*3:=by rw[gQ];simp;omega
 have xS:∀ty dc sc,(Builtin.copy_ #[66,66] ty #[.slice (some ⟨b,(i+1)*3,none⟩) (n+1 - (i+1)) dc,.slice (some ⟨b,i*3,none⟩) (n+1 - i) sc]).run prog w.drew=.ok (goInt ((n - i:Nat):Int)) (w.drew.setRow b (dV cur ((i+1)*3) cs1).toArray):=fun ty dc sc=>
  Fl w.drew _ _ ty 62 3 (n - i) b ((i+1)*3) (n+1 - (i+1)) dc ⟨b,i*3,none⟩ (n+1 - i) sc cur 62 cs1 underlying66 Rq hb (by simp only[yX0];split<;> omega) fC
   (fun j v hj=>by
    rw[Addr.add_lit];show w.cell? _=_;rw[gw hb];rw[gQ,zK7,zX5]at hj;split at hj
    . exact hj
    . cases hj)
   (by rw[fC,fP];omega) (fun v hv=>h1c v (by rw[gQ]at hv;exact zK6 hv))
 obtain⟨W1,hW1⟩:∃W1,W1=w.drew.setRow b (dV cur ((i+1)*3) cs1).toArray:=⟨_,rfl⟩
 have s9:W1.heap[b]? =some (.cells (dV cur ((i+1)*3) cs1).toArray 62 (0,0)):=by rw[hW1];exact setRow_heap w.drew b _ _ _ _ hb
 have jF:(dV cur ((i+1)*3) cs1).length=cur.length:=wO _ _ _ (by rw[fC,fP];omega);have xU:∀ty dc,(Builtin.copy_ #[66,66] ty #[.slice (some ⟨b,i*3,none⟩) (n+1 - i) dc,.slice (some ⟨vb,0,none⟩) 1 vc]).run prog W1=.ok (goInt ((1:Nat):Int)) (W1.setRow b (dV (dV cur ((i+1)*3) cs1) (i*3) pv).toArray):=fun ty dc=>
  Fl W1 _ _ ty 62 3 1 b (i*3) (n+1 - i) dc ⟨vb,0,none⟩ 1 vc _ 62 pv underlying66 Rq s9 (by simp only[yX0];split<;> omega) (by rw[hpl])
   (fun j v hj=>by
    rw[hW1,Addr.add_lit,zQ2,World.cell?_of_block (w:=w.drew) (setRow_other w.drew b vb _ hne)];show w.cell? _=_;rw[gw dP];exact hj)
   (by rw[hpl,jF,fP];omega) mI
 have xV:∀ty dc sc,(Builtin.copy_ #[66,66] ty #[.slice (some ⟨b,(i+1)*3,none⟩) (n - i) dc,.slice (some ⟨b,i*3,none⟩) (n+1 - i) sc]).run prog w.drew=.ok (goInt ((n - i:Nat):Int)) W1:=fun ty dc sc=>by rw[hW1];have:=xS ty dc sc;rwa[show n+1 - (i+1)=n - i by omega]at this
 obtain⟨W2,hW2⟩:∃W2,W2=W1.setRow b (dV (dV cur ((i+1)*3) cs1) (i*3) pv).toArray:=⟨_,rfl⟩
 have xW:∀ty dc,(Builtin.copy_ #[66,66] ty #[.slice (some ⟨b,i*3,none⟩) (n+1 - i) dc,.slice (some ⟨vb,0,none⟩) 1 vc]).run prog W1=.ok (goInt ((1:Nat):Int)) W2:=fun ty dc=>by rw[hW2];exact xU ty dc
 have cE:Hid (IB w W2 (.slice (some ⟨b,0,none⟩) n c) (.slice (some ⟨b,0,none⟩) (n+1) c) B (n+1) ((cur.take (n*3)).take (i*3)++pv++(cur.take (n*3)).drop (i*3))):=by
  refine⟨⟨b,c,rfl,.inl rfl⟩,?_,?_⟩
  . refine oI (cur:=dV (dV cur ((i+1)*3) cs1) (i*3) pv) Hi (by rw[hW2];exact setRow_heap _ _ _ _ _ _ s9) (by omega) hc (by rw[wO _ _ _ (by rw[hpl,jF,fP];omega),jF,fP]) ?_;rw[gQ,show(i+1)*3=i*3+3 by omega,show(n+1)*3=n*3+3 by omega];exact YP cur (i*3) 3 (n*3) _ pv hpl (by omega) (by rw[fP];omega) rfl
  . have g1:w.grownBy W1 (some b):=(by rw[hW1];exact(show w.grownBy w.drew (some b)from⟨rfl,rfl,rfl,zZ3 _,fun _ _ _=>rfl⟩).trans (Fm w.drew b _));have g2:w.grownBy W2 (some b):=(by rw[hW2];exact g1.trans (Fm W1 b _));exact g2
 have Th:vb<w.heap.size:=(zZ2.1 dP).1;have Ti:∀lb cb,(callFunc 164 #[.slice (some ⟨vb,0,none⟩) 1 vc,.slice (some ⟨b,(i+1)*3,none⟩) lb cb]).run prog w=.ok (.value (.bool false)) w:=fun lb cb=>by
  rw[run_callFunc_extern func164 (by kernel_rfl) (by kernel_rfl) (by kernel_rfl) (e:=Extern.SlicesOverlaps.overlaps #[66,66] #[4]) (by kernel_rfl),
   Lib.run_overlaps_apart w 66 4 62 underlying66 3 z3V ⟨vb,0,none⟩ ⟨b,(i+1)*3,none⟩ 1 vc lb cb hne 62 62 3 (c*3) (by simp[World.shape?,dP,hpl]) (by simp[World.shape?,hb,fP]) (by omega) (frozen_of_row w vb 0 _ _ dP) (frozen_of_row w vb 3 _ _ dP)]
  rfl
 have hbl:b<w.heap.size:=(zZ2.1 hb).1;have z1:¬((i:Int)=(n:Int)):=by omega
 have z2:¬(c<n+1):=by omega
 have z3:¬((c:Int)<(n:Int)+1):=by omega
 have z4:IntKind.i64.wrap ((i:Int)+1)=(i:Int)+1:=IntWalk.i64_in _ (by omega);have z5:(0:Int)<=(i:Int)+1:=by omega
 have z6:((i:Int)+1).toNat=i+1:=by omega
 have z7:¬(c=i+1):=by omega
 have z8:¬(c=i):=by omega
 have z9:(i:Int)<=(n:Int)+1:=by omega
 have Mb:i<=n:=by omega
 clear gQ xS xU s9 hW1 hW2 hcell hb dP fP fC jF h1c mI hpl hi;go_in;go_wp2_with (simp only[Ti]);go_region_law (refine Qu rfl (.tmp 73) (.tmp 76) 66 66 rfl (.slice (some ⟨b,(i+1)*3,none⟩) (n - i) (c - (i+1))) (.slice (some ⟨b,i*3,none⟩) (n+1 - i) (c - i)) (by simp[Act.eval,Act.put]) (by simp[Act.eval,Act.put]) (xV _ _ _) ?_);go_wp2_with (at_builtin;refine Qt _ rfl _ _ 66 66 rfl _ _ rfl rfl (xW _ _) ?_);go_ret;exact⟨_,rfl,cE⟩
theorem IC:(Value.cells (.agg #[.string ⟨#[]⟩,.string ⟨#[]⟩,.int .i64 0])).size=3:=by kernel_rfl
theorem z0h (w:World)(B b n i:Nat)(cur:List Value)(hb:w.heap[b]? =some (.cells cur.toArray 62 (0,0)))(hB:B<=w.heap.size)(fP:cur.length=n*3)(hi:i<n)(vb:Nat)(pv:List Value)(vc:Nat)(dP:w.heap[vb]? =some (.cells pv.toArray 62 (0,0)))(hpl:pv.length=3)(mI:∀u∈pv,u.oneCell'=true)(h1c:∀u∈cur,u.oneCell'=true)(dI:n<=1000000):
    Calls prog 155 #[.slice (some ⟨b,0,none⟩) n n,.int .i64 i,.slice (some ⟨vb,0,none⟩) 1 vc] w fun e w'=>∃r,e=.returned r/\IB w w' (.slice (some ⟨b,0,none⟩) n n) r B (n+1) (cur.take (i*3)++pv++cur.drop (i*3)):=by
 obtain⟨i0,dA,hz0,hzs,hzb⟩:=wZ8 Rp;have Mc:b<w.heap.size:=(zZ2.1 hb).1;have Tj:vb<w.heap.size:=(zZ2.1 dP).1;have hold:(Builtin.firstCells i0.size i (.slice (some ⟨b,0,none⟩) i n)).run prog w.drew=.ok (cur.take (i*3)).toArray w.drew:=by
  rw[hzs];exact run_firstCells_some w.drew 3 i ⟨b,0,none⟩ i n (cur.take (i*3)) (by rw[zZ9];omega) (fun j v hj=>by
   rw[Addr.add_lit,zQ2];show w.cell? _=_;rw[gw hb];rw[zX5]at hj;split at hj
   . exact hj
   . cases hj)
 obtain⟨G,hG⟩:∃G,G=grownCap w (n+1) n 62:=⟨_,rfl⟩
 obtain⟨R,hR⟩:∃R:List Value,R=cur.take (i*3)++(Builtin.zeroCells (Value.cells (.agg #[.string ⟨#[]⟩,.string ⟨#[]⟩,.int .i64 0])) (n+1 - i)).toList++(Builtin.zeroCells (Value.cells (.agg #[.string ⟨#[]⟩,.string ⟨#[]⟩,.int .i64 0])) (G - (n+1))).toList:=⟨_,rfl⟩
 have vL:n+1<=G:=by rw[hG];exact grownCap_ge w _ _ _
 have Hj:G<=9223372036854775807:=by
  have:=grownCap_le_maxLen w (n+1) n 62 (by unfold maxLen;omega);rw[<-hG]at this;unfold maxLen at this;omega
 have xX:R.length=G*3:=by
  rw[hR];simp only[zZ4,yZ7,size_zeroCells,IC,zZ9];omega
 have Md:∀ty,(Builtin.append_ #[66,3] ty #[.slice (some ⟨b,0,none⟩) i n,.int .i64 ((n:Int)+1 - (i:Int))]).run prog w=
     .ok (.slice (some ⟨w.heap.size,0,none⟩) (n+1) G) ((w.alloc (.cells R.toArray 62)).drew):=fun ty=>by
  have h:=Lib.run_append_grow_zeros w 66 3 ty 62 i0 _ .i64 .i64 underlying66 underlying3 dA hz0 (some ⟨b,0,none⟩) i n (cur.take (i*3)) hold (n+1 - i) (by omega) (by omega) (by omega) (by omega) (by rw[hzb];omega) (by rw[hzb,show i+(n+1 - i)=n+1 by omega];exact growslice_fits (by omega) (by omega));rw[show i+(n+1 - i)=n+1 by omega,<-hG]at h;rw[show(n:Int)+1 - (i:Int)=((n+1 - i:Nat):Int) by omega,h,hR];simp only[<-yJ1,Array.toArray_toList];rfl
 obtain⟨WA,xY⟩:∃WA,WA=(w.alloc (.cells R.toArray 62)).drew:=⟨_,rfl⟩
 have Hk:WA.heap[w.heap.size]? =some (.cells R.toArray 62 (0,0)):=by rw[xY];exact wZ0 w _
 have nw:∀k,k<w.heap.size->WA.heap[k]? =w.heap[k]? :=fun k hk=>by rw[xY];exact heap_alloc_old w _ hk
 rw[<-xY]at Md;have xZ:∀ty dc,(Builtin.copy_ #[66,66] ty #[.slice (some ⟨w.heap.size,i*3,none⟩) (n+1 - i) dc,.slice (some ⟨vb,0,none⟩) 1 vc]).run prog WA=.ok (goInt ((1:Nat):Int)) (WA.setRow w.heap.size (dV R (i*3) pv).toArray):=fun ty dc=>
  Fl WA _ _ ty 62 3 1 w.heap.size (i*3) (n+1 - i) dc ⟨vb,0,none⟩ 1 vc R 62 pv underlying66 Rq Hk (by simp only[yX0];split<;> omega) (by rw[hpl])
   (fun j v hj=>by rw[Addr.add_lit,zQ2,World.cell?_of_block (w:=w) (nw vb Tj),gw dP];exact hj)
   (by rw[hpl,xX];omega) mI
 obtain⟨WB,ye⟩:∃WB,WB=WA.setRow w.heap.size (dV R (i*3) pv).toArray:=⟨_,rfl⟩
 have jF:(dV R (i*3) pv).length=G*3:=by rw[wO _ _ _ (by rw[hpl,xX];omega),xX]
 have Hl:WB.heap[w.heap.size]? =some (.cells (dV R (i*3) pv).toArray 62 (0,0)):=by rw[ye];exact setRow_heap _ _ _ _ _ _ Hk
 have qY:∀k,k<w.heap.size->WB.heap[k]? =w.heap[k]? :=fun k hk=>by rw[ye];exact(setRow_other WA _ k _ (by omega)).trans (nw k hk)
 rw[<-ye]at xZ;obtain⟨cs1,gQ⟩:∃cs1,cs1=cur.drop (i*3):=⟨_,rfl⟩
 have fC:cs1.length=(n - i)*3:=by rw[gQ];simp;omega
 have yf:∀ty dc sc,(Builtin.copy_ #[66,66] ty #[.slice (some ⟨w.heap.size,(i+1)*3,none⟩) (n - i) dc,.slice (some ⟨b,i*3,none⟩) (n - i) sc]).run prog WB.drew=.ok (goInt ((n - i:Nat):Int)) (WB.drew.setRow w.heap.size (dV (dV R (i*3) pv) ((i+1)*3) cs1).toArray):=fun ty dc sc=>
  Fl WB.drew _ _ ty 62 3 (n - i) w.heap.size ((i+1)*3) (n - i) dc ⟨b,i*3,none⟩ (n - i) sc _ 62 cs1 underlying66 Rq Hl (by simp only[yX0];split<;> omega) fC
   (fun j v hj=>by
    rw[Addr.add_lit];show WB.cell? _=_;rw[World.cell?_of_block (w:=w) (qY b Mc),gw hb];rw[gQ,zK7]at hj;exact hj)
   (by rw[fC,jF];omega) (fun v hv=>h1c v (by rw[gQ]at hv;exact zK6 hv))
 obtain⟨WC,Cx⟩:∃WC,WC=WB.drew.setRow w.heap.size (dV (dV R (i*3) pv) ((i+1)*3) cs1).toArray:=⟨_,rfl⟩
 rw[<-Cx]at yf;have cE:Hid (IB w WC (.slice (some ⟨b,0,none⟩) n n) (.slice (some ⟨w.heap.size,0,none⟩) (n+1) G) B (n+1) (cur.take (i*3)++pv++cur.drop (i*3))):=by
  refine⟨⟨w.heap.size,G,rfl,.inr (zZ3 _)⟩,?_,?_⟩
  . refine oI (cur:=dV (dV R (i*3) pv) ((i+1)*3) cs1) hB (by rw[Cx];exact setRow_heap _ _ _ _ _ _ Hl) vL Hj (by rw[wO _ _ _ (by rw[fC,jF];omega),jF]) ?_;rw[show(n+1)*3=(i+1)*3+cs1.length by rw[fC];omega,KF _ _ _ (by rw[jF];omega),show(i+1)*3=i*3+pv.length by rw[hpl];omega,KF _ _ _ (by rw[xX];omega),gQ,hR];congr 2;rw[zQ7,yX8 (by simp;omega)];exact zJ3 (by simp;omega)
  . have g1:ar (fun _=>False) w WA:=(by rw[xY];exact(((ae.rf w).alloc _).drew).only _);have g2:ar (fun j=>j=w.heap.size) w WB:=(by rw[ye];exact(g1.mono (fun j hj=>hj.elim)).then (Qw WA _ _));have g3:ar (fun j=>j=w.heap.size) w WC:=(by rw[Cx];exact g2.drew.then (Qw WB.drew _ _));exact g3.pJ (fun j hj=> .inr (by omega))
 have z1:¬((i:Int)=(n:Int)):=by omega
 have z4:IntKind.i64.wrap ((i:Int)+1)=(i:Int)+1:=IntWalk.i64_in _ (by omega);have z5:(0:Int)<=(i:Int)+1:=by omega
 have z6:((i:Int)+1).toNat=i+1:=by omega
 have z7:¬(G=i+1):=by omega
 have z8:¬(G=i):=by omega
 have z9:(i:Int)<=(n:Int):=by omega
 have Mb:i<=n:=by omega
 have Tk:¬(n=i):=by omega
 have z12:(n:Int)<(n:Int)+1:=by omega
 clear hold hG hR vL xX xY Hk nw ye jF Hl qY gQ fC Cx hb dP fP h1c mI hpl hi;go_in;go_wp2_with (first|(at_builtin;refine Lib.wpList_append_run _ rfl _ _ _ _ rfl _ _ rfl rfl _ _ (Md _) ?_)|(at_builtin;refine Qt _ rfl _ _ 66 66 rfl _ _ rfl rfl (xZ _ _) ?_))
 go_region_law (refine Qu rfl (.tmp 50) (.tmp 53) 66 66 rfl (.slice (some ⟨w.heap.size,(i+1)*3,none⟩) (n - i) (G - (i+1))) (.slice (some ⟨b,i*3,none⟩) (n - i) (n - i)) (by simp[Act.eval,Act.put]) (by simp[Act.eval,Act.put]) (yf _ _ _) ?_);go_wp2_with fail;go_ret;exact⟨_,rfl,cE⟩
theorem Da (w:World)(B:Nat)(a0:Option Addr)(n c0:Nat)(xs:List Value)(h:w.ownsRow B 62 3 (.slice a0 n c0) n xs)(hB:B<=w.heap.size)(h1:∀u∈xs,u.oneCell'=true)(i:Nat)(hi:i<=n)(vb:Nat)(pv:List Value)(vc:Nat)(dP:w.heap[vb]? =some (.cells pv.toArray 62 (0,0)))(hpl:pv.length=3)(mI:∀u∈pv,u.oneCell'=true)(dI:n<=1000000)(hne:Value.ownBlock (.slice a0 n c0)≠some vb):
    Calls prog 155 #[.slice a0 n c0,.int .i64 i,.slice (some ⟨vb,0,none⟩) 1 vc] w fun e w'=>∃r,e=.returned r/\IB w w' (.slice a0 n c0) r B (n+1) (xs.take (i*3)++pv++xs.drop (i*3)):=by
 by_cases iG:i=n
 . subst iG;rw[<-h.1,zQ1,yJ8,yZ1];exact z1h w B _ i xs a0 c0 rfl h hB vb pv vc dP hpl mI dI
 . obtain⟨g,cap,cur,e,Tl,hg,BN,Hm,fP,hx⟩:=Fp h (by omega);cases e;subst hx;by_cases hr:n<c0
   . exact y8q w B g n c0 i cur hg Tl hr Hm fP (by omega) vb pv vc dP hpl mI h1 dI (fun e=>hne (by rw[e];rfl))
   . obtain rfl:c0=n:=(by omega);have hw:cur.take (c0*3)=cur:=zJ3 (by omega);rw[hw]at h1 ⊢;exact z0h w B g c0 i cur hg hB fP (by omega) vb pv vc dP hpl mI h1 dI
def Cb (ks:List ByteArray):List Value:=ks.map Value.string
theorem zI:(prog.info? 9).map (fun i=>(i.zero,i.size,i.bytes))=some (some (.string ⟨#[]⟩),1,16):=by kernel_rfl
theorem y7z {w:World}{B:Nat}{v:Value}{m:Nat}{ks:List ByteArray}(aH:w.ownsRow B 9 1 v m (Cb ks))(kb:Nat)(key:ByteArray)(hk:w.cell? ⟨kb,0,none⟩=some (.string key))(dI:m<=1000000)(hB:B<=w.heap.size)(ty:TypeId):
    ∃v' w',(Builtin.append_ #[162,162] ty #[v,.slice (some ⟨kb,0,none⟩) 1 1]).run prog w=.ok v' w'/\w'.ownsRow B 9 1 v' (m+1) (Cb (ks++[key]))/\w.grownBy w' v.ownBlock:=by
 obtain⟨i0,dA,hz0,hz1,hz2⟩:=wZ8 zI;obtain⟨g,ep,w2,h1,h2,h3,h4,h5⟩:=run_append_lies (P:=prog) (w:=w) 162 ty B 9 i0 _ 1 16 underlying162 dA hz0 hz1 hz2 rfl (by omega) v m (Cb ks) aH ⟨kb,0,none⟩ 1 1 [.string key] rfl (fun j u hj=>by
  rw[Addr.add_lit];cases j with
  | zero=>cases hj;exact hk
  | succ j=>simp at hj) (fun u hu=>by simp at hu;subst hu;rfl) (by omega) (by unfold maxLen;omega) (by omega) hB _ rfl
 refine⟨_,w2,h1,?_,h3⟩;have e:Cb (ks++[key])=Cb ks++[.string key]:=by simp[Cb]
 rw[e];exact h2
@[local go_sem] theorem DK (v:Value) (xT:TypeId) (w:World):(Instr.typeAssert (.iface 201 v) xT 205 true).run prog w=.ok (.tuple #[.agg #[.int .i64 0,.int .i64 0,.int .i64 0,.string ⟨#[]⟩],.bool false]) w:=by kernel_rfl
@[local go_sem] theorem IY (v:Value) (xT:TypeId) (w:World):(Instr.typeAssert (.iface 201 v) xT 201 true).run prog w=.ok (.tuple #[v,.bool true]) w:=by kernel_rfl
theorem Vp {S:Nat->Bool}(hS:jo S)(E:Nat->Addr)(e:En)(w:World)(hE:bz S E w)(hA:b7 w e)(hk:e.ax=1)(hr:Pl.cK e=true):
    Calls prog 110 #[e.agg] w fun r w'=>(∃v,r=.returned v/\w'.ownsRow w.heap.size 9 1 v e.ops.length (Cb (e.ops.map cf.key)))/\ae w w':=by
 have HR:=af (fun W (g:ae w W)=>qX hS E e W (hE.ah g) (hA.ah g));rw[hr]at HR;have HO:=af (fun W=>QA e W);have vY:iK e=.iface 201 (.agg #[.int .i64 e.aj,.int .i64 e.aw,.int .i64 e.seq,.slice e.aN e.ops.length e.aS]):=by unfold iK;rw[zZ1 hk]
 rw[vY]at HO;have xj:=af hA.ops;have jT:=hA.few;clear hE hA hr vY hk;unfold En.agg En.vals at *;obtain⟨ax,aj,ak,aq,aw,seq,key,aM,aL,aA,ops,aN,aS,aF,aB,aG⟩:=e;dsimp only at *;obtain⟨Y,hY⟩:∃Y,Y=w.alloc (.cells #[.int .i64 ax,.int .i64 aj,.int .i64 ak,.int .i64 aq,.int .i64 aw,.int .i64 seq,.slice aN ops.length aS,.string key,.int .i64 aM,.int .i64 aL,.int .i64 aA,.slice aF aB aG] 36):=⟨_,rfl⟩
 have gY:ae w Y:=by rw[hY];exact(ae.rf w).alloc _
 have HY:=af hY;have dg:=af gY;have nW:w.heap.size<Y.heap.size:=by rw[hY];simp
 clear hY gY;go_in;go_wp2_with fail;rw[<-HY.out];refine(HR Y dg).mono ?_;rintro e w1 ⟨rfl,aR⟩;have d0:w1.cell? ⟨w.heap.size,0,none⟩=some (.int .i64 ax):=(aR.cells.1 _ 0 nW).trans (by rw[HY.out];simp[go_sem]);have d1:w1.cell? ⟨w.heap.size,1,none⟩=some (.int .i64 aj):=(aR.cells.1 _ 1 nW).trans (by rw[HY.out];simp[go_sem]);have d2:w1.cell? ⟨w.heap.size,2,none⟩=some (.int .i64 ak):=(aR.cells.1 _ 2 nW).trans (by rw[HY.out];simp[go_sem]);have d3:w1.cell? ⟨w.heap.size,3,none⟩=some (.int .i64 aq):=(aR.cells.1 _ 3 nW).trans (by rw[HY.out];simp[go_sem]);have d4:w1.cell? ⟨w.heap.size,4,none⟩=some (.int .i64 aw):=(aR.cells.1 _ 4 nW).trans (by rw[HY.out];simp[go_sem]);have d5:w1.cell? ⟨w.heap.size,5,none⟩=some (.int .i64 seq):=(aR.cells.1 _ 5 nW).trans (by rw[HY.out];simp[go_sem]);have d6:w1.cell? ⟨w.heap.size,6,none⟩=some (.slice aN ops.length aS):=(aR.cells.1 _ 6 nW).trans (by rw[HY.out];simp[go_sem]);have d7:w1.cell? ⟨w.heap.size,7,none⟩=some (.string key):=(aR.cells.1 _ 7 nW).trans (by rw[HY.out];simp[go_sem]);have d8:w1.cell? ⟨w.heap.size,8,none⟩=some (.int .i64 aM):=(aR.cells.1 _ 8 nW).trans (by rw[HY.out];simp[go_sem]);have d9:w1.cell? ⟨w.heap.size,9,none⟩=some (.int .i64 aL):=(aR.cells.1 _ 9 nW).trans (by rw[HY.out];simp[go_sem]);have d10:w1.cell? ⟨w.heap.size,10,none⟩=some (.int .i64 aA):=(aR.cells.1 _ 10 nW).trans (by rw[HY.out];simp[go_sem]);have d11:w1.cell? ⟨w.heap.size,11,none⟩=some (.slice aF aB aG):=(aR.cells.1 _ 11 nW).trans (by rw[HY.out];simp[go_sem]);have ct:=af (dg.trans aR);clear aR nW HR;go_wp2_with fail;clear d0 d1 d2 d3 d4 d5 d6 d7 d8 d9 d10 d11;refine(HO w1).mono ?_;rintro e w2 ⟨rfl,aP⟩;have cA:=af (ct.trans aP);clear aP HO;obtain⟨X,hX⟩:∃X,X=(w2.alloc (.cells #[.int .i64 0,.int .i64 0,.int .i64 0,.string ⟨#[]⟩] 205)).alloc (.cells #[.int .i64 aj,.int .i64 aw,.int .i64 seq,.slice aN ops.length aS] 201):=⟨_,rfl⟩
 have HX:=af hX;have ke:=af (show ae w X by rw[hX];exact(cA.alloc _).alloc _);clear hX;go_wp2_with fail;rw[<-HX.out];go_loopw [8,35] (fun v i wr=>∃k:Nat,k<=ops.length/\i=.int .i64 k/\Hid (wr.ownsRow w.heap.size 9 1 v k (Cb ((ops.take k).map cf.key)))/\ae w wr) (fun _ i _=>ops.length - (intOf i).toNat);exact⟨0,zZ5 _,rfl,World.ownsRow_nil _ _ _ _,ke⟩;obtain⟨k,fV,rfl,HV,hG⟩:=hrel;by_cases az:k<ops.length
 . rcases xj.out with h0 | ⟨b,off,rfl,hb,hR⟩
   . rw[h0]at az;simp at az
   have q0:=(hG.cells.1 b (off+k*5) hb).trans (hR.ax k az);have q1:=(hG.cells.1 b (off+k*5+1) hb).trans (hR.key k az);have q2:=(hG.cells.1 b (off+k*5+2) hb).trans (hR.val k az);have q3:=(hG.cells.1 b (off+k*5+3) hb).trans (hR.old k az);have q4:=(hG.cells.1 b (off+k*5+4) hb).trans (hR.eI k az);have hat:bO ops k=ops[k]:=BL ops k az;have ez:(ops.take (k+1)).map cf.key=(ops.take k).map cf.key++[(bO ops k).key]:=by
    rw[hat,zX1 az,yX3];rfl
   have js:=af ez;clear hR hat ez;generalize bO ops k=c at *;obtain⟨c0,c1,c2,c3,c4⟩:=c;dsimp only at *;have F0:=af hG;have gA:ae w ((wr.alloc (.cells #[.int .i64 c0,.string c1,.string c2,.string c3,.int .i64 c4] 70)).alloc (.cells #[.string c1] 9)):=(hG.alloc _).alloc _;obtain⟨v',W,hrun,aH,hgb⟩:=y7z (w:=(wr.alloc (.cells #[.int .i64 c0,.string c1,.string c2,.string c3,.int .i64 c4] 70)).alloc (.cells #[.string c1] 9)) ((World.ownsRow.alloc HV _).alloc _) (wr.heap.size+1) c1 (by simp[go_sem]) (by omega) gA.size 162;rw[<-js.out]at aH;have zF:ae w W:=((gA.only _).then (ar.ay hgb)).ah fun j hj=>(HV.lt j hj.symm).1;have kM:=af aH;have mN:=af zF;have eH:=af hrun;clear gA aH hgb zF hrun HV js;go_wp2_with (at_builtin;refine Lib.wpList_append_run _ rfl _ _ _ _ rfl _ _ rfl rfl _ _ eH.out ?_);clear q0 q1 q2 q3 q4 eH F0;go_wp2_with fail;go_roundw;case rel=>exact⟨k+1,by omega,by go_num,kM,mN⟩
   case measure=>simp[intOf];omega
 . obtain rfl:k=ops.length:=(by omega);go_wp2_with fail;go_ret;refine⟨⟨_,rfl,?_⟩,hG⟩;have:=HV.out;rwa[zQ1]at this
def K8 (W:World)(a:Option Addr)(ks:List ByteArray):Prop:=ks=[]\/∃b off,a=some ⟨b,off,none⟩/\b<W.heap.size/\∀j n,ks[j]? =some n->W.cell? ⟨b,off+j,none⟩=some (.string n)
theorem Vq {W:World}{B:Nat}{v:Value}{ks:List ByteArray}(h:W.ownsRow B 9 1 v ks.length (Cb ks)):∃a cap,v=.slice a ks.length cap/\K8 W a ks:=by
 rcases h.2 with⟨h2,h3⟩ | ⟨b,cap,cur,e1,_,hb,hc,_⟩
 . refine⟨none,0,?_,.inl (zX2 h3)⟩;rw[h2,h3]
 . refine⟨_,cap,e1,.inr ⟨b,0,rfl,(zZ2.1 hb).1,fun j n hj=>?_⟩⟩;have:=h.cells (g:=b) (by rw[e1];rfl) j (.string n) (by unfold Cb;rw[yZ3,hj];rfl);rwa[Addr.add_lit]at this
structure lz (w:World)(bb st:Nat)(lo hi:ByteArray):Prop where
 box:w.cell? ⟨bb,0,none⟩=some (.pointer (some ⟨st,0,none⟩))
 c1:w.cell? ⟨st,1,none⟩=some (.string lo)
 c2:w.cell? ⟨st,2,none⟩=some (.string hi)
theorem lz.ah {w w':World}{bb st:Nat}{lo hi:ByteArray}(h:lz w bb st lo hi)(g:ae w w'):lz w' bb st lo hi:=
 ⟨(g.cells.1 _ _ (bf h.box)).trans h.box,(g.cells.1 _ _ (bf h.c1)).trans h.c1,(g.cells.1 _ _ (bf h.c1)).trans h.c2⟩
theorem z4l (S:Nat->Bool)(E:Nat->Addr)(hS:mD S)(lo hi key:ByteArray)(w:World)(hl:lo.size<=70368744177664)(hh:hi.size<=70368744177664)(hk:key.size<=70368744177664)(hE:bz S E w)(bb st:Nat)(hB:lz w bb st lo hi):
    Calls prog 111 #[.string key,.pointer (some ⟨bb,0,none⟩)] w fun e w'=>e=.returned (.bool (!Pl.bk lo hi key))/\ae w w':=by
 have HH:=af (He S E hS lo hi key w hl hh hk hE);obtain⟨b0,b1,b2⟩:=hB;clear hE;generalize Pl.bk lo hi key=b at *;go_in;go_wp2_with fail;refine HH.mono ?_;rintro e w1 ⟨rfl,hg⟩;clear HH b0 b1 b2;go_wp2_with fail;go_ret;exact⟨rfl,hg⟩
theorem z4e (S:Nat->Bool)(E:Nat->Addr)(hS:mD S)(lo hi:ByteArray)(a:Option Addr)(cap:Nat)(xs:List ByteArray)(w:World)(hl:lo.size<=70368744177664)(hh:hi.size<=70368744177664)(hE:bz S E w)(bb st:Nat)(hB:lz w bb st lo hi)(hA:K8 w a xs)(hx:xs.length<=1000000)(hk:∀k∈xs,k.size<=70368744177664):
    Calls prog 133 #[.slice a xs.length cap,.func (.func 111) #[] #[.pointer (some ⟨bb,0,none⟩)]] w fun e w'=>e=.returned (.int .i64 (dU (fun k=>!Pl.bk lo hi k) xs))/\ae w w':=by
 have HA:=af hA;obtain⟨p,hp⟩:∃p:ByteArray->Bool,p=fun k=>!Pl.bk lo hi k:=⟨_,rfl⟩
 have H7:∀k,(!Pl.bk lo hi k)=p k:=by intro k;rw[hp]
 have hP:=fun W (g:ae w W) k (hm:k∈xs)=>z4l S E hS lo hi k W hl hh (hk k hm) (hE.ah g) bb st (hB.ah g);simp only[H7]at hP;rw[<-hp];have HP:=af hP;clear hA hE hB hP H7 hp;go_in;go_wp2_with fail;go_loopw [8] (fun i wr=>∃k:Nat,k<=xs.length/\i=.int .i64 k/\Hid ((xs.take k).all (fun c=>!p c)=true)/\ae w wr) (fun i _=>xs.length - (intOf i).toNat);exact⟨0,zZ5 _,rfl,rfl,ae.rf w⟩;obtain⟨k,fV,rfl,HN,hG⟩:=hrel;by_cases az:k<xs.length
 . rcases HA.out with h0 | ⟨b,off,rfl,hb,hR⟩
   . rw[h0]at az;simp at az
   have q0:=(hG.cells.1 b (off+k) hb).trans (hR k _ (zQ5 az));have HC:=af (fun W g=>HP W g xs[k] (zQ4 az));clear hR;have HS:=af (Co p xs k az HN);have gK:=af (G6 p xs k az HN);generalize xs[k]=c at *;cases iz:p c with
   | true=>
    rw[iz]at HC;have eR:=af (HS iz);clear iz HS gK;go_wp2_with fail;refine(HC _ hG).mono ?_;rintro e w1 ⟨rfl,aR⟩;go_wp2_with fail;go_ret;exact⟨jl eR.symm,hG.trans aR⟩
   | false=>
    rw[iz]at HC;have eR:=af (gK iz);clear iz HS gK;go_wp2_with fail;refine(HC _ hG).mono ?_;rintro e w1 ⟨rfl,aR⟩;go_wp2_with fail;go_roundw;case rel=>exact⟨k+1,by omega,by go_num,eR,hG.trans aR⟩
    case measure=>simp[intOf];omega
 . obtain rfl:k=xs.length:=(by omega);have HE:=af (xD p xs (by have:=HN.out;rwa[zQ1]at this));go_wp2_with fail;go_ret;exact⟨jl HE.symm,hG⟩
theorem Vr (S:Nat->Bool)(E:Nat->Addr)(hS:mD S)(lo hi:ByteArray)(a:Option Addr)(cap:Nat)(xs:List ByteArray)(w:World)(hl:lo.size<=70368744177664)(hh:hi.size<=70368744177664)(hE:bz S E w)(bb st:Nat)(hB:lz w bb st lo hi)(hA:K8 w a xs)(hx:xs.length<=1000000)(hk:∀k∈xs,k.size<=70368744177664):
    Calls prog 109 #[.slice a xs.length cap,.func (.func 111) #[] #[.pointer (some ⟨bb,0,none⟩)]] w fun e w'=>e=.returned (.bool (xs.any fun k=>!Pl.bk lo hi k))/\ae w w':=by
 have HI:=af (z4e S E hS lo hi a cap xs w hl hh hE bb st hB hA hx hk);have HG:=af (xE (fun k=>!Pl.bk lo hi k) xs);clear hE hA hB;generalize dU (fun k=>!Pl.bk lo hi k) xs=n at *;go_in;go_wp2_with fail;refine HI.mono ?_;rintro e w1 ⟨rfl,hg⟩;go_wp2_with fail;go_ret;exact⟨bS HG,hg⟩
namespace Pl
theorem ZH:∀(x y:List Nat),ij y x= - ij x y
 | [],[]=>rfl
 | [],_::_=>rfl
 | _::_,[]=>rfl
 | a::x,b::y=>by
  unfold ij;by_cases h1:a<b
  . have h2:¬b<a:=(by omega);simp[h1,h2]
  . by_cases h2:b<a
    . simp[h1,h2]
    . simp only[h1,h2,if_false];exact ZH x y
theorem ZI:∀(x y:List Nat),ij x y=0->x=y
 | [],[],_=>rfl
 | [],_::_,h=>by simp[ij]at h
 | _::_,[],h=>by simp[ij]at h
 | a::x,b::y,h=>by
  unfold ij at h;by_cases h1:a<b
  . rw[zZ1 h1]at h;simp at h
  . by_cases h2:b<a
    . rw[zZ0 h1,zZ1 h2]at h;simp at h
    . rw[zZ0 h1,zZ0 h2]at h;rw[show a=b by omega,ZI x y h]
theorem ZJ:∀(x:List Nat),ij x x=0
 | []=>rfl
 | a::x=>by unfold ij;rw[zZ0 (by omega),zZ0 (by omega)];exact ZJ x
theorem ZK:∀(x y z:List Nat),ij x y<0->ij y z<0->ij x z<0
 | [],[],_,h,_=>by simp[ij]at h
 | [],_::_,[],_,h=>by simp[ij]at h
 | [],_::_,_::_,_,_=>by simp[ij]
 | _::_,[],_,h,_=>by simp[ij]at h
 | _::_,_::_,[],_,h=>by simp[ij]at h
 | a::x,b::y,c::z,h,k=>by
  unfold ij at h k ⊢;by_cases h1:a<b
  . by_cases k1:b<c
    . rw[zZ1 (by omega)];decide
    . by_cases k2:c<b
      . rw[zZ0 k1,zZ1 k2]at k;simp at k
      . rw[zZ1 (by omega)];decide
  . by_cases h2:b<a
    . rw[zZ0 h1,zZ1 h2]at h;simp at h
    . by_cases k1:b<c
      . rw[zZ1 (by omega)];decide
      . by_cases k2:c<b
        . rw[zZ0 k1,zZ1 k2]at k;simp at k
        . rw[zZ0 h1,zZ0 h2]at h;rw[zZ0 k1,zZ0 k2]at k;rw[zZ0 (by omega),zZ0 (by omega)];exact ZK x y z h k
def Ok (s:ByteArray):Prop:=∃l,bJ s.data.toList=some l
theorem jP {s:ByteArray}(h:aT s=0):Ok s:=by
 unfold aT at h;cases hr:bJ s.data.toList with
 | none=>rw[hr]at h;cases h
 | some l=>exact⟨l,hr⟩
theorem yU {a b:ByteArray}(ha:Ok a)(hb:Ok b):cU b a= - cU a b:=by
 obtain⟨x,hx⟩:=ha;obtain⟨y,hy⟩:=hb;unfold cU;rw[hx,hy];exact ZH x y
theorem CS {a b:ByteArray}(ha:Ok a)(hb:Ok b)(h:cU a b=0):a=b:=by
 obtain⟨x,hx⟩:=ha;obtain⟨y,hy⟩:=hb;unfold cU at h;rw[hx,hy]at h;have e:=ZI x y h;subst e;have e2:=z5D _ _ _ _ (zZ3 _) hx hy;obtain⟨⟨a⟩⟩:=a;obtain⟨⟨b⟩⟩:=b;exact wZ7 (fun l:List UInt8=>(⟨⟨l⟩⟩:ByteArray)) e2
theorem CT {a:ByteArray}(ha:Ok a):cU a a=0:=by
 obtain⟨x,hx⟩:=ha;unfold cU;rw[hx];exact ZJ x
theorem uM {a b c:ByteArray}(ha:Ok a)(hb:Ok b)(hc:Ok c)(h:cU a b<0)(k:cU b c<0):cU a c<0:=by
 obtain⟨x,hx⟩:=ha;obtain⟨y,hy⟩:=hb;obtain⟨z,hz⟩:=hc;unfold cU at h k ⊢;rw[hx,hy]at h;rw[hy,hz]at k;rw[hx,hz];exact ZK x y z h k
end Pl
end Go.Proofs.YtgegogoanbamfaaGreatDoor
