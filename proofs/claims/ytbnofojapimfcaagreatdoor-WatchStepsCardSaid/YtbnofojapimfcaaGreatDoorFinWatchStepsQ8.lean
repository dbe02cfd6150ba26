/- Part 8 of the proof. -/
import Derived.Test.YtbnofojapimfcaaGreatDoorFinWatchStepsQ4
import Derived.Test.YtbnofojapimfcaaGreatDoorFinWatchStepsQ5
set_option linter.unusedVariables false
set_option linter.unusedSectionVars false
set_option linter.unusedSimpArgs false
set_option maxRecDepth 100000
set_option maxHeartbeats 16000000
namespace Go.Proofs.YtbnofojapimfcaaGreatDoor
section
open Go.RowKit Go.Maps
attribute [local go_sem] Oper.semAt_some
theorem Tc:(Tryz.prog.info? 128).map (fun i=>(i.zero,i.size,i.bytes))=some (some (.agg #[.int .i64 0,.int .i64 0,.int .i64 0,.string ⟨#[]⟩,.string ⟨#[]⟩]),5,56):=by kernel_rfl
theorem Lf:(Tryz.prog.info? 128).map (·.size)=some 5:=by kernel_rfl
structure CG (w w':World) (v r:Value) (B n:Nat) (ys:List Value):Prop where
 form:∃g cap,r=.slice (some ⟨g,0,none⟩) n cap/\(v.ownBlock=some g\/w.heap.size<=g)
 row:w'.ownsRow B 128 5 r n ys
 grown:w.grownBy w' v.ownBlock
theorem YA (w:World) (B:Nat) (v:Value) (n:Nat) (xs:List Value) (a0:Option Addr) (c0:Nat) (hv:v=.slice a0 n c0) (h:w.ownsRow B 128 5 v n xs) (hB:B<=w.heap.size) (vb:Nat) (pv:List Value) (vc:Nat) (hvb:w.heap[vb]? =some (.cells pv.toArray 128 (0,0))) (hpl:pv.length=5) (ke:∀u∈pv,u.oneCell'=true) (hbig:n<=1000000):
    Calls Tryz.prog 147 #[.slice a0 n c0,.int .i64 n,.slice (some ⟨vb,0,none⟩) 1 vc] w fun e w'=>∃r,e=.returned r/\CG w w' v r B (n+1) (xs++pv):=by
 subst hv
 obtain ⟨i0,hi0,hz0,hz1,hz2⟩:=info_parts Tc
 have hcell:∀j u,pv[j]? =some u->w.cell? ((⟨vb,0,none⟩:Addr).add j)=some u:=fun j u hj=>by
  rw [Addr.add_lit,zK0,fA hvb];exact hj
 have HC:=af hcell
 have HP:=af hpl
 have H1:=af ke
 have HH:=af h
 have hnil:a0=none->n=0/\c0=0:=fun e=>by
  subst e
  rcases h.2 with ⟨e1,e2⟩ | ⟨_,_,_,e1,_⟩
  · cases e1;exact ⟨rfl,rfl⟩
  · cases e1
 clear hcell hpl ke h hvb
 go_in
 rcases HH.out.2 with ⟨e1,e2⟩ | ⟨g,cap,cur,e1,e3,e4,e5,e6,e7,e8⟩
 · cases e1
   clear e2 hnil
   go_wp2_with (at_builtin;refine wpList_append_lies _ rfl _ _ 136 rfl B 128 i0 _ 5 56 Tryz.underlying136 hi0 hz0 hz1 hz2 rfl (by omega) _ 0 xs rfl HH.out ⟨vb,0,none⟩ 1 vc pv rfl HP.out HC.out H1.out (by omega) (by unfold maxLen;omega) (by omega) hB _ rfl ?_)
   intro g cap w1 aD hgrow hat aq
   have HO:=af aD
   have HG:=af hgrow
   have HA:=af hat
   clear aD hgrow hat
   go_wp2_with fail
   go_ret
   exact ⟨_,rfl,⟨g,cap,rfl,by rcases HA.out with h | h;exact .inl h;exact .inr (by omega)⟩,HO.out,HG.out⟩
 · cases e1
   clear e4 e7 e8 hnil
   have hcap:c0<=9223372036854775807:=by unfold maxLen at e6;omega
   by_cases hc:c0=n
   · subst hc
     go_wp2_with (at_builtin;refine wpList_append_lies _ rfl _ _ 136 rfl B 128 i0 _ 5 56 Tryz.underlying136 hi0 hz0 hz1 hz2 rfl (by omega) _ c0 xs rfl HH.out ⟨vb,0,none⟩ 1 vc pv rfl HP.out HC.out H1.out (by omega) (by unfold maxLen;omega) (by omega) hB _ rfl ?_)
     intro g' cap w1 aD hgrow hat aq
     have HO:=af aD
     have HG:=af hgrow
     have HA:=af hat
     clear aD hgrow hat
     go_wp2_with fail
     go_ret
     exact ⟨_,rfl,⟨g',cap,rfl,by rcases HA.out with h | h;exact .inl h;exact .inr (by omega)⟩,HO.out,HG.out⟩
   · go_wp2_with (at_builtin;refine wpList_append_lies _ rfl _ _ 136 rfl B 128 i0 _ 5 56 Tryz.underlying136 hi0 hz0 hz1 hz2 rfl (by omega) _ n xs rfl HH.out ⟨vb,0,none⟩ 1 vc pv rfl HP.out HC.out H1.out (by omega) (by unfold maxLen;omega) (by omega) hB _ rfl ?_)
     intro g' cap w1 aD hgrow hat aq
     have HO:=af aD
     have HG:=af hgrow
     have HA:=af hat
     clear aD hgrow hat
     go_wp2_with fail
     go_ret
     exact ⟨_,rfl,⟨g',cap,rfl,by rcases HA.out with h | h;exact .inl h;exact .inr (by omega)⟩,HO.out,HG.out⟩
theorem YB (w:World):(Go.sizeOf 128).run Tryz.prog w=.ok 5 w:=by kernel_rfl
theorem YC (w:World) (B b n c i:Nat) (cur:List Value) (hb:w.heap[b]? =some (.cells cur.toArray 128 (0,0))) (hBb:B<=b) (hnc:n<c) (hc:c<=9223372036854775807) (hcl:cur.length=c*5) (hi:i<n) (vb:Nat) (pv:List Value) (vc:Nat) (hvb:w.heap[vb]? =some (.cells pv.toArray 128 (0,0))) (hpl:pv.length=5) (ke:∀u∈pv,u.oneCell'=true) (h1c:∀u∈cur.take (n*5),u.oneCell'=true) (hbig:n<=1000000) (hne:vb≠b):
    Calls Tryz.prog 147 #[.slice (some ⟨b,0,none⟩) n c,.int .i64 i,.slice (some ⟨vb,0,none⟩) 1 vc] w fun e w'=>∃r,e=.returned r/\CG w w' (.slice (some ⟨b,0,none⟩) n c) r B (n+1) ((cur.take (n*5)).take (i*5)++pv++(cur.take (n*5)).drop (i*5)):=by
 have hcell:∀j u,pv[j]? =some u->w.cell? ((⟨vb,0,none⟩:Addr).add j)=some u:=fun j u hj=>by
  rw [Addr.add_lit,zK0,fA hvb];exact hj
 obtain ⟨cs1,fg⟩:∃cs1,cs1=(cur.take (n*5)).drop (i*5):=⟨_,rfl⟩
 have hl1:cs1.length=(n - i)*5:=by rw [fg];simp;omega
 have uj:∀ty dc sc,(Builtin.copy_ #[136,136] ty #[.slice (some ⟨b,(i+1)*5,none⟩) (n+1 - (i+1)) dc,.slice (some ⟨b,i*5,none⟩) (n+1 - i) sc]).run Tryz.prog w.drew=.ok (goInt ((n - i:Nat):Int)) (w.drew.setRow b (cz cur ((i+1)*5) cs1).toArray):=fun ty dc sc=>
  A4 w.drew _ _ ty 128 5 (n - i) b ((i+1)*5) (n+1 - (i+1)) dc ⟨b,i*5,none⟩ (n+1 - i) sc cur 128 cs1 Tryz.underlying136 Lf hb (by simp only [Nat.min_def];split<;> omega) hl1
   (fun j v hj=>by
    rw [Addr.add_lit]
    show w.cell? _=_
    rw [fA hb]
    rw [fg,List.getElem?_drop,List.getElem?_take] at hj
    split at hj
    · exact hj
    · cases hj)
   (by rw [hl1,hcl];omega) (fun v hv=>h1c v (by rw [fg] at hv;exact zX7 hv))
 obtain ⟨W1,hW1⟩:∃W1,W1=w.drew.setRow b (cz cur ((i+1)*5) cs1).toArray:=⟨_,rfl⟩
 have pK:W1.heap[b]? =some (.cells (cz cur ((i+1)*5) cs1).toArray 128 (0,0)):=by rw [hW1];exact setRow_heap w.drew b _ _ _ _ hb
 have hll:(cz cur ((i+1)*5) cs1).length=cur.length:=qN _ _ _ (by rw [hl1,hcl];omega)
 have uk:∀ty dc,(Builtin.copy_ #[136,136] ty #[.slice (some ⟨b,i*5,none⟩) (n+1 - i) dc,.slice (some ⟨vb,0,none⟩) 1 vc]).run Tryz.prog W1=.ok (goInt ((1:Nat):Int)) (W1.setRow b (cz (cz cur ((i+1)*5) cs1) (i*5) pv).toArray):=fun ty dc=>
  A4 W1 _ _ ty 128 5 1 b (i*5) (n+1 - i) dc ⟨vb,0,none⟩ 1 vc _ 128 pv Tryz.underlying136 Lf pK (by simp only [Nat.min_def];split<;> omega) (by rw [hpl])
   (fun j v hj=>by
    rw [hW1,Addr.add_lit,zK0,World.cell?_of_block (w:=w.drew) (setRow_other w.drew b vb _ hne)]
    show w.cell? _=_
    rw [fA hvb];exact hj)
   (by rw [hpl,hll,hcl];omega) ke
 have um:∀ty dc sc,(Builtin.copy_ #[136,136] ty #[.slice (some ⟨b,(i+1)*5,none⟩) (n - i) dc,.slice (some ⟨b,i*5,none⟩) (n+1 - i) sc]).run Tryz.prog w.drew=.ok (goInt ((n - i:Nat):Int)) W1:=fun ty dc sc=>by rw [hW1];have:=uj ty dc sc;rwa [show n+1 - (i+1)=n - i by omega] at this
 obtain ⟨W2,hW2⟩:∃W2,W2=W1.setRow b (cz (cz cur ((i+1)*5) cs1) (i*5) pv).toArray:=⟨_,rfl⟩
 have uq:∀ty dc,(Builtin.copy_ #[136,136] ty #[.slice (some ⟨b,i*5,none⟩) (n+1 - i) dc,.slice (some ⟨vb,0,none⟩) 1 vc]).run Tryz.prog W1=.ok (goInt ((1:Nat):Int)) W2:=fun ty dc=>by rw [hW2];exact uk ty dc
 have cB:Hid (CG w W2 (.slice (some ⟨b,0,none⟩) n c) (.slice (some ⟨b,0,none⟩) (n+1) c) B (n+1) ((cur.take (n*5)).take (i*5)++pv++(cur.take (n*5)).drop (i*5))):=by
  refine ⟨⟨b,c,rfl,.inl rfl⟩,?_,?_⟩
  · refine na (cur:=cz (cz cur ((i+1)*5) cs1) (i*5) pv) hBb (by rw [hW2];exact setRow_heap _ _ _ _ _ _ pK) (by omega) hc (by rw [qN _ _ _ (by rw [hpl,hll,hcl];omega),hll,hcl]) ?_
    rw [fg,show (i+1)*5=i*5+5 by omega,show (n+1)*5=n*5+5 by omega]
    exact S3 cur (i*5) 5 (n*5) _ pv hpl (by omega) (by rw [hcl];omega) rfl
  · have g1:w.grownBy W1 (some b):=by rw [hW1];exact (show w.grownBy w.drew (some b) from ⟨rfl,rfl,rfl,zZ3 _,fun _ _ _=>rfl⟩).trans (A5 w.drew b _)
    have g2:w.grownBy W2 (some b):=by rw [hW2];exact g1.trans (A5 W1 b _)
    exact g2
 have Nw:vb<w.heap.size:=(zZ2.1 hvb).1
 have hov:∀lb cb,(callFunc 173 #[.slice (some ⟨vb,0,none⟩) 1 vc,.slice (some ⟨b,(i+1)*5,none⟩) lb cb]).run Tryz.prog w=.ok (.value (.bool false)) w:=fun lb cb=>by
  rw [run_callFunc_extern Tryz.func173 (by kernel_rfl) (by kernel_rfl) (by kernel_rfl) (e:=Extern.SlicesOverlaps.overlaps #[136,136] #[4]) (by kernel_rfl),
   Lib.run_overlaps_apart w 136 4 128 Tryz.underlying136 5 YB ⟨vb,0,none⟩ ⟨b,(i+1)*5,none⟩ 1 vc lb cb hne 128 128 5 (c*5) (by simp [World.shape?,hvb,hpl]) (by simp [World.shape?,hb,hcl]) (by omega) (frozen_of_row w vb 0 _ _ hvb) (frozen_of_row w vb 5 _ _ hvb)]
  rfl
 have hbl:b<w.heap.size:=(zZ2.1 hb).1
 have z1:¬((i:Int)=(n:Int)):=by omega
 have z2:¬(c<n+1):=by omega
 have z3:¬((c:Int)<(n:Int)+1):=by omega
 have z4:IntKind.i64.wrap ((i:Int)+1)=(i:Int)+1:=IntWalk.i64_in _ (by omega)
 have z5:(0:Int)<=(i:Int)+1:=by omega
 have z6:((i:Int)+1).toNat=i+1:=by omega
 have z7:¬(c=i+1):=by omega
 have z8:¬(c=i):=by omega
 have z9:(i:Int)<=(n:Int)+1:=by omega
 have z10:i<=n:=by omega
 clear fg uj uk pK hW1 hW2 hcell hb hvb hcl hl1 hll h1c ke hpl hi
 go_in
 go_wp2_with (simp only [hov])
 go_region_law (refine KY rfl (.tmp 73) (.tmp 76) 136 136 rfl (.slice (some ⟨b,(i+1)*5,none⟩) (n - i) (c - (i+1))) (.slice (some ⟨b,i*5,none⟩) (n+1 - i) (c - i)) (by simp [Act.eval,Act.put]) (by simp [Act.eval,Act.put]) (um _ _ _) ?_)
 go_wp2_with (at_builtin;refine KX _ rfl _ _ 136 136 rfl _ _ rfl rfl (uq _ _) ?_)
 go_ret
 exact ⟨_,rfl,cB.out⟩
theorem zf:(Value.cells (.agg #[.int .i64 0,.int .i64 0,.int .i64 0,.string ⟨#[]⟩,.string ⟨#[]⟩])).size=5:=by kernel_rfl
theorem YD (w:World) (B b n i:Nat) (cur:List Value) (hb:w.heap[b]? =some (.cells cur.toArray 128 (0,0))) (hB:B<=w.heap.size) (hcl:cur.length=n*5) (hi:i<n) (vb:Nat) (pv:List Value) (vc:Nat) (hvb:w.heap[vb]? =some (.cells pv.toArray 128 (0,0))) (hpl:pv.length=5) (ke:∀u∈pv,u.oneCell'=true) (h1c:∀u∈cur,u.oneCell'=true) (hbig:n<=1000000):
    Calls Tryz.prog 147 #[.slice (some ⟨b,0,none⟩) n n,.int .i64 i,.slice (some ⟨vb,0,none⟩) 1 vc] w fun e w'=>∃r,e=.returned r/\CG w w' (.slice (some ⟨b,0,none⟩) n n) r B (n+1) (cur.take (i*5)++pv++cur.drop (i*5)):=by
 obtain ⟨i0,hi0,hz0,hzs,hzb⟩:=info_parts Tc
 have GR:b<w.heap.size:=(zZ2.1 hb).1
 have Ny:vb<w.heap.size:=(zZ2.1 hvb).1
 have hold:(Builtin.firstCells i0.size i (.slice (some ⟨b,0,none⟩) i n)).run Tryz.prog w.drew=.ok (cur.take (i*5)).toArray w.drew:=by
  rw [hzs]
  exact run_firstCells_some w.drew 5 i ⟨b,0,none⟩ i n (cur.take (i*5)) (by rw [List.length_take];omega) (fun j v hj=>by
   rw [Addr.add_lit,zK0]
   show w.cell? _=_
   rw [fA hb]
   rw [List.getElem?_take] at hj
   split at hj
   · exact hj
   · cases hj)
 obtain ⟨G,hG⟩:∃G,G=grownCap w (n+1) n 128:=⟨_,rfl⟩
 obtain ⟨R,hR⟩:∃R:List Value,R=cur.take (i*5)++(Builtin.zeroCells (Value.cells (.agg #[.int .i64 0,.int .i64 0,.int .i64 0,.string ⟨#[]⟩,.string ⟨#[]⟩])) (n+1 - i)).toList++(Builtin.zeroCells (Value.cells (.agg #[.int .i64 0,.int .i64 0,.int .i64 0,.string ⟨#[]⟩,.string ⟨#[]⟩])) (G - (n+1))).toList:=⟨_,rfl⟩
 have nL:n+1<=G:=by rw [hG];exact grownCap_ge w _ _ _
 have Cz:G<=9223372036854775807:=by
  have:=grownCap_le_maxLen w (n+1) n 128 (by unfold maxLen;omega)
  rw [<-hG] at this
  unfold maxLen at this
  omega
 have ur:R.length=G*5:=by
  rw [hR]
  simp only [zX8,Array.length_toList,size_zeroCells,zf,List.length_take]
  omega
 have GS:∀ty,(Builtin.append_ #[136,3] ty #[.slice (some ⟨b,0,none⟩) i n,.int .i64 ((n:Int)+1 - (i:Int))]).run Tryz.prog w=
     .ok (.slice (some ⟨w.heap.size,0,none⟩) (n+1) G) ((w.alloc (.cells R.toArray 128)).drew):=fun ty=>by
  have h:=Lib.run_append_grow_zeros w 136 3 ty 128 i0 _ .i64 .i64 Tryz.underlying136 Tryz.underlying3 hi0 hz0 (some ⟨b,0,none⟩) i n (cur.take (i*5)) hold (n+1 - i) (by omega) (by omega) (by omega) (by omega) (by rw [hzb];omega) (by rw [hzb,show i+(n+1 - i)=n+1 by omega];exact growslice_fits (by omega) (by omega))
  rw [show i+(n+1 - i)=n+1 by omega,<-hG] at h
  rw [show (n:Int)+1 - (i:Int)=((n+1 - i:Nat):Int) by omega,h,hR]
  simp only [<-List.append_toArray,Array.toArray_toList]
  rfl
 obtain ⟨WA,uu⟩:∃WA,WA=(w.alloc (.cells R.toArray 128)).drew:=⟨_,rfl⟩
 have CA:WA.heap[w.heap.size]? =some (.cells R.toArray 128 (0,0)):=by rw [uu];exact heap_alloc_new w _
 have kN:∀k,k<w.heap.size->WA.heap[k]? =w.heap[k]? :=fun k hk=>by rw [uu];exact heap_alloc_old w _ hk
 rw [<-uu] at GS
 have uv:∀ty dc,(Builtin.copy_ #[136,136] ty #[.slice (some ⟨w.heap.size,i*5,none⟩) (n+1 - i) dc,.slice (some ⟨vb,0,none⟩) 1 vc]).run Tryz.prog WA=.ok (goInt ((1:Nat):Int)) (WA.setRow w.heap.size (cz R (i*5) pv).toArray):=fun ty dc=>
  A4 WA _ _ ty 128 5 1 w.heap.size (i*5) (n+1 - i) dc ⟨vb,0,none⟩ 1 vc R 128 pv Tryz.underlying136 Lf CA (by simp only [Nat.min_def];split<;> omega) (by rw [hpl])
   (fun j v hj=>by rw [Addr.add_lit,zK0,World.cell?_of_block (w:=w) (kN vb Ny),fA hvb];exact hj)
   (by rw [hpl,ur];omega) ke
 obtain ⟨WB,uw⟩:∃WB,WB=WA.setRow w.heap.size (cz R (i*5) pv).toArray:=⟨_,rfl⟩
 have hll:(cz R (i*5) pv).length=G*5:=by rw [qN _ _ _ (by rw [hpl,ur];omega),ur]
 have CB:WB.heap[w.heap.size]? =some (.cells (cz R (i*5) pv).toArray 128 (0,0)):=by rw [uw];exact setRow_heap _ _ _ _ _ _ CA
 have nW:∀k,k<w.heap.size->WB.heap[k]? =w.heap[k]? :=fun k hk=>by rw [uw];exact (setRow_other WA _ k _ (by omega)).trans (kN k hk)
 rw [<-uw] at uv
 obtain ⟨cs1,fg⟩:∃cs1,cs1=cur.drop (i*5):=⟨_,rfl⟩
 have hl1:cs1.length=(n - i)*5:=by rw [fg];simp;omega
 have ux:∀ty dc sc,(Builtin.copy_ #[136,136] ty #[.slice (some ⟨w.heap.size,(i+1)*5,none⟩) (n - i) dc,.slice (some ⟨b,i*5,none⟩) (n - i) sc]).run Tryz.prog WB.drew=.ok (goInt ((n - i:Nat):Int)) (WB.drew.setRow w.heap.size (cz (cz R (i*5) pv) ((i+1)*5) cs1).toArray):=fun ty dc sc=>
  A4 WB.drew _ _ ty 128 5 (n - i) w.heap.size ((i+1)*5) (n - i) dc ⟨b,i*5,none⟩ (n - i) sc _ 128 cs1 Tryz.underlying136 Lf CB (by simp only [Nat.min_def];split<;> omega) hl1
   (fun j v hj=>by
    rw [Addr.add_lit]
    show WB.cell? _=_
    rw [World.cell?_of_block (w:=w) (nW b GR),fA hb]
    rw [fg,List.getElem?_drop] at hj
    exact hj)
   (by rw [hl1,hll];omega) (fun v hv=>h1c v (by rw [fg] at hv;exact zX7 hv))
 obtain ⟨WC,yY⟩:∃WC,WC=WB.drew.setRow w.heap.size (cz (cz R (i*5) pv) ((i+1)*5) cs1).toArray:=⟨_,rfl⟩
 rw [<-yY] at ux
 have cB:Hid (CG w WC (.slice (some ⟨b,0,none⟩) n n) (.slice (some ⟨w.heap.size,0,none⟩) (n+1) G) B (n+1) (cur.take (i*5)++pv++cur.drop (i*5))):=by
  refine ⟨⟨w.heap.size,G,rfl,.inr (zZ3 _)⟩,?_,?_⟩
  · refine na (cur:=cz (cz R (i*5) pv) ((i+1)*5) cs1) hB (by rw [yY];exact setRow_heap _ _ _ _ _ _ CB) nL Cz (by rw [qN _ _ _ (by rw [hl1,hll];omega),hll]) ?_
    rw [show (n+1)*5=(i+1)*5+cs1.length by rw [hl1];omega,Fw _ _ _ (by rw [hll];omega),show (i+1)*5=i*5+pv.length by rw [hpl];omega,Fw _ _ _ (by rw [ur];omega),fg,hR]
    congr 2
    rw [List.append_assoc,List.take_append_of_le_length (by simp;omega)]
    exact zQ7 (by simp;omega)
  · have g1:aj (fun _=>False) w WA:=by rw [uu];exact (((ae.rf w).alloc _).drew).only _
    have g2:aj (fun j=>j=w.heap.size) w WB:=by rw [uw];exact (g1.mono (fun j hj=>hj.elim)).then (Fx WA _ _)
    have g3:aj (fun j=>j=w.heap.size) w WC:=by rw [yY];exact g2.drew.then (Fx WB.drew _ _)
    exact g3.mD (fun j hj=> .inr (by omega))
 have z1:¬((i:Int)=(n:Int)):=by omega
 have z4:IntKind.i64.wrap ((i:Int)+1)=(i:Int)+1:=IntWalk.i64_in _ (by omega)
 have z5:(0:Int)<=(i:Int)+1:=by omega
 have z6:((i:Int)+1).toNat=i+1:=by omega
 have z7:¬(G=i+1):=by omega
 have z8:¬(G=i):=by omega
 have z9:(i:Int)<=(n:Int):=by omega
 have z10:i<=n:=by omega
 have Nz:¬(n=i):=by omega
 have z12:(n:Int)<(n:Int)+1:=by omega
 clear hold hG hR nL ur uu CA kN uw hll CB nW fg hl1 yY hb hvb hcl h1c ke hpl hi
 go_in
 go_wp2_with (first
  | (at_builtin;refine Lib.wpList_append_run _ rfl _ _ _ _ rfl _ _ rfl rfl _ _ (GS _) ?_)
  | (at_builtin;refine KX _ rfl _ _ 136 136 rfl _ _ rfl rfl (uv _ _) ?_))
 go_region_law (refine KY rfl (.tmp 50) (.tmp 53) 136 136 rfl (.slice (some ⟨w.heap.size,(i+1)*5,none⟩) (n - i) (G - (i+1))) (.slice (some ⟨b,i*5,none⟩) (n - i) (n - i)) (by simp [Act.eval,Act.put]) (by simp [Act.eval,Act.put]) (ux _ _ _) ?_)
 go_wp2_with fail
 go_ret
 exact ⟨_,rfl,cB.out⟩
theorem uA (w:World) (B:Nat) (a0:Option Addr) (n c0:Nat) (xs:List Value) (h:w.ownsRow B 128 5 (.slice a0 n c0) n xs) (hB:B<=w.heap.size) (h1:∀u∈xs,u.oneCell'=true) (i:Nat) (hi:i<=n) (vb:Nat) (pv:List Value) (vc:Nat) (hvb:w.heap[vb]? =some (.cells pv.toArray 128 (0,0))) (hpl:pv.length=5) (ke:∀u∈pv,u.oneCell'=true) (hbig:n<=1000000) (hne:Value.ownBlock (.slice a0 n c0)≠some vb):
    Calls Tryz.prog 147 #[.slice a0 n c0,.int .i64 i,.slice (some ⟨vb,0,none⟩) 1 vc] w fun e w'=>∃r,e=.returned r/\CG w w' (.slice a0 n c0) r B (n+1) (xs.take (i*5)++pv++xs.drop (i*5)):=by
 by_cases hin:i=n
 · subst hin
   rw [<-h.1,zQ2,List.drop_length,List.append_nil]
   exact YA w B _ i xs a0 c0 rfl h hB vb pv vc hvb hpl ke hbig
 · obtain ⟨g,cap,cur,e,hBg,hg,hnc,CC,hcl,hx⟩:=rP h (by omega)
   cases e
   subst hx
   by_cases hr:n<c0
   · exact YC w B g n c0 i cur hg hBg hr CC hcl (by omega) vb pv vc hvb hpl ke h1 hbig (fun e=>hne (by rw [e];rfl))
   · obtain rfl:c0=n:=by omega
     have hw:cur.take (c0*5)=cur:=zQ7 (by omega)
     rw [hw] at h1 ⊢
     exact YD w B g c0 i cur hg hB hcl (by omega) vb pv vc hvb hpl ke h1 hbig
theorem YE:(Tryz.prog.info? 128).map (fun i=>(i.zero,i.size,i.bytes))=some (some (.agg #[.int .i64 0,.int .i64 0,.int .i64 0,.string ⟨#[]⟩,.string ⟨#[]⟩]),5,56):=by kernel_rfl
theorem YF (w:World):(zeroValue 128).run Tryz.prog w=.ok (.agg #[.int .i64 0,.int .i64 0,.int .i64 0,.string ⟨#[]⟩,.string ⟨#[]⟩]) w:=by kernel_rfl
theorem Td:(Value.cells (.agg #[.int .i64 0,.int .i64 0,.int .i64 0,.string ⟨#[]⟩,.string ⟨#[]⟩])).size=5:=by kernel_rfl
theorem uB:∀v∈(Value.cells (.agg #[.int .i64 0,.int .i64 0,.int .i64 0,.string ⟨#[]⟩,.string ⟨#[]⟩])).toList,v.oneCell'=true:=by
 have h:(Value.cells (.agg #[.int .i64 0,.int .i64 0,.int .i64 0,.string ⟨#[]⟩,.string ⟨#[]⟩])).toList.all (fun v=>v.oneCell')=true:=by kernel_rfl
 exact fun v hv=>zX2.1 h v hv
theorem uC (w:World) (B q i:Nat) (a0:Option Addr) (c0:Nat) (xs:List Value) (h:w.ownsRow B 128 5 (.slice a0 (q+1) c0) (q+1) xs) (h1:∀u∈xs,u.oneCell'=true) (hi:i<=q) (hbig:q<=1000000):
    Calls Tryz.prog 148 #[.slice a0 (q+1) c0,.int .i64 i,.int .i64 ((i:Int)+1)] w fun e w'=>e=.returned (.slice a0 q c0)/\w'.ownsRow B 128 5 (.slice a0 q c0) q (xs.take (i*5)++xs.drop ((i+1)*5))/\w.grownBy w' (Value.ownBlock (.slice a0 (q+1) c0)):=by
 obtain ⟨i0,hi0,hz0,hzs,hzb⟩:=info_parts YE
 obtain ⟨b,c,cur,e,hBb,hb,hnc,hc,hcl,hx⟩:=rP h (by omega)
 cases e
 subst hx
 obtain ⟨D,hD⟩:∃D,D=(cur.take ((q+1)*5)).drop ((i+1)*5):=⟨_,rfl⟩
 have hDl:D.length=(q - i)*5:=by rw [hD];simp;omega
 have hrun:∀ty a sc,(D≠[]->a=⟨b,(i+1)*5,none⟩)->(Builtin.append_ #[136,136] ty #[.slice (some ⟨b,0,none⟩) i c0,.slice (some a) (q - i) sc]).run Tryz.prog w.drew=.ok (.slice (some ⟨b,0,none⟩) q c0) (w.drew.setRow b (cz cur (i*5) D).toArray):=fun ty a sc ha=>by
  have h:=run_append_room (P:=Tryz.prog) w.drew 136 ty 128 i0 Tryz.underlying136 hi0 b i c0 cur.toArray hb a (q - i) sc D (by rw [hzs];exact hDl)
   (fun j u hj=>by
    have hne:D≠[]:=fun e=>by rw [e] at hj;cases hj
    rw [ha hne,Addr.add_lit]
    show w.cell? _=_
    rw [fA hb]
    rw [hD,List.getElem?_drop,List.getElem?_take] at hj
    split at hj
    · exact hj
    · cases hj)
   (fun u hu=>h1 u (by rw [hD] at hu;exact zX7 hu)) (by omega) (by rw [hzs,hDl];simp;omega)
  rw [show i+(q - i)=q by omega,hzs] at h
  rw [h]
  simp [cz]
 obtain ⟨W1,hW1⟩:∃W1,W1=w.drew.setRow b (cz cur (i*5) D).toArray:=⟨_,rfl⟩
 have hll:(cz cur (i*5) D).length=c0*5:=by rw [qN _ _ _ (by rw [hDl];omega),hcl]
 have pK:W1.heap[b]? =some (.cells (cz cur (i*5) D).toArray 128 (0,0)):=by rw [hW1];exact setRow_heap w.drew b _ _ _ _ hb
 rw [<-hW1] at hrun
 have kP:∀ty sc,(Builtin.clear_ #[136] ty #[.slice (some ⟨b,q*5,none⟩) 1 sc]).run Tryz.prog W1=.ok (.tuple #[]) (W1.setRow b (cz (cz cur (i*5) D) (q*5) (Builtin.zeroCells (Value.cells (.agg #[.int .i64 0,.int .i64 0,.int .i64 0,.string ⟨#[]⟩,.string ⟨#[]⟩])) 1).toList).toArray):=fun ty sc=>
  SY W1 136 128 ty _ 5 Tryz.underlying136 YF Td uB b (q*5) sc _ 128 pK (by rw [hll];omega)
 obtain ⟨Z,hZ⟩:∃Z,Z=(Builtin.zeroCells (Value.cells (.agg #[.int .i64 0,.int .i64 0,.int .i64 0,.string ⟨#[]⟩,.string ⟨#[]⟩])) 1).toList:=⟨_,rfl⟩
 have uD:Z.length=5:=by rw [hZ,Array.length_toList,size_zeroCells,Td]
 rw [<-hZ] at kP
 obtain ⟨W2,hW2⟩:∃W2,W2=W1.setRow b (cz (cz cur (i*5) D) (q*5) Z).toArray:=⟨_,rfl⟩
 rw [<-hW2] at kP
 have cB:Hid (W2.ownsRow B 128 5 (.slice (some ⟨b,0,none⟩) q c0) q ((cur.take ((q+1)*5)).take (i*5)++(cur.take ((q+1)*5)).drop ((i+1)*5))/\w.grownBy W2 (some b)):=by
  refine ⟨na (cur:=cz (cz cur (i*5) D) (q*5) Z) hBb (by rw [hW2];exact setRow_heap _ _ _ _ _ _ pK) (by omega) hc (by rw [qN _ _ _ (by rw [uD,hll];omega),hll]) ?_,?_⟩
  · rw [KW _ _ _ _ (zZ3 _) (by rw [hll];omega),show q*5=i*5+D.length by rw [hDl];omega,Fw _ _ _ (by omega),hD,List.take_take]
    congr 2
    omega
  · have g1:w.grownBy W1 (some b):=by rw [hW1];exact (show w.grownBy w.drew (some b) from ⟨rfl,rfl,rfl,zZ3 _,fun _ _ _=>rfl⟩).trans (A5 w.drew b _)
    rw [hW2];exact g1.trans (A5 W1 b _)
 have cE:=af hrun
 have hDn:c0=i+1->D=[]:=fun e=>zX1 (by rw [hDl];omega)
 have qP:=af hDn
 have z1:((i:Int)==(i:Int)+1)=false:=beq_eq_false_iff_ne.2 (by omega)
 have z2:(0:Int)<=(i:Int)+1:=by omega
 have z3:((i:Int)+1).toNat=i+1:=by omega
 have z4:(i:Int)+1<=(q:Int)+1:=by omega
 have z5:(i:Int)<=(i:Int)+1:=by omega
 have z6:q+1<=c0:=hnc
 have z7:¬(c0=q):=by omega
 have z8:¬(c0=i):=by omega
 have z9:(i:Int)<=(c0:Int):=by omega
 have z10:i<=q+1:=by omega
 have Nz:i<=c0:=by omega
 have z12:¬((i:Int)=(i:Int)+1):=by omega
 clear hrun hDn hDl hD hW1 hll pK hZ uD hW2 hb hcl h h1 hnc
 by_cases jQ:c0=i+1
 · obtain rfl:i=q:=by omega
   subst jQ
   have hr0:∀ty sc,(Builtin.append_ #[136,136] ty #[.slice (some ⟨b,0,none⟩) i (i+1),.slice (some ⟨b,0,none⟩) 0 sc]).run Tryz.prog w.drew=.ok (.slice (some ⟨b,0,none⟩) i (i+1)) W1:=fun ty sc=>by
    have:=cE.out ty ⟨b,0,none⟩ sc (fun hne=>absurd (qP.out rfl) hne)
    rwa [Nat.sub_self] at this
   clear cE qP
   go_in
   go_wp2_with fail
   go_region_law (refine KZ rfl (.tmp 22) (.tmp 25) 136 136 rfl (.slice (some ⟨b,0,none⟩) i (i+1)) (.slice (some ⟨b,0,none⟩) 0 0) (by simp [Act.eval,Act.put]) (by simp [Act.eval,Act.put]) (hr0 _ _) ?_)
   go_wp2_with fail
   go_ret
   exact ⟨rfl,cB.out⟩
 · have hr0:∀ty sc,(Builtin.append_ #[136,136] ty #[.slice (some ⟨b,0,none⟩) i c0,.slice (some ⟨b,(i+1)*5,none⟩) (q - i) sc]).run Tryz.prog w.drew=.ok (.slice (some ⟨b,0,none⟩) q c0) W1:=fun ty sc=>cE.out ty ⟨b,(i+1)*5,none⟩ sc (fun _=>rfl)
   clear cE qP
   go_in
   go_wp2_with fail
   go_region_law (refine KZ rfl (.tmp 22) (.tmp 25) 136 136 rfl (.slice (some ⟨b,0,none⟩) i c0) (.slice (some ⟨b,(i+1)*5,none⟩) (q - i) (c0 - (i+1))) (by simp [Act.eval,Act.put]) (by simp [Act.eval,Act.put]) (hr0 _ _) ?_)
   go_wp2_with fail
   go_ret
   exact ⟨rfl,cB.out⟩
def Cg.same (c:Cg):Bool:=(c.wk.toList==c.nk.toList) && (c.wv.toList==c.nv.toList) && (c.wn==c.nn) && (c.had==c.has)
theorem z3T (a b:Pr):a=b↔a.key=b.key/\a.val=b.val/\a.di=b.di:=by
 obtain ⟨a1,a2,a3⟩:=a
 obtain ⟨b1,b2,b3⟩:=b
 simp
theorem z0j {a b:ByteArray} (h:a.toList=b.toList):a=b:=by
 rw [zQ3,zQ3] at h
 obtain ⟨⟨x⟩⟩:=a
 obtain ⟨⟨y⟩⟩:=b
 exact congrArg (fun l:List UInt8=>(⟨⟨l⟩⟩:ByteArray)) h
theorem VR (a b:ByteArray):(a.toList==b.toList)=decide (a=b):=by
 by_cases q:a=b
 · subst q;simp
 · rw [decide_eq_false q,beq_eq_false_iff_ne]
   exact fun t=>q (z0j t)
theorem VS (c:Cg) (w:World):Calls Tryz.prog 37 #[c.agg] w fun e w'=>e=.returned (.bool c.same)/\ae w w':=by
 unfold Cg.same
 obtain ⟨c0,c1,c2,c3,c4,c5,c6,c7,c8,c9⟩:=c
 unfold Cg.agg
 dsimp only
 go_in
 go_wp2_with fail
 all_goals (go_ret;exact ⟨bt (by simp_all),(ae.rf w).alloc _⟩)
theorem xa (c:Cg):c.same=true↔c.was=c.now/\c.had=c.has:=by
 unfold Cg.same
 rw [VR,VR]
 simp only [Bool.and_eq_true,decide_eq_true_eq,beq_iff_eq,z3T,Cg.was,Cg.now,and_assoc]
theorem MI {w:World} {B b cap:Nat} {xs:List Cg} (h:w.ownsRow B 90 10 (.slice (some ⟨b,0,none⟩) xs.length cap) xs.length (eB xs)) (j:Nat) (hj:j<xs.length):
    w.cell? ⟨b,j*10,none⟩=some (.int .i64 (bA xs j).at_)/\w.cell? ⟨b,j*10+1,none⟩=some (.string (bA xs j).key)/\w.cell? ⟨b,j*10+2,none⟩=some (.string (bA xs j).wk)/\w.cell? ⟨b,j*10+3,none⟩=some (.string (bA xs j).wv)/\w.cell? ⟨b,j*10+4,none⟩=some (.int .i64 (bA xs j).wn)/\w.cell? ⟨b,j*10+5,none⟩=some (.string (bA xs j).nk)/\w.cell? ⟨b,j*10+6,none⟩=some (.string (bA xs j).nv)/\w.cell? ⟨b,j*10+7,none⟩=some (.int .i64 (bA xs j).nn)/\w.cell? ⟨b,j*10+8,none⟩=some (.bool (bA xs j).had)/\w.cell? ⟨b,j*10+9,none⟩=some (.bool (bA xs j).has):=by
 have key:∀i,i<10->w.cell? ⟨b,j*10+i,none⟩=(bA xs j).vals[i]? :=fun i hi=>by
  rw [h.cellAt (j*10+i) (by omega),lR i hi xs j hj]
 exact ⟨key 0 (by omega),key 1 (by omega),key 2 (by omega),key 3 (by omega),key 4 (by omega),key 5 (by omega),key 6 (by omega),key 7 (by omega),key 8 (by omega),key 9 (by omega)⟩
theorem Jz (B b cap:Nat) (xs:List Cg) (w:World) (hA:w.ownsRow B 90 10 (.slice (some ⟨b,0,none⟩) xs.length cap) xs.length (eB xs)) (hx:xs.length<=1000000):
    Calls Tryz.prog 79 #[.slice (some ⟨b,0,none⟩) xs.length cap,.func (.func 37) #[] #[]] w fun e w'=>e=.returned (.int .i64 (b7 Cg.same xs))/\ae w w':=by
 have HP:=af VS
 have HA:=af hA
 clear hA
 go_in
 go_wp2_with fail
 go_loopw [8] (fun i wr=>∃k:Nat,k<=xs.length/\i=.int .i64 k/\Hid ((xs.take k).all (fun c=>!Cg.same c)=true)/\ae w wr) (fun i _=>xs.length - (intOf i).toNat)
 case atStart=>exact ⟨0,Nat.zero_le _,rfl,rfl,ae.rf w⟩
 case round=>
  obtain ⟨k,hk1,rfl,HN,hG⟩:=hrel
  by_cases aq:k<xs.length
  · obtain ⟨q0,q1,q2,q3,q4,q5,q6,q7,q8,q9⟩:=MI (gI hG HA.out) k aq
    have HC:=af (HP.out (bA xs k))
    have hat:bA xs k=xs[k]:=VQ xs k aq
    have HS:=af (tU Cg.same xs k aq HN.out)
    have eI:=af (yR Cg.same xs k aq HN.out)
    rw [<-hat] at HS eI
    clear hat
    generalize bA xs k=c at *
    unfold Cg.agg at HC
    generalize hsm:Cg.same c=sm at *
    obtain ⟨c0,c1,c2,c3,c4,c5,c6,c7,c8,c9⟩:=c
    dsimp only at *
    cases sm with
    | true=>
     have dt:=af (HS.out (by trivial))
     clear hsm HS eI
     go_wp2_with fail
     refine (HC.out _).mono ?_
     rintro e w1 ⟨rfl,aA⟩
     go_wp2_with fail
     go_ret
     exact ⟨fV dt.out.symm,hG.trans aA⟩
    | false=>
     have dt:=af (eI.out (by trivial))
     clear hsm HS eI
     go_wp2_with fail
     refine (HC.out _).mono ?_
     rintro e w1 ⟨rfl,aA⟩
     go_wp2_with fail
     go_roundw
     case rel=>exact ⟨k+1,by omega,by go_num,dt,hG.trans aA⟩
     case measure=>simp [intOf];omega
  · obtain rfl:k=xs.length:=by omega
    have HE:=af (rL Cg.same xs (by have:=HN.out;rwa [zQ2] at this))
    go_wp2_with fail
    go_ret
    exact ⟨fV HE.out.symm,hG⟩
theorem z0b (L:List Cg) (i:Nat) (hi:i<L.length) (c:Cg):eB (L.set i c)=(((((((((((eB L).set (i*10) (.int .i64 c.at_)).set (i*10+1) (.string c.key)).set (i*10+2) (.string c.wk)).set (i*10+3) (.string c.wv)).set (i*10+4) (.int .i64 c.wn)).set (i*10+5) (.string c.nk)).set (i*10+6) (.string c.nv)).set (i*10+7) (.int .i64 c.nn)).set (i*10+8) (.bool c.had)).set (i*10+9) (.bool c.has)):=by
 apply zK1
 intro j
 by_cases hj:j<L.length*10
 · obtain ⟨q,r,hr,rfl⟩:∃q r,r<10/\j=q*10+r:=⟨j / 10,j % 10,Nat.mod_lt _ (by omega),by omega⟩
   have hq:q<L.length:=by omega
   rw [lR r hr (L.set i c) q (by rw [List.length_set];exact hq)]
   have hl:(eB L).length=L.length*10:=Am L
   rw [zK2,zK2,zK2,zK2,zK2,zK2,zK2,zK2,zK2,zK2]
   simp only [List.length_set,hl]
   by_cases JA:q=i
   · subst JA
     have:bA (L.set q c) q=c:=by unfold bA;rw [List.getElem?_set_self hi];rfl
     rw [this]
     match r,hr with
     | 0,_=>rw [zZ0 (by omega),zZ0 (by omega),zZ0 (by omega),zZ0 (by omega),zZ0 (by omega),zZ0 (by omega),zZ0 (by omega),zZ0 (by omega),zZ0 (by omega),zZ1 (by omega),zZ1 (by omega)];rfl
     | 1,_=>rw [zZ0 (by omega),zZ0 (by omega),zZ0 (by omega),zZ0 (by omega),zZ0 (by omega),zZ0 (by omega),zZ0 (by omega),zZ0 (by omega),zZ1 (by omega),zZ1 (by omega)];rfl
     | 2,_=>rw [zZ0 (by omega),zZ0 (by omega),zZ0 (by omega),zZ0 (by omega),zZ0 (by omega),zZ0 (by omega),zZ0 (by omega),zZ1 (by omega),zZ1 (by omega)];rfl
     | 3,_=>rw [zZ0 (by omega),zZ0 (by omega),zZ0 (by omega),zZ0 (by omega),zZ0 (by omega),zZ0 (by omega),zZ1 (by omega),zZ1 (by omega)];rfl
     | 4,_=>rw [zZ0 (by omega),zZ0 (by omega),zZ0 (by omega),zZ0 (by omega),zZ0 (by omega),zZ1 (by omega),zZ1 (by omega)];rfl
     | 5,_=>rw [zZ0 (by omega),zZ0 (by omega),zZ0 (by omega),zZ0 (by omega),zZ1 (by omega),zZ1 (by omega)];rfl
     | 6,_=>rw [zZ0 (by omega),zZ0 (by omega),zZ0 (by omega),zZ1 (by omega),zZ1 (by omega)];rfl
     | 7,_=>rw [zZ0 (by omega),zZ0 (by omega),zZ1 (by omega),zZ1 (by omega)];rfl
     | 8,_=>rw [zZ0 (by omega),zZ1 (by omega),zZ1 (by omega)];rfl
     | 9,_=>rw [zZ1 (by omega),zZ1 (by omega)];rfl
   · have:bA (L.set i c) q=bA L q:=by unfold bA;rw [List.getElem?_set_ne (fun e=>JA e.symm)]
     rw [this,zZ0 (by omega),zZ0 (by omega),zZ0 (by omega),zZ0 (by omega),zZ0 (by omega),zZ0 (by omega),zZ0 (by omega),zZ0 (by omega),zZ0 (by omega),zZ0 (by omega),lR r hr L q hq]
 · have h1:(eB (L.set i c)).length=L.length*10:=by rw [Am,List.length_set]
   rw [zJ1 (by omega),zJ1]
   simp only [List.length_set]
   rw [Am];omega
theorem Ao (w:World):(zeroValue 90).run Tryz.prog w=.ok (.agg #[.int .i64 0,.string ⟨#[]⟩,.string ⟨#[]⟩,.string ⟨#[]⟩,.int .i64 0,.string ⟨#[]⟩,.string ⟨#[]⟩,.int .i64 0,.bool false,.bool false]) w:=by kernel_rfl
theorem BO:(Value.cells (.agg #[.int .i64 0,.string ⟨#[]⟩,.string ⟨#[]⟩,.string ⟨#[]⟩,.int .i64 0,.string ⟨#[]⟩,.string ⟨#[]⟩,.int .i64 0,.bool false,.bool false])).size=10:=by kernel_rfl
theorem JB:∀v∈(Value.cells (.agg #[.int .i64 0,.string ⟨#[]⟩,.string ⟨#[]⟩,.string ⟨#[]⟩,.int .i64 0,.string ⟨#[]⟩,.string ⟨#[]⟩,.int .i64 0,.bool false,.bool false])).toList,v.oneCell'=true:=by
 have h:(Value.cells (.agg #[.int .i64 0,.string ⟨#[]⟩,.string ⟨#[]⟩,.string ⟨#[]⟩,.int .i64 0,.string ⟨#[]⟩,.string ⟨#[]⟩,.int .i64 0,.bool false,.bool false])).toList.all (fun v=>v.oneCell')=true:=by kernel_rfl
 exact fun v hv=>zX2.1 h v hv
def ig (xs:List Cg):List Cg:=xs.filter fun c=>!c.same
theorem Ex (B b cap:Nat) (xs:List Cg) (w:World) (hA:w.ownsRow B 90 10 (.slice (some ⟨b,0,none⟩) xs.length cap) xs.length (eB xs)) (hx:xs.length<=1000000):
    Calls Tryz.prog 36 #[.slice (some ⟨b,0,none⟩) xs.length cap,.func (.func 37) #[] #[]] w fun e w'=>e=.returned (.slice (some ⟨b,0,none⟩) (ig xs).length cap)/\w'.ownsRow B 90 10 (.slice (some ⟨b,0,none⟩) (ig xs).length cap) (ig xs).length (eB (ig xs))/\aj (fun j=>j=b) w w':=by
 have hbb:b<w.heap.size:=by
  rcases hA.2 with ⟨h,_⟩ | ⟨g,c,cur,h,_,hq,_⟩
  · cases h
  · cases h;exact (zZ2.1 hq).1
 have HI:=af (Jz B b cap xs w hA hx)
 have HP:=af VS
 have HA:=af hA
 have hlen:xs.length<=cap:=by
  rcases hA.2 with ⟨h,_⟩ | ⟨g,c,cur,h,_,_,hq,_⟩
  · cases h
  · cases h;exact hq
 clear hA
 rcases wF Cg.same xs with ⟨e1,n1⟩ | ⟨i0,hi0,e1,p1,p2⟩
 · have hall:ig xs=xs:=by
    unfold ig
    rw [List.filter_eq_self]
    intro c hc
    have:=zZ9.1 n1 c hc
    simpa using this
   rw [e1] at HI
   rw [hall]
   clear e1 n1 hall
   go_in
   go_wp2_with fail
   refine HI.out.mono ?_
   rintro e w1 ⟨rfl,hg⟩
   have HG:=af hg
   clear hg
   go_wp2_with fail
   go_ret
   exact ⟨rfl,gI HG.out HA.out,HG.out.only _⟩
 · rw [e1] at HI
   have PS:Hid (xs.take i0=ig (xs.take (i0+1))):=by
    unfold Hid ig
    rw [zZ6 hi0,List.filter_append]
    have h1:(xs.take i0).filter (fun c=>!c.same)=xs.take i0:=by
     rw [List.filter_eq_self]
     exact fun c hc=>zX2.1 p2 c hc
    have h2:[xs[i0]].filter (fun c=>!c.same)=[]:=by simp [p1]
    rw [h1,h2,List.append_nil]
   have d1:((i0:Int)== -1)=false:=by rw [beq_eq_false_iff_ne];omega
   have d2:¬((i0:Int)= -1):=by omega
   clear e1 p1 p2
   go_in
   go_wp2_with fail
   refine HI.out.mono ?_
   rintro e w1 ⟨rfl,hg⟩
   have HG:=af hg
   clear hg HI
   go_wp2_with fail
   go_loopw [5,6] (fun i j wr=>∃(i' j':Nat) (L:List Cg),i'<j'/\j'<=xs.length/\i=.int .i64 i'/\j=.int .i64 j'/\Hid (L.length=xs.length)/\Hid (L.take i'=ig (xs.take j')/\L.drop j'=xs.drop j')/\Hid (wr.ownsRow B 90 10 (.slice (some ⟨b,0,none⟩) xs.length cap) xs.length (eB L))/\Hid (aj (fun j=>j=b) w wr)) (fun _ j _=>xs.length - (intOf j).toNat)
   case atStart=>exact ⟨i0,i0+1,xs,by omega,by omega,rfl,by go_num,rfl,⟨PS.out,rfl⟩,gI HG.out HA.out,HG.out.only _⟩
   case round=>
    obtain ⟨i,j,L,hij,Mn,rfl,rfl,HL,HT,HR,HO⟩:=hrel
    obtain ⟨w2,rfl⟩:∃w2:World,w2=wr:=⟨_,rfl⟩
    have wJ:=HR.out
    have DV:=HL.out
    by_cases aq:j<xs.length
    · have oP:bA L j=xs[j]:=by
       have h1:(L.drop j)[0]? =(xs.drop j)[0]? :=by rw [HT.out.2]
       rw [List.getElem?_drop,List.getElem?_drop,zX3,List.getElem?_eq_getElem aq] at h1
       unfold bA;rw [h1];rfl
      rw [<-DV] at wJ
      obtain ⟨q0,q1,q2,q3,q4,q5,q6,q7,q8,q9⟩:=MI wJ j (by omega)
      have hN1:Cg.same (bA L j)=true->L.take i=ig (xs.take (j+1)):=fun h=>by
       rw [HT.out.1]
       unfold ig
       rw [zZ6 aq,List.filter_append,<-oP]
       have:[bA L j].filter (fun c=>!c.same)=[]:=by simp [h]
       rw [this,List.append_nil]
      have CQ:Cg.same (bA L j)=false->(L.set i (bA L j)).take (i+1)=ig (xs.take (j+1)):=fun h=>by
       unfold ig
       rw [zZ6 aq,List.filter_append,<-oP]
       have:[bA L j].filter (fun c=>!c.same)=[bA L j]:=by simp [h]
       rw [this,zZ6 (by rw [List.length_set];omega),List.getElem_set_self,List.take_set_of_le (zZ3 _),HT.out.1]
       rfl
      have DW:L.drop (j+1)=xs.drop (j+1):=by
       have:=congrArg (List.drop 1) HT.out.2
       rwa [List.drop_drop,List.drop_drop] at this
      have uW:(L.set i (bA L j)).drop (j+1)=xs.drop (j+1):=by rw [List.drop_set_of_lt (by omega),DW]
      have IY:=z0b L i (by omega) (bA L j)
      have DX:=af hN1
      have eI:=af CQ
      have IZ:=af DW
      have I0:=af uW
      have I1:=af IY
      have HC:=af (HP.out (bA L j))
      clear hN1 CQ DW uW IY oP HT wJ
      generalize bA L j=c at *
      unfold Cg.agg at HC
      generalize hsm:Cg.same c=sm at *
      obtain ⟨c0,c1,c2,c3,c4,c5,c6,c7,c8,c9⟩:=c
      dsimp only at *
      have PT:b<w2.heap.size:=ltT hbb HO.out.size
      have tj:(i:Int)<(xs.length:Int):=by omega
      cases sm with
      | true=>
       have HX:=af (DX.out (by trivial))
       clear hsm DX eI I0 I1
       go_wp2_with fail
       refine (HC.out _).mono ?_
       rintro e w3 ⟨rfl,hg3⟩
       have ey:=af (((ae.rf w2).alloc _).trans hg3)
       clear hg3 q0 q1 q2 q3 q4 q5 q6 q7 q8 q9 HC
       go_wp2_with fail
       go_roundw
       case rel=>exact ⟨i,j+1,L,by omega,by omega,rfl,by go_num,HL,⟨HX.out,IZ.out⟩,gI ey.out HR.out,HO.out.then (ey.out.only _)⟩
       case measure=>simp [intOf];omega
      | false=>
       have HX:=af (eI.out (by trivial))
       clear hsm DX eI IZ
       go_wp2_with fail
       refine (HC.out _).mono ?_
       rintro e w3 ⟨rfl,hg3⟩
       have ey:=af (((ae.rf w2).alloc _).trans hg3)
       have hz3:w2.heap.size<(w2.alloc (Obj.cells #[.int .i64 c0,.string c1,.string c2,.string c3,.int .i64 c4,.string c5,.string c6,.int .i64 c7,.bool c8,.bool c9] 90)).heap.size:=by simp
       have s0:w3.cell? ⟨w2.heap.size,0,none⟩=some (.int .i64 c0):=(hg3.cells.1 _ _ hz3).trans (by simp [go_sem])
       have s1:w3.cell? ⟨w2.heap.size,1,none⟩=some (.string c1):=(hg3.cells.1 _ _ hz3).trans (by simp [go_sem])
       have s2:w3.cell? ⟨w2.heap.size,2,none⟩=some (.string c2):=(hg3.cells.1 _ _ hz3).trans (by simp [go_sem])
       have s3:w3.cell? ⟨w2.heap.size,3,none⟩=some (.string c3):=(hg3.cells.1 _ _ hz3).trans (by simp [go_sem])
       have s4:w3.cell? ⟨w2.heap.size,4,none⟩=some (.int .i64 c4):=(hg3.cells.1 _ _ hz3).trans (by simp [go_sem])
       have s5:w3.cell? ⟨w2.heap.size,5,none⟩=some (.string c5):=(hg3.cells.1 _ _ hz3).trans (by simp [go_sem])
       have s6:w3.cell? ⟨w2.heap.size,6,none⟩=some (.string c6):=(hg3.cells.1 _ _ hz3).trans (by simp [go_sem])
       have s7:w3.cell? ⟨w2.heap.size,7,none⟩=some (.int .i64 c7):=(hg3.cells.1 _ _ hz3).trans (by simp [go_sem])
       have s8:w3.cell? ⟨w2.heap.size,8,none⟩=some (.bool c8):=(hg3.cells.1 _ _ hz3).trans (by simp [go_sem])
       have s9:w3.cell? ⟨w2.heap.size,9,none⟩=some (.bool c9):=(hg3.cells.1 _ _ hz3).trans (by simp [go_sem])
       have mU:=gI ey.out HR.out
       have FR:=af mU
       have I2:L.length=xs.length:=HL.out
       rw [<-I2] at mU
       obtain ⟨r0,r1,r2,r3,r4,r5,r6,r7,r8,r9⟩:=MI mU i (by omega)
       have f0:w3.frozen? ⟨b,i*10,none⟩=false:=mU.frozenAt _
       have f1:w3.frozen? ⟨b,i*10+1,none⟩=false:=mU.frozenAt _
       have f2:w3.frozen? ⟨b,i*10+2,none⟩=false:=mU.frozenAt _
       have f3:w3.frozen? ⟨b,i*10+3,none⟩=false:=mU.frozenAt _
       have f4:w3.frozen? ⟨b,i*10+4,none⟩=false:=mU.frozenAt _
       have f5:w3.frozen? ⟨b,i*10+5,none⟩=false:=mU.frozenAt _
       have f6:w3.frozen? ⟨b,i*10+6,none⟩=false:=mU.frozenAt _
       have f7:w3.frozen? ⟨b,i*10+7,none⟩=false:=mU.frozenAt _
       have f8:w3.frozen? ⟨b,i*10+8,none⟩=false:=mU.frozenAt _
       have f9:w3.frozen? ⟨b,i*10+9,none⟩=false:=mU.frozenAt _
       clear hg3 q0 q1 q2 q3 q4 q5 q6 q7 q8 q9 HC mU I2 hz3
       go_wp2_with fail
       go_roundw
       case rel=>
        obtain ⟨r1,g1⟩:=FR.out.stored (i*10) (.int .i64 c0)
        obtain ⟨r2,g2⟩:=r1.stored (i*10+1) (.string c1)
        obtain ⟨r3,g3⟩:=r2.stored (i*10+2) (.string c2)
        obtain ⟨r4,g4⟩:=r3.stored (i*10+3) (.string c3)
        obtain ⟨r5,g5⟩:=r4.stored (i*10+4) (.int .i64 c4)
        obtain ⟨r6,g6⟩:=r5.stored (i*10+5) (.string c5)
        obtain ⟨r7,g7⟩:=r6.stored (i*10+6) (.string c6)
        obtain ⟨r8,g8⟩:=r7.stored (i*10+7) (.int .i64 c7)
        obtain ⟨r9,g9⟩:=r8.stored (i*10+8) (.bool c8)
        obtain ⟨r10,g10⟩:=r9.stored (i*10+9) (.bool c9)
        refine ⟨i+1,j+1,L.set i ⟨c0,c1,c2,c3,c4,c5,c6,c7,c8,c9⟩,by omega,by omega,by go_num,by go_num,af (by rw [List.length_set];exact HL.out),⟨HX.out,I0.out⟩,af ?_,af ?_⟩
        · rw [I1.out];exact r10
        · exact (HO.out.then (ey.out.only _)).then ((aj.of_grownBy (g1.trans (g2.trans (g3.trans (g4.trans (g5.trans (g6.trans (g7.trans (g8.trans (g9.trans (g10))))))))))).mono fun j hj=> .inl (Option.some.inj hj))
       case measure=>simp [intOf];omega
    · obtain rfl:j=xs.length:=by omega
      have hti:=HT.out.1
      rw [zQ2] at hti
      have hni:(ig xs).length=i:=by rw [<-hti,List.length_take,DV];omega
      obtain ⟨b',c',cur,e',hBb,hb',hnc,hcm,hcl,F8⟩:=rP wJ (by omega)
      cases e'
      have kP:∀ty sc,(Builtin.clear_ #[42] ty #[.slice (some ⟨b,i*10,none⟩) (xs.length - i) sc]).run Tryz.prog w2=.ok (.tuple #[]) (w2.setRow b (cz cur (i*10) (Builtin.zeroCells (Value.cells (.agg #[.int .i64 0,.string ⟨#[]⟩,.string ⟨#[]⟩,.string ⟨#[]⟩,.int .i64 0,.string ⟨#[]⟩,.string ⟨#[]⟩,.int .i64 0,.bool false,.bool false])) (xs.length - i)).toList).toArray):=fun ty sc=>
       UU w2 42 90 ty _ 10 (xs.length - i) Tryz.underlying42 Ao (by omega) BO JB b (i*10) sc _ 90 hb' (by rw [hcl];omega) (by omega)
      obtain ⟨Z,hZ⟩:∃Z,Z=(Builtin.zeroCells (Value.cells (.agg #[.int .i64 0,.string ⟨#[]⟩,.string ⟨#[]⟩,.string ⟨#[]⟩,.int .i64 0,.string ⟨#[]⟩,.string ⟨#[]⟩,.int .i64 0,.bool false,.bool false])) (xs.length - i)).toList:=⟨_,rfl⟩
      have uD:Z.length=(xs.length - i)*10:=by rw [hZ,Array.length_toList,size_zeroCells,BO]
      rw [<-hZ] at kP
      obtain ⟨W2,hW2⟩:∃W2,W2=w2.setRow b (cz cur (i*10) Z).toArray:=⟨_,rfl⟩
      rw [<-hW2] at kP
      have cB:Hid (W2.ownsRow B 90 10 (.slice (some ⟨b,0,none⟩) i cap) i (eB (ig xs))/\aj (fun j=>j=b) w W2):=by
       refine ⟨na (cur:=cz cur (i*10) Z) hBb (by rw [hW2];exact setRow_heap _ _ _ _ _ _ hb') (by omega) hcm (by rw [qN _ _ _ (by rw [uD,hcl];omega),hcl]) ?_,?_⟩
       · rw [KW _ _ _ _ (zZ3 _) (by rw [hcl];omega),<-hti,z0n,<-F8,List.take_take,zX4 (by omega)]
       · rw [hW2];exact HO.out.then (Fx w2 b _)
      have z1:(i:Int)<=(xs.length:Int):=by omega
      have z2:i<=xs.length:=by omega
      have z3:i<=cap:=by omega
      have z4:(i:Int)<=(cap:Int):=by omega
      have z5:¬cap=i:=by omega
      have I3:=af hni
      clear hti hni hb' hcl F8 hZ uD hW2 wJ DV HT hnc hcm hBb
      go_wp2_with fail
      go_ret
      exact ⟨by rw [I3.out];rfl,by rw [I3.out];exact cB.out.1,cB.out.2⟩
theorem z2H (L:List Cg) (i:Nat) (hi:i<L.length) (p:Pr) (b:Bool):eB (L.set i ⟨(bA L i).at_,(bA L i).key,(bA L i).wk,(bA L i).wv,(bA L i).wn,p.key,p.val,p.di,(bA L i).had,b⟩)=((((eB L).set (i*10+5) (.string p.key)).set (i*10+6) (.string p.val)).set (i*10+7) (.int .i64 p.di)).set (i*10+9) (.bool b):=by
 apply zK1
 intro j
 by_cases hj:j<L.length*10
 · obtain ⟨q,r,hr,rfl⟩:∃q r,r<10/\j=q*10+r:=⟨j / 10,j % 10,Nat.mod_lt _ (by omega),by omega⟩
   have hq:q<L.length:=by omega
   rw [lR r hr (L.set i _) q (by rw [List.length_set];exact hq)]
   have hl:(eB L).length=L.length*10:=Am L
   rw [zK2,zK2,zK2,zK2]
   simp only [List.length_set,hl]
   by_cases JA:q=i
   · subst JA
     have e:∀c:Cg,bA (L.set q c) q=c:=fun c=>by unfold bA;rw [List.getElem?_set_self hi];rfl
     rw [e]
     match r,hr with
     | 0,_=>rw [zZ0 (by omega),zZ0 (by omega),zZ0 (by omega),zZ0 (by omega),lR 0 (by omega) L q hq];rfl
     | 1,_=>rw [zZ0 (by omega),zZ0 (by omega),zZ0 (by omega),zZ0 (by omega),lR 1 (by omega) L q hq];rfl
     | 2,_=>rw [zZ0 (by omega),zZ0 (by omega),zZ0 (by omega),zZ0 (by omega),lR 2 (by omega) L q hq];rfl
     | 3,_=>rw [zZ0 (by omega),zZ0 (by omega),zZ0 (by omega),zZ0 (by omega),lR 3 (by omega) L q hq];rfl
     | 4,_=>rw [zZ0 (by omega),zZ0 (by omega),zZ0 (by omega),zZ0 (by omega),lR 4 (by omega) L q hq];rfl
     | 5,_=>rw [zZ0 (by omega),zZ0 (by omega),zZ0 (by omega),zZ1 (by omega),zZ1 (by omega)];rfl
     | 6,_=>rw [zZ0 (by omega),zZ0 (by omega),zZ1 (by omega),zZ1 (by omega)];rfl
     | 7,_=>rw [zZ0 (by omega),zZ1 (by omega),zZ1 (by omega)];rfl
     | 8,_=>rw [zZ0 (by omega),zZ0 (by omega),zZ0 (by omega),zZ0 (by omega),lR 8 (by omega) L q hq];rfl
     | 9,_=>rw [zZ1 (by omega),zZ1 (by omega)];rfl
   · have e:∀c:Cg,bA (L.set i c) q=bA L q:=fun c=>by unfold bA;rw [List.getElem?_set_ne (fun e=>JA e.symm)]
     rw [e,zZ0 (by omega),zZ0 (by omega),zZ0 (by omega),zZ0 (by omega),lR r hr L q hq]
 · have h1:∀c:Cg,(eB (L.set i c)).length=L.length*10:=fun c=>by rw [Am,List.length_set]
   rw [zJ1 (by rw [h1];omega),zJ1]
   simp only [List.length_set]
   rw [Am];omega
theorem VT:(Tryz.prog.info? 90).map (fun i=>(i.zero,i.size,i.bytes))=some (some (.agg #[.int .i64 0,.string ⟨#[]⟩,.string ⟨#[]⟩,.string ⟨#[]⟩,.int .i64 0,.string ⟨#[]⟩,.string ⟨#[]⟩,.int .i64 0,.bool false,.bool false]),10,112):=by kernel_rfl
theorem y6N {w:World} {B:Nat} {v:Value} {m:Nat} {ys:List Cg} (aD:w.ownsRow B 90 10 v m (eB ys)) (c:Cg) {b:Nat} (hc:∀q u,c.vals[q]? =some u->w.cell? ⟨b,q,none⟩=some u) (hbig:m<=1000000) (hB:B<=w.heap.size) (ty:TypeId):
    ∃g cap w',(Builtin.append_ #[42,42] ty #[v,.slice (some ⟨b,0,none⟩) 1 1]).run Tryz.prog w=.ok (.slice (some ⟨g,0,none⟩) (m+1) cap) w'/\w'.ownsRow B 90 10 (.slice (some ⟨g,0,none⟩) (m+1) cap) (m+1) (eB (ys++[c]))/\w.grownBy w' v.ownBlock:=by
 obtain ⟨i0,hi0,hz0,hz1,hz2⟩:=info_parts VT
 obtain ⟨g,cap2,w2,h1,h2,h3,_,_⟩:=run_append_lies (P:=Tryz.prog) (w:=w) 42 ty B 90 i0 _ 10 112 Tryz.underlying42 hi0 hz0 hz1 hz2 rfl (by omega) v m (eB ys) aD ⟨b,0,none⟩ 1 1 c.vals rfl (fun j u hj=>by rw [Addr.add_lit,zK0];exact hc j u hj) (QF c) (by omega) (by unfold maxLen;omega) (by omega) hB _ rfl
 refine ⟨g,cap2,w2,h1,?_,h3⟩
 rw [MH,QD]
 exact h2
theorem VU:(Tryz.prog.info? 103).map (fun i=>(i.zero,i.size,i.bytes))=some (some (.agg #[.int .i64 0,.string ⟨#[]⟩,.string ⟨#[]⟩,.string ⟨#[]⟩,.int .i64 0,.string ⟨#[]⟩,.string ⟨#[]⟩,.int .i64 0,.bool false,.bool false]),10,112):=by kernel_rfl
theorem y6K {w:World} {B:Nat} {v:Value} {m:Nat} {ys:List Cg} (aD:w.ownsRow B 103 10 v m (eB ys)) (c:Cg) {b:Nat} (hc:∀q u,c.vals[q]? =some u->w.cell? ⟨b,q,none⟩=some u) (hbig:m<=1000000) (hB:B<=w.heap.size) (ty:TypeId):
    ∃g cap w',(Builtin.append_ #[45,45] ty #[v,.slice (some ⟨b,0,none⟩) 1 1]).run Tryz.prog w=.ok (.slice (some ⟨g,0,none⟩) (m+1) cap) w'/\w'.ownsRow B 103 10 (.slice (some ⟨g,0,none⟩) (m+1) cap) (m+1) (eB (ys++[c]))/\w.grownBy w' v.ownBlock:=by
 obtain ⟨i0,hi0,hz0,hz1,hz2⟩:=info_parts VU
 obtain ⟨g,cap2,w2,h1,h2,h3,_,_⟩:=run_append_lies (P:=Tryz.prog) (w:=w) 45 ty B 103 i0 _ 10 112 Tryz.underlying45 hi0 hz0 hz1 hz2 rfl (by omega) v m (eB ys) aD ⟨b,0,none⟩ 1 1 c.vals rfl (fun j u hj=>by rw [Addr.add_lit,zK0];exact hc j u hj) (QF c) (by omega) (by unfold maxLen;omega) (by omega) hB _ rfl
 refine ⟨g,cap2,w2,h1,?_,h3⟩
 rw [MH,QD]
 exact h2
theorem QG {w:World} {T:TypeId} {b:Nat} {c:Cg} (h:w.heap[b]? =some (.cells c.vals.toArray T (0,0))):∀q u,c.vals[q]? =some u->w.cell? ⟨b,q,none⟩=some u:=fun q u hq=>by
 rw [cell_of_row w b q _ _ _ h];simpa using hq
theorem Ap (xs:List Cg) (k:Nat) (h:k<xs.length):xs.take (k+1)=xs.take k++[bA xs k]:=by
 rw [zZ6 h,VQ xs k h]
theorem xc (a:Option Addr) (cap:Nat) (xs:List Cg) (w:World) (hA:ft w a xs) (hx:xs.length<=1000000):
    Calls Tryz.prog 14 #[.slice a xs.length cap] w fun e w'=>ae w w'/\∃a' c',e=.returned (.slice a' xs.length c')/\ft w' a' xs:=by
 have HA:=af hA
 clear hA
 go_in
 go_wp2_with fail
 obtain ⟨Y,hY⟩:∃Y,Y=w.alloc (.cells #[] 103):=⟨_,rfl⟩
 have gY:ae w Y:=by rw [hY];exact (ae.rf w).alloc _
 have hr0:Y.ownsRow w.heap.size 103 10 (.slice (some ⟨w.heap.size,0,none⟩) 0 0) 0 (eB []):=by rw [hY];exact na (cur:=[]) (zZ3 _) (heap_alloc_new w _) (zZ3 _) (by decide) rfl rfl
 have JG:=af hr0
 rw [<-hY]
 clear hY hr0
 go_loopw [3,9] (fun v i wr=>∃k:Nat,k<=xs.length/\i=.int .i64 k/\Hid (wr.ownsRow w.heap.size 103 10 v k (eB (xs.take k)))/\ae w wr) (fun _ i _=>xs.length - (intOf i).toNat)
 case atStart=>exact ⟨0,Nat.zero_le _,rfl,JG,gY⟩
 case round=>
  obtain ⟨k,hk1,rfl,HV,hG⟩:=hrel
  obtain ⟨wo,rfl⟩:∃wo:World,wo=wr:=⟨_,rfl⟩
  by_cases aq:k<xs.length
  · rcases HA.out with h0 | ⟨b,off,rfl,hb,hR⟩
    · rw [h0] at aq;simp at aq
    have q0:=(hG.cells.1 b (off+k*10) hb).trans (hR.at_ k aq)
    have q1:=(hG.cells.1 b (off+k*10+1) hb).trans (hR.key k aq)
    have q2:=(hG.cells.1 b (off+k*10+2) hb).trans (hR.wk k aq)
    have q3:=(hG.cells.1 b (off+k*10+3) hb).trans (hR.wv k aq)
    have q4:=(hG.cells.1 b (off+k*10+4) hb).trans (hR.wn k aq)
    have q5:=(hG.cells.1 b (off+k*10+5) hb).trans (hR.nk k aq)
    have q6:=(hG.cells.1 b (off+k*10+6) hb).trans (hR.nv k aq)
    have q7:=(hG.cells.1 b (off+k*10+7) hb).trans (hR.nn k aq)
    have q8:=(hG.cells.1 b (off+k*10+8) hb).trans (hR.had k aq)
    have q9:=(hG.cells.1 b (off+k*10+9) hb).trans (hR.has k aq)
    have kg:=af (Ap xs k aq)
    clear hR
    generalize bA xs k=c at *
    obtain ⟨c0,c1,c2,c3,c4,c5,c6,c7,c8,c9⟩:=c
    dsimp only at *
    obtain ⟨Z,hZ⟩:∃Z,Z=(wo.alloc (.cells #[.int .i64 c0,.string c1,.string c2,.string c3,.int .i64 c4,.string c5,.string c6,.int .i64 c7,.bool c8,.bool c9] 90)).alloc (.cells #[.int .i64 c0,.string c1,.string c2,.string c3,.int .i64 c4,.string c5,.string c6,.int .i64 c7,.bool c8,.bool c9] 103):=⟨_,rfl⟩
    have gZ:ae wo Z:=by rw [hZ];exact ((ae.rf wo).alloc _).alloc _
    have hblk:Z.heap[wo.heap.size+1]? =some (.cells (Cg.vals ⟨c0,c1,c2,c3,c4,c5,c6,c7,c8,c9⟩).toArray 103 (0,0)):=by
     have:=heap_alloc_new (wo.alloc (.cells #[.int .i64 c0,.string c1,.string c2,.string c3,.int .i64 c4,.string c5,.string c6,.int .i64 c7,.bool c8,.bool c9] 90)) (.cells #[.int .i64 c0,.string c1,.string c2,.string c3,.int .i64 c4,.string c5,.string c6,.int .i64 c7,.bool c8,.bool c9] 103)
     rw [show (wo.alloc (.cells #[.int .i64 c0,.string c1,.string c2,.string c3,.int .i64 c4,.string c5,.string c6,.int .i64 c7,.bool c8,.bool c9] 90)).heap.size=wo.heap.size+1 by simp] at this
     rw [hZ];exact this
    obtain ⟨g,cp,W2,hrun,aD,hgb⟩:=y6K (gI gZ HV.out) _ (QG hblk) (by omega) (hG.trans gZ).size 45
    rw [<-kg.out] at aD
    have cE:=af hrun
    have HOWN:=af aD
    have ki:=af ((((hG.trans gZ).only _).then (aj.of_grownBy hgb)).ag fun j hj=>(HV.out.lt j hj.symm).1)
    have HZ:=af hZ
    clear hrun aD hgb hblk kg HV gZ hZ
    go_wp2_with (at_builtin;rw [<-HZ.out];refine Lib.wpList_append_run _ rfl _ _ _ _ rfl _ _ rfl rfl _ _ cE.out ?_)
    clear q0 q1 q2 q3 q4 q5 q6 q7 q8 q9 cE
    go_wp2_with fail
    go_roundw
    case rel=>exact ⟨k+1,by omega,by go_num,HOWN,ki.out⟩
    case measure=>simp [intOf];omega
  · obtain rfl:k=xs.length:=by omega
    have aI:=HV.out
    rw [zQ2] at aI
    obtain ⟨a',c',rfl,hC⟩:=QE aI
    have HC:=af hC
    clear aI HV hC
    go_wp2_with fail
    go_ret
    exact ⟨hG,a',c',rfl,HC.out⟩
end
end Go.Proofs.YtbnofojapimfcaaGreatDoor
