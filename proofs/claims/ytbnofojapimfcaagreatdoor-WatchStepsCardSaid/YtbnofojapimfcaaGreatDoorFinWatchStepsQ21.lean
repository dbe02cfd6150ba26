/- Part 21 of the proof. -/
import Derived.Test.YtbnofojapimfcaaGreatDoorFinWatchStepsQ13
import Derived.Test.YtbnofojapimfcaaGreatDoorFinWatchStepsQ15
import Derived.Test.YtbnofojapimfcaaGreatDoorFinWatchStepsQ17
set_option linter.unusedVariables false
set_option linter.unusedSectionVars false
set_option linter.unusedSimpArgs false
set_option maxRecDepth 100000
set_option maxHeartbeats 16000000
namespace Go.Proofs.YtbnofojapimfcaaGreatDoor
section
open Go.RowKit Go.Maps
attribute [local go_sem] Oper.semAt_some
def oD (w:World) (tb:Nat) (xs:List Pr):Prop:=∃a cap,w.cell? ⟨tb,0,none⟩=some (.slice a xs.length cap)/\lI w a xs
theorem oD.ag {w w':World} {tb:Nat} {xs:List Pr} (h:oD w tb xs) (g:ae w w'):oD w' tb xs:=by
 obtain ⟨a,cap,h1,h2⟩:=h
 exact ⟨a,cap,(g.cells.1 _ _ (aN h1)).trans h1,h2.ag g⟩
theorem TR {a b:ByteArray} (h:a.toList=b.toList):a=b:=by
 rw [zQ3,zQ3] at h
 obtain ⟨⟨a⟩⟩:=a
 obtain ⟨⟨b⟩⟩:=b
 exact congrArg (fun l:List UInt8=>(⟨⟨l⟩⟩:ByteArray)) h
def Pl.isK (k:ByteArray) (c:Pr):Bool:=c.key.toList==k.toList
theorem Pl.fN (k:ByteArray) (c:Pr):Pl.isK k c=true↔c.key=k:=by
 unfold Pl.isK
 rw [beq_iff_eq]
 exact ⟨TR,fun h=>by rw [h]⟩
theorem OD {w:World} {tb:Nat} {xs:List Pr} (h:oD w tb xs) (hx:xs.length<=1000000) (key:ByteArray):
    Calls Tryz.prog 61 #[.pointer (some ⟨tb,0,none⟩),.string key] w fun e w'=>e=.returned (.int .i64 (b7 (Pl.isK key) xs))/\ae w w':=by
 obtain ⟨a,cap,c0,hA⟩:=h
 have dR:=aN c0
 have HA:=af hA
 clear hA
 go_in
 go_wp2_with fail
 go_loopw [12] (fun i wr=>∃k:Nat,k<=xs.length/\i=.int .i64 k/\Hid ((xs.take k).all (fun c=>!Pl.isK key c)=true)/\ae w wr) (fun i _=>xs.length - (intOf i).toNat)
 case atStart=>exact ⟨0,Nat.zero_le _,rfl,rfl,ae.rf w⟩
 case round=>
  obtain ⟨k,hk1,rfl,HN,hG⟩:=hrel
  by_cases aq:k<xs.length
  · rcases HA.out with h0 | ⟨b,off,rfl,hb,hR⟩
    · rw [h0] at aq;simp at aq
    have q0:=(hG.cells.1 b (off+k*3) hb).trans (hR.key k aq)
    have q1:=(hG.cells.1 b (off+k*3+1) hb).trans (hR.val k aq)
    have q2:=(hG.cells.1 b (off+k*3+2) hb).trans (hR.di k aq)
    have hat:ay xs k=xs[k]:=jt xs k aq
    have HS:=af (tU (Pl.isK key) xs k aq HN.out)
    have eI:=af (yR (Pl.isK key) xs k aq HN.out)
    rw [<-hat] at HS eI
    clear hat hR
    generalize ay xs k=c at *
    obtain ⟨ck,cv,cn⟩:=c
    dsimp only at *
    cases hpc:(ck.toList==key.toList) with
    | true=>
     have dt:=af (HS.out hpc)
     clear HS eI
     go_wp2_with fail
     go_ret
     exact ⟨fV dt.out.symm,hG.alloc _⟩
    | false=>
     have dt:=af (eI.out hpc)
     clear HS eI
     go_wp2_with fail
     go_roundw
     case rel=>exact ⟨k+1,by omega,by go_num,dt,hG.alloc _⟩
     case measure=>simp [intOf];omega
  · obtain rfl:k=xs.length:=by omega
    have HE:=af (rL (Pl.isK key) xs (by have:=HN.out;rwa [zQ2] at this))
    go_wp2_with fail
    go_ret
    exact ⟨fV HE.out.symm,hG⟩
theorem vB {α:Type} (p:α->Bool) (xs:List α):(b7 p xs= -1/\xs.find? p=none)\/∃i:Nat,∃h:i<xs.length,b7 p xs=(i:Nat)/\xs.find? p=some xs[i]:=by
 unfold b7
 cases h:xs.findIdx? p with
 | none=>
  refine .inl ⟨rfl,?_⟩
  rw [zJ2] at h
  rw [List.find?_eq_none]
  intro x hx;simpa using h x hx
 | some i=>
  obtain ⟨hi,h1,h2⟩:=zJ3.1 h
  refine .inr ⟨i,hi,rfl,?_⟩
  rw [List.find?_eq_some_iff_getElem]
  exact ⟨h1,i,hi,rfl,fun j hj=>by simpa using h2 j hj⟩
theorem LO {w:World} {tb:Nat} {xs:List Pr} (h:oD w tb xs) (hx:xs.length<=1000000) (key:ByteArray):
    Calls Tryz.prog 27 #[.pointer (some ⟨tb,0,none⟩),.string key] w fun e w'=>e=.returned (.tuple #[((xs.find? (Pl.isK key)).getD Pr.none).agg,.bool (xs.find? (Pl.isK key)).isSome])/\ae w w':=by
 have HF:=af (fun W (g:ae w W)=>OD (h.ag g) hx key)
 obtain ⟨a,cap,c0,hA⟩:=h
 have dR:=aN c0
 have HA:=af hA
 clear hA
 rcases vB (Pl.isK key) xs with ⟨e1,e2⟩ | ⟨i,hi,e1,e2⟩
 · rw [e1] at HF
   rw [e2]
   clear e1 e2
   go_in
   go_wp2_with fail
   refine (HF.out _ ((ae.rf w).alloc _)).mono ?_
   rintro e w1 ⟨rfl,hg⟩
   have hz:w.heap.size<w1.heap.size:=by have:=hg.size;simp at this;omega
   obtain ⟨hc,hf⟩:=hg.cells
   go_wp2_with fail
   refine bodyPost_ret (v:=.tuple #[Pr.none.agg,.bool false]) (by simp [results,Tryz.results27,go_sem,hc,hz,Pr.agg,Pr.none]) rfl ⟨rfl,?_⟩
   have hG:=((ae.rf w).alloc _).trans hg
   refine ((hG.setCell ?_ _).setCell ?_ _).setCell ?_ _<;> exact zZ3 _
 · rw [e1] at HF
   rw [e2]
   rcases HA.out with h0 | ⟨b,off,rfl,hb,hR⟩
   · rw [h0] at hi;simp at hi
   have hat:ay xs i=xs[i]:=jt xs i hi
   have q0:=hR.key i hi
   have q1:=hR.val i hi
   have q2:=hR.di i hi
   rw [<-hat]
   clear hat hR e1 e2
   generalize ay xs i=c at *
   obtain ⟨ck,cv,cn⟩:=c
   dsimp only at *
   have hneg:¬(i:Int)<0:=by omega
   have Zv:(i:Int)<(xs.length:Int):=by omega
   go_in
   go_wp2_with fail
   refine (HF.out _ ((ae.rf w).alloc _)).mono ?_
   rintro e w1 ⟨rfl,hg⟩
   have hz:w.heap.size<w1.heap.size:=by have:=hg.size;simp at this;omega
   obtain ⟨hc,hf⟩:=hg.cells
   have hG:=((ae.rf w).alloc (Obj.cells #[.string ⟨#[]⟩,.string ⟨#[]⟩,.int .i64 0] 80)).trans hg
   have c1:=(hG.cells.1 _ _ dR).trans c0
   have r0:=(hG.cells.1 _ _ hb).trans q0
   have r1:=(hG.cells.1 _ _ hb).trans q1
   have r2:=(hG.cells.1 _ _ hb).trans q2
   have Hy:=ltT dR hG.size
   have hb1:=ltT hb hG.size
   go_wp2_with fail
   refine bodyPost_ret (v:=.tuple #[.agg #[.string ck,.string cv,.int .i64 cn],.bool true]) (by simp [results,Tryz.results27,go_sem,hc,hz]) rfl ⟨rfl,?_⟩
   refine ((hG.setCell ?_ _).setCell ?_ _).setCell ?_ _<;> exact zZ3 _
structure JS (y:World) (pv A C:List Value) (k n:Nat) (L:Nat->Bool) (f:Nat->Value) (x:World):Prop where
 ag:ae y x
 o4:L 4=true->L 0=true
 o7:L 7=true->L 4=true/\L 6=true
 Dg:L 11=true->L 7=true
 r0:L 0=true->L 4=false->x.ownsRow y.heap.size 80 3 (f 0) 0 []
 r6:L 6=true->L 7=false->∃vb,f 6=.slice (some ⟨vb,0,none⟩) 1 1/\y.heap.size<=vb/\x.heap[vb]? =some (.cells pv.toArray 80 (0,0))/\(L 0=true->L 4=false->(f 0).ownBlock≠some vb)/\(L 4=true->(f 4).ownBlock≠some vb)
 r4:L 4=true->L 7=false->x.ownsRow y.heap.size 80 3 (f 4) k A
 r7:L 7=true->L 11=false->x.ownsRow y.heap.size 80 3 (f 7) (k+1) (A++pv)
 tD:L 11=true->x.ownsRow y.heap.size 80 3 (f 11) (n+1) (A++pv++C)
section
variable {y x x':World} {pv A C:List Value} {k n:Nat} {L:Nat->Bool} {f:Nat->Value}
theorem JS.start (y:World):JS y pv A C k n (fun _=>false) f y.drew:=
 ⟨(ae.rf y).drew,(fun h=>by cases h),(fun h=>by cases h),(fun h=>by cases h),(fun h=>by cases h),(fun h=>by cases h),(fun h=>by cases h),(fun h=>by cases h),(fun h=>by cases h)⟩
theorem qY {b:Bool} (h:b=true->False):b=false:=by cases b;rfl;exact (h rfl).elim
theorem JS.s0 (h:JS y pv A C k n L f x) (hL:L 0=false):JS y pv A C k n (plus L 0) (bB f 0 (.slice (some ⟨x.heap.size,0,none⟩) 0 0)) (x.alloc (.cells #[] 80)):=by
 have l4:L 4=false:=qY fun h4=>by rw [h.o4 h4] at hL;cases hL
 have l7:L 7=false:=qY fun h7=>by rw [(h.o7 h7).1] at l4;cases l4
 have Di:L 11=false:=qY fun h11=>by rw [h.Dg h11] at l7;cases l7
 refine ⟨h.ag.alloc _,fun _=>rfl,h.o7,h.Dg,fun _ _=>?_,fun h6 h7=>?_,fun h4=>?_,fun h7=>?_,fun h11=>?_⟩
 · exact ⟨rfl,.inr ⟨x.heap.size,0,#[],rfl,h.ag.size,heap_alloc_new x _,zZ3 _,Nat.zero_le _,rfl,rfl⟩⟩
 · obtain ⟨vb,e1,e2,e3,_,e5⟩:=h.r6 h6 h7
   have aq:vb<x.heap.size:=(zZ2.1 e3).1
   refine ⟨vb,e1,e2,(Below.heap_alloc _ _ vb aq).trans e3,fun _ _ e=>?_,e5⟩
   have:x.heap.size=vb:=by simpa [fT,Value.ownBlock] using e
   omega
 · change L 4=true at h4;rw [l4] at h4;cases h4
 · change L 7=true at h7;rw [l7] at h7;cases h7
 · change L 11=true at h11;rw [Di] at h11;cases h11
theorem JS.s6 (h:JS y pv A C k n L f x) (hL:L 6=false):JS y pv A C k n (plus L 6) (bB f 6 (.slice (some ⟨x.heap.size,0,none⟩) 1 1)) (x.alloc (.cells pv.toArray 80)):=by
 have l7:L 7=false:=qY fun h7=>by rw [(h.o7 h7).2] at hL;cases hL
 have Di:L 11=false:=qY fun h11=>by rw [h.Dg h11] at l7;cases l7
 have hG:ae x (x.alloc (.cells pv.toArray 80)):=(ae.rf x).alloc _
 refine ⟨h.ag.alloc _,h.o4,fun h7=>?_,h.Dg,fun h0 h4=>gI hG (h.r0 h0 h4),fun _ _=>⟨x.heap.size,fT _ _ _,h.ag.size,heap_alloc_new x _,fun h0 h4 e=>?_,fun h4 e=>?_⟩,fun h4 h7=>gI hG (h.r4 h4 h7),fun h7=>?_,fun h11=>?_⟩
 · change L 7=true at h7;rw [l7] at h7;cases h7
 · have:=((h.r0 h0 h4).lt x.heap.size e).2;omega
 · have:=((h.r4 h4 l7).lt x.heap.size e).2;omega
 · change L 7=true at h7;rw [l7] at h7;cases h7
 · change L 11=true at h11;rw [Di] at h11;cases h11
theorem JS.s4 (h:JS y pv A C k n L f x) (hL:L 4=false) (h0:L 0=true) {r:Value} (aI:x'.ownsRow y.heap.size 80 3 r k A) (hg:x.grownBy x' (f 0).ownBlock) (ho:∀g,r.ownBlock=some g->(f 0).ownBlock=some g\/g=x.heap.size):JS y pv A C k n (plus L 4) (bB f 4 r) x':=by
 have l7:L 7=false:=qY fun h7=>by rw [(h.o7 h7).1] at hL;cases hL
 have Di:L 11=false:=qY fun h11=>by rw [h.Dg h11] at l7;cases l7
 have hr0:=h.r0 h0 hL
 have hG:ae y x':=((h.ag.only _).then (aj.of_grownBy hg)).ag fun j hj=>(hr0.lt j hj.symm).1
 refine ⟨hG,fun _=>h0,fun h7=>?_,h.Dg,(fun _ h4=>by cases h4),fun h6 _=>?_,fun _ _=>aI,fun h7=>?_,fun h11=>?_⟩
 · change L 7=true at h7;rw [l7] at h7;cases h7
 · obtain ⟨vb,e1,e2,e3,e4,_⟩:=h.r6 h6 l7
   have aq:vb<x.heap.size:=(zZ2.1 e3).1
   have hne:=e4 h0 hL
   refine ⟨vb,e1,e2,(hg.block vb aq (fun e=>hne e.symm)).trans e3,(fun _ h4=>by cases h4),fun _ e=>?_⟩
   have e':r.ownBlock=some vb:=e
   rcases ho vb e' with h1 | h1
   · exact hne h1
   · omega
 · change L 7=true at h7;rw [l7] at h7;cases h7
 · change L 11=true at h11;rw [Di] at h11;cases h11
theorem JS.s7 (h:JS y pv A C k n L f x) (hL:L 7=false) (h4:L 4=true) (h6:L 6=true) {r:Value} (aI:x'.ownsRow y.heap.size 80 3 r (k+1) (A++pv)) (hg:x.grownBy x' (f 4).ownBlock):JS y pv A C k n (plus L 7) (bB f 7 r) x':=by
 have Di:L 11=false:=qY fun h11=>by rw [h.Dg h11] at hL;cases hL
 have hG:ae y x':=((h.ag.only _).then (aj.of_grownBy hg)).ag fun j hj=>((h.r4 h4 hL).lt j hj.symm).1
 refine ⟨hG,h.o4,fun _=>⟨h4,h6⟩,fun _=>rfl,fun _ h4'=>?_,(fun _ h7=>by cases h7),(fun _ h7=>by cases h7),fun _ _=>aI,fun h11=>?_⟩
 · change L 4=false at h4';rw [h4] at h4';cases h4'
 · change L 11=true at h11;rw [Di] at h11;cases h11
theorem JS.TS (h:JS y pv A C k n L f x) (hL:L 11=false) (h7:L 7=true) {r:Value} (aI:x'.ownsRow y.heap.size 80 3 r (n+1) (A++pv++C)) (hg:x.grownBy x' (f 7).ownBlock):JS y pv A C k n (plus L 11) (bB f 11 r) x':=by
 have hG:ae y x':=((h.ag.only _).then (aj.of_grownBy hg)).ag fun j hj=>((h.r7 h7 hL).lt j hj.symm).1
 refine ⟨hG,h.o4,h.o7,fun _=>h7,fun _ h4'=>?_,fun _ Dm=>?_,fun _ Dm=>?_,(fun _ h11=>by cases h11),fun _=>aI⟩
 · change L 4=false at h4';rw [(h.o7 h7).1] at h4';cases h4'
 · change L 7=false at Dm;rw [h7] at Dm;cases Dm
 · change L 7=false at Dm;rw [h7] at Dm;cases Dm
end
namespace Pl
theorem TT {zs:List Pr} (h:ct zs) {p:Pr} (hp:aF p.key=0) (hd:∀c∈zs,c.key≠p.key) (k:Nat) (hk:k<=zs.length) (h1:∀j,k<=j->j<zs.length->0<bE (ay zs j).key p.key) (h2:0<k->¬0<bE (ay zs (k - 1)).key p.key):ct (zs.take k++[p]++zs.drop k):=by
 have ok:=iF hp
 refine ⟨?_,?_⟩
 · intro c hc
   simp only [List.mem_append,List.mem_singleton] at hc
   rcases hc with (hc | rfl) | hc
   · exact h.key c (zX6 hc)
   · exact hp
   · exact h.key c (zX7 hc)
 · rw [List.append_assoc,List.pairwise_append]
   refine ⟨h.gD.sublist (List.take_sublist _ _),?_,?_⟩
   · rw [List.singleton_append,List.pairwise_cons]
     refine ⟨fun c hc=>?_,h.gD.sublist (List.drop_sublist _ _)⟩
     obtain ⟨j,hj,rfl⟩:=zQ1 hc
     rw [zQ8] at hj
     have:=h1 (k+j) (by omega) (by omega)
     rw [jt zs (k+j) (by omega)] at this
     rw [List.getElem_drop,qM (iF (h.key _ (zQ5 _))) ok]
     omega
   · intro a ha b hb
     obtain ⟨j,hj,rfl⟩:=zQ1 ha
     rw [List.length_take] at hj
     have hk0:0<k:=by omega
     have Zw:=iF (h.key _ (zQ5 (l:=zs) (n:=j) (by omega)))
     have hlast:bE (ay zs (k - 1)).key p.key<0:=by
      have hm:=Bh zs (k - 1) (by omega)
      have h3:=h2 hk0
      have h4:bE (ay zs (k - 1)).key p.key≠0:=fun e=>hd _ hm (ug (iF (h.key _ hm)) ok e)
      omega
     have aq:bE (zs[j]).key p.key<0:=by
      rcases Nat.lt_or_ge j (k - 1) with aq | hge
      · have h5:=zX0.1 h.gD j (k - 1) (by omega) (by omega) aq
        rw [jt zs (k - 1) (by omega)] at hlast
        exact pH Zw (iF (h.key _ (zQ5 _))) ok h5 hlast
      · obtain rfl:j=k - 1:=by omega
        rwa [jt zs (k - 1) (by omega)] at hlast
     rw [List.getElem_take]
     rw [List.singleton_append] at hb
     rcases List.mem_cons.1 hb with rfl | hb
     · exact aq
     · obtain ⟨i,hi,rfl⟩:=zQ1 hb
       rw [zQ8] at hi
       rw [List.getElem_drop]
       exact zX0.1 h.gD j (k+i) (by omega) (by omega) (by omega)
theorem LP (zs:List Pr) (p:Pr) (k:Nat):(zs.take k++[p]++zs.drop k).Perm (zs++[p]):=by
 rw [List.append_assoc]
 have h1:([p]++zs.drop k).Perm (zs.drop k++[p]):=List.perm_append_comm
 have h2:=List.Perm.append_left (zs.take k) h1
 rw [<-List.append_assoc (zs.take k) (zs.drop k),List.take_append_drop] at h2
 exact h2
end Pl
theorem OE {W:World} {a:Option Addr} {xs:List Pr} (h:lI W a xs) (i:Nat):lI W a (xs.take i):=by
 rcases h with h | ⟨b,off,e,hb,h⟩
 · exact .inl (by rw [h];simp)
 · exact .inr ⟨b,off,e,hb,h.take i⟩
theorem OG {W:World} {b off:Nat} {xs:List Pr} (h:lI W (some ⟨b,off,none⟩) xs) (i:Nat):lI W (some ⟨b,off+i*3,none⟩) (xs.drop i):=by
 rcases h with h | ⟨b',off',e,hb,h⟩
 · exact .inl (by rw [h];simp)
 · cases e;exact .inr ⟨b,off+i*3,rfl,hb,h.drop i⟩
theorem OH {W:World} {vb:Nat} {p:Pr} (h:W.heap[vb]? =some (.cells p.vals.toArray 80 (0,0))):lI W (some ⟨vb,0,none⟩) [p]:=by
 refine .inr ⟨vb,0,rfl,(zZ2.1 h).1,?_,?_,?_⟩<;> intro j hj<;> (obtain rfl:j=0:=by simp at hj;omega)<;> (rw [fA h];rfl)
theorem OI (xs:List Pr) (k:Nat) (h:k<xs.length):xs.take (k+1)=xs.take k++[ay xs k]:=by
 rw [zZ6 h,jt xs k h]
theorem Zx {w:World} {tb:Nat} {xs:List Pr} (h:oD w tb xs) (hx:xs.length<=1000000) (hk:∀c∈xs,Pl.aF c.key=0) (hd:xs.Pairwise fun a b=>a.key≠b.key):
    Calls Tryz.prog 39 #[.pointer (some ⟨tb,0,none⟩)] w fun e w'=>(∃v zs,e=.returned v/\zs.Perm xs/\Pl.ct zs/\w'.ownsRow w.heap.size 80 3 v zs.length (bM zs))/\ae w w':=by
 obtain ⟨a,cap,c0,hA⟩:=h
 have dR:=aN c0
 have HA:=af hA
 have HK:=af hk
 have HD:=af hd
 clear hA hk hd
 go_in
 go_wp2_with fail
 go_loopw [3,13] (fun v i wr=>∃(k:Nat) (zs:List Pr) (g:Nat) (cp:Nat),k<=xs.length/\v=.slice (some ⟨g,0,none⟩) k cp/\i=.int .i64 k/\Hid (zs.Perm (xs.take k)/\Pl.ct zs/\zs.length=k)/\wr.ownsRow w.heap.size 80 3 (.slice (some ⟨g,0,none⟩) k cp) k (bM zs)/\ae w wr) (fun _ i _=>xs.length - (intOf i).toNat)
 case atStart=>exact ⟨0,[],w.heap.size,0,Nat.zero_le _,rfl,rfl,⟨by simp,Pl.Ou,rfl⟩,⟨rfl,.inr ⟨w.heap.size,0,#[],rfl,zZ3 _,heap_alloc_new w _,zZ3 _,Nat.zero_le _,rfl,rfl⟩⟩,(ae.rf w).alloc _⟩
 case round=>
  obtain ⟨k,zs,g,cp,hk1,rfl,rfl,HZ,aD,hG⟩:=hrel
  by_cases aq:k<xs.length
  · rcases HA.out with h0 | ⟨b,off,rfl,hb,hR⟩
    · rw [h0] at aq;simp at aq
    have q0:=(hG.cells.1 b (off+k*3) hb).trans (hR.key k aq)
    have q1:=(hG.cells.1 b (off+k*3+1) hb).trans (hR.val k aq)
    have q2:=(hG.cells.1 b (off+k*3+2) hb).trans (hR.di k aq)
    have HT:=af (OI xs k aq)
    have hmem:=Pl.Bh xs k aq
    have LQ:=af (HK.out _ hmem)
    have Hz:Hid (∀c∈zs,c.key≠(ay xs k).key):=fun c hc=>by
     have hc':=HZ.out.1.mem_iff.1 hc
     obtain ⟨j,hj,rfl⟩:=zQ1 hc'
     rw [List.length_take] at hj
     rw [List.getElem_take,jt xs k aq]
     exact zX0.1 HD.out j k (by omega) aq (by omega)
    clear hR hmem
    generalize ay xs k=p at *
    obtain ⟨pk,pv,pn⟩:=p
    dsimp only at *
    obtain ⟨wo,rfl⟩:∃wo:World,wo=wr:=⟨_,rfl⟩
    go_wp2_with fail
    have k0:(wo.alloc (.cells #[.string pk,.string pv,.int .i64 pn] 80)).cell? ⟨wo.heap.size,0,none⟩=some (.string pk):=by simp [go_sem]
    have k1:(wo.alloc (.cells #[.string pk,.string pv,.int .i64 pn] 80)).cell? ⟨wo.heap.size,1,none⟩=some (.string pv):=by simp [go_sem]
    have k2:(wo.alloc (.cells #[.string pk,.string pv,.int .i64 pn] 80)).cell? ⟨wo.heap.size,2,none⟩=some (.int .i64 pn):=by simp [go_sem]
    have hz1:wo.heap.size<(wo.alloc (.cells #[.string pk,.string pv,.int .i64 pn] 80)).heap.size:=by simp
    have jr:ae w (wo.alloc (.cells #[.string pk,.string pv,.int .i64 pn] 80)):=hG.alloc _
    have Zy:k<=cp:=by
     rcases aD.2 with ⟨h,_⟩ | ⟨g',c',cur,h,_,_,hq,_⟩
     · cases h
     · cases h;exact hq
    have aA:g<(wo.alloc (.cells #[.string pk,.string pv,.int .i64 pn] 80)).heap.size:=by
     rcases aD.2 with ⟨h,_⟩ | ⟨g',c',cur,h,_,hq,_⟩
     · cases h
     · cases h;have:=(zZ2.1 hq).1;simp;omega
    obtain ⟨B,hB⟩:∃B,B=wo.alloc (.cells #[.string pk,.string pv,.int .i64 pn] 80):=⟨_,rfl⟩
    have HOWN:Hid (B.ownsRow w.heap.size 80 3 (.slice (some ⟨g,0,none⟩) k cp) k (bM zs)):=by rw [hB];exact gI ((ae.rf wo).alloc (.cells #[.string pk,.string pv,.int .i64 pn] 80)) aD
    rw [<-hB] at k0 k1 k2 hz1 jr aA ⊢
    obtain ⟨pb,hpb⟩:∃pb,pb=wo.heap.size:=⟨_,rfl⟩
    rw [<-hpb] at k0 k1 k2 hz1 ⊢
    have qZ:=af HZ.out.2.2
    have hk6:k<1000000:=by omega
    clear hB aD hpb hG q0 q1 q2
    go_loopw [6] (fun i wx=>∃m:Nat,m<=k/\i=.int .i64 m/\Hid (∀j,m<=j->j<k->0<Pl.bE (ay zs j).key pk)/\ae B wx) (fun i _=>(intOf i).toNat)
    case atStart=>exact ⟨k,zZ3 _,rfl,fun j h1 h2=>by omega,ae.rf B⟩
    case round=>
     obtain ⟨m,hmk,rfl,HJ,ju⟩:=hrel
     have p0:=(ju.cells.1 _ _ hz1).trans k0
     have p1:=(ju.cells.1 _ _ hz1).trans k1
     have p2:=(ju.cells.1 _ _ hz1).trans k2
     have rT:pb<wr.heap.size:=ltT hz1 ju.size
     cases m with
     | zero=>
      have dS:Hid (Pl.ct (zs.take 0++[⟨pk,pv,pn⟩]++zs.drop 0)):=Pl.TT HZ.out.2.1 LQ.out Hz.out 0 (Nat.zero_le _) (fun j h1 h2=>HJ.out j h1 (by have:=qZ.out;omega)) (fun h=>by omega)
      clear HJ
      go_wp2_with fail
      go_quiet (fail)
      go_wp2_with fail
      generalize hY:World.drewN wr _=Y
      have gY:ae B Y:=by rw [<-hY];exact ju.drewN _
      clear hY p0 p1 p2 rT ju
      have Zz:0<=k:=by omega
      have ZA:((0:Nat):Int)<=(k:Int):=by omega
      have ZB:0<=cp:=by omega
      have hkc:(k:Int)<=(cp:Int):=by omega
      have FI:=ltT hz1 gY.size
      have yz:Hid (lI Y (some ⟨g,0,none⟩) zs):=by
       have h1:=HOWN.out
       rw [<-qZ.out] at h1
       obtain ⟨a',cap',e',hP⟩:=lJ h1
       cases e'
       exact hP.ag gY
      have K0:=aU (w:=Y) ((gY.cells.1 _ _ hz1).trans k0)
      have K1:=aU (w:=Y) ((gY.cells.1 _ _ hz1).trans k1)
      have K2:=aU (w:=Y) ((gY.cells.1 _ _ hz1).trans k2)
      refine gJ 12 [0,4,6,7,11] (ae Y) Eq (JS Y (Pr.vals ⟨pk,pv,pn⟩) (bM (zs.take (0))) (bM (zs.drop (0))) (0) k) (fun f a=>((((a.put (some 34) (f 0)).put (some 38) (f 4)).put (some 40) (f 6)).put (some 41) (f 7)).put (some 45) (f 11)) (by kernel_rfl) (by kernel_rfl) (fun _ _=>rfl) (JS.start Y) (fun L f x h=>h.ag) (fun _=>rfl) (fun _ _ _ _ h g=>g▸h) ?_
      repeat (first
       | refine gy ?_
       | (refine gB ?_;intro K hK;go_big_quiet_op;go_big_quiet_on)
       | (refine gz ?_;simp only [Act.put,sA,sB,sC]))
      refine jX (by rfl) ⟨⟨bH rfl (fun _ a=>a) (fun _ _=>rfl) (fun _=>rfl) ?_,bH rfl (fun f a=>a.put (some 34) (f 0)) (fun _ _=>rfl) (fun _=>rfl) ?_,bH rfl (fun _ a=>a) (fun _ _=>rfl) (fun _=>rfl) ?_,bH rfl (fun f a=>(a.put (some 38) (f 4)).put (some 40) (f 6)) (fun _ _=>rfl) (fun _=>rfl) ?_,bH rfl (fun f a=>a.put (some 41) (f 7)) (fun _ _=>rfl) (fun _=>rfl) ?_,trivial⟩,?_⟩
      · intro L f x hJ hL hd
        have hm:=af (hJ.s0 hL)
        clear K0 K1 K2 hJ
        go_simp
        exact hm.out
      · intro L f x hJ hL hd
        clear K0 K1 K2
        have h0:=hd 0 rfl (by decide)
        refine yx _ _ rfl (B:=Y.heap.size) (v:=f 0) (m:=0) (ys:=[]) (xs:=zs.take (0)) rfl (hJ.r0 h0 hL) (ao:=some ⟨g,0,none⟩) (n:=0) (cap:=cp) rfl (by rw [List.length_take];have:=qZ.out;omega) (OE (yz.out.ag hJ.ag) _) (.inr ⟨_,_,rfl⟩) (by omega) hJ.ag.size ?_
        intro r x' aI hgr how
        refine hJ.s4 hL h0 ?_ hgr how
        simpa using aI
      · intro L f x hJ hL hd
        have hm:=af (hJ.s6 hL)
        clear K0 K1 K2 hJ
        go_simp
        exact hm.out
      · intro L f x hJ hL hd
        clear K0 K1 K2
        have h4:=hd 4 rfl (by decide)
        have h6:=hd 6 rfl (by decide)
        obtain ⟨vb,e6,tv,hvb,_,hne⟩:=hJ.r6 h6 hL
        refine yx _ _ rfl (B:=Y.heap.size) (v:=f 4) (m:=0) (ys:=zs.take (0)) (xs:=[⟨pk,pv,pn⟩]) rfl (hJ.r4 h4 hL) (ao:=some ⟨vb,0,none⟩) (n:=1) (cap:=1) e6 rfl (OH hvb) (.inr ⟨_,_,rfl⟩) (by omega) hJ.ag.size ?_
        intro r x' aI hgr how
        refine hJ.s7 hL h4 h6 ?_ hgr
        rw [jZ,uZ] at aI
        exact aI
      · intro L f x hJ hL hd
        clear K0 K1 K2
        have h7:=hd 7 rfl (by decide)
        refine yx _ _ rfl (B:=Y.heap.size) (v:=f 7) (m:=0+1) (ys:=zs.take (0)++[⟨pk,pv,pn⟩]) (xs:=zs.drop (0)) rfl (by rw [jZ,uZ];exact hJ.r7 h7 hL) (ao:=some ⟨g,0*3,none⟩) (n:=k - (0)) (cap:=cp - (0)) ?_ (by rw [zQ8];have:=qZ.out;omega) (by have:=OG (yz.out.ag hJ.ag) (0);rw [zK0] at this;first | exact this | (split;exact .inl (List.drop_eq_nil_of_le (by have:=qZ.out;omega));exact this)) (by first | exact .inr ⟨_,_,rfl⟩ | (split<;> exact .inr ⟨_,_,rfl⟩)) (by omega) hJ.ag.size ?_
        · rfl
        intro r x' aI hgr how
        refine hJ.TS hL h7 ?_ hgr
        rw [jZ,jZ,uZ] at aI
        rw [show k+1=0+1+(k - (0)) by omega]
        exact aI
      rintro f x hJ
      clear K0 K1 K2
      have tD:=hJ.tD rfl
      obtain ⟨g',cap',e11,_,_⟩:=tD.form (by omega)
      rw [e11] at tD
      rw [e11]
      have ju:ae w x:=(jr.trans gY).trans hJ.ag
      have H0:x.ownsRow w.heap.size 80 3 (.slice (some ⟨g',0,none⟩) (k+1) cap') (k+1) (bM (zs.take (0)++[⟨pk,pv,pn⟩]++zs.drop (0))):=by
       rw [jZ,jZ,uZ]
       exact Fy (zQ0 jr.size gY.size) tD
      have yA:=af H0
      have OJ:Hid ((zs.take (0)++[(⟨pk,pv,pn⟩:Pr)]++zs.drop (0)).Perm (xs.take (k+1))/\Pl.ct (zs.take (0)++[(⟨pk,pv,pn⟩:Pr)]++zs.drop (0))/\(zs.take (0)++[(⟨pk,pv,pn⟩:Pr)]++zs.drop (0)).length=k+1):=by
       refine ⟨?_,dS.out,?_⟩
       · rw [HT.out]
         exact (Pl.LP zs _ _).trans (HZ.out.1.append_right _)
       · rw [(Pl.LP zs _ _).length_eq,zX8,qZ.out];rfl
      clear hJ e11 tD H0 gY jr yz FI dS
      dsimp only [List.drop]
      go_wp2_with fail
      go_roundw
      case rel=>exact ⟨k+1,_,g',cap',by omega,rfl,by go_num,OJ,yA.out,ju⟩
      case measure=>simp [intOf];omega
     | succ m=>
      have OL:m<zs.length:=by have:=qZ.out;omega
      have hgx:g<wr.heap.size:=ltT aA ju.size
      have hq:wr.cell? ⟨g,m*3,none⟩=some (.string (ay zs m).key):=by
       have h1:=(HOWN.out.cellAt (m*3+0) (by have:=uY zs;have:=qZ.out;omega))
       rw [Da 0 (by omega) zs m OL] at h1
       exact (ju.cells.1 g (m*3) aA).trans h1
      have Dn:=Pl.iF (HZ.out.2.1.key _ (Pl.Bh zs m OL))
      have H5:=af (Pl.LM (ay zs m).key pk Dn (Pl.iF LQ.out))
      have tE:(ay zs m).key≠pk:=Hz.out _ (Pl.Bh zs m OL)
      have hcn:Pl.bE (ay zs m).key pk≠0:=fun e=>tE (Pl.ug Dn (Pl.iF LQ.out) e)
      have pL:((ay zs m).key.toList==pk.toList)=false:=by rw [beq_eq_false_iff_ne];exact fun e=>tE (TR e)
      have LR:=af hcn
      clear Dn tE hcn
      have i2:((m:Int)+1) - 1=(m:Int):=by omega
      have i0:(0:Int)<=(m:Int):=by omega
      have hmB:m<1000000:=by omega
      have i6:IntKind.i64.wrap (m:Int)=(m:Int):=IntWalk.i64_in _ (by omega)
      have i3:(m:Int)<(k:Int):=by omega
      have i4:m<k:=by omega
      have d2:decide ((0:Int)<(m:Int)+1)=true:=decide_eq_true (by omega)
      generalize hkk:(ay zs m).key=ck at hq H5 pL LR
      cases hgt:Op.bytesLess ck.toList pk.toList with
      | false=>
       have ZC:Hid (∀j,m<=j->j<k->0<Pl.bE (ay zs j).key pk):=fun j h1 h2=>by
        rcases Nat.lt_or_ge m j with h3 | h3
        · exact HJ.out j h3 h2
        · obtain rfl:j=m:=by omega
          rw [hkk]
          have:=H5.out
          rw [hgt] at this
          have h4:=of_decide_eq_false this
          have h5:=LR.out
          omega
       clear HJ H5 hkk LR
       go_wp2_with fail
       go_quiet (fail)
       go_wp2_with fail
       go_roundw
       case rel=>exact ⟨m,by omega,by go_num,ZC,ju.drewN _⟩
       case measure=>simp [intOf]
      | true=>
       have dS:Hid (Pl.ct (zs.take (m+1)++[⟨pk,pv,pn⟩]++zs.drop (m+1))):=Pl.TT HZ.out.2.1 LQ.out Hz.out (m+1) (by omega) (fun j h1 h2=>HJ.out j h1 (by have:=qZ.out;omega)) (fun _=>by
        show ¬0<Pl.bE (ay zs m).key pk
        rw [hkk]
        have:=H5.out
        rw [hgt] at this
        have h4:=of_decide_eq_true this
        omega)
       clear HJ H5 hkk LR
       go_wp2_with fail
       go_quiet (fail)
       go_wp2_with fail
       generalize hY:World.drewN wr _=Y
       have gY:ae B Y:=by rw [<-hY];exact ju.drewN _
       clear hY p0 p1 p2 rT ju
       have Zz:(m+1)<=k:=by omega
       have ZA:(((m+1):Nat):Int)<=(k:Int):=by omega
       have ZB:(m+1)<=cp:=by omega
       have hkc:(k:Int)<=(cp:Int):=by omega
       have FI:=ltT hz1 gY.size
       have yz:Hid (lI Y (some ⟨g,0,none⟩) zs):=by
        have h1:=HOWN.out
        rw [<-qZ.out] at h1
        obtain ⟨a',cap',e',hP⟩:=lJ h1
        cases e'
        exact hP.ag gY
       have K0:=aU (w:=Y) ((gY.cells.1 _ _ hz1).trans k0)
       have K1:=aU (w:=Y) ((gY.cells.1 _ _ hz1).trans k1)
       have K2:=aU (w:=Y) ((gY.cells.1 _ _ hz1).trans k2)
       refine gJ 12 [0,4,6,7,11] (ae Y) Eq (JS Y (Pr.vals ⟨pk,pv,pn⟩) (bM (zs.take ((m+1)))) (bM (zs.drop ((m+1)))) ((m+1)) k) (fun f a=>((((a.put (some 34) (f 0)).put (some 38) (f 4)).put (some 40) (f 6)).put (some 41) (f 7)).put (some 45) (f 11)) (by kernel_rfl) (by kernel_rfl) (fun _ _=>rfl) (JS.start Y) (fun L f x h=>h.ag) (fun _=>rfl) (fun _ _ _ _ h g=>g▸h) ?_
       repeat (first
        | refine gy ?_
        | (refine gB ?_;intro K hK;go_big_quiet_op;go_big_quiet_on)
        | (refine gz ?_;simp only [Act.put,sA,sB,sC]))
       refine jX (by rfl) ⟨⟨bH rfl (fun _ a=>a) (fun _ _=>rfl) (fun _=>rfl) ?_,bH rfl (fun f a=>a.put (some 34) (f 0)) (fun _ _=>rfl) (fun _=>rfl) ?_,bH rfl (fun _ a=>a) (fun _ _=>rfl) (fun _=>rfl) ?_,bH rfl (fun f a=>(a.put (some 38) (f 4)).put (some 40) (f 6)) (fun _ _=>rfl) (fun _=>rfl) ?_,bH rfl (fun f a=>a.put (some 41) (f 7)) (fun _ _=>rfl) (fun _=>rfl) ?_,trivial⟩,?_⟩
       · intro L f x hJ hL hd
         have hm:=af (hJ.s0 hL)
         clear K0 K1 K2 hJ
         go_simp
         exact hm.out
       · intro L f x hJ hL hd
         clear K0 K1 K2
         have h0:=hd 0 rfl (by decide)
         refine yx _ _ rfl (B:=Y.heap.size) (v:=f 0) (m:=0) (ys:=[]) (xs:=zs.take ((m+1))) rfl (hJ.r0 h0 hL) (ao:=some ⟨g,0,none⟩) (n:=(m+1)) (cap:=cp) rfl (by rw [List.length_take];have:=qZ.out;omega) (OE (yz.out.ag hJ.ag) _) (.inr ⟨_,_,rfl⟩) (by omega) hJ.ag.size ?_
         intro r x' aI hgr how
         refine hJ.s4 hL h0 ?_ hgr how
         simpa using aI
       · intro L f x hJ hL hd
         have hm:=af (hJ.s6 hL)
         clear K0 K1 K2 hJ
         go_simp
         exact hm.out
       · intro L f x hJ hL hd
         clear K0 K1 K2
         have h4:=hd 4 rfl (by decide)
         have h6:=hd 6 rfl (by decide)
         obtain ⟨vb,e6,tv,hvb,_,hne⟩:=hJ.r6 h6 hL
         refine yx _ _ rfl (B:=Y.heap.size) (v:=f 4) (m:=(m+1)) (ys:=zs.take ((m+1))) (xs:=[⟨pk,pv,pn⟩]) rfl (hJ.r4 h4 hL) (ao:=some ⟨vb,0,none⟩) (n:=1) (cap:=1) e6 rfl (OH hvb) (.inr ⟨_,_,rfl⟩) (by omega) hJ.ag.size ?_
         intro r x' aI hgr how
         refine hJ.s7 hL h4 h6 ?_ hgr
         rw [jZ,uZ] at aI
         exact aI
       · intro L f x hJ hL hd
         clear K0 K1 K2
         have h7:=hd 7 rfl (by decide)
         refine yx _ _ rfl (B:=Y.heap.size) (v:=f 7) (m:=(m+1)+1) (ys:=zs.take ((m+1))++[⟨pk,pv,pn⟩]) (xs:=zs.drop ((m+1))) rfl (by rw [jZ,uZ];exact hJ.r7 h7 hL) (ao:=(if cp=m+1 then some ⟨g,0,none⟩ else some ⟨g,(m+1)*3,none⟩)) (n:=k - ((m+1))) (cap:=cp - ((m+1))) ?_ (by rw [zQ8];have:=qZ.out;omega) (by have:=OG (yz.out.ag hJ.ag) ((m+1));rw [zK0] at this;first | exact this | (split;exact .inl (List.drop_eq_nil_of_le (by have:=qZ.out;omega));exact this)) (by first | exact .inr ⟨_,_,rfl⟩ | (split<;> exact .inr ⟨_,_,rfl⟩)) (by omega) hJ.ag.size ?_
         · rfl
         intro r x' aI hgr how
         refine hJ.TS hL h7 ?_ hgr
         rw [jZ,jZ,uZ] at aI
         rw [show k+1=(m+1)+1+(k - ((m+1))) by omega]
         exact aI
       rintro f x hJ
       clear K0 K1 K2
       have tD:=hJ.tD rfl
       obtain ⟨g',cap',e11,_,_⟩:=tD.form (by omega)
       rw [e11] at tD
       rw [e11]
       have ju:ae w x:=(jr.trans gY).trans hJ.ag
       have H0:x.ownsRow w.heap.size 80 3 (.slice (some ⟨g',0,none⟩) (k+1) cap') (k+1) (bM (zs.take ((m+1))++[⟨pk,pv,pn⟩]++zs.drop ((m+1)))):=by
        rw [jZ,jZ,uZ]
        exact Fy (zQ0 jr.size gY.size) tD
       have yA:=af H0
       have OJ:Hid ((zs.take ((m+1))++[(⟨pk,pv,pn⟩:Pr)]++zs.drop ((m+1))).Perm (xs.take (k+1))/\Pl.ct (zs.take ((m+1))++[(⟨pk,pv,pn⟩:Pr)]++zs.drop ((m+1)))/\(zs.take ((m+1))++[(⟨pk,pv,pn⟩:Pr)]++zs.drop ((m+1))).length=k+1):=by
        refine ⟨?_,dS.out,?_⟩
        · rw [HT.out]
          exact (Pl.LP zs _ _).trans (HZ.out.1.append_right _)
        · rw [(Pl.LP zs _ _).length_eq,zX8,qZ.out];rfl
       clear hJ e11 tD H0 gY jr yz FI dS
       dsimp only [List.drop]
       go_wp2_with fail
       go_roundw
       case rel=>exact ⟨k+1,_,g',cap',by omega,rfl,by go_num,OJ,yA.out,ju⟩
       case measure=>simp [intOf];omega
  · obtain rfl:k=xs.length:=by omega
    have HR:=af aD
    have FK:Hid (zs.Perm xs/\Pl.ct zs/\zs.length=xs.length):=by have:=HZ.out;rw [zQ2] at this;exact this
    clear aD HZ
    go_wp2_with fail
    go_ret
    obtain ⟨z1,z2,z3⟩:=FK.out
    exact ⟨⟨_,zs,rfl,z1,z2,by rw [z3];exact HR.out⟩,hG⟩
end
section
open Go.RowKit Go.Maps
attribute [local go_sem] Oper.semAt_some
structure kr (w:World) (G:Nat->Prop) (tb:Nat) (v:Value) (xs:List Pr):Prop where
 c0:w.cell? ⟨tb,0,none⟩=some v
 f0:w.frozen? ⟨tb,0,none⟩=false
 row:w.ownsRow 0 80 3 v xs.length (bM xs)
 foot:G tb
 own:∀g,v.ownBlock=some g->G g/\g≠tb
 lt:∀j,G j->j<w.heap.size
def cL (w:World) (G:Nat->Prop) (tb:Nat) (xs:List Pr):Prop:=∃v,kr w G tb v xs
def lM (w:World) (G:Nat->Prop) (tb:Nat) (xs:List Pr) (w':World):Prop:=aj G w w'/\∃G',cL w' G' tb xs/\∀j,G' j->G j\/w.heap.size<=j
theorem kr.kept {w w':World} {G S:Nat->Prop} {tb:Nat} {v:Value} {xs:List Pr} (h:kr w G tb v xs) (g:aj S w w') (hS:∀j,G j->¬S j):kr w' G tb v xs where
 c0:=(g.cell (aN h.c0) (hS _ h.foot) 0).trans h.c0
 f0:=(g.frozen (aN h.c0) (hS _ h.foot) 0).trans h.f0
 row:=A6 h.row g fun b hb=>hS b (h.own b hb).1
 foot:=h.foot
 own:=h.own
 lt:=fun j hj=>ltT (h.lt j hj) g.size
theorem cL.kept {w w':World} {G S:Nat->Prop} {tb:Nat} {xs:List Pr} (h:cL w G tb xs) (g:aj S w w') (hS:∀j,G j->¬S j):cL w' G tb xs:=by obtain ⟨v,h⟩:=h;exact ⟨v,h.kept g hS⟩
theorem cL.ag {w w':World} {G:Nat->Prop} {tb:Nat} {xs:List Pr} (h:cL w G tb xs) (g:ae w w'):cL w' G tb xs:=h.kept (g.only fun _=>False) (fun _ _ h=>h)
theorem cL.lt {w:World} {G:Nat->Prop} {tb:Nat} {xs:List Pr} (h:cL w G tb xs):∀j,G j->j<w.heap.size:=by obtain ⟨v,h⟩:=h;exact h.lt
theorem kr.read {w:World} {G:Nat->Prop} {tb:Nat} {v:Value} {xs:List Pr} (h:kr w G tb v xs):oD w tb xs:=by
 obtain ⟨a,cap,e,hA⟩:=lJ h.row
 exact ⟨a,cap,by rw [<-e];exact h.c0,hA⟩
theorem cL.read {w:World} {G:Nat->Prop} {tb:Nat} {xs:List Pr} (h:cL w G tb xs):oD w tb xs:=by obtain ⟨v,h⟩:=h;exact h.read
theorem lM.b9 {w w':World} {G:Nat->Prop} {tb:Nat} {xs:List Pr} (h:cL w G tb xs) (g:ae w w'):lM w G tb xs w':=⟨g.only _,G,h.ag g,fun j hj=> .inl hj⟩
theorem lM.trans {w w1 w2:World} {G G1:Nat->Prop} {tb:Nat} {xs:List Pr} (g1:aj G w w1) (hG:∀j,G1 j->G j\/w.heap.size<=j) (h:lM w1 G1 tb xs w2):lM w G tb xs w2:=by
 obtain ⟨g2,G2,h2,h3⟩:=h
 refine ⟨g1.trans g2 hG,G2,h2,fun j hj=>?_⟩
 · rcases h3 j hj with h | h
   · exact hG j h
   · exact .inr (zQ0 g1.size h)
theorem kr.store {w y:World} {G:Nat->Prop} {tb:Nat} {v v':Value} {xs zs:List Pr} (h:kr w G tb v xs) (hO:aj G w y) (hc:∃u,y.cell? ⟨tb,0,none⟩=some u) (hf:y.frozen? ⟨tb,0,none⟩=false) (hr:y.ownsRow 0 80 3 v' zs.length (bM zs)) (ho:∀g,v'.ownBlock=some g->(G g\/w.heap.size<=g)/\g≠tb/\g<y.heap.size):lM w G tb zs (y.setCell ⟨tb,0,none⟩ v'):=by
 obtain ⟨u,hc⟩:=hc
 have gh:aj (fun j=>j=tb) y (y.setCell ⟨tb,0,none⟩ v'):=aj.setCell y ⟨tb,0,none⟩ _
 refine ⟨hO.then (gh.mono fun j (hj:j=tb)=> .inl (by rw [hj];exact h.foot)),fun j=>G j\/v'.ownBlock=some j,⟨v',by simp [go_sem,hc],by simp [go_sem,hf],A6 hr gh fun b hb (e:b=tb)=>(ho b hb).2.1 e,.inl h.foot,fun g hg=>⟨.inr hg,(ho g hg).2.1⟩,fun j hj=>?_⟩,fun j hj=>?_⟩
 · rcases hj with hj | hj
   · exact ltT (h.lt j hj) (zQ0 hO.size gh.size)
   · exact ltT (ho j hj).2.2 gh.size
 · rcases hj with hj | hj
   · exact .inl hj
   · exact (ho j hj).1
structure JD (y:World) (A C:List Value) (k n:Nat) (L:Nat->Bool) (f:Nat->Value) (x:World):Prop where
 ag:ae y x
 o8:L 8=true->L 1=true
 Dr:L 16=true->L 8=true
 r1:L 1=true->L 8=false->x.ownsRow y.heap.size 80 3 (f 1) 0 []
 r8:L 8=true->L 16=false->x.ownsRow y.heap.size 80 3 (f 8) k A
 r16:L 16=true->x.ownsRow y.heap.size 80 3 (f 16) n (A++C)
section
variable {y x x':World} {A C:List Value} {k n:Nat} {L:Nat->Bool} {f:Nat->Value}
theorem JD.start (y:World):JD y A C k n (fun _=>false) f y.drew:=
 ⟨(ae.rf y).drew,(fun h=>by cases h),(fun h=>by cases h),(fun h=>by cases h),(fun h=>by cases h),(fun h=>by cases h)⟩
theorem JD.s1 (h:JD y A C k n L f x) (hL:L 1=false):JD y A C k n (plus L 1) (bB f 1 (.slice (some ⟨x.heap.size,0,none⟩) 0 0)) (x.alloc (.cells #[] 80)):=by
 have l8:L 8=false:=qY fun h8=>by rw [h.o8 h8] at hL;cases hL
 have zH:L 16=false:=qY fun iA=>by rw [h.Dr iA] at l8;cases l8
 refine ⟨h.ag.alloc _,fun _=>rfl,h.Dr,fun _ _=>?_,fun h8=>?_,fun iA=>?_⟩
 · exact ⟨rfl,.inr ⟨x.heap.size,0,#[],rfl,h.ag.size,heap_alloc_new x _,zZ3 _,Nat.zero_le _,rfl,rfl⟩⟩
 · change L 8=true at h8;rw [l8] at h8;cases h8
 · change L 16=true at iA;rw [zH] at iA;cases iA
theorem JD.s8 (h:JD y A C k n L f x) (hL:L 8=false) (h1:L 1=true) {r:Value} (aI:x'.ownsRow y.heap.size 80 3 r k A) (hg:x.grownBy x' (f 1).ownBlock):JD y A C k n (plus L 8) (bB f 8 r) x':=by
 have zH:L 16=false:=qY fun iA=>by rw [h.Dr iA] at hL;cases hL
 have hr1:=h.r1 h1 hL
 have hG:ae y x':=((h.ag.only _).then (aj.of_grownBy hg)).ag fun j hj=>(hr1.lt j hj.symm).1
 refine ⟨hG,fun _=>h1,fun iA=>?_,(fun _ h8=>by cases h8),fun _ _=>aI,fun iA=>?_⟩
 · change L 16=true at iA;rw [zH] at iA;cases iA
 · change L 16=true at iA;rw [zH] at iA;cases iA
theorem JD.OW (h:JD y A C k n L f x) (hL:L 16=false) (h8:L 8=true) {r:Value} (aI:x'.ownsRow y.heap.size 80 3 r n (A++C)) (hg:x.grownBy x' (f 8).ownBlock):JD y A C k n (plus L 16) (bB f 16 r) x':=by
 have hG:ae y x':=((h.ag.only _).then (aj.of_grownBy hg)).ag fun j hj=>((h.r8 h8 hL).lt j hj.symm).1
 refine ⟨hG,h.o8,fun _=>h8,fun _ Ds=>?_,(fun _ iA=>by cases iA),fun _=>aI⟩
 change L 8=false at Ds;rw [h8] at Ds;cases Ds
end
theorem vL {α:Type} (p:α->Bool) (xs:List α):(b7 p xs= -1/\xs.find? p=none/\xs.eraseP p=xs)\/∃i:Nat,∃h:i<xs.length,b7 p xs=(i:Nat)/\xs.find? p=some xs[i]/\xs.eraseP p=xs.take i++xs.drop (i+1):=by
 unfold b7
 cases h:xs.findIdx? p with
 | none=>
  rw [zJ2] at h
  refine .inl ⟨rfl,?_,?_⟩
  · rw [List.find?_eq_none]
    intro x hx;simpa using h x hx
  · rw [List.eraseP_of_forall_not]
    intro x hx;simpa using h x hx
 | some i=>
  obtain ⟨hi,h1,h2⟩:=zJ3.1 h
  refine .inr ⟨i,hi,rfl,?_,?_⟩
  · rw [List.find?_eq_some_iff_getElem]
    exact ⟨h1,i,hi,rfl,fun j hj=>by simpa using h2 j hj⟩
  · rw [List.eraseP_eq_eraseIdx,h]
    exact List.eraseIdx_eq_take_drop_succ xs i
theorem Uc {w:World} {G:Nat->Prop} {tb:Nat} {xs:List Pr} (h:cL w G tb xs) (hx:xs.length<=1000000) (key:ByteArray):
    Calls Tryz.prog 130 #[.pointer (some ⟨tb,0,none⟩),.string key] w fun e w'=>e=.returned (.bool (xs.find? (Pl.isK key)).isSome)/\lM w G tb (xs.eraseP (Pl.isK key)) w':=by
 have HF:=af (OD h.read hx key)
 have HR:=af h
 obtain ⟨v,h⟩:=h
 have c0:=h.c0
 have dR:=aN c0
 have HH:=af h
 obtain ⟨a,cap,e,hA⟩:=lJ h.row
 subst e
 have hcap:xs.length<=cap\/(a=none/\xs=[]):=by
  rcases h.row.2 with ⟨h1,h2⟩ | ⟨g',c',cur,h1,_,_,hq,_⟩
  · rw [Value.slice.injEq] at h1
    exact .inr ⟨h1.1,zX1 h1.2.1⟩
  · cases h1;exact .inl hq
 clear h
 have HA:=af hA
 clear hA
 rcases vL (Pl.isK key) xs with ⟨e1,e2,e3⟩ | ⟨i,hi,e1,e2,e3⟩
 · rw [e1] at HF
   rw [e2,e3]
   clear e1 e2 e3
   go_in
   go_wp2_with fail
   refine HF.out.mono ?_
   rintro e w1 ⟨rfl,hg⟩
   go_wp2_with fail
   go_ret
   exact ⟨rfl,lM.b9 HR.out hg⟩
 · rw [e1] at HF
   rw [e2,e3]
   rcases HA.out with h0 | ⟨b,off,rfl,hb,hR⟩
   · rw [h0] at hi;simp at hi
   have Ie:xs.length<=cap:=by
    rcases hcap with h | ⟨h,_⟩
    · exact h
    · cases h
   have hoff:off=0:=by
    rcases HH.out.row.2 with ⟨h1,_⟩ | ⟨g',c',cur,h1,_⟩
    · rw [Value.slice.injEq] at h1;cases h1.1
    · cases h1;rfl
   subst hoff
   clear hR e1 e2 e3 hcap
   obtain ⟨n,hn⟩:∃n,n=xs.length:=⟨_,rfl⟩
   rw [<-hn] at hi Ie hx c0
   have HN:=af hn
   clear hn
   have i1:¬(i:Int)<0:=by omega
   have i2:(i:Int)<=(cap:Int):=by omega
   have i3:((i:Int)+1)<=(n:Int):=by omega
   have i4:i<=cap:=by omega
   have i5:i+1<=n:=by omega
   have i6:n<=cap:=by omega
   have i7:(n:Int)<=(cap:Int):=by omega
   have i8:(0:Int)<=(i:Int):=by omega
   have i9:(0:Int)<=(i:Int)+1:=by omega
   have i10:i<1000000:=by omega
   go_in
   go_wp2_with fail
   refine HF.out.mono ?_
   rintro e w1 ⟨rfl,hg⟩
   have bI:=af hg
   clear hg
   go_wp2_with fail
   have yz:Hid (lI w1 (some ⟨b,0,none⟩) xs):=by
    obtain ⟨a',cap',e',hP⟩:=lJ HH.out.row
    cases e'
    exact hP.ag bI.out
   have C0:=aU (w:=w1) ((bI.out.cells.1 _ _ dR).trans c0)
   have Hy:=ltT dR bI.out.size
   refine gJ 17 [1,8,16] (ae w1) Eq (JD w1 (bM (xs.take i)) (bM (xs.drop (i+1))) i (n - 1)) (fun f a=>((a.put (some 12) (f 1)).put (some 19) (f 8)).put (some 27) (f 16)) (by kernel_rfl) (by kernel_rfl) (fun _ _=>rfl) (JD.start w1) (fun L f x h=>h.ag) (fun _=>rfl) (fun _ _ _ _ h g=>g▸h) ?_
   repeat (first
    | refine gy ?_
    | (refine gB ?_;intro K hK;go_big_quiet_op;go_big_quiet_on)
    | (refine gz ?_;simp only [Act.put,sA,sB,sC]))
   refine jX (by rfl) ⟨⟨bH rfl (fun _ a=>a) (fun _ _=>rfl) (fun _=>rfl) ?_,bH rfl (fun f a=>a.put (some 12) (f 1)) (fun _ _=>rfl) (fun _=>rfl) ?_,bH rfl (fun f a=>a.put (some 19) (f 8)) (fun _ _=>rfl) (fun _=>rfl) ?_,trivial⟩,?_⟩
   · intro L f x hJ hL hd
     have hm:=af (hJ.s1 hL)
     clear C0 hJ
     go_simp
     exact hm.out
   · intro L f x hJ hL hd
     clear C0
     have h1:=hd 1 rfl (by decide)
     refine yx _ _ rfl (B:=w1.heap.size) (v:=f 1) (m:=0) (ys:=[]) (xs:=xs.take i) rfl (hJ.r1 h1 hL) (ao:=some ⟨b,0,none⟩) (n:=i) (cap:=cap) rfl (by rw [List.length_take];have:=HN.out;omega) (OE (yz.out.ag hJ.ag) _) (.inr ⟨_,_,rfl⟩) (by omega) hJ.ag.size ?_
     intro r x' aI hgr how
     refine hJ.s8 hL h1 ?_ hgr
     simpa using aI
   · intro L f x hJ hL hd
     clear C0
     have h8:=hd 8 rfl (by decide)
     refine yx _ _ rfl (B:=w1.heap.size) (v:=f 8) (m:=i) (ys:=xs.take i) (xs:=xs.drop (i+1)) rfl (hJ.r8 h8 hL) (ao:=(if cap=i+1 then some ⟨b,0,none⟩ else some ⟨b,(i+1)*3,none⟩)) (n:=n - (i+1)) (cap:=cap - (i+1)) ?_ (by rw [zQ8];have:=HN.out;omega) (by have:=OG (yz.out.ag hJ.ag) (i+1);rw [zK0] at this;split;exact .inl (List.drop_eq_nil_of_le (by have:=HN.out;omega));exact this) (by split<;> exact .inr ⟨_,_,rfl⟩) (by omega) hJ.ag.size ?_
     · rfl
     intro r x' aI hgr how
     refine hJ.OW hL h8 ?_ hgr
     rw [jZ] at aI
     rw [show n - 1=i+(n - (i+1)) by omega]
     exact aI
   rintro f x hJ
   clear C0
   have r16:=hJ.r16 rfl
   have hform:∃a' cap',f 16=.slice a' (n - 1) cap':=by
    rcases r16.2 with ⟨h1,h2⟩ | ⟨g',c',cur,h1,_⟩
    · have hz:=r16.1
      rw [h2] at hz
      simp at hz
      rw [h1]
      exact ⟨none,0,by first | rw [hz] | (rw [<-hz]) | simp_all⟩
    · exact ⟨_,_,h1⟩
   obtain ⟨a',cap',e16⟩:=hform
   rw [e16] at r16
   rw [e16]
   have ju:=bI.out.trans hJ.ag
   have HK:=HH.out.kept (ju.only fun _=>False) (fun _ _ h=>h)
   have cx:=HK.c0
   have fx:=HK.f0
   have Ig:=aN cx
   have dS:Hid (lM w G tb (xs.take i++xs.drop (i+1)) (x.setCell ⟨tb,0,none⟩ (.slice a' (n - 1) cap'))):=by
    refine HH.out.store (ju.only _) ⟨_,cx⟩ fx ?_ fun g hg=>?_
    · have hl:(xs.take i++xs.drop (i+1)).length=n - 1:=by rw [zX8,List.length_take,zQ8];have:=HN.out;omega
      rw [hl,jZ]
      exact Fy (Nat.zero_le _) r16
    · have h1:=r16.lt g hg
      have h2:=bI.out.size
      exact ⟨.inr (by omega),by omega,h1.2⟩
   clear hJ e16 r16 HK ju
   dsimp only [List.drop]
   go_wp2_with fail
   all_goals (go_ret;exact ⟨rfl,dS.out⟩)
theorem Ud {ops:Array Oper} {rest:List Oper} {o:Oper} {a:Act} {Q:Exit->Act->World->Prop} (hgd:o.guard=none) (s x:Operand)
    (ho:o.op=.call {callee:=.builtin .append,args:=#[s,x],argTypes:=#[84,84]}) {w:World} {B:Nat} {v:Value} {m:Nat} {ys xs:List Pr} (hs:a.eval s=v) (aD:w.ownsRow B 80 3 v m (bM ys))
    {ao:Option Addr} {n cap:Nat} (hx:a.eval x=.slice ao n cap) (hn:n=xs.length) (hA:lI w ao xs) (hf:Bf ao cap) (hbig:m+n<=2000000) (hB:B<=w.heap.size)
    (h:∀a' cap' w',w'.ownsRow B 80 3 (.slice a' (m+n) cap') (m+n) (bM (ys++xs))->w.grownBy w' v.ownBlock->(∀g,Value.ownBlock (.slice a' (m+n) cap')=some g->v.ownBlock=some g\/g=w.heap.size)->wpList Tryz.prog ops Q rest (a.put o.dst (.slice a' (m+n) cap')) w'):wpList Tryz.prog ops Q (o::rest) a w:=by
 obtain ⟨a',cap',w',hr,h2,h3,h4⟩:=TF aD hn hA hf hbig hB o.type
 exact Lib.wpList_append_run w hgd s x _ _ ho _ _ hs hx _ _ hr (h a' cap' w' h2 h3 h4)
def Pl.iB (xs:List Pr) (p:Pr):List Pr:=if Pl.dG p=0 then xs.eraseP (Pl.isK p.key)++[p] else xs
theorem ZW (p:Pr->Bool) (xs:List Pr):(xs.eraseP p).length<=xs.length:=List.length_eraseP_le
theorem ZX {w:World} {G:Nat->Prop} {tb:Nat} {xs:List Pr} (h:cL w G tb xs) (hx:xs.length<=1000000) (key val:ByteArray) (v:Int) (hk:key.size<=16777216) (hv:val.size<=140737488351232):
    Calls Tryz.prog 129 #[.pointer (some ⟨tb,0,none⟩),.string key,.string val,.int .i64 v] w fun e w'=>e=.returned (.int .i64 (Pl.dG ⟨key,val,v⟩:Nat))/\lM w G tb (Pl.iB xs ⟨key,val,v⟩) w':=by
 have HR:=af h
 have yC:=af (vr key w hk)
 have HD:=af (fun W (g:ae w W)=>Uc (h.ag g) hx key)
 have HL:=af (ZW (Pl.isK key) xs)
 clear h
 have mL:Hid (Pl.dG ⟨key,val,v⟩=if Pl.aF key≠0 then Pl.aF key else if 64<val.size then 3 else if v<1\/4096<v then 1 else 0):=rfl
 have yD:Hid (Pl.iB xs ⟨key,val,v⟩=if Pl.dG ⟨key,val,v⟩=0 then xs.eraseP (Pl.isK key)++[⟨key,val,v⟩] else xs):=rfl
 generalize Pl.iB xs ⟨key,val,v⟩=zs at yD ⊢
 generalize Pl.dG ⟨key,val,v⟩=ne at mL yD ⊢
 by_cases hkn:Pl.aF key=0
 · rw [hkn] at yC
   by_cases h64:64<val.size
   · have e1:ne=3:=by rw [mL.out,zZ0 (by simp [hkn]),zZ1 h64]
     subst e1
     have e2:zs=xs:=by rw [yD.out,zZ0 (by decide)]
     subst e2
     have vH:(64:Int)<(val.size:Int):=by omega
     clear mL hkn yD
     go_in
     go_wp2_with fail
     refine yC.out.mono ?_
     rintro e w1 ⟨rfl,hg⟩
     go_wp2_with fail
     go_ret
     exact ⟨rfl,lM.b9 HR.out hg⟩
   · have vH:(val.size:Int)<=64:=by omega
     by_cases hr:v<1\/4096<v
     · have e1:ne=1:=by rw [mL.out,zZ0 (by simp [hkn]),zZ0 h64,zZ1 hr]
       subst e1
       have e2:zs=xs:=by rw [yD.out,zZ0 (by decide)]
       subst e2
       clear mL hkn yD h64
       by_cases hr1:v<1
       · go_in
         go_wp2_with fail
         refine yC.out.mono ?_
         rintro e w1 ⟨rfl,hg⟩
         go_wp2_with fail
         go_ret
         exact ⟨rfl,lM.b9 HR.out hg⟩
       · have hr2:4096<v:=by omega
         go_in
         go_wp2_with fail
         refine yC.out.mono ?_
         rintro e w1 ⟨rfl,hg⟩
         go_wp2_with fail
         go_ret
         exact ⟨rfl,lM.b9 HR.out hg⟩
     · have hr1:1<=v:=by omega
       have hr2:v<=4096:=by omega
       have e1:ne=0:=by rw [mL.out,zZ0 (by simp [hkn]),zZ0 h64,zZ0 hr]
       subst e1
       have e2:zs=xs.eraseP (Pl.isK key)++[⟨key,val,v⟩]:=by rw [yD.out,zZ1 rfl]
       subst e2
       clear mL hkn yD h64 hr
       generalize xs.eraseP (Pl.isK key)=ys at *
       go_in
       go_wp2_with fail
       refine yC.out.mono ?_
       rintro e w1 ⟨rfl,hg⟩
       have bI:=af hg
       clear hg
       go_wp2_with fail
       refine (HD.out _ bI.out).mono ?_
       rintro e w2 ⟨rfl,hO,G2,⟨u,hI⟩,bD⟩
       have HO:=af hO
       have HI:=af hI
       have HG2:=af bD
       have c0:=hI.c0
       have dR:=aN c0
       obtain ⟨a2,cap2,eu,_⟩:=lJ hI.row
       subst eu
       clear hO hI bD
       have OX:=HL.out
       have fD:=af (fun W (g:ae w2 W)=>gI g HI.out.row)
       go_wp2_with (at_builtin;refine Ud rfl _ _ rfl rfl (fD.out _ ((ae.rf w2).alloc _)) rfl rfl (OH (p:=⟨key,val,v⟩) (heap_alloc_new w2 _)) (.inr ⟨_,_,rfl⟩) (by simp only [List.length_cons,zK3];omega) (Nat.zero_le _) ?_)
       intro a' cap' w3 aI hgr how
       have ho1:aj (fun j=>some j=Value.ownBlock (.slice a2 ys.length cap2)) w2 w3:=(((ae.rf w2).alloc (Obj.cells #[.string key,.string val,.int .i64 v] 80)).only _).then (aj.of_grownBy hgr)
       have fW:¬some tb=Value.ownBlock (.slice a2 ys.length cap2):=fun e=>(HI.out.own _ e.symm).2 rfl
       have c3:=(ho1.cell dR fW 0).trans HI.out.c0
       have f3:=(ho1.frozen dR fW 0).trans HI.out.f0
       have ZY:=aN c3
       have dS:Hid (lM w G tb (ys++[⟨key,val,v⟩]) (w3.setCell ⟨tb,0,none⟩ (.slice a' (ys.length+1) cap'))):=by
        have fL:aj G w w2:=(bI.out.only _).then HO.out
        refine lM.trans fL (fun j hj=>?_) (HI.out.store (ho1.mono fun j (hj:some j=_)=> .inl (HI.out.own j hj.symm).1) ⟨_,c3⟩ f3 ?_ fun g hg=>?_)
        · rcases HG2.out j hj with h | h
          · exact .inl h
          · exact .inr (zQ0 bI.out.size h)
        · rw [zX8]
          exact aI
        · have aq:=aI.lt g hg
          rcases how g hg with h | h
          · exact ⟨.inl (HI.out.own g h).1,(HI.out.own g h).2,aq.2⟩
          · have hs3:w2.heap.size<=g:=by rw [h];exact Nat.le_succ _
            exact ⟨.inr (by omega),by omega,aq.2⟩
       clear aI hgr how ho1 fD fW
       go_wp2_with fail
       go_ret
       exact ⟨rfl,dS.out⟩
 · have e1:ne=Pl.aF key:=by rw [mL.out,zZ1 hkn]
   have e2:zs=xs:=by rw [yD.out,zZ0 (by rw [e1];exact hkn)]
   subst e2
   subst e1
   clear mL yD
   have ZZ:(Pl.aF key:Int)≠0:=by omega
   generalize Pl.aF key=kn at *
   go_in
   go_wp2_with fail
   refine yC.out.mono ?_
   rintro e w1 ⟨rfl,hg⟩
   go_wp2_with fail
   go_ret
   exact ⟨rfl,lM.b9 HR.out hg⟩
end
section
open Go.RowKit Go.Maps
attribute [local go_sem] Oper.semAt_some
theorem kr.snoc {Y y:World} {G:Nat->Prop} {tb:Nat} {v r:Value} {xs:List Pr} {p:Pr} (h:kr Y G tb v xs) (hD:∃x0,ae Y x0/\jo 80 3 v xs.length (bM xs) p.vals x0 r y):
    ∃g c,r=.slice (some ⟨g,0,none⟩) (xs.length+1) c/\y.cell? ⟨tb,0,none⟩=some v/\y.frozen? ⟨tb,0,none⟩=false/\lM Y G tb (xs++[p]) (y.setCell ⟨tb,0,none⟩ (.slice (some ⟨g,0,none⟩) (xs.length+1) c)):=by
 obtain ⟨x0,nQ,g4,c4,e,aI,hgr,hat⟩:=hD
 have ho1:aj (fun j=>some j=v.ownBlock) Y y:=(nQ.only _).then (aj.of_grownBy hgr)
 have dR:tb<Y.heap.size:=aN h.c0
 have fW:¬some tb=v.ownBlock:=fun e=>(h.own _ e.symm).2 rfl
 have c3:=(ho1.cell dR fW 0).trans h.c0
 have f3:=(ho1.frozen dR fW 0).trans h.f0
 refine ⟨g4,c4,e,c3,f3,h.store (ho1.mono fun j (hj:some j=_)=> .inl (h.own j hj.symm).1) ⟨_,c3⟩ f3 ?_ fun g hg=>?_⟩
 · rw [zX8,jZ,uZ]
   exact aI
 · have aq:=aI.lt g hg
   have:g4=g:=by simpa [Value.ownBlock] using hg
   subst this
   rcases hat with h1 | h1
   · exact ⟨.inl (h.own _ h1).1,(h.own _ h1).2,aq.2⟩
   · have:=nQ.size
     exact ⟨.inr (by omega),by omega,aq.2⟩
theorem kr.Dv {w y:World} {G:Nat->Prop} {tb:Nat} {v v':Value} {xs zs:List Pr} (h:kr w G tb v xs) (hO:aj G w y) (hc:∃u,y.cell? ⟨tb,0,none⟩=some u) (hf:y.frozen? ⟨tb,0,none⟩=false) (hr:y.ownsRow 0 80 3 v' zs.length (bM zs)) (ho:∀g,v'.ownBlock=some g->g≠tb/\g<y.heap.size):aj G w (y.setCell ⟨tb,0,none⟩ v')/\cL (y.setCell ⟨tb,0,none⟩ v') (fun j=>j=tb\/v'.ownBlock=some j) tb zs:=by
 obtain ⟨u,hc⟩:=hc
 have gh:aj (fun j=>j=tb) y (y.setCell ⟨tb,0,none⟩ v'):=aj.setCell y ⟨tb,0,none⟩ _
 refine ⟨hO.then (gh.mono fun j (hj:j=tb)=> .inl (by rw [hj];exact h.foot)),v',by simp [go_sem,hc],by simp [go_sem,hf],A6 hr gh fun b hb (e:b=tb)=>(ho b hb).1 e,.inl rfl,fun g hg=>⟨.inr hg,(ho g hg).1⟩,fun j hj=>?_⟩
 rcases hj with rfl | hj
 · exact aN (a:=⟨j,0,none⟩) (v:=v') (by simp [go_sem,hc])
 · exact ltT (ho j hj).2 gh.size
def Pl.fH (key:ByteArray) (p:Pr):Bool:=Pl.right key && !(Op.bytesLess p.key.toList key.toList)
structure oF (w wr:World) (ab bb:Nat) (ys zs:List Pr):Prop where
 ex:∃Ga Gb,cL wr Ga ab ys/\cL wr Gb bb zs/\(∀j,Ga j->w.heap.size<=j/\¬Gb j)/\(∀j,Gb j->w.heap.size<=j)
def Dw (w:World) (G:Nat->Prop) (tb:Nat) (ys zs:List Pr) (e:Ending) (w':World):Prop:=∃bb Gb G',e=.returned (.pointer (some ⟨bb,0,none⟩))/\cL w' Gb bb zs/\aj G w w'/\cL w' G' tb ys/\(∀j,G' j->G j\/w.heap.size<=j)/\∀j,Gb j->w.heap.size<=j/\¬G' j
theorem Z5 {w:World} {G:Nat->Prop} {tb:Nat} {xs:List Pr} (h:cL w G tb xs) (hx:xs.length<=100000) (key:ByteArray) (hk:key.size<=16777216):
    Calls Tryz.prog 136 #[.pointer (some ⟨tb,0,none⟩),.string key] w (Dw w G tb (xs.filter fun p=>!Pl.fH key p) (xs.filter (Pl.fH key))):=by
 have HR:=af h
 have Z6:=af (fun W=>TL key W hk)
 obtain ⟨i0,hi0,hz0,hz1,hz2⟩:=info_parts LI
 obtain ⟨v,h⟩:=h
 have c0:=h.c0
 have dR:=aN c0
 obtain ⟨a,cap,e,hA⟩:=lJ h.row
 subst e
 have HH:=af h
 have HA:=af hA
 have FP:Hid (∀p,Pl.fH key p=(Pl.right key && !(Op.bytesLess p.key.toList key.toList))):=fun _=>rfl
 generalize Pl.fH key=pb at *
 clear h hA
 go_in
 go_wp2_with fail
 refine (Z6.out _).mono ?_
 rintro e w1 ⟨hg,he⟩
 obtain ⟨vv,ok,rfl,hok⟩:∃vv ok,e=.returned (.tuple #[vv,.bool ok])/\Pl.right key=ok:=by
  rcases he with ⟨h1,rfl⟩ | ⟨l,v,h1,rfl,_⟩
  · exact ⟨_,_,rfl,by unfold Pl.right;rw [h1];rfl⟩
  · exact ⟨_,_,rfl,by unfold Pl.right;rw [h1];rfl⟩
 have jr:ae w w1:=(((ae.rf w).alloc _).alloc _).trans hg
 have Ue:w.heap.size<w1.heap.size:=by have:=hg.size;simp at this;omega
 have hzb:w.heap.size+1<w1.heap.size:=by have:=hg.size;simp at this;omega
 have pM:Hid (oF w w1 w.heap.size (w.heap.size+1) [] []):=by
  refine ⟨fun j=>j=w.heap.size,fun j=>j=w.heap.size+1,⟨.slice none 0 0,?_,?_,World.ownsRow_nil _ _ _ _,rfl,(fun g h=>by cases h),fun j hj=>by rw [hj];exact Ue⟩,⟨.slice none 0 0,?_,?_,World.ownsRow_nil _ _ _ _,rfl,(fun g h=>by cases h),fun j hj=>by rw [hj];exact hzb⟩,fun j hj=>⟨by omega,by omega⟩,fun j hj=>by omega⟩
  · rw [hg.cells.1 _ _ (by simp;omega)];simp [go_sem]
  · rw [hg.cells.2 _ _ (by simp;omega)];simp [go_sem]
  · rw [hg.cells.1 _ _ (by simp)];simp [go_sem]
  · rw [hg.cells.2 _ _ (by simp)];simp [go_sem]
 have c1:=(jr.cells.1 _ _ dR).trans c0
 have Hy:=ltT dR jr.size
 rw [hok] at FP
 clear hg he Ue hzb hok
 go_wp2_with fail
 obtain ⟨ab,hab⟩:∃ab,ab=w.heap.size:=⟨_,rfl⟩
 obtain ⟨bb,hbb⟩:∃bb,bb=w.heap.size+1:=⟨_,rfl⟩
 rw [<-hbb,<-hab] at pM
 rw [<-hbb,<-hab]
 have HAB:=af hab
 have FQ:=af hbb
 clear hab hbb
 go_loopw [25] (fun i wr=>∃(k:Nat) (ys zs:List Pr),k<=xs.length/\i=.int .i64 k/\Hid (ys=(xs.take k).filter (fun p=>!pb p))/\Hid (zs=(xs.take k).filter pb)/\Hid (oF w wr ab bb ys zs)/\Hid (ae w wr)) (fun i _=>xs.length - (intOf i).toNat)
 case atStart=>exact ⟨0,[],[],Nat.zero_le _,rfl,rfl,rfl,pM,jr⟩
 case round=>
  obtain ⟨k,ys,zs,hk1,rfl,HY,HZ,HC,HG⟩:=hrel
  by_cases aq:k<xs.length
  · rcases HA.out with h0 | ⟨b,off,rfl,hb,hR⟩
    · rw [h0] at aq;simp at aq
    have q0:=(HG.out.cells.1 b (off+k*3) hb).trans (hR.key k aq)
    have q1:=(HG.out.cells.1 b (off+k*3+1) hb).trans (hR.val k aq)
    have q2:=(HG.out.cells.1 b (off+k*3+2) hb).trans (hR.di k aq)
    have hT:=OI xs k aq
    have Uf:(xs.take (k+1)).filter (fun p=>!pb p)=ys++(if pb (ay xs k)=true then [] else [ay xs k]):=by
     rw [hT,List.filter_append,<-HY.out];cases h:pb (ay xs k)<;> simp [h]
    have hfb:(xs.take (k+1)).filter pb=zs++(if pb (ay xs k)=true then [ay xs k] else []):=by
     rw [hT,List.filter_append,<-HZ.out];cases h:pb (ay xs k)<;> simp [h]
    have yB:=af Uf
    have Ih:=af hfb
    have hly:ys.length<=100000:=by have h1:=zJ9 (fun p=>!pb p) (xs.take k);rw [<-HY.out,List.length_take] at h1;omega
    have Ug:zs.length<=100000:=by have h1:=zJ9 pb (xs.take k);rw [<-HZ.out,List.length_take] at h1;omega
    have hpe:=FP.out (ay xs k)
    clear hR Uf hfb hT
    generalize ay xs k=c at *
    obtain ⟨ck,cv,cn⟩:=c
    dsimp only at *
    obtain ⟨Ga,Gb,L6,Bo,kH⟩:=HC.out.ex
    have kI:=HG.out
    clear HC HY HZ
    obtain ⟨lb,kX⟩:∃lb,lb=wr.heap.size:=⟨_,rfl⟩
    have zI:=af kX
    have gY:ae wr (wr.alloc (.cells #[.string ck,.string cv,.int .i64 cn] 80)):=(ae.rf wr).alloc _
    have k0:(wr.alloc (.cells #[.string ck,.string cv,.int .i64 cn] 80)).cell? ⟨lb,0,none⟩=some (.string ck):=by rw [kX];simp [go_sem]
    have k1:(wr.alloc (.cells #[.string ck,.string cv,.int .i64 cn] 80)).cell? ⟨lb,1,none⟩=some (.string cv):=by rw [kX];simp [go_sem]
    have k2:(wr.alloc (.cells #[.string ck,.string cv,.int .i64 cn] 80)).cell? ⟨lb,2,none⟩=some (.int .i64 cn):=by rw [kX];simp [go_sem]
    clear kX
    cases hpb:pb ⟨ck,cv,cn⟩ with
    | true=>
     rw [hpb] at hpe
     have ho1:ok=true:=by cases ok;cases hpe;rfl
     subst ho1
     have hl1:Op.bytesLess ck.toList key.toList=false:=by cases h:Op.bytesLess ck.toList key.toList;rfl;rw [h] at hpe;cases hpe
     have L8:Hid (ys=(xs.take (k+1)).filter (fun p=>!pb p)):=by unfold Hid;rw [yB.out,hpb];simp
     have FK:Hid (zs++[⟨ck,cv,cn⟩]=(xs.take (k+1)).filter pb):=by unfold Hid;rw [Ih.out,hpb];simp
     clear yB Ih hpe
     go_wp2_with fail
     rw [<-zI.out]
     generalize Dx:World.alloc wr _=Y at k0 k1 k2 gY ⊢
     have l5:=gY
     clear Dx gY q0 q1 q2
     obtain ⟨u,hI⟩:=Bo
     have HI:=af hI
     have Bp:=af L6
     clear hI L6
     have lF:¬some lb=u.ownBlock:=fun e=>by have:=HI.out.lt _ (HI.out.own _ e.symm).1;have:=zI.out;omega
     have fW:¬some bb=u.ownBlock:=fun e=>(HI.out.own _ e.symm).2 rfl
     have hlb:lb<Y.heap.size:=aN k0
     have kY:=kI.trans l5
     have np:=af (HI.out.kept (l5.only fun _=>False) (fun _ _ h=>h))
     have K0:=aV (S:=fun j=>some j=u.ownBlock) k0 lF
     have K1:=aV (S:=fun j=>some j=u.ownBlock) k1 lF
     have K2:=aV (S:=fun j=>some j=u.ownBlock) k2 lF
     have C0:=aV (S:=fun j=>some j=u.ownBlock) np.out.c0 fW
     have OY:=aN np.out.c0
     clear k0 k1 k2
     refine gJ 8 [6,7] (aj (fun j=>some j=u.ownBlock) Y) Eq (dO 80 6 7 Y [.string ck,.string cv,.int .i64 cn] (jo 80 3 u zs.length (bM zs) [.string ck,.string cv,.int .i64 cn])) (fun f a=>(a.put (some 42) (f 6)).put (some 43) (f 7)) (by kernel_rfl) (by kernel_rfl) (fun _ _=>rfl) (dO.start Y) (fun L f x h=>h.only fun _ _ _ h=>h.only) (fun _=>rfl) (fun _ _ _ _ h g=>g▸h) ?_
     repeat (first
      | refine gy ?_
      | (refine gB ?_;intro K hK;go_big_quiet_op;go_big_quiet_on)
      | (refine gz ?_;simp only [Act.put,sA,sB,sC]))
     refine jX (by rfl) ⟨⟨bH rfl (fun _ a=>a) (fun _ _=>rfl) (fun _=>rfl) ?_,bH rfl (fun f a=>a.put (some 42) (f 6)) (fun _ _=>rfl) (fun _=>rfl) ?_,trivial⟩,?_⟩
     · intro L f y hJ hL hd
       clear K0 K1 K2 C0
       have hm:=af (hJ.make (by decide) hL)
       clear hJ
       go_simp
       exact hm.out
     · intro L f y hJ hL hd
       clear K0 K1 K2 C0
       have h6:=hd 6 rfl (by decide)
       obtain ⟨vb,q7,tv,hvb⟩:=hJ.made h6 hL
       refine yu _ _ _ rfl 80 i0 _ 3 40 Tryz.underlying84 hi0 hz0 hz1 hz2 H6 (by omega) u zs.length (bM zs) rfl ?_ vb 1 [.string ck,.string cv,.int .i64 cn] ?_ rfl hvb (by intro u hu;simp at hu;rcases hu with rfl | rfl | rfl<;> rfl) (by unfold maxLen;omega) (by omega) ?_
       · exact gI (hJ.ag hL) np.out.row
       · exact q7
       · intro r w' hD
         exact hJ.call (by decide) hL h6 hD
     rintro f y hJ
     clear K0 K1 K2 C0
     obtain ⟨g4,c4,q8,cy,fy,hT⟩:=np.out.snoc (p:=⟨ck,cv,cn⟩) (hJ.done rfl)
     rw [q8]
     have hty:=aN cy
     obtain ⟨rp,G',j3,lZ⟩:=hT
     have HC:Hid (oF w (y.setCell ⟨bb,0,none⟩ (.slice (some ⟨g4,0,none⟩) (zs.length+1) c4)) ab bb ys (zs++[⟨ck,cv,cn⟩])):=by
      refine ⟨Ga,G',(Bp.out.ag l5).kept rp (fun j h1 h2=>(kH.1 j h1).2 h2),j3,fun j hj=>?_,fun j hj=>?_⟩
      · exact ⟨(kH.1 j hj).1,fun h=>by rcases lZ j h with h | h;exact (kH.1 j hj).2 h;have:=(Bp.out.ag l5).lt j hj;omega⟩
      · rcases lZ j hj with h | h;exact kH.2 j h;have:=kY.size;omega
     have Ii:Hid (ae w (y.setCell ⟨bb,0,none⟩ (.slice (some ⟨g4,0,none⟩) (zs.length+1) c4))):=((kY.only _).then rp).ag (fun j hj=>kH.2 j hj)
     clear hJ q8 rp j3 lZ kH kI kY l5 lF fW
     dsimp only [List.drop]
     go_wp2_with fail
     go_roundw
     case rel=>exact ⟨k+1,ys,zs++[⟨ck,cv,cn⟩],by omega,by go_num,L8,FK,HC,Ii⟩
     case measure=>simp [intOf];omega
    | false=>
     rw [hpb] at hpe
     have L8:Hid (ys++[⟨ck,cv,cn⟩]=(xs.take (k+1)).filter (fun p=>!pb p)):=by unfold Hid;rw [yB.out,hpb];simp
     have FK:Hid (zs=(xs.take (k+1)).filter pb):=by unfold Hid;rw [Ih.out,hpb];simp
     cases ok with
     | false=>
      clear yB Ih hpe
      go_wp2_with fail
      rw [<-zI.out]
      generalize Dx:World.alloc wr _=Y at k0 k1 k2 gY ⊢
      have l5:=gY
      clear Dx gY q0 q1 q2
      obtain ⟨u,hI⟩:=L6
      have HI:=af hI
      have Bp:=af Bo
      clear hI Bo
      have lF:¬some lb=u.ownBlock:=fun e=>by have:=HI.out.lt _ (HI.out.own _ e.symm).1;have:=zI.out;omega
      have fW:¬some ab=u.ownBlock:=fun e=>(HI.out.own _ e.symm).2 rfl
      have hlb:lb<Y.heap.size:=aN k0
      have kY:=kI.trans l5
      have np:=af (HI.out.kept (l5.only fun _=>False) (fun _ _ h=>h))
      have K0:=aV (S:=fun j=>some j=u.ownBlock) k0 lF
      have K1:=aV (S:=fun j=>some j=u.ownBlock) k1 lF
      have K2:=aV (S:=fun j=>some j=u.ownBlock) k2 lF
      have C0:=aV (S:=fun j=>some j=u.ownBlock) np.out.c0 fW
      have OY:=aN np.out.c0
      clear k0 k1 k2
      refine gJ 8 [6,7] (aj (fun j=>some j=u.ownBlock) Y) Eq (dO 80 6 7 Y [.string ck,.string cv,.int .i64 cn] (jo 80 3 u ys.length (bM ys) [.string ck,.string cv,.int .i64 cn])) (fun f a=>(a.put (some 52) (f 6)).put (some 53) (f 7)) (by kernel_rfl) (by kernel_rfl) (fun _ _=>rfl) (dO.start Y) (fun L f x h=>h.only fun _ _ _ h=>h.only) (fun _=>rfl) (fun _ _ _ _ h g=>g▸h) ?_
      repeat (first
       | refine gy ?_
       | (refine gB ?_;intro K hK;go_big_quiet_op;go_big_quiet_on)
       | (refine gz ?_;simp only [Act.put,sA,sB,sC]))
      refine jX (by rfl) ⟨⟨bH rfl (fun _ a=>a) (fun _ _=>rfl) (fun _=>rfl) ?_,bH rfl (fun f a=>a.put (some 52) (f 6)) (fun _ _=>rfl) (fun _=>rfl) ?_,trivial⟩,?_⟩
      · intro L f y hJ hL hd
        clear K0 K1 K2 C0
        have hm:=af (hJ.make (by decide) hL)
        clear hJ
        go_simp
        exact hm.out
      · intro L f y hJ hL hd
        clear K0 K1 K2 C0
        have h6:=hd 6 rfl (by decide)
        obtain ⟨vb,q7,tv,hvb⟩:=hJ.made h6 hL
        refine yu _ _ _ rfl 80 i0 _ 3 40 Tryz.underlying84 hi0 hz0 hz1 hz2 H6 (by omega) u ys.length (bM ys) rfl ?_ vb 1 [.string ck,.string cv,.int .i64 cn] ?_ rfl hvb (by intro u hu;simp at hu;rcases hu with rfl | rfl | rfl<;> rfl) (by unfold maxLen;omega) (by omega) ?_
        · exact gI (hJ.ag hL) np.out.row
        · exact q7
        · intro r w' hD
          exact hJ.call (by decide) hL h6 hD
      rintro f y hJ
      clear K0 K1 K2 C0
      obtain ⟨g4,c4,q8,cy,fy,hT⟩:=np.out.snoc (p:=⟨ck,cv,cn⟩) (hJ.done rfl)
      rw [q8]
      have hty:=aN cy
      obtain ⟨rp,G',j3,lZ⟩:=hT
      have HC:Hid (oF w (y.setCell ⟨ab,0,none⟩ (.slice (some ⟨g4,0,none⟩) (ys.length+1) c4)) ab bb (ys++[⟨ck,cv,cn⟩]) zs):=by
       refine ⟨G',Gb,j3,(Bp.out.ag l5).kept rp (fun j h1 h2=>(kH.1 j h2).2 h1),fun j hj=>?_,fun j hj=>?_⟩
       · rcases lZ j hj with h | h
         · exact kH.1 j h
         · refine ⟨by have:=kY.size;omega,fun hb=>?_⟩
           have:=(Bp.out.ag l5).lt j hb;omega
       · exact kH.2 j hj
      have Ii:Hid (ae w (y.setCell ⟨ab,0,none⟩ (.slice (some ⟨g4,0,none⟩) (ys.length+1) c4))):=((kY.only _).then rp).ag (fun j hj=>(kH.1 j hj).1)
      clear hJ q8 rp j3 lZ kH kI kY l5 lF fW
      dsimp only [List.drop]
      go_wp2_with fail
      go_roundw
      case rel=>exact ⟨k+1,ys++[⟨ck,cv,cn⟩],zs,by omega,by go_num,L8,FK,HC,Ii⟩
      case measure=>simp [intOf];omega
     | true=>
      have hl1:Op.bytesLess ck.toList key.toList=true:=by cases h:Op.bytesLess ck.toList key.toList;rw [h] at hpe;cases hpe;rfl
      clear yB Ih hpe
      go_wp2_with fail
      rw [<-zI.out]
      generalize Dx:World.alloc wr _=Y at k0 k1 k2 gY ⊢
      have l5:=gY
      clear Dx gY q0 q1 q2
      obtain ⟨u,hI⟩:=L6
      have HI:=af hI
      have Bp:=af Bo
      clear hI Bo
      have lF:¬some lb=u.ownBlock:=fun e=>by have:=HI.out.lt _ (HI.out.own _ e.symm).1;have:=zI.out;omega
      have fW:¬some ab=u.ownBlock:=fun e=>(HI.out.own _ e.symm).2 rfl
      have hlb:lb<Y.heap.size:=aN k0
      have kY:=kI.trans l5
      have np:=af (HI.out.kept (l5.only fun _=>False) (fun _ _ h=>h))
      have K0:=aV (S:=fun j=>some j=u.ownBlock) k0 lF
      have K1:=aV (S:=fun j=>some j=u.ownBlock) k1 lF
      have K2:=aV (S:=fun j=>some j=u.ownBlock) k2 lF
      have C0:=aV (S:=fun j=>some j=u.ownBlock) np.out.c0 fW
      have OY:=aN np.out.c0
      clear k0 k1 k2
      refine gJ 8 [6,7] (aj (fun j=>some j=u.ownBlock) Y) Eq (dO 80 6 7 Y [.string ck,.string cv,.int .i64 cn] (jo 80 3 u ys.length (bM ys) [.string ck,.string cv,.int .i64 cn])) (fun f a=>(a.put (some 52) (f 6)).put (some 53) (f 7)) (by kernel_rfl) (by kernel_rfl) (fun _ _=>rfl) (dO.start Y) (fun L f x h=>h.only fun _ _ _ h=>h.only) (fun _=>rfl) (fun _ _ _ _ h g=>g▸h) ?_
      repeat (first
       | refine gy ?_
       | (refine gB ?_;intro K hK;go_big_quiet_op;go_big_quiet_on)
       | (refine gz ?_;simp only [Act.put,sA,sB,sC]))
      refine jX (by rfl) ⟨⟨bH rfl (fun _ a=>a) (fun _ _=>rfl) (fun _=>rfl) ?_,bH rfl (fun f a=>a.put (some 52) (f 6)) (fun _ _=>rfl) (fun _=>rfl) ?_,trivial⟩,?_⟩
      · intro L f y hJ hL hd
        clear K0 K1 K2 C0
        have hm:=af (hJ.make (by decide) hL)
        clear hJ
        go_simp
        exact hm.out
      · intro L f y hJ hL hd
        clear K0 K1 K2 C0
        have h6:=hd 6 rfl (by decide)
        obtain ⟨vb,q7,tv,hvb⟩:=hJ.made h6 hL
        refine yu _ _ _ rfl 80 i0 _ 3 40 Tryz.underlying84 hi0 hz0 hz1 hz2 H6 (by omega) u ys.length (bM ys) rfl ?_ vb 1 [.string ck,.string cv,.int .i64 cn] ?_ rfl hvb (by intro u hu;simp at hu;rcases hu with rfl | rfl | rfl<;> rfl) (by unfold maxLen;omega) (by omega) ?_
        · exact gI (hJ.ag hL) np.out.row
        · exact q7
        · intro r w' hD
          exact hJ.call (by decide) hL h6 hD
      rintro f y hJ
      clear K0 K1 K2 C0
      obtain ⟨g4,c4,q8,cy,fy,hT⟩:=np.out.snoc (p:=⟨ck,cv,cn⟩) (hJ.done rfl)
      rw [q8]
      have hty:=aN cy
      obtain ⟨rp,G',j3,lZ⟩:=hT
      have HC:Hid (oF w (y.setCell ⟨ab,0,none⟩ (.slice (some ⟨g4,0,none⟩) (ys.length+1) c4)) ab bb (ys++[⟨ck,cv,cn⟩]) zs):=by
       refine ⟨G',Gb,j3,(Bp.out.ag l5).kept rp (fun j h1 h2=>(kH.1 j h2).2 h1),fun j hj=>?_,fun j hj=>?_⟩
       · rcases lZ j hj with h | h
         · exact kH.1 j h
         · refine ⟨by have:=kY.size;omega,fun hb=>?_⟩
           have:=(Bp.out.ag l5).lt j hb;omega
       · exact kH.2 j hj
      have Ii:Hid (ae w (y.setCell ⟨ab,0,none⟩ (.slice (some ⟨g4,0,none⟩) (ys.length+1) c4))):=((kY.only _).then rp).ag (fun j hj=>(kH.1 j hj).1)
      clear hJ q8 rp j3 lZ kH kI kY l5 lF fW
      dsimp only [List.drop]
      go_wp2_with fail
      go_roundw
      case rel=>exact ⟨k+1,ys++[⟨ck,cv,cn⟩],zs,by omega,by go_num,L8,FK,HC,Ii⟩
      case measure=>simp [intOf];omega
  · obtain rfl:k=xs.length:=by omega
    obtain ⟨Ga,Gb,⟨u,hI⟩,Bo,kH⟩:=HC.out.ex
    obtain ⟨au,zJ,rfl,_⟩:=lJ hI.row
    have cu:=hI.c0
    have Z8:=aN cu
    have hG:=HG.out
    have hK:=HH.out.kept (hG.only fun _=>False) (fun _ _ h=>h)
    have cx:=hK.c0
    have fx:=hK.f0
    have Ig:=aN cx
    have gh:aj (fun j=>j=tb) wr (wr.setCell ⟨tb,0,none⟩ (.slice au ys.length zJ)):=aj.setCell wr ⟨tb,0,none⟩ _
    have dS:Hid (∃Gb G',cL (wr.setCell ⟨tb,0,none⟩ (.slice au ys.length zJ)) Gb bb zs/\aj G w (wr.setCell ⟨tb,0,none⟩ (.slice au ys.length zJ))/\cL (wr.setCell ⟨tb,0,none⟩ (.slice au ys.length zJ)) G' tb ys/\(∀j,G' j->G j\/w.heap.size<=j)/\∀j,Gb j->w.heap.size<=j/\¬G' j):=by
     obtain ⟨q1,q2⟩:=HH.out.Dv (hG.only _) ⟨_,cx⟩ fx hI.row fun g hg=>by
      have h1:=hI.own g hg
      have h2:=kH.1 g h1.1
      exact ⟨by have:=h2.1;omega,hI.lt g h1.1⟩
     refine ⟨Gb,_,Bo.kept gh fun j hj (e:j=tb)=>by have:=kH.2 j hj;omega,q1,q2,fun j hj=>?_,fun j hj=>⟨kH.2 j hj,?_⟩⟩
     · rcases hj with rfl | hj
       · exact .inl HH.out.foot
       · exact .inr (kH.1 j (hI.own j hj).1).1
     · rintro (rfl | hq)
       · have:=kH.2 j hj;omega
       · exact (kH.1 j (hI.own j hq).1).2 hj
    have Z9:Hid (ys=xs.filter (fun p=>!pb p)):=by have:=HY.out;rwa [zQ2] at this
    have HZ3:Hid (zs=xs.filter pb):=by have:=HZ.out;rwa [zQ2] at this
    clear hI Bo kH hG hK gh HC HG HY HZ
    go_wp2_with fail
    go_ret
    rw [<-HZ3.out,<-Z9.out]
    obtain ⟨Gb,G',q⟩:=dS.out
    exact ⟨bb,Gb,G',rfl,q⟩
end
section
namespace Pl
structure Tt (P D:List Pr):Prop where
 fP:ct P
 ap:D.Pairwise fun a b=>a.key≠b.key
 mem:∀c,c∈D↔c∈P
theorem Tt.nil:Tt [] []:=⟨Ou,by simp,fun c=>Iff.rfl⟩
theorem vP {k:ByteArray}:¬bE k k<0:=fun h=>TX h h
theorem OZ {P:List Pr} (h:ct P):P.Pairwise fun a b=>a.key≠b.key:=h.gD.imp fun {a b} hab e=>by rw [e] at hab;exact vP hab
theorem Ui {D:List Pr} (h:D.Pairwise fun a b=>a.key≠b.key):D.Nodup:=h.imp fun {a b} hab e=>hab (by rw [e])
theorem Tt.perm {P D:List Pr} (h:Tt P D):P.Perm D:=(List.perm_ext_iff_of_nodup (Ui (OZ h.fP)) (Ui h.ap)).2 fun c=>(h.mem c).symm
theorem Tt.len {P D:List Pr} (h:Tt P D):P.length=D.length:=h.perm.length_eq
theorem Tt.key {P D:List Pr} (h:Tt P D):∀c∈D,aF c.key=0:=fun c hc=>h.fP.key c ((h.mem c).1 hc)
theorem Uj {D:List Pr} (h:D.Pairwise fun a b=>a.key≠b.key) (k:ByteArray):(D.eraseP (isK k)).Pairwise fun a b=>a.key≠b.key:=h.sublist List.eraseP_sublist
theorem O2 {D:List Pr} (h:D.Pairwise fun a b=>a.key≠b.key) (k:ByteArray) (c:Pr):c∈D.eraseP (isK k)↔c∈D/\c.key≠k:=by
 induction D with
 | nil=>simp
 | cons d D ih=>
  rw [List.pairwise_cons] at h
  by_cases hd:isK k d=true
  · rw [List.eraseP_cons_of_pos hd]
    have hk:=(fN k d).1 hd
    constructor
    · intro hc
      exact ⟨List.mem_cons_of_mem _ hc,fun e=>h.1 c hc (by rw [hk,e])⟩
    · rintro ⟨hc,hn⟩
      rcases List.mem_cons.1 hc with rfl | hc
      · exact (hn hk).elim
      · exact hc
  · rw [List.eraseP_cons_of_neg hd,List.mem_cons,ih h.2,List.mem_cons]
    have hk:d.key≠k:=fun e=>hd ((fN k d).2 e)
    constructor
    · rintro (rfl | ⟨hc,hn⟩)
      · exact ⟨.inl rfl,hk⟩
      · exact ⟨.inr hc,hn⟩
    · rintro ⟨rfl | hc,hn⟩
      · exact .inl rfl
      · exact .inr ⟨hc,hn⟩
theorem Tt.del {P D:List Pr} (h:Tt P D) (k:ByteArray):Tt (iz P k) (D.eraseP (isK k)):=
 ⟨Oz h.fP k,Uj h.ap k,fun c=>by rw [O2 h.ap,LK h.fP,h.mem]⟩
theorem Tt.put {P D:List Pr} (h:Tt P D) (p:Pr):Tt (iK P p) (iB D p):=by
 unfold iK iB
 by_cases hn:dG p=0
 · rw [zZ1 hn,zZ1 hn]
   have hp:=(FO hn).1
   refine ⟨LJ h.fP hp,?_,fun c=>?_⟩
   · rw [List.pairwise_append]
     refine ⟨Uj h.ap _,by simp,fun a ha b hb=>?_⟩
     rw [List.mem_singleton] at hb
     subst hb
     exact ((O2 h.ap _ a).1 ha).2
   · rw [List.mem_append,List.mem_singleton,O2 h.ap,Hm h.fP hp,h.mem]
     exact Or.comm
 · rw [zZ0 hn,zZ0 hn];exact h
theorem Ik {D:List Pr} (h:D.Pairwise fun a b=>a.key≠b.key) (k:ByteArray) (c:Pr):D.find? (isK k)=some c↔c∈D/\c.key=k:=by
 induction D with
 | nil=>simp
 | cons d D ih=>
  rw [List.pairwise_cons] at h
  by_cases hd:isK k d=true
  · rw [List.find?_cons_of_pos hd,Option.some.injEq]
    have hk:=(fN k d).1 hd
    constructor
    · rintro rfl;exact ⟨List.mem_cons_self,hk⟩
    · rintro ⟨hc,hn⟩
      rcases List.mem_cons.1 hc with rfl | hc
      · rfl
      · exact (h.1 c hc (by rw [hk,hn])).elim
  · rw [List.find?_cons_of_neg hd,ih h.2,List.mem_cons]
    have hk:d.key≠k:=fun e=>hd ((fN k d).2 e)
    constructor
    · rintro ⟨hc,hn⟩;exact ⟨.inr hc,hn⟩
    · rintro ⟨rfl | hc,hn⟩
      · exact (hk hn).elim
      · exact ⟨hc,hn⟩
theorem Tt.get {P D:List Pr} (h:Tt P D) (k:ByteArray):dJ P k=D.find? (isK k):=by
 cases hf:D.find? (isK k) with
 | some c=>
  obtain ⟨hc,rfl⟩:=(Ik h.ap k c).1 hf
  exact LW h.fP ((h.mem c).1 hc)
 | none=>
  refine ZE h.fP fun c hc e=>?_
  have:=(Ik h.ap k c).2 ⟨(h.mem c).2 hc,e⟩
  rw [hf] at this
  cases this
theorem Uk {P:List Pr} (h:ct P) {k:ByteArray} (hk:Ok k) (c:Pr):c∈P.take (pos P k)↔c∈P/\bE c.key k<0:=by
 constructor
 · intro hc
   exact ⟨zX6 hc,Ow h hk c hc⟩
 · rintro ⟨hc,aq⟩
   obtain ⟨j,hj,rfl⟩:=zQ1 hc
   have:=(Bg hk h j hj).1 (by rw [jt P j hj];exact aq)
   rw [List.mem_take_iff_getElem]
   exact ⟨j,by omega,rfl⟩
theorem Ul {P:List Pr} (h:ct P) {k:ByteArray} (hk:Ok k) (c:Pr):c∈P.drop (pos P k)↔c∈P/\¬bE c.key k<0:=by
 constructor
 · intro hc
   obtain ⟨j,hj,rfl⟩:=List.mem_drop_iff_getElem.1 hc
   refine ⟨zQ5 _,fun aq=>?_⟩
   have:=(Bg hk h (pos P k+j) (by omega)).1 (by rw [jt P _ (by omega)];exact aq)
   omega
 · rintro ⟨hc,aq⟩
   obtain ⟨j,hj,rfl⟩:=zQ1 hc
   have hge:¬j<pos P k:=fun hh=>aq (by have:=(Bg hk h j hj).2 hh;rwa [jt P j hj] at this)
   rw [List.mem_drop_iff_getElem]
   exact ⟨j - pos P k,by omega,by congr 1;omega⟩
theorem Tt.cut {P D:List Pr} (h:Tt P D) (k:ByteArray):Tt (P.take (bh P k)) (D.filter fun p=>!fH k p)/\Tt (P.drop (bh P k)) (D.filter (fH k)):=by
 by_cases hr:right k=true
 · have hk:=T3 hr
   have hc:∀c∈D,fH k c=!decide (bE c.key k<0):=fun c hc=>by
    unfold fH
    rw [hr,LM c.key k (iF (h.key c hc)) hk];rfl
   have hn:bh P k=pos P k:=by unfold bh;rw [zZ1 hr]
   rw [hn]
   refine ⟨⟨TY h.fP _,h.ap.sublist List.filter_sublist,fun c=>?_⟩,⟨TZ h.fP _,h.ap.sublist List.filter_sublist,fun c=>?_⟩⟩
   · rw [List.mem_filter,Uk h.fP hk,<-h.mem]
     constructor
     · rintro ⟨h1,h2⟩;rw [hc c h1] at h2;exact ⟨h1,by simpa using h2⟩
     · rintro ⟨h1,h2⟩;exact ⟨h1,by rw [hc c h1];simpa using h2⟩
   · rw [List.mem_filter,Ul h.fP hk,<-h.mem]
     constructor
     · rintro ⟨h1,h2⟩;rw [hc c h1] at h2;exact ⟨h1,by simpa using h2⟩
     · rintro ⟨h1,h2⟩;exact ⟨h1,by rw [hc c h1];simpa using h2⟩
 · have hr':right k=false:=by simpa using hr
   have hc:∀c,fH k c=false:=fun c=>by unfold fH;rw [hr'];rfl
   have hn:bh P k=P.length:=by unfold bh;rw [zZ0 hr]
   rw [hn,zQ2,List.drop_length]
   have e1:(D.filter fun p=>!fH k p)=D:=List.filter_eq_self.2 fun c _=>by rw [hc];rfl
   have e2:D.filter (fH k)=[]:=List.filter_eq_nil_iff.2 fun c _=>by rw [hc];simp
   rw [e1,e2]
   exact ⟨h,Tt.nil⟩
theorem Um (xs:List Pr) (p:Pr):(iB xs p).length<=xs.length+1:=by
 unfold iB;split
 · have:=List.length_eraseP_le (l:=xs) (p:=isK p.key);simp only [zX8,List.length_cons,zK3];omega
 · omega
end Pl
namespace Pl
theorem zN (c:Nat):(enc c).length<=4:=by
 unfold enc
 repeat' split
 all_goals simp
theorem z0H:∀(n:Nat) (l:List UInt8) (r:List Nat),l.length<=n->runes l=some r->l.length<=4*r.length:=by
 intro n
 induction n with
 | zero=>
  intro l r hl h
  omega
 | succ n ih=>
  intro l r hl h
  by_cases e:l=[]
  · subst e;simp
  · rw [rM l e] at h
    cases hs:bp l with
    | none=>rw [hs] at h;cases h
    | some d=>
     rw [hs] at h
     simp only [zK8,zK9] at h
     obtain ⟨t,ht,rfl⟩:=h
     obtain ⟨c,w⟩:=d
     have hp:=Fq l e c w hs
     have h4:w<=4:=by have:=(Cn l e c w hs).2.1;rw [this];exact zN c
     have:=ih (l.drop w) t (by simp;omega) ht
     simp at this ⊢
     omega
theorem Un {k:ByteArray} (h:aF k=0):k.size<=96:=by
 unfold aF at h
 split at h
 · cases h
 · next l hl=>
   have:=z0H _ _ _ (zZ3 _) hl
   have hs:k.size=k.data.toList.length:=by rw [Array.length_toList];rfl
   unfold ji at h
   split at h
   · cases h
   · split at h
     · cases h
     · omega
def Good (P:List Pr):Prop:=∀c∈P,dG c=0
theorem vQ:Good []:=fun c h=>by cases h
theorem Good.sub {P Q:List Pr} (h:Good P) (hs:Q.Sublist P):Good Q:=fun c hc=>h c (hs.subset hc)
theorem Uo (P:List Pr) (k:ByteArray):(iz P k).Sublist P:=by
 unfold iz
 split
 · have h1:(P.take (pos P k)++P.drop (pos P k+1)).Sublist (P.take (pos P k)++P.drop (pos P k)):=
    List.Sublist.append (List.Sublist.refl _) (by rw [<-List.drop_drop];exact List.drop_sublist 1 _)
   rwa [List.take_append_drop] at h1
 · exact List.Sublist.refl _
theorem Good.del {P:List Pr} (h:Good P) (k:ByteArray):Good (iz P k):=h.sub (Uo P k)
theorem Good.put {P:List Pr} (h:Good P) (p:Pr):Good (iK P p):=by
 unfold iK
 split
 · next hp=>
   intro c hc
   unfold fG at hc
   rw [List.mem_append,List.mem_append] at hc
   rcases hc with (hc | hc) | hc
   · exact h c (zX6 hc)
   · rw [List.mem_singleton.1 hc];exact hp
   · exact h c (zX7 hc)
 · exact h
theorem vR (P:List Pr) (p:Pr):(iK P p).length<=P.length+1:=by
 unfold iK;split
 · exact Zo P p
 · omega
end Pl
end
section
open Go.RowKit Go.Maps
attribute [local go_sem] Oper.semAt_some
end
section
open Go.RowKit Go.Maps
attribute [local go_sem] Oper.semAt_some aT
structure vS (w:World) (Ft Fs:Nat->Prop) (st tb sb n:Nat) (lo hi:ByteArray) (P:List Pr) (S:Int->Option An):Prop where
 c0:w.cell? ⟨st,0,none⟩=some (.pointer (some ⟨tb,0,none⟩))
 c1:w.cell? ⟨st,1,none⟩=some (.string lo)
 c2:w.cell? ⟨st,2,none⟩=some (.string hi)
 c3:w.cell? ⟨st,3,none⟩=some (.pointer (some ⟨sb,0,none⟩))
 f0:∀i,w.frozen? ⟨st,i,none⟩=false
 tab:bo w Ft tb P
 seen:jI w Fs sb n S
 good:Pl.Good P
 apart:∀j,Ft j->¬Fs j/\j≠st
 own:∀j,Fs j->j≠st
def cY (w:World) (Ft Fs:Nat->Prop) (st n:Nat) (lo hi:ByteArray) (P:List Pr) (S:Int->Option An):Prop:=∃tb sb,vS w Ft Fs st tb sb n lo hi P S
section
variable {w w':World} {Ft Fs T:Nat->Prop} {st tb sb n:Nat} {lo hi:ByteArray} {P:List Pr} {S:Int->Option An}
theorem vS.kept (h:vS w Ft Fs st tb sb n lo hi P S) (g:aj T w w') (h1:∀j,Ft j->¬T j) (h2:∀j,Fs j->¬T j) (h3:¬T st):vS w' Ft Fs st tb sb n lo hi P S where
 c0:=(g.cell (aN h.c0) h3 0).trans h.c0
 c1:=(g.cell (aN h.c0) h3 1).trans h.c1
 c2:=(g.cell (aN h.c0) h3 2).trans h.c2
 c3:=(g.cell (aN h.c0) h3 3).trans h.c3
 f0:=fun i=>(g.frozen (aN h.c0) h3 i).trans (h.f0 i)
 tab:=h.tab.kept g h1
 seen:=h.seen.kept g h2
 good:=h.good
 apart:=h.apart
 own:=h.own
theorem cY.kept (h:cY w Ft Fs st n lo hi P S) (g:aj T w w') (h1:∀j,Ft j->¬T j) (h2:∀j,Fs j->¬T j) (h3:¬T st):cY w' Ft Fs st n lo hi P S:=by
 obtain ⟨tb,sb,h⟩:=h
 exact ⟨tb,sb,h.kept g h1 h2 h3⟩
theorem cY.ag (h:cY w Ft Fs st n lo hi P S) (g:ae w w'):cY w' Ft Fs st n lo hi P S:=h.kept (g.only fun _=>False) (fun _ _ h=>h) (fun _ _ h=>h) (fun h=>h)
end
structure j0a (y:World) (n:Nat) (P:List Pr) (S:Int->Option An) (L:Nat->Bool) (f:Nat->Value) (x:World):Prop where
 ag:ae y x
 ord:L 13=true->L 4=true
 tab:L 4=true->∃cb Fc,f 4=.pointer (some ⟨cb,0,none⟩)/\bo x Fc cb P/\(∀j,Fc j->y.heap.size<=j)/\(L 13=true->∃db Gs,f 13=.pointer (some ⟨db,0,none⟩)/\jI x Gs db n S/\(∀j,Gs j->y.heap.size<=j)/\∀j,Fc j->¬Gs j)
end
section
open Go.RowKit Go.Maps
namespace Pl
theorem Uv {P:List Pr} (h:Good P) (o:bC) (v:Int):Good (bK P o v).1:=by
 unfold bK
 split
 · exact h.del _
 · split
   · exact h
   · split
     · exact h
     · exact h.put _
theorem vW (P:List Pr) (o:bC) (v:Int):(bK P o v).1.length<=P.length+1:=by
 unfold bK
 split
 · have:=(Uo P o.key).length_le;dsimp only;omega
 · split
   · dsimp only;omega
   · split
     · dsimp only;omega
     · exact vR P _
def jz:List bC->Int->List Pr->List Pr×Bool
 | [],_,P=>(P,true)
 | o::os,v,P=>if (bK P o v).2=true then jz os v (bK P o v).1 else ((bK P o v).1,false)
theorem Bq (o:bC) (os:List bC) (v:Int) (P:List Pr):jz (o::os) v P=if (bK P o v).2=true then jz os v (bK P o v).1 else ((bK P o v).1,false):=rfl
theorem Uw (a b:List bC) (v:Int):∀P,jz (a++b) v P=if (jz a v P).2=true then jz b v (jz a v P).1 else jz a v P:=by
 induction a with
 | nil=>intro P;simp [jz]
 | cons o os ih=>
  intro P
  rw [zK7,Bq,Bq]
  cases hb:(bK P o v).2 with
  | true=>simp only [if_true];exact ih _
  | false=>simp
theorem z0c (a:List bC) (v:Int):∀P,Good P->Good (jz a v P).1:=by
 induction a with
 | nil=>intro P h;exact h
 | cons o os ih=>
  intro P h
  rw [Bq]
  split
  · exact ih _ (Uv h o v)
  · exact Uv h o v
theorem Ux (a:List bC) (v:Int):∀P,(jz a v P).1.length<=P.length+a.length:=by
 induction a with
 | nil=>intro P;simp [jz]
 | cons o os ih=>
  intro P
  rw [Bq]
  have:=vW P o v
  split
  · have:=ih (bK P o v).1;simp only [List.length_cons];omega
  · simp only [List.length_cons];omega
theorem z0M {ops:List bC} {v:Int} {P Q:List Pr} {k:Nat} (hk:k<ops.length) (h:jz (ops.take k) v P=(Q,true)):
    jz (ops.take (k+1)) v P=bK Q (bn ops k) v/\((bK Q (bn ops k) v).2=false->(jz ops v P).2=false):=by
 have e:∀o,jz [o] v Q=bK Q o v:=by
  intro o
  rw [Bq]
  cases hb:(bK Q o v).2 with
  | true=>rw [zZ1 rfl];show ((bK Q o v).1,true)=_;rw [<-hb]
  | false=>rw [zZ0 (by decide),<-hb]
 have h1:jz (ops.take (k+1)) v P=bK Q (bn ops k) v:=by
  rw [zZ6 hk,Uw,h,zZ1 rfl,<-ym ops k hk]
  exact e _
 refine ⟨h1,fun hf=>?_⟩
 have h2:jz ops v P=jz (ops.take (k+1)++ops.drop (k+1)) v P:=by rw [List.take_append_drop]
 rw [h2,Uw,h1,hf,zZ0 (by decide),hf]
def dK (P:List Pr) (ops:List bC) (at_:Int):Int:=if (jz ops (at_+1) P).2=true then 1 else 2
def gF (P:List Pr) (ops:List bC) (at_:Int):List Pr:=if (jz ops (at_+1) P).2=true then (jz ops (at_+1) P).1 else P
theorem Uy {P:List Pr} (h:Good P) (ops:List bC) (at_:Int):Good (gF P ops at_):=by
 unfold gF;split
 · exact z0c _ _ _ h
 · exact h
theorem vX (P:List Pr) (ops:List bC) (at_:Int):(gF P ops at_).length<=P.length+ops.length:=by
 unfold gF;split
 · exact Ux _ _ _
 · omega
theorem vY (P:List Pr) (ops:List bC) (at_:Int):dK P ops at_=1\/dK P ops at_=2:=by
 unfold dK;split
 · exact .inl rfl
 · exact .inr rfl
end Pl
end
end Go.Proofs.YtbnofojapimfcaaGreatDoor
