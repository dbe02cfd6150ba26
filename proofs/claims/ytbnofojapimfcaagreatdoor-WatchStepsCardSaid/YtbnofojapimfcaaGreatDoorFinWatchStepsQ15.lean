/- Part 15 of the proof. -/
import Derived.Test.YtbnofojapimfcaaGreatDoorFinWatchStepsQ7
import Derived.Test.YtbnofojapimfcaaGreatDoorFinWatchStepsQ9
import Derived.Test.YtbnofojapimfcaaGreatDoorFinWatchStepsQ10
import Derived.BigRegionIn
set_option linter.unusedVariables false
set_option linter.unusedSectionVars false
set_option linter.unusedSimpArgs false
set_option maxRecDepth 100000
set_option maxHeartbeats 16000000
namespace Go.Proofs.YtbnofojapimfcaaGreatDoor
section
open Go.RowKit Go.Maps Go.Shelf
attribute [local go_sem] Oper.semAt_some
theorem KeepsFrom.ag {W W':World} (g:ae W W') (B:Nat):KeepsFrom B W W':=⟨g.size,fun k o _ hk _=>(g.below.block k (zZ2.1 hk).1).trans hk⟩
theorem Zl (w:World) (sb:Nat):Calls Tryz.prog 154 #[.pointer (some ⟨sb,0,none⟩)] w fun e w'=>e=.returned (.func (.func 180) #[] #[.pointer (some ⟨w.heap.size,0,none⟩)])/\w'=w.alloc (.cells #[.pointer (some ⟨sb,0,none⟩)] 132):=by
 go_in
 go_wp2_with fail
 go_ret
 exact ⟨rfl,rfl⟩
end
section
open Go.RowKit Go.Maps Go.Shelf
attribute [local go_sem] Oper.semAt_some aT
structure Zm (y:World) (m:Nat) (L:Nat->Bool) (f:Nat->Value) (x:World):Prop where
 ag:ae y x
 len:L 5=true->f 5=.int .i64 (m:Nat)
end
section
open Go.RowKit Go.Maps Go.Shelf
attribute [local go_sem] Oper.semAt_some
theorem U7 {w w':World} {b:Nat} (e:w'.heap[b]? =w.heap[b]?) (o:Nat):w'.cell? ⟨b,o,none⟩=w.cell? ⟨b,o,none⟩:=by simp [World.cell?,e]
theorem bL.blk {w w':World} {P:Program} {k:TypeId} {b n:Nat} {f:Lit->Option Value} (h:bL w P k b n f) (e:w'.heap[b]? =w.heap[b]?):bL w' P k b n f:=by
 obtain ⟨D,⟨es,clock,h1,h2⟩,hf⟩:=h
 exact ⟨D,⟨es,clock,e.trans h1,h2⟩,hf⟩
theorem y7Q (n:Nat) (hn:7<=n) (Kp:World->World->Prop) {w:World} {F:Nat->Prop} {Bs sb mb nn:Nat} {f:Lit->Option Value} {S:Int->Option An} (h:qW w F sb mb nn f S) (hnn:nn<=1000000) (Jc:w.cell? ⟨Bs,0,none⟩=some (.pointer (some ⟨sb,0,none⟩)))
    (hKt:∀{A B C:World},Kp A B->Kp B C->Kp A C) (U8:∀A B,Kp A B->B.heap[sb]? =A.heap[sb]? /\B.heap[mb]? =A.heap[mb]?)
    (hKc:∀W1 W2,Below w.heap.size w W1->Kp W1 W2->W2.cell? ⟨Bs,0,none⟩=some (.pointer (some ⟨sb,0,none⟩)))
    (hKr:∀W W1 W2,Below w.heap.size w W->Below W.heap.size W W1->Kp W1 W2->∀(b:Nat) (o:Obj),W.heap.size<=b->W1.heap[b]? =some o->o.isCells=true->W2.heap[b]? =some o):
    SeqStopsK Fence.wide n Tryz.prog 180 #[.pointer (some ⟨Bs,0,none⟩)] uX Kp (fun xs=>xs.map Subtype.val=js S) (fun _=>True) 4 w:=by
 intro l J Jx W hW hJa j0f hY h0
 have hG:ae w W:=hW
 have BD:qW W F sb mb nn f S:=h.kept (hG.only fun _=>False) (fun _ _ h=>h)
 have Jd:=(hG.cells.1 _ 0 (aN Jc)).trans Jc
 have hc0:=BD.c0
 have lf:=af BD
 have yC:=af (fun mb W=>(callsIn_wide (n:=n - 1)).2 ((callsIn_wide (n:=5)).1 (AnyZI.keys_in Tryz.keysCl Fence.wide 5 trivial rfl mb W)))
 change Hid (∀(U9:Option Nat) (W:World),CallsIn Fence.wide (n - 1) Tryz.prog 182 #[.map U9] W fun e w'=>e=.returned (.func (.func 197) #[] #[.pointer (some ⟨W.heap.size,0,none⟩)])/\w'=W.alloc (.cells #[.map U9] 227)) at yC
 have gA:ae W (W.alloc (.cells #[.map (some mb)] 227)):=(ae.rf W).alloc _
 have Eb:=af ((callsIn_wide (n:=n - 1)).2 ((callsIn_wide (n:=5)).1 (Zg (W.alloc (.cells #[.map (some mb)] 227)) mb nn f (BD.lm.ag gA) hnn W.heap.size (by simp [go_sem]))))
 have hok:=h.ok
 obtain ⟨xs,hxs⟩:=Zj hok
 have hval:=h.val
 have HXS:=af hxs
 have Je:=af (fun (ks:List Int) (hr:ks.Pairwise fun a b=>a<b) (hm:∀c,c∈ks↔f (bW c)≠none)=>show ks=xs.map (fun x=>x.1.1) from by
  have e:xs.map (fun x=>x.1.1)=(js S).map (·.1):=by rw [<-hxs,List.map_map];rfl
  rw [e]
  refine zt hr (Zh S) fun c=>?_
  rw [hm,hval,zZ4]
  constructor
  · intro hc
    cases hS:S c with
    | none=>rw [hS] at hc;exact absurd rfl hc
    | some a=>exact ⟨(c,a),LH.2 ⟨by have:=hok c a hS;omega,hS⟩,rfl⟩
  · rintro ⟨⟨d,a⟩,hd,rfl⟩
    rw [(LH.1 hd).2]
    simp)
 have hxl:xs.length<=4:=by have:=congrArg List.length hxs;rw [List.length_map] at this;have:=TD S;omega
 have mF:=af (fun (x:yw) (hx:x∈xs)=>show S x.1.1=some x.1.2 from by
  have:x.1∈js S:=by rw [<-hxs];exact zZ4.2 ⟨x,hx,rfl⟩
  exact (LH.1 this).2)
 have hfK:Fence.wide.fn 182:=trivial
 have hfS:Fence.wide.fn 181:=trivial
 clear BD hG hxs hval hok gA
 refine callsIn_of_wp Tryz.func180 rfl trivial ?_ rfl
 simp only [Tryz.ntmps180,List.size_toArray,List.length_cons,zK3,Nat.reduceAdd,Nat.reduceSub,Array.replicate_succ,Array.replicate_zero,List.push_toArray,List.append_toArray,List.nil_append,zK7]
 gi_wp2
 refine ⟨fun _=>by omega,(yC.out _ _).mono ?_⟩
 rintro e w' ⟨rfl,rfl⟩
 gi_wp2
 refine ⟨fun _=>by omega,Eb.out.mono ?_⟩
 rintro e W1 ⟨v,ks,rfl,hr,hm,hl,aI,hb⟩
 have hks:=Je.out ks hr hm
 subst hks
 have Ec:Below W.heap.size W W1:=(((ae.rf W).alloc (.cells #[.map (some mb)] 227)).trans hb:ae W W1)
 have Jf:=af Ec
 have Va:J [] W1:=hJa [] W W1 none h0 ⟨Ec.os,Ec.tape,Ec.output,Ec.size,fun k hk _=>Ec.block k hk⟩ (fun r e=>by cases e)
 rw [List.length_map] at aI
 obtain ⟨m,hm'⟩:∃m,m=xs.length:=⟨_,rfl⟩
 have oN:=af hm'
 have hform:∃ao cap,v=.slice ao m cap:=by
  rw [hm']
  rcases aI.2 with ⟨h1,h2⟩ | ⟨b,c,cur,h1,_⟩
  · exact ⟨none,0,by rw [h1,h2]⟩
  · exact ⟨_,_,h1⟩
 obtain ⟨ao,cap,rfl⟩:=hform
 have fD:=af aI
 have ky:=af Va
 have hm4:m<=4:=by omega
 clear aI hm hr hl hb Va hm' Je Ec h0 yC Eb
 gi_wp2
 gi_loopw [4,12] (fun u i wr=>∃k:Nat,k<=m/\i=.int .i64 k/\Hid (J (xs.take k) wr)/\Hid (wr=W1\/Kp W1 wr)) (fun _ i _=>m - (intOf i).toNat)
 case atStart=>exact ⟨0,Nat.zero_le _,rfl,by unfold Hid;simpa using ky.out,.inl rfl⟩
 case round=>
  obtain ⟨k,hk,rfl,HJ,HC⟩:=hrel
  have hBl:wr.heap[sb]? =W.heap[sb]? /\wr.heap[mb]? =W.heap[mb]? :=by
   have h0:W1.heap[sb]? =W.heap[sb]? /\W1.heap[mb]? =W.heap[mb]? :=⟨Jf.out.block sb (aN hc0),Jf.out.block mb lf.out.lm.lt⟩
   rcases HC.out with rfl | hk'
   · exact h0
   · exact ⟨(U8 _ _ hk').1.trans h0.1,(U8 _ _ hk').2.trans h0.2⟩
  have d0:wr.cell? ⟨Bs,0,none⟩=some (.pointer (some ⟨sb,0,none⟩)):=by
   rcases HC.out with rfl | hk'
   · exact (Jf.out.cell (p:=⟨Bs,0,none⟩) (aN Jd)).trans Jd
   · exact hKc W1 wr (hW.trans (Jf.out.mono hW.size)) hk'
  have d1:=(U7 hBl.1 0).trans hc0
  have Jg:=af (lf.out.lm.blk hBl.2)
  by_cases aq:k<m
  · obtain ⟨x,hx⟩:∃x,x=xs[k]'(by rw [<-oN.out];exact aq):=⟨_,rfl⟩
    have Vb:x∈xs:=by rw [hx];exact zQ5 _
    have aI:=fD.out
    rw [<-oN.out] at aI
    obtain ⟨zb,j0g,cur,e1,hzb,hheap,hz1,hz2,hz3,Vc⟩:=rP aI (by omega)
    have Vd:W.heap.size<=zb:=zQ0 (by simp) hzb
    have qf:wr.heap[zb]? =some (.cells cur.toArray 3 (0,0)):=by
     rcases HC.out with rfl | hk'
     · exact hheap
     · exact hKr W W1 wr hW Jf.out hk' zb _ Vd hheap rfl
    have hcell:wr.cell? ⟨zb,k,none⟩=some (.int .i64 x.1.1):=by
     have h5:cur[k]? =some (.int .i64 x.1.1):=by
      have h6:(cur.take (m*1))[k]? =cur[k]? :=by rw [List.getElem?_take,zZ1 (by omega)]
      rw [<-h6,Vc,List.map_map,List.getElem?_map,List.getElem?_eq_getElem (by rw [<-oN.out];exact aq),<-hx]
      rfl
     rw [fA qf k,h5]
    cases e1
    have j0h:zb<wr.heap.size:=(zZ2.1 qf).1
    have hlk:(Instr.lookup 227 (.map (some mb)) (.int .i64 x.1.1) false).run Tryz.prog wr=.ok x.1.2.agg wr:=by
     have h7:=Jg.out.lookup ow Tryz.underlying227 (Og wr) (keyOf_int_mk Tryz.underlying3 (pA (c:=x.1.1) (by have:=x.2.1;omega) (by have:=x.2.2.1;omega)))
     rw [show (Lit.int .i64 x.1.1)=bW x.1.1 from rfl,lf.out.val,mF.out x Vb] at h7
     exact h7
    have htk:xs.take (k+1)=xs.take k++[x]:=by rw [zZ6 (by rw [<-oN.out];exact aq),hx]
    have HTK:=af htk
    obtain ⟨fn,tmps,assign,body,hy,hR⟩:=hY (xs.take k) x wr HJ.out (by rw [List.length_take];omega)
    unfold uX at hy
    have HKP:=af (fun W3 (hk3:Kp wr W3)=>show wr=W1/\Kp W1 W3\/Kp W1 W3 from by
     rcases HC.out with rfl | hk'
     · exact .inl ⟨rfl,hk3⟩
     · exact .inr (hKt hk' hk3))
    clear aI hheap qf hz1 hz2 hz3 Vc hzb Vd hx Vb htk hBl
    gi_wp2
    refine ⟨fun _=>by omega,hR.mono ?_⟩
    rintro e W3 (⟨rfl,hJ3,hk3⟩ | ⟨rfl,hJx3⟩)
    · have HJ3:=af hJ3
      have Nu:=af (HKP.out W3 hk3)
      clear hJ3 hk3
      gi_wp2
      go_roundw
      case rel=>exact ⟨k+1,by omega,by go_num,by unfold Hid;rw [HTK.out];exact HJ3.out,by rcases Nu.out with ⟨_,h⟩ | h<;> exact .inr h⟩
      case measure=>simp [intOf];omega
    · gi_wp2
      refine bodyPost_ret (results_none rfl _ _ _) rfl ?_
      exact ⟨⟨_,rfl⟩,.inr ⟨_,trivial,hJx3⟩⟩
  · have vU:k=m:=by omega
    subst vU
    have Ve:J xs wr:=by have:=HJ.out;rwa [oN.out,zQ2] at this
    have HJE:=af Ve
    clear Ve hBl
    gi_wp2
    go_end0
    exact ⟨⟨_,rfl⟩,.inl ⟨xs,HXS.out,HJE.out⟩⟩
def ru (S:Int->Option An) (x:Int×An):Int->Option An:=if bT (S x.1)<x.2.seq then dw S x.1 x.2 else S
def joinL (S:Int->Option An) (xs:List (Int×An)):Int->Option An:=xs.foldl ru S
theorem z1V (S:Int->Option An) (xs:List (Int×An)) (x:Int×An):joinL S (xs++[x])=ru (joinL S xs) x:=by
 unfold joinL
 rw [List.foldl_append];rfl
theorem z1M (X:World) (a b c:Value) (h:a.oneCell'=true):(Instr.field 233 (.agg #[a,b,c]) 0).run Tryz.prog X=.ok a X:=by
 cases a<;> first | (simp [Value.oneCell'] at h;done) | kernel_rfl
theorem Vf (W:World) (k:Nat):ae W (W.drewN k):=by
 have h:=(ae.rf W)
 exact ⟨h.os,h.tape,h.output,h.size,h.block⟩
def qg (n₀ mR:Nat) (A B:World):Prop:=A.heap.size<=B.heap.size/\(∀b,b<n₀->b≠mR->B.heap[b]? =A.heap[b]?)/\∀(b:Nat) (o:Obj),n₀<=b->A.heap[b]? =some o->o.isCells=true->B.heap[b]? =some o
theorem qg.trans {n₀ mR:Nat} {A B C:World} (h:qg n₀ mR A B) (k:qg n₀ mR B C):qg n₀ mR A C:=⟨zQ0 h.1 k.1,fun b h1 h2=>(k.2.1 b h1 h2).trans (h.2.1 b h1 h2),fun b o h1 h2 h3=>k.2.2 b o h1 (h.2.2 b o h1 h2 h3) h3⟩
theorem qg.put {n₀ mR:Nat} {w:World} (hn:n₀<=w.heap.size) (W:World) (l:Nat) (o o':Obj) (hl:w.heap.size<=l) (h1:W.heap[l]? =some o) (h2:o.isCells=false) (h3:o.isWalk=false):qg n₀ mR W (W.putObj l o'):=by
 refine ⟨?_,fun b hb _=>?_,fun b q hb hq hc=>?_⟩
 · exact (grownBy_putObj' W l o').size
 · exact (grownBy_putObj' W l o').block b (by have:=(zZ2.1 h1).1;omega) (fun e=>by have:=Option.some.inj e;omega)
 · refine ((grownBy_putObj' W l o').block b (zZ2.1 hq).1 (fun e=>?_)).trans hq
   have e:=Option.some.inj e
   subst e
   rw [h1] at hq;cases hq
   rw [h2] at hc;cases hc
theorem qg.only {n₀ mR:Nat} {A B:World} (g:aj (fun j=>j=mR) A B) (hm:mR<n₀) (hn:n₀<=A.heap.size):qg n₀ mR A B:=
 ⟨g.size,fun b hb h2=>g.block b (by omega) h2,fun b o hb h1 _=>(g.block b (zZ2.1 h1).1 (fun (e:b=mR)=>by omega)).trans h1⟩
theorem qW.Jh {w w':World} {F:Nat->Prop} {sb mb n:Nat} {f:Lit->Option Value} {S:Int->Option An} (h:qW w F sb mb n f S) (c:Int) (a:An) (h1:1<=c) (h2:c<=4) (h3:a.Ok) (hn:n<=1000000) (g:ae w w'):
    ∃w2 f2,(Instr.mapUpdate 227 (.map (some mb)) (.int .i64 c) a.agg).run Tryz.prog w'=.ok () w2/\aj (fun j=>j=mb) w' w2/\qW w2 F sb mb (n+1) f2 (dw S c a):=by
 have hg:=h.kept (g.only fun _=>False) (fun _ _ h=>h)
 obtain ⟨w2,hrun,r1,r2⟩:=hg.lm.store (val:=a.agg) ow Tryz.underlying227 (by unfold maxLen;omega) (keyOf_int_mk Tryz.underlying3 (pA (c:=c) (by omega) (by omega)))
 have hO:aj (fun j=>j=mb) w' w2:=aj.dm r2
 refine ⟨w2,_,hrun,hO,⟨(hO.cell (aN hg.c0) (fun e=>h.ne e) 0).trans hg.c0,r1,fun d=>?_,fun l hl=>?_,fun d b hb=>?_,h.bg,h.aJ,h.ne,fun j hj=>ltT (h.lt j hj) (zQ0 g.size hO.size)⟩⟩
 · unfold fC dw bW
   by_cases hd:d=c
   · subst hd;simp
   · rw [zZ0 hd,zZ0 (fun e=>hd (by injection e)),<-h.val];rfl
 · unfold fC at hl
   by_cases hd:l=.int .i64 c
   · exact ⟨c,hd⟩
   · rw [zZ0 hd] at hl;exact h.lit l hl
 · unfold dw at hb
   by_cases hd:d=c
   · rw [zZ1 hd] at hb;cases hb;subst hd;exact ⟨h1,h2,h3⟩
   · rw [zZ0 hd] at hb;exact h.ok d b hb
def DJ (w w4:World) (F:Nat->Prop) (sR mR nR:Nat) (S:Int->Option An) (pre:List yw) (W:World):Prop:=
 (∃n f,n<=nR+pre.length/\qW W F sR mR n f (joinL S (pre.map Subtype.val)))/\aj F w W/\W.cell? ⟨w.heap.size,0,none⟩=some (.pointer (some ⟨sR,0,none⟩))/\w4.heap.size<=W.heap.size
theorem DJ.turn {w w4:World} {F:Nat->Prop} {sR mR nR:Nat} {S:Int->Option An} {pre:List yw} {W W':World} {Q:Nat->Prop} (h:DJ w w4 F sR mR nR S pre W) (hF:∀j,F j->j<w.heap.size) (g:aj Q W W') (hQ:∀j,Q j->w.heap.size+1<=j):DJ w w4 F sR mR nR S pre W':=by
 obtain ⟨⟨n,f,h1,h2⟩,h3,h4,h5⟩:=h
 refine ⟨⟨n,f,h1,h2.kept g fun j hj hq=>?_⟩,h3.trans g fun j hj=> .inr ?_,(g.cell (aN h4) (fun hq=>?_) 0).trans h4,zQ0 h5 g.size⟩
 · have:=hF j hj;have:=hQ j hq;omega
 · have:=hQ j hj;omega
 · have q:=hQ w.heap.size hq;omega
theorem DJ.own {w w4:World} {F:Nat->Prop} {sR mR nR:Nat} {S:Int->Option An} (hF:∀j,F j->j<w.heap.size) (h4:w.heap.size+1<=w4.heap.size):OwnFrom w4.heap.size (DJ w w4 F sR mR nR S):=by
 intro pre W W' row h hg hr
 exact h.turn hF (aj.of_grownBy hg) fun j hj=>zQ0 h4 (hr j hj.symm).1
def DB (w4:World) (Bx:Nat) (x:yw) (W:World):Prop:=w4.heap.size<=Bx/\W.cell? ⟨Bx,0,none⟩=some (.int .i64 x.1.2.seq)/\W.cell? ⟨Bx,1,none⟩=some (.int .i64 x.1.2.code)/\W.cell? ⟨Bx,2,none⟩=some (.int .i64 x.1.2.at_)
theorem DB.own {w4:World} {Bx:Nat} {x:yw} {B:Nat}:OwnFrom B (fun (_:Unit) W=>DB w4 Bx x W):=by
 rintro _ W W' row ⟨h1,h2,h3,h4⟩ hg hr
 have hr':=fun r e=>(hr r e).2
 exact ⟨h1,cell_kept h2 hg hr',cell_kept h3 hg hr',cell_kept h4 hg hr'⟩
theorem z4N {w:World} {F G:Nat->Prop} {sR sO nR nO:Nat} {S T:Int->Option An} (h:jI w F sR nR S) (k:jI w G sO nO T) (hd:∀j,G j->¬F j) (hn:nR<=100000) (fW:nO<=1000000):
    Calls Tryz.prog 151 #[.pointer (some ⟨sR,0,none⟩),.pointer (some ⟨sO,0,none⟩)] w fun e w'=>e=.returned (.tuple #[])/\∃n',n'<=nR+4/\Oh w F sR n' (joinL S (js T)) w':=by
 obtain ⟨mR,fR,h⟩:=h
 obtain ⟨mO,fO,k⟩:=k
 have HR:=af h
 have HO:=af k
 have hsR:sR<w.heap.size:=aN h.c0
 have hsO:sO<w.heap.size:=aN k.c0
 have Qb:mR<w.heap.size:=h.lm.lt
 have hmO:mO<w.heap.size:=k.lm.lt
 have hne:sO≠mR/\mO≠mR/\sR≠mR:=⟨fun e=>hd _ k.bg (by rw [e];exact h.aJ),fun e=>hd _ k.aJ (by rw [e];exact h.aJ),h.ne⟩
 clear h k
 refine (callsIn_wide (n:=20)).1 (callsIn_of_wp_marks Tryz.func151 rfl trivial ?_)
 refine wpIn_wide.2 ?_
 simp only [Tryz.ntmps151,List.size_toArray,List.length_cons,zK3,Nat.reduceAdd,Nat.reduceSub,Array.replicate_succ,Array.replicate_zero,List.push_toArray,List.append_toArray,List.nil_append,zK7]
 go_wp2_with fail
 refine (Zl _ sO).mono ?_
 rintro e w4 ⟨rfl,hw4⟩
 have jc:=af hw4
 clear hw4
 go_wp2_with fail
 have g4:ae w w4:=by rw [jc.out];exact ((ae.rf w).alloc _).alloc _
 have hs4:w4.heap.size=w.heap.size+2:=by rw [jc.out];simp
 have nU:w4.cell? ⟨w.heap.size,0,none⟩=some (.pointer (some ⟨sR,0,none⟩)):=by rw [jc.out];simp [go_sem]
 have Jc:w4.cell? ⟨w.heap.size+1,0,none⟩=some (.pointer (some ⟨sO,0,none⟩)):=by rw [jc.out];simp [go_sem]
 have Vg:∃o:Obj,w4.heap[w.heap.size+1]? =some o/\o.isCells=true:=by
  have hs:(w.alloc (.cells #[.pointer (some ⟨sR,0,none⟩)] 132)).heap.size=w.heap.size+1:=by simp
  rw [jc.out,<-hs]
  exact ⟨_,heap_alloc_new _ _,rfl⟩
 have mg:=HR.out.lt
 have Vh:DJ w w4 F sR mR nR S [] w4:=⟨⟨nR,fR,by simp,HR.out.kept (g4.only fun _=>False) (fun _ _ h=>h)⟩,g4.only _,nU,zZ3 _⟩
 have hstops:=y7Q 19 (by omega) (qg w.heap.size mR) (HO.out.kept (g4.only fun _=>False) (fun _ _ h=>h)) fW Jc (fun h k=>h.trans k) (fun A B h=>⟨h.2.1 _ hsO hne.1,h.2.1 _ hmO hne.2.1⟩)
  (fun W1 W2 hW1 hk=>by
   obtain ⟨o,ho,hc⟩:=Vg
   have q1:=(hW1.block (w.heap.size+1) (by omega)).trans ho
   have q2:=hk.2.2 _ o (by omega) q1 hc
   rw [U7 (q2.trans ho.symm) 0]
   exact Jc)
  (fun W W1 W2 hW hW1 hk b o hb ho hc=>hk.2.2 b o (by have:=hW.size;omega) ho hc)
 have HI0:=af Vh
 clear Vh nU Vg
 refine (wpIn_wide (n:=20)).1 ?_
 refine wpIn_rangeFunc_ownH rfl (by omega) (gf:=180) (lb:=#[.pointer (some ⟨w.heap.size+1,0,none⟩)]) rfl trivial (enters_of Tryz.func180 (by kernel_rfl) rfl)
  hstops (fun h k=>h.trans k) (qg.put (by omega)) (Below.refl _ _) (fun _=>rfl)
  (DJ w w4 F sR mR nR S) (fun _ _ _=>False) (DJ.own mg (by omega)) (fun c=>fun _ _ _ _ h _ _=>h) HI0.out
  (fun x a' W=>∃Bx,DB w4 Bx x W/\a'={tmps:=#[.pointer (some ⟨sR,0,none⟩),.pointer (some ⟨sO,0,none⟩),.pointer (some ⟨w.heap.size,0,none⟩),undef,.int .i64 x.1.1,.pointer (some ⟨Bx,0,none⟩),.pointer (some ⟨sO,0,none⟩),.func (.func 180) #[] #[.pointer (some ⟨w.heap.size+1,0,none⟩)],.int .i64 x.1.1,x.1.2.agg,undef,undef,undef,undef,undef,undef,undef,undef,undef,undef,undef,undef,undef,undef,undef,undef],defers:=[]})
  (fun x a' _ X Y row hs hg hr=>by obtain ⟨Bx,h1,h2⟩:=hs;exact ⟨Bx,DB.own () X Y row h1 hg hr,h2⟩)
  ?assign ?body ?done ?stop
 case assign=>
  rintro l pre ⟨⟨c,q,k,t⟩,hx⟩ W K hI hK
  have hz:=hI.2.2.2
  have gA:ae W (W.alloc (.cells #[.int .i64 q,.int .i64 k,.int .i64 t] 233)):=(ae.rf W).alloc _
  have HX:=af (hK {tmps:=#[.pointer (some ⟨sR,0,none⟩),.pointer (some ⟨sO,0,none⟩),.pointer (some ⟨w.heap.size,0,none⟩),undef,.int .i64 c,.pointer (some ⟨W.heap.size,0,none⟩),.pointer (some ⟨sO,0,none⟩),.func (.func 180) #[] #[.pointer (some ⟨w.heap.size+1,0,none⟩)],.int .i64 c,.agg #[.int .i64 q,.int .i64 k,.int .i64 t],undef,undef,undef,undef,undef,undef,undef,undef,undef,undef,undef,undef,undef,undef,undef,undef],defers:=[]} (W.alloc (.cells #[.int .i64 q,.int .i64 k,.int .i64 t] 233)) (KeepsFrom.ag gA _) (qg.only (gA.only _) Qb (by omega)) (hI.turn mg (gA.only fun _=>False) (fun _ h=>h.elim)) ⟨W.heap.size,⟨hz,by simp [go_sem],by simp [go_sem],by simp [go_sem]⟩,rfl⟩)
  clear hK hI gA hs4 hstops
  dsimp only [An.agg,uX]
  gi_wp2
  exact HX.out
 case body=>
  rintro l pre ⟨⟨c,q,k,t⟩,hx1,hx2,hx3⟩ a' W hl hrec hI ⟨Bx,hDB,rfl⟩ aq
  have s1:1<=q:=hx3.s1
  have s2:q<=1073741824:=hx3.s2
  have s6:1<=c:=hx1
  have s7:c<=4:=hx2
  clear hstops hrec
  obtain ⟨⟨n,f,hn',Gd⟩,hO,nU,hsz⟩:=hI
  obtain ⟨hBx,b0,b1,b2⟩:=hDB
  dsimp only at *
  have c0:=Gd.c0
  have hsl:=aN c0
  have hbl:=aN nU
  have hBl:=aN b0
  have lf:=af Gd
  unfold An.agg
  dsimp only
  obtain ⟨vq,Qc⟩:∃v,v=bT (joinL S (pre.map Subtype.val) c):=⟨_,rfl⟩
  obtain ⟨vk,hvk⟩:∃v,v=fQ (joinL S (pre.map Subtype.val) c):=⟨_,rfl⟩
  obtain ⟨vt,Vi⟩:∃v,v=pS (joinL S (pre.map Subtype.val) c):=⟨_,rfl⟩
  have ry:=af (fun (X:World) (g:ae W X)=>show (Instr.lookup 227 (.map (some mR)) (.int .i64 c) false).run Tryz.prog X=.ok (.agg #[.int .i64 vq,.int .i64 vk,.int .i64 vt]) X from by
   have h7:=(lf.out.lm.ag g).lookup ow Tryz.underlying227 (Og X) (keyOf_int_mk Tryz.underlying3 (pA (c:=c) (by omega) (by omega)))
   rw [show (Lit.int .i64 c)=bW c from rfl,lf.out.val] at h7
   rw [Qc,hvk,Vi]
   cases h8:joinL S (pre.map Subtype.val) c with
   | none=>rw [h8] at h7;exact h7
   | some a=>rw [h8] at h7;exact h7)
  have Vj:=af (show joinL S ((pre++[(⟨(c,⟨q,k,t⟩),hx1,hx2,hx3⟩:yw)]).map Subtype.val)=if vq<q then dw (joinL S (pre.map Subtype.val)) c ⟨q,k,t⟩ else joinL S (pre.map Subtype.val) from by
   rw [List.map_append,List.map_singleton,z1V,Qc];rfl)
  have HOW:=af hO
  have wu:=af hsz
  have hWs:=hO.size
  clear Qc hvk Vi hO hsz
  have Vk:=fun j:Nat=>z1M (W.drewN j) (.int .i64 vq) (.int .i64 vk) (.int .i64 vt) rfl
  have Ji:=fun j:Nat=>ry.out (W.drewN j) (Vf W j)
  gi_wp2
  refine y4Y (F:=Fence.wide) (C:=fun w'=>∃k:Nat,w'=W.drewN k) rfl (by kernel_rfl) (by kernel_rfl) (by kernel_rfl) ⟨1,rfl⟩ ?_
  dsimp only
  repeat (gi_big_quiet_step (fail))
  refine wpQuietIn_nil ?_
  rintro X ⟨k2,rfl⟩
  have gX:=Vf W k2
  generalize W.drewN k2=X at *
  have hXs:=gX.size
  by_cases hq:vq<q
  · have d0:=(gX.cells.1 _ 0 hsl).trans c0
    have dx:=(gX.cells.1 _ 0 hbl).trans nU
    have e0:=(gX.cells.1 _ 0 hBl).trans b0
    have e1:=(gX.cells.1 _ 1 hBl).trans b1
    have e2:=(gX.cells.1 _ 2 hBl).trans b2
    obtain ⟨X2,f2,hrun,eO,jq⟩:=lf.out.Jh c ⟨q,k,t⟩ hx1 hx2 hx3 (by have:=hn';omega) gX.drew
    have mV:aj (fun j=>j=mR) W X2:=(gX.drew.only _).then eO
    have cB:Hid (KeepsFrom w4.heap.size W X2/\qg w.heap.size mR W X2/\DJ w w4 F sR mR nR S (pre++[(⟨(c,⟨q,k,t⟩),hx1,hx2,hx3⟩:yw)]) X2):=by
     refine ⟨⟨mV.size,fun j o hj ho _=>(mV.block j (zZ2.1 ho).1 (fun (e:j=mR)=>by omega)).trans ho⟩,qg.only mV Qb (by omega),⟨n+1,f2,by rw [zX8,List.length_singleton];omega,?_⟩,HOW.out.then (mV.mono fun j hj=> .inl (by rw [hj];exact HR.out.aJ)),(mV.cell hbl (fun (e:w.heap.size=mR)=>by omega) 0).trans nU,zQ0 wu.out mV.size⟩
     rw [Vj.out,zZ1 hq]
     exact jq
    unfold An.agg at hrun
    dsimp only at hrun
    clear eO jq mV gX Ji Vk c0 b0 b1 b2 nU hs4
    gi_wp2
    gi_region
    all_goals gi_wp2
    all_goals exact cB.out
  · have mV:aj (fun j=>j=mR) W X:=gX.only _
    have cB:Hid (KeepsFrom w4.heap.size W X/\qg w.heap.size mR W X/\DJ w w4 F sR mR nR S (pre++[(⟨(c,⟨q,k,t⟩),hx1,hx2,hx3⟩:yw)]) X):=by
     refine ⟨KeepsFrom.ag gX _,qg.only mV Qb (by omega),⟨n,f,by rw [zX8,List.length_singleton];omega,?_⟩,HOW.out.then (mV.mono fun j hj=> .inl (by rw [hj];exact HR.out.aJ)),(gX.cells.1 _ 0 hbl).trans nU,zQ0 wu.out hXs⟩
     rw [Vj.out,zZ0 hq]
     exact lf.out.kept (gX.only fun _=>False) (fun _ _ h=>h)
    clear mV gX Ji Vk c0 b0 b1 b2 nU hs4
    gi_wp2
    exact cB.out
 case done=>
  rintro D ys W hD hS ⟨⟨n,f,hn',Gd⟩,hO,nU,hsz⟩ hK
  have hyl:ys.length<=4:=by have:=congrArg List.length hS;rw [List.length_map] at this;have:=TD T;omega
  rw [hS] at Gd
  have HK:=af hK
  have HF:=af (show jI W F sR n (joinL S (js T)) from ⟨mR,f,Gd⟩)
  have tA:=af hO
  have hD4:w4.heap.size<=D:=hD
  clear hstops Gd hO hK
  have hDn:w.heap.size<=D:=by omega
  clear hs4 hD hD4
  go_wp2_with fail
  refine ⟨by simp,.inl ⟨_,_,rfl,run_takeDeferred HK.out,?_⟩⟩
  have hP:=aj.of_grownBy (grownBy_putObj' W D (Obj.deferred none))
  refine ⟨.tuple #[],by simp [results,Tryz.f151,go_sem],rfl,n,by omega,tA.out.trans hP (fun j hj=> .inr (by have:=Option.some.inj hj;omega)),HF.out.kept hP (fun j hj e=>by have:=Option.some.inj e;have:=HR.out.lt j hj;omega)⟩
 case stop=>
  rintro D c pre W hD _ h _
  exact h.elim
end
section
theorem MR (S T:Int->Option An) (n:Nat) (h1:1<=n) (hS:∀c a,S c=some a->1<=a.seq) (hT:∀c a,T c=some a->1<=a.seq):dI S T (n+1)=match T (n:Int) with | none=>dI S T n | some a=>ru (dI S T n) ((n:Int),a):=by
 cases hq:T (n:Int) with
 | none=>
  dsimp only
  refine Rf S T n fun aq=>?_
  rw [hq] at aq
  cases hs:S (n:Int) with
  | none=>rw [hs] at aq;exact absurd aq (by decide)
  | some b=>rw [hs] at aq;have:=hS _ b hs;have h2:b.seq<0:=aq;omega
 | some a=>
  have ha:=hT _ a hq
  dsimp only
  unfold ru
  dsimp only
  rw [Wn]
  by_cases aq:bT (S (n:Int))<bT (T (n:Int))
  · rw [Wo S T n a h1 hq aq]
    rw [hq] at aq
    have aq:bT (S (n:Int))<a.seq:=aq
    rw [zZ1 aq]
  · rw [Rf S T n aq]
    rw [hq] at aq
    have aq:¬bT (S (n:Int))<a.seq:=aq
    rw [zZ0 aq]
theorem y9W (S T:Int->Option An) (hS:∀c a,S c=some a->1<=a.seq) (hT:∀c a,T c=some a->1<=a.seq):dI S T 5=joinL S (js T):=by
 have e1:=MR S T 1 (by omega) hS hT
 have e2:=MR S T 2 (by omega) hS hT
 have e3:=MR S T 3 (by omega) hS hT
 have e4:=MR S T 4 (by omega) hS hT
 rw [Wm] at e1
 unfold js joinL
 rw [e4,e3,e2,e1]
 cases h1:T 1<;> cases h2:T 2<;> cases h3:T 3<;> cases h4:T 4<;> simp [h1,h2,h3,h4]
end
end Go.Proofs.YtbnofojapimfcaaGreatDoor
namespace Go.Proofs.YtbnofojapimfcaaGreatDoor.AU
open Go
theorem z3K {a b:Bool} (h1:a=true) (h2:b=true):(a && b)=true:=by rw [h1,h2];rfl
theorem closed:joinedFacts Tryz.pinned.checked.prog 3 Tryz.f3 Rows.watchStepsSpec Rows.watchStepsRow=true:=by
 unfold joinedFacts
 iterate 31 (refine z3K ?_ (by as_aux_lemma=>kernel_rfl))
 kernel_rfl
end Go.Proofs.YtbnofojapimfcaaGreatDoor.AU
