/- Part 25 of the proof. -/
import Derived.Test.YtbnofojapimfcaaGreatDoorFinWatchStepsQ16
import Derived.Test.YtbnofojapimfcaaGreatDoorFinWatchStepsQ19
import Derived.Test.YtbnofojapimfcaaGreatDoorFinWatchStepsQ22
import Derived.Test.YtbnofojapimfcaaGreatDoorFinWatchStepsQ23
set_option linter.unusedVariables false
set_option linter.unusedSectionVars false
set_option linter.unusedSimpArgs false
set_option maxRecDepth 100000
set_option maxHeartbeats 16000000
namespace Go.Proofs.YtbnofojapimfcaaGreatDoor
section
open Go.RowKit Go.Maps
attribute [local go_sem] Oper.semAt_some
namespace Pl
structure WrR where
 code:Int
 at_:Int
 err:Nat
 P:List Pr
 S:Int->Option An
end Pl
def nt (e:En):Prop:=∀o∈e.ops,o.key.size<=70368744177664/\o.val.size<=140737488351232
namespace Pl
end Pl
end
section
open Go.RowKit Go.Maps
attribute [local go_sem] Oper.semAt_some aT
theorem y9C (E:Nat->Addr) (e:En) {w:World} (hE:aY jK E w) (hA:bG w e) (at_:Int) {Ft Fs:Nat->Prop} {st n:Nat} {lo hi:ByteArray} {P:List Pr} {S:Int->Option An} (h:cY w Ft Fs st n lo hi P S) (hk:e.kind=1) (hr:Pl.bR e=true) (h0:0<=at_) (h1:at_<4096) (hl:lo.size<=70368744177664) (hh:hi.size<=70368744177664) (hsz:∀o∈e.ops,o.key.size<=70368744177664) (hin:(e.ops.any fun o=>!Pl.aL lo hi o.key)=true):
    Calls Tryz.prog 94 #[.pointer (some ⟨st,0,none⟩),e.agg,.int .i64 at_] w fun r w'=>r=.returned (.tuple #[gK 3 0,.nilIface])/\ae w w':=by
 have hT:iW jK:=⟨rfl,rfl,rfl,rfl⟩
 have Ip:jP jK:=⟨rfl,rfl,rfl,rfl⟩
 have hR:=fun W (g:ae w W)=>py hT E e W (hE.ag g) (hA.ag g)
 rw [hr] at hR
 have HR:=af hR
 have HW:=af (jb.start w st e)
 have iD:=af (fun W (g:ae w W)=>K5 hT E e W (hE.ag g) (hA.ag g) hk hr)
 have oH:((e.ops.map bC.key).any fun k=>!Pl.aL lo hi k)=true:=by
  rw [List.any_map];exact hin
 have fY:=hA.few
 have kZ:=fun W (g:ae w W) (a:Option Addr) (cap:Nat) (k:zQ W a (e.ops.map bC.key)) (hB:iC W w.heap.size st lo hi)=>O8 jK E Ip lo hi a cap (e.ops.map bC.key) W hl hh (hE.ag g) w.heap.size st hB k (by simpa using fY) (fun k vU=>by obtain ⟨o,ho,rfl⟩:=zZ4.1 vU;exact hsz o ho)
 rw [oH,List.length_map] at kZ
 have oI:=af kZ
 obtain ⟨tb,sb,h⟩:=h
 have HST:=af h
 have fJ:st<w.heap.size:=aN h.c0
 obtain ⟨Y,hY⟩:∃Y,Y=(((w.alloc (.cells #[.pointer (some ⟨st,0,none⟩)] 109)).alloc (.cells e.vals.toArray 39)).alloc (.cells #[.int .i64 0,.int .i64 0] 68)):=⟨_,rfl⟩
 rw [<-hY] at HW
 have ku:=af hY
 clear hY hE hA hr hR oH kZ h hin hsz
 unfold En.agg at *
 obtain ⟨kind,ai,other,server,ak,seq,key,upto,part,parts,ops,aC,aG,av,ar,aw⟩:=e
 unfold En.vals at HR ku iD ⊢
 dsimp only at *
 subst hk
 unfold gK at *
 go_in
 go_wp2_with fail
 rw [<-ku.out]
 refine (HR.out Y HW.out.ag).mono ?_
 rintro e w1 ⟨rfl,aA⟩
 have bl:=af (HW.out.more aA)
 have hl1:=bl.out.lt
 have d0:w1.cell? ⟨w.heap.size+1,0,none⟩=some (.int .i64 1):=bl.out.cT 0 _ rfl
 have d1:w1.cell? ⟨w.heap.size+1,1,none⟩=some (.int .i64 ai):=bl.out.cT 1 _ rfl
 have d2:w1.cell? ⟨w.heap.size+1,2,none⟩=some (.int .i64 other):=bl.out.cT 2 _ rfl
 have d3:w1.cell? ⟨w.heap.size+1,3,none⟩=some (.int .i64 server):=bl.out.cT 3 _ rfl
 have d4:w1.cell? ⟨w.heap.size+1,4,none⟩=some (.int .i64 ak):=bl.out.cT 4 _ rfl
 have d5:w1.cell? ⟨w.heap.size+1,5,none⟩=some (.int .i64 seq):=bl.out.cT 5 _ rfl
 have d6:w1.cell? ⟨w.heap.size+1,6,none⟩=some (.slice aC ops.length aG):=bl.out.cT 6 _ rfl
 have d7:w1.cell? ⟨w.heap.size+1,7,none⟩=some (.string key):=bl.out.cT 7 _ rfl
 have d8:w1.cell? ⟨w.heap.size+1,8,none⟩=some (.int .i64 upto):=bl.out.cT 8 _ rfl
 have d9:w1.cell? ⟨w.heap.size+1,9,none⟩=some (.int .i64 part):=bl.out.cT 9 _ rfl
 have d10:w1.cell? ⟨w.heap.size+1,10,none⟩=some (.int .i64 parts):=bl.out.cT 10 _ rfl
 have d11:w1.cell? ⟨w.heap.size+1,11,none⟩=some (.slice av ar aw):=bl.out.cT 11 _ rfl
 have k0:¬at_<0:=by omega
 have k1:¬4096<=at_:=by omega
 clear aA HW HR
 go_wp2_with fail
 refine (iD.out w1 bl.out.ag).mono ?_
 rintro e w2 ⟨⟨v,rfl,aD⟩,aB⟩
 obtain ⟨a,cap,rfl,hks⟩:=Im (by rw [List.length_map];exact aD)
 rw [List.length_map]
 have jg:=af (bl.out.more aB)
 have vV:=af hks
 clear aB aD hks iD d0 d1 d2 d3 d4 d5 d6 d7 d8 d9 d10 d11
 go_wp2_with fail
 refine (oI.out w2 jg.out.ag a cap vV.out ⟨jg.out.box,(jg.out.ag.cells.1 _ _ fJ).trans HST.out.c1,(jg.out.ag.cells.1 _ _ fJ).trans HST.out.c2⟩).mono ?_
 rintro e w3 ⟨rfl,hg3⟩
 have jT:=af (jg.out.more hg3)
 clear hg3 vV oI bl jg hl1
 have a0:=jT.out.a0
 have a1:=jT.out.a1
 have f0:=jT.out.f0
 have f1:=jT.out.f1
 have hl3:=jT.out.lt
 go_wp2_with fail
 refine bodyPost_ret (v:=.tuple #[.agg #[.int .i64 3,.int .i64 0],.nilIface]) (by simp [results,Tryz.results94,go_sem,a0,a1,f0,f1]) rfl ⟨rfl,?_⟩
 exact (jT.out.ag.setCell (show w.heap.size<=w.heap.size+2 by omega) _).setCell (show w.heap.size<=w.heap.size+2 by omega) _
namespace Pl
def eW (lo hi:ByteArray) (P:List Pr) (S:Int->Option An) (e:En) (at_:Int):WrR:=
 if ¬(e.kind=1/\bR e=true) then ⟨0,0,4,P,S⟩
 else if at_<0\/4096<=at_ then ⟨0,0,1,P,S⟩
 else if (e.ops.any fun o=>!aL lo hi o.key)=true then ⟨3,0,0,P,S⟩
 else if dF (S e.ak) e.seq=1 then ⟨dK P e.ops at_,at_,0,gF P e.ops at_,dw S e.ak ⟨e.seq,dK P e.ops at_,at_⟩⟩
 else if dF (S e.ak) e.seq=2 then ⟨(fp (S e.ak) e.seq).1,(fp (S e.ak) e.seq).2,0,P,S⟩
 else ⟨4,0,0,P,S⟩
theorem Pk {lo hi:ByteArray} {ops:List bC} (h:¬(ops.any fun o=>!aL lo hi o.key)=true):∀o∈ops,aL lo hi o.key=true:=by
 intro o ho
 cases hh:aL lo hi o.key with
 | true=>rfl
 | false=>exact absurd (zZ5.2 ⟨o,ho,by rw [hh];rfl⟩) h
end Pl
theorem z2X (E:Nat->Addr) (e:En) {w:World} (hE:aY jK E w) (hA:bG w e) (hz:nt e) (at_:Int) {Ft Fs:Nat->Prop} {st n:Nat} {lo hi:ByteArray} {P:List Pr} {S:Int->Option An} (h:cY w Ft Fs st n lo hi P S) (hl:lo.size<=70368744177664) (hh:hi.size<=70368744177664) (hx:P.length<=1000) (hn:n<=1000000):
    Calls Tryz.prog 94 #[.pointer (some ⟨st,0,none⟩),e.agg,.int .i64 at_] w fun r w'=>r=.returned (.tuple #[gK (Pl.eW lo hi P S e at_).code (Pl.eW lo hi P S e at_).at_,aX E (Pl.eW lo hi P S e at_).err])/\∃m,m<=n+1/\Wrote w w' Ft Fs st m lo hi (Pl.eW lo hi P S e at_).P (Pl.eW lo hi P S e at_).S:=by
 have still:∀{w'},ae w w'->∃m,m<=n+1/\Wrote w w' Ft Fs st m lo hi P S:=fun {w'} g=>⟨n,by omega,g.only _,Ft,h.ag g,fun _ hj=> .inl hj⟩
 unfold Pl.eW
 by_cases h1:e.kind=1/\Pl.bR e=true
 · rw [zZ0 (not_not_intro h1)]
   by_cases h2:at_<0\/4096<=at_
   · rw [zZ1 h2]
     refine (y9I E e w hE hA at_ st h1.1 h1.2 h2).mono ?_
     rintro r w' ⟨hr,hg⟩
     exact ⟨hr,still hg⟩
   · rw [zZ0 h2]
     by_cases h5:(e.ops.any fun o=>!Pl.aL lo hi o.key)=true
     · rw [zZ1 h5]
       refine (y9C E e hE hA at_ h h1.1 h1.2 (by omega) (by omega) hl hh (fun o ho=>(hz o ho).1) h5).mono ?_
       rintro r w' ⟨hr,hg⟩
       exact ⟨hr,still hg⟩
     · rw [zZ0 h5]
       by_cases h3:dF (S e.ak) e.seq=1
       · rw [zZ1 h3]
         refine (z2d E e hE hA at_ h h1.1 h1.2 (by omega) (by omega) hl hh (fun o ho=>(hz o ho).1) (Pl.Pk h5) (fun o ho=>(hz o ho).2) hx hn h3).mono ?_
         rintro r w' ⟨hr,hg⟩
         exact ⟨hr,n+1,zZ3 _,hg⟩
       · rw [zZ0 h3]
         refine (y9V E e hE hA at_ h h1.1 h1.2 (by omega) (by omega) hl hh (fun o ho=>(hz o ho).1) (Pl.Pk h5) h3).mono ?_
         rintro r w' ⟨hr,hg⟩
         by_cases h4:dF (S e.ak) e.seq=2
         · rw [zZ1 h4] at hr ⊢
           exact ⟨hr,still hg⟩
         · rw [zZ0 h4] at hr ⊢
           exact ⟨hr,still hg⟩
 · rw [zZ1 h1]
   refine (z0t E e w hE hA at_ st h1).mono ?_
   rintro r w' ⟨hr,hg⟩
   exact ⟨hr,still hg⟩
end
section
namespace Pl
def gN (D:List Pr) (o:bC) (v:Int):List Pr:=
 if o.kind=1 then iB D ⟨o.key,o.val,v⟩
 else if o.kind=2 then D.eraseP (isK o.key)
 else if o.kind=3 then iB D ⟨o.key,o.val,v⟩
 else D
def wj (D:List Pr) (o:bC):Bool:=
 if o.kind=3 then !((D.find? (isK o.key)).isSome && decide (((D.find? (isK o.key)).getD Pr.none).val.toList=o.old.toList))
 else if o.kind=4 then !decide (((D.find? (isK o.key)).getD Pr.none).di=o.di)
 else false
def mP (ops:List bC) (v:Int) (s:List Pr×Int):List Pr×Int:=ops.foldl (fun s o=>(gN s.1 o v,if wj s.1 o=true then 2 else s.2)) s
theorem z0e (ops:List bC) (v:Int) (s:List Pr×Int) (k:Nat) (h:k<ops.length):
    mP (ops.take (k+1)) v s=(gN (mP (ops.take k) v s).1 (bn ops k) v,if wj (mP (ops.take k) v s).1 (bn ops k)=true then 2 else (mP (ops.take k) v s).2):=by
 unfold mP
 rw [zZ6 h,ym ops k h,List.foldl_append];rfl
theorem z3y (D:List Pr) (o:bC) (v:Int):(gN D o v).length<=D.length+1:=by
 unfold gN
 split
 · exact Um _ _
 · split
   · have:=List.length_eraseP_le (p:=isK o.key) (l:=D);omega
   · split
     · exact Um _ _
     · omega
theorem z2p (ops:List bC) (v:Int):∀s:List Pr×Int,(mP ops v s).1.length<=s.1.length+ops.length:=by
 induction ops with
 | nil=>intro s;simp [mP]
 | cons o os ih=>
  intro s
  have h1:=ih (gN s.1 o v,if wj s.1 o=true then 2 else s.2)
  have h2:=z3y s.1 o v
  show (mP os v _).1.length<=_
  simp only [List.length_cons]
  dsimp only at h1
  omega
theorem z1P (ops:List bC) (v:Int):∀D,(mP ops v (D,2)).2=2:=by
 induction ops with
 | nil=>intro D;rfl
 | cons o os ih=>
  intro D
  show (mP os v (_,if wj D o=true then 2 else 2)).2=2
  rw [ite_self]
  exact ih _
theorem Iz {P D:List Pr} (h:Tt P D) {o:bC} (hr:jl o=true) {v:Int} (h1:1<=v) (h2:v<=4096):
    wj D o=!(bK P o v).2/\((bK P o v).2=true->Tt (bK P o v).1 (gN D o v)):=by
 have hg:=h.get o.key
 unfold jl at hr
 by_cases hk:aF o.key≠0
 · rw [zZ1 hk] at hr;cases hr
 · rw [zZ0 hk] at hr
   have hk0:aF o.key=0:=by simpa using hk
   unfold bK wj gN
   by_cases k1:o.kind=1
   · rw [zZ1 k1] at hr
     have hv:=of_decide_eq_true hr
     have hp:dG ⟨o.key,o.val,v⟩=0:=by
      unfold dG;rw [zZ0 hk]
      dsimp only
      rw [zZ0 (by omega),zZ0 (by omega)]
     rw [zZ0 (by omega),zZ0 (fun q=>by omega),zZ0 (by omega),zZ0 (by omega),zZ0 (by omega),zZ1 k1]
     exact ⟨by simp [hp],fun _=>h.put _⟩
   · rw [zZ0 k1] at hr
     by_cases k2:o.kind=2
     · rw [zZ1 k2,zZ0 (by omega),zZ0 (by omega),zZ0 (by omega),zZ1 k2]
       exact ⟨rfl,fun _=>h.del _⟩
     · rw [zZ0 k2] at hr
       by_cases k3:o.kind=3
       · rw [zZ1 k3] at hr
         simp only [Bool.and_eq_true,decide_eq_true_eq] at hr
         have hp:dG ⟨o.key,o.val,v⟩=0:=by
          unfold dG;rw [zZ0 hk]
          dsimp only
          rw [zZ0 (by omega),zZ0 (by omega)]
         rw [zZ0 k2,zZ1 k3,zZ0 k1,zZ0 k2,zZ1 k3,hg]
         by_cases q:(D.find? (isK o.key)).isSome=false\/((D.find? (isK o.key)).getD Pr.none).val.toList≠o.old.toList
         · rw [zZ1 ⟨k3,q⟩]
           refine ⟨?_,fun h=>by cases h⟩
           rcases q with q | q
           · rw [q];rfl
           · rw [decide_eq_false q,Bool.and_false]
         · rw [zZ0 (fun hh=>q hh.2),zZ0 (by omega)]
           refine ⟨?_,fun _=>h.put _⟩
           have q1:(D.find? (isK o.key)).isSome=true:=by
            cases hs:(D.find? (isK o.key)).isSome with
            | true=>rfl
            | false=>exact absurd (.inl hs) q
           have q2:((D.find? (isK o.key)).getD Pr.none).val.toList=o.old.toList:=zZ7 fun hn=>q (.inr hn)
           rw [q1,decide_eq_true q2,hp];rfl
       · rw [zZ0 k3] at hr
         by_cases k4:o.kind=4
         · rw [zZ0 k2,zZ0 k3,zZ1 k4,zZ0 k1,zZ0 k2,zZ0 k3,zZ0 (show ¬(o.kind=3/\((dJ P o.key).isSome=false\/((dJ P o.key).getD Pr.none).val.toList≠o.old.toList)) from fun q=>k3 q.1),zZ1 k4,hg]
           exact ⟨rfl,fun _=>h⟩
         · rw [zZ0 k4] at hr;cases hr
theorem DM (v:Int) (h1:1<=v) (h2:v<=4096):∀(ops:List bC) {P D:List Pr},Tt P D->(∀o∈ops,jl o=true)->
    ((jz ops v P).2=true->(mP ops v (D,1)).2=1/\Tt (jz ops v P).1 (mP ops v (D,1)).1)/\((jz ops v P).2=false->(mP ops v (D,1)).2=2):=by
 intro ops
 induction ops with
 | nil=>intro P D h _;exact ⟨fun _=>⟨rfl,h⟩,(fun h=>by cases h)⟩
 | cons o os ih=>
  intro P D h hr
  obtain ⟨a,b⟩:=Iz h (hr o (by simp)) h1 h2
  rw [Bq]
  show (_->(mP os v (gN D o v,if wj D o=true then 2 else 1)).2=1/\Tt _ (mP os v (gN D o v,if wj D o=true then 2 else 1)).1)/\(_->(mP os v (gN D o v,if wj D o=true then 2 else 1)).2=2)
  cases hs:(bK P o v).2 with
  | true=>
   rw [hs] at a b
   rw [a]
   simp only [if_true,Bool.not_true,zZ8,if_false]
   exact ih (b rfl) fun o ho=>hr o (by simp [ho])
  | false=>
   rw [hs] at a
   rw [a]
   simp only [zZ8,if_false,Bool.not_false,if_true]
   exact ⟨(fun h=>by cases h),fun _=>z1P os v _⟩
theorem UE {e:En} (hk:e.kind=1) (hr:bR e=true):∀o∈e.ops,jl o=true:=by
 intro o ho
 unfold bR at hr
 rw [zZ1 hk] at hr
 unfold jO at hr
 simp only [Bool.and_eq_true] at hr
 have h:=hr.2
 rw [Bool.not_eq_true',zZ9] at h
 have:=h o ho
 simpa using this
def Md (D:List Pr) (ops:List bC) (at_:Int):List Pr:=if (mP ops (at_+1) (D,1)).2=1 then (mP ops (at_+1) (D,1)).1 else D
theorem wm {P D:List Pr} (h:Tt P D) {e:En} (hk:e.kind=1) (hr:bR e=true) {at_:Int} (h0:0<=at_) (h1:at_<4096):
    (mP e.ops (at_+1) (D,1)).2=dK P e.ops at_/\Tt (gF P e.ops at_) (Md D e.ops at_):=by
 obtain ⟨a,b⟩:=DM (at_+1) (by omega) (by omega) e.ops h (UE hk hr)
 unfold dK gF Md
 cases hs:(jz e.ops (at_+1) P).2 with
 | true=>
  obtain ⟨c,d⟩:=a hs
  rw [c,zZ1 rfl,zZ1 rfl,zZ1 rfl]
  exact ⟨rfl,d⟩
 | false=>
  have c:=b hs
  rw [c,zZ0 (by decide),zZ0 (by decide),zZ0 (by decide)]
  exact ⟨rfl,h⟩
end Pl
end
section
open Go.RowKit Go.Maps
attribute [local go_sem] Oper.semAt_some aT
structure pB (w W:World) (e:En):Prop where
 ag:ae w W
 lt:w.heap.size+2<W.heap.size
 cT:∀j u,e.vals[j]? =some u->W.cell? ⟨w.heap.size,j,none⟩=some u
 a0:W.cell? ⟨w.heap.size+1,0,none⟩=some (.int .i64 0)
 a1:W.cell? ⟨w.heap.size+1,1,none⟩=some (.int .i64 0)
 f0:W.frozen? ⟨w.heap.size+1,0,none⟩=false
 f1:W.frozen? ⟨w.heap.size+1,1,none⟩=false
 n0:W.cell? ⟨w.heap.size+2,0,none⟩=some (.int .i64 0)
 n1:W.cell? ⟨w.heap.size+2,1,none⟩=some (.int .i64 0)
theorem pB.more {w W W':World} {e:En} (h:pB w W e) (g:ae W W'):pB w W' e:=
 have l:=h.lt
 ⟨h.ag.trans g,ltT h.lt g.size,fun j u hj=>(g.cells.1 _ _ (by omega)).trans (h.cT j u hj),(g.cells.1 _ _ (by omega)).trans h.a0,(g.cells.1 _ _ (by omega)).trans h.a1,(g.cells.2 _ _ (by omega)).trans h.f0,(g.cells.2 _ _ (by omega)).trans h.f1,(g.cells.1 _ _ (by omega)).trans h.n0,(g.cells.1 _ _ (by omega)).trans h.n1⟩
theorem pB.start (w:World) (e:En):pB w (((w.alloc (.cells e.vals.toArray 39)).alloc (.cells #[.int .i64 0,.int .i64 0] 68)).alloc (.cells #[.int .i64 0,.int .i64 0] 68)) e:=by
 refine ⟨(((ae.rf w).alloc _).alloc _).alloc _,by simp,fun j u hj=>?_,by simp [go_sem],by simp [go_sem],by simp [go_sem],by simp [go_sem],by simp [go_sem],by simp [go_sem]⟩
 have h1:=((ae.rf (w.alloc (.cells e.vals.toArray 39))).alloc (.cells #[.int .i64 0,.int .i64 0] 68)).alloc (.cells #[.int .i64 0,.int .i64 0] 68)
 rw [h1.cells.1 w.heap.size j (by simp),fA (heap_alloc_new w _)]
 simpa using hj
theorem pB.only {w W W':World} {e:En} {T:Nat->Prop} (h:pB w W e) (g:aj T W W') (hT:∀j,T j->j<w.heap.size\/w.heap.size+2<j) (hG:ae w W'):pB w W' e:=
 have l:=h.lt
 have n:∀i,i<=2->¬T (w.heap.size+i):=fun i hi q=>by have:=hT _ q;omega
 ⟨hG,ltT h.lt g.size,fun j u hj=>(g.cell (by omega) (n 0 (by omega)) _).trans (h.cT j u hj),(g.cell (by omega) (n 1 (by omega)) _).trans h.a0,(g.cell (by omega) (n 1 (by omega)) _).trans h.a1,(g.frozen (by omega) (n 1 (by omega)) _).trans h.f0,(g.frozen (by omega) (n 1 (by omega)) _).trans h.f1,(g.cell (by omega) (n 2 (by omega)) _).trans h.n0,(g.cell (by omega) (n 2 (by omega)) _).trans h.n1⟩
structure oK (w W:World) (e:En):Prop where
 lt:w.heap.size+2<W.heap.size
 cT:∀j u,e.vals[j]? =some u->W.cell? ⟨w.heap.size,j,none⟩=some u
 a0:W.cell? ⟨w.heap.size+1,0,none⟩=some (.int .i64 0)
 a1:W.cell? ⟨w.heap.size+1,1,none⟩=some (.int .i64 0)
 f0:W.frozen? ⟨w.heap.size+1,0,none⟩=false
 f1:W.frozen? ⟨w.heap.size+1,1,none⟩=false
theorem pB.c {w W:World} {e:En} (h:pB w W e):oK w W e:=⟨h.lt,h.cT,h.a0,h.a1,h.f0,h.f1⟩
theorem oK.only {w W W':World} {e:En} {T:Nat->Prop} (h:oK w W e) (g:aj T W W') (hT:∀j,T j->j<w.heap.size\/w.heap.size+2<j):oK w W' e:=
 have l:=h.lt
 have n:∀i,i<=2->¬T (w.heap.size+i):=fun i hi q=>by have:=hT _ q;omega
 ⟨ltT h.lt g.size,fun j u hj=>(g.cell (by omega) (n 0 (by omega)) _).trans (h.cT j u hj),(g.cell (by omega) (n 1 (by omega)) _).trans h.a0,(g.cell (by omega) (n 1 (by omega)) _).trans h.a1,(g.frozen (by omega) (n 1 (by omega)) _).trans h.f0,(g.frozen (by omega) (n 1 (by omega)) _).trans h.f1⟩
theorem oK.more {w W W':World} {e:En} (h:oK w W e) (g:ae W W'):oK w W' e:=h.only (g.only fun _=>False) (fun _ h=>h.elim)
structure zU (u W:World) (cb:Nat) (D:List Pr):Prop where
 ag:ae u W
 tab:∃G,cL W G cb D/\∀j,G j->u.heap.size<=j
theorem zU.more {u W W':World} {cb:Nat} {D:List Pr} (h:zU u W cb D) (g:ae W W'):zU u W' cb D:=by
 obtain ⟨G,h1,h2⟩:=h.tab
 exact ⟨h.ag.trans g,G,h1.ag g,h2⟩
theorem zU.step {u W W':World} {cb:Nat} {D D':List Pr} (h:zU u W cb D) {G:Nat->Prop} (h2:∀j,G j->u.heap.size<=j) (t:lM W G cb D' W'):zU u W' cb D':=by
 obtain ⟨t1,G',t2,t3⟩:=t
 refine ⟨((h.ag.only _).then t1).ag h2,G',t2,fun j hj=>?_⟩
 rcases t3 j hj with q | q
 · exact h2 j q
 · exact zQ0 h.ag.size q
theorem iL.note {w w':World} {G:Nat->Prop} {ms tb sb:Nat} {lo hi:ByteArray} {D:List Pr} {S S':Int->Option An} (h:iL w G ms tb sb lo hi D S) (g:aj (fun j=>j=sb) w w') (hs:cF w' sb S'):iL w' G ms tb sb lo hi D S' where
 c0:=(g.cell (aN h.c0) h.ne 0).trans h.c0
 c1:=(g.cell (aN h.c0) h.ne 1).trans h.c1
 c2:=(g.cell (aN h.c0) h.ne 2).trans h.c2
 c3:=(g.cell (aN h.c0) h.ne 3).trans h.c3
 f0:=(g.frozen (aN h.c0) h.ne 0).trans h.f0
 f1:=(g.frozen (aN h.c0) h.ne 1).trans h.f1
 f2:=(g.frozen (aN h.c0) h.ne 2).trans h.f2
 tab:=h.tab.kept g fun j hj=>(h.apart j hj).2
 seen:=hs
 ne:=h.ne
 apart:=h.apart
theorem iL.lay {w:World} {G G':Nat->Prop} {ms tb cb sb:Nat} {lo hi:ByteArray} {D D':List Pr} {S:Int->Option An} (h:iL w G ms tb sb lo hi D S) (ht:cL w G' cb D') (hG:∀j,G' j->j≠ms/\j≠sb):iL (w.setCell ⟨ms,2,none⟩ (.pointer (some ⟨cb,0,none⟩))) G' ms cb sb lo hi D' S where
 c0:=(World.cell?_setCell_other _ _ _ _ (by intro e;injection e with _ e2;cases e2)).trans h.c0
 c1:=(World.cell?_setCell_other _ _ _ _ (by intro e;injection e with _ e2;cases e2)).trans h.c1
 c2:=World.cell?_setCell_same' _ _ _ (by rw [h.c2];rfl)
 c3:=(World.cell?_setCell_other _ _ _ _ (by intro e;injection e with _ e2;cases e2)).trans h.c3
 f0:=by rw [World.frozen?_setCell];exact h.f0
 f1:=by rw [World.frozen?_setCell];exact h.f1
 f2:=by rw [World.frozen?_setCell];exact h.f2
 tab:=ht.kept (aj.setCell w ⟨ms,2,none⟩ _) fun j hj=>(hG j hj).1
 seen:=h.seen.kept (aj.setCell w ⟨ms,2,none⟩ _) fun e=>h.ne e.symm
 ne:=h.ne
 apart:=hG
theorem Pl.nu {o:bC} (h:Pl.jl o=true):o.kind=1\/o.kind=2\/o.kind=3\/o.kind=4:=by
 unfold Pl.jl at h
 by_cases h1:o.kind=1
 · exact .inl h1
 · by_cases h2:o.kind=2
   · exact .inr (.inl h2)
   · by_cases h3:o.kind=3
     · exact .inr (.inr (.inl h3))
     · by_cases h4:o.kind=4
       · exact .inr (.inr (.inr h4))
       · rw [zZ0 h1,zZ0 h2,zZ0 h3,zZ0 h4,ite_self] at h;cases h
theorem y7w (e:En) (w:World) (hA:bG w e) (hs:∀o∈e.ops,o.key.size<=16777216) (at_:Int) (ms:Nat) (hk:e.kind=1) (hr:Pl.bR e=true) (hat:at_<0\/4096<=at_):
    Calls Tryz.prog 89 #[.pointer (some ⟨ms,0,none⟩),e.agg,.int .i64 at_] w fun r w'=>r=.returned (.tuple #[gK 0 0,.int .i64 1])/\ae w w':=by
 have hR:=fun W (g:ae w W)=>L9 e W (hA.ag g) (fun h3=>by omega) hs
 rw [hr] at hR
 have HR:=af hR
 have HW:=af (pB.start w e)
 obtain ⟨Y,hY⟩:∃Y,Y=(((w.alloc (.cells e.vals.toArray 39)).alloc (.cells #[.int .i64 0,.int .i64 0] 68)).alloc (.cells #[.int .i64 0,.int .i64 0] 68)):=⟨_,rfl⟩
 rw [<-hY] at HW
 have ku:=af hY
 clear hY hA hs hr hR
 unfold En.agg at *
 obtain ⟨kind,ai,other,server,ak,seq,key,upto,part,parts,ops,aC,aG,av,ar,aw⟩:=e
 unfold En.vals at HR ku ⊢
 dsimp only at *
 unfold gK
 subst hk
 go_in
 go_wp2_with fail
 rw [<-ku.out]
 refine (HR.out Y HW.out.ag).mono ?_
 rintro e w1 ⟨rfl,aA⟩
 have bl:=af (HW.out.more aA)
 have hl1:=bl.out.lt
 have a0:=bl.out.a0
 have a1:=bl.out.a1
 have f0:=bl.out.f0
 have f1:=bl.out.f1
 have n0:=bl.out.n0
 have n1:=bl.out.n1
 clear aA HW HR
 rcases hat with ha | ha
 · go_wp2_with fail
   refine bodyPost_ret (v:=.tuple #[.agg #[.int .i64 0,.int .i64 0],.int .i64 1]) (by simp [results,Tryz.results89,go_sem,a0,a1,f0,f1]) rfl ⟨rfl,?_⟩
   exact (bl.out.ag.setCell (show w.heap.size<=w.heap.size+1 by omega) _).setCell (show w.heap.size<=w.heap.size+1 by omega) _
 · have ha2:¬at_<0:=by omega
   have Pm:4095<at_:=by omega
   go_wp2_with fail
   refine bodyPost_ret (v:=.tuple #[.agg #[.int .i64 0,.int .i64 0],.int .i64 1]) (by simp [results,Tryz.results89,go_sem,a0,a1,f0,f1]) rfl ⟨rfl,?_⟩
   exact (bl.out.ag.setCell (show w.heap.size<=w.heap.size+1 by omega) _).setCell (show w.heap.size<=w.heap.size+1 by omega) _
theorem z1Z (e:En) {w:World} (hA:bG w e) (hs:∀o∈e.ops,o.key.size<=16777216) (yG:∀o∈e.ops,o.val.size<=140737488351232) (at_:Int) {G:Nat->Prop} {ms sb:Nat} {lo hi:ByteArray} {D P:List Pr} {S:Int->Option An} (h:dY w G ms sb lo hi D S) (DN:Pl.Tt P D) (hk:e.kind=1) (hr:Pl.bR e=true) (h0:0<=at_) (h1:at_<4096) (hl:lo.size<=16777216) (hh:hi.size<=16777216) (hx:D.length<=1000):
    Calls Tryz.prog 89 #[.pointer (some ⟨ms,0,none⟩),e.agg,.int .i64 at_] w fun r w'=>r=.returned (.tuple #[gK (Pl.eW lo hi P S e at_).code (Pl.eW lo hi P S e at_).at_,.int .i64 0])/\∃D',oG w G ms sb lo hi D' (Pl.eW lo hi P S e at_).S w'/\Pl.Tt (Pl.eW lo hi P S e at_).P D':=by
 have hR:=fun W (g:ae w W)=>L9 e W (hA.ag g) (fun h3=>by omega) hs
 rw [hr] at hR
 have HR:=af hR
 have hcl:=Pl.Io hk hr
 have FX:=Pl.O9 hk hr
 have Pn:=af (Pl.UE hk hr)
 have HTW:=af (Pl.wm DN hk hr h0 h1)
 have zV:Hid (Pl.eW lo hi P S e at_=if (e.ops.any fun o=>!Pl.aL lo hi o.key)=true then ⟨3,0,0,P,S⟩
  else if dF (S e.ak) e.seq=1 then ⟨Pl.dK P e.ops at_,at_,0,Pl.gF P e.ops at_,dw S e.ak ⟨e.seq,Pl.dK P e.ops at_,at_⟩⟩
  else if dF (S e.ak) e.seq=2 then ⟨(fp (S e.ak) e.seq).1,(fp (S e.ak) e.seq).2,0,P,S⟩
  else ⟨4,0,0,P,S⟩):=by
  unfold Hid Pl.eW
  rw [zZ0 (not_not_intro ⟨hk,hr⟩),zZ0 (by omega)]
 generalize Pl.eW lo hi P S e at_=R at *
 have IA:=Pl.vY P e.ops at_
 generalize Pl.dK P e.ops at_=cw at *
 generalize Pl.gF P e.ops at_=tw at *
 have DK:=af IA
 clear IA
 have HAS:=af (fun W (g:ae w W) (o:bC) (ho:o∈e.ops)=>FH lo hi o.key W hl hh (hs o ho))
 have FY:=af h
 have zW:=af hA.ops
 have IB:=af DN
 have wu:=af (And.intro hs yG)
 have HW:=af (pB.start w e)
 obtain ⟨Y,hY⟩:∃Y,Y=(((w.alloc (.cells e.vals.toArray 39)).alloc (.cells #[.int .i64 0,.int .i64 0] 68)).alloc (.cells #[.int .i64 0,.int .i64 0] 68)):=⟨_,rfl⟩
 rw [<-hY] at HW
 have ku:=af hY
 clear hY hA hs yG hr hR h DN
 unfold En.agg at *
 obtain ⟨kind,ai,other,server,ak,seq,key,upto,part,parts,ops,aC,aG,av,ar,aw⟩:=e
 unfold En.vals at HR ku ⊢
 dsimp only at *
 subst hk
 unfold gK
 go_in
 go_wp2_with fail
 rw [<-ku.out]
 refine (HR.out Y HW.out.ag).mono ?_
 rintro e w1 ⟨rfl,aA⟩
 have bl:=af (HW.out.more aA)
 have hl1:=bl.out.lt
 have a0:=bl.out.a0
 have a1:=bl.out.a1
 have f0:=bl.out.f0
 have f1:=bl.out.f1
 have n0:=bl.out.n0
 have n1:=bl.out.n1
 have d0:w1.cell? ⟨w.heap.size,0,none⟩=some (.int .i64 1):=bl.out.cT 0 _ rfl
 have d1:w1.cell? ⟨w.heap.size,1,none⟩=some (.int .i64 ai):=bl.out.cT 1 _ rfl
 have d2:w1.cell? ⟨w.heap.size,2,none⟩=some (.int .i64 other):=bl.out.cT 2 _ rfl
 have d3:w1.cell? ⟨w.heap.size,3,none⟩=some (.int .i64 server):=bl.out.cT 3 _ rfl
 have d4:w1.cell? ⟨w.heap.size,4,none⟩=some (.int .i64 ak):=bl.out.cT 4 _ rfl
 have d5:w1.cell? ⟨w.heap.size,5,none⟩=some (.int .i64 seq):=bl.out.cT 5 _ rfl
 have d6:w1.cell? ⟨w.heap.size,6,none⟩=some (.slice aC ops.length aG):=bl.out.cT 6 _ rfl
 have d7:w1.cell? ⟨w.heap.size,7,none⟩=some (.string key):=bl.out.cT 7 _ rfl
 have d8:w1.cell? ⟨w.heap.size,8,none⟩=some (.int .i64 upto):=bl.out.cT 8 _ rfl
 have d9:w1.cell? ⟨w.heap.size,9,none⟩=some (.int .i64 part):=bl.out.cT 9 _ rfl
 have d10:w1.cell? ⟨w.heap.size,10,none⟩=some (.int .i64 parts):=bl.out.cT 10 _ rfl
 have d11:w1.cell? ⟨w.heap.size,11,none⟩=some (.slice av ar aw):=bl.out.cT 11 _ rfl
 have k0:¬at_<0:=by omega
 have k1:¬4095<at_:=by omega
 clear aA HW HR a0 a1 f0 f1 n0 n1
 go_upto_region 6 with fail
 go_wp2_with fail
 obtain ⟨tb,hI⟩:=FY.out
 have HI:=af hI
 have yI:=aN hI.c0
 have ny:ms<w.heap.size:=yI
 clear hI yI
 clear d0 d1 d2 d3 d4 d5 d7 d8 d9 d10 d11
 go_loopw [40] (fun i wr=>∃k:Nat,k<=ops.length/\i=.int .i64 k/\Hid (pB w wr ⟨1,ai,other,server,ak,seq,key,upto,part,parts,ops,aC,aG,av,ar,aw⟩)/\Hid (∀j,j<k->Pl.aL lo hi (bn ops j).key=true)) (fun i _=>ops.length - (intOf i).toNat)
 case atStart=>exact ⟨0,Nat.zero_le _,rfl,bl.out,fun j hj=>absurd hj (Nat.not_lt_zero j)⟩
 case round=>
  obtain ⟨k,hk1,rfl,iV,zX⟩:=hrel
  by_cases aq:k<ops.length
  · rcases zW.out with h0' | ⟨b,off,rfl,hb,cC⟩
    · rw [h0'] at aq;simp at aq
    have hG:=iV.out.ag
    have q0:=(hG.cells.1 b (off+k*5) hb).trans (cC.kind k aq)
    have q1:=(hG.cells.1 b (off+k*5+1) hb).trans (cC.key k aq)
    have q2:=(hG.cells.1 b (off+k*5+2) hb).trans (cC.val k aq)
    have q3:=(hG.cells.1 b (off+k*5+3) hb).trans (cC.old k aq)
    have q4:=(hG.cells.1 b (off+k*5+4) hb).trans (cC.di k aq)
    have hbr:=ltT hb hG.size
    have HM:=af (yn ops k aq)
    have Po:=af (fun W (g:ae w W)=>HAS.out W g _ (yn ops k aq))
    have kg:=af (show Pl.aL lo hi (bn ops k).key=true->∀j,j<k+1->Pl.aL lo hi (bn ops j).key=true from fun h j hj=>by
     by_cases hjk:j<k
     · exact zX.out j hjk
     · obtain rfl:j=k:=by omega
       exact h)
    have yJ:=af (show Pl.aL lo hi (bn ops k).key=false->(ops.any fun o=>!Pl.aL lo hi o.key)=true from fun h=>zZ5.2 ⟨_,yn ops k aq,by rw [h];rfl⟩)
    rw [Pl.LN] at Po
    have hk9:k<1000000:=by omega
    clear cC hG zX
    generalize bn ops k=c at *
    obtain ⟨c0,c1,c2,c3,c4⟩:=c
    dsimp only at *
    generalize Pl.aL lo hi c1=hv at *
    go_upto_region 9 with fail
    obtain ⟨X,hX⟩:∃X,X=wr.alloc (.cells #[.int .i64 c0,.string c1,.string c2,.string c3,.int .i64 c4] 88):=⟨_,rfl⟩
    have gX:ae wr X:=by rw [hX];exact (ae.rf wr).alloc _
    have x1:X.cell? ⟨wr.heap.size,1,none⟩=some (.string c1):=by rw [hX];simp [go_sem]
    have hxs:wr.heap.size<X.heap.size:=by rw [hX];simp
    have lN:=af (iV.out.more gX)
    rw [<-hX]
    have X1:=aU x1
    have M0:=aU ((lN.out.ag.cells.1 _ 0 ny).trans HI.out.c0)
    have M1:=aU ((lN.out.ag.cells.1 _ 1 ny).trans HI.out.c1)
    have UF:=af (fun W (g:ae X W)=>Po.out W (lN.out.ag.trans g))
    have j0c:=ltT ny lN.out.ag.size
    clear hX gX x1 q0 q1 q2 q3 q4 Po
    refine lH 8 (by kernel_rfl) (by kernel_rfl) (fun _ _=>rfl) ?_
    repeat (first
     | (refine fF ?_;intro K hK;go_big_quiet_op;go_big_quiet_on)
     | (refine zq (fun _=>by kernel_rfl) (fun u hu=>UF.out u hu) ?_;simp only [Act.put,sA,sB,sC])
     | (refine fE ?_;simp only [Act.put,sA,sB,sC]))
    refine uU ?_
    intro x hgx
    have mQ:=af (lN.out.more hgx)
    clear X1 M0 M1 UF hgx
    dsimp only [List.drop]
    cases hv with
    | true=>
     go_wp2_with fail
     go_roundw
     case rel=>exact ⟨k+1,by omega,by go_num,mQ.out,kg.out rfl⟩
     case measure=>simp [intOf];omega
    | false=>
     obtain rfl:R=⟨3,0,0,P,S⟩:=zV.out.trans (zZ1 (yJ.out rfl))
     have a0:=mQ.out.a0
     have a1:=mQ.out.a1
     have f0:=mQ.out.f0
     have f1:=mQ.out.f1
     clear zV yJ kg
     go_wp2_with fail
     refine bodyPost_ret (v:=.tuple #[.agg #[.int .i64 3,.int .i64 0],.int .i64 0]) (by simp [results,Tryz.results89,go_sem,a0,a1,f0,f1]) rfl ⟨rfl,?_⟩
     exact ⟨D,oG.b9 FY.out ((mQ.out.ag.setCell (show w.heap.size<=w.heap.size+1 by omega) _).setCell (show w.heap.size<=w.heap.size+1 by omega) _),IB.out⟩
  · have hkn:k=ops.length:=by omega
    subst hkn
    have hnn:¬(ops.any fun o=>!Pl.aL lo hi o.key)=true:=fun h=>by
     obtain ⟨o,ho,hq⟩:=zZ5.1 h
     obtain ⟨j,hj,rfl⟩:=zQ1 ho
     have:=zX.out j hj
     rw [ym ops j hj] at this
     rw [this] at hq;cases hq
    have ik:=af (zV.out.trans (zZ0 hnn))
    have iM:=af (fun W (g:ae wr W)=>z3n (HI.out.seen.ag (iV.out.ag.trans g)) ak seq hcl.1 hcl.2)
    have B0:=aU ((iV.out.ag.cells.1 _ 3 ny).trans HI.out.c3)
    have B1:=aU (iV.out.cT 4 _ rfl)
    have B2:=aU (iV.out.cT 5 _ rfl)
    have hlr:=iV.out.lt
    have j0d:=ltT ny iV.out.ag.size
    have zR:Hid (dF (S ak) seq=1\/dF (S ak) seq=2\/dF (S ak) seq=3):=by
     unfold Hid dF
     cases S ak with
     | none=>exact .inl rfl
     | some a=>dsimp only;split;exact .inl rfl;split;exact .inr (.inl rfl);exact .inr (.inr rfl)
    have zY:=af (show dF (S ak) seq=1->dF (S ak) seq=1 from id)
    clear hnn zX zV
    generalize hgn:dF (S ak) seq=an at iM ik zR
    have Me:=af hgn
    generalize (fp (S ak) seq).1=ac at *
    generalize (fp (S ak) seq).2=aa at *
    clear hgn zY
    unfold gK at iM
    go_wp2_with fail
    refine kW 14 [12,13] (ae wr) ae (JV [⟨12,13,[.int .i64 ac,.int .i64 aa]⟩] wr) (fun f a=>a.put (some 11) (f 12)) (by kernel_rfl) (by kernel_rfl) (fun _ _=>rfl) (JV.start _ wr _) (fun _ _ _ h=>h.ag) ae.rf (fun _ _ _ _ h g=>h.more g) ?_
    repeat (first
     | refine kV ?_
     | (refine fF ?_;intro K hK;go_big_quiet_op;go_big_quiet_on)
     | (refine zq (fun _=>by kernel_rfl) (fun u hu=>iM.out u hu) ?_;simp only [Act.put,sA,sB,sC])
     | (refine fE ?_;simp only [Act.put,sA,sB,sC]))
    refine iH (by rfl) ⟨⟨bH rfl (fun _ a=>a) (fun _ _=>rfl) (fun _=>rfl) ?_,bH rfl (fun f a=>a.put (some 11) (f 12)) (fun _ _=>rfl) (fun _=>rfl) ?_,trivial⟩,?_⟩
    · intro L f u hJ hL hd
      clear iM B0 B1 B2
      go_simp
      exact hJ.alloc (by rfl) (V:=⟨12,13,[.int .i64 ac,.int .i64 aa]⟩) (by simp) hL [.int .i64 0,.int .i64 0] rfl _
    · intro L f u hJ hL hd
      clear iM B0 B1 B2
      obtain ⟨m,x,y,hm,k0,k1,f0,f1⟩:=hJ.two (V:=⟨12,13,[.int .i64 ac,.int .i64 aa]⟩) (by simp) (hd 12 rfl (by decide)) rfl
      dsimp only at hm
      rw [hm]
      go_simp
      exact hJ.store (by rfl) (V:=⟨12,13,[.int .i64 ac,.int .i64 aa]⟩) (by simp) (hd 12 rfl (by decide)) hm
    intro f u hJ
    clear iM B0 B1 B2
    obtain ⟨m8,q8,n8,l8,v0,v1,_,_⟩:=(hJ.full (V:=⟨12,13,[.int .i64 ac,.int .i64 aa]⟩) (by simp) rfl).two
    dsimp only at q8
    have jc:=af (iV.out.more hJ.ag)
    clear hJ iV hlr
    dsimp only [List.drop]
    simp only [Act.put,sA,sC,sB]
    rw [q8]
    clear q8
    have a0:=jc.out.a0
    have a1:=jc.out.a1
    have f0:=jc.out.f0
    have f1:=jc.out.f1
    rcases zR.out with rfl | rfl | rfl
    · clear zR a0 a1 f0 f1
      obtain rfl:=ik.out.trans (zZ1 rfl)
      clear ik
      have HC:=af (fun W (g:ae w W)=>Ur (HI.out.tab.ag g) (by omega))
      have t2:=(jc.out.ag.cells.1 _ 2 ny).trans HI.out.c2
      go_wp2_with fail
      refine (HC.out u jc.out.ag).mono ?_
      rintro e w5 ⟨⟨cb,G5,rfl,UG,UH⟩,mN⟩
      have vZ:=af (jc.out.more mN)
      have Mf:=af (show zU u w5 cb D from ⟨mN,G5,UG,UH⟩)
      have UC:=vZ.out.lt
      have e6:w5.cell? ⟨w.heap.size,6,none⟩=some (.slice aC ops.length aG):=vZ.out.cT 6 _ rfl
      clear HC t2 UG UH mN
      go_wp2_with fail
      go_loopw [14,80] (fun c i wr=>∃(k:Nat) (Dk:List Pr) (ck:Int),k<=ops.length/\i=.int .i64 k/\c=.int .i64 ck/\Hid (pB w wr ⟨1,ai,other,server,ak,seq,key,upto,part,parts,ops,aC,aG,av,ar,aw⟩)/\Hid (zU u wr cb Dk)/\Hid (Pl.mP (ops.take k) (at_+1) (D,1)=(Dk,ck))) (fun _ i _=>ops.length - (intOf i).toNat)
      case atStart=>exact ⟨0,D,1,Nat.zero_le _,rfl,rfl,vZ.out,Mf.out,rfl⟩
      case round=>
       obtain ⟨k,Dk,ck,hk1,rfl,rfl,iV,Mg,cE⟩:=hrel
       by_cases aq:k<ops.length
       · rcases zW.out with h0' | ⟨b,off,rfl,hb,cC⟩
         · rw [h0'] at aq;simp at aq
         have hG:=iV.out.ag
         have q0:=(hG.cells.1 b (off+k*5) hb).trans (cC.kind k aq)
         have q1:=(hG.cells.1 b (off+k*5+1) hb).trans (cC.key k aq)
         have q2:=(hG.cells.1 b (off+k*5+2) hb).trans (cC.val k aq)
         have q3:=(hG.cells.1 b (off+k*5+3) hb).trans (cC.old k aq)
         have q4:=(hG.cells.1 b (off+k*5+4) hb).trans (cC.di k aq)
         have hbr:=ltT hb hG.size
         have IC:=af (Pl.nu (Pn.out _ (yn ops k aq)))
         have HZ:=af (show (bn ops k).key.size<=16777216/\(bn ops k).val.size<=140737488351232 from ⟨wu.out.1 _ (yn ops k aq),wu.out.2 _ (yn ops k aq)⟩)
         have BD:=Pl.z0e ops (at_+1) (D,1) k aq
         rw [cE.out] at BD
         have Mh:Dk.length<=1000000:=by
          have:=Pl.z2p (ops.take k) (at_+1) (D,1)
          rw [cE.out,List.length_take] at this
          dsimp only at this;omega
         have lf:=af BD
         have Pq:=af Mh
         have hk9:k<1000000:=by omega
         clear cC hG BD Mh cE
         generalize bn ops k=c at *
         obtain ⟨c0,c1,c2,c3,c4⟩:=c
         dsimp only at *
         go_upto_region 22 with fail
         obtain ⟨X,hX⟩:∃X,X=wr.alloc (.cells #[.int .i64 c0,.string c1,.string c2,.string c3,.int .i64 c4] 88):=⟨_,rfl⟩
         have gX:ae wr X:=by rw [hX];exact (ae.rf wr).alloc _
         have x0:X.cell? ⟨wr.heap.size,0,none⟩=some (.int .i64 c0):=by rw [hX];simp [go_sem]
         have x1:X.cell? ⟨wr.heap.size,1,none⟩=some (.string c1):=by rw [hX];simp [go_sem]
         have x2:X.cell? ⟨wr.heap.size,2,none⟩=some (.string c2):=by rw [hX];simp [go_sem]
         have x3:X.cell? ⟨wr.heap.size,3,none⟩=some (.string c3):=by rw [hX];simp [go_sem]
         have x4:X.cell? ⟨wr.heap.size,4,none⟩=some (.int .i64 c4):=by rw [hX];simp [go_sem]
         have hxs:wr.heap.size<X.heap.size:=by rw [hX];simp
         rw [<-hX]
         have lN:=af (iV.out.more gX)
         have Ps:=af (Mg.out.more gX)
         obtain ⟨ob,gL⟩:∃ob,ob=wr.heap.size:=⟨_,rfl⟩
         rw [<-gL] at x0 x1 x2 x3 x4 hxs ⊢
         clear hX gX gL q0 q1 q2 q3 q4 iV Mg
         obtain ⟨GX,UI,hGX⟩:=Ps.out.tab
         have FZ:=af (LO UI.read Pq.out c1)
         clear UI hGX
         go_wp2_with fail
         refine FZ.out.mono ?_
         rintro e w6 ⟨rfl,rY⟩
         have y0:=(rY.cells.1 _ 0 hxs).trans x0
         have y1:=(rY.cells.1 _ 1 hxs).trans x1
         have y2:=(rY.cells.1 _ 2 hxs).trans x2
         have y3:=(rY.cells.1 _ 3 hxs).trans x3
         have y4:=(rY.cells.1 _ 4 hxs).trans x4
         have hys:=ltT hxs rY.size
         have FT:=af (lN.out.more rY)
         have zS:=af (Ps.out.more rY)
         have BF:Hid (Pl.wj Dk ⟨c0,c1,c2,c3,c4⟩=if c0=3 then !((Dk.find? (Pl.isK c1)).isSome && decide (((Dk.find? (Pl.isK c1)).getD Pr.none).val.toList=c3.toList)) else if c0=4 then !decide (((Dk.find? (Pl.isK c1)).getD Pr.none).di=c4) else false):=rfl
         have sY:Hid (Pl.gN Dk ⟨c0,c1,c2,c3,c4⟩ (at_+1)=if c0=1 then Pl.iB Dk ⟨c1,c2,at_+1⟩ else if c0=2 then Dk.eraseP (Pl.isK c1) else if c0=3 then Pl.iB Dk ⟨c1,c2,at_+1⟩ else Dk):=rfl
         clear rY FZ x0 x1 x2 x3 x4 hxs lN Ps
         generalize (Dk.find? (Pl.isK c1)).isSome=th at *
         generalize (Dk.find? (Pl.isK c1)).getD Pr.none=p at *
         obtain ⟨pk,pv,pn⟩:=p
         generalize Pl.wj Dk ⟨c0,c1,c2,c3,c4⟩=bd at *
         generalize Pl.gN Dk ⟨c0,c1,c2,c3,c4⟩ (at_+1)=D1 at *
         unfold Pr.agg
         dsimp only at *
         go_upto_region 23 with fail
         obtain ⟨Z,hZ⟩:∃Z,Z=w6.alloc (.cells #[.string pk,.string pv,.int .i64 pn] 80):=⟨_,rfl⟩
         have gZ:ae w6 Z:=by rw [hZ];exact (ae.rf w6).alloc _
         have p1:Z.cell? ⟨w6.heap.size,1,none⟩=some (.string pv):=by rw [hZ];simp [go_sem]
         have p2:Z.cell? ⟨w6.heap.size,2,none⟩=some (.int .i64 pn):=by rw [hZ];simp [go_sem]
         have hps:w6.heap.size<Z.heap.size:=by rw [hZ];simp
         have z0:=(gZ.cells.1 _ 0 hys).trans y0
         have z1:=(gZ.cells.1 _ 1 hys).trans y1
         have z2:=(gZ.cells.1 _ 2 hys).trans y2
         have z3:=(gZ.cells.1 _ 3 hys).trans y3
         have z4:=(gZ.cells.1 _ 4 hys).trans y4
         have hzs:=ltT hys gZ.size
         have ID:=af (FT.out.more gZ)
         have Mi:=af (zS.out.more gZ)
         rw [<-hZ]
         clear hZ gZ y0 y1 y2 y3 y4 hys FT zS
         obtain ⟨GZ,Pv,F5⟩:=Mi.out.tab
         have dH:=af (ZX Pv Pq.out c1 c2 (at_+1) HZ.out.1 HZ.out.2)
         have jA:=af (Uc Pv Pq.out c1)
         have gq:=af F5
         have hl:w.heap.size+2<u.heap.size:=jc.out.lt
         have gj:=af (fun (W':World) (D':List Pr) (t:lM Z GZ cb D' W')=>show pB w W' ⟨1,ai,other,server,ak,seq,key,upto,part,parts,ops,some ⟨b,off,none⟩,aG,av,ar,aw⟩/\zU u W' cb D' from
          have h1:=Mi.out.step gq.out t
          ⟨ID.out.only t.1 (fun j hj=> .inr (by have:=gq.out j hj;omega)) (jc.out.ag.trans h1.ag),h1⟩)
         have hwr:IntKind.i64.wrap (at_+1)=at_+1:=IntWalk.i64_in _ (by omega)
         clear Pv F5
         rcases IC.out with rfl | rfl | rfl | rfl
         · obtain rfl:=sY.out.trans (zZ1 rfl)
           obtain rfl:bd=false:=BF.out.trans ((zZ0 (by decide)).trans (zZ0 (by decide)))
           have dt:=af (lf.out.trans (show _=(_,ck) from by rw [zZ0 (by decide)]))
           clear BF sY IC lf
           go_wp2_with fail
           refine dH.out.mono ?_
           rintro e w8 ⟨rfl,ht⟩
           obtain ⟨oL,oM⟩:=gj.out w8 _ ht
           have pW:=af oL
           have pX:=af oM
           clear oL oM ht gj dH jA z0 z1 z2 z3 z4 p1 p2
           go_wp2_with fail
           go_roundw
           case rel=>exact ⟨k+1,_,ck,by omega,by go_num,rfl,pW.out,pX.out,dt.out⟩
           case measure=>simp [intOf];omega
         · obtain rfl:=sY.out.trans ((zZ0 (by decide)).trans (zZ1 rfl))
           obtain rfl:bd=false:=BF.out.trans ((zZ0 (by decide)).trans (zZ0 (by decide)))
           have dt:=af (lf.out.trans (show _=(_,ck) from by rw [zZ0 (by decide)]))
           clear BF sY IC lf
           go_wp2_with fail
           refine jA.out.mono ?_
           rintro e w8 ⟨rfl,ht⟩
           obtain ⟨oL,oM⟩:=gj.out w8 _ ht
           have pW:=af oL
           have pX:=af oM
           clear oL oM ht gj dH jA z0 z1 z2 z3 z4 p1 p2
           go_wp2_with fail
           go_roundw
           case rel=>exact ⟨k+1,_,ck,by omega,by go_num,rfl,pW.out,pX.out,dt.out⟩
           case measure=>simp [intOf];omega
         · obtain rfl:=sY.out.trans ((zZ0 (by decide)).trans ((zZ0 (by decide)).trans (zZ1 rfl)))
           have pY:=af (BF.out.trans (zZ1 rfl))
           clear BF sY IC
           by_cases heq:pv.toList=c3.toList
           · have hb1:(pv.toList==c3.toList)=true:=by rw [heq];simp
             have hb2:(pv.toList !=c3.toList)=false:=by rw [heq];simp
             rw [decide_eq_true heq] at pY
             clear heq
             cases th with
             | true=>
              obtain rfl:bd=false:=pY.out
              have dt:=af (lf.out.trans (show _=(_,ck) from by rw [zZ0 (by decide)]))
              clear pY lf
              go_wp2_with fail
              refine dH.out.mono ?_
              rintro e w8 ⟨rfl,ht⟩
              obtain ⟨oL,oM⟩:=gj.out w8 _ ht
              have pW:=af oL
              have pX:=af oM
              clear oL oM ht gj dH jA z0 z1 z2 z3 z4 p1 p2
              go_wp2_with fail
              go_roundw
              case rel=>exact ⟨k+1,_,ck,by omega,by go_num,rfl,pW.out,pX.out,dt.out⟩
              case measure=>simp [intOf];omega
             | false=>
              obtain rfl:bd=true:=pY.out
              have dt:=af (lf.out.trans (show _=(_,(2:Int)) from by rw [zZ1 rfl]))
              clear pY lf
              go_wp2_with fail
              refine dH.out.mono ?_
              rintro e w8 ⟨rfl,ht⟩
              obtain ⟨oL,oM⟩:=gj.out w8 _ ht
              have pW:=af oL
              have pX:=af oM
              clear oL oM ht gj dH jA z0 z1 z2 z3 z4 p1 p2
              go_wp2_with fail
              go_roundw
              case rel=>exact ⟨k+1,_,2,by omega,by go_num,rfl,pW.out,pX.out,dt.out⟩
              case measure=>simp [intOf];omega
           · have hb1:(pv.toList==c3.toList)=false:=beq_eq_false_iff_ne.2 heq
             have hb2:(pv.toList !=c3.toList)=true:=by rw [bne,hb1];rfl
             rw [decide_eq_false heq,Bool.and_false] at pY
             clear heq
             obtain rfl:bd=true:=pY.out
             have dt:=af (lf.out.trans (show _=(_,(2:Int)) from by rw [zZ1 rfl]))
             clear pY lf
             cases th with
             | true=>
              go_wp2_with fail
              refine dH.out.mono ?_
              rintro e w8 ⟨rfl,ht⟩
              obtain ⟨oL,oM⟩:=gj.out w8 _ ht
              have pW:=af oL
              have pX:=af oM
              clear oL oM ht gj dH jA z0 z1 z2 z3 z4 p1 p2
              go_wp2_with fail
              go_roundw
              case rel=>exact ⟨k+1,_,2,by omega,by go_num,rfl,pW.out,pX.out,dt.out⟩
              case measure=>simp [intOf];omega
             | false=>
              go_wp2_with fail
              refine dH.out.mono ?_
              rintro e w8 ⟨rfl,ht⟩
              obtain ⟨oL,oM⟩:=gj.out w8 _ ht
              have pW:=af oL
              have pX:=af oM
              clear oL oM ht gj dH jA z0 z1 z2 z3 z4 p1 p2
              go_wp2_with fail
              go_roundw
              case rel=>exact ⟨k+1,_,2,by omega,by go_num,rfl,pW.out,pX.out,dt.out⟩
              case measure=>simp [intOf];omega
         · obtain rfl:=sY.out.trans ((zZ0 (by decide)).trans ((zZ0 (by decide)).trans (zZ0 (by decide))))
           have pY:=af (BF.out.trans ((zZ0 (by decide)).trans (zZ1 rfl)))
           clear BF sY IC dH jA gj
           by_cases heq:pn=c4
           · rw [decide_eq_true heq] at pY
             subst heq
             obtain rfl:bd=false:=pY.out
             have dt:=af (lf.out.trans (show _=(_,ck) from by rw [zZ0 (by decide)]))
             clear pY lf
             have Px:=af (ID.out)
             have pW:=ID
             have pX:=Mi
             go_wp2_with fail
             go_roundw
             case rel=>exact ⟨k+1,_,ck,by omega,by go_num,rfl,pW.out,pX.out,dt.out⟩
             case measure=>simp [intOf];omega
           · rw [decide_eq_false heq] at pY
             have hb1:(pn==c4)=false:=beq_eq_false_iff_ne.2 heq
             obtain rfl:bd=true:=pY.out
             have dt:=af (lf.out.trans (show _=(_,(2:Int)) from by rw [zZ1 rfl]))
             clear pY lf
             have Px:=af (ID.out)
             have pW:=ID
             have pX:=Mi
             go_wp2_with fail
             go_roundw
             case rel=>exact ⟨k+1,_,2,by omega,by go_num,rfl,pW.out,pX.out,dt.out⟩
             case measure=>simp [intOf];omega
       · have hkn:k=ops.length:=by omega
         subst hkn
         have hr:=cE.out
         rw [zQ2] at hr
         have BB:=HTW.out
         have htab:Pl.Md D ops at_=if ck=1 then Dk else D:=by unfold Pl.Md;rw [hr]
         rw [htab,hr] at BB
         obtain ⟨hc1,hc2⟩:=BB
         dsimp only at hc1
         subst hc1
         have fX:=af hc2
         have tK:=af Mg.out.tab
         have F6:=af (And.intro jc.out.lt Mg.out.ag.size)
         have t2:=(iV.out.ag.cells.1 _ 2 ny).trans HI.out.c2
         have r2:=(iV.out.ag.cells.2 _ 2 ny).trans HI.out.f2
         have hmr:=ltT ny iV.out.ag.size
         have Mj:=af (HI.out.kept (iV.out.ag.only fun _=>False) (fun _ _ h=>h) (fun h=>h) (fun h=>h))
         clear hr htab hc2
         rcases DK.out with rfl | rfl
         · rw [zZ1 rfl] at fX
           have Py:=fX
           obtain ⟨Gk,UJ,pZ⟩:=tK.out
           go_upto_region 39 with fail
           obtain ⟨V,hV⟩:∃V,V=wr.setCell ⟨ms,2,none⟩ (.pointer (some ⟨cb,0,none⟩)):=⟨_,rfl⟩
           have IE:=af (show aj (fun j=>j=ms) w V from by rw [hV];exact (iV.out.ag.only _).then (aj.setCell wr ⟨ms,2,none⟩ _))
           have IG:=af (show iL V Gk ms cb sb lo hi Dk S from by
            rw [hV]
            have ia:sb<w.heap.size:=HI.out.seen.lt
            exact Mj.out.lay UJ (fun j hj=>⟨by have:=pZ j hj;have:=F6.out.1;omega,by have:=pZ j hj;have:=F6.out.1;omega⟩))
           have pC:=af (show oK w V ⟨1,ai,other,server,ak,seq,key,upto,part,parts,ops,aC,aG,av,ar,aw⟩ from by
            have hs:aj (fun j=>j=ms) wr V:=by rw [hV];exact aj.setCell wr ⟨ms,2,none⟩ _
            exact iV.out.c.only hs (fun j (hj:j=ms)=> .inl (by omega)))
           have DR:=af (show ∀j,Gk j->(G j/\j<w.heap.size)\/u.heap.size<=j from fun j hj=> .inr (pZ j hj))
           have hvs:wr.heap.size=V.heap.size:=by rw [hV];simp
           rw [<-hV,hvs]
           clear hvs hV t2 r2 hmr UJ pZ tK Mj
           obtain ⟨X8,rZ⟩:∃X8,X8=V.alloc (.cells #[.int .i64 1,.int .i64 at_] 68):=⟨_,rfl⟩
           have g8:ae V X8:=by rw [rZ];exact (ae.rf V).alloc _
           have b0:X8.cell? ⟨V.heap.size,0,none⟩=some (.int .i64 1):=by rw [rZ];simp [go_sem]
           have b1:X8.cell? ⟨V.heap.size,1,none⟩=some (.int .i64 at_):=by rw [rZ];simp [go_sem]
           have wy:V.heap.size<X8.heap.size:=by rw [rZ];simp
           rw [<-rZ]
           have oN:=af (IG.out.kept (g8.only fun _=>False) (fun _ _ h=>h) (fun h=>h) (fun h=>h))
           have lN:=af (pC.out.more g8)
           have II:=af (((IE.out.mono (T:=fun j=>j=ms\/j=sb\/G j) (fun j hj=> .inl (.inl hj)))).cm g8)
           have zY:=af (fun W (g:ae X8 W)=>Uq (oN.out.seen.ag g) ak ⟨seq,1,at_⟩ hcl.1 hcl.2 ⟨FX.1,FX.2.1,by simp,h0,h1⟩ Me.out)
           have C0:=aU oN.out.c3
           have C1:=aU (lN.out.cT 4 _ rfl)
           have C2:=aU (lN.out.cT 5 _ rfl)
           have C3:=aU b0
           have C4:=aU b1
           have Pz:=aN oN.out.c0
           have PC:=lN.out.lt
           obtain ⟨vb,hvb⟩:∃vb,vb=V.heap.size:=⟨_,rfl⟩
           rw [<-hvb] at b0 b1 wy C3 C4 ⊢
           have PD:=af (show w.heap.size+2<vb from by rw [hvb];exact pC.out.lt)
           unfold gK at zY
           clear rZ g8 hvb IG pC IE
           refine lH 9 (by kernel_rfl) (by kernel_rfl) (fun _ _=>rfl) ?_
           repeat (first
            | (refine fF ?_;intro K hK;go_big_quiet_op;go_big_quiet_on)
            | (refine fE ?_;simp only [Act.put,sA,sB,sC]))
           refine iH (by rfl) ?_
           intro x hgx
           have IJ:=af (oN.out.kept (hgx.only fun _=>False) (fun _ _ h=>h) (fun h=>h) (fun h=>h))
           have mQ:=af (lN.out.more hgx)
           have wz:=af (II.out.cm hgx)
           have IK:=af (zY.out x hgx)
           have b0:=(hgx.cells.1 _ 0 wy).trans b0
           have b1:=(hgx.cells.1 _ 1 wy).trans b1
           have nU:=ltT wy hgx.size
           clear C0 C1 C2 C3 C4 hgx oN lN II zY wy Pz PC
           dsimp only [List.drop]
           go_wp2_with fail
           refine IK.out.mono ?_
           rintro e w9 ⟨rfl,l6,IL⟩
           have ia:sb<w.heap.size:=HI.out.seen.lt
           have hlx:=mQ.out.lt
           have n1:w.heap.size+1≠sb:=by omega
           have n2:vb≠sb:=by have:=PD.out;omega
           have a0:=(l6.cell (by omega) n1 0).trans mQ.out.a0
           have a1:=(l6.cell (by omega) n1 1).trans mQ.out.a1
           have f0:=(l6.frozen (by omega) n1 0).trans mQ.out.f0
           have f1:=(l6.frozen (by omega) n1 1).trans mQ.out.f1
           have b0:=(l6.cell nU n2 0).trans b0
           have b1:=(l6.cell nU n2 1).trans b1
           have PE:=af (IJ.out.note l6 IL)
           have PG:=af (wz.out.trans l6 (fun j hj=> .inl (.inr (.inl hj))))
           have PH:=l6.size
           have hb9:vb<w9.heap.size:=by omega
           have hl9:w.heap.size+2<w9.heap.size:=by omega
           clear l6 IL IK IJ mQ wz n1 n2 hlx nU PH
           go_wp2_with fail
           refine bodyPost_ret (v:=.tuple #[.agg #[.int .i64 1,.int .i64 at_],.int .i64 0]) (by simp [results,Tryz.results89,go_sem,a0,a1,f0,f1]) rfl ⟨rfl,?_⟩
           have gh:aj (fun j=>j=w.heap.size+1) w9 ((w9.setCell ⟨w.heap.size+1,0,none⟩ (.int .i64 1)).setCell ⟨w.heap.size+1,1,none⟩ (.int .i64 at_)):=(aj.setCell w9 ⟨w.heap.size+1,0,none⟩ _).then (aj.setCell _ ⟨w.heap.size+1,1,none⟩ _)
           exact ⟨_,⟨PG.out.trans gh (fun j (hj:j=w.heap.size+1)=> .inr (by omega)),_,⟨_,PE.out.kept gh (fun j hj (e:j=w.heap.size+1)=>by have:=DR.out j hj;have:=F6.out.1;omega) (fun (e:ms=w.heap.size+1)=>by omega) (fun (e:sb=w.heap.size+1)=>by omega)⟩,fun j hj=>by
            rcases DR.out j hj with q | q
            · exact .inl q.1
            · exact .inr (by have:=F6.out.1;omega)⟩,Py.out⟩
         · rw [zZ0 (by decide)] at fX
           have Py:=fX
           have IE:=af (iV.out.ag.only fun j=>j=ms)
           have IG:=Mj
           have pC:=af iV.out.c
           have DR:=af (show ∀j,G j->(G j/\j<w.heap.size)\/u.heap.size<=j from fun j hj=> .inl ⟨hj,HI.out.tab.lt j hj⟩)
           clear t2 r2 hmr tK Mj
           go_upto_region 39 with fail
           obtain ⟨X8,rZ⟩:∃X8,X8=wr.alloc (.cells #[.int .i64 2,.int .i64 at_] 68):=⟨_,rfl⟩
           have g8:ae wr X8:=by rw [rZ];exact (ae.rf wr).alloc _
           have b0:X8.cell? ⟨wr.heap.size,0,none⟩=some (.int .i64 2):=by rw [rZ];simp [go_sem]
           have b1:X8.cell? ⟨wr.heap.size,1,none⟩=some (.int .i64 at_):=by rw [rZ];simp [go_sem]
           have wy:wr.heap.size<X8.heap.size:=by rw [rZ];simp
           rw [<-rZ]
           have oN:=af (IG.out.kept (g8.only fun _=>False) (fun _ _ h=>h) (fun h=>h) (fun h=>h))
           have lN:=af (pC.out.more g8)
           have II:=af (((IE.out.mono (T:=fun j=>j=ms\/j=sb\/G j) (fun j hj=> .inl (.inl hj)))).cm g8)
           have zY:=af (fun W (g:ae X8 W)=>Uq (oN.out.seen.ag g) ak ⟨seq,2,at_⟩ hcl.1 hcl.2 ⟨FX.1,FX.2.1,by simp,h0,h1⟩ Me.out)
           have C0:=aU oN.out.c3
           have C1:=aU (lN.out.cT 4 _ rfl)
           have C2:=aU (lN.out.cT 5 _ rfl)
           have C3:=aU b0
           have C4:=aU b1
           have Pz:=aN oN.out.c0
           have PC:=lN.out.lt
           obtain ⟨vb,hvb⟩:∃vb,vb=wr.heap.size:=⟨_,rfl⟩
           rw [<-hvb] at b0 b1 wy C3 C4 ⊢
           have PD:=af (show w.heap.size+2<vb from by rw [hvb];exact pC.out.lt)
           unfold gK at zY
           clear rZ g8 hvb IG pC IE
           refine lH 9 (by kernel_rfl) (by kernel_rfl) (fun _ _=>rfl) ?_
           repeat (first
            | (refine fF ?_;intro K hK;go_big_quiet_op;go_big_quiet_on)
            | (refine fE ?_;simp only [Act.put,sA,sB,sC]))
           refine iH (by rfl) ?_
           intro x hgx
           have IJ:=af (oN.out.kept (hgx.only fun _=>False) (fun _ _ h=>h) (fun h=>h) (fun h=>h))
           have mQ:=af (lN.out.more hgx)
           have wz:=af (II.out.cm hgx)
           have IK:=af (zY.out x hgx)
           have b0:=(hgx.cells.1 _ 0 wy).trans b0
           have b1:=(hgx.cells.1 _ 1 wy).trans b1
           have nU:=ltT wy hgx.size
           clear C0 C1 C2 C3 C4 hgx oN lN II zY wy Pz PC
           dsimp only [List.drop]
           go_wp2_with fail
           refine IK.out.mono ?_
           rintro e w9 ⟨rfl,l6,IL⟩
           have ia:sb<w.heap.size:=HI.out.seen.lt
           have hlx:=mQ.out.lt
           have n1:w.heap.size+1≠sb:=by omega
           have n2:vb≠sb:=by have:=PD.out;omega
           have a0:=(l6.cell (by omega) n1 0).trans mQ.out.a0
           have a1:=(l6.cell (by omega) n1 1).trans mQ.out.a1
           have f0:=(l6.frozen (by omega) n1 0).trans mQ.out.f0
           have f1:=(l6.frozen (by omega) n1 1).trans mQ.out.f1
           have b0:=(l6.cell nU n2 0).trans b0
           have b1:=(l6.cell nU n2 1).trans b1
           have PE:=af (IJ.out.note l6 IL)
           have PG:=af (wz.out.trans l6 (fun j hj=> .inl (.inr (.inl hj))))
           have PH:=l6.size
           have hb9:vb<w9.heap.size:=by omega
           have hl9:w.heap.size+2<w9.heap.size:=by omega
           clear l6 IL IK IJ mQ wz n1 n2 hlx nU PH
           go_wp2_with fail
           refine bodyPost_ret (v:=.tuple #[.agg #[.int .i64 2,.int .i64 at_],.int .i64 0]) (by simp [results,Tryz.results89,go_sem,a0,a1,f0,f1]) rfl ⟨rfl,?_⟩
           have gh:aj (fun j=>j=w.heap.size+1) w9 ((w9.setCell ⟨w.heap.size+1,0,none⟩ (.int .i64 2)).setCell ⟨w.heap.size+1,1,none⟩ (.int .i64 at_)):=(aj.setCell w9 ⟨w.heap.size+1,0,none⟩ _).then (aj.setCell _ ⟨w.heap.size+1,1,none⟩ _)
           exact ⟨_,⟨PG.out.trans gh (fun j (hj:j=w.heap.size+1)=> .inr (by omega)),_,⟨_,PE.out.kept gh (fun j hj (e:j=w.heap.size+1)=>by have:=DR.out j hj;have:=F6.out.1;omega) (fun (e:ms=w.heap.size+1)=>by omega) (fun (e:sb=w.heap.size+1)=>by omega)⟩,fun j hj=>by
            rcases DR.out j hj with q | q
            · exact .inl q.1
            · exact .inr (by have:=F6.out.1;omega)⟩,Py.out⟩
    · clear zR
      obtain rfl:R=⟨ac,aa,0,P,S⟩:=ik.out.trans ((zZ0 (by decide)).trans (zZ1 rfl))
      clear ik
      go_wp2_with fail
      refine bodyPost_ret (v:=.tuple #[.agg #[.int .i64 ac,.int .i64 aa],.int .i64 0]) (by simp [results,Tryz.results89,go_sem,a0,a1,f0,f1]) rfl ⟨rfl,?_⟩
      exact ⟨D,oG.b9 FY.out ((jc.out.ag.setCell (show w.heap.size<=w.heap.size+1 by omega) _).setCell (show w.heap.size<=w.heap.size+1 by omega) _),IB.out⟩
    · clear zR
      obtain rfl:R=⟨4,0,0,P,S⟩:=ik.out.trans ((zZ0 (by decide)).trans (zZ0 (by decide)))
      clear ik
      go_wp2_with fail
      refine bodyPost_ret (v:=.tuple #[.agg #[.int .i64 4,.int .i64 0],.int .i64 0]) (by simp [results,Tryz.results89,go_sem,a0,a1,f0,f1]) rfl ⟨rfl,?_⟩
      exact ⟨D,oG.b9 FY.out ((jc.out.ag.setCell (show w.heap.size<=w.heap.size+1 by omega) _).setCell (show w.heap.size<=w.heap.size+1 by omega) _),IB.out⟩
end
section
open Go.RowKit Go.Maps
attribute [local go_sem] Oper.semAt_some
namespace Pl
def mS (lo hi:ByteArray) (P:List Pr):Prop:=∀c∈P,aL lo hi c.key=true
theorem zZ (lo hi:ByteArray):mS lo hi []:=fun c h=>by cases h
theorem wA {P:List Pr} (h:ct P) (o:bC) (v:Int):∀c∈(bK P o v).1,c∈P\/c.key=o.key:=by
 intro c hc
 unfold bK at hc
 split at hc
 · exact .inl ((LK h _ _).1 hc).1
 · split at hc
   · exact .inl hc
   · split at hc
     · exact .inl hc
     · unfold iK at hc
       dsimp only at hc
       split at hc
       · next hp=>
         rcases (Hm h (FO hp).1 _).1 hc with hq | hq
         · exact .inr (by rw [hq])
         · exact .inl hq.1
       · exact .inl hc
theorem UK {P:List Pr} (h:ct P) (o:bC) (v:Int):ct (bK P o v).1:=by
 unfold bK
 split
 · exact Oz h _
 · split
   · exact h
   · split
     · exact h
     · unfold iK
       dsimp only
       split
       · next hp=>exact LJ h (FO hp).1
       · exact h
theorem z4E {lo hi:ByteArray} (v:Int):∀(ops:List bC) {P:List Pr},ct P->mS lo hi P->(∀o∈ops,aL lo hi o.key=true)->mS lo hi (jz ops v P).1:=by
 intro ops
 induction ops with
 | nil=>intro P _ h _;exact h
 | cons o os ih=>
  intro P hs h ho
  have h1:mS lo hi (bK P o v).1:=fun c hc=>by
   rcases wA hs o v c hc with q | q
   · exact h c q
   · rw [q];exact ho o (by simp)
  rw [Bq]
  split
  · exact ih (UK hs o v) h1 fun x hx=>ho x (by simp [hx])
  · exact h1
theorem z4F {lo hi:ByteArray} {P:List Pr} (hs:ct P) (h:mS lo hi P) (S:Int->Option An) (e:En) (at_:Int):mS lo hi (eW lo hi P S e at_).P:=by
 unfold eW
 split
 · exact h
 · split
   · exact h
   · split
     · exact h
     · next hq=>
       split
       · show mS lo hi (gF P e.ops at_)
         unfold gF
         split
         · exact z4E _ _ hs h (Pk hq)
         · exact h
       · split<;> exact h
theorem z1L (lo hi:ByteArray) (P:List Pr) (S:Int->Option An) (e:En) (at_:Int):(eW lo hi P S e at_).P.length<=P.length+8:=by
 unfold eW
 by_cases h1:e.kind=1/\bR e=true
 · rw [zZ0 (not_not_intro h1)]
   split
   · dsimp only;omega
   · split
     · dsimp only;omega
     · split
       · have:=vX P e.ops at_;have:=(O9 h1.1 h1.2).2.2;dsimp only;omega
       · split<;> (dsimp only;omega)
 · rw [zZ1 h1];dsimp only;omega
end Pl
def eZ (Ft Fs:Nat->Prop) (st j:Nat):Prop:=Ft j\/Fs j\/j=st
def gP (G:Nat->Prop) (ms sb j:Nat):Prop:=G j\/j=ms\/j=sb
structure TwS (w0 W:World) (st ms n:Nat) (lo hi:ByteArray) (P:List Pr) (S:Int->Option An):Prop where
 ag:ae w0 W
 ex:∃Ft Fs G sb D,cY W Ft Fs st n lo hi P S/\dY W G ms sb lo hi D S/\Pl.Tt P D/\(∀j,eZ Ft Fs st j->w0.heap.size<=j/\¬gP G ms sb j)/\(∀j,gP G ms sb j->w0.heap.size<=j)
 ins:Pl.mS lo hi P
section
variable {w0 W W':World} {st ms n:Nat} {lo hi:ByteArray} {P:List Pr} {S:Int->Option An}
theorem cY.all {W:World} {Ft Fs:Nat->Prop} {st n:Nat} {lo hi:ByteArray} {P:List Pr} {S:Int->Option An} (h:cY W Ft Fs st n lo hi P S):∀j,eZ Ft Fs st j->j<W.heap.size:=by
 obtain ⟨tb,sb,h⟩:=h
 rintro j (hj | hj | rfl)
 · exact nP h.tab j hj
 · exact h.seen.lt j hj
 · exact aN h.c0
theorem dY.all {W:World} {G:Nat->Prop} {ms sb:Nat} {lo hi:ByteArray} {D:List Pr} {S:Int->Option An} (h:dY W G ms sb lo hi D S):∀j,gP G ms sb j->j<W.heap.size:=by
 obtain ⟨a,b,c⟩:=h.lt
 rintro j (hj | rfl | rfl)
 · exact c j hj
 · exact a
 · exact b
end
end
section
namespace Pl
theorem z3v {s:ByteArray} (h:aF s=0):right s=true:=by
 obtain ⟨l,hl⟩:=iF h
 unfold right
 rw [hl];rfl
theorem sf {lo hi key:ByteArray} (h:aL lo hi key=true):bf lo hi=true/\isKey key=true/\0<=bE key lo/\cI key hi=true:=by
 unfold aL at h
 simp only [Bool.and_eq_true,decide_eq_true_eq] at h
 exact ⟨h.1.1.1,h.1.1.2,h.1.2,h.2⟩
theorem PI (b:ByteArray):aP b=true↔b=⟨#[]⟩:=by
 unfold aP
 rw [zQ3]
 constructor
 · intro h
   have:b.data.toList=[]:=List.isEmpty_iff.1 h
   cases b with
   | mk d=>simp at this;rw [this]
 · rintro rfl;rfl
theorem ok_none:Ok ⟨#[]⟩:=⟨[],rfl⟩
theorem sk {s:ByteArray} (h:isKey s=true):Ok s:=iF (by unfold isKey at h;simpa using h)
theorem wB {s:ByteArray} (h:dv s=true):Ok s:=by
 unfold dv at h
 rw [Bool.or_eq_true] at h
 rcases h with h | h
 · rw [(PI s).1 h];exact ok_none
 · exact sk h
theorem Mk {k:ByteArray} (h:isKey k=true):aP k=false:=by
 cases hn:aP k with
 | false=>rfl
 | true=>
  rw [(PI k).1 hn] at h
  exact absurd h (by decide)
theorem UL {lo hi key:ByteArray} (h:aL lo hi key=true) (hne:key.toList≠lo.toList):
    bf lo key=true/\bf key hi=true/\aK (bf lo key) (bf key hi) lo key key hi=0/\aH (bf lo key) (bf key hi) lo key key hi=(lo,hi):=by
 obtain ⟨h1,h2,h3,h4⟩:=sf h
 unfold bf at h1
 simp only [Bool.and_eq_true] at h1
 obtain ⟨⟨e1,e2⟩,e3⟩:=h1
 have UM:dv key=true:=by unfold dv;rw [h2];simp
 have aq:cI lo key=true:=by
  unfold cI
  rw [Mk h2,zQ4,decide_eq_true_eq]
  have hz:bE key lo≠0:=by
   intro hz
   have:=ug (sk h2) (wB e1) hz
   exact hne (by rw [this])
  have:=qM (sk h2) (wB e1)
  omega
 have r1:bf lo key=true:=by unfold bf;rw [e1,UM,aq];rfl
 have r2:bf key hi=true:=by unfold bf;rw [e2,UM,h4];rfl
 refine ⟨r1,r2,?_,?_⟩
 · unfold aK;rw [r1,r2,Mk h2];simp
 · unfold aH;rw [r1,r2,Mk h2];simp
theorem z3W {lo hi key:ByteArray} (h:cU (bf lo hi) (aF key) (aL lo hi key) lo key=0):aF key=0/\aL lo hi key=true/\key.toList≠lo.toList:=by
 unfold cU at h
 split at h
 · cases h
 · split at h
   · omega
   · split at h
     · cases h
     · rename_i h1 h2 h3
       refine ⟨by omega,?_,fun e=>h3 (.inr e)⟩
       cases e:aL lo hi key with
       | true=>rfl
       | false=>exact absurd (.inl e) h3
theorem z4d {P:List Pr} {lo hi key:ByteArray} (hP:ct P) (hin:mS lo hi P) (h:cU (bf lo hi) (aF key) (aL lo hi key) lo key=0):
    bf lo key=true/\bf key hi=true/\mS lo key (P.take (bh P key))/\mS key hi (P.drop (bh P key))/\key.size<=96:=by
 obtain ⟨h1,h2,h3⟩:=z3W h
 obtain ⟨r1,r2,_,_⟩:=UL h2 h3
 have hk:isKey key=true:=by unfold isKey;rw [h1];rfl
 have hok:=sk hk
 have hr:right key=true:=z3v h1
 have hn:bh P key=pos P key:=by unfold bh;rw [zZ1 hr]
 rw [hn]
 refine ⟨r1,r2,fun c hc=>?_,fun c hc=>?_,Un h1⟩
 · obtain ⟨hm,aq⟩:=(Uk hP hok c).1 hc
   obtain ⟨_,q2,q3,_⟩:=sf (hin c hm)
   unfold aL
   rw [r1,q2]
   have:cI c.key key=true:=by unfold cI;rw [decide_eq_true aq,Bool.or_true]
   rw [this,decide_eq_true q3];rfl
 · obtain ⟨hm,aq⟩:=(Ul hP hok c).1 hc
   obtain ⟨_,q2,_,q4⟩:=sf (hin c hm)
   unfold aL
   rw [r2,q2,q4,decide_eq_true (show 0<=bE c.key key by omega)];rfl
end Pl
end
section
open Go.RowKit Go.Maps
structure df where
 xs:List Sh
 used:Nat->Bool
 ne:Nat
 evs:List Value
def df.init:df:=⟨[Fz],nX,0,[]⟩
def gm (w:World) (F:Nat->Prop) (sb:Nat) (s:df):Prop:=fh w F sb s.xs s.used s.ne s.evs
theorem gm.ag {w w':World} {F:Nat->Prop} {sb:Nat} {s:df} (h:gm w F sb s) (g:ae w w'):gm w' F sb s:=fh.ag h g
namespace Pl
def iI (xs:List Sh) (e:En):Nat:=(ax xs e.ai).toNat
def l9 (xs:List Sh) (e:En):Nat:=(ax xs e.other).toNat
def aW (s:df) (e:En) (at':Int):df:=
 if e.kind=2 then ⟨s.xs.set (iI s.xs e) ⟨(ah s.xs (iI s.xs e)).id,e.server,(ah s.xs (iI s.xs e)).since,(ah s.xs (iI s.xs e)).lo,(ah s.xs (iI s.xs e)).hi⟩,s.used,s.ne,s.evs⟩
 else if e.kind=3 then ⟨iU s.xs (iI s.xs e) e.key e.other e.server at',pP s.used e.other.toNat,s.ne+1,s.evs++jf at' e⟩
 else ⟨ja s.xs (iI s.xs e) (l9 s.xs e) (aH (bf (ah s.xs (iI s.xs e)).lo (ah s.xs (iI s.xs e)).hi) (bf (ah s.xs (l9 s.xs e)).lo (ah s.xs (l9 s.xs e)).hi) (ah s.xs (iI s.xs e)).lo (ah s.xs (iI s.xs e)).hi (ah s.xs (l9 s.xs e)).lo (ah s.xs (l9 s.xs e)).hi) at',s.used,s.ne+1,s.evs++jf at' e⟩
def wC (s:df) (e:En) (at':Int):df:=if eQ s.xs s.used e at'=true then aW s e at' else s
theorem nz {xs:List Sh} {used:Nat->Bool} {e:En} (h:iq xs used e=true):
    bR e=true/\∃i,i<xs.length/\ax xs e.ai=(i:Nat)/\iI xs e=i/\(ah xs i).id=e.ai/\
     (e.kind=2\/
      (e.kind=3/\used e.other.toNat=false/\1<=e.other/\e.other<=12/\aL (ah xs i).lo (ah xs i).hi e.key=true/\e.key.toList≠(ah xs i).lo.toList)\/
      (e.kind=4/\∃j,j<xs.length/\ax xs e.other=(j:Nat)/\l9 xs e=j/\(ah xs j).id=e.other/\aK (bf (ah xs i).lo (ah xs i).hi) (bf (ah xs j).lo (ah xs j).hi) (ah xs i).lo (ah xs i).hi (ah xs j).lo (ah xs j).hi=0)):=by
 unfold iq at h
 by_cases hr:bR e=true
 · refine ⟨hr,?_⟩
   rw [zZ0 (by rw [hr];simp)] at h
   rcases CJ xs e.ai with hf | ⟨i,hi,hf,bP⟩
   · rw [hf] at h;simp at h
   · refine ⟨i,hi,hf,by unfold iI;rw [hf];rfl,bP,?_⟩
     rw [hf,zZ0 (by omega),Int.toNat_natCast] at h
     by_cases k2:e.kind=2
     · exact .inl k2
     · rw [zZ0 k2] at h
       by_cases k3:e.kind=3
       · rw [zZ1 k3] at h
         simp only [Bool.and_eq_true,Bool.not_eq_true',decide_eq_false_iff_not] at h
         obtain ⟨o1,o2⟩:=ND hr k3
         exact .inr (.inl ⟨k3,h.1.1,o1,o2,h.1.2,h.2⟩)
       · rw [zZ0 k3] at h
         by_cases k4:e.kind=4
         · rw [zZ1 k4] at h
           rcases CJ xs e.other with hj | ⟨j,hjl,hj,eA⟩
           · rw [hj] at h;simp at h
           · rw [hj,zZ0 (by omega),Int.toNat_natCast] at h
             exact .inr (.inr ⟨k4,j,hjl,hj,by unfold l9;rw [hj];rfl,eA,by simpa using h⟩)
         · rw [zZ0 k4] at h;cases h
 · rw [zZ1 (by simpa using hr)] at h;cases h
theorem Ml {lo hi key:ByteArray} (h:aL lo hi key=true) (hne:key.toList≠lo.toList):cU (bf lo hi) (aF key) (aL lo hi key) lo key=0:=by
 obtain ⟨h1,h2,_,_⟩:=sf h
 have h3:aF key=0:=by unfold isKey at h2;simpa using h2
 unfold cU
 simp [h1,h3,h,hne]
end Pl
theorem z4i {S:Nat->Bool} (hS:fZ S) (E:Nat->Addr) {w:World} (hE:aY S E w) {F:Nat->Prop} {sb:Nat} {s:df} (h:gm w F sb s) (hx:s.xs.length<=1000) (hne:s.ne<=1000000) (e:En) (hA:bG w e) (hkey:e.key.size<=70368744177664) (at':Int):
    Calls Tryz.prog 50 #[.pointer (some ⟨sb,0,none⟩),e.agg,.int .i64 at'] w fun r w'=>r=.returned (.bool (Pl.eQ s.xs s.used e at'))/\aj F w w'/\∃F',gm w' F' sb (Pl.wC s e at')/\∀j,F' j->F j\/w.heap.size<=j:=by
 obtain ⟨xs,used,ne,evs⟩:=s
 unfold gm at *
 dsimp only at *
 cases hap:Pl.eQ xs used e at' with
 | false=>
  refine (TC hS E hE h hx e hA hkey at' hap).mono ?_
  rintro r w' ⟨rfl,g⟩
  have e0:Pl.wC ⟨xs,used,ne,evs⟩ e at'=⟨xs,used,ne,evs⟩:=by unfold Pl.wC;rw [zZ0 (by rw [hap];simp)]
  rw [e0]
  exact ⟨rfl,g.only F,F,h.ag g,fun _=> .inl⟩
 | true=>
  have e0:Pl.wC ⟨xs,used,ne,evs⟩ e at'=Pl.aW ⟨xs,used,ne,evs⟩ e at':=by unfold Pl.wC;rw [zZ1 hap]
  rw [e0]
  have hc:Pl.iq xs used e=true:=by
   unfold Pl.eQ at hap
   simp only [Bool.and_eq_true] at hap
   exact hap.1.1
  obtain ⟨hr,i,hi,hf,fc,bP,hk⟩:=Pl.nz hc
  rcases hk with k2 | ⟨k3,hu,o1,o2,hh,tE⟩ | ⟨k4,j,hj,kF,nA,eA,hjn⟩
  · refine (Y3 hS E hE h hx e hA hkey at' hap k2 i hi hf).mono ?_
    rintro r w' ⟨rfl,ho,F',h',hF'⟩
    refine ⟨rfl,ho,F',?_,hF'⟩
    unfold Pl.aW
    rw [zZ1 k2,fc]
    exact h'
  · refine (Y4 hS E hE h hx e hA hkey hne at' hap k3 i hi hf o1 o2 (Pl.Ml hh tE)).mono ?_
    rintro r w' ⟨rfl,ho,F',h',hF'⟩
    refine ⟨rfl,ho,F',?_,hF'⟩
    unfold Pl.aW
    rw [zZ0 (by omega),zZ1 k3,fc]
    exact h'
  · refine (Y5 hS E hE h hx e hA hkey hne at' hap k4 i hi hf j hj kF hjn).mono ?_
    rintro r w' ⟨rfl,ho,F',h',hF'⟩
    refine ⟨rfl,ho,F',?_,hF'⟩
    unfold Pl.aW
    rw [zZ0 (by omega),zZ0 (by omega),fc,nA]
    exact h'
end
end Go.Proofs.YtbnofojapimfcaaGreatDoor
