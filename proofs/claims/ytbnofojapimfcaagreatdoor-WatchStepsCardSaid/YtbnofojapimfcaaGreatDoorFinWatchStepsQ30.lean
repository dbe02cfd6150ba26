/- Part 30 of the proof. -/
import Derived.Test.YtbnofojapimfcaaGreatDoorFinWatchStepsQ26
import Derived.Test.YtbnofojapimfcaaGreatDoorFinWatchStepsQ27
import Derived.Test.YtbnofojapimfcaaGreatDoorFinWatchStepsQ28
set_option linter.unusedVariables false
set_option linter.unusedSectionVars false
set_option linter.unusedSimpArgs false
set_option maxRecDepth 100000
set_option maxHeartbeats 16000000
namespace Go.Proofs.YtbnofojapimfcaaGreatDoor
section
theorem il (st:Nat->Option (List Pr×(Int->Option An))) (i:Nat) (v):cM st i v i=v:=zZ1 rfl
theorem fe (st:Nat->Option (List Pr×(Int->Option An))) {i j:Nat} (v) (h:j≠i):cM st i v j=st j:=zZ0 h
theorem Vp (g g':Nat->Nat) (i:Nat) (hne:∀j,j≠i->g' j=g j):∀n,i<n->((List.range n).map g').sum+g i=((List.range n).map g).sum+g' i
 | 0,h=>absurd h (Nat.not_lt_zero i)
 | n+1,h=>by
  rw [List.range_succ,List.map_append,List.map_append,List.sum_append,List.sum_append]
  simp only [zJ8,List.map_nil,List.sum_cons,List.sum_nil,zX3]
  by_cases e:i=n
  · subst e
    have:(List.range i).map g'=(List.range i).map g:=List.map_congr_left fun j hj=>hne j (by have:=List.mem_range.1 hj;omega)
    rw [this]
    omega
  · have:=Vp g g' i hne n (by omega)
    rw [hne n (by omega)]
    omega
theorem Ge (st:Nat->Option (List Pr×(Int->Option An))) (i:Nat) (v) (hi:i<13):wK (cM st i v)+fS (st i)=wK st+fS v:=by
 have:=Vp (fun j=>fS (st j)) (fun j=>fS (cM st i v j)) i (fun j hj=>by rw [fe st v hj]) 13 hi
 simp only [il] at this
 exact this
theorem Eg (st:Nat->Option (List Pr×(Int->Option An))) (i:Nat) (hi:i<13):fS (st i)<=wK st:=by
 have:=Ge st i none hi
 have h0:fS none=0:=rfl
 omega
def bc.init:bc:=⟨0,df.init,fun i=>if i=1 then some ([],fun _=>none) else none⟩
theorem Qi:bw bc.init 0 where
 inv:=Pl.wD
 chain:=Pl.z2h
 dom:=by
  intro c hc
  rw [List.mem_singleton.1 hc]
  exact ⟨[],_,rfl,Pl.zZ _ _⟩
 back:=by
  intro i hi
  refine ⟨Fz,List.mem_singleton.2 rfl,?_⟩
  by_cases e:i=1
  · subst e;rfl
  · exact absurd (zZ0 e) hi
 few:=by decide
 sz:=by
  intro c hc
  rw [List.mem_singleton.1 hc]
  exact ⟨by decide,by decide⟩
namespace Pl
def cf (A:bc) (i:Nat):Sh:=ah A.sh.xs (ax A.sh.xs (i:Int)).toNat
def fq (ci cj:Sh) (P Q:List Pr):List Pr:=if aP ci.hi=false/\ci.hi.toList=cj.lo.toList then P++Q else Q++P
def gS (A:bc) (e:En):Nat->Option (List Pr×(Int->Option An)):=
 if e.kind=3 then
  match A.st e.ai.toNat with
  | none=>A.st
  | some (P,S)=>cM (cM A.st e.ai.toNat (some (P.take (bh P e.key),S))) e.other.toNat (some (P.drop (bh P e.key),S))
 else if e.kind=4 then
  match A.st e.ai.toNat,A.st e.other.toNat with
  | some (P,S),some (Q,T)=>cM (cM A.st e.ai.toNat (some (fq (cf A e.ai.toNat) (cf A e.other.toNat) P Q,joinL S (js T)))) e.other.toNat none
  | _,_=>A.st
 else A.st
def bF (A:bc) (e:En) (at':Int):Nat×bc:=
 if bR e=false then (4,A)
 else if at'<A.at_\/at'<0\/4096<=at' then (1,A)
 else if e.kind=1 then
  match A.st e.ai.toNat with
  | none=>(0,⟨at'+1,A.sh,A.st⟩)
  | some (P,S)=>((eW (cf A e.ai.toNat).lo (cf A e.ai.toNat).hi P S e at').err,⟨at'+1,A.sh,cM A.st e.ai.toNat (some ((eW (cf A e.ai.toNat).lo (cf A e.ai.toNat).hi P S e at').P,(eW (cf A e.ai.toNat).lo (cf A e.ai.toNat).hi P S e at').S))⟩)
 else if eQ A.sh.xs A.sh.used e at'=true then (0,⟨at'+1,aW A.sh e at',gS A e⟩)
 else (0,⟨at'+1,A.sh,A.st⟩)
theorem jh {A:bc} {m:Nat} (h:bw A m) {c:Sh} (hc:c∈A.sh.xs) {i:Nat} (hi:c.id=(i:Int)):cf A i=c:=by
 obtain ⟨k,hk,rfl⟩:=zQ1 hc
 unfold cf
 have e:ah A.sh.xs k=A.sh.xs[k]:=kD _ k hk
 rw [<-hi,<-e,IU h.inv.nodup k hk,Int.toNat_natCast,e]
end Pl
namespace Pl
theorem Vq {lo mid hi key:ByteArray} (h:aL lo mid key=true) (r:bf mid hi=true) (hm:aP mid=false):aL lo hi key=true:=by
 obtain ⟨h1,h2,h3,h4⟩:=sf h
 have r2:=PN h1 r hm
 have hl:cI key hi=true:=by
  unfold cI at h4 ⊢
  rw [hm,zQ4,decide_eq_true_eq] at h4
  have h5:=(wE r).2.2
  unfold cI at h5
  rw [Bool.or_eq_true] at h5 ⊢
  rcases h5 with h5 | h5
  · exact .inl h5
  · cases hn:aP hi with
    | true=>exact .inl rfl
    | false=>
     refine .inr (decide_eq_true (pH (sk h2) (wB (wE r).1) (wB (wE r).2.1) h4 (of_decide_eq_true h5)))
 unfold aL
 rw [r2,h2,hl,decide_eq_true h3];rfl
theorem Vr {lo mid hi key:ByteArray} (h:aL mid hi key=true) (r:bf lo mid=true) (hm:aP mid=false):aL lo hi key=true:=by
 obtain ⟨h1,h2,h3,h4⟩:=sf h
 have r2:=PN r h1 hm
 have hg:0<=bE key lo:=by
  refine Int.not_lt.1 fun aq=>?_
  have h5:=(wE r).2.2
  unfold cI at h5
  rw [hm,zQ4,decide_eq_true_eq] at h5
  have:=pH (sk h2) (wB (wE r).1) (wB (wE r).2.1) aq h5
  omega
 unfold aL
 rw [r2,h2,h4,decide_eq_true hg];rfl
theorem z3M {lo hi lo' hi':ByteArray} {P Q:List Pr} (hP:mS lo hi P) (hQ:mS lo' hi' Q) (r1:bf lo hi=true) (r2:bf lo' hi'=true) (hj:aK (bf lo hi) (bf lo' hi') lo hi lo' hi'=0):
    mS (aH (bf lo hi) (bf lo' hi') lo hi lo' hi').1 (aH (bf lo hi) (bf lo' hi') lo hi lo' hi').2 (if aP hi=false/\hi.toList=lo'.toList then P++Q else Q++P):=by
 unfold aK at hj
 unfold aH
 rw [zZ0 (by rw [r1,r2];simp)] at hj ⊢
 by_cases h1:aP hi=false/\hi.toList=lo'.toList
 · rw [zZ1 h1,zZ1 h1]
   obtain rfl:=BI h1.2
   intro c hc
   rcases List.mem_append.1 hc with q | q
   · exact Vq (hP c q) r2 h1.1
   · exact Vr (hQ c q) r1 h1.1
 · rw [zZ0 h1] at hj ⊢
   rw [zZ0 h1]
   by_cases h2:aP hi'=false/\hi'.toList=lo.toList
   · rw [zZ1 h2]
     obtain rfl:=BI h2.2
     intro c hc
     rcases List.mem_append.1 hc with q | q
     · exact Vq (hQ c q) r1 h2.1
     · exact Vr (hP c q) r2 h2.1
   · rw [zZ0 h2] at hj;cases hj
theorem Qj {xs:List Sh} (hn:(xs.map Sh.id).Nodup) {i k:Nat} (hi:i<xs.length) (hk:k<xs.length) (h:(ah xs k).id=(ah xs i).id):k=i:=by
 have h1:=IU hn k hk
 have h2:=IU hn i hi
 rw [h,h2] at h1
 omega
theorem Vs {xs:List Sh} {i:Nat} {c:Sh} (h:c∈xs.take i):∃k,k<xs.length/\k≠i/\c=ah xs k:=by
 obtain ⟨k,hk,rfl⟩:=List.mem_take_iff_getElem.1 h
 exact ⟨k,by omega,by omega,by rw [kD xs k (by omega)]⟩
theorem Vt {xs:List Sh} {i:Nat} {c:Sh} (h:c∈xs.drop (i+1)):∃k,k<xs.length/\k≠i/\c=ah xs k:=by
 obtain ⟨k,hk,rfl⟩:=List.mem_drop_iff_getElem.1 h
 exact ⟨i+1+k,by omega,by omega,by rw [kD xs _ (by omega)]⟩
theorem Vu {xs:List Sh} {i:Nat} {key:ByteArray} {other server at':Int} {c:Sh} (h:c∈iU xs i key other server at'):
    (∃k,k<xs.length/\k≠i/\c=ah xs k)\/c=⟨(ah xs i).id,(ah xs i).server,at'+1,(ah xs i).lo,key⟩\/c=⟨other,server,at'+1,key,(ah xs i).hi⟩:=by
 unfold iU at h
 simp only [List.mem_append,List.mem_cons,List.not_mem_nil,or_false] at h
 rcases h with (h | h | h) | h
 · exact .inl (Vs h)
 · exact .inr (.inl h)
 · exact .inr (.inr h)
 · exact .inl (Vt h)
theorem jB {xs:List Sh} {k:Nat} (hk:k<xs.length):ah xs k∈xs:=by rw [kD xs k hk];exact zQ5 hk
theorem yL {xs:List Sh} {c:Sh} (h:c∈xs):∃k,k<xs.length/\c=ah xs k:=by
 obtain ⟨k,hk,rfl⟩:=zQ1 h
 exact ⟨k,hk,(kD xs k hk).symm⟩
theorem Qk {xs:List Sh} {i:Nat} {key:ByteArray} {other server at':Int} {k:Nat} (hk:k<xs.length) (hn:k≠i):ah xs k∈iU xs i key other server at':=by
 unfold iU
 simp only [List.mem_append,List.mem_cons,List.not_mem_nil,or_false]
 rw [kD xs k hk]
 by_cases h:k<i
 · exact .inl (.inl (List.mem_take_iff_getElem.2 ⟨k,by omega,rfl⟩))
 · exact .inr (List.mem_drop_iff_getElem.2 ⟨k - (i+1),by omega,by congr 1;omega⟩)
theorem Vv {xs:List Sh} {i j:Nat} (hi:i<xs.length) {v:ByteArray×ByteArray} {at':Int} {c:Sh} (h:c∈ja xs i j v at'):
    (∃k,k<xs.length/\k≠i/\k≠j/\c=ah xs k)\/c=⟨(ah xs i).id,(ah xs i).server,at'+1,v.1,v.2⟩:=by
 unfold ja at h
 generalize hc:(⟨(ah xs i).id,(ah xs i).server,at'+1,v.1,v.2⟩:Sh)=ci at *
 have key:∃k,k<(xs.set i ci).length/\k≠j/\c=ah (xs.set i ci) k:=by
  rcases List.mem_append.1 h with h | h
  · exact Vs h
  · exact Vt h
 obtain ⟨k,hk,hkj,rfl⟩:=key
 rw [List.length_set] at hk
 rw [qb xs i hi ci k]
 by_cases e:k=i
 · rw [zZ1 e];exact .inr rfl
 · rw [zZ0 e];exact .inl ⟨k,hk,e,hkj,rfl⟩
theorem Gf {xs:List Sh} {i j:Nat} (hi:i<xs.length) {v:ByteArray×ByteArray} {at':Int} {k:Nat} (hk:k<xs.length) (hkj:k≠j):
    (if k=i then ⟨(ah xs i).id,(ah xs i).server,at'+1,v.1,v.2⟩ else ah xs k)∈ja xs i j v at':=by
 unfold ja
 generalize hc:(⟨(ah xs i).id,(ah xs i).server,at'+1,v.1,v.2⟩:Sh)=ci at *
 rw [<-qb xs i hi ci k,kD _ k (by rw [List.length_set];exact hk)]
 by_cases h:k<j
 · exact List.mem_append_left _ (List.mem_take_iff_getElem.2 ⟨k,by rw [List.length_set];omega,rfl⟩)
 · exact List.mem_append_right _ (List.mem_drop_iff_getElem.2 ⟨k - (j+1),by rw [List.length_set];omega,by congr 1;omega⟩)
end Pl
theorem bw.more {A:bc} {m m':Nat} (h:bw A m) (hm:m<=m'):bw A m':=⟨h.inv.more hm,h.chain,h.dom,h.back,by have:=h.few;omega,h.sz⟩
theorem bw.at_ {A:bc} {m:Nat} (h:bw A m) (a:Int):bw ⟨a,A.sh,A.st⟩ m:=⟨h.inv,h.chain,h.dom,h.back,h.few,h.sz⟩
theorem bw.lt {A:bc} {m:Nat} (h:bw A m) {i:Nat} (hi:A.st i≠none):1<=i/\i<=12:=by
 obtain ⟨c,hc,e⟩:=h.back i hi
 have:=h.inv.ids c hc
 omega
theorem Vw:fS none=0:=rfl
namespace Pl
theorem z2a {A:bc} {m:Nat} (h:bw A m) (i:Nat) (P:List Pr) (S:Int->Option An) (hi:A.st i=some (P,S)) (P':List Pr) (S':Int->Option An) (hin:mS (cf A i).lo (cf A i).hi P') (hl:P'.length<=P.length+8) (a:Int):bw ⟨a,A.sh,cM A.st i (some (P',S'))⟩ (m+1):=by
 have aq:=h.lt (i:=i) (by rw [hi];simp)
 refine ⟨h.inv.more (by omega),h.chain,fun c hc=>?_,fun j hj=>?_,?_,h.sz⟩
 · dsimp only
   by_cases e:c.id.toNat=i
   · have af:c.id=(i:Int):=by have:=h.inv.ids c hc;omega
     rw [e,il]
     refine ⟨P',S',rfl,?_⟩
     rw [<-jh h hc af];exact hin
   · rw [fe _ _ e];exact h.dom c hc
 · refine h.back j ?_
   dsimp only at hj
   by_cases e:j=i
   · rw [e,hi];simp
   · rwa [fe _ _ e] at hj
 · have:=Ge A.st i (some (P',S')) (by omega)
   have h2:=h.few
   rw [hi] at this
   unfold fS at this
   dsimp only at this ⊢
   omega
theorem z4e {A:bc} {m:Nat} (h:bw A m) {e:En} {at':Int} (ha:eQ A.sh.xs A.sh.used e at'=true) (k2:e.kind=2) (a:Int):bw ⟨a,aW A.sh e at',A.st⟩ (m+1):=by
 have hI:=PM h.inv ha
 have hC:=PO h.chain ha
 have hc:iq A.sh.xs A.sh.used e=true:=by unfold eQ at ha;simp only [Bool.and_eq_true] at ha;exact ha.1.1
 obtain ⟨hr,i,hi,hf,fc,bP,hk⟩:=nz hc
 have ex:(aW A.sh e at').xs=A.sh.xs.set i ⟨(ah A.sh.xs i).id,e.server,(ah A.sh.xs i).since,(ah A.sh.xs i).lo,(ah A.sh.xs i).hi⟩:=by
  unfold aW;rw [zZ1 k2,fc]
 have hm:=jB hi
 refine ⟨hI,hC,fun c hc=>?_,fun j hj=>?_,by have:=h.few;dsimp only;omega,fun c hc=>?_⟩
 · rw [ex] at hc
   rcases IQ hc with q | rfl
   · exact h.dom c q
   · exact h.dom (ah A.sh.xs i) hm
 · obtain ⟨c,hc,e1⟩:=h.back j hj
   obtain ⟨k,hk',rfl⟩:=yL hc
   dsimp only
   rw [ex]
   refine ⟨ah (A.sh.xs.set i _) k,jB (by rw [List.length_set];exact hk'),?_⟩
   rw [qb _ _ hi]
   by_cases e2:k=i
   · rw [zZ1 e2,<-e1,e2]
   · rw [zZ0 e2];exact e1
 · rw [ex] at hc
   rcases IQ hc with q | rfl
   · exact h.sz c q
   · exact h.sz (ah A.sh.xs i) hm
theorem z2w {A:bc} {m:Nat} (h:bw A m) (hs:∀i P S,A.st i=some (P,S)->ct P) {e:En} {at':Int} (ha:eQ A.sh.xs A.sh.used e at'=true) (k3:e.kind=3) (a:Int):bw ⟨a,aW A.sh e at',gS A e⟩ (m+1):=by
 have hI:=PM h.inv ha
 have hC:=PO h.chain ha
 have hc:iq A.sh.xs A.sh.used e=true:=by unfold eQ at ha;simp only [Bool.and_eq_true] at ha;exact ha.1.1
 obtain ⟨hr,i,hi,hf,fc,bP,hk⟩:=nz hc
 obtain ⟨hu,o1,o2,hh,hne⟩:A.sh.used e.other.toNat=false/\1<=e.other/\e.other<=12/\aL (ah A.sh.xs i).lo (ah A.sh.xs i).hi e.key=true/\e.key.toList≠(ah A.sh.xs i).lo.toList:=by
  rcases hk with k2 | ⟨_,q⟩ | ⟨k4,_⟩
  · omega
  · exact q
  · omega
 have ex:(aW A.sh e at').xs=iU A.sh.xs i e.key e.other e.server at':=by
  unfold aW;rw [zZ0 (by omega),zZ1 k3,fc]
 have hm:=jB hi
 have oU:=h.inv.ids _ hm
 obtain ⟨P,S,hP,hin⟩:=h.dom _ hm
 rw [bP] at hP oU
 have hct:=z4d (hs _ P S hP) hin (Ml hh hne)
 have dh:A.st e.other.toNat=none:=by
  cases hx:A.st e.other.toNat with
  | none=>rfl
  | some v=>
   obtain ⟨c,hc,af⟩:=h.back e.other.toNat (by rw [hx];simp)
   have:=(h.inv.ids c hc).2.2
   rw [af,Int.toNat_natCast,hu] at this
   cases this
 have jM:e.ai.toNat≠e.other.toNat:=fun e1=>by rw [e1,dh] at hP;cases hP
 have es:gS A e=cM (cM A.st e.ai.toNat (some (P.take (bh P e.key),S))) e.other.toNat (some (P.drop (bh P e.key),S)):=by
  unfold gS;rw [zZ1 k3,hP]
 refine ⟨hI,hC,fun c hc=>?_,fun j hj=>?_,?_,fun c hc=>?_⟩
 · rw [ex] at hc
   dsimp only
   rw [es]
   rcases Vu hc with ⟨k,hk1,hk2,rfl⟩ | rfl | rfl
   · have hik:=h.inv.ids _ (jB hk1)
     have n1:(ah A.sh.xs k).id.toNat≠e.ai.toNat:=fun e1=>hk2 (Qj h.inv.nodup hi hk1 (by rw [bP];omega))
     have n2:(ah A.sh.xs k).id.toNat≠e.other.toNat:=fun e1=>by
      obtain ⟨P2,S2,h2,_⟩:=h.dom _ (jB hk1)
      rw [e1,dh] at h2
      cases h2
     rw [fe _ _ n2,fe _ _ n1]
     exact h.dom _ (jB hk1)
   · dsimp only
     rw [bP,fe _ _ jM,il]
     exact ⟨_,_,rfl,hct.2.2.1⟩
   · dsimp only
     rw [il]
     exact ⟨_,_,rfl,hct.2.2.2.1⟩
 · dsimp only at hj ⊢
   rw [es] at hj
   rw [ex]
   by_cases e2:j=e.other.toNat
   · refine ⟨⟨e.other,e.server,at'+1,e.key,(ah A.sh.xs i).hi⟩,by unfold iU;simp,by dsimp only;omega⟩
   · rw [fe _ _ e2] at hj
     by_cases e1:j=e.ai.toNat
     · refine ⟨⟨(ah A.sh.xs i).id,(ah A.sh.xs i).server,at'+1,(ah A.sh.xs i).lo,e.key⟩,by unfold iU;simp,by dsimp only;rw [bP];omega⟩
     · rw [fe _ _ e1] at hj
       obtain ⟨c,hc,af⟩:=h.back j hj
       obtain ⟨k,hk1,rfl⟩:=yL hc
       have wR:k≠i:=fun e3=>e1 (by rw [e3,bP] at af;omega)
       exact ⟨_,Qk hk1 wR,af⟩
 · dsimp only
   rw [es]
   have t1:=Ge A.st e.ai.toNat (some (P.take (bh P e.key),S)) (by omega)
   have t2:=Ge (cM A.st e.ai.toNat (some (P.take (bh P e.key),S))) e.other.toNat (some (P.drop (bh P e.key),S)) (by omega)
   rw [fe _ _ (Ne.symm jM),dh,Vw] at t2
   rw [hP] at t1
   have hl:(P.take (bh P e.key)).length+(P.drop (bh P e.key)).length=P.length:=by rw [<-zX8,List.take_append_drop]
   simp only [fS] at t1 t2
   have:=h.few
   omega
 · rw [ex] at hc
   rcases Vu hc with ⟨k,hk1,hk2,rfl⟩ | rfl | rfl
   · exact h.sz _ (jB hk1)
   · exact ⟨(h.sz _ hm).1,by have:=hct.2.2.2.2;dsimp only;omega⟩
   · exact ⟨by have:=hct.2.2.2.2;dsimp only;omega,(h.sz _ hm).2⟩
theorem z2q {A:bc} {m:Nat} (h:bw A m) {e:En} {at':Int} (ha:eQ A.sh.xs A.sh.used e at'=true) (k4:e.kind=4) (a:Int):bw ⟨a,aW A.sh e at',gS A e⟩ (m+1):=by
 have hI:=PM h.inv ha
 have hC:=PO h.chain ha
 have hc:iq A.sh.xs A.sh.used e=true:=by unfold eQ at ha;simp only [Bool.and_eq_true] at ha;exact ha.1.1
 obtain ⟨hr,i,hi,hf,fc,bP,hk⟩:=nz hc
 obtain ⟨j,hj,kF,nA,eA,hz⟩:∃j,j<A.sh.xs.length/\ax A.sh.xs e.other=(j:Nat)/\l9 A.sh.xs e=j/\(ah A.sh.xs j).id=e.other/\aK (bf (ah A.sh.xs i).lo (ah A.sh.xs i).hi) (bf (ah A.sh.xs j).lo (ah A.sh.xs j).hi) (ah A.sh.xs i).lo (ah A.sh.xs i).hi (ah A.sh.xs j).lo (ah A.sh.xs j).hi=0:=by
  rcases hk with k2 | ⟨k3,_⟩ | ⟨_,q⟩
  · omega
  · omega
  · exact q
 have hrs:=(BG hr k4).2.2.2.2
 have ex:(aW A.sh e at').xs=ja A.sh.xs i j (aH (bf (ah A.sh.xs i).lo (ah A.sh.xs i).hi) (bf (ah A.sh.xs j).lo (ah A.sh.xs j).hi) (ah A.sh.xs i).lo (ah A.sh.xs i).hi (ah A.sh.xs j).lo (ah A.sh.xs j).hi) at':=by
  unfold aW;rw [zZ0 (by omega),zZ0 (by omega),fc,nA]
 have iP:=jB hi
 have ll:=jB hj
 have nB:=h.inv.ids _ iP
 have mh:=h.inv.ids _ ll
 have hij:i≠j:=fun e1=>hrs (by rw [<-bP,<-eA,e1])
 obtain ⟨P,S,hP,oV⟩:=h.dom _ iP
 obtain ⟨Q,T,hQ,nC⟩:=h.dom _ ll
 rw [bP] at hP nB
 rw [eA] at hQ mh
 have jM:e.ai.toNat≠e.other.toNat:=by omega
 have ri:=h.chain.right i hi
 have rj:=h.chain.right j hj
 have si:cf A e.ai.toNat=ah A.sh.xs i:=jh h iP (by rw [bP];omega)
 have sj:cf A e.other.toNat=ah A.sh.xs j:=jh h ll (by rw [eA];omega)
 have hJ:=z3M oV nC ri rj hz
 have es:gS A e=cM (cM A.st e.ai.toNat (some (if aP (ah A.sh.xs i).hi=false/\(ah A.sh.xs i).hi.toList=(ah A.sh.xs j).lo.toList then P++Q else Q++P,joinL S (js T)))) e.other.toNat none:=by
  unfold gS fq;rw [zZ0 (by omega),zZ1 k4,hP,hQ,si,sj]
 refine ⟨hI,hC,fun c hc=>?_,fun q hq=>?_,?_,fun c hc=>?_⟩
 · rw [ex] at hc
   dsimp only
   rw [es]
   rcases Vv hi hc with ⟨k,hk1,hk2,hk3,rfl⟩ | rfl
   · have hik:=h.inv.ids _ (jB hk1)
     have n1:(ah A.sh.xs k).id.toNat≠e.ai.toNat:=fun e1=>hk2 (Qj h.inv.nodup hi hk1 (by rw [bP];omega))
     have n2:(ah A.sh.xs k).id.toNat≠e.other.toNat:=fun e1=>hk3 (Qj h.inv.nodup hj hk1 (by rw [eA];omega))
     rw [fe _ _ n2,fe _ _ n1]
     exact h.dom _ (jB hk1)
   · dsimp only
     rw [bP,fe _ _ jM,il]
     exact ⟨_,_,rfl,hJ⟩
 · dsimp only at hq ⊢
   rw [es] at hq
   rw [ex]
   by_cases e2:q=e.other.toNat
   · rw [e2,il] at hq;exact absurd rfl hq
   · rw [fe _ _ e2] at hq
     by_cases e1:q=e.ai.toNat
     · refine ⟨_,Gf hi (k:=i) hi hij,?_⟩
       rw [zZ1 rfl];dsimp only;rw [bP];omega
     · rw [fe _ _ e1] at hq
       obtain ⟨c,hc,af⟩:=h.back q hq
       obtain ⟨k,hk1,rfl⟩:=yL hc
       have wR:k≠i:=fun e3=>e1 (by rw [e3,bP] at af;omega)
       have hkj:k≠j:=fun e3=>e2 (by rw [e3,eA] at af;omega)
       refine ⟨_,Gf hi (k:=k) hk1 hkj,?_⟩
       rw [zZ0 wR];exact af
 · dsimp only
   rw [es]
   generalize hR:(if aP (ah A.sh.xs i).hi=false/\(ah A.sh.xs i).hi.toList=(ah A.sh.xs j).lo.toList then P++Q else Q++P)=R
   have hl:R.length=P.length+Q.length:=by
    rw [<-hR];split
    · rw [zX8]
    · rw [zX8];omega
   have t1:=Ge A.st e.ai.toNat (some (R,joinL S (js T))) (by omega)
   have t2:=Ge (cM A.st e.ai.toNat (some (R,joinL S (js T)))) e.other.toNat none (by omega)
   rw [fe _ _ (Ne.symm jM),hQ,Vw] at t2
   rw [hP] at t1
   simp only [fS] at t1 t2
   have:=h.few
   omega
 · rw [ex] at hc
   rcases Vv hi hc with ⟨k,hk1,_,_,rfl⟩ | rfl
   · exact h.sz _ (jB hk1)
   · exact TA _ _ _ _ _ _ 300 (h.sz _ iP).1 (h.sz _ iP).2 (h.sz _ ll).1 (h.sz _ ll).2
theorem Gg {A:bc} {m:Nat} (h:bw A m) (hs:∀i P S,A.st i=some (P,S)->ct P) (e:En) (at':Int):bw (bF A e at').2 (m+1):=by
 unfold bF
 split
 · exact h.more (by omega)
 split
 · exact h.more (by omega)
 split
 · cases hx:A.st e.ai.toNat with
   | none=>exact (h.at_ _).more (by omega)
   | some v=>
    obtain ⟨P,S⟩:=v
    dsimp only
    obtain ⟨c,hc,af⟩:=h.back e.ai.toNat (by rw [hx];simp)
    have hsu:=jh h hc af
    obtain ⟨P2,S2,h2,hin⟩:=h.dom c hc
    rw [af,Int.toNat_natCast,hx] at h2
    cases h2
    rw [hsu]
    exact z2a h _ P S hx _ _ (by rw [hsu];exact z4F (hs _ P S hx) hin S e at') (z1L _ _ P S e at') _
 split
 · next ha=>
   dsimp only
   by_cases k3:e.kind=3
   · exact z2w h hs ha k3 _
   by_cases k4:e.kind=4
   · exact z2q h ha k4 _
   have hc:iq A.sh.xs A.sh.used e=true:=by unfold eQ at ha;simp only [Bool.and_eq_true] at ha;exact ha.1.1
   obtain ⟨hr,i,hi,hf,fc,bP,hk⟩:=nz hc
   have k2:e.kind=2:=by
    rcases hk with k2 | ⟨q,_⟩ | ⟨q,_⟩
    · exact k2
    · exact absurd q k3
    · exact absurd q k4
   have es:gS A e=A.st:=by unfold gS;rw [zZ0 k3,zZ0 k4]
   rw [es]
   exact z4e h ha k2 _
 · exact (h.at_ _).more (by omega)
end Pl
end
section
open Go.RowKit Go.Maps
attribute [local go_sem] Oper.semAt_some aT
theorem Ql (f:Lit->Option Value) (l:Lit) (v:Option Value):fC f l v l=v:=by unfold fC;exact zZ1 rfl
theorem Gh (f:Lit->Option Value) {l m:Lit} (v:Option Value) (h:m≠l):fC f l v m=f m:=by unfold fC;exact zZ0 h
theorem Qm {i j:Nat} (h:bW (i:Int)=bW (j:Int)):i=j:=by unfold bW at h;injection h with _ h;omega
theorem wT (E:Nat->Addr) (w:World) (hE:aY jK E w):
    Calls Tryz.prog 19 #[] w fun e w'=>∃ab,e=.returned (.pointer (some ⟨ab,0,none⟩))/\ae w w'/\∀(k:Nat) (L:Nat->Nat),∃L',(∀j,j<w.heap.size->L' j=L j)/\(∀j,w.heap.size<=j->br k (L' j))/\bQ w' L' k ab 1 bc.init:=by
 have HN:=af (fun W (g:ae w W)=>wh jK E ⟨rfl,rfl,rfl,rfl⟩ ⟨#[]⟩ ⟨#[]⟩ W (by decide) (by decide) (hE.ag g) z4f Pl.vQ)
 clear hE
 go_in
 go_wp2_with fail
 refine (uF w).mono ?_
 rintro e w1 ⟨sb,rfl,aA,ia,F,hS,hF⟩
 have HS:=af (show gm w1 F sb df.init/\(∀j,F j->w.heap.size<=j) from ⟨hS,hF⟩)
 have bI:=af aA
 clear aA ia hS hF
 have hmm:=@run_makeMap Tryz.prog
 go_upto_region 2 with fail
 obtain ⟨Y,hY⟩:∃Y,Y=(((w1.alloc (.map #[] 0)).alloc (.map #[] 0)).alloc (.cells #[.int .i64 0,.pointer (some ⟨sb,0,none⟩),.map (some w1.heap.size),.map (some (w1.heap.size+1))] 107)):=⟨_,rfl⟩
 have gY:ae w1 Y:=by rw [hY];exact (((ae.rf w1).alloc _).alloc _).alloc _
 have qj:bL Y Tryz.prog 3 w1.heap.size 0 (fun _=>none):=by rw [hY];exact (bL.made w1 Tryz.prog 3).ag (((ae.rf _).alloc _).alloc _)
 have Qn:bL Y Tryz.prog 3 (w1.heap.size+1) 0 (fun _=>none):=by
  have:=(bL.made (w1.alloc (.map #[] 0)) Tryz.prog 3).ag ((ae.rf _).alloc (.cells #[.int .i64 0,.pointer (some ⟨sb,0,none⟩),.map (some w1.heap.size),.map (some (w1.heap.size+1))] 107))
  rw [hY]
  have e:(w1.alloc (.map #[] 0)).heap.size=w1.heap.size+1:=by simp
  rw [e] at this
  exact this
 have hcells:Y.heap[w1.heap.size+1+1]? =some (.cells #[.int .i64 0,.pointer (some ⟨sb,0,none⟩),.map (some w1.heap.size),.map (some (w1.heap.size+1))] 107 (0,0)):=by
  rw [hY]
  have:=heap_alloc_new ((w1.alloc (.map #[] 0)).alloc (.map #[] 0)) (.cells #[.int .i64 0,.pointer (some ⟨sb,0,none⟩),.map (some w1.heap.size),.map (some (w1.heap.size+1))] 107)
  have e:((w1.alloc (.map #[] 0)).alloc (.map #[] 0)).heap.size=w1.heap.size+1+1:=by simp
  rw [e] at this
  exact this
 rw [<-hY]
 clear hY
 obtain ⟨mb,hmb⟩:∃mb,mb=w1.heap.size:=⟨_,rfl⟩
 obtain ⟨nb,hnb⟩:∃nb,nb=w1.heap.size+1:=⟨_,rfl⟩
 obtain ⟨ab,hab⟩:∃ab,ab=w1.heap.size+1+1:=⟨_,rfl⟩
 have HB:=af (show w1.heap.size=mb/\nb=mb+1/\ab=mb+2 from ⟨hmb.symm,by omega,by omega⟩)
 rw [<-hab,<-hnb,<-hmb] at hcells ⊢
 rw [<-hmb] at qj
 rw [<-hnb] at Qn
 clear hmb hnb hab hmm
 have sx:ab<Y.heap.size:=(zZ2.1 hcells).1
 have HY:=af (And.intro (bI.out.trans gY) (And.intro gY (And.intro qj Qn)))
 have d0:Y.cell? ⟨ab,0,none⟩=some (.int .i64 0):=by rw [fA hcells];rfl
 have d1:Y.cell? ⟨ab,1,none⟩=some (.pointer (some ⟨sb,0,none⟩)):=by rw [fA hcells];rfl
 have d2:Y.cell? ⟨ab,2,none⟩=some (.map (some mb)):=by rw [fA hcells];rfl
 have d3:Y.cell? ⟨ab,3,none⟩=some (.map (some nb)):=by rw [fA hcells];rfl
 have BJ:=af (show ∀i,Y.frozen? ⟨ab,i,none⟩=false from fun i=>by simp [World.frozen?,hcells])
 clear qj Qn gY hcells
 go_wp2_with fail
 refine (HN.out Y HY.out.1).mono ?_
 rintro e y ⟨st,Gt,Gs,rfl,hS,h1,h2,h3,hg⟩
 have Eh:=af (And.intro hS (And.intro h1 (And.intro h2 h3)))
 have BK:=af hg
 have d2:=(hg.cells.1 _ 2 sx).trans d2
 obtain ⟨w2,hrun,r1,r2⟩:=(HY.out.2.2.1.ag hg).store (val:=.pointer (some ⟨st,0,none⟩)) ow Tryz.underlying105 (by unfold maxLen;omega) (keyOf_int_mk Tryz.underlying3 (pA (c:=1) (by omega) (by omega)))
 have cE:=af hrun
 have HR:=af (And.intro r1 r2)
 clear hS h1 h2 h3 hg hrun r1 r2 HN
 go_wp2_with (at_mapUpdate;refine FD rfl _ _ _ rfl rfl rfl rfl cE.out ?_)
 go_ret
 have hO:aj (fun j=>j=mb) y w2:=aj.dm HR.out.2
 have z1:=bI.out.size
 have z2:=HY.out.2.1.size
 have z3:=BK.out.size
 obtain ⟨b1,b2,b3⟩:=HB.out
 have hnot:∀j,j≠mb->¬(fun j=>j=mb) j:=fun j hj=>hj
 refine ⟨ab,rfl,(((HY.out.1.trans BK.out).only _).then hO).ag fun j hj=>by rw [hj];omega,fun k L=>⟨fun j=>if j<w.heap.size then L j else if j<w1.heap.size then k+3 else if j=mb then k+1 else if j=nb then k+2 else if j=ab then k else k+21,fun j hj=>zZ1 hj,fun j hj=>?_,sb,mb,nb,fC (fun _=>none) (bW 1) (some (.pointer (some ⟨st,0,none⟩))),fun _=>st,?_⟩⟩
 · dsimp only
   rw [zZ0 (by omega)]
   unfold br
   repeat' split
   all_goals omega
 · have hS1:=(HS.out.1.ag (HY.out.2.1.trans BK.out)).kept hO (fun j hj hq=>by have:=HS.out.1.lt j hj;omega)
   have mi:=Eh.out.1.kept hO (fun j hj hq=>by have:=Eh.out.2.1 j hj;omega) (fun j hj hq=>by have:=Eh.out.2.2.1 j hj;omega) (fun hq=>by have:=Eh.out.2.2.2;omega)
   have Jn:=ltT sx z3
   refine ⟨(hO.cell Jn (hnot _ (by omega)) 0).trans ((BK.out.cells.1 _ 0 sx).trans d0),(hO.cell Jn (hnot _ (by omega)) 1).trans ((BK.out.cells.1 _ 1 sx).trans d1),(hO.cell Jn (hnot _ (by omega)) 2).trans d2,(hO.cell Jn (hnot _ (by omega)) 3).trans ((BK.out.cells.1 _ 3 sx).trans d3),fun i=>(hO.frozen Jn (hnot _ (by omega)) i).trans ((BK.out.cells.2 _ i sx).trans (BJ.out i)),?_,?_,?_,⟨F,hS1,fun j hj=>?_⟩,⟨1,zZ3 _,HR.out.1⟩,fun i=>?_,fun l hl=>?_,⟨_,0,by omega,(HY.out.2.2.2.ag BK.out).kept hO (hnot _ (by omega))⟩,fun i P S hi=>?_⟩
   · rw [zZ0 (by omega),zZ0 (by omega),zZ0 (by omega),zZ0 (by omega),zZ1 rfl]
   · rw [zZ0 (by omega),zZ0 (by omega),zZ1 rfl]
   · rw [zZ0 (by omega),zZ0 (by omega),zZ0 (by omega),zZ1 rfl]
   · have h1:=HS.out.2 j hj
     have h2:=HS.out.1.lt j hj
     rw [zZ0 (by omega),zZ1 h2]
   · by_cases e:i=1
     · subst e
       exact Ql _ _ _
     · have e1:bc.init.st i=none:=zZ0 e
       rw [e1,Gh (l:=bW 1) (m:=bW (i:Int)) _ _ (fun h=>e (Qm (i:=i) (j:=1) h))]
       rfl
   · by_cases e:l=bW 1
     · exact ⟨1,e⟩
     · rw [Gh _ _ e] at hl
       exact absurd rfl hl
   · by_cases e:i=1
     · subst e
       have hi2:some (([]:List Pr),(fun _=>none:Int->Option An))=some (P,S):=hi
       cases hi2
       refine ⟨by omega,Fz,List.mem_singleton.2 rfl,rfl,Gt,Gs,0,by omega,mi,fun j hj=>?_⟩
       have:Y.heap.size<=j:=by
        rcases hj with q | q | q
        · exact Eh.out.2.1 j q
        · exact Eh.out.2.2.1 j q
        · rw [q];exact Eh.out.2.2.2
       rw [zZ0 (by omega),zZ0 (by omega),zZ0 (by omega),zZ0 (by omega),zZ0 (by omega)]
     · have e1:bc.init.st i=none:=zZ0 e
       rw [e1] at hi
       cases hi
theorem Mx (w:World):(zeroValue 109).run Tryz.prog w=.ok (.pointer none) w:=by kernel_rfl
def oW (A:bc) (st:Nat->Nat) (i:Nat):Value:=if (A.st i).isSome then .pointer (some ⟨st i,0,none⟩) else .pointer none
section
variable {W W':World} {L:Nat->Nat} {k ab sb mb nb n:Nat} {f:Lit->Option Value} {st:Nat->Nat} {A:bc}
theorem cG.look (h:cG W L k ab sb mb nb n f st A) (g:ae W W') (i:Nat) (hi:i<1000000):(Instr.lookup 105 (.map (some mb)) (.int .i64 (i:Int)) false).run Tryz.prog W'=.ok (oW A st i) W':=by
 obtain ⟨m,_,hl⟩:=h.lm
 have:=(hl.ag g).lookup ow Tryz.underlying105 (Mx W') (keyOf_int_mk Tryz.underlying3 (pA (c:=(i:Int)) (by omega) (by omega)))
 rw [show (Lit.int .i64 (i:Int))=bW (i:Int) from rfl,h.val] at this
 rw [this]
 unfold oW
 cases A.st i<;> rfl
end
theorem Ai {W:World} {L:Nat->Nat} {k ab n:Nat} {A:bc} (h:bQ W L k ab n A):
    Calls Tryz.prog 15 #[.pointer (some ⟨ab,0,none⟩)] W fun e w'=>e=.returned (.int .i64 A.at_)/\ae W w':=by
 obtain ⟨sb,mb,nb,f,st,h⟩:=h
 have c0:=h.c0
 have hab:=aN c0
 clear h
 go_in
 go_wp2_with fail
 go_ret
 exact ⟨rfl,ae.rf _⟩
end
section
open Go.RowKit Go.Maps
attribute [local go_sem] Oper.semAt_some aT
theorem Vx:fZ jK:=⟨rfl,rfl,rfl,rfl,rfl,rfl⟩
namespace Pl
def aS (A:bc) (key:ByteArray):Option Pr:=if kx A.sh.xs key<0 then none else match A.st (oO A.sh.xs key).id.toNat with | none=>none | some v=>dJ v.1 key
end Pl
theorem z4y (E:Nat->Addr) {W:World} (hE:aY jK E W) {L:Nat->Nat} {k ab n:Nat} {A:bc} (h:bQ W L k ab n A) (hl:A.sh.xs.length<=1000) (key:ByteArray) (hk:key.size<=70368744177664) (hn:Pl.kx A.sh.xs key<0):
    Calls Tryz.prog 26 #[.pointer (some ⟨ab,0,none⟩),.string key] W fun e w'=>e=.returned (.tuple #[Pr.none.agg,.bool false])/\ae W w':=by
 obtain ⟨sb,mb,nb,f,st,h⟩:=h
 obtain ⟨F,hS,_⟩:=h.sh
 have c1:=h.c1
 have hab:=aN c1
 have HO:=af (fun X (g:ae W X)=>UN Vx E (hE.ag g) (hS.ag g) hl key hk)
 have e1:Pl.oO A.sh.xs key=Sh.none:=by unfold Pl.oO;rw [zZ1 hn]
 have e2:decide (0<=Pl.kx A.sh.xs key)=false:=decide_eq_false (by omega)
 rw [e1,e2] at HO
 clear h hE hS e1 e2
 unfold Sh.none Sh.cD Sh.vals at HO
 dsimp only at HO
 go_in
 go_wp2_with fail
 refine (HO.out _ ((ae.rf W).alloc _)).mono ?_
 rintro e w1 ⟨rfl,aA⟩
 have bI:=af (show ae W w1 from ((ae.rf W).alloc _).trans aA)
 have hz:W.heap.size<w1.heap.size:=ltT (by simp) aA.size
 have q:(∀i,i<3->∃u,w1.cell? ⟨W.heap.size,i,none⟩=some u)/\∀i,w1.frozen? ⟨W.heap.size,i,none⟩=false:=⟨fun i hi=>by
  obtain rfl | rfl | rfl:i=0\/i=1\/i=2:=by omega
  all_goals exact ⟨_,(aA.cells.1 _ _ (by simp)).trans (by simp [go_sem];rfl)⟩,fun i=>(aA.cells.2 _ i (by simp)).trans (by simp [go_sem])⟩
 obtain ⟨u0,k0⟩:=q.1 0 (by omega)
 obtain ⟨u1,k1⟩:=q.1 1 (by omega)
 obtain ⟨u2,k2⟩:=q.1 2 (by omega)
 have f0:=q.2 0
 have f1:=q.2 1
 have f2:=q.2 2
 clear aA q HO
 go_wp2_with fail
 refine bodyPost_ret (v:=.tuple #[.agg #[.string ⟨#[]⟩,.string ⟨#[]⟩,.int .i64 0],.bool false]) (by simp [results,Tryz.results26,go_sem,f0,f1,f2,k0,k1,k2,hz]) rfl ⟨rfl,?_⟩
 refine (ae.setCell (ae.setCell (ae.setCell bI.out ?_ _) ?_ _) ?_ _).alloc _
 all_goals exact zZ3 W.heap.size
theorem z2Z (E:Nat->Addr) {W:World} (hE:aY jK E W) {L:Nat->Nat} {k ab n:Nat} {A:bc} (h:bQ W L k ab n A) (hl:A.sh.xs.length<=1000) (key:ByteArray) (hk:key.size<=70368744177664) (hn:¬Pl.kx A.sh.xs key<0) (i:Nat) (hi9:i<1000000) (Qo:(Pl.oO A.sh.xs key).id=(i:Int)) {P:List Pr} {S:Int->Option An} (hst:A.st i=some (P,S)) (hx:P.length<=1000):
    Calls Tryz.prog 26 #[.pointer (some ⟨ab,0,none⟩),.string key] W fun e w'=>e=.returned (.tuple #[((Pl.dJ P key).getD Pr.none).agg,.bool (Pl.dJ P key).isSome])/\ae W w':=by
 obtain ⟨sb,mb,nb,f,st,h⟩:=h
 obtain ⟨F,hS,_⟩:=h.sh
 have c1:=h.c1
 have c2:=h.c2
 have hab:=aN c1
 have HO:=af (fun X (g:ae W X)=>UN Vx E (hE.ag g) (hS.ag g) hl key hk)
 rw [show decide (0<=Pl.kx A.sh.xs key)=true from decide_eq_true (by omega)] at HO
 obtain ⟨_,c,_,_,Ft,Fs,m,_,⟨tb,yb,hT⟩,_⟩:=h.states i P S hst
 have e1:oW A st i=.pointer (some ⟨st i,0,none⟩):=by unfold oW;rw [hst];rfl
 have ry:=af (fun X (g:ae W X)=>h.look g i hi9)
 rw [e1] at ry
 have s0:=hT.c0
 have hsl:=aN s0
 have FZ:=af (fun X (g:ae W X)=>TU (show lY jK from ⟨rfl,rfl,rfl,rfl,rfl⟩) E (hE.ag g) (hT.tab.ag g) (by omega) key hk)
 clear h hE hS hT e1 hst
 generalize st i=sp at *
 generalize (Pl.dJ P key).isSome=Ei at *
 generalize (Pl.dJ P key).getD Pr.none=o at *
 obtain ⟨ok,ov,on⟩:=o
 unfold Pr.agg at FZ ⊢
 generalize Pl.oO A.sh.xs key=cc at *
 obtain ⟨x0,x1,x2,x3,x4⟩:=cc
 dsimp only at *
 subst Qo
 unfold Sh.cD Sh.vals at HO
 dsimp only at HO
 go_in
 go_wp2_with fail
 refine (HO.out _ ((ae.rf W).alloc _)).mono ?_
 rintro e w1 ⟨rfl,aA⟩
 have bI:=af (show ae W w1 from ((ae.rf W).alloc _).trans aA)
 have hz:W.heap.size<w1.heap.size:=ltT (by simp) aA.size
 have q:(∀j,j<3->∃u,w1.cell? ⟨W.heap.size,j,none⟩=some u)/\∀j,w1.frozen? ⟨W.heap.size,j,none⟩=false:=⟨fun j hj=>by
  obtain rfl | rfl | rfl:j=0\/j=1\/j=2:=by omega
  all_goals exact ⟨_,(aA.cells.1 _ _ (by simp)).trans (by simp [go_sem];rfl)⟩,fun j=>(aA.cells.2 _ j (by simp)).trans (by simp [go_sem])⟩
 have HQ:=af q
 clear aA q HO
 go_upto_region 4 with fail
 obtain ⟨Y,hY⟩:∃Y,Y=w1.alloc (.cells #[.int .i64 (i:Int),.int .i64 x1,.int .i64 x2,.string x3,.string x4] 128):=⟨_,rfl⟩
 have gY:ae w1 Y:=by rw [hY];exact (ae.rf w1).alloc _
 obtain ⟨xb,hxb⟩:∃xb,xb=w1.heap.size:=⟨_,rfl⟩
 have X0:=aU (show Y.cell? ⟨xb,0,none⟩=some (.int .i64 (i:Int)) from by rw [hY,hxb];simp [go_sem])
 have cR:=af (bI.out.trans gY)
 have gq:=af gY
 rw [<-hY,<-hxb]
 have hlk:∀p:Wd (ae Y),(Instr.lookup 105 (.map (some mb)) (.int .i64 (i:Int)) false).run Tryz.prog p.w=.ok (.pointer (some ⟨sp,0,none⟩)) p.w:=fun p=>ry.out p.w (cR.out.trans p.ok)
 have A2:=aU ((cR.out.cells.1 _ 2 hab).trans c2)
 have S0:=aU ((cR.out.cells.1 _ 0 hsl).trans s0)
 have Jo:=af (fun X (g:ae Y X)=>FZ.out X (cR.out.trans g))
 clear hY gY hxb ry
 refine lH 14 (by kernel_rfl) (by kernel_rfl) (fun _ _=>rfl) ?_
 repeat (first
  | (refine fF ?_;intro K hK;go_big_quiet_op;go_big_quiet_on)
  | (refine zq (fun _=>by kernel_rfl) (fun u hu=>Jo.out u hu) ?_;simp only [Act.put,sA,sB,sC])
  | (refine fE ?_;simp only [Act.put,sA,sB,sC]))
 refine iH (by rfl) ?_
 intro u fU
 have HU:=af (cR.out.trans fU)
 have HV:=af (gq.out.trans fU)
 obtain ⟨u0,k0⟩:=HQ.out.1 0 (by omega)
 obtain ⟨u1,k1⟩:=HQ.out.1 1 (by omega)
 obtain ⟨u2,k2⟩:=HQ.out.1 2 (by omega)
 have k0:=(HV.out.cells.1 _ 0 hz).trans k0
 have k1:=(HV.out.cells.1 _ 1 hz).trans k1
 have k2:=(HV.out.cells.1 _ 2 hz).trans k2
 have f0:=(HV.out.cells.2 _ 0 hz).trans (HQ.out.2 0)
 have f1:=(HV.out.cells.2 _ 1 hz).trans (HQ.out.2 1)
 have f2:=(HV.out.cells.2 _ 2 hz).trans (HQ.out.2 2)
 have uQ:=ltT hz HV.out.size
 clear fU X0 hlk A2 S0 Jo FZ HQ
 dsimp only [List.drop]
 go_wp2_with fail
 refine bodyPost_ret (v:=.tuple #[.agg #[.string ok,.string ov,.int .i64 on],.bool Ei]) (by simp [results,Tryz.results26,go_sem,f0,f1,f2,k0,k1,k2,uQ]) rfl ⟨rfl,?_⟩
 refine ae.setCell (ae.setCell (ae.setCell HU.out ?_ _) ?_ _) ?_ _
 all_goals exact zZ3 W.heap.size
def nV (W:World) (L:Nat->Nat) (k ab n:Nat) (A:bc) (W':World):Prop:=aj (fun j=>br k (L j)) W W'/\∃L',(∀j,j<W.heap.size->L' j=L j)/\(∀j,W.heap.size<=j->br k (L' j))/\bQ W' L' k ab n A
section
variable {W W':World} {L L':Nat->Nat} {k ab sb mb nb n n':Nat} {f:Lit->Option Value} {st:Nat->Nat} {A:bc}
theorem cG.answered (h:cG W L k ab sb mb nb n f st A) (hO:aj (fun j=>j=nb) W W') (hL:∀j,j<W.heap.size->L' j=L j) {fa:Lit->Option Value} {m:Nat} (hm:m<=n+1) (hl:bL W' Tryz.prog 3 nb m fa):cG W' L' k ab sb mb nb (n+1) f st A:=by
 obtain ⟨F,h3,h4⟩:=h.sh
 obtain ⟨m1,e1,h1⟩:=h.lm
 obtain ⟨_,_,_,h2⟩:=h.la
 have tab:¬ab=nb:=fun e=>by have:=h.lab;have:=h.jU;rw [e] at *;omega
 have tmb:¬mb=nb:=fun e=>by have:=h.oQ;have:=h.jU;rw [e] at *;omega
 have hab:=h.wL
 refine ⟨(hO.cell hab tab 0).trans h.c0,(hO.cell hab tab 1).trans h.c1,(hO.cell hab tab 2).trans h.c2,(hO.cell hab tab 3).trans h.c3,fun i=>(hO.frozen hab tab i).trans (h.fz i),(hL ab hab).trans h.lab,(hL mb h1.lt).trans h.oQ,(hL nb h2.lt).trans h.jU,⟨F,h3.kept hO fun j hj e=>by have a:=h4 j hj;have b:=h.jU;rw [e,b] at a;omega,fun j hj=>(hL j (h3.lt j hj)).trans (h4 j hj)⟩,⟨m1,by omega,h1.kept hO tmb⟩,h.val,h.lit,⟨fa,m,hm,hl⟩,fun i P S hi=>?_⟩
 obtain ⟨i12,c,hc,bN,Ft,Fs,q,hq,hS,hB⟩:=h.states i P S hi
 have ha:=hS.all
 have hn:∀j,eZ Ft Fs (st i) j->¬j=nb:=fun j hj e=>by have a:=hB j hj;have b:=h.jU;rw [e,b] at a;omega
 exact ⟨i12,c,hc,bN,Ft,Fs,q,by omega,hS.kept hO (fun j hj=>hn j (.inl hj)) (fun j hj=>hn j (.inr (.inl hj))) (hn _ (.inr (.inr rfl))),fun j hj=>(hL j (ha j hj)).trans (hB j hj)⟩
theorem cG.turned (h:cG W L k ab sb mb nb n f st A) {T:Nat->Prop} {i:Nat} {P:List Pr} {S:Int->Option An} (hi:A.st i=some (P,S)) (hO:aj T W W') (hT:∀j,j<W.heap.size->T j->L j=k+20+i) (hn:n<=n') (hL:∀j,j<W.heap.size->L' j=L j) {P':List Pr} {S':Int->Option An}
    (hS:∃c∈A.sh.xs,c.id=(i:Int)/\∃Gt Gs m,m<=n'/\cY W' Gt Gs (st i) m c.lo c.hi P' S'/\∀j,eZ Gt Gs (st i) j->L' j=k+20+i):cG W' L' k ab sb mb nb n' f st ⟨A.at_,A.sh,cM A.st i (some (P',S'))⟩:=by
 have hab:=h.wL
 have nT:∀j,j<W.heap.size->L j≠k+20+i->¬T j:=fun j hj hl ht=>hl (hT j hj ht)
 have i12:=(h.states i P S hi).1
 obtain ⟨F,h3,h4⟩:=h.sh
 obtain ⟨m1,e1,h1⟩:=h.lm
 obtain ⟨fa,m2,e2,h2⟩:=h.la
 have tab:=nT ab hab (by rw [h.lab];omega)
 refine ⟨(hO.cell hab tab 0).trans h.c0,(hO.cell hab tab 1).trans h.c1,(hO.cell hab tab 2).trans h.c2,(hO.cell hab tab 3).trans h.c3,fun q=>(hO.frozen hab tab q).trans (h.fz q),(hL ab hab).trans h.lab,(hL mb h1.lt).trans h.oQ,(hL nb h2.lt).trans h.jU,⟨F,h3.kept hO fun j hj=>nT j (h3.lt j hj) (by rw [h4 j hj];omega),fun j hj=>(hL j (h3.lt j hj)).trans (h4 j hj)⟩,⟨m1,by omega,h1.kept hO (nT mb h1.lt (by rw [h.oQ];omega))⟩,fun j=>?_,h.lit,⟨fa,m2,by omega,h2.kept hO (nT nb h2.lt (by rw [h.jU];omega))⟩,fun j Q U hj=>?_⟩
 · dsimp only
   by_cases e:j=i
   · rw [e,il,h.val,hi];rfl
   · rw [fe _ _ e];exact h.val j
 · dsimp only at hj ⊢
   by_cases e:j=i
   · subst e
     rw [il] at hj
     cases hj
     exact ⟨i12,hS⟩
   · rw [fe _ _ e] at hj
     obtain ⟨j12,c,hc,Jp,Ft,Fs,m,hm,mi,hB⟩:=h.states j Q U hj
     have ha:=mi.all
     have hn':∀x,eZ Ft Fs (st j) x->¬T x:=fun x hx=>nT x (ha x hx) (by rw [hB x hx];omega)
     exact ⟨j12,c,hc,Jp,Ft,Fs,m,by omega,mi.kept hO (fun x hx=>hn' x (.inl hx)) (fun x hx=>hn' x (.inr (.inl hx))) (hn' _ (.inr (.inr rfl))),fun x hx=>(hL x (ha x hx)).trans (hB x hx)⟩
theorem cG.gone (h:cG W L k ab sb mb nb n f st A) (a:Int):cG (W.setCell ⟨ab,0,none⟩ (.int .i64 a)) L k ab sb mb nb n f st ⟨a,A.sh,A.st⟩:=by
 have hO:aj (fun j=>j=ab) W (W.setCell ⟨ab,0,none⟩ (.int .i64 a)):=aj.setCell W ⟨ab,0,none⟩ _
 obtain ⟨F,h3,h4⟩:=h.sh
 obtain ⟨m1,e1,h1⟩:=h.lm
 obtain ⟨fa,m2,e2,h2⟩:=h.la
 have nT:∀j,L j≠k->¬j=ab:=fun j hl e=>hl (by rw [e];exact h.lab)
 refine ⟨by simp [go_sem,h.c0],by simp [go_sem,h.c1],by simp [go_sem,h.c2],by simp [go_sem,h.c3],fun q=>by rw [World.frozen?_setCell];exact h.fz q,h.lab,h.oQ,h.jU,⟨F,h3.kept hO fun j hj=>nT j (by rw [h4 j hj];omega),h4⟩,⟨m1,e1,h1.kept hO (nT mb (by rw [h.oQ];omega))⟩,h.val,h.lit,⟨fa,m2,e2,h2.kept hO (nT nb (by rw [h.jU];omega))⟩,fun i P S hi=>?_⟩
 obtain ⟨i12,c,hc,bN,Ft,Fs,q,hq,hS,hB⟩:=h.states i P S hi
 have hn:∀j,eZ Ft Fs (st i) j->¬j=ab:=fun j hj=>nT j (by rw [hB j hj];omega)
 exact ⟨i12,c,hc,bN,Ft,Fs,q,hq,hS.kept hO (fun j hj=>hn j (.inl hj)) (fun j hj=>hn j (.inr (.inl hj))) (hn _ (.inr (.inr rfl))),hB⟩
end
end
section
namespace Pl
theorem wU {xs:List Sh} (h:gQ xs) {k:Nat} (hk:k<xs.length) {key:ByteArray} (hh:aL (ah xs k).lo (ah xs k).hi key=true):kx xs key=(k:Int):=by
 unfold kx
 rw [zZ1 (sf hh).2.1]
 unfold b7
 cases hf:xs.findIdx? (fun c=>aL c.lo c.hi key) with
 | none=>
  have:=zJ2.1 hf (ah xs k) (jB hk)
  rw [hh] at this
  cases this
 | some i=>
  obtain ⟨hi,hp,_⟩:=zJ3.1 hf
  rw [<-kD xs i hi] at hp
  rw [h.uniq key i k hi hk hp hh]
theorem z4a {xs:List Sh} {key:ByteArray} (hn:¬kx xs key<0):∃k,k<xs.length/\kx xs key=(k:Int)/\aL (ah xs k).lo (ah xs k).hi key=true/\oO xs key=ah xs k:=by
 unfold oO
 rw [zZ0 hn]
 unfold kx at *
 cases hk:isKey key with
 | false=>rw [hk] at hn;simp at hn
 | true=>
  rw [hk,zZ1 rfl] at hn
  rw [zZ1 rfl]
  unfold b7 at *
  cases hf:xs.findIdx? (fun c=>aL c.lo c.hi key) with
  | none=>rw [hf] at hn;simp at hn
  | some i=>
   obtain ⟨hi,hp,_⟩:=zJ3.1 hf
   rw [<-kD xs i hi] at hp
   exact ⟨i,hi,rfl,hp,by simp⟩
def oZ (A:bc) (key:ByteArray) (i:Nat):Bool:=match A.st i with | none=>false | some v=>(dJ v.1 key).isSome
theorem Qp {A:bc} {m:Nat} (h:bw A m) (hs:∀i P S,A.st i=some (P,S)->ct P) {key:ByteArray} {i:Nat} (hi:oZ A key i=true):¬kx A.sh.xs key<0/\(oO A.sh.xs key).id=(i:Int):=by
 unfold oZ at hi
 cases hA:A.st i with
 | none=>rw [hA] at hi;cases hi
 | some v=>
  obtain ⟨P,S⟩:=v
  rw [hA] at hi
  dsimp only at hi
  obtain ⟨c,hc⟩:=Option.isSome_iff_exists.1 hi
  obtain ⟨h1,h2⟩:=LV (hs i P S hA) hc
  obtain ⟨x,hx,af⟩:=h.back i (by rw [hA];simp)
  obtain ⟨P2,S2,Jq,hin⟩:=h.dom x hx
  rw [af,Int.toNat_natCast,hA] at Jq
  cases Jq
  have hh:=hin c h1
  rw [h2] at hh
  obtain ⟨k,hk,rfl⟩:=yL hx
  have e:=wU h.chain hk hh
  refine ⟨by rw [e];omega,?_⟩
  unfold oO
  rw [zZ0 (by rw [e];omega),e,Int.toNat_natCast,af]
theorem Qq {A:bc} {m:Nat} (h:bw A m) {key:ByteArray} (hn:¬kx A.sh.xs key<0):∃i:Nat,i<13/\(oO A.sh.xs key).id=(i:Int)/\∃P S,A.st i=some (P,S)/\aS A key=dJ P key:=by
 obtain ⟨k,hk,e,hh,ev⟩:=z4a hn
 have hm:=jB hk
 have af:=h.inv.ids _ hm
 obtain ⟨P,S,hP,hin⟩:=h.dom _ hm
 refine ⟨(ah A.sh.xs k).id.toNat,by omega,by rw [ev];omega,P,S,hP,?_⟩
 unfold aS
 rw [zZ0 hn,ev,hP]
theorem Vy {A:bc} {key:ByteArray} (hn:kx A.sh.xs key<0):aS A key=none:=by
 unfold aS;rw [zZ1 hn]
end Pl
end
section
open Go.RowKit Go.Maps
attribute [local go_sem] Oper.semAt_some aT
theorem cG.wV {W W':World} {L L':Nat->Nat} {k ab sb mb nb n:Nat} {f:Lit->Option Value} {st:Nat->Nat} {A:bc} (h:cG W L k ab sb mb nb n f st A) (g:ae W W') (hL:∀j,j<W.heap.size->L' j=L j):cG W' L' k ab sb mb nb n f st A:=h.kept (g.only fun _=>False) (fun _ _ h=>h.elim) hL
theorem z0K {W:World} {L:Nat->Nat} {k ab n:Nat} {A:bc} (h:bQ W L k ab n A) (e:En) (hs0:0<=e.ai) (hs1:e.ai<1000000) (hst:A.st e.ai.toNat=none) (at':Int) (h0:0<=at') (h1:at'<4096) (hn:n<=1000000):
    Calls Tryz.prog 49 #[.pointer (some ⟨ab,0,none⟩),e.agg,.int .i64 at'] W fun r w'=>r=.returned .nilIface/\nV W L k ab (n+1) A w':=by
 obtain ⟨sb,mb,nb,f,st,h⟩:=h
 have c2:=h.c2
 have c3:=h.c3
 have hab:=aN c2
 have ry:=af (fun X (g:ae W X)=>h.look g e.ai.toNat (by omega))
 have e1:oW A st e.ai.toNat=.pointer none:=by unfold oW;rw [hst];rfl
 rw [e1,Int.toNat_of_nonneg hs0] at ry
 have HH:=af h
 clear h e1 hst
 obtain ⟨kind,ai,other,server,ak,seq,key,upto,part,parts,ops,aC,aG,av,ar,aw⟩:=e
 unfold En.agg En.vals
 dsimp only at *
 go_in
 go_upto_region 1 with fail
 obtain ⟨Y,hY⟩:∃Y,Y=W.alloc (.cells #[.int .i64 kind,.int .i64 ai,.int .i64 other,.int .i64 server,.int .i64 ak,.int .i64 seq,.slice aC ops.length aG,.string key,.int .i64 upto,.int .i64 part,.int .i64 parts,.slice av ar aw] 39):=⟨_,rfl⟩
 have gY:ae W Y:=by rw [hY];exact (ae.rf W).alloc _
 obtain ⟨xb,hxb⟩:∃xb,xb=W.heap.size:=⟨_,rfl⟩
 have X1:=aU (show Y.cell? ⟨xb,1,none⟩=some (.int .i64 ai) from by rw [hY,hxb];simp [go_sem])
 have A2:=aU ((gY.cells.1 _ 2 hab).trans c2)
 have hlk:∀p:Wd (ae Y),(Instr.lookup 105 (.map (some mb)) (.int .i64 ai) false).run Tryz.prog p.w=.ok (.pointer none) p.w:=fun p=>ry.out p.w (gY.trans p.ok)
 have cR:=af gY
 rw [<-hY,<-hxb]
 clear hY gY hxb ry
 refine lH 7 (by kernel_rfl) (by kernel_rfl) (fun _ _=>rfl) ?_
 repeat (first
  | (refine fF ?_;intro K hK;go_big_quiet_op;go_big_quiet_on)
  | (refine fE ?_;simp only [Act.put,sA,sB,sC]))
 refine iH (by rfl) ?_
 intro u fU
 have HU:=af (cR.out.trans fU)
 have d3:=(HU.out.cells.1 _ 3 hab).trans c3
 have qm:=ltT hab HU.out.size
 obtain ⟨fa,m,hm,tL⟩:=HH.out.la
 obtain ⟨w2,hrun,r1,r2⟩:=(tL.ag HU.out).store (val:=.agg #[.int .i64 3,.int .i64 0]) ow Tryz.underlying74 (by unfold maxLen;omega) (keyOf_int_mk Tryz.underlying3 (pA (c:=at') (by omega) (by omega)))
 have cE:=af hrun
 have HR:=af (And.intro r1 (And.intro r2 hm))
 clear fU X1 A2 hlk hrun r1 r2 tL hm
 dsimp only [List.drop]
 go_wp2_with (at_mapUpdate;refine FD rfl _ _ _ rfl rfl rfl rfl cE.out ?_)
 go_ret
 have hO:aj (fun j=>j=nb) u w2:=aj.dm HR.out.2.1
 refine ⟨rfl,((HU.out.only _).then (hO.mono fun j hj=> .inl (by rw [hj];unfold br;have:=HH.out.jU;omega))),fun j=>if j<W.heap.size then L j else k+50,fun j hj=>zZ1 hj,fun j hj=>?_,sb,mb,nb,f,st,?_⟩
 · dsimp only
   rw [zZ0 (by omega)]
   unfold br;omega
 · exact (HH.out.wV HU.out (fun j hj=>zZ1 hj)).answered hO (fun _ _=>rfl) (by have:=HR.out.2.2;omega) HR.out.1
theorem z0w (E:Nat->Addr) {W:World} (hE:aY jK E W) {L:Nat->Nat} {k ab n m0:Nat} {A:bc} (h:bQ W L k ab n A) (bq:bw A m0) (hm0:m0<=120) (e:En) (hA:bG W e) (hz:nt e) (hs0:0<=e.ai) (hs1:e.ai<1000000) {P:List Pr} {S:Int->Option An} (hst:A.st e.ai.toNat=some (P,S)) (at':Int) (h0:0<=at') (h1:at'<4096) (hn:n<=100000):
    Calls Tryz.prog 49 #[.pointer (some ⟨ab,0,none⟩),e.agg,.int .i64 at'] W fun r w'=>r=.returned (aX E (Pl.eW (Pl.cf A e.ai.toNat).lo (Pl.cf A e.ai.toNat).hi P S e at').err)/\nV W L k ab (n+2) ⟨A.at_,A.sh,cM A.st e.ai.toNat (some ((Pl.eW (Pl.cf A e.ai.toNat).lo (Pl.cf A e.ai.toNat).hi P S e at').P,(Pl.eW (Pl.cf A e.ai.toNat).lo (Pl.cf A e.ai.toNat).hi P S e at').S))⟩ w':=by
 obtain ⟨sb,mb,nb,f,st,h⟩:=h
 have c2:=h.c2
 have c3:=h.c3
 have hab:=aN c2
 have ry:=af (fun X (g:ae W X)=>h.look g e.ai.toNat (by omega))
 have e1:oW A st e.ai.toNat=.pointer (some ⟨st e.ai.toNat,0,none⟩):=by unfold oW;rw [hst];rfl
 rw [e1,Int.toNat_of_nonneg hs0] at ry
 obtain ⟨i12,c,hc,bN,Ft,Fs,m,hm,hS,hB⟩:=h.states _ P S hst
 have hsh:=Pl.jh bq hc bN
 rw [hsh]
 have hsz:=bq.sz c hc
 have Gi:P.length<=1000:=by
  have a:=Eg A.st e.ai.toNat (by omega)
  have b:=bq.few
  rw [hst] at a
  unfold fS at a
  dsimp only at a
  omega
 have Ej:=af (fun X (g:ae W X)=>z2X E e (hE.ag g) (hA.ag g) hz at' (hS.ag g) (by omega) (by omega) Gi (by omega))
 have HH:=af h
 have HC:=af (And.intro hc bN)
 have HB:=af (And.intro hst (And.intro hB hS.all))
 have HM:=af (show m<=n from hm)
 clear h e1 hst hsh hsz Gi hE hA hz hS hB hm bq hc bN
 unfold gK at Ej
 generalize Pl.eW c.lo c.hi P S e at'=wr at *
 obtain ⟨wc,wa,we,wP,wS⟩:=wr
 dsimp only at *
 generalize aX E we=ev at *
 generalize e.ai.toNat=i at *
 obtain ⟨sp,hsp⟩:∃sp,st i=sp:=⟨_,rfl⟩
 rw [hsp] at ry Ej HB
 obtain ⟨kind,ai,other,server,ak,seq,key,upto,part,parts,ops,aC,aG,av,ar,aw⟩:=e
 unfold En.agg En.vals at *
 dsimp only at *
 go_in
 go_upto_region 1 with fail
 obtain ⟨Y,hY⟩:∃Y,Y=W.alloc (.cells #[.int .i64 kind,.int .i64 ai,.int .i64 other,.int .i64 server,.int .i64 ak,.int .i64 seq,.slice aC ops.length aG,.string key,.int .i64 upto,.int .i64 part,.int .i64 parts,.slice av ar aw] 39):=⟨_,rfl⟩
 have gY:ae W Y:=by rw [hY];exact (ae.rf W).alloc _
 obtain ⟨xb,hxb⟩:∃xb,xb=W.heap.size:=⟨_,rfl⟩
 have HX:=af (show ∀q v,(#[.int .i64 kind,.int .i64 ai,.int .i64 other,.int .i64 server,.int .i64 ak,.int .i64 seq,.slice aC ops.length aG,.string key,.int .i64 upto,.int .i64 part,.int .i64 parts,.slice av ar aw]:Array Value)[q]? =some v->Y.cell? ⟨xb,q,none⟩=some v from fun q v hv=>by
  rw [hY,hxb,cell_of_row _ _ q _ _ _ (heap_alloc_new W _)];simpa using hv)
 have X1:=aU (HX.out 1 _ rfl)
 have A2:=aU ((gY.cells.1 _ 2 hab).trans c2)
 have hlk:∀p:Wd (ae Y),(Instr.lookup 105 (.map (some mb)) (.int .i64 ai) false).run Tryz.prog p.w=.ok (.pointer (some ⟨sp,0,none⟩)) p.w:=fun p=>ry.out p.w (gY.trans p.ok)
 have cR:=af gY
 have dA:xb<Y.heap.size:=by rw [hY,hxb];simp
 rw [<-hY,<-hxb]
 clear hY gY hxb ry
 refine lH 7 (by kernel_rfl) (by kernel_rfl) (fun _ _=>rfl) ?_
 repeat (first
  | (refine fF ?_;intro K hK;go_big_quiet_op;go_big_quiet_on)
  | (refine fE ?_;simp only [Act.put,sA,sB,sC]))
 refine iH (by rfl) ?_
 intro u fU
 have HU:=af (cR.out.trans fU)
 have x0:=(fU.cells.1 _ 0 dA).trans (HX.out 0 _ rfl)
 have x1:=(fU.cells.1 _ 1 dA).trans (HX.out 1 _ rfl)
 have x2:=(fU.cells.1 _ 2 dA).trans (HX.out 2 _ rfl)
 have x3:=(fU.cells.1 _ 3 dA).trans (HX.out 3 _ rfl)
 have x4:=(fU.cells.1 _ 4 dA).trans (HX.out 4 _ rfl)
 have x5:=(fU.cells.1 _ 5 dA).trans (HX.out 5 _ rfl)
 have x6:=(fU.cells.1 _ 6 dA).trans (HX.out 6 _ rfl)
 have x7:=(fU.cells.1 _ 7 dA).trans (HX.out 7 _ rfl)
 have x8:=(fU.cells.1 _ 8 dA).trans (HX.out 8 _ rfl)
 have x9:=(fU.cells.1 _ 9 dA).trans (HX.out 9 _ rfl)
 have rz:=(fU.cells.1 _ 10 dA).trans (HX.out 10 _ rfl)
 have rA:=(fU.cells.1 _ 11 dA).trans (HX.out 11 _ rfl)
 have sA:=ltT dA fU.size
 have qm:=ltT hab HU.out.size
 clear fU X1 A2 hlk
 dsimp only [List.drop]
 go_wp2_with fail
 refine (Ej.out u HU.out).mono ?_
 rintro r w1 ⟨rfl,q,hq,hW⟩
 obtain ⟨fL,Gt,hS1,jr⟩:=hW
 have Aj:∀j,(j=sp\/Fs j)->L j=k+20+i:=fun j hj=>HB.out.2.1 j (by rcases hj with e | e;exact .inr (.inr e);exact .inr (.inl e))
 have nD:¬(ab=sp\/Fs ab):=fun hj=>by have:=Aj ab hj;have:=HH.out.lab;omega
 have d3:=(fL.cell qm nD 3).trans ((HU.out.cells.1 _ 3 hab).trans c3)
 have Ak:=ltT qm fL.size
 have rU:=af (show aj (fun j=>j=sp\/Fs j) W w1 from (HU.out.only _).then fL)
 have My:=af (show cG w1 (fun j=>if j<W.heap.size then L j else k+20+i) k ab sb mb nb (n+1) f st ⟨A.at_,A.sh,cM A.st i (some (wP,wS))⟩ from by
  refine HH.out.turned HB.out.1 rU.out (fun j _ hj=>Aj j hj) (by omega) (fun j hj=>zZ1 hj) ⟨c,HC.out.1,HC.out.2,Gt,Fs,q,by have:=HM.out;omega,by rw [hsp];exact hS1,fun j hj=>?_⟩
  rw [hsp] at hj
  have hall:=HB.out.2.2
  rcases hj with z | z | z
  · rcases jr j z with y | y
    · rw [zZ1 (hall j (.inl y))];exact HB.out.2.1 j (.inl y)
    · have:=HU.out.size;rw [zZ0 (by omega)]
  · rw [zZ1 (hall j (.inr (.inl z)))];exact HB.out.2.1 j (.inr (.inl z))
  · rw [zZ1 (hall j (.inr (.inr z)))];exact HB.out.2.1 j (.inr (.inr z)))
 clear x0 x1 x2 x3 x4 x5 x6 x7 x8 x9 rz rA sA fL hS1 jr Aj nD Ej HX dA
 go_upto_region 6 with fail
 obtain ⟨Z,hZ⟩:∃Z,Z=w1.alloc (.cells #[.int .i64 wc,.int .i64 wa] 68):=⟨_,rfl⟩
 have gZ:ae w1 Z:=by rw [hZ];exact (ae.rf w1).alloc _
 obtain ⟨zb,hzb⟩:∃zb,zb=w1.heap.size:=⟨_,rfl⟩
 have z0:Z.cell? ⟨zb,0,none⟩=some (.int .i64 wc):=by rw [hZ,hzb];simp [go_sem]
 have z1:Z.cell? ⟨zb,1,none⟩=some (.int .i64 wa):=by rw [hZ,hzb];simp [go_sem]
 have A3:=aU ((gZ.cells.1 _ 3 Ak).trans d3)
 have Z0:=aU z0
 have Z1:=aU z1
 have gq:=af gZ
 rw [<-hZ,<-hzb]
 clear hZ hzb gZ z0 z1
 refine lH 6 (by kernel_rfl) (by kernel_rfl) (fun _ _=>rfl) ?_
 repeat (first
  | (refine fF ?_;intro K hK;go_big_quiet_op;go_big_quiet_on)
  | (refine fE ?_;simp only [Act.put,sA,sB,sC]))
 refine iH (by rfl) ?_
 intro v Al
 have HV:=af (gq.out.trans Al)
 obtain ⟨fa,ma,Vz,tL⟩:=My.out.la
 obtain ⟨w2,hrun,r1,r2⟩:=(tL.ag HV.out).store (val:=.agg #[.int .i64 wc,.int .i64 wa]) ow Tryz.underlying74 (by unfold maxLen;omega) (keyOf_int_mk Tryz.underlying3 (pA (c:=at') (by omega) (by omega)))
 have cE:=af hrun
 have HR:=af (And.intro r1 (And.intro r2 Vz))
 clear Al A3 Z0 Z1 hrun r1 r2 tL Vz
 dsimp only [List.drop]
 go_wp2_with (at_mapUpdate;refine FD rfl _ _ _ rfl rfl rfl rfl cE.out ?_)
 go_ret
 have eO:aj (fun j=>j=nb) v w2:=aj.dm HR.out.2.1
 have hWs:=rU.out.size
 refine ⟨rfl,((rU.out.mono fun j hj=> .inl ?_).then (HV.out.only _)).then (eO.mono fun j hj=> .inl (by rw [hj];unfold br;have:=HH.out.jU;omega)),fun j=>if j<w1.heap.size then (if j<W.heap.size then L j else k+20+i) else k+50,fun j hj=>?_,fun j hj=>?_,sb,mb,nb,f,st,?_⟩
 · have:L j=k+20+i:=HB.out.2.1 j (by rcases hj with e | e;exact .inr (.inr e);exact .inr (.inl e))
   unfold br;omega
 · dsimp only
   rw [zZ1 (by omega),zZ1 hj]
 · dsimp only
   unfold br
   repeat' split
   all_goals omega
 · exact (My.out.wV HV.out (fun j hj=>zZ1 hj)).answered eO (fun _ _=>rfl) (by have:=HR.out.2.2;omega) HR.out.1
def jC (k:Nat):Bool:=jK k || decide (k=18)
theorem Mz {E:Nat->Addr} {w:World} (h:aY jC E w):aY jK E w:=h.less fun k hk=>by unfold jC;rw [hk];rfl
theorem VA:mG jC:=⟨⟨rfl,rfl,rfl,rfl⟩,rfl,rfl⟩
theorem VB:fZ jC:=⟨rfl,rfl,rfl,rfl,rfl,rfl⟩
def VC (w:World) (Ft Fs:Nat->Prop) (st mb m n:Nat) (f:Lit->Option Value) (lo hi key:ByteArray) (P:List Pr) (S:Int->Option An) (other:Int) (w':World):Prop:=
 ∃ob jL Go Gs,aj (fun j=>j=st\/Ft j\/j=mb) w w'/\bL w' Tryz.prog 3 mb (m+1) (fC f (bW other) (some (.pointer (some ⟨ob,0,none⟩))))/\cY w' jL Fs st n lo key (P.take (Pl.bh P key)) S/\cY w' Go Gs ob n key hi (P.drop (Pl.bh P key)) S/\(∀j,jL j->Ft j\/w.heap.size<=j)/\∀j,eZ Go Gs ob j->w.heap.size<=j/\¬eZ jL Fs st j
def VD (i:Nat):Option (Value->Value):=match i with | 10=>some id | 11=>some (ln 0) | 12=>some (ln 1) | 13=>some (ln 0) | _=>none
theorem y7U (E:Nat->Addr) {w:World} (hE:aY jC E w) {ab mb m n st:Nat} {f:Lit->Option Value} {Ft Fs:Nat->Prop} {lo hi:ByteArray} {P:List Pr} {S:Int->Option An} (e:En) (k3:e.kind=3) (hs0:0<=e.ai) (hs1:e.ai<1000000) (ho0:0<=e.other) (ho1:e.other<1000000)
    (c2:w.cell? ⟨ab,2,none⟩=some (.map (some mb))) (hm:bL w Tryz.prog 3 mb m f) (hm1:m<=1000000) (hf:f (bW e.ai)=some (.pointer (some ⟨st,0,none⟩))) (hS:cY w Ft Fs st n lo hi P S) (hb:¬eZ Ft Fs st ab/\¬eZ Ft Fs st mb/\ab≠mb)
    (hx:P.length<=1000) (hl:lo.size<=300) (hh:hi.size<=300) (kK:e.key.size<=300) (hz:Pl.cU (Pl.bf lo hi) (Pl.aF e.key) (Pl.aL lo hi e.key) lo e.key=0):
    Calls Tryz.prog 51 #[.pointer (some ⟨ab,0,none⟩),e.agg] w fun r w'=>r=.returned .nilIface/\VC w Ft Fs st mb m n f lo hi e.key P S e.other w':=by
 have hab:=aN c2
 have hmb:=hm.lt
 have Gj:=af (fun X (g:ae w X)=>z2Q jC E VA (hE.ag g) (hS.ag g) e.key hx hl hh kK)
 rw [hz] at Gj
 have HM:=af hm
 have HST:=af hS
 have HB:=af hb
 have HF:=af hf
 clear hE hS hf hz hm hb
 obtain ⟨kind,ai,other,server,ak,seq,key,upto,part,parts,ops,aC,aG,av,ar,aw⟩:=e
 unfold En.agg En.vals
 dsimp only at *
 subst k3
 go_in
 go_upto_region 3 with fail
 obtain ⟨Y,hY⟩:∃Y,Y=w.alloc (.cells #[.int .i64 3,.int .i64 ai,.int .i64 other,.int .i64 server,.int .i64 ak,.int .i64 seq,.slice aC ops.length aG,.string key,.int .i64 upto,.int .i64 part,.int .i64 parts,.slice av ar aw] 39):=⟨_,rfl⟩
 have gY:ae w Y:=by rw [hY];exact (ae.rf w).alloc _
 obtain ⟨xb,hxb⟩:∃xb,xb=w.heap.size:=⟨_,rfl⟩
 have x1:Y.cell? ⟨xb,1,none⟩=some (.int .i64 ai):=by rw [hY,hxb];simp [go_sem]
 have x2:Y.cell? ⟨xb,2,none⟩=some (.int .i64 other):=by rw [hY,hxb];simp [go_sem]
 have x7:Y.cell? ⟨xb,7,none⟩=some (.string key):=by rw [hY,hxb];simp [go_sem]
 have dA:xb<Y.heap.size:=aN x1
 have aq:=HST.out.all
 have wW:=af (show w.heap.size<=xb by omega)
 rw [<-hY,<-hxb]
 clear hY hxb
 have nD:¬(ab=st\/Ft ab):=fun h=>HB.out.1 (by rcases h with h | h;exact .inr (.inr h);exact .inl h)
 have qo:¬(mb=st\/Ft mb):=fun h=>HB.out.2.1 (by rcases h with h | h;exact .inr (.inr h);exact .inl h)
 have qp:¬(xb=st\/Ft xb):=fun h=>by
  have:=wW.out
  rcases h with h | h
  · have:=aq xb (.inr (.inr h));omega
  · have:=aq xb (.inl h);omega
 have X1:=aV (S:=fun j=>j=st\/Ft j) x1 qp
 have X7:=aV (S:=fun j=>j=st\/Ft j) x7 qp
 have A2:=aV (S:=fun j=>j=st\/Ft j) ((gY.cells.1 _ 2 hab).trans c2) nD
 have hlk:∀p:Wd (aj (fun j=>j=st\/Ft j) Y),(Instr.lookup 105 (.map (some mb)) (.int .i64 ai) false).run Tryz.prog p.w=.ok (.pointer (some ⟨st,0,none⟩)) p.w:=fun p=>by
  have q:=((HM.out.ag gY).kept p.ok qo).lookup ow Tryz.underlying105 (Mx p.w) (keyOf_int_mk Tryz.underlying3 (pA (c:=ai) (by omega) (by omega)))
  rw [show (Lit.int .i64 ai)=bW ai from rfl,HF.out] at q
  exact q
 have cR:=af gY
 have MA:=af x2
 have ky:=af (show JE 9 (ae Y) (fun v u=>∃ob,v=.tuple #[.pointer (some ⟨ob,0,none⟩),.nilIface]/\∃Y',ae Y Y'/\Mo Y' Ft Fs st n lo key key hi (P.take (Pl.bh P key)) (P.drop (Pl.bh P key)) S ob u) VD (fun _=>false) (fun _=>undef) Y.drew from JE.start (ae.rf Y).drew _)
 clear gY x1 x2 x7
 refine kW 14 [9,10,11,12,13] (aj (fun j=>j=st\/Ft j) Y) Eq (JE 9 (ae Y) (fun v u=>∃ob,v=.tuple #[.pointer (some ⟨ob,0,none⟩),.nilIface]/\∃Y',ae Y Y'/\Mo Y' Ft Fs st n lo key key hi (P.take (Pl.bh P key)) (P.drop (Pl.bh P key)) S ob u) VD) (fun f a=>((((a.put (some 22) (f 9)).put (some 12) (f 10)).put (some 23) (f 11)).put (some 24) (f 12)).put (some 5) (f 13)) (by kernel_rfl) (by kernel_rfl) (fun _ _=>rfl) ky.out (fun L _ _ h=>?_) (fun _=>rfl) (fun _ _ _ _ h g=>g▸h) ?_
 · cases hL:L 9 with
   | false=>exact (h.pre hL).only _
   | true=>
    obtain ⟨ob,_,Y',g,hO,_⟩:=h.post hL
    exact (g.only _).then hO
 repeat (first
  | refine kV ?_
  | (refine fF ?_;intro K hK;go_big_quiet_op;go_big_quiet_on)
  | (refine fE ?_;simp only [Act.put,sA,sB,sC]))
 refine iH (by rfl) ⟨⟨bH rfl (fun _ a=>a) (fun _ _=>rfl) (fun _=>rfl) ?_,bH rfl (fun f a=>a.put (some 22) (f 9)) (fun _ _=>rfl) (fun _=>rfl) ?_,bH rfl (fun f a=>a.put (some 12) (f 10)) (fun _ _=>rfl) (fun _=>rfl) ?_,bH rfl (fun f a=>a.put (some 12) (f 10)) (fun _ _=>rfl) (fun _=>rfl) ?_,bH rfl (fun f a=>((a.put (some 22) (f 9)).put (some 12) (f 10)).put (some 23) (f 11)) (fun _ _=>rfl) (fun _=>rfl) ?_,trivial⟩,?_⟩
 · intro L f u hJ hL hd
   have HJ:=af hJ
   have HL:=af hL
   clear hJ hL hd X1 X7 A2 hlk
   go_simp
   have hg:=HJ.out.pre HL.out
   refine (Gj.out u (cR.out.trans hg)).mono ?_
   rintro r u' (⟨hc,_⟩ | ⟨_,ob,rfl,sB⟩)
   · exact absurd rfl hc
   · exact ⟨_,rfl,HJ.out.call HL.out rfl ⟨ob,rfl,u,hg,sB⟩⟩
 · intro L f u hJ hL hd
   have HC:=af (hd 9 rfl (by decide))
   have HJ:=af hJ
   clear hJ hL hd X1 X7 A2 hlk
   go_simp
   exact HJ.out.put 10 HC.out (by decide) (fun g hg=>by cases hg;rfl)
 · intro L f u hJ hL hd
   have h10:=hd 10 rfl (by decide)
   have HC:=af (hJ.ord 10 _ rfl h10)
   have HJ:=af hJ
   obtain ⟨ob,e9,_⟩:=hJ.post HC.out
   have e10:=hJ.val 10 _ rfl h10
   rw [e9] at e10
   have Qr:=af e9
   clear hJ hL hd h10 X1 X7 A2 hlk e9
   rw [e10]
   clear e10
   dsimp only [id]
   go_simp
   exact HJ.out.put 11 HC.out (by decide) (fun g hg=>by cases hg;rw [Qr.out];rfl)
 · intro L f u hJ hL hd
   have h10:=hd 10 rfl (by decide)
   have HC:=af (hJ.ord 10 _ rfl h10)
   have HJ:=af hJ
   obtain ⟨ob,e9,_⟩:=hJ.post HC.out
   have e10:=hJ.val 10 _ rfl h10
   rw [e9] at e10
   have Qr:=af e9
   clear hJ hL hd h10 X1 X7 A2 hlk e9
   rw [e10]
   clear e10
   dsimp only [id]
   go_simp
   exact HJ.out.put 12 HC.out (by decide) (fun g hg=>by cases hg;rw [Qr.out];rfl)
 · intro L f u hJ hL hd
   have h11:=hd 11 rfl (by decide)
   have HC:=af (hJ.ord 11 _ rfl h11)
   have HJ:=af hJ
   have HV:=af (hJ.val 11 _ rfl h11)
   clear hJ hL hd h11 X1 X7 A2 hlk
   go_simp
   exact HJ.out.put 13 HC.out (by decide) (fun g hg=>by cases hg;exact HV.out)
 intro f9 u hJ
 obtain ⟨ob,e9,Y',lq,fL,jL,Go,Gs,hS1,jq,iT,gL⟩:=hJ.post rfl
 have e10:=hJ.val 10 _ rfl rfl
 have e11:=hJ.val 11 _ rfl rfl
 have e12:=hJ.val 12 _ rfl rfl
 have lQ:=hJ.val 13 _ rfl rfl
 rw [e9] at e10 e11 e12 lQ
 dsimp only [id] at e10
 have wX:f9 11=.pointer (some ⟨ob,0,none⟩):=e11
 have Jr:f9 12=.nilIface:=e12
 have Js:f9 13=.pointer (some ⟨ob,0,none⟩):=lQ
 have MB:=cR.out.size
 have j0n:=lq.size
 have kz:aj (fun j=>j=st\/Ft j) Y u:=(lq.only _).then fL
 have d2:=(kz.cell (ltT hab MB) nD 2).trans ((cR.out.cells.1 _ 2 hab).trans c2)
 have y2:=(kz.cell dA qp 2).trans MA.out
 have rU:=af (show aj (fun j=>j=st\/Ft j) w u from (cR.out.only _).then kz)
 have Ek:=af ((HM.out.ag cR.out).kept kz qo)
 have nS:=af (show cY u jL Fs st n lo key (P.take (Pl.bh P key)) S/\cY u Go Gs ob n key hi (P.drop (Pl.bh P key)) S/\(∀j,jL j->Ft j\/w.heap.size<=j)/\∀j,eZ Go Gs ob j->w.heap.size<=j/\¬eZ jL Fs st j from ⟨hS1,jq,fun j hj=>(iT j hj).imp id fun q=>by omega,fun j hj=>⟨by have:=(gL j hj).1;omega,(gL j hj).2⟩⟩)
 have Ak:=aN d2
 have Qs:=aN y2
 clear hJ fL hS1 jq iT gL e11 e12 lQ nD qp Gj X1 X7 A2 hlk kz lq ky e9
 dsimp only [List.drop]
 simp only [Act.put,sA,sC,sB]
 rw [e10,wX,Jr,Js]
 clear e10 wX Jr Js
 go_upto_region 5 with fail
 have D2:=aU d2
 have Y2:=aU y2
 refine lH 7 (by kernel_rfl) (by kernel_rfl) (fun _ _=>rfl) ?_
 repeat (first
  | (refine fF ?_;intro K hK;go_big_quiet_op;go_big_quiet_on)
  | (refine fE ?_;simp only [Act.put,sA,sB,sC]))
 refine iH (by rfl) ?_
 intro v Al
 have MC:=af Al
 obtain ⟨w2,hrun,r1,r2⟩:=(Ek.out.ag Al).store (val:=.pointer (some ⟨ob,0,none⟩)) ow Tryz.underlying105 (by unfold maxLen;omega) (keyOf_int_mk Tryz.underlying3 (pA (c:=other) (by omega) (by omega)))
 have cE:=af hrun
 have HR:=af (And.intro r1 r2)
 clear D2 Y2 d2 y2 Al hrun r1 r2
 dsimp only [List.drop]
 go_wp2_with (at_mapUpdate;refine FD rfl _ _ _ rfl rfl rfl rfl cE.out ?_)
 go_wp2_with fail
 go_ret
 have eO:aj (fun j=>j=mb) u w2:=(MC.out.only _).then (aj.dm HR.out.2)
 obtain ⟨hS1,jq,iT,gL⟩:=nS.out
 have El:∀j,eZ jL Fs st j->¬j=mb:=fun j hj e=>by
  subst e
  rcases hj with a | a | a
  · rcases iT _ a with b | b
    · exact HB.out.2.1 (.inl b)
    · omega
  · exact HB.out.2.1 (.inr (.inl a))
  · exact HB.out.2.1 (.inr (.inr a))
 have Em:∀j,eZ Go Gs ob j->¬j=mb:=fun j hj e=>by have:=(gL j hj).1;omega
 refine ⟨rfl,ob,jL,Go,Gs,(rU.out.mono fun j hj=> .inl (by rcases hj with a | a;exact .inl a;exact .inr (.inl a))).then (eO.mono fun j hj=> .inl (.inr (.inr hj))),HR.out.1,hS1.kept eO (fun j hj=>El j (.inl hj)) (fun j hj=>El j (.inr (.inl hj))) (El _ (.inr (.inr rfl))),jq.kept eO (fun j hj=>Em j (.inl hj)) (fun j hj=>Em j (.inr (.inl hj))) (Em _ (.inr (.inr rfl))),iT,gL⟩
def VE (w:World) (Ft Fs:Nat->Prop) (st mb m n:Nat) (f:Lit->Option Value) (v:ByteArray×ByteArray) (R:List Pr) (S:Int->Option An) (other:Int) (w':World):Prop:=
 ∃jL n',n'<=n+4/\aj (fun j=>eZ Ft Fs st j\/j=mb) w w'/\bL w' Tryz.prog 3 mb m (fC f (bW other) none)/\cY w' jL Fs st n' v.1 v.2 R S/\∀j,jL j->Ft j\/w.heap.size<=j
theorem y6I {P:Program} {k e t:TypeId} {b n:Nat} {f:Lit->Option Value} {w:World} {ops:Array Oper} {rest:List Oper} {o:Oper} {a:Act} {Q:Exit->Act->World->Prop} (hg:o.guard=none) (m x:Operand) (hop:o.op=Op.call {callee:=Callee.builtin Builtin.delete,args:=#[m,x],argTypes:=#[t,k]}) (K:Keyed P k) (ht:P.underlying t=some (.map k e))
    (hm:a.eval m=.map (some b)) (h:bL w P k b n f) (key:Value) (l:Lit) (hx:a.eval x=key) (hkey:keyOf P k key=some l)
    (hK:∀w',bL w' P k b n (fC f l none)->aj (fun j=>j=b) w w'->wpList P ops Q rest (a.put o.dst (.tuple #[])) w'):wpList P ops Q (o::rest) a w:=by
 refine wpList_plain hg fun K' hK'=>?_
 obtain ⟨w',hrun,r1,r2⟩:=h.drop K ht hkey o.type
 unfold Oper.wp
 simp [execOp,hop,resolve,invoke,builtin,hm,hx,hrun,Result.andThen]
 exact hK' _ _ (hK w' r1 (aj.dm r2))
theorem y8j (E:Nat->Addr) {w:World} (hE:aY jC E w) {ab mb m n st su n2:Nat} {f:Lit->Option Value} {Ft Fs Gt Gs:Nat->Prop} {lo hi lo' hi':ByteArray} {P Q R:List Pr} {S T:Int->Option An} (e:En) (k4:e.kind=4) (hs0:0<=e.ai) (hs1:e.ai<1000000) (ho0:0<=e.other) (ho1:e.other<1000000)
    (c2:w.cell? ⟨ab,2,none⟩=some (.map (some mb))) (hm:bL w Tryz.prog 3 mb m f) (hf:f (bW e.ai)=some (.pointer (some ⟨st,0,none⟩))) (hf2:f (bW e.other)=some (.pointer (some ⟨su,0,none⟩))) (hS:cY w Ft Fs st n lo hi P S) (jq:cY w Gt Gs su n2 lo' hi' Q T) (hd:∀j,eZ Gt Gs su j->¬eZ Ft Fs st j) (hb:¬eZ Ft Fs st ab/\¬eZ Ft Fs st mb)
    (hR:Pl.ct R/\R.Perm (P++Q)) (hx:P.length<=1000) (hy:Q.length<=1000) (hn:n<=100000) (fW:n2<=100000) (hl:lo.size<=300) (hh:hi.size<=300) (hl':lo'.size<=300) (hh':hi'.size<=300) (hz:Pl.aK (Pl.bf lo hi) (Pl.bf lo' hi') lo hi lo' hi'=0):
    Calls Tryz.prog 51 #[.pointer (some ⟨ab,0,none⟩),e.agg] w fun r w'=>r=.returned .nilIface/\VE w Ft Fs st mb m n f (Pl.aH (Pl.bf lo hi) (Pl.bf lo' hi') lo hi lo' hi') R (joinL S (js T)) e.other w':=by
 have hab:=aN c2
 have hmb:=hm.lt
 have Qt:=af (fun X (g:ae w X)=>z2N jC E VA rfl (hE.ag g) (hS.ag g) (jq.ag g) hd (fun _=>hR) hx hy hn fW hl hh hl' hh')
 rw [hz] at Qt
 generalize Pl.aH (Pl.bf lo hi) (Pl.bf lo' hi') lo hi lo' hi'=vv at *
 generalize joinL S (js T)=SS at *
 have HM:=af hm
 have HST:=af hS
 have HB:=af hb
 have HF:=af (And.intro hf hf2)
 clear hE hS jq hf hf2 hz hm hb hd hR
 obtain ⟨kind,ai,other,server,ak,seq,key,upto,part,parts,ops,aC,aG,av,ar,aw⟩:=e
 unfold En.agg En.vals
 dsimp only at *
 subst k4
 go_in
 go_upto_region 8 with fail
 obtain ⟨Y,hY⟩:∃Y,Y=w.alloc (.cells #[.int .i64 4,.int .i64 ai,.int .i64 other,.int .i64 server,.int .i64 ak,.int .i64 seq,.slice aC ops.length aG,.string key,.int .i64 upto,.int .i64 part,.int .i64 parts,.slice av ar aw] 39):=⟨_,rfl⟩
 have gY:ae w Y:=by rw [hY];exact (ae.rf w).alloc _
 obtain ⟨xb,hxb⟩:∃xb,xb=w.heap.size:=⟨_,rfl⟩
 have x1:Y.cell? ⟨xb,1,none⟩=some (.int .i64 ai):=by rw [hY,hxb];simp [go_sem]
 have x2:Y.cell? ⟨xb,2,none⟩=some (.int .i64 other):=by rw [hY,hxb];simp [go_sem]
 have aq:=HST.out.all
 have wW:=af (show w.heap.size<=xb by omega)
 rw [<-hY,<-hxb]
 clear hY hxb
 have X1:=aU x1
 have X2:=aU x2
 have A2:=aU ((gY.cells.1 _ 2 hab).trans c2)
 have hlk:∀p:Wd (ae Y),(Instr.lookup 105 (.map (some mb)) (.int .i64 ai) false).run Tryz.prog p.w=.ok (.pointer (some ⟨st,0,none⟩)) p.w:=fun p=>by
  have q:=((HM.out.ag gY).ag p.ok).lookup ow Tryz.underlying105 (Mx p.w) (keyOf_int_mk Tryz.underlying3 (pA (c:=ai) (by omega) (by omega)))
  rw [show (Lit.int .i64 ai)=bW ai from rfl,HF.out.1] at q
  exact q
 have hlk2:∀p:Wd (ae Y),(Instr.lookup 105 (.map (some mb)) (.int .i64 other) false).run Tryz.prog p.w=.ok (.pointer (some ⟨su,0,none⟩)) p.w:=fun p=>by
  have q:=((HM.out.ag gY).ag p.ok).lookup ow Tryz.underlying105 (Mx p.w) (keyOf_int_mk Tryz.underlying3 (pA (c:=other) (by omega) (by omega)))
  rw [show (Lit.int .i64 other)=bW other from rfl,HF.out.2] at q
  exact q
 have cR:=af gY
 have dA:=aN x2
 clear gY x1
 refine lH 14 (by kernel_rfl) (by kernel_rfl) (fun _ _=>rfl) ?_
 repeat (first
  | (refine fF ?_;intro K hK;go_big_quiet_op;go_big_quiet_on)
  | (refine fE ?_;simp only [Act.put,sA,sB,sC]))
 refine iH (by rfl) ?_
 intro u fU
 have HU:=af (cR.out.trans fU)
 have x2:=(fU.cells.1 _ 2 dA).trans x2
 have sA:=ltT dA fU.size
 have qm:=ltT hab HU.out.size
 clear fU X1 X2 A2 hlk hlk2
 dsimp only [List.drop]
 go_wp2_with fail
 refine (Qt.out u HU.out).mono ?_
 rintro r w1 (⟨hc,_⟩ | ⟨_,rfl,fL,jL,n',hn',hS1,iT⟩)
 · exact absurd rfl hc
 have nD:¬eZ Ft Fs st ab:=HB.out.1
 have qo:¬eZ Ft Fs st mb:=HB.out.2
 have qp:¬eZ Ft Fs st xb:=fun h=>by have:=wW.out;have:=aq xb h;omega
 have d2:=(fL.cell qm nD 2).trans ((HU.out.cells.1 _ 2 hab).trans c2)
 have y2:=(fL.cell sA qp 2).trans x2
 have rU:=af (show aj (fun j=>eZ Ft Fs st j) w w1 from (HU.out.only _).then fL)
 have Ek:=af ((HM.out.ag HU.out).kept fL qo)
 have nS:=af (And.intro hn' (And.intro hS1 (fun j hj=>(iT j hj).imp id fun q=>(show w.heap.size<=j by have:=HU.out.size;omega))))
 have Ak:=aN d2
 have Qs:=aN y2
 have D2:=aU d2
 have Y2:=aU y2
 clear fL hS1 iT hn' x2 sA qm c2 nD qp Qt d2 y2
 go_upto_region 9 with fail
 refine lH 6 (by kernel_rfl) (by kernel_rfl) (fun _ _=>rfl) ?_
 repeat (first
  | (refine fF ?_;intro K hK;go_big_quiet_op;go_big_quiet_on)
  | (refine fE ?_;simp only [Act.put,sA,sB,sC]))
 refine iH (by rfl) ?_
 intro v Al
 have MC:=af Al
 clear D2 Y2 Al
 dsimp only [List.drop]
 go_wp2_with (at_delete;refine y6I rfl _ _ rfl ow Tryz.underlying105 rfl (Ek.out.ag MC.out) _ _ rfl (keyOf_int_mk Tryz.underlying3 (pA (c:=other) (by omega) (by omega))) ?_)
 intro w2 hl2 eO
 have OX:=af (And.intro hl2 eO)
 clear hl2 eO
 go_wp2_with fail
 go_ret
 obtain ⟨hn',hS1,iT⟩:=nS.out
 have eO:aj (fun j=>j=mb) w1 w2:=(MC.out.only _).then OX.out.2
 refine ⟨rfl,jL,n',hn',(rU.out.mono fun j hj=> .inl (.inl hj)).then (eO.mono fun j hj=> .inl (.inr hj)),OX.out.1,hS1.kept eO (fun j hj t=>?_) (fun j hj t=>?_) (fun t=>?_),iT⟩
 · subst t
   rcases iT j hj with a | a
   · exact qo (.inl a)
   · omega
 · subst t;exact qo (.inr (.inl hj))
 · exact qo (.inr (.inr t.symm))
theorem y9c {w:World} (ab:Nat) (e:En) (k2:e.kind=2):
    Calls Tryz.prog 51 #[.pointer (some ⟨ab,0,none⟩),e.agg] w fun r w'=>r=.returned .nilIface/\ae w w':=by
 obtain ⟨kind,ai,other,server,ak,seq,key,upto,part,parts,ops,aC,aG,av,ar,aw⟩:=e
 unfold En.agg En.vals
 dsimp only at *
 subst k2
 go_in
 go_wp2_with fail
 go_ret
 exact ⟨rfl,(ae.rf w).alloc _⟩
end
section
namespace Pl
theorem VF {lo mid hi:ByteArray} {P Q:List Pr} (hP:mS lo mid P) (hQ:mS mid hi Q) (sP:ct P) (sQ:ct Q) (hm:aP mid=false):ct (P++Q):=by
 refine ⟨fun c hc=>?_,List.pairwise_append.2 ⟨sP.gD,sQ.gD,fun a ha b hb=>?_⟩⟩
 · rcases List.mem_append.1 hc with q | q
   · exact sP.key c q
   · exact sQ.key c q
 · obtain ⟨r1,k1,_,l1⟩:=sf (hP a ha)
   obtain ⟨r2,k2,g2,_⟩:=sf (hQ b hb)
   have om:=wB (wE r2).1
   unfold cI at l1
   rw [hm,zQ4,decide_eq_true_eq] at l1
   by_cases e:bE b.key mid=0
   · rw [ug (sk k2) om e];exact l1
   · have e2:=qM om (sk k2)
     have:bE mid b.key<0:=by
      have:=qM (sk k2) om
      omega
     exact pH (sk k1) om (sk k2) l1 this
theorem VG {c d:Sh} {P Q:List Pr} (hP:mS c.lo c.hi P) (hQ:mS d.lo d.hi Q) (sP:ct P) (sQ:ct Q) (r1:bf c.lo c.hi=true) (r2:bf d.lo d.hi=true) (hz:aK (bf c.lo c.hi) (bf d.lo d.hi) c.lo c.hi d.lo d.hi=0):ct (fq c d P Q)/\(fq c d P Q).Perm (P++Q):=by
 unfold fq
 unfold aK at hz
 rw [zZ0 (by rw [r1,r2];simp)] at hz
 by_cases h1:aP c.hi=false/\c.hi.toList=d.lo.toList
 · rw [zZ1 h1]
   have e:=BI h1.2
   rw [<-e] at hQ
   exact ⟨VF hP hQ sP sQ h1.1,List.Perm.refl _⟩
 · rw [zZ0 h1] at hz ⊢
   by_cases h2:aP d.hi=false/\d.hi.toList=c.lo.toList
   · have e:=BI h2.2
     rw [<-e] at hP
     exact ⟨VF hQ hP sQ sP h2.1,List.perm_append_comm⟩
   · rw [zZ0 h2] at hz;cases hz
end Pl
namespace Pl
def tR (A:bc) (p:Pr):Prop:=∃i P S,A.st i=some (P,S)/\p∈P
theorem M8 {A:bc} {m:Nat} (h:bw A m) (hs:∀i P S,A.st i=some (P,S)->ct P) (key:ByteArray) (p:Pr):aS A key=some p↔tR A p/\p.key=key:=by
 constructor
 · intro hg
   by_cases hn:kx A.sh.xs key<0
   · rw [Vy hn] at hg;cases hg
   · obtain ⟨i,hi,af,P,S,hP,e⟩:=Qq h hn
     rw [e] at hg
     obtain ⟨h1,h2⟩:=LV (hs i P S hP) hg
     exact ⟨⟨i,P,S,hP,h1⟩,h2⟩
 · rintro ⟨⟨i,P,S,hP,hp⟩,rfl⟩
   have hg:=LW (hs i P S hP) hp
   have hh:oZ A p.key i=true:=by unfold oZ;rw [hP];dsimp only;rw [hg];rfl
   obtain ⟨hn,af⟩:=Qp h hs hh
   obtain ⟨j,hj,zk,Q,T,hQ,e⟩:=Qq h hn
   obtain rfl:i=j:=by rw [af] at zk;omega
   rw [hP] at hQ
   cases hQ
   rw [e,hg]
theorem AE {A:bc} {s:Nat} {P Q:List Pr} {S T:Int->Option An} (hA:A.st s=some (P,S)) (a:Int) (sh:df) (p:Pr) (WO:p∈Q↔p∈P):tR ⟨a,sh,cM A.st s (some (Q,T))⟩ p↔tR A p:=by
 constructor
 · rintro ⟨i,R,U,hi,hp⟩
   dsimp only at hi
   by_cases e:i=s
   · subst e
     rw [il] at hi
     cases hi
     exact ⟨i,P,S,hA,WO.1 hp⟩
   · rw [fe _ _ e] at hi
     exact ⟨i,R,U,hi,hp⟩
 · rintro ⟨i,R,U,hi,hp⟩
   by_cases e:i=s
   · subst e
     rw [hA] at hi
     cases hi
     exact ⟨i,Q,T,il _ _ _,WO.2 hp⟩
   · exact ⟨i,R,U,(fe _ _ e).trans hi,hp⟩
theorem z3L {A:bc} {s o:Nat} {P Q R:List Pr} {S T U:Int->Option An} (hA:A.st s=some (P,S)) (ho:A.st o=none) (jM:s≠o) (a:Int) (sh:df) (p:Pr) (hp:p∈P↔p∈Q\/p∈R):tR ⟨a,sh,cM (cM A.st s (some (Q,T))) o (some (R,U))⟩ p↔tR A p:=by
 constructor
 · rintro ⟨i,X,V,hi,hx⟩
   dsimp only at hi
   by_cases e:i=o
   · subst e
     rw [il] at hi
     cases hi
     exact ⟨s,P,S,hA,hp.2 (.inr hx)⟩
   · rw [fe _ _ e] at hi
     by_cases e2:i=s
     · subst e2
       rw [il] at hi
       cases hi
       exact ⟨i,P,S,hA,hp.2 (.inl hx)⟩
     · rw [fe _ _ e2] at hi
       exact ⟨i,X,V,hi,hx⟩
 · rintro ⟨i,X,V,hi,hx⟩
   by_cases e:i=o
   · rw [e,ho] at hi;cases hi
   · by_cases e2:i=s
     · subst e2
       rw [hA] at hi
       cases hi
       rcases hp.1 hx with q | q
       · exact ⟨i,Q,T,(fe _ _ e).trans (il _ _ _),q⟩
       · exact ⟨o,R,U,il _ _ _,q⟩
     · exact ⟨i,X,V,((fe _ _ e).trans (fe _ _ e2)).trans hi,hx⟩
theorem z4o {A:bc} {s o:Nat} {P Q R:List Pr} {S T U:Int->Option An} (hA:A.st s=some (P,S)) (ho:A.st o=some (Q,T)) (jM:s≠o) (a:Int) (sh:df) (p:Pr) (hp:p∈R↔p∈P\/p∈Q):tR ⟨a,sh,cM (cM A.st s (some (R,U))) o none⟩ p↔tR A p:=by
 constructor
 · rintro ⟨i,X,V,hi,hx⟩
   dsimp only at hi
   by_cases e:i=o
   · subst e
     rw [il] at hi
     cases hi
   · rw [fe _ _ e] at hi
     by_cases e2:i=s
     · subst e2
       rw [il] at hi
       cases hi
       rcases hp.1 hx with q | q
       · exact ⟨i,P,S,hA,q⟩
       · exact ⟨o,Q,T,ho,q⟩
     · rw [fe _ _ e2] at hi
       exact ⟨i,X,V,hi,hx⟩
 · rintro ⟨i,X,V,hi,hx⟩
   by_cases e:i=o
   · subst e
     rw [ho] at hi
     cases hi
     exact ⟨s,R,U,(fe _ _ jM).trans (il _ _ _),hp.2 (.inr hx)⟩
   · by_cases e2:i=s
     · subst e2
       rw [hA] at hi
       cases hi
       exact ⟨i,R,U,(fe _ _ e).trans (il _ _ _),hp.2 (.inl hx)⟩
     · exact ⟨i,X,V,((fe _ _ e).trans (fe _ _ e2)).trans hi,hx⟩
theorem z2P {P:List Pr} (h:ct P) (o:bC) (v:Int) (p:Pr) (hk:o.key≠p.key):p∈(bK P o v).1↔p∈P:=by
 unfold bK
 split
 · rw [LK h]
   exact ⟨fun q=>q.1,fun q=>⟨q,fun e=>hk e.symm⟩⟩
 · split
   · exact Iff.rfl
   · split
     · exact Iff.rfl
     · show p∈iK P _↔_
       unfold iK
       split
       · next hn=>
         rw [Hm h (FO hn).1]
         constructor
         · rintro (q | q)
           · exact absurd (by rw [q]) hk
           · exact q.1
         · intro q
           exact .inr ⟨q,fun e=>hk (by rw [e])⟩
       · exact Iff.rfl
theorem WQ (v:Int) (p:Pr):∀(ops:List bC) (P:List Pr),ct P->(∀o∈ops,o.key≠p.key)->(p∈(jz ops v P).1↔p∈P)
 | [],P,_,_=>Iff.rfl
 | o::os,P,h,hk=>by
  rw [Bq]
  have h1:=z2P h o v p (hk o (by simp))
  split
  · exact (WQ v p os _ (UK h o v) fun q hq=>hk q (by simp [hq])).trans h1
  · exact h1
theorem z2u {lo hi:ByteArray} {P:List Pr} (h:ct P) (S:Int->Option An) (e:En) (at':Int) (p:Pr) (hk:∀o∈e.ops,o.key≠p.key):p∈(eW lo hi P S e at').P↔p∈P:=by
 unfold eW
 split
 · exact Iff.rfl
 split
 · exact Iff.rfl
 split
 · exact Iff.rfl
 split
 · dsimp only
   unfold gF
   split
   · exact WQ _ p e.ops P h hk
   · exact Iff.rfl
 split<;> exact Iff.rfl
theorem WR {A:bc} {m:Nat} (h:bw A m) (hs:∀i P S,A.st i=some (P,S)->ct P) (e:En) (at':Int) (p:Pr) (hk:e.kind=1->∀o∈e.ops,o.key≠p.key):tR (bF A e at').2 p↔tR A p:=by
 unfold bF
 split
 · exact Iff.rfl
 split
 · exact Iff.rfl
 split
 · next k1=>
   cases hx:A.st e.ai.toNat with
   | none=>exact Iff.rfl
   | some v=>
    obtain ⟨P,S⟩:=v
    exact AE hx _ _ p (z2u (hs _ P S hx) S e at' p (hk k1))
 split
 · next k1 ha=>
   have hc:iq A.sh.xs A.sh.used e=true:=by unfold eQ at ha;simp only [Bool.and_eq_true] at ha;exact ha.1.1
   obtain ⟨hr,i,hi,hf,fc,bP,hkk⟩:=nz hc
   have hm:=jB hi
   have oU:=h.inv.ids _ hm
   obtain ⟨P,S,hP,hin⟩:=h.dom _ hm
   rw [bP] at hP oU
   by_cases k3:e.kind=3
   · obtain ⟨hu,o1,o2,hh,hne⟩:A.sh.used e.other.toNat=false/\1<=e.other/\e.other<=12/\aL (ah A.sh.xs i).lo (ah A.sh.xs i).hi e.key=true/\e.key.toList≠(ah A.sh.xs i).lo.toList:=by
      rcases hkk with k2 | ⟨_,q⟩ | ⟨k4,_⟩
      · omega
      · exact q
      · omega
     have dh:A.st e.other.toNat=none:=by
      cases hx:A.st e.other.toNat with
      | none=>rfl
      | some v=>
       obtain ⟨c,hc,af⟩:=h.back e.other.toNat (by rw [hx];simp)
       have:=(h.inv.ids c hc).2.2
       rw [af,Int.toNat_natCast,hu] at this
       cases this
     have jM:e.ai.toNat≠e.other.toNat:=fun e1=>by rw [e1,dh] at hP;cases hP
     have es:gS A e=cM (cM A.st e.ai.toNat (some (P.take (bh P e.key),S))) e.other.toNat (some (P.drop (bh P e.key),S)):=by
      unfold gS;rw [zZ1 k3,hP]
     rw [es]
     refine z3L hP dh jM _ _ p ?_
     rw [<-List.mem_append,List.take_append_drop]
   by_cases k4:e.kind=4
   · obtain ⟨j,hj,kF,nA,eA,_⟩:∃j,j<A.sh.xs.length/\ax A.sh.xs e.other=(j:Nat)/\l9 A.sh.xs e=j/\(ah A.sh.xs j).id=e.other/\True:=by
      rcases hkk with k2 | ⟨k3,_⟩ | ⟨_,q⟩
      · omega
      · omega
      · obtain ⟨j,a,b,c,d,_⟩:=q
        exact ⟨j,a,b,c,d,trivial⟩
     have hrs:=(BG hr k4).2.2.2.2
     have ll:=jB hj
     have mh:=h.inv.ids _ ll
     obtain ⟨Q,T,hQ,nC⟩:=h.dom _ ll
     rw [eA] at hQ mh
     have jM:e.ai.toNat≠e.other.toNat:=by omega
     have es:gS A e=cM (cM A.st e.ai.toNat (some (fq (cf A e.ai.toNat) (cf A e.other.toNat) P Q,joinL S (js T)))) e.other.toNat none:=by
      unfold gS;rw [zZ0 k3,zZ1 k4,hP,hQ]
     rw [es]
     refine z4o hP hQ jM _ _ p ?_
     unfold fq
     split
     · rw [List.mem_append]
     · rw [List.mem_append,Or.comm]
   · have es:gS A e=A.st:=by unfold gS;rw [zZ0 k3,zZ0 k4]
     rw [es]
     exact Iff.rfl
 · exact Iff.rfl
theorem z0B {A:bc} {m:Nat} (h:bw A m) (hs:∀i P S,A.st i=some (P,S)->ct P) (e:En) (at':Int) (hs2:∀i P S,(bF A e at').2.st i=some (P,S)->ct P) (key:ByteArray) (hk:e.kind=1->∀o∈e.ops,o.key≠key):aS (bF A e at').2 key=aS A key:=by
 have h2:=Gg h hs e at'
 apply Option.ext
 intro p
 rw [M8 h2 hs2,M8 h hs]
 constructor
 · rintro ⟨a,b⟩
   exact ⟨(WR h hs e at' p (by rw [b];exact hk)).1 a,b⟩
 · rintro ⟨a,b⟩
   exact ⟨(WR h hs e at' p (by rw [b];exact hk)).2 a,b⟩
end Pl
namespace Pl
def WS (A:bc) (n:Nat) (p:Pr):Prop:=∃i P S,i<n/\A.st i=some (P,S)/\p∈P
structure jD (A:bc) (n:Nat) (T:List Pr):Prop where
 ap:T.Pairwise fun a b=>a.key≠b.key
 mem:∀p,p∈T↔WS A n p
 len:T.length=((List.range n).map fun i=>fS (A.st i)).sum
theorem jD.start (A:bc):jD A 0 []:=⟨List.Pairwise.nil,fun p=>⟨fun h=>(by cases h),fun ⟨i,_,_,h,_⟩=>(by omega)⟩,rfl⟩
theorem Rv (g:Nat->Nat) (n:Nat):((List.range (n+1)).map g).sum=((List.range n).map g).sum+g n:=by
 rw [List.range_succ,List.map_append,List.sum_append]
 simp only [zJ8,List.map_nil,List.sum_cons,List.sum_nil,zX3]
theorem jD.skip {A:bc} {n:Nat} {T:List Pr} (h:jD A n T) (hn:A.st n=none):jD A (n+1) T:=by
 refine ⟨h.ap,fun p=>?_,?_⟩
 · rw [h.mem]
   constructor
   · rintro ⟨i,P,S,h1,h2,h3⟩
     exact ⟨i,P,S,by omega,h2,h3⟩
   · rintro ⟨i,P,S,h1,h2,h3⟩
     by_cases e:i=n
     · rw [e,hn] at h2;cases h2
     · exact ⟨i,P,S,by omega,h2,h3⟩
 · rw [Rv,hn]
   exact h.len
theorem EP {A:bc} {m:Nat} (h:bw A m) (hs:∀i P S,A.st i=some (P,S)->ct P) {i j:Nat} {P Q:List Pr} {S T:Int->Option An} (hi:A.st i=some (P,S)) (hj:A.st j=some (Q,T)) {p q:Pr} (hp:p∈P) (hq:q∈Q) (e:p.key=q.key):i=j:=by
 have h1:oZ A p.key i=true:=by unfold oZ;rw [hi];dsimp only;rw [LW (hs i P S hi) hp];rfl
 have h2:oZ A p.key j=true:=by unfold oZ;rw [hj];dsimp only;rw [e,LW (hs j Q T hj) hq];rfl
 have a:=(Qp h hs h1).2
 have b:=(Qp h hs h2).2
 rw [a] at b
 omega
theorem jD.join {A:bc} {m:Nat} (hok:bw A m) (hs:∀i P S,A.st i=some (P,S)->ct P) {n:Nat} {T:List Pr} (h:jD A n T) {P Dt:List Pr} {S:Int->Option An} (hn:A.st n=some (P,S)) (hT:Tt P Dt):(∀p∈Dt,b7 (isK p.key) T= -1)/\jD A (n+1) (T++Dt):=by
 have hne:∀p∈Dt,∀q∈T,q.key≠p.key:=fun p hp q hq e=>by
  obtain ⟨i,Q,U,h1,h2,h3⟩:=(h.mem q).1 hq
  have:=EP hok hs h2 hn h3 ((hT.mem p).1 hp) e
  omega
 refine ⟨fun p hp=>rL _ _ (zX2.2 fun q hq=>?_),?_,fun p=>?_,?_⟩
 · cases hk:isK p.key q with
   | false=>rfl
   | true=>exact absurd ((fN p.key q).1 hk) (hne p hp q hq)
 · rw [List.pairwise_append]
   exact ⟨h.ap,hT.ap,fun a ha b hb=>hne b hb a ha⟩
 · rw [List.mem_append,h.mem,hT.mem]
   constructor
   · rintro (⟨i,Q,U,h1,h2,h3⟩ | hp)
     · exact ⟨i,Q,U,by omega,h2,h3⟩
     · exact ⟨n,P,S,by omega,hn,hp⟩
   · rintro ⟨i,Q,U,h1,h2,h3⟩
     by_cases e:i=n
     · subst e
       rw [hn] at h2
       cases h2
       exact .inr h3
     · exact .inl ⟨i,Q,U,by omega,h2,h3⟩
 · rw [zX8,h.len,Rv,hn,<-hT.len]
   rfl
theorem AG {A:bc} {m:Nat} (h:bw A m) (p:Pr):WS A 13 p↔tR A p:=by
 constructor
 · rintro ⟨i,P,S,_,h2,h3⟩
   exact ⟨i,P,S,h2,h3⟩
 · rintro ⟨i,P,S,h2,h3⟩
   obtain ⟨c,hc,af⟩:=h.back i (by rw [h2];simp)
   have:=h.inv.ids c hc
   exact ⟨i,P,S,by omega,h2,h3⟩
theorem jD.few {A:bc} {m:Nat} (hok:bw A m) {n:Nat} {T:List Pr} (h:jD A n T) (hn:n<=13):T.length<=8*m:=by
 rw [h.len]
 refine zQ0 ?_ hok.few
 unfold wK
 have:∀d,((List.range n).map fun i=>fS (A.st i)).sum<=((List.range (n+d)).map fun i=>fS (A.st i)).sum:=by
  intro d
  induction d with
  | zero=>exact zZ3 _
  | succ d ih=>rw [<-zQ6,Rv];omega
 have:=this (13 - n)
 rwa [show n+(13 - n)=13 by omega] at this
structure nI (A:bc) (T:List Pr):Prop where
 ap:T.Pairwise fun a b=>a.key≠b.key
 mem:∀p,p∈T↔tR A p
theorem jD.all {A:bc} {m:Nat} (hok:bw A m) {T:List Pr} (h:jD A 13 T):nI A T:=⟨h.ap,fun p=>(h.mem p).trans (AG hok p)⟩
theorem nI.get {A:bc} {m:Nat} (hok:bw A m) (hs:∀i P S,A.st i=some (P,S)->ct P) {T:List Pr} (h:nI A T) (key:ByteArray):T.find? (isK key)=aS A key:=by
 cases hg:aS A key with
 | some p=>
  obtain ⟨h1,h2⟩:=(M8 hok hs key p).1 hg
  exact (Ik h.ap key p).2 ⟨(h.mem p).2 h1,h2⟩
 | none=>
  cases hf:T.find? (isK key) with
  | none=>rfl
  | some p=>
   obtain ⟨h1,h2⟩:=(Ik h.ap key p).1 hf
   have:=(M8 hok hs key p).2 ⟨(h.mem p).1 h1,h2⟩
   rw [hg] at this
   cases this
end Pl
end
end Go.Proofs.YtbnofojapimfcaaGreatDoor
