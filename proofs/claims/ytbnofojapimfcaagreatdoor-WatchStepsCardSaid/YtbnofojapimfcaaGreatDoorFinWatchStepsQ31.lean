/- Part 31 of the proof. -/
import Derived.Test.YtbnofojapimfcaaGreatDoorFinWatchStepsQ30
set_option linter.unusedVariables false
set_option linter.unusedSectionVars false
set_option linter.unusedSimpArgs false
set_option maxRecDepth 100000
set_option maxHeartbeats 16000000
namespace Go.Proofs.YtbnofojapimfcaaGreatDoor
section
open Go.RowKit Go.Maps
section
variable {W W':World} {L L':Nat->Nat} {k ab sb mb nb n n':Nat} {f:Lit->Option Value} {st:Nat->Nat} {A:bc}
theorem cG.eH (h:cG W L k ab sb mb nb n f st A) {T:Nat->Prop} (hO:aj T W W') (hT:∀j,j<W.heap.size->T j->L j≠k/\L j≠k+2) (hn:n<=n') (hL:∀j,j<W.heap.size->L' j=L j) {s':df} {f':Lit->Option Value} {st':Nat->Nat} {D:Nat->Option (List Pr×(Int->Option An))}
    (hsh:∃F,gm W' F sb s'/\∀j,F j->L' j=k+3) (hlm:∃m,m<=n'/\bL W' Tryz.prog 3 mb m f')
    (hval:∀i:Nat,f' (bW i)=(D i).map fun _=> .pointer (some ⟨st' i,0,none⟩)) (Qu:∀l,f' l≠none->∃i:Nat,l=bW i)
    (hst:∀i P S,D i=some (P,S)->i<=12/\∃c∈s'.xs,c.id=(i:Int)/\∃Ft Fs m,m<=n'/\cY W' Ft Fs (st' i) m c.lo c.hi P S/\∀j,eZ Ft Fs (st' i) j->L' j=k+20+i):cG W' L' k ab sb mb nb n' f' st' ⟨A.at_,s',D⟩:=by
 have hab:=h.wL
 obtain ⟨m1,e1,h1⟩:=h.lm
 obtain ⟨fa,m2,e2,h2⟩:=h.la
 have tab:¬T ab:=fun t=>(hT ab hab t).1 h.lab
 have tnb:¬T nb:=fun t=>(hT nb h2.lt t).2 h.jU
 exact ⟨(hO.cell hab tab 0).trans h.c0,(hO.cell hab tab 1).trans h.c1,(hO.cell hab tab 2).trans h.c2,(hO.cell hab tab 3).trans h.c3,fun q=>(hO.frozen hab tab q).trans (h.fz q),(hL ab hab).trans h.lab,(hL mb h1.lt).trans h.oQ,(hL nb h2.lt).trans h.jU,hsh,hlm,hval,Qu,⟨fa,m2,by omega,h2.kept hO tnb⟩,hst⟩
theorem cG.other (h:cG W L k ab sb mb nb n f st A) {T:Nat->Prop} (hO:aj T W W') (hL:∀j,j<W.heap.size->L' j=L j) {q:Nat} (hT:∀j,j<W.heap.size->T j->L j≠k+20+q) (hn:n<=n') {P:List Pr} {S:Int->Option An} (hq:A.st q=some (P,S)):
    q<=12/\∃c∈A.sh.xs,c.id=(q:Int)/\∃Ft Fs m,m<=n'/\cY W' Ft Fs (st q) m c.lo c.hi P S/\∀j,eZ Ft Fs (st q) j->L' j=k+20+q:=by
 obtain ⟨i12,c,hc,bN,Ft,Fs,m,hm,hS,hB⟩:=h.states q P S hq
 have ha:=hS.all
 have hn':∀j,eZ Ft Fs (st q) j->¬T j:=fun j hj t=>hT j (ha j hj) t (hB j hj)
 exact ⟨i12,c,hc,bN,Ft,Fs,m,by omega,hS.kept hO (fun x hx=>hn' x (.inl hx)) (fun x hx=>hn' x (.inr (.inl hx))) (hn' _ (.inr (.inr rfl))),fun x hx=>(hL x (ha x hx)).trans (hB x hx)⟩
theorem cG.moved (h:cG W L k ab sb mb nb n f st A) {F F':Nat->Prop} (hF:∀j,F j->L j=k+3) (hO:aj F W W') {e:En} {at':Int} (k2:e.kind=2) {i:Nat} (hi:i<A.sh.xs.length) (fc:Pl.iI A.sh.xs e=i) (hS:gm W' F' sb (Pl.aW A.sh e at')) (hF':∀j,F' j->F j\/W.heap.size<=j) (hL:∀j,j<W.heap.size->L' j=L j) (hN:∀j,W.heap.size<=j->L' j=k+3) (aq:∀j,F j->j<W.heap.size):
    cG W' L' k ab sb mb nb n f st ⟨A.at_,Pl.aW A.sh e at',A.st⟩:=by
 obtain ⟨m1,e1,h1⟩:=h.lm
 refine h.eH hO (fun j _ t=>by rw [hF j t];omega) (zZ3 _) hL ⟨F',hS,fun j hj=>?_⟩ ⟨m1,e1,h1.kept hO fun t=>by have:=hF mb t;have:=h.oQ;omega⟩ h.val h.lit fun q P S hq=>?_
 · rcases hF' j hj with t | t
   · rw [hL j (aq j t),hF j t]
   · exact hN j t
 · obtain ⟨i12,c,hc,bN,rest⟩:=h.other hO hL (q:=q) (fun j _ t=>by rw [hF j t];omega) (zZ3 _) hq
   obtain ⟨kk,hkk,rfl⟩:=Pl.yL hc
   have ex:(Pl.aW A.sh e at').xs=A.sh.xs.set i ⟨(ah A.sh.xs i).id,e.server,(ah A.sh.xs i).since,(ah A.sh.xs i).lo,(ah A.sh.xs i).hi⟩:=by
    unfold Pl.aW;rw [zZ1 k2,fc]
   refine ⟨i12,ah (Pl.aW A.sh e at').xs kk,?_,?_,?_⟩
   · rw [ex];exact Pl.jB (by rw [List.length_set];exact hkk)
   · rw [ex,Pl.qb _ _ hi]
     by_cases e2:kk=i
     · rw [zZ1 e2,<-bN,e2]
     · rw [zZ0 e2];exact bN
   · rw [ex,Pl.qb _ _ hi]
     by_cases e2:kk=i
     · rw [zZ1 e2];subst e2;exact rest
     · rw [zZ0 e2];exact rest
end
open Classical in
theorem cG.split {W V W':World} {L:Nat->Nat} {k ab sb mb nb n:Nat} {f:Lit->Option Value} {st:Nat->Nat} {A:bc} {m0:Nat} (h:cG W L k ab sb mb nb n f st A) (bq:bw A m0) {F F':Nat->Prop} (hF:∀j,F j->L j=k+3) (aq:∀j,F j->j<W.heap.size) (hO:aj F W V) {e:En} {at':Int} (ha:Pl.eQ A.sh.xs A.sh.used e at'=true) (k3:e.kind=3)
    (hS:gm V F' sb (Pl.aW A.sh e at')) (hF':∀j,F' j->F j\/W.heap.size<=j) {P:List Pr} {S:Int->Option An} (hst:A.st e.ai.toNat=some (P,S)) {c:Sh} (hc:c∈A.sh.xs) (bN:c.id=(e.ai.toNat:Int)) {Ft Fs:Nat->Prop} {m n1:Nat} (hm:m<=n) (lF:n1<=n) (hB:∀j,eZ Ft Fs (st e.ai.toNat) j->L j=k+20+e.ai.toNat) (hBlt:∀j,eZ Ft Fs (st e.ai.toNat) j->j<W.heap.size)
    (hC:VC V Ft Fs (st e.ai.toNat) mb m n1 f c.lo c.hi e.key P S e.other W'):
    aj (fun j=>br k (L j)) W W'/\∃L',(∀j,j<W.heap.size->L' j=L j)/\(∀j,W.heap.size<=j->br k (L' j))/\bQ W' L' k ab (n+1) ⟨A.at_,Pl.aW A.sh e at',Pl.gS A e⟩:=by
 have hcb:Pl.iq A.sh.xs A.sh.used e=true:=by unfold Pl.eQ at ha;simp only [Bool.and_eq_true] at ha;exact ha.1.1
 obtain ⟨hr,i,hi,hf,fc,bP,hk⟩:=Pl.nz hcb
 obtain ⟨hu,o1,o2,hh,hne⟩:A.sh.used e.other.toNat=false/\1<=e.other/\e.other<=12/\Pl.aL (ah A.sh.xs i).lo (ah A.sh.xs i).hi e.key=true/\e.key.toList≠(ah A.sh.xs i).lo.toList:=by
  rcases hk with k2 | ⟨_,q⟩ | ⟨k4,_⟩
  · omega
  · exact q
  · omega
 have iP:=Pl.jB hi
 have oU:=bq.inv.ids _ iP
 have jQ:c=ah A.sh.xs i:=by
  rw [<-Pl.jh bq hc bN,Pl.jh bq iP (i:=e.ai.toNat) (by omega)]
 have dh:A.st e.other.toNat=none:=by
  cases hx:A.st e.other.toNat with
  | none=>rfl
  | some v=>
   obtain ⟨x,hx1,af⟩:=bq.back e.other.toNat (by rw [hx];simp)
   have:=(bq.inv.ids x hx1).2.2
   rw [af,Int.toNat_natCast,hu] at this
   cases this
 have jM:e.ai.toNat≠e.other.toNat:=fun e1=>by rw [e1,dh] at hst;cases hst
 have es:Pl.gS A e=cM (cM A.st e.ai.toNat (some (P.take (Pl.bh P e.key),S))) e.other.toNat (some (P.drop (Pl.bh P e.key),S)):=by
  unfold Pl.gS;rw [zZ1 k3,hst]
 have ex:(Pl.aW A.sh e at').xs=Pl.iU A.sh.xs i e.key e.other e.server at':=by
  unfold Pl.aW;rw [zZ0 (by omega),zZ1 k3,fc]
 obtain ⟨ob,jL,Go,Gs,eO,Jt,hS1,jq,Eo,gL⟩:=hC
 obtain ⟨q,hq⟩:∃q,q=e.ai.toNat:=⟨_,rfl⟩
 obtain ⟨o,ho⟩:∃o,o=e.other.toNat:=⟨_,rfl⟩
 have hoi:e.other=(o:Int):=by omega
 rw [<-hq] at hst bN hB hBlt eO hS1 gL jM es
 rw [<-ho] at dh jM es
 rw [hoi] at Jt
 have Ju:=hO.size
 have hVW:=eO.size
 have hlm:=h.oQ
 have Ep:mb<W.heap.size:=by obtain ⟨_,_,x⟩:=h.lm;exact x.lt
 obtain ⟨T,hT⟩:∃T:Nat->Prop,T=fun j=>F j\/eZ Ft Fs (st q) j\/j=mb:=⟨_,rfl⟩
 have qq:aj T W W':=by
  rw [hT]
  refine (hO.mono fun j hj=> .inl (.inl hj)).then (eO.mono fun j hj=> .inl ?_)
  rcases hj with t | t | t
  · exact .inr (.inl (.inr (.inr t)))
  · exact .inr (.inl (.inl t))
  · exact .inr (.inr t)
 have qs:∀j,T j->L j=k+3\/L j=k+20+q\/L j=k+1:=fun j hj=>by
  rw [hT] at hj
  rcases hj with t | t | t
  · exact .inl (hF j t)
  · exact .inr (.inl (hB j t))
  · exact .inr (.inr (by rw [t];exact hlm))
 have o6:=(h.states q P S hst).1
 refine ⟨qq.mono fun j hj=> .inl (by unfold br;rcases qs j hj with t | t | t<;> omega),fun j=>if j<W.heap.size then L j else if j<V.heap.size then k+3 else if eZ Go Gs ob j then k+20+o else k+20+q,fun j hj=>zZ1 hj,fun j hj=>?_,sb,mb,nb,fC f (bW o) (some (.pointer (some ⟨ob,0,none⟩))),fun z=>if z=o then ob else st z,?_⟩
 · dsimp only
   rw [zZ0 (by omega)]
   unfold br
   repeat' split
   all_goals omega
 refine h.eH (n':=n+1) qq (fun j _ t=>by rcases qs j t with t | t | t<;> omega) (by omega) (fun j hj=>zZ1 hj) ⟨F',hS.kept eO (fun j hj t=>?_),fun j hj=>?_⟩ ⟨m+1,by omega,Jt⟩ (fun z=>?_) (fun l hl=>?_) (fun z P2 S2 hz=>?_)
 · -- the map of shards is none of a MD blocks
   have hj':L j=k+3/\j<W.heap.size\/W.heap.size<=j:=by
    rcases hF' j hj with t2 | t2
    · exact .inl ⟨hF j t2,aq j t2⟩
    · exact .inr t2
   have hjm:j<W.heap.size->L j=k+3:=fun hl=>by rcases hj' with a | a;exact a.1;omega
   rcases t with t | t | t
   · have a:=hB (st q) (.inr (.inr rfl));have b:=hBlt (st q) (.inr (.inr rfl));subst t;have:=hjm b;omega
   · have a:=hB j (.inl t);have b:=hBlt j (.inl t);have:=hjm b;omega
   · subst t;have:=hjm Ep;omega
 · have Er:=hS.lt j hj
   rcases hF' j hj with t2 | t2
   · rw [zZ1 (aq j t2)];exact hF j t2
   · rw [zZ0 (by omega),zZ1 Er]
 · rw [es]
   by_cases e1:z=o
   · subst e1;rw [Ql,il,zZ1 rfl];rfl
   · rw [Gh _ _ (fun x=>e1 (Qm x)),fe _ _ e1,zZ0 e1,h.val]
     by_cases e2:z=q
     · subst e2;rw [il,hst];rfl
     · rw [fe _ _ e2]
 · by_cases e1:l=bW o
   · exact ⟨o,e1⟩
   · rw [Gh _ _ e1] at hl;exact h.lit l hl
 · rw [es] at hz
   by_cases e1:z=o
   · subst e1
     rw [il] at hz
     cases hz
     refine ⟨by omega,⟨e.other,e.server,at'+1,e.key,(ah A.sh.xs i).hi⟩,by rw [ex];unfold Pl.iU;simp,hoi,Go,Gs,n1,by omega,?_,fun j hj=>?_⟩
     · rw [zZ1 rfl];rw [jQ] at jq;exact jq
     · rw [zZ1 rfl] at hj
       have:=(gL j hj).1
       rw [zZ0 (by omega),zZ0 (by omega),zZ1 hj]
   · rw [fe _ _ e1] at hz
     by_cases e2:z=q
     · subst e2
       rw [il] at hz
       cases hz
       refine ⟨o6,⟨(ah A.sh.xs i).id,(ah A.sh.xs i).server,at'+1,(ah A.sh.xs i).lo,e.key⟩,by rw [ex];unfold Pl.iU;simp,by rw [<-bN,jQ],jL,Fs,n1,by omega,?_,fun j hj=>?_⟩
       · rw [zZ0 e1];rw [jQ] at hS1;exact hS1
       · rw [zZ0 e1] at hj
         have old:∀y,eZ Ft Fs (st z) y->y=j->(if j<W.heap.size then L j else if j<V.heap.size then k+3 else if eZ Go Gs ob j then k+20+o else k+20+z)=k+20+z:=fun y hy e=>by
          subst e;rw [zZ1 (hBlt y hy)];exact hB y hy
         rcases hj with t | t | t
         · rcases Eo j t with t2 | t2
           · exact old j (.inl t2) rfl
           · rw [zZ0 (by omega),zZ0 (by omega),zZ0 (fun x=>(gL j x).2 (.inl t))]
         · exact old j (.inr (.inl t)) rfl
         · exact old j (.inr (.inr t)) rfl
     · rw [fe _ _ e2] at hz
       rw [zZ0 e1]
       obtain ⟨i12,x,hx,jV,rest⟩:=h.other (n':=n+1) (L':=fun j=>if j<W.heap.size then L j else if j<V.heap.size then k+3 else if eZ Go Gs ob j then k+20+o else k+20+q) qq (fun j hj=>zZ1 hj) (q:=z) (fun j _ t=>by rcases qs j t with t | t | t<;> omega) (by omega) hz
       obtain ⟨kk,hkk,rfl⟩:=Pl.yL hx
       have wR:kk≠i:=fun e3=>e2 (by rw [e3,bP] at jV;omega)
       exact ⟨i12,_,by rw [ex];exact Pl.Qk hkk wR,jV,rest⟩
theorem cG.merge {W V W':World} {L:Nat->Nat} {k ab sb mb nb n:Nat} {f:Lit->Option Value} {st:Nat->Nat} {A:bc} {m0:Nat} (h:cG W L k ab sb mb nb n f st A) (bq:bw A m0) {F F':Nat->Prop} (hF:∀j,F j->L j=k+3) (aq:∀j,F j->j<W.heap.size) (hO:aj F W V) {e:En} {at':Int} (ha:Pl.eQ A.sh.xs A.sh.used e at'=true) (k4:e.kind=4)
    (hS:gm V F' sb (Pl.aW A.sh e at')) (hF':∀j,F' j->F j\/W.heap.size<=j) {P Q:List Pr} {S T:Int->Option An} (hst:A.st e.ai.toNat=some (P,S)) (hsu:A.st e.other.toNat=some (Q,T)) {c d:Sh} (hc:c∈A.sh.xs) (bN:c.id=(e.ai.toNat:Int)) (hd:d∈A.sh.xs) (mj:d.id=(e.other.toNat:Int)) {Ft Fs:Nat->Prop} {m n1:Nat} (hm:m<=n) (lF:n1<=n) (hB:∀j,eZ Ft Fs (st e.ai.toNat) j->L j=k+20+e.ai.toNat) (hBlt:∀j,eZ Ft Fs (st e.ai.toNat) j->j<W.heap.size)
    (hC:VE V Ft Fs (st e.ai.toNat) mb m n1 f (Pl.aH (Pl.bf c.lo c.hi) (Pl.bf d.lo d.hi) c.lo c.hi d.lo d.hi) (Pl.fq c d P Q) (joinL S (js T)) e.other W'):
    aj (fun j=>br k (L j)) W W'/\∃L',(∀j,j<W.heap.size->L' j=L j)/\(∀j,W.heap.size<=j->br k (L' j))/\bQ W' L' k ab (n+4) ⟨A.at_,Pl.aW A.sh e at',Pl.gS A e⟩:=by
 have hcb:Pl.iq A.sh.xs A.sh.used e=true:=by unfold Pl.eQ at ha;simp only [Bool.and_eq_true] at ha;exact ha.1.1
 obtain ⟨hr,i,hi,hf,fc,bP,hk⟩:=Pl.nz hcb
 obtain ⟨jj,hj,kF,nA,eA,hz⟩:∃j,j<A.sh.xs.length/\Pl.ax A.sh.xs e.other=(j:Nat)/\Pl.l9 A.sh.xs e=j/\(ah A.sh.xs j).id=e.other/\Pl.aK (Pl.bf (ah A.sh.xs i).lo (ah A.sh.xs i).hi) (Pl.bf (ah A.sh.xs j).lo (ah A.sh.xs j).hi) (ah A.sh.xs i).lo (ah A.sh.xs i).hi (ah A.sh.xs j).lo (ah A.sh.xs j).hi=0:=by
  rcases hk with k2 | ⟨k3,_⟩ | ⟨_,q⟩
  · omega
  · omega
  · exact q
 clear hk
 have hrs:=(Pl.BG hr k4).2.2.2.2
 have iP:=Pl.jB hi
 have ll:=Pl.jB hj
 have nB:=bq.inv.ids _ iP
 have mh:=bq.inv.ids _ ll
 have hij:i≠jj:=fun e1=>hrs (by rw [<-bP,<-eA,e1])
 have hsc:Pl.cf A e.ai.toNat=c:=Pl.jh bq hc bN
 have Jv:Pl.cf A e.other.toNat=d:=Pl.jh bq hd mj
 have jQ:c=ah A.sh.xs i:=by rw [<-hsc,Pl.jh bq iP (i:=e.ai.toNat) (by omega)]
 have BL:d=ah A.sh.xs jj:=by rw [<-Jv,Pl.jh bq ll (i:=e.other.toNat) (by omega)]
 have jM:e.ai.toNat≠e.other.toNat:=fun e1=>hrs (by omega)
 have es:Pl.gS A e=cM (cM A.st e.ai.toNat (some (Pl.fq c d P Q,joinL S (js T)))) e.other.toNat none:=by
  unfold Pl.gS;rw [zZ0 (by omega),zZ1 k4,hst,hsu]
  dsimp only
  rw [hsc,Jv]
 have ex:(Pl.aW A.sh e at').xs=Pl.ja A.sh.xs i jj (Pl.aH (Pl.bf c.lo c.hi) (Pl.bf d.lo d.hi) c.lo c.hi d.lo d.hi) at':=by
  unfold Pl.aW;rw [zZ0 (by omega),zZ0 (by omega),fc,nA,jQ,BL]
 generalize Pl.aH (Pl.bf c.lo c.hi) (Pl.bf d.lo d.hi) c.lo c.hi d.lo d.hi=vv at *
 obtain ⟨jL,n',hn',eO,Jt,hS1,Eo⟩:=hC
 obtain ⟨q,hq⟩:∃q,q=e.ai.toNat:=⟨_,rfl⟩
 obtain ⟨o,ho⟩:∃o,o=e.other.toNat:=⟨_,rfl⟩
 have hoi:e.other=(o:Int):=by omega
 rw [<-hq] at hst bN hB hBlt eO hS1 jM es
 rw [<-ho] at hsu jM es
 rw [hoi] at Jt
 have Ju:=hO.size
 have hVW:=eO.size
 have hlm:=h.oQ
 have Ep:mb<W.heap.size:=by obtain ⟨_,_,x⟩:=h.lm;exact x.lt
 obtain ⟨T',hT⟩:∃T':Nat->Prop,T'=fun j=>F j\/eZ Ft Fs (st q) j\/j=mb:=⟨_,rfl⟩
 have qq:aj T' W W':=by
  rw [hT]
  refine (hO.mono fun j hj=> .inl (.inl hj)).then (eO.mono fun j hj=> .inl (.inr hj))
 have qs:∀j,T' j->L j=k+3\/L j=k+20+q\/L j=k+1:=fun j hj=>by
  rw [hT] at hj
  rcases hj with t | t | t
  · exact .inl (hF j t)
  · exact .inr (.inl (hB j t))
  · exact .inr (.inr (by rw [t];exact hlm))
 have o6:=(h.states q P S hst).1
 refine ⟨qq.mono fun j hj=> .inl (by unfold br;rcases qs j hj with t | t | t<;> omega),fun j=>if j<W.heap.size then L j else if j<V.heap.size then k+3 else k+20+q,fun j hj=>zZ1 hj,fun j hj=>?_,sb,mb,nb,fC f (bW o) none,st,?_⟩
 · dsimp only
   rw [zZ0 (by omega)]
   unfold br
   repeat' split
   all_goals omega
 refine h.eH (n':=n+4) qq (fun j _ t=>by rcases qs j t with t | t | t<;> omega) (by omega) (fun j hj=>zZ1 hj) ⟨F',hS.kept eO (fun j hj t=>?_),fun j hj=>?_⟩ ⟨m,by omega,Jt⟩ (fun z=>?_) (fun l hl=>?_) (fun z P2 S2 hz=>?_)
 · have hj':L j=k+3/\j<W.heap.size\/W.heap.size<=j:=by
    rcases hF' j hj with t2 | t2
    · exact .inl ⟨hF j t2,aq j t2⟩
    · exact .inr t2
   have hjm:j<W.heap.size->L j=k+3:=fun hl=>by rcases hj' with a | a;exact a.1;omega
   rcases t with t | t
   · have a:=hB j t;have b:=hBlt j t;have:=hjm b;omega
   · subst t;have:=hjm Ep;omega
 · have Er:=hS.lt j hj
   rcases hF' j hj with t2 | t2
   · rw [zZ1 (aq j t2)];exact hF j t2
   · rw [zZ0 (by omega),zZ1 Er]
 · rw [es]
   by_cases e1:z=o
   · subst e1;rw [Ql,il];rfl
   · rw [Gh _ _ (fun x=>e1 (Qm x)),fe _ _ e1,h.val]
     by_cases e2:z=q
     · subst e2;rw [il,hst];rfl
     · rw [fe _ _ e2]
 · by_cases e1:l=bW o
   · exact ⟨o,e1⟩
   · rw [Gh _ _ e1] at hl;exact h.lit l hl
 · rw [es] at hz
   by_cases e1:z=o
   · subst e1
     rw [il] at hz
     cases hz
   · rw [fe _ _ e1] at hz
     by_cases e2:z=q
     · subst e2
       rw [il] at hz
       cases hz
       refine ⟨o6,_,by rw [ex];exact Pl.Gf hi (k:=i) hi hij,by rw [zZ1 rfl];dsimp only;rw [<-bN,jQ],jL,Fs,n',by omega,by rw [zZ1 rfl];exact hS1,fun j hj=>?_⟩
       have old:∀y,eZ Ft Fs (st z) y->y=j->(if j<W.heap.size then L j else if j<V.heap.size then k+3 else k+20+z)=k+20+z:=fun y hy e=>by
        subst e;rw [zZ1 (hBlt y hy)];exact hB y hy
       rcases hj with t | t | t
       · rcases Eo j t with t2 | t2
         · exact old j (.inl t2) rfl
         · rw [zZ0 (by omega),zZ0 (by omega)]
       · exact old j (.inr (.inl t)) rfl
       · exact old j (.inr (.inr t)) rfl
     · rw [fe _ _ e2] at hz
       obtain ⟨i12,x,hx,jV,rest⟩:=h.other (n':=n+4) (L':=fun j=>if j<W.heap.size then L j else if j<V.heap.size then k+3 else k+20+q) qq (fun j hj=>zZ1 hj) (q:=z) (fun j _ t=>by rcases qs j t with t | t | t<;> omega) (by omega) hz
       obtain ⟨kk,hkk,rfl⟩:=Pl.yL hx
       have wR:kk≠i:=fun e3=>e2 (by rw [e3,bP] at jV;omega)
       have hkj:kk≠jj:=fun e3=>e1 (by rw [e3,eA] at jV;omega)
       have:=Pl.Gf (v:=vv) (at':=at') hi (j:=jj) (k:=kk) hkk hkj
       rw [zZ0 wR] at this
       exact ⟨i12,_,by rw [ex];exact this,jV,rest⟩
end
section
open Go.RowKit Go.Maps
attribute [local go_sem] Oper.semAt_some aT
theorem bQ.mono {W:World} {L:Nat->Nat} {k ab n n':Nat} {A:bc} (h:bQ W L k ab n A) (hn:n<=n'):bQ W L k ab n' A:=by
 obtain ⟨sb,mb,nb,f,st,h⟩:=h
 exact ⟨sb,mb,nb,f,st,h.mono hn⟩
theorem nV.still {W W':World} {L:Nat->Nat} {k ab n n':Nat} {A:bc} (h:bQ W L k ab n A) (g:ae W W') (hn:n<=n'):nV W L k ab n' A W':=by
 refine ⟨g.only _,fun j=>if j<W.heap.size then L j else k+50,fun j hj=>zZ1 hj,fun j hj=>?_,(h.mono hn).kept (g.only fun _=>False) (fun _ _ h=>h.elim) fun j hj=>zZ1 hj⟩
 dsimp only
 rw [zZ0 (by omega)]
 unfold br;omega
theorem nV.mono {W W':World} {L:Nat->Nat} {k ab n n':Nat} {A:bc} (h:nV W L k ab n A W') (hn:n<=n'):nV W L k ab n' A W':=by
 obtain ⟨h1,L',h2,h3,h4⟩:=h
 exact ⟨h1,L',h2,h3,h4.mono hn⟩
theorem nV.step {W V W':World} {L L1:Nat->Nat} {k ab n:Nat} {A:bc} (hO:aj (fun j=>br k (L j)) W V) (hL:∀j,j<W.heap.size->L1 j=L j) (hN:∀j,W.heap.size<=j->br k (L1 j)) (h:nV V L1 k ab n A W'):nV W L k ab n A W':=by
 obtain ⟨h1,L',h2,h3,h4⟩:=h
 have hs:=hO.size
 refine ⟨hO.trans h1 fun j hj=>?_,L',fun j hj=>(h2 j (by omega)).trans (hL j hj),fun j hj=>?_,h4⟩
 · rcases Nat.lt_or_ge j W.heap.size with q | q
   · rw [hL j q] at hj;exact .inl hj
   · exact .inr q
 · rcases Nat.lt_or_ge j V.heap.size with q | q
   · rw [h2 j q];exact hN j hj
   · exact h3 j q
theorem cG.BM {W Y:World} {L:Nat->Nat} {k ab sb mb nb n:Nat} {f:Lit->Option Value} {st:Nat->Nat} {A:bc} (h:cG W L k ab sb mb nb n f st A) (g:ae W Y) (a:Int):∃L1,(∀j,j<W.heap.size->L1 j=L j)/\(∀j,W.heap.size<=j->L1 j=k+50)/\aj (fun j=>br k (L j)) W (Y.setCell ⟨ab,0,none⟩ (.int .i64 a))/\cG (Y.setCell ⟨ab,0,none⟩ (.int .i64 a)) L1 k ab sb mb nb n f st ⟨a,A.sh,A.st⟩:=by
 have hr:=h.wV (L':=fun j=>if j<W.heap.size then L j else k+50) g (fun j hj=>zZ1 hj)
 have hlab:=h.lab
 refine ⟨fun j=>if j<W.heap.size then L j else k+50,fun j hj=>zZ1 hj,fun j hj=>zZ0 (by omega),(g.only _).then ((aj.setCell Y ⟨ab,0,none⟩ _).mono fun j hj=> .inl ?_),hr.gone a⟩
 have:j=ab:=hj
 subst this
 unfold br;omega
theorem z0x (E:Nat->Addr) {W V:World} (hE:aY jC E V) {L:Nat->Nat} {k ab sb mb nb n m0:Nat} {f:Lit->Option Value} {st:Nat->Nat} {A:bc} (h:cG W L k ab sb mb nb n f st A) (bq:bw A m0) (hm0:m0<=120) (hn:n<=100000) {F F':Nat->Prop} (hF:∀j,F j->L j=k+3) (aq:∀j,F j->j<W.heap.size) (hO:aj F W V) {e:En} {at':Int} (ha:Pl.eQ A.sh.xs A.sh.used e at'=true)
    (hS:gm V F' sb (Pl.aW A.sh e at')) (hF':∀j,F' j->F j\/W.heap.size<=j) (kK:e.key.size<=300):
    Calls Tryz.prog 51 #[.pointer (some ⟨ab,0,none⟩),e.agg] V fun r w'=>r=.returned .nilIface/\nV W L k ab (n+4) ⟨A.at_,Pl.aW A.sh e at',Pl.gS A e⟩ w':=by
 have hcb:Pl.iq A.sh.xs A.sh.used e=true:=by unfold Pl.eQ at ha;simp only [Bool.and_eq_true] at ha;exact ha.1.1
 obtain ⟨hr,i,hi,hf,fc,bP,hk⟩:=Pl.nz hcb
 have iP:=Pl.jB hi
 have nB:=bq.inv.ids _ iP
 have hab:=h.wL
 have nab:¬F ab:=fun t=>by have:=hF ab t;have:=h.lab;omega
 have VH:¬F mb:=fun t=>by have:=hF mb t;have:=h.oQ;omega
 have c2:=(hO.cell hab nab 2).trans h.c2
 obtain ⟨m1,e1,h1⟩:=h.lm
 have hlm:=h1.kept hO VH
 have fP:∀q P S,A.st q=some (P,S)->Pl.ct P:=fun q P S hq=>by
  obtain ⟨_,c,_,_,Ft,Fs,m,_,⟨tb,sb',hT⟩,_⟩:=h.states q P S hq
  exact FM hT.tab
 have few:∀q P S,q<13->A.st q=some (P,S)->P.length<=1000:=fun q P S hq hA=>by
  have a:=Eg A.st q hq
  have b:=bq.few
  rw [hA] at a
  unfold fS at a
  dsimp only at a
  omega
 rcases hk with k2 | ⟨k3,hu,o1,o2,hh,hne⟩ | ⟨k4,jj,hj,kF,nA,eA,hz⟩
 · refine (y9c ab e k2).mono ?_
   rintro r w' ⟨rfl,g⟩
   have es:Pl.gS A e=A.st:=by unfold Pl.gS;rw [zZ0 (by omega),zZ0 (by omega)]
   have eO:aj F W w':=hO.cm g
   refine ⟨rfl,eO.mono fun j hj=> .inl (by unfold br;have:=hF j hj;omega),fun j=>if j<W.heap.size then L j else k+3,fun j hj=>zZ1 hj,fun j hj=>?_,sb,mb,nb,f,st,?_⟩
   · dsimp only;rw [zZ0 (by omega)];unfold br;omega
   · rw [es]
     exact (h.moved hF eO k2 hi fc (hS.ag g) hF' (fun j hj=>zZ1 hj) (fun j hj=>zZ0 (by omega)) aq).mono (by omega)
 · obtain ⟨P,S,hP,hin⟩:=bq.dom _ iP
   rw [bP] at hP nB
   obtain ⟨i12,c,hc,bN,Ft,Fs,m,hm,mi,hB⟩:=h.states _ P S hP
   have jQ:c=ah A.sh.xs i:=by rw [<-Pl.jh bq hc bN,Pl.jh bq iP (i:=e.ai.toNat) (by omega)]
   have hsz:=bq.sz c hc
   have Es:∀j,eZ Ft Fs (st e.ai.toNat) j->¬F j:=fun j hj t=>by have:=hB j hj;have:=hF j t;omega
   have hfv:=h.val e.ai.toNat
   rw [hP,show ((e.ai.toNat:Nat):Int)=e.ai by omega] at hfv
   refine (y7U E hE e k3 (by omega) (by omega) (by omega) (by omega) c2 hlm (by omega) hfv (mi.kept hO (fun j hj=>Es j (.inl hj)) (fun j hj=>Es j (.inr (.inl hj))) (Es _ (.inr (.inr rfl)))) ⟨fun t=>by have:=hB ab t;have:=h.lab;omega,fun t=>by have:=hB mb t;have:=h.oQ;omega,fun t=>by have:=h.lab;have:=h.oQ;rw [t] at *;omega⟩ (few _ P S (by omega) hP) hsz.1 hsz.2 kK (by rw [jQ];exact Pl.Ml hh hne)).mono ?_
   rintro r w' ⟨rfl,hC⟩
   refine ⟨rfl,nV.mono (n:=n+1) ?_ (by omega)⟩
   exact h.split bq hF aq hO ha k3 hS hF' hP hc bN (by omega) hm hB mi.all hC
 · obtain ⟨P,S,hP,oV⟩:=bq.dom _ iP
   have ll:=Pl.jB hj
   have mh:=bq.inv.ids _ ll
   obtain ⟨Q,T,hQ,nC⟩:=bq.dom _ ll
   rw [bP] at hP nB
   rw [eA] at hQ mh
   have hrs:=(Pl.BG hr k4).2.2.2.2
   have jM:e.ai.toNat≠e.other.toNat:=by omega
   obtain ⟨i12,c,hc,bN,Ft,Fs,m,hm,mi,hB⟩:=h.states _ P S hP
   obtain ⟨j12,d,hd,mj,Gt,Gs,m2,hm2,Et,hG⟩:=h.states _ Q T hQ
   have jQ:c=ah A.sh.xs i:=by rw [<-Pl.jh bq hc bN,Pl.jh bq iP (i:=e.ai.toNat) (by omega)]
   have BL:d=ah A.sh.xs jj:=by rw [<-Pl.jh bq hd mj,Pl.jh bq ll (i:=e.other.toNat) (by omega)]
   have hsz:=bq.sz c hc
   have sD:=bq.sz d hd
   have Es:∀j,eZ Ft Fs (st e.ai.toNat) j->¬F j:=fun j hj t=>by have:=hB j hj;have:=hF j t;omega
   have Qv:∀j,eZ Gt Gs (st e.other.toNat) j->¬F j:=fun j hj t=>by have:=hG j hj;have:=hF j t;omega
   have hfv:=h.val e.ai.toNat
   rw [hP,show ((e.ai.toNat:Nat):Int)=e.ai by omega] at hfv
   have VI:=h.val e.other.toNat
   rw [hQ,show ((e.other.toNat:Nat):Int)=e.other by omega] at VI
   have ri:=bq.chain.right i hi
   have rj:=bq.chain.right jj hj
   rw [<-jQ] at oV ri hz
   rw [<-BL] at nC rj hz
   refine (y8j E hE e k4 (by omega) (by omega) (by omega) (by omega) c2 hlm hfv VI (mi.kept hO (fun j hj=>Es j (.inl hj)) (fun j hj=>Es j (.inr (.inl hj))) (Es _ (.inr (.inr rfl)))) (Et.kept hO (fun j hj=>Qv j (.inl hj)) (fun j hj=>Qv j (.inr (.inl hj))) (Qv _ (.inr (.inr rfl)))) (fun j hj t=>by have:=hG j hj;have:=hB j t;omega) ⟨fun t=>by have:=hB ab t;have:=h.lab;omega,fun t=>by have:=hB mb t;have:=h.oQ;omega⟩ (Pl.VG oV nC (fP _ P S hP) (fP _ Q T hQ) ri rj hz) (few _ P S (by omega) hP) (few _ Q T (by omega) hQ) (by omega) (by omega) hsz.1 hsz.2 sD.1 sD.2 hz).mono ?_
   rintro r w' ⟨rfl,hC⟩
   exact ⟨rfl,h.merge bq hF aq hO ha k4 hS hF' hP hQ hc bN hd mj (by omega) hm hB mi.all hC⟩
theorem Gl:iW jC:=⟨rfl,rfl,rfl,rfl⟩
theorem z0R (E:Nat->Addr) {W:World} {L:Nat->Nat} {k ab n:Nat} {A:bc} (hE:aY jC E W) (h:bQ W L k ab n A) (e:En) (hA:bG W e) (at':Int) (hr:Pl.bR e=false):
    Calls Tryz.prog 22 #[.pointer (some ⟨ab,0,none⟩),e.agg,.int .i64 at'] W fun r w'=>r=.returned (aX E 4)/\ae W w':=by
 have g4:W.cell? ⟨0,0,none⟩=some (.iface 337 (.pointer (some (E 4)))):=hE.cell 4 rfl
 have b4:=aN g4
 have HR:=af (fun X (g:ae W X)=>py Gl E e X (hE.ag g) (hA.ag g))
 rw [hr] at HR
 clear hE hA h hr
 obtain ⟨kind,ai,other,server,ak,seq,key,upto,part,parts,ops,aC,aG,av,ar,aw⟩:=e
 unfold En.agg En.vals at *
 dsimp only at *
 go_in
 go_wp2_with fail
 refine (HR.out _ ((ae.rf W).alloc _)).mono ?_
 rintro e w1 ⟨rfl,hg⟩
 have hG:=((ae.rf W).alloc _).trans hg
 have g4:=(hG.cells.1 _ 0 b4).trans g4
 have b4:=ltT b4 hG.size
 have HG:=af hG
 clear hg hG HR
 go_wp2_with fail
 go_ret
 exact ⟨rfl,HG.out⟩
theorem y9w (E:Nat->Addr) {W:World} {L:Nat->Nat} {k ab n:Nat} {A:bc} (hE:aY jC E W) (h:bQ W L k ab n A) (e:En) (hA:bG W e) (at':Int) (hr:Pl.bR e=true) (hat:at'<A.at_\/at'<0\/4096<=at'):
    Calls Tryz.prog 22 #[.pointer (some ⟨ab,0,none⟩),e.agg,.int .i64 at'] W fun r w'=>r=.returned (aX E 1)/\ae W w':=by
 have g1:W.cell? ⟨1,0,none⟩=some (.iface 337 (.pointer (some (E 1)))):=hE.cell 1 rfl
 have b1:=aN g1
 obtain ⟨sb,mb,nb,f,st,h⟩:=h
 have c0:=h.c0
 have hab:=aN c0
 have HR:=af (fun X (g:ae W X)=>py Gl E e X (hE.ag g) (hA.ag g))
 rw [hr] at HR
 clear hE hA h hr
 obtain ⟨kind,ai,other,server,ak,seq,key,upto,part,parts,ops,aC,aG,av,ar,aw⟩:=e
 unfold En.agg En.vals at *
 dsimp only at *
 go_in
 go_wp2_with fail
 refine (HR.out _ ((ae.rf W).alloc _)).mono ?_
 rintro e w1 ⟨rfl,hg⟩
 have hG:=((ae.rf W).alloc _).trans hg
 have g1:=(hG.cells.1 _ 0 b1).trans g1
 have b1:=ltT b1 hG.size
 have c0:=(hG.cells.1 _ 0 hab).trans c0
 have hab:=ltT hab hG.size
 have HG:=af hG
 clear hg hG HR
 by_cases q1:at'<A.at_
 · clear hat
   go_wp2_with fail
   go_ret
   exact ⟨rfl,HG.out⟩
 by_cases q2:at'<0
 · clear hat
   go_wp2_with fail
   go_ret
   exact ⟨rfl,HG.out⟩
 have q3:4096<=at':=by omega
 clear hat
 go_wp2_with fail
 go_ret
 exact ⟨rfl,HG.out⟩
theorem VJ (E:Nat->Addr) {W:World} {L:Nat->Nat} {k ab n n':Nat} {A:bc} (hE:∀X,aj (fun j=>br k (L j)) W X->aY jC E X) (h:bQ W L k ab n A) (e:En) (hA:∀X,aj (fun j=>br k (L j)) W X->bG X e) (at':Int) (hr:Pl.bR e=true) (hat:¬(at'<A.at_\/at'<0\/4096<=at')) (hk:e.kind=1) {v:Value} {B:bc}
    (hw:∀X L1,(∀j,j<W.heap.size->L1 j=L j)->aj (fun j=>br k (L j)) W X->bQ X L1 k ab n ⟨at'+1,A.sh,A.st⟩->Calls Tryz.prog 49 #[.pointer (some ⟨ab,0,none⟩),e.agg,.int .i64 at'] X fun r w'=>r=.returned v/\nV X L1 k ab n' B w'):
    Calls Tryz.prog 22 #[.pointer (some ⟨ab,0,none⟩),e.agg,.int .i64 at'] W fun r w'=>r=.returned v/\nV W L k ab n' B w':=by
 obtain ⟨sb,mb,nb,f,st,h⟩:=h
 have c0:=h.c0
 have hab:=aN c0
 have fz:=h.fz 0
 have HR:=af (fun X (g:ae W X)=>py Gl E e X (hE X (g.only _)) (hA X (g.only _)))
 rw [hr] at HR
 have HH:=af h
 have HW:=af hw
 have q1:¬at'<A.at_:=fun q=>hat (.inl q)
 have q2:¬at'<0:=fun q=>hat (.inr (.inl q))
 have q3:¬4096<=at':=fun q=>hat (.inr (.inr q))
 have h0:0<=at':=by omega
 have h1:at'<4096:=by omega
 clear hE hA h hat hr hw
 obtain ⟨kind,ai,other,server,ak,seq,key,upto,part,parts,ops,aC,aG,av,ar,aw⟩:=e
 unfold En.agg En.vals at *
 dsimp only at *
 subst hk
 go_in
 go_wp2_with fail
 obtain ⟨Y,hY⟩:∃Y,Y=W.alloc (.cells #[.int .i64 1,.int .i64 ai,.int .i64 other,.int .i64 server,.int .i64 ak,.int .i64 seq,.slice aC ops.length aG,.string key,.int .i64 upto,.int .i64 part,.int .i64 parts,.slice av ar aw] 39):=⟨_,rfl⟩
 have gY:ae W Y:=by rw [hY];exact (ae.rf W).alloc _
 obtain ⟨xb,hxb⟩:∃xb,xb=W.heap.size:=⟨_,rfl⟩
 have HX:=af (show ∀q v,(#[.int .i64 1,.int .i64 ai,.int .i64 other,.int .i64 server,.int .i64 ak,.int .i64 seq,.slice aC ops.length aG,.string key,.int .i64 upto,.int .i64 part,.int .i64 parts,.slice av ar aw]:Array Value)[q]? =some v->Y.cell? ⟨xb,q,none⟩=some v from fun q v hv=>by
  rw [hY,hxb,cell_of_row _ _ q _ _ _ (heap_alloc_new W _)];simpa using hv)
 have dA:xb<Y.heap.size:=by rw [hY,hxb];simp
 have Qw:xb≠ab:=by omega
 have Qx:W.heap.size<=xb:=by omega
 rw [<-hY,<-hxb]
 refine (HR.out Y gY).mono ?_
 rintro e w1 ⟨rfl,hg⟩
 have bI:=af (gY.trans hg)
 have BN:=af (fun q v hv=>(hg.cells.1 _ q dA).trans (HX.out q v hv))
 have hx1:=ltT dA hg.size
 have c0:=(bI.out.cells.1 _ 0 hab).trans c0
 have fz:=(bI.out.cells.2 _ 0 hab).trans fz
 have hab:=ltT hab bI.out.size
 clear hg gY hY hxb HX dA HR
 go_upto_region 5 with fail
 go_upto_region 6 with fail
 obtain ⟨L1,qu,hN1,fL,wY⟩:=HH.out.BM bI.out (at'+1)
 obtain ⟨X,hX⟩:∃X,X=w1.setCell ⟨ab,0,none⟩ (.int .i64 (at'+1)):=⟨_,rfl⟩
 have iQ:aj (fun j=>j=ab) w1 X:=by rw [hX];exact aj.setCell w1 ⟨ab,0,none⟩ _
 rw [<-hX] at fL wY ⊢
 clear hX
 have j4:=af (fun q v hv=>(iQ.cell hx1 Qw q).trans (BN.out q v hv))
 have x0:=j4.out 0 _ rfl
 have x1:=j4.out 1 _ rfl
 have x2:=j4.out 2 _ rfl
 have x3:=j4.out 3 _ rfl
 have x4:=j4.out 4 _ rfl
 have x5:=j4.out 5 _ rfl
 have x6:=j4.out 6 _ rfl
 have x7:=j4.out 7 _ rfl
 have x8:=j4.out 8 _ rfl
 have x9:=j4.out 9 _ rfl
 have rz:=j4.out 10 _ rfl
 have rA:=j4.out 11 _ rfl
 have Qy:=ltT hx1 iQ.size
 have Qz:=ltT hab iQ.size
 have HS:=af (And.intro qu (And.intro (fun j hj=>(show br k (L1 j) from by rw [hN1 j hj];unfold br;omega)) fL))
 have My:=af wY
 have bl:=af (HW.out X L1 qu fL ⟨sb,mb,nb,f,st,wY⟩)
 clear qu hN1 fL wY HW BN iQ c0 fz hab
 go_wp2_with fail
 refine bl.out.mono ?_
 rintro e w2 ⟨rfl,hT⟩
 have HT:=af hT
 clear hT bl x0 x1 x2 x3 x4 x5 x6 x7 x8 x9 rz rA
 go_wp2_with fail
 go_ret
 exact ⟨rfl,.step HS.out.2.2 HS.out.1 HS.out.2.1 HT.out⟩
theorem VK (E:Nat->Addr) {W:World} {L:Nat->Nat} {k ab n n':Nat} {A:bc} (hE:∀X,aj (fun j=>br k (L j)) W X->aY jC E X) (h:bQ W L k ab n A) (e:En) (hA:∀X,aj (fun j=>br k (L j)) W X->bG X e) (at':Int) (hr:Pl.bR e=true) (hat:¬(at'<A.at_\/at'<0\/4096<=at')) (hk:¬e.kind=1) {B:bc} {b:Bool}
    (hw:∀X L1 sb mb nb f st,(∀j,j<W.heap.size->L1 j=L j)->aj (fun j=>br k (L j)) W X->cG X L1 k ab sb mb nb n f st ⟨at'+1,A.sh,A.st⟩->∀U,ae X U->Calls Tryz.prog 50 #[.pointer (some ⟨sb,0,none⟩),e.agg,.int .i64 at'] U fun r V=>r=.returned (.bool b)/\aj (fun j=>L1 j=k+3) X V/\
     ((b=false/\nV X L1 k ab n' B V)\/(b=true/\Calls Tryz.prog 51 #[.pointer (some ⟨ab,0,none⟩),e.agg] V fun r w'=>r=.returned .nilIface/\nV X L1 k ab n' B w'))):
    Calls Tryz.prog 22 #[.pointer (some ⟨ab,0,none⟩),e.agg,.int .i64 at'] W fun r w'=>r=.returned .nilIface/\nV W L k ab n' B w':=by
 obtain ⟨sb,mb,nb,f,st,h⟩:=h
 have c0:=h.c0
 have hab:=aN c0
 have fz:=h.fz 0
 have HR:=af (fun X (g:ae W X)=>py Gl E e X (hE X (g.only _)) (hA X (g.only _)))
 rw [hr] at HR
 have HH:=af h
 have HW:=af hw
 have q1:¬at'<A.at_:=fun q=>hat (.inl q)
 have q2:¬at'<0:=fun q=>hat (.inr (.inl q))
 have q3:¬4096<=at':=fun q=>hat (.inr (.inr q))
 have h0:0<=at':=by omega
 have h1:at'<4096:=by omega
 clear hE hA h hat hr hw
 obtain ⟨kind,ai,other,server,ak,seq,key,upto,part,parts,ops,aC,aG,av,ar,aw⟩:=e
 unfold En.agg En.vals at *
 dsimp only at *
 go_in
 go_wp2_with fail
 obtain ⟨Y,hY⟩:∃Y,Y=W.alloc (.cells #[.int .i64 kind,.int .i64 ai,.int .i64 other,.int .i64 server,.int .i64 ak,.int .i64 seq,.slice aC ops.length aG,.string key,.int .i64 upto,.int .i64 part,.int .i64 parts,.slice av ar aw] 39):=⟨_,rfl⟩
 have gY:ae W Y:=by rw [hY];exact (ae.rf W).alloc _
 obtain ⟨xb,hxb⟩:∃xb,xb=W.heap.size:=⟨_,rfl⟩
 have HX:=af (show ∀q v,(#[.int .i64 kind,.int .i64 ai,.int .i64 other,.int .i64 server,.int .i64 ak,.int .i64 seq,.slice aC ops.length aG,.string key,.int .i64 upto,.int .i64 part,.int .i64 parts,.slice av ar aw]:Array Value)[q]? =some v->Y.cell? ⟨xb,q,none⟩=some v from fun q v hv=>by
  rw [hY,hxb,cell_of_row _ _ q _ _ _ (heap_alloc_new W _)];simpa using hv)
 have dA:xb<Y.heap.size:=by rw [hY,hxb];simp
 have Qw:xb≠ab:=by omega
 have Qx:W.heap.size<=xb:=by omega
 rw [<-hY,<-hxb]
 refine (HR.out Y gY).mono ?_
 rintro e w1 ⟨rfl,hg⟩
 have bI:=af (gY.trans hg)
 have BN:=af (fun q v hv=>(hg.cells.1 _ q dA).trans (HX.out q v hv))
 have hx1:=ltT dA hg.size
 have c0:=(bI.out.cells.1 _ 0 hab).trans c0
 have fz:=(bI.out.cells.2 _ 0 hab).trans fz
 have hab:=ltT hab bI.out.size
 clear hg gY hY hxb HX dA HR
 go_upto_region 5 with fail
 go_upto_region 6 with fail
 obtain ⟨L1,qu,hN1,fL,wY⟩:=HH.out.BM bI.out (at'+1)
 obtain ⟨X,hX⟩:∃X,X=w1.setCell ⟨ab,0,none⟩ (.int .i64 (at'+1)):=⟨_,rfl⟩
 have iQ:aj (fun j=>j=ab) w1 X:=by rw [hX];exact aj.setCell w1 ⟨ab,0,none⟩ _
 rw [<-hX] at fL wY ⊢
 clear hX
 have j4:=af (fun q v hv=>(iQ.cell hx1 Qw q).trans (BN.out q v hv))
 have x0:=j4.out 0 _ rfl
 have x1:=j4.out 1 _ rfl
 have x2:=j4.out 2 _ rfl
 have x3:=j4.out 3 _ rfl
 have x4:=j4.out 4 _ rfl
 have x5:=j4.out 5 _ rfl
 have x6:=j4.out 6 _ rfl
 have x7:=j4.out 7 _ rfl
 have x8:=j4.out 8 _ rfl
 have x9:=j4.out 9 _ rfl
 have rz:=j4.out 10 _ rfl
 have rA:=j4.out 11 _ rfl
 have Qy:=ltT hx1 iQ.size
 have Qz:=ltT hab iQ.size
 have HS:=af (And.intro qu (And.intro (fun j hj=>(show br k (L1 j) from by rw [hN1 j hj];unfold br;omega)) fL))
 have My:=af wY
 have bl:=af (HW.out X L1 sb mb nb f st qu fL wY)
 have c1:=wY.c1
 have hlx:=wY.lab
 have HLL:=af (show ∀V,aj (fun j=>L1 j=k+3) X V->∀q v,(#[.int .i64 kind,.int .i64 ai,.int .i64 other,.int .i64 server,.int .i64 ak,.int .i64 seq,.slice aC ops.length aG,.string key,.int .i64 upto,.int .i64 part,.int .i64 parts,.slice av ar aw]:Array Value)[q]? =some v->V.cell? ⟨xb,q,none⟩=some v from fun V hV q v hv=>(hV.cell Qy (fun e=>by rw [hN1 xb Qx] at e;omega) q).trans (j4.out q v hv))
 clear qu hN1 fL wY HW BN iQ c0 fz hab
 go_upto_region 8 with fail
 have C1:=aU c1
 have X0:=aU x0
 have X1:=aU x1
 have X2:=aU x2
 have X3:=aU x3
 have X4:=aU x4
 have X5:=aU x5
 have X6:=aU x6
 have X7:=aU x7
 have X8:=aU x8
 have X9:=aU x9
 have lu:=aU rz
 have lv:=aU rA
 clear x0 x1 x2 x3 x4 x5 x6 x7 x8 x9 rz rA
 refine lH 6 (by kernel_rfl) (by kernel_rfl) (fun _ _=>rfl) ?_
 repeat (first
  | (refine fF ?_;intro K hK;go_big_quiet_op;go_big_quiet_on)
  | (refine fE ?_;simp only [Act.put,sA,sB,sC]))
 refine iH (by rfl) ?_
 intro u fU
 have HU:=af fU
 clear C1 X0 X1 X2 X3 X4 X5 X6 X7 X8 X9 lu lv fU
 dsimp only [List.drop]
 go_wp2_with fail
 refine (bl.out u HU.out).mono ?_
 rintro e V ⟨rfl,ME,⟨rfl,hT⟩ | ⟨rfl,hT⟩⟩
 · have HT:=af hT
   clear hT bl ME
   go_wp2_with fail
   go_ret
   exact ⟨rfl,.step HS.out.2.2 HS.out.1 HS.out.2.1 HT.out⟩
 · have HT:=af hT
   have tM:=af (HLL.out V ME)
   have x0:=tM.out 0 _ rfl
   have x1:=tM.out 1 _ rfl
   have x2:=tM.out 2 _ rfl
   have x3:=tM.out 3 _ rfl
   have x4:=tM.out 4 _ rfl
   have x5:=tM.out 5 _ rfl
   have x6:=tM.out 6 _ rfl
   have x7:=tM.out 7 _ rfl
   have x8:=tM.out 8 _ rfl
   have x9:=tM.out 9 _ rfl
   have rz:=tM.out 10 _ rfl
   have rA:=tM.out 11 _ rfl
   have hxV:=ltT Qy ME.size
   clear hT bl ME
   go_wp2_with fail
   refine HT.out.mono ?_
   rintro e w2 ⟨rfl,hT⟩
   have tz:=af hT
   clear hT HT x0 x1 x2 x3 x4 x5 x6 x7 x8 x9 rz rA
   go_wp2_with fail
   go_ret
   exact ⟨rfl,.step HS.out.2.2 HS.out.1 HS.out.2.1 tz.out⟩
theorem VL {e:En} (h:Pl.bR e=true) (hk:e.kind=1):1<=e.ai/\e.ai<=12:=by
 unfold Pl.bR at h
 rw [zZ1 hk] at h
 unfold Pl.jO at h
 simp only [Bool.and_eq_true] at h
 exact (Pl.IP _ _).1 h.1.1.1.1
theorem z2J (E:Nat->Addr) {W:World} {L:Nat->Nat} {k ab n m0:Nat} {A:bc} (hE:∀X,aj (fun j=>br k (L j)) W X->aY jC E X) (h:bQ W L k ab n A) (bq:bw A m0) (hm0:m0<=120) (hn:n<=90000) (e:En) (hA:∀X,aj (fun j=>br k (L j)) W X->bG X e) (hz:nt e) (kK:e.key.size<=300) (at':Int):
    Calls Tryz.prog 22 #[.pointer (some ⟨ab,0,none⟩),e.agg,.int .i64 at'] W fun r w'=>r=.returned (aX E (Pl.bF A e at').1)/\nV W L k ab (n+5) (Pl.bF A e at').2 w':=by
 cases hr:Pl.bR e with
 | false=>
  have e0:Pl.bF A e at'=(4,A):=by unfold Pl.bF;rw [zZ1 hr]
  rw [e0]
  refine (z0R E (hE W (aj.refl _ _)) h e (hA W (aj.refl _ _)) at' hr).mono ?_
  rintro r w' ⟨rfl,g⟩
  exact ⟨rfl,.still h g (by omega)⟩
 | true=>
 by_cases hat:at'<A.at_\/at'<0\/4096<=at'
 · have e0:Pl.bF A e at'=(1,A):=by unfold Pl.bF;rw [zZ0 (by rw [hr];simp),zZ1 hat]
   rw [e0]
   refine (y9w E (hE W (aj.refl _ _)) h e (hA W (aj.refl _ _)) at' hr hat).mono ?_
   rintro r w' ⟨rfl,g⟩
   exact ⟨rfl,.still h g (by omega)⟩
 by_cases hk:e.kind=1
 · have hsh:=VL hr hk
   cases hst:A.st e.ai.toNat with
   | none=>
    have e0:Pl.bF A e at'=(0,⟨at'+1,A.sh,A.st⟩):=by unfold Pl.bF;rw [zZ0 (by rw [hr];simp),zZ0 hat,zZ1 hk,hst]
    rw [e0]
    refine VJ E hE h e hA at' hr hat hk fun X L1 qu hO h1=>?_
    refine (z0K h1 e (by omega) (by omega) hst at' (by omega) (by omega) (by omega)).mono ?_
    rintro r w' ⟨rfl,ht⟩
    exact ⟨rfl,ht.mono (by omega)⟩
   | some v=>
    obtain ⟨P,S⟩:=v
    have e0:Pl.bF A e at'=((Pl.eW (Pl.cf A e.ai.toNat).lo (Pl.cf A e.ai.toNat).hi P S e at').err,⟨at'+1,A.sh,cM A.st e.ai.toNat (some ((Pl.eW (Pl.cf A e.ai.toNat).lo (Pl.cf A e.ai.toNat).hi P S e at').P,(Pl.eW (Pl.cf A e.ai.toNat).lo (Pl.cf A e.ai.toNat).hi P S e at').S))⟩):=by unfold Pl.bF;rw [zZ0 (by rw [hr];simp),zZ0 hat,zZ1 hk,hst]
    rw [e0]
    refine VJ E hE h e hA at' hr hat hk fun X L1 qu hO h1=>?_
    refine (z0w E (Mz (hE X hO)) h1 (bq.at_ _) hm0 e (hA X hO) hz (by omega) (by omega) hst at' (by omega) (by omega) (by omega)).mono ?_
    rintro r w' ⟨rfl,ht⟩
    exact ⟨rfl,ht.mono (by omega)⟩
 · cases hap:Pl.eQ A.sh.xs A.sh.used e at' with
   | false=>
    have e0:Pl.bF A e at'=(0,⟨at'+1,A.sh,A.st⟩):=by unfold Pl.bF;rw [zZ0 (by rw [hr];simp),zZ0 hat,zZ0 hk,zZ0 (by rw [hap];simp)]
    rw [e0]
    refine VK E hE h e hA at' hr hat hk (b:=false) fun X L1 sb mb nb f st qu hO hI U gU=>?_
    obtain ⟨F,hS,hF⟩:=hI.sh
    refine (TC VB E (hE U (hO.cm gU)) (hS.ag gU) (by have:=bq.inv.len;dsimp only;omega) e (hA U (hO.cm gU)) (by omega) at' hap).mono ?_
    rintro r V ⟨rfl,g⟩
    exact ⟨rfl,(gU.trans g).only _,.inl ⟨rfl,.still ⟨sb,mb,nb,f,st,hI⟩ (gU.trans g) (by omega)⟩⟩
   | true=>
    have e0:Pl.bF A e at'=(0,⟨at'+1,Pl.aW A.sh e at',Pl.gS A e⟩):=by unfold Pl.bF;rw [zZ0 (by rw [hr];simp),zZ0 hat,zZ0 hk,zZ1 hap]
    rw [e0]
    refine VK E hE h e hA at' hr hat hk (b:=true) fun X L1 sb mb nb f st qu hO hI U gU=>?_
    obtain ⟨F,hS,hF⟩:=hI.sh
    refine (z4i VB E (hE U (hO.cm gU)) (hS.ag gU) (by have:=bq.inv.len;dsimp only;omega) (by have:=bq.inv.few;dsimp only;omega) e (hA U (hO.cm gU)) (by omega) at').mono ?_
    rintro r V ⟨rfl,hOF,F',tJ,hF'⟩
    have e1:Pl.wC A.sh e at'=Pl.aW A.sh e at':=by unfold Pl.wC;rw [zZ1 hap]
    rw [e1] at tJ
    have hXU:=gU.size
    have iQ:aj F X V:=(gU.only _).then hOF
    have Gm:aj (fun j=>br k (L j)) W V:=hO.trans iQ fun j hj=>by
     rcases Nat.lt_or_ge j W.heap.size with q | q
     · refine .inl ?_
       have:=hF j hj
       rw [qu j q] at this
       unfold br;omega
     · exact .inr q
    refine ⟨by rw [hap],iQ.mono fun j hj=> .inl (hF j hj),.inr ⟨rfl,?_⟩⟩
    refine (z0x E (hE V Gm) hI (bq.at_ _) hm0 (by omega) hF hS.lt iQ hap tJ (fun j hj=>(hF' j hj).imp id fun q=>by omega) kK).mono ?_
    rintro r w' ⟨rfl,ht⟩
    exact ⟨rfl,ht.mono (by omega)⟩
namespace Pl
end Pl
end
end Go.Proofs.YtbnofojapimfcaaGreatDoor
