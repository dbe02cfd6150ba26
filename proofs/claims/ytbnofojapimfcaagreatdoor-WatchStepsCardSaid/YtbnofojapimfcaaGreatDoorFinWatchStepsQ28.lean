/- Part 28 of the proof. -/
import Derived.Test.YtbnofojapimfcaaGreatDoorFinWatchStepsQ24
import Derived.Test.YtbnofojapimfcaaGreatDoorFinWatchStepsQ25
import Derived.Shelf.SlicesE.Compact
set_option linter.unusedVariables false
set_option linter.unusedSectionVars false
set_option linter.unusedSimpArgs false
set_option maxRecDepth 100000
set_option maxHeartbeats 16000000
namespace Go.Proofs.YtbnofojapimfcaaGreatDoor.Pl
structure Inv (s:df) (n:Nat):Prop where
 pos:0<s.xs.length
 len:s.xs.length<=n+1
 few:s.ne<=n
 ids:∀c∈s.xs,1<=c.id/\c.id<=12/\s.used c.id.toNat=true
 nodup:(s.xs.map Sh.id).Nodup
 srv:∀c∈s.xs,1<=c.server/\c.server<=4
theorem Inv.more {s:df} {n m:Nat} (h:Inv s n) (hm:n<=m):Inv s m:=⟨h.pos,zQ0 h.len (by omega),zQ0 h.few hm,h.ids,h.nodup,h.srv⟩
theorem wD:Inv df.init 0:=by
 refine ⟨by decide,by decide,by decide,?_,by decide,?_⟩
 · intro c hc;rw [List.mem_singleton.1 hc];decide
 · intro c hc;rw [List.mem_singleton.1 hc];decide
theorem IP (n m:Int):cP n m=true↔1<=n/\n<=m:=by unfold cP;simp
theorem z2o {e:En} (h:bR e=true) (hk:e.kind=2):1<=e.ai/\e.ai<=12/\1<=e.server/\e.server<=4:=by
 unfold bR at h
 rw [zZ0 (by omega),zZ1 hk] at h
 unfold rR at h
 simp only [Bool.and_eq_true,IP] at h
 omega
theorem z0A {e:En} (h:bR e=true) (hk:e.kind=3):1<=e.ai/\e.ai<=12/\1<=e.other/\e.other<=12/\e.ai≠e.other/\1<=e.server/\e.server<=4/\aF e.key=0:=by
 unfold bR at h
 rw [zZ0 (by omega),zZ0 (by omega),zZ1 hk] at h
 unfold pI at h
 simp only [Bool.and_eq_true,IP,decide_eq_true_eq,bne_iff_ne] at h
 obtain ⟨⟨⟨⟨h1,h2⟩,h3⟩,h4⟩,h5⟩:=h
 exact ⟨h1.1,h1.2,h2.1,h2.2,h3,h4.1,h4.2,h5⟩
theorem BG {e:En} (h:bR e=true) (hk:e.kind=4):1<=e.ai/\e.ai<=12/\1<=e.other/\e.other<=12/\e.ai≠e.other:=by
 unfold bR at h
 rw [zZ0 (by omega),zZ0 (by omega),zZ0 (by omega),zZ1 hk] at h
 unfold rS at h
 simp only [Bool.and_eq_true,IP,bne_iff_ne] at h
 obtain ⟨⟨h1,h2⟩,h3⟩:=h
 exact ⟨h1.1,h1.2,h2.1,h2.2,h3⟩
theorem IQ {α:Type} {l:List α} {i:Nat} {a b:α} (h:b∈l.set i a):b∈l\/b=a:=List.mem_or_eq_of_mem_set h
theorem z2T (xs:List Sh) (i:Nat) (hi:i<xs.length) (c:Sh) (hc:c.id=(ah xs i).id):(xs.set i c).map Sh.id=xs.map Sh.id:=by
 rw [List.map_set,hc,kD xs i hi]
 apply zK1
 intro j
 rw [zK2]
 by_cases hj:i=j
 · subst hj;simp [hi]
 · rw [zZ0 hj]
theorem UO (xs:List Sh) (i:Nat) (hi:i<xs.length) (sv sn:Int) (lo hi':ByteArray):(xs.set i ⟨(ah xs i).id,sv,sn,lo,hi'⟩).map Sh.id=xs.map Sh.id:=z2T xs i hi ⟨(ah xs i).id,sv,sn,lo,hi'⟩ rfl
theorem PM {s:df} {n:Nat} (h:Inv s n) {e:En} {at':Int} (ha:eQ s.xs s.used e at'=true):Inv (aW s e at') (n+1):=by
 have hc:iq s.xs s.used e=true:=by unfold eQ at ha;simp only [Bool.and_eq_true] at ha;exact ha.1.1
 obtain ⟨hr,i,hi,hf,fc,bP,hk⟩:=nz hc
 obtain ⟨xs,used,ne,evs⟩:=s
 dsimp only at *
 rcases hk with k2 | ⟨k3,hu,o1,o2,hh,tE⟩ | ⟨k4,j,hj,kF,nA,eA,hjn⟩
 · unfold aW
   rw [zZ1 k2]
   dsimp only
   rw [fc]
   obtain ⟨_,_,v1,v2⟩:=z2o hr k2
   refine ⟨by simpa using h.pos,by have:=h.len;simp at this ⊢;omega,by have:=h.few;simp at this ⊢;omega,?_,?_,?_⟩
   · intro c hc
     rcases IQ hc with hc | rfl
     · exact h.ids c hc
     · exact h.ids (ah xs i) (kE xs i hi)
   · show ((xs.set i _).map Sh.id).Nodup
     rw [UO xs i hi];exact h.nodup
   · intro c hc
     rcases IQ hc with hc | rfl
     · exact h.srv c hc
     · exact ⟨v1,v2⟩
 · unfold aW
   rw [zZ0 (by omega),zZ1 k3]
   dsimp only
   rw [fc]
   obtain ⟨_,_,_,_,_,v1,v2,_⟩:=z0A hr k3
   have hnew:∀c∈xs,c.id≠e.other:=by
    intro c hc he
    have:=(h.ids c hc).2.2
    dsimp only at this
    rw [he,hu] at this;cases this
   have hmem:∀c∈iU xs i e.key e.other e.server at',c∈xs\/(c.id=(ah xs i).id/\c.server=(ah xs i).server)\/(c.id=e.other/\c.server=e.server):=by
    intro c hc
    unfold iU at hc
    rcases List.mem_append.1 hc with hc | hc
    · rcases List.mem_append.1 hc with hc | hc
      · exact .inl (zX6 hc)
      · simp only [List.mem_cons,List.not_mem_nil,or_false] at hc
        rcases hc with rfl | rfl
        · exact .inr (.inl ⟨rfl,rfl⟩)
        · exact .inr (.inr ⟨rfl,rfl⟩)
    · exact .inl (zX7 hc)
   refine ⟨by show 0<(iU xs i e.key e.other e.server at').length;rw [Lt xs i hi];omega,by have:=h.len;show (iU xs i e.key e.other e.server at').length<=_;rw [Lt xs i hi];dsimp only at this;omega,by have:=h.few;show ne+1<=n+1;dsimp only at this;omega,?_,?_,?_⟩
   · intro c hc
     rcases hmem c hc with hc | ⟨e1,_⟩ | ⟨e1,_⟩
     · obtain ⟨a1,a2,a3⟩:=h.ids c hc
       refine ⟨a1,a2,?_⟩
       dsimp only at a3 ⊢
       unfold pP;split;rfl;exact a3
     · obtain ⟨a1,a2,a3⟩:=h.ids _ (kE xs i hi)
       rw [e1]
       refine ⟨a1,a2,?_⟩
       dsimp only at a3 ⊢
       unfold pP;split;rfl;exact a3
     · rw [e1]
       exact ⟨o1,o2,by dsimp only;unfold pP;rw [zZ1 rfl]⟩
   · show ((iU xs i e.key e.other e.server at').map Sh.id).Nodup
     have hn:=h.nodup
     dsimp only at hn
     have e0:(iU xs i e.key e.other e.server at').map Sh.id=(xs.map Sh.id).take (i+1)++e.other::(xs.map Sh.id).drop (i+1):=by
      unfold iU
      have e1:(xs.map Sh.id).take (i+1)=(xs.take i).map Sh.id++[(ah xs i).id]:=by
       rw [<-List.map_take,zZ6 hi,List.map_append,kD xs i hi];rfl
      rw [e1]
      simp [List.map_take,List.map_drop]
     rw [e0]
     have hp:((xs.map Sh.id).take (i+1)++(xs.map Sh.id).drop (i+1)).Nodup:=by rw [List.take_append_drop];exact hn
     have hno:e.other ∉ xs.map Sh.id:=by
      intro hm
      obtain ⟨c,hc,he⟩:=zZ4.1 hm
      exact hnew c hc he
     have hperm:((xs.map Sh.id).take (i+1)++e.other::(xs.map Sh.id).drop (i+1)).Perm (e.other::((xs.map Sh.id).take (i+1)++(xs.map Sh.id).drop (i+1))):=List.perm_middle
     rw [hperm.nodup_iff,List.nodup_cons,List.take_append_drop]
     exact ⟨hno,hn⟩
   · intro c hc
     rcases hmem c hc with hc | ⟨_,e1⟩ | ⟨_,e1⟩
     · exact h.srv c hc
     · rw [e1];exact h.srv _ (kE xs i hi)
     · rw [e1];exact ⟨v1,v2⟩
 · unfold aW
   rw [zZ0 (by omega),zZ0 (by omega)]
   dsimp only
   rw [fc,nA]
   obtain ⟨_,_,_,_,hne⟩:=BG hr k4
   have hij:i≠j:=by intro he;subst he;exact hne (bP.symm.trans eA)
   generalize aH _ _ _ _ _ _=v
   have hmem:∀c∈ja xs i j v at',c∈xs\/(c.id=(ah xs i).id/\c.server=(ah xs i).server):=by
    intro c hc
    unfold ja at hc
    have:c∈xs.set i ⟨(ah xs i).id,(ah xs i).server,at'+1,v.1,v.2⟩:=by
     rcases List.mem_append.1 hc with hc | hc
     · exact zX6 hc
     · exact zX7 hc
    rcases IQ this with hc | rfl
    · exact .inl hc
    · exact .inr ⟨rfl,rfl⟩
   have hl2:2<=xs.length:=by omega
   refine ⟨by show 0<(ja xs i j v at').length;rw [LC xs i j hj];omega,by have:=h.len;show (ja xs i j v at').length<=_;rw [LC xs i j hj];dsimp only at this;omega,by have:=h.few;show ne+1<=n+1;dsimp only at this;omega,?_,?_,?_⟩
   · intro c hc
     rcases hmem c hc with hc | ⟨e1,_⟩
     · exact h.ids c hc
     · rw [e1];exact h.ids _ (kE xs i hi)
   · show ((ja xs i j v at').map Sh.id).Nodup
     unfold ja
     have hn:=h.nodup
     dsimp only at hn
     rw [List.map_append,List.map_take,List.map_drop,UO xs i hi]
     refine List.Nodup.sublist ?_ hn
     have:(xs.map Sh.id).take j++(xs.map Sh.id).drop (j+1)=(xs.map Sh.id).eraseIdx j:=by rw [List.eraseIdx_eq_take_drop_succ]
     rw [this]
     exact List.eraseIdx_sublist ..
   · intro c hc
     rcases hmem c hc with hc | ⟨_,e1⟩
     · exact h.srv c hc
     · rw [e1];exact h.srv _ (kE xs i hi)
theorem IU {xs:List Sh} (hn:(xs.map Sh.id).Nodup) (i:Nat) (hi:i<xs.length):ax xs (ah xs i).id=(i:Nat):=by
 unfold ax
 refine tU _ xs i hi ?_ ?_
 · rw [zX2]
   intro c hc
   obtain ⟨j,hj,rfl⟩:=List.mem_iff_getElem.1 hc
   rw [List.length_take] at hj
   rw [List.getElem_take]
   have hne:xs[j].id≠xs[i].id:=by
    intro he
    have:=zX0.1 hn j i (by rw [List.length_map];omega) (by rw [List.length_map];exact hi) (by omega)
    rw [List.getElem_map,List.getElem_map] at this
    exact this he
   rw [kD xs i hi]
   simp [hne]
 · rw [kD xs i hi];simp
structure lO (n:Nat) (lo hi:Nat->ByteArray):Prop where
 pos:0<n
 first:lo 0=⟨#[]⟩
 last:hi (n - 1)=⟨#[]⟩
 link:∀i,i+1<n->hi i=lo (i+1)/\aP (hi i)=false
 right:∀i,i<n->bf (lo i) (hi i)=true
theorem wE {lo hi:ByteArray} (h:bf lo hi=true):dv lo=true/\dv hi=true/\cI lo hi=true:=by
 unfold bf at h
 simp only [Bool.and_eq_true] at h
 exact ⟨h.1.1,h.1.2,h.2⟩
section
variable {n:Nat} {lo hi:Nat->ByteArray} (h:lO n lo hi)
include h
theorem lO.qa (i:Nat) (hi':i<n):Ok (lo i):=wB (wE (h.right i hi')).1
theorem lO.step (i:Nat) (hi':i+1<n):bE (lo i) (lo (i+1))<0:=by
 obtain ⟨h1,h2⟩:=h.link i hi'
 obtain ⟨_,_,h3⟩:=wE (h.right i (by omega))
 unfold cI at h3
 rw [h2,zQ4,decide_eq_true_eq,h1] at h3
 exact h3
theorem lO.IV:∀(d i:Nat),i+d+1<n->bE (lo i) (lo (i+d+1))<0
 | 0,i,hd=>h.step i hd
 | d+1,i,hd=>by
  have h1:=lO.IV d i (by omega)
  have h2:=h.step (i+d+1) (by omega)
  exact pH (h.qa i (by omega)) (h.qa (i+d+1) (by omega)) (h.qa (i+d+1+1) (by omega)) h1 h2
theorem lO.low (i j:Nat) (hij:i<j) (hj:j<n):bE (lo i) (lo j)<0:=by
 have:=h.IV (j - i - 1) i (by omega)
 rwa [show i+(j - i - 1)+1=j by omega] at this
theorem lO.BH (i j:Nat) (hi':i<n) (hj:j<n) (he:lo i=lo j):i=j:=by
 rcases Nat.lt_trichotomy i j with h1 | h1 | h1
 · have:=h.low i j h1 hj
   rw [he,yV (h.qa j hj)] at this;omega
 · exact h1
 · have:=h.low j i h1 hi'
   rw [he,yV (h.qa j hj)] at this;omega
theorem lO.uniq (key:ByteArray) (i j:Nat) (hi':i<n) (hj:j<n) (h1:aL (lo i) (hi i) key=true) (h2:aL (lo j) (hi j) key=true):i=j:=by
 have IW:∀i j,i<j->j<n->aL (lo i) (hi i) key=true->aL (lo j) (hi j) key=true->False:=by
  intro i j hij hj h1 h2
  obtain ⟨_,k1,_,k2⟩:=sf h1
  obtain ⟨_,_,k3,_⟩:=sf h2
  obtain ⟨l1,l2⟩:=h.link i (by omega)
  unfold cI at k2
  rw [l2,zQ4,decide_eq_true_eq,l1] at k2
  have ho:=sk k1
  by_cases he:i+1=j
  · subst he;omega
  · have k4:=h.low (i+1) j (by omega) hj
    have:=pH ho (h.qa (i+1) (by omega)) (h.qa j hj) k2 k4
    omega
 rcases Nat.lt_trichotomy i j with h3 | h3 | h3
 · exact (IW i j h3 hj h1 h2).elim
 · exact h3
 · exact (IW j i h3 hi' h2 h1).elim
end
def gQ (xs:List Sh):Prop:=lO xs.length (fun i=>(ah xs i).lo) (fun i=>(ah xs i).hi)
theorem z2h:gQ df.init.xs:=
 ⟨by decide,rfl,rfl,fun i hi=>absurd hi (by have:df.init.xs.length=1:=rfl;omega),fun i hi=>by
  have:df.init.xs.length=1:=rfl
  have hi0:i=0:=by omega
  subst hi0
  show bf ⟨#[]⟩ ⟨#[]⟩=true
  unfold bf dv cI aP
  rw [zQ3];rfl⟩
theorem qb (xs:List Sh) (i:Nat) (hi:i<xs.length) (c:Sh) (j:Nat):ah (xs.set i c) j=if j=i then c else ah xs j:=by
 unfold ah
 rw [zK2]
 by_cases h:i=j
 · subst h;rw [zZ1 rfl,zZ1 hi,zZ1 rfl];rfl
 · rw [zZ0 h,zZ0 (Ne.symm h)]
theorem lO.congr {n:Nat} {lo hi lo' hi':Nat->ByteArray} (h:lO n lo hi) (h1:∀i,i<n->lo' i=lo i) (h2:∀i,i<n->hi' i=hi i):lO n lo' hi':=
 ⟨h.pos,(h1 0 h.pos).trans h.first,(h2 _ (by have:=h.pos;omega)).trans h.last,fun i hi0=>by rw [h2 i (by omega),h1 (i+1) hi0];exact h.link i hi0,fun i hi0=>by rw [h1 i hi0,h2 i hi0];exact h.right i hi0⟩
theorem lO.split {n:Nat} {lo hi:Nat->ByteArray} (h:lO n lo hi) (i:Nat) (hi':i<n) (key:ByteArray) (h1:bf (lo i) key=true) (h2:bf key (hi i)=true) (hk:aP key=false):
    lO (n+1) (fun j=>if j<=i then lo j else if j=i+1 then key else lo (j - 1)) (fun j=>if j<i then hi j else if j=i then key else hi (j - 1)):=by
 refine ⟨Nat.succ_pos n,?_,?_,fun j hj=>?_,fun j hj=>?_⟩
 · (try dsimp only);rw [zZ1 (Nat.zero_le _)];exact h.first
 · (try dsimp only);rw [zZ0 (by omega),zZ0 (by omega)];exact h.last
 · try dsimp only
   by_cases a1:j<i
   · rw [zZ1 a1,zZ1 (by omega)];exact h.link j (by omega)
   · rw [zZ0 a1]
     by_cases a2:j=i
     · rw [zZ1 a2,zZ0 (by omega),zZ1 (by omega)];exact ⟨rfl,hk⟩
     · rw [zZ0 a2,zZ0 (by omega),zZ0 (by omega)]
       have:=h.link (j - 1) (by omega)
       rwa [show j - 1+1=j by omega] at this
 · try dsimp only
   by_cases a1:j<i
   · rw [zZ1 a1,zZ1 (by omega)];exact h.right j (by omega)
   · rw [zZ0 a1]
     by_cases a2:j=i
     · subst a2;rw [zZ1 rfl,zZ1 (zZ3 _)];exact h1
     · rw [zZ0 a2,zZ0 (by omega)]
       by_cases a3:j=i+1
       · rw [zZ1 a3,a3,show i+1 - 1=i by omega];exact h2
       · rw [zZ0 a3];exact h.right (j - 1) (by omega)
theorem PN {a b d:ByteArray} (h1:bf a b=true) (h2:bf b d=true) (hb:aP b=false):bf a d=true:=by
 obtain ⟨a1,a2,a3⟩:=wE h1
 obtain ⟨b1,b2,b3⟩:=wE h2
 unfold bf
 rw [a1,b2]
 unfold cI at a3 b3 ⊢
 rw [hb,zQ4,decide_eq_true_eq] at a3
 cases hd:aP d with
 | true=>rfl
 | false=>
  rw [hd,zQ4,decide_eq_true_eq] at b3
  have:=pH (wB a1) (wB b1) (wB b2) a3 b3
  simpa using this
theorem lO.merge {n:Nat} {lo hi:Nat->ByteArray} (h:lO n lo hi) (k:Nat) (hk:k+1<n):
    lO (n - 1) (fun j=>if j<=k then lo j else lo (j+1)) (fun j=>if j<k then hi j else hi (j+1)):=by
 refine ⟨by omega,?_,?_,fun j hj=>?_,fun j hj=>?_⟩
 · (try dsimp only);rw [zZ1 (Nat.zero_le _)];exact h.first
 · (try dsimp only);rw [zZ0 (by omega),show n - 1 - 1+1=n - 1 by omega];exact h.last
 · try dsimp only
   by_cases a1:j<k
   · rw [zZ1 a1,zZ1 (by omega)];exact h.link j (by omega)
   · rw [zZ0 a1,zZ0 (by omega)];exact h.link (j+1) (by omega)
 · try dsimp only
   by_cases a1:j<k
   · rw [zZ1 a1,zZ1 (by omega)];exact h.right j (by omega)
   · rw [zZ0 a1]
     by_cases a2:j=k
     · subst a2
       rw [zZ1 (zZ3 _)]
       obtain ⟨l1,l2⟩:=h.link j hk
       refine PN (h.right j (by omega)) ?_ l2
       rw [l1];exact h.right (j+1) hk
     · rw [zZ0 (by omega)];exact h.right (j+1) (by omega)
theorem UQ (xs:List Sh) (i:Nat) (hi:i<xs.length) (key:ByteArray) (other server at':Int) (j:Nat):
    ah (iU xs i key other server at') j=if j<i then ah xs j else if j=i then ⟨(ah xs i).id,(ah xs i).server,at'+1,(ah xs i).lo,key⟩ else if j=i+1 then ⟨other,server,at'+1,key,(ah xs i).hi⟩ else ah xs (j - 1):=by
 have hA:(xs.take i).length=i:=by rw [List.length_take];omega
 unfold iU
 generalize (⟨(ah xs i).id,(ah xs i).server,at'+1,(ah xs i).lo,key⟩:Sh)=a
 generalize (⟨other,server,at'+1,key,(ah xs i).hi⟩:Sh)=b
 unfold ah
 by_cases h1:j<i
 · rw [zZ1 h1,List.append_assoc,List.getElem?_append_left (by omega),List.getElem?_take,zZ1 h1]
 · rw [zZ0 h1,List.append_assoc,List.getElem?_append_right (by omega),hA]
   by_cases h2:j=i
   · subst h2;rw [zZ1 rfl,Nat.sub_self];rfl
   · rw [zZ0 h2]
     by_cases h3:j=i+1
     · subst h3;rw [zZ1 rfl,show i+1 - i=1 by omega];rfl
     · rw [zZ0 h3,List.getElem?_append_right (by simp;omega),List.getElem?_drop]
       rw [show i+1+(j - i - [a,b].length)=j - 1 by simp;omega]
theorem Mm (xs:List Sh) (i j:Nat) (hj:j<xs.length) (v:ByteArray×ByteArray) (at':Int) (m:Nat):
    ah (ja xs i j v at') m=ah (xs.set i ⟨(ah xs i).id,(ah xs i).server,at'+1,v.1,v.2⟩) (if m<j then m else m+1):=by
 unfold ja
 generalize hys:xs.set i _=ys
 have hl:ys.length=xs.length:=by rw [<-hys,List.length_set]
 have hA:(ys.take j).length=j:=by rw [List.length_take];omega
 unfold ah
 by_cases h1:m<j
 · rw [zZ1 h1,List.getElem?_append_left (by omega),List.getElem?_take,zZ1 h1]
 · rw [zZ0 h1,List.getElem?_append_right (by omega),hA,List.getElem?_drop,show j+1+(m - j)=m+1 by omega]
theorem z0q {xs:List Sh} (h:gQ xs) (i:Nat) (hi:i<xs.length) (key:ByteArray) (other server at':Int) (hh:aL (ah xs i).lo (ah xs i).hi key=true) (tE:key.toList≠(ah xs i).lo.toList):gQ (iU xs i key other server at'):=by
 obtain ⟨c1,c2,_⟩:=UL hh tE
 have hk:=Mk (sf hh).2.1
 unfold gQ
 rw [Lt xs i hi]
 refine (lO.split h i hi key c1 c2 hk).congr (fun j hj=>?_) (fun j hj=>?_)
 · rw [UQ xs i hi]
   by_cases a1:j<i
   · have a2:j<=i:=by omega
     simp only [zZ1 a1,zZ1 a2]
   · by_cases a2:j=i
     · have a3:j<=i:=by omega
       simp only [zZ0 a1,zZ1 a2,zZ1 a3]
       rw [a2]
     · have a4:¬j<=i:=by omega
       by_cases a3:j=i+1
       · simp only [zZ0 a1,zZ0 a2,zZ1 a3,zZ0 a4]
       · simp only [zZ0 a1,zZ0 a2,zZ0 a3,zZ0 a4]
 · rw [UQ xs i hi]
   by_cases a1:j<i
   · simp only [zZ1 a1]
   · by_cases a2:j=i
     · simp only [zZ0 a1,zZ1 a2]
     · by_cases a3:j=i+1
       · simp only [zZ0 a1,zZ0 a2,zZ1 a3]
         rw [a3];rfl
       · simp only [zZ0 a1,zZ0 a2,zZ0 a3]
theorem BI {a b:ByteArray} (h:a.toList=b.toList):a=b:=by
 rw [zQ3,zQ3] at h
 obtain ⟨⟨a⟩⟩:=a
 obtain ⟨⟨b⟩⟩:=b
 exact congrArg (fun l:List UInt8=>(⟨⟨l⟩⟩:ByteArray)) h
theorem y9Q {xs:List Sh} (h:gQ xs) (i j:Nat) (hi:i<xs.length) (hj:j<xs.length) (at':Int)
    (hz:aK (bf (ah xs i).lo (ah xs i).hi) (bf (ah xs j).lo (ah xs j).hi) (ah xs i).lo (ah xs i).hi (ah xs j).lo (ah xs j).hi=0):
    gQ (ja xs i j (aH (bf (ah xs i).lo (ah xs i).hi) (bf (ah xs j).lo (ah xs j).hi) (ah xs i).lo (ah xs i).hi (ah xs j).lo (ah xs j).hi) at'):=by
 have r1:=h.right i hi
 have r2:=h.right j hj
 try dsimp only at r1 r2
 rw [r1,r2] at hz ⊢
 have hlast:∀a,a<xs.length->aP (ah xs a).hi=false->a+1<xs.length:=by
  intro a ha hn
  apply zZ7
  intro hc
  have:=h.last
  rw [show xs.length - 1=a by omega] at this
  try dsimp only at this
  rw [this] at hn;exact absurd hn (by rw [(PI _).2 rfl];simp)
 have hpos:=h.pos
 unfold gQ
 rw [LC xs i j hj]
 unfold aK at hz
 unfold aH
 rw [zZ0 (by simp)] at hz ⊢
 by_cases q1:aP (ah xs i).hi=false/\(ah xs i).hi.toList=(ah xs j).lo.toList
 · rw [zZ1 q1]
   have hn:=hlast i hi q1.1
   have hl:=(h.link i hn).1
   try dsimp only at hl
   have Ha:j=i+1:=(h.BH (i+1) j hn hj (by rw [<-hl];exact BI q1.2)).symm
   refine (lO.merge h i hn).congr (fun m hm=>?_) (fun m hm=>?_)
   · rw [Mm xs i j hj,qb xs i hi]
     by_cases a1:m<=i
     · have b1:m<j:=by omega
       by_cases a2:m=i
       · simp only [zZ1 a1,zZ1 b1,zZ1 a2]
         rw [a2]
       · simp only [zZ1 a1,zZ1 b1,zZ0 a2]
     · have b1:¬m<j:=by omega
       have a2:¬m+1=i:=by omega
       simp only [zZ0 a1,zZ0 b1,zZ0 a2]
   · rw [Mm xs i j hj,qb xs i hi]
     by_cases a1:m<i
     · have b1:m<j:=by omega
       have a2:¬m=i:=by omega
       simp only [zZ1 a1,zZ1 b1,zZ0 a2]
     · by_cases a2:m=i
       · have b1:m<j:=by omega
         simp only [zZ0 a1,zZ1 b1,zZ1 a2]
         rw [a2,<-Ha]
       · have b1:¬m<j:=by omega
         have a3:¬m+1=i:=by omega
         simp only [zZ0 a1,zZ0 b1,zZ0 a3]
 · rw [zZ0 q1] at hz ⊢
   by_cases q2:aP (ah xs j).hi=false/\(ah xs j).hi.toList=(ah xs i).lo.toList
   · rw [zZ1 q2]
     have hn:=hlast j hj q2.1
     have hl:=(h.link j hn).1
     try dsimp only at hl
     have hij:i=j+1:=(h.BH (j+1) i hn hi (by rw [<-hl];exact BI q2.2)).symm
     refine (lO.merge h j hn).congr (fun m hm=>?_) (fun m hm=>?_)
     · rw [Mm xs i j hj,qb xs i hi]
       by_cases a1:m<=j
       · by_cases a2:m=j
         · have b1:¬m<j:=by omega
           have a3:m+1=i:=by omega
           simp only [zZ1 a1,zZ0 b1,zZ1 a3]
           rw [a2]
         · have b1:m<j:=by omega
           have a3:¬m=i:=by omega
           simp only [zZ1 a1,zZ1 b1,zZ0 a3]
       · have b1:¬m<j:=by omega
         have a3:¬m+1=i:=by omega
         simp only [zZ0 a1,zZ0 b1,zZ0 a3]
     · rw [Mm xs i j hj,qb xs i hi]
       by_cases a1:m<j
       · have a3:¬m=i:=by omega
         simp only [zZ1 a1,zZ0 a3]
       · by_cases a2:m=j
         · have a3:m+1=i:=by omega
           simp only [zZ0 a1,zZ1 a3]
           rw [a2,<-hij]
         · have a3:¬m+1=i:=by omega
           simp only [zZ0 a1,zZ0 a3]
   · rw [zZ0 q2] at hz;cases hz
theorem PO {s:df} (h:gQ s.xs) {e:En} {at':Int} (ha:eQ s.xs s.used e at'=true):gQ (aW s e at').xs:=by
 have hc:iq s.xs s.used e=true:=by unfold eQ at ha;simp only [Bool.and_eq_true] at ha;exact ha.1.1
 obtain ⟨hr,i,hi,hf,fc,bP,hk⟩:=nz hc
 obtain ⟨xs,used,ne,evs⟩:=s
 dsimp only at *
 rcases hk with k2 | ⟨k3,hu,o1,o2,hh,tE⟩ | ⟨k4,j,hj,kF,nA,eA,hjn⟩
 · unfold aW
   rw [zZ1 k2]
   dsimp only
   rw [fc]
   unfold gQ
   rw [List.length_set]
   refine lO.congr h (fun j hj=>?_) (fun j hj=>?_)
   · rw [qb xs i hi]
     by_cases q:j=i
     · simp only [zZ1 q];rw [q]
     · simp only [zZ0 q]
   · rw [qb xs i hi]
     by_cases q:j=i
     · simp only [zZ1 q];rw [q]
     · simp only [zZ0 q]
 · unfold aW
   rw [zZ0 (by omega),zZ1 k3]
   dsimp only
   rw [fc]
   exact z0q h i hi e.key e.other e.server at' hh tE
 · unfold aW
   rw [zZ0 (by omega),zZ0 (by omega)]
   dsimp only
   rw [fc,nA]
   exact y9Q h i j hi hj at' hjn
end Go.Proofs.YtbnofojapimfcaaGreatDoor.Pl
namespace Go.Proofs.YtbnofojapimfcaaGreatDoor
section
open Go.Shelf
def Tryz.compStr_ren:Go.Shelf.Ren:=⟨fun | 43=>78 | n=>n,fun | 22=>95 | 23=>9 | 3=>3 | 4=>4 | 0=>0 | n=>n,fun | n=>n⟩
theorem Tryz.compStr:Go.Proofs.SlLaysE.n43 Tryz.prog Tryz.compStr_ren:={
 mixed:=by kernel_rfl
 f43:=⟨Tryz.f78.name,by decide,Tryz.func78.trans (congrArg some (by kernel_rfl))⟩
 t0:=Tryz.underlying0
 a0:=Tryz.isAgg0
 z0:=Tryz.sizeOf0
 v0:=Tryz.zeroValue0
 t3:=Tryz.underlying3
 a3:=Tryz.isAgg3
 z3:=Tryz.sizeOf3
 v3:=Tryz.zeroValue3
 t4:=Tryz.underlying4
 a4:=Tryz.isAgg4
 z4:=Tryz.sizeOf4
 v4:=Tryz.zeroValue4
 t22:=Tryz.underlying95
 a22:=Tryz.isAgg95
 z22:=Tryz.sizeOf95
 v22:=Tryz.zeroValue95
 a23:=Tryz.isAgg9
 z23:=Tryz.sizeOf9}
end
section
open Go.RowKit Go.Shelf Go.Lib Go.Sort Go.Maps
attribute [local go_sem] Oper.semAt_some
theorem F7 (xs:List ByteArray) (j:Nat) (hj:j<xs.length):xs.toArray[j]! =xs[j]:=by
 rw [getElem!_pos xs.toArray j (by simpa using hj)];simp
theorem PQ (d:Array ByteArray):∀m,m<=d.size->∀x,x∈compactUpTo d m↔∃j,j<m/\d[j]! =x
 | 0,_,x=>by simp [compactUpTo]
 | m+1,h,x=>by
  rw [compactUpTo_succ,List.mem_append,PQ d m (by omega) x]
  constructor
  · rintro (⟨j,hj,e⟩ | q)
    · exact ⟨j,by omega,e⟩
    · split at q
      · exact ⟨m,by omega,(List.mem_singleton.1 q).symm⟩
      · cases q
  · rintro ⟨j,hj,e⟩
    by_cases hjm:j<m
    · exact .inl ⟨j,hjm,e⟩
    · obtain rfl:j=m:=by omega
      cases hk:keeps d j with
      | true=>right;rw [zZ1 rfl];exact List.mem_singleton.2 e.symm
      | false=>
       left
       have:¬(j=0\/d[j]! ≠d[j - 1]!):=by unfold keeps at hk;exact of_decide_eq_false hk
       have h1:j≠0:=fun q=>this (.inl q)
       have h2:d[j]! =d[j - 1]! :=zZ7 fun q=>this (.inr q)
       exact ⟨j - 1,by omega,by rw [<-h2];exact e⟩
theorem UR (d:Array ByteArray) (hok:∀j,j<d.size->Pl.Ok d[j]!) (hs:∀i j,i<j->j<d.size->¬Pl.bE d[j]! d[i]! <0):∀m,m<=d.size->(compactUpTo d m).Pairwise fun a b=>Pl.bE a b<0
 | 0,_=>by simp [compactUpTo]
 | m+1,h=>by
  rw [compactUpTo_succ]
  refine List.pairwise_append.2 ⟨UR d hok hs m (by omega),?_,?_⟩
  · split<;> simp
  · intro x hx y hy
    obtain ⟨j,hj,rfl⟩:=(PQ d m (by omega) x).1 hx
    split at hy
    · next hk=>
      obtain rfl:=List.mem_singleton.1 hy
      have hk2:m=0\/d[m]! ≠d[m - 1]! :=by unfold keeps at hk;exact of_decide_eq_true hk
      have hne:d[m]! ≠d[m - 1]! :=by
       rcases hk2 with q | q
       · omega
       · exact q
      have o1:=hok m (by omega)
      have o2:=hok (m - 1) (by omega)
      have o3:=hok j (by omega)
      have s1:=hs (m - 1) m (by omega) (by omega)
      have w1:=Pl.qM o2 o1
      have h1:Pl.bE d[m - 1]! d[m]! <0:=by
       by_cases q:Pl.bE d[m]! d[m - 1]! =0
       · exact absurd (Pl.ug o1 o2 q) hne
       · have:=Pl.qM o1 o2
         omega
      by_cases hjm:j=m - 1
      · rw [hjm];exact h1
      · have s2:=hs j (m - 1) (by omega) (by omega)
        by_cases q:Pl.bE d[m - 1]! d[j]! =0
        · rw [<-Pl.ug o2 o3 q];exact h1
        · have:=Pl.qM o2 o3
          exact Pl.pH o3 o2 o1 (by omega) h1
    · cases hy
theorem eqStr:EqlAt Tryz.prog 9 Value.string (fun x y=>decide (x=y)):=by
 have h:=EqlAt.string Tryz.prog 9
 have e:(fun x y:ByteArray=>x.toList==y.toList)=fun x y=>decide (x=y):=by
  funext x y
  by_cases q:x=y
  · subst q;simp
  · rw [decide_eq_false q,beq_eq_false_iff_ne]
    exact fun t=>q (Pl.BI t)
 rw [e] at h;exact h
theorem IX:NeqAt Tryz.prog 9 Value.string (fun x y=>decide (x=y)):=by
 have h:=NeqAt.string Tryz.prog 9
 have e:(fun x y:ByteArray=>x.toList==y.toList)=fun x y=>decide (x=y):=by
  funext x y
  by_cases q:x=y
  · subst q;simp
  · rw [decide_eq_false q,beq_eq_false_iff_ne]
    exact fun t=>q (Pl.BI t)
 rw [e] at h;exact h
theorem z2y (w:World) (B g cap:Nat) (xs:List ByteArray) (ho:w.ownsRow B 9 1 (.slice (some ⟨g,0,none⟩) xs.length cap) xs.length (iG xs)) (h0:0<xs.length) (hbig:xs.length<=1000000) (hok:∀c∈xs,Pl.Ok c) (hs:xs.Pairwise fun a b=>¬Pl.bE b a<0):
    Calls Tryz.prog 78 #[.slice (some ⟨g,0,none⟩) xs.length cap] w fun e w'=>∃ks:List ByteArray,e=.returned (.slice (some ⟨g,0,none⟩) ks.length cap)/\aj (fun j=>j=g) w w'/\w'.ownsRow B 9 1 (.slice (some ⟨g,0,none⟩) ks.length cap) ks.length (iG ks)/\ks.Pairwise (fun a b=>Pl.bE a b<0)/\(∀k,k∈ks↔k∈xs)/\ks.length<=xs.length:=by
 obtain ⟨g',cap',cur,e1,hB,hg,hn,hc,hl,hx⟩:=rP ho h0
 cases e1
 have hH:Holds Value.string w g 0 xs.toArray:=by
  intro j hj
  have hj':j<xs.length:=by simpa using hj
  refine ⟨?_,by simp [World.frozen?,hg]⟩
  rw [zK0,fA hg j]
  have h1:cur[j]? =(iG xs)[j]? :=by rw [<-hx,List.getElem?_take,zZ1 (by omega)]
  rw [h1]
  unfold iG
  rw [List.getElem?_map,List.getElem?_eq_getElem hj',F7 xs j hj'];rfl
 have hcon:=AnyE.slices_Compact Tryz.compStr Value.string (fun _=>rfl) eqStr IX ⟨#[]⟩ (fun w=>by kernel_rfl) g 0 cap xs.toArray w hH (by simp;omega) (by simpa using hn)
 have hsz:xs.toArray.size=xs.length:=by simp
 have hrise:=UR xs.toArray (fun j hj=>by rw [F7 xs j (by simpa using hj)];exact hok _ (zQ5 _)) (fun i j hij hj=>by
  have hj':j<xs.length:=by simpa using hj
  rw [F7 xs j hj',F7 xs i (by omega)]
  exact zX0.1 hs i j (by omega) hj' hij) xs.length (by simp)
 have hmem:=PQ xs.toArray xs.length (by simp)
 have hlen:(compactUpTo xs.toArray xs.length).length<=xs.length:=by
  unfold compactUpTo
  rw [List.length_map]
  have:=zJ9 (keeps xs.toArray) (List.range xs.length)
  rwa [List.length_range] at this
 rw [hsz] at hcon
 generalize compactUpTo xs.toArray xs.length=ks at *
 refine hcon.mono ?_
 rintro e w' ⟨rfl,q,rfl⟩
 have hF:(ks++List.replicate (xs.length - ks.length) (⟨#[]⟩:ByteArray)).toArray.size=xs.length:=by simp;omega
 obtain ⟨hr,hO⟩:=S6 Value.string (w:=Sort.ahead w q) (show (Sort.ahead w q).ownsRow B 9 1 _ _ _ from ho) h0 _ hF
 refine ⟨ks,rfl,(aj.mono (show aj (fun j=>j=g) w (Sort.ahead w q) from ⟨rfl,rfl,rfl,zZ3 _,fun _ _ _=>rfl⟩) (fun _ h=> .inl h)).then hO,?_,hrise,fun k=>?_,hlen⟩
 · obtain ⟨g2,cap2,PR,e2,hB2,aB,fW,hc2,hl2,hx2⟩:=rP hr h0
   cases e2
   refine na hB2 aB (by omega) hc2 hl2 ?_
   have h3:(PR.take (xs.length*1)).take ks.length=iG ks:=by
    rw [hx2]
    unfold iG
    simp
   rw [List.take_take,zX4 (by omega)] at h3
   rw [Nat.mul_one];exact h3
 · rw [hmem]
   constructor
   · rintro ⟨j,hj,rfl⟩
     rw [F7 xs j hj];exact zQ5 hj
   · intro hk
     obtain ⟨j,hj,rfl⟩:=zQ1 hk
     exact ⟨j,hj,F7 xs j hj⟩
theorem UT (p:Option Addr) (cap:Nat) (w:World):Calls Tryz.prog 78 #[.slice p 0 cap] w fun e w'=>e=.returned (.slice p 0 cap)/\w=w':=by
 go_in
 go_wp2_with fail
 go_ret
 exact ⟨rfl,rfl⟩
end
section
open Go.RowKit Go.Maps
attribute [local go_sem] Oper.semAt_some aT
structure bc where
 at_:Int
 sh:df
 st:Nat->Option (List Pr×(Int->Option An))
def fS (v:Option (List Pr×(Int->Option An))):Nat:=match v with | none=>0 | some x=>x.1.length
def wK (st:Nat->Option (List Pr×(Int->Option An))):Nat:=((List.range 13).map fun i=>fS (st i)).sum
def cM (st:Nat->Option (List Pr×(Int->Option An))) (i:Nat) (v:Option (List Pr×(Int->Option An))) (j:Nat):Option (List Pr×(Int->Option An)):=if j=i then v else st j
structure bw (A:bc) (m:Nat):Prop where
 inv:Pl.Inv A.sh m
 chain:Pl.gQ A.sh.xs
 dom:∀c∈A.sh.xs,∃P S,A.st c.id.toNat=some (P,S)/\Pl.mS c.lo c.hi P
 back:∀i,A.st i≠none->∃c∈A.sh.xs,c.id=(i:Int)
 few:wK A.st<=8*m
 sz:∀c∈A.sh.xs,c.lo.size<=300/\c.hi.size<=300
structure cG (W:World) (L:Nat->Nat) (k ab sb mb nb n:Nat) (f:Lit->Option Value) (st:Nat->Nat) (A:bc):Prop where
 c0:W.cell? ⟨ab,0,none⟩=some (.int .i64 A.at_)
 c1:W.cell? ⟨ab,1,none⟩=some (.pointer (some ⟨sb,0,none⟩))
 c2:W.cell? ⟨ab,2,none⟩=some (.map (some mb))
 c3:W.cell? ⟨ab,3,none⟩=some (.map (some nb))
 fz:∀i,W.frozen? ⟨ab,i,none⟩=false
 lab:L ab=k
 oQ:L mb=k+1
 jU:L nb=k+2
 sh:∃F,gm W F sb A.sh/\∀j,F j->L j=k+3
 lm:∃m,m<=n/\bL W Tryz.prog 3 mb m f
 val:∀i:Nat,f (bW i)=(A.st i).map fun _=> .pointer (some ⟨st i,0,none⟩)
 lit:∀l,f l≠none->∃i:Nat,l=bW i
 la:∃fa m,m<=n/\bL W Tryz.prog 3 nb m fa
 states:∀i P S,A.st i=some (P,S)->i<=12/\∃c∈A.sh.xs,c.id=(i:Int)/\∃Ft Fs m,m<=n/\cY W Ft Fs (st i) m c.lo c.hi P S/\∀j,eZ Ft Fs (st i) j->L j=k+20+i
def bQ (W:World) (L:Nat->Nat) (k ab n:Nat) (A:bc):Prop:=∃sb mb nb f st,cG W L k ab sb mb nb n f st A
def br (k l:Nat):Prop:=k<=l/\l<k+100
section
variable {W W':World} {L L':Nat->Nat} {T:Nat->Prop} {k ab sb mb nb n:Nat} {f:Lit->Option Value} {st:Nat->Nat} {A:bc}
theorem gm.kept {F:Nat->Prop} {sb:Nat} {s:df} (h:gm W F sb s) (g:aj T W W') (hT:∀j,F j->¬T j):gm W' F sb s:=fh.kept h g hT
theorem gm.lt {F:Nat->Prop} {sb:Nat} {s:df} (h:gm W F sb s):∀j,F j->j<W.heap.size:=by
 obtain ⟨v,ve,h⟩:=h
 exact h.lt
theorem cG.wL (h:cG W L k ab sb mb nb n f st A):ab<W.heap.size:=aN h.c0
theorem cG.kept (h:cG W L k ab sb mb nb n f st A) (g:aj T W W') (hT:∀j,j<W.heap.size->T j->¬br k (L j)) (hL:∀j,j<W.heap.size->L' j=L j):cG W' L' k ab sb mb nb n f st A:=by
 have hk:∀j,j<W.heap.size->br k (L j)->¬T j:=fun j hj hq ht=>hT j hj ht hq
 have hab:=h.wL
 obtain ⟨m1,e1,h1⟩:=h.lm
 obtain ⟨fa,m2,e2,h2⟩:=h.la
 obtain ⟨F,h3,h4⟩:=h.sh
 have tab:¬T ab:=hk ab hab (by rw [h.lab];exact ⟨by omega,by omega⟩)
 refine ⟨(g.cell hab tab 0).trans h.c0,(g.cell hab tab 1).trans h.c1,(g.cell hab tab 2).trans h.c2,(g.cell hab tab 3).trans h.c3,fun i=>(g.frozen hab tab i).trans (h.fz i),(hL ab hab).trans h.lab,(hL mb h1.lt).trans h.oQ,(hL nb h2.lt).trans h.jU,
  ⟨F,h3.kept g fun j hj=>hk j (h3.lt j hj) (by rw [h4 j hj];exact ⟨by omega,by omega⟩),fun j hj=>(hL j (h3.lt j hj)).trans (h4 j hj)⟩,
  ⟨m1,e1,h1.kept g (hk mb h1.lt (by rw [h.oQ];exact ⟨by omega,by omega⟩))⟩,h.val,h.lit,⟨fa,m2,e2,h2.kept g (hk nb h2.lt (by rw [h.jU];exact ⟨by omega,by omega⟩))⟩,fun i P S hi=>?_⟩
 obtain ⟨i12,c,hc,af,Ft,Fs,m,hm,hS,hB⟩:=h.states i P S hi
 have ha:=hS.all
 have hn:∀j,eZ Ft Fs (st i) j->¬T j:=fun j hj=>hk j (ha j hj) (by rw [hB j hj];exact ⟨by omega,by omega⟩)
 exact ⟨i12,c,hc,af,Ft,Fs,m,hm,hS.kept g (fun j hj=>hn j (.inl hj)) (fun j hj=>hn j (.inr (.inl hj))) (hn _ (.inr (.inr rfl))),fun j hj=>(hL j (ha j hj)).trans (hB j hj)⟩
theorem bQ.kept (h:bQ W L k ab n A) (g:aj T W W') (hT:∀j,j<W.heap.size->T j->¬br k (L j)) (hL:∀j,j<W.heap.size->L' j=L j):bQ W' L' k ab n A:=by
 obtain ⟨sb,mb,nb,f,st,h⟩:=h
 exact ⟨sb,mb,nb,f,st,h.kept g hT hL⟩
theorem bQ.ag (h:bQ W L k ab n A) (g:ae W W'):bQ W' L k ab n A:=h.kept (g.only fun _=>False) (fun _ _ h=>h.elim) (fun _ _=>rfl)
theorem cG.mono (h:cG W L k ab sb mb nb n f st A) {n':Nat} (hn:n<=n'):cG W L k ab sb mb nb n' f st A:=by
 obtain ⟨m1,e1,h1⟩:=h.lm
 obtain ⟨fa,m2,e2,h2⟩:=h.la
 refine {h with lm:=⟨m1,by omega,h1⟩,la:=⟨fa,m2,by omega,h2⟩,states:=fun i P S hi=>?_}
 obtain ⟨i12,c,hc,af,Ft,Fs,m,hm,hS,hB⟩:=h.states i P S hi
 exact ⟨i12,c,hc,af,Ft,Fs,m,by omega,hS,hB⟩
end
end
end Go.Proofs.YtbnofojapimfcaaGreatDoor
namespace Go.Proofs.YtbnofojapimfcaaGreatDoor.Pl
theorem WE {α:Type} {l:List α} {i:Nat} (hi:i<l.length):(l[i]::l.eraseIdx i).Perm l:=by
 have e:l=l.take i++l[i]::l.drop (i+1):=by
  rw [<-zJ4 hi,List.take_append_drop]
 rw [List.eraseIdx_eq_take_drop_succ]
 refine List.Perm.trans ?_ (List.Perm.of_eq e.symm)
 exact List.perm_middle.symm
theorem WG {α:Type} {l:List α} {i:Nat} (hi:i<l.length) (a:α):(l.set i a).Perm (a::l.eraseIdx i):=by
 rw [List.set_eq_take_append_cons_drop,zZ1 hi,List.eraseIdx_eq_take_drop_succ]
 exact List.perm_middle
theorem WH {xs ys:List Sh} (hp:ys.Perm xs) {i i':Nat} (hi':i'<ys.length) (hi:i<xs.length) (he:ah ys i'=ah xs i):(ys.eraseIdx i').Perm (xs.eraseIdx i):=by
 have h1:=WE hi'
 have h2:=WE hi
 rw [kD ys i' hi',kD xs i hi] at he
 rw [he] at h1
 exact ((h1.trans hp).trans h2.symm).cons_inv
theorem Rq {xs ys:List Sh} (hp:ys.Perm xs) {i i':Nat} (hi':i'<ys.length) (hi:i<xs.length) (he:ah ys i'=ah xs i) (c:Sh):(ys.set i' c).Perm (xs.set i c):=
 (WG hi' c).trans (((WH hp hi' hi he).cons c).trans (WG hi c).symm)
theorem MX {xs ys:List Sh} (hp:ys.Perm xs) (hn:(xs.map Sh.id).Nodup) (id:Int):
    (ax ys id= -1/\ax xs id= -1)\/∃i' i:Nat,i'<ys.length/\i<xs.length/\ax ys id=(i':Nat)/\ax xs id=(i:Nat)/\ah ys i'=ah xs i/\(ah xs i).id=id:=by
 have hn':(ys.map Sh.id).Nodup:=(hp.map Sh.id).nodup_iff.2 hn
 rcases CJ ys id with h1 | ⟨i',hi',h1,e1⟩
 · rcases CJ xs id with h2 | ⟨i,hi,h2,e2⟩
   · exact .inl ⟨h1,h2⟩
   · have hm:ah xs i∈ys:=hp.mem_iff.2 (kE xs i hi)
     obtain ⟨j,hj,ej⟩:=List.mem_iff_getElem.1 hm
     have:=IU hn' j hj
     rw [kD ys j hj,ej,e2,h1] at this
     omega
 · have hm:ah ys i'∈xs:=hp.mem_iff.1 (kE ys i' hi')
   obtain ⟨i,hi,ei⟩:=List.mem_iff_getElem.1 hm
   have h2:=IU hn i hi
   rw [kD xs i hi,ei,e1] at h2
   exact .inr ⟨i',i,hi',hi,h1,h2,by rw [kD xs i hi,ei],by rw [kD xs i hi,ei,e1]⟩
structure Twin (s:df) (t:bj):Prop where
 live:t.xs.Perm s.xs
 used:∀k:Int,1<=k->k<=12->(t.us.any fun u=>u==k)=s.used k.toNat
 ne:t.ne=s.ne
 evs:t.evs=s.evs
 few:t.us.length<=s.ne+1
theorem z3k:Twin df.init bj.init:=by
 refine ⟨List.Perm.refl _,fun k h1 h2=>?_,rfl,rfl,zZ3 _⟩
 show ([1].any fun u=>u==k)=nX k.toNat
 unfold nX
 rw [zX5]
 simp
 omega
theorem xA {s:df} {t:bj} {n:Nat} (h:Twin s t) (hI:Inv s n) (e:En):gT t e=iq s.xs s.used e:=by
 unfold gT iq
 by_cases hr:bR e=false
 · rw [zZ1 hr,zZ1 hr]
 · rw [zZ0 hr,zZ0 hr]
   rcases MX h.live hI.nodup e.ai with ⟨a1,a2⟩ | ⟨i',i,hi',hi,a1,a2,a3,a4⟩
   · rw [a1,a2,zZ1 (by decide),zZ1 (by decide)]
   · have n1:¬((i':Nat):Int)<0:=by omega
     have n2:¬((i:Nat):Int)<0:=by omega
     rw [a1,a2,zZ0 n1,zZ0 n2,Int.toNat_natCast,Int.toNat_natCast,a3]
     by_cases k2:e.kind=2
     · rw [zZ1 k2,zZ1 k2]
     · rw [zZ0 k2,zZ0 k2]
       by_cases k3:e.kind=3
       · rw [zZ1 k3,zZ1 k3]
         obtain ⟨o1,o2⟩:=ND (by simpa using hr) k3
         rw [h.used _ o1 o2,LN]
         congr 2
         rw [zX5]
         simp
       · rw [zZ0 k3,zZ0 k3]
         by_cases k4:e.kind=4
         · rw [zZ1 k4,zZ1 k4]
           rcases MX h.live hI.nodup e.other with ⟨b1,b2⟩ | ⟨j',j,hj',hj,b1,b2,b3,b4⟩
           · rw [b1,b2,zZ1 (by decide),zZ1 (by decide)]
           · have m1:¬((j':Nat):Int)<0:=by omega
             have m2:¬((j:Nat):Int)<0:=by omega
             rw [b1,b2,zZ0 m1,zZ0 m2,Int.toNat_natCast,Int.toNat_natCast,b3,vA,vA]
         · rw [zZ0 k4,zZ0 k4]
theorem Ka {s:df} {t:bj} {n:Nat} (h:Twin s t) (hI:Inv s n) (e:En) (at':Int):dL t e at'=eQ s.xs s.used e at':=by
 unfold dL eQ
 rw [xA h hI]
 congr 1
 rw [zX5]
 simp
 omega
def EM (s:bj) (e:En) (at':Int):bj:=
 if e.kind=2 then ⟨s.xs.set (iI s.xs e) ⟨(ah s.xs (iI s.xs e)).id,e.server,(ah s.xs (iI s.xs e)).since,(ah s.xs (iI s.xs e)).lo,(ah s.xs (iI s.xs e)).hi⟩,s.us,s.ne,s.evs⟩
 else if e.kind=3 then ⟨s.xs.set (iI s.xs e) ⟨(ah s.xs (iI s.xs e)).id,(ah s.xs (iI s.xs e)).server,at'+1,(ah s.xs (iI s.xs e)).lo,e.key⟩++[⟨e.other,e.server,at'+1,e.key,(ah s.xs (iI s.xs e)).hi⟩],s.us++[e.other],s.ne+1,s.evs++jf at' e⟩
 else ⟨ja s.xs (iI s.xs e) (l9 s.xs e) (aH (dV (ah s.xs (iI s.xs e)).lo (ah s.xs (iI s.xs e)).hi) (dV (ah s.xs (l9 s.xs e)).lo (ah s.xs (l9 s.xs e)).hi) (ah s.xs (iI s.xs e)).lo (ah s.xs (iI s.xs e)).hi (ah s.xs (l9 s.xs e)).lo (ah s.xs (l9 s.xs e)).hi) at',s.us,s.ne+1,s.evs++jf at' e⟩
def dM (s:bj) (e:En) (at':Int):bj:=if dL s e at'=true then EM s e at' else s
theorem WI (xs:List Sh) (i j:Nat) (v:ByteArray×ByteArray) (at':Int):ja xs i j v at'=(xs.set i ⟨(ah xs i).id,(ah xs i).server,at'+1,v.1,v.2⟩).eraseIdx j:=by
 unfold ja
 rw [List.eraseIdx_eq_take_drop_succ]
theorem z4K {s:df} {t:bj} {n:Nat} (h:Twin s t) (hI:Inv s n) {e:En} {at':Int} (ha:eQ s.xs s.used e at'=true):Twin (aW s e at') (EM t e at'):=by
 have hc:iq s.xs s.used e=true:=by unfold eQ at ha;simp only [Bool.and_eq_true] at ha;exact ha.1.1
 obtain ⟨hr,i,hi,hf,fc,bP,hk⟩:=nz hc
 rcases MX h.live hI.nodup e.ai with ⟨a1,a2⟩ | ⟨i',i2,hi',_,a1,a2,a3,a4⟩
 · omega
 obtain rfl:i2=i:=by omega
 have EN:iI t.xs e=i':=by unfold iI;rw [a1];rfl
 obtain ⟨hp,hu,hne,hev,fY⟩:=h
 have hN:=hI.nodup
 obtain ⟨xs,used,ne,evs⟩:=s
 obtain ⟨ys,us,ne',rV⟩:=t
 dsimp only at *
 subst hne hev
 rcases hk with k2 | ⟨k3,yK,o1,o2,hh,tE⟩ | ⟨k4,j,hj,kF,nA,eA,hjn⟩
 · unfold aW EM
   rw [zZ1 k2,zZ1 k2]
   dsimp only
   rw [fc,EN,a3]
   exact ⟨Rq hp hi' hi a3 _,hu,rfl,rfl,fY⟩
 · unfold aW EM
   have n2:¬e.kind=2:=by omega
   rw [zZ0 n2,zZ0 n2,zZ1 k3,zZ1 k3]
   dsimp only
   rw [fc,EN,a3]
   refine ⟨?_,fun k h1 h2=>?_,rfl,rfl,by simp;omega⟩
   · dsimp only
     rw [N8 xs i2 hi]
     have hs:=Rq hp hi' hi a3 ⟨(ah xs i2).id,(ah xs i2).server,at'+1,(ah xs i2).lo,e.key⟩
     generalize xs.set i2 _=X at *
     refine (hs.append_right _).trans ?_
     rw [List.append_assoc]
     refine List.Perm.trans ?_ (List.Perm.append_left _ List.perm_append_comm)
     rw [<-List.append_assoc,List.take_append_drop]
   · dsimp only
     rw [List.any_append,hu k h1 h2]
     unfold pP
     rw [zX5]
     by_cases hko:k.toNat=e.other.toNat
     · have:e.other=k:=by omega
       simp [hko,this]
     · have:¬e.other=k:=by rintro rfl;exact hko rfl
       simp [hko,this]
 · rcases MX hp hN e.other with ⟨b1,b2⟩ | ⟨j',j2,hj',_,b1,b2,b3,b4⟩
   · omega
   obtain rfl:j2=j:=by omega
   have Rs:l9 ys e=j':=by unfold l9;rw [b1];rfl
   have pL:=(BG hr k4).2.2.2.2
   have hij:i2≠j2:=by intro he;subst he;exact pL (bP.symm.trans eA)
   have Ab:i'≠j':=by intro he;subst he;exact pL (by rw [<-a4,<-b4,<-a3,<-b3])
   unfold aW EM
   have n2:¬e.kind=2:=by omega
   have n3:¬e.kind=3:=by omega
   rw [zZ0 n2,zZ0 n2,zZ0 n3,zZ0 n3]
   dsimp only
   rw [fc,EN,nA,Rs,a3,b3,vA,vA]
   refine ⟨?_,hu,rfl,rfl,by dsimp only;omega⟩
   dsimp only
   rw [WI,WI,a3]
   refine WH (Rq hp hi' hi a3 _) (by simpa using hj') (by simpa using hj) ?_
   rw [qb _ _ hi',qb _ _ hi,zZ0 (Ne.symm Ab),zZ0 (Ne.symm hij),b3]
theorem z2b {s:df} {t:bj} {n:Nat} (h:Twin s t) (hI:Inv s n) (e:En) (at':Int):Twin (wC s e at') (dM t e at'):=by
 unfold wC dM
 rw [Ka h hI]
 split
 · next ha=>exact z4K h hI ha
 · exact h
def Small (xs:List Sh):Prop:=∀c∈xs,c.lo.size<=300/\c.hi.size<=300
theorem MZ {s:df} {t:bj} {n:Nat} (h:Twin s t) (hI:Inv s n) (hS:Small s.xs) (hn:n<=900):xt t:=by
 have h1:=hI.len
 have h2:=hI.few
 have h3:=h.few
 refine ⟨by rw [h.live.length_eq];omega,by omega,by rw [h.ne];omega,fun c hc=>?_⟩
 have:=hS c (h.live.mem_iff.1 hc)
 omega
end Go.Proofs.YtbnofojapimfcaaGreatDoor.Pl
