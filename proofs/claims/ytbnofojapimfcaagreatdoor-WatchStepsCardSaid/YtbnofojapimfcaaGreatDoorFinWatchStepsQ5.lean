/- Part 5 of the proof. -/
import Derived.Test.YtbnofojapimfcaaGreatDoorFinWatchStepsQ1
import Derived.BigQuiet
import Derived.StillTail
import Derived.Deep.QuietTactic
import Derived.Sort.QuietThIn
import Derived.OwnWalkIn
set_option linter.unusedVariables false
set_option linter.unusedSectionVars false
set_option linter.unusedSimpArgs false
set_option maxRecDepth 100000
set_option maxHeartbeats 16000000
namespace Go.Proofs.YtbnofojapimfcaaGreatDoor
section
open Go
section
variable {P:Program} {ops:Array Oper}
def bB (f:Nat->Value) (i:Nat) (v:Value) (j:Nat):Value:=if j=i then v else f j
theorem fT (f:Nat->Value) (i:Nat) (v:Value):bB f i v i=v:=zZ1 rfl
theorem gg {f:Nat->Value} {i j:Nat} {v:Value} (h:j≠i):bB f i v j=f j:=zZ0 h
def aR (L:Nat->Bool) (f:Nat->Value):List Oper->Nat->Act->Act
 | [],_,a=>a
 | o::l,k,a=>aR L f l (k+1) (if L k then a.put o.dst (f k) else a)
def Apart (ops:Array Oper):Prop:=∀(i j:Nat) (oi oj:Oper),ops[i]? =some oi->ops[j]? =some oj->i≠j->∀d,oi.dst=some d->oj.dst≠some d
def NF (ops:Array Oper):Bool:=(List.range ops.size).all fun i=>(List.range ops.size).all fun j=>i==j || (match (ops[i]?).bind (·.dst),(ops[j]?).bind (·.dst) with | some d,some e=>d !=e | _,_=>true)
theorem uJ (h:NF ops=true):Apart ops:=by
 intro i j oi oj hi hj hne d hd he
 have hil:=(zZ2.1 hi).1
 have hjl:=(zZ2.1 hj).1
 unfold NF at h
 rw [zX2] at h
 have h1:=h i (List.mem_range.2 hil)
 rw [zX2] at h1
 have h2:=h1 j (List.mem_range.2 hjl)
 rw [hi,hj] at h2
 simp [hd,he,hne] at h2
theorem Lh (hA:Apart ops) (L:Nat->Bool) (f:Nat->Value):∀(l:List Oper) (k:Nat) (a:Act) (i:Nat) (oi:Oper) (v:Value),(∀j,l[j]? =ops[k+j]?)->ops[i]? =some oi->i<k->aR L f l k (a.put oi.dst v)=(aR L f l k a).put oi.dst v
 | [],_,_,_,_,_,_,_,_=>rfl
 | o::l,k,a,i,oi,v,hl,hi,hk=>by
  have h0:ops[k]? =some o:=by simpa using (hl 0).symm
  have hl':∀j,l[j]? =ops[k+1+j]? :=fun j=>by have:=hl (j+1);simpa [zQ6,Nat.add_comm 1 j] using this
  unfold aR
  rw [<-Lh hA L f l (k+1) _ i oi v hl' hi (by omega)]
  congr 1
  split
  · exact Act.put_comm a v (f k) (fun d hd=>hA i k oi o hi h0 (by omega) d hd)
  · rfl
theorem Li (L M:Nat->Bool) (f g:Nat->Value):∀(l:List Oper) (k:Nat) (a:Act),(∀j,k<=j->L j=M j)->(∀j,k<=j->f j=g j)->aR L f l k a=aR M g l k a
 | [],_,_,_,_=>rfl
 | o::l,k,a,h1,h2=>by
  unfold aR
  rw [h1 k (zZ3 _),h2 k (zZ3 _)]
  exact Li L M f g l (k+1) _ (fun j hj=>h1 j (by omega)) (fun j hj=>h2 j (by omega))
theorem Te (hA:Apart ops) (L M:Nat->Bool) (f:Nat->Value) (i:Nat) (oi:Oper) (v:Value) (hi:ops[i]? =some oi) (hL:L i=false) (hM:∀j,M j=(if j=i then true else L j)):∀(l:List Oper) (k:Nat) (a:Act),(∀j,l[j]? =ops[k+j]?)->k<=i->i<k+l.length->aR M (bB f i v) l k a=(aR L f l k a).put oi.dst v
 | [],k,_,_,h1,h2=>by simp at h2;omega
 | o::l,k,a,hl,h1,h2=>by
  have h0:ops[k]? =some o:=by simpa using (hl 0).symm
  have hl':∀j,l[j]? =ops[k+1+j]? :=fun j=>by have:=hl (j+1);simpa [zQ6,Nat.add_comm 1 j] using this
  unfold aR
  by_cases hk:k=i
  · subst hk
    rw [hi] at h0
    cases h0
    rw [hM,zZ1 rfl,fT,hL]
    simp only [if_true,zZ8,if_false]
    rw [Lh hA M (bB f k v) l (k+1) a k oi v hl' hi (by omega)]
    congr 1
    exact Li M L (bB f k v) f l (k+1) a (fun j hj=>by rw [hM,zZ0 (by omega)]) (fun j hj=>gg (by omega))
  · rw [hM,zZ0 hk,gg hk]
    exact Te hA L M f i oi v hi hL hM l (k+1) _ hl' (by omega) (by simp only [List.length_cons] at h2;omega)
theorem CL (hA:Apart ops) (o:Oper) (jR:∀cs b,o.op≠.select cs b) (L M:Nat->Bool) (f:Nat->Value) (Lj:∀j,M j=true->L j=true) (hfree:∀j oj,ops[j]? =some oj->L j=true->M j=false->∀d,oj.dst=some d->d ∉ o.looksAt ops):∀(l:List Oper) (k:Nat) (a:Act),(∀j,l[j]? =ops[k+j]?)->
    execOp (aR L f l k a).eval o=execOp (aR M f l k a).eval o/\Region.wanted o (yielded ops (aR L f l k a).tmps)=Region.wanted o (yielded ops (aR M f l k a).tmps)
 | [],_,_,_=>⟨rfl,rfl⟩
 | oj::l,k,a,hl=>by
  have h0:ops[k]? =some oj:=by simpa using (hl 0).symm
  have hl':∀j,l[j]? =ops[k+1+j]? :=fun j=>by have:=hl (j+1);simpa [zQ6,Nat.add_comm 1 j] using this
  unfold aR
  cases hm:M k with
  | true=>rw [Lj k hm];exact CL hA o jR L M f Lj hfree l (k+1) _ hl'
  | false=>
   cases hL:L k with
   | false=>exact CL hA o jR L M f Lj hfree l (k+1) _ hl'
   | true=>
    simp only [if_true,zZ8,if_false]
    rw [Lh hA L f l (k+1) a k oj (f k) hl' h0 (by omega),execOp_put o jR _ _ _ (hfree k oj h0 hL hm),wanted_put o _ _ _ (hfree k oj h0 hL hm)]
    exact CL hA o jR L M f Lj hfree l (k+1) _ hl'
def aT (P:Program) (K:Value->World->Prop):Result Next->Prop
 | .ok (.value u) w'=>K u w'
 | .ok .skip w'=>K undef w'
 | .ok (.enter f args) w'=>Calls P f args w' (fun e w''=>∃v,e=.returned v/\K v w'')
 | _=>False
theorem YI {o:Oper} {a:Act} {K:Value->World->Prop} {next:Act->World->Prop} {Q:Exit->Act->World->Prop} (h:∀v w',K v w'->next (a.put o.dst v) w'):∀r,aT P K r->o.upon P a next Q r
 | .ok (.value u) w',hr=>h u w' hr
 | .ok .skip w',hr=>h _ w' hr
 | .ok (.enter f args) w',hr=>by
  refine Calls.mono hr fun e w'' he=>?_
  obtain ⟨v,rfl,hv⟩:=he
  exact h v w'' hv
 | .ok (.defer d) w',hr=>hr.elim
 | .ok (.row row args) w',hr=>hr.elim
 | .halt x w',hr=>hr.elim
def iZ (o:Oper):List Nat:=(o.after.toList.filter (Region.binds .any)).map (·.on)
def G0 (ops:Array Oper) (n:Nat):Bool:=(List.range ops.size).all fun i=>match ops[i]? with
 | none=>true
 | some o=>(iZ o).all (fun j=>decide (j<i)) && (List.range n).all fun j=>match (ops[j]?).bind (·.dst) with
  | none=>true
  | some d=>(iZ o).contains j || j==i || !(o.looksAt ops).contains d
theorem NG {n:Nat} (h:G0 ops n=true) {i:Nat} {o:Oper} (hi:ops[i]? =some o):(∀j∈iZ o,j<i)/\∀j oj,j<n->ops[j]? =some oj->j ∉ iZ o->j≠i->∀d,oj.dst=some d->d ∉ o.looksAt ops:=by
 have hil:=(zZ2.1 hi).1
 unfold G0 at h
 rw [zX2] at h
 have h1:=h i (List.mem_range.2 hil)
 rw [hi] at h1
 simp only [Bool.and_eq_true,zX2,decide_eq_true_eq] at h1
 refine ⟨h1.1,fun j oj hjn hj hnd hne d hd hmem=>?_⟩
 have h2:=h1.2 j (List.mem_range.2 hjn)
 rw [hj] at h2
 simp [hd,hnd,hne,hmem] at h2
abbrev plus (L:Nat->Bool) (i:Nat) (j:Nat):Bool:=if j=i then true else L j
def uK (P:Program) (ops:Array Oper) (a0:Act) (J:(Nat->Bool)->(Nat->Value)->World->Prop) (i:Nat) (o:Oper):Prop:=
 ∀(L:Nat->Bool) (f:Nat->Value) (w:World),J L f w->L i=false->(∀j∈iZ o,L j=true)->
  if Region.wanted o (yielded ops (aR (fun j=>(iZ o).contains j) f ops.toList 0 a0).tmps)=true then
   aT P (fun v w'=>J (plus L i) (bB f i v) w') ((execOp (aR (fun j=>(iZ o).contains j) f ops.toList 0 a0).eval o).run P w)
  else J (plus L i) (bB f i undef) w
theorem Tf {listed:Array Bool} {i:Nat} (h:i∈Region.ready .any ops listed):listed.getD i true=false/\∃o,ops[i]? =some o/\∀j∈iZ o,listed.getD j false=true:=by
 obtain ⟨h1,o,h2,h3⟩:=mem_ready.1 h
 refine ⟨h1,o,h2,fun j hj=>?_⟩
 obtain ⟨e,he,rfl⟩:=zZ4.1 hj
 obtain ⟨he1,YJ⟩:=List.mem_filter.1 he
 exact h3 e (by simpa using he1) YJ
theorem uL {n:Nat} {listed:Array Bool} (inv:HeadInv .any ops n listed) (hall:∀i,i<n->listed.getD i false=true):listed=(List.replicate n true++List.replicate (ops.size - n) false).toArray\/ops.size<n:=by
 by_cases hn:ops.size<n
 · exact .inr hn
 refine .inl (Array.ext_getElem? fun i=>?_)
 have e2:(List.replicate n true++List.replicate (ops.size - n) false).toArray[i]? =(List.replicate n true++List.replicate (ops.size - n) false)[i]? :=by simp
 rw [e2]
 by_cases h1:i<n
 · have hs:i<listed.size:=by rw [inv.size];omega
   have:=hall i h1
   simp [hs] at this
   rw [List.getElem?_append_left (by simpa using h1),List.getElem?_replicate,zZ1 h1,zJ7 hs,this]
 · rw [List.getElem?_append_right (by simpa using h1),List.length_replicate,List.getElem?_replicate]
   by_cases h2:i<ops.size
   · have hs:i<listed.size:=by rw [inv.size];omega
     have:=inv.tail i (by omega) h2
     simp [hs] at this
     rw [zZ1 (by omega),zJ7 hs,this]
   · rw [zZ0 (by omega),Array.getElem?_eq_none (by rw [inv.size];omega)]
theorem YK {Q:Exit->Act->World->Prop} {a0:Act} {J:(Nat->Bool)->(Nat->Value)->World->Prop} (n:Nat) (hn:n<=ops.size) (jR:Region.noSelect ops=true) (hA:Apart ops) (hW:G0 ops n=true)
    (nY:n=ops.size\/(n<ops.size/\Region.sinkB .any ops n=true/\Region.chainB .any ops n=true)) (hseq:Region.seqB .any ops (ops.size - n) n (List.replicate n true++List.replicate (ops.size - n) false).toArray=true)
    (hstep:∀i o,i<n->ops[i]? =some o->uK P ops a0 J i o)
    (hend:∀f w,J (fun j=>decide (j<n)) f w->wpList P ops Q (ops.toList.drop n) (aR (fun j=>decide (j<n)) f ops.toList 0 a0) w):
    ∀(fuel:Nat) (listed:Array Bool) (f:Nat->Value) (w:World),listed.toList.count false=fuel->HeadInv .any ops n listed->J (fun j=>listed.getD j false) f w->
     wpAny P .any ops Q fuel listed (aR (fun j=>listed.getD j false) f ops.toList 0 a0) w:=by
 have hdone:∀(fuel:Nat) (listed:Array Bool) (f:Nat->Value) (w:World),listed.toList.count false=fuel->HeadInv .any ops n listed->J (fun j=>listed.getD j false) f w->(∀i,i<n->listed.getD i false=true)->
     wpAny P .any ops Q fuel listed (aR (fun j=>listed.getD j false) f ops.toList 0 a0) w:=by
  intro fuel listed f w hc inv hi hall
  rcases uL inv hall with G6 | h
  · have hgo:∀(l:List Oper) (k:Nat) (a:Act),(∀j,j<l.length->k+j<ops.size)->aR (fun j=>listed.getD j false) f l k a=aR (fun j=>decide (j<n)) f l k a:=by
     intro l
     induction l with
     | nil=>intro k a _;rfl
     | cons o l ih=>
      intro k a hk
      unfold aR
      have e:listed.getD k false=decide (k<n):=by
       by_cases hkn:k<n
       · rw [hall k hkn];simp [hkn]
       · have hko:k<ops.size:=by have:=hk 0 (by simp);simpa using this
         rw [getD_both (inv.tail k (by omega) hko)];simp [hkn]
      rw [e]
      exact ih (k+1) _ (fun j hj=>by have:=hk (j+1) (by simp;omega);omega)
    rw [hgo _ 0 a0 (fun j hj=>by simpa using hj)]
    have G7:fuel=(ops.toList.drop n).length:=by
     rw [<-hc,G6]
     simp [List.count_append,List.count_replicate]
    have eL:(fun j=>listed.getD j false)=(fun j=>decide (j<n)):=by
     funext k
     by_cases hkn:k<n
     · rw [hall k hkn];simp [hkn]
     · by_cases hko:k<ops.size
       · rw [getD_both (inv.tail k (by omega) hko)];simp [hkn]
       · have:¬k<listed.size:=by rw [inv.size];exact hko
         simp [Array.getD,this,hkn]
    rw [eL] at hi
    have h2:=hend f w hi
    rw [G7]
    refine wpAny_of_seq (ops.toList.drop n) n listed _ w (fun j=>by simp) ?_ h2
    rw [G6]
    simpa using hseq
  · omega
 intro fuel
 induction fuel with
 | zero=>
  intro listed f w hc inv hi
  refine hdone 0 listed f w hc inv hi fun i hin=>?_
  cases hl:listed.getD i false with
  | true=>rfl
  | false=>
   exfalso
   have aq:i<listed.size:=by rw [inv.size];omega
   have hm:false∈listed.toList:=by
    simp [aq] at hl
    rw [<-hl]
    exact Array.getElem_mem_toList aq
   have:=List.count_pos_iff.2 hm
   omega
 | succ fuel ih=>
  intro listed f w hc inv hi
  by_cases hall:∀i,i<n->listed.getD i false=true
  · exact hdone _ listed f w hc inv hi hall
  obtain ⟨i0,hi0,hl0⟩:∃i,i<n/\listed.getD i false=false:=by
   refine zZ7 fun hno=>hall fun i hin=>?_
   cases hl:listed.getD i false with
   | true=>rfl
   | false=>exact absurd ⟨i,hin,hl⟩ hno
  have hl0':listed.getD i0 true=false:=getD_in (by rw [inv.size];omega) hl0
  have hlow:∀i∈Region.ready .any ops listed,i<n:=by
   intro i hmem
   rcases nY with h | ⟨h1,h2,h3⟩
   · obtain ⟨_,o,ho,_⟩:=Tf hmem
     have:=(zZ2.1 ho).1
     omega
   · rcases Nat.lt_or_ge i n with h | h
     · exact h
     · exact absurd hmem (tail_waits h2 h3 h1 inv _ i0 rfl hi0 hl0' i h)
  refine ⟨fun hr=>?_,fun i hmem=>?_⟩
  · exfalso
    have hall:∀m i,i<m->i<n->listed.getD i false=true:=by
     intro m
     induction m with
     | zero=>intro i h;omega
     | succ m ih=>
      intro i him hin
      by_cases hl:listed.getD i false=true
      · exact hl
      · exfalso
        have Ba:i<ops.size:=by omega
        have hmem:i∈Region.ready .any ops listed:=by
         refine mem_ready.2 ⟨?_,ops[i],zJ7 Ba,fun e he hb=>?_⟩
         · exact getD_in (by rw [inv.size];omega) (by simpa using hl)
         · have hw:=(NG hW (zJ7 Ba)).1 e.on (zZ4.2 ⟨e,List.mem_filter.2 ⟨by simpa using he,hb⟩,rfl⟩)
           exact ih e.on (by omega) (by omega)
        rw [hr] at hmem
        cases hmem
    rw [hall (i0+1) i0 (by omega) hi0] at hl0
    cases hl0
  obtain ⟨hfree,o,ho,mJ⟩:=Tf hmem
  have hin:=hlow i hmem
  have aq:i<ops.size:=(zZ2.1 ho).1
  have G8:listed.getD i false=false:=getD_both hfree
  have hst:=hstep i o hin ho (fun j=>listed.getD j false) f w hi G8 mJ
  have hex:=CL hA o (Region.noSelect_spec jR i o · · ho) (fun j=>listed.getD j false) (fun j=>(iZ o).contains j) f (fun j hj=>mJ j (by simpa using hj))
   (fun j oj hj hL hM=>(NG hW ho).2 j oj (Nat.lt_of_not_le fun hge=>by rw [getD_both (inv.tail j hge (zZ2.1 hj).1)] at hL;cases hL) hj (by simpa using hM) (fun e=>by rw [e] at hL;rw [G8] at hL;cases hL)) ops.toList 0 a0 (fun j=>by simp)
  have CM:(listed.setIfInBounds i true).toList.count false=fuel:=by
   have hll:i<listed.toList.length:=by rw [Array.length_toList,inv.size];omega
   have hg:listed.toList[i]=false:=by
    have:i<listed.size:=by rw [inv.size];omega
    simp [this] at G8
    simpa using G8
   rw [Array.toList_setIfInBounds,List.count_set hll]
   simp only [hg,beq_self_eq_true,if_true]
   have:(true==false)=false:=rfl
   simp only [this,zZ8,if_false]
   omega
  have hnext:∀v w',J (plus (fun j=>listed.getD j false) i) (bB f i v) w'->wpAny P .any ops Q fuel (listed.setIfInBounds i true) ((aR (fun j=>listed.getD j false) f ops.toList 0 a0).put o.dst v) w':=by
   intro v w' Ll
   have gh:∀j,(listed.setIfInBounds i true).getD j false=(if j=i then true else listed.getD j false):=by
    intro j
    by_cases hj:j=i
    · subst hj
      have:j<listed.size:=by rw [inv.size];omega
      simp [this]
    · rw [zZ0 hj];exact getD_set_ne false (Ne.symm hj)
   rw [<-Te hA (fun j=>listed.getD j false) (fun j=>(listed.setIfInBounds i true).getD j false) f i o v ho G8 gh ops.toList 0 a0 (fun j=>by simp) (by omega) (by simpa using aq)]
   refine ih _ _ _ CM (inv.set hmem hin) ?_
   rw [funext gh]
   exact Ll
  unfold wpOp
  simp only [ho]
  rw [hex.2]
  split
  · next hw=>
    rw [zZ1 hw] at hst
    refine .inl ?_
    unfold Oper.wp
    rw [hex.1]
    exact YI hnext _ hst
  · next hw=>
    rw [zZ0 hw] at hst
    exact hnext _ _ hst
theorem YL {id:Nat} {Q:Exit->Act->World->Prop} {a0:Act} {w:World} {l:List Oper} {J:(Nat->Bool)->(Nat->Value)->World->Prop} (n:Nat) (hn:n<=l.length)
    (hm:P.follows .mixedOrders=true) (jR:Region.noSelect l.toArray=true) (hA:Apart l.toArray) (hW:G0 l.toArray n=true)
    (nY:n=l.toArray.size\/(n<l.toArray.size/\Region.sinkB .any l.toArray n=true/\Region.chainB .any l.toArray n=true)) (hseq:Region.seqB .any l.toArray (l.toArray.size - n) n (List.replicate n true++List.replicate (l.toArray.size - n) false).toArray=true)
    (h0:J (fun _=>false) (fun _=>undef) w.drew)
    (hstep:∀i o,i<n->l[i]? =some o->uK P l.toArray a0 J i o)
    (hend:∀f w,J (fun j=>decide (j<n)) f w->wpList P l.toArray Q (l.drop n) (aR (fun j=>decide (j<n)) f l 0 a0) w):(Code.region id l.toArray true).wp P Q a0 w:=by
 refine wp_region_any hm ?_
 have:=YK (P:=P) (ops:=l.toArray) (Q:=Q) (a0:=a0) (J:=J) n (by simpa using hn) jR hA hW nY hseq
  (fun i o h1 h2=>hstep i o h1 (by simpa using h2)) (fun f w h1=>by simpa using hend f w h1) l.toArray.size (Array.replicate l.toArray.size false) (fun _=>undef) w.drew (by simp)
  ⟨by simp,fun j oj hj hl=>(by rw [getD_replicate_false] at hl;cases hl),fun t _ ht=>(by have:t<l.length:=(by simpa using ht);simp [this])⟩ (by rw [funext (getD_replicate_false _)];exact h0)
 rw [show aR (fun j=>(Array.replicate l.toArray.size false).getD j false) (fun _=>undef) l.toArray.toList 0 a0=a0 from ?_] at this
 · exact this
 · have hz:∀(l':List Oper) (k:Nat) (a:Act),aR (fun j=>(Array.replicate l.toArray.size false).getD j false) (fun _=>undef) l' k a=a:=by
    intro l'
    induction l' with
    | nil=>intro k a;rfl
    | cons o l' ih=>intro k a;unfold aR;rw [ih,getD_replicate_false];rfl
   exact hz _ _ _
end
end
section
open Go
section
variable {P:Program} {ops:Array Oper}
theorem NH (L:Nat->Bool) (f:Nat->Value) (o:Oper) (l:List Oper) (k:Nat) (a:Act):aR L f (o::l) k a=aR L f l (k+1) (if L k then a.put o.dst (f k) else a):=rfl
theorem NI (L:Nat->Bool) (f:Nat->Value):∀(l:List Oper) (k:Nat) (a:Act),(∀j,k<=j->L j=false)->aR L f l k a=a
 | [],_,_,_=>rfl
 | o::l,k,a,h=>by
  unfold aR
  rw [h k (zZ3 _)]
  exact NI L f l (k+1) a (fun j hj=>h j (by omega))
theorem Lm (L M:Nat->Bool) (f g:Nat->Value):∀(l:List Oper) (k:Nat) (a:Act),(∀j,k<=j->j<k+l.length->L j=M j)->(∀j,k<=j->j<k+l.length->L j=true->f j=g j)->aR L f l k a=aR M g l k a
 | [],_,_,_,_=>rfl
 | o::l,k,a,h1,h2=>by
  unfold aR
  have hk:=h1 k (zZ3 _) (by simp)
  rw [<-hk]
  have e:(if L k=true then a.put o.dst (f k) else a)=(if L k=true then a.put o.dst (g k) else a):=by
   by_cases h:L k=true
   · rw [zZ1 h,zZ1 h,h2 k (zZ3 _) (by simp) h]
   · rw [zZ0 h,zZ0 h]
  rw [e]
  exact Lm L M f g l (k+1) _ (fun j hj hl=>h1 j (by omega) (by simp only [List.length_cons];omega)) (fun j hj hl=>h2 j (by omega) (by simp only [List.length_cons];omega))
theorem NJ (hA:Apart ops) (A B:Nat->Bool) (f g:Nat->Value) (Tg:∀j,A j=true->B j=false):∀(l:List Oper) (k:Nat) (a:Act),(∀j,l[j]? =ops[k+j]?)->aR B f l k (aR A g l k a)=aR (fun j=>A j || B j) (fun j=>if B j then f j else g j) l k a
 | [],_,_,_=>rfl
 | o::l,k,a,hl=>by
  have h0:ops[k]? =some o:=by simpa using (hl 0).symm
  have hl':∀j,l[j]? =ops[k+1+j]? :=fun j=>by have:=hl (j+1);simpa [zQ6,Nat.add_comm 1 j] using this
  have IH:=NJ hA A B f g Tg l (k+1)
  rw [NH B,NH A,NH]
  cases hb:B k with
  | true=>
   have ha:A k=false:=by
    cases ha:A k with
    | false=>rfl
    | true=>rw [Tg k ha] at hb;cases hb
   simp only [ha,zZ8,if_false,if_true,Bool.or_true]
   rw [<-Lh hA A g l (k+1) a k o (f k) hl' h0 (by omega)]
   rw [IH _ hl']
  | false=>
   simp only [zZ8,if_false,Bool.or_false]
   rw [IH _ hl']
theorem Th {K K':Value->World->Prop} (h:∀v w,K v w->K' v w):∀r,aT P K r->aT P K' r
 | .ok (.value u) w',hr=>h u w' hr
 | .ok .skip w',hr=>h _ w' hr
 | .ok (.enter f args) w',hr=>Calls.mono hr fun _ _ ⟨v,h1,h2⟩=>⟨v,h1,h v _ h2⟩
 | .ok (.defer d) w',hr=>hr.elim
 | .ok (.row row args) w',hr=>hr.elim
 | .halt x w',hr=>hr.elim
def Lp (P:Program) (I:World->Prop) (T:World->World->Prop) (o:Oper) (a:Act) (v:Value):Prop:=
 ∀w,I w->aT P (fun u w'=>T w w'/\u=v) ((execOp a.eval o).run P w)
def bV (P:Program) (ops:Array Oper) (n:Nat) (Z:List Nat) (I:World->Prop) (T:World->World->Prop) (K:Act->Prop):List Oper->Nat->Act->Prop
 | [],_,a=>K a
 | o::l,k,a=>if decide (k<n)=true then (if Z.contains k=true then bV P ops n Z I T K l (k+1) a else if Region.wanted o (yielded ops a.tmps)=true then ∃v,Lp P I T o a v/\bV P ops n Z I T K l (k+1) (a.put o.dst v) else bV P ops n Z I T K l (k+1) (a.put o.dst undef)) else K a
abbrev gw (n:Nat) (Z:List Nat) (j:Nat):Bool:=decide (j<n) && !Z.contains j
theorem Ti (n:Nat) (Z:List Nat) {j:Nat} (h:n<=j):gw n Z j=false:=by
 have:decide (j<n)=false:=by simp;omega
 unfold gw;rw [this];rfl
theorem NK {n:Nat} {Z:List Nat} {I:World->Prop} {T:World->World->Prop} {K:Act->Prop}:∀(l:List Oper) (k:Nat) (a:Act),bV P ops n Z I T K l k a->
    ∃c:Nat->Value,K (aR (gw n Z) c l k a)/\∀i o,l[i]? =some o->k+i<n->Z.contains (k+i)=false->
     (Region.wanted o (yielded ops (aR (gw (k+i) Z) c l k a).tmps)=true/\Lp P I T o (aR (gw (k+i) Z) c l k a) (c (k+i)))\/(Region.wanted o (yielded ops (aR (gw (k+i) Z) c l k a).tmps)=false/\c (k+i)=undef)
 | [],k,a,h=>⟨fun _=>undef,h,fun i o hi=>by simp at hi⟩
 | o::l,k,a,h=>by
  unfold bV at h
  by_cases hk:k<n
  · rw [zZ1 (by simpa using hk)] at h
    by_cases hz:Z.contains k=true
    · rw [zZ1 hz] at h
      obtain ⟨c,h1,h2⟩:=NK l (k+1) a h
      refine ⟨c,?_,?_⟩
      · unfold aR
        have e:gw n Z k=false:=by unfold gw;rw [hz];simp
        rw [e];exact h1
      · intro i o' hi hin CN
        match i,hi with
        | 0,hi=>rw [zX3,hz] at CN;cases CN
        | i+1,hi=>
         have e:k+(i+1)=k+1+i:=by omega
         have e2:gw (k+1+i) Z k=false:=by unfold gw;rw [hz];simp
         have:=h2 i o' (by simpa using hi) (by omega) (by rw [<-e];exact CN)
         rw [e]
         unfold aR
         rw [e2]
         exact this
    · rw [zZ0 hz] at h
      have hz':Z.contains k=false:=by simpa using hz
      have key:∀v,bV P ops n Z I T K l (k+1) (a.put o.dst v)->((Region.wanted o (yielded ops a.tmps)=true/\Lp P I T o a v)\/(Region.wanted o (yielded ops a.tmps)=false/\v=undef))->
          ∃c:Nat->Value,K (aR (gw n Z) c (o::l) k a)/\∀i o',(o::l)[i]? =some o'->k+i<n->Z.contains (k+i)=false->
           (Region.wanted o' (yielded ops (aR (gw (k+i) Z) c (o::l) k a).tmps)=true/\Lp P I T o' (aR (gw (k+i) Z) c (o::l) k a) (c (k+i)))\/(Region.wanted o' (yielded ops (aR (gw (k+i) Z) c (o::l) k a).tmps)=false/\c (k+i)=undef):=by
       intro v hv hs
       obtain ⟨c,h1,h2⟩:=NK l (k+1) _ hv
       refine ⟨bB c k v,?_,?_⟩
       · unfold aR
         have e:gw n Z k=true:=by unfold gw;rw [hz'];simpa using hk
         rw [e,fT]
         simp only [if_true]
         rw [Li (gw n Z) (gw n Z) (bB c k v) c l (k+1) _ (fun _ _=>rfl) (fun j hj=>gg (by omega))]
         exact h1
       · intro i o' hi hin CN
         match i,hi with
         | 0,hi=>
          have:o=o':=by simpa using hi
          subst this
          rw [zX3,NI (gw k Z) _ (o::l) k a (fun j hj=>Ti k Z hj),fT]
          exact hs
         | i+1,hi=>
          have e:k+(i+1)=k+1+i:=by omega
          have e2:gw (k+1+i) Z k=true:=by unfold gw;rw [hz'];simp;omega
          have:=h2 i o' (by simpa using hi) (by omega) (by rw [<-e];exact CN)
          rw [e,gg (by omega:k+1+i≠k)]
          unfold aR
          rw [e2,fT]
          simp only [if_true]
          rw [Li (gw (k+1+i) Z) (gw (k+1+i) Z) (bB c k v) c l (k+1) _ (fun _ _=>rfl) (fun j hj=>gg (by omega))]
          exact this
      split at h
      · next hw=>obtain ⟨v,hv1,hv2⟩:=h;exact key v hv2 (.inl ⟨hw,hv1⟩)
      · next hw=>exact key undef h (.inr ⟨by simpa using hw,rfl⟩)
  · rw [zZ0 (by simpa using hk)] at h
    refine ⟨fun _=>undef,?_,fun i o' _ hin _=>by omega⟩
    rw [NI (gw n Z) _ (o::l) k a (fun j hj=>Ti n Z (by omega))]
    exact h
def zh (ops:Array Oper) (n:Nat) (Z:List Nat):Bool:=
 decide (n<=ops.size) && Region.noSelect ops && NF ops && G0 ops n && (decide (n=ops.size) || (decide (n<ops.size) && Region.sinkB .any ops n && Region.chainB .any ops n)) &&
 Region.seqB .any ops (ops.size - n) n (List.replicate n true++List.replicate (ops.size - n) false).toArray &&
 (Z.all fun i=>decide (i<n)) &&
 ((List.range n).all fun i=>Z.contains i || match ops[i]? with | none=>true | some o=>Z.all fun j=>match (ops[j]?).bind (·.dst) with | none=>true | some d=>!(o.looksAt ops).contains d)
def G9 (P:Program) (l:List Oper) (Z:List Nat) (J:(Nat->Bool)->(Nat->Value)->World->Prop) (a:Act) (i:Nat):Prop:=
 ∀o,l[i]? =some o->∀(L:Nat->Bool) (f:Nat->Value) (w:World),J L f w->L i=false->(∀j,Z.contains j=true->j∈iZ o->L j=true)->
  if Region.wanted o (yielded l.toArray (aR (fun j=>Z.contains j && (iZ o).contains j) f l 0 a).tmps)=true then
   aT P (fun v w'=>J (plus L i) (bB f i v) w') ((execOp (aR (fun j=>Z.contains j && (iZ o).contains j) f l 0 a).eval o).run P w)
  else J (plus L i) (bB f i undef) w
def uM (p:Nat->Prop):List Nat->Prop
 | []=>True
 | i::l=>p i/\uM p l
theorem Tj {p:Nat->Prop}:∀{l:List Nat},uM p l->∀i∈l,p i
 | _::l,h,i,hi=>by
  rcases List.mem_cons.1 hi with rfl | hi
  · exact h.1
  · exact Tj h.2 i hi
theorem bH {l:List Oper} {Z:List Nat} {J:(Nat->Bool)->(Nat->Value)->World->Prop} {a:Act} {i:Nat} {o:Oper} (ho:l[i]? =some o) (g:(Nat->Value)->Act->Act)
    (hg:∀f a,aR (fun j=>Z.contains j && (iZ o).contains j) f l 0 a=g f a) (hw:∀f,Region.wanted o (yielded l.toArray (g f a).tmps)=true)
    (h:∀(L:Nat->Bool) (f:Nat->Value) (w:World),J L f w->L i=false->(∀j,Z.contains j=true->j∈iZ o->L j=true)->aT P (fun v w'=>J (plus L i) (bB f i v) w') ((execOp (g f a).eval o).run P w)):G9 P l Z J a i:=by
 intro o' ho' L f w hi hL hV
 have:o=o':=Option.some.inj (ho.symm.trans ho')
 subst this
 rw [hg,zZ1 (hw f)]
 exact h L f w hi hL hV
theorem gJ {id:Nat} {Q:Exit->Act->World->Prop} {a0:Act} {w:World} {l:List Oper} (n:Nat) (Z:List Nat) (I:World->Prop) (T:World->World->Prop) (J:(Nat->Bool)->(Nat->Value)->World->Prop) (g:(Nat->Value)->Act->Act)
    (hm:P.follows .mixedOrders=true) (hB:zh l.toArray n Z=true) (hg:∀f a,aR (fun j=>Z.contains j) f l 0 a=g f a)
    (h0:J (fun _=>false) (fun _=>undef) w.drew) (hI:∀L f w,J L f w->I w) (hT:∀w,T w w) (hmono:∀L f w w',J L f w->T w w'->J L f w')
    (h:bV P l.toArray n Z I T (fun a=>uM (G9 P l Z J a) Z/\∀(f:Nat->Value) (w:World),J (fun j=>Z.contains j) f w->wpList P l.toArray Q (l.drop n) (g f a) w) l 0 a0):
    (Code.region id l.toArray true).wp P Q a0 w:=by
 unfold zh at hB
 simp only [Bool.and_eq_true,Bool.or_eq_true,decide_eq_true_eq] at hB
 obtain ⟨⟨⟨⟨⟨⟨⟨hn,jR⟩,YM⟩,hW⟩,nY⟩,hseq⟩,hZ⟩,hQ⟩:=hB
 have hA:=uJ YM
 obtain ⟨c,⟨hL,hE⟩,hS⟩:=NK l 0 a0 h
 simp only [zK0] at hS
 have NL:∀i,Z.contains i=true->i<n:=by
  intro i hi
  have h1:=zX2.1 hZ i (by simpa using hi)
  simpa using h1
 have YN:∀i o,l[i]? =some o->i<n->Z.contains i=false->∀j oj,l[j]? =some oj->Z.contains j=true->∀d,oj.dst=some d->d ∉ o.looksAt l.toArray:=by
  intro i o ho hin CN j oj hj lV d hd hmem
  have h1:=zX2.1 hQ i (List.mem_range.2 hin)
  have e:l.toArray[i]? =some o:=by simpa using ho
  rw [CN,e] at h1
  simp only [zQ4] at h1
  have h2:=zX2.1 h1 j (by simpa using lV)
  have e2:l.toArray[j]? =some oj:=by simpa using hj
  rw [e2] at h2
  simp [hd,hmem] at h2
 -- what holds of all: the loose ones by J, the steady ones by their values
 refine YL (J:=fun L f w=>(∀j,j<n->L j=true->Z.contains j=false->f j=c j)/\J (fun j=>Z.contains j && L j) (fun j=>if Z.contains j=true then f j else undef) w) n (by simpa using hn) hm jR hA hW
  (by rcases nY with h | ⟨⟨h1,h2⟩,h3⟩;exact .inl h;exact .inr ⟨h1,h2,h3⟩) hseq ⟨(fun j _ h=>(by cases h)),?_⟩ ?_ ?_
 · have e1:(fun j=>Z.contains j && false)=(fun _=>false):=funext fun j=>Bool.and_false _
   have e2:(fun j=>if Z.contains j=true then undef else undef)=(fun _:Nat=>undef):=funext fun j=>ite_self _
   rw [e1,e2];exact h0
 · intro i o hin Ba L f w hJ YO mJ
   obtain ⟨hR,FA⟩:=hJ
   have hi:=hI _ _ _ FA
   have hoi:l.toArray[i]? =some o:=by simpa using Ba
   have aq:i<l.length:=(zQ9.1 Ba).1
   obtain ⟨hw1,hw2⟩:=NG hW hoi
   by_cases hz:Z.contains i=true
   · have CO:=Tj hL i (by simpa using hz) o Ba (fun j=>Z.contains j && L j) (fun j=>if Z.contains j=true then f j else undef) w FA (by rw [YO,Bool.and_false]) (fun j lV zk=>by rw [lV,mJ j zk];rfl)
     have eP:plus (fun j=>Z.contains j && L j) i=(fun j=>Z.contains j && plus L i j):=by
      funext j
      by_cases hj:j=i
      · subst hj;simp only [plus,if_true,hz,Bool.and_self]
      · simp only [plus,zZ0 hj]
     have eV:∀v,bB (fun j=>if Z.contains j=true then f j else undef) i v=(fun j=>if Z.contains j=true then bB f i v j else undef):=by
      intro v
      funext j
      by_cases hj:j=i
      · subst hj;rw [fT,fT,zZ1 hz]
      · rw [gg hj,gg hj]
     rw [eP] at CO
     simp only [eV] at CO
     have eU:=NJ (ops:=l.toArray) hA (gw n Z) (fun j=>Z.contains j && (iZ o).contains j) (fun j=>if Z.contains j=true then f j else undef) c (fun j hj=>by simp only [gw,Bool.and_eq_true,Bool.not_eq_true'] at hj;simp only [hj.2,Bool.false_and]) l 0 a0 (fun j=>by simp)
     have hex:=CL hA o (Region.noSelect_spec jR i o · · hoi) (fun j=>gw n Z j || (Z.contains j && (iZ o).contains j)) (fun j=>(iZ o).contains j) (fun j=>if (Z.contains j && (iZ o).contains j)=true then (if Z.contains j=true then f j else undef) else c j)
      (fun j hj=>by
       have Ha:=hw1 j (by simpa using hj)
       cases lV:Z.contains j with
       | true=>simp only [gw,lV,hj,Bool.and_self,Bool.or_true]
       | false=>simp only [gw,lV,Bool.not_false,Bool.and_true,Bool.false_and,Bool.or_false,decide_eq_true_eq];omega)
      (fun j oj hj ng Bb d hd hmem=>by
       by_cases Ha:j=i
       · subst Ha
         simp only [gw,hz,Bool.not_true,Bool.and_false,zQ4,Bool.true_and] at ng
         rw [Bb] at ng;cases ng
       · have hjn:j<n:=by
          cases hq:gw n Z j with
          | true=>simp only [gw,Bool.and_eq_true,decide_eq_true_eq] at hq;exact hq.1
          | false=>rw [hq,zQ4,Bool.and_eq_true] at ng;exact NL j ng.1
         exact hw2 j oj hjn hj (by simpa using Bb) Ha d hd hmem) l 0 a0 (fun j=>by simp)
     have eF:aR (fun j=>(iZ o).contains j) (fun j=>if (Z.contains j && (iZ o).contains j)=true then (if Z.contains j=true then f j else undef) else c j) l 0 a0=aR (fun j=>(iZ o).contains j) f l 0 a0:=by
      refine Lm _ _ _ _ l 0 a0 (fun _ _ _=>rfl) (fun j _ _ hj=>?_)
      have zk:j∈iZ o:=by simpa using hj
      cases lV:Z.contains j with
      | true=>rw [zZ1 (by rw [hj];rfl),zZ1 rfl]
      | false=>
       rw [zZ0 (by simp)]
       exact (hR j (by have:=hw1 j zk;omega) (mJ j zk) lV).symm
     rw [eF] at hex
     rw [eU,hex.1,hex.2] at CO
     have Ll:∀v j,j<n->plus L i j=true->Z.contains j=false->bB f i v j=c j:=by
      intro v j hjn ng lV
      have hne:j≠i:=by intro e;subst e;rw [hz] at lV;cases lV
      rw [gg hne]
      simp only [plus,zZ0 hne] at ng
      exact hR j hjn ng lV
     by_cases hwt:Region.wanted o (yielded l.toArray (aR (fun j=>(iZ o).contains j) f l 0 a0).tmps)=true
     · rw [zZ1 hwt] at CO ⊢
       refine Th (fun v w' h=>⟨Ll v,h⟩) _ CO
     · rw [zZ0 hwt] at CO ⊢
       exact ⟨Ll undef,CO⟩
   · have hz':Z.contains i=false:=by simpa using hz
     have YP:=hS i o Ba hin hz'
     have h1:=CL hA o (Region.noSelect_spec jR i o · · hoi) (fun j=>(iZ o).contains j) (fun j=>(iZ o).contains j && !Z.contains j) f (fun j hj=>(by simp only [Bool.and_eq_true] at hj;exact hj.1))
      (fun j oj hj ng Bb d hd=>YN i o Ba hin hz' j oj (by simpa using hj) (by rw [ng] at Bb;simpa using Bb) d hd) l 0 a0 (fun j=>by simp)
     have h2:=CL hA o (Region.noSelect_spec jR i o · · hoi) (gw i Z) (fun j=>(iZ o).contains j && !Z.contains j) c
      (fun j hj=>by
       simp only [Bool.and_eq_true] at hj
       have:=hw1 j (by simpa using hj.1)
       simp only [gw,hj.2,Bool.and_true,decide_eq_true_eq];exact this)
      (fun j oj hj ng Bb d hd hmem=>by
       simp only [gw,Bool.and_eq_true,decide_eq_true_eq] at ng
       rw [ng.2,Bool.and_true] at Bb
       exact hw2 j oj (by omega) hj (by simpa using Bb) (by omega) d hd hmem) l 0 a0 (fun j=>by simp)
     have e:aR (fun j=>(iZ o).contains j && !Z.contains j) f l 0 a0=aR (fun j=>(iZ o).contains j && !Z.contains j) c l 0 a0:=by
      refine Lm _ _ _ _ l 0 a0 (fun _ _ _=>rfl) (fun j _ _ hj=>?_)
      simp only [Bool.and_eq_true,Bool.not_eq_true'] at hj
      have zk:j∈iZ o:=by simpa using hj.1
      exact hR j (by have:=hw1 j zk;omega) (mJ j zk) hj.2
     rw [h1.1,h1.2,e,<-h2.1,<-h2.2]
     have key:∀w' v,T w w'->v=c i->(∀j,j<n->plus L i j=true->Z.contains j=false->bB f i v j=c j)/\J (fun j=>Z.contains j && plus L i j) (fun j=>if Z.contains j=true then bB f i v j else undef) w':=by
      intro w' v ht hv
      refine ⟨fun j hjn ng lV=>?_,?_⟩
      · by_cases hj:j=i
        · subst hj;rw [fT];exact hv
        · rw [gg hj]
          simp only [plus,zZ0 hj] at ng
          exact hR j hjn ng lV
      · have e1:(fun j=>Z.contains j && plus L i j)=(fun j=>Z.contains j && L j):=by
         funext j
         by_cases hj:j=i
         · subst hj;rw [hz'];rfl
         · simp only [plus,zZ0 hj]
        have e2:(fun j=>if Z.contains j=true then bB f i v j else undef)=(fun j=>if Z.contains j=true then f j else undef):=by
         funext j
         by_cases hj:j=i
         · subst hj;rw [hz'];rfl
         · rw [gg hj]
        rw [e1,e2]
        exact hmono _ _ _ _ FA ht
     rcases YP with ⟨hs1,hs2⟩ | ⟨hs1,hs2⟩
     · rw [zZ1 hs1];exact Th (fun v w' h=>key w' v h.1 h.2) _ (hs2 w hi)
     · rw [zZ0 (by rw [hs1];simp)]
       exact key w undef (hT w) hs2.symm
 · intro f w hJ
   obtain ⟨hR,FA⟩:=hJ
   have eU:=NJ (ops:=l.toArray) hA (gw n Z) (fun j=>Z.contains j) (fun j=>if Z.contains j=true then f j else undef) c (fun j hj=>by simp only [gw,Bool.and_eq_true,Bool.not_eq_true'] at hj;exact hj.2) l 0 a0 (fun j=>by simp)
   have eD:aR (fun j=>decide (j<n)) f l 0 a0=aR (fun j=>Z.contains j) (fun j=>if Z.contains j=true then f j else undef) l 0 (aR (gw n Z) c l 0 a0):=by
    rw [eU]
    refine Lm _ _ _ _ l 0 a0 (fun j _ _=>?_) (fun j _ _ hj=>?_)
    · cases lV:Z.contains j with
      | true=>have:=NL j lV;simp [this]
      | false=>simp only [gw,lV,Bool.not_false,Bool.and_true,Bool.or_false]
    · have hjn:j<n:=by simpa using hj
      cases lV:Z.contains j with
      | true=>simp
      | false=>simpa using hR j hjn (by simpa using hjn) lV
   have e1:(fun j=>Z.contains j && decide (j<n))=(fun j=>Z.contains j):=by
    funext j
    cases lV:Z.contains j with
    | true=>have:=NL j lV;simp [this]
    | false=>rfl
   rw [e1] at FA
   rw [eD,hg]
   exact hE _ w FA
section
variable {n k:Nat} {Z:List Nat} {I:World->Prop} {T:World->World->Prop} {K:Act->Prop} {o:Oper} {l:List Oper} {a:Act}
theorem td (h:K a):bV P ops n Z I T K [] k a:=h
theorem jX (hk:decide (k<n)=false) (h:K a):bV P ops n Z I T K (o::l) k a:=by
 unfold bV;rw [zZ0 (by rw [hk];simp)];exact h
theorem NM (hk:decide (k<n)=true) (hz:Z.contains k=true) (h:bV P ops n Z I T K l (k+1) a):bV P ops n Z I T K (o::l) k a:=by
 unfold bV;rw [zZ1 hk,zZ1 hz];exact h
theorem Tk (hk:decide (k<n)=true) (hz:Z.contains k=false) (hw:Region.wanted o (yielded ops a.tmps)=false) (h:bV P ops n Z I T K l (k+1) (a.put o.dst undef)):bV P ops n Z I T K (o::l) k a:=by
 unfold bV;rw [zZ1 hk,zZ0 (by rw [hz];simp),zZ0 (by rw [hw];simp)];exact h
def qQ:Op->Bool
 | .call _=>true
 | _=>false
theorem NN (hcall:qQ o.op=true) (hk:decide (k<n)=true) (hz:Z.contains k=false) (hw:Region.wanted o (yielded ops a.tmps)=true) {fn:FuncId} {args:Array Value} {v:Value} (hx:∀w,(execOp a.eval o).run P w=.ok (.enter fn args) w)
    (hc:∀w,I w->Calls P fn args w fun e w'=>e=.returned v/\T w w') (h:bV P ops n Z I T K l (k+1) (a.put o.dst v)):bV P ops n Z I T K (o::l) k a:=by
 unfold bV;rw [zZ1 hk,zZ0 (by rw [hz];simp),zZ1 hw]
 refine ⟨v,fun w hi=>?_,h⟩
 rw [hx]
 exact (hc w hi).mono fun e w' ⟨h1,h2⟩=>⟨v,h1,h2,rfl⟩
def FB:Op->Bool
 | .move _ | .assign _ | .pick .. | .build .. | .load .. | .binOp .. | .unOp .. | .convert .. | .slice .. | .fieldAddr .. | .field .. | .indexAddr .. | .index .. | .lookup .. | .extract .. | .nilCheck _ | .makeInterface .. | .makeFunc .. =>true
 | _=>false
theorem zl {s:Sem Value} {w w':World} {f:FuncId} {args:Array Value} (h:(s >>=fun x=>Pure.pure (Next.value x):Sem Next).run P w=.ok (.enter f args) w'):False:=by
 rw [Sem.run_bind] at h
 generalize s.run P w=r at h
 cases r<;> simp at h
theorem YQ {ρ:Operand->Value} {w w':World} {f:FuncId} {args:Array Value} (hp:FB o.op=true) (h:(execOp ρ o).run P w=.ok (.enter f args) w'):False:=by
 obtain ⟨dst,op,type,pos,after,guard⟩:=o
 cases op<;> first | (simp only [FB] at hp;cases hp;done) | skip
 case nilCheck x=>
  simp only [execOp] at h
  split at h
  · simp [runtimePanic] at h
  · simp [runtimePanic] at h
  · simp [runtimePanic] at h
  · split at h
    · simp [runtimePanic] at h
    · simp only [Sem.run_bind] at h
      generalize Sem.run P program w=r at h
      cases r with
      | halt x w1=>simp [Result.andThen] at h
      | ok p' w1=>
       simp only [Result.andThen] at h
       generalize Sem.run P (nilAhead _ _ _ _) w1=r2 at h
       cases r2 with
       | halt x w1=>simp at h
       | ok b w2=>
        simp only at h
        split at h
        · simp [unsupported] at h
        · simp at h
    · simp at h
  · simp at h
 case pick c x y=>
  simp only [execOp] at h
  rw [Sem.run_bind] at h
  generalize (asBool (ρ c)).run P w=r at h
  cases r<;> simp at h
 all_goals (simp only [execOp] at h;first | exact zl h | (simp at h))
structure Wd (I:World->Prop) where
 w:World
 ok:I w
theorem NP (hk:decide (k<n)=true) (hz:Z.contains k=false) (hp:FB o.op=true) (hT:∀w,T w w) (hw:Region.wanted o (yielded ops a.tmps)=true)
    (h:∀K':Act->Prop,(∀a,bV P ops n Z I T K l (k+1) a->K' a)->o.quiet P a (fun w=>∃p:Wd I,w=p.w) K'):bV P ops n Z I T K (o::l) k a:=by
 unfold bV;rw [zZ1 hk,zZ0 (by rw [hz];simp),zZ1 hw]
 obtain ⟨v,h1,h2⟩:=h _ (fun _ h=>h)
 refine ⟨v,fun w hi=>?_,h2⟩
 have h3:=h1 w ⟨⟨w,hi⟩,rfl⟩
 unfold Oper.quietAt at h3
 generalize hr:(execOp a.eval o).run P w=r at h3
 cases r with
 | ok x w'=>
  cases x<;> simp only [Oper.quietUpon] at h3
  case value u=>obtain ⟨rfl,rfl⟩:=h3;exact ⟨hT _,rfl⟩
  case skip=>obtain ⟨rfl,rfl⟩:=h3;exact ⟨hT _,rfl⟩
  case enter f args=>exact (YQ hp hr).elim
 | halt x w'=>simp only [Oper.quietUpon] at h3
theorem gy (h:bV P ops n Z I T K l (k+1) a) (hk:decide (k<n)=true:=by rfl) (hz:Z.contains k=true:=by rfl):bV P ops n Z I T K (o::l) k a:=NM hk hz h
theorem gz (h:bV P ops n Z I T K l (k+1) (a.put o.dst undef)) (hk:decide (k<n)=true:=by rfl) (hz:Z.contains k=false:=by rfl) (hw:Region.wanted o (yielded ops a.tmps)=false:=by rfl):bV P ops n Z I T K (o::l) k a:=Tk hk hz hw h
theorem pz {fn:FuncId} {args:Array Value} {v:Value} (hx:∀w,(execOp a.eval o).run P w=.ok (.enter fn args) w) (hc:∀w,I w->Calls P fn args w fun e w'=>e=.returned v/\T w w') (h:bV P ops n Z I T K l (k+1) (a.put o.dst v)) (hcall:qQ o.op=true:=by rfl) (hk:decide (k<n)=true:=by rfl) (hz:Z.contains k=false:=by rfl) (hw:Region.wanted o (yielded ops a.tmps)=true:=by rfl):bV P ops n Z I T K (o::l) k a:=NN hcall hk hz hw hx hc h
theorem gB (h:∀K':Act->Prop,(∀a,bV P ops n Z I T K l (k+1) a->K' a)->o.quiet P a (fun w=>∃p:Wd I,w=p.w) K') (hk:decide (k<n)=true:=by rfl) (hz:Z.contains k=false:=by rfl) (hp:FB o.op=true:=by rfl) (hT:∀w,T w w:=by first | exact ae.rf | exact fun _=>rfl) (hw:Region.wanted o (yielded ops a.tmps)=true:=by rfl):bV P ops n Z I T K (o::l) k a:=NP hk hz hp hT hw h
end
end
end
section
open Go.RowKit
theorem aU {w:World} {a:Addr} {v:Value} (h:w.cell? a=some v) (p:Wd (ae w)):p.w.cell? a=some v:=by
 rw [p.ok.below.cell (World.block_lt_of_cell? w a h)];exact h
instance NQ (w:World):Nonempty (Wd (ae w)):=⟨⟨w,ae.rf w⟩⟩
instance NR (S:Nat->Prop) (w:World):Nonempty (Wd (aj S w)):=⟨⟨w,aj.refl S w⟩⟩
theorem aV {S:Nat->Prop} {w:World} {b o:Nat} {v:Value} (h:w.cell? ⟨b,o,none⟩=some v) (hS:¬S b) (p:Wd (aj S w)):p.w.cell? ⟨b,o,none⟩=some v:=by
 rw [p.ok.cell (World.block_lt_of_cell? w _ h) hS o];exact h
def yr (N:Nat) (w:World) (x a b:Value):Prop:=∃m,x=.pointer (some ⟨m,0,none⟩)/\N<=m/\w.cell? ⟨m,0,none⟩=some a/\w.cell? ⟨m,1,none⟩=some b/\w.frozen? ⟨m,0,none⟩=false/\w.frozen? ⟨m,1,none⟩=false
theorem yr.ag {N:Nat} {w w':World} {x a b:Value} (h:yr N w x a b) (g:ae w w'):yr N w' x a b:=by
 obtain ⟨m,h1,h2,h3,h4,h5,h6⟩:=h
 have hm:m<w.heap.size:=World.block_lt_of_cell? w _ h3
 exact ⟨m,h1,h2,(g.cells.1 _ _ hm).trans h3,(g.cells.1 _ _ hm).trans h4,(g.cells.2 _ _ hm).trans h5,(g.cells.2 _ _ hm).trans h6⟩
theorem yr.dQ {N:Nat} {u:World} (h:N<=u.heap.size) (a b:Value) (t:TypeId):yr N (u.alloc (Obj.cells #[a,b] t)) (.pointer (some ⟨u.heap.size,0,none⟩)) a b:=
 ⟨_,rfl,h,by simp [go_sem],by simp [go_sem],by simp [go_sem],by simp [go_sem]⟩
theorem Tm {w u:World} {m:Nat} {x y:Value} (g:ae w u) (hN:w.heap.size<=m) (c0:u.cell? ⟨m,0,none⟩=some x) (c1:u.cell? ⟨m,1,none⟩=some y) (f0:u.frozen? ⟨m,0,none⟩=false) (f1:u.frozen? ⟨m,1,none⟩=false) (a b:Value):
    ae w ((u.setCell ⟨m,0,none⟩ a).setCell ⟨m,1,none⟩ b)/\yr w.heap.size ((u.setCell ⟨m,0,none⟩ a).setCell ⟨m,1,none⟩ b) (.pointer (some ⟨m,0,none⟩)) a b:=by
 refine ⟨(g.setCell (p:=⟨m,0,none⟩) hN a).setCell (p:=⟨m,1,none⟩) hN b,m,rfl,hN,?_,?_,?_,?_⟩<;> simp [go_sem,c0,c1,f0,f1]
structure FV where
 a:Nat
 s:Nat
 vals:List Value
def yt (N:Nat) (u:World) (x:Value) (vs:List Value):Prop:=∃m,x=.pointer (some ⟨m,0,none⟩)/\N<=m/\m<u.heap.size/\∀o v,vs[o]? =some v->u.cell? ⟨m,o,none⟩=some v/\u.frozen? ⟨m,o,none⟩=false
theorem yt.ag {N:Nat} {w w':World} {x:Value} {vs:List Value} (h:yt N w x vs) (g:ae w w'):yt N w' x vs:=by
 obtain ⟨m,h1,h2,hm,h3⟩:=h
 exact ⟨m,h1,h2,ltT hm g.size,fun o v hv=>⟨(g.cells.1 _ _ hm).trans (h3 o v hv).1,(g.cells.2 _ _ hm).trans (h3 o v hv).2⟩⟩
theorem yt.dQ {N:Nat} {u:World} (h:N<=u.heap.size) (vs:List Value) (t:TypeId):yt N (u.alloc (Obj.cells vs.toArray t)) (.pointer (some ⟨u.heap.size,0,none⟩)) vs:=by
 refine ⟨_,rfl,h,by simp,fun o v hv=>?_⟩
 have hb:(u.alloc (Obj.cells vs.toArray t)).heap[u.heap.size]? =some (Obj.cells vs.toArray t):=by
  show (u.heap.push _)[u.heap.size]? =_
  simp
 have ho:=(zQ9.1 hv).1
 constructor
 · simp only [World.cell?,hb];simpa using hv
 · simp only [World.frozen?,hb];simp
theorem yt.two {N:Nat} {u:World} {x a b:Value} (h:yt N u x [a,b]):∃m,x=.pointer (some ⟨m,0,none⟩)/\N<=m/\m<u.heap.size/\u.cell? ⟨m,0,none⟩=some a/\u.cell? ⟨m,1,none⟩=some b/\u.frozen? ⟨m,0,none⟩=false/\u.frozen? ⟨m,1,none⟩=false:=by
 obtain ⟨m,h1,h2,hm,h3⟩:=h
 exact ⟨m,h1,h2,hm,(h3 0 a rfl).1,(h3 1 b rfl).1,(h3 0 a rfl).2,(h3 1 b rfl).2⟩
def FC (u:World) (m:Nat):Nat->List Value->World
 | _,[]=>u
 | o,v::vs=>FC (u.setCell ⟨m,o,none⟩ v) m (o+1) vs
theorem Tn (m:Nat):∀(vs:List Value) (u:World) (o:Nat),(∀j,j<vs.length->(u.cell? ⟨m,o+j,none⟩).isSome=true)->
    (∀j v,vs[j]? =some v->(FC u m o vs).cell? ⟨m,o+j,none⟩=some v)/\(∀b j,b≠m\/j<o->(FC u m o vs).cell? ⟨b,j,none⟩=u.cell? ⟨b,j,none⟩)/\(∀a,(FC u m o vs).frozen? a=u.frozen? a)/\aj (fun j=>j=m) u (FC u m o vs)
 | [],u,o,_=>⟨fun j v h=>by simp at h,fun _ _ _=>rfl,fun _=>rfl,aj.refl _ _⟩
 | v::vs,u,o,h=>by
  have h0:(u.cell? ⟨m,o,none⟩).isSome=true:=h 0 (by simp)
  obtain ⟨s1,s2,s3,s4⟩:=Tn m vs (u.setCell ⟨m,o,none⟩ v) (o+1) (fun j hj=>by
   rw [World.cell?_setCell_other _ _ _ _ (by intro e;injection e with _ e2;omega)]
   have:=h (j+1) (by simp;omega)
   rwa [show o+(j+1)=o+1+j by omega] at this)
  refine ⟨fun j x hj=>?_,fun b j hb=>?_,fun a=>?_,?_⟩
  · match j,hj with
    | 0,hj=>
     cases (show v=x by simpa using hj)
     rw [zX3]
     refine (s2 m o (.inr (by omega))).trans ?_
     exact World.cell?_setCell_same' _ _ _ h0
    | j+1,hj=>
     rw [show o+(j+1)=o+1+j by omega]
     exact s1 j x (by simpa using hj)
  · refine (s2 b j (by rcases hb with hb | hb;exact .inl hb;exact .inr (by omega))).trans ?_
    exact World.cell?_setCell_other _ _ _ _ (by intro e;injection e with e1 e2;rcases hb with hb | hb;exact hb e1.symm;omega)
  · refine (s3 a).trans ?_
    rw [World.frozen?_setCell]
  · exact (aj.setCell u ⟨m,o,none⟩ v).then s4
structure JV (vars:List FV) (w:World) (L:Nat->Bool) (f:Nat->Value) (u:World):Prop where
 ag:ae w u
 first:∀V∈vars,L V.s=true->L V.a=true
 made:∀V∈vars,L V.a=true->∃vs,vs.length=V.vals.length/\yt w.heap.size u (f V.a) vs/\(L V.s=true->vs=V.vals)
 apart:∀V∈vars,∀V'∈vars,V.a≠V'.a->L V.a=true->L V'.a=true->f V.a≠f V'.a
def qR (vars:List FV):Bool:=decide ((vars.map FV.a).Nodup) && decide ((vars.map FV.s).Nodup) && vars.all fun V=>vars.all fun V'=>V.a !=V'.s
theorem NS {α:Type} (g:α->Nat):∀(l:List α),(l.map g).Nodup->∀x∈l,∀y∈l,g x=g y->x=y
 | [],_,_,hx,_,_,_=>by cases hx
 | z::l,h,x,hx,y,hy,e=>by
  rw [zJ8,List.nodup_cons] at h
  rcases List.mem_cons.1 hx with hx1 | hx1
  · rcases List.mem_cons.1 hy with hy1 | hy1
    · rw [hx1,hy1]
    · exact absurd (by rw [<-hx1,e];exact List.mem_map_of_mem hy1) h.1
  · rcases List.mem_cons.1 hy with hy1 | hy1
    · exact absurd (by rw [<-hy1,<-e];exact List.mem_map_of_mem hx1) h.1
    · exact NS g l h.2 x hx1 y hy1 e
theorem CP {vars:List FV} (h:qR vars=true):∀V∈vars,∀V'∈vars,V.a≠V'.s/\(V.s=V'.s->V=V')/\(V.a=V'.a->V=V'):=by
 intro V hV V' je
 unfold qR at h
 rw [Bool.and_eq_true,Bool.and_eq_true] at h
 obtain ⟨⟨ha,hs⟩,hn⟩:=h
 refine ⟨?_,NS _ vars (of_decide_eq_true hs) V hV V' je,NS _ vars (of_decide_eq_true ha) V hV V' je⟩
 have h1:=zX2.1 (zX2.1 hn V hV) V' je
 simpa using h1
theorem JV.start (vars:List FV) (w:World) (f:Nat->Value):JV vars w (fun _=>false) f w.drew:=
 ⟨(ae.rf w).drew,fun _ _ h=>(by cases h),fun _ _ h=>(by cases h),fun _ _ _ _ _ h=>(by cases h)⟩
theorem JV.more {vars:List FV} {w u u':World} {L:Nat->Bool} {f:Nat->Value} (h:JV vars w L f u) (g:ae u u'):JV vars w L f u':=
 ⟨h.ag.trans g,h.first,fun V hV hl=>by obtain ⟨vs,h1,h2,h3⟩:=h.made V hV hl;exact ⟨vs,h1,h2.ag g,h3⟩,h.apart⟩
theorem JV.alloc {vars:List FV} (hB:qR vars=true) {w u:World} {L:Nat->Bool} {f:Nat->Value} (h:JV vars w L f u) {V:FV} (hV:V∈vars) (hL:L V.a=false) (zs:List Value) (hz:zs.length=V.vals.length) (t:TypeId):
    JV vars w (plus L V.a) (bB f V.a (.pointer (some ⟨u.heap.size,0,none⟩))) (u.alloc (Obj.cells zs.toArray t)):=by
 have hG:ae u (u.alloc (Obj.cells zs.toArray t)):=(ae.rf u).alloc _
 have hs:∀V'∈vars,plus L V.a V'.s=L V'.s:=fun V' je=>zZ0 (Ne.symm ((CP hB V hV V' je).1))
 refine ⟨h.ag.trans hG,fun V' je hl=>?_,fun V' je hl=>?_,fun V1 h1 V2 h2 hne hl1 hl2=>?_⟩
 · rw [hs V' je] at hl
   have:=h.first V' je hl
   simp [plus,this]
 · rw [hs V' je]
   by_cases he:V'.a=V.a
   · refine ⟨zs,?_,?_,fun hl2=>?_⟩
     · rw [(CP hB V' je V hV).2.2 he];exact hz
     · rw [he,fT];exact yt.dQ h.ag.size zs t
     · have:=h.first V' je hl2;rw [he,hL] at this;cases this
   · simp only [plus,zZ0 he] at hl
     obtain ⟨vs,h1,h2,h3⟩:=h.made V' je hl
     exact ⟨vs,h1,by rw [gg he];exact h2.ag hG,h3⟩
 · have old:∀V'∈vars,V'.a≠V.a->L V'.a=true->f V'.a≠.pointer (some ⟨u.heap.size,0,none⟩):=by
    intro V' je _ hl he
    obtain ⟨vs,_,⟨m,hm,_,aq,_⟩,_⟩:=h.made V' je hl
    rw [hm] at he
    injection he with e1
    injection e1 with e2
    injection e2 with e3
    omega
   by_cases e1:V1.a=V.a
   · have e2:V2.a≠V.a:=fun e=>hne (e1.trans e.symm)
     rw [e1,fT,gg e2]
     simp only [plus,zZ0 e2] at hl2
     exact (old V2 h2 e2 hl2).symm
   · simp only [plus,zZ0 e1] at hl1
     rw [gg e1]
     by_cases e2:V2.a=V.a
     · rw [e2,fT];exact old V1 h1 e1 hl1
     · simp only [plus,zZ0 e2] at hl2
       rw [gg e2];exact h.apart V1 h1 V2 h2 hne hl1 hl2
theorem JV.store {vars:List FV} (hB:qR vars=true) {w u:World} {L:Nat->Bool} {f:Nat->Value} (h:JV vars w L f u) {V:FV} (hV:V∈vars) (hL:L V.a=true) {m:Nat} (hm:f V.a=.pointer (some ⟨m,0,none⟩)):
    JV vars w (plus L V.s) (bB f V.s undef) (FC u m 0 V.vals):=by
 obtain ⟨NT,hl0,⟨m',hm',hN,aq,hc⟩,_⟩:=h.made V hV hL
 rw [hm] at hm'
 cases hm'
 obtain ⟨s1,s2,s3,s4⟩:=Tn m V.vals u 0 (fun j hj=>by
  rw [zK0]
  have:=(hc j NT[j] (List.getElem?_eq_getElem (by omega))).1
  rw [this];rfl)
 have ha:∀V'∈vars,plus L V.s V'.a=L V'.a:=fun V' je=>zZ0 (CP hB V' je V hV).1
 have hf:∀V'∈vars,bB f V.s undef V'.a=f V'.a:=fun V' je=>gg (CP hB V' je V hV).1
 refine ⟨(((h.ag.only fun j=>j=m).then s4).ag fun j hj=>(by subst hj;exact hN)),fun V' je hl=>?_,fun V' je hl=>?_,fun V1 h1 V2 h2 hne hl1 hl2=>?_⟩
 · rw [ha V' je]
   by_cases e:V'.s=V.s
   · rw [(CP hB V' je V hV).2.1 e];exact hL
   · simp only [plus,zZ0 e] at hl
     exact h.first V' je hl
 · rw [ha V' je] at hl
   rw [hf V' je]
   by_cases e:V'.a=V.a
   · have YR:=(CP hB V' je V hV).2.2 e
     subst YR
     refine ⟨V'.vals,rfl,⟨m,hm,hN,ltT aq s4.size,fun o v hv=>⟨?_,?_⟩⟩,fun _=>rfl⟩
     · have:=s1 o v hv;rwa [zK0] at this
     · have hol:=(zQ9.1 hv).1
       exact (s3 _).trans (hc o NT[o] (List.getElem?_eq_getElem (by omega))).2
   · obtain ⟨vs,h1,⟨m2,hm2,CQ,hlt2,hc2⟩,h3⟩:=h.made V' je hl
     have pL:m2≠m:=by
      intro e2
      subst e2
      exact h.apart V' je V hV e hl hL (hm2.trans hm.symm)
     refine ⟨vs,h1,⟨m2,hm2,CQ,ltT hlt2 s4.size,fun o v hv=>⟨(s2 m2 o (.inl pL)).trans (hc2 o v hv).1,(s3 _).trans (hc2 o v hv).2⟩⟩,fun hl2=>?_⟩
     have e3:V'.s≠V.s:=fun e4=>e (congrArg FV.a ((CP hB V' je V hV).2.1 e4))
     simp only [plus,zZ0 e3] at hl2
     exact h3 hl2
 · rw [ha V1 h1] at hl1
   rw [ha V2 h2] at hl2
   rw [hf V1 h1,hf V2 h2]
   exact h.apart V1 h1 V2 h2 hne hl1 hl2
theorem zm {vs:List Value} (h:vs.length=2):∃a b,vs=[a,b]:=by
 match vs,h with
 | [a,b],_=>exact ⟨a,b,rfl⟩
theorem JV.two {vars:List FV} {w u:World} {L:Nat->Bool} {f:Nat->Value} (h:JV vars w L f u) {V:FV} (hV:V∈vars) (hL:L V.a=true) (h2:V.vals.length=2):
    ∃m a b,f V.a=.pointer (some ⟨m,0,none⟩)/\u.cell? ⟨m,0,none⟩=some a/\u.cell? ⟨m,1,none⟩=some b/\u.frozen? ⟨m,0,none⟩=false/\u.frozen? ⟨m,1,none⟩=false:=by
 obtain ⟨vs,hl,hF,_⟩:=h.made V hV hL
 obtain ⟨a,b,rfl⟩:=zm (hl.trans h2)
 obtain ⟨m,h1,_,_,h4,h5,h6,h7⟩:=hF.two
 exact ⟨m,a,b,h1,h4,h5,h6,h7⟩
theorem JV.full {vars:List FV} {w u:World} {L:Nat->Bool} {f:Nat->Value} (h:JV vars w L f u) {V:FV} (hV:V∈vars) (hL:L V.s=true):yt w.heap.size u (f V.a) V.vals:=by
 obtain ⟨vs,hl,hF,h3⟩:=h.made V hV (h.first V hV hL)
 rw [<-h3 hL];exact hF
end
section
open Go.RowKit Go.Maps
structure dO (e:TypeId) (i j:Nat) (y:World) (news:List Value) (D:World->Value->World->Prop) (L:Nat->Bool) (f:Nat->Value) (x:World):Prop where
 ord:L j=true->L i=true
 ag:L j=false->ae y x
 made:L i=true->L j=false->∃vb,f i=.slice (some ⟨vb,0,none⟩) 1 1/\y.heap.size<=vb/\x.heap[vb]? =some (.cells news.toArray e (0,0))
 done:L j=true->∃x0,ae y x0/\D x0 (f j) x
section
variable {e:TypeId} {i j:Nat} {y x:World} {news:List Value} {D:World->Value->World->Prop} {L:Nat->Bool} {f:Nat->Value}
theorem dO.start (y:World):dO e i j y news D (fun _=>false) f y.drew:=
 ⟨fun h=>(by cases h),fun _=>(ae.rf y).drew,fun h=>(by cases h),fun h=>(by cases h)⟩
theorem dO.make (hij:j≠i) (h:dO e i j y news D L f x) (hL:L i=false):dO e i j y news D (plus L i) (bB f i (.slice (some ⟨x.heap.size,0,none⟩) 1 1)) (x.alloc (.cells news.toArray e)):=by
 have hj:L j=false:=by
  cases hl:L j with
  | false=>rfl
  | true=>rw [h.ord hl] at hL;cases hL
 have hp:plus L i j=false:=by simp only [plus,zZ0 hij];exact hj
 refine ⟨fun hl=>?_,fun _=>(h.ag hj).alloc _,fun _ _=>⟨x.heap.size,fT _ _ _,(h.ag hj).size,?_⟩,fun hl=>?_⟩
 · rw [hp] at hl;cases hl
 · show (x.heap.push _)[x.heap.size]? =_
   simp
 · rw [hp] at hl;cases hl
theorem dO.call (hij:j≠i) (h:dO e i j y news D L f x) (hL:L j=false) (hi:L i=true) {r:Value} {w':World} (hD:D x r w'):dO e i j y news D (plus L j) (bB f j r) w':=by
 have hp:plus L j j=true:=by simp [plus]
 refine ⟨fun _=>?_,fun hl=>?_,fun _ hl=>?_,fun _=>⟨x,h.ag hL,by rw [fT];exact hD⟩⟩
 · simp only [plus,zZ0 (Ne.symm hij)];exact hi
 · rw [hp] at hl;cases hl
 · rw [hp] at hl;cases hl
theorem dO.only {S:Nat->Prop} (hD:∀x0 r x',D x0 r x'->aj S x0 x') (h:dO e i j y news D L f x):aj S y x:=by
 cases hL:L j with
 | false=>exact (h.ag hL).only S
 | true=>
  obtain ⟨x0,g0,hd⟩:=h.done hL
  exact (g0.only S).then (hD _ _ _ hd)
end
def jo (e:TypeId) (k:Nat) (v:Value) (n:Nat) (xs news:List Value) (x0:World) (r:Value) (x:World):Prop:=
 ∃g cap,r=.slice (some ⟨g,0,none⟩) (n+1) cap/\x.ownsRow 0 e k (.slice (some ⟨g,0,none⟩) (n+1) cap) (n+1) (xs++news)/\x0.grownBy x v.ownBlock/\(v.ownBlock=some g\/g=x0.heap.size)
theorem jo.only {e:TypeId} {k:Nat} {v:Value} {n:Nat} {xs news:List Value} {x0:World} {r:Value} {x:World} (h:jo e k v n xs news x0 r x):aj (fun j=>some j=v.ownBlock) x0 x:=by
 obtain ⟨_,_,_,_,hg,_⟩:=h
 exact aj.of_grownBy hg
section
variable {P:Program}
theorem yu {o:Oper} {a:Act} {w:World} {K:Value->World->Prop} (s x:Operand) (t:TypeId)
    (ho:o.op=.call {callee:=.builtin .append,args:=#[s,x],argTypes:=#[t,t]})
    (e:TypeId) (i:TypeInfo) (z:Value) (size bytes:Nat) (ht:P.underlying t=some (.slice e)) (hi:P.info? e=some i) (hz:i.zero=some z)
    (hsize:i.size=size) (hby:i.bytes=bytes) (hzs:z.cells.size=size) (hsz:0<size)
    (v:Value) (n:Nat) (xs:List Value) (hs:a.eval s=v) (aD:w.ownsRow 0 e size v n xs)
    (vb c:Nat) (news:List Value) (hx:a.eval x=.slice (some ⟨vb,0,none⟩) 1 c) (hl:news.length=size) (hnews:w.heap[vb]? =some (.cells news.toArray e (0,0))) (h1:∀u∈news,u.oneCell'=true)
    (h63:n+1<=maxLen) (hbytes:(n+1)*bytes<=140737488355328)
    (h:∀r w',jo e size v n xs news w r w'->K r w'):aT P K ((execOp a.eval o).run P w):=by
 obtain ⟨g,cap,w',hr,h2,h3,h4,h5⟩:=run_append_lies (P:=P) (w:=w) t o.type 0 e i z size bytes ht hi hz hsize hby hzs hsz v n xs aD ⟨vb,0,none⟩ 1 c news (by rw [hl,Nat.one_mul]) (World.news_of_block (cs:=news.toArray) (by simpa using hnews)) h1 (by omega) h63 hbytes (Nat.zero_le _) w.heap.size rfl
 unfold execOp
 simp only [ho,resolve,invoke,builtin,Sem.run_bind,Sem.run_pure,Result.andThen_ok,List.map_toArray,zJ8,List.map_nil,hs,hx,hr]
 exact h _ _ ⟨g,cap,rfl,h2,h3,h4⟩
end
end
section
open Go.RowKit Go.Maps
structure gi (P:Program) (ops:Array Oper) (n:Nat) (Z:List Nat) (I:World->Prop) (T:World->World->Prop) (K:Act->Prop) (l:List Oper) (k:Nat) (a:Act):Prop where
 out:bV P ops n Z I T K l k a
section
variable {P:Program} {ops:Array Oper} {n k:Nat} {Z:List Nat} {I:World->Prop} {T:World->World->Prop} {K:Act->Prop} {o:Oper} {l:List Oper} {a:Act}
theorem uU (h:K a):gi P ops n Z I T K [] k a:=⟨td h⟩
theorem iH (hk:decide (k<n)=false) (h:K a):gi P ops n Z I T K (o::l) k a:=⟨jX hk h⟩
theorem Y6 (hk:decide (k<n)=true) (hz:Z.contains k=true) (h:gi P ops n Z I T K l (k+1) a):gi P ops n Z I T K (o::l) k a:=⟨NM hk hz h.out⟩
theorem Y7 (hk:decide (k<n)=true) (hz:Z.contains k=false) (hw:Region.wanted o (yielded ops a.tmps)=false) (h:gi P ops n Z I T K l (k+1) (a.put o.dst undef)):gi P ops n Z I T K (o::l) k a:=⟨Tk hk hz hw h.out⟩
theorem Y8 (hcall:qQ o.op=true) (hk:decide (k<n)=true) (hz:Z.contains k=false) (hw:Region.wanted o (yielded ops a.tmps)=true) {fn:FuncId} {args:Array Value} {v:Value} (hx:∀w,(execOp a.eval o).run P w=.ok (.enter fn args) w)
    (hc:∀w,I w->Calls P fn args w fun e w'=>e=.returned v/\T w w') (h:gi P ops n Z I T K l (k+1) (a.put o.dst v)):gi P ops n Z I T K (o::l) k a:=⟨NN hcall hk hz hw hx hc h.out⟩
theorem Y9 (hk:decide (k<n)=true) (hz:Z.contains k=false) (hp:FB o.op=true) (hT:∀w,T w w) (hw:Region.wanted o (yielded ops a.tmps)=true)
    (h:∀K':Act->Prop,(∀a,gi P ops n Z I T K l (k+1) a->K' a)->o.quiet P a (fun w=>∃p:Wd I,w=p.w) K'):gi P ops n Z I T K (o::l) k a:=
 ⟨NP hk hz hp hT hw fun K' hK=>h K' fun a h=>hK a h.out⟩
theorem kV (h:gi P ops n Z I T K l (k+1) a) (hk:decide (k<n)=true:=by rfl) (hz:Z.contains k=true:=by rfl):gi P ops n Z I T K (o::l) k a:=Y6 hk hz h
theorem fE (h:gi P ops n Z I T K l (k+1) (a.put o.dst undef)) (hk:decide (k<n)=true:=by rfl) (hz:Z.contains k=false:=by rfl) (hw:Region.wanted o (yielded ops a.tmps)=false:=by rfl):gi P ops n Z I T K (o::l) k a:=Y7 hk hz hw h
theorem zq {fn:FuncId} {args:Array Value} {v:Value} (hx:∀w,(execOp a.eval o).run P w=.ok (.enter fn args) w) (hc:∀w,I w->Calls P fn args w fun e w'=>e=.returned v/\T w w') (h:gi P ops n Z I T K l (k+1) (a.put o.dst v)) (hcall:qQ o.op=true:=by rfl) (hk:decide (k<n)=true:=by rfl) (hz:Z.contains k=false:=by rfl) (hw:Region.wanted o (yielded ops a.tmps)=true:=by rfl):gi P ops n Z I T K (o::l) k a:=Y8 hcall hk hz hw hx hc h
theorem fF (h:∀K':Act->Prop,(∀a,gi P ops n Z I T K l (k+1) a->K' a)->o.quiet P a (fun w=>∃p:Wd I,w=p.w) K') (hk:decide (k<n)=true:=by rfl) (hz:Z.contains k=false:=by rfl) (hp:FB o.op=true:=by rfl) (hT:∀w,T w w:=by first | exact ae.rf | exact fun _=>rfl) (hw:Region.wanted o (yielded ops a.tmps)=true:=by rfl):gi P ops n Z I T K (o::l) k a:=Y9 hk hz hp hT hw h
theorem kW {id:Nat} {Q:Exit->Act->World->Prop} {a0:Act} {w:World} {l:List Oper} (n:Nat) (Z:List Nat) (I:World->Prop) (T:World->World->Prop) (J:(Nat->Bool)->(Nat->Value)->World->Prop) (g:(Nat->Value)->Act->Act)
    (hm:P.follows .mixedOrders=true) (hB:zh l.toArray n Z=true) (hg:∀f a,aR (fun j=>Z.contains j) f l 0 a=g f a)
    (h0:J (fun _=>false) (fun _=>undef) w.drew) (hI:∀L f w,J L f w->I w) (hT:∀w,T w w) (hmono:∀L f w w',J L f w->T w w'->J L f w')
    (h:gi P l.toArray n Z I T (fun a=>uM (G9 P l Z J a) Z/\∀(f:Nat->Value) (w:World),J (fun j=>Z.contains j) f w->wpList P l.toArray Q (l.drop n) (g f a) w) l 0 a0):
    (Code.region id l.toArray true).wp P Q a0 w:=gJ n Z I T J g hm hB hg h0 hI hT hmono h.out
end
theorem lH {P:Program} {id:Nat} {Q:Exit->Act->World->Prop} {a0:Act} {w:World} {l:List Oper} (n:Nat) (hm:P.follows .mixedOrders=true) (hB:zh l.toArray n []=true) (hg:∀f a,aR (fun j=>([]:List Nat).contains j) f l 0 a=a)
    (h:gi P l.toArray n [] (ae w) ae (fun a=>∀(w':World),ae w w'->wpList P l.toArray Q (l.drop n) a w') l 0 a0):(Code.region id l.toArray true).wp P Q a0 w:=
 gJ n [] (ae w) ae (fun _ _ x=>ae w x) (fun _ a=>a) hm hB hg (ae.rf w).drew (fun _ _ _ h=>h) ae.rf (fun _ _ _ _ h g=>h.trans g) (by
  have h2:=h.out
  have e:(fun a=>∀(w':World),ae w w'->wpList P l.toArray Q (l.drop n) a w')=(fun a=>uM (G9 P l [] (fun _ _ x=>ae w x) a) []/\∀(f:Nat->Value) (w':World),ae w w'->wpList P l.toArray Q (l.drop n) a w'):=by
   funext a
   exact propext ⟨fun h=>⟨trivial,fun _=>h⟩,fun h=>h.2 fun _=>undef⟩
  rw [e] at h2
  exact h2)
theorem FD {P:Program} {ops:Array Oper} {rest:List Oper} {o:Oper} {a:Act} {w w':World} {Q:Exit->Act->World->Prop} {t:TypeId} (hg:o.guard=none) (m x v:Operand) (hop:o.op=Op.mapUpdate t m x v) {vm vx vv:Value} (hm:a.eval m=vm) (hx:a.eval x=vx) (hv:a.eval v=vv)
    (hrun:(Instr.mapUpdate t vm vx vv).run P w=.ok () w') (hK:wpList P ops Q rest (a.put o.dst undef) w'):wpList P ops Q (o::rest) a w:=by
 refine wpList_plain hg fun K' hK'=>?_
 unfold Oper.wp
 simp [execOp,hop,hm,hx,hv,hrun,Result.andThen]
 exact hK' _ _ hK
end
section
open Go.RowKit Go.Maps
theorem mM {P:Program} {l:List Oper} {Z:List Nat} {J:(Nat->Bool)->(Nat->Value)->World->Prop} {a:Act} {i:Nat} {o:Oper} (ho:l[i]? =some o) (g:(Nat->Value)->Act->Act)
    (hg:∀f a,aR (fun j=>Z.contains j && (iZ o).contains j) f l 0 a=g f a)
    (h:∀(L:Nat->Bool) (f:Nat->Value) (w:World),J L f w->L i=false->(∀j,Z.contains j=true->j∈iZ o->L j=true)->Region.wanted o (yielded l.toArray (g f a).tmps)=true/\aT P (fun v w'=>J (plus L i) (bB f i v) w') ((execOp (g f a).eval o).run P w)):G9 P l Z J a i:=by
 intro o' ho' L f w hi hL hV
 have:o=o':=Option.some.inj (ho.symm.trans ho')
 subst this
 rw [hg]
 obtain ⟨h1,h2⟩:=h L f w hi hL hV
 rw [zZ1 h1]
 exact h2
structure JT (vs:Nat->Option Value) (od:List (Nat×Nat)) (s:Nat) (R0 R1:World->Prop) (X:Nat->Option (World->Value->Prop)) (L:Nat->Bool) (f:Nat->Value) (x:World):Prop where
 val:∀i v,L i=true->vs i=some v->f i=v
 ord:∀p∈od,L p.1=true->L p.2=true
 a:L s=false->R0 x
 d:L s=true->R1 x
 ex:∀i p,X i=some p->L i=true->p x (f i)
 xo:∀i p,X i=some p->L i=true->L s=true
structure StT (R0 R1:World->Prop) (X:Nat->Option (World->Value->Prop)):Prop where
 r0:∀x x',ae x x'->R0 x->R0 x'
 r1:∀x x',ae x x'->R1 x->R1 x'
 x:∀i p,X i=some p->∀x x' v,ae x x'->p x v->p x' v
section
variable {vs:Nat->Option Value} {od:List (Nat×Nat)} {s:Nat} {R0 R1:World->Prop} {X:Nat->Option (World->Value->Prop)} {L:Nat->Bool} {f:Nat->Value} {x x':World}
theorem rq {L:Nat->Bool} {i j:Nat} (h:j≠i):plus L i j=L j:=by simp only [plus,zZ0 h]
theorem yE {L:Nat->Bool} {i:Nat}:plus L i i=true:=by simp [plus]
end
end
section
open Go.RowKit Go.Maps
structure JC (idx:List Nat) (M:Nat->(Nat->Value)->World->Prop) (L:Nat->Bool) (f:Nat->Value) (u:World):Prop where
 ex:∃s,s<=idx.length/\(∀j i,idx[j]? =some i->L i=decide (j<s))/\M s f u
section
variable {idx:List Nat} {M:Nat->(Nat->Value)->World->Prop} {L:Nat->Bool} {f:Nat->Value} {u u':World}
theorem JC.start (h:M 0 f u):JC idx M (fun _=>false) f u:=⟨0,Nat.zero_le _,fun j i _=>by simp,h⟩
theorem JC.stage (h:JC idx M L f u) (j i:Nat) (hi:idx[j]? =some i) (hL:L i=false) (hp:∀k,j=k+1->∃i',idx[k]? =some i'/\L i'=true):(∀j' i',idx[j']? =some i'->L i'=decide (j'<j))/\M j f u:=by
 obtain ⟨s,hs,h1,h2⟩:=h.ex
 have e1:=h1 j i hi
 rw [hL] at e1
 have hsj:s<=j:=by
  have:=decide_eq_false_iff_not.1 e1.symm
  omega
 have hjs:j<=s:=by
  cases j with
  | zero=>exact Nat.zero_le _
  | succ k=>
   obtain ⟨i',hk,hLk⟩:=hp k rfl
   have e2:=h1 k i' hk
   rw [hLk] at e2
   have:=decide_eq_true_iff.1 e2.symm
   omega
 obtain rfl:s=j:=by omega
 exact ⟨h1,h2⟩
theorem JC.put (hn:idx.Nodup) (h:JC idx M L f u) (j i:Nat) (hi:idx[j]? =some i) (hL:L i=false) (hp:∀k,j=k+1->∃i',idx[k]? =some i'/\L i'=true) {v:Value} (hM:M (j+1) (bB f i v) u'):JC idx M (plus L i) (bB f i v) u':=by
 obtain ⟨h1,_⟩:=h.stage j i hi hL hp
 obtain ⟨hj,hij⟩:=zQ9.1 hi
 refine ⟨j+1,by omega,fun j' i' hi'=>?_,hM⟩
 by_cases e:i'=i
 · subst e
   obtain ⟨hj',Ab⟩:=zQ9.1 hi'
   have:j'=j:=by
    rcases Nat.lt_trichotomy j' j with q | q | q
    · exact absurd (Ab.trans hij.symm) (zX0.1 hn j' j hj' hj q)
    · exact q
    · exact absurd (hij.trans Ab.symm) (zX0.1 hn j j' hj hj' q)
   subst this
   simp [plus]
 · rw [rq e,h1 j' i' hi']
   have:j'≠j:=fun q=>e (by subst q;rw [hi] at hi';exact (Option.some.inj hi').symm)
   exact decide_eq_decide.2 (by omega)
theorem JC.done (h:JC idx M L f u) (ha:∀i∈idx,L i=true):M idx.length f u:=by
 obtain ⟨s,hs,h1,h2⟩:=h.ex
 by_cases e:s=idx.length
 · exact e▸h2
 · have aq:s<idx.length:=by omega
   have q:=h1 s _ (List.getElem?_eq_getElem aq)
   rw [ha _ (zQ5 aq)] at q
   simp at q
end
end
section
open Go
section
variable {F:Fence} {n l:Nat} {P:Program} {ops:Array Oper} {Q:Exit->Act->World->Prop} {md:Region.Mode}
theorem z2S {o:Oper} {a:Act} {w:World} {next:Act->World->Prop} (hnd:∀c,o.op≠.defer c) (h:o.wpIn F n P a w next Q):o.wpIn (F.inRound l) n P a w next Q:=by
 obtain ⟨h1,h2⟩:=h
 refine ⟨h1,?_⟩
 rw [Oper.semAt_plain _ _ _ hnd] at h2 ⊢
 exact h2
theorem Mv (hnd:∀(i:Nat) (o:Oper),ops[i]? =some o->∀c:Call,o.op≠.defer c):∀(fuel:Nat) (listed:Array Bool) (a:Act) (w:World),wpAnyIn F n P md ops Q fuel listed a w->wpAnyIn (F.inRound l) n P md ops Q fuel listed a w
 | 0,_,_,_,h=>h
 | fuel+1,listed,a,w,h=>by
  refine ⟨h.1,fun i hi=>?_⟩
  have h2:=h.2 i hi
  unfold wpOpIn at h2 ⊢
  cases ho:ops[i]? with
  | none=>
   rw [ho] at h2
   exact Mv hnd fuel _ a w h2
  | some o=>
   rw [ho] at h2
   dsimp only at h2 ⊢
   split
   · rename_i hw
     rw [zZ1 hw] at h2
     exact z2S (hnd i o ho) (Oper.wpIn_mono (fun a w h=>Mv hnd fuel _ a w h) h2)
   · rename_i hw
     rw [zZ0 hw] at h2
     exact ⟨h2.1,Mv hnd fuel _ _ w h2.2⟩
def Qa (ops:Array Oper):Bool:=ops.all fun o=>match o.op with | .defer _=>false | _=>true
theorem y9j (h:Qa ops=true) (i:Nat) (o:Oper) (ho:ops[i]? =some o) (c:Call):o.op≠.defer c:=by
 intro e
 unfold Qa at h
 rw [Array.all_eq_true] at h
 obtain ⟨hi,rfl⟩:=zZ2.1 ho
 have:=h i hi
 rw [e] at this
 cases this
theorem y4Y {C:World->Prop} {id:Nat} {a:Act} {w:World} (hro:F.round=none) (hm:P.follows .mixedOrders=true) (hB:Region.lexB .any ops=true) (hd:Qa ops=true) (hC:C {w with drawn:=w.drawn+1})
    (h:wpQuietIn F n P ops C (fun a'=>∀w',C w'->Q .normal a' w') ops.toList a):(Code.region id ops true).wpIn (F.inRound l) n P Q a w:=by
 unfold Region.lexB at hB
 rw [Bool.and_eq_true] at hB
 obtain ⟨hs,hx⟩:=hB
 have h1:wpAnyQIn F n P .any ops C (fun a'=>∀w',C w'->Q .normal a' w') ops.toList.length (Array.replicate ops.size false) a:=
  wpAnyQIn_lex hs ops.toList 0 _ a (by simp) (by simpa using hx) h
 refine wpIn_region_any hm (Mv (y9j hd) _ _ _ _ ?_)
 exact wpAnyIn_of_quiet (Q:=fun a'=>∀w',C w'->Q .normal a' w') hro (fun _ w' hw' h=>h w' hw') _ _ _ _ hC (by simpa using h1)
end
end
section
open Go.RowKit Go.Maps
def ln (i:Nat) (v:Value):Value:=match v with | .tuple a=>a[i]?.getD undef | _=>undef
structure JE (c:Nat) (G:World->Prop) (R:Value->World->Prop) (ds:Nat->Option (Value->Value)) (L:Nat->Bool) (f:Nat->Value) (u:World):Prop where
 pre:L c=false->G u
 post:L c=true->R (f c) u
 ord:∀i g,ds i=some g->L i=true->L c=true
 val:∀i g,ds i=some g->L i=true->f i=g (f c)
section
variable {c:Nat} {G:World->Prop} {R:Value->World->Prop} {ds:Nat->Option (Value->Value)} {L:Nat->Bool} {f:Nat->Value} {u u':World}
theorem JE.start (h:G u) (f:Nat->Value):JE c G R ds (fun _=>false) f u:=⟨fun _=>h,fun h=>(by cases h),fun _ _ _ h=>(by cases h),fun _ _ _ h=>(by cases h)⟩
theorem JE.call (h:JE c G R ds L f u) (hL:L c=false) (hds:ds c=none) {v:Value} (hv:R v u'):JE c G R ds (plus L c) (bB f c v) u':=by
 refine ⟨fun h=>(by rw [yE] at h;cases h),fun _=>(by rw [fT];exact hv),fun _ _ _ _=>yE,fun i g hd hl=>?_⟩
 have hi:i≠c:=fun e=>by rw [e,hds] at hd;cases hd
 rw [rq hi] at hl
 have:=h.ord i g hd hl
 rw [hL] at this
 cases this
theorem JE.put (h:JE c G R ds L f u) (i:Nat) (hc:L c=true) (hi:i≠c) {v:Value} (hv:∀g,ds i=some g->v=g (f c)):JE c G R ds (plus L i) (bB f i v) u:=by
 have e:plus L i c=L c:=rq (fun e=>hi e.symm)
 have e2:bB f i v c=f c:=gg (fun e=>hi e.symm)
 refine ⟨fun h'=>(by rw [e,hc] at h';cases h'),fun _=>(by rw [e2];exact h.post hc),fun _ _ _ _=>(by rw [e];exact hc),fun j g hd hl=>?_⟩
 rw [e2]
 by_cases q:j=i
 · subst q
   rw [fT];exact hv g hd
 · rw [gg q]
   rw [rq q] at hl
   exact h.val j g hd hl
end
end
section
open Go.RowKit Go.Maps
structure JDn (R:Nat->Value->(Nat->Prop)->World->Prop) (y:World) (L:Nat->Bool) (f:Nat->Value) (x:World):Prop where
 ag:ae y x
 ex:∃φ:Nat->Nat->Prop,(∀i,L i=true->R i (f i) (φ i) x/\∀j,φ i j->y.heap.size<=j/\j<x.heap.size)/\∀i i',L i=true->L i'=true->i≠i'->∀j,φ i j->¬φ i' j
section
variable {R:Nat->Value->(Nat->Prop)->World->Prop} {y x x':World} {L:Nat->Bool} {f:Nat->Value}
end
end
section
open Go.RowKit Go.Maps
theorem y8Y {P:Program} {o:Oper} {a:Act} {w w':World} {K:Value->World->Prop} {t:TypeId} (m x v:Operand) (hop:o.op=Op.mapUpdate t m x v) {vm vx vv:Value} (hm:a.eval m=vm) (hx:a.eval x=vx) (hv:a.eval v=vv)
    (hrun:(Instr.mapUpdate t vm vx vv).run P w=.ok () w') (hK:∀u,K u w'):aT P K ((execOp a.eval o).run P w):=by
 simp [execOp,hop,hm,hx,hv,hrun,Result.andThen,aT]
 exact hK _
structure JF (c d:Nat) (G:World->Prop) (V:Value->Prop) (R Q:Value->World->Prop) (ds:Nat->Option (Value->Value)) (L:Nat->Bool) (f:Nat->Value) (u:World):Prop where
 pre:L c=false->G u
 form:L c=true->V (f c)
 mid:L c=true->L d=false->R (f c) u
 post:L d=true->Q (f c) u
 oc:L d=true->L c=true
 ord:∀i g,ds i=some g->L i=true->L c=true
 val:∀i g,ds i=some g->L i=true->f i=g (f c)
section
variable {c d:Nat} {G:World->Prop} {V:Value->Prop} {R Q:Value->World->Prop} {ds:Nat->Option (Value->Value)} {L:Nat->Bool} {f:Nat->Value} {u u':World}
theorem JF.start (h:G u) (f:Nat->Value):JF c d G V R Q ds (fun _=>false) f u:=⟨fun _=>h,fun h=>(by cases h),fun h=>(by cases h),fun h=>(by cases h),fun h=>(by cases h),fun _ _ _ h=>(by cases h),fun _ _ _ h=>(by cases h)⟩
theorem JF.call (h:JF c d G V R Q ds L f u) (hL:L c=false) (hds:ds c=none) (lD:d≠c) {v:Value} (hV:V v) (hv:R v u'):JF c d G V R Q ds (plus L c) (bB f c v) u':=by
 have hd:L d=true->False:=fun q=>by rw [h.oc q] at hL;cases hL
 refine ⟨fun h=>(by rw [yE] at h;cases h),fun _=>(by rw [fT];exact hV),fun _ _=>(by rw [fT];exact hv),fun q=>?_,fun _=>yE,fun _ _ _ _=>yE,fun i g hdi hl=>?_⟩
 · rw [rq lD] at q
   exact (hd q).elim
 · have hi:i≠c:=fun e=>by rw [e,hds] at hdi;cases hdi
   rw [rq hi] at hl
   have:=h.ord i g hdi hl
   rw [hL] at this
   cases this
theorem JF.put (h:JF c d G V R Q ds L f u) (i:Nat) (hc:L c=true) (hi:i≠c) (af:i≠d) {v:Value} (hv:∀g,ds i=some g->v=g (f c)):JF c d G V R Q ds (plus L i) (bB f i v) u:=by
 have e:plus L i c=L c:=rq (fun e=>hi e.symm)
 have ed:plus L i d=L d:=rq (fun e=>af e.symm)
 have e2:bB f i v c=f c:=gg (fun e=>hi e.symm)
 refine ⟨fun h'=>(by rw [e,hc] at h';cases h'),fun _=>(by rw [e2];exact h.form hc),fun _ q=>(by rw [e2];rw [ed] at q;exact h.mid hc q),fun q=>(by rw [e2];rw [ed] at q;exact h.post q),fun _=>(by rw [e];exact hc),fun _ _ _ _=>(by rw [e];exact hc),fun j g hd hl=>?_⟩
 rw [e2]
 by_cases q:j=i
 · subst q
   rw [fT];exact hv g hd
 · rw [gg q]
   rw [rq q] at hl
   exact h.val j g hd hl
theorem JF.turn (h:JF c d G V R Q ds L f u) (hc:L c=true) (lD:d≠c) (hds:ds d=none) (v:Value) (hQ:Q (f c) u'):JF c d G V R Q ds (plus L d) (bB f d v) u':=by
 have e:plus L d c=L c:=rq (fun e=>lD e.symm)
 have e2:bB f d v c=f c:=gg (fun e=>lD e.symm)
 refine ⟨fun h'=>(by rw [e,hc] at h';cases h'),fun _=>(by rw [e2];exact h.form hc),fun _ q=>(by rw [yE] at q;cases q),fun q=>(by rw [e2];exact hQ),fun _=>(by rw [e];exact hc),fun _ _ _ _=>(by rw [e];exact hc),fun j g hd hl=>?_⟩
 rw [e2]
 have q:j≠d:=fun e=>by rw [e,hds] at hd;cases hd
 rw [gg q]
 rw [rq q] at hl
 exact h.val j g hd hl
end
end
section
open Go.RowKit Go.Maps
def rI (R:Nat->Value->World->Prop):Prop:=∀i v x x',R i v x->ae x x'->R i v x'
structure JQ (R:Nat->Value->World->Prop) (y:World) (L:Nat->Bool) (f:Nat->Value) (x:World):Prop where
 ag:ae y x
 at_:∀i,L i=true->R i (f i) x
section
variable {R:Nat->Value->World->Prop} {y x x':World} {L:Nat->Bool} {f:Nat->Value}
theorem JQ.start (R:Nat->Value->World->Prop) (y:World) (f:Nat->Value):JQ R y (fun _=>false) f y.drew:=⟨(ae.rf y).drew,fun i h=>by cases h⟩
theorem JQ.more (hR:rI R) (h:JQ R y L f x) (g:ae x x'):JQ R y L f x':=⟨h.ag.trans g,fun i hi=>hR _ _ _ _ (h.at_ i hi) g⟩
theorem JQ.put (hR:rI R) (h:JQ R y L f x) (i:Nat) {v:Value} (g:ae x x') (hv:R i v x'):JQ R y (plus L i) (bB f i v) x':=by
 refine ⟨h.ag.trans g,fun j hj=>?_⟩
 by_cases e:j=i
 · subst e;rw [fT];exact hv
 · rw [gg e];rw [rq e] at hj;exact hR _ _ _ _ (h.at_ j hj) g
theorem JQ.same (hR:rI R) (h:JQ R y L f x) (i:Nat) {v:Value} (hv:R i v x):JQ R y (plus L i) (bB f i v) x:=h.put hR i (ae.rf x) hv
end
end
end Go.Proofs.YtbnofojapimfcaaGreatDoor
