/- Part 2. -/
import Derived.Test.YtgegogoanbamfaaGreatDoorFinAuditPlaysQ1
import Derived.StillTail
import Derived.Sort.QuietThIn
import Derived.OwnWalkIn
set_option linter.unusedVariables false
set_option linter.unusedSectionVars false
set_option linter.unusedSimpArgs false
set_option maxRecDepth 100000
set_option maxHeartbeats 16000000
namespace Go.Proofs.YtgegogoanbamfaaGreatDoor
namespace Pl
end Pl
open Pl Go.Proofs.Tryz Go.RowKit Go.Maps
attribute [local go_sem] Oper.semAt_some
section
section
variable {P:Program}{ops:Array Oper}
def bQ (f:Nat->Value)(i:Nat)(v:Value)(j:Nat):Value:=if j=i then v else f j
theorem fY (f:Nat->Value)(i:Nat)(v:Value):bQ f i v i=v:=zZ1 rfl
theorem gH {f:Nat->Value}{i j:Nat}{v:Value}(h:j≠i):bQ f i v j=f j:=zZ0 h
def bh (L:Nat->Bool)(f:Nat->Value):List Oper->Nat->Act->Act
 | [],_,a=>a
 | o::l,k,a=>bh L f l (k+1) (if L k then a.put o.dst (f k)else a)
def nz (ops:Array Oper):Prop:=∀(i j:Nat) (oi oj:Oper),ops[i]? =some oi->ops[j]? =some oj->i≠j->∀d,oi.dst=some d->oj.dst≠some d
def Tp (ops:Array Oper):Bool:=(List.range ops.size).all fun i=>(List.range ops.size).all fun j=>i==j || (match (ops[i]?).bind (·.dst),(ops[j]?).bind (·.dst)with | some d,some e=>d !=e | _,_=>true)
theorem yw (h:Tp ops=true):nz ops:=by
 intro i j oi oj hi hj hne d hd he;have Mg:=(zZ2.1 hi).1;have jH:=(zZ2.1 hj).1;unfold Tp at h;rw[zK0]at h;have h1:=h i (yK3.2 Mg);rw[zK0]at h1;have h2:=h1 j (yK3.2 jH);rw[hi,hj]at h2;simp[hd,he,hne]at h2
theorem QE (hA:nz ops)(L:Nat->Bool)(f:Nat->Value):∀(l:List Oper) (k:Nat) (a:Act) (i:Nat) (oi:Oper) (v:Value),(∀j,l[j]? =ops[k+j]?)->ops[i]? =some oi->i<k->bh L f l k (a.put oi.dst v)=(bh L f l k a).put oi.dst v
 | [],_,_,_,_,_,_,_,_=>rfl
 | o::l,k,a,i,oi,v,hl,hi,hk=>by
  have h0:ops[k]? =some o:=by simpa using(hl 0).symm
  have hl':∀j,l[j]? =ops[k+1+j]? :=fun j=>by have:=hl (j+1);simpa[yQ1,yQ9 1 j]using this
  unfold bh;rw[<-QE hA L f l (k+1) _ i oi v hl' hi (by omega)];congr 1;split
  . exact Act.put_comm a v (f k) (fun d hd=>hA i k oi o hi h0 (by omega) d hd)
  . rfl
theorem QF (L M:Nat->Bool)(f g:Nat->Value):∀(l:List Oper) (k:Nat) (a:Act),(∀j,k<=j->L j=M j)->(∀j,k<=j->f j=g j)->bh L f l k a=bh M g l k a
 | [],_,_,_,_=>rfl
 | o::l,k,a,h1,h2=>by
  unfold bh;rw[h1 k (zZ3 _),h2 k (zZ3 _)];exact QF L M f g l (k+1) _ (fun j hj=>h1 j (by omega)) (fun j hj=>h2 j (by omega))
theorem YT (hA:nz ops)(L M:Nat->Bool)(f:Nat->Value)(i:Nat)(oi:Oper)(v:Value)(hi:ops[i]? =some oi)(hL:L i=false)(hM:∀j,M j=(if j=i then true else L j)):∀(l:List Oper) (k:Nat) (a:Act),(∀j,l[j]? =ops[k+j]?)->k<=i->i<k+l.length->bh M (bQ f i v) l k a=(bh L f l k a).put oi.dst v
 | [],k,_,_,h1,h2=>by simp at h2;omega
 | o::l,k,a,hl,h1,h2=>by
  have h0:ops[k]? =some o:=by simpa using(hl 0).symm
  have hl':∀j,l[j]? =ops[k+1+j]? :=fun j=>by have:=hl (j+1);simpa[yQ1,yQ9 1 j]using this
  unfold bh;by_cases hk:k=i
  . subst hk;rw[hi]at h0;cases h0;rw[hM,zZ1 rfl,fY,hL];simp only[if_true,yK4,if_false];rw[QE hA M (bQ f k v) l (k+1) a k oi v hl' hi (by omega)];congr 1;exact QF M L (bQ f k v) f l (k+1) a (fun j hj=>by rw[hM,zZ0 (by omega)]) (fun j hj=>gH (by omega))
  . rw[hM,zZ0 hk,gH hk];exact YT hA L M f i oi v hi hL hM l (k+1) _ hl' (by omega) (by simp only[zQ6]at h2;omega)
theorem Ho (hA:nz ops)(o:Oper)(lO:∀cs b,o.op≠.select cs b)(L M:Nat->Bool)(f:Nat->Value)(QG:∀j,M j=true->L j=true)(nA:∀j oj,ops[j]? =some oj->L j=true->M j=false->∀d,oj.dst=some d->d ∉ o.looksAt ops):∀(l:List Oper) (k:Nat) (a:Act),(∀j,l[j]? =ops[k+j]?)->
    execOp (bh L f l k a).eval o=execOp (bh M f l k a).eval o/\Region.wanted o (yielded ops (bh L f l k a).tmps)=Region.wanted o (yielded ops (bh M f l k a).tmps)
 | [],_,_,_=>⟨rfl,rfl⟩
 | oj::l,k,a,hl=>by
  have h0:ops[k]? =some oj:=by simpa using(hl 0).symm
  have hl':∀j,l[j]? =ops[k+1+j]? :=fun j=>by have:=hl (j+1);simpa[yQ1,yQ9 1 j]using this
  unfold bh;cases hm:M k with
  | true=>rw[QG k hm];exact Ho hA o lO L M f QG nA l (k+1) _ hl'
  | false=>
   cases hL:L k with
   | false=>exact Ho hA o lO L M f QG nA l (k+1) _ hl'
   | true=>
    simp only[if_true,yK4,if_false];rw[QE hA L f l (k+1) a k oj (f k) hl' h0 (by omega),execOp_put o lO _ _ _ (nA k oj h0 hL hm),wanted_put o _ _ _ (nA k oj h0 hL hm)];exact Ho hA o lO L M f QG nA l (k+1) _ hl'
def bl (P:Program)(K:Value->World->Prop):Result Next->Prop
 | .ok (.value u) w'=>K u w'
 | .ok .skip w'=>K undef w'
 | .ok (.enter f args) w'=>Calls P f args w' (fun e w''=>∃v,e=.returned v/\K v w'')
 | _=>False
theorem y9e {o:Oper}{a:Act}{K:Value->World->Prop}{next:Act->World->Prop}{Q:Exit->Act->World->Prop}(h:∀v w',K v w'->next (a.put o.dst v) w'):∀r,bl P K r->o.upon P a next Q r
 | .ok (.value u) w',hr=>h u w' hr
 | .ok .skip w',hr=>h _ w' hr
 | .ok (.enter f args) w',hr=>by
  refine Calls.mono hr fun e w'' he=>?_;obtain⟨v,rfl,hv⟩:=he;exact h v w'' hv
 | .ok (.defer d) w',hr=>hr.elim
 | .ok (.row row args) w',hr=>hr.elim
 | .halt x w',hr=>hr.elim
def jI (o:Oper):List Nat:=(o.after.toList.filter (Region.binds .any)).map (·.on)
def Mh (ops:Array Oper)(n:Nat):Bool:=(List.range ops.size).all fun i=>match ops[i]? with
 | none=>true
 | some o=>(jI o).all (fun j=>decide (j<i)) && (List.range n).all fun j=>match (ops[j]?).bind (·.dst)with
  | none=>true
  | some d=>(jI o).contains j || j==i || !(o.looksAt ops).contains d
theorem Tq {n:Nat}(h:Mh ops n=true){i:Nat}{o:Oper}(hi:ops[i]? =some o):(∀j∈jI o,j<i)/\∀j oj,j<n->ops[j]? =some oj->j ∉ jI o->j≠i->∀d,oj.dst=some d->d ∉ o.looksAt ops:=by
 have Mg:=(zZ2.1 hi).1;unfold Mh at h;rw[zK0]at h;have h1:=h i (yK3.2 Mg);rw[hi]at h1;simp only[zZ7,zK0,wZ2]at h1;refine⟨h1.1,fun j oj kR hj qD hne d hd fD=>?_⟩;have h2:=h1.2 j (yK3.2 kR);rw[hj]at h2;simp[hd,qD,hne,fD]at h2
abbrev plus (L:Nat->Bool)(i:Nat)(j:Nat):Bool:=if j=i then true else L j
def yx (P:Program)(ops:Array Oper)(a0:Act)(J:(Nat->Bool)->(Nat->Value)->World->Prop)(i:Nat)(o:Oper):Prop:=
 ∀(L:Nat->Bool) (f:Nat->Value) (w:World),J L f w->L i=false->(∀j∈jI o,L j=true)->
  if Region.wanted o (yielded ops (bh (fun j=>(jI o).contains j) f ops.toList 0 a0).tmps)=true then
   bl P (fun v w'=>J (plus L i) (bQ f i v) w') ((execOp (bh (fun j=>(jI o).contains j) f ops.toList 0 a0).eval o).run P w)
  else J (plus L i) (bQ f i undef) w
theorem YU {listed:Array Bool}{i:Nat}(h:i∈Region.ready .any ops listed):listed.getD i true=false/\∃o,ops[i]? =some o/\∀j∈jI o,listed.getD j false=true:=by
 obtain⟨h1,o,h2,h3⟩:=mem_ready.1 h;refine⟨h1,o,h2,fun j hj=>?_⟩;obtain⟨e,he,rfl⟩:=zX3.1 hj;obtain⟨he1,he2⟩:=List.mem_filter.1 he;exact h3 e (by simpa using he1) he2
theorem yy {n:Nat}{listed:Array Bool}(inv:HeadInv .any ops n listed)(hall:∀i,i<n->listed.getD i false=true):listed=(List.replicate n true++List.replicate (ops.size - n) false).toArray\/ops.size<n:=by
 by_cases hn:ops.size<n
 . exact .inr hn
 refine .inl (Array.ext_getElem? fun i=>?_);have e2:(List.replicate n true++List.replicate (ops.size - n) false).toArray[i]? =(List.replicate n true++List.replicate (ops.size - n) false)[i]? :=by simp
 rw[e2];by_cases h1:i<n
 . have hs:i<listed.size:=(by rw[inv.size];omega);have:=hall i h1;simp[hs]at this;rw[yK0 (by simpa using h1),List.getElem?_replicate,zZ1 h1,yK2 hs,this]
 . rw[yX5 (by simpa using h1),List.length_replicate,List.getElem?_replicate];by_cases h2:i<ops.size
   . have hs:i<listed.size:=(by rw[inv.size];omega);have:=inv.tail i (by omega) h2;simp[hs]at this;rw[zZ1 (by omega),yK2 hs,this]
   . rw[zZ0 (by omega),Array.getElem?_eq_none (by rw[inv.size];omega)]
theorem z4M {Q:Exit->Act->World->Prop}{a0:Act}{J:(Nat->Bool)->(Nat->Value)->World->Prop}(n:Nat)(hn:n<=ops.size)(lO:Region.noSelect ops=true)(hA:nz ops)(hW:Mh ops n=true)
    (rk:n=ops.size\/(n<ops.size/\Region.sinkB .any ops n=true/\Region.chainB .any ops n=true)) (hseq:Region.seqB .any ops (ops.size - n) n (List.replicate n true++List.replicate (ops.size - n) false).toArray=true)
    (hstep:∀i o,i<n->ops[i]? =some o->yx P ops a0 J i o)
    (hend:∀f w,J (fun j=>decide (j<n)) f w->wpList P ops Q (ops.toList.drop n) (bh (fun j=>decide (j<n)) f ops.toList 0 a0) w):
    ∀(fuel:Nat) (listed:Array Bool) (f:Nat->Value) (w:World),listed.toList.count false=fuel->HeadInv .any ops n listed->J (fun j=>listed.getD j false) f w->
     wpAny P .any ops Q fuel listed (bh (fun j=>listed.getD j false) f ops.toList 0 a0) w:=by
 have hdone:∀(fuel:Nat) (listed:Array Bool) (f:Nat->Value) (w:World),listed.toList.count false=fuel->HeadInv .any ops n listed->J (fun j=>listed.getD j false) f w->(∀i,i<n->listed.getD i false=true)->
     wpAny P .any ops Q fuel listed (bh (fun j=>listed.getD j false) f ops.toList 0 a0) w:=by
  intro fuel listed f w hc inv hi hall;rcases yy inv hall with Mi | h
  . have hgo:∀(l:List Oper) (k:Nat) (a:Act),(∀j,j<l.length->k+j<ops.size)->bh (fun j=>listed.getD j false) f l k a=bh (fun j=>decide (j<n)) f l k a:=by
     intro l;induction l with
     | nil=>intro k a _;rfl
     | cons o l ih=>
      intro k a hk;unfold bh;have e:listed.getD k false=decide (k<n):=by
       by_cases dO:k<n
       . rw[hall k dO];simp[dO]
       . have BO:k<ops.size:=(by have:=hk 0 (by simp);simpa using this);rw[getD_both (inv.tail k (by omega) BO)];simp[dO]
      rw[e];exact ih (k+1) _ (fun j hj=>by have:=hk (j+1) (by simp;omega);omega)
    rw[hgo _ 0 a0 (fun j hj=>by simpa using hj)];have Mj:fuel=(ops.toList.drop n).length:=by
     rw[<-hc,Mi];simp[List.count_append,List.count_replicate]
    have eL:(fun j=>listed.getD j false)=(fun j=>decide (j<n)):=by
     funext k;by_cases dO:k<n
     . rw[hall k dO];simp[dO]
     . by_cases BO:k<ops.size
       . rw[getD_both (inv.tail k (by omega) BO)];simp[dO]
       . have:¬k<listed.size:=(by rw[inv.size];exact BO);simp[Array.getD,this,dO]
    rw[eL]at hi;have h2:=hend f w hi;rw[Mj];refine wpAny_of_seq (ops.toList.drop n) n listed _ w (fun j=>by simp) ?_ h2;rw[Mi];simpa using hseq
  . omega
 intro fuel;induction fuel with
 | zero=>
  intro listed f w hc inv hi;refine hdone 0 listed f w hc inv hi fun i iG=>?_;cases hl:listed.getD i false with
  | true=>rfl
  | false=>
   exfalso;have az:i<listed.size:=(by rw[inv.size];omega);have hm:false∈listed.toList:=by
    simp[az]at hl;rw[<-hl];exact Array.getElem_mem_toList az
   have:=List.count_pos_iff.2 hm;omega
 | succ fuel ih=>
  intro listed f w hc inv hi;by_cases hall:∀i,i<n->listed.getD i false=true
  . exact hdone _ listed f w hc inv hi hall
  obtain⟨i0,dA,hl0⟩:∃i,i<n/\listed.getD i false=false:=by
   refine Classical.byContradiction fun hno=>hall fun i iG=>?_;cases hl:listed.getD i false with
   | true=>rfl
   | false=>exact absurd ⟨i,iG,hl⟩ hno
  have hl0':listed.getD i0 true=false:=getD_in (by rw[inv.size];omega) hl0;have Tr:∀i∈Region.ready .any ops listed,i<n:=by
   intro i fD;rcases rk with h | ⟨h1,h2,h3⟩
   . obtain⟨_,o,ho,_⟩:=YU fD;have:=(zZ2.1 ho).1;omega
   . rcases zJ7 i n with h | h
     . exact h
     . exact absurd fD (tail_waits h2 h3 h1 inv _ i0 rfl dA hl0' i h)
  refine⟨fun hr=>?_,fun i fD=>?_⟩
  . exfalso;have hall:∀m i,i<m->i<n->listed.getD i false=true:=by
     intro m;induction m with
     | zero=>intro i h;omega
     | succ m ih=>
      intro i him iG;by_cases hl:listed.getD i false=true
      . exact hl
      . exfalso;have Fx:i<ops.size:=(by omega);have fD:i∈Region.ready .any ops listed:=by
         refine mem_ready.2 ⟨?_,ops[i],yK2 Fx,fun e he hb=>?_⟩
         . exact getD_in (by rw[inv.size];omega) (by simpa using hl)
         . have hw:=(Tq hW (yK2 Fx)).1 e.on (zX3.2 ⟨e,List.mem_filter.2 ⟨by simpa using he,hb⟩,rfl⟩);exact ih e.on (by omega) (by omega)
        rw[hr]at fD;cases fD
    rw[hall (i0+1) i0 (by omega) dA]at hl0;cases hl0
  obtain⟨nA,o,ho,pL⟩:=YU fD;have iG:=Tr i fD;have az:i<ops.size:=(zZ2.1 ho).1;have Mk:listed.getD i false=false:=getD_both nA;have hst:=hstep i o iG ho (fun j=>listed.getD j false) f w hi Mk pL;have hex:=Ho hA o (Region.noSelect_spec lO i o · · ho) (fun j=>listed.getD j false) (fun j=>(jI o).contains j) f (fun j hj=>pL j (by simpa using hj))
   (fun j oj hj hL hM=>(Tq hW ho).2 j oj (Nat.lt_of_not_le fun KI=>by rw[getD_both (inv.tail j KI (zZ2.1 hj).1)]at hL;cases hL) hj (by simpa using hM) (fun e=>by rw[e]at hL;rw[Mk]at hL;cases hL)) ops.toList 0 a0 (fun j=>by simp)
  have Hp:(listed.setIfInBounds i true).toList.count false=fuel:=by
   have jF:i<listed.toList.length:=(by rw[yZ7,inv.size];omega);have hg:listed.toList[i]=false:=by
    have:i<listed.size:=(by rw[inv.size];omega);simp[this]at Mk;simpa using Mk
   rw[Array.toList_setIfInBounds,List.count_set jF];simp only[hg,beq_self_eq_true,if_true];have:(true==false)=false:=rfl;simp only[this,yK4,if_false];omega
  have Fy:∀v w',J (plus (fun j=>listed.getD j false) i) (bQ f i v) w'->wpAny P .any ops Q fuel (listed.setIfInBounds i true) ((bh (fun j=>listed.getD j false) f ops.toList 0 a0).put o.dst v) w':=by
   intro v w' QH;have gy:∀j,(listed.setIfInBounds i true).getD j false=(if j=i then true else listed.getD j false):=by
    intro j;by_cases hj:j=i
    . subst hj;have:j<listed.size:=(by rw[inv.size];omega);simp[this]
    . rw[zZ0 hj];exact getD_set_ne false (Ne.symm hj)
   rw[<-YT hA (fun j=>listed.getD j false) (fun j=>(listed.setIfInBounds i true).getD j false) f i o v ho Mk gy ops.toList 0 a0 (fun j=>by simp) (by omega) (by simpa using az)];refine ih _ _ _ Hp (inv.set fD iG) ?_;rw[funext gy];exact QH
  unfold wpOp;simp only[ho];rw[hex.2];split
  . next hw=>
    rw[zZ1 hw]at hst;refine .inl ?_;unfold Oper.wp;rw[hex.1];exact y9e Fy _ hst
  . next hw=>
    rw[zZ0 hw]at hst;exact Fy _ _ hst
theorem y8x {id:Nat}{Q:Exit->Act->World->Prop}{a0:Act}{w:World}{l:List Oper}{J:(Nat->Bool)->(Nat->Value)->World->Prop}(n:Nat)(hn:n<=l.length)
    (hm:P.follows .mixedOrders=true) (lO:Region.noSelect l.toArray=true) (hA:nz l.toArray) (hW:Mh l.toArray n=true)
    (rk:n=l.toArray.size\/(n<l.toArray.size/\Region.sinkB .any l.toArray n=true/\Region.chainB .any l.toArray n=true)) (hseq:Region.seqB .any l.toArray (l.toArray.size - n) n (List.replicate n true++List.replicate (l.toArray.size - n) false).toArray=true)
    (h0:J (fun _=>false) (fun _=>undef) w.drew)
    (hstep:∀i o,i<n->l[i]? =some o->yx P l.toArray a0 J i o)
    (hend:∀f w,J (fun j=>decide (j<n)) f w->wpList P l.toArray Q (l.drop n) (bh (fun j=>decide (j<n)) f l 0 a0) w):(Code.region id l.toArray true).wp P Q a0 w:=by
 refine wp_region_any hm ?_;have:=z4M (P:=P) (ops:=l.toArray) (Q:=Q) (a0:=a0) (J:=J) n (by simpa using hn) lO hA hW rk hseq
  (fun i o h1 h2=>hstep i o h1 (by simpa using h2)) (fun f w h1=>by simpa using hend f w h1) l.toArray.size (Array.replicate l.toArray.size false) (fun _=>undef) w.drew (by simp)
  ⟨by simp,fun j oj hj hl=>(by rw[getD_replicate_false]at hl;cases hl),fun t _ ht=>(by have:t<l.length:=(by simpa using ht);simp[this])⟩ (by rw[funext (getD_replicate_false _)];exact h0)
 rw[show bh (fun j=>(Array.replicate l.toArray.size false).getD j false) (fun _=>undef) l.toArray.toList 0 a0=a0 from ?_]at this
 . exact this
 . have hz:∀(l':List Oper) (k:Nat) (a:Act),bh (fun j=>(Array.replicate l.toArray.size false).getD j false) (fun _=>undef) l' k a=a:=by
    intro l';induction l' with
    | nil=>intro k a;rfl
    | cons o l' ih=>intro k a;unfold bh;rw[ih,getD_replicate_false];rfl
   exact hz _ _ _
end
end
section
section
variable {P:Program}{ops:Array Oper}
theorem Ts (L:Nat->Bool)(f:Nat->Value)(o:Oper)(l:List Oper)(k:Nat)(a:Act):bh L f (o::l) k a=bh L f l (k+1) (if L k then a.put o.dst (f k)else a):=rfl
theorem Tu (L:Nat->Bool)(f:Nat->Value):∀(l:List Oper) (k:Nat) (a:Act),(∀j,k<=j->L j=false)->bh L f l k a=a
 | [],_,_,_=>rfl
 | o::l,k,a,h=>by
  unfold bh;rw[h k (zZ3 _)];exact Tu L f l (k+1) a (fun j hj=>h j (by omega))
theorem QI (L M:Nat->Bool)(f g:Nat->Value):∀(l:List Oper) (k:Nat) (a:Act),(∀j,k<=j->j<k+l.length->L j=M j)->(∀j,k<=j->j<k+l.length->L j=true->f j=g j)->bh L f l k a=bh M g l k a
 | [],_,_,_,_=>rfl
 | o::l,k,a,h1,h2=>by
  unfold bh;have hk:=h1 k (zZ3 _) (by simp);rw[<-hk];have e:(if L k=true then a.put o.dst (f k)else a)=(if L k=true then a.put o.dst (g k)else a):=by
   by_cases h:L k=true
   . rw[zZ1 h,zZ1 h,h2 k (zZ3 _) (by simp) h]
   . rw[zZ0 h,zZ0 h]
  rw[e];exact QI L M f g l (k+1) _ (fun j hj hl=>h1 j (by omega) (by simp only[zQ6];omega)) (fun j hj hl=>h2 j (by omega) (by simp only[zQ6];omega))
theorem Tv (hA:nz ops)(A B:Nat->Bool)(f g:Nat->Value)(YV:∀j,A j=true->B j=false):∀(l:List Oper) (k:Nat) (a:Act),(∀j,l[j]? =ops[k+j]?)->bh B f l k (bh A g l k a)=bh (fun j=>A j || B j) (fun j=>if B j then f j else g j) l k a
 | [],_,_,_=>rfl
 | o::l,k,a,hl=>by
  have h0:ops[k]? =some o:=by simpa using(hl 0).symm
  have hl':∀j,l[j]? =ops[k+1+j]? :=fun j=>by have:=hl (j+1);simpa[yQ1,yQ9 1 j]using this
  have IH:=Tv hA A B f g YV l (k+1);rw[Ts B,Ts A,Ts];cases hb:B k with
  | true=>
   have ha:A k=false:=by
    cases ha:A k with
    | false=>rfl
    | true=>rw[YV k ha]at hb;cases hb
   simp only[ha,yK4,if_false,if_true,Bool.or_true];rw[<-QE hA A g l (k+1) a k o (f k) hl' h0 (by omega)];rw[IH _ hl']
  | false=>
   simp only[yK4,if_false,Bool.or_false];rw[IH _ hl']
theorem YW {K K':Value->World->Prop}(h:∀v w,K v w->K' v w):∀r,bl P K r->bl P K' r
 | .ok (.value u) w',hr=>h u w' hr
 | .ok .skip w',hr=>h _ w' hr
 | .ok (.enter f args) w',hr=>Calls.mono hr fun _ _ ⟨v,h1,h2⟩=>⟨v,h1,h v _ h2⟩
 | .ok (.defer d) w',hr=>hr.elim
 | .ok (.row row args) w',hr=>hr.elim
 | .halt x w',hr=>hr.elim
def QJ (P:Program)(I:World->Prop)(T:World->World->Prop)(o:Oper)(a:Act)(v:Value):Prop:=
 ∀w,I w->bl P (fun u w'=>T w w'/\u=v) ((execOp a.eval o).run P w)
def cX (P:Program)(ops:Array Oper)(n:Nat)(Z:List Nat)(I:World->Prop)(T:World->World->Prop)(K:Act->Prop):List Oper->Nat->Act->Prop
 | [],_,a=>K a
 | o::l,k,a=>if decide (k<n)=true then(if Z.contains k=true then cX P ops n Z I T K l (k+1) a else if Region.wanted o (yielded ops a.tmps)=true then ∃v,QJ P I T o a v/\cX P ops n Z I T K l (k+1) (a.put o.dst v)else cX P ops n Z I T K l (k+1) (a.put o.dst undef))else K a
abbrev iW (n:Nat)(Z:List Nat)(j:Nat):Bool:=decide (j<n) && !Z.contains j
theorem YX (n:Nat)(Z:List Nat){j:Nat}(h:n<=j):iW n Z j=false:=by
 have:decide (j<n)=false:=by simp;omega
 unfold iW;rw[this];rfl
theorem Tw {n:Nat}{Z:List Nat}{I:World->Prop}{T:World->World->Prop}{K:Act->Prop}:∀(l:List Oper) (k:Nat) (a:Act),cX P ops n Z I T K l k a->
    ∃c:Nat->Value,K (bh (iW n Z) c l k a)/\∀i o,l[i]? =some o->k+i<n->Z.contains (k+i)=false->
     (Region.wanted o (yielded ops (bh (iW (k+i) Z) c l k a).tmps)=true/\QJ P I T o (bh (iW (k+i) Z) c l k a) (c (k+i)))\/(Region.wanted o (yielded ops (bh (iW (k+i) Z) c l k a).tmps)=false/\c (k+i)=undef)
 | [],k,a,h=>⟨fun _=>undef,h,fun i o hi=>by simp at hi⟩
 | o::l,k,a,h=>by
  unfold cX at h;by_cases hk:k<n
  . rw[zZ1 (by simpa using hk)]at h;by_cases hz:Z.contains k=true
    . rw[zZ1 hz]at h;obtain⟨c,h1,h2⟩:=Tw l (k+1) a h;refine⟨c,?_,?_⟩
      . unfold bh;have e:iW n Z k=false:=(by unfold iW;rw[hz];simp);rw[e];exact h1
      . intro i o' hi iG Hq;match i,hi with
        | 0,hi=>rw[zX9,hz]at Hq;cases Hq
        | i+1,hi=>
         have e:k+(i+1)=k+1+i:=(by omega);have e2:iW (k+1+i) Z k=false:=(by unfold iW;rw[hz];simp);have:=h2 i o' (by simpa using hi) (by omega) (by rw[<-e];exact Hq);rw[e];unfold bh;rw[e2];exact this
    . rw[zZ0 hz]at h;have hz':Z.contains k=false:=(by simpa using hz);have key:∀v,cX P ops n Z I T K l (k+1) (a.put o.dst v)->((Region.wanted o (yielded ops a.tmps)=true/\QJ P I T o a v)\/(Region.wanted o (yielded ops a.tmps)=false/\v=undef))->
          ∃c:Nat->Value,K (bh (iW n Z) c (o::l) k a)/\∀i o',(o::l)[i]? =some o'->k+i<n->Z.contains (k+i)=false->
           (Region.wanted o' (yielded ops (bh (iW (k+i) Z) c (o::l) k a).tmps)=true/\QJ P I T o' (bh (iW (k+i) Z) c (o::l) k a) (c (k+i)))\/(Region.wanted o' (yielded ops (bh (iW (k+i) Z) c (o::l) k a).tmps)=false/\c (k+i)=undef):=by
       intro v hv hs;obtain⟨c,h1,h2⟩:=Tw l (k+1) _ hv;refine⟨bQ c k v,?_,?_⟩
       . unfold bh;have e:iW n Z k=true:=(by unfold iW;rw[hz'];simpa using hk);rw[e,fY];simp only[if_true];rw[QF (iW n Z) (iW n Z) (bQ c k v) c l (k+1) _ (fun _ _=>rfl) (fun j hj=>gH (by omega))];exact h1
       . intro i o' hi iG Hq;match i,hi with
         | 0,hi=>
          have:o=o':=(by simpa using hi);subst this;rw[zX9,Tu (iW k Z) _ (o::l) k a (fun j hj=>YX k Z hj),fY];exact hs
         | i+1,hi=>
          have e:k+(i+1)=k+1+i:=(by omega);have e2:iW (k+1+i) Z k=true:=(by unfold iW;rw[hz'];simp;omega);have:=h2 i o' (by simpa using hi) (by omega) (by rw[<-e];exact Hq);rw[e,gH (by omega:k+1+i≠k)];unfold bh;rw[e2,fY];simp only[if_true];rw[QF (iW (k+1+i) Z) (iW (k+1+i) Z) (bQ c k v) c l (k+1) _ (fun _ _=>rfl) (fun j hj=>gH (by omega))];exact this
      split at h
      . next hw=>obtain⟨v,L6,hv2⟩:=h;exact key v hv2 (.inl ⟨hw,L6⟩)
      . next hw=>exact key undef h (.inr ⟨by simpa using hw,rfl⟩)
  . rw[zZ0 (by simpa using hk)]at h;refine⟨fun _=>undef,?_,fun i o' _ iG _=>by omega⟩;rw[Tu (iW n Z) _ (o::l) k a (fun j hj=>YX n Z (by omega))];exact h
def td (ops:Array Oper)(n:Nat)(Z:List Nat):Bool:=
 decide (n<=ops.size) && Region.noSelect ops && Tp ops && Mh ops n && (decide (n=ops.size) || (decide (n<ops.size) && Region.sinkB .any ops n && Region.chainB .any ops n)) &&
 Region.seqB .any ops (ops.size - n) n (List.replicate n true++List.replicate (ops.size - n) false).toArray &&
 (Z.all fun i=>decide (i<n)) &&
 ((List.range n).all fun i=>Z.contains i || match ops[i]? with | none=>true | some o=>Z.all fun j=>match (ops[j]?).bind (·.dst)with | none=>true | some d=>!(o.looksAt ops).contains d)
def Cz (P:Program)(l:List Oper)(Z:List Nat)(J:(Nat->Bool)->(Nat->Value)->World->Prop)(a:Act)(i:Nat):Prop:=
 ∀o,l[i]? =some o->∀(L:Nat->Bool) (f:Nat->Value) (w:World),J L f w->L i=false->(∀j,Z.contains j=true->j∈jI o->L j=true)->
  if Region.wanted o (yielded l.toArray (bh (fun j=>Z.contains j && (jI o).contains j) f l 0 a).tmps)=true then
   bl P (fun v w'=>J (plus L i) (bQ f i v) w') ((execOp (bh (fun j=>Z.contains j && (jI o).contains j) f l 0 a).eval o).run P w)
  else J (plus L i) (bQ f i undef) w
def tj (p:Nat->Prop):List Nat->Prop
 | []=>True
 | i::l=>p i/\tj p l
theorem YY {p:Nat->Prop}:∀{l:List Nat},tj p l->∀i∈l,p i
 | _::l,h,i,hi=>by
  rcases zX0.1 hi with rfl | hi
  . exact h.1
  . exact YY h.2 i hi
theorem yz {l:List Oper}{Z:List Nat}{J:(Nat->Bool)->(Nat->Value)->World->Prop}{a:Act}{i:Nat}{o:Oper}(ho:l[i]? =some o)(g:(Nat->Value)->Act->Act)
    (hg:∀f a,bh (fun j=>Z.contains j && (jI o).contains j) f l 0 a=g f a) (hw:∀f,Region.wanted o (yielded l.toArray (g f a).tmps)=true)
    (h:∀(L:Nat->Bool) (f:Nat->Value) (w:World),J L f w->L i=false->(∀j,Z.contains j=true->j∈jI o->L j=true)->bl P (fun v w'=>J (plus L i) (bQ f i v) w') ((execOp (g f a).eval o).run P w)):Cz P l Z J a i:=by
 intro o' Tx L f w hi hL hV;have:o=o':=Option.some.inj (ho.symm.trans Tx);subst this;rw[hg,zZ1 (hw f)];exact h L f w hi hL hV
theorem QK {id:Nat}{Q:Exit->Act->World->Prop}{a0:Act}{w:World}{l:List Oper}(n:Nat)(Z:List Nat)(I:World->Prop)(T:World->World->Prop)(J:(Nat->Bool)->(Nat->Value)->World->Prop)(g:(Nat->Value)->Act->Act)
    (hm:P.follows .mixedOrders=true) (hB:td l.toArray n Z=true) (hg:∀f a,bh (fun j=>Z.contains j) f l 0 a=g f a)
    (h0:J (fun _=>false) (fun _=>undef) w.drew) (hI:∀L f w,J L f w->I w) (hT:∀w,T w w) (nB:∀L f w w',J L f w->T w w'->J L f w')
    (h:cX P l.toArray n Z I T (fun a=>tj (Cz P l Z J a) Z/\∀(f:Nat->Value) (w:World),J (fun j=>Z.contains j) f w->wpList P l.toArray Q (l.drop n) (g f a) w) l 0 a0):
    (Code.region id l.toArray true).wp P Q a0 w:=by
 unfold td at hB;simp only[zZ7,yZ0,wZ2]at hB;obtain⟨⟨⟨⟨⟨⟨⟨hn,lO⟩,hAp⟩,hW⟩,rk⟩,hseq⟩,hZ⟩,hQ⟩:=hB;have hA:=yw hAp;obtain⟨c,⟨hL,hE⟩,hS⟩:=Tw l 0 a0 h;simp only[zQ2]at hS;have Ty:∀i,Z.contains i=true->i<n:=by
  intro i hi;have h1:=zK0.1 hZ i (by simpa using hi);simpa using h1
 have hQn:∀i o,l[i]? =some o->i<n->Z.contains i=false->∀j oj,l[j]? =some oj->Z.contains j=true->∀d,oj.dst=some d->d ∉ o.looksAt l.toArray:=by
  intro i o ho iG Hq j oj hj o9 d hd fD;have h1:=zK0.1 hQ i (yK3.2 iG);have e:l.toArray[i]? =some o:=by simpa using ho
  rw[Hq,e]at h1;simp only[yZ4]at h1;have h2:=zK0.1 h1 j (by simpa using o9);have e2:l.toArray[j]? =some oj:=by simpa using hj
  rw[e2]at h2;simp[hd,fD]at h2
 -- what holds of all: the loose ones by J, the steady ones by their values
 refine y8x (J:=fun L f w=>(∀j,j<n->L j=true->Z.contains j=false->f j=c j)/\J (fun j=>Z.contains j && L j) (fun j=>if Z.contains j=true then f j else undef) w) n (by simpa using hn) hm lO hA hW
  (by rcases rk with h | ⟨⟨h1,h2⟩,h3⟩;exact .inl h;exact .inr ⟨h1,h2,h3⟩) hseq ⟨(fun j _ h=>(by cases h)),?_⟩ ?_ ?_
 . have e1:(fun j=>Z.contains j && false)=(fun _=>false):=funext fun j=>xZ7 _;have e2:(fun j=>if Z.contains j=true then undef else undef)=(fun _:Nat=>undef):=funext fun j=>ite_self _;rw[e1,e2];exact h0
 . intro i o iG Fx L f w hJ hLi pL;obtain⟨hR,KJ⟩:=hJ;have hi:=hI _ _ _ KJ;have hoi:l.toArray[i]? =some o:=(by simpa using Fx);have az:i<l.length:=(zQ9.1 Fx).1;obtain⟨Fz,hw2⟩:=Tq hW hoi;by_cases hz:Z.contains i=true
   . have Hr:=YY hL i (by simpa using hz) o Fx (fun j=>Z.contains j && L j) (fun j=>if Z.contains j=true then f j else undef) w KJ (by rw[hLi,xZ7]) (fun j o9 CC=>by rw[o9,pL j CC];rfl);have eP:plus (fun j=>Z.contains j && L j) i=(fun j=>Z.contains j && plus L i j):=by
      funext j;by_cases hj:j=i
      . subst hj;simp only[plus,if_true,hz,Bool.and_self]
      . simp only[plus,zZ0 hj]
     have eV:∀v,bQ (fun j=>if Z.contains j=true then f j else undef) i v=(fun j=>if Z.contains j=true then bQ f i v j else undef):=by
      intro v;funext j;by_cases hj:j=i
      . subst hj;rw[fY,fY,zZ1 hz]
      . rw[gH hj,gH hj]
     rw[eP]at Hr;simp only[eV]at Hr;have eU:=Tv (ops:=l.toArray) hA (iW n Z) (fun j=>Z.contains j && (jI o).contains j) (fun j=>if Z.contains j=true then f j else undef) c (fun j hj=>by simp only[iW,zZ7,yJ0]at hj;simp only[hj.2,Bool.false_and]) l 0 a0 (fun j=>by simp);have hex:=Ho hA o (Region.noSelect_spec lO i o · · hoi) (fun j=>iW n Z j || (Z.contains j && (jI o).contains j)) (fun j=>(jI o).contains j) (fun j=>if(Z.contains j && (jI o).contains j)=true then(if Z.contains j=true then f j else undef)else c j)
      (fun j hj=>by
       have Ml:=Fz j (by simpa using hj);cases o9:Z.contains j with
       | true=>simp only[iW,o9,hj,Bool.and_self,Bool.or_true]
       | false=>simp only[iW,o9,Bool.not_false,Bool.and_true,Bool.false_and,Bool.or_false,wZ2];omega)
      (fun j oj hj qd FA d hd fD=>by
       by_cases Ml:j=i
       . subst Ml;simp only[iW,hz,Bool.not_true,xZ7,yZ4,Bool.true_and]at qd;rw[FA]at qd;cases qd
       . have kR:j<n:=by
          cases hq:iW n Z j with
          | true=>simp only[iW,zZ7,wZ2]at hq;exact hq.1
          | false=>rw[hq,yZ4,zZ7]at qd;exact Ty j qd.1
         exact hw2 j oj kR hj (by simpa using FA) Ml d hd fD) l 0 a0 (fun j=>by simp)
     have eF:bh (fun j=>(jI o).contains j) (fun j=>if(Z.contains j && (jI o).contains j)=true then(if Z.contains j=true then f j else undef)else c j) l 0 a0=bh (fun j=>(jI o).contains j) f l 0 a0:=by
      refine QI _ _ _ _ l 0 a0 (fun _ _ _=>rfl) (fun j _ _ hj=>?_);have CC:j∈jI o:=(by simpa using hj);cases o9:Z.contains j with
      | true=>rw[zZ1 (by rw[hj];rfl),zZ1 rfl]
      | false=>
       rw[zZ0 (by simp)];exact(hR j (by have:=Fz j CC;omega) (pL j CC) o9).symm
     rw[eF]at hex;rw[eU,hex.1,hex.2]at Hr;have QH:∀v j,j<n->plus L i j=true->Z.contains j=false->bQ f i v j=c j:=by
      intro v j kR qd o9;have hne:j≠i:=(by intro e;subst e;rw[hz]at o9;cases o9);rw[gH hne];simp only[plus,zZ0 hne]at qd;exact hR j kR qd o9
     by_cases hwt:Region.wanted o (yielded l.toArray (bh (fun j=>(jI o).contains j) f l 0 a0).tmps)=true
     . rw[zZ1 hwt]at Hr ⊢;refine YW (fun v w' h=>⟨QH v,h⟩) _ Hr
     . rw[zZ0 hwt]at Hr ⊢;exact⟨QH undef,Hr⟩
   . have hz':Z.contains i=false:=(by simpa using hz);have hSi:=hS i o Fx iG hz';have h1:=Ho hA o (Region.noSelect_spec lO i o · · hoi) (fun j=>(jI o).contains j) (fun j=>(jI o).contains j && !Z.contains j) f (fun j hj=>(by simp only[zZ7]at hj;exact hj.1))
      (fun j oj hj qd FA d hd=>hQn i o Fx iG hz' j oj (by simpa using hj) (by rw[qd]at FA;simpa using FA) d hd) l 0 a0 (fun j=>by simp)
     have h2:=Ho hA o (Region.noSelect_spec lO i o · · hoi) (iW i Z) (fun j=>(jI o).contains j && !Z.contains j) c
      (fun j hj=>by
       simp only[zZ7]at hj;have:=Fz j (by simpa using hj.1);simp only[iW,hj.2,Bool.and_true,wZ2];exact this)
      (fun j oj hj qd FA d hd fD=>by
       simp only[iW,zZ7,wZ2]at qd;rw[qd.2,Bool.and_true]at FA;exact hw2 j oj (by omega) hj (by simpa using FA) (by omega) d hd fD) l 0 a0 (fun j=>by simp)
     have e:bh (fun j=>(jI o).contains j && !Z.contains j) f l 0 a0=bh (fun j=>(jI o).contains j && !Z.contains j) c l 0 a0:=by
      refine QI _ _ _ _ l 0 a0 (fun _ _ _=>rfl) (fun j _ _ hj=>?_);simp only[zZ7,yJ0]at hj;have CC:j∈jI o:=(by simpa using hj.1);exact hR j (by have:=Fz j CC;omega) (pL j CC) hj.2
     rw[h1.1,h1.2,e,<-h2.1,<-h2.2];have key:∀w' v,T w w'->v=c i->(∀j,j<n->plus L i j=true->Z.contains j=false->bQ f i v j=c j)/\J (fun j=>Z.contains j && plus L i j) (fun j=>if Z.contains j=true then bQ f i v j else undef) w':=by
      intro w' v ht hv;refine⟨fun j kR qd o9=>?_,?_⟩
      . by_cases hj:j=i
        . subst hj;rw[fY];exact hv
        . rw[gH hj];simp only[plus,zZ0 hj]at qd;exact hR j kR qd o9
      . have e1:(fun j=>Z.contains j && plus L i j)=(fun j=>Z.contains j && L j):=by
         funext j;by_cases hj:j=i
         . subst hj;rw[hz'];rfl
         . simp only[plus,zZ0 hj]
        have e2:(fun j=>if Z.contains j=true then bQ f i v j else undef)=(fun j=>if Z.contains j=true then f j else undef):=by
         funext j;by_cases hj:j=i
         . subst hj;rw[hz'];rfl
         . rw[gH hj]
        rw[e1,e2];exact nB _ _ _ _ KJ ht
     rcases hSi with⟨hs1,hs2⟩ | ⟨hs1,hs2⟩
     . rw[zZ1 hs1];exact YW (fun v w' h=>key w' v h.1 h.2) _ (hs2 w hi)
     . rw[zZ0 (by rw[hs1];simp)];exact key w undef (hT w) hs2.symm
 . intro f w hJ;obtain⟨hR,KJ⟩:=hJ;have eU:=Tv (ops:=l.toArray) hA (iW n Z) (fun j=>Z.contains j) (fun j=>if Z.contains j=true then f j else undef) c (fun j hj=>by simp only[iW,zZ7,yJ0]at hj;exact hj.2) l 0 a0 (fun j=>by simp);have eD:bh (fun j=>decide (j<n)) f l 0 a0=bh (fun j=>Z.contains j) (fun j=>if Z.contains j=true then f j else undef) l 0 (bh (iW n Z) c l 0 a0):=by
    rw[eU];refine QI _ _ _ _ l 0 a0 (fun j _ _=>?_) (fun j _ _ hj=>?_)
    . cases o9:Z.contains j with
      | true=>have:=Ty j o9;simp[this]
      | false=>simp only[iW,o9,Bool.not_false,Bool.and_true,Bool.or_false]
    . have kR:j<n:=(by simpa using hj);cases o9:Z.contains j with
      | true=>simp
      | false=>simpa using hR j kR (by simpa using kR) o9
   have e1:(fun j=>Z.contains j && decide (j<n))=(fun j=>Z.contains j):=by
    funext j;cases o9:Z.contains j with
    | true=>have:=Ty j o9;simp[this]
    | false=>rfl
   rw[e1]at KJ;rw[eD,hg];exact hE _ w KJ
section
variable {n k:Nat}{Z:List Nat}{I:World->Prop}{T:World->World->Prop}{K:Act->Prop}{o:Oper}{l:List Oper}{a:Act}
theorem vM (h:K a):cX P ops n Z I T K [] k a:=h
theorem mi (hk:decide (k<n)=false)(h:K a):cX P ops n Z I T K (o::l) k a:=by
 unfold cX;rw[zZ0 (by rw[hk];simp)];exact h
theorem QL (hk:decide (k<n)=true)(hz:Z.contains k=true)(h:cX P ops n Z I T K l (k+1) a):cX P ops n Z I T K (o::l) k a:=by
 unfold cX;rw[zZ1 hk,zZ1 hz];exact h
theorem YZ (hk:decide (k<n)=true)(hz:Z.contains k=false)(hw:Region.wanted o (yielded ops a.tmps)=false)(h:cX P ops n Z I T K l (k+1) (a.put o.dst undef)):cX P ops n Z I T K (o::l) k a:=by
 unfold cX;rw[zZ1 hk,zZ0 (by rw[hz];simp),zZ0 (by rw[hw];simp)];exact h
def uD:Op->Bool
 | .call _=>true
 | _=>false
theorem Tz (pM:uD o.op=true)(hk:decide (k<n)=true)(hz:Z.contains k=false)(hw:Region.wanted o (yielded ops a.tmps)=true){fn:FuncId}{args:Array Value}{v:Value}(hx:∀w,(execOp a.eval o).run P w=.ok (.enter fn args) w)
    (hc:∀w,I w->Calls P fn args w fun e w'=>e=.returned v/\T w w') (h:cX P ops n Z I T K l (k+1) (a.put o.dst v)):cX P ops n Z I T K (o::l) k a:=by
 unfold cX;rw[zZ1 hk,zZ0 (by rw[hz];simp),zZ1 hw];refine⟨v,fun w hi=>?_,h⟩;rw[hx];exact(hc w hi).mono fun e w' ⟨h1,h2⟩=>⟨v,h1,h2,rfl⟩
def KM:Op->Bool
 | .move _ | .assign _ | .pick .. | .build .. | .load .. | .binOp .. | .unOp .. | .convert .. | .slice .. | .fieldAddr .. | .field .. | .indexAddr .. | .index .. | .lookup .. | .extract .. | .nilCheck _ | .makeInterface .. | .makeFunc .. =>true
 | _=>false
theorem CD {s:Sem Value}{w w':World}{f:FuncId}{args:Array Value}(h:(s >>=fun x=>Pure.pure (Next.value x):Sem Next).run P w=.ok (.enter f args) w'):False:=by
 rw[Sem.run_bind]at h;generalize s.run P w=r at h;cases r<;> simp at h
theorem z1e {ρ:Operand->Value}{w w':World}{f:FuncId}{args:Array Value}(hp:KM o.op=true)(h:(execOp ρ o).run P w=.ok (.enter f args) w'):False:=by
 obtain⟨dst,op,type,pos,after,guard⟩:=o;cases op<;> first | (simp only[KM]at hp;cases hp;done) | skip
 case nilCheck x=>
  simp only[execOp]at h;split at h
  . simp[runtimePanic]at h
  . simp[runtimePanic]at h
  . simp[runtimePanic]at h
  . split at h
    . simp[runtimePanic]at h
    . simp only[Sem.run_bind]at h;generalize Sem.run P program w=r at h;cases r with
      | halt x w1=>simp[Result.andThen]at h
      | ok p' w1=>
       simp only[Result.andThen]at h;generalize Sem.run P (nilAhead _ _ _ _) w1=r2 at h;cases r2 with
       | halt x w1=>simp at h
       | ok b w2=>
        simp only at h;split at h
        . simp[unsupported]at h
        . simp at h
    . simp at h
  . simp at h
 case pick c x y=>
  simp only[execOp]at h;rw[Sem.run_bind]at h;generalize (asBool (ρ c)).run P w=r at h;cases r<;> simp at h
 all_goals (simp only[execOp]at h;first | exact CD h | (simp at h))
structure Wd (I:World->Prop) where
 w:World
 ok:I w
theorem TA (hk:decide (k<n)=true)(hz:Z.contains k=false)(hp:KM o.op=true)(hT:∀w,T w w)(hw:Region.wanted o (yielded ops a.tmps)=true)
    (h:∀K':Act->Prop,(∀a,cX P ops n Z I T K l (k+1) a->K' a)->o.quiet P a (fun w=>∃p:Wd I,w=p.w) K'):cX P ops n Z I T K (o::l) k a:=by
 unfold cX;rw[zZ1 hk,zZ0 (by rw[hz];simp),zZ1 hw];obtain⟨v,h1,h2⟩:=h _ (fun _ h=>h);refine⟨v,fun w hi=>?_,h2⟩;have h3:=h1 w ⟨⟨w,hi⟩,rfl⟩;unfold Oper.quietAt at h3;generalize hr:(execOp a.eval o).run P w=r at h3;cases r with
 | ok x w'=>
  cases x<;> simp only[Oper.quietUpon]at h3
  case value u=>obtain⟨rfl,rfl⟩:=h3;exact⟨hT _,rfl⟩
  case skip=>obtain⟨rfl,rfl⟩:=h3;exact⟨hT _,rfl⟩
  case enter f args=>exact(z1e hp hr).elim
 | halt x w'=>simp only[Oper.quietUpon]at h3
theorem iX (h:cX P ops n Z I T K l (k+1) a)(hk:decide (k<n)=true:=by rfl) (hz:Z.contains k=true:=by rfl):cX P ops n Z I T K (o::l) k a:=QL hk hz h
theorem iY (h:cX P ops n Z I T K l (k+1) (a.put o.dst undef))(hk:decide (k<n)=true:=by rfl) (hz:Z.contains k=false:=by rfl) (hw:Region.wanted o (yielded ops a.tmps)=false:=by rfl):cX P ops n Z I T K (o::l) k a:=YZ hk hz hw h
theorem sx {fn:FuncId}{args:Array Value}{v:Value}(hx:∀w,(execOp a.eval o).run P w=.ok (.enter fn args) w)(hc:∀w,I w->Calls P fn args w fun e w'=>e=.returned v/\T w w')(h:cX P ops n Z I T K l (k+1) (a.put o.dst v))(pM:uD o.op=true:=by rfl) (hk:decide (k<n)=true:=by rfl) (hz:Z.contains k=false:=by rfl) (hw:Region.wanted o (yielded ops a.tmps)=true:=by rfl):cX P ops n Z I T K (o::l) k a:=Tz pM hk hz hw hx hc h
theorem iZ (h:∀K':Act->Prop,(∀a,cX P ops n Z I T K l (k+1) a->K' a)->o.quiet P a (fun w=>∃p:Wd I,w=p.w) K')(hk:decide (k<n)=true:=by rfl) (hz:Z.contains k=false:=by rfl) (hp:KM o.op=true:=by rfl) (hT:∀w,T w w:=by first | exact ae.rf | exact fun _=>rfl) (hw:Region.wanted o (yielded ops a.tmps)=true:=by rfl):cX P ops n Z I T K (o::l) k a:=TA hk hz hp hT hw h
theorem bL {l:List Oper}{Z:List Nat}{J:(Nat->Bool)->(Nat->Value)->World->Prop}{a:Act}{i:Nat}{o:Oper}(ho:l[i]? =some o)(g:(Nat->Value)->Act->Act)
    (h:∀(L:Nat->Bool) (f:Nat->Value) (w:World),J L f w->L i=false->(∀j,Z.contains j=true->j∈jI o->L j=true)->bl P (fun v w'=>J (plus L i) (bQ f i v) w') ((execOp (g f a).eval o).run P w))
    (hg:∀f a,bh (fun j=>Z.contains j && (jI o).contains j) f l 0 a=g f a:=by exact fun _ _=>rfl) (hw:∀f,Region.wanted o (yielded l.toArray (g f a).tmps)=true:=by exact fun _=>rfl):Cz P l Z J a i:=yz ho g hg hw h
theorem jA {id:Nat}{Q:Exit->Act->World->Prop}{a0:Act}{w:World}{l:List Oper}(n:Nat)(Z:List Nat)(I:World->Prop)(T:World->World->Prop)(J:(Nat->Bool)->(Nat->Value)->World->Prop)(g:(Nat->Value)->Act->Act)
    (h0:J (fun _=>false) (fun _=>undef) w.drew) (hI:∀L f w,J L f w->I w) (hT:∀w,T w w) (nB:∀L f w w',J L f w->T w w'->J L f w')
    (h:cX P l.toArray n Z I T (fun a=>tj (Cz P l Z J a) Z/\∀(f:Nat->Value) (w:World),J (fun j=>Z.contains j) f w->wpList P l.toArray Q (l.drop n) (g f a) w) l 0 a0)
    (hm:P.follows .mixedOrders=true:=by kernel_rfl) (hB:td l.toArray n Z=true:=by kernel_rfl) (hg:∀f a,bh (fun j=>Z.contains j) f l 0 a=g f a:=by exact fun _ _=>rfl):
    (Code.region id l.toArray true).wp P Q a0 w:=QK n Z I T J g hm hB hg h0 hI hT nB h
end
end
end
theorem bj {w:World}{a:Addr}{v:Value}(h:w.cell? a=some v)(p:Wd (ae w)):p.w.cell? a=some v:=by
 rw[p.ok.below.cell (World.block_lt_of_cell? w a h)];exact h
instance TB (w:World):Nonempty (Wd (ae w)):=⟨⟨w,ae.rf w⟩⟩
instance TC (S:Nat->Prop) (w:World):Nonempty (Wd (ar S w)):=⟨⟨w,ar.refl S w⟩⟩
theorem bu {S:Nat->Prop}{w:World}{b o:Nat}{v:Value}(h:w.cell? ⟨b,o,none⟩=some v)(hS:¬S b)(p:Wd (ar S w)):p.w.cell? ⟨b,o,none⟩=some v:=by
 rw[p.ok.cell (World.block_lt_of_cell? w _ h) hS o];exact h
def BP (N:Nat)(w:World)(x a b:Value):Prop:=∃m,x=.pointer (some ⟨m,0,none⟩)/\N<=m/\w.cell? ⟨m,0,none⟩=some a/\w.cell? ⟨m,1,none⟩=some b/\w.frozen? ⟨m,0,none⟩=false/\w.frozen? ⟨m,1,none⟩=false
theorem BP.ah {N:Nat}{w w':World}{x a b:Value}(h:BP N w x a b)(g:ae w w'):BP N w' x a b:=by
 obtain⟨m,h1,h2,h3,h4,h5,h6⟩:=h;have hm:m<w.heap.size:=World.block_lt_of_cell? w _ h3;exact⟨m,h1,h2,(g.cells.1 _ _ hm).trans h3,(g.cells.1 _ _ hm).trans h4,(g.cells.2 _ _ hm).trans h5,(g.cells.2 _ _ hm).trans h6⟩
theorem BP.eC {N:Nat}{u:World}(h:N<=u.heap.size)(a b:Value)(t:TypeId):BP N (u.alloc (Obj.cells #[a,b] t)) (.pointer (some ⟨u.heap.size,0,none⟩)) a b:=
 ⟨_,rfl,h,by simp[go_sem],by simp[go_sem],by simp[go_sem],by simp[go_sem]⟩
theorem Y3 {w u:World}{m:Nat}{x y:Value}(g:ae w u)(hN:w.heap.size<=m)(c0:u.cell? ⟨m,0,none⟩=some x)(c1:u.cell? ⟨m,1,none⟩=some y)(f0:u.frozen? ⟨m,0,none⟩=false)(f1:u.frozen? ⟨m,1,none⟩=false)(a b:Value):
    ae w ((u.setCell ⟨m,0,none⟩ a).setCell ⟨m,1,none⟩ b)/\BP w.heap.size ((u.setCell ⟨m,0,none⟩ a).setCell ⟨m,1,none⟩ b) (.pointer (some ⟨m,0,none⟩)) a b:=by
 refine⟨(g.setCell (p:=⟨m,0,none⟩) hN a).setCell (p:=⟨m,1,none⟩) hN b,m,rfl,hN,?_,?_,?_,?_⟩<;> simp[go_sem,c0,c1,f0,f1]
structure FV where
 a:Nat
 s:Nat
 vals:List Value
def BQ (N:Nat)(u:World)(x:Value)(vs:List Value):Prop:=∃m,x=.pointer (some ⟨m,0,none⟩)/\N<=m/\m<u.heap.size/\∀o v,vs[o]? =some v->u.cell? ⟨m,o,none⟩=some v/\u.frozen? ⟨m,o,none⟩=false
theorem BQ.ah {N:Nat}{w w':World}{x:Value}{vs:List Value}(h:BQ N w x vs)(g:ae w w'):BQ N w' x vs:=by
 obtain⟨m,h1,h2,hm,h3⟩:=h;exact⟨m,h1,h2,xA9 hm g.size,fun o v hv=>⟨(g.cells.1 _ _ hm).trans (h3 o v hv).1,(g.cells.2 _ _ hm).trans (h3 o v hv).2⟩⟩
theorem BQ.eC {N:Nat}{u:World}(h:N<=u.heap.size)(vs:List Value)(t:TypeId):BQ N (u.alloc (Obj.cells vs.toArray t)) (.pointer (some ⟨u.heap.size,0,none⟩)) vs:=by
 refine⟨_,rfl,h,by simp,fun o v hv=>?_⟩;have hb:(u.alloc (Obj.cells vs.toArray t)).heap[u.heap.size]? =some (Obj.cells vs.toArray t):=by
  show(u.heap.push _)[u.heap.size]? =_;simp
 have ho:=(zQ9.1 hv).1;constructor
 . simp only[World.cell?,hb];simpa using hv
 . simp only[World.frozen?,hb];simp
theorem BQ.two {N:Nat}{u:World}{x a b:Value}(h:BQ N u x [a,b]):∃m,x=.pointer (some ⟨m,0,none⟩)/\N<=m/\m<u.heap.size/\u.cell? ⟨m,0,none⟩=some a/\u.cell? ⟨m,1,none⟩=some b/\u.frozen? ⟨m,0,none⟩=false/\u.frozen? ⟨m,1,none⟩=false:=by
 obtain⟨m,h1,h2,hm,h3⟩:=h;exact⟨m,h1,h2,hm,(h3 0 a rfl).1,(h3 1 b rfl).1,(h3 0 a rfl).2,(h3 1 b rfl).2⟩
def KN (u:World)(m:Nat):Nat->List Value->World
 | _,[]=>u
 | o,v::vs=>KN (u.setCell ⟨m,o,none⟩ v) m (o+1) vs
theorem Y4 (m:Nat):∀(vs:List Value) (u:World) (o:Nat),(∀j,j<vs.length->(u.cell? ⟨m,o+j,none⟩).isSome=true)->
    (∀j v,vs[j]? =some v->(KN u m o vs).cell? ⟨m,o+j,none⟩=some v)/\(∀b j,b≠m\/j<o->(KN u m o vs).cell? ⟨b,j,none⟩=u.cell? ⟨b,j,none⟩)/\(∀a,(KN u m o vs).frozen? a=u.frozen? a)/\ar (fun j=>j=m) u (KN u m o vs)
 | [],u,o,_=>⟨fun j v h=>by simp at h,fun _ _ _=>rfl,fun _=>rfl,ar.refl _ _⟩
 | v::vs,u,o,h=>by
  have h0:(u.cell? ⟨m,o,none⟩).isSome=true:=h 0 (by simp);obtain⟨s1,s2,s3,s4⟩:=Y4 m vs (u.setCell ⟨m,o,none⟩ v) (o+1) (fun j hj=>by
   rw[World.cell?_setCell_other _ _ _ _ (by intro e;injection e with _ e2;omega)];have:=h (j+1) (by simp;omega);rwa[show o+(j+1)=o+1+j by omega]at this)
  refine⟨fun j x hj=>?_,fun b j hb=>?_,fun a=>?_,?_⟩
  . match j,hj with
    | 0,hj=>
     cases (show v=x by simpa using hj);rw[zX9];refine(s2 m o (.inr (by omega))).trans ?_;exact World.cell?_setCell_same' _ _ _ h0
    | j+1,hj=>
     rw[show o+(j+1)=o+1+j by omega];exact s1 j x (by simpa using hj)
  . refine(s2 b j (by rcases hb with hb | hb;exact .inl hb;exact .inr (by omega))).trans ?_;exact World.cell?_setCell_other _ _ _ _ (by intro e;injection e with e1 e2;rcases hb with hb | hb;exact hb e1.symm;omega)
  . refine(s3 a).trans ?_;rw[World.frozen?_setCell]
  . exact(ar.setCell u ⟨m,o,none⟩ v).then s4
structure JV (vars:List FV)(w:World)(L:Nat->Bool)(f:Nat->Value)(u:World):Prop where
 ah:ae w u
 first:∀V∈vars,L V.s=true->L V.a=true
 made:∀V∈vars,L V.a=true->∃vs,vs.length=V.vals.length/\BQ w.heap.size u (f V.a) vs/\(L V.s=true->vs=V.vals)
 cC:∀V∈vars,∀V'∈vars,V.a≠V'.a->L V.a=true->L V'.a=true->f V.a≠f V'.a
def uF (vars:List FV):Bool:=decide ((vars.map FV.a).Nodup) && decide ((vars.map FV.s).Nodup) && vars.all fun V=>vars.all fun V'=>V.a !=V'.s
theorem TD {α:Type}(g:α->Nat):∀(l:List α),(l.map g).Nodup->∀x∈l,∀y∈l,g x=g y->x=y
 | [],_,_,hx,_,_,_=>by cases hx
 | z::l,h,x,hx,y,hy,e=>by
  rw[zJ5,List.nodup_cons]at h;rcases zX0.1 hx with hx1 | hx1
  . rcases zX0.1 hy with mE | mE
    . rw[hx1,mE]
    . exact absurd (by rw[<-hx1,e];exact List.mem_map_of_mem mE) h.1
  . rcases zX0.1 hy with mE | mE
    . exact absurd (by rw[<-mE,<-e];exact List.mem_map_of_mem hx1) h.1
    . exact TD g l h.2 x hx1 y mE e
theorem Hs {vars:List FV}(h:uF vars=true):∀V∈vars,∀V'∈vars,V.a≠V'.s/\(V.s=V'.s->V=V')/\(V.a=V'.a->V=V'):=by
 intro V hV V' kS;unfold uF at h;rw[zZ7,zZ7]at h;obtain⟨⟨ha,hs⟩,hn⟩:=h;refine⟨?_,TD _ vars (wQ3 hs) V hV V' kS,TD _ vars (wQ3 ha) V hV V' kS⟩;have h1:=zK0.1 (zK0.1 hn V hV) V' kS;simpa using h1
theorem JV.aX (vars:List FV)(w:World)(f:Nat->Value):JV vars w (fun _=>false) f w.drew:=
 ⟨(ae.rf w).drew,fun _ _ h=>(by cases h),fun _ _ h=>(by cases h),fun _ _ _ _ _ h=>(by cases h)⟩
theorem JV.br {vars:List FV}{w u u':World}{L:Nat->Bool}{f:Nat->Value}(h:JV vars w L f u)(g:ae u u'):JV vars w L f u':=
 ⟨h.ah.trans g,h.first,fun V hV hl=>by obtain⟨vs,h1,h2,h3⟩:=h.made V hV hl;exact⟨vs,h1,h2.ah g,h3⟩,h.cC⟩
theorem JV.alloc {vars:List FV}(hB:uF vars=true){w u:World}{L:Nat->Bool}{f:Nat->Value}(h:JV vars w L f u){V:FV}(hV:V∈vars)(hL:L V.a=false)(zs:List Value)(hz:zs.length=V.vals.length)(t:TypeId):
    JV vars w (plus L V.a) (bQ f V.a (.pointer (some ⟨u.heap.size,0,none⟩))) (u.alloc (Obj.cells zs.toArray t)):=by
 have hG:ae u (u.alloc (Obj.cells zs.toArray t)):=(ae.rf u).alloc _;have hs:∀V'∈vars,plus L V.a V'.s=L V'.s:=fun V' kS=>zZ0 (Ne.symm ((Hs hB V hV V' kS).1));refine⟨h.ah.trans hG,fun V' kS hl=>?_,fun V' kS hl=>?_,fun V1 h1 V2 h2 hne fC hl2=>?_⟩
 . rw[hs V' kS]at hl;have:=h.first V' kS hl;simp[plus,this]
 . rw[hs V' kS];by_cases he:V'.a=V.a
   . refine⟨zs,?_,?_,fun hl2=>?_⟩
     . rw[(Hs hB V' kS V hV).2.2 he];exact hz
     . rw[he,fY];exact BQ.eC h.ah.size zs t
     . have:=h.first V' kS hl2;rw[he,hL]at this;cases this
   . simp only[plus,zZ0 he]at hl;obtain⟨vs,h1,h2,h3⟩:=h.made V' kS hl;exact⟨vs,h1,by rw[gH he];exact h2.ah hG,h3⟩
 . have old:∀V'∈vars,V'.a≠V.a->L V'.a=true->f V'.a≠.pointer (some ⟨u.heap.size,0,none⟩):=by
    intro V' kS _ hl he;obtain⟨vs,_,⟨m,hm,_,az,_⟩,_⟩:=h.made V' kS hl;rw[hm]at he;injection he with e1;injection e1 with e2;injection e2 with e3;omega
   by_cases e1:V1.a=V.a
   . have e2:V2.a≠V.a:=fun e=>hne (e1.trans e.symm);rw[e1,fY,gH e2];simp only[plus,zZ0 e2]at hl2;exact(old V2 h2 e2 hl2).symm
   . simp only[plus,zZ0 e1]at fC;rw[gH e1];by_cases e2:V2.a=V.a
     . rw[e2,fY];exact old V1 h1 e1 fC
     . simp only[plus,zZ0 e2]at hl2;rw[gH e2];exact h.cC V1 h1 V2 h2 hne fC hl2
theorem JV.store {vars:List FV}(hB:uF vars=true){w u:World}{L:Nat->Bool}{f:Nat->Value}(h:JV vars w L f u){V:FV}(hV:V∈vars)(hL:L V.a=true){m:Nat}(hm:f V.a=.pointer (some ⟨m,0,none⟩)):
    JV vars w (plus L V.s) (bQ f V.s undef) (KN u m 0 V.vals):=by
 obtain⟨TE,hl0,⟨m',yA,hN,az,hc⟩,_⟩:=h.made V hV hL;rw[hm]at yA;cases yA;obtain⟨s1,s2,s3,s4⟩:=Y4 m V.vals u 0 (fun j hj=>by
  rw[zQ2];have:=(hc j TE[j] (zQ5 (by omega))).1;rw[this];rfl)
 have ha:∀V'∈vars,plus L V.s V'.a=L V'.a:=fun V' kS=>zZ0 (Hs hB V' kS V hV).1;have hf:∀V'∈vars,bQ f V.s undef V'.a=f V'.a:=fun V' kS=>gH (Hs hB V' kS V hV).1;refine⟨(((h.ah.only fun j=>j=m).then s4).ah fun j hj=>(by subst hj;exact hN)),fun V' kS hl=>?_,fun V' kS hl=>?_,fun V1 h1 V2 h2 hne fC hl2=>?_⟩
 . rw[ha V' kS];by_cases e:V'.s=V.s
   . rw[(Hs hB V' kS V hV).2.1 e];exact hL
   . simp only[plus,zZ0 e]at hl;exact h.first V' kS hl
 . rw[ha V' kS]at hl;rw[hf V' kS];by_cases e:V'.a=V.a
   . have hVV:=(Hs hB V' kS V hV).2.2 e;subst hVV;refine⟨V'.vals,rfl,⟨m,hm,hN,xA9 az s4.size,fun o v hv=>⟨?_,?_⟩⟩,fun _=>rfl⟩
     . have:=s1 o v hv;rwa[zQ2]at this
     . have Y5:=(zQ9.1 hv).1;exact(s3 _).trans (hc o TE[o] (zQ5 (by omega))).2
   . obtain⟨vs,h1,⟨m2,ky,hN2,kI,hc2⟩,h3⟩:=h.made V' kS hl;have tk:m2≠m:=by
      intro e2;subst e2;exact h.cC V' kS V hV e hl hL (ky.trans hm.symm)
     refine⟨vs,h1,⟨m2,ky,hN2,xA9 kI s4.size,fun o v hv=>⟨(s2 m2 o (.inl tk)).trans (hc2 o v hv).1,(s3 _).trans (hc2 o v hv).2⟩⟩,fun hl2=>?_⟩;have e3:V'.s≠V.s:=fun e4=>e (wZ7 FV.a ((Hs hB V' kS V hV).2.1 e4));simp only[plus,zZ0 e3]at hl2;exact h3 hl2
 . rw[ha V1 h1]at fC;rw[ha V2 h2]at hl2;rw[hf V1 h1,hf V2 h2];exact h.cC V1 h1 V2 h2 hne fC hl2
theorem CF {vs:List Value}(h:vs.length=2):∃a b,vs=[a,b]:=by
 match vs,h with
 | [a,b],_=>exact⟨a,b,rfl⟩
theorem JV.two {vars:List FV}{w u:World}{L:Nat->Bool}{f:Nat->Value}(h:JV vars w L f u){V:FV}(hV:V∈vars)(hL:L V.a=true)(h2:V.vals.length=2):
    ∃m a b,f V.a=.pointer (some ⟨m,0,none⟩)/\u.cell? ⟨m,0,none⟩=some a/\u.cell? ⟨m,1,none⟩=some b/\u.frozen? ⟨m,0,none⟩=false/\u.frozen? ⟨m,1,none⟩=false:=by
 obtain⟨vs,hl,hF,_⟩:=h.made V hV hL;obtain⟨a,b,rfl⟩:=CF (hl.trans h2);obtain⟨m,h1,_,_,h4,h5,h6,h7⟩:=hF.two;exact⟨m,a,b,h1,h4,h5,h6,h7⟩
theorem JV.full {vars:List FV}{w u:World}{L:Nat->Bool}{f:Nat->Value}(h:JV vars w L f u){V:FV}(hV:V∈vars)(hL:L V.s=true):BQ w.heap.size u (f V.a) V.vals:=by
 obtain⟨vs,hl,hF,h3⟩:=h.made V hV (h.first V hV hL);rw[<-h3 hL];exact hF
section
structure fL (e:TypeId)(i j:Nat)(y:World)(news:List Value)(D:World->Value->World->Prop)(L:Nat->Bool)(f:Nat->Value)(x:World):Prop where
 ord:L j=true->L i=true
 ah:L j=false->ae y x
 made:L i=true->L j=false->∃vb,f i=.slice (some ⟨vb,0,none⟩) 1 1/\y.heap.size<=vb/\x.heap[vb]? =some (.cells news.toArray e (0,0))
 done:L j=true->∃x0,ae y x0/\D x0 (f j) x
section
variable {e:TypeId}{i j:Nat}{y x:World}{news:List Value}{D:World->Value->World->Prop}{L:Nat->Bool}{f:Nat->Value}
theorem fL.aX (y:World):fL e i j y news D (fun _=>false) f y.drew:=
 ⟨fun h=>(by cases h),fun _=>(ae.rf y).drew,fun h=>(by cases h),fun h=>(by cases h)⟩
theorem fL.make (lQ:j≠i)(h:fL e i j y news D L f x)(hL:L i=false):fL e i j y news D (plus L i) (bQ f i (.slice (some ⟨x.heap.size,0,none⟩) 1 1)) (x.alloc (.cells news.toArray e)):=by
 have hj:L j=false:=by
  cases hl:L j with
  | false=>rfl
  | true=>rw[h.ord hl]at hL;cases hL
 have hp:plus L i j=false:=by simp only[plus,zZ0 lQ];exact hj
 refine⟨fun hl=>?_,fun _=>(h.ah hj).alloc _,fun _ _=>⟨x.heap.size,fY _ _ _,(h.ah hj).size,?_⟩,fun hl=>?_⟩
 . rw[hp]at hl;cases hl
 . show(x.heap.push _)[x.heap.size]? =_;simp
 . rw[hp]at hl;cases hl
theorem fL.call (lQ:j≠i)(h:fL e i j y news D L f x)(hL:L j=false)(hi:L i=true){r:Value}{w':World}(hD:D x r w'):fL e i j y news D (plus L j) (bQ f j r) w':=by
 have hp:plus L j j=true:=by simp[plus]
 refine⟨fun _=>?_,fun hl=>?_,fun _ hl=>?_,fun _=>⟨x,h.ah hL,by rw[fY];exact hD⟩⟩
 . simp only[plus,zZ0 (Ne.symm lQ)];exact hi
 . rw[hp]at hl;cases hl
 . rw[hp]at hl;cases hl
theorem fL.only {S:Nat->Prop}(hD:∀x0 r x',D x0 r x'->ar S x0 x')(h:fL e i j y news D L f x):ar S y x:=by
 cases hL:L j with
 | false=>exact(h.ah hL).only S
 | true=>
  obtain⟨x0,g0,hd⟩:=h.done hL;exact(g0.only S).then (hD _ _ _ hd)
end
def lR (e:TypeId)(k:Nat)(v:Value)(n:Nat)(xs news:List Value)(x0:World)(r:Value)(x:World):Prop:=
 ∃g cap,r=.slice (some ⟨g,0,none⟩) (n+1) cap/\x.ownsRow 0 e k (.slice (some ⟨g,0,none⟩) (n+1) cap) (n+1) (xs++news)/\x0.grownBy x v.ownBlock/\(v.ownBlock=some g\/g=x0.heap.size)
theorem lR.only {e:TypeId}{k:Nat}{v:Value}{n:Nat}{xs news:List Value}{x0:World}{r:Value}{x:World}(h:lR e k v n xs news x0 r x):ar (fun j=>some j=v.ownBlock) x0 x:=by
 obtain⟨_,_,_,_,hg,_⟩:=h;exact ar.ay hg
section
variable {P:Program}
theorem CG {o:Oper}{a:Act}{w:World}{K:Value->World->Prop}(s x:Operand)(t:TypeId)
    (ho:o.op=.call {callee:=.builtin .append,args:=#[s,x],argTypes:=#[t,t]})
    (e:TypeId) (i:TypeInfo) (z:Value) (size bytes:Nat) (ht:P.underlying t=some (.slice e)) (hi:P.info? e=some i) (hz:i.zero=some z)
    (hsize:i.size=size) (hby:i.bytes=bytes) (hzs:z.cells.size=size) (hsz:0<size)
    (v:Value) (n:Nat) (xs:List Value) (hs:a.eval s=v) (aH:w.ownsRow 0 e size v n xs)
    (vb c:Nat) (news:List Value) (hx:a.eval x=.slice (some ⟨vb,0,none⟩) 1 c) (hl:news.length=size) (hnews:w.heap[vb]? =some (.cells news.toArray e (0,0))) (h1:∀u∈news,u.oneCell'=true)
    (h63:n+1<=maxLen) (hbytes:(n+1)*bytes<=140737488355328)
    (h:∀r w',lR e size v n xs news w r w'->K r w'):bl P K ((execOp a.eval o).run P w):=by
 obtain⟨g,cap,w',hr,h2,h3,h4,h5⟩:=run_append_lies (P:=P) (w:=w) t o.type 0 e i z size bytes ht hi hz hsize hby hzs hsz v n xs aH ⟨vb,0,none⟩ 1 c news (by rw[hl,Nat.one_mul]) (World.news_of_block (cs:=news.toArray) (by simpa using hnews)) h1 (by omega) h63 hbytes (zZ5 _) w.heap.size rfl;unfold execOp;simp only[ho,resolve,invoke,builtin,Sem.run_bind,Sem.run_pure,Result.andThen_ok,yK8,zJ5,yQ5,hs,hx,hr];exact h _ _ ⟨g,cap,rfl,h2,h3,h4⟩
end
end
section
structure ik (P:Program)(ops:Array Oper)(n:Nat)(Z:List Nat)(I:World->Prop)(T:World->World->Prop)(K:Act->Prop)(l:List Oper)(k:Nat)(a:Act):Prop where
 out:cX P ops n Z I T K l k a
section
variable {P:Program}{ops:Array Oper}{n k:Nat}{Z:List Nat}{I:World->Prop}{T:World->World->Prop}{K:Act->Prop}{o:Oper}{l:List Oper}{a:Act}
theorem rv (h:K a):ik P ops n Z I T K [] k a:=⟨vM h⟩
theorem jB (hk:decide (k<n)=false)(h:K a):ik P ops n Z I T K (o::l) k a:=⟨mi hk h⟩
theorem z4E (hk:decide (k<n)=true)(hz:Z.contains k=true)(h:ik P ops n Z I T K l (k+1) a):ik P ops n Z I T K (o::l) k a:=⟨QL hk hz h.out⟩
theorem z6t (hk:decide (k<n)=true)(hz:Z.contains k=false)(hw:Region.wanted o (yielded ops a.tmps)=false)(h:ik P ops n Z I T K l (k+1) (a.put o.dst undef)):ik P ops n Z I T K (o::l) k a:=⟨YZ hk hz hw h.out⟩
theorem z5Z (pM:uD o.op=true)(hk:decide (k<n)=true)(hz:Z.contains k=false)(hw:Region.wanted o (yielded ops a.tmps)=true){fn:FuncId}{args:Array Value}{v:Value}(hx:∀w,(execOp a.eval o).run P w=.ok (.enter fn args) w)
    (hc:∀w,I w->Calls P fn args w fun e w'=>e=.returned v/\T w w') (h:ik P ops n Z I T K l (k+1) (a.put o.dst v)):ik P ops n Z I T K (o::l) k a:=⟨Tz pM hk hz hw hx hc h.out⟩
theorem z4c (hk:decide (k<n)=true)(hz:Z.contains k=false)(hp:KM o.op=true)(hT:∀w,T w w)(hw:Region.wanted o (yielded ops a.tmps)=true)
    (h:∀K':Act->Prop,(∀a,ik P ops n Z I T K l (k+1) a->K' a)->o.quiet P a (fun w=>∃p:Wd I,w=p.w) K'):ik P ops n Z I T K (o::l) k a:=
 ⟨TA hk hz hp hT hw fun K' hK=>h K' fun a h=>hK a h.out⟩
theorem kg (h:ik P ops n Z I T K l (k+1) a)(hk:decide (k<n)=true:=by rfl) (hz:Z.contains k=true:=by rfl):ik P ops n Z I T K (o::l) k a:=z4E hk hz h
theorem fZ (h:ik P ops n Z I T K l (k+1) (a.put o.dst undef))(hk:decide (k<n)=true:=by rfl) (hz:Z.contains k=false:=by rfl) (hw:Region.wanted o (yielded ops a.tmps)=false:=by rfl):ik P ops n Z I T K (o::l) k a:=z6t hk hz hw h
theorem H0 {fn:FuncId}{args:Array Value}{v:Value}(hx:∀w,(execOp a.eval o).run P w=.ok (.enter fn args) w)(hc:∀w,I w->Calls P fn args w fun e w'=>e=.returned v/\T w w')(h:ik P ops n Z I T K l (k+1) (a.put o.dst v))(pM:uD o.op=true:=by rfl) (hk:decide (k<n)=true:=by rfl) (hz:Z.contains k=false:=by rfl) (hw:Region.wanted o (yielded ops a.tmps)=true:=by rfl):ik P ops n Z I T K (o::l) k a:=z5Z pM hk hz hw hx hc h
theorem gg (h:∀K':Act->Prop,(∀a,ik P ops n Z I T K l (k+1) a->K' a)->o.quiet P a (fun w=>∃p:Wd I,w=p.w) K')(hk:decide (k<n)=true:=by rfl) (hz:Z.contains k=false:=by rfl) (hp:KM o.op=true:=by rfl) (hT:∀w,T w w:=by first | exact ae.rf | exact fun _=>rfl) (hw:Region.wanted o (yielded ops a.tmps)=true:=by rfl):ik P ops n Z I T K (o::l) k a:=z4c hk hz hp hT hw h
theorem y7G {id:Nat}{Q:Exit->Act->World->Prop}{a0:Act}{w:World}{l:List Oper}(n:Nat)(Z:List Nat)(I:World->Prop)(T:World->World->Prop)(J:(Nat->Bool)->(Nat->Value)->World->Prop)(g:(Nat->Value)->Act->Act)
    (hm:P.follows .mixedOrders=true) (hB:td l.toArray n Z=true) (hg:∀f a,bh (fun j=>Z.contains j) f l 0 a=g f a)
    (h0:J (fun _=>false) (fun _=>undef) w.drew) (hI:∀L f w,J L f w->I w) (hT:∀w,T w w) (nB:∀L f w w',J L f w->T w w'->J L f w')
    (h:ik P l.toArray n Z I T (fun a=>tj (Cz P l Z J a) Z/\∀(f:Nat->Value) (w:World),J (fun j=>Z.contains j) f w->wpList P l.toArray Q (l.drop n) (g f a) w) l 0 a0):
    (Code.region id l.toArray true).wp P Q a0 w:=QK n Z I T J g hm hB hg h0 hI hT nB h.out
end
theorem y6P {P:Program}{id:Nat}{Q:Exit->Act->World->Prop}{a0:Act}{w:World}{l:List Oper}(n:Nat)(hm:P.follows .mixedOrders=true)(hB:td l.toArray n []=true)(hg:∀f a,bh (fun j=>([]:List Nat).contains j) f l 0 a=a)
    (h:ik P l.toArray n [] (ae w) ae (fun a=>∀(w':World),ae w w'->wpList P l.toArray Q (l.drop n) a w') l 0 a0):(Code.region id l.toArray true).wp P Q a0 w:=
 QK n [] (ae w) ae (fun _ _ x=>ae w x) (fun _ a=>a) hm hB hg (ae.rf w).drew (fun _ _ _ h=>h) ae.rf (fun _ _ _ _ h g=>h.trans g) (by
  have h2:=h.out;have e:(fun a=>∀(w':World),ae w w'->wpList P l.toArray Q (l.drop n) a w')=(fun a=>tj (Cz P l [] (fun _ _ x=>ae w x) a) []/\∀(f:Nat->Value) (w':World),ae w w'->wpList P l.toArray Q (l.drop n) a w'):=by
   funext a;exact propext ⟨fun h=>⟨trivial,fun _=>h⟩,fun h=>h.2 fun _=>undef⟩
  rw[e]at h2;exact h2)
theorem H3 {P:Program}{ops:Array Oper}{rest:List Oper}{o:Oper}{a:Act}{w w':World}{Q:Exit->Act->World->Prop}{t:TypeId}(hg:o.guard=none)(m x v:Operand)(hop:o.op=Op.mapUpdate t m x v){vm vx vv:Value}(hm:a.eval m=vm)(hx:a.eval x=vx)(hv:a.eval v=vv)
    (hrun:(Instr.mapUpdate t vm vx vv).run P w=.ok () w') (hK:wpList P ops Q rest (a.put o.dst undef) w'):wpList P ops Q (o::rest) a w:=by
 refine wpList_plain hg fun K' hK'=>?_;unfold Oper.wp;simp[execOp,hop,hm,hx,hv,hrun,Result.andThen];exact hK' _ _ hK
theorem kh {P:Program}{id:Nat}{Q:Exit->Act->World->Prop}{a0:Act}{w:World}{l:List Oper}(n:Nat)(Z:List Nat)(I:World->Prop)(T:World->World->Prop)(J:(Nat->Bool)->(Nat->Value)->World->Prop)(g:(Nat->Value)->Act->Act)
    (h0:J (fun _=>false) (fun _=>undef) w.drew) (hI:∀L f w,J L f w->I w) (hT:∀w,T w w) (nB:∀L f w w',J L f w->T w w'->J L f w')
    (h:ik P l.toArray n Z I T (fun a=>tj (Cz P l Z J a) Z/\∀(f:Nat->Value) (w:World),J (fun j=>Z.contains j) f w->wpList P l.toArray Q (l.drop n) (g f a) w) l 0 a0)
    (hm:P.follows .mixedOrders=true:=by kernel_rfl) (hB:td l.toArray n Z=true:=by kernel_rfl) (hg:∀f a,bh (fun j=>Z.contains j) f l 0 a=g f a:=by exact fun _ _=>rfl):
    (Code.region id l.toArray true).wp P Q a0 w:=y7G n Z I T J g hm hB hg h0 hI hT nB h
theorem pO {P:Program}{id:Nat}{Q:Exit->Act->World->Prop}{a0:Act}{w:World}{l:List Oper}(n:Nat)
    (h:ik P l.toArray n [] (ae w) ae (fun a=>∀(w':World),ae w w'->wpList P l.toArray Q (l.drop n) a w') l 0 a0)
    (hm:P.follows .mixedOrders=true:=by kernel_rfl) (hB:td l.toArray n []=true:=by kernel_rfl) (hg:∀f a,bh (fun j=>([]:List Nat).contains j) f l 0 a=a:=by exact fun _ _=>rfl):(Code.region id l.toArray true).wp P Q a0 w:=
 y6P n hm hB hg h
end
section
theorem z5C {P:Program}{l:List Oper}{Z:List Nat}{J:(Nat->Bool)->(Nat->Value)->World->Prop}{a:Act}{i:Nat}{o:Oper}(ho:l[i]? =some o)(g:(Nat->Value)->Act->Act)
    (hg:∀f a,bh (fun j=>Z.contains j && (jI o).contains j) f l 0 a=g f a)
    (h:∀(L:Nat->Bool) (f:Nat->Value) (w:World),J L f w->L i=false->(∀j,Z.contains j=true->j∈jI o->L j=true)->Region.wanted o (yielded l.toArray (g f a).tmps)=true/\bl P (fun v w'=>J (plus L i) (bQ f i v) w') ((execOp (g f a).eval o).run P w)):Cz P l Z J a i:=by
 intro o' Tx L f w hi hL hV;have:o=o':=Option.some.inj (ho.symm.trans Tx);subst this;rw[hg];obtain⟨h1,h2⟩:=h L f w hi hL hV;rw[zZ1 h1];exact h2
theorem gT {P:Program}{l:List Oper}{Z:List Nat}{J:(Nat->Bool)->(Nat->Value)->World->Prop}{a:Act}{i:Nat}{o:Oper}(ho:l[i]? =some o)(g:(Nat->Value)->Act->Act)
    (h:∀(L:Nat->Bool) (f:Nat->Value) (w:World),J L f w->L i=false->(∀j,Z.contains j=true->j∈jI o->L j=true)->Region.wanted o (yielded l.toArray (g f a).tmps)=true/\bl P (fun v w'=>J (plus L i) (bQ f i v) w') ((execOp (g f a).eval o).run P w))
    (hg:∀f a,bh (fun j=>Z.contains j && (jI o).contains j) f l 0 a=g f a:=by exact fun _ _=>rfl):Cz P l Z J a i:=z5C ho g hg h
structure JT (vs:Nat->Option Value)(od:List (Nat×Nat))(s:Nat)(R0 R1:World->Prop)(X:Nat->Option (World->Value->Prop))(L:Nat->Bool)(f:Nat->Value)(x:World):Prop where
 val:∀i v,L i=true->vs i=some v->f i=v
 ord:∀p∈od,L p.1=true->L p.2=true
 a:L s=false->R0 x
 d:L s=true->R1 x
 ex:∀i p,X i=some p->L i=true->p x (f i)
 xo:∀i p,X i=some p->L i=true->L s=true
structure StT (R0 R1:World->Prop)(X:Nat->Option (World->Value->Prop)):Prop where
 r0:∀x x',ae x x'->R0 x->R0 x'
 r1:∀x x',ae x x'->R1 x->R1 x'
 x:∀i p,X i=some p->∀x x' v,ae x x'->p x v->p x' v
section
variable {vs:Nat->Option Value}{od:List (Nat×Nat)}{s:Nat}{R0 R1:World->Prop}{X:Nat->Option (World->Value->Prop)}{L:Nat->Bool}{f:Nat->Value}{x x':World}
theorem py {L:Nat->Bool}{i j:Nat}(h:j≠i):plus L i j=L j:=by simp only[plus,zZ0 h]
theorem xh {L:Nat->Bool}{i:Nat}:plus L i i=true:=by simp[plus]
theorem RI {L:Nat->Bool}{i j:Nat}(h:L j=true):plus L i j=true:=by simp only[plus];split;rfl;exact h
theorem z2y {od:List (Nat×Nat)}{L:Nat->Bool}{i:Nat}(h:∀p∈od,L p.1=true->L p.2=true)(ho:∀p∈od,p.1=i->L p.2=true):∀p∈od,plus L i p.1=true->plus L i p.2=true:=by
 intro p hp hl;by_cases hi:p.1=i
 . exact RI (ho p hp hi)
 . rw[py hi]at hl;exact RI (h p hp hl)
theorem z2S {vs:Nat->Option Value}{L:Nat->Bool}{f:Nat->Value}{i:Nat}{v:Value}(h:∀i v,L i=true->vs i=some v->f i=v)(hv:∀u,vs i=some u->v=u):∀j u,plus L i j=true->vs j=some u->bQ f i v j=u:=by
 intro j u hl hu;by_cases hj:j=i
 . subst hj;rw[fY];exact hv u hu
 . rw[py hj]at hl;rw[gH hj];exact h j u hl hu
end
end
section
structure JC (idx:List Nat)(M:Nat->(Nat->Value)->World->Prop)(L:Nat->Bool)(f:Nat->Value)(u:World):Prop where
 ex:∃s,s<=idx.length/\(∀j i,idx[j]? =some i->L i=decide (j<s))/\M s f u
section
variable {idx:List Nat}{M:Nat->(Nat->Value)->World->Prop}{L:Nat->Bool}{f:Nat->Value}{u u':World}
theorem JC.aX (h:M 0 f u):JC idx M (fun _=>false) f u:=⟨0,zZ5 _,fun j i _=>by simp,h⟩
theorem JC.stage (h:JC idx M L f u)(j i:Nat)(hi:idx[j]? =some i)(hL:L i=false)(hp:∀k,j=k+1->∃i',idx[k]? =some i'/\L i'=true):(∀j' i',idx[j']? =some i'->L i'=decide (j'<j))/\M j f u:=by
 obtain⟨s,hs,h1,h2⟩:=h.ex;have e1:=h1 j i hi;rw[hL]at e1;have hsj:s<=j:=by
  have:=wZ4.1 e1.symm;omega
 have S9:j<=s:=by
  cases j with
  | zero=>exact zZ5 _
  | succ k=>
   obtain⟨i',hk,hLk⟩:=hp k rfl;have e2:=h1 k i' hk;rw[hLk]at e2;have:=decide_eq_true_iff.1 e2.symm;omega
 obtain rfl:s=j:=by omega
 exact⟨h1,h2⟩
theorem JC.put (hn:idx.Nodup)(h:JC idx M L f u)(j i:Nat)(hi:idx[j]? =some i)(hL:L i=false)(hp:∀k,j=k+1->∃i',idx[k]? =some i'/\L i'=true){v:Value}(hM:M (j+1) (bQ f i v) u'):JC idx M (plus L i) (bQ f i v) u':=by
 obtain⟨h1,_⟩:=h.stage j i hi hL hp;obtain⟨hj,lQ⟩:=zQ9.1 hi;refine⟨j+1,by omega,fun j' i' hi'=>?_,hM⟩;by_cases e:i'=i
 . subst e;obtain⟨hj',tV⟩:=zQ9.1 hi';have:j'=j:=by
    rcases xZ3 j' j with q | q | q
    . exact absurd (tV.trans lQ.symm) (zJ4.1 hn j' j hj' hj q)
    . exact q
    . exact absurd (lQ.trans tV.symm) (zJ4.1 hn j j' hj hj' q)
   subst this;simp[plus]
 . rw[py e,h1 j' i' hi'];have:j'≠j:=fun q=>e (by subst q;rw[hi]at hi';exact(Option.some.inj hi').symm);exact decide_eq_decide.2 (by omega)
theorem JC.done (h:JC idx M L f u)(ha:∀i∈idx,L i=true):M idx.length f u:=by
 obtain⟨s,hs,h1,h2⟩:=h.ex;by_cases e:s=idx.length
 . exact e▸h2
 . have az:s<idx.length:=(by omega);have q:=h1 s _ (zQ5 az);rw[ha _ (zQ4 az)]at q;simp at q
end
end
section
section
variable {F:Fence}{n l:Nat}{P:Program}{ops:Array Oper}{Q:Exit->Act->World->Prop}{md:Region.Mode}
theorem z4k {o:Oper}{a:Act}{w:World}{next:Act->World->Prop}(qD:∀c,o.op≠.defer c)(h:o.wpIn F n P a w next Q):o.wpIn (F.inRound l) n P a w next Q:=by
 obtain⟨h1,h2⟩:=h;refine⟨h1,?_⟩;rw[Oper.semAt_plain _ _ _ qD]at h2 ⊢;exact h2
theorem R2 (qD:∀(i:Nat) (o:Oper),ops[i]? =some o->∀c:Call,o.op≠.defer c):∀(fuel:Nat) (listed:Array Bool) (a:Act) (w:World),wpAnyIn F n P md ops Q fuel listed a w->wpAnyIn (F.inRound l) n P md ops Q fuel listed a w
 | 0,_,_,_,h=>h
 | fuel+1,listed,a,w,h=>by
  refine⟨h.1,fun i hi=>?_⟩;have h2:=h.2 i hi;unfold wpOpIn at h2 ⊢;cases ho:ops[i]? with
  | none=>
   rw[ho]at h2;exact R2 qD fuel _ a w h2
  | some o=>
   rw[ho]at h2;dsimp only at h2 ⊢;split
   . rename_i hw;rw[zZ1 hw]at h2;exact z4k (qD i o ho) (Oper.wpIn_mono (fun a w h=>R2 qD fuel _ a w h) h2)
   . rename_i hw;rw[zZ0 hw]at h2;exact⟨h2.1,R2 qD fuel _ _ w h2.2⟩
def VY (ops:Array Oper):Bool:=ops.all fun o=>match o.op with | .defer _=>false | _=>true
theorem z0D (h:VY ops=true)(i:Nat)(o:Oper)(ho:ops[i]? =some o)(c:Call):o.op≠.defer c:=by
 intro e;unfold VY at h;rw[Array.all_eq_true]at h;obtain⟨hi,rfl⟩:=zZ2.1 ho;have:=h i hi;rw[e]at this;cases this
theorem y5r {C:World->Prop}{id:Nat}{a:Act}{w:World}(hro:F.round=none)(hm:P.follows .mixedOrders=true)(hB:Region.lexB .any ops=true)(hd:VY ops=true)(hC:C {w with drawn:=w.drawn+1})
    (h:wpQuietIn F n P ops C (fun a'=>∀w',C w'->Q .normal a' w') ops.toList a):(Code.region id ops true).wpIn (F.inRound l) n P Q a w:=by
 unfold Region.lexB at hB;rw[zZ7]at hB;obtain⟨hs,hx⟩:=hB;have h1:wpAnyQIn F n P .any ops C (fun a'=>∀w',C w'->Q .normal a' w') ops.toList.length (Array.replicate ops.size false) a:=
  wpAnyQIn_lex hs ops.toList 0 _ a (by simp) (by simpa using hx) h
 refine wpIn_region_any hm (R2 (z0D hd) _ _ _ _ ?_);exact wpAnyIn_of_quiet (Q:=fun a'=>∀w',C w'->Q .normal a' w') hro (fun _ w' hw' h=>h w' hw') _ _ _ _ hC (by simpa using h1)
end
end
section
def oh (i:Nat)(v:Value):Value:=match v with | .tuple a=>a[i]?.getD undef | _=>undef
structure JE (c:Nat)(G:World->Prop)(R:Value->World->Prop)(ds:Nat->Option (Value->Value))(L:Nat->Bool)(f:Nat->Value)(u:World):Prop where
 pre:L c=false->G u
 post:L c=true->R (f c) u
 ord:∀i g,ds i=some g->L i=true->L c=true
 val:∀i g,ds i=some g->L i=true->f i=g (f c)
section
variable {c:Nat}{G:World->Prop}{R:Value->World->Prop}{ds:Nat->Option (Value->Value)}{L:Nat->Bool}{f:Nat->Value}{u u':World}
theorem JE.aX (h:G u)(f:Nat->Value):JE c G R ds (fun _=>false) f u:=⟨fun _=>h,fun h=>(by cases h),fun _ _ _ h=>(by cases h),fun _ _ _ h=>(by cases h)⟩
theorem JE.call (h:JE c G R ds L f u)(hL:L c=false)(vZ:ds c=none){v:Value}(hv:R v u'):JE c G R ds (plus L c) (bQ f c v) u':=by
 refine⟨fun h=>(by rw[xh]at h;cases h),fun _=>(by rw[fY];exact hv),fun _ _ _ _=>xh,fun i g hd hl=>?_⟩;have hi:i≠c:=fun e=>by rw[e,vZ]at hd;cases hd
 rw[py hi]at hl;have:=h.ord i g hd hl;rw[hL]at this;cases this
theorem JE.put (h:JE c G R ds L f u)(i:Nat)(hc:L c=true)(hi:i≠c){v:Value}(hv:∀g,ds i=some g->v=g (f c)):JE c G R ds (plus L i) (bQ f i v) u:=by
 have e:plus L i c=L c:=py (fun e=>hi e.symm);have e2:bQ f i v c=f c:=gH (fun e=>hi e.symm);refine⟨fun h'=>(by rw[e,hc]at h';cases h'),fun _=>(by rw[e2];exact h.post hc),fun _ _ _ _=>(by rw[e];exact hc),fun j g hd hl=>?_⟩;rw[e2];by_cases q:j=i
 . subst q;rw[fY];exact hv g hd
 . rw[gH q];rw[py q]at hl;exact h.val j g hd hl
end
end
section
def Gr (R:Nat->Value->(Nat->Prop)->World->Prop):Prop:=∀i v F x x',R i v F x->ae x x'->R i v F x'
structure JJ (R:Nat->Value->(Nat->Prop)->World->Prop)(y:World)(L:Nat->Bool)(f:Nat->Value)(x:World):Prop where
 ah:ae y x
 ex:∃φ:Nat->Nat->Prop,(∀i,L i=true->R i (f i) (φ i) x/\∀j,φ i j->y.heap.size<=j/\j<x.heap.size)/\∀i i',L i=true->L i'=true->i≠i'->∀j,φ i j->¬φ i' j
section
variable {R:Nat->Value->(Nat->Prop)->World->Prop}{y x x':World}{L:Nat->Bool}{f:Nat->Value}
theorem JJ.aX (R:Nat->Value->(Nat->Prop)->World->Prop)(y:World)(f:Nat->Value):JJ R y (fun _=>false) f y.drew:=⟨(ae.rf y).drew,fun _ _=>False,fun i h=>(by cases h),fun i _ h=>(by cases h)⟩
theorem JJ.put (hR:Gr R)(h:JJ R y L f x)(i:Nat)(hL:L i=false){v:Value}{F:Nat->Prop}(g:ae x x')(hv:R i v F x')(hF:∀j,F j->x.heap.size<=j/\j<x'.heap.size):JJ R y (plus L i) (bQ f i v) x':=by
 obtain⟨φ,h1,h2⟩:=h.ex;have hs:=g.size;have uW:=h.ah.size;have old:∀i',plus L i i'=true->i'≠i->L i'=true:=fun i' hi' hne=>by rwa[py hne]at hi'
 refine⟨h.ah.trans g,fun i'=>if i'=i then F else φ i',fun i' hi'=>?_,fun i1 i2 Gu ml hne j=>?_⟩
 . by_cases e:i'=i
   . subst e;dsimp only;rw[fY,zZ1 rfl];exact⟨hv,fun j hj=>⟨by have:=(hF j hj).1;omega,(hF j hj).2⟩⟩
   . dsimp only;rw[gH e,zZ0 e];obtain⟨a,b⟩:=h1 i' (old i' hi' e);exact⟨hR _ _ _ _ _ a g,fun j hj=>⟨(b j hj).1,by have:=(b j hj).2;omega⟩⟩
 . dsimp only;by_cases e1:i1=i
   . rw[zZ1 e1];by_cases e2:i2=i
     . exact absurd (e1.trans e2.symm) hne
     . rw[zZ0 e2];intro hj xd;have a:=(hF j hj).1;have b:=((h1 i2 (old i2 ml e2)).2 j xd).2;omega
   . rw[zZ0 e1];by_cases e2:i2=i
     . rw[zZ1 e2];intro hj xd;have a:=(hF j xd).1;have b:=((h1 i1 (old i1 Gu e1)).2 j hj).2;omega
     . rw[zZ0 e2];exact h2 i1 i2 (old i1 Gu e1) (old i2 ml e2) hne j
end
end
section
def oy (R:Nat->Value->World->Prop):Prop:=∀i v x x',R i v x->ae x x'->R i v x'
structure JQ (R:Nat->Value->World->Prop)(y:World)(L:Nat->Bool)(f:Nat->Value)(x:World):Prop where
 ah:ae y x
 at_:∀i,L i=true->R i (f i) x
section
variable {R:Nat->Value->World->Prop}{y x x':World}{L:Nat->Bool}{f:Nat->Value}
theorem JQ.aX (R:Nat->Value->World->Prop)(y:World)(f:Nat->Value):JQ R y (fun _=>false) f y.drew:=⟨(ae.rf y).drew,fun i h=>by cases h⟩
theorem JQ.br (hR:oy R)(h:JQ R y L f x)(g:ae x x'):JQ R y L f x':=⟨h.ah.trans g,fun i hi=>hR _ _ _ _ (h.at_ i hi) g⟩
theorem JQ.put (hR:oy R)(h:JQ R y L f x)(i:Nat){v:Value}(g:ae x x')(hv:R i v x'):JQ R y (plus L i) (bQ f i v) x':=by
 refine⟨h.ah.trans g,fun j hj=>?_⟩;by_cases e:j=i
 . subst e;rw[fY];exact hv
 . rw[gH e];rw[py e]at hj;exact hR _ _ _ _ (h.at_ j hj) g
theorem JQ.same (hR:oy R)(h:JQ R y L f x)(i:Nat){v:Value}(hv:R i v x):JQ R y (plus L i) (bQ f i v) x:=h.put hR i (ae.rf x) hv
end
end
section
theorem z1a {P:Program}{o:Oper}{a:Act}{w w':World}{K:Value->World->Prop}{t:TypeId}(m x v:Operand)(hop:o.op=Op.mapUpdate t m x v){vm vx vv:Value}(hm:a.eval m=vm)(hx:a.eval x=vx)(hv:a.eval v=vv)
    (hrun:(Instr.mapUpdate t vm vx vv).run P w=.ok () w') (hK:∀u,K u w'):bl P K ((execOp a.eval o).run P w):=by
 simp[execOp,hop,hm,hx,hv,hrun,Result.andThen,bl];exact hK _
structure JF (c d:Nat)(G:World->Prop)(V:Value->Prop)(R Q:Value->World->Prop)(ds:Nat->Option (Value->Value))(L:Nat->Bool)(f:Nat->Value)(u:World):Prop where
 pre:L c=false->G u
 form:L c=true->V (f c)
 mid:L c=true->L d=false->R (f c) u
 post:L d=true->Q (f c) u
 oc:L d=true->L c=true
 ord:∀i g,ds i=some g->L i=true->L c=true
 val:∀i g,ds i=some g->L i=true->f i=g (f c)
section
variable {c d:Nat}{G:World->Prop}{V:Value->Prop}{R Q:Value->World->Prop}{ds:Nat->Option (Value->Value)}{L:Nat->Bool}{f:Nat->Value}{u u':World}
theorem JF.aX (h:G u)(f:Nat->Value):JF c d G V R Q ds (fun _=>false) f u:=⟨fun _=>h,fun h=>(by cases h),fun h=>(by cases h),fun h=>(by cases h),fun h=>(by cases h),fun _ _ _ h=>(by cases h),fun _ _ _ h=>(by cases h)⟩
theorem JF.call (h:JF c d G V R Q ds L f u)(hL:L c=false)(vZ:ds c=none)(xG:d≠c){v:Value}(hV:V v)(hv:R v u'):JF c d G V R Q ds (plus L c) (bQ f c v) u':=by
 have hd:L d=true->False:=fun q=>by rw[h.oc q]at hL;cases hL
 refine⟨fun h=>(by rw[xh]at h;cases h),fun _=>(by rw[fY];exact hV),fun _ _=>(by rw[fY];exact hv),fun q=>?_,fun _=>xh,fun _ _ _ _=>xh,fun i g Xx hl=>?_⟩
 . rw[py xG]at q;exact(hd q).elim
 . have hi:i≠c:=fun e=>by rw[e,vZ]at Xx;cases Xx
   rw[py hi]at hl;have:=h.ord i g Xx hl;rw[hL]at this;cases this
theorem JF.put (h:JF c d G V R Q ds L f u)(i:Nat)(hc:L c=true)(hi:i≠c)(af:i≠d){v:Value}(hv:∀g,ds i=some g->v=g (f c)):JF c d G V R Q ds (plus L i) (bQ f i v) u:=by
 have e:plus L i c=L c:=py (fun e=>hi e.symm);have ed:plus L i d=L d:=py (fun e=>af e.symm);have e2:bQ f i v c=f c:=gH (fun e=>hi e.symm);refine⟨fun h'=>(by rw[e,hc]at h';cases h'),fun _=>(by rw[e2];exact h.form hc),fun _ q=>(by rw[e2];rw[ed]at q;exact h.mid hc q),fun q=>(by rw[e2];rw[ed]at q;exact h.post q),fun _=>(by rw[e];exact hc),fun _ _ _ _=>(by rw[e];exact hc),fun j g hd hl=>?_⟩;rw[e2];by_cases q:j=i
 . subst q;rw[fY];exact hv g hd
 . rw[gH q];rw[py q]at hl;exact h.val j g hd hl
theorem JF.turn (h:JF c d G V R Q ds L f u)(hc:L c=true)(xG:d≠c)(vZ:ds d=none)(v:Value)(hQ:Q (f c) u'):JF c d G V R Q ds (plus L d) (bQ f d v) u':=by
 have e:plus L d c=L c:=py (fun e=>xG e.symm);have e2:bQ f d v c=f c:=gH (fun e=>xG e.symm);refine⟨fun h'=>(by rw[e,hc]at h';cases h'),fun _=>(by rw[e2];exact h.form hc),fun _ q=>(by rw[xh]at q;cases q),fun q=>(by rw[e2];exact hQ),fun _=>(by rw[e];exact hc),fun _ _ _ _=>(by rw[e];exact hc),fun j g hd hl=>?_⟩;rw[e2];have q:j≠d:=fun e=>by rw[e,vZ]at hd;cases hd
 rw[gH q];rw[py q]at hl;exact h.val j g hd hl
end
end
def GS (k:Nat)(R0:Value->World->Prop)(vs:Nat->Option Value)(i:Nat)(v:Value)(u:World):Prop:=(i=k->R0 v u)/\∀c,vs i=some c->v=c
theorem GS.mono {k:Nat}{R0:Value->World->Prop}(h0:∀v u u',R0 v u->ae u u'->R0 v u')(vs:Nat->Option Value):oy (GS k R0 vs):=fun i v u u' h g=>⟨fun e=>h0 _ _ _ (h.1 e) g,h.2⟩
theorem GS.val {k:Nat}{R0:Value->World->Prop}{vs:Nat->Option Value}{i:Nat}{c:Value}{u:World}(hk:i≠k)(h:vs i=some c):GS k R0 vs i c u:=⟨fun e=>absurd e hk,fun d hd=>by rw[h]at hd;exact Option.some.inj hd⟩
section
structure JW (vs:Nat->Option Value)(od:List (Nat×Nat))(sw:List Nat)(M:Nat->World->Prop)(L:Nat->Bool)(f:Nat->Value)(x:World):Prop where
 val:∀i v,L i=true->vs i=some v->f i=v
 ord:∀p∈od,L p.1=true->L p.2=true
 st:∃s,s<=sw.length/\(∀j i,sw[j]? =some i->L i=decide (j<s))/\M s x
section
variable {vs:Nat->Option Value}{od:List (Nat×Nat)}{sw:List Nat}{M:Nat->World->Prop}{L:Nat->Bool}{f:Nat->Value}{x x':World}
theorem JW.aX (h:M 0 x):JW vs od sw M (fun _=>false) f x:=
 ⟨fun _ _ h=>(by cases h),fun _ _ h=>(by cases h),0,zZ5 _,fun j i _=>by simp,h⟩
theorem JW.br (hM:∀s x x',ae x x'->M s x->M s x')(h:JW vs od sw M L f x)(g:ae x x'):JW vs od sw M L f x':=by
 obtain⟨s,h1,h2,h3⟩:=h.st;exact⟨h.val,h.ord,s,h1,h2,hM _ _ _ g h3⟩
theorem JW.put (h:JW vs od sw M L f x)(i:Nat)(v:Value)(hv:vs i=some v)(hs:i ∉ sw)(ho:∀p∈od,p.1=i->L p.2=true):JW vs od sw M (plus L i) (bQ f i v) x:=by
 obtain⟨s,h1,h2,h3⟩:=h.st;refine⟨z2S h.val (fun u hu=>by rw[hv]at hu;exact Option.some.inj hu),z2y h.ord ho,s,h1,fun j k hk=>?_,h3⟩;have:k≠i:=fun e=>hs (e▸List.mem_of_getElem? hk);rw[py this];exact h2 j k hk
theorem JW.stage (h:JW vs od sw M L f x)(s:Nat)(hs:s<=sw.length)(h0:∀k,s=k+1->∃i,sw[k]? =some i/\L i=true)(h1:∀i,sw[s]? =some i->L i=false):M s x:=by
 obtain⟨t,t1,t2,t3⟩:=h.st;have a:s<=t:=by
  cases s with
  | zero=>exact zZ5 _
  | succ k=>
   obtain⟨i,hi,hl⟩:=h0 k rfl;have:=t2 k i hi;rw[hl]at this;have:=decide_eq_true_iff.1 this.symm;omega
 have b:t<=s:=by
  rcases zJ7 s sw.length with q | q
  . have:=t2 s _ (zQ5 q);rw[h1 _ (zQ5 q)]at this;have:=wZ4.1 this.symm;omega
  . omega
 obtain rfl:t=s:=by omega
 exact t3
theorem JW.switch (hn:sw.Nodup)(h:JW vs od sw M L f x)(j i:Nat)(hi:sw[j]? =some i)(hL:L i=false)(hp:∀k,j=k+1->∃i',sw[k]? =some i'/\L i'=true){v:Value}(hv:vs i=some v)(hM:M (j+1) x')(ho:∀p∈od,p.1=i->L p.2=true):JW vs od sw M (plus L i) (bQ f i v) x':=by
 obtain⟨t,t1,t2,t3⟩:=h.st;obtain⟨hj,lQ⟩:=zQ9.1 hi;have a:t=j:=by
  have e1:=t2 j i hi;rw[hL]at e1;have:=wZ4.1 e1.symm;cases j with
  | zero=>omega
  | succ k=>
   obtain⟨i',hk,hl⟩:=hp k rfl;have e2:=t2 k i' hk;rw[hl]at e2;have:=decide_eq_true_iff.1 e2.symm;omega
 subst a;refine⟨z2S h.val (fun u hu=>by rw[hv]at hu;exact Option.some.inj hu),z2y h.ord ho,t+1,by omega,fun j' i' hi'=>?_,hM⟩;by_cases e:i'=i
 . subst e;obtain⟨hj',tV⟩:=zQ9.1 hi';have:j'=t:=by
    rcases xZ3 j' t with q | q | q
    . exact absurd (tV.trans lQ.symm) (zJ4.1 hn j' t hj' hj q)
    . exact q
    . exact absurd (lQ.trans tV.symm) (zJ4.1 hn t j' hj hj' q)
   subst this;rw[xh];simp
 . rw[py e,t2 j' i' hi'];have:j'≠t:=fun q=>e (by subst q;rw[hi]at hi';exact(Option.some.inj hi').symm);exact decide_eq_decide.2 (by omega)
theorem JW.all (h:JW vs od sw M L f x)(ha:∀i∈sw,L i=true):M sw.length x:=by
 refine h.stage sw.length (zZ3 _) (fun k hk=>?_) (fun i hi=>?_)
 . have az:k<sw.length:=(by omega);exact⟨_,zQ5 az,ha _ (zQ4 az)⟩
 . rw[xX4 (zZ3 _)]at hi;cases hi
theorem JW.fU (h:JW vs od sw M L f x):∃s,s<=sw.length/\M s x:=by
 obtain⟨s,h1,_,h3⟩:=h.st;exact⟨s,h1,h3⟩
end
end
end Go.Proofs.YtgegogoanbamfaaGreatDoor
