/- Part 4 of the proof. -/
import Derived.Test.YtbnofojapimfcaaGreatDoorFinWatchStepsQ1
import Derived.Laws.CopyRow
import Derived.Laws.CopyOwn
import Derived.Laws.IdiomCopy
import Derived.Lib.AppendZeros
import Derived.Lib.AppendZerosOnto
import Derived.Lib.Overlaps
import Derived.Laws.NewBlocks
import Derived.Deep.RegionLaw
import Derived.Laws.Externs
import Derived.IntWalk
import Derived.Deep.Upon
set_option linter.unusedVariables false
set_option linter.unusedSectionVars false
set_option linter.unusedSimpArgs false
set_option maxRecDepth 100000
set_option maxHeartbeats 16000000
namespace Go.Proofs.YtbnofojapimfcaaGreatDoor
section
open Go.RowKit
def cz (L:List Value) (off:Nat) (cs:List Value):List Value:=L.take off++cs++L.drop (off+cs.length)
theorem qN (L:List Value) (off:Nat) (cs:List Value) (h:off+cs.length<=L.length):(cz L off cs).length=L.length:=by simp [cz];omega
theorem Fw (L:List Value) (off:Nat) (cs:List Value) (h:off<=L.length):(cz L off cs).take (off+cs.length)=L.take off++cs:=by
 unfold cz
 rw [List.take_append_of_le_length (by simp;omega)]
 exact zQ7 (by simp;omega)
theorem KW (L:List Value) (off m:Nat) (cs:List Value) (h:m<=off) (hL:off<=L.length):(cz L off cs).take m=L.take m:=by
 unfold cz
 rw [List.append_assoc,List.take_append_of_le_length (by simp;omega),List.take_take,zX4 h]
section
variable {P:Program}
theorem A4 (w:World) (dT sT ty elem:TypeId) (k n g o dLen dCap:Nat) (a:Addr) (sLen sCap:Nat) (cur:List Value) (t:TypeId) (cs:List Value)
    (hu:P.underlying dT=some (.slice elem)) (hs:(P.info? elem).map (·.size)=some k)
    (hg:w.heap[g]? =some (.cells cur.toArray t (0,0))) (hn:n=Nat.min sLen dLen) (hl:cs.length=n*k)
    (hsrc:∀j v,cs[j]? =some v->w.cell? (a.add j)=some v) (hfit:o+cs.length<=cur.length) (h1:∀v∈cs,v.oneCell'=true):
    (Builtin.copy_ #[dT,sT] ty #[.slice (some ⟨g,o,none⟩) dLen dCap,.slice (some a) sLen sCap]).run P w=
     .ok (goInt n) (w.setRow g (cz cur o cs).toArray):=by
 have SX:=run_loadCells_list (P:=P) w a cs hsrc
 have hst:=run_storeCells_at P g o t cs 0 cur.toArray w hg (by simpa using hfit) h1
 rw [hl] at SX
 cases hq:P.info? elem with
 | none=>simp [hq] at hs
 | some i=>
  have hi:i.size=k:=by simpa [hq] using hs
  simp [Builtin.copy_,run_underlying hu,Builtin.lenOf,Builtin.firstCells,sizeOf,typeInfo,hq,hi,<-hn,SX,hst,cz]
theorem SY (w:World) (t e ty:TypeId) (z:Value) (k:Nat) (ht:P.underlying t=some (.slice e)) (hv:∀w,(zeroValue e).run P w=.ok z w) (hz:z.cells.size=k) (h1:∀v∈z.cells.toList,v.oneCell'=true) (b o c:Nat) (cur:List Value) (te:TypeId)
    (hg:w.heap[b]? =some (.cells cur.toArray te (0,0))) (hfit:o+k<=cur.length):
    (Builtin.clear_ #[t] ty #[.slice (some ⟨b,o,none⟩) 1 c]).run P w=.ok (.tuple #[]) (w.setRow b (cz cur o (Builtin.zeroCells z.cells 1).toList).toArray):=by
 have hl:(Builtin.zeroCells z.cells 1).toList.length=k:=by rw [Array.length_toList,size_zeroCells,hz];omega
 have hz1:∀v∈(Builtin.zeroCells z.cells 1).toList,v.oneCell'=true:=by
  intro v hv
  simp only [Builtin.zeroCells,Nat.one_mul,Array.toList_map,zZ4,Array.mem_toList_iff,Array.mem_range] at hv
  obtain ⟨i,hi,rfl⟩:=hv
  rw [Nat.mod_eq_of_lt hi,getElem!_pos z.cells i hi]
  exact h1 _ (by simp)
 have hst:=run_storeCells_at P b o te (Builtin.zeroCells z.cells 1).toList 0 cur.toArray w hg (by rw [hl];simpa using hfit) hz1
 simp [Builtin.clear_,run_underlying ht,hv,hst,cz]
theorem SZ (w:World) {o:Oper} {a:Act} {K:Act->World->Prop} {Q:Exit->Act->World->Prop} (d s:Operand) (t t':TypeId)
    (ho:o.op=.call {callee:=.builtin .copy,args:=#[d,s],argTypes:=#[t,t']}) (v u:Value) (hd:a.eval d=v) (hs:a.eval s=u) {v':Value} {w':World}
    (hr:(Builtin.copy_ #[t,t'] o.type #[v,u]).run P w=.ok v' w') (h:K (a.put o.dst v') w'):o.wp P a w K Q:=by
 unfold Oper.wp execOp
 simp only [ho,resolve,invoke,builtin,Sem.run_bind,Sem.run_pure,Result.andThen_ok,List.map_toArray,zJ8,List.map_nil,hd,hs,hr]
 exact h
theorem KX (w:World) {ops:Array Oper} {rest:List Oper} {o:Oper} {a:Act} {Q:Exit->Act->World->Prop} (hgd:o.guard=none) (d s:Operand) (t t':TypeId)
    (ho:o.op=.call {callee:=.builtin .copy,args:=#[d,s],argTypes:=#[t,t']}) (v u:Value) (hd:a.eval d=v) (hs:a.eval s=u) {v':Value} {w':World}
    (hr:(Builtin.copy_ #[t,t'] o.type #[v,u]).run P w=.ok v' w') (h:wpList P ops Q rest (a.put o.dst v') w'):wpList P ops Q (o::rest) a w:=
 wpList_plain hgd fun _ hK=>SZ w d s t t' ho v u hd hs hr (hK _ _ h)
theorem KY {ops:Array Oper} {o:Oper} {a:Act} {w:World} {K:Act->World->Prop} {Q:Exit->Act->World->Prop} {E:Prop}
    (hg:o.guard=none) (d x:Operand) (dT sT:TypeId) (hop:o.op=Op.call {callee:=Callee.builtin Builtin.copy,args:=#[d,x],argTypes:=#[dT,sT]})
    (v u:Value) (hd:a.eval d=v) (hx:a.eval x=u) {v':Value} {w':World} (hr:(Builtin.copy_ #[dT,sT] o.type #[v,u]).run P w=.ok v' w') (hK:K (a.put o.dst v') w'):
    if Region.wanted o (yielded ops a.tmps)=true then Oper.wp P o a w K Q else E:=by
 have hw:Region.wanted o (yielded ops a.tmps)=true:=by simp [Region.wanted,hg]
 rw [zZ1 hw]
 exact SZ w d x dT sT hop v u hd hx hr hK
theorem KZ {ops:Array Oper} {o:Oper} {a:Act} {w:World} {K:Act->World->Prop} {Q:Exit->Act->World->Prop} {E:Prop}
    (hg:o.guard=none) (d x:Operand) (dT sT:TypeId) (hop:o.op=Op.call {callee:=Callee.builtin Builtin.append,args:=#[d,x],argTypes:=#[dT,sT]})
    (v u:Value) (hd:a.eval d=v) (hx:a.eval x=u) {v':Value} {w':World} (hr:(Builtin.append_ #[dT,sT] o.type #[v,u]).run P w=.ok v' w') (hK:K (a.put o.dst v') w'):
    if Region.wanted o (yielded ops a.tmps)=true then Oper.wp P o a w K Q else E:=by
 have hw:Region.wanted o (yielded ops a.tmps)=true:=by simp [Region.wanted,hg]
 rw [zZ1 hw]
 exact Lib.wp_append_run w d x dT sT hop v u hd hx _ _ hr hK
theorem A5 (w:World) (g:Nat) (cs:Array Value):w.grownBy (w.setRow g cs) (some g):=
 ⟨rfl,rfl,rfl,by simp [World.setRow],fun k _ hne=>setRow_other w g k cs (fun e=>hne (by rw [e]))⟩
theorem Fx (w:World) (g:Nat) (cs:Array Value):aj (fun j=>j=g) w (w.setRow g cs):=
 ⟨rfl,rfl,rfl,by simp [World.setRow],fun k _ hne=>setRow_other w g k cs hne⟩
theorem rP {w:World} {B:Nat} {e:TypeId} {k:Nat} {v:Value} {n:Nat} {xs:List Value} (h:w.ownsRow B e k v n xs) (hn:0<n):
    ∃g cap cur,v=.slice (some ⟨g,0,none⟩) n cap/\B<=g/\w.heap[g]? =some (.cells (List.toArray cur) e (0,0))/\n<=cap/\cap<=9223372036854775807/\cur.length=cap*k/\cur.take (n*k)=xs:=by
 rcases h.2 with ⟨_,h0⟩ | ⟨g,cap,cur,e1,h2,h3,h4,h5,h6,h7⟩
 · omega
 · refine ⟨g,cap,cur.toList,e1,h2,by simpa using h3,h4,?_,by simpa using h6,h7⟩
   unfold maxLen at h5;omega
theorem na {w:World} {B:Nat} {e:TypeId} {k:Nat} {g cap n:Nat} {cur:List Value} (hB:B<=g) (h:w.heap[g]? =some (.cells cur.toArray e (0,0))) (hn:n<=cap) (hc:cap<=9223372036854775807) (hl:cur.length=cap*k) {xs:List Value} (hx:cur.take (n*k)=xs):
    w.ownsRow B e k (.slice (some ⟨g,0,none⟩) n cap) n xs:=by
 refine ⟨?_,.inr ⟨g,cap,cur.toArray,rfl,hB,h,hn,by unfold maxLen;omega,by simpa using hl,by simpa using hx⟩⟩
 rw [<-hx,List.length_take,hl]
 exact zX4 (Nat.mul_le_mul_right k hn)
theorem gI {w w':World} (g:ae w w') {B:Nat} {e:TypeId} {k:Nat} {v:Value} {n:Nat} {xs:List Value} (h:w.ownsRow B e k v n xs):w'.ownsRow B e k v n xs:=by
 refine ⟨h.1,?_⟩
 rcases h.2 with h2 | ⟨b,cap,cur,e1,h2,h3,h4⟩
 · exact .inl h2
 · exact .inr ⟨b,cap,cur,e1,h2,(g.below.block b (zZ2.1 h3).1).trans h3,h4⟩
theorem Fy {w:World} {B C:Nat} (Yb:C<=B) {e:TypeId} {k:Nat} {v:Value} {n:Nat} {xs:List Value} (h:w.ownsRow B e k v n xs):w.ownsRow C e k v n xs:=by
 refine ⟨h.1,?_⟩
 rcases h.2 with h2 | ⟨b,cap,cur,e1,h2,h3⟩
 · exact .inl h2
 · exact .inr ⟨b,cap,cur,e1,zQ0 Yb h2,h3⟩
theorem fA {w:World} {g:Nat} {cur:List Value} {t:TypeId} {fr:Nat×Nat} (h:w.heap[g]? =some (.cells cur.toArray t fr)) (j:Nat):w.cell? ⟨g,j,none⟩=cur[j]? :=by
 rw [cell_of_row w g j _ t fr h];simp
theorem S3 (L:List Value) (a kk n:Nat) (xs pv:List Value) (hp:pv.length=kk) (ha:a<=n) (hL:n+kk<=L.length) (hx:L.take n=xs):
    (cz (cz L (a+kk) (xs.drop a)) a pv).take (n+kk)=xs.take a++pv++xs.drop a:=by
 subst hx
 have hd:((L.take n).drop a).length=n - a:=by simp;omega
 have e1:cz L (a+kk) ((L.take n).drop a)=L.take (a+kk)++(L.take n).drop a++L.drop (n+kk):=by
  unfold cz;rw [hd];congr 2;omega
 have e2:(L.take (a+kk)++(L.take n).drop a++L.drop (n+kk)).take a=(L.take n).take a:=by
  rw [List.append_assoc,List.take_append_of_le_length (by simp;omega),List.take_take,List.take_take]
  congr 1;omega
 have e3:(L.take (a+kk)++(L.take n).drop a++L.drop (n+kk)).drop (a+pv.length)=(L.take n).drop a++L.drop (n+kk):=by
  rw [List.append_assoc,List.drop_append_of_le_length (by simp;omega),zJ5 (by simp;omega)];simp
 rw [e1]
 unfold cz
 rw [e2,e3,<-List.append_assoc,List.take_append_of_le_length (by simp;omega),zQ7 (by simp;omega)]
end
theorem Yc {w:World} {B k:Nat} {e:TypeId} {v:Value} {n:Nat} {L:List Value} (h:w.ownsRow B e k v n L):w.ownsRow 0 e k v n L:=by
 refine ⟨h.1,?_⟩
 rcases h.2 with h2 | ⟨b,c,cur,e1,_,h3,h4⟩
 · exact .inl h2
 · exact .inr ⟨b,c,cur,e1,Nat.zero_le _,h3,h4⟩
theorem A6 {w w':World} {S:Nat->Prop} {B k:Nat} {e:TypeId} {v:Value} {n:Nat} {L:List Value} (h:w.ownsRow B e k v n L) (g:aj S w w') (hS:∀b,v.ownBlock=some b->¬S b):w'.ownsRow B e k v n L:=by
 refine ⟨h.1,?_⟩
 rcases h.2 with h2 | ⟨b,c,cur,e1,h2,h3,h4⟩
 · exact .inl h2
 · exact .inr ⟨b,c,cur,e1,h2,(g.block b (zZ2.1 h3).1 (hS b (by rw [e1];rfl))).trans h3,h4⟩
end
section
open Go.RowKit
structure bC where
 kind:Int
 key:ByteArray
 val:ByteArray
 old:ByteArray
 di:Int
def bC.none:bC:=⟨0,⟨#[]⟩,⟨#[]⟩,⟨#[]⟩,0⟩
instance:Inhabited bC:=⟨bC.none⟩
def bC.vals (c:bC):List Value:=[.int .i64 c.kind,.string c.key,.string c.val,.string c.old,.int .i64 c.di]
def bn (xs:List bC) (j:Nat):bC:=xs[j]?.getD bC.none
theorem ym (xs:List bC) (i:Nat) (hi:i<xs.length):bn xs i=xs[i]:=by unfold bn;rw [List.getElem?_eq_getElem hi];rfl
theorem yn (xs:List bC) (k:Nat) (h:k<xs.length):bn xs k∈xs:=by rw [ym xs k h];exact zQ5 h
structure K3 (W:World) (b off:Nat) (xs:List bC):Prop where
 kind:∀j,j<xs.length->W.cell? ⟨b,off+j*5,Option.none⟩=some (.int .i64 (bn xs j).kind)
 key:∀j,j<xs.length->W.cell? ⟨b,off+j*5+1,Option.none⟩=some (.string (bn xs j).key)
 val:∀j,j<xs.length->W.cell? ⟨b,off+j*5+2,Option.none⟩=some (.string (bn xs j).val)
 old:∀j,j<xs.length->W.cell? ⟨b,off+j*5+3,Option.none⟩=some (.string (bn xs j).old)
 di:∀j,j<xs.length->W.cell? ⟨b,off+j*5+4,Option.none⟩=some (.int .i64 (bn xs j).di)
theorem K3.ag {W W':World} {b off:Nat} {xs:List bC} (h:K3 W b off xs) (g:ae W W') (hb:b<W.heap.size):K3 W' b off xs:=
 ⟨fun j hj=>(g.cells.1 _ _ hb).trans (h.kind j hj),fun j hj=>(g.cells.1 _ _ hb).trans (h.key j hj),fun j hj=>(g.cells.1 _ _ hb).trans (h.val j hj),fun j hj=>(g.cells.1 _ _ hb).trans (h.old j hj),fun j hj=>(g.cells.1 _ _ hb).trans (h.di j hj)⟩
def rQ (W:World) (a:Option Addr) (xs:List bC):Prop:=xs=[]\/∃b off,a=some ⟨b,off,Option.none⟩/\b<W.heap.size/\K3 W b off xs
theorem rQ.ag {W W':World} {a:Option Addr} {xs:List bC} (h:rQ W a xs) (g:ae W W'):rQ W' a xs:=by
 rcases h with h | ⟨b,off,e,hb,h⟩
 · exact .inl h
 · exact .inr ⟨b,off,e,ltT hb g.size,h.ag g hb⟩
def bC.cD (c:bC):Value:=.agg c.vals.toArray
end
section
open Go.RowKit
attribute [local go_sem] Oper.semAt_some
theorem uh (p:bC->Bool) (a:Option Addr) (cap:Nat) (xs:List bC) (w:World) (hA:rQ w a xs) (hx:xs.length<=1000000)
    (hp:∀j,j<xs.length->∀W,ae w W->Calls Tryz.prog 270 #[(bn xs j).cD] W fun e W'=>e=.returned (.bool (p (bn xs j)))/\ae W W'):
    Calls Tryz.prog 272 #[.slice a xs.length cap,.func (.func 270) #[] #[]] w fun e w'=>e=.returned (.int .i64 (b7 p xs))/\ae w w':=by
 have HA:=af hA
 have HP:=af hp
 clear hA hp
 go_in
 go_wp2_with fail
 go_loopw [8] (fun i wr=>∃k:Nat,k<=xs.length/\i=.int .i64 k/\Hid ((xs.take k).all (fun c=>!p c)=true)/\ae w wr) (fun i _=>xs.length - (intOf i).toNat)
 case atStart=>exact ⟨0,Nat.zero_le _,rfl,rfl,ae.rf w⟩
 case round=>
  obtain ⟨k,hk1,rfl,HN,hG⟩:=hrel
  by_cases aq:k<xs.length
  · rcases HA.out with h0 | ⟨b,off,rfl,hb,hR⟩
    · rw [h0] at aq;simp at aq
    have q0:=(hG.cells.1 b (off+k*5) hb).trans (hR.kind k aq)
    have q1:=(hG.cells.1 b (off+k*5+1) hb).trans (hR.key k aq)
    have q2:=(hG.cells.1 b (off+k*5+2) hb).trans (hR.val k aq)
    have q3:=(hG.cells.1 b (off+k*5+3) hb).trans (hR.old k aq)
    have q4:=(hG.cells.1 b (off+k*5+4) hb).trans (hR.di k aq)
    have HC:=af (HP.out k aq)
    have hat:bn xs k=xs[k]:=ym xs k aq
    have mF:=af hat
    clear hR hat
    have HS:=af (tU p xs k aq HN.out)
    have eI:=af (yR p xs k aq HN.out)
    rw [<-mF.out] at HS eI
    generalize bn xs k=c at *
    clear mF
    unfold bC.cD at HC
    cases hpc:p c with
    | true=>
     rw [hpc] at HC
     have dt:=af (HS.out hpc)
     obtain ⟨c0,c1,c2,c3,c4⟩:=c
     dsimp only [bC.vals] at *
     clear hpc HS eI
     go_wp2_with fail
     refine (HC.out _ hG).mono ?_
     rintro e w1 ⟨rfl,aA⟩
     go_wp2_with fail
     go_ret
     exact ⟨fV dt.out.symm,hG.trans aA⟩
    | false=>
     rw [hpc] at HC
     have dt:=af (eI.out hpc)
     obtain ⟨c0,c1,c2,c3,c4⟩:=c
     dsimp only [bC.vals] at *
     clear hpc HS eI
     go_wp2_with fail
     refine (HC.out _ hG).mono ?_
     rintro e w1 ⟨rfl,aA⟩
     go_wp2_with fail
     go_roundw
     case rel=>exact ⟨k+1,by omega,by go_num,dt,hG.trans aA⟩
     case measure=>simp [intOf];omega
  · obtain rfl:k=xs.length:=by omega
    have HE:=af (rL p xs (by have:=HN.out;rwa [zQ2] at this))
    go_wp2_with fail
    go_ret
    exact ⟨fV HE.out.symm,hG⟩
end
section
open Go.RowKit Go.Maps
attribute [local go_sem] Oper.semAt_some
theorem Nv:(Tryz.prog.info? 80).map (fun i=>(i.zero,i.size,i.bytes))=some (some (.agg #[.string ⟨#[]⟩,.string ⟨#[]⟩,.int .i64 0]),3,40):=by kernel_rfl
theorem K4:(Tryz.prog.info? 80).map (·.size)=some 3:=by kernel_rfl
structure Cx (w w':World) (v r:Value) (B n:Nat) (ys:List Value):Prop where
 form:∃g cap,r=.slice (some ⟨g,0,none⟩) n cap/\(v.ownBlock=some g\/w.heap.size<=g)
 row:w'.ownsRow B 80 3 r n ys
 grown:w.grownBy w' v.ownBlock
theorem Yq (w:World) (B:Nat) (v:Value) (n:Nat) (xs:List Value) (a0:Option Addr) (c0:Nat) (hv:v=.slice a0 n c0) (h:w.ownsRow B 80 3 v n xs) (hB:B<=w.heap.size) (vb:Nat) (pv:List Value) (vc:Nat) (hvb:w.heap[vb]? =some (.cells pv.toArray 80 (0,0))) (hpl:pv.length=3) (ke:∀u∈pv,u.oneCell'=true) (hbig:n<=1000000):
    Calls Tryz.prog 191 #[.slice a0 n c0,.int .i64 n,.slice (some ⟨vb,0,none⟩) 1 vc] w fun e w'=>∃r,e=.returned r/\Cx w w' v r B (n+1) (xs++pv):=by
 subst hv
 obtain ⟨i0,hi0,hz0,hz1,hz2⟩:=info_parts Nv
 have hcell:∀j u,pv[j]? =some u->w.cell? ((⟨vb,0,none⟩:Addr).add j)=some u:=fun j u hj=>by
  rw [Addr.add_lit,zK0,fA hvb];exact hj
 have HC:=af hcell
 have HP:=af hpl
 have H1:=af ke
 have HH:=af h
 have hnil:a0=none->n=0/\c0=0:=fun e=>by
  subst e
  rcases h.2 with ⟨e1,e2⟩ | ⟨_,_,_,e1,_⟩
  · cases e1;exact ⟨rfl,rfl⟩
  · cases e1
 clear hcell hpl ke h hvb
 go_in
 rcases HH.out.2 with ⟨e1,e2⟩ | ⟨g,cap,cur,e1,e3,e4,e5,e6,e7,e8⟩
 · cases e1
   clear e2 hnil
   go_wp2_with (at_builtin;refine wpList_append_lies _ rfl _ _ 84 rfl B 80 i0 _ 3 40 Tryz.underlying84 hi0 hz0 hz1 hz2 rfl (by omega) _ 0 xs rfl HH.out ⟨vb,0,none⟩ 1 vc pv rfl HP.out HC.out H1.out (by omega) (by unfold maxLen;omega) (by omega) hB _ rfl ?_)
   intro g cap w1 aD hgrow hat aq
   have HO:=af aD
   have HG:=af hgrow
   have HA:=af hat
   clear aD hgrow hat
   go_wp2_with fail
   go_ret
   exact ⟨_,rfl,⟨g,cap,rfl,by rcases HA.out with h | h;exact .inl h;exact .inr (by omega)⟩,HO.out,HG.out⟩
 · cases e1
   clear e4 e7 e8 hnil
   have hcap:c0<=9223372036854775807:=by unfold maxLen at e6;omega
   by_cases hc:c0=n
   · subst hc
     go_wp2_with (at_builtin;refine wpList_append_lies _ rfl _ _ 84 rfl B 80 i0 _ 3 40 Tryz.underlying84 hi0 hz0 hz1 hz2 rfl (by omega) _ c0 xs rfl HH.out ⟨vb,0,none⟩ 1 vc pv rfl HP.out HC.out H1.out (by omega) (by unfold maxLen;omega) (by omega) hB _ rfl ?_)
     intro g' cap w1 aD hgrow hat aq
     have HO:=af aD
     have HG:=af hgrow
     have HA:=af hat
     clear aD hgrow hat
     go_wp2_with fail
     go_ret
     exact ⟨_,rfl,⟨g',cap,rfl,by rcases HA.out with h | h;exact .inl h;exact .inr (by omega)⟩,HO.out,HG.out⟩
   · go_wp2_with (at_builtin;refine wpList_append_lies _ rfl _ _ 84 rfl B 80 i0 _ 3 40 Tryz.underlying84 hi0 hz0 hz1 hz2 rfl (by omega) _ n xs rfl HH.out ⟨vb,0,none⟩ 1 vc pv rfl HP.out HC.out H1.out (by omega) (by unfold maxLen;omega) (by omega) hB _ rfl ?_)
     intro g' cap w1 aD hgrow hat aq
     have HO:=af aD
     have HG:=af hgrow
     have HA:=af hat
     clear aD hgrow hat
     go_wp2_with fail
     go_ret
     exact ⟨_,rfl,⟨g',cap,rfl,by rcases HA.out with h | h;exact .inl h;exact .inr (by omega)⟩,HO.out,HG.out⟩
theorem Yr (w:World):(Go.sizeOf 80).run Tryz.prog w=.ok 3 w:=by kernel_rfl
theorem Yt (w:World) (B b n c i:Nat) (cur:List Value) (hb:w.heap[b]? =some (.cells cur.toArray 80 (0,0))) (hBb:B<=b) (hnc:n<c) (hc:c<=9223372036854775807) (hcl:cur.length=c*3) (hi:i<n) (vb:Nat) (pv:List Value) (vc:Nat) (hvb:w.heap[vb]? =some (.cells pv.toArray 80 (0,0))) (hpl:pv.length=3) (ke:∀u∈pv,u.oneCell'=true) (h1c:∀u∈cur.take (n*3),u.oneCell'=true) (hbig:n<=1000000) (hne:vb≠b):
    Calls Tryz.prog 191 #[.slice (some ⟨b,0,none⟩) n c,.int .i64 i,.slice (some ⟨vb,0,none⟩) 1 vc] w fun e w'=>∃r,e=.returned r/\Cx w w' (.slice (some ⟨b,0,none⟩) n c) r B (n+1) ((cur.take (n*3)).take (i*3)++pv++(cur.take (n*3)).drop (i*3)):=by
 have hcell:∀j u,pv[j]? =some u->w.cell? ((⟨vb,0,none⟩:Addr).add j)=some u:=fun j u hj=>by
  rw [Addr.add_lit,zK0,fA hvb];exact hj
 obtain ⟨cs1,fg⟩:∃cs1,cs1=(cur.take (n*3)).drop (i*3):=⟨_,rfl⟩
 have hl1:cs1.length=(n - i)*3:=by rw [fg];simp;omega
 have uj:∀ty dc sc,(Builtin.copy_ #[84,84] ty #[.slice (some ⟨b,(i+1)*3,none⟩) (n+1 - (i+1)) dc,.slice (some ⟨b,i*3,none⟩) (n+1 - i) sc]).run Tryz.prog w.drew=.ok (goInt ((n - i:Nat):Int)) (w.drew.setRow b (cz cur ((i+1)*3) cs1).toArray):=fun ty dc sc=>
  A4 w.drew _ _ ty 80 3 (n - i) b ((i+1)*3) (n+1 - (i+1)) dc ⟨b,i*3,none⟩ (n+1 - i) sc cur 80 cs1 Tryz.underlying84 K4 hb (by simp only [Nat.min_def];split<;> omega) hl1
   (fun j v hj=>by
    rw [Addr.add_lit]
    show w.cell? _=_
    rw [fA hb]
    rw [fg,List.getElem?_drop,List.getElem?_take] at hj
    split at hj
    · exact hj
    · cases hj)
   (by rw [hl1,hcl];omega) (fun v hv=>h1c v (by rw [fg] at hv;exact zX7 hv))
 obtain ⟨W1,hW1⟩:∃W1,W1=w.drew.setRow b (cz cur ((i+1)*3) cs1).toArray:=⟨_,rfl⟩
 have pK:W1.heap[b]? =some (.cells (cz cur ((i+1)*3) cs1).toArray 80 (0,0)):=by rw [hW1];exact setRow_heap w.drew b _ _ _ _ hb
 have hll:(cz cur ((i+1)*3) cs1).length=cur.length:=qN _ _ _ (by rw [hl1,hcl];omega)
 have uk:∀ty dc,(Builtin.copy_ #[84,84] ty #[.slice (some ⟨b,i*3,none⟩) (n+1 - i) dc,.slice (some ⟨vb,0,none⟩) 1 vc]).run Tryz.prog W1=.ok (goInt ((1:Nat):Int)) (W1.setRow b (cz (cz cur ((i+1)*3) cs1) (i*3) pv).toArray):=fun ty dc=>
  A4 W1 _ _ ty 80 3 1 b (i*3) (n+1 - i) dc ⟨vb,0,none⟩ 1 vc _ 80 pv Tryz.underlying84 K4 pK (by simp only [Nat.min_def];split<;> omega) (by rw [hpl])
   (fun j v hj=>by
    rw [hW1,Addr.add_lit,zK0,World.cell?_of_block (w:=w.drew) (setRow_other w.drew b vb _ hne)]
    show w.cell? _=_
    rw [fA hvb];exact hj)
   (by rw [hpl,hll,hcl];omega) ke
 have um:∀ty dc sc,(Builtin.copy_ #[84,84] ty #[.slice (some ⟨b,(i+1)*3,none⟩) (n - i) dc,.slice (some ⟨b,i*3,none⟩) (n+1 - i) sc]).run Tryz.prog w.drew=.ok (goInt ((n - i:Nat):Int)) W1:=fun ty dc sc=>by rw [hW1];have:=uj ty dc sc;rwa [show n+1 - (i+1)=n - i by omega] at this
 obtain ⟨W2,hW2⟩:∃W2,W2=W1.setRow b (cz (cz cur ((i+1)*3) cs1) (i*3) pv).toArray:=⟨_,rfl⟩
 have uq:∀ty dc,(Builtin.copy_ #[84,84] ty #[.slice (some ⟨b,i*3,none⟩) (n+1 - i) dc,.slice (some ⟨vb,0,none⟩) 1 vc]).run Tryz.prog W1=.ok (goInt ((1:Nat):Int)) W2:=fun ty dc=>by rw [hW2];exact uk ty dc
 have cB:Hid (Cx w W2 (.slice (some ⟨b,0,none⟩) n c) (.slice (some ⟨b,0,none⟩) (n+1) c) B (n+1) ((cur.take (n*3)).take (i*3)++pv++(cur.take (n*3)).drop (i*3))):=by
  refine ⟨⟨b,c,rfl,.inl rfl⟩,?_,?_⟩
  · refine na (cur:=cz (cz cur ((i+1)*3) cs1) (i*3) pv) hBb (by rw [hW2];exact setRow_heap _ _ _ _ _ _ pK) (by omega) hc (by rw [qN _ _ _ (by rw [hpl,hll,hcl];omega),hll,hcl]) ?_
    rw [fg,show (i+1)*3=i*3+3 by omega,show (n+1)*3=n*3+3 by omega]
    exact S3 cur (i*3) 3 (n*3) _ pv hpl (by omega) (by rw [hcl];omega) rfl
  · have g1:w.grownBy W1 (some b):=by rw [hW1];exact (show w.grownBy w.drew (some b) from ⟨rfl,rfl,rfl,zZ3 _,fun _ _ _=>rfl⟩).trans (A5 w.drew b _)
    have g2:w.grownBy W2 (some b):=by rw [hW2];exact g1.trans (A5 W1 b _)
    exact g2
 have Nw:vb<w.heap.size:=(zZ2.1 hvb).1
 have hov:∀lb cb,(callFunc 199 #[.slice (some ⟨vb,0,none⟩) 1 vc,.slice (some ⟨b,(i+1)*3,none⟩) lb cb]).run Tryz.prog w=.ok (.value (.bool false)) w:=fun lb cb=>by
  rw [run_callFunc_extern Tryz.func199 (by kernel_rfl) (by kernel_rfl) (by kernel_rfl) (e:=Extern.SlicesOverlaps.overlaps #[84,84] #[4]) (by kernel_rfl),
   Lib.run_overlaps_apart w 84 4 80 Tryz.underlying84 3 Yr ⟨vb,0,none⟩ ⟨b,(i+1)*3,none⟩ 1 vc lb cb hne 80 80 3 (c*3) (by simp [World.shape?,hvb,hpl]) (by simp [World.shape?,hb,hcl]) (by omega) (frozen_of_row w vb 0 _ _ hvb) (frozen_of_row w vb 3 _ _ hvb)]
  rfl
 have hbl:b<w.heap.size:=(zZ2.1 hb).1
 have z1:¬((i:Int)=(n:Int)):=by omega
 have z2:¬(c<n+1):=by omega
 have z3:¬((c:Int)<(n:Int)+1):=by omega
 have z4:IntKind.i64.wrap ((i:Int)+1)=(i:Int)+1:=IntWalk.i64_in _ (by omega)
 have z5:(0:Int)<=(i:Int)+1:=by omega
 have z6:((i:Int)+1).toNat=i+1:=by omega
 have z7:¬(c=i+1):=by omega
 have z8:¬(c=i):=by omega
 have z9:(i:Int)<=(n:Int)+1:=by omega
 have z10:i<=n:=by omega
 clear fg uj uk pK hW1 hW2 hcell hb hvb hcl hl1 hll h1c ke hpl hi
 go_in
 go_wp2_with (simp only [hov])
 go_region_law (refine KY rfl (.tmp 73) (.tmp 76) 84 84 rfl (.slice (some ⟨b,(i+1)*3,none⟩) (n - i) (c - (i+1))) (.slice (some ⟨b,i*3,none⟩) (n+1 - i) (c - i)) (by simp [Act.eval,Act.put]) (by simp [Act.eval,Act.put]) (um _ _ _) ?_)
 go_wp2_with (at_builtin;refine KX _ rfl _ _ 84 84 rfl _ _ rfl rfl (uq _ _) ?_)
 go_ret
 exact ⟨_,rfl,cB.out⟩
theorem Cy:(Value.cells (.agg #[.string ⟨#[]⟩,.string ⟨#[]⟩,.int .i64 0])).size=3:=by kernel_rfl
theorem Yu (w:World) (B b n i:Nat) (cur:List Value) (hb:w.heap[b]? =some (.cells cur.toArray 80 (0,0))) (hB:B<=w.heap.size) (hcl:cur.length=n*3) (hi:i<n) (vb:Nat) (pv:List Value) (vc:Nat) (hvb:w.heap[vb]? =some (.cells pv.toArray 80 (0,0))) (hpl:pv.length=3) (ke:∀u∈pv,u.oneCell'=true) (h1c:∀u∈cur,u.oneCell'=true) (hbig:n<=1000000):
    Calls Tryz.prog 191 #[.slice (some ⟨b,0,none⟩) n n,.int .i64 i,.slice (some ⟨vb,0,none⟩) 1 vc] w fun e w'=>∃r,e=.returned r/\Cx w w' (.slice (some ⟨b,0,none⟩) n n) r B (n+1) (cur.take (i*3)++pv++cur.drop (i*3)):=by
 obtain ⟨i0,hi0,hz0,hzs,hzb⟩:=info_parts Nv
 have GR:b<w.heap.size:=(zZ2.1 hb).1
 have Ny:vb<w.heap.size:=(zZ2.1 hvb).1
 have hold:(Builtin.firstCells i0.size i (.slice (some ⟨b,0,none⟩) i n)).run Tryz.prog w.drew=.ok (cur.take (i*3)).toArray w.drew:=by
  rw [hzs]
  exact run_firstCells_some w.drew 3 i ⟨b,0,none⟩ i n (cur.take (i*3)) (by rw [List.length_take];omega) (fun j v hj=>by
   rw [Addr.add_lit,zK0]
   show w.cell? _=_
   rw [fA hb]
   rw [List.getElem?_take] at hj
   split at hj
   · exact hj
   · cases hj)
 obtain ⟨G,hG⟩:∃G,G=grownCap w (n+1) n 80:=⟨_,rfl⟩
 obtain ⟨R,hR⟩:∃R:List Value,R=cur.take (i*3)++(Builtin.zeroCells (Value.cells (.agg #[.string ⟨#[]⟩,.string ⟨#[]⟩,.int .i64 0])) (n+1 - i)).toList++(Builtin.zeroCells (Value.cells (.agg #[.string ⟨#[]⟩,.string ⟨#[]⟩,.int .i64 0])) (G - (n+1))).toList:=⟨_,rfl⟩
 have nL:n+1<=G:=by rw [hG];exact grownCap_ge w _ _ _
 have Cz:G<=9223372036854775807:=by
  have:=grownCap_le_maxLen w (n+1) n 80 (by unfold maxLen;omega)
  rw [<-hG] at this
  unfold maxLen at this
  omega
 have ur:R.length=G*3:=by
  rw [hR]
  simp only [zX8,Array.length_toList,size_zeroCells,Cy,List.length_take]
  omega
 have GS:∀ty,(Builtin.append_ #[84,3] ty #[.slice (some ⟨b,0,none⟩) i n,.int .i64 ((n:Int)+1 - (i:Int))]).run Tryz.prog w=
     .ok (.slice (some ⟨w.heap.size,0,none⟩) (n+1) G) ((w.alloc (.cells R.toArray 80)).drew):=fun ty=>by
  have h:=Lib.run_append_grow_zeros w 84 3 ty 80 i0 _ .i64 .i64 Tryz.underlying84 Tryz.underlying3 hi0 hz0 (some ⟨b,0,none⟩) i n (cur.take (i*3)) hold (n+1 - i) (by omega) (by omega) (by omega) (by omega) (by rw [hzb];omega) (by rw [hzb,show i+(n+1 - i)=n+1 by omega];exact growslice_fits (by omega) (by omega))
  rw [show i+(n+1 - i)=n+1 by omega,<-hG] at h
  rw [show (n:Int)+1 - (i:Int)=((n+1 - i:Nat):Int) by omega,h,hR]
  simp only [<-List.append_toArray,Array.toArray_toList]
  rfl
 obtain ⟨WA,uu⟩:∃WA,WA=(w.alloc (.cells R.toArray 80)).drew:=⟨_,rfl⟩
 have CA:WA.heap[w.heap.size]? =some (.cells R.toArray 80 (0,0)):=by rw [uu];exact heap_alloc_new w _
 have kN:∀k,k<w.heap.size->WA.heap[k]? =w.heap[k]? :=fun k hk=>by rw [uu];exact heap_alloc_old w _ hk
 rw [<-uu] at GS
 have uv:∀ty dc,(Builtin.copy_ #[84,84] ty #[.slice (some ⟨w.heap.size,i*3,none⟩) (n+1 - i) dc,.slice (some ⟨vb,0,none⟩) 1 vc]).run Tryz.prog WA=.ok (goInt ((1:Nat):Int)) (WA.setRow w.heap.size (cz R (i*3) pv).toArray):=fun ty dc=>
  A4 WA _ _ ty 80 3 1 w.heap.size (i*3) (n+1 - i) dc ⟨vb,0,none⟩ 1 vc R 80 pv Tryz.underlying84 K4 CA (by simp only [Nat.min_def];split<;> omega) (by rw [hpl])
   (fun j v hj=>by rw [Addr.add_lit,zK0,World.cell?_of_block (w:=w) (kN vb Ny),fA hvb];exact hj)
   (by rw [hpl,ur];omega) ke
 obtain ⟨WB,uw⟩:∃WB,WB=WA.setRow w.heap.size (cz R (i*3) pv).toArray:=⟨_,rfl⟩
 have hll:(cz R (i*3) pv).length=G*3:=by rw [qN _ _ _ (by rw [hpl,ur];omega),ur]
 have CB:WB.heap[w.heap.size]? =some (.cells (cz R (i*3) pv).toArray 80 (0,0)):=by rw [uw];exact setRow_heap _ _ _ _ _ _ CA
 have nW:∀k,k<w.heap.size->WB.heap[k]? =w.heap[k]? :=fun k hk=>by rw [uw];exact (setRow_other WA _ k _ (by omega)).trans (kN k hk)
 rw [<-uw] at uv
 obtain ⟨cs1,fg⟩:∃cs1,cs1=cur.drop (i*3):=⟨_,rfl⟩
 have hl1:cs1.length=(n - i)*3:=by rw [fg];simp;omega
 have ux:∀ty dc sc,(Builtin.copy_ #[84,84] ty #[.slice (some ⟨w.heap.size,(i+1)*3,none⟩) (n - i) dc,.slice (some ⟨b,i*3,none⟩) (n - i) sc]).run Tryz.prog WB.drew=.ok (goInt ((n - i:Nat):Int)) (WB.drew.setRow w.heap.size (cz (cz R (i*3) pv) ((i+1)*3) cs1).toArray):=fun ty dc sc=>
  A4 WB.drew _ _ ty 80 3 (n - i) w.heap.size ((i+1)*3) (n - i) dc ⟨b,i*3,none⟩ (n - i) sc _ 80 cs1 Tryz.underlying84 K4 CB (by simp only [Nat.min_def];split<;> omega) hl1
   (fun j v hj=>by
    rw [Addr.add_lit]
    show WB.cell? _=_
    rw [World.cell?_of_block (w:=w) (nW b GR),fA hb]
    rw [fg,List.getElem?_drop] at hj
    exact hj)
   (by rw [hl1,hll];omega) (fun v hv=>h1c v (by rw [fg] at hv;exact zX7 hv))
 obtain ⟨WC,yY⟩:∃WC,WC=WB.drew.setRow w.heap.size (cz (cz R (i*3) pv) ((i+1)*3) cs1).toArray:=⟨_,rfl⟩
 rw [<-yY] at ux
 have cB:Hid (Cx w WC (.slice (some ⟨b,0,none⟩) n n) (.slice (some ⟨w.heap.size,0,none⟩) (n+1) G) B (n+1) (cur.take (i*3)++pv++cur.drop (i*3))):=by
  refine ⟨⟨w.heap.size,G,rfl,.inr (zZ3 _)⟩,?_,?_⟩
  · refine na (cur:=cz (cz R (i*3) pv) ((i+1)*3) cs1) hB (by rw [yY];exact setRow_heap _ _ _ _ _ _ CB) nL Cz (by rw [qN _ _ _ (by rw [hl1,hll];omega),hll]) ?_
    rw [show (n+1)*3=(i+1)*3+cs1.length by rw [hl1];omega,Fw _ _ _ (by rw [hll];omega),show (i+1)*3=i*3+pv.length by rw [hpl];omega,Fw _ _ _ (by rw [ur];omega),fg,hR]
    congr 2
    rw [List.append_assoc,List.take_append_of_le_length (by simp;omega)]
    exact zQ7 (by simp;omega)
  · have g1:aj (fun _=>False) w WA:=by rw [uu];exact (((ae.rf w).alloc _).drew).only _
    have g2:aj (fun j=>j=w.heap.size) w WB:=by rw [uw];exact (g1.mono (fun j hj=>hj.elim)).then (Fx WA _ _)
    have g3:aj (fun j=>j=w.heap.size) w WC:=by rw [yY];exact g2.drew.then (Fx WB.drew _ _)
    exact g3.mD (fun j hj=> .inr (by omega))
 have z1:¬((i:Int)=(n:Int)):=by omega
 have z4:IntKind.i64.wrap ((i:Int)+1)=(i:Int)+1:=IntWalk.i64_in _ (by omega)
 have z5:(0:Int)<=(i:Int)+1:=by omega
 have z6:((i:Int)+1).toNat=i+1:=by omega
 have z7:¬(G=i+1):=by omega
 have z8:¬(G=i):=by omega
 have z9:(i:Int)<=(n:Int):=by omega
 have z10:i<=n:=by omega
 have Nz:¬(n=i):=by omega
 have z12:(n:Int)<(n:Int)+1:=by omega
 clear hold hG hR nL ur uu CA kN uw hll CB nW fg hl1 yY hb hvb hcl h1c ke hpl hi
 go_in
 go_wp2_with (first
  | (at_builtin;refine Lib.wpList_append_run _ rfl _ _ _ _ rfl _ _ rfl rfl _ _ (GS _) ?_)
  | (at_builtin;refine KX _ rfl _ _ 84 84 rfl _ _ rfl rfl (uv _ _) ?_))
 go_region_law (refine KY rfl (.tmp 50) (.tmp 53) 84 84 rfl (.slice (some ⟨w.heap.size,(i+1)*3,none⟩) (n - i) (G - (i+1))) (.slice (some ⟨b,i*3,none⟩) (n - i) (n - i)) (by simp [Act.eval,Act.put]) (by simp [Act.eval,Act.put]) (ux _ _ _) ?_)
 go_wp2_with fail
 go_ret
 exact ⟨_,rfl,cB.out⟩
theorem yZ (w:World) (B:Nat) (a0:Option Addr) (n c0:Nat) (xs:List Value) (h:w.ownsRow B 80 3 (.slice a0 n c0) n xs) (hB:B<=w.heap.size) (h1:∀u∈xs,u.oneCell'=true) (i:Nat) (hi:i<=n) (vb:Nat) (pv:List Value) (vc:Nat) (hvb:w.heap[vb]? =some (.cells pv.toArray 80 (0,0))) (hpl:pv.length=3) (ke:∀u∈pv,u.oneCell'=true) (hbig:n<=1000000) (hne:Value.ownBlock (.slice a0 n c0)≠some vb):
    Calls Tryz.prog 191 #[.slice a0 n c0,.int .i64 i,.slice (some ⟨vb,0,none⟩) 1 vc] w fun e w'=>∃r,e=.returned r/\Cx w w' (.slice a0 n c0) r B (n+1) (xs.take (i*3)++pv++xs.drop (i*3)):=by
 by_cases hin:i=n
 · subst hin
   rw [<-h.1,zQ2,List.drop_length,List.append_nil]
   exact Yq w B _ i xs a0 c0 rfl h hB vb pv vc hvb hpl ke hbig
 · obtain ⟨g,cap,cur,e,hBg,hg,hnc,CC,hcl,hx⟩:=rP h (by omega)
   cases e
   subst hx
   by_cases hr:n<c0
   · exact Yt w B g n c0 i cur hg hBg hr CC hcl (by omega) vb pv vc hvb hpl ke h1 hbig (fun e=>hne (by rw [e];rfl))
   · obtain rfl:c0=n:=by omega
     have hw:cur.take (c0*3)=cur:=zQ7 (by omega)
     rw [hw] at h1 ⊢
     exact Yu w B g c0 i cur hg hB hcl (by omega) vb pv vc hvb hpl ke h1 hbig
end
section
open Go.RowKit
structure Sh where
 id:Int
 server:Int
 since:Int
 lo:ByteArray
 hi:ByteArray
def Sh.none:Sh:=⟨0,0,0,⟨#[]⟩,⟨#[]⟩⟩
instance:Inhabited Sh:=⟨Sh.none⟩
def Sh.vals (c:Sh):List Value:=[.int .i64 c.id,.int .i64 c.server,.int .i64 c.since,.string c.lo,.string c.hi]
def ah (xs:List Sh) (j:Nat):Sh:=xs[j]?.getD Sh.none
def dC (xs:List Sh):List Value:=xs.flatMap Sh.vals
theorem kD (xs:List Sh) (i:Nat) (hi:i<xs.length):ah xs i=xs[i]:=by unfold ah;rw [List.getElem?_eq_getElem hi];rfl
theorem kE (xs:List Sh) (k:Nat) (h:k<xs.length):ah xs k∈xs:=by rw [kD xs k h];exact zQ5 h
theorem sZ (xs:List Sh):(dC xs).length=xs.length*5:=by
 induction xs with
 | nil=>rfl
 | cons c xs ih=>unfold dC at ih ⊢;rw [List.flatMap_cons,zX8,ih];simp [Sh.vals];omega
theorem mH (i:Nat) (hi:i<5):∀(xs:List Sh) (j:Nat),j<xs.length->(dC xs)[j*5+i]? =(ah xs j).vals[i]? :=by
 intro xs
 induction xs with
 | nil=>intro j hj;simp at hj
 | cons c xs ih=>
  intro j hj
  unfold dC at ih ⊢
  rw [List.flatMap_cons]
  cases j with
  | zero=>rw [List.getElem?_append_left (by simp [Sh.vals];omega)];simp [ah]
  | succ j=>
   rw [List.getElem?_append_right (by simp [Sh.vals];omega)]
   have e:(j+1)*5+i - c.vals.length=j*5+i:=by simp [Sh.vals];omega
   rw [e,ih j (by simpa using hj)]
   simp [ah]
theorem A8 (xs ys:List Sh):dC (xs++ys)=dC xs++dC ys:=by unfold dC;rw [List.flatMap_append]
theorem Tb (c:Sh):dC [c]=c.vals:=by simp [dC]
theorem Lc (xs:List Sh) (i:Nat):dC (xs.take i)=(dC xs).take (i*5):=by
 by_cases h:i<=xs.length
 · have e:dC xs=dC (xs.take i)++dC (xs.drop i):=by rw [<-A8,List.take_append_drop]
   have h2:(dC (xs.take i)).length=i*5:=by rw [sZ,List.length_take];omega
   rw [e,<-h2,List.take_left]
 · have h2:(dC xs).length<=i*5:=by rw [sZ];omega
   rw [zQ7 (show xs.length<=i by omega),zQ7 h2]
theorem Ld (xs:List Sh) (i:Nat):dC (xs.drop i)=(dC xs).drop (i*5):=by
 by_cases h:i<=xs.length
 · have e:dC xs=dC (xs.take i)++dC (xs.drop i):=by rw [<-A8,List.take_append_drop]
   have h2:(dC (xs.take i)).length=i*5:=by rw [sZ,List.length_take];omega
   rw [e,<-h2,List.drop_left]
 · have h2:(dC xs).length<=i*5:=by rw [sZ];omega
   rw [zJ5 (show xs.length<=i by omega),zJ5 h2];rfl
structure qO (W:World) (b off:Nat) (xs:List Sh):Prop where
 id:∀j,j<xs.length->W.cell? ⟨b,off+j*5,Option.none⟩=some (.int .i64 (ah xs j).id)
 server:∀j,j<xs.length->W.cell? ⟨b,off+j*5+1,Option.none⟩=some (.int .i64 (ah xs j).server)
 since:∀j,j<xs.length->W.cell? ⟨b,off+j*5+2,Option.none⟩=some (.int .i64 (ah xs j).since)
 lo:∀j,j<xs.length->W.cell? ⟨b,off+j*5+3,Option.none⟩=some (.string (ah xs j).lo)
 hi:∀j,j<xs.length->W.cell? ⟨b,off+j*5+4,Option.none⟩=some (.string (ah xs j).hi)
theorem qO.ag {W W':World} {b off:Nat} {xs:List Sh} (h:qO W b off xs) (g:ae W W') (hb:b<W.heap.size):qO W' b off xs:=
 ⟨fun j hj=>(g.cells.1 _ _ hb).trans (h.id j hj),fun j hj=>(g.cells.1 _ _ hb).trans (h.server j hj),fun j hj=>(g.cells.1 _ _ hb).trans (h.since j hj),fun j hj=>(g.cells.1 _ _ hb).trans (h.lo j hj),fun j hj=>(g.cells.1 _ _ hb).trans (h.hi j hj)⟩
def iR (W:World) (a:Option Addr) (xs:List Sh):Prop:=xs=[]\/∃b off,a=some ⟨b,off,Option.none⟩/\b<W.heap.size/\qO W b off xs
theorem iR.ag {W W':World} {a:Option Addr} {xs:List Sh} (h:iR W a xs) (g:ae W W'):iR W' a xs:=by
 rcases h with h | ⟨b,off,e,hb,h⟩
 · exact .inl h
 · exact .inr ⟨b,off,e,ltT hb g.size,h.ag g hb⟩
theorem A9 {W:World} {B:Nat} {v:Value} {xs:List Sh} (h:W.ownsRow B 128 5 v xs.length (dC xs)):∃a cap,v=.slice a xs.length cap/\iR W a xs:=by
 rcases zX9 xs.length with h0 | h0
 · have hx:xs=[]:=zX1 h0
   rcases h.2 with ⟨rfl,_⟩ | ⟨g,cap,cur,rfl,_,hg,_⟩
   · exact ⟨Option.none,0,by rw [h0],.inl hx⟩
   · exact ⟨_,_,rfl,.inl hx⟩
 · obtain ⟨g,cap,rfl,_,aq⟩:=h.form h0
   refine ⟨_,_,rfl,.inr ⟨g,0,rfl,aq,?_,?_,?_,?_,?_⟩⟩<;> intro j hj
   · have:=h.cellAt (j*5+0) (by omega);rw [mH 0 (by omega) xs j hj] at this;rw [zK0];exact this
   · have:=h.cellAt (j*5+1) (by omega);rw [mH 1 (by omega) xs j hj] at this;rw [zK0];exact this
   · have:=h.cellAt (j*5+2) (by omega);rw [mH 2 (by omega) xs j hj] at this;rw [zK0];exact this
   · have:=h.cellAt (j*5+3) (by omega);rw [mH 3 (by omega) xs j hj] at this;rw [zK0];exact this
   · have:=h.cellAt (j*5+4) (by omega);rw [mH 4 (by omega) xs j hj] at this;rw [zK0];exact this
theorem Le (xs:List Sh):∀u∈dC xs,u.oneCell'=true:=by
 intro u hu
 unfold dC at hu
 obtain ⟨c,_,hc⟩:=List.mem_flatMap.1 hu
 simp [Sh.vals] at hc
 rcases hc with rfl | rfl | rfl | rfl | rfl<;> rfl
def Sh.cD (c:Sh):Value:=.agg c.vals.toArray
end
section
open Go.RowKit Go.Maps
attribute [local go_sem] Oper.semAt_some
structure Pr where
 key:ByteArray
 val:ByteArray
 di:Int
def Pr.none:Pr:=⟨⟨#[]⟩,⟨#[]⟩,0⟩
def Pr.vals (c:Pr):List Value:=[.string c.key,.string c.val,.int .i64 c.di]
def Pr.agg (c:Pr):Value:=.agg #[.string c.key,.string c.val,.int .i64 c.di]
def bM (xs:List Pr):List Value:=xs.flatMap Pr.vals
def ay (xs:List Pr) (j:Nat):Pr:=xs[j]?.getD Pr.none
theorem jt (xs:List Pr) (i:Nat) (hi:i<xs.length):ay xs i=xs[i]:=by unfold ay;rw [List.getElem?_eq_getElem hi];rfl
theorem uY (xs:List Pr):(bM xs).length=xs.length*3:=by
 induction xs with
 | nil=>rfl
 | cons c xs ih=>unfold bM at ih ⊢;rw [List.flatMap_cons,zX8,ih];simp [Pr.vals];omega
theorem Da (i:Nat) (hi:i<3):∀(xs:List Pr) (j:Nat),j<xs.length->(bM xs)[j*3+i]? =(ay xs j).vals[i]? :=by
 intro xs
 induction xs with
 | nil=>intro j hj;simp at hj
 | cons c xs ih=>
  intro j hj
  unfold bM at ih ⊢
  rw [List.flatMap_cons]
  cases j with
  | zero=>rw [List.getElem?_append_left (by simp [Pr.vals];omega)];simp [ay]
  | succ j=>
   rw [List.getElem?_append_right (by simp [Pr.vals];omega)]
   have e:(j+1)*3+i - c.vals.length=j*3+i:=by simp [Pr.vals];omega
   rw [e,ih j (by simpa using hj)]
   simp [ay]
theorem jZ (xs ys:List Pr):bM (xs++ys)=bM xs++bM ys:=by unfold bM;rw [List.flatMap_append]
theorem uZ (c:Pr):bM [c]=c.vals:=by simp [bM]
theorem Oo (xs:List Pr) (i:Nat):bM (xs.take i)=(bM xs).take (i*3):=by
 by_cases h:i<=xs.length
 · have e:bM xs=bM (xs.take i)++bM (xs.drop i):=by rw [<-jZ,List.take_append_drop]
   have h2:(bM (xs.take i)).length=i*3:=by rw [uY,List.length_take];omega
   rw [e,<-h2,List.take_left]
 · have h2:(bM xs).length<=i*3:=by rw [uY];omega
   rw [zQ7 (show xs.length<=i by omega),zQ7 h2]
theorem Oq (xs:List Pr) (i:Nat):bM (xs.drop i)=(bM xs).drop (i*3):=by
 by_cases h:i<=xs.length
 · have e:bM xs=bM (xs.take i)++bM (xs.drop i):=by rw [<-jZ,List.take_append_drop]
   have h2:(bM (xs.take i)).length=i*3:=by rw [uY,List.length_take];omega
   rw [e,<-h2,List.drop_left]
 · have h2:(bM xs).length<=i*3:=by rw [uY];omega
   rw [zJ5 (show xs.length<=i by omega),zJ5 h2];rfl
theorem Hk (xs:List Pr):∀u∈bM xs,u.oneCell'=true:=by
 intro u hu
 unfold bM at hu
 obtain ⟨c,_,hc⟩:=List.mem_flatMap.1 hu
 simp [Pr.vals] at hc
 rcases hc with rfl | rfl | rfl<;> rfl
structure tC (W:World) (b off:Nat) (xs:List Pr):Prop where
 key:∀j,j<xs.length->W.cell? ⟨b,off+j*3,none⟩=some (.string (ay xs j).key)
 val:∀j,j<xs.length->W.cell? ⟨b,off+j*3+1,none⟩=some (.string (ay xs j).val)
 di:∀j,j<xs.length->W.cell? ⟨b,off+j*3+2,none⟩=some (.int .i64 (ay xs j).di)
theorem tC.ag {W W':World} {b off:Nat} {xs:List Pr} (h:tC W b off xs) (g:ae W W') (hb:b<W.heap.size):tC W' b off xs:=
 ⟨fun j hj=>(g.cells.1 _ _ hb).trans (h.key j hj),fun j hj=>(g.cells.1 _ _ hb).trans (h.val j hj),fun j hj=>(g.cells.1 _ _ hb).trans (h.di j hj)⟩
def lI (W:World) (a:Option Addr) (xs:List Pr):Prop:=xs=[]\/∃b off,a=some ⟨b,off,none⟩/\b<W.heap.size/\tC W b off xs
theorem lI.ag {W W':World} {a:Option Addr} {xs:List Pr} (h:lI W a xs) (g:ae W W'):lI W' a xs:=by
 rcases h with h | ⟨b,off,e,hb,h⟩
 · exact .inl h
 · exact .inr ⟨b,off,e,ltT hb g.size,h.ag g hb⟩
theorem lJ {W:World} {B:Nat} {v:Value} {xs:List Pr} (h:W.ownsRow B 80 3 v xs.length (bM xs)):∃a cap,v=.slice a xs.length cap/\lI W a xs:=by
 rcases zX9 xs.length with h0 | h0
 · have hx:xs=[]:=zX1 h0
   rcases h.2 with ⟨rfl,_⟩ | ⟨g,cap,cur,rfl,_,hg,_⟩
   · exact ⟨none,0,by rw [h0],.inl hx⟩
   · exact ⟨_,_,rfl,.inl hx⟩
 · obtain ⟨g,cap,rfl,_,aq⟩:=h.form h0
   refine ⟨_,_,rfl,.inr ⟨g,0,rfl,aq,?_,?_,?_⟩⟩<;> intro j hj
   · have:=h.cellAt (j*3+0) (by omega);rw [Da 0 (by omega) xs j hj] at this;rw [zK0];exact this
   · have:=h.cellAt (j*3+1) (by omega);rw [Da 1 (by omega) xs j hj] at this;rw [zK0];exact this
   · have:=h.cellAt (j*3+2) (by omega);rw [Da 2 (by omega) xs j hj] at this;rw [zK0];exact this
theorem tC.drop {W:World} {b off:Nat} {xs:List Pr} (h:tC W b off xs) (i:Nat):tC W b (off+i*3) (xs.drop i):=by
 have e:∀j,ay (xs.drop i) j=ay xs (i+j):=fun j=>by unfold ay;rw [List.getElem?_drop]
 refine ⟨fun j hj=>?_,fun j hj=>?_,fun j hj=>?_⟩<;> (rw [zQ8] at hj;rw [e])
 · have:=h.key (i+j) (by omega);rwa [show off+(i+j)*3=off+i*3+j*3 by omega] at this
 · have:=h.val (i+j) (by omega);rwa [show off+(i+j)*3=off+i*3+j*3 by omega] at this
 · have:=h.di (i+j) (by omega);rwa [show off+(i+j)*3=off+i*3+j*3 by omega] at this
theorem tC.take {W:World} {b off:Nat} {xs:List Pr} (h:tC W b off xs) (i:Nat):tC W b off (xs.take i):=by
 have e:∀j,j<(xs.take i).length->ay (xs.take i) j=ay xs j:=fun j hj=>by unfold ay;rw [List.length_take] at hj;rw [List.getElem?_take,zZ1 (by omega)]
 refine ⟨fun j hj=>?_,fun j hj=>?_,fun j hj=>?_⟩<;> (rw [e j hj];rw [List.length_take] at hj)
 · exact h.key j (by omega)
 · exact h.val j (by omega)
 · exact h.di j (by omega)
theorem T7:(Tryz.prog.info? 80).map (fun i=>(i.zero,i.size,i.bytes))=some (some (.agg #[.string ⟨#[]⟩,.string ⟨#[]⟩,.int .i64 0]),3,40):=by kernel_rfl
theorem zC:(Value.cells (.agg #[.string ⟨#[]⟩,.string ⟨#[]⟩,.int .i64 0])).size=3:=by kernel_rfl
theorem T8 (gb off m c:Nat) (w:World):(binOp .eql 84 (.slice (some ⟨gb,off,none⟩) m c) (.slice none 0 0)).run Tryz.prog w=.ok (.bool false) w:=by kernel_rfl
theorem vD (w:World):(binOp .eql 84 (.slice none 0 0) (.slice none 0 0)).run Tryz.prog w=.ok (.bool true) w:=by kernel_rfl
theorem ZJ (w:World) (gb off m c:Nat) (hm:0<m) (hbig:m<=1000000) (news:List Value) (hl:news.length=m*3) (hnews:∀j u,news[j]? =some u->w.cell? ⟨gb,off+j,none⟩=some u) (h1:∀u∈news,u.oneCell'=true):
    Calls Tryz.prog 126 #[.slice (some ⟨gb,off,none⟩) m c] w fun e w'=>∃g cap,e=.returned (.slice (some ⟨g,0,none⟩) m cap)/\w'.ownsRow w.heap.size 80 3 (.slice (some ⟨g,0,none⟩) m cap) m news/\ae w w':=by
 obtain ⟨i0,hi0,hz0,hz1,hz2⟩:=info_parts T7
 have had:gb<w.heap.size:=by
  have h0:0<news.length:=by omega
  have h2:=World.block_lt_of_cell? _ _ (hnews 0 news[0] (List.getElem?_eq_getElem h0))
  exact h2
 have HN:Hid (∀(t:TypeId) j u,news[j]? =some u->(w.alloc (.cells #[] t)).cell? ⟨gb,off+j,none⟩=some u):=fun t j u hj=>by
  have:=hnews j u hj
  rw [<-this]
  exact ((ae.rf w).alloc _).below.cell (World.block_lt_of_cell? _ _ this)
 have HL:=af hl
 have H1:=af h1
 have HO:=af (fun (t:TypeId) (h:t=80)=>show (w.alloc (.cells #[] t)).ownsRow w.heap.size 80 3 (.slice (some ⟨w.heap.size,0,none⟩) 0 0) 0 [] from by
  subst h
  exact na (cur:=[]) (zZ3 _) (heap_alloc_new w _) (zZ3 _) (by decide) rfl rfl)
 clear hnews hl h1
 have T9:=T8 gb off m c
 go_in
 go_wp2_with (at_builtin;refine wpList_append_lies _ rfl _ _ 84 rfl w.heap.size 80 i0 _ 3 40 Tryz.underlying84 hi0 hz0 hz1 hz2 zC (by omega) (.slice (some ⟨w.heap.size,0,none⟩) 0 0) 0 [] rfl (HO.out _ rfl) ⟨gb,off,none⟩ m c news rfl HL.out (fun j u hj=>by rw [Addr.add_lit];exact HN.out _ j u hj) H1.out (by omega) (by unfold maxLen;omega) (by omega) (by simp) _ rfl ?_)
 intro g cap w1 aD hgrow hat aq
 have HO:=af aD
 have HG:=af hgrow
 clear aD hgrow hat
 go_wp2_with fail
 go_ret
 refine ⟨g,cap,by simp,by simpa using HO.out,?_⟩
 refine (((ae.rf w).alloc _).only (fun j=>some j=Value.ownBlock (.slice (some ⟨w.heap.size,0,none⟩) 0 0))).then (aj.of_grownBy HG.out) |>.ag ?_
 intro j hj
 have:j=w.heap.size:=Option.some.inj hj
 omega
theorem ZK (w:World):Calls Tryz.prog 126 #[.slice none 0 0] w fun e w'=>e=.returned (.slice none 0 0)/\ae w w':=by
 have T9:=vD
 go_in
 go_wp2_with fail
 go_ret
 exact ⟨rfl,ae.rf w⟩
theorem ZL (w:World) (gb off c:Nat):Calls Tryz.prog 126 #[.slice (some ⟨gb,off,none⟩) 0 c] w fun e w'=>e=.returned (.slice (some ⟨w.heap.size,0,none⟩) 0 0)/\w'.ownsRow w.heap.size 80 3 (.slice (some ⟨w.heap.size,0,none⟩) 0 0) 0 []/\ae w w':=by
 obtain ⟨i0,hi0,hz0,hz1,hz2⟩:=info_parts T7
 have HO:=af (fun (t:TypeId) (h:t=80)=>show (w.alloc (.cells #[] t)).ownsRow w.heap.size 80 3 (.slice (some ⟨w.heap.size,0,none⟩) 0 0) 0 [] from by
  subst h
  exact na (cur:=[]) (zZ3 _) (heap_alloc_new w _) (zZ3 _) (by decide) rfl rfl)
 have HG:=af (fun (t:TypeId)=>(ae.rf w).alloc (.cells #[] t))
 have hS:∀W:World,Src Tryz.prog i0.size 84 (.slice (some ⟨gb,off,none⟩) 0 c) 0 [] W:=fun W=>Src.ofSlice W Tryz.underlying84 ⟨gb,off,none⟩ 0 c [] (by simp) (fun j u hj=>by simp at hj) (fun u hu=>by cases hu)
 have HS:=af hS
 clear hS
 have T9:=T8 gb off 0 c
 go_in
 go_wp2_with (at_builtin;refine Lib.wpList_append_run _ rfl _ _ _ _ rfl _ _ rfl rfl _ _ (run_append_nothing _ 84 84 _ 80 i0 Tryz.underlying84 hi0 _ 0 0 (zZ3 _) _ (HS.out _)) ?_)
 go_wp2_with fail
 go_ret
 exact ⟨rfl,HO.out _ rfl,HG.out _⟩
theorem z4r:(Tryz.prog.info? 80).map (fun i=>(i.zero,i.size,i.bytes))=some (some (.agg #[.string ⟨#[]⟩,.string ⟨#[]⟩,.int .i64 0]),3,40):=by kernel_rfl
theorem z3V (w:World):(zeroValue 80).run Tryz.prog w=.ok (.agg #[.string ⟨#[]⟩,.string ⟨#[]⟩,.int .i64 0]) w:=by kernel_rfl
theorem Uh:(Value.cells (.agg #[.string ⟨#[]⟩,.string ⟨#[]⟩,.int .i64 0])).size=3:=by kernel_rfl
theorem zK:∀v∈(Value.cells (.agg #[.string ⟨#[]⟩,.string ⟨#[]⟩,.int .i64 0])).toList,v.oneCell'=true:=by
 have h:(Value.cells (.agg #[.string ⟨#[]⟩,.string ⟨#[]⟩,.int .i64 0])).toList.all (fun v=>v.oneCell')=true:=by kernel_rfl
 exact fun v hv=>zX2.1 h v hv
theorem zL (w:World) (B q i:Nat) (a0:Option Addr) (c0:Nat) (xs:List Value) (h:w.ownsRow B 80 3 (.slice a0 (q+1) c0) (q+1) xs) (h1:∀u∈xs,u.oneCell'=true) (hi:i<=q) (hbig:q<=1000000):
    Calls Tryz.prog 190 #[.slice a0 (q+1) c0,.int .i64 i,.int .i64 ((i:Int)+1)] w fun e w'=>e=.returned (.slice a0 q c0)/\w'.ownsRow B 80 3 (.slice a0 q c0) q (xs.take (i*3)++xs.drop ((i+1)*3))/\w.grownBy w' (Value.ownBlock (.slice a0 (q+1) c0)):=by
 obtain ⟨i0,hi0,hz0,hzs,hzb⟩:=info_parts z4r
 obtain ⟨b,c,cur,e,hBb,hb,hnc,hc,hcl,hx⟩:=rP h (by omega)
 cases e
 subst hx
 obtain ⟨D,hD⟩:∃D,D=(cur.take ((q+1)*3)).drop ((i+1)*3):=⟨_,rfl⟩
 have hDl:D.length=(q - i)*3:=by rw [hD];simp;omega
 have hrun:∀ty a sc,(D≠[]->a=⟨b,(i+1)*3,none⟩)->(Builtin.append_ #[84,84] ty #[.slice (some ⟨b,0,none⟩) i c0,.slice (some a) (q - i) sc]).run Tryz.prog w.drew=.ok (.slice (some ⟨b,0,none⟩) q c0) (w.drew.setRow b (cz cur (i*3) D).toArray):=fun ty a sc ha=>by
  have h:=run_append_room (P:=Tryz.prog) w.drew 84 ty 80 i0 Tryz.underlying84 hi0 b i c0 cur.toArray hb a (q - i) sc D (by rw [hzs];exact hDl)
   (fun j u hj=>by
    have hne:D≠[]:=fun e=>by rw [e] at hj;cases hj
    rw [ha hne,Addr.add_lit]
    show w.cell? _=_
    rw [fA hb]
    rw [hD,List.getElem?_drop,List.getElem?_take] at hj
    split at hj
    · exact hj
    · cases hj)
   (fun u hu=>h1 u (by rw [hD] at hu;exact zX7 hu)) (by omega) (by rw [hzs,hDl];simp;omega)
  rw [show i+(q - i)=q by omega,hzs] at h
  rw [h]
  simp [cz]
 obtain ⟨W1,hW1⟩:∃W1,W1=w.drew.setRow b (cz cur (i*3) D).toArray:=⟨_,rfl⟩
 have hll:(cz cur (i*3) D).length=c0*3:=by rw [qN _ _ _ (by rw [hDl];omega),hcl]
 have pK:W1.heap[b]? =some (.cells (cz cur (i*3) D).toArray 80 (0,0)):=by rw [hW1];exact setRow_heap w.drew b _ _ _ _ hb
 rw [<-hW1] at hrun
 have kP:∀ty sc,(Builtin.clear_ #[84] ty #[.slice (some ⟨b,q*3,none⟩) 1 sc]).run Tryz.prog W1=.ok (.tuple #[]) (W1.setRow b (cz (cz cur (i*3) D) (q*3) (Builtin.zeroCells (Value.cells (.agg #[.string ⟨#[]⟩,.string ⟨#[]⟩,.int .i64 0])) 1).toList).toArray):=fun ty sc=>
  SY W1 84 80 ty _ 3 Tryz.underlying84 z3V Uh zK b (q*3) sc _ 80 pK (by rw [hll];omega)
 obtain ⟨Z,hZ⟩:∃Z,Z=(Builtin.zeroCells (Value.cells (.agg #[.string ⟨#[]⟩,.string ⟨#[]⟩,.int .i64 0])) 1).toList:=⟨_,rfl⟩
 have uD:Z.length=3:=by rw [hZ,Array.length_toList,size_zeroCells,Uh]
 rw [<-hZ] at kP
 obtain ⟨W2,hW2⟩:∃W2,W2=W1.setRow b (cz (cz cur (i*3) D) (q*3) Z).toArray:=⟨_,rfl⟩
 rw [<-hW2] at kP
 have cB:Hid (W2.ownsRow B 80 3 (.slice (some ⟨b,0,none⟩) q c0) q ((cur.take ((q+1)*3)).take (i*3)++(cur.take ((q+1)*3)).drop ((i+1)*3))/\w.grownBy W2 (some b)):=by
  refine ⟨na (cur:=cz (cz cur (i*3) D) (q*3) Z) hBb (by rw [hW2];exact setRow_heap _ _ _ _ _ _ pK) (by omega) hc (by rw [qN _ _ _ (by rw [uD,hll];omega),hll]) ?_,?_⟩
  · rw [KW _ _ _ _ (zZ3 _) (by rw [hll];omega),show q*3=i*3+D.length by rw [hDl];omega,Fw _ _ _ (by omega),hD,List.take_take]
    congr 2
    omega
  · have g1:w.grownBy W1 (some b):=by rw [hW1];exact (show w.grownBy w.drew (some b) from ⟨rfl,rfl,rfl,zZ3 _,fun _ _ _=>rfl⟩).trans (A5 w.drew b _)
    rw [hW2];exact g1.trans (A5 W1 b _)
 have cE:=af hrun
 have hDn:c0=i+1->D=[]:=fun e=>zX1 (by rw [hDl];omega)
 have qP:=af hDn
 have z1:((i:Int)==(i:Int)+1)=false:=beq_eq_false_iff_ne.2 (by omega)
 have z2:(0:Int)<=(i:Int)+1:=by omega
 have z3:((i:Int)+1).toNat=i+1:=by omega
 have z4:(i:Int)+1<=(q:Int)+1:=by omega
 have z5:(i:Int)<=(i:Int)+1:=by omega
 have z6:q+1<=c0:=hnc
 have z7:¬(c0=q):=by omega
 have z8:¬(c0=i):=by omega
 have z9:(i:Int)<=(c0:Int):=by omega
 have z10:i<=q+1:=by omega
 have Nz:i<=c0:=by omega
 have z12:¬((i:Int)=(i:Int)+1):=by omega
 clear hrun hDn hDl hD hW1 hll pK hZ uD hW2 hb hcl h h1 hnc
 by_cases jQ:c0=i+1
 · obtain rfl:i=q:=by omega
   subst jQ
   have hr0:∀ty sc,(Builtin.append_ #[84,84] ty #[.slice (some ⟨b,0,none⟩) i (i+1),.slice (some ⟨b,0,none⟩) 0 sc]).run Tryz.prog w.drew=.ok (.slice (some ⟨b,0,none⟩) i (i+1)) W1:=fun ty sc=>by
    have:=cE.out ty ⟨b,0,none⟩ sc (fun hne=>absurd (qP.out rfl) hne)
    rwa [Nat.sub_self] at this
   clear cE qP
   go_in
   go_wp2_with fail
   go_region_law (refine KZ rfl (.tmp 22) (.tmp 25) 84 84 rfl (.slice (some ⟨b,0,none⟩) i (i+1)) (.slice (some ⟨b,0,none⟩) 0 0) (by simp [Act.eval,Act.put]) (by simp [Act.eval,Act.put]) (hr0 _ _) ?_)
   go_wp2_with fail
   go_ret
   exact ⟨rfl,cB.out⟩
 · have hr0:∀ty sc,(Builtin.append_ #[84,84] ty #[.slice (some ⟨b,0,none⟩) i c0,.slice (some ⟨b,(i+1)*3,none⟩) (q - i) sc]).run Tryz.prog w.drew=.ok (.slice (some ⟨b,0,none⟩) q c0) W1:=fun ty sc=>cE.out ty ⟨b,(i+1)*3,none⟩ sc (fun _=>rfl)
   clear cE qP
   go_in
   go_wp2_with fail
   go_region_law (refine KZ rfl (.tmp 22) (.tmp 25) 84 84 rfl (.slice (some ⟨b,0,none⟩) i c0) (.slice (some ⟨b,(i+1)*3,none⟩) (q - i) (c0 - (i+1))) (by simp [Act.eval,Act.put]) (by simp [Act.eval,Act.put]) (hr0 _ _) ?_)
   go_wp2_with fail
   go_ret
   exact ⟨rfl,cB.out⟩
end
section
open Go.RowKit Go.Maps
theorem wF {α:Type} (p:α->Bool) (xs:List α):b7 p xs= -1/\xs.any p=false\/∃i:Nat,∃h:i<xs.length,b7 p xs=(i:Nat)/\p xs[i]=true/\(xs.take i).all (fun c=>!p c)=true:=by
 unfold b7
 cases h:xs.findIdx? p with
 | none=>
  refine .inl ⟨rfl,?_⟩
  rw [zJ2] at h
  rw [zZ9]
  intro x hx
  simpa using h x hx
 | some i=>
  obtain ⟨hi,h1,h2⟩:=zJ3.1 h
  refine .inr ⟨i,hi,rfl,h1,?_⟩
  rw [zX2]
  intro c hc
  obtain ⟨j,hj,e⟩:=List.mem_iff_getElem.1 hc
  have hj':j<i:=by rw [List.length_take] at hj;omega
  have:=h2 j hj'
  rw [<-e,List.getElem_take]
  simpa using this
theorem UU {P:Program} (w:World) (t e ty:TypeId) (z:Value) (k m:Nat) (ht:P.underlying t=some (.slice e)) (hv:∀w,(zeroValue e).run P w=.ok z w) (hk:0<k) (hz:z.cells.size=k) (h1:∀v∈z.cells.toList,v.oneCell'=true) (b o c:Nat) (cur:List Value) (te:TypeId)
    (hg:w.heap[b]? =some (.cells cur.toArray te (0,0))) (hfit:o+m*k<=cur.length) (hm:0<m):
    (Builtin.clear_ #[t] ty #[.slice (some ⟨b,o,none⟩) m c]).run P w=.ok (.tuple #[]) (w.setRow b (cz cur o (Builtin.zeroCells z.cells m).toList).toArray):=by
 have hl:(Builtin.zeroCells z.cells m).toList.length=m*k:=by rw [Array.length_toList,size_zeroCells,hz]
 have hz1:∀v∈(Builtin.zeroCells z.cells m).toList,v.oneCell'=true:=by
  intro v hv
  simp only [Builtin.zeroCells,Array.toList_map,zZ4,Array.mem_toList_iff,Array.mem_range] at hv
  obtain ⟨i,hi,rfl⟩:=hv
  have aq:i % z.cells.size<z.cells.size:=Nat.mod_lt _ (by omega)
  rw [getElem!_pos z.cells _ aq]
  exact h1 _ (by simp)
 have hst:=run_storeCells_at P b o te (Builtin.zeroCells z.cells m).toList 0 cur.toArray w hg (by rw [hl];simpa using hfit) hz1
 obtain ⟨m,rfl⟩:∃m0,m=m0+1:=⟨m - 1,by omega⟩
 simp at hst
 simp [Builtin.clear_,run_underlying ht,hv,hst,cz]
end
section
open Go.RowKit
structure Cg where
 at_:Int
 key:ByteArray
 wk:ByteArray
 wv:ByteArray
 wn:Int
 nk:ByteArray
 nv:ByteArray
 nn:Int
 had:Bool
 has:Bool
def Cg.none:Cg:=⟨0,⟨#[]⟩,⟨#[]⟩,⟨#[]⟩,0,⟨#[]⟩,⟨#[]⟩,0,false,false⟩
instance:Inhabited Cg:=⟨Cg.none⟩
def Cg.vals (c:Cg):List Value:=[.int .i64 c.at_,.string c.key,.string c.wk,.string c.wv,.int .i64 c.wn,.string c.nk,.string c.nv,.int .i64 c.nn,.bool c.had,.bool c.has]
def bA (xs:List Cg) (j:Nat):Cg:=xs[j]?.getD Cg.none
def eB (xs:List Cg):List Value:=xs.flatMap Cg.vals
theorem VQ (xs:List Cg) (i:Nat) (hi:i<xs.length):bA xs i=xs[i]:=by unfold bA;rw [List.getElem?_eq_getElem hi];rfl
theorem Am (xs:List Cg):(eB xs).length=xs.length*10:=by
 induction xs with
 | nil=>rfl
 | cons c xs ih=>unfold eB at ih ⊢;rw [List.flatMap_cons,zX8,ih];simp [Cg.vals];omega
theorem lR (i:Nat) (hi:i<10):∀(xs:List Cg) (j:Nat),j<xs.length->(eB xs)[j*10+i]? =(bA xs j).vals[i]? :=by
 intro xs
 induction xs with
 | nil=>intro j hj;simp at hj
 | cons c xs ih=>
  intro j hj
  unfold eB at ih ⊢
  rw [List.flatMap_cons]
  cases j with
  | zero=>rw [List.getElem?_append_left (by simp [Cg.vals];omega)];simp [bA]
  | succ j=>
   rw [List.getElem?_append_right (by simp [Cg.vals];omega)]
   have e:(j+1)*10+i - c.vals.length=j*10+i:=by simp [Cg.vals];omega
   rw [e,ih j (by simpa using hj)]
   simp [bA]
theorem MH (xs ys:List Cg):eB (xs++ys)=eB xs++eB ys:=by unfold eB;rw [List.flatMap_append]
theorem QD (c:Cg):eB [c]=c.vals:=by simp [eB]
theorem z0n (xs:List Cg) (i:Nat):eB (xs.take i)=(eB xs).take (i*10):=by
 by_cases h:i<=xs.length
 · have e:eB xs=eB (xs.take i)++eB (xs.drop i):=by rw [<-MH,List.take_append_drop]
   have h2:(eB (xs.take i)).length=i*10:=by rw [Am,List.length_take];omega
   rw [e,<-h2,List.take_left]
 · have h2:(eB xs).length<=i*10:=by rw [Am];omega
   rw [zQ7 (show xs.length<=i by omega),zQ7 h2]
structure ly (W:World) (b off:Nat) (xs:List Cg):Prop where
 at_:∀j,j<xs.length->W.cell? ⟨b,off+j*10,Option.none⟩=some (.int .i64 (bA xs j).at_)
 key:∀j,j<xs.length->W.cell? ⟨b,off+j*10+1,Option.none⟩=some (.string (bA xs j).key)
 wk:∀j,j<xs.length->W.cell? ⟨b,off+j*10+2,Option.none⟩=some (.string (bA xs j).wk)
 wv:∀j,j<xs.length->W.cell? ⟨b,off+j*10+3,Option.none⟩=some (.string (bA xs j).wv)
 wn:∀j,j<xs.length->W.cell? ⟨b,off+j*10+4,Option.none⟩=some (.int .i64 (bA xs j).wn)
 nk:∀j,j<xs.length->W.cell? ⟨b,off+j*10+5,Option.none⟩=some (.string (bA xs j).nk)
 nv:∀j,j<xs.length->W.cell? ⟨b,off+j*10+6,Option.none⟩=some (.string (bA xs j).nv)
 nn:∀j,j<xs.length->W.cell? ⟨b,off+j*10+7,Option.none⟩=some (.int .i64 (bA xs j).nn)
 had:∀j,j<xs.length->W.cell? ⟨b,off+j*10+8,Option.none⟩=some (.bool (bA xs j).had)
 has:∀j,j<xs.length->W.cell? ⟨b,off+j*10+9,Option.none⟩=some (.bool (bA xs j).has)
theorem ly.ag {W W':World} {b off:Nat} {xs:List Cg} (h:ly W b off xs) (g:ae W W') (hb:b<W.heap.size):ly W' b off xs:=
 ⟨fun j hj=>(g.cells.1 _ _ hb).trans (h.at_ j hj),fun j hj=>(g.cells.1 _ _ hb).trans (h.key j hj),fun j hj=>(g.cells.1 _ _ hb).trans (h.wk j hj),fun j hj=>(g.cells.1 _ _ hb).trans (h.wv j hj),fun j hj=>(g.cells.1 _ _ hb).trans (h.wn j hj),fun j hj=>(g.cells.1 _ _ hb).trans (h.nk j hj),fun j hj=>(g.cells.1 _ _ hb).trans (h.nv j hj),fun j hj=>(g.cells.1 _ _ hb).trans (h.nn j hj),fun j hj=>(g.cells.1 _ _ hb).trans (h.had j hj),fun j hj=>(g.cells.1 _ _ hb).trans (h.has j hj)⟩
def ft (W:World) (a:Option Addr) (xs:List Cg):Prop:=xs=[]\/∃b off,a=some ⟨b,off,Option.none⟩/\b<W.heap.size/\ly W b off xs
theorem ft.ag {W W':World} {a:Option Addr} {xs:List Cg} (h:ft W a xs) (g:ae W W'):ft W' a xs:=by
 rcases h with h | ⟨b,off,e,hb,h⟩
 · exact .inl h
 · exact .inr ⟨b,off,e,ltT hb g.size,h.ag g hb⟩
theorem QE {T:TypeId} {W:World} {B:Nat} {v:Value} {xs:List Cg} (h:W.ownsRow B T 10 v xs.length (eB xs)):∃a cap,v=.slice a xs.length cap/\ft W a xs:=by
 rcases zX9 xs.length with h0 | h0
 · have hx:xs=[]:=zX1 h0
   rcases h.2 with ⟨rfl,_⟩ | ⟨g,cap,cur,rfl,_,hg,_⟩
   · exact ⟨Option.none,0,by rw [h0],.inl hx⟩
   · exact ⟨_,_,rfl,.inl hx⟩
 · obtain ⟨g,cap,rfl,_,aq⟩:=h.form h0
   refine ⟨_,_,rfl,.inr ⟨g,0,rfl,aq,?_,?_,?_,?_,?_,?_,?_,?_,?_,?_⟩⟩<;> intro j hj
   · have:=h.cellAt (j*10+0) (by omega);rw [lR 0 (by omega) xs j hj] at this;rw [zK0];exact this
   · have:=h.cellAt (j*10+1) (by omega);rw [lR 1 (by omega) xs j hj] at this;rw [zK0];exact this
   · have:=h.cellAt (j*10+2) (by omega);rw [lR 2 (by omega) xs j hj] at this;rw [zK0];exact this
   · have:=h.cellAt (j*10+3) (by omega);rw [lR 3 (by omega) xs j hj] at this;rw [zK0];exact this
   · have:=h.cellAt (j*10+4) (by omega);rw [lR 4 (by omega) xs j hj] at this;rw [zK0];exact this
   · have:=h.cellAt (j*10+5) (by omega);rw [lR 5 (by omega) xs j hj] at this;rw [zK0];exact this
   · have:=h.cellAt (j*10+6) (by omega);rw [lR 6 (by omega) xs j hj] at this;rw [zK0];exact this
   · have:=h.cellAt (j*10+7) (by omega);rw [lR 7 (by omega) xs j hj] at this;rw [zK0];exact this
   · have:=h.cellAt (j*10+8) (by omega);rw [lR 8 (by omega) xs j hj] at this;rw [zK0];exact this
   · have:=h.cellAt (j*10+9) (by omega);rw [lR 9 (by omega) xs j hj] at this;rw [zK0];exact this
def Cg.agg (c:Cg):Value:=.agg #[.int .i64 c.at_,.string c.key,.string c.wk,.string c.wv,.int .i64 c.wn,.string c.nk,.string c.nv,.int .i64 c.nn,.bool c.had,.bool c.has]
def Cg.was (c:Cg):Pr:=⟨c.wk,c.wv,c.wn⟩
def Cg.now (c:Cg):Pr:=⟨c.nk,c.nv,c.nn⟩
theorem QF (c:Cg):∀u∈c.vals,u.oneCell'=true:=by
 intro u hu
 simp only [Cg.vals,List.mem_cons,List.not_mem_nil,or_false] at hu
 rcases hu with rfl | rfl | rfl | rfl | rfl | rfl | rfl | rfl | rfl | rfl<;> rfl
end
end Go.Proofs.YtbnofojapimfcaaGreatDoor
