/- Part 11. -/
import Derived.Test.YtgegogoanbamfaaGreatDoorFinAuditPlaysQ2
import Derived.Test.YtgegogoanbamfaaGreatDoorFinAuditPlaysQ3
import Derived.Test.YtgegogoanbamfaaGreatDoorFinAuditPlaysQ5
import Derived.Laws.BytesArg
import Derived.Lib.AppendStr
import Derived.Shelf.SlSortCmp.WholeK
import Derived.Sort.Statements
import Derived.Shelf.SlSortCmp.Insertion
import Derived.RegionTactic
import Derived.Deep.RegionHeld3
import Derived.Deep.DeepCutAuto
import Derived.Shelf.SlSortCmp.NoneTotal
set_option linter.unusedVariables false
set_option linter.unusedSectionVars false
set_option linter.unusedSimpArgs false
set_option maxRecDepth 100000
set_option maxHeartbeats 16000000
namespace Go.Proofs.YtgegogoanbamfaaGreatDoor
namespace Pl
end Pl
open Pl Go.Proofs.Tryz Go.RowKit Go.Maps
attribute [local go_sem] Oper.semAt_some
structure Pr where
 key:ByteArray
 val:ByteArray
 eI:Int
def Pr.none:Pr:=⟨⟨#[]⟩,⟨#[]⟩,0⟩
def Pr.vals (c:Pr):List Value:=[.string c.key,.string c.val,.int .i64 c.eI]
def Pr.agg (c:Pr):Value:=.agg #[.string c.key,.string c.val,.int .i64 c.eI]
def cq (xs:List Pr):List Value:=xs.flatMap Pr.vals
def aV (xs:List Pr)(j:Nat):Pr:=xs[j]?.getD Pr.none
theorem kV (xs:List Pr)(i:Nat)(hi:i<xs.length):aV xs i=xs[i]:=by unfold aV;rw[zQ5 hi];rfl
theorem yP (xs:List Pr):(cq xs).length=xs.length*3:=by
 induction xs with
 | nil=>rfl
 | cons c xs ih=>unfold cq at ih ⊢;rw[zK2,zZ4,ih];simp[Pr.vals];omega
theorem Ia (i:Nat)(hi:i<3):∀(xs:List Pr) (j:Nat),j<xs.length->(cq xs)[j*3+i]? =(aV xs j).vals[i]? :=by
 intro xs;induction xs with
 | nil=>intro j hj;simp at hj
 | cons c xs ih=>
  intro j hj;unfold cq at ih ⊢;rw[zK2];cases j with
  | zero=>rw[yK0 (by simp[Pr.vals];omega)];simp[aV]
  | succ j=>
   rw[yX5 (by simp[Pr.vals];omega)];have e:(j+1)*3+i - c.vals.length=j*3+i:=(by simp[Pr.vals];omega);rw[e,ih j (by simpa using hj)];simp[aV]
theorem lH (xs ys:List Pr):cq (xs++ys)=cq xs++cq ys:=by unfold cq;rw[zK3]
theorem vU (c:Pr):cq [c]=c.vals:=by simp[cq]
theorem Ud (xs:List Pr)(i:Nat):cq (xs.take i)=(cq xs).take (i*3):=by
 by_cases h:i<=xs.length
 . have e:cq xs=cq (xs.take i)++cq (xs.drop i):=(by rw[<-lH,zX7]);have h2:(cq (xs.take i)).length=i*3:=(by rw[yP,zZ9];omega);rw[e,<-h2,List.take_left]
 . have h2:(cq xs).length<=i*3:=(by rw[yP];omega);rw[zJ3 (show xs.length<=i by omega),zJ3 h2]
theorem Ue (xs:List Pr)(i:Nat):cq (xs.drop i)=(cq xs).drop (i*3):=by
 by_cases h:i<=xs.length
 . have e:cq xs=cq (xs.take i)++cq (xs.drop i):=(by rw[<-lH,zX7]);have h2:(cq (xs.take i)).length=i*3:=(by rw[yP,zZ9];omega);rw[e,<-h2,List.drop_left]
 . have h2:(cq xs).length<=i*3:=(by rw[yP];omega);rw[yZ9 (show xs.length<=i by omega),yZ9 h2];rfl
theorem My (xs:List Pr):∀u∈cq xs,u.oneCell'=true:=by
 intro u hu;unfold cq at hu;obtain⟨c,_,hc⟩:=yJ7.1 hu;simp[Pr.vals]at hc;rcases hc with rfl | rfl | rfl<;> rfl
structure vV (W:World)(b off:Nat)(xs:List Pr):Prop where
 key:∀j,j<xs.length->W.cell? ⟨b,off+j*3,none⟩=some (.string (aV xs j).key)
 val:∀j,j<xs.length->W.cell? ⟨b,off+j*3+1,none⟩=some (.string (aV xs j).val)
 eI:∀j,j<xs.length->W.cell? ⟨b,off+j*3+2,none⟩=some (.int .i64 (aV xs j).eI)
theorem vV.ah {W W':World}{b off:Nat}{xs:List Pr}(h:vV W b off xs)(g:ae W W')(hb:b<W.heap.size):vV W' b off xs:=
 ⟨fun j hj=>(g.cells.1 _ _ hb).trans (h.key j hj),fun j hj=>(g.cells.1 _ _ hb).trans (h.val j hj),fun j hj=>(g.cells.1 _ _ hb).trans (h.eI j hj)⟩
def jN (W:World)(a:Option Addr)(xs:List Pr):Prop:=xs=[]\/∃b off,a=some ⟨b,off,none⟩/\b<W.heap.size/\vV W b off xs
theorem jN.ah {W W':World}{a:Option Addr}{xs:List Pr}(h:jN W a xs)(g:ae W W'):jN W' a xs:=by
 rcases h with h | ⟨b,off,e,hb,h⟩
 . exact .inl h
 . exact .inr ⟨b,off,e,xA9 hb g.size,h.ah g hb⟩
theorem lT {W:World}{B:Nat}{v:Value}{xs:List Pr}(h:W.ownsRow B 62 3 v xs.length (cq xs)):∃a cap,v=.slice a xs.length cap/\jN W a xs:=by
 rcases zJ8 xs.length with h0 | h0
 . have hx:xs=[]:=zX2 h0;rcases h.2 with⟨rfl,_⟩ | ⟨g,cap,cur,rfl,_,hg,_⟩
   . exact⟨none,0,by rw[h0],.inl hx⟩
   . exact⟨_,_,rfl,.inl hx⟩
 . obtain⟨g,cap,rfl,_,az⟩:=h.form h0;refine⟨_,_,rfl,.inr ⟨g,0,rfl,az,?_,?_,?_⟩⟩<;> intro j hj
   . have:=h.cellAt (j*3+0) (by omega);rw[Ia 0 (by omega) xs j hj]at this;rw[zQ2];exact this
   . have:=h.cellAt (j*3+1) (by omega);rw[Ia 1 (by omega) xs j hj]at this;rw[zQ2];exact this
   . have:=h.cellAt (j*3+2) (by omega);rw[Ia 2 (by omega) xs j hj]at this;rw[zQ2];exact this
theorem vV.drop {W:World}{b off:Nat}{xs:List Pr}(h:vV W b off xs)(i:Nat):vV W b (off+i*3) (xs.drop i):=by
 have e:∀j,aV (xs.drop i) j=aV xs (i+j):=fun j=>by unfold aV;rw[zK7]
 refine⟨fun j hj=>?_,fun j hj=>?_,fun j hj=>?_⟩<;> (rw[zK1]at hj;rw[e])
 . have:=h.key (i+j) (by omega);rwa[show off+(i+j)*3=off+i*3+j*3 by omega]at this
 . have:=h.val (i+j) (by omega);rwa[show off+(i+j)*3=off+i*3+j*3 by omega]at this
 . have:=h.eI (i+j) (by omega);rwa[show off+(i+j)*3=off+i*3+j*3 by omega]at this
theorem vV.take {W:World}{b off:Nat}{xs:List Pr}(h:vV W b off xs)(i:Nat):vV W b off (xs.take i):=by
 have e:∀j,j<(xs.take i).length->aV (xs.take i) j=aV xs j:=fun j hj=>by unfold aV;rw[zZ9]at hj;rw[zX5,zZ1 (by omega)]
 refine⟨fun j hj=>?_,fun j hj=>?_,fun j hj=>?_⟩<;> (rw[e j hj];rw[zZ9]at hj)
 . exact h.key j (by omega)
 . exact h.val j (by omega)
 . exact h.eI j (by omega)
theorem Q5:(prog.info? 62).map (fun i=>(i.zero,i.size,i.bytes))=some (some (.agg #[.string ⟨#[]⟩,.string ⟨#[]⟩,.int .i64 0]),3,40):=by kernel_rfl
def qg (a:Option Addr)(cap:Nat):Prop:=(a=none/\cap=0)\/∃b off,a=some ⟨b,off,none⟩
theorem Ib {w:World}{B k:Nat}{e:TypeId}{a:Option Addr}{m n cap:Nat}{L:List Value}(h:w.ownsRow B e k (.slice a m cap) n L):qg a cap:=by
 rcases h.2 with⟨h2,_⟩ | ⟨b,c,cur,e1,_⟩
 . cases h2;exact .inl ⟨rfl,rfl⟩
 . cases e1;exact .inr ⟨_,_,rfl⟩
theorem vV.cells {W:World}{b off:Nat}{xs:List Pr}(h:vV W b off xs):∀j u,(cq xs)[j]? =some u->W.cell? ⟨b,off+j,none⟩=some u:=by
 intro j u hj;have az:j<xs.length*3:=by have:=(zQ9.1 hj).1;rwa[yP]at this
 have h2:=Ia (j % 3) (Nat.mod_lt _ (by decide)) xs (j / 3) (by omega);rw[show j / 3*3+j % 3=j by omega,hj]at h2;have q0:=h.key (j / 3) (by omega);have q1:=h.val (j / 3) (by omega);have q2:=h.eI (j / 3) (by omega);have e:off+j=off+j / 3*3+j % 3:=by omega
 have h4:j % 3<3:=Nat.mod_lt _ (by decide);rw[e];generalize j % 3=r at *;unfold Pr.vals at h2;match r,h4 with
 | 0,_=>simp at h2;rw[h2];exact q0
 | 1,_=>simp at h2;rw[h2];exact q1
 | 2,_=>simp at h2;rw[h2];exact q2
theorem Uf {ops:Array Oper}{rest:List Oper}{o:Oper}{a:Act}{Q:Exit->Act->World->Prop}(hgd:o.guard=none)(s x:Operand)
    (ho:o.op=.call {callee:=.builtin .append,args:=#[s,x],argTypes:=#[66,66]}) {w:World} {B:Nat} {v:Value} {m:Nat} {ys xs:List Pr} (hs:a.eval s=v) (aH:w.ownsRow B 62 3 v m (cq ys))
    {ao:Option Addr} {n cap:Nat} (hx:a.eval x=.slice ao n cap) (hn:n=xs.length) (hA:jN w ao xs) (hf:qg ao cap) (dI:m+n<=2000000) (hB:B<=w.heap.size)
    (h:∀a' bo w',w'.ownsRow B 62 3 (.slice a' (m+n) bo) (m+n) (cq (ys++xs))->w.grownBy w' v.ownBlock->wpList prog ops Q rest (a.put o.dst (.slice a' (m+n) bo)) w'):wpList prog ops Q (o::rest) a w:=by
 obtain⟨i0,dA,hz0,hz1,hz2⟩:=wZ8 Q5;subst hn;rcases zJ8 xs.length with h0 | h0
 . have e:=zX2 h0;subst e;have jm:Src prog i0.size 66 (.slice ao 0 cap) 0 [] w:=by
    rcases hf with⟨rfl,rfl⟩ | ⟨b,off,rfl⟩
    . exact Src.ofNil w underlying66 0
    . exact Src.ofSlice w underlying66 ⟨b,off,none⟩ 0 cap [] (by simp) (fun j u hj=>by simp at hj) (fun u hu=>by cases hu)
   have hb:∃a' bo,v=.slice a' m bo/\m<=bo:=by
    rcases aH.2 with⟨rfl,h2⟩ | ⟨b,c,cur,rfl,_,_,h4,_⟩
    . subst h2;exact⟨_,_,rfl,zZ3 _⟩
    . exact⟨_,_,rfl,h4⟩
   obtain⟨a',bo,rfl,hc⟩:=hb;exact Lib.wpList_append_run w hgd s x _ _ ho _ _ hs hx _ _ (run_append_nothing w _ _ _ 62 i0 underlying66 dA a' m bo hc _ jm) (h a' bo w (by simpa using aH) ⟨rfl,rfl,rfl,zZ3 _,fun _ _ _=>rfl⟩)
 . rcases hA with h1 | ⟨b,off,rfl,hb,hR⟩
   . rw[h1]at h0;simp at h0
   . refine wQ2 w hgd s x 66 ho B 62 i0 _ 3 40 underlying66 dA hz0 hz1 hz2 rfl (by omega) v m (cq ys) hs aH ⟨b,off,none⟩ xs.length cap (cq xs) hx (yP xs) (fun j u hj=>by rw[Addr.add_lit];exact hR.cells j u hj) (My xs) h0 (by unfold maxLen;omega) (by omega) hB _ rfl ?_;intro g ep w2 bP bw _ _;rw[<-lH]at bP;exact h _ _ _ bP bw
theorem Zq {w:World}{B:Nat}{v:Value}{m:Nat}{ys xs:List Pr}(aH:w.ownsRow B 62 3 v m (cq ys)){ao:Option Addr}{n cap:Nat}(hn:n=xs.length)(hA:jN w ao xs)(hf:qg ao cap)(dI:m+n<=2000000)(hB:B<=w.heap.size)(ty:TypeId):
    ∃a' bo w',(Builtin.append_ #[66,66] ty #[v,.slice ao n cap]).run prog w=.ok (.slice a' (m+n) bo) w'/\w'.ownsRow B 62 3 (.slice a' (m+n) bo) (m+n) (cq (ys++xs))/\w.grownBy w' v.ownBlock/\∀g,Value.ownBlock (.slice a' (m+n) bo)=some g->v.ownBlock=some g\/g=w.heap.size:=by
 obtain⟨i0,dA,hz0,hz1,hz2⟩:=wZ8 Q5;subst hn;rcases zJ8 xs.length with h0 | h0
 . have e:=zX2 h0;subst e;have jm:Src prog i0.size 66 (.slice ao 0 cap) 0 [] w:=by
    rcases hf with⟨rfl,rfl⟩ | ⟨b,off,rfl⟩
    . exact Src.ofNil w underlying66 0
    . exact Src.ofSlice w underlying66 ⟨b,off,none⟩ 0 cap [] (by simp) (fun j u hj=>by simp at hj) (fun u hu=>by cases hu)
   have hb:∃a' bo,v=.slice a' m bo/\m<=bo:=by
    rcases aH.2 with⟨rfl,h2⟩ | ⟨b,c,cur,rfl,_,_,h4,_⟩
    . subst h2;exact⟨_,_,rfl,zZ3 _⟩
    . exact⟨_,_,rfl,h4⟩
   obtain⟨a',bo,rfl,hc⟩:=hb;exact⟨a',bo,w,run_append_nothing w _ _ _ 62 i0 underlying66 dA a' m bo hc _ jm,by simpa using aH,⟨rfl,rfl,rfl,zZ3 _,fun _ _ _=>rfl⟩,fun g h=> .inl h⟩
 . rcases hA with h1 | ⟨b,off,rfl,hb,hR⟩
   . rw[h1]at h0;simp at h0
   . obtain⟨g,ep,w2,h1,h2,h3,h4,h5⟩:=run_append_lies (P:=prog) (w:=w) 66 ty B 62 i0 _ 3 40 underlying66 dA hz0 hz1 hz2 rfl (by omega) v m (cq ys) aH ⟨b,off,none⟩ xs.length cap (cq xs) (yP xs) (fun j u hj=>by rw[Addr.add_lit];exact hR.cells j u hj) (My xs) h0 (by unfold maxLen;omega) (by omega) hB _ rfl;rw[<-lH]at h2;exact⟨_,_,w2,h1,h2,h3,fun g' oJ=>by
      have:g'=g:=(by simpa[Value.ownBlock]using oJ.symm);subst this;exact h4⟩
theorem BV {o:Oper}{a:Act}{w:World}{K:Value->World->Prop}(s x:Operand)(ho:o.op=.call {callee:=.builtin .append,args:=#[s,x],argTypes:=#[66,66]})
    {B:Nat} {v:Value} {m:Nat} {ys xs:List Pr} (hs:a.eval s=v) (aH:w.ownsRow B 62 3 v m (cq ys)) {ao:Option Addr} {n cap:Nat} (hx:a.eval x=.slice ao n cap) (hn:n=xs.length) (hA:jN w ao xs) (hf:qg ao cap) (dI:m+n<=2000000) (hB:B<=w.heap.size)
    (h:∀r w',w'.ownsRow B 62 3 r (m+n) (cq (ys++xs))->w.grownBy w' v.ownBlock->(∀g,r.ownBlock=some g->v.ownBlock=some g\/g=w.heap.size)->K r w'):bl prog K ((execOp a.eval o).run prog w):=by
 obtain⟨a',bo,w',hr,h2,h3,h4⟩:=Zq aH hn hA hf dI hB o.type;unfold execOp;simp only[ho,resolve,invoke,builtin,Sem.run_bind,Sem.run_pure,Result.andThen_ok,yK8,zJ5,yQ5,hs,hx,hr];exact h _ _ h2 h3 h4
def dX (ns:List Int):List Value:=ns.map (Value.int .u8)
theorem Ug (ns:List Int):(dX ns).length=ns.length:=by simp[dX]
theorem Mz (a b:List Int):dX (a++b)=dX a++dX b:=by simp[dX]
theorem Uh (ns:List Int):∀u∈dX ns,u.oneCell'=true:=by
 intro u hu;obtain⟨n,_,rfl⟩:=zX3.1 hu;rfl
def qL (s:ByteArray):List Int:=s.data.toList.map fun b=>(b.toNat:Int)
theorem Ui (s:ByteArray):(qL s).length=s.size:=by
 unfold qL;rw[zX6,yZ7];rfl
theorem Zr (s:ByteArray):dX (qL s)=Lib.strCells s:=by
 unfold dX qL Lib.strCells;rw[List.map_map];rfl
theorem MA:(prog.info? 5).map (fun i=>(i.zero,i.size,i.bytes))=some (some (.int .u8 0),1,1):=by kernel_rfl
namespace Pl
def aU (n:Nat):List Int:=if n<128 then [(n:Int)]else((n % 128+128:Nat):Int)::aU (n / 128)
termination_by n
decreasing_by omega
theorem tG {n:Nat}(h:n<128):aU n=[(n:Int)]:=by rw[aU];simp[h]
theorem Q6 {n:Nat}(h:¬n<128):aU n=((n % 128+128:Nat):Int)::aU (n / 128):=by rw[aU];simp[h]
theorem ie (k:Nat):∀n,n<128 ^ (k+1)->(aU n).length<=k+1:=by
 induction k with
 | zero=>intro n h;rw[tG (by simpa using h)];simp
 | succ k ih=>
  intro n h;by_cases hn:n<128
  . rw[tG hn];simp
  . rw[Q6 hn,zQ6];have:=ih (n / 128) (by rw[Nat.div_lt_iff_lt_mul (by decide)];rw[Nat.pow_succ]at h;exact h);omega
theorem Zs (n:Nat):0<(aU n).length:=by
 by_cases h:n<128
 . rw[tG h];simp
 . rw[Q6 h];simp
def bn (s:ByteArray):List Int:=aU s.size++qL s
theorem tH (s:ByteArray)(h:s.size<2097152):(bn s).length<=s.size+3:=by
 unfold bn;rw[zZ4,Ui];have:=ie 2 s.size (by simpa using h);omega
end Pl
def qi (W:World)(a:Option Addr)(ns:List Int):Prop:=ns=[]\/∃b off,a=some ⟨b,off,none⟩/\b<W.heap.size/\∀j n,ns[j]? =some n->W.cell? ⟨b,off+j,none⟩=some (.int .u8 n)
theorem qi.aC {S:Nat->Prop}{W W':World}{a:Option Addr}{ns:List Int}(h:qi W a ns)(g:ar S W W')(hS:∀b off,a=some ⟨b,off,none⟩->¬S b):qi W' a ns:=by
 rcases h with h | ⟨b,off,rfl,hb,hc⟩
 . exact .inl h
 . exact .inr ⟨b,off,rfl,xA9 hb g.size,fun j n hj=>(g.cell hb (hS b off rfl) _).trans (hc j n hj)⟩
theorem qi.ah {W W':World}{a:Option Addr}{ns:List Int}(h:qi W a ns)(g:ae W W'):qi W' a ns:=h.aC (g.only fun _=>False) (fun _ _ _ h=>h)
theorem uL {W:World}{B:Nat}{v:Value}{ns:List Int}(h:W.ownsRow B 5 1 v ns.length (dX ns)):∃a cap,v=.slice a ns.length cap/\qi W a ns/\qg a cap/\ns.length<=cap:=by
 rcases h.2 with⟨h2,h3⟩ | ⟨b,cap,cur,e1,_,hb,hc,_⟩
 . refine⟨none,0,?_,.inl (zX2 h3),.inl ⟨rfl,rfl⟩,by omega⟩;rw[h2,h3]
 . refine⟨_,cap,e1,.inr ⟨b,0,rfl,(zZ2.1 hb).1,fun j n hj=>?_⟩,.inr ⟨_,_,rfl⟩,hc⟩;have:=h.cells (g:=b) (by rw[e1];rfl) j (.int .u8 n) (by unfold dX;rw[yZ3,hj];rfl);rwa[Addr.add_lit]at this
theorem y6r {w:World}{B:Nat}{v:Value}{m:Nat}{ys xs:List Int}(aH:w.ownsRow B 5 1 v m (dX ys)){ao:Option Addr}{n cap:Nat}(hn:n=xs.length)(hA:qi w ao xs)(hf:qg ao cap)(dI:m+n<=100000000)(hB:B<=w.heap.size)(ty:TypeId):
    ∃a' bo w',(Builtin.append_ #[34,34] ty #[v,.slice ao n cap]).run prog w=.ok (.slice a' (m+n) bo) w'/\w'.ownsRow B 5 1 (.slice a' (m+n) bo) (m+n) (dX (ys++xs))/\w.grownBy w' v.ownBlock/\∀g,Value.ownBlock (.slice a' (m+n) bo)=some g->v.ownBlock=some g\/g=w.heap.size:=by
 obtain⟨i0,dA,hz0,hz1,hz2⟩:=wZ8 MA;subst hn;rcases zJ8 xs.length with h0 | h0
 . have e:=zX2 h0;subst e;have jm:Src prog i0.size 34 (.slice ao 0 cap) 0 [] w:=by
    rcases hf with⟨rfl,rfl⟩ | ⟨b,off,rfl⟩
    . exact Src.ofNil w underlying34 0
    . exact Src.ofSlice w underlying34 ⟨b,off,none⟩ 0 cap [] (by simp) (fun j u hj=>by simp at hj) (fun u hu=>by cases hu)
   have hb:∃a' bo,v=.slice a' m bo/\m<=bo:=by
    rcases aH.2 with⟨rfl,h2⟩ | ⟨b,c,cur,rfl,_,_,h4,_⟩
    . subst h2;exact⟨_,_,rfl,zZ3 _⟩
    . exact⟨_,_,rfl,h4⟩
   obtain⟨a',bo,rfl,hc⟩:=hb;exact⟨a',bo,w,run_append_nothing w _ _ _ 5 i0 underlying34 dA a' m bo hc _ jm,by simpa using aH,⟨rfl,rfl,rfl,zZ3 _,fun _ _ _=>rfl⟩,fun g h=> .inl h⟩
 . rcases hA with h1 | ⟨b,off,rfl,hb,hR⟩
   . rw[h1]at h0;simp at h0
   . obtain⟨g,ep,w2,h1,h2,h3,h4,h5⟩:=run_append_lies (P:=prog) (w:=w) 34 ty B 5 i0 _ 1 1 underlying34 dA hz0 hz1 hz2 rfl (by omega) v m (dX ys) aH ⟨b,off,none⟩ xs.length cap (dX xs) (by rw[Ug];omega) (fun j u hj=>by
      rw[Addr.add_lit];unfold dX at hj;rw[yZ3]at hj;cases hq:xs[j]? with
      | none=>rw[hq]at hj;cases hj
      | some q=>rw[hq]at hj;cases hj;exact hR j q hq) (Uh xs) h0 (by unfold maxLen;omega) (by omega) hB _ rfl
     rw[<-Mz]at h2;exact⟨_,_,w2,h1,h2,h3,fun g' oJ=>by
      have:g'=g:=(by simpa[Value.ownBlock]using oJ.symm);subst this;exact h4⟩
theorem y7o {w:World}{B:Nat}{v:Value}{m:Nat}{ys:List Int}(aH:w.ownsRow B 5 1 v m (dX ys))(s:ByteArray)(dI:m+s.size<=100000000)(hB:B<=w.heap.size)(ty:TypeId):
    ∃v' w',(Builtin.append_ #[34,9] ty #[v,.string s]).run prog w=.ok v' w'/\w'.ownsRow B 5 1 v' (m+s.size) (dX (ys++qL s))/\w.grownBy w' v.ownBlock/\∀g,v'.ownBlock=some g->v.ownBlock=some g\/g=w.heap.size:=by
 obtain⟨i0,dA,hz0,hz1,hz2⟩:=wZ8 MA;have vS:(dX ys).length=m:=by simpa using aH.1
 obtain⟨v',w',hr,h2,h3,h4⟩:=Lib.run_append_own_string (P:=prog) w B 34 9 ty 5 i0 underlying34 underlying9 dA hz0 hz1 hz2 v m (dX ys) aH s (by unfold maxLen;omega) (by omega) hB;refine⟨v',w',hr,by rw[Mz,Zr];exact h2,h3,fun g hg=>?_⟩;rcases aH.2 with⟨rfl,rfl⟩ | ⟨b,cap,cur,rfl,hbg,hb,BN,hcm,hcs,Zt⟩
 . by_cases hm:s.size=0
   . rw[(h4.2 ⟨rfl,hm⟩)]at hg;cases hg
   . have hr2:=run_append_nil_string (P:=prog) w 34 9 ty 5 i0 (.int .u8 0) underlying34 underlying9 dA hz0 s (by omega) (by omega) (by rw[hz2];omega);rw[hr]at hr2;cases hr2;exact .inr (by simpa[Value.ownBlock]using hg.symm)
 . by_cases hroom:m+s.size<=cap
   . have hr2:=Lib.run_append_room_string (P:=prog) w 34 9 ty 5 i0 underlying34 underlying9 dA hz1 b m cap cur hb s hroom (by omega);rw[hr]at hr2;cases hr2;exact .inl hg
   . have hr2:=Lib.run_append_grow_string (P:=prog) w 34 9 ty 5 i0 (.int .u8 0) underlying34 underlying9 dA hz0 ⟨b,0,none⟩ m cap (dX ys) (by rw[hz1,vS];omega) (fun j u hj=>aH.cells (g:=b) rfl j u hj) s (by omega) (by omega) (by rw[hz2];exact growslice_fits (by omega) (by omega));rw[hr]at hr2;cases hr2;exact .inr (by simpa[Value.ownBlock]using hg.symm)
structure pQ (w:World)(G:Nat->Prop)(ob:Nat)(v:Value)(bs:List Int):Prop where
 c0:w.cell? ⟨ob,0,none⟩=some v
 f0:w.frozen? ⟨ob,0,none⟩=false
 c1:w.cell? ⟨ob,1,none⟩=some .nilIface
 row:w.ownsRow 0 5 1 v bs.length (dX bs)
 foot:G ob
 own:∀g,v.ownBlock=some g->G g/\g≠ob
 lt:∀j,G j->j<w.heap.size
def cY (w:World)(G:Nat->Prop)(ob:Nat)(bs:List Int):Prop:=∃v,pQ w G ob v bs
def mn (w:World)(G:Nat->Prop)(ob:Nat)(bs:List Int)(w':World):Prop:=ar G w w'/\∃G',cY w' G' ob bs/\∀j,G' j->G j\/w.heap.size<=j
theorem pQ.aC {w w':World}{G S:Nat->Prop}{ob:Nat}{v:Value}{bs:List Int}(h:pQ w G ob v bs)(g:ar S w w')(hS:∀j,G j->¬S j):pQ w' G ob v bs where
 c0:=(g.cell (bf h.c0) (hS _ h.foot) 0).trans h.c0
 f0:=(g.frozen (bf h.c0) (hS _ h.foot) 0).trans h.f0
 c1:=(g.cell (bf h.c0) (hS _ h.foot) 1).trans h.c1
 row:=Ct h.row g fun b hb=>hS b (h.own b hb).1
 foot:=h.foot
 own:=h.own
 lt:=fun j hj=>xA9 (h.lt j hj) g.size
theorem cY.aC {w w':World}{G S:Nat->Prop}{ob:Nat}{bs:List Int}(h:cY w G ob bs)(g:ar S w w')(hS:∀j,G j->¬S j):cY w' G ob bs:=by obtain⟨v,h⟩:=h;exact⟨v,h.aC g hS⟩
theorem cY.ah {w w':World}{G:Nat->Prop}{ob:Nat}{bs:List Int}(h:cY w G ob bs)(g:ae w w'):cY w' G ob bs:=h.aC (g.only fun _=>False) (fun _ _ h=>h)
theorem cY.lt {w:World}{G:Nat->Prop}{ob:Nat}{bs:List Int}(h:cY w G ob bs):∀j,G j->j<w.heap.size:=by obtain⟨v,h⟩:=h;exact h.lt
theorem cY.new (w:World)(T:TypeId):cY (w.alloc (.cells #[.slice none 0 0,.nilIface] T)) (fun j=>j=w.heap.size) w.heap.size []:=
 ⟨.slice none 0 0,by simp[go_sem],by simp[go_sem],by simp[go_sem],World.ownsRow_nil _ _ _ _,rfl,(fun g h=>by cases h),fun j hj=>by rw[hj];simp⟩
theorem mn.step {w w1 w2:World}{G G1:Nat->Prop}{ob:Nat}{cs:List Int}(g1:ar G w w1)(hG:∀j,G1 j->G j\/w.heap.size<=j)(h:mn w1 G1 ob cs w2):mn w G ob cs w2:=by
 obtain⟨g2,G2,h2,h3⟩:=h;refine⟨g1.trans g2 hG,G2,h2,fun j hj=>?_⟩;rcases h3 j hj with h | h
 . exact hG j h
 . exact .inr (zZ6 g1.size h)
theorem mn.refl {w:World}{G:Nat->Prop}{ob:Nat}{bs:List Int}(h:cY w G ob bs):mn w G ob bs w:=⟨ar.refl _ _,G,h,fun j hj=> .inl hj⟩
theorem mn.new {w0 w w1:World}{G:Nat->Prop}{ob:Nat}{bs:List Int}(h:mn w G ob bs w1)(g:ae w0 w)(hG:∀j,G j->w0.heap.size<=j):ae w0 w1:=((g.only _).then h.1).ah hG
theorem pQ.store {w y:World}{G:Nat->Prop}{ob:Nat}{v v':Value}{bs cs:List Int}(h:pQ w G ob v bs)(hO:ar (fun j=>some j=v.ownBlock) w y)(hr:y.ownsRow 0 5 1 v' cs.length (dX cs))(ho:∀g,v'.ownBlock=some g->v.ownBlock=some g\/w.heap.size<=g):mn w G ob cs (y.setCell ⟨ob,0,none⟩ v'):=by
 have dS:=bf h.c0;have hn:¬some ob=v.ownBlock:=fun e=>(h.own _ e.symm).2 rfl;have hc:=(hO.cell dS hn 0).trans h.c0;have hf:=(hO.frozen dS hn 0).trans h.f0;have hc1:=(hO.cell dS hn 1).trans h.c1;have gy:ar (fun j=>j=ob) y (y.setCell ⟨ob,0,none⟩ v'):=ar.setCell y ⟨ob,0,none⟩ _;have hG:∀j,some j=v.ownBlock->G j:=fun j hj=>(h.own j hj.symm).1;have hne:∀g,v'.ownBlock=some g->g≠ob:=fun g hg e=>by
  rcases ho g hg with h1 | h1
  . exact(h.own g h1).2 e
  . subst e;exact absurd (xA9 dS h1) (yX2 _)
 refine⟨(hO.mono fun j hj=> .inl (hG j hj)).then (gy.mono fun j (hj:j=ob)=> .inl (by rw[hj];exact h.foot)),fun j=>G j\/v'.ownBlock=some j,⟨v',by simp[go_sem,hc],by simp[go_sem,hf],?_,Ct hr gy fun b hb (e:b=ob)=>hne b hb e,.inl h.foot,fun g hg=>⟨.inr hg,hne g hg⟩,fun j hj=>?_⟩,fun j hj=>?_⟩
 . rw[World.cell?_setCell_other _ _ _ _ (by simp)];exact hc1
 . rcases hj with hj | hj
   . exact xA9 (h.lt j hj) (zZ6 hO.size gy.size)
   . exact xA9 (hr.lt j hj).2 gy.size
 . rcases hj with hj | hj
   . exact .inl hj
   . rcases ho j hj with h1 | h1
     . exact .inl (hG j h1.symm)
     . exact .inr h1
theorem Q7 {ops:Array Oper}{rest:List Oper}{o:Oper}{a:Act}{Q:Exit->Act->World->Prop}(hgd:o.guard=none)(s x:Operand)
    (ho:o.op=.call {callee:=.builtin .append,args:=#[s,x],argTypes:=#[34,34]}) {w:World} {B:Nat} {v:Value} {m:Nat} {ys xs:List Int} (hs:a.eval s=v) (aH:w.ownsRow B 5 1 v m (dX ys))
    {ao:Option Addr} {n cap:Nat} (hx:a.eval x=.slice ao n cap) (hn:n=xs.length) (hA:qi w ao xs) (hf:qg ao cap) (dI:m+n<=100000000) (hB:B<=w.heap.size)
    (h:∀a' bo w',w'.ownsRow B 5 1 (.slice a' (m+n) bo) (m+n) (dX (ys++xs))->w.grownBy w' v.ownBlock->(∀g,Value.ownBlock (.slice a' (m+n) bo)=some g->v.ownBlock=some g\/g=w.heap.size)->wpList prog ops Q rest (a.put o.dst (.slice a' (m+n) bo)) w'):wpList prog ops Q (o::rest) a w:=by
 obtain⟨a',bo,w',hr,h2,h3,h4⟩:=y6r aH hn hA hf dI hB o.type;exact Lib.wpList_append_run w hgd s x _ _ ho _ _ hs hx _ _ hr (h a' bo w' h2 h3 h4)
theorem Zv {ops:Array Oper}{rest:List Oper}{o:Oper}{a:Act}{Q:Exit->Act->World->Prop}(hgd:o.guard=none)(s x:Operand)
    (ho:o.op=.call {callee:=.builtin .append,args:=#[s,x],argTypes:=#[34,9]}) {w:World} {B:Nat} {v:Value} {m:Nat} {ys:List Int} (hs:a.eval s=v) (aH:w.ownsRow B 5 1 v m (dX ys))
    {t:ByteArray} (hx:a.eval x=.string t) (dI:m+t.size<=100000000) (hB:B<=w.heap.size)
    (h:∀v' w',w'.ownsRow B 5 1 v' (m+t.size) (dX (ys++qL t))->w.grownBy w' v.ownBlock->(∀g,v'.ownBlock=some g->v.ownBlock=some g\/g=w.heap.size)->wpList prog ops Q rest (a.put o.dst v') w'):wpList prog ops Q (o::rest) a w:=by
 obtain⟨v',w',hr,h2,h3,h4⟩:=y7o aH t dI hB o.type;exact Lib.wpList_append_run w hgd s x _ _ ho _ _ hs hx _ _ hr (h v' w' h2 h3 h4)
theorem Zw {w:World}{b:Nat}{n:Int}(h:w.heap[b]? =some (.cells #[.int .u8 n] 5 (0,0))):qi w (some ⟨b,0,none⟩) [n]:=by
 refine .inr ⟨b,0,rfl,(zZ2.1 h).1,fun j m hj=>?_⟩;have Uj:j=0:=by have:=(zQ9.1 hj).1;simp at this;exact this
 subst Uj;simp at hj;subst hj;simp[World.cell?,h]
theorem Uk {n:Int}(h0:0<=n)(h1:n<256):IntKind.u8.wrap n=n:=by unfold IntKind.wrap;simp[IntKind.bits,IntKind.signed];omega
theorem KR {w:World}{G:Nat->Prop}{ob:Nat}{bs:List Int}(h:cY w G ob bs)(n:Nat)(hn:n<4611686018427387904)(hb:bs.length<=90000000):
    Calls prog 74 #[.pointer (some ⟨ob,0,none⟩),.int .i64 n] w fun e w'=>e=.returned (.tuple #[])/\mn w G ob (bs++Pl.aU n) w':=by
 have bK:=ie 8 n (by omega);have HH:=af h;have i1:¬(n:Int)<0:=by omega
 have i2:¬(4611686018427387903:Int)<(n:Int):=by omega
 clear h;go_in;go_wp2_with fail;go_loopw [1] (fun i wr=>∃(k:Nat) (cs:List Int),i=.int .i64 k/\k<=n/\Hid (cs++Pl.aU k=bs++Pl.aU n)/\Hid (mn w G ob cs wr)) (fun i _=>(intOf i).toNat);exact⟨n,bs,rfl,zZ3 _,rfl,mn.refl HH⟩;obtain⟨k,cs,rfl,hk,HE,HT⟩:=hrel;obtain⟨g1,G1,⟨v,hI⟩,hG⟩:=HT.out;have HI:=af hI;obtain⟨a,cap,rfl,hA,hS,qc⟩:=uL hI.row;have c0:=hI.c0;have f0:=hI.f0;have dS:=bf c0;have hlc:cs.length<=90000010:=by
  have:=wZ7 List.length HE;rw[zZ4,zZ4]at this;omega
 have ct:=af g1;have Ie:=af hG;clear hI hA hS g1 hG
 -- the byte that is written, and what it leaves
 have HW:=af (fun(q:Int) (a':Option Addr) (bo:Nat) (w3:World) (aJ:w3.ownsRow 0 5 1 (.slice a' (cs.length+1) bo) (cs.length+1) (dX (cs++[q]))) (hgr:(wr.alloc (.cells #[.int .u8 q] 5)).grownBy w3 (Value.ownBlock (.slice a cs.length cap))) (how:∀g,Value.ownBlock (.slice a' (cs.length+1) bo)=some g->Value.ownBlock (.slice a cs.length cap)=some g\/g=wr.heap.size+1)=>show(w3.cell? ⟨ob,0,none⟩=some (.slice a cs.length cap)/\w3.frozen? ⟨ob,0,none⟩=false/\mn w G ob (cs++[q]) (w3.setCell ⟨ob,0,none⟩ (.slice a' (cs.length+1) bo)))by
  have hO:ar (fun j=>some j=Value.ownBlock (.slice a cs.length cap)) wr w3:=(((ae.rf wr).alloc _).only _).then (ar.ay hgr);have hn:¬some ob=Value.ownBlock (.slice a cs.length cap):=fun e=>(HI.own _ e.symm).2 rfl;refine⟨(hO.cell dS hn 0).trans HI.c0,(hO.frozen dS hn 0).trans HI.f0,mn.step ct Ie (HI.store hO ?_ fun g hg=>?_)⟩
  . rw[show(cs++[q]).length=cs.length+1 by simp];exact aJ
  . rcases how g hg with h | h
    . exact .inl h
    . exact .inr (by rw[h];omega))
 by_cases yQ:k<128
 . have j1:¬(128:Int)<=(k:Int):=(by omega);have hw:IntKind.u8.wrap (k:Int)=(k:Int):=Uk (by omega) (by omega);have cE:Hid (cs++[(k:Int)]=bs++Pl.aU n):=(by unfold Hid;rw[<-HE.out,Pl.tG yQ]);go_wp2_with (at_builtin;refine Q7 rfl _ _ rfl rfl (gP ((ae.rf wr).alloc _) HI.out.row) rfl rfl (Zw (n:=k) (wZ0 wr _)) (.inr ⟨_,_,rfl⟩) (by simp only[zQ6,zJ0];omega) (zZ5 _) ?_);intro a' bo w3 aJ hgr how;obtain⟨c3,f3,hT⟩:=HW _ a' bo w3 aJ hgr how;have MC:=bf c3;rw[cE.out]at hT;have dJ:=af hT;clear aJ hgr how hT cE;go_wp2_with fail;go_end0;exact⟨rfl,dJ⟩
 . have j1:(128:Int)<=(k:Int):=(by omega);have hr:((k:Int) % 128+128)=((k % 128+128:Nat):Int):=(by omega);have HR:=af hr;clear hr;go_wp2_with (at_builtin;refine Q7 rfl _ _ rfl rfl (gP ((ae.rf wr).alloc _) HI.out.row) rfl rfl (Zw (n:=(k:Int) % 128+128) (wZ0 wr _)) (.inr ⟨_,_,rfl⟩) (by simp only[zQ6,zJ0];omega) (zZ5 _) ?_);intro a' bo w3 aJ hgr how;obtain⟨c3,f3,hT⟩:=HW _ a' bo w3 aJ hgr how;have MC:=bf c3;have dJ:=af hT;clear aJ hgr how hT;go_wp2_with fail;go_roundw;case rel=>exact⟨k / 128,cs++[(k:Int) % 128+128],by go_num,by omega,by unfold Hid;rw[<-HE.out,Q6 yQ,HR.out];simp,dJ⟩
   case measure=>simp[intOf];omega
theorem Q8 {w:World}{G:Nat->Prop}{ob:Nat}{bs:List Int}(h:cY w G ob bs)(s:ByteArray)(hs:s.size<=1000000)(hb:bs.length<=80000000):
    Calls prog 76 #[.pointer (some ⟨ob,0,none⟩),.string s] w fun e w'=>e=.returned (.tuple #[])/\mn w G ob (bs++Pl.bn s) w':=by
 have bK:=ie 8 s.size (by omega);have HN:=af (KR h s.size (by omega) (by omega));clear h;go_in;go_wp2_with fail;refine HN.mono ?_;rintro e wr ⟨rfl,g1,G1,⟨v,hI⟩,hG⟩;have HI:=af hI;obtain⟨a,cap,rfl,hA,hS,qc⟩:=uL hI.row;have c0:=hI.c0;have dS:=bf c0;have ct:=af g1;have Ie:=af hG;clear hI hA hS g1 hG;obtain⟨cs,hcs⟩:∃cs,cs=bs++Pl.aU s.size:=⟨_,rfl⟩
 have hlc:cs.length<=80000010:=by rw[hcs,zZ4];omega
 have cE:Hid (cs++qL s=bs++Pl.bn s):=by unfold Hid Pl.bn;rw[hcs];simp
 rw[<-hcs]at HI qc c0;clear hcs HN;go_wp2_with (at_builtin;refine Zv rfl _ _ rfl rfl HI.out.row rfl (by omega) (zZ5 _) ?_);intro v' w3 aJ hgr how;have cF:∃a' c',v'=.slice a' (cs.length+s.size) c':=by
  rcases aJ.2 with⟨h1,h2⟩ | ⟨b,c,cur,h1,_⟩
  . exact⟨none,0,by rw[h1,h2]⟩
  . exact⟨_,_,h1⟩
 obtain⟨a',c',rfl⟩:=cF;have hO:ar (fun j=>some j=Value.ownBlock (.slice a cs.length cap)) wr w3:=ar.ay hgr;have hn:¬some ob=Value.ownBlock (.slice a cs.length cap):=fun e=>(HI.own _ e.symm).2 rfl;have c3:=(hO.cell dS hn 0).trans HI.c0;have f3:=(hO.frozen dS hn 0).trans HI.f0;have MC:=bf c3;have dJ:Hid (mn w G ob (bs++Pl.bn s) (w3.setCell ⟨ob,0,none⟩ (.slice a' (cs.length+s.size) c'))):=by
  unfold Hid;rw[<-cE.out];refine mn.step ct Ie (HI.store hO ?_ fun g hg=>?_)
  . rw[show(cs++qL s).length=cs.length+s.size by rw[zZ4,Ui]];exact aJ
  . rcases how g hg with h | h
    . exact .inl h
    . exact .inr (by omega)
 clear aJ hgr how hO hn cE;go_wp2_with fail;go_end0;exact⟨rfl,dJ⟩
theorem z4H (w:World)(a:Option Addr)(n cap:Nat)(ns:List Int)(hn:n=ns.length)(hA:qi w a ns)(hf:qg a cap)(hx:ns.length<=1000000):
    Calls prog 124 #[.slice a n cap] w fun e w'=>∃a' c',e=.returned (.slice a' n c')/\w'.ownsRow w.heap.size 5 1 (.slice a' n c') ns.length (dX ns)/\ae w w':=by
 subst hn;rcases zJ8 ns.length with h0 | h0
 . have e:=zX2 h0;subst e;rcases hf with⟨rfl,rfl⟩ | ⟨b,off,rfl⟩
   . exact(z4g w).mono fun e w' ⟨he,hg⟩=>⟨_,_,he,World.ownsRow_nil _ _ _ _,hg⟩
   . exact(z1J w b off cap).mono fun e w' ⟨he,hr,hg⟩=>⟨_,_,he,hr,hg⟩
 . rcases hA with h1 | ⟨b,off,rfl,hb,hR⟩
   . rw[h1]at h0;simp at h0
   . refine(CN w b off ns.length cap h0 hx (dX ns) (by rw[Ug];omega) (fun j u hj=>?_) (Uh ns)).mono fun e w' ⟨g,cap,he,hr,hg⟩=>⟨_,_,he,hr,hg⟩
     unfold dX at hj;rw[yZ3]at hj;cases hq:ns[j]? with
     | none=>rw[hq]at hj;cases hj
     | some q=>rw[hq]at hj;cases hj;exact hR j q hq
theorem Q9 {w:World}{G:Nat->Prop}{ob:Nat}{bs:List Int}(h:cY w G ob bs)(hb:bs.length<=65536):
    Calls prog 77 #[.pointer (some ⟨ob,0,none⟩)] w fun e w'=>∃a c,e=.returned (.tuple #[.slice a bs.length c,.nilIface])/\w'.ownsRow w.heap.size 5 1 (.slice a bs.length c) bs.length (dX bs)/\ae w w':=by
 obtain⟨v,hI⟩:=h;obtain⟨a,cap,rfl,hA,hS,qc⟩:=uL hI.row;have c0:=hI.c0;have c1:=hI.c1;have dS:=bf c0;have HC:=af (z4H w a bs.length cap bs rfl hA hS (by omega));have hl:¬(65536:Int)<(bs.length:Int):=by omega
 clear hI hA hS;go_in;go_wp2_with fail;refine HC.mono ?_;rintro e w1 ⟨a',c',rfl,hr,hg⟩;have HR:=af hr;have HG:=af hg;clear hr hg;go_wp2_with fail;go_ret2;exact⟨a',c',rfl,HR,HG⟩
theorem Ra (n:Nat):∀(w:World),n<4611686018427387904->Calls prog 78 #[.int .i64 n] w fun e w'=>∃a c,e=.returned (.slice a (Pl.aU n).length c)/\w'.ownsRow w.heap.size 5 1 (.slice a (Pl.aU n).length c) (Pl.aU n).length (dX (Pl.aU n))/\ae w w':=by
 induction n using Nat.strongRecOn with
 | ind n ih=>
  intro w hn;by_cases yQ:n<128
  . have h1:(n:Int)<128:=(by omega);have hw:IntKind.u8.wrap (n:Int)=(n:Int):=Uk (by omega) (by omega);rw[Pl.tG yQ];have gI:=af (World.ownsRow_lit (base:=w.heap.size) (size:=1) (e:=5) w #[.int .u8 n] 1 (zZ3 _) (by decide) rfl);clear ih;go_in;go_wp2_with fail;go_ret;exact⟨_,_,rfl,gI,(ae.rf w).alloc _⟩
  . have h1:¬(n:Int)<128:=(by omega);have HI:=af (fun W=>ih (n / 128) (by omega) W (by omega));have bK:=ie 8 (n / 128) (by omega);have hr:((n:Int) % 128+128)=((n % 128+128:Nat):Int):=(by omega);rw[Q6 yQ,<-hr];have HR:=af hr;obtain⟨q,hq⟩:∃q,q=(n:Int) % 128+128:=⟨_,rfl⟩
    generalize Pl.aU (n / 128)=cs at *;have hd:((n:Int) / 128)=((n / 128:Nat):Int):=(by omega);have gI:=af (World.ownsRow_lit (base:=w.heap.size) (size:=1) (e:=5) w #[.int .u8 ((n:Int) % 128+128)] 1 (zZ3 _) (by decide) rfl);have HD:=af hd;clear ih hr hq q hd;go_in;go_wp2_with fail;refine(HI _).mono ?_;rintro e w1 ⟨a,c,rfl,aJ,hg⟩;obtain⟨a',c',e',hA,hS,_⟩:=uL aJ;cases e';have HG:=af hg;clear aJ hg HI;go_wp2_with (at_builtin;refine Q7 rfl _ _ rfl rfl (ys:=[(n:Int) % 128+128]) (gP HG.out gI.out) rfl rfl hA hS (by omega) (by have:=HG.out.size;simp at this;omega) ?_);intro a2 c2 w3 aJ hgr how;have HX:Hid (ae w w3):=((((ae.rf w).alloc (.cells #[.int .u8 ((n:Int) % 128+128)] 5)).trans HG).only (fun j=>some j=Value.ownBlock (.slice (some ⟨w.heap.size,0,none⟩) 1 1))).then (ar.ay hgr) |>.ah (fun j hj=>by have h1:j=w.heap.size:=Option.some.inj hj;omega);have wU:=af aJ;clear aJ hgr how hA hS;go_wp2_with fail;go_ret;refine⟨a2,c2,?_,?_,HX⟩
    . simp[yQ9]
    . rw[yQ9 cs.length 1];exact wU
theorem Ul (w:World)(s:ByteArray)(hs:s.size<=1000000):Calls prog 79 #[.string s] w fun e w'=>∃a c,e=.returned (.slice a (Pl.bn s).length c)/\w'.ownsRow w.heap.size 5 1 (.slice a (Pl.bn s).length c) (Pl.bn s).length (dX (Pl.bn s))/\ae w w':=by
 have bK:=ie 8 s.size (by omega);have HN:=af (Ra s.size w (by omega));have hE:(Pl.bn s).length=(Pl.aU s.size).length+s.size:=by unfold Pl.bn;rw[zZ4,Ui]
 have HE:Hid (Pl.aU s.size++qL s=Pl.bn s):=rfl;rw[hE];generalize Pl.bn s=ts at *;generalize Pl.aU s.size=cs at *;clear hE;go_in;go_wp2_with fail;refine HN.mono ?_;rintro e w1 ⟨a,c,rfl,aJ,hg⟩;have wU:=af aJ;have HG:=af hg;clear aJ hg HN;go_wp2_with (at_builtin;refine Zv rfl _ _ rfl rfl wU.out rfl (by omega) HG.out.size ?_);intro v' w3 aJ hgr how;have cF:∃a' c',v'=.slice a' (cs.length+s.size) c':=by
  rcases aJ.2 with⟨h1,h2⟩ | ⟨b,c,cur,h1,_⟩
  . exact⟨none,0,by rw[h1,h2]⟩
  . exact⟨_,_,h1⟩
 obtain⟨a',c',rfl⟩:=cF;have HX:Hid (ae w w3):=((HG.only (fun j=>some j=Value.ownBlock (.slice a cs.length c))).then (ar.ay hgr)).ah (fun j hj=>(wU.lt j hj.symm).1);rw[HE.out]at aJ;have yR:=af aJ;clear aJ hgr how;go_wp2_with fail;go_ret;exact⟨a',c',rfl,yR,HX⟩
def qj (B:Nat)(Z:Nat->Prop)(j:Nat):Prop:=¬Z j/\B<=j
def Ig (Z:Nat->Prop)(b j:Nat):Prop:=Z j\/j=b
theorem Zx {B:Nat}{Z:Nat->Prop}{b:Nat}(h:Z b):¬qj B Z b:=fun k=>k.1 h
theorem Um {B:Nat}{Z:Nat->Prop}{b:Nat}:¬qj B (Ig Z b) b:=fun k=>k.1 (.inr rfl)
theorem Un {B:Nat}{Z:Nat->Prop}{b j:Nat}(h:qj B (Ig Z b) j):qj B Z j:=⟨fun k=>h.1 (.inl k),h.2⟩
structure iC (B:Nat)(Z:Nat->Prop)(w:World)(v:Value)(cs:List Int):Prop where
 form:∃a c,v=.slice a cs.length c
 row:w.ownsRow B 5 1 v cs.length (dX cs)
 ne:∀g,v.ownBlock=some g->¬Z g
 base:B<=w.heap.size
 lt:∀j,Z j->j<w.heap.size
theorem iC.ah {B:Nat}{Z:Nat->Prop}{w w':World}{v:Value}{cs:List Int}(h:iC B Z w v cs)(g:ae w w'):iC B Z w' v cs:=
 ⟨h.form,gP g h.row,h.ne,zZ6 h.base g.size,fun j hj=>xA9 (h.lt j hj) g.size⟩
theorem iC.br {B:Nat}{Z:Nat->Prop}{w w':World}{v:Value}{cs:List Int}(h:iC B Z w v cs)(g:ae w w'){b:Nat}(h1:w.heap.size<=b)(h2:b<w'.heap.size):iC B (Ig Z b) w' v cs:=by
 refine⟨h.form,gP g h.row,fun j hj hz=>?_,zZ6 h.base g.size,fun j hj=>?_⟩
 . rcases hz with hz | rfl
   . exact h.ne j hj hz
   . have:=(h.row.lt j hj).2;omega
 . rcases hj with hj | rfl
   . exact xA9 (h.lt j hj) g.size
   . exact h2
theorem iC.less {B:Nat}{Z Y:Nat->Prop}{w:World}{v:Value}{cs:List Int}(h:iC B Z w v cs)(hY:∀j,Y j->Z j):iC B Y w v cs:=⟨h.form,h.row,fun g hg hy=>h.ne g hg (hY g hy),h.base,fun j hj=>h.lt j (hY j hj)⟩
theorem iC.next {B:Nat}{Z:Nat->Prop}{w w':World}{v v':Value}{cs ds:List Int}(h:iC B Z w v cs)(hf:∃a c,v'=.slice a ds.length c)(hr:w'.ownsRow B 5 1 v' ds.length (dX ds))(hgr:w.grownBy w' v.ownBlock)(how:∀g,v'.ownBlock=some g->v.ownBlock=some g\/g=w.heap.size):iC B Z w' v' ds/\ar (qj B Z) w w':=by
 have hO:=ar.ay hgr;refine⟨⟨hf,hr,fun g hg hz=>?_,zZ6 h.base hO.size,fun j hj=>xA9 (h.lt j hj) hO.size⟩,hO.mono fun j hj=> .inl ⟨h.ne j hj.symm,(h.row.lt j hj.symm).1⟩⟩;rcases how g hg with h1 | h1
 . exact h.ne g h1 hz
 . have:=h.lt g hz;omega
theorem iC.aX {w:World}{B:Nat}{a:Option Addr}{c:Nat}{cs:List Int}(h:w.ownsRow B 5 1 (.slice a cs.length c) cs.length (dX cs))(hB:B<=w.heap.size):iC B (fun _=>False) w (.slice a cs.length c) cs:=⟨⟨_,_,rfl⟩,h,fun _ _ h=>h,hB,fun _ h=>h.elim⟩
theorem Rb {ops:Array Oper}{rest:List Oper}{o:Oper}{a:Act}{Q:Exit->Act->World->Prop}(hgd:o.guard=none)(s x:Operand)
    (ho:o.op=.call {callee:=.builtin .append,args:=#[s,x],argTypes:=#[34,34]}) {w:World} {B:Nat} {Z:Nat->Prop} {v:Value} {ys xs:List Int} (hs:a.eval s=v) (aH:iC B Z w v ys)
    {u:Value} {C:Nat} (hx:a.eval x=u) (hu:w.ownsRow C 5 1 u xs.length (dX xs)) (dI:ys.length+xs.length<=100000000)
    (h:∀ds,Hid (ds=ys++xs)->∀a' c' w',iC B Z w' (.slice a' ds.length c') ds->ar (qj B Z) w w'->wpList prog ops Q rest (a.put o.dst (.slice a' ds.length c')) w'):wpList prog ops Q (o::rest) a w:=by
 obtain⟨au,cu,rfl,hA,hS,_⟩:=uL hu;refine Q7 hgd s x ho hs aH.row hx rfl hA hS dI aH.base ?_;intro a' c' w' hr hgr how;rw[<-zZ4]at hr how;rw[<-zZ4];obtain⟨h1,h2⟩:=aH.next ⟨_,_,rfl⟩ hr hgr how;exact h _ rfl a' c' w' h1 h2
theorem ZL (k v:ByteArray)(n:Int)(key:ByteArray)(w:World)(hk:k.size<=70368744177664)(hy:key.size<=70368744177664):
    Calls prog 153 #[.agg #[.string k,.string v,.int .i64 n],.string key] w fun e w'=>e=.returned (.int .i64 (Pl.cU k key))/\ae w w':=by
 go_in;go_wp2_with fail;refine(L5 k key _ hk hy).mono ?_;rintro e w' ⟨rfl,hg⟩;go_wp2_with fail;go_ret;exact⟨rfl,((ae.rf w).alloc _).trans hg⟩
theorem z1D (a:Option Addr)(cap:Nat)(xs:List Pr)(key:ByteArray)(w:World)(hA:jN w a xs)(hx:xs.length<=1000000)(oK:∀j,j<xs.length->(aV xs j).key.size<=70368744177664)(hy:key.size<=70368744177664)
    (p:Nat) (hp:p<=xs.length) (tA:∀j,j<xs.length->(Pl.cU (aV xs j).key key<0↔j<p)):
    Calls prog 152 #[.slice a xs.length cap,.string key,.func (.func 153) #[] #[]] w fun e w'=>e=.returned (.tuple #[.int .i64 (p:Int),.bool (decide (p<xs.length/\Pl.cU (aV xs p).key key=0))])/\ae w w':=by
 have HA:=af hA;have HK:=af oK;have HP:=af tA;clear hA oK tA;go_in;go_wp2_with fail;go_loopw [9,10] (fun i j wr=>∃l r:Nat,l<=p/\p<=r/\r<=xs.length/\i=.int .i64 l/\j=.int .i64 r/\ae w wr) (fun i j _=>(intOf j).toNat - (intOf i).toNat);exact⟨0,xs.length,zZ5 _,hp,zZ3 _,rfl,rfl,ae.rf w⟩;obtain⟨l,r,hl,hr,hrx,rfl,rfl,hG⟩:=hrel;by_cases az:l<r
 . obtain⟨m,hm⟩:∃m,m=(l+r) / 2:=⟨_,rfl⟩
   have yV:l<=m:=(by omega);have ky:m<r:=(by omega);have CV:m<xs.length:=(by omega);have Mu:(m:Int)<(xs.length:Int):=(by omega);have hme:((l:Int)+(r:Int)) / 2=(m:Int):=(by omega);clear hm;rcases HA.out with h0 | ⟨b,off,rfl,hb,hR⟩
   . rw[h0]at CV;simp at CV
   have q0:=(hG.cells.1 b (off+m*3) hb).trans (hR.key m CV);have q1:=(hG.cells.1 b (off+m*3+1) hb).trans (hR.val m CV);have q2:=(hG.cells.1 b (off+m*3+2) hb).trans (hR.eI m CV);have ZM:=af (HP m CV);have HF:=af (fun W=>ZL (aV xs m).key (aV xs m).val (aV xs m).eI key W (HK m CV) hy);clear hR;by_cases hc:Pl.cU (aV xs m).key key<0
   . have ZN:=ZM.1 hc;go_wp2_with fail;refine(HF _).mono ?_;rintro e w1 ⟨rfl,aR⟩;go_wp2_with fail;go_roundw;case rel=>exact⟨m+1,r,by omega,hr,hrx,by go_num,rfl,hG.trans aR⟩
     case measure=>simp[intOf];omega
   . have ZN:p<=m:=Nat.le_of_not_lt fun h=>hc (ZM.2 h);go_wp2_with fail;refine(HF _).mono ?_;rintro e w1 ⟨rfl,aR⟩;go_wp2_with fail;go_roundw;case rel=>exact⟨l,m,hl,ZN,by omega,rfl,rfl,hG.trans aR⟩
     case measure=>simp[intOf];omega
 . obtain rfl:l=p:=(by omega);obtain rfl:r=l:=(by omega);by_cases Ip:r<xs.length
   . rcases HA.out with h0 | ⟨b,off,rfl,hb,hR⟩
     . rw[h0]at Ip;simp at Ip
     have q0:=(hG.cells.1 b (off+r*3) hb).trans (hR.key r Ip);have q1:=(hG.cells.1 b (off+r*3+1) hb).trans (hR.val r Ip);have q2:=(hG.cells.1 b (off+r*3+2) hb).trans (hR.eI r Ip);have HF:=af (fun W=>ZL (aV xs r).key (aV xs r).val (aV xs r).eI key W (HK r Ip) hy);have Ux:(r:Int)<(xs.length:Int):=(by omega);clear hR;have HB:Hid (decide (r<xs.length/\Pl.cU (aV xs r).key key=0)=(Pl.cU (aV xs r).key key==0)):=by
      unfold Hid;rw[zK4];simp[Ip]
     go_wp2_with fail;refine(HF _).mono ?_;rintro e w1 ⟨rfl,aR⟩;go_wp2_with fail;go_ret2;exact⟨by rw[HB.out];rfl,hG.trans aR⟩
   . have Ux:¬(r:Int)<(xs.length:Int):=(by omega);go_wp2_with fail;go_ret2;exact⟨rfl,hG⟩
namespace Pl
structure dK (xs:List Pr):Prop where
 key:∀c∈xs,aT c.key=0
 iO:xs.Pairwise fun a b=>cU a.key b.key<0
theorem KU:dK []:=⟨by simp,by simp⟩
def pos (xs:List Pr)(k:ByteArray):Nat:=xs.countP fun c=>decide (cU c.key k<0)
theorem ML (xs:List Pr)(k:ByteArray):pos xs k<=xs.length:=List.countP_le_length
theorem FQ {k:ByteArray}(hk:Ok k):∀{xs:List Pr},dK xs->∀j,j<xs.length->(cU (aV xs j).key k<0↔j<pos xs k):=by
 intro xs;induction xs with
 | nil=>intro _ j hj;simp at hj
 | cons c xs ih=>
  intro h j hj;have hs:dK xs:=⟨fun x hx=>h.key x (zJ9 _ hx),(yQ3.1 h.iO).2⟩
  have hc:Ok c.key:=jP (h.key c (by simp));by_cases az:cU c.key k<0
  . have e:pos (c::xs) k=pos xs k+1:=(by unfold pos;rw[List.countP_cons_of_pos (by simpa using az)]);rw[e];cases j with
    | zero=>simp[aV,az]
    | succ j=>
     have:=ih hs j (by simpa using hj);rw[show aV (c::xs) (j+1)=aV xs j by simp[aV]];omega
  . have hall:∀x∈xs,¬cU x.key k<0:=by
     intro x hx kI;exact az (uM hc (jP (h.key x (zJ9 _ hx))) hk ((yQ3.1 h.iO).1 x hx) kI)
    have e0:pos xs k=0:=by
     unfold pos;rw[List.countP_eq_zero];intro x hx;simpa using hall x hx
    have e:pos (c::xs) k=0:=by
     unfold pos at e0 ⊢;rw[List.countP_cons_of_neg (by simpa using az)];exact e0
    rw[e];refine⟨fun hh=>?_,fun hh=>by omega⟩;cases j with
    | zero=>exact absurd (by simpa[aV]using hh) az
    | succ j=>
     rw[show aV (c::xs) (j+1)=aV xs j by simp[aV],kV xs j (by simpa using hj)]at hh;exact absurd hh (hall _ (zQ4 _))
theorem CW (xs:List Pr)(k:Nat)(h:k<xs.length):aV xs k∈xs:=by rw[kV xs k h];exact zQ4 h
def hasB (xs:List Pr)(k:ByteArray):Bool:=decide (pos xs k<xs.length/\cU (aV xs (pos xs k)).key k=0)
theorem FR {xs:List Pr}(h:dK xs){k:ByteArray}(hk:Ok k)(hb:hasB xs k=true):pos xs k<xs.length/\(aV xs (pos xs k)).key=k:=by
 unfold hasB at hb;rw[decide_eq_true_iff]at hb;exact⟨hb.1,CS (jP (h.key _ (CW xs _ hb.1))) hk hb.2⟩
theorem Uy {xs:List Pr}(h:dK xs){c:Pr}(hc:c∈xs):hasB xs c.key=true/\aV xs (pos xs c.key)=c:=by
 obtain⟨j,hj,rfl⟩:=zK5 hc;have eK:Ok (xs[j]).key:=jP (h.key _ hc);have hi:=FQ eK h;have h1:¬j<pos xs (xs[j]).key:=by
  rw[<-hi j hj,kV xs j hj,CT eK];simp
 have h2:pos xs (xs[j]).key=j:=by
  rcases zJ7 (pos xs (xs[j]).key) j with az | KI
  . have:=(hi (pos xs (xs[j]).key) (by omega)).1 (by
     rw[kV xs _ (by omega)];exact zJ4.1 h.iO _ _ (by omega) hj az)
    omega
  . omega
 rw[h2];refine⟨?_,kV xs j hj⟩;unfold hasB;rw[h2,decide_eq_true_iff,kV xs j hj];exact⟨hj,CT eK⟩
def il (xs:List Pr)(p:Pr):List Pr:=xs.take (pos xs p.key)++[p]++xs.drop (pos xs p.key+if hasB xs p.key=true then 1 else 0)
def jQ (xs:List Pr)(k:ByteArray):List Pr:=if aT k=0/\hasB xs k=true then xs.take (pos xs k)++xs.drop (pos xs k+1)else xs
theorem Uz {xs:List Pr}(h:dK xs){k:ByteArray}(hk:Ok k)(c:Pr)(hc:c∈xs.take (pos xs k)):cU c.key k<0:=by
 obtain⟨j,hj,rfl⟩:=zK5 hc;rw[zZ9]at hj;have:=(FQ hk h j (by omega)).2 (by omega);rw[kV xs j (by omega)]at this;rw[yJ2];exact this
theorem CX {xs:List Pr}(h:dK xs){k:ByteArray}(hk:Ok k)(q:Nat)(qm:q<xs.length)(hq:(pos xs k+if hasB xs k=true then 1 else 0)<=q):cU k (xs[q]).key<0:=by
 have Iq:Ok (xs[q]).key:=jP (h.key _ (zQ4 qm));have h1:¬cU (xs[q]).key k<0:=by
  rw[<-kV xs q qm,FQ hk h q qm];split at hq<;> omega
 have h2:cU (xs[q]).key k≠0:=by
  intro h0;have he:(xs[q]).key=k:=CS Iq hk h0;have:=Uy h (zQ4 qm);rw[he]at this;have hp:=this.2;rw[zZ1 this.1]at hq;have hpl:=(FR h hk this.1).1;rw[kV xs _ hpl]at hp;have hr:=zJ4.1 h.iO (pos xs k) q hpl qm (by omega);rw[hp,CT Iq]at hr;simp at hr
 rw[yU Iq hk];omega
theorem UA {xs:List Pr}(h:dK xs){k:ByteArray}(hk:Ok k)(c:Pr)(hc:c∈xs.drop (pos xs k+if hasB xs k=true then 1 else 0)):cU k c.key<0:=by
 obtain⟨j,hj,rfl⟩:=zK5 hc;rw[zK1]at hj;rw[List.getElem_drop];exact CX h hk _ _ (Nat.le_add_right _ _)
theorem UB {xs ys:List Pr}(h:dK xs)(hs:ys.Sublist xs):dK ys:=⟨fun c hc=>h.key c (hs.subset hc),h.iO.sublist hs⟩
theorem Rg {xs:List Pr}(h:dK xs){p:Pr}(hp:aT p.key=0):dK (il xs p):=by
 have hk:=jP hp;refine⟨?_,?_⟩
 . intro c hc;unfold il at hc;simp only[zQ8,zQ0]at hc;rcases hc with(hc | rfl) | hc
   . exact h.key c (yZ2 hc)
   . exact hp
   . exact h.key c (zK6 hc)
 . unfold il;rw[zQ7,yX7];refine⟨h.iO.sublist (yJ9 _ _),?_,?_⟩
   . rw[xX0,yQ3];exact⟨fun c hc=>UA h hk c hc,h.iO.sublist (yK1 _ _)⟩
   . intro a ha b hb;have h1:=Uz h hk a ha;simp only[xX0,zX0]at hb;rcases hb with rfl | hb
     . exact h1
     . exact uM (jP (h.key a (yZ2 ha))) hk (jP (h.key b (zK6 hb))) h1 (UA h hk b hb)
theorem ZP {xs:List Pr}(h:dK xs){k:ByteArray}(hk:Ok k)(c:Pr):(c∈xs.take (pos xs k)\/c∈xs.drop (pos xs k+if hasB xs k=true then 1 else 0))↔c∈xs/\c.key≠k:=by
 constructor
 . rintro (hc | hc)
   . refine⟨yZ2 hc,fun e=>?_⟩;have:=Uz h hk c hc;rw[e,CT hk]at this;simp at this
   . refine⟨zK6 hc,fun e=>?_⟩;have:=UA h hk c hc;rw[e,CT hk]at this;simp at this
 . rintro ⟨hc,hne⟩;obtain⟨j,hj,rfl⟩:=zK5 hc;by_cases az:j<pos xs k
   . left;rw[yK7];exact⟨j,by omega,rfl⟩
   . right;rw[yJ3];by_cases hb:hasB xs k=true
     . rw[zZ1 hb];have UC:=FR h hk hb;have tk:j≠pos xs k:=by
        rintro rfl;rw[kV xs _ UC.1]at UC;exact hne UC.2
       exact⟨j - (pos xs k+1),by omega,by congr 1;omega⟩
     . rw[zZ0 hb];exact⟨j - (pos xs k+0),by omega,by congr 1;omega⟩
theorem Rh {xs:List Pr}(h:dK xs){p:Pr}(hp:aT p.key=0)(c:Pr):c∈il xs p↔c=p\/c∈xs/\c.key≠p.key:=by
 rw[<-ZP h (jP hp)];unfold il;simp only[zQ8,zQ0];constructor
 . rintro ((h | h) | h)
   . exact .inr (.inl h)
   . exact .inl h
   . exact .inr (.inr h)
 . rintro (h | h | h)
   . exact .inl (.inr h)
   . exact .inl (.inl h)
   . exact .inr h
theorem UD {xs:List Pr}(h:dK xs)(k:ByteArray):dK (jQ xs k):=by
 unfold jQ;split
 . refine UB h ?_;have e:xs=xs.take (pos xs k)++xs.drop (pos xs k):=(zX7 _ _).symm;conv=>rhs;rw[e]
   exact List.Sublist.append (List.Sublist.refl _) (by rw[<-List.drop_drop];exact yK1 _ _)
 . exact h
theorem UE {xs:List Pr}(h:dK xs)(k:ByteArray)(c:Pr):c∈jQ xs k↔c∈xs/\c.key≠k:=by
 unfold jQ;split
 . next hh=>
   have:=ZP h (jP hh.1) c;rw[zZ1 hh.2]at this;rw[zQ8];exact this
 . next hh=>
   refine⟨fun hc=>⟨hc,fun e=>?_⟩,fun hc=>hc.1⟩;subst e;exact hh ⟨h.key c hc,(Uy h hc).1⟩
theorem z1O (xs:List Pr)(p:Pr):(il xs p).length<=xs.length+1:=by
 unfold il;have:=ML xs p.key;simp only[zZ4,zZ9,xQ2,zK1];split<;> omega
end Pl
namespace Pl
def cD (xs:List Pr)(lo hi:ByteArray)(aI:Int):List Pr:=(xs.filter fun c=>bk lo hi c.key).take aI.toNat
theorem ZR (xs:List Pr)(lo hi:ByteArray)(aI:Int)(k:Nat)(hk:k<xs.length):
    cD (xs.take (k+1)) lo hi aI=cD (xs.take k) lo hi aI++if((cD (xs.take k) lo hi aI).length:Int)<aI/\bk lo hi (aV xs k).key=true then [aV xs k]else []:=by
 unfold cD;rw[zX1 hk,<-kV xs k hk,xZ8];by_cases hh:bk lo hi (aV xs k).key=true
 . rw[List.filter_cons_of_pos (by simpa using hh),List.filter_nil];generalize (xs.take k).filter _=L;by_cases az:((L.take aI.toNat).length:Int)<aI
   . rw[zZ1 ⟨az,hh⟩];rw[zZ9]at az;rw[zJ3 (show L.length<=aI.toNat by omega),zJ3 (by simp;omega)]
   . rw[zZ0 (fun h=>az h.1),yZ1];rw[zZ9]at az;rw[yX8 (by omega)]
 . rw[List.filter_cons_of_neg (by simpa using hh),List.filter_nil,yZ1,zZ0 (fun h=>hh h.2),yZ1]
end Pl
end Go.Proofs.YtgegogoanbamfaaGreatDoor
namespace Go.Proofs.YtgegogoanbamfaaGreatDoor.Pl
open Go.Sort Go.Proofs
theorem UW {α:Type}(lt:α->α->Prop):∀(l l':List α),l.Perm l'->l.Pairwise lt->l'.Pairwise (fun a b=>¬lt b a)->(∀a b,lt a b->¬lt b a)->l=l'
 | [],l',hp,_,_,_=>(List.Perm.nil_eq hp)
 | a::l,[],hp,_,_,_=>by have:=hp.length_eq;simp at this
 | a::l,b::l',hp,h1,h2,h3=>by
  rw[yQ3]at h1 h2;have hab:a=b:=by
   have hb:b∈a::l:=hp.mem_iff.2 (zZ8 ..);have ha:a∈b::l':=hp.mem_iff.1 (zZ8 ..);rcases zX0.1 hb with hb | hb
   . exact hb.symm
   . rcases zX0.1 ha with ha | ha
     . exact ha
     . exact absurd (h1.1 b hb) (h2.1 a ha)
  subst hab;rw[UW lt l l' (List.perm_cons a |>.1 hp) h1.2 h2.2 h3]
end Go.Proofs.YtgegogoanbamfaaGreatDoor.Pl
namespace Go.Proofs.YtgegogoanbamfaaGreatDoor
namespace Pl
end Pl
open Pl Go.Proofs.Tryz Go.RowKit Go.Maps
attribute [local go_sem] Oper.semAt_some
namespace Pl
theorem M8 {a b:ByteArray}(h:cU a b<0):¬cU b a<0:=by
 have hab:Ok a/\Ok b:=by
  unfold cU at h;split at h
  . next x y hx hy=>exact⟨⟨x,hx⟩,⟨y,hy⟩⟩
  . simp at h
 have:=yU hab.1 hab.2;omega
theorem zg {k:ByteArray}(h:aT k=0):bk ⟨#[]⟩ ⟨#[]⟩ k=true:=by
 unfold bk;have h1:bD ⟨#[]⟩ ⟨#[]⟩=true:=by decide+kernel
 have h2:isKey k=true:=by unfold isKey;rw[h];rfl
 have h3:decide (0<=cU k ⟨#[]⟩)=true:=by
  refine wZ5 ?_;obtain⟨l,hl⟩:=jP h;unfold cU;rw[hl];have:bJ (⟨#[]⟩:ByteArray).data.toList=some []:=by rfl
  rw[this];cases l with
  | nil=>decide
  | cons a l=>show(0:Int)<=ij (a::l) [];unfold ij;decide
 have h4:dv k ⟨#[]⟩=true:=by
  unfold dv bm;rw[show(⟨#[]⟩:ByteArray).toList.isEmpty=true by decide+kernel];rfl
 rw[h1,h2,h3,h4];rfl
theorem z3d {xs:List Pr}(h:dK xs)(n:Nat):dK (xs.take n):=UB h (yJ9 _ _)
theorem z3b {xs:List Pr}(h:dK xs)(n:Nat):dK (xs.drop n):=UB h (yK1 _ _)
def bN (xs:List Pr)(k:ByteArray):Nat:=if right k=true then pos xs k else xs.length
theorem Dd (xs:List Pr)(k:ByteArray):bN xs k<=xs.length:=by unfold bN;split;exact ML xs k;exact zZ3 _
theorem z2M {k:ByteArray}(h:right k=true):Ok k:=by
 unfold right at h;cases hr:bJ k.data.toList with
 | none=>rw[hr]at h;cases h
 | some l=>exact⟨l,hr⟩
theorem De {xs:List Pr}(h:dK xs){k:ByteArray}(hk:right k=true):dU (fun c:Pr=>decide (0<=cU c.key k)) xs=if bN xs k<xs.length then((bN xs k:Nat):Int)else -1:=by
 have hp:=FQ (z2M hk) h;unfold bN;rw[zZ1 hk];have hall:∀m,m<=pos xs k->(xs.take m).all (fun c=>!(decide (0<=cU c.key k)))=true:=by
  intro m hm;rw[zK0];intro c hc;obtain⟨j,hj,rfl⟩:=zK5 hc;rw[zZ9]at hj;have:=(hp j (by omega)).2 (by omega);rw[kV xs j (by omega)]at this;rw[yJ2];simpa using this
 by_cases az:pos xs k<xs.length
 . rw[zZ1 az];refine Co _ xs _ az (hall _ (zZ3 _)) ?_;have:=(hp _ az)
   rw[kV xs _ az]at this;exact wZ5 (by omega)
 . rw[zZ0 az];have:=hall xs.length (by omega);rw[zQ1]at this;exact xD _ xs this
theorem z0i {xs zs:List Pr}(hs:dK xs)(hp:zs.Perm xs)(hz:zs.Pairwise fun a b=>¬cU b.key a.key<0):zs=xs:=
 (UW (fun a b:Pr=>cU a.key b.key<0) xs zs hp.symm hs.iO hz fun _ _ h=>M8 h).symm
def lu:List Pr->Bool
 | a::b::r=>decide (a.key=b.key) || lu (b::r)
 | _=>false
theorem z2l {xs:List Pr}(h:∀i,i+1<xs.length->(aV xs i).key≠(aV xs (i+1)).key):lu xs=false:=by
 induction xs with
 | nil=>rfl
 | cons a xs ih=>
  cases xs with
  | nil=>rfl
  | cons b r=>
   unfold lu;rw[ih (fun i hi=>by have:=h (i+1) (by simpa using hi);simpa[aV]using this),wZ6 (by have:=h 0 (by simp);simpa[aV]using this)];rfl
theorem zh {xs:List Pr}(i:Nat)(hi:i+1<xs.length)(h:(aV xs i).key=(aV xs (i+1)).key):lu xs=true:=by
 induction xs generalizing i with
 | nil=>simp at hi
 | cons a xs ih=>
  cases xs with
  | nil=>simp at hi
  | cons b r=>
   unfold lu;cases i with
   | zero=>rw[wZ5 (by simpa[aV]using h)];rfl
   | succ i=>rw[ih i (by simpa using hi) (by simpa[aV]using h),Bool.or_true]
theorem z3v {zs:List Pr}(hk:∀c∈zs,aT c.key=0)(hz:zs.Pairwise fun a b=>¬cU b.key a.key<0)(hd:lu zs=false):dK zs:=by
 refine⟨hk,?_⟩;induction zs with
 | nil=>exact List.Pairwise.nil
 | cons a zs ih=>
  rw[yQ3]at hz;cases zs with
  | nil=>simp
  | cons b r=>
   unfold lu at hd;rw[Bool.or_eq_false_iff,wZ4]at hd;have h2:=ih (fun c hc=>hk c (zJ9 _ hc)) hz.2 hd.2;have ha:Ok a.key:=jP (hk a (by simp));have hb:Ok b.key:=jP (hk b (by simp));have hab:cU a.key b.key<0:=by
    have h3:=hz.1 b (by simp);have h4:=yU ha hb;have h5:cU a.key b.key≠0:=fun h=>hd.1 (CS ha hb h);omega
   rw[yQ3];refine⟨fun c hc=>?_,h2⟩;rcases zX0.1 hc with rfl | hc
   . exact hab
   . exact uM ha hb (jP (hk c (by simp[hc]))) hab ((yQ3.1 h2).1 c hc)
end Pl
theorem z2C {xs:List Pr}(h:Pl.dK xs):xs.filter (fun c=>Pl.bk ⟨#[]⟩ ⟨#[]⟩ c.key)=xs:=List.filter_eq_self.2 fun c hc=>zg (h.key c hc)
structure mM (S:Nat->Bool):Prop where
 h1:S 1=true
 h2:S 2=true
 h3:S 3=true
 h6:S 6=true
 h7:S 7=true
structure wZ (w:World)(F:Nat->Prop)(tb:Nat)(v:Value)(xs:List Pr):Prop where
 cell:w.cell? ⟨tb,0,none⟩=some v
 fz:w.frozen? ⟨tb,0,none⟩=false
 row:w.ownsRow 0 62 3 v xs.length (cq xs)
 iD:Pl.dK xs
 sz:∀c∈xs,c.key.size<=70368744177664
 bH:F tb
 aY:∀g,v.ownBlock=some g->F g/\g≠tb
 lt:∀j,F j->j<w.heap.size
def bI (w:World)(F:Nat->Prop)(tb:Nat)(xs:List Pr):Prop:=∃v,wZ w F tb v xs
theorem wZ.aC {w w':World}{F S:Nat->Prop}{tb:Nat}{v:Value}{xs:List Pr}(h:wZ w F tb v xs)(g:ar S w w')(hS:∀j,F j->¬S j):wZ w' F tb v xs where
 cell:=(g.cell (bf h.cell) (hS _ h.bH) 0).trans h.cell
 fz:=(g.frozen (bf h.cell) (hS _ h.bH) 0).trans h.fz
 row:=by
  refine⟨h.row.1,?_⟩;rcases h.row.2 with h2 | ⟨b,cap,cur,e1,h2,h3,h4⟩
  . exact .inl h2
  . exact .inr ⟨b,cap,cur,e1,h2,(g.block b (zZ2.1 h3).1 (hS b (h.aY b (by rw[e1];rfl)).1)).trans h3,h4⟩
 iD:=h.iD
 sz:=h.sz
 bH:=h.bH
 aY:=h.aY
 lt j hj:=xA9 (h.lt j hj) g.size
theorem wZ.ah {w w':World}{F:Nat->Prop}{tb:Nat}{v:Value}{xs:List Pr}(h:wZ w F tb v xs)(g:ae w w'):wZ w' F tb v xs:=h.aC (g.only fun _=>False) (fun _ _ h=>h)
theorem bI.aC {w w':World}{F S:Nat->Prop}{tb:Nat}{xs:List Pr}(h:bI w F tb xs)(g:ar S w w')(hS:∀j,F j->¬S j):bI w' F tb xs:=by
 obtain⟨v,h⟩:=h;exact⟨v,h.aC g hS⟩
theorem bI.ah {w w':World}{F:Nat->Prop}{tb:Nat}{xs:List Pr}(h:bI w F tb xs)(g:ae w w'):bI w' F tb xs:=by
 obtain⟨v,h⟩:=h;exact⟨v,h.ah g⟩
theorem wZ.M6 {w:World}{F:Nat->Prop}{tb:Nat}{v:Value}{xs:List Pr}(h:wZ w F tb v xs):∀j,j<xs.length->(aV xs j).key.size<=70368744177664:=fun j hj=>h.sz _ (CW xs j hj)
theorem Rs (w:World):Calls prog 49 #[] w fun e w'=>e=.returned (.pointer (some ⟨w.heap.size,0,none⟩))/\ae w w'/\bI w' (fun j=>j=w.heap.size) w.heap.size []:=by
 go_in;go_wp2_with fail;go_ret;exact⟨rfl,(ae.rf w).alloc _,_,⟨by simp[go_sem],by simp[go_sem],World.ownsRow_nil _ _ _ _,Pl.KU,by simp,rfl,(fun g hg=>by cases hg),(fun j hj=>by subst hj;simp)⟩⟩
theorem UT {w:World}{F:Nat->Prop}{tb:Nat}{xs:List Pr}(h:bI w F tb xs)(hx:xs.length<=1000000)(key:ByteArray)(hy:key.size<=70368744177664)(hk:Pl.Ok key):
    Calls prog 128 #[.pointer (some ⟨tb,0,none⟩),.string key] w fun e w'=>e=.returned (.tuple #[.int .i64 (Pl.pos xs key:Nat),.bool (Pl.hasB xs key)])/\ae w w':=by
 obtain⟨v,h⟩:=h;obtain⟨a,cap,rfl,hA⟩:=lT h.row;have c0:=h.cell;have hB:∀W,ae w W->Calls prog 152 #[.slice a xs.length cap,.string key,.func (.func 153) #[] #[]] W fun e w'=>e=.returned (.tuple #[.int .i64 ((Pl.pos xs key:Nat):Int),.bool (Pl.hasB xs key)])/\ae W w':=
  fun W (g:ae w W)=>z1D a cap xs key W (hA.ah g) hx h.M6 hy (Pl.pos xs key) (ML xs key) (FQ hk h.iD)
 have HB:=af hB;clear hB;clear h hA;go_in;go_wp2_with fail;refine(HB _ (ae.rf w)).mono ?_;rintro e w1 ⟨rfl,hg⟩;go_wp2_with fail;go_ret2;exact⟨rfl,hg⟩
namespace Pl
def wh (xs:List Pr)(k:ByteArray):Int:=if aT k=0/\hasB xs k=true then((pos xs k:Nat):Int)else -1
end Pl
theorem Rt {S:Nat->Bool}(hS:mM S)(E:Nat->Addr){w:World}(hE:bz S E w){F:Nat->Prop}{tb:Nat}{xs:List Pr}(h:bI w F tb xs)(hx:xs.length<=1000000)(key:ByteArray)(hy:key.size<=70368744177664):
    Calls prog 90 #[.pointer (some ⟨tb,0,none⟩),.string key] w fun e w'=>e=.returned (.int .i64 (wh xs key))/\ae w w':=by
 have HE:=af hE;have HT:=af h;clear hE h;by_cases hk:Pl.aT key=0
 . have HK:Hid (bA E (Pl.aT key)=.nilIface):=(by unfold Hid;rw[hk];rfl);have HF:=af (fun W (g:ae w W)=>UT (HT.ah g) hx key hy (Pl.jP hk));have HA:Hid (wh xs key=if Pl.hasB xs key=true then((Pl.pos xs key:Nat):Int)else -1):=by
    unfold Hid wh;by_cases hb:Pl.hasB xs key=true
    . rw[zZ1 ⟨hk,hb⟩,zZ1 hb]
    . rw[zZ0 (fun h=>hb h.2),zZ0 hb]
   clear hk;generalize Pl.pos xs key=p at *;generalize Pl.hasB xs key=b at *;go_in;go_wp2_with fail;refine(qb S E hS.h2 hS.h3 hS.h6 hS.h7 key _ (by omega) HE).mono ?_;rw[HK.out];rintro e w1 ⟨rfl,hg⟩;go_wp2_with fail;refine(HF _ hg).mono ?_;rintro e w2 ⟨rfl,aP⟩;cases b with
   | true=>
    go_wp2_with fail;go_ret;exact⟨jl (by rw[HA.out];rfl),hg.trans aP⟩
   | false=>
    go_wp2_with fail;go_ret;exact⟨jl (by rw[HA.out];rfl),hg.trans aP⟩
 . have HK:=af (show bA E (Pl.aT key)=.iface 302 (.pointer (some (E (Pl.aT key))))from xN E _ hk);have HA:Hid (wh xs key= -1):=(by unfold Hid wh;rw[zZ0 (fun h=>hk h.1)]);go_in;go_wp2_with fail;refine(qb S E hS.h2 hS.h3 hS.h6 hS.h7 key _ (by omega) HE).mono ?_;rw[HK.out];rintro e w1 ⟨rfl,hg⟩;go_wp2_with fail;go_ret;exact⟨jl (by rw[HA.out]),hg⟩
namespace Pl
def fl (xs:List Pr)(k:ByteArray):Option Pr:=if aT k=0/\hasB xs k=true then some (aV xs (pos xs k))else none
theorem Ru {xs:List Pr}(h:dK xs){k:ByteArray}{c:Pr}(hg:fl xs k=some c):c∈xs/\c.key=k:=by
 unfold fl at hg;split at hg
 . next hh=>
   cases hg;have:=FR h (jP hh.1) hh.2;exact⟨CW xs _ this.1,this.2⟩
 . cases hg
theorem Rv {xs:List Pr}(h:dK xs){c:Pr}(hc:c∈xs):fl xs c.key=some c:=by
 have:=Uy h hc;unfold fl;rw[zZ1 ⟨h.key c hc,this.1⟩,this.2]
theorem z6h {xs:List Pr}(h:dK xs){k:ByteArray}(hn:∀c∈xs,c.key≠k):fl xs k=none:=by
 cases hg:fl xs k with
 | none=>rfl
 | some c=>exact absurd (Ru h hg).2 (hn c (Ru h hg).1)
end Pl
theorem y7Y {S:Nat->Bool}(hS:mM S)(E:Nat->Addr){w:World}(hE:bz S E w){F:Nat->Prop}{tb:Nat}{xs:List Pr}(h:bI w F tb xs)(hx:xs.length<=1000000)(key:ByteArray)(hy:key.size<=70368744177664):
    Calls prog 42 #[.pointer (some ⟨tb,0,none⟩),.string key] w fun e w'=>e=.returned (.tuple #[((Pl.fl xs key).getD Pr.none).agg,.bool (Pl.fl xs key).isSome])/\ae w w':=by
 have HE:=af hE;have HT:=af h;obtain⟨v,h⟩:=h;obtain⟨a,cap,rfl,hA⟩:=lT h.row;have c0:=h.cell;have hb:tb<w.heap.size:=bf c0;have HS:=af h.iD;clear hE h;by_cases hh:Pl.aT key=0/\Pl.hasB xs key=true
 . have hg:Pl.fl xs key=some (aV xs (Pl.pos xs key)):=(by unfold Pl.fl;rw[zZ1 hh]);have ha:wh xs key=(Pl.pos xs key:Nat):=(by unfold wh;rw[zZ1 hh]);have hp:=(FR HS (Pl.jP hh.1) hh.2).1;have hR:=af (fun W (g:ae w W)=>Rt hS E (HE.ah g) (HT.ah g) hx key hy);rw[hg];rw[ha]at hR;clear hg ha hh;generalize Pl.pos xs key=p at *;rcases hA with h0 | ⟨b,off,rfl,eT,dD⟩
   . rw[h0]at hp;simp at hp
   have q0:=dD.key p hp;have q1:=dD.val p hp;have q2:=dD.eI p hp;clear dD;have hpI:(p:Int)<(xs.length:Int):=(by omega);generalize aV xs p=c at *;obtain⟨ck,cv,cn⟩:=c;dsimp only at *;go_in;go_wp2_with fail;refine(hR.out _ ((ae.rf w).alloc _)).mono ?_;rintro e w1 ⟨rfl,hg⟩;have hz:w.heap.size<w1.heap.size:=(by have:=hg.size;simp at this;omega);obtain⟨hc,hf⟩:=hg.cells;go_wp2_with fail;refine wZ1 (v:=.tuple #[.agg #[.string ck,.string cv,.int .i64 cn],.bool true]) (by simp[results,results42,go_sem,hc]) rfl ⟨rfl,?_⟩;have hG:=hg.jy;refine((hG.setCell ?_ _).setCell ?_ _).setCell ?_ _<;> exact zZ3 _
 . have hg:Pl.fl xs key=none:=(by unfold Pl.fl;rw[zZ0 hh]);have ha:wh xs key= -1:=(by unfold wh;rw[zZ0 hh]);have hR:=af (fun W (g:ae w W)=>Rt hS E (HE.ah g) (HT.ah g) hx key hy);rw[hg];rw[ha]at hR;clear hg ha hh;go_in;go_wp2_with fail;refine(hR.out _ ((ae.rf w).alloc _)).mono ?_;rintro e w1 ⟨rfl,hg⟩;have hz:w.heap.size<w1.heap.size:=(by have:=hg.size;simp at this;omega);obtain⟨hc,hf⟩:=hg.cells;go_wp2_with fail;refine wZ1 (v:=.tuple #[.agg #[.string ⟨#[]⟩,.string ⟨#[]⟩,.int .i64 0],.bool false]) (by simp[results,results42,go_sem,hc]) rfl ⟨rfl,?_⟩;have hG:=hg.jy;refine((hG.setCell ?_ _).setCell ?_ _).setCell ?_ _<;> exact zZ3 _
theorem z5j (w:World):Calls prog 157 #[.slice none 0 0,.int .i64 0] w fun e w'=>e=.returned (.slice none 0 0)/\w'=w:=by
 go_in;go_wp2_with fail;go_ret;exact⟨rfl,rfl⟩
theorem Rw:(Value.cells (.agg #[.string ⟨#[]⟩,.string ⟨#[]⟩,.int .i64 0])).size=3:=by kernel_rfl
theorem M7 (w:World)(n:Nat)(h0:0<n)(hn:n<=2000000):Calls prog 157 #[.slice none 0 0,.int .i64 (n:Int)] w fun e w'=>∃g cap,e=.returned (.slice (some ⟨g,0,none⟩) 0 cap)/\w'.ownsRow w.heap.size 62 3 (.slice (some ⟨g,0,none⟩) 0 cap) 0 []/\ae w w':=by
 obtain⟨i0,dA,hz0,hz1,hz2⟩:=wZ8 Rp;have z1:¬((n:Int)<0):=by omega
 have z2:(n:Int) > 0:=by omega
 have z3:IntKind.i64.wrap ((n:Int) - 0)=(n:Int):=by rw[show(n:Int) - 0=(n:Int) by omega];exact IntWalk.i64_in _ (by omega)
 have KI:=grownCap_ge w n 0 62;have hle:=grownCap_le_maxLen w n 0 62 (by unfold maxLen;omega);have HO:=af (fun(c:Nat) (h1:n<=c) (h2:c<=maxLen)=>show(w.drew.alloc (.cells (Builtin.zeroCells (Value.cells (.agg #[.string ⟨#[]⟩,.string ⟨#[]⟩,.int .i64 0])) n++Builtin.zeroCells (Value.cells (.agg #[.string ⟨#[]⟩,.string ⟨#[]⟩,.int .i64 0])) (c - n)) 62)).ownsRow w.heap.size 62 3 (.slice (some ⟨w.heap.size,0,none⟩) 0 c) 0 []by
  refine oI (cur:=(Builtin.zeroCells (Value.cells (.agg #[.string ⟨#[]⟩,.string ⟨#[]⟩,.int .i64 0])) n++Builtin.zeroCells (Value.cells (.agg #[.string ⟨#[]⟩,.string ⟨#[]⟩,.int .i64 0])) (c - n)).toList) (zZ3 _) ?_ (zZ5 _) (by unfold maxLen at h2;omega) ?_ (by simp)
  . rw[Array.toArray_toList];exact wZ0 w.drew _
  . rw[yZ7,Array.size_append,size_zeroCells,size_zeroCells,Rw];omega)
 have HG:=af (fun(os:Obj)=>((ae.rf w).drew).alloc os);have HOO:=af (HO _ KI hle);have HR:=af (Lib.run_append_nil_zeros (P:=prog) w 66 3 66 62 i0 _ .i64 .i64 underlying66 underlying3 dA hz0 n h0 (by omega) (by omega) (by rw[hz2];omega));clear HO;generalize hW:w.drew.alloc _=W at HOO HR;have mN:Hid (ae w W):=by rw[<-hW];exact HG _
 clear hW HG;go_in;go_wp2_with (at_builtin;refine Lib.wpList_append_run _ rfl _ _ _ _ rfl _ _ rfl rfl _ _ HR.out ?_);go_wp2_with fail;go_ret;exact⟨_,_,rfl,HOO,mN⟩
theorem Db (w:World)(vb:Nat)(a1 a2:Option Addr)(c1 c2:Nat)(xs ys:List Pr)(h1:w.cell? ⟨vb,0,none⟩=some (.slice a1 xs.length c1))(h2:w.cell? ⟨vb,1,none⟩=some (.slice a2 ys.length c2))(A1:jN w a1 xs)(A2:jN w a2 ys)(F1:qg a1 c1)(F2:qg a2 c2)(hx:xs.length<=1000000)(hy:ys.length<=1000000):
    Calls prog 142 #[.slice (some ⟨vb,0,none⟩) 2 2] w fun e w'=>∃a cap,e=.returned (.slice a (xs.length+ys.length) cap)/\w'.ownsRow w.heap.size 62 3 (.slice a (xs.length+ys.length) cap) (xs.length+ys.length) (cq (xs++ys))/\ae w w':=by
 have dP:vb<w.heap.size:=bf h1;have HX:=af (And.intro A1 (And.intro F1 hx));have HY:=af (And.intro A2 (And.intro F2 hy));have Dc:∀W:World,Calls prog 157 #[.slice none 0 0,.int .i64 ((xs.length:Int)+(ys.length:Int))] W fun e w'=>∃a cap,e=.returned (.slice a 0 cap)/\w'.ownsRow W.heap.size 62 3 (.slice a 0 cap) 0 (cq [])/\ae W w':=fun W=>by
  rcases zJ8 (xs.length+ys.length)with h0 | h0
  . have e:((xs.length:Int)+(ys.length:Int))=0:=(by omega);rw[e];exact(z5j W).mono fun e w' ⟨he,hw⟩=>⟨none,0,he,World.ownsRow_nil _ _ _ _,by rw[hw];exact ae.rf W⟩
  . rw[<-Int.natCast_add];exact(M7 W _ h0 (by omega)).mono fun e w' ⟨g,cap,he,hr,hg⟩=>⟨_,_,he,hr,hg⟩
 have KX:=af Dc;have b1:(xs.length:Int)<=1000000:=by omega
 have b2:(ys.length:Int)<=1000000:=by omega
 clear Dc A1 A2 F1 F2;go_in;go_wp2_with fail;go_loopw [11,3] (fun i s wr=>wr=w/\((i=.int .i64 0/\s=.int .i64 0)\/(i=.int .i64 1/\s=.int .i64 xs.length)\/(i=.int .i64 2/\s=.int .i64 ((xs.length:Int)+(ys.length:Int))))) (fun i _ _=>2 - (intOf i).toNat);exact⟨rfl,.inl ⟨rfl,rfl⟩⟩;obtain⟨rfl,hrel⟩:=hrel;rcases hrel with⟨rfl,rfl⟩ | ⟨rfl,rfl⟩ | ⟨rfl,rfl⟩
 . go_wp2_with fail;go_roundw;case rel=>exact⟨trivial,.inr (.inl ⟨by go_num,by go_num⟩)⟩
   case measure=>simp[intOf]
 . go_wp2_with fail;go_roundw;case rel=>exact⟨trivial,.inr (.inr ⟨by go_num,by go_num⟩)⟩
   case measure=>simp[intOf]
 . go_wp2_with fail;refine(KX _).mono ?_;rintro e w1 ⟨a,cap,rfl,hr,hg⟩;have HS:=af (And.intro hr hg);have hsz:=hg.size;have g1:=(hg.cells.1 _ 0 dP).trans h1;have g2:=(hg.cells.1 _ 1 dP).trans h2;clear hr hg;go_wp2_with fail;go_loopw [27,6] (fun i v wx=>(i=.int .i64 0/\∃a cap,v=.slice a 0 cap/\Hid (wx.ownsRow wr.heap.size 62 3 (.slice a 0 cap) 0 (cq [])/\ae wr wx))\/(i=.int .i64 1/\∃a cap,v=.slice a xs.length cap/\Hid (wx.ownsRow wr.heap.size 62 3 (.slice a xs.length cap) xs.length (cq xs)/\ae wr wx))\/(i=.int .i64 2/\∃a cap,v=.slice a (xs.length+ys.length) cap/\Hid (wx.ownsRow wr.heap.size 62 3 (.slice a (xs.length+ys.length) cap) (xs.length+ys.length) (cq (xs++ys))/\ae wr wx))) (fun i _ _=>2 - (intOf i).toNat);exact .inl ⟨rfl,a,cap,rfl,HS⟩;rcases hrel with⟨rfl,a,cap,rfl,HR⟩ | ⟨rfl,a,cap,rfl,HR⟩ | ⟨rfl,a,cap,rfl,HR⟩
   . have q1:=(HR.2.cells.1 _ 0 dP).trans h1;have HA:=af (HX.1.ah HR.2);clear g1 g2 h1 h2;go_wp2_with (at_builtin;refine Uf rfl _ _ rfl rfl HR.out.1 rfl rfl HA.out HX.out.2.1 (by omega) HR.out.2.size ?_);intro a' bo w2 hr2 hgr;have jf:=af (And.intro hr2 (((HR.2.only (fun j=>some j=Value.ownBlock (.slice a 0 cap))).then (ar.ay hgr)).ah (fun j hj=>(HR.1.lt j hj.symm).1)));clear hr2 hgr;go_wp2_with fail;go_roundw;case rel=>exact .inr (.inl ⟨by go_num,a',bo,rfl,jf⟩)
     case measure=>simp[intOf]
   . have q2:=(HR.2.cells.1 _ 1 dP).trans h2;have HA:=af (HY.1.ah HR.2);clear g1 g2 h1 h2;go_wp2_with (at_builtin;refine Uf rfl _ _ rfl rfl HR.out.1 rfl rfl HA.out HY.out.2.1 (by omega) HR.out.2.size ?_);intro a' bo w2 hr2 hgr;have jf:=af (And.intro hr2 (((HR.2.only (fun j=>some j=Value.ownBlock (.slice a xs.length cap))).then (ar.ay hgr)).ah (fun j hj=>(HR.1.lt j hj.symm).1)));clear hr2 hgr;go_wp2_with fail;go_roundw;case rel=>exact .inr (.inr ⟨by go_num,a',bo,rfl,jf⟩)
     case measure=>simp[intOf]
   . go_wp2_with fail;go_ret;exact⟨a,cap,rfl,HR.1,HR.2⟩
namespace Pl
def eM (p:Pr):Nat:=if aT p.key≠0 then aT p.key else if 64<p.val.size then 3 else if p.eI<1\/4096<p.eI then 1 else 0
def lv (xs:List Pr)(p:Pr):List Pr:=if eM p=0 then il xs p else xs
theorem IE {p:Pr}(h:eM p=0):aT p.key=0/\p.val.size<=64/\1<=p.eI/\p.eI<=4096:=by
 unfold eM at h;by_cases h1:aT p.key=0
 . rw[zZ0 (by simp[h1])]at h;by_cases h2:64<p.val.size
   . rw[zZ1 h2]at h;cases h
   . rw[zZ0 h2]at h;by_cases h3:p.eI<1\/4096<p.eI
     . rw[zZ1 h3]at h;cases h
     . exact⟨h1,by omega,by omega,by omega⟩
 . rw[zZ1 h1]at h;exact absurd h h1
end Pl
def qo (w:World)(F:Nat->Prop)(tb:Nat)(ys:List Pr)(w':World):Prop:=ar F w w'/\∃F',bI w' F' tb ys/\∀j,F' j->F j\/w.heap.size<=j
theorem qo.dw {w w':World}{F:Nat->Prop}{tb:Nat}{xs:List Pr}(h:bI w F tb xs)(g:ae w w'):qo w F tb xs w':=⟨g.only F,F,h.ah g,fun _=> .inl⟩
theorem zo {S:Nat->Bool}(hS:mM S)(E:Nat->Addr){w:World}(hE:bz S E w)(tb:Nat)(key val:ByteArray)(v:Int)(hy:key.size<=70368744177664)(hv:val.size<=140737488351232)(hn:Pl.eM ⟨key,val,v⟩≠0):
    Calls prog 135 #[.pointer (some ⟨tb,0,none⟩),.string key,.string val,.int .i64 v] w fun e w'=>e=.returned (bA E (Pl.eM ⟨key,val,v⟩))/\ae w w':=by
 have HE:=af hE;have g1:w.cell? ⟨0,0,none⟩=some (.iface 302 (.pointer (some (E 1)))):=hE.cell 1 hS.h1;have g3:w.cell? ⟨2,0,none⟩=some (.iface 302 (.pointer (some (E 3)))):=hE.cell 3 hS.h3;have b1:0<w.heap.size:=bf g1;have b3:2<w.heap.size:=bf g3;clear hE;by_cases dO:Pl.aT key=0
 . have HK:Hid (bA E (Pl.aT key)=.nilIface):=(by unfold Hid;rw[dO];rfl);by_cases tM:64<val.size
   . have e1:Pl.eM ⟨key,val,v⟩=3:=(by unfold Pl.eM;rw[zZ0 (by simp[dO]),zZ1 tM]);rw[e1];clear e1 hn dO;have zq:(64:Int)<(val.size:Int):=(by omega);go_in;go_wp2_with fail;refine(qb S E hS.h2 hS.h3 hS.h6 hS.h7 key _ (by omega) HE).mono ?_;rw[HK.out];rintro e w1 ⟨rfl,hg⟩;obtain⟨hc,hf⟩:=hg.cells;go_wp2_with fail;go_ret;exact⟨rfl,hg⟩
   . have zq:(val.size:Int)<=64:=(by omega);by_cases hr1:v<1
     . have e1:Pl.eM ⟨key,val,v⟩=1:=(by unfold Pl.eM;rw[zZ0 (by simp[dO]),zZ0 tM,zZ1 (.inl hr1)]);rw[e1];clear e1 hn dO;go_in;go_wp2_with fail;refine(qb S E hS.h2 hS.h3 hS.h6 hS.h7 key _ (by omega) HE).mono ?_;rw[HK.out];rintro e w1 ⟨rfl,hg⟩;obtain⟨hc,hf⟩:=hg.cells;go_wp2_with fail;go_ret;exact⟨rfl,hg⟩
     . by_cases hr2:4096<v
       . have e1:Pl.eM ⟨key,val,v⟩=1:=(by unfold Pl.eM;rw[zZ0 (by simp[dO]),zZ0 tM,zZ1 (.inr hr2)]);rw[e1];clear e1 hn dO;go_in;go_wp2_with fail;refine(qb S E hS.h2 hS.h3 hS.h6 hS.h7 key _ (by omega) HE).mono ?_;rw[HK.out];rintro e w1 ⟨rfl,hg⟩;obtain⟨hc,hf⟩:=hg.cells;go_wp2_with fail;go_ret;exact⟨rfl,hg⟩
       . exfalso;apply hn;unfold Pl.eM;rw[zZ0 (by simp[dO]),zZ0 tM,zZ0 (show ¬(v<1\/4096<v) by omega)]
 . have e1:Pl.eM ⟨key,val,v⟩=Pl.aT key:=(by unfold Pl.eM;rw[zZ1 dO]);have HK:=af (show bA E (Pl.aT key)=.iface 302 (.pointer (some (E (Pl.aT key))))from xN E _ dO);rw[e1,HK.out];clear e1 hn;go_in;go_wp2_with fail;refine(qb S E hS.h2 hS.h3 hS.h6 hS.h7 key _ (by omega) HE).mono ?_;rw[HK.out];rintro e w1 ⟨rfl,hg⟩;go_wp2_with fail;go_ret;exact⟨rfl,hg⟩
theorem zr {w W:World}{F:Nat->Prop}{tb g cap:Nat}{xs:List Pr}(h:wZ w F tb (.slice (some ⟨g,0,none⟩) xs.length cap) xs)(gW:ae w W)(p:Pr)(hp:Pl.aT p.key=0)(hb:Pl.hasB xs p.key=true)(hs:p.key.size<=70368744177664):
    qo w F tb (Pl.il xs p) (((W.setCell ⟨g,Pl.pos xs p.key*3,none⟩ (.string p.key)).setCell ⟨g,Pl.pos xs p.key*3+1,none⟩ (.string p.val)).setCell ⟨g,Pl.pos xs p.key*3+2,none⟩ (.int .i64 p.eI)):=by
 have hW:=h.ah gW;have hpl:=(FR h.iD (Pl.jP hp) hb).1;obtain⟨r1,g1⟩:=hW.row.stored (Pl.pos xs p.key*3) (.string p.key);obtain⟨r2,g2⟩:=r1.stored (Pl.pos xs p.key*3+1) (.string p.val);obtain⟨r3,g3⟩:=r2.stored (Pl.pos xs p.key*3+2) (.int .i64 p.eI);have UZ:=h.aY g rfl;have ho:ar (fun j=>j=g) W (((W.setCell ⟨g,Pl.pos xs p.key*3,none⟩ (.string p.key)).setCell ⟨g,Pl.pos xs p.key*3+1,none⟩ (.string p.val)).setCell ⟨g,Pl.pos xs p.key*3+2,none⟩ (.int .i64 p.eI)):=
  ((ar.ay (g1.trans (g2.trans g3))).mono fun j hj=> .inl (Option.some.inj hj))
 have bK:(Pl.il xs p).length=xs.length:=by
  unfold Pl.il;rw[zZ1 hb];simp only[zZ4,zZ9,xQ2,zK1];omega
 refine⟨(gW.only F).then (ho.mono fun j hj=> .inl (by subst hj;exact UZ.1)),F,⟨_,⟨?_,?_,?_,Rg h.iD hp,?_,h.bH,h.aY,?_⟩⟩,fun _=> .inl⟩
 . exact(ho.cell (bf hW.cell) (fun e=>UZ.2 e.symm) 0).trans hW.cell
 . exact(ho.frozen (bf hW.cell) (fun e=>UZ.2 e.symm) 0).trans hW.fz
 . rw[bK];have e:cq (Pl.il xs p)=(((cq xs).set (Pl.pos xs p.key*3) (.string p.key)).set (Pl.pos xs p.key*3+1) (.string p.val)).set (Pl.pos xs p.key*3+2) (.int .i64 p.eI):=by
    have QP:(cq xs).length=xs.length*3:=yP xs;unfold Pl.il;rw[zZ1 hb,lH,lH,vU,Ud,Ue];generalize Pl.pos xs p.key=q at *;generalize cq xs=L at *;apply yQ7;intro j;rw[yQ4,yQ4,zX5,zK7,yZ6,yZ6,yZ6];simp only[zZ4,zZ9,zX8,Pr.vals,zQ6,zJ0];rw[yQ8 (show q*3<=L.length by omega)];by_cases h1:j<q*3
    . rw[zZ1 (by omega),zZ1 h1,zZ1 h1,zZ0 (by omega),zZ0 (by omega),zZ0 (by omega)]
    . by_cases h2:j=q*3
      . subst h2;rw[zZ1 (by omega),zZ0 h1,zZ0 (by omega),zZ0 (by omega),zZ1 rfl];simp;omega
      . by_cases h3:j=q*3+1
        . subst h3;rw[zZ1 (by omega),zZ0 h1,zZ0 (by omega),zZ1 rfl];simp;omega
        . by_cases h4:j=q*3+2
          . subst h4;rw[zZ1 (by omega),zZ0 h1,zZ1 rfl];simp;omega
          . rw[zZ0 (by omega),zZ0 (by omega),zZ0 (by omega),zZ0 (by omega)];congr 1;omega
   rw[e];exact r3
 . intro c hc;rcases(Pl.Rh h.iD hp c).1 hc with rfl | hc
   . exact hs
   . exact h.sz c hc.1
 . intro j hj;exact xA9 (hW.lt j hj) ho.size
theorem z5e {S:Nat->Bool}(hS:mM S)(E:Nat->Addr){w:World}(hE:bz S E w){F:Nat->Prop}{tb:Nat}{xs:List Pr}(h:bI w F tb xs)(hx:xs.length<=1000000)(key val:ByteArray)(v:Int)(hy:key.size<=70368744177664)(hv:val.size<=140737488351232)(hn:Pl.eM ⟨key,val,v⟩=0)(hb:Pl.hasB xs key=true):
    Calls prog 135 #[.pointer (some ⟨tb,0,none⟩),.string key,.string val,.int .i64 v] w fun e w'=>e=.returned .nilIface/\qo w F tb (Pl.il xs ⟨key,val,v⟩) w':=by
 have HE:=af hE;have HT:=af h;obtain⟨vv,h⟩:=h;obtain⟨dO,tM,hr1,hr2⟩:=Pl.IE hn;dsimp only at dO tM hr1 hr2;have HK:Hid (bA E (Pl.aT key)=.nilIface):=by unfold Hid;rw[dO];rfl
 have hp:=(FR h.iD (Pl.jP dO) hb).1;obtain⟨g,cap,rfl,_,az⟩:=h.row.form (by omega:0<xs.length);have HF:=af (fun W (g:ae w W)=>UT (HT.ah g) hx key hy (Pl.jP dO));have HO:=af (fun W (gW:ae w W)=>zr h gW ⟨key,val,v⟩ dO hb hy);dsimp only at HO;have c0:=h.cell;have eY:tb<w.heap.size:=bf c0;have hne:g≠tb:=(h.aY g rfl).2;have q0:=h.row.cellAt (Pl.pos xs key*3+0) (by omega);have q1:=h.row.cellAt (Pl.pos xs key*3+1) (by omega);have q2:=h.row.cellAt (Pl.pos xs key*3+2) (by omega);rw[Ia _ (by omega) xs _ hp]at q0 q1 q2;have f0:=h.row.frozenAt (Pl.pos xs key*3);have f1:=h.row.frozenAt (Pl.pos xs key*3+1);have f2:=h.row.frozenAt (Pl.pos xs key*3+2);rw[hb]at HF;have zq:(val.size:Int)<=64:=by omega
 clear hE h hn hb dO;generalize Pl.pos xs key=p at *;generalize aV xs p=c at *;obtain⟨ck,cv,cn⟩:=c;simp only[Pr.vals,zX9,zJ1,zJ2]at q0 q1 q2;have hpI:(p:Int)<(xs.length:Int):=by omega
 go_in;go_wp2_with fail;refine(qb S E hS.h2 hS.h3 hS.h6 hS.h7 key _ (by omega) HE).mono ?_;rw[HK.out];rintro e w1 ⟨rfl,aR⟩;go_wp2_with fail;refine(HF _ (aR.alloc _)).mono ?_;rintro e w2 ⟨rfl,aP⟩;have bW:ae w w2:=(aR.alloc _).trans aP;have s1:=aR.size;have s2:=aP.size;have k0:w2.cell? ⟨w1.heap.size,0,none⟩=some (.string key):=by rw[aP.cells.1 _ _ (by simp)];simp[go_sem]
 have k1:w2.cell? ⟨w1.heap.size,1,none⟩=some (.string val):=by rw[aP.cells.1 _ _ (by simp)];simp[go_sem]
 have k2:w2.cell? ⟨w1.heap.size,2,none⟩=some (.int .i64 v):=by rw[aP.cells.1 _ _ (by simp)];simp[go_sem]
 have Dn:=(bW.cells.1 tb 0 eY).trans c0;have q0':=(bW.cells.1 g (p*3) az).trans q0;have QD:=(bW.cells.1 g (p*3+1) az).trans q1;have Fw:=(bW.cells.1 g (p*3+2) az).trans q2;have Na:=(bW.cells.2 g (p*3) az).trans f0;have f1':=(bW.cells.2 g (p*3+1) az).trans f1;have f2':=(bW.cells.2 g (p*3+2) az).trans f2;clear c0 q0 q1 q2 f0 f1 f2 aR aP;go_wp2_with fail;go_region
 all_goals (
  go_wp2_with fail
  go_ret
  exact⟨rfl,HO _ bW.drew⟩)
theorem Dp {w W W2:World}{F:Nat->Prop}{tb:Nat}{v r:Value}{xs:List Pr}(h:wZ w F tb v xs)(gW:ae w W)(p:Pr)(hp:Pl.aT p.key=0)(hb:Pl.hasB xs p.key=false)(hs:p.key.size<=70368744177664)
    (hI:IB W W2 v r 0 (xs.length+1) ((cq xs).take (Pl.pos xs p.key*3)++p.vals++(cq xs).drop (Pl.pos xs p.key*3))):
    qo w F tb (Pl.il xs p) (W2.setCell ⟨tb,0,none⟩ r):=by
 obtain⟨⟨g,cap,rfl,hg⟩,aJ,hgr⟩:=hI;have hpl:=ML xs p.key;have bK:(Pl.il xs p).length=xs.length+1:=by
  unfold Pl.il;rw[hb];simp;omega
 have hgf:F g/\g≠tb\/w.heap.size<=g:=by
  rcases hg with hg | hg
  . exact .inl (h.aY g hg)
  . exact .inr (zZ6 gW.size hg)
 have eY:tb<w.heap.size:=bf h.cell;have Nb:g≠tb:=by rcases hgf with h | h;exact h.2;omega
 have o1:ar (fun j=>some j=v.ownBlock) w W2:=(gW.only _).then (ar.ay hgr);have Nc:tb<W2.heap.size:=xA9 eY o1.size;have hc2:W2.cell? ⟨tb,0,none⟩=some v:=(o1.cell eY (fun e=>(h.aY tb e.symm).2 rfl) 0).trans h.cell;have hf2:W2.frozen? ⟨tb,0,none⟩=false:=(o1.frozen eY (fun e=>(h.aY tb e.symm).2 rfl) 0).trans h.fz;have o2:=ar.setCell W2 ⟨tb,0,none⟩ (.slice (some ⟨g,0,none⟩) (xs.length+1) cap);have aP:g<W2.heap.size:=by
  rcases aJ.2 with⟨e,_⟩ | ⟨b,c,cur,e,_,hh,_⟩
  . cases e
  . cases e;exact(zZ2.1 hh).1
 refine⟨(o1.mono fun j hj=> .inl (h.aY j hj.symm).1).then (o2.mono fun j hj=> .inl (by subst hj;exact h.bH)),fun j=>F j\/j=g,⟨.slice (some ⟨g,0,none⟩) (xs.length+1) cap,⟨?_,?_,?_,Rg h.iD hp,?_,.inl h.bH,?_,?_⟩⟩,?_⟩
 . simp[World.cell?_setCell_same,hc2]
 . rw[World.frozen?_setCell];exact hf2
 . rw[bK];have e:cq (Pl.il xs p)=(cq xs).take (Pl.pos xs p.key*3)++p.vals++(cq xs).drop (Pl.pos xs p.key*3):=by
    unfold Pl.il;rw[hb,lH,lH,vU,Ud,Ue];rfl
   rw[e];refine⟨aJ.1,?_⟩;rcases aJ.2 with h2 | ⟨b,c,cur,e1,h2,h3,h4⟩
   . exact .inl h2
   . exact .inr ⟨b,c,cur,e1,h2,(o2.block b (zZ2.1 h3).1 (by cases e1;exact Nb)).trans h3,h4⟩
 . intro c hc;rcases(Pl.Rh h.iD hp c).1 hc with rfl | hc
   . exact hs
   . exact h.sz c hc.1
 . intro b hb';cases hb';exact⟨.inr rfl,Nb⟩
 . intro j hj;rcases hj with hj | rfl
   . exact xA9 (h.lt j hj) (zZ6 o1.size o2.size)
   . exact xA9 aP o2.size
 . intro j hj;rcases hj with hj | rfl
   . exact .inl hj
   . rcases hgf with h | h
     . exact .inl h.1
     . exact .inr h
theorem zt {S:Nat->Bool}(hS:mM S)(E:Nat->Addr){w:World}(hE:bz S E w){F:Nat->Prop}{tb:Nat}{xs:List Pr}(h:bI w F tb xs)(hx:xs.length<=1000000)(key val:ByteArray)(v:Int)(hy:key.size<=70368744177664)(hv:val.size<=140737488351232)(hn:Pl.eM ⟨key,val,v⟩=0)(hb:Pl.hasB xs key=false):
    Calls prog 135 #[.pointer (some ⟨tb,0,none⟩),.string key,.string val,.int .i64 v] w fun e w'=>e=.returned .nilIface/\qo w F tb (Pl.il xs ⟨key,val,v⟩) w':=by
 have HE:=af hE;have HT:=af h;obtain⟨vv,h⟩:=h;obtain⟨dO,tM,hr1,hr2⟩:=Pl.IE hn;dsimp only at dO tM hr1 hr2;have HK:Hid (bA E (Pl.aT key)=.nilIface):=by unfold Hid;rw[dO];rfl
 obtain⟨a,cap,rfl,_⟩:=lT h.row;have HF:=af (fun W (g:ae w W)=>UT (HT.ah g) hx key hy (Pl.jP dO));have HO:=af (fun W W2 r (gW:ae w W)=>Dp (W2:=W2) (r:=r) h gW ⟨key,val,v⟩ dO hb hy);have zu:∀g,Value.ownBlock (.slice a xs.length cap)=some g->g<w.heap.size/\g≠tb:=fun g hg=>⟨h.lt g (h.aY g hg).1,(h.aY g hg).2⟩
 have B5:=af zu;have HI:=af (fun W (gW:ae w W) vb dP hne=>Da W 0 a xs.length cap (cq xs) (h.ah gW).row (zZ5 _) (My xs) (Pl.pos xs key) (ML xs key) vb (Pr.vals ⟨key,val,v⟩) 1 dP rfl (by intro u hu;simp[Pr.vals]at hu;rcases hu with rfl | rfl | rfl<;> rfl) hx hne);have c0:=h.cell;have f0:=h.fz;have eY:tb<w.heap.size:=bf c0;rw[hb]at HF;have zq:(val.size:Int)<=64:=by omega
 clear hE h hn hb dO zu;dsimp only at HO;generalize Pl.pos xs key=p at *;go_in;go_wp2_with fail;refine(qb S E hS.h2 hS.h3 hS.h6 hS.h7 key _ (by omega) HE).mono ?_;rw[HK.out];rintro e w1 ⟨rfl,aR⟩;go_wp2_with fail;refine(HF _ (aR.alloc _)).mono ?_;rintro e w2 ⟨rfl,aP⟩;have bW:ae w w2:=(aR.alloc _).trans aP;have s1:=aR.size;have s2:=aP.size;have k0:w2.cell? ⟨w1.heap.size,0,none⟩=some (.string key):=by rw[aP.cells.1 _ _ (by simp)];simp[go_sem]
 have k1:w2.cell? ⟨w1.heap.size,1,none⟩=some (.string val):=by rw[aP.cells.1 _ _ (by simp)];simp[go_sem]
 have k2:w2.cell? ⟨w1.heap.size,2,none⟩=some (.int .i64 v):=by rw[aP.cells.1 _ _ (by simp)];simp[go_sem]
 have Dn:=(bW.cells.1 tb 0 eY).trans c0;have Na:=(bW.cells.2 tb 0 eY).trans f0;have hz1:w1.heap.size<w2.heap.size:=by have:=aP.size;simp at this;omega
 have hz2:tb<w2.heap.size:=by omega
 clear c0 f0 aR aP;go_wp2_with fail;have hI2:=HI ((w2.alloc (.cells #[.string key,.string val,.int .i64 v] 62)).drew) (bW.alloc _).drew w2.heap.size (wZ0 w2 _) (fun e=>Nat.ne_of_lt (xA9 (B5 _ e).1 bW.size) rfl);have ZC:=af hI2;clear hI2
 go_region_with ((go_at_call 155
                  refine ZC.mono ?_
                  rintro e w3 ⟨r,rfl,nH⟩
                  have o3:ar (fun j=>some j=Value.ownBlock (.slice a xs.length cap)) w2 w3:=((((ae.rf w2).drew).alloc _).only _).then (ar.ay nH.grown)
                  have n1:¬some tb=Value.ownBlock (.slice a xs.length cap):=fun e=>(B5 tb e.symm).2 rfl
                  have d1:=(o3.cell hz2 n1 0).trans Dn
                  have d2:=(o3.frozen hz2 n1 0).trans Na
                  have Va:=af nH
                  obtain⟨⟨g3,j0j,rfl,_⟩,_,_⟩:=nH
                  clear o3 n1))
 all_goals (
  go_wp2_with fail
  go_ret
  exact⟨rfl,HO _ _ _ (bW.alloc _).drew Va⟩)
theorem zy {S:Nat->Bool}(hS:mM S)(E:Nat->Addr){w:World}(hE:bz S E w){F:Nat->Prop}{tb:Nat}{xs:List Pr}(h:bI w F tb xs)(hx:xs.length<=1000000)(key val:ByteArray)(v:Int)(hy:key.size<=70368744177664)(hv:val.size<=140737488351232):
    Calls prog 135 #[.pointer (some ⟨tb,0,none⟩),.string key,.string val,.int .i64 v] w fun e w'=>e=.returned (bA E (Pl.eM ⟨key,val,v⟩))/\qo w F tb (lv xs ⟨key,val,v⟩) w':=by
 by_cases hn:Pl.eM ⟨key,val,v⟩=0
 . have e:lv xs ⟨key,val,v⟩=Pl.il xs ⟨key,val,v⟩:=(by unfold lv;rw[zZ1 hn]);rw[hn,e];cases hb:Pl.hasB xs key with
   | true=>exact z5e hS E hE h hx key val v hy hv hn hb
   | false=>exact zt hS E hE h hx key val v hy hv hn hb
 . have e:lv xs ⟨key,val,v⟩=xs:=(by unfold lv;rw[zZ0 hn]);rw[e];exact(zo hS E hE tb key val v hy hv hn).mono fun e w' ⟨he,hg⟩=>⟨he,qo.dw h hg⟩
theorem z6y {S:Nat->Bool}(hS:mM S)(E:Nat->Addr){w:World}(hE:bz S E w){F:Nat->Prop}{tb:Nat}{xs:List Pr}(h:bI w F tb xs)(hx:xs.length<=1000000)(lo hi:ByteArray)(aI:Int)(sy:lo.size<=70368744177664)(tx:hi.size<=70368744177664):
    Calls prog 45 #[.pointer (some ⟨tb,0,none⟩),.agg #[.string lo,.string hi],.int .i64 aI] w fun e w'=>(∃v,e=.returned v/\w'.ownsRow w.heap.size 62 3 v (cD xs lo hi aI).length (cq (cD xs lo hi aI)))/\ae w w':=by
 have HE:=af hE;obtain⟨vv,h⟩:=h;obtain⟨a,cap,rfl,hA⟩:=lT h.row;have c0:=h.cell;have eY:tb<w.heap.size:=bf c0;have HS:=af h.M6;have HA:=af hA;obtain⟨i0,dA,hz0,hz1,hz2⟩:=wZ8 Rp;clear hE h hA;go_in;go_wp2_with fail;go_loopw [7,15] (fun v i wr=>∃(k m:Nat) (ys:List Pr) (a2:Option Addr) (ep:Nat),k<=xs.length/\v=.slice a2 m ep/\i=.int .i64 k/\Hid (ys=cD (xs.take k) lo hi aI)/\Hid (m=ys.length)/\m<=k/\wr.ownsRow (w.heap.size+1) 62 3 (.slice a2 m ep) m (cq ys)/\ae w wr/\wr.cell? ⟨w.heap.size,0,none⟩=some (.string lo)/\wr.cell? ⟨w.heap.size,1,none⟩=some (.string hi)/\w.heap.size<wr.heap.size) (fun _ i _=>xs.length - (intOf i).toNat);exact⟨0,0,[],none,0,zZ5 _,rfl,rfl,by unfold Hid cD;simp,by unfold Hid;rfl,zZ5 _,World.ownsRow_nil _ _ _ _,(ae.rf w).alloc _,by simp[go_sem],by simp[go_sem],by simp⟩;obtain⟨k,m,ys,a2,ep,fV,rfl,rfl,HY,HM,UN,aH,hG,l0,l1,tJ⟩:=hrel;by_cases az:k<xs.length
 . rcases HA.out with h0 | ⟨b,off,rfl,hb,hR⟩
   . rw[h0]at az;simp at az
   have q0:=(hG.cells.1 b (off+k*3) hb).trans (hR.key k az);have q1:=(hG.cells.1 b (off+k*3+1) hb).trans (hR.val k az);have q2:=(hG.cells.1 b (off+k*3+2) hb).trans (hR.eI k az);have HN:=af (ZR xs lo hi aI k az);have pc:=af (fun W (g:ae w W)=>He S E ⟨hS.h2,hS.h3,hS.h6,hS.h7⟩ lo hi (aV xs k).key W sy tx (HS k az) (HE.ah g));clear hR;generalize aV xs k=c at *;obtain⟨ck,cv,cn⟩:=c;dsimp only at *;by_cases ni:(m:Int)<aI
   . cases hb2:Pl.bk lo hi ck with
     | true=>
      have gK:Hid (ys++[⟨ck,cv,cn⟩]=cD (xs.take (k+1)) lo hi aI):=by
       unfold Hid;rw[HN.out,<-HY.out,zZ1 ⟨by rw[<-HM.out];exact ni,hb2⟩]
      rw[hb2]at pc;have jf:Hid (cq ys++[.string ck,.string cv,.int .i64 cn]=cq (ys++[⟨ck,cv,cn⟩])):=(by unfold Hid;rw[lH,vU];rfl);have Ve:Hid (m+1=(ys++[(⟨ck,cv,cn⟩:Pr)]).length):=(by unfold Hid;rw[zZ4,<-HM.out];rfl);clear hb2 HN;go_wp2_with fail;refine(pc _ (hG.alloc _)).mono ?_;rintro e w1 ⟨rfl,aR⟩;have gh:=(hG.alloc _).trans aR;have Nk:=aR.size;have o1:=(ae.rf wr).alloc (.cells #[.string ck,.string cv,.int .i64 cn] 62) |>.trans aR;have sG:=(o1.cells.1 _ _ tJ).trans l0;have sH:=(o1.cells.1 _ _ tJ).trans l1;have k0:w1.cell? ⟨wr.heap.size,0,none⟩=some (.string ck):=(by rw[aR.cells.1 _ _ (by simp)];simp[go_sem]);have k1:w1.cell? ⟨wr.heap.size,1,none⟩=some (.string cv):=(by rw[aR.cells.1 _ _ (by simp)];simp[go_sem]);have k2:w1.cell? ⟨wr.heap.size,2,none⟩=some (.int .i64 cn):=(by rw[aR.cells.1 _ _ (by simp)];simp[go_sem]);have hown1:=gP o1 aH;have jr:w.heap.size<w1.heap.size:=(by have:=o1.size;omega);clear l0 l1 aH o1;go_wp2_with (at_builtin;refine wQ2 _ rfl _ _ 66 rfl (w.heap.size+1) 62 i0 _ 3 40 underlying66 dA hz0 hz1 hz2 rfl (by omega) _ m (cq ys) rfl (hown1.alloc _) ⟨w1.heap.size,0,none⟩ 1 1 [.string ck,.string cv,.int .i64 cn] rfl rfl (World.news_of_block (cs:=#[.string ck,.string cv,.int .i64 cn]) (t:=62) (fr:=(0,0)) (wZ0 w1 _)) (by simp[Value.oneCell']) (by omega) (by unfold maxLen;omega) (by omega) ?_ _ rfl ?_)
      . simp;omega
      . intro g Ds w2 bP bw hat kI;have hS:∀j,some j=Value.ownBlock (.slice a2 m ep)->w.heap.size+1<=j:=fun j hj=>(hown1.lt j hj.symm).1;have o2:ar (fun j=>some j=Value.ownBlock (.slice a2 m ep)) w1 w2:=(((ae.rf w1).alloc _).only _).then (ar.ay bw);have bW:ae w w2:=((gh.only _).then o2).ah (fun j hj=>Nat.le_of_succ_le (hS j hj));have n1:¬some w.heap.size=Value.ownBlock (.slice a2 m ep):=fun e=>by have:=hS _ e;omega
        have IM:=(o2.cell jr n1 0).trans sG;have IP:=(o2.cell jr n1 1).trans sH;have IQ:w.heap.size<w2.heap.size:=xA9 jr o2.size;rw[jf.out]at bP;clear o2 bw hat hown1 sG sH hS n1 k0 k1 k2 gh Nk jr;go_wp2_with fail;go_roundw;case rel=>exact⟨k+1,m+1,ys++[⟨ck,cv,cn⟩],_,Ds,by omega,rfl,by go_num,gK,Ve,by omega,bP,bW,IM,IP,IQ⟩
        case measure=>simp[intOf];omega
     | false=>
      have gK:Hid (ys=cD (xs.take (k+1)) lo hi aI):=by
       unfold Hid;rw[HN.out,<-HY.out,zZ0 (fun h=>by rw[hb2]at h;cases h.2),yZ1]
      rw[hb2]at pc;clear hb2 HN;go_wp2_with fail;refine(pc _ (hG.alloc _)).mono ?_;rintro e w1 ⟨rfl,aR⟩;have gh:=(hG.alloc _).trans aR;have o1:=(ae.rf wr).alloc (.cells #[.string ck,.string cv,.int .i64 cn] 62) |>.trans aR;have sG:=(o1.cells.1 _ _ tJ).trans l0;have sH:=(o1.cells.1 _ _ tJ).trans l1;have hown1:=gP o1 aH;have jr:w.heap.size<w1.heap.size:=(by have:=o1.size;omega);clear l0 l1 aH o1;go_wp2_with fail;go_roundw;case rel=>exact⟨k+1,m,ys,a2,ep,by omega,rfl,by go_num,gK,HM,by omega,hown1,gh,sG,sH,jr⟩
      case measure=>simp[intOf];omega
   . have gK:Hid (ys=cD (xs.take (k+1)) lo hi aI):=by
      unfold Hid;rw[HN.out,<-HY.out,zZ0 (fun h=>ni (by rw[HM.out];exact h.1)),yZ1]
     have hown1:=gP ((ae.rf wr).alloc (.cells #[.string ck,.string cv,.int .i64 cn] 62)) aH;have gh:=hG.alloc (.cells #[.string ck,.string cv,.int .i64 cn] 62);have o1:=(ae.rf wr).alloc (.cells #[.string ck,.string cv,.int .i64 cn] 62);have sG:=(o1.cells.1 _ _ tJ).trans l0;have sH:=(o1.cells.1 _ _ tJ).trans l1;clear HN aH o1;go_wp2_with fail;go_roundw;case rel=>exact⟨k+1,m,ys,a2,ep,by omega,rfl,by go_num,gK,HM,by omega,hown1,gh,sG,sH,by simp;omega⟩
     case measure=>simp[intOf];omega
 . obtain rfl:k=xs.length:=(by omega);rw[zQ1]at HY;go_wp2_with fail;go_ret;exact⟨⟨_,rfl,by rw[<-HY.out,<-HM.out];exact mg (yK9 _) aH⟩,hG⟩
theorem Dx {w W W2:World}{F:Nat->Prop}{tb:Nat}{a:Option Addr}{n cap:Nat}{xs:List Pr}(h:wZ w F tb (.slice a xs.length cap) xs)(gW:ae w W)(k:ByteArray)(hk:Pl.aT k=0)(hb:Pl.hasB xs k=true)(hn:xs.length=n+1)
    (aJ:W2.ownsRow 0 62 3 (.slice a n cap) n ((cq xs).take (Pl.pos xs k*3)++(cq xs).drop ((Pl.pos xs k+1)*3))) (hgr:W.grownBy W2 (Value.ownBlock (.slice a (n+1) cap))):
    qo w F tb (jQ xs k) (W2.setCell ⟨tb,0,none⟩ (.slice a n cap)):=by
 have hpl:=(FR h.iD (Pl.jP hk) hb).1;have e0:jQ xs k=xs.take (Pl.pos xs k)++xs.drop (Pl.pos xs k+1):=by unfold jQ;rw[zZ1 ⟨hk,hb⟩]
 have bK:(jQ xs k).length=n:=by
  rw[e0];simp only[zZ4,zZ9,zK1];omega
 have eY:tb<w.heap.size:=bf h.cell;have dS:Value.ownBlock (.slice a (n+1) cap)=Value.ownBlock (.slice a xs.length cap):=by cases a<;> rfl
 rw[dS]at hgr;have Nl:Value.ownBlock (.slice a n cap)=Value.ownBlock (.slice a xs.length cap):=by cases a<;> rfl
 have o1:ar (fun j=>some j=Value.ownBlock (.slice a xs.length cap)) w W2:=(gW.only _).then (ar.ay hgr);have Nc:tb<W2.heap.size:=xA9 eY o1.size;have hc2:W2.cell? ⟨tb,0,none⟩=some (.slice a xs.length cap):=(o1.cell eY (fun e=>(h.aY tb e.symm).2 rfl) 0).trans h.cell;have hf2:W2.frozen? ⟨tb,0,none⟩=false:=(o1.frozen eY (fun e=>(h.aY tb e.symm).2 rfl) 0).trans h.fz;have o2:=ar.setCell W2 ⟨tb,0,none⟩ (.slice a n cap);refine⟨(o1.mono fun j hj=> .inl (h.aY j hj.symm).1).then (o2.mono fun j hj=> .inl (by subst hj;exact h.bH)),F,⟨.slice a n cap,⟨?_,?_,?_,UD h.iD k,?_,h.bH,?_,?_⟩⟩,fun j=> .inl⟩
 . simp[World.cell?_setCell_same,hc2]
 . rw[World.frozen?_setCell];exact hf2
 . rw[bK];have e:cq (jQ xs k)=(cq xs).take (Pl.pos xs k*3)++(cq xs).drop ((Pl.pos xs k+1)*3):=(by rw[e0,lH,Ud,Ue]);rw[e];refine⟨aJ.1,?_⟩;rcases aJ.2 with h2 | ⟨b,c,cur,e1,h2,h3,h4⟩
   . exact .inl h2
   . refine .inr ⟨b,c,cur,e1,h2,(o2.block b (zZ2.1 h3).1 ?_).trans h3,h4⟩;have:Value.ownBlock (.slice a xs.length cap)=some b:=(by rw[<-Nl,e1];rfl);exact(h.aY b this).2
 . intro c hc;exact h.sz c ((Pl.UE h.iD k c).1 hc).1
 . intro g hg;rw[Nl]at hg;exact h.aY g hg
 . intro j hj;exact xA9 (h.lt j hj) (zZ6 o1.size o2.size)
theorem zz {S:Nat->Bool}(hS:mM S)(E:Nat->Addr){w:World}(hE:bz S E w){F:Nat->Prop}{tb:Nat}{xs:List Pr}(h:bI w F tb xs)(hx:xs.length<=1000000)(key:ByteArray)(hy:key.size<=70368744177664):
    Calls prog 134 #[.pointer (some ⟨tb,0,none⟩),.string key] w fun e w'=>e=.returned (.bool (Pl.fl xs key).isSome)/\qo w F tb (jQ xs key) w':=by
 have HE:=af hE;have HT:=af h;clear hE h;by_cases hh:Pl.aT key=0/\Pl.hasB xs key=true
 . have hg:(Pl.fl xs key).isSome=true:=(by unfold Pl.fl;rw[zZ1 hh];rfl);have ha:wh xs key=((Pl.pos xs key:Nat):Int):=(by unfold wh;rw[zZ1 hh]);have hR:=af (fun W (g:ae w W)=>Rt hS E (HE.ah g) (HT.ah g) hx key hy);obtain⟨vv,h⟩:=HT.out;have hp:=(FR h.iD (Pl.jP hh.1) hh.2).1;obtain⟨a,cap,rfl,_⟩:=lT h.row;obtain⟨n,hn⟩:∃n,xs.length=n+1:=⟨xs.length - 1,by omega⟩
   have HO:=af (fun W W2 (gW:ae w W) aJ hgr=>Dx (W2:=W2) h gW key hh.1 hh.2 hn aJ hgr);have zu:∀g,Value.ownBlock (.slice a (n+1) cap)=some g->g<w.heap.size/\g≠tb:=fun g hg=>by
    have e:Value.ownBlock (.slice a xs.length cap)=some g:=(by rw[<-hg];cases a<;> rfl);exact⟨h.lt g (h.aY g e).1,(h.aY g e).2⟩
   have B5:=af zu;have zA:=fun W (gW:ae w W)=>(h.ah gW).row;have c0:=h.cell;have f0:=h.fz;rw[hn]at zA c0;have HD:=af (fun W (gW:ae w W)=>Dw W 0 n (Pl.pos xs key) a cap (cq xs) (zA W gW) (My xs) (by omega) (by omega));have eY:tb<w.heap.size:=bf c0;rw[hg];rw[ha]at hR;clear hg ha hh zu zA h hn;have hpB:Pl.pos xs key<=1000000:=(by omega);generalize Pl.pos xs key=p at *;have z1:¬((p:Int)<0):=(by omega);have z2:IntKind.i64.wrap ((p:Int)+1)=(p:Int)+1:=IntWalk.i64_in _ (by omega);go_in;go_wp2_with fail;refine(hR.out _ (ae.rf w)).mono ?_;rintro e w1 ⟨rfl,aR⟩;have s1:=aR.size;have Dn:=(aR.cells.1 tb 0 eY).trans c0;have Na:=(aR.cells.2 tb 0 eY).trans f0;clear c0 f0;go_wp2_with fail;refine(HD _ aR).mono ?_;rintro e w2 ⟨rfl,aJ,hgr⟩;have gI:=af aJ;have F0:=af hgr;have n1:¬some tb=Value.ownBlock (.slice a (n+1) cap):=fun e=>(B5 tb e.symm).2 rfl;have d1:=((ar.ay hgr).cell (show tb<w1.heap.size by omega) n1 0).trans Dn;have d2:=((ar.ay hgr).frozen (show tb<w1.heap.size by omega) n1 0).trans Na;clear aJ hgr n1 Dn Na;go_wp2_with fail;go_ret;exact⟨rfl,HO _ _ aR gI F0⟩
 . have hg:(Pl.fl xs key).isSome=false:=(by unfold Pl.fl;rw[zZ0 hh];rfl);have ha:wh xs key= -1:=(by unfold wh;rw[zZ0 hh]);have hd:jQ xs key=xs:=(by unfold jQ;rw[zZ0 hh]);have hR:=af (fun W (g:ae w W)=>Rt hS E (HE.ah g) (HT.ah g) hx key hy);rw[hg,hd];rw[ha]at hR;clear hg ha hh hd;go_in;go_wp2_with fail;refine(hR.out _ (ae.rf w)).mono ?_;rintro e w1 ⟨rfl,aR⟩;go_wp2_with fail;go_ret;exact⟨rfl,qo.dw HT aR⟩
theorem z3r {w:World}{b off:Nat}{ns:List Int}(h:qi w (some ⟨b,off,none⟩) ns)(i:Nat)(hi:i<ns.length):w.cell? ⟨b,off+i,none⟩=some (.int .u8 (ns.getD i 0)):=by
 rcases h with h | ⟨b',MW,e,_,hc⟩
 . rw[h]at hi;cases hi
 . cases e;rw[hc i ns[i] (zQ5 hi),yX1,zQ5 hi];rfl
theorem B9 {w:World}{a:Option Addr}{n cap:Nat}{ns:List Int}(hn:n=ns.length)(hA:qi w a ns)(hf:qg a cap):(convert 34 9 (.slice a n cap)).run prog w=.ok (.string (strOfNums ns)) w:=by
 subst hn;rcases hf with⟨rfl,rfl⟩ | ⟨b,off,rfl⟩
 . have h0:ns=[]:=by
    rcases hA with h | ⟨b,off,h,_⟩
    . exact h
    . cases h
   subst h0;exact run_convert_bytes_nil (P:=prog) w 34 5 underlying34 underlying5 _ _ 9 underlying9
 . exact run_convert_bytes_arg (P:=prog) w 34 5 underlying34 underlying5 b off ns.length cap ns rfl (fun i hi=>z3r hA i hi) 9 underlying9
theorem qo.pre {w W w':World}{F:Nat->Prop}{tb:Nat}{ys:List Pr}(h:qo W F tb ys w')(g:ae w W):qo w F tb ys w':=by
 obtain⟨h1,F',h2,h3⟩:=h;exact⟨(g.only F).then h1,F',h2,fun j hj=>(h3 j hj).imp id fun h=>zZ6 g.size h⟩
namespace Pl
def cP (P:List Pr)(o:cf)(v:Int):List Pr×Bool:=
 if o.ax=2 then(jQ P o.key,true)
 else if o.ax=3/\((fl P o.key).isSome=false\/((fl P o.key).getD Pr.none).val.toList≠o.old.toList)then(P,false)
 else if o.ax=4 then(P,decide (((fl P o.key).getD Pr.none).eI=o.eI))
 else(lv P ⟨o.key,o.val,v⟩,decide (eM ⟨o.key,o.val,v⟩=0))
end Pl
structure Vo (o:cf):Prop where
 key:o.key.size<=70368744177664
 val:o.val.size<=140737488351232
theorem zH {S:Nat->Bool}(hS:mM S)(E:Nat->Addr){w:World}(hE:bz S E w){F:Nat->Prop}{tb:Nat}{P:List Pr}(h:bI w F tb P)(hx:P.length<=1000000)(o:cf)(ho:Vo o)(v:Int)(hv: -9223372036854775808<=v/\v<9223372036854775808):
    Calls prog 113 #[.pointer (some ⟨tb,0,none⟩),o.dH,.int .i64 v] w fun e w'=>e=.returned (.bool (Pl.cP P o v).2)/\qo w F tb (Pl.cP P o v).1 w':=by
 have HG:=af (fun W (g:ae w W)=>y7Y hS E (hE.ah g) (h.ah g) hx o.key ho.key);have HD:=af (fun W (g:ae w W)=>zz hS E (hE.ah g) (h.ah g) hx o.key ho.key);have HP:=af (fun W (g:ae w W)=>zy hS E (hE.ah g) (h.ah g) hx o.key o.val v ho.key ho.val);have HT:=af h;clear h hE ho;generalize hR:Pl.cP P o v=R at *;unfold Pl.cP at hR;unfold cf.dH cf.vals;obtain⟨ax,key,val,old,eI⟩:=o;dsimp only at *;generalize hg:Pl.fl P key=r at *;clear hg;obtain⟨Y,hY⟩:∃Y,Y=w.alloc (.cells #[.int .i64 ax,.string key,.string val,.string old,.int .i64 eI] 70):=⟨_,rfl⟩
 have gY:ae w Y:=by rw[hY];exact(ae.rf w).alloc _
 have nW:w.heap.size<Y.heap.size:=by rw[hY];simp
 have c0:Y.cell? ⟨w.heap.size,0,none⟩=some (.int .i64 ax):=by rw[hY];simp[go_sem]
 have c1:Y.cell? ⟨w.heap.size,1,none⟩=some (.string key):=by rw[hY];simp[go_sem]
 have c2:Y.cell? ⟨w.heap.size,2,none⟩=some (.string val):=by rw[hY];simp[go_sem]
 have c3:Y.cell? ⟨w.heap.size,3,none⟩=some (.string old):=by rw[hY];simp[go_sem]
 have c4:Y.cell? ⟨w.heap.size,4,none⟩=some (.int .i64 eI):=by rw[hY];simp[go_sem]
 have HY:=af hY;have dg:=af gY;clear hY gY;go_in;go_wp2_with fail;rw[<-HY.out];refine(HG Y dg).mono ?_;rintro e w1 ⟨rfl,aR⟩;have d0:=(aR.cells.1 _ 0 nW).trans c0;have d1:=(aR.cells.1 _ 1 nW).trans c1;have d2:=(aR.cells.1 _ 2 nW).trans c2;have d3:=(aR.cells.1 _ 3 nW).trans c3;have d4:=(aR.cells.1 _ 4 nW).trans c4;have hb1:=xA9 nW aR.size;have ct:=af (dg.trans aR);clear HG aR c0 c1 c2 c3 c4 nW;obtain⟨is,K7⟩:∃is,is=r.isSome:=⟨_,rfl⟩
 obtain⟨p,hp⟩:∃p,p=r.getD Pr.none:=⟨_,rfl⟩
 rw[<-K7,<-hp];rw[<-K7,<-hp]at hR;clear hp;clear K7;obtain⟨pk,pv,pn⟩:=p;dsimp only[Pr.agg,Pr.vals]at hR ⊢;have HR:=af hR;clear hR;obtain⟨Z,hZ⟩:∃Z,Z=w1.alloc (.cells #[.string pk,.string pv,.int .i64 pn] 62):=⟨_,rfl⟩
 have HZ:=af hZ;have gZ:ae w1 Z:=by rw[hZ];exact(ae.rf w1).alloc _
 have e0:=(gZ.cells.1 _ 0 hb1).trans d0;have e1:=(gZ.cells.1 _ 1 hb1).trans d1;have e2:=(gZ.cells.1 _ 2 hb1).trans d2;have e3:=(gZ.cells.1 _ 3 hb1).trans d3;have e4:=(gZ.cells.1 _ 4 hb1).trans d4;have z1:Z.cell? ⟨w1.heap.size,1,none⟩=some (.string pv):=by rw[hZ];simp[go_sem]
 have z2:Z.cell? ⟨w1.heap.size,2,none⟩=some (.int .i64 pn):=by rw[hZ];simp[go_sem]
 have jd:=af (ct.trans gZ);clear hZ gZ;have DG:=af (qo.dw HT jd);clear HT ct;by_cases k2:ax=2
 . subst k2;have hR:=HR.out;rw[zZ1 rfl]at hR;subst hR;clear HR;go_wp2_with fail;rw[<-HZ.out];refine(HD Z jd).mono ?_;rintro e w2 ⟨rfl,ht⟩;have HX:=af (ht.pre jd);clear ht e0 e1 e2 e3 e4 z1 z2;go_wp2_with fail;go_ret;exact⟨rfl,HX⟩
 . by_cases k3:ax=3
   . subst k3;cases is with
     | false=>
      have hR:=HR.out;rw[zZ0 (by decide),zZ1 ⟨rfl,.inl rfl⟩]at hR;subst hR;clear HR;go_wp2_with fail;rw[<-HZ.out];clear e0 e1 e2 e3 e4 z1 z2;go_wp2_with fail;go_ret;exact⟨rfl,DG⟩
     | true=>
      by_cases kv:pv.toList=old.toList
      . have hR:=HR.out;rw[zZ0 (by decide),zZ0 (by rintro ⟨_,h | h⟩;(· cases h);exact h kv),zZ0 (by decide)]at hR;have hq:(pv.toList==old.toList)=true:=(by simpa using kv);subst hR;clear HR kv;go_wp2_with fail;rw[<-HZ.out];refine(HP Z jd).mono ?_;rintro e w2 ⟨rfl,ht⟩;have HX:=af (ht.pre jd);clear ht e0 e1 e2 e3 e4 z1 z2 d0 d1 d2 d3 d4;cases wk:decide (Pl.eM ⟨key,val,v⟩=0)with
        | true=>
         rw[wQ3 wk,BK];have IX:=af wk;clear wk;go_wp2_with fail;go_ret;exact⟨bS IX.symm,HX⟩
        | false=>
         rw[xN E _ (of_decide_eq_false wk)];have IX:=af wk;clear wk;go_wp2_with fail;go_ret;exact⟨bS IX.symm,HX⟩
      . have hR:=HR.out;rw[zZ0 (by decide),zZ1 ⟨rfl,.inr kv⟩]at hR;have hq:(pv.toList==old.toList)=false:=(by simpa using kv);subst hR;clear HR kv;go_wp2_with fail;rw[<-HZ.out];clear e0 e1 e2 e3 e4 z1 z2;go_wp2_with fail;go_ret;exact⟨rfl,DG⟩
   . by_cases k4:ax=4
     . subst k4;have hR:=HR.out;rw[zZ0 (by decide),zZ0 (by simp),zZ1 rfl]at hR;subst hR;clear HR;go_wp2_with fail;go_ret;rw[<-HZ.out];exact⟨rfl,DG⟩
     . have hR:=HR.out;rw[zZ0 k2,zZ0 (fun h=>k3 h.1),zZ0 k4]at hR;subst hR;clear HR;go_wp2_with fail;rw[<-HZ.out];refine(HP Z jd).mono ?_;rintro e w2 ⟨rfl,ht⟩;have HX:=af (ht.pre jd);clear ht e0 e1 e2 e3 e4 z1 z2 d0 d1 d2 d3 d4;cases wk:decide (Pl.eM ⟨key,val,v⟩=0)with
       | true=>
        rw[wQ3 wk,BK];have IX:=af wk;clear wk;go_wp2_with fail;go_ret;exact⟨bS IX.symm,HX⟩
       | false=>
        rw[xN E _ (of_decide_eq_false wk)];have IX:=af wk;clear wk;go_wp2_with fail;go_ret;exact⟨bS IX.symm,HX⟩
theorem y7F (w:World)(a b:Option Addr)(c d:Nat)(xs:List Pr)(hA:jN w a xs)(hB:jN w b xs)(hx:xs.length<=1000000):
    Calls prog 18 #[.slice a xs.length c,.slice b xs.length d] w fun e w'=>e=.returned (.bool true)/\ae w w':=by
 have HA:=af hA;have HB:=af hB;have hbn:(xs.length:Int)<=1000000:=by omega
 clear hA hB;go_in;go_wp2_with fail;go_loopw [13] (fun i wr=>∃k:Nat,k<=xs.length/\i=.int .i64 k/\ae w wr) (fun i _=>xs.length - (intOf i).toNat);exact⟨0,zZ5 _,rfl,ae.rf w⟩;obtain⟨k,fV,rfl,hG⟩:=hrel;by_cases az:k<xs.length
 . rcases HA.out with h0 | ⟨b1,j0L,rfl,hb1,SR⟩
   . rw[h0]at az;simp at az
   rcases HB.out with h0 | ⟨b2,j0M,rfl,hb2,SU⟩
   . rw[h0]at az;simp at az
   have q0:=(hG.cells.1 _ _ hb1).trans (SR.key k az);have q1:=(hG.cells.1 _ _ hb1).trans (SR.val k az);have q2:=(hG.cells.1 _ _ hb1).trans (SR.eI k az);have p0:=(hG.cells.1 _ _ hb2).trans (SU.key k az);have p1:=(hG.cells.1 _ _ hb2).trans (SU.val k az);have p2:=(hG.cells.1 _ _ hb2).trans (SU.eI k az);clear SR SU;generalize aV xs k=e at *;obtain⟨ek,ev,en⟩:=e;dsimp only at *;have M9:(k:Int)<(xs.length:Int):=(by omega);go_wp2_with fail;go_quiet (fail)
   all_goals (
    go_wp2_with fail
    go_roundw;exact⟨k+1,by omega,by go_num,hG.drewN _⟩;simp[intOf];omega)
 . obtain rfl:k=xs.length:=(by omega);go_wp2_with fail;go_ret;exact⟨rfl,hG⟩
def Pr.dH (c:Pr):Value:=.agg c.vals.toArray
theorem ID (p:Pr->Bool)(cb:Nat)(a:Option Addr)(cap:Nat)(xs:List Pr)(w:World)(hA:jN w a xs)(hx:xs.length<=1000000)
    (hp:∀j,j<xs.length->∀W,ae w W->Calls prog 140 #[(aV xs j).dH,.pointer (some ⟨cb,0,none⟩)] W fun e W'=>e=.returned (.bool (p (aV xs j)))/\ae W W'):
    Calls prog 139 #[.slice a xs.length cap,.func (.func 140) #[] #[.pointer (some ⟨cb,0,none⟩)]] w fun e w'=>e=.returned (.int .i64 (dU p xs))/\ae w w':=by
 have HA:=af hA;have HP:=af hp;clear hA hp;go_in;go_wp2_with fail;go_loopw [8] (fun i wr=>∃k:Nat,k<=xs.length/\i=.int .i64 k/\Hid ((xs.take k).all (fun c=>!p c)=true)/\ae w wr) (fun i _=>xs.length - (intOf i).toNat);exact⟨0,zZ5 _,rfl,rfl,ae.rf w⟩;obtain⟨k,fV,rfl,HN,hG⟩:=hrel;by_cases az:k<xs.length
 . rcases HA.out with h0 | ⟨b,off,rfl,hb,hR⟩
   . rw[h0]at az;simp at az
   have q0:=(hG.cells.1 b (off+k*3) hb).trans (hR.key k az);have q1:=(hG.cells.1 b (off+k*3+1) hb).trans (hR.val k az);have q2:=(hG.cells.1 b (off+k*3+2) hb).trans (hR.eI k az);have HC:=af (HP k az);have hat:aV xs k=xs[k]:=kV xs k az;have mh:=af hat;clear hR hat;have HS:=af (Co p xs k az HN);have gK:=af (G6 p xs k az HN);rw[<-mh.out]at HS gK;generalize aV xs k=c at *;clear mh;unfold Pr.dH at HC;cases iz:p c with
   | true=>
    rw[iz]at HC;have eR:=af (HS iz);obtain⟨c0,c1,c2⟩:=c;dsimp only[Pr.vals]at *;clear iz HS gK;go_wp2_with fail;refine(HC _ hG).mono ?_;rintro e w1 ⟨rfl,aR⟩;go_wp2_with fail;go_ret;exact⟨jl eR.symm,hG.trans aR⟩
   | false=>
    rw[iz]at HC;have eR:=af (gK iz);obtain⟨c0,c1,c2⟩:=c;dsimp only[Pr.vals]at *;clear iz HS gK;go_wp2_with fail;refine(HC _ hG).mono ?_;rintro e w1 ⟨rfl,aR⟩;go_wp2_with fail;go_roundw;case rel=>exact⟨k+1,by omega,by go_num,eR,hG.trans aR⟩
    case measure=>simp[intOf];omega
 . obtain rfl:k=xs.length:=(by omega);have HE:=af (xD p xs (by have:=HN.out;rwa[zQ1]at this));go_wp2_with fail;go_ret;exact⟨jl HE.symm,hG⟩
theorem UX (w:World)(a:Option Addr)(n cap:Nat)(xs:List Pr)(hn:n=xs.length)(hA:jN w a xs)(hf:qg a cap)(hx:xs.length<=1000000):
    Calls prog 95 #[.slice a n cap] w fun e w'=>∃a' c',e=.returned (.slice a' n c')/\w'.ownsRow w.heap.size 62 3 (.slice a' n c') xs.length (cq xs)/\ae w w':=by
 subst hn;rcases zJ8 xs.length with h0 | h0
 . have e:=zX2 h0;subst e;rcases hf with⟨rfl,rfl⟩ | ⟨b,off,rfl⟩
   . exact(z0p w).mono fun e w' ⟨he,hg⟩=>⟨_,_,he,World.ownsRow_nil _ _ _ _,hg⟩
   . exact(y8y w b off cap).mono fun e w' ⟨he,hr,hg⟩=>⟨_,_,he,hr,hg⟩
 . rcases hA with h1 | ⟨b,off,rfl,hb,hR⟩
   . rw[h1]at h0;simp at h0
   . exact(z4O w b off xs.length cap h0 hx (cq xs) (yP xs) hR.cells (My xs)).mono fun e w' ⟨g,cap,he,hr,hg⟩=>⟨_,_,he,hr,hg⟩
theorem KY {w:World}{F:Nat->Prop}{tb:Nat}{xs:List Pr}(h:bI w F tb xs):Pl.dK xs:=by obtain⟨v,h⟩:=h;exact h.iD
theorem Rx {w:World}{F:Nat->Prop}{tb:Nat}{xs:List Pr}(h:bI w F tb xs):∀c∈xs,c.key.size<=70368744177664:=by obtain⟨v,h⟩:=h;exact h.sz
theorem pR {w:World}{F:Nat->Prop}{tb:Nat}{xs:List Pr}(h:bI w F tb xs):∀j,F j->j<w.heap.size:=by obtain⟨v,h⟩:=h;exact h.lt
theorem Ry {w:World}{F:Nat->Prop}{tb:Nat}{xs:List Pr}(h:bI w F tb xs):F tb:=by obtain⟨v,h⟩:=h;exact h.bH
theorem Rz {w:World}{tb B:Nat}{v:Value}{xs:List Pr}(hc:w.cell? ⟨tb,0,none⟩=some v)(hf:w.frozen? ⟨tb,0,none⟩=false)(hr:w.ownsRow B 62 3 v xs.length (cq xs))(hB:tb<B\/∀g,v.ownBlock=some g->g≠tb)(hs:Pl.dK xs)(hz:∀c∈xs,c.key.size<=70368744177664):
    bI w (fun j=>j=tb\/(v.ownBlock=some j/\B<=j)) tb xs:=by
 refine⟨v,⟨hc,hf,z0F hr,hs,hz,.inl rfl,fun g hg=>⟨.inr ⟨hg,(hr.lt g hg).1⟩,?_⟩,?_⟩⟩
 . rcases hB with hB | hB
   . have:=(hr.lt g hg).1;omega
   . exact hB g hg
 . rintro j (rfl | ⟨hj,_⟩)
   . exact bf hc
   . exact(hr.lt j hj).2
def Dg (w:World)(F:Nat->Prop)(tb:Nat)(ys zs:List Pr)(ob:Nat)(w':World):Prop:=
 ar F w w'/\∃F' Fo,bI w' F' tb ys/\bI w' Fo ob zs/\(∀j,F' j->F j\/w.heap.size<=j)/\∀j,Fo j->w.heap.size<=j/\¬F' j
theorem Dg.bare {w w1 w':World}{F:Nat->Prop}{tb:Nat}{xs:List Pr}(h:bI w F tb xs)(g1:ae w w1)(g2:ae w1 w')(hT:bI w' (fun j=>j=w1.heap.size) w1.heap.size []):Dg w F tb xs [] w1.heap.size w':=by
 refine⟨(g1.trans g2).only F,F,_,h.ah (g1.trans g2),hT,fun _=> .inl,?_⟩;rintro j rfl;refine⟨g1.size,fun hF=>?_⟩;have:=pR h _ hF;have:=g1.size;omega
theorem Dg.two {w w1 w2 w4:World}{F:Nat->Prop}{tb n:Nat}{xs:List Pr}{v1 v2:Value}{T:TypeId}(h:bI w F tb xs)(g1:ae w w1)(r1:w2.ownsRow w1.heap.size 62 3 v1 (xs.drop n).length (cq (xs.drop n)))(g2:ae w1 w2)
    (r2:w4.ownsRow (w2.alloc (.cells #[v1] T)).heap.size 62 3 v2 (xs.take n).length (cq (xs.take n))) (g4:ae (w2.alloc (.cells #[v1] T)) w4):
    Dg w F tb (xs.take n) (xs.drop n) w2.heap.size (w4.setCell ⟨tb,0,none⟩ v2):=by
 have eY:tb<w.heap.size:=pR h _ (Ry h);have s1:=g1.size;have s2:=g2.size;have s4:=g4.size;have hw4:w2.heap.size<w4.heap.size:=by simp at s4;omega
 have o5:=ar.setCell w4 ⟨tb,0,none⟩ v2;have hs:=KY h;have hz:=Rx h;obtain⟨v,hT⟩:=h;have hg:=g1.trans (g2.trans (((ae.rf w2).alloc (.cells #[v1] T)).trans g4));have RB:w4.cell? ⟨tb,0,none⟩=some v:=(hg.cells.1 _ _ eY).trans hT.cell;have hf4:w4.frozen? ⟨tb,0,none⟩=false:=(hg.cells.2 _ _ eY).trans hT.fz;have b1:∀g,v1.ownBlock=some g->w1.heap.size<=g/\g<w2.heap.size:=fun g hg=>r1.lt g hg;have b2:∀g,v2.ownBlock=some g->(w2.alloc (.cells #[v1] T)).heap.size<=g/\g<w4.heap.size:=fun g hg=>r2.lt g hg;have m1:=Rz (w:=w4.setCell ⟨tb,0,none⟩ v2) (tb:=tb) (B:=(w2.alloc (.cells #[v1] T)).heap.size) (v:=v2) (xs:=xs.take n) (by simp[World.cell?_setCell_same,RB]) (by rw[World.frozen?_setCell];exact hf4)
  (Ct r2 o5 (fun b hb e=>by have:=(b2 b hb).1;simp at this e;omega)) (.inl (by simp;omega)) (z3d hs n) (fun c hc=>hz c (yZ2 hc))
 have hcB:w4.cell? ⟨w2.heap.size,0,none⟩=some v1:=by rw[g4.cells.1 _ _ (by simp)];simp[go_sem]
 have hfB:w4.frozen? ⟨w2.heap.size,0,none⟩=false:=by rw[g4.cells.2 _ _ (by simp)];simp[go_sem]
 have m2:=Rz (w:=w4.setCell ⟨tb,0,none⟩ v2) (tb:=w2.heap.size) (B:=w1.heap.size) (v:=v1) (xs:=xs.drop n)
  ((o5.cell hw4 (by simp;omega) 0).trans hcB) ((o5.frozen hw4 (by simp;omega) 0).trans hfB)
  (Ct (gP (((ae.rf w2).alloc (.cells #[v1] T)).trans g4) r1) o5 (fun b hb e=>by have:=(b1 b hb).1;simp at e;omega)) (.inr fun g hg=>by have:=(b1 g hg).2;omega) (z3b hs n) (fun c hc=>hz c (zK6 hc))
 refine⟨(hg.only F).then (o5.mono fun j hj=> .inl (by subst hj;exact hT.bH)),_,_,m1,m2,?_,?_⟩
 . rintro j (rfl | ⟨_,hj⟩)
   . exact .inl hT.bH
   . simp at hj;exact .inr (by omega)
 . rintro j hj;have sy:w1.heap.size<=j/\j<=w2.heap.size:=by
    rcases hj with rfl | ⟨hj,xd⟩
    . omega
    . have:=(b1 j hj).2;omega
   refine⟨by omega,?_⟩;rintro (rfl | ⟨hj3,CQ⟩)
   . omega
   . simp at CQ;omega
theorem Di (c:Pr)(cb:Nat)(key:ByteArray)(w:World)(hc:w.cell? ⟨cb,0,none⟩=some (.string key))(hs:c.key.size<=70368744177664)(hy:key.size<=70368744177664):
    Calls prog 140 #[c.dH,.pointer (some ⟨cb,0,none⟩)] w fun e w'=>e=.returned (.bool (decide (0<=Pl.cU c.key key)))/\ae w w':=by
 have HC:=af (fun W=>L5 c.key key W hs hy);generalize Pl.cU c.key key=r at *;obtain⟨k,v,n⟩:=c;unfold Pr.dH Pr.vals;dsimp only at *;have hb:cb<w.heap.size:=bf hc;go_in;go_wp2_with fail;refine(HC _).mono ?_;rintro e w1 ⟨rfl,hg⟩;go_wp2_with fail;go_ret;exact⟨bS (by simp),((ae.rf w).alloc _).trans hg⟩
theorem zl {w:World}{F:Nat->Prop}{tb:Nat}{xs:List Pr}(h:bI w F tb xs)(hx:xs.length<=1000000)(key:ByteArray)(hy:key.size<=70368744177664):
    Calls prog 120 #[.pointer (some ⟨tb,0,none⟩),.string key] w fun e w'=>∃ob,e=.returned (.pointer (some ⟨ob,0,none⟩))/\Dg w F tb (xs.take (Pl.bN xs key)) (xs.drop (Pl.bN xs key)) ob w':=by
 have HT:=af h;obtain⟨vv,h⟩:=h;obtain⟨a,cap,rfl,hA⟩:=lT h.row;have c0:=h.cell;have eY:tb<w.heap.size:=bf c0;have hI:=fun W (g:ae w W) (hc:W.cell? ⟨w.heap.size,0,none⟩=some (.string key))=>ID (fun c=>decide (0<=Pl.cU c.key key)) w.heap.size a cap xs W (hA.ah g) hx
  (fun j hj W' g'=>Di (aV xs j) w.heap.size key W' ((g'.cells.1 _ _ (bf hc)).trans hc) (h.sz _ (CW xs j hj)) hy)
 have tL:=fun hr:Pl.right key=true=>De h.iD hr;have Dm:Pl.right key=false->Pl.bN xs key=xs.length:=fun hr=>by unfold Pl.bN;rw[zZ0 (by simp[hr])]
 have hle:=Dd xs key;generalize hi:dU (fun c:Pr=>decide (0<=Pl.cU c.key key)) xs=i at *;have UY:(i:Int)= -1\/∃m:Nat,i=m:=by
  rw[<-hi];unfold dU;split
  . exact .inr ⟨_,rfl⟩
  . exact .inl rfl
 clear hi;have HI:=af hI;have HR:=af (fun W=>sW key W (by omega));by_cases hr:Pl.right key=true
 . have tL:=tL hr;rw[hr]at HR;by_cases az:Pl.bN xs key<xs.length
   . rw[zZ1 az]at tL;obtain⟨v0,hv0⟩:∃g,a=some ⟨g,0,none⟩:=by
      obtain⟨g,bo,e,_⟩:=h.row.form (by omega:0<xs.length);cases e;exact⟨g,rfl⟩
     subst hv0;rcases hA with h0 | ⟨b,off,hab,hb,hR⟩
     . rw[h0]at az;simp at az
     cases hab;have HE:=af (fun w1 w2 w4 v1 v2 T g1 r1 g2 r2 g4=>Dg.two (w1:=w1) (w2:=w2) (w4:=w4) (v1:=v1) (v2:=v2) (T:=T) (n:=Pl.bN xs key) HT g1 r1 g2 r2 g4);have zm:=af (fun W (g:ae w W)=>UX W (some ⟨v0,Pl.bN xs key*3,none⟩) (xs.length - Pl.bN xs key) (cap - Pl.bN xs key) (xs.drop (Pl.bN xs key)) (by rw[zK1]) (.inr ⟨v0,Pl.bN xs key*3,rfl,xA9 hb g.size,by have:=(hR.ah g hb).drop (Pl.bN xs key);rwa[zQ2]at this⟩) (.inr ⟨_,_,rfl⟩) (by rw[zK1];omega));have je:=af (fun W (g:ae w W)=>UX W (some ⟨v0,0,none⟩) (Pl.bN xs key) cap (xs.take (Pl.bN xs key)) (by rw[zZ9];omega) (.inr ⟨v0,0,rfl,xA9 hb g.size,(hR.ah g hb).take _⟩) (.inr ⟨_,_,rfl⟩) (by rw[zZ9];omega));have qc:xs.length<=cap:=by
      rcases h.row.2 with⟨e,_⟩ | ⟨b,c,cur,e1,h2,h3,h4,_⟩
      . cases e
      . cases e1;exact h4
     have f0:=h.fz;subst tL;clear h hI Dm UY hr hR hle;generalize xs.drop (Pl.bN xs key)=zs at *;generalize xs.take (Pl.bN xs key)=ys at *;generalize Pl.bN xs key=n at *;have M9:(n:Int)<(xs.length:Int):=(by omega);have j0i:(n:Int)<=1000000:=(by omega);have xe:¬((n:Int)<0):=(by omega);go_in;go_wp2_with fail;refine(HI _ ((ae.rf w).alloc _) (by simp[go_sem])).mono ?_;rintro e w1 ⟨rfl,aR⟩;have gh:ae w w1:=aR.jy;have k0:w1.cell? ⟨w.heap.size,0,none⟩=some (.string key):=(by rw[aR.cells.1 _ _ (by simp)];simp[go_sem]);have fV:w.heap.size<w1.heap.size:=(by have:=aR.size;simp at this;omega);have c1:=(gh.cells.1 _ 0 eY).trans c0;clear aR;go_wp2_with fail;refine(HR _).mono ?_;rintro e w2 ⟨rfl,p,rfl⟩;have bW:ae w (w1.iter key p):=gh.iter _ _;have c2:=(bW.cells.1 _ 0 eY).trans c0;have cA:=af bW;clear c1 k0 gh bW fV;generalize w1.iter key p=w2 at *;go_wp2_with fail;refine(zm _ cA).mono ?_;rintro e w3 ⟨v1,d1,rfl,hr1,hg3⟩;have HR1:=af (And.intro hr1 hg3);have k6:=cA.trans hg3;have c3:=(k6.cells.1 _ 0 eY).trans c0;have hb3:=xA9 eY k6.size;have fI:=af k6;clear hr1 hg3 k6 c2;go_wp2_with fail;refine(je _ (fI.alloc _)).mono ?_;rintro e w4 ⟨v2,d2,rfl,hr2,hg4⟩;have cE:=af (HE _ _ _ _ _ _ cA HR1.1 HR1.2 hr2 hg4);have KZ:=(fI.alloc _).trans hg4;have c4:=(KZ.cells.1 _ 0 eY).trans c0;have f4:=(KZ.cells.2 _ 0 eY).trans f0;clear hr2 hg4 KZ c3;go_wp2_with fail;go_ret;exact⟨_,rfl,cE⟩
   . have hn:Pl.bN xs key=xs.length:=(by omega);rw[zZ0 az]at tL;rw[hn,zQ1,yJ8];subst tL;clear h hI Dm UY hr hle hn az hA;go_in;go_wp2_with fail;refine(HI _ ((ae.rf w).alloc _) (by simp[go_sem])).mono ?_;rintro e w1 ⟨rfl,aR⟩;have ct:Hid (ae w w1):=aR.jy;clear aR;go_wp2_with fail;refine(Rs _).mono ?_;rintro e w2 ⟨rfl,aP,nS⟩;have cE:=af (Dg.bare HT ct aP nS);clear aP nS;go_wp2_with fail;go_ret;exact⟨_,rfl,cE⟩
 . have kA:Pl.right key=false:=(by simpa using hr);rw[Dm kA,zQ1,yJ8];rw[kA]at HR;clear tL Dm hle h hI hA hr kA;go_in;go_wp2_with fail;refine(HI _ ((ae.rf w).alloc _) (by simp[go_sem])).mono ?_;rintro e w1 ⟨rfl,aR⟩;have gh:ae w w1:=aR.jy;have k0:w1.cell? ⟨w.heap.size,0,none⟩=some (.string key):=(by rw[aR.cells.1 _ _ (by simp)];simp[go_sem]);have fV:w.heap.size<w1.heap.size:=(by have:=aR.size;simp at this;omega);have ct:=af gh;clear aR gh;rcases UY with rfl | ⟨m,rfl⟩
   . go_wp2_with fail;refine(Rs _).mono ?_;rintro e w2 ⟨rfl,aP,nS⟩;have cE:=af (Dg.bare HT ct aP nS);clear aP nS;go_wp2_with fail;go_ret;exact⟨_,rfl,cE⟩
   . have lW:¬((m:Int)<0):=(by omega);go_wp2_with fail;refine(HR _).mono ?_;rintro e w2 ⟨rfl,p,rfl⟩;have cA:=af (ct.iter key p);clear k0 fV ct;generalize w1.iter key p=w2 at *;go_wp2_with fail;refine(Rs _).mono ?_;rintro e w3 ⟨rfl,aP,nS⟩;have cE:=af (Dg.bare HT cA aP nS);clear aP nS;go_wp2_with fail;go_ret;exact⟨_,rfl,cE⟩
theorem z0z {w:World}{F:Nat->Prop}{tb:Nat}{xs:List Pr}(h:bI w F tb xs)(hx:xs.length<=1000000):
    Calls prog 56 #[.pointer (some ⟨tb,0,none⟩)] w fun e w'=>(∃cb Fc,e=.returned (.pointer (some ⟨cb,0,none⟩))/\bI w' Fc cb xs/\∀j,Fc j->w.heap.size<=j)/\ae w w':=by
 have HS:=af (KY h);have HZ:=af (Rx h);obtain⟨v,h⟩:=h;obtain⟨a,cap,rfl,hA⟩:=lT h.row;have c0:=h.cell;have eY:=bf c0;have uS:=af (UX w a xs.length cap xs rfl hA (Ib h.row) hx);clear h hA;go_in;go_wp2_with fail;refine uS.mono ?_;rintro e w1 ⟨a',c',rfl,aJ,hg⟩;have HF:Hid ((∃Fc,bI (w1.alloc (.cells #[.slice a' xs.length c'] 167)) Fc w1.heap.size xs/\∀j,Fc j->w.heap.size<=j)/\ae w (w1.alloc (.cells #[.slice a' xs.length c'] 167))):=by
  have hG:ae w1 (w1.alloc (.cells #[.slice a' xs.length c'] 167)):=(ae.rf w1).alloc _;refine⟨⟨_,Rz (by simp[go_sem]) (by simp[go_sem]) (gP hG aJ) (.inr fun g oJ=>?_) HS HZ,fun j hj=>?_⟩,hg.trans hG⟩
  . have:=(aJ.lt g oJ).2;omega
  . rcases hj with rfl | ⟨_,hj⟩
    . exact hg.size
    . exact hj
 clear aJ;go_wp2_with fail;go_ret;obtain⟨⟨Fc,h1,h2⟩,h3⟩:=HF.out;exact⟨⟨_,Fc,rfl,h1,h2⟩,h3⟩
section
open Go.Shelf
def Tryz.sortPair_ren:Go.Shelf.Ren:=⟨fun | 6=>143 | 15=>159 | 14=>158 | 28=>175 | 29=>176 | 20=>167 | 21=>168 | 22=>169 | 23=>170 | 24=>171 | 25=>172 | 26=>173 | 27=>174 | 46=>180 | 47=>181 | 48=>182 | 49=>183 | 50=>184 | 57=>195 | n=>n,fun | 22=>66 | 24=>62 | 25=>248 | 3=>3 | 39=>224 | 0=>0 | 53=>279 | 55=>281 | 4=>4 | 46=>273 | 45=>272 | 50=>231 | 5=>5 | 9=>9 | 66=>284 | 70=>288 | 76=>296 | 77=>297 | n=>n,fun | n=>n⟩
theorem Tryz.sortPair:Go.Proofs.SlLaysF0.n6 prog Tryz.sortPair_ren:={
 mixed:=by kernel_rfl
 f6:=⟨Tryz.f143.name,by decide,func143.trans (wZ7 some (by kernel_rfl))⟩
 f14:=⟨Tryz.f158.name,by decide,func158.trans (wZ7 some (by kernel_rfl))⟩
 f15:=func159.trans (wZ7 some (by kernel_rfl))
 f20:=⟨Tryz.f167.name,by decide,func167.trans (wZ7 some (by kernel_rfl))⟩
 f21:=⟨Tryz.f168.name,by decide,func168.trans (wZ7 some (by kernel_rfl))⟩
 f22:=⟨Tryz.f169.name,by decide,func169.trans (wZ7 some (by kernel_rfl))⟩
 f23:=⟨Tryz.f170.name,by decide,func170.trans (wZ7 some (by kernel_rfl))⟩
 f24:=⟨Tryz.f171.name,by decide,func171.trans (wZ7 some (by kernel_rfl))⟩
 f25:=⟨Tryz.f172.name,by decide,func172.trans (wZ7 some (by kernel_rfl))⟩
 f26:=⟨Tryz.f173.name,by decide,func173.trans (wZ7 some (by kernel_rfl))⟩
 f27:=⟨Tryz.f174.name,by decide,func174.trans (wZ7 some (by kernel_rfl))⟩
 f28:=func175.trans (wZ7 some (by kernel_rfl))
 f29:=func176.trans (wZ7 some (by kernel_rfl))
 f46:=⟨Tryz.f180.name,by decide,func180.trans (wZ7 some (by kernel_rfl))⟩
 f47:=func181.trans (wZ7 some (by kernel_rfl))
 f48:=func182.trans (wZ7 some (by kernel_rfl))
 f49:=⟨Tryz.f183.name,by decide,func183.trans (wZ7 some (by kernel_rfl))⟩
 f50:=⟨Tryz.f184.name,by decide,func184.trans (wZ7 some (by kernel_rfl))⟩
 f57:=⟨Tryz.f195.name,by decide,func195.trans (wZ7 some (by kernel_rfl))⟩
 t0:=underlying0
 a0:=isAgg0
 z0:=sizeOf0
 v0:=zeroValue0
 t3:=underlying3
 a3:=isAgg3
 z3:=sizeOf3
 v3:=zeroValue3
 t4:=underlying4
 a4:=isAgg4
 z4:=sizeOf4
 v4:=zeroValue4
 t5:=underlying5
 a5:=isAgg5
 z5:=sizeOf5
 v5:=zeroValue5
 t9:=underlying9
 a9:=isAgg9
 z9:=sizeOf9
 v9:=zeroValue9
 t22:=underlying66
 a22:=isAgg66
 z22:=sizeOf66
 v22:=zeroValue66
 t25:=underlying248
 a25:=isAgg248
 z25:=sizeOf248
 v25:=zeroValue248
 t39:=underlying224
 a39:=isAgg224
 z39:=sizeOf224
 v39:=zeroValue224
 t45:=underlying272
 a45:=isAgg272
 z45:=sizeOf272
 v45:=zeroValue272
 t46:=underlying273
 a46:=isAgg273
 z46:=sizeOf273
 v46:=zeroValue273
 t50:=underlying231
 a50:=isAgg231
 z50:=sizeOf231
 v50:=zeroValue231
 t53:=underlying279
 a53:=isAgg279
 z53:=sizeOf279
 v53:=zeroValue279
 t55:=underlying281
 a55:=isAgg281
 z55:=sizeOf281
 v55:=zeroValue281
 t66:=underlying284
 a66:=isAgg284
 z66:=sizeOf284
 v66:=zeroValue284
 t70:=underlying288
 a70:=isAgg288
 z70:=sizeOf288
 v70:=zeroValue288
 t76:=underlying296
 a76:=isAgg296
 z76:=sizeOf296
 v76:=zeroValue296
 t77:=underlying297
 a77:=isAgg297
 z77:=sizeOf297
 v77:=zeroValue297}
end
section
open Go.Shelf Go.Lib Go.Sort
theorem Jh {α:Type}(f:α->ByteArray)(hf:∀x,Pl.Ok (f x)):SWO (ltOf fun x y=>Pl.cU (f x) (f y)) where
 irrefl x:=by
  simp only[ltOf,Pl.CT (hf x)];decide
 trans x y z h k:=by
  simp only[ltOf,wZ2]at *;exact Pl.uM (hf x) (hf y) (hf z) h k
 ntrans x y z h k:=by
  simp only[ltOf,wZ4]at *;intro hz;have s1:=Pl.yU (hf x) (hf y);have s2:=Pl.yU (hf y) (hf z);by_cases h1:Pl.cU (f y) (f x)<0
  . have:=Pl.uM (hf y) (hf x) (hf z) h1 hz;omega
  . have h2:Pl.cU (f x) (f y)=0:=(by omega);have e:=CS (hf x) (hf y) h2;rw[e]at hz;omega
theorem y7B {w:World}{B:Nat}{e:TypeId}{k g cap n:Nat}{L:List Value}(ho:w.ownsRow B e k (.slice (some ⟨g,0,none⟩) n cap) n L)(h0:0<n)(F:Array Value)(hF:F.size=n*k):
    (putRow id w g 0 F).ownsRow B e k (.slice (some ⟨g,0,none⟩) n cap) n F.toList/\ar (fun j=>j=g) w (putRow id w g 0 F):=by
 obtain⟨g',bo,cur,e1,hB,hg,hn,hc,hl,hx⟩:=Fp ho h0;cases e1;have wY:n*k<=cap*k:=xQ9 k hn;have lj:(putRow id w g 0 F).heap[g]? =some (.cells ((putCells id 0 F cur.toArray).toList).toArray e (0,0)):=by
  unfold putRow mapBlock;dsimp only;rw[Array.getElem?_modify,zZ1 rfl,hg];simp[onCells]
 refine⟨oI hB lj hn hc ?_ ?_,⟨rfl,rfl,rfl,?_,?_⟩⟩
 . unfold putCells;simp[hl]
 . apply yQ7;intro t;rw[zX5];by_cases ht:t<n*k
   . rw[zZ1 ht];have h1:(putCells id 0 F cur.toArray).toList[t]? =some F[t]! :=by
      unfold putCells;rw[xZ5,Array.getElem?_mapIdx];have:cur.toArray[t]? =some cur[t]:=(by simp[zQ5 (show t<cur.length by omega)]);rw[this];simp only[Option.map_some,zZ5,zQ2,Nat.sub_zero,true_and,id];rw[zZ1 (by omega)]
     rw[h1,xZ5,getElem!_pos F t (by omega),yK2 (by omega)]
   . rw[zZ0 ht,xZ5,Array.getElem?_eq_none (by omega)]
 . unfold putRow mapBlock;simp
 . intro j hj hne;unfold putRow mapBlock;dsimp only;rw[Array.getElem?_modify,zZ0 (fun h=>hne h.symm)]
structure tX where
 val:Pr
 ok:Pl.Ok val.key/\val.key.size<=70368744177664
instance:Inhabited tX:=⟨⟨Pr.none,⟨[],rfl⟩,by decide⟩⟩
def jV (x:tX):List Value:=x.1.vals
def wy (x y:tX):Int:=Pl.cU x.1.key y.1.key
theorem z4K (d:Array tX):(flatK jV 3 d).toList=cq (d.toList.map tX.val):=by
 apply yQ7;intro t;by_cases ht:t<d.size*3
 . have h1:(flatK jV 3 d).toList[t]? =some (flatK jV 3 d)[t]! :=by
    rw[xZ5,yK2 (by rw[size_flatK];exact ht),getElem!_pos _ t (by rw[size_flatK];exact ht)]
   have h2:=Ia (t % 3) (Nat.mod_lt _ (by decide)) (d.toList.map tX.val) (t / 3) (by simp;omega);rw[show t / 3*3+t % 3=t by omega]at h2;rw[h1,h2,get_flatK _ _ _ _ ht,kV _ _ (by simp;omega)];have h3:(d.toList.map tX.val)[t / 3]'(by simp;omega)=(d[t / 3]!).1:=by
    rw[getElem!_pos d (t / 3) (by omega)];simp
   rw[h3];unfold jV;have h4:t % 3<3:=Nat.mod_lt _ (by decide);generalize t % 3=r at h4;generalize (d[t / 3]!).1=c;unfold Pr.vals;match r,h4 with
   | 0,_=>rfl
   | 1,_=>rfl
   | 2,_=>rfl
 . rw[xX4 (by rw[yZ7,size_flatK];omega),xX4 (by rw[yP];simp;omega)]
theorem Ab (x y:tX)(W:World):Calls prog 144 #[.agg #[.string x.1.key,.string x.1.val,.int .i64 x.1.eI],.agg #[.string y.1.key,.string y.1.val,.int .i64 y.1.eI]] W fun e w'=>e=.returned (.int .i64 (wy x y))/\dY W w':=by
 have hc:=fun W=>y9v x.1.key y.1.key W x.2.2 y.2.2;change ∀W,Calls prog 127 _ W (fun e w'=>e=.returned (.int .i64 (wy x y))/\_)at hc;have HC:=af hc;clear hc;generalize wy x y=r at HC ⊢;go_in;go_wp2_with fail;refine(HC _).mono ?_;rintro e w1 ⟨rfl,hg⟩;go_wp2_with fail;go_ret;exact⟨rfl,(((dY.refl W).alloc _).alloc _).trans hg⟩
theorem NX (blk off size:Nat)(w:World):CmpLays prog 144 #[] jV 3 wy blk off size w:=
 fun _ _ _ _ x y=>(Ab x y _).mono fun _ _ ⟨he,hg⟩=>⟨he,hg.grown⟩
def DZ (xs:List Pr)(eK:∀c∈xs,Pl.Ok c.key/\c.key.size<=70368744177664):Array tX:=(xs.attach.map fun c=>(⟨c.1,eK c.1 c.2⟩:tX)).toArray
theorem z5o (xs:List Pr)(eK):(DZ xs eK).toList.map tX.val=xs:=by unfold DZ;simp
theorem NY (xs:List Pr)(eK):(DZ xs eK).size=xs.length:=by unfold DZ;simp
theorem Ad {w:World}{B g cap:Nat}{xs:List Pr}(ho:w.ownsRow B 62 3 (.slice (some ⟨g,0,none⟩) xs.length cap) xs.length (cq xs))(h0:0<xs.length)(eK:∀c∈xs,Pl.Ok c.key/\c.key.size<=70368744177664):HoldsK jV 3 w g 0 (DZ xs eK):=by
 obtain⟨g',bo,cur,e,hB,hg,hn,hc,hl,hx⟩:=Fp ho h0;cases e;intro t ht;have ht':=ht;rw[size_flatK,NY]at ht';refine⟨?_,?_⟩
 . rw[zQ2,gw hg t];have h1:cur[t]? =(cq xs)[t]? :=(by rw[<-hx,zX5,zZ1 ht']);have h2:=z4K (DZ xs eK);rw[z5o]at h2;rw[h1,<-h2,xZ5,yK2 ht,getElem!_pos _ t ht];rfl
 . unfold World.frozen?;dsimp only;rw[hg];rfl
theorem z5t (w:World)(B g cap:Nat)(xs:List Pr)(ho:w.ownsRow B 62 3 (.slice (some ⟨g,0,none⟩) xs.length cap) xs.length (cq xs))(h0:0<xs.length)(dI:xs.length<=1000000)(eK:∀c∈xs,Pl.Ok c.key/\c.key.size<=70368744177664):
    Calls prog 143 #[.slice (some ⟨g,0,none⟩) xs.length cap,.func (.func 144) #[] #[]] w fun e w'=>e=.returned (.tuple #[])/\ar (fun j=>j=g) w w'/\∃zs:List Pr,zs.Perm xs/\zs.Pairwise (fun a b=>¬Pl.cU b.key a.key<0)/\w'.ownsRow B 62 3 (.slice (some ⟨g,0,none⟩) zs.length cap) zs.length (cq zs):=by
 have hH:=Ad ho h0 eK;have az:g<w.heap.size:=by
  obtain⟨_,_,e,_,az⟩:=ho.form h0;cases e;exact az
 have eg:∀args w,(callFunc 144 args).run prog w=.ok (.enter 144 args) w:=enters_of func144 (by kernel_rfl) rfl;have hcon:=AnyQ.slices_SortFunc Tryz.sortPair 3 isAgg62 sizeOf62 jV (fun _=>rfl) (fun x v hv=>by simp[jV,Pr.vals]at hv;rcases hv with rfl | rfl | rfl<;> rfl) wy (Jh (fun x:tX=>x.1.key) fun x=>x.2.1) 144 #[] g 0 cap (DZ xs eK) w eg (NX g 0 _ w) hH az (by rw[NY];omega);rw[NY]at hcon;refine hcon.mono ?_;rintro e w' ⟨he,d',n,os,hp,hd,hw⟩;obtain⟨hs,_,uZ⟩:=hp;rw[NY]at hs;have e1:(DZ xs eK).extract 0 xs.length=DZ xs eK:=by rw[<-NY xs eK];simp
 have e2:d'.extract 0 xs.length=d':=by rw[<-hs];simp
 rw[e1,e2]at uZ;have bK:(d'.toList.map tX.val).length=xs.length:=by simp[hs]
 obtain⟨hr,hO⟩:=y7B (w:=Sort.ahead w n) (show(Sort.ahead w n).ownsRow B 62 3 _ _ _ from ho) h0 (flatK jV 3 d') (by rw[size_flatK,hs]);have iJ:ar (fun j=>j=g) w (putRow id (Sort.ahead w n) g 0 (flatK jV 3 d')):=(ar.mono (show ar (fun j=>j=g) w (Sort.ahead w n)from⟨rfl,rfl,rfl,zZ3 _,fun _ _ _=>rfl⟩) (fun _ h=> .inl h)).then hO;have hG:ae (putRow id (Sort.ahead w n) g 0 (flatK jV 3 d')) w':=by
  rw[hw];refine⟨rfl,rfl,rfl,?_,?_⟩
  . unfold sortWorldK grow putRowK;simp
  . intro k hk;show(_++os)[k]? =_;rw[Array.getElem?_append];exact zZ1 hk
 refine⟨he,iJ.dG hG,d'.toList.map tX.val,?_,?_,?_⟩
 . have:=uZ.map tX.val;rwa[z5o]at this
 . rw[List.pairwise_map,zJ4];intro i j hi hj lQ;have:=hd i j (zZ5 _) lQ (by simpa[hs]using hj);rw[getElem!_pos d' i (by simpa using hi),getElem!_pos d' j (by simpa using hj)]at this;unfold ltOf wy at this;simpa using this
 . rw[bK,<-z4K];exact gP hG hr
namespace Pl
def RZ (zs:List Pr):Prop:=zs.Pairwise fun a b=>¬cU b.key a.key<0
end Pl
theorem z5k (w:World)(B:Nat)(a:Option Addr)(n cap:Nat)(xs:List Pr)(hn:n=xs.length)(ho:w.ownsRow B 62 3 (.slice a n cap) n (cq xs))(dI:n<=1000000)(eK:∀c∈xs,Pl.Ok c.key/\c.key.size<=70368744177664):
    Calls prog 143 #[.slice a n cap,.func (.func 144) #[] #[]] w fun e w'=>e=.returned (.tuple #[])/\ar (fun j=>some j=Value.ownBlock (.slice a n cap)) w w'/\∃zs:List Pr,zs.Perm xs/\Pl.RZ zs/\w'.ownsRow B 62 3 (.slice a n cap) n (cq zs):=by
 subst hn;rcases zJ8 xs.length with h0 | h0
 . have e:=zX2 h0;subst e;refine(AnyF.slices_SortFunc_none Tryz.sortPair a cap (.func (.func 144) #[] #[]) w).mono ?_;rintro e w' ⟨rfl,rfl⟩;exact⟨rfl,⟨rfl,rfl,rfl,zZ3 _,fun _ _ _=>rfl⟩,[],.refl _,List.Pairwise.nil,ho⟩
 . obtain⟨g,bo,e,_⟩:=ho.form h0;cases e;refine(z5t w B g cap xs ho h0 dI eK).mono ?_;rintro e w' ⟨rfl,hO,zs,hp,hs,hr⟩;refine⟨rfl,hO.mono fun j hj=> .inl (by rw[hj];rfl),zs,hp,hs,?_⟩;rwa[hp.length_eq]at hr
theorem z1W {a b:ByteArray}(h:a.toList=b.toList):a=b:=by
 rw[yZ5,yZ5]at h;obtain⟨⟨a⟩⟩:=a;obtain⟨⟨b⟩⟩:=b;exact wZ7 (fun l:List UInt8=>(⟨⟨l⟩⟩:ByteArray)) h
def Ea (w:World)(F:Nat->Prop)(tb:Nat)(v:Value)(ys:List Pr)(e:Ending)(w':World):Prop:=
 ∃zs:List Pr,zs.Perm ys/\Pl.RZ zs/\((lu zs=true/\e=.returned v/\ae w w')\/(lu zs=false/\e=.returned .nilIface/\qo w F tb zs w'))
theorem z5b {w w3:World}{F:Nat->Prop}{tb:Nat}{xs zs ys:List Pr}{v:Value}(h:bI w F tb xs)(g:ae w w3)(hr:w3.ownsRow w.heap.size 62 3 v zs.length (cq zs))(hp:zs.Perm ys)(hz:Pl.RZ zs)(hd:lu zs=false)(hk:∀c∈ys,Pl.aT c.key=0/\c.key.size<=70368744177664):
    qo w F tb zs (w3.setCell ⟨tb,0,none⟩ v):=by
 have eY:tb<w.heap.size:=pR h _ (Ry h);have o5:=ar.setCell w3 ⟨tb,0,none⟩ v;obtain⟨v0,hT⟩:=h;have hc:=(g.cells.1 _ 0 eY).trans hT.cell;have hf:=(g.cells.2 _ 0 eY).trans hT.fz;have nN:∀c∈zs,Pl.aT c.key=0/\c.key.size<=70368744177664:=fun c hc=>hk c (hp.mem_iff.1 hc);refine⟨(g.only F).then (o5.mono fun j hj=> .inl (by subst hj;exact hT.bH)),_,Rz (B:=w.heap.size) (v:=v) (by simp[World.cell?_setCell_same,hc]) (by rw[World.frozen?_setCell];exact hf) (Ct hr o5 (fun b hb e=>by have:=(hr.lt b hb).1;simp at e;omega)) (.inl eY) (z3v (fun c hc=>(nN c hc).1) hz hd) (fun c hc=>(nN c hc).2),?_⟩;rintro j (rfl | ⟨_,hj⟩)
 . exact .inl hT.bH
 . exact .inr hj
theorem z6A {S:Nat->Bool}(E:Nat->Addr)(Ji:S 18=true){w:World}(hE:bz S E w){F G:Nat->Prop}{tb ob:Nat}{xs ys:List Pr}(h:bI w F tb xs)(k:bI w G ob ys)(hx:xs.length+ys.length<=1000000):
    Calls prog 121 #[.pointer (some ⟨tb,0,none⟩),.pointer (some ⟨ob,0,none⟩)] w fun e w'=>Ea w F tb (.iface 302 (.pointer (some (E 18)))) (xs++ys) e w':=by
 have HT:=af h;have eK:∀c∈xs++ys,Pl.aT c.key=0/\c.key.size<=70368744177664:=fun c hc=>by
  rcases zQ8.1 hc with hc | hc
  . exact⟨(KY h).key c hc,Rx h c hc⟩
  . exact⟨(KY k).key c hc,Rx k c hc⟩
 have cE:=af (fun(w3:World) (v:Value) (zs:List Pr) (g:ae w w3) hr hp hz hd=>z5b (w3:=w3) (zs:=zs) (v:=v) h g hr hp hz hd eK);have mL:=af (fun c hc=>And.intro (Pl.jP (eK c hc).1) (eK c hc).2);have eY:tb<w.heap.size:=pR h _ (Ry h);have dS:ob<w.heap.size:=pR k _ (Ry k);have g18:w.cell? ⟨17,0,none⟩=some (.iface 302 (.pointer (some (E 18)))):=hE.cell 18 Ji;have b18:17<w.heap.size:=bf g18;obtain⟨v1,h⟩:=h;obtain⟨v2,k⟩:=k;obtain⟨a1,c1,rfl,A1⟩:=lT h.row;obtain⟨a2,c2,rfl,A2⟩:=lT k.row;have F1:=Ib h.row;have F2:=Ib k.row;have C1:=h.cell;have C2:=k.cell;have fz:=h.fz;have HC:=af (fun(W:World) (g:ae w W) vb h1 h2=>Db W vb a1 a2 c1 c2 xs ys h1 h2 (A1.ah g) (A2.ah g) F1 F2 (by omega) (by omega));clear h k hE A1 A2 F1 F2 eK;have E1:=bj C1;have E2:=bj C2;go_in;go_wp2_with fail;refine jA 8 [] (ae w) Eq (fun _ _ x=>x=w.drew) (fun _ a=>a) rfl (fun _ _ x h=>by rw[h];exact(ae.rf w).drew) (fun _=>rfl) (fun _ _ _ _ h g=>g▸h) ?_;repeat (first|refine iX ?_|(refine iZ ?_;intros;go_big_quiet_op;go_big_quiet_on)|(refine iY ?_;simp only[Act.put,xB9,xC9,xD9]))
 refine mi (by rfl) ⟨trivial,?_⟩;rintro f0 x rfl;dsimp only[List.drop];go_wp2_with fail;refine(HC _ (((ae.rf w).drew).alloc _) w.heap.size (by simp[go_sem]) (by simp[go_sem])).mono ?_;rintro e w1 ⟨a,cap,rfl,hr,hg⟩;have gh:ae w w1:=(((ae.rf w).drew).alloc _).trans hg;have hB1:w.heap.size<=(w.drew.alloc (.cells #[.slice a1 xs.length c1,.slice a2 ys.length c2] 66)).heap.size:=(((ae.rf w).drew).alloc _).size;have hr1:w1.ownsRow w.heap.size 62 3 (.slice a (xs.length+ys.length) cap) (xs.length+ys.length) (cq (xs++ys)):=by
  refine⟨hr.1,?_⟩;rcases hr.2 with h | ⟨b,c,cur,e1,h5,h6⟩
  . exact .inl h
  . exact .inr ⟨b,c,cur,e1,by simp at h5;omega,h6⟩
 have Jj:Hid (xs.length+ys.length=(xs++ys).length):=zZ4.symm;have Ae:=af (z5k w1 w.heap.size a (xs.length+ys.length) cap (xs++ys) Jj.out hr1 hx mL);have aH:∀j,some j=Value.ownBlock (.slice a (xs.length+ys.length) cap)->w.heap.size<=j:=fun j hj=>(hr1.lt j hj.symm).1;have kM:=af aH;have ct:=af gh;clear hr hg hB1 hr1 aH gh HC E1 E2;obtain⟨L,hL⟩:∃L,L=xs++ys:=⟨_,rfl⟩
 have HL:=af hL;rw[<-hL]at Ae Jj cE mL;clear hL;generalize xs.length+ys.length=n at *;go_wp2_with fail;refine Ae.out.mono ?_;rintro e w2 ⟨rfl,hO,zs,hp,hz,hr2⟩;have bW:ae w w2:=((ct.only _).then hO).ah kM;obtain⟨a',bo,e',A2⟩:=lT (show w2.ownsRow w.heap.size 62 3 (.slice a n cap) zs.length (cq zs) by rw[hp.length_eq,<-Jj.out];exact hr2);cases e';have Cf:=af A2;have jf:=af hr2;have HP:=af hp;have HZ:=af hz;have cA:=af bW;clear hr2 hp hz hO A2 Jj Ae kM;have C1':=(bW.cells.1 _ 0 eY).trans C1;have fz':=(bW.cells.2 _ 0 eY).trans fz;have VW:=(bW.cells.1 _ 0 b18).trans g18;have NZ:=xA9 eY bW.size;have VX:=xA9 b18 bW.size;have hzB:(zs.length:Int)<=1000000:=by omega
 clear C1 C2 g18 bW fz;go_wp2_with fail;go_loopw [21] (fun i wr=>∃k:Nat,k<=zs.length/\i=.int .i64 k/\Hid (∀j,j+1<k->(aV zs j).key≠(aV zs (j+1)).key)/\ae w2 wr) (fun i _=>zs.length - (intOf i).toNat);exact⟨0,zZ5 _,rfl,fun j hj=>absurd hj (by omega),ae.rf _⟩;obtain⟨k,fV,rfl,HN,tT⟩:=hrel;have j0q:=(tT.cells.1 _ 0 VX).trans VW;by_cases az:k<zs.length
 . rcases Cf.out with h0 | ⟨b,off,rfl,hb,hR⟩
   . rw[h0]at az;simp at az
   have M9:(k:Int)<(zs.length:Int):=(by omega);cases k with
   | zero=>
    clear hR;go_wp2_with fail;go_quiet (fail)
    all_goals (
     go_wp2_with fail
     go_roundw;exact⟨0+1,by omega,by go_num,fun j hj=>absurd hj (by omega),tT.drewN _⟩;simp[intOf];omega)
   | succ m=>
    have q0:=(tT.cells.1 b (off+(m+1)*3) hb).trans (hR.key (m+1) az);have p0:=(tT.cells.1 b (off+m*3) hb).trans (hR.key m (by omega));have HD:Hid ((aV zs m).key=(aV zs (m+1)).key->lu zs=true):=fun h=>zh m az h;have gK:Hid ((aV zs m).key≠(aV zs (m+1)).key->∀j,j+1<m+1+1->(aV zs j).key≠(aV zs (j+1)).key):=fun h j hj=>by
     by_cases sM:j=m
     . subst sM;exact h
     . exact HN j (by omega)
    clear hR;generalize (aV zs m).key=x0 at *;generalize (aV zs (m+1)).key=x1 at *;have i2:((m:Int)+1) - 1=(m:Int):=(by omega);have i3:(m:Int)<(zs.length:Int):=(by omega);have i5:m<zs.length:=(by omega);have i6:IntKind.i64.wrap (m:Int)=(m:Int):=IntWalk.i64_in _ (by omega);have hd2:decide ((0:Int)<(m:Int)+1)=true:=wZ5 (by omega);by_cases heq:x0=x1
    . have Jk:=af (HD heq);subst heq;have eT:(x0.toList==x0.toList)=true:=beq_self_eq_true _;go_wp2_with fail;go_quiet (fail)
      all_goals (
       go_wp2_with fail
       go_ret
       exact⟨zs,HL.out▸HP,HZ,.inl ⟨Jk,rfl,(cA.trans tT).drewN _⟩⟩)
    . have Eb:=af (gK heq);have eT:(x1.toList==x0.toList)=false:=wZ3.2 fun h=>heq (z1W h).symm;clear HD gK;go_wp2_with fail;go_quiet (fail)
      all_goals (
       go_wp2_with fail
       go_roundw;exact⟨m+1+1,by omega,by go_num,Eb,tT.drewN _⟩;simp[intOf];omega)
 . obtain rfl:k=zs.length:=(by omega);have Jk:Hid (lu zs=false):=z2l fun i hi=>HN i hi;have NB:=af (cE wr _ zs (cA.trans tT) (gP tT jf) HP HZ Jk);have C1k:=(tT.cells.1 _ 0 NZ).trans C1';have fk:=(tT.cells.2 _ 0 NZ).trans fz';clear C1' fz';go_wp2_with fail;go_ret;exact⟨zs,HL.out▸HP,HZ,.inr ⟨Jk,rfl,NB⟩⟩
end
section
def pY (B:Nat)(cs:List Int)(v:Value)(x:World):Prop:=∃a c,v=.slice a cs.length c/\x.ownsRow B 5 1 v cs.length (dX cs)
theorem pY.ah {B:Nat}{cs:List Int}{v:Value}{x x':World}(h:pY B cs v x)(g:ae x x'):pY B cs v x':=by
 obtain⟨a,c,e,hr⟩:=h;exact⟨a,c,e,gP g hr⟩
def WN (V:List (Nat×List Value))(j:Nat):Prop:=∃p∈V,p.1=j
structure Bz (w W:World)(V:List (Nat×List Value))(v:Value)(cs:List Int):Prop where
 ah:ae w W
 c:∀p∈V,∀(i:Nat) u,p.2[i]? =some u->W.cell? ⟨p.1,i,none⟩=some u
 row:iC w.heap.size (WN V) W v cs
section
variable {w W X:World}{V:List (Nat×List Value)}{v v':Value}{cs ds:List Int}
theorem Bz.lt (h:Bz w W V v cs):∀p∈V,p.1<W.heap.size:=fun p hp=>h.row.lt _ ⟨p,hp,rfl⟩
theorem Bz.aX (g:ae w W)(hr:pY w.heap.size cs v W):Bz w W [] v cs:=by
 obtain⟨a,c,e,hr⟩:=hr;exact⟨g,fun p hp=>by simp at hp,⟨⟨a,c,e⟩,hr,fun j _ hz=>by obtain⟨p,hp,_⟩:=hz;simp at hp,g.size,fun j hz=>by obtain⟨p,hp,_⟩:=hz;simp at hp⟩⟩
theorem Bz.br (h:Bz w W V v cs)(g:ae W X):Bz w X V v cs:=
 ⟨h.ah.trans g,fun p hp i u hu=>(g.cells.1 _ _ (h.lt p hp)).trans (h.c p hp i u hu),h.row.ah g⟩
theorem Bz.add (h:Bz w W V v cs)(g:ae W X)(b:Nat)(vals:List Value)(hb:W.heap.size<=b)(hX:b<X.heap.size)(hc:∀(i:Nat) u,vals[i]? =some u->X.cell? ⟨b,i,none⟩=some u):Bz w X ((b,vals)::V) v cs:=by
 have hm:=h.br g;refine⟨hm.ah,fun p hp=>?_,hm.row.form,hm.row.row,fun j hj hz=>?_,hm.row.base,fun j hz=>?_⟩
 . rcases zX0.1 hp with rfl | hp
   . exact hc
   . exact hm.c p hp
 . obtain⟨p,hp,rfl⟩:=hz;rcases zX0.1 hp with rfl | hp
   . have h1:=(h.row.row.lt _ hj).2;dsimp only at h1;omega
   . exact hm.row.ne _ hj ⟨p,hp,rfl⟩
 . obtain⟨p,hp,rfl⟩:=hz;rcases zX0.1 hp with rfl | hp
   . exact hX
   . exact hm.row.lt _ ⟨p,hp,rfl⟩
theorem Bz.tail {p:Nat×List Value}(h:Bz w W (p::V) v cs):Bz w W V v cs:=
 ⟨h.ah,fun q hq=>h.c q (zJ9 _ hq),h.row.less fun j hj=>by obtain⟨q,hq,e⟩:=hj;exact⟨q,zJ9 _ hq,e⟩⟩
theorem Bz.next (h:Bz w W V v cs)(hr:iC w.heap.size (WN V) X v' ds)(ho:ar (qj w.heap.size (WN V)) W X):Bz w X V v' ds:=
 ⟨((h.ah.only _).then ho).ah fun j hj=>hj.2,fun p hp i u hu=>(ho.cell (h.lt p hp) (Zx ⟨p,hp,rfl⟩) i).trans (h.c p hp i u hu),hr⟩
end
theorem JX {ops:Array Oper}{rest:List Oper}{o:Oper}{a:Act}{Q:Exit->Act->World->Prop}(hgd:o.guard=none)(s x:Operand)
    (ho:o.op=.call {callee:=.builtin .append,args:=#[s,x],argTypes:=#[34,34]}) {w W:World} {V:List (Nat×List Value)} {v:Value} {ys xs:List Int} (hs:a.eval s=v) (aH:Bz w W V v ys)
    {u:Value} {C:Nat} (hx:a.eval x=u) (hu:pY C xs u W) (dI:ys.length+xs.length<=100000000)
    (h:∀ds,Hid (ds=ys++xs)->∀a' c' w',Bz w w' V (.slice a' ds.length c') ds->wpList prog ops Q rest (a.put o.dst (.slice a' ds.length c')) w'):wpList prog ops Q (o::rest) a W:=by
 obtain⟨au,cu,rfl,hr⟩:=hu;refine Rb hgd s x ho hs aH.row hx hr dI ?_;intro ds hd a' c' w' hz hO;exact h ds hd a' c' w' (aH.next hz hO)
end
theorem y8c (B:Nat)(w:World)(t:ByteArray)(hB:B<=w.heap.size)(ht:t.size<=1000000):Calls prog 79 #[.string t] w fun e w'=>∃v,e=.returned v/\pY B (Pl.bn t) v w'/\ae w w':=by
 refine(Ul w t ht).mono ?_;rintro e w' ⟨a,c,rfl,hr,hg⟩;exact⟨_,rfl,⟨a,c,rfl,mg hB hr⟩,hg⟩
theorem LD (B:Nat)(w:World)(n:Nat)(hB:B<=w.heap.size)(hn:n<4611686018427387904):Calls prog 78 #[.int .i64 n] w fun e w'=>∃v,e=.returned v/\pY B (Pl.aU n) v w'/\ae w w':=by
 refine(Ra n w hn).mono ?_;rintro e w' ⟨a,c,rfl,hr,hg⟩;exact⟨_,rfl,⟨a,c,rfl,mg hB hr⟩,hg⟩
end Go.Proofs.YtgegogoanbamfaaGreatDoor
