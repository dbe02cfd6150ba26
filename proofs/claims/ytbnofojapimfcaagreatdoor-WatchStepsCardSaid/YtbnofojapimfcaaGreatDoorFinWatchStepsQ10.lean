/- Part 10 of the proof. -/
import Derived.Test.YtbnofojapimfcaaGreatDoorFinWatchStepsQ3
import Derived.Test.YtbnofojapimfcaaGreatDoorFinWatchStepsQ4
import Derived.Test.YtbnofojapimfcaaGreatDoorFinWatchStepsQ5
import Derived.Laws.BytesArg
import Derived.Lib.AppendStr
import Derived.Deep.DeepCutAuto
set_option linter.unusedVariables false
set_option linter.unusedSectionVars false
set_option linter.unusedSimpArgs false
set_option maxRecDepth 100000
set_option maxHeartbeats 16000000
namespace Go.Proofs.YtbnofojapimfcaaGreatDoor
section
open Go.RowKit Go.Maps
attribute [local go_sem] Oper.semAt_some
theorem LI:(Tryz.prog.info? 80).map (fun i=>(i.zero,i.size,i.bytes))=some (some (.agg #[.string ⟨#[]⟩,.string ⟨#[]⟩,.int .i64 0]),3,40):=by kernel_rfl
def Bf (a:Option Addr) (cap:Nat):Prop:=(a=none/\cap=0)\/∃b off,a=some ⟨b,off,none⟩
theorem FE {w:World} {B k:Nat} {e:TypeId} {a:Option Addr} {m n cap:Nat} {L:List Value} (h:w.ownsRow B e k (.slice a m cap) n L):Bf a cap:=by
 rcases h.2 with ⟨h2,_⟩ | ⟨b,c,cur,e1,_⟩
 · cases h2;exact .inl ⟨rfl,rfl⟩
 · cases e1;exact .inr ⟨_,_,rfl⟩
theorem tC.cells {W:World} {b off:Nat} {xs:List Pr} (h:tC W b off xs):∀j u,(bM xs)[j]? =some u->W.cell? ⟨b,off+j,none⟩=some u:=by
 intro j u hj
 have aq:j<xs.length*3:=by have:=(zQ9.1 hj).1;rwa [uY] at this
 have h2:=Da (j % 3) (Nat.mod_lt _ (by decide)) xs (j / 3) (by omega)
 rw [show j / 3*3+j % 3=j by omega,hj] at h2
 have q0:=h.key (j / 3) (by omega)
 have q1:=h.val (j / 3) (by omega)
 have q2:=h.di (j / 3) (by omega)
 have e:off+j=off+j / 3*3+j % 3:=by omega
 have h4:j % 3<3:=Nat.mod_lt _ (by decide)
 rw [e]
 generalize j % 3=r at *
 unfold Pr.vals at h2
 match r,h4 with
 | 0,_=>simp at h2;rw [h2];exact q0
 | 1,_=>simp at h2;rw [h2];exact q1
 | 2,_=>simp at h2;rw [h2];exact q2
theorem TE {ops:Array Oper} {rest:List Oper} {o:Oper} {a:Act} {Q:Exit->Act->World->Prop} (hgd:o.guard=none) (s x:Operand)
    (ho:o.op=.call {callee:=.builtin .append,args:=#[s,x],argTypes:=#[84,84]}) {w:World} {B:Nat} {v:Value} {m:Nat} {ys xs:List Pr} (hs:a.eval s=v) (aD:w.ownsRow B 80 3 v m (bM ys))
    {ao:Option Addr} {n cap:Nat} (hx:a.eval x=.slice ao n cap) (hn:n=xs.length) (hA:lI w ao xs) (hf:Bf ao cap) (hbig:m+n<=2000000) (hB:B<=w.heap.size)
    (h:∀a' cap' w',w'.ownsRow B 80 3 (.slice a' (m+n) cap') (m+n) (bM (ys++xs))->w.grownBy w' v.ownBlock->wpList Tryz.prog ops Q rest (a.put o.dst (.slice a' (m+n) cap')) w'):wpList Tryz.prog ops Q (o::rest) a w:=by
 obtain ⟨i0,hi0,hz0,hz1,hz2⟩:=info_parts LI
 subst hn
 rcases zX9 xs.length with h0 | h0
 · have e:=zX1 h0
   subst e
   have hsrc:Src Tryz.prog i0.size 84 (.slice ao 0 cap) 0 [] w:=by
    rcases hf with ⟨rfl,rfl⟩ | ⟨b,off,rfl⟩
    · exact Src.ofNil w Tryz.underlying84 0
    · exact Src.ofSlice w Tryz.underlying84 ⟨b,off,none⟩ 0 cap [] (by simp) (fun j u hj=>by simp at hj) (fun u hu=>by cases hu)
   have hb:∃a' cap',v=.slice a' m cap'/\m<=cap':=by
    rcases aD.2 with ⟨rfl,h2⟩ | ⟨b,c,cur,rfl,_,_,h4,_⟩
    · subst h2;exact ⟨_,_,rfl,zZ3 _⟩
    · exact ⟨_,_,rfl,h4⟩
   obtain ⟨a',cap',rfl,hc⟩:=hb
   exact Lib.wpList_append_run w hgd s x _ _ ho _ _ hs hx _ _ (run_append_nothing w _ _ _ 80 i0 Tryz.underlying84 hi0 a' m cap' hc _ hsrc) (h a' cap' w (by simpa using aD) ⟨rfl,rfl,rfl,zZ3 _,fun _ _ _=>rfl⟩)
 · rcases hA with h1 | ⟨b,off,rfl,hb,hR⟩
   · rw [h1] at h0;simp at h0
   · refine wpList_append_lies w hgd s x 84 ho B 80 i0 _ 3 40 Tryz.underlying84 hi0 hz0 hz1 hz2 rfl (by omega) v m (bM ys) hs aD ⟨b,off,none⟩ xs.length cap (bM xs) hx (uY xs) (fun j u hj=>by rw [Addr.add_lit];exact hR.cells j u hj) (Hk xs) h0 (by unfold maxLen;omega) (by omega) hB _ rfl ?_
     intro g cap2 w2 hown2 hgrow _ _
     rw [<-jZ] at hown2
     exact h _ _ _ hown2 hgrow
theorem TF {w:World} {B:Nat} {v:Value} {m:Nat} {ys xs:List Pr} (aD:w.ownsRow B 80 3 v m (bM ys)) {ao:Option Addr} {n cap:Nat} (hn:n=xs.length) (hA:lI w ao xs) (hf:Bf ao cap) (hbig:m+n<=2000000) (hB:B<=w.heap.size) (ty:TypeId):
    ∃a' cap' w',(Builtin.append_ #[84,84] ty #[v,.slice ao n cap]).run Tryz.prog w=.ok (.slice a' (m+n) cap') w'/\w'.ownsRow B 80 3 (.slice a' (m+n) cap') (m+n) (bM (ys++xs))/\w.grownBy w' v.ownBlock/\∀g,Value.ownBlock (.slice a' (m+n) cap')=some g->v.ownBlock=some g\/g=w.heap.size:=by
 obtain ⟨i0,hi0,hz0,hz1,hz2⟩:=info_parts LI
 subst hn
 rcases zX9 xs.length with h0 | h0
 · have e:=zX1 h0
   subst e
   have hsrc:Src Tryz.prog i0.size 84 (.slice ao 0 cap) 0 [] w:=by
    rcases hf with ⟨rfl,rfl⟩ | ⟨b,off,rfl⟩
    · exact Src.ofNil w Tryz.underlying84 0
    · exact Src.ofSlice w Tryz.underlying84 ⟨b,off,none⟩ 0 cap [] (by simp) (fun j u hj=>by simp at hj) (fun u hu=>by cases hu)
   have hb:∃a' cap',v=.slice a' m cap'/\m<=cap':=by
    rcases aD.2 with ⟨rfl,h2⟩ | ⟨b,c,cur,rfl,_,_,h4,_⟩
    · subst h2;exact ⟨_,_,rfl,zZ3 _⟩
    · exact ⟨_,_,rfl,h4⟩
   obtain ⟨a',cap',rfl,hc⟩:=hb
   exact ⟨a',cap',w,run_append_nothing w _ _ _ 80 i0 Tryz.underlying84 hi0 a' m cap' hc _ hsrc,by simpa using aD,⟨rfl,rfl,rfl,zZ3 _,fun _ _ _=>rfl⟩,fun g h=> .inl h⟩
 · rcases hA with h1 | ⟨b,off,rfl,hb,hR⟩
   · rw [h1] at h0;simp at h0
   · obtain ⟨g,cap2,w2,h1,h2,h3,h4,h5⟩:=run_append_lies (P:=Tryz.prog) (w:=w) 84 ty B 80 i0 _ 3 40 Tryz.underlying84 hi0 hz0 hz1 hz2 rfl (by omega) v m (bM ys) aD ⟨b,off,none⟩ xs.length cap (bM xs) (uY xs) (fun j u hj=>by rw [Addr.add_lit];exact hR.cells j u hj) (Hk xs) h0 (by unfold maxLen;omega) (by omega) hB _ rfl
     rw [<-jZ] at h2
     exact ⟨_,_,w2,h1,h2,h3,fun g' hg'=>by
      have:g'=g:=by simpa [Value.ownBlock] using hg'.symm
      subst this;exact h4⟩
theorem yx {o:Oper} {a:Act} {w:World} {K:Value->World->Prop} (s x:Operand) (ho:o.op=.call {callee:=.builtin .append,args:=#[s,x],argTypes:=#[84,84]})
    {B:Nat} {v:Value} {m:Nat} {ys xs:List Pr} (hs:a.eval s=v) (aD:w.ownsRow B 80 3 v m (bM ys)) {ao:Option Addr} {n cap:Nat} (hx:a.eval x=.slice ao n cap) (hn:n=xs.length) (hA:lI w ao xs) (hf:Bf ao cap) (hbig:m+n<=2000000) (hB:B<=w.heap.size)
    (h:∀r w',w'.ownsRow B 80 3 r (m+n) (bM (ys++xs))->w.grownBy w' v.ownBlock->(∀g,r.ownBlock=some g->v.ownBlock=some g\/g=w.heap.size)->K r w'):aT Tryz.prog K ((execOp a.eval o).run Tryz.prog w):=by
 obtain ⟨a',cap',w',hr,h2,h3,h4⟩:=TF aD hn hA hf hbig hB o.type
 unfold execOp
 simp only [ho,resolve,invoke,builtin,Sem.run_bind,Sem.run_pure,Result.andThen_ok,List.map_toArray,zJ8,List.map_nil,hs,hx,hr]
 exact h _ _ h2 h3 h4
def u6 (ns:List Int):List Value:=ns.map (Value.int .u8)
namespace Pl
end Pl
structure TG (w:World) (G:Nat->Prop) (ob:Nat) (v:Value) (bs:List Int):Prop where
 c0:w.cell? ⟨ob,0,none⟩=some v
 f0:w.frozen? ⟨ob,0,none⟩=false
 c1:w.cell? ⟨ob,1,none⟩=some .nilIface
 row:w.ownsRow 0 5 1 v bs.length (u6 bs)
 foot:G ob
 own:∀g,v.ownBlock=some g->G g/\g≠ob
 lt:∀j,G j->j<w.heap.size
structure Zk (B:Nat) (Z:Nat->Prop) (w:World) (v:Value) (cs:List Int):Prop where
 form:∃a c,v=.slice a cs.length c
 row:w.ownsRow B 5 1 v cs.length (u6 cs)
 ne:∀g,v.ownBlock=some g->¬Z g
 base:B<=w.heap.size
 lt:∀j,Z j->j<w.heap.size
end
section
open Go.RowKit Go.Maps
attribute [local go_sem] Oper.semAt_some aT
theorem z2B (w:World) (a b:Option Addr) (c d:Nat) (xs:List Cg) (hA:ft w a xs) (hB:ft w b xs) (hx:xs.length<=1000000):
    Calls Tryz.prog 13 #[.slice a xs.length c,.slice b xs.length d] w fun e w'=>e=.returned (.bool true)/\ae w w':=by
 have HA:=af hA
 have HB:=af hB
 have Xp:(xs.length:Int)<=1000000:=by omega
 clear hA hB
 go_in
 go_wp2_with fail
 go_loopw [13] (fun i wr=>∃k:Nat,k<=xs.length/\i=.int .i64 k/\Hid (ae w wr)) (fun i _=>xs.length - (intOf i).toNat)
 case atStart=>exact ⟨0,Nat.zero_le _,rfl,ae.rf w⟩
 case round=>
  obtain ⟨k,hk1,rfl,HG⟩:=hrel
  obtain ⟨wo,rfl⟩:∃wo:World,wo=wr:=⟨_,rfl⟩
  by_cases aq:k<xs.length
  · rcases HA.out with h0 | ⟨b1,mr,rfl,hb1,hR1⟩
    · rw [h0] at aq;simp at aq
    rcases HB.out with h0 | ⟨b2,mz,rfl,hb2,hR2⟩
    · rw [h0] at aq;simp at aq
    have Q0:=aU ((HG.out.cells.1 b1 (mr+k*10) hb1).trans (hR1.at_ k aq))
    have P0:=aU ((HG.out.cells.1 b2 (mz+k*10) hb2).trans (hR2.at_ k aq))
    have Q1:=aU ((HG.out.cells.1 b1 (mr+k*10+1) hb1).trans (hR1.key k aq))
    have P1:=aU ((HG.out.cells.1 b2 (mz+k*10+1) hb2).trans (hR2.key k aq))
    have Q2:=aU ((HG.out.cells.1 b1 (mr+k*10+2) hb1).trans (hR1.wk k aq))
    have P2:=aU ((HG.out.cells.1 b2 (mz+k*10+2) hb2).trans (hR2.wk k aq))
    have Q3:=aU ((HG.out.cells.1 b1 (mr+k*10+3) hb1).trans (hR1.wv k aq))
    have P3:=aU ((HG.out.cells.1 b2 (mz+k*10+3) hb2).trans (hR2.wv k aq))
    have Q4:=aU ((HG.out.cells.1 b1 (mr+k*10+4) hb1).trans (hR1.wn k aq))
    have P4:=aU ((HG.out.cells.1 b2 (mz+k*10+4) hb2).trans (hR2.wn k aq))
    have Q5:=aU ((HG.out.cells.1 b1 (mr+k*10+5) hb1).trans (hR1.nk k aq))
    have P5:=aU ((HG.out.cells.1 b2 (mz+k*10+5) hb2).trans (hR2.nk k aq))
    have Q6:=aU ((HG.out.cells.1 b1 (mr+k*10+6) hb1).trans (hR1.nv k aq))
    have P6:=aU ((HG.out.cells.1 b2 (mz+k*10+6) hb2).trans (hR2.nv k aq))
    have Q7:=aU ((HG.out.cells.1 b1 (mr+k*10+7) hb1).trans (hR1.nn k aq))
    have P7:=aU ((HG.out.cells.1 b2 (mz+k*10+7) hb2).trans (hR2.nn k aq))
    have Q8:=aU ((HG.out.cells.1 b1 (mr+k*10+8) hb1).trans (hR1.had k aq))
    have P8:=aU ((HG.out.cells.1 b2 (mz+k*10+8) hb2).trans (hR2.had k aq))
    have Q9:=aU ((HG.out.cells.1 b1 (mr+k*10+9) hb1).trans (hR1.has k aq))
    have P9:=aU ((HG.out.cells.1 b2 (mz+k*10+9) hb2).trans (hR2.has k aq))
    clear hR1 hR2
    generalize bA xs k=e at *
    obtain ⟨c0,c1,c2,c3,c4,c5,c6,c7,c8,c9⟩:=e
    dsimp only at *
    have Ia:(k:Int)<(xs.length:Int):=by omega
    go_wp2_with fail
    refine lH 9 (by kernel_rfl) (by kernel_rfl) (fun _ _=>rfl) ?_
    repeat (first
     | (refine fF ?_;intro K hK;go_big_quiet_op;go_big_quiet_on)
     | (refine fE ?_;simp only [Act.put,sA,sB,sC]))
    refine uU ?_
    intro x hG
    have eo:=af (HG.out.trans hG)
    clear Q0 P0 Q1 P1 Q2 P2 Q3 P3 Q4 P4 Q5 P5 Q6 P6 Q7 P7 Q8 P8 Q9 P9 hG
    dsimp only [List.drop]
    go_wp2_with fail
    go_roundw
    case rel=>exact ⟨k+1,by omega,by go_num,eo⟩
    case measure=>simp [intOf];omega
  · obtain rfl:k=xs.length:=by omega
    go_wp2_with fail
    go_ret
    exact ⟨rfl,HG.out⟩
end
end Go.Proofs.YtbnofojapimfcaaGreatDoor
