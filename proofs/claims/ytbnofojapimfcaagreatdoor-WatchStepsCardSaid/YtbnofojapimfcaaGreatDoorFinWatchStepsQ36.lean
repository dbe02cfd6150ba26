/- Part 36 of the proof. -/
import Derived.Test.YtbnofojapimfcaaGreatDoorFinWatchStepsQ34
import Derived.Deep.Slices
import Derived.ChangeSame
import Derived.SizedLaws
set_option linter.unusedVariables false
set_option linter.unusedSectionVars false
set_option linter.unusedSimpArgs false
set_option maxRecDepth 100000
set_option maxHeartbeats 16000000
namespace Go.Proofs.YtbnofojapimfcaaGreatDoor
section
open Go.RowKit Go.ChangeShapes Go.WideShapes Go.Deep
theorem z1R:Tryz.prog.cellsOf 88=5:=by kernel_rfl
theorem y7K:Tryz.prog.cellsOf 39=12:=by kernel_rfl
theorem z0J:Tryz.prog.cellsOf 36=1:=by kernel_rfl
theorem y7D:Tryz.prog.cellsOf 37=1:=by kernel_rfl
theorem Ss:Tryz.prog.cellsOf 3=1:=by kernel_rfl
theorem XA:Tryz.prog.cellsOf 9=1:=by kernel_rfl
section
variable {H:Type} {enc:TypeId×Value->H} {W:World} {base:Nat} {spare:Nat->Bool} {held:Bool} {n:Nat} {cs:List Value} {y:DataW H×List MemPlace}
theorem z4n (hl:cs.length=5) (h:DataW.trod enc Tryz.prog W base spare held n 88 cs=some y):
    ∃x:bC,cs=x.vals/\x.key.size<=9223372036854775807/\x.val.size<=9223372036854775807/\x.old.size<=9223372036854775807:=by
 match cs,hl with
 | [c0,c1,c2,c3,c4],_=>
  obtain ⟨xs,n',_,hx,_,hlen,hg⟩:=DataW.trod_struct Tryz.underlying88 h
  have g0:=hg 0 _ rfl
  have g1:=hg 1 _ rfl
  have g2:=hg 2 _ rfl
  have g3:=hg 3 _ rfl
  have g4:=hg 4 _ rfl
  match xs,hlen with
  | [y0,y1,y2,y3,y4],_=>
   simp [Ss,XA] at g0 g1 g2 g3 g4
   obtain ⟨k,e0,_⟩:=DataW.trod_int Tryz.underlying3 g0
   obtain ⟨s1,e1,_,w1⟩:=DataW.trod_string Tryz.underlying9 g1
   obtain ⟨s2,e2,_,w2⟩:=DataW.trod_string Tryz.underlying9 g2
   obtain ⟨s3,e3,_,w3⟩:=DataW.trod_string Tryz.underlying9 g3
   obtain ⟨v,e4,_⟩:=DataW.trod_int Tryz.underlying3 g4
   simp at e0 e1 e2 e3 e4
   subst e0 e1 e2 e3 e4
   unfold maxLen at w1 w2 w3
   exact ⟨⟨k,s1,s2,s3,v⟩,rfl,by dsimp only;omega,by dsimp only;omega,by dsimp only;omega⟩
theorem z2G {c:Value} (h:DataW.trod enc Tryz.prog W base spare held n 36 [c]=some y):
    ∃a cap xs,c=.slice a xs.length cap/\rQ W a xs/\xs.length<=9223372036854775807/\∀j,j<xs.length->(bn xs j).key.size<=9223372036854775807/\(bn xs j).val.size<=9223372036854775807/\(bn xs j).old.size<=9223372036854775807:=by
 rcases open_slice Tryz.underlying36 h with ⟨hcs,_⟩ | ⟨a,len,cap,m,n,D,Pl,hcs,_,hl,hm,hmm,_,hi⟩
 · simp at hcs
   subst hcs
   exact ⟨none,0,[],rfl,.inl rfl,by simp,fun j hj=>absurd hj (Nat.not_lt_zero j)⟩
 · simp at hcs
   subst hcs
   have hlm:len<=m:=by rw [hmm];split<;> omega
   have each:∀i,i<len->∃x:bC,(W.cell? (a.add (i*5))=some (.int .i64 x.kind)/\W.cell? (a.add (i*5+1))=some (.string x.key)/\W.cell? (a.add (i*5+2))=some (.string x.val)/\W.cell? (a.add (i*5+3))=some (.string x.old)/\W.cell? (a.add (i*5+4))=some (.int .i64 x.di))/\x.key.size<=9223372036854775807/\x.val.size<=9223372036854775807/\x.old.size<=9223372036854775807:=by
    intro i hil
    obtain ⟨cs',hc,ht⟩:=hi i (by omega)
    rw [z1R] at hc
    obtain ⟨_,hlen,hat⟩:=World.cells?_some hc
    obtain ⟨x,rfl,hx⟩:=z4n hlen ht
    refine ⟨x,⟨?_,?_,?_,?_,?_⟩,hx⟩
    · have:=hat 0 (by omega);rw [add_add] at this;exact this
    · have:=hat 1 (by omega);rw [add_add] at this;exact this
    · have:=hat 2 (by omega);rw [add_add] at this;exact this
    · have:=hat 3 (by omega);rw [add_add] at this;exact this
    · have:=hat 4 (by omega);rw [add_add] at this;exact this
   obtain ⟨X,hX⟩:=choose_lt each
   have jF:((List.range len).map X).length=len:=by simp
   have sW:∀j,j<len->bn ((List.range len).map X) j=X j:=fun j hj=>by unfold bn;simp [hj]
   refine ⟨some a,cap,(List.range len).map X,by rw [jF],?_,by rw [jF];unfold maxLen at hm;omega,?_⟩
   · by_cases h0:len=0
     · left;rw [h0];rfl
     · right
       obtain ⟨b,off,spot⟩:=a
       have hs:spot=none:=by
        have:=(hX 0 (by omega)).1.1
        simpa [Addr.add] using World.cell?_spot this
       subst hs
       refine ⟨b,off,rfl,block_lt_of_cell (by have:=(hX 0 (by omega)).1.1;simpa [Addr.add] using this),?_,?_,?_,?_,?_⟩<;> intro j hj<;> rw [jF] at hj<;> rw [sW j hj]
       · have:=(hX j hj).1.1;rwa [Addr.add_lit] at this
       · have:=(hX j hj).1.2.1;rwa [Addr.add_lit,<-zQ6] at this
       · have:=(hX j hj).1.2.2.1;rwa [Addr.add_lit,<-zQ6] at this
       · have:=(hX j hj).1.2.2.2.1;rwa [Addr.add_lit,<-zQ6] at this
       · have:=(hX j hj).1.2.2.2.2;rwa [Addr.add_lit,<-zQ6] at this
   · intro j hj
     rw [jF] at hj
     rw [sW j hj]
     exact (hX j hj).2
theorem y8X {c:Value} (h:DataW.trod enc Tryz.prog W base spare held n 37 [c]=some y):∃a l cap,c=.slice a l cap/\l<=9223372036854775807:=by
 rcases open_slice Tryz.underlying37 h with ⟨hcs,_⟩ | ⟨a,len,cap,m,n,D,Pl,hcs,_,hl,hm,_,_,_⟩
 · simp at hcs;exact ⟨none,0,0,hcs,Nat.zero_le _⟩
 · simp at hcs;unfold maxLen at hm;exact ⟨some a,len,cap,hcs,by omega⟩
theorem y9t (hl:cs.length=12) (h:DataW.trod enc Tryz.prog W base spare held n 39 cs=some y):
    ∃e:En,cs=e.vals/\rQ W e.aC e.ops/\Gq ⟨e,0⟩:=by
 match cs,hl with
 | [c0,c1,c2,c3,c4,c5,c6,c7,c8,c9,c10,c11],_=>
  obtain ⟨xs,n',_,hx,_,hlen,hg⟩:=DataW.trod_struct Tryz.underlying39 h
  have g0:=hg 0 _ rfl
  have g1:=hg 1 _ rfl
  have g2:=hg 2 _ rfl
  have g3:=hg 3 _ rfl
  have g4:=hg 4 _ rfl
  have g5:=hg 5 _ rfl
  have g6:=hg 6 _ rfl
  have g7:=hg 7 _ rfl
  have g8:=hg 8 _ rfl
  have g9:=hg 9 _ rfl
  have g10:=hg 10 _ rfl
  have g11:=hg 11 _ rfl
  match xs,hlen with
  | [y0,y1,y2,y3,y4,y5,y6,y7,y8,y9,y10,y11],_=>
   simp [Ss,XA,z0J,y7D] at g0 g1 g2 g3 g4 g5 g6 g7 g8 g9 g10 g11
   obtain ⟨k0,e0,_⟩:=DataW.trod_int Tryz.underlying3 g0
   obtain ⟨k1,e1,_⟩:=DataW.trod_int Tryz.underlying3 g1
   obtain ⟨k2,e2,_⟩:=DataW.trod_int Tryz.underlying3 g2
   obtain ⟨k3,e3,_⟩:=DataW.trod_int Tryz.underlying3 g3
   obtain ⟨k4,e4,_⟩:=DataW.trod_int Tryz.underlying3 g4
   obtain ⟨k5,e5,_⟩:=DataW.trod_int Tryz.underlying3 g5
   obtain ⟨oa,oc,os,e6,pT,hol,hos⟩:=z2G g6
   obtain ⟨s7,e7,_,w7⟩:=DataW.trod_string Tryz.underlying9 g7
   obtain ⟨k8,e8,_⟩:=DataW.trod_int Tryz.underlying3 g8
   obtain ⟨k9,e9,_⟩:=DataW.trod_int Tryz.underlying3 g9
   obtain ⟨k10,e10,_⟩:=DataW.trod_int Tryz.underlying3 g10
   obtain ⟨da,dl,dc,e11,Mh⟩:=y8X g11
   simp at e0 e1 e2 e3 e4 e5 e7 e8 e9 e10
   subst e0 e1 e2 e3 e4 e5 e6 e7 e8 e9 e10 e11
   unfold maxLen at w7
   exact ⟨⟨k0,k1,k2,k3,k4,k5,s7,k8,k9,k10,os,oa,oc,da,dl,dc⟩,rfl,pT,hol,by dsimp only;omega,Mh,hos⟩
end
end
section
open Go.RowKit Go.ChangeShapes Go.WideShapes Go.Deep
theorem z0g:Tryz.prog.cellsOf 41=13:=by kernel_rfl
theorem y9P:Tryz.prog.bytesOf 41=144:=by kernel_rfl
section
variable {H:Type} {enc:TypeId×Value->H} {W:World} {base:Nat} {spare:Nat->Bool} {held:Bool} {n:Nat} {cs:List Value} {y:DataW H×List MemPlace}
theorem z2U (hl:cs.length=13) (h:DataW.trod enc Tryz.prog W base spare held n 41 cs=some y):
    ∃x:Ac,cs=x.vals/\rQ W x.e.aC x.e.ops/\Gq x:=by
 obtain ⟨xs,n',_,hx,_,hlen,hg⟩:=DataW.trod_struct Tryz.underlying41 h
 have g0:=hg 0 _ rfl
 have g1:=hg 1 _ rfl
 match xs,hlen with
 | [y0,y1],_=>
  change DataW.trod enc Tryz.prog W base spare held n' 39 ((cs.drop 0).take (Tryz.prog.cellsOf 39))=some y0 at g0
  change DataW.trod enc Tryz.prog W base spare held n' 3 ((cs.drop 12).take (Tryz.prog.cellsOf 3))=some y1 at g1
  rw [y7K,List.drop_zero] at g0
  rw [Ss] at g1
  obtain ⟨e,he,pT,hfit⟩:=y9t (by rw [List.length_take];omega) g0
  obtain ⟨k,hk,_⟩:=DataW.trod_int Tryz.underlying3 g1
  refine ⟨⟨e,k⟩,?_,pT,hfit⟩
  have e1:cs=cs.take 12++cs.drop 12:=(List.take_append_drop 12 cs).symm
  have e2:cs.drop 12=(cs.drop 12).take 1:=(zQ7 (by rw [zQ8];omega)).symm
  rw [e1,he,e2,hk]
  rfl
end
theorem z0C {H:Type} {enc:TypeId×Value->H} {W:World} {held:Bool} {base0:Nat} {v:Value} {d:DataW H} {p:List MemPlace} (hv:Value.okWide Tryz.prog W .any base0 24 v)
    (h:DataW.Trod enc Tryz.prog W 0 (fun _=>true) held 24 v d p):
    ∃a cap xs,v=.slice a xs.length cap/\mX W a xs/\(∀j,j<xs.length->Gq (cV xs j))/\(xs=[]\/∃es sp,d=.slice es sp/\es.length=xs.length):=by
 obtain ⟨a0,l0,c0,rfl⟩:=okWide_slice Tryz.underlying24 hv
 obtain ⟨fuel,hf⟩:=h
 rcases open_slice Tryz.underlying24 hf with ⟨hcs,_⟩ | ⟨a,len,cap,m,n,D,Pl,hcs,_,hl,hm,hmm,hx,hi⟩
 · simp [Value.cells] at hcs
   obtain ⟨rfl,rfl,rfl⟩:=hcs
   refine ⟨none,0,[],rfl,⟨.inl rfl,fun j hj=>absurd hj (Nat.not_lt_zero j)⟩,fun j hj=>absurd hj (Nat.not_lt_zero j),.inl rfl⟩
 · simp [Value.cells] at hcs
   obtain ⟨rfl,rfl,rfl⟩:=hcs
   simp only [if_true] at hmm
   subst hmm
   have each:∀i,i<l0->∃x:Ac,(∀k v,x.vals[k]? =some v->W.cell? (a.add (i*13+k))=some v)/\rQ W x.e.aC x.e.ops/\Gq x:=by
    intro i hil
    obtain ⟨cs',hc,ht⟩:=hi i (by omega)
    rw [z0g] at hc
    obtain ⟨_,hlen,hat⟩:=World.cells?_some hc
    obtain ⟨x,rfl,hx1,hx2⟩:=z2U hlen ht
    refine ⟨x,fun k v hk=>?_,hx1,hx2⟩
    have hkl:=(zQ9.1 hk).1
    have:=hat k (by omega)
    rw [add_add] at this
    rw [this,hk]
   obtain ⟨X,hX⟩:=choose_lt each
   have jF:((List.range l0).map X).length=l0:=by simp
   have sW:∀j,j<l0->cV ((List.range l0).map X) j=X j:=fun j hj=>by unfold cV;simp [hj]
   refine ⟨some a,m,(List.range l0).map X,by rw [jF],⟨?_,?_⟩,?_,.inr ⟨(List.range l0).map D,_,(Prod.mk.inj hx).1,by simp⟩⟩
   · by_cases h0:l0=0
     · left;rw [h0];rfl
     · right
       obtain ⟨b,off,spot⟩:=a
       have yj:=(hX 0 (by omega)).1 0 _ rfl
       have hs:spot=none:=by simpa [Addr.add] using World.cell?_spot yj
       subst hs
       refine ⟨b,off,rfl,block_lt_of_cell (by simpa [Addr.add] using yj),?_⟩
       intro j hj k v hk
       rw [jF] at hj
       rw [sW j hj] at hk
       have:=(hX j hj).1 k v hk
       rwa [Addr.add_lit,<-zQ6] at this
   · intro j hj
     rw [jF] at hj
     rw [sW j hj]
     exact (hX j hj).2.1
   · intro j hj
     rw [jF] at hj
     rw [sW j hj]
     exact (hX j hj).2.2
end
end Go.Proofs.YtbnofojapimfcaaGreatDoor
