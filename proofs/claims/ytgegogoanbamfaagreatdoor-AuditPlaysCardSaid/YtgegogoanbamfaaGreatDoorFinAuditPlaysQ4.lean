/- Part 4. -/
import Derived.Test.YtgegogoanbamfaaGreatDoorFinAuditPlaysQ1
set_option linter.unusedVariables false
set_option linter.unusedSectionVars false
set_option linter.unusedSimpArgs false
set_option maxRecDepth 100000
set_option maxHeartbeats 16000000
namespace Go.Proofs.YtgegogoanbamfaaGreatDoor.Pl
def eO (s:ByteArray)(p:Nat):Nat:=(s.get! p).toNat
theorem MM (s:ByteArray)(p:Nat):eO s p<256:=yQ0 _
theorem Ir (s:ByteArray)(q:Nat)(h:q<s.size):eO s q=(s[q]'h).toNat:=by
 unfold eO;congr 1;simp[ByteArray.get!,getElem!_pos,h];rfl
theorem CY (s:ByteArray)(p:Nat)(hp:p<s.size):bT (ig s p)=mB (s.size - p) (eO s p) (eO s (p+1)) (eO s (p+2)) (eO s (p+3)):=by
 rw[KD,Lib.decode_at,Cp _ _ _ _ _ (by omega) (MM _ _) (MM _ _) (MM _ _) (MM _ _)];rfl
theorem MN (b:Nat)(h:b<128):eQ b=some (1,0,b):=by unfold eQ;rw[zZ1 h]
theorem MO (b:Nat)(h:192<=b)(h2:b<224):eQ b=some (2,128,b - 192):=by unfold eQ;rw[zZ0 (by omega),zZ1 ⟨h,h2⟩]
theorem MP (b:Nat)(h:224<=b)(h2:b<240):eQ b=some (3,2048,b - 224):=by unfold eQ;rw[zZ0 (by omega),zZ0 (by omega),zZ1 ⟨h,h2⟩]
theorem MQ (b:Nat)(h:240<=b)(h2:b<248):eQ b=some (4,65536,b - 240):=by unfold eQ;rw[zZ0 (by omega),zZ0 (by omega),zZ0 (by omega),zZ1 ⟨h,h2⟩]
theorem FT (b:Nat)(h:128<=b/\b<192\/248<=b):eQ b=none:=by unfold eQ;rw[zZ0 (by omega),zZ0 (by omega),zZ0 (by omega),zZ0 (by omega)]
theorem yX (s:ByteArray)(p:Nat)(hp:p<s.size)(h:eQ (eO s p)=none):bT (ig s p)=none:=by
 rw[CY s p hp,mB,h];rfl
theorem UF (s:ByteArray)(p:Nat)(hp:p<s.size)(k l c:Nat)(h:eQ (eO s p)=some (k,l,c))(hs:s.size - p<k):bT (ig s p)=none:=by
 rw[CY s p hp,mB,h];simp only[zX4];rw[zZ1 hs]
theorem MR (s:ByteArray)(p:Nat)(hp:p<s.size)(l c:Nat)(h:eQ (eO s p)=some (1,l,c))(hs:¬s.size - p<1):
    bT (ig s p)=if jE l c then some (c,1)else none:=by
 rw[CY s p hp,mB,h];simp only[zX4];rw[zZ0 hs,zZ1 trivial]
theorem rA (s:ByteArray)(p:Nat)(hp:p<s.size)(k l c:Nat)(h:eQ (eO s p)=some (k,l,c))(hk:k≠1)(hm:bB (eO s (p+1))=false):bT (ig s p)=none:=by
 rw[CY s p hp,mB,h];simp only[zX4];by_cases hs:s.size - p<k
 . rw[zZ1 hs]
 . rw[zZ0 hs,zZ0 hk,hm];rfl
theorem FW (s:ByteArray)(p:Nat)(hp:p<s.size)(l c:Nat)(h:eQ (eO s p)=some (2,l,c))(hs:¬s.size - p<2)(hm:bB (eO s (p+1))=true):
    bT (ig s p)=if jE l (c*64+eO s (p+1) - 128)then some (c*64+eO s (p+1) - 128,2)else none:=by
 rw[CY s p hp,mB,h];simp only[zX4];rw[zZ0 hs,zZ0 (by decide),hm];rfl
theorem yY (s:ByteArray)(p:Nat)(hp:p<s.size)(k l c:Nat)(h:eQ (eO s p)=some (k,l,c))(hk:k≠1)(hk2:k≠2)(hm:bB (eO s (p+2))=false):bT (ig s p)=none:=by
 cases yV:bB (eO s (p+1))with
 | false=>exact rA s p hp k l c h hk yV
 | true=>
  rw[CY s p hp,mB,h];simp only[zX4];by_cases hs:s.size - p<k
  . rw[zZ1 hs]
  . rw[zZ0 hs,zZ0 hk,yV,zZ0 (by decide),zZ0 hk2,hm];rfl
theorem Ri (s:ByteArray)(p:Nat)(hp:p<s.size)(l c:Nat)(h:eQ (eO s p)=some (3,l,c))(hs:¬s.size - p<3)(hm:bB (eO s (p+1))=true)(ky:bB (eO s (p+2))=true):
    bT (ig s p)=if jE l ((c*64+eO s (p+1) - 128)*64+eO s (p+2) - 128)then some ((c*64+eO s (p+1) - 128)*64+eO s (p+2) - 128,3)else none:=by
 rw[CY s p hp,mB,h];simp only[zX4];rw[zZ0 hs,zZ0 (by decide),hm,zZ0 (by decide),zZ0 (by decide),ky];rfl
theorem MS (s:ByteArray)(p:Nat)(hp:p<s.size)(l c:Nat)(h:eQ (eO s p)=some (4,l,c))(hm:bB (eO s (p+3))=false):bT (ig s p)=none:=by
 cases yV:bB (eO s (p+1))with
 | false=>exact rA s p hp 4 l c h (by decide) yV
 | true=>
  cases ky:bB (eO s (p+2))with
  | false=>exact yY s p hp 4 l c h (by decide) (by decide) ky
  | true=>
   rw[CY s p hp,mB,h];simp only[zX4];by_cases hs:s.size - p<4
   . rw[zZ1 hs]
   . rw[zZ0 hs,zZ0 (by decide),yV,zZ0 (by decide),zZ0 (by decide),ky,zZ0 (by decide),zZ0 (by decide),hm];rfl
theorem UG (s:ByteArray)(p:Nat)(hp:p<s.size)(l c:Nat)(h:eQ (eO s p)=some (4,l,c))(hs:¬s.size - p<4)(hm:bB (eO s (p+1))=true)(ky:bB (eO s (p+2))=true)(CV:bB (eO s (p+3))=true):
    bT (ig s p)=if jE l (((c*64+eO s (p+1) - 128)*64+eO s (p+2) - 128)*64+eO s (p+3) - 128)then some (((c*64+eO s (p+1) - 128)*64+eO s (p+2) - 128)*64+eO s (p+3) - 128,4)else none:=by
 rw[CY s p hp,mB,h];simp only[zX4];rw[zZ0 hs,zZ0 (by decide),hm,zZ0 (by decide),zZ0 (by decide),ky,zZ0 (by decide),zZ0 (by decide),CV];rfl
theorem oL (s:ByteArray)(p:Nat)(hp:p<s.size)(r:List Nat)(h:bJ s.data.toList=(nc s p).map (r++·))(hs:bT (ig s p)=none):bJ s.data.toList=none:=by
 rw[h];unfold nc;rw[vF _ (Fh s p hp),hs];rfl
theorem MT (s:ByteArray)(p:Nat)(hp:p<s.size)(r:List Nat)(h:bJ s.data.toList=(nc s p).map (r++·))(c k:Nat)(hs:bT (ig s p)=some (c,k)):
    bJ s.data.toList=(nc s (p+k)).map ((r++[c])++·)/\p+k<=s.size/\1<=k:=by
 have hw:=LY (ig s p) (Fh s p hp) (c,k) hs;rw[G9]at hw;refine⟨?_,by simp at hw;omega,by simp at hw;omega⟩;rw[h];unfold nc;rw[vF _ (Fh s p hp),hs];simp only[zX4,Option.map_map];rw[Yw];congr 1;funext x;simp
theorem z5Q (s:ByteArray)(p:Nat)(hp:¬p<s.size)(r:List Nat)(h:bJ s.data.toList=(nc s p).map (r++·)):bJ s.data.toList=some r:=by
 rw[h,LZ s p hp];simp
end Go.Proofs.YtgegogoanbamfaaGreatDoor.Pl
namespace Go.Proofs.YtgegogoanbamfaaGreatDoor
namespace Pl
end Pl
open Pl Go.Proofs.Tryz Go.RowKit Go.Maps
attribute [local go_sem] Oper.semAt_some
theorem A.info3:(prog.info? 3).map (fun i=>(i.zero,i.size,i.bytes))=some (some (.int .i64 0),1,8):=by kernel_rfl
theorem lU {w wr:World}{T:TypeId}{v:Value}{n:Nat}{xs:List Value}(h:wr.ownsRow w.heap.size T 1 v n xs)(hB:Below w.heap.size w wr)(k:Nat):∃wq,wq.ownsRow w.heap.size T 1 v n xs/\Below w.heap.size w wq/\wq=wr.drewN k:=⟨wr.drewN k,h,⟨hB.os,hB.tape,hB.output,hB.size,hB.block⟩,rfl⟩
def ZT (s:ByteArray)(w:World)(e:Ending)(w':World):Prop:=
 ae w w'/\((Pl.bJ s.data.toList=none/\e=.returned (.tuple #[.slice none 0 0,.bool false]))\/
  ∃l v,Pl.bJ s.data.toList=some l/\e=.returned (.tuple #[v,.bool true])/\w'.ownsRow w.heap.size 3 1 v l.length (l.map fun c=>Value.int .i64 (c:Nat)))
theorem oM {s:ByteArray}{w w':World}{e:Ending}(hB:Below w.heap.size w w')(h:Pl.bJ s.data.toList=none)(he:e=.returned (.tuple #[.slice none 0 0,.bool false])):ZT s w e w':=
 ⟨hB,.inl ⟨h,he⟩⟩
theorem ZU (s:ByteArray)(w:World)(hs:s.size<=16777216):
    Calls prog 130 #[.string s] w (ZT s w):=by
 obtain⟨i0,hi,hz0,hz1,hz2⟩:=wZ8 A.info3;go_in;go_wp2;go_loopw [4,5] (fun out i w'=>∃(p:Nat) (r:List Nat),i=.int .i64 p/\p<=s.size/\w'.ownsRow w.heap.size 3 1 out r.length (r.map fun c=>Value.int .i64 (c:Nat))/\Below w.heap.size w w'/\Hid (Pl.bJ s.data.toList=(nc s p).map (r++·))/\r.length<=p) (fun _ i _=>s.size - (intOf i).toNat);exact⟨0,[],rfl,zZ5 _,World.ownsRow_made (cap:=0) w #[] (zZ3 _) (by unfold maxLen;omega) (by simp),(Below.refl _ _).alloc (zZ3 _) _,by unfold Hid;rw[y9q];simp,zZ3 _⟩;obtain⟨p,r,rfl,hle,aH,hB,HR,wW⟩:=hrel;by_cases hp:p<s.size
 . have Zl:(p:Int)<(s.size:Int):=(by omega);have hb:=yQ0 (s[p]'hp);have e0:=af (Ir s p hp);by_cases c0:((s[p]'hp).toNat:Int)<128
   . have q:decide ((s.size:Int) - (p:Int)<1)=false:=(by simp;omega);go_wp2_with fail;go_quiet (fail);obtain⟨wq,bP,eo,dM⟩:=lU aH hB nq;rw[<-dM];clear dM;go_wp2_with fail;refine wQ0 1 ?_;rw[wZ9];have L:=af (MN _ (show eO s p<128 by rw[e0.out];omega));have hst:bT (ig s p)=some (eO s p,1):=by
      rw[MR s p hp _ _ L.out (by omega),zZ1];simp[jE];have:=MM s p;omega
     rw[e0.out]at hst;have HST:=af hst;clear hst;go_wp2_with (at_builtin;go_loud (refine wpList_append_own _ rfl _ _ 153 rfl w.heap.size 3 i0 (.int .i64 0) 1 8 underlying153 hi hz0 hz1 hz2 rfl (by decide) _ _ _ rfl (bP.alloc _) ⟨wq.heap.size,0,none⟩ 1 1 [.int .i64 (((s[p]'hp).toNat:Int))] rfl rfl (cell_one_new _ _ _) (ints_oneCell .i64 [(((s[p]'hp).toNat:Int))]) (by unfold maxLen;omega) (by omega) (by have:=eo.size;simp;omega) ?_);intro v' w1 hown1 jc uN);obtain⟨g1,g2,g3⟩:=MT s p hp r HR ((s[p]'hp).toNat) 1 (HST);have CZ:Below w.heap.size w w1:=(eo.alloc eo.size _).grown jc (by have:=eo.size;simp;omega) (fun j hj=>(bP.lt j hj).1);go_wp2;go_roundw;case rel=>exact⟨p+1,r++[(s[p]'hp).toNat],by go_num,g2,by simpa using hown1,CZ,g1,by simp;omega⟩
     case measure=>simp[intOf];omega
   . by_cases c2:((s[p]'hp).toNat:Int)<192
     . have z1:¬192<=((s[p]'hp).toNat:Int):=(by omega);have z2:¬224<=((s[p]'hp).toNat:Int):=(by omega);have z3:¬240<=((s[p]'hp).toNat:Int):=(by omega);have HST:=af (yX s p hp (FT _ (by rw[e0.out];omega)));go_wp2_with fail;go_quiet (fail);obtain⟨wq,bP,eo,dM⟩:=lU aH hB nq;rw[<-dM];clear dM;go_wp2_with fail;go_ret2;exact oM eo (Pl.oL s p hp r HR (HST)) rfl
     . by_cases c3:((s[p]'hp).toNat:Int)<224
       . have c2a:192<=((s[p]'hp).toNat:Int):=(by omega);have c2b:((s[p]'hp).toNat:Int)<224:=(by omega);have L:=af (MO _ (show 192<=eO s p by rw[e0.out];omega) (show eO s p<224 by rw[e0.out];omega));by_cases sh:s.size - p<2
         . have q:((s.size:Int) - (p:Int)<2):=(by omega);have HST:=af (UF s p hp _ _ _ L.out (by omega));go_wp2_with fail;go_quiet (fail);obtain⟨wq,bP,eo,dM⟩:=lU aH hB nq;rw[<-dM];clear dM;go_wp2_with fail;go_ret2;exact oM eo (Pl.oL s p hp r HR (HST)) rfl
         . have q:decide ((s.size:Int) - (p:Int)<2)=false:=(by simp;omega);have h1:p+1<s.size:=(by omega);have yH:(p:Int)+1<(s.size:Int):=(by omega);have hb1:=yQ0 (s[p+1]'h1);have e1:=af (Ir s (p+1) h1);by_cases d1:((s[p+1]'h1).toNat:Int)<128
           . have M:bB (eO s (p+1))=false:=(by rw[e1.out];simp[bB];omega);have HST:=af (rA s p hp _ _ _ L.out (by decide) M);clear M;go_wp2_with fail;go_quiet (fail);obtain⟨wq,bP,eo,dM⟩:=lU aH hB nq;rw[<-dM];clear dM;go_wp2_with fail;refine wQ0 2 ?_;rw[wZ9];go_wp2_with fail;go_ret2;exact oM eo (Pl.oL s p hp r HR (HST)) rfl
           . by_cases ZV:191<((s[p+1]'h1).toNat:Int)
             . have M:bB (eO s (p+1))=false:=(by rw[e1.out];simp[bB];omega);have HST:=af (rA s p hp _ _ _ L.out (by decide) M);clear M;go_wp2_with fail;go_quiet (fail);obtain⟨wq,bP,eo,dM⟩:=lU aH hB nq;rw[<-dM];clear dM;go_wp2_with fail;refine wQ0 2 ?_;rw[wZ9];go_wp2_with fail;go_ret2;exact oM eo (Pl.oL s p hp r HR (HST)) rfl
             . have m1:bB (eO s (p+1))=true:=(by rw[e1.out];simp[bB];omega);have M1:=af m1;clear m1;by_cases f1:((((s[p]'hp).toNat:Int) - 192)*64+((s[p+1]'h1).toNat:Int) - 128)<128
               . have hst:bT (ig s p)=none:=by
                  rw[FW s p hp _ _ L.out (by omega) M1.out,e0.out,e1.out,zZ0];rw[BJ];simp only[wZ2];omega
                 have HST:=af hst;clear hst;go_wp2_with fail;go_quiet (fail);obtain⟨wq,bP,eo,dM⟩:=lU aH hB nq;rw[<-dM];clear dM;go_wp2_with fail;refine wQ0 2 ?_;iterate 2 (rw[wZ9];go_wp2_with fail)
                 go_ret2;exact oM eo (Pl.oL s p hp r HR (HST)) rfl
               . have f2:((((s[p]'hp).toNat:Int) - 192)*64+((s[p+1]'h1).toNat:Int) - 128)<55296:=(by omega);have hst:bT (ig s p)=some ((((s[p]'hp).toNat - 192)*64+(s[p+1]'h1).toNat - 128),2):=by
                  rw[FW s p hp _ _ L.out (by omega) M1.out,e0.out,e1.out,zZ1];rw[BJ];simp only[wZ2];omega
                 have HST:=af hst;clear hst;go_wp2_with fail;go_quiet (fail);obtain⟨wq,bP,eo,dM⟩:=lU aH hB nq;rw[<-dM];clear dM;go_wp2_with fail;refine wQ0 2 ?_;rw[wZ9];go_wp2_with fail;rw[wZ9];go_wp2_with (at_builtin;go_loud (refine wpList_append_own _ rfl _ _ 153 rfl w.heap.size 3 i0 (.int .i64 0) 1 8 underlying153 hi hz0 hz1 hz2 rfl (by decide) _ _ _ rfl (bP.alloc _) ⟨wq.heap.size,0,none⟩ 1 1 [.int .i64 (((((s[p]'hp).toNat:Int) - 192)*64+((s[p+1]'h1).toNat:Int) - 128))] rfl rfl (cell_one_new _ _ _) (ints_oneCell .i64 [(((((s[p]'hp).toNat:Int) - 192)*64+((s[p+1]'h1).toNat:Int) - 128))]) (by unfold maxLen;omega) (by omega) (by have:=eo.size;simp;omega) ?_);intro v' w1 hown1 jc uN);obtain⟨g1,g2,g3⟩:=MT s p hp r HR ((((s[p]'hp).toNat - 192)*64+(s[p+1]'h1).toNat - 128)) 2 (HST);have CZ:Below w.heap.size w w1:=(eo.alloc eo.size _).grown jc (by have:=eo.size;simp;omega) (fun j hj=>(bP.lt j hj).1);have hce:(((((s[p]'hp).toNat:Int) - 192)*64+((s[p+1]'h1).toNat:Int) - 128):Int)=(((((s[p]'hp).toNat - 192)*64+(s[p+1]'h1).toNat - 128):Nat):Int):=(by omega);have HO:=af hown1;clear hown1;have Iu:=af hce;clear hce;go_wp2;go_roundw;case rel=>exact⟨p+2,r++[(((s[p]'hp).toNat - 192)*64+(s[p+1]'h1).toNat - 128)],by go_num,g2,by have:=HO.out;rw[Iu.out]at this;simpa using this,CZ,g1,by simp;omega⟩
                 case measure=>simp[intOf];omega
       . by_cases c4:((s[p]'hp).toNat:Int)<240
         . have c3a:224<=((s[p]'hp).toNat:Int):=(by omega);have c3b:((s[p]'hp).toNat:Int)<240:=(by omega);have L:=af (MP _ (show 224<=eO s p by rw[e0.out];omega) (show eO s p<240 by rw[e0.out];omega));by_cases sh:s.size - p<3
           . have q:((s.size:Int) - (p:Int)<3):=(by omega);have HST:=af (UF s p hp _ _ _ L.out (by omega));go_wp2_with fail;go_quiet (fail);obtain⟨wq,bP,eo,dM⟩:=lU aH hB nq;rw[<-dM];clear dM;go_wp2_with fail;go_ret2;exact oM eo (Pl.oL s p hp r HR (HST)) rfl
           . have q:decide ((s.size:Int) - (p:Int)<3)=false:=(by simp;omega);have h1:p+1<s.size:=(by omega);have yH:(p:Int)+1<(s.size:Int):=(by omega);have hb1:=yQ0 (s[p+1]'h1);have e1:=af (Ir s (p+1) h1);by_cases d1:((s[p+1]'h1).toNat:Int)<128
             . have M:bB (eO s (p+1))=false:=(by rw[e1.out];simp[bB];omega);have HST:=af (rA s p hp _ _ _ L.out (by decide) M);clear M;go_wp2_with fail;go_quiet (fail);obtain⟨wq,bP,eo,dM⟩:=lU aH hB nq;rw[<-dM];clear dM;go_wp2_with fail;refine wQ0 2 ?_;rw[wZ9];go_wp2_with fail;go_ret2;exact oM eo (Pl.oL s p hp r HR (HST)) rfl
             . by_cases ZV:191<((s[p+1]'h1).toNat:Int)
               . have M:bB (eO s (p+1))=false:=(by rw[e1.out];simp[bB];omega);have HST:=af (rA s p hp _ _ _ L.out (by decide) M);clear M;go_wp2_with fail;go_quiet (fail);obtain⟨wq,bP,eo,dM⟩:=lU aH hB nq;rw[<-dM];clear dM;go_wp2_with fail;refine wQ0 2 ?_;rw[wZ9];go_wp2_with fail;go_ret2;exact oM eo (Pl.oL s p hp r HR (HST)) rfl
               . have m1:bB (eO s (p+1))=true:=(by rw[e1.out];simp[bB];omega);have M1:=af m1;clear m1;have h2:p+2<s.size:=(by omega);have Rj:(p:Int)+2<(s.size:Int):=(by omega);have hb2:=yQ0 (s[p+2]'h2);have e2:=af (Ir s (p+2) h2);by_cases d2:((s[p+2]'h2).toNat:Int)<128
                 . have M:bB (eO s (p+2))=false:=(by rw[e2.out];simp[bB];omega);have HST:=af (yY s p hp _ _ _ L.out (by decide) (by decide) M);clear M;go_wp2_with fail;go_quiet (fail);obtain⟨wq,bP,eo,dM⟩:=lU aH hB nq;rw[<-dM];clear dM;go_wp2_with fail;refine wQ0 3 ?_;iterate 2 (rw[wZ9];go_wp2_with fail)
                   go_ret2;exact oM eo (Pl.oL s p hp r HR (HST)) rfl
                 . by_cases d2':191<((s[p+2]'h2).toNat:Int)
                   . have M:bB (eO s (p+2))=false:=(by rw[e2.out];simp[bB];omega);have HST:=af (yY s p hp _ _ _ L.out (by decide) (by decide) M);clear M;go_wp2_with fail;go_quiet (fail);obtain⟨wq,bP,eo,dM⟩:=lU aH hB nq;rw[<-dM];clear dM;go_wp2_with fail;refine wQ0 3 ?_;iterate 2 (rw[wZ9];go_wp2_with fail)
                     go_ret2;exact oM eo (Pl.oL s p hp r HR (HST)) rfl
                   . have m2:bB (eO s (p+2))=true:=(by rw[e2.out];simp[bB];omega);have M2:=af m2;clear m2;by_cases f1:(((((s[p]'hp).toNat:Int) - 224)*64+((s[p+1]'h1).toNat:Int) - 128)*64+((s[p+2]'h2).toNat:Int) - 128)<2048
                     . have hst:bT (ig s p)=none:=by
                        rw[Ri s p hp _ _ L.out (by omega) M1.out M2.out,e0.out,e1.out,e2.out,zZ0];rw[BJ];simp only[wZ2];omega
                       have HST:=af hst;clear hst;go_wp2_with fail;go_quiet (fail);obtain⟨wq,bP,eo,dM⟩:=lU aH hB nq;rw[<-dM];clear dM;go_wp2_with fail;refine wQ0 3 ?_;iterate 3 (rw[wZ9];go_wp2_with fail)
                       go_ret2;exact oM eo (Pl.oL s p hp r HR (HST)) rfl
                     . by_cases f2:55296<=(((((s[p]'hp).toNat:Int) - 224)*64+((s[p+1]'h1).toNat:Int) - 128)*64+((s[p+2]'h2).toNat:Int) - 128)
                       . by_cases f3:(((((s[p]'hp).toNat:Int) - 224)*64+((s[p+1]'h1).toNat:Int) - 128)*64+((s[p+2]'h2).toNat:Int) - 128)<=57343
                         . have f4:¬1114111<(((((s[p]'hp).toNat:Int) - 224)*64+((s[p+1]'h1).toNat:Int) - 128)*64+((s[p+2]'h2).toNat:Int) - 128):=(by omega);have hst:bT (ig s p)=none:=by
                            rw[Ri s p hp _ _ L.out (by omega) M1.out M2.out,e0.out,e1.out,e2.out,zZ0];rw[BJ];simp only[wZ2];omega
                           have HST:=af hst;clear hst;go_wp2_with fail;go_quiet (fail);obtain⟨wq,bP,eo,dM⟩:=lU aH hB nq;rw[<-dM];clear dM;go_wp2_with fail;refine wQ0 3 ?_;iterate 3 (rw[wZ9];go_wp2_with fail)
                           go_ret2;exact oM eo (Pl.oL s p hp r HR (HST)) rfl
                         . have f4:¬1114111<(((((s[p]'hp).toNat:Int) - 224)*64+((s[p+1]'h1).toNat:Int) - 128)*64+((s[p+2]'h2).toNat:Int) - 128):=(by omega);have hst:bT (ig s p)=some (((((s[p]'hp).toNat - 224)*64+(s[p+1]'h1).toNat - 128)*64+(s[p+2]'h2).toNat - 128),3):=by
                            rw[Ri s p hp _ _ L.out (by omega) M1.out M2.out,e0.out,e1.out,e2.out,zZ1];rw[BJ];simp only[wZ2];omega
                           have HST:=af hst;clear hst;go_wp2_with fail;go_quiet (fail);obtain⟨wq,bP,eo,dM⟩:=lU aH hB nq;rw[<-dM];clear dM;go_wp2_with fail;refine wQ0 3 ?_;iterate 2 (rw[wZ9];go_wp2_with fail)
                           rw[wZ9];go_wp2_with (at_builtin;go_loud (refine wpList_append_own _ rfl _ _ 153 rfl w.heap.size 3 i0 (.int .i64 0) 1 8 underlying153 hi hz0 hz1 hz2 rfl (by decide) _ _ _ rfl (bP.alloc _) ⟨wq.heap.size,0,none⟩ 1 1 [.int .i64 ((((((s[p]'hp).toNat:Int) - 224)*64+((s[p+1]'h1).toNat:Int) - 128)*64+((s[p+2]'h2).toNat:Int) - 128))] rfl rfl (cell_one_new _ _ _) (ints_oneCell .i64 [((((((s[p]'hp).toNat:Int) - 224)*64+((s[p+1]'h1).toNat:Int) - 128)*64+((s[p+2]'h2).toNat:Int) - 128))]) (by unfold maxLen;omega) (by omega) (by have:=eo.size;simp;omega) ?_);intro v' w1 hown1 jc uN);obtain⟨g1,g2,g3⟩:=MT s p hp r HR (((((s[p]'hp).toNat - 224)*64+(s[p+1]'h1).toNat - 128)*64+(s[p+2]'h2).toNat - 128)) 3 (HST);have CZ:Below w.heap.size w w1:=(eo.alloc eo.size _).grown jc (by have:=eo.size;simp;omega) (fun j hj=>(bP.lt j hj).1);have hce:((((((s[p]'hp).toNat:Int) - 224)*64+((s[p+1]'h1).toNat:Int) - 128)*64+((s[p+2]'h2).toNat:Int) - 128):Int)=((((((s[p]'hp).toNat - 224)*64+(s[p+1]'h1).toNat - 128)*64+(s[p+2]'h2).toNat - 128):Nat):Int):=(by omega);have HO:=af hown1;clear hown1;have Iu:=af hce;clear hce;go_wp2;go_roundw;case rel=>exact⟨p+3,r++[((((s[p]'hp).toNat - 224)*64+(s[p+1]'h1).toNat - 128)*64+(s[p+2]'h2).toNat - 128)],by go_num,g2,by have:=HO.out;rw[Iu.out]at this;simpa using this,CZ,g1,by simp;omega⟩
                           case measure=>simp[intOf];omega
                       . have f4:¬1114111<(((((s[p]'hp).toNat:Int) - 224)*64+((s[p+1]'h1).toNat:Int) - 128)*64+((s[p+2]'h2).toNat:Int) - 128):=(by omega);have hst:bT (ig s p)=some (((((s[p]'hp).toNat - 224)*64+(s[p+1]'h1).toNat - 128)*64+(s[p+2]'h2).toNat - 128),3):=by
                          rw[Ri s p hp _ _ L.out (by omega) M1.out M2.out,e0.out,e1.out,e2.out,zZ1];rw[BJ];simp only[wZ2];omega
                         have HST:=af hst;clear hst;go_wp2_with fail;go_quiet (fail);obtain⟨wq,bP,eo,dM⟩:=lU aH hB nq;rw[<-dM];clear dM;go_wp2_with fail;refine wQ0 3 ?_;iterate 2 (rw[wZ9];go_wp2_with fail)
                         rw[wZ9];go_wp2_with (at_builtin;go_loud (refine wpList_append_own _ rfl _ _ 153 rfl w.heap.size 3 i0 (.int .i64 0) 1 8 underlying153 hi hz0 hz1 hz2 rfl (by decide) _ _ _ rfl (bP.alloc _) ⟨wq.heap.size,0,none⟩ 1 1 [.int .i64 ((((((s[p]'hp).toNat:Int) - 224)*64+((s[p+1]'h1).toNat:Int) - 128)*64+((s[p+2]'h2).toNat:Int) - 128))] rfl rfl (cell_one_new _ _ _) (ints_oneCell .i64 [((((((s[p]'hp).toNat:Int) - 224)*64+((s[p+1]'h1).toNat:Int) - 128)*64+((s[p+2]'h2).toNat:Int) - 128))]) (by unfold maxLen;omega) (by omega) (by have:=eo.size;simp;omega) ?_);intro v' w1 hown1 jc uN);obtain⟨g1,g2,g3⟩:=MT s p hp r HR (((((s[p]'hp).toNat - 224)*64+(s[p+1]'h1).toNat - 128)*64+(s[p+2]'h2).toNat - 128)) 3 (HST);have CZ:Below w.heap.size w w1:=(eo.alloc eo.size _).grown jc (by have:=eo.size;simp;omega) (fun j hj=>(bP.lt j hj).1);have hce:((((((s[p]'hp).toNat:Int) - 224)*64+((s[p+1]'h1).toNat:Int) - 128)*64+((s[p+2]'h2).toNat:Int) - 128):Int)=((((((s[p]'hp).toNat - 224)*64+(s[p+1]'h1).toNat - 128)*64+(s[p+2]'h2).toNat - 128):Nat):Int):=(by omega);have HO:=af hown1;clear hown1;have Iu:=af hce;clear hce;go_wp2;go_roundw;case rel=>exact⟨p+3,r++[((((s[p]'hp).toNat - 224)*64+(s[p+1]'h1).toNat - 128)*64+(s[p+2]'h2).toNat - 128)],by go_num,g2,by have:=HO.out;rw[Iu.out]at this;simpa using this,CZ,g1,by simp;omega⟩
                         case measure=>simp[intOf];omega
         . by_cases c5:((s[p]'hp).toNat:Int)<248
           . have c4a:240<=((s[p]'hp).toNat:Int):=(by omega);have c4b:((s[p]'hp).toNat:Int)<248:=(by omega);have L:=af (MQ _ (show 240<=eO s p by rw[e0.out];omega) (show eO s p<248 by rw[e0.out];omega));by_cases sh:s.size - p<4
             . have q:((s.size:Int) - (p:Int)<4):=(by omega);have HST:=af (UF s p hp _ _ _ L.out (by omega));go_wp2_with fail;go_quiet (fail);obtain⟨wq,bP,eo,dM⟩:=lU aH hB nq;rw[<-dM];clear dM;go_wp2_with fail;go_ret2;exact oM eo (Pl.oL s p hp r HR (HST)) rfl
             . have q:decide ((s.size:Int) - (p:Int)<4)=false:=(by simp;omega);have h1:p+1<s.size:=(by omega);have yH:(p:Int)+1<(s.size:Int):=(by omega);have hb1:=yQ0 (s[p+1]'h1);have e1:=af (Ir s (p+1) h1);by_cases d1:((s[p+1]'h1).toNat:Int)<128
               . have M:bB (eO s (p+1))=false:=(by rw[e1.out];simp[bB];omega);have HST:=af (rA s p hp _ _ _ L.out (by decide) M);clear M;go_wp2_with fail;go_quiet (fail);obtain⟨wq,bP,eo,dM⟩:=lU aH hB nq;rw[<-dM];clear dM;go_wp2_with fail;refine wQ0 2 ?_;rw[wZ9];go_wp2_with fail;go_ret2;exact oM eo (Pl.oL s p hp r HR (HST)) rfl
               . by_cases ZV:191<((s[p+1]'h1).toNat:Int)
                 . have M:bB (eO s (p+1))=false:=(by rw[e1.out];simp[bB];omega);have HST:=af (rA s p hp _ _ _ L.out (by decide) M);clear M;go_wp2_with fail;go_quiet (fail);obtain⟨wq,bP,eo,dM⟩:=lU aH hB nq;rw[<-dM];clear dM;go_wp2_with fail;refine wQ0 2 ?_;rw[wZ9];go_wp2_with fail;go_ret2;exact oM eo (Pl.oL s p hp r HR (HST)) rfl
                 . have m1:bB (eO s (p+1))=true:=(by rw[e1.out];simp[bB];omega);have M1:=af m1;clear m1;have h2:p+2<s.size:=(by omega);have Rj:(p:Int)+2<(s.size:Int):=(by omega);have hb2:=yQ0 (s[p+2]'h2);have e2:=af (Ir s (p+2) h2);by_cases d2:((s[p+2]'h2).toNat:Int)<128
                   . have M:bB (eO s (p+2))=false:=(by rw[e2.out];simp[bB];omega);have HST:=af (yY s p hp _ _ _ L.out (by decide) (by decide) M);clear M;go_wp2_with fail;go_quiet (fail);obtain⟨wq,bP,eo,dM⟩:=lU aH hB nq;rw[<-dM];clear dM;go_wp2_with fail;refine wQ0 3 ?_;iterate 2 (rw[wZ9];go_wp2_with fail)
                     go_ret2;exact oM eo (Pl.oL s p hp r HR (HST)) rfl
                   . by_cases d2':191<((s[p+2]'h2).toNat:Int)
                     . have M:bB (eO s (p+2))=false:=(by rw[e2.out];simp[bB];omega);have HST:=af (yY s p hp _ _ _ L.out (by decide) (by decide) M);clear M;go_wp2_with fail;go_quiet (fail);obtain⟨wq,bP,eo,dM⟩:=lU aH hB nq;rw[<-dM];clear dM;go_wp2_with fail;refine wQ0 3 ?_;iterate 2 (rw[wZ9];go_wp2_with fail)
                       go_ret2;exact oM eo (Pl.oL s p hp r HR (HST)) rfl
                     . have m2:bB (eO s (p+2))=true:=(by rw[e2.out];simp[bB];omega);have M2:=af m2;clear m2;have h3:p+3<s.size:=(by omega);have UH:(p:Int)+3<(s.size:Int):=(by omega);have hb3:=yQ0 (s[p+3]'h3);have e3:=af (Ir s (p+3) h3);by_cases d3:((s[p+3]'h3).toNat:Int)<128
                       . have M:bB (eO s (p+3))=false:=(by rw[e3.out];simp[bB];omega);have HST:=af (MS s p hp _ _ L.out M);clear M;go_wp2_with fail;go_quiet (fail);obtain⟨wq,bP,eo,dM⟩:=lU aH hB nq;rw[<-dM];clear dM;go_wp2_with fail;refine wQ0 4 ?_;iterate 3 (rw[wZ9];go_wp2_with fail)
                         go_ret2;exact oM eo (Pl.oL s p hp r HR (HST)) rfl
                       . by_cases d3':191<((s[p+3]'h3).toNat:Int)
                         . have M:bB (eO s (p+3))=false:=(by rw[e3.out];simp[bB];omega);have HST:=af (MS s p hp _ _ L.out M);clear M;go_wp2_with fail;go_quiet (fail);obtain⟨wq,bP,eo,dM⟩:=lU aH hB nq;rw[<-dM];clear dM;go_wp2_with fail;refine wQ0 4 ?_;iterate 3 (rw[wZ9];go_wp2_with fail)
                           go_ret2;exact oM eo (Pl.oL s p hp r HR (HST)) rfl
                         . have m3:bB (eO s (p+3))=true:=(by rw[e3.out];simp[bB];omega);have M3:=af m3;clear m3;by_cases f1:((((((s[p]'hp).toNat:Int) - 240)*64+((s[p+1]'h1).toNat:Int) - 128)*64+((s[p+2]'h2).toNat:Int) - 128)*64+((s[p+3]'h3).toNat:Int) - 128)<65536
                           . have hst:bT (ig s p)=none:=by
                              rw[UG s p hp _ _ L.out (by omega) M1.out M2.out M3.out,e0.out,e1.out,e2.out,e3.out,zZ0];rw[BJ];simp only[wZ2];omega
                             have HST:=af hst;clear hst;go_wp2_with fail;go_quiet (fail);obtain⟨wq,bP,eo,dM⟩:=lU aH hB nq;rw[<-dM];clear dM;go_wp2_with fail;refine wQ0 4 ?_;iterate 4 (rw[wZ9];go_wp2_with fail)
                             go_ret2;exact oM eo (Pl.oL s p hp r HR (HST)) rfl
                           . by_cases f2:1114111<((((((s[p]'hp).toNat:Int) - 240)*64+((s[p+1]'h1).toNat:Int) - 128)*64+((s[p+2]'h2).toNat:Int) - 128)*64+((s[p+3]'h3).toNat:Int) - 128)
                             . have hst:bT (ig s p)=none:=by
                                rw[UG s p hp _ _ L.out (by omega) M1.out M2.out M3.out,e0.out,e1.out,e2.out,e3.out,zZ0];rw[BJ];simp only[wZ2];omega
                               have HST:=af hst;clear hst;go_wp2_with fail;go_quiet (fail);obtain⟨wq,bP,eo,dM⟩:=lU aH hB nq;rw[<-dM];clear dM;go_wp2_with fail;refine wQ0 4 ?_;iterate 4 (rw[wZ9];go_wp2_with fail)
                               go_ret2;exact oM eo (Pl.oL s p hp r HR (HST)) rfl
                             . have f3:55296<=((((((s[p]'hp).toNat:Int) - 240)*64+((s[p+1]'h1).toNat:Int) - 128)*64+((s[p+2]'h2).toNat:Int) - 128)*64+((s[p+3]'h3).toNat:Int) - 128):=(by omega);have f4:¬((((((s[p]'hp).toNat:Int) - 240)*64+((s[p+1]'h1).toNat:Int) - 128)*64+((s[p+2]'h2).toNat:Int) - 128)*64+((s[p+3]'h3).toNat:Int) - 128)<=57343:=(by omega);have hst:bT (ig s p)=some ((((((s[p]'hp).toNat - 240)*64+(s[p+1]'h1).toNat - 128)*64+(s[p+2]'h2).toNat - 128)*64+(s[p+3]'h3).toNat - 128),4):=by
                                rw[UG s p hp _ _ L.out (by omega) M1.out M2.out M3.out,e0.out,e1.out,e2.out,e3.out,zZ1];rw[BJ];simp only[wZ2];omega
                               have HST:=af hst;clear hst;go_wp2_with fail;go_quiet (fail);obtain⟨wq,bP,eo,dM⟩:=lU aH hB nq;rw[<-dM];clear dM;go_wp2_with fail;refine wQ0 4 ?_;iterate 3 (rw[wZ9];go_wp2_with fail)
                               rw[wZ9];go_wp2_with (at_builtin;go_loud (refine wpList_append_own _ rfl _ _ 153 rfl w.heap.size 3 i0 (.int .i64 0) 1 8 underlying153 hi hz0 hz1 hz2 rfl (by decide) _ _ _ rfl (bP.alloc _) ⟨wq.heap.size,0,none⟩ 1 1 [.int .i64 (((((((s[p]'hp).toNat:Int) - 240)*64+((s[p+1]'h1).toNat:Int) - 128)*64+((s[p+2]'h2).toNat:Int) - 128)*64+((s[p+3]'h3).toNat:Int) - 128))] rfl rfl (cell_one_new _ _ _) (ints_oneCell .i64 [(((((((s[p]'hp).toNat:Int) - 240)*64+((s[p+1]'h1).toNat:Int) - 128)*64+((s[p+2]'h2).toNat:Int) - 128)*64+((s[p+3]'h3).toNat:Int) - 128))]) (by unfold maxLen;omega) (by omega) (by have:=eo.size;simp;omega) ?_);intro v' w1 hown1 jc uN);obtain⟨g1,g2,g3⟩:=MT s p hp r HR ((((((s[p]'hp).toNat - 240)*64+(s[p+1]'h1).toNat - 128)*64+(s[p+2]'h2).toNat - 128)*64+(s[p+3]'h3).toNat - 128)) 4 (HST);have CZ:Below w.heap.size w w1:=(eo.alloc eo.size _).grown jc (by have:=eo.size;simp;omega) (fun j hj=>(bP.lt j hj).1);have hce:(((((((s[p]'hp).toNat:Int) - 240)*64+((s[p+1]'h1).toNat:Int) - 128)*64+((s[p+2]'h2).toNat:Int) - 128)*64+((s[p+3]'h3).toNat:Int) - 128):Int)=(((((((s[p]'hp).toNat - 240)*64+(s[p+1]'h1).toNat - 128)*64+(s[p+2]'h2).toNat - 128)*64+(s[p+3]'h3).toNat - 128):Nat):Int):=(by omega);have HO:=af hown1;clear hown1;have Iu:=af hce;clear hce;go_wp2;go_roundw;case rel=>exact⟨p+4,r++[(((((s[p]'hp).toNat - 240)*64+(s[p+1]'h1).toNat - 128)*64+(s[p+2]'h2).toNat - 128)*64+(s[p+3]'h3).toNat - 128)],by go_num,g2,by have:=HO.out;rw[Iu.out]at this;simpa using this,CZ,g1,by simp;omega⟩
                               case measure=>simp[intOf];omega
           . have HST:=af (yX s p hp (FT _ (by rw[e0.out];omega)));go_wp2_with fail;go_quiet (fail);obtain⟨wq,bP,eo,dM⟩:=lU aH hB nq;rw[<-dM];clear dM;go_wp2_with fail;go_ret2;exact oM eo (Pl.oL s p hp r HR (HST)) rfl
 . have HD:=af (z5Q s p hp r HR);go_wp2;go_ret2;exact⟨hB,.inr ⟨r,_,HD,rfl,aH⟩⟩
theorem yZ {w:World}{base:Nat}{v:Value}{l:List Nat}(h:w.ownsRow base 3 1 v l.length (l.map fun c=>Value.int .i64 (c:Nat)))(hl:l≠[]):
    ∃g cap,v=.slice (some ⟨g,0,none⟩) l.length cap/\∀i,i<l.length->w.cell? ⟨g,i,none⟩=some (.int .i64 (l.getD i 0:Nat)):=by
 rcases h.2 with⟨_,h0⟩ | ⟨g,cap,cur,rfl,_,hg,_,_,_,ht⟩
 . exact absurd (zX2 h0) hl
 . refine⟨g,cap,rfl,fun i hi=>?_⟩;rw[wQ1 _ _ _ _ _ _ hg];have:(cur.toList.take (l.length*1))[i]? =some (.int .i64 (l.getD i 0:Nat)):=(by rw[ht];simp[hi]);rw[zX5]at this;split at this
   . simpa using this
   . cases this
theorem za (s:ByteArray)(w:World)(hs:s.size<=16777216):
    Calls prog 92 #[.string s] w fun e w'=>e=.returned (.int .i64 (Pl.aT s:Nat))/\ae w w':=by
 go_in;go_wp2_with fail;refine(ZU s _ hs).mono ?_;rintro e w1 ⟨hg,⟨hr,rfl⟩ | ⟨l,v,hr,rfl,aH⟩⟩
 . have hk:Pl.aT s=6:=(by unfold Pl.aT;rw[hr]);have HK:=af hk;clear hk hr;go_wp2;go_ret;exact⟨jl (by rw[HK.out];rfl),hg⟩
 . have hk:Pl.aT s=kZ l:=(by unfold Pl.aT;rw[hr]);have hl:=Hc _ _ l (zZ3 _) hr;have hl2:l.length<=s.size:=(by simpa using hl);have HK:=af hk;clear hk hr hl;by_cases l0:l=[]
   . subst l0;have e2:=HK.out;have hv:∃a cap,v=.slice a 0 cap:=by
      rcases aH.2 with⟨rfl,_⟩ | ⟨g,cap,cur,rfl,_⟩
      . exact⟨_,_,rfl⟩
      . exact⟨_,_,rfl⟩
     obtain⟨a,cap,rfl⟩:=hv;clear e2 aH;go_wp2;go_ret;exact⟨jl (by rw[HK.out];rfl),hg⟩
   . have lp:0<l.length:=xQ3.2 l0;obtain⟨g,cap,rfl,hc⟩:=yZ aH l0;have b0:((l.length:Int)==0)=false:=wZ3.2 (by omega);clear aH;have HC:=af hc;clear hc l0;by_cases L4:24<l.length
     . have hk2:kZ l=3:=(by unfold kZ;rw[zZ0 (by omega),zZ1 L4]);have vG:=af hk2;clear hk2;go_wp2;go_ret;exact⟨jl (by rw[HK.out,vG.out];rfl),hg⟩
     . have hk2:kZ l=if l.any lG then 7 else 0:=by unfold kZ;rw[zZ0 (by omega),zZ0 L4]
       have vG:=af hk2;have b2:decide ((24:Int)<(l.length:Int))=false:=(by simp;omega);clear hk2;go_wp2;go_loop [6,25] (fun _ i=>∃n:Nat,i=.int .i64 n/\n<=l.length/\Hid ((l.drop n).any lG=l.any lG)) (fun _ i=>l.length - (intOf i).toNat);exact⟨0,rfl,zZ5 _,rfl⟩;obtain⟨n,rfl,hn,HN⟩:=hrel;by_cases az:n<l.length
       . have hcell:=HC n az;have hst:(l.drop n).any lG=(lG (l.getD n 0) || (l.drop (n+1)).any lG):=by
          rw[yK5 az,List.any_cons,yX1,zQ5 az];rfl
         obtain⟨c,hcc⟩:∃c,c=l.getD n 0:=⟨_,rfl⟩
         rw[<-hcc]at hcell hst;have HS:=af hst;clear hst hcc;by_cases q1:(c:Int)<32
         . have hb:l.any lG=true:=by
            have g3:lG c=true:=(by simp[lG];omega);rw[<-HN.out,HS.out,g3];rfl
           have HB:=af hb;clear hb;go_wp2;go_ret;exact⟨jl (by rw[HK.out,vG.out,zZ1 HB.out];rfl),hg⟩
         . by_cases q2:c=127
           . have hb:l.any lG=true:=by
              have g3:lG c=true:=(by simp[lG,q2]);rw[<-HN.out,HS.out,g3];rfl
             have HB:=af hb;clear hb;have q3:((c:Int)==127)=true:=beq_iff_eq.2 (by omega);clear q2;go_wp2;go_ret;exact⟨jl (by rw[HK.out,vG.out,zZ1 HB.out];rfl),hg⟩
           . have hb:(l.drop (n+1)).any lG=l.any lG:=by
              have g3:lG c=false:=(by simp[lG];omega);rw[<-HN.out,HS.out,g3];rfl
             have HB:=af hb;clear hb;have q3:((c:Int)==127)=false:=wZ3.2 (by omega);clear q2;go_wp2;go_round;case rel=>exact⟨n+1,by go_num,by omega,HB⟩
             case measure=>simp[intOf];omega
       . have hb:l.any lG=false:=(by rw[<-HN.out,yZ9 (by omega)];rfl);have HB:=af hb;clear hb;go_wp2;go_ret;exact⟨jl (by rw[HK.out,vG.out,HB.out];rfl),hg⟩
namespace Pl
def fJ (lo hi:ByteArray):Bool:=eG lo && eG hi && (bm hi || Op.bytesLess lo.toList hi.toList)
def fN (lo hi key:ByteArray):Bool:=fJ lo hi && isKey key && !Op.bytesLess key.toList lo.toList && (bm hi || Op.bytesLess key.toList hi.toList)
end Pl
theorem ZW (s:ByteArray)(h:Pl.isKey s=true):((Pl.aT s:Nat):Int)=0:=by
 unfold Pl.isKey at h;rw[wQ3 h];rfl
theorem Iw (s:ByteArray)(w:World)(hs:s.size<=16777216):
    Calls prog 129 #[.string s] w fun e w'=>e=.returned (.bool (eG s))/\ae w w':=by
 cases he:s.toList.isEmpty with
 | true=>
  have e:eG s=true:=by unfold eG bm;rw[he];rfl
  have e2:s.toList=[]:=by simpa using he
  have HE:=af e;clear e;go_in;go_wp2;go_ret;exact⟨bS HE.symm,ae.rf _⟩
 | false=>
  have e2:(!s.toList.isEmpty)=true:=by rw[he];rfl
  have e3:¬s.toList=[]:=by simpa using he
  have e:eG s=(((Pl.aT s:Nat):Int)==0):=by
   unfold eG bm Pl.isKey;rw[he,yZ4,zK4];simp
  have HE:=af e;clear e;go_in;go_wp2_with (go_at_call 92;refine(za s _ hs).mono ?_;rintro e w' ⟨rfl,hg⟩);go_ret;exact⟨bS HE.symm,by assumption⟩
theorem lV (lo hi:ByteArray)(w:World)(hl:lo.size<=16777216)(hh:hi.size<=16777216):
    Calls prog 91 #[.agg #[.string lo,.string hi]] w fun e w'=>e=.returned (.bool (Pl.fJ lo hi))/\ae w w':=by
 cases h1:eG lo with
 | false=>
  have hr:Pl.fJ lo hi=false:=by unfold Pl.fJ;rw[h1];rfl
  have HR:=af hr;clear hr;go_in;go_wp2_with fail;refine(Iw lo _ hl).mono ?_;rintro e w1 ⟨rfl,hg⟩;go_wp2_with fail;go_ret;exact⟨bS HR.symm,((ae.rf w).alloc _).trans hg⟩
 | true=>
  cases h2:eG hi with
  | false=>
   have hr:Pl.fJ lo hi=false:=(by unfold Pl.fJ;rw[h1,h2];rfl);have HR:=af hr;clear hr;go_in;go_wp2_with fail;refine(Iw lo _ hl).mono ?_;rintro e w1 ⟨rfl,hg⟩;have hG:ae w w1:=hg.jy;obtain⟨hc,_⟩:=hg.cells;go_wp2_with fail;refine(Iw hi _ hh).mono ?_;rintro e w2 ⟨rfl,aP⟩;go_wp2_with fail;go_ret;exact⟨bS HR.symm,hG.trans aP⟩
  | true=>
   cases h3:hi.toList.isEmpty with
   | true=>
    have hr:Pl.fJ lo hi=true:=(by unfold Pl.fJ bm;rw[h1,h2,h3];rfl);have h4:hi.toList=[]:=(by simpa using h3);have HR:=af hr;clear hr;go_in;go_wp2_with fail;refine(Iw lo _ hl).mono ?_;rintro e w1 ⟨rfl,hg⟩;have hG:ae w w1:=hg.jy;have hz:w.heap.size<w1.heap.size:=(by have:=hg.size;simp at this;omega);obtain⟨hc,_⟩:=hg.cells;go_wp2_with fail;refine(Iw hi _ hh).mono ?_;rintro e w2 ⟨rfl,aP⟩;obtain⟨hc2,_⟩:=aP.cells;go_wp2_with fail;go_ret;exact⟨bS HR.symm,hG.trans aP⟩
   | false=>
    have hr:Pl.fJ lo hi=Op.bytesLess lo.toList hi.toList:=(by unfold Pl.fJ bm;rw[h1,h2,h3];rfl);have h4:¬hi.toList=[]:=(by simpa using h3);have h5:(!hi.toList.isEmpty)=true:=(by rw[h3];rfl);have HR:=af hr;clear hr;go_in;go_wp2_with fail;refine(Iw lo _ hl).mono ?_;rintro e w1 ⟨rfl,hg⟩;have hG:ae w w1:=hg.jy;have hz:w.heap.size<w1.heap.size:=(by have:=hg.size;simp at this;omega);obtain⟨hc,_⟩:=hg.cells;go_wp2_with fail;refine(Iw hi _ hh).mono ?_;rintro e w2 ⟨rfl,aP⟩;obtain⟨hc2,_⟩:=aP.cells;go_wp2_with fail;go_ret;exact⟨bS HR.symm,hG.trans aP⟩
theorem KV (lo hi key:ByteArray)(w:World)(hl:lo.size<=16777216)(hh:hi.size<=16777216)(hk:key.size<=16777216):
    Calls prog 47 #[.agg #[.string lo,.string hi],.string key] w fun e w'=>e=.returned (.bool (Pl.fN lo hi key))/\ae w w':=by
 cases h1:Pl.fJ lo hi with
 | false=>
  have hr:Pl.fN lo hi key=false:=by unfold Pl.fN;rw[h1];rfl
  have HR:=af hr;clear hr;go_in;go_wp2_with fail;refine(lV lo hi _ hl hh).mono ?_;rintro e w1 ⟨rfl,hg⟩;go_wp2_with fail;go_ret;exact⟨bS HR.symm,((ae.rf w).alloc _).trans hg⟩
 | true=>
  cases h2:Pl.isKey key with
  | false=>
   have hr:Pl.fN lo hi key=false:=(by unfold Pl.fN;rw[h1,h2];rfl);have HR:=af hr;have qN:(((Pl.aT key:Nat):Int)==0)=false:=(by rw[wZ3];have:=of_decide_eq_false h2;omega);clear hr;go_in;go_wp2_with fail;refine(lV lo hi _ hl hh).mono ?_;rintro e w1 ⟨rfl,hg⟩;go_wp2_with fail;refine(za key _ hk).mono ?_;rintro e w2 ⟨rfl,aP⟩;go_wp2_with fail;go_ret;exact⟨bS HR.symm,((ae.rf w).alloc _).trans (hg.trans aP)⟩
  | true=>
   have HK:=af (ZW key h2);cases h3:Op.bytesLess key.toList lo.toList with
   | true=>
    have hr:Pl.fN lo hi key=false:=(by unfold Pl.fN;rw[h1,h2,h3];rfl);have HR:=af hr;clear hr;go_in;go_wp2_with fail;refine(lV lo hi _ hl hh).mono ?_;rintro e w1 ⟨rfl,hg⟩;have hz:w.heap.size<w1.heap.size:=(by have:=hg.size;simp at this;omega);obtain⟨hc,_⟩:=hg.cells;go_wp2_with fail;refine(za key _ hk).mono ?_;rw[HK.out];rintro e w2 ⟨rfl,aP⟩;obtain⟨hc2,_⟩:=aP.cells;go_wp2_with fail;go_ret;exact⟨bS HR.symm,((ae.rf w).alloc _).trans (hg.trans aP)⟩
   | false=>
    cases h4:hi.toList.isEmpty with
    | true=>
     have hr:Pl.fN lo hi key=true:=(by unfold Pl.fN bm;rw[h1,h2,h3,h4];rfl);have h5:hi.toList=[]:=(by simpa using h4);have HR:=af hr;clear hr;go_in;go_wp2_with fail;refine(lV lo hi _ hl hh).mono ?_;rintro e w1 ⟨rfl,hg⟩;have hz:w.heap.size<w1.heap.size:=(by have:=hg.size;simp at this;omega);obtain⟨hc,_⟩:=hg.cells;go_wp2_with fail;refine(za key _ hk).mono ?_;rw[HK.out];rintro e w2 ⟨rfl,aP⟩;obtain⟨hc2,_⟩:=aP.cells;go_wp2_with fail;go_ret;exact⟨bS HR.symm,((ae.rf w).alloc _).trans (hg.trans aP)⟩
    | false=>
     have hr:Pl.fN lo hi key=Op.bytesLess key.toList hi.toList:=(by unfold Pl.fN bm;rw[h1,h2,h3,h4];rfl);have h5:¬hi.toList=[]:=(by simpa using h4);have h6:(!hi.toList.isEmpty)=true:=(by rw[h4];rfl);have HR:=af hr;clear hr;go_in;go_wp2_with fail;refine(lV lo hi _ hl hh).mono ?_;rintro e w1 ⟨rfl,hg⟩;have hz:w.heap.size<w1.heap.size:=(by have:=hg.size;simp at this;omega);obtain⟨hc,_⟩:=hg.cells;go_wp2_with fail;refine(za key _ hk).mono ?_;rw[HK.out];rintro e w2 ⟨rfl,aP⟩;obtain⟨hc2,_⟩:=aP.cells;go_wp2_with fail;go_ret;exact⟨bS HR.symm,((ae.rf w).alloc _).trans (hg.trans aP)⟩
end Go.Proofs.YtgegogoanbamfaaGreatDoor
namespace Go.Proofs.YtgegogoanbamfaaGreatDoor.Pl
theorem ze:∀(x y:List Nat),(ij x y<0)=(Fg x y=true)
 | [],[]=>by simp[ij,Fg]
 | [],_::_=>by simp[ij,Fg]
 | _::_,[]=>by simp[ij,Fg]
 | a::x,b::y=>by
  unfold ij Fg;by_cases h1:a<b
  . simp[h1]
  . by_cases h2:b<a
    . have:a≠b:=(by omega);simp[h1,h2,this]
    . have:a=b:=(by omega);subst this;simp[ze x y]
theorem ZX (s:ByteArray)(h:isKey s=true):∃l,bJ s.data.toList=some l:=by
 unfold isKey aT at h;cases hr:bJ s.data.toList with
 | none=>rw[hr]at h;simp at h
 | some l=>exact⟨l,rfl⟩
theorem z1u (s:ByteArray)(h:bm s=true):bJ s.data.toList=some []:=by
 unfold bm at h;rw[yZ5]at h;have:s.data.toList=[]:=List.isEmpty_iff.1 h;rw[this];rfl
theorem UI (s:ByteArray)(h:eG s=true):∃l,bJ s.data.toList=some l:=by
 unfold eG at h;rw[yZ0]at h;rcases h with h | h
 . exact⟨_,z1u s h⟩
 . exact ZX s h
theorem MU (a b:ByteArray)(ha:∃l,bJ a.data.toList=some l)(hb:∃l,bJ b.data.toList=some l):decide (cU a b<0)=Op.bytesLess a.toList b.toList:=by
 obtain⟨x,hx⟩:=ha;obtain⟨y,hy⟩:=hb;have e:cU a b=ij x y:=by unfold cU;rw[hx,hy]
 rw[e,yZ5,yZ5,z4I _ _ _ x y (zZ3 _) hx hy,zK4,decide_eq_true_iff,ze]
theorem z3x (a b:ByteArray)(ha:∃l,bJ a.data.toList=some l)(hb:∃l,bJ b.data.toList=some l):decide (0<=cU a b)=!Op.bytesLess a.toList b.toList:=by
 rw[<-MU a b ha hb,zK4];simp
theorem ZY (a b:ByteArray)(ha:∃l,bJ a.data.toList=some l)(hb:eG b=true):dv a b=(bm b || Op.bytesLess a.toList b.toList):=by
 unfold dv;rw[MU a b ha (UI b hb)]
theorem B4 (lo hi:ByteArray):fJ lo hi=bD lo hi:=by
 unfold fJ bD;cases h1:eG lo with
 | false=>rfl
 | true=>
  cases h2:eG hi with
  | false=>rfl
  | true=>rw[ZY lo hi (UI lo h1) h2]
theorem z1i (lo hi:ByteArray)(h:bD lo hi=true):eG lo=true/\eG hi=true:=by
 unfold bD at h;rw[zZ7,zZ7]at h;exact h.1
theorem Rk (lo hi key:ByteArray):fN lo hi key=bk lo hi key:=by
 unfold fN bk;rw[B4];cases h1:bD lo hi with
 | false=>rfl
 | true=>
  obtain⟨e1,e2⟩:=z1i lo hi h1;cases h2:isKey key with
  | false=>rfl
  | true=>
   have hk:=ZX key h2;rw[ZY key hi hk e2,z3x key lo hk (UI lo e1)]
end Go.Proofs.YtgegogoanbamfaaGreatDoor.Pl
