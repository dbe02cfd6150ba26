/- Part 7. -/
import Derived.Test.YtgegogoanbamfaaGreatDoorFinAuditPlaysQ5
import Derived.Maps.RangeWalk
import Derived.Maps.GroupsBeside
import Derived.Sort.KeysCollected
import Derived.StringKeys
import Derived.Deep.Slices
import Derived.ChangeSame
import Derived.ProofKit
import Derived.OpenShut
import Derived.SizedLaws
import Derived.Test.YtgegogoanbamfaaGreatDoorCards
import Derived.Test.YtgegogoanbamfaaGreatDoorTie
import Derived.ShutString
import Derived.LaidMore
import Derived.Stop.Joined
import Derived.Lib.SmallJoins
set_option linter.unusedVariables false
set_option linter.unusedSectionVars false
set_option linter.unusedSimpArgs false
set_option maxRecDepth 100000
set_option maxHeartbeats 16000000
namespace Go.Proofs.YtgegogoanbamfaaGreatDoor
namespace Pl
end Pl
open Pl Go.Proofs.Tryz Go.RowKit Go.Maps
attribute [local go_sem] Oper.semAt_some
section
open Go.ChangeMaps Go.MapKept Go.WideShapes
open Go.WideElems (Fit rd rg pl rd_key rd_val rg_of other_key rd_mk)
section
variable {w:World}{P:Program}{k e t:TypeId}{b n r cnt:Nat}{f:Lit->Option Value}{left:Lit->Bool}
def qW (w:World)(P:Program)(k:TypeId)(b r n:Nat)(f:Lit->Option Value)(left:Lit->Bool)(cnt:Nat):Prop:=∃D,w.ranges P k raw b r n D left cnt/\∀l,gD D l=f l
theorem qW.aC {S:Nat->Prop}{w':World}(h:qW w P k b r n f left cnt)(g:ar S w w')(hb:¬S b)(hr:¬S r):qW w' P k b r n f left cnt:=by
 obtain⟨D,h,hf⟩:=h;have h1:=h.owns.lt;have h2:=h.lt;obtain⟨es,clock,cJ,cL,c0,hb',F,hs,hD,kA,rest⟩:=h;exact⟨D,⟨es,clock,cJ,cL,c0,(g.block b h1 hb).trans hb',F,hs,hD,(g.block r h2 hr).trans kA,rest⟩,hf⟩
theorem qW.ah {w':World}(h:qW w P k b r n f left cnt)(g:ae w w'):qW w' P k b r n f left cnt:=h.aC (g.only fun _=>False) (fun h=>h) (fun h=>h)
theorem qW.left_eq (h:qW w P k b r n f left cnt):w.rangeLeft b r=cnt:=by obtain⟨D,h,_⟩:=h;exact h.left_eq
theorem qW.lt (h:qW w P k b r n f left cnt):r<w.heap.size:=by obtain⟨D,h,_⟩:=h;exact h.lt
theorem y7y {ops:Array Oper}{rest:List Oper}{o:Oper}{a:Act}{Q:Exit->Act->World->Prop}(hg:o.guard=none)(m:Operand)(hop:o.op=Op.range t m)(K:Keyed P k)(ht:P.underlying t=some (.map k e))
    (hm:a.eval m=.map (some b)) (h:bU w P k b n f)
    (hK:∀w' left cnt,qW w' P k b w.heap.size n f left cnt->(∀l,left l=false->f l=none)->ae w w'->w'.heap.size=w.heap.size+1->wpList P ops Q rest (a.put o.dst (.pointer (some ⟨w.heap.size,0,none⟩))) w'):
    wpList P ops Q (o::rest) a w:=by
 obtain⟨D,h,hf⟩:=h;exact wpList_range_own w hg m t hop k e K ht raw b n D hm h fun w' h1 h2 h3=>hK w' _ _ ⟨D,h1,hf⟩ (fun l hl=>by rw[<-hf];unfold gD;rw[zZ0 (by rw[hl];simp)]) ((ar.ay h2).ah (fun j hj=>by cases hj)) h3
end
end
structure Ac where
 e:En
 at':Int
def En.zero:En:=⟨0,0,0,0,0,0,⟨#[]⟩,0,0,0,[],none,0,none,0,0⟩
def Ac.vals (a:Ac):List Value:=a.e.vals++[.int .i64 a.at']
instance:Inhabited Ac:=⟨⟨En.zero,0⟩⟩
def di (xs:List Ac)(j:Nat):Ac:=xs[j]?.getD default
theorem Lx (xs:List Ac)(i:Nat)(hi:i<xs.length):di xs i=xs[i]:=by unfold di;rw[zQ5 hi];rfl
structure pX (W:World)(a:Option Addr)(xs:List Ac):Prop where
 row:xs=[]\/∃b off,a=some ⟨b,off,none⟩/\b<W.heap.size/\∀j,j<xs.length->∀k v,(di xs j).vals[k]? =some v->W.cell? ⟨b,off+j*13+k,none⟩=some v
 ops:∀j,j<xs.length->vI W (di xs j).e.aN (di xs j).e.ops
theorem pX.ah {W W':World}{a:Option Addr}{xs:List Ac}(h:pX W a xs)(g:ae W W'):pX W' a xs:=by
 refine⟨?_,fun j hj=>(h.ops j hj).ah g⟩;rcases h.row with h0 | ⟨b,off,e,hb,hr⟩
 . exact .inl h0
 . exact .inr ⟨b,off,e,xA9 hb g.size,fun j hj k v hv=>(g.cells.1 _ _ hb).trans (hr j hj k v hv)⟩
theorem z2j {W:World}{b off:Nat}{a:Ac}(h:∀k v,a.vals[k]? =some v->W.cell? ⟨b,off+k,none⟩=some v):W.cell? ⟨b,off,none⟩=some (.int .i64 a.e.ax)/\W.cell? ⟨b,off+1,none⟩=some (.int .i64 a.e.aj)/\W.cell? ⟨b,off+2,none⟩=some (.int .i64 a.e.ak)/\W.cell? ⟨b,off+3,none⟩=some (.int .i64 a.e.aq)/\W.cell? ⟨b,off+4,none⟩=some (.int .i64 a.e.aw)/\W.cell? ⟨b,off+5,none⟩=some (.int .i64 a.e.seq)/\W.cell? ⟨b,off+6,none⟩=some (.slice a.e.aN a.e.ops.length a.e.aS)/\W.cell? ⟨b,off+7,none⟩=some (.string a.e.key)/\W.cell? ⟨b,off+8,none⟩=some (.int .i64 a.e.aM)/\W.cell? ⟨b,off+9,none⟩=some (.int .i64 a.e.aL)/\W.cell? ⟨b,off+10,none⟩=some (.int .i64 a.e.aA)/\W.cell? ⟨b,off+11,none⟩=some (.slice a.e.aF a.e.aB a.e.aG)/\W.cell? ⟨b,off+12,none⟩=some (.int .i64 a.at'):=
 ⟨h 0 _ rfl,h 1 _ rfl,h 2 _ rfl,h 3 _ rfl,h 4 _ rfl,h 5 _ rfl,h 6 _ rfl,h 7 _ rfl,h 8 _ rfl,h 9 _ rfl,h 10 _ rfl,h 11 _ rfl,h 12 _ rfl⟩
def cf.long (o:cf):Bool:=decide (300<o.key.size) || decide (300<o.val.size) || decide (300<o.old.size)
def Ac.long (a:Ac):Bool:=decide (20<a.e.ops.length) || decide (300<a.e.key.size) || decide (600<a.e.aB) || a.e.ops.any cf.long
def Gx (xs:List Ac):Bool:=decide (30<xs.length) || xs.any Ac.long
theorem z1R (xs:List Ac)(k:Nat)(h:k<xs.length):(xs.take (k+1)).any Ac.long=((xs.take k).any Ac.long || (di xs k).long):=by
 rw[zX1 h,Lx xs k h,xZ4];simp
theorem z6n (xs:List Ac)(k:Nat)(h:k<xs.length)(hl:(di xs k).long=true):xs.any Ac.long=true:=by
 rw[Lx xs k h]at hl;exact zK9.2 ⟨xs[k],zQ4 h,hl⟩
theorem z1m (xs:List cf)(k:Nat)(h:k<xs.length):(xs.take (k+1)).any cf.long=((xs.take k).any cf.long || (bO xs k).long):=by
 rw[zX1 h,BL xs k h,xZ4];simp
theorem z4U (xs:List cf)(k:Nat)(h:k<xs.length)(hl:(bO xs k).long=true):xs.any cf.long=true:=by
 rw[BL xs k h]at hl;exact zK9.2 ⟨xs[k],zQ4 h,hl⟩
theorem y9B {xs:List Ac}(h:Gx xs=false):xs.length<=30/\∀j,j<xs.length->(di xs j).e.ops.length<=20/\(di xs j).e.key.size<=300/\(di xs j).e.aB<=600/\∀o∈(di xs j).e.ops,o.key.size<=300/\o.val.size<=300/\o.old.size<=300:=by
 unfold Gx at h;rw[Bool.or_eq_false_iff,wZ4]at h;refine⟨by omega,fun j hj=>?_⟩;have:=yX9.1 h.2 _ (zQ4 hj);rw[<-Lx xs j hj]at this;unfold Ac.long at this;simp only[yZ0,wZ2,not_or]at this;obtain⟨⟨⟨h1,h2⟩,h3⟩,h4⟩:=this;refine⟨by omega,by omega,by omega,fun o ho=>?_⟩;have h5:=yX9.1 (by simpa using h4:(di xs j).e.ops.any cf.long=false) o ho;unfold cf.long at h5;simp only[yZ0,wZ2,not_or]at h5;omega
def Lz (a:Ac):Prop:=a.e.ops.length<=9223372036854775807/\a.e.key.size<=9223372036854775807/\a.e.aB<=9223372036854775807/\∀j,j<a.e.ops.length->(bO a.e.ops j).key.size<=9223372036854775807/\(bO a.e.ops j).val.size<=9223372036854775807/\(bO a.e.ops j).old.size<=9223372036854775807
theorem z3F (a:Option Addr)(cap:Nat)(xs:List Ac)(w:World)(hA:pX w a xs)(hx:xs.length<=9223372036854775807)(hk:∀j,j<xs.length->Lz (di xs j)):
    Calls prog 5 #[.slice a xs.length cap] w fun e w'=>e=.returned (.bool (Gx xs))/\ae w w':=by
 by_cases WD:30<xs.length
 . have e:Gx xs=true:=(by unfold Gx;rw[wZ5 WD];rfl);rw[e];clear e;have h1:(30:Int)<(xs.length:Int):=(by omega);go_in;go_wp2_with fail;go_ret;exact⟨rfl,ae.rf w⟩
 . have h1:(xs.length:Int)<=30:=(by omega);have e:Gx xs=xs.any Ac.long:=(by unfold Gx;rw[wZ6 WD];rfl);have HE:=af e;have HA:=af hA;have HK:=af hk;clear e WD hA hk;go_in;go_wp2_with fail;go_loopw [13] (fun i wr=>∃k:Nat,k<=xs.length/\i=.int .i64 k/\(xs.take k).any Ac.long=false/\ae w wr) (fun i _=>xs.length - (intOf i).toNat);exact⟨0,zZ5 _,rfl,rfl,ae.rf w⟩;obtain⟨k,fV,rfl,hno,hG⟩:=hrel;obtain⟨wo,rfl⟩:∃wo:World,wo=wr:=⟨_,rfl⟩
   by_cases az:k<xs.length
   . rcases HA.out.row with h0 | ⟨b,off,rfl,hb,hR⟩
     . rw[h0]at az;simp at az
     obtain⟨q0,q1,q2,q3,q4,q5,q6,q7,q8,q9,LA,LB,vg⟩:=z2j (W:=wo) (b:=b) (off:=off+k*13) (a:=di xs k) (fun i v hv=>(hG.cells.1 _ _ hb).trans (hR k az i v hv));have DO:=af (HA.ops k az);have HN:=af (z1R xs k az);have HY:=af (z6n xs k az);have Ce:=af hno;obtain⟨cl,ck,cd,co⟩:=HK k az;have Sn:=af co;clear hR hno co;generalize di xs k=A at *;obtain⟨⟨ax,aj,ak,aq,aw,seq,key,aM,aL,aA,ops,aN,aS,aF,aB,aG⟩,at'⟩:=A;dsimp only at *;by_cases l1:(20:Int)<(ops.length:Int)
     . have HL:Hid (Ac.long ⟨⟨ax,aj,ak,aq,aw,seq,key,aM,aL,aA,ops,aN,aS,aF,aB,aG⟩,at'⟩=true):=by
        unfold Hid Ac.long;rw[wZ5 (by dsimp only;omega)];rfl
       go_wp2_with fail;go_ret;exact⟨bS (by rw[HE.out,HY.out HL.out]),(hG.alloc _).alloc _⟩
     by_cases l2:(300:Int)<(key.size:Int)
     . have HL:Hid (Ac.long ⟨⟨ax,aj,ak,aq,aw,seq,key,aM,aL,aA,ops,aN,aS,aF,aB,aG⟩,at'⟩=true):=by
        unfold Hid Ac.long;simp only[yZ0,wZ2];omega
       go_wp2_with fail;go_ret;exact⟨bS (by rw[HE.out,HY.out HL.out]),(hG.alloc _).alloc _⟩
     by_cases l3:(600:Int)<(aB:Int)
     . have HL:Hid (Ac.long ⟨⟨ax,aj,ak,aq,aw,seq,key,aM,aL,aA,ops,aN,aS,aF,aB,aG⟩,at'⟩=true):=by
        unfold Hid Ac.long;simp only[yZ0,wZ2];omega
       go_wp2_with fail;go_ret;exact⟨bS (by rw[HE.out,HY.out HL.out]),(hG.alloc _).alloc _⟩
     have Gy:Hid (Ac.long ⟨⟨ax,aj,ak,aq,aw,seq,key,aM,aL,aA,ops,aN,aS,aF,aB,aG⟩,at'⟩=ops.any cf.long):=by
      unfold Hid Ac.long;rw[wZ6 (by dsimp only;omega),wZ6 (by dsimp only;omega),wZ6 (by dsimp only;omega)];rfl
     go_wp2_with fail;have cA:=af ((hG.alloc (Obj.cells #[.int .i64 ax,.int .i64 aj,.int .i64 ak,.int .i64 aq,.int .i64 aw,.int .i64 seq,.slice aN ops.length aS,.string key,.int .i64 aM,.int .i64 aL,.int .i64 aA,.slice aF aB aG,.int .i64 at'] 38)).alloc (Obj.cells #[.int .i64 ax,.int .i64 aj,.int .i64 ak,.int .i64 aq,.int .i64 aw,.int .i64 seq,.slice aN ops.length aS,.string key,.int .i64 aM,.int .i64 aL,.int .i64 aA,.slice aF aB aG] 36));clear q0 q1 q2 q3 q4 q5 q6 q7 q8 q9 LA LB vg;have bW:=cA.out;clear cA;generalize World.alloc (World.alloc wo _) _=w2 at bW ⊢;clear hG;go_loopw [38] (fun i wr=>∃m:Nat,m<=ops.length/\i=.int .i64 m/\(ops.take m).any cf.long=false/\ae w wr) (fun i _=>ops.length - (intOf i).toNat);exact⟨0,zZ5 _,rfl,rfl,bW⟩;obtain⟨m,yV,rfl,Ay,Ci⟩:=hrel;by_cases pW:m<ops.length
     . rcases DO.out with h0 | ⟨ob,Az,rfl,dS,LC⟩
       . rw[h0]at pW;simp at pW
       have p0:=(Ci.cells.1 ob (Az+m*5) dS).trans (LC.ax m pW);have p1:=(Ci.cells.1 ob (Az+m*5+1) dS).trans (LC.key m pW);have p2:=(Ci.cells.1 ob (Az+m*5+2) dS).trans (LC.val m pW);have p3:=(Ci.cells.1 ob (Az+m*5+3) dS).trans (LC.old m pW);have p4:=(Ci.cells.1 ob (Az+m*5+4) dS).trans (LC.eI m pW);have HMN:=af (z1m ops m pW);have WE:=af (z4U ops m pW);have WG:=af Ay;obtain⟨b1,b2,b3⟩:=Sn m pW;clear LC Ay;generalize bO ops m=O at *;obtain⟨vr,AA,AB,AD,over⟩:=O;dsimp only at *;by_cases o1:(300:Int)<(AA.size:Int)
       . have HL:Hid (cf.long ⟨vr,AA,AB,AD,over⟩=true):=by
          unfold Hid cf.long;simp only[yZ0,wZ2];omega
         go_wp2_with fail;go_ret;exact⟨bS (by rw[HE.out,HY.out (Gy.trans (WE HL))]),Ci.alloc _⟩
       by_cases o2:(300:Int)<(AB.size:Int)
       . have HL:Hid (cf.long ⟨vr,AA,AB,AD,over⟩=true):=by
          unfold Hid cf.long;simp only[yZ0,wZ2];omega
         go_wp2_with fail;go_ret;exact⟨bS (by rw[HE.out,HY.out (Gy.trans (WE HL))]),Ci.alloc _⟩
       by_cases o3:(300:Int)<(AD.size:Int)
       . have HL:Hid (cf.long ⟨vr,AA,AB,AD,over⟩=true):=by
          unfold Hid cf.long;simp only[yZ0,wZ2];omega
         go_wp2_with fail;go_ret;exact⟨bS (by rw[HE.out,HY.out (Gy.trans (WE HL))]),Ci.alloc _⟩
       have HL:Hid (cf.long ⟨vr,AA,AB,AD,over⟩=false):=by
        unfold Hid cf.long;simp only[Bool.or_eq_false_iff,wZ4];omega
       go_wp2_with fail;go_roundw;case rel=>exact⟨m+1,by omega,by go_num,by rw[HMN.out,WG.out,HL.out];rfl,Ci.alloc _⟩
       case measure=>simp[intOf];omega
     . obtain rfl:m=ops.length:=(by omega);rw[zQ1]at Ay;have WG:=af Ay;clear Ay;go_wp2_with fail;go_roundw;case rel=>exact⟨k+1,by omega,by go_num,by rw[HN.out,Ce.out,Gy.out,WG.out];rfl,Ci⟩
       case measure=>simp[intOf];omega
   . obtain rfl:k=xs.length:=(by omega);rw[zQ1]at hno;have Ce:=af hno;clear hno;go_wp2_with fail;go_ret;exact⟨bS (by rw[HE.out,Ce.out]),hG⟩
section
section
variable {P:Program}
end
end
section
open Go.ChangeShapes Go.WideShapes Go.Deep
theorem z3X:prog.cellsOf 70=5:=by kernel_rfl
theorem z1N:prog.cellsOf 38=13:=by kernel_rfl
theorem y9i:prog.cellsOf 36=12:=by kernel_rfl
theorem z1x:prog.cellsOf 33=1:=by kernel_rfl
theorem y8J:prog.cellsOf 34=1:=by kernel_rfl
theorem S3:prog.cellsOf 3=1:=by kernel_rfl
theorem S4:prog.cellsOf 9=1:=by kernel_rfl
theorem z1o:prog.bytesOf 38=144:=by kernel_rfl
section
variable {H:Type}{enc:TypeId×Value->H}{W:World}{base:Nat}{spare:Nat->Bool}{held:Bool}{n:Nat}{cs:List Value}{y:DataW H×List MemPlace}
theorem z4Q (hl:cs.length=5)(h:DataW.trod enc prog W base spare held n 70 cs=some y):
    ∃x:cf,cs=x.vals/\x.key.size<=9223372036854775807/\x.val.size<=9223372036854775807/\x.old.size<=9223372036854775807:=by
 match cs,hl with
 | [c0,c1,c2,c3,c4],_=>
  obtain⟨xs,n',_,hx,_,bK,hg⟩:=DataW.trod_struct underlying70 h;have g0:=hg 0 _ rfl;have g1:=hg 1 _ rfl;have g2:=hg 2 _ rfl;have g3:=hg 3 _ rfl;have g4:=hg 4 _ rfl;match xs,bK with
  | [y0,y1,y2,y3,y4],_=>
   simp[S3,S4]at g0 g1 g2 g3 g4;obtain⟨k,e0,_⟩:=DataW.trod_int underlying3 g0;obtain⟨s1,e1,_,w1⟩:=DataW.trod_string underlying9 g1;obtain⟨s2,e2,_,w2⟩:=DataW.trod_string underlying9 g2;obtain⟨s3,e3,_,w3⟩:=DataW.trod_string underlying9 g3;obtain⟨v,e4,_⟩:=DataW.trod_int underlying3 g4;simp at e0 e1 e2 e3 e4;subst e0 e1 e2 e3 e4;unfold maxLen at w1 w2 w3;exact⟨⟨k,s1,s2,s3,v⟩,rfl,by dsimp only;omega,by dsimp only;omega,by dsimp only;omega⟩
theorem z3o {c:Value}(h:DataW.trod enc prog W base spare held n 33 [c]=some y):
    ∃a cap xs,c=.slice a xs.length cap/\vI W a xs/\xs.length<=9223372036854775807/\∀j,j<xs.length->(bO xs j).key.size<=9223372036854775807/\(bO xs j).val.size<=9223372036854775807/\(bO xs j).old.size<=9223372036854775807:=by
 rcases open_slice underlying33 h with⟨hcs,_⟩ | ⟨a,len,cap,m,n,D,Pl,hcs,_,hl,hm,qJ,_,hi⟩
 . simp at hcs;subst hcs;exact⟨none,0,[],rfl,.inl rfl,by simp,fun j hj=>absurd hj (yX4 j)⟩
 . simp at hcs;subst hcs;have ni:len<=m:=(by rw[qJ];split<;> omega);have each:∀i,i<len->∃x:cf,(W.cell? (a.add (i*5))=some (.int .i64 x.ax)/\W.cell? (a.add (i*5+1))=some (.string x.key)/\W.cell? (a.add (i*5+2))=some (.string x.val)/\W.cell? (a.add (i*5+3))=some (.string x.old)/\W.cell? (a.add (i*5+4))=some (.int .i64 x.eI))/\x.key.size<=9223372036854775807/\x.val.size<=9223372036854775807/\x.old.size<=9223372036854775807:=by
    intro i Mg;obtain⟨cs',hc,ht⟩:=hi i (by omega);rw[z3X]at hc;obtain⟨_,bK,hat⟩:=World.cells?_some hc;obtain⟨x,rfl,hx⟩:=z4Q bK ht;refine⟨x,⟨?_,?_,?_,?_,?_⟩,hx⟩
    . have:=hat 0 (by omega);rw[add_add]at this;exact this
    . have:=hat 1 (by omega);rw[add_add]at this;exact this
    . have:=hat 2 (by omega);rw[add_add]at this;exact this
    . have:=hat 3 (by omega);rw[add_add]at this;exact this
    . have:=hat 4 (by omega);rw[add_add]at this;exact this
   obtain⟨X,hX⟩:=choose_lt each;have kG:((List.range len).map X).length=len:=(by simp);have uA:∀j,j<len->bO ((List.range len).map X) j=X j:=fun j hj=>by unfold bO;simp[hj]
   refine⟨some a,cap,(List.range len).map X,by rw[kG],?_,by rw[kG];unfold maxLen at hm;omega,?_⟩
   . by_cases h0:len=0
     . left;rw[h0];rfl
     . right;obtain⟨b,off,spot⟩:=a;have hs:spot=none:=by
        have:=(hX 0 (by omega)).1.1;simpa[Addr.add]using World.cell?_spot this
       subst hs;refine⟨b,off,rfl,block_lt_of_cell (by have:=(hX 0 (by omega)).1.1;simpa[Addr.add]using this),?_,?_,?_,?_,?_⟩<;> intro j hj<;> rw[kG]at hj<;> rw[uA j hj]
       . have:=(hX j hj).1.1;rwa[Addr.add_lit]at this
       . have:=(hX j hj).1.2.1;rwa[Addr.add_lit,<-yQ1]at this
       . have:=(hX j hj).1.2.2.1;rwa[Addr.add_lit,<-yQ1]at this
       . have:=(hX j hj).1.2.2.2.1;rwa[Addr.add_lit,<-yQ1]at this
       . have:=(hX j hj).1.2.2.2.2;rwa[Addr.add_lit,<-yQ1]at this
   . intro j hj;rw[kG]at hj;rw[uA j hj];exact(hX j hj).2
theorem y9D {c:Value}(h:DataW.trod enc prog W base spare held n 34 [c]=some y):∃a l cap,c=.slice a l cap/\l<=9223372036854775807:=by
 rcases open_slice underlying34 h with⟨hcs,_⟩ | ⟨a,len,cap,m,n,D,Pl,hcs,_,hl,hm,_,_,_⟩
 . simp at hcs;exact⟨none,0,0,hcs,zZ5 _⟩
 . simp at hcs;unfold maxLen at hm;exact⟨some a,len,cap,hcs,by omega⟩
theorem y9R (hl:cs.length=12)(h:DataW.trod enc prog W base spare held n 36 cs=some y):
    ∃e:En,cs=e.vals/\vI W e.aN e.ops/\Lz ⟨e,0⟩:=by
 match cs,hl with
 | [c0,c1,c2,c3,c4,c5,c6,c7,c8,c9,c10,c11],_=>
  obtain⟨xs,n',_,hx,_,bK,hg⟩:=DataW.trod_struct underlying36 h;have g0:=hg 0 _ rfl;have g1:=hg 1 _ rfl;have g2:=hg 2 _ rfl;have g3:=hg 3 _ rfl;have g4:=hg 4 _ rfl;have g5:=hg 5 _ rfl;have g6:=hg 6 _ rfl;have g7:=hg 7 _ rfl;have g8:=hg 8 _ rfl;have g9:=hg 9 _ rfl;have g10:=hg 10 _ rfl;have g11:=hg 11 _ rfl;match xs,bK with
  | [y0,y1,y2,y3,y4,y5,y6,y7,y8,y9,y10,y11],_=>
   simp[S3,S4,z1x,y8J]at g0 g1 g2 g3 g4 g5 g6 g7 g8 g9 g10 g11;obtain⟨k0,e0,_⟩:=DataW.trod_int underlying3 g0;obtain⟨k1,e1,_⟩:=DataW.trod_int underlying3 g1;obtain⟨k2,e2,_⟩:=DataW.trod_int underlying3 g2;obtain⟨k3,e3,_⟩:=DataW.trod_int underlying3 g3;obtain⟨k4,e4,_⟩:=DataW.trod_int underlying3 g4;obtain⟨k5,e5,_⟩:=DataW.trod_int underlying3 g5;obtain⟨oa,oc,os,e6,tN,Y5,hos⟩:=z3o g6;obtain⟨s7,e7,_,w7⟩:=DataW.trod_string underlying9 g7;obtain⟨k8,e8,_⟩:=DataW.trod_int underlying3 g8;obtain⟨k9,e9,_⟩:=DataW.trod_int underlying3 g9;obtain⟨k10,oV,_⟩:=DataW.trod_int underlying3 g10;obtain⟨da,dl,dc,e11,Il⟩:=y9D g11;simp at e0 e1 e2 e3 e4 e5 e7 e8 e9 oV;subst e0 e1 e2 e3 e4 e5 e6 e7 e8 e9 oV e11;unfold maxLen at w7;exact⟨⟨k0,k1,k2,k3,k4,k5,s7,k8,k9,k10,os,oa,oc,da,dl,dc⟩,rfl,tN,Y5,by dsimp only;omega,Il,hos⟩
theorem z4q (hl:cs.length=13)(h:DataW.trod enc prog W base spare held n 38 cs=some y):
    ∃x:Ac,cs=x.vals/\vI W x.e.aN x.e.ops/\Lz x/\(Lit.int .i64 x.at').wf=true:=by
 obtain⟨xs,n',_,hx,_,bK,hg⟩:=DataW.trod_struct underlying38 h;have g0:=hg 0 _ rfl;have g1:=hg 1 _ rfl;match xs,bK with
 | [y0,y1],_=>
  change DataW.trod enc prog W base spare held n' 36 ((cs.drop 0).take (prog.cellsOf 36))=some y0 at g0;change DataW.trod enc prog W base spare held n' 3 ((cs.drop 12).take (prog.cellsOf 3))=some y1 at g1;rw[y9i,List.drop_zero]at g0;rw[S3]at g1;obtain⟨e,he,tN,xQ⟩:=y9R (by rw[zZ9];omega) g0;obtain⟨k,hk,_,JI⟩:=DataW.trod_int underlying3 g1;refine⟨⟨e,k⟩,?_,tN,xQ,JI⟩;have e1:cs=cs.take 12++cs.drop 12:=(zX7 12 cs).symm;have e2:cs.drop 12=(cs.drop 12).take 1:=(zJ3 (by rw[zK1];omega)).symm;rw[e1,he,e2,hk];rfl
end
theorem z2a {H:Type}{enc:TypeId×Value->H}{W:World}{held:Bool}{Qm:Nat}{v:Value}{d:DataW H}{p:List MemPlace}(hv:Value.okWide prog W .any Qm 22 v)
    (h:DataW.Trod enc prog W 0 (fun _=>true) held 22 v d p):
    ∃a cap xs,v=.slice a xs.length cap/\pX W a xs/\(∀j,j<xs.length->Lz (di xs j))/\(∀j,j<xs.length->(Lit.int .i64 (di xs j).at').wf=true)/\(xs=[]\/∃es sp,d=.slice es sp/\es.length=xs.length):=by
 obtain⟨a0,l0,c0,rfl⟩:=okWide_slice underlying22 hv;obtain⟨fuel,hf⟩:=h;rcases open_slice underlying22 hf with⟨hcs,_⟩ | ⟨a,len,cap,m,n,D,Pl,hcs,_,hl,hm,qJ,hx,hi⟩
 . simp[Value.cells]at hcs;obtain⟨rfl,rfl,rfl⟩:=hcs;refine⟨none,0,[],rfl,⟨.inl rfl,fun j hj=>absurd hj (yX4 j)⟩,fun j hj=>absurd hj (yX4 j),fun j hj=>absurd hj (yX4 j),.inl rfl⟩
 . simp[Value.cells]at hcs;obtain⟨rfl,rfl,rfl⟩:=hcs;simp only[if_true]at qJ;subst qJ;have each:∀i,i<l0->∃x:Ac,(∀k v,x.vals[k]? =some v->W.cell? (a.add (i*13+k))=some v)/\vI W x.e.aN x.e.ops/\Lz x/\(Lit.int .i64 x.at').wf=true:=by
    intro i Mg;obtain⟨cs',hc,ht⟩:=hi i (by omega);rw[z1N]at hc;obtain⟨_,bK,hat⟩:=World.cells?_some hc;obtain⟨x,rfl,hx1,hx2,hx3⟩:=z4q bK ht;refine⟨x,fun k v hk=>?_,hx1,hx2,hx3⟩;have hkl:=(zQ9.1 hk).1;have:=hat k (by omega);rw[add_add]at this;rw[this,hk]
   obtain⟨X,hX⟩:=choose_lt each;have kG:((List.range l0).map X).length=l0:=(by simp);have uA:∀j,j<l0->di ((List.range l0).map X) j=X j:=fun j hj=>by unfold di;simp[hj]
   refine⟨some a,m,(List.range l0).map X,by rw[kG],⟨?_,?_⟩,?_,?_,.inr ⟨(List.range l0).map D,_,(Prod.mk.inj hx).1,by simp⟩⟩
   . by_cases h0:l0=0
     . left;rw[h0];rfl
     . right;obtain⟨b,off,spot⟩:=a;have BH:=(hX 0 (by omega)).1 0 _ rfl;have hs:spot=none:=(by simpa[Addr.add]using World.cell?_spot BH);subst hs;refine⟨b,off,rfl,block_lt_of_cell (by simpa[Addr.add]using BH),?_⟩;intro j hj k v hk;rw[kG]at hj;rw[uA j hj]at hk;have:=(hX j hj).1 k v hk;rwa[Addr.add_lit,<-yQ1]at this
   . intro j hj;rw[kG]at hj;rw[uA j hj];exact(hX j hj).2.1
   . intro j hj;rw[kG]at hj;rw[uA j hj];exact(hX j hj).2.2.1
   . intro j hj;rw[kG]at hj;rw[uA j hj];exact(hX j hj).2.2.2
end
section
open Go.ChangeShapes Go.WideShapes Go.Deep
theorem y9V:prog.cellsOf 24=2:=by kernel_rfl
theorem z1r:prog.cellsOf 26=4:=by kernel_rfl
section
variable {H:Type}{enc:TypeId×Value->H}{W:World}{base:Nat}{spare:Nat->Bool}{held:Bool}{n:Nat}{cs:List Value}{y:DataW H×List MemPlace}
theorem z1H (hl:cs.length=2)(h:DataW.trod enc prog W base spare held n 24 cs=some y):
    ∃lo hi,cs=[.string lo,.string hi]/\lo.size<=9223372036854775807/\hi.size<=9223372036854775807:=by
 match cs,hl with
 | [c0,c1],_=>
  obtain⟨xs,n',_,hx,_,bK,hg⟩:=DataW.trod_struct underlying24 h;have g0:=hg 0 _ rfl;have g1:=hg 1 _ rfl;match xs,bK with
  | [y0,y1],_=>
   simp[S4]at g0 g1;obtain⟨s0,e0,_,w0⟩:=DataW.trod_string underlying9 g0;obtain⟨s1,e1,_,w1⟩:=DataW.trod_string underlying9 g1;simp at e0 e1;subst e0 e1;unfold maxLen at w0 w1;exact⟨s0,s1,rfl,by omega,by omega⟩
theorem z3S (hl:cs.length=4)(h:DataW.trod enc prog W base spare held n 26 cs=some y):
    ∃key lo hi aI,cs=[.string key,.string lo,.string hi,.int .i64 aI]/\key.size<=9223372036854775807/\lo.size<=9223372036854775807/\hi.size<=9223372036854775807/\(Lit.int .i64 aI).wf=true:=by
 match cs,hl with
 | [c0,c1,c2,c3],_=>
  obtain⟨xs,n',_,hx,_,bK,hg⟩:=DataW.trod_struct underlying26 h;have g0:=hg 0 _ rfl;have g1:=hg 1 _ rfl;have g2:=hg 2 _ rfl;match xs,bK with
  | [y0,y1,y2],_=>
   simp[S4,y9V,S3]at g0 g1 g2;obtain⟨s0,e0,_,w0⟩:=DataW.trod_string underlying9 g0;obtain⟨lo,hi,e1,w1,w2⟩:=z1H rfl g1;obtain⟨k,e2,_,JI⟩:=DataW.trod_int underlying3 g2;simp at e0 e1 e2;obtain⟨rfl,rfl⟩:=e1;subst e0 e2;unfold maxLen at w0;exact⟨s0,lo,hi,k,rfl,by omega,w1,w2,JI⟩
end
end
end Go.Proofs.YtgegogoanbamfaaGreatDoor
namespace Go.Proofs.YtgegogoanbamfaaGreatDoor.Fe
open Go.ChangeShapes Go.WideShapes Go.ChangeAt Go.RowKit
theorem own:ownKnob Tryz.prog.godebug=none:=by kernel_rfl
theorem z5P:laidOutB Tryz.prog=true:=by kernel_rfl
theorem BI (os:Os)(args:Array Value):laidMetH Tryz.prog Rows.auditPlaysRow.laid ((World.doorLaid Tryz.prog 400 os).forCall (fun _ _=>0) ⟨#[],args,[]⟩).memory:=
 laidMet_of_run' 8 (by kernel_rfl) (by kernel_rfl)
theorem errs {W:World}(h:laidMetH Tryz.prog Rows.auditPlaysRow.laid W):∃E,bz mC E W:=by
 have h':laidMet Tryz.prog Rows.auditPlaysRow.laid W:=h;exact y9G Rows.auditPlaysRow.laid [1,2,3,4,5,6,7,8,9,10,11,12,13,14,15,16,17,18,19] mC
  (fun k hk=>by simp only[mC,zZ7,wZ2]at hk;simp only[zX0,yX6,or_false];omega) rfl
  (by simp only[Rows.auditPlaysRow,List.forall_mem_cons];exact⟨⟨_,rfl⟩,⟨_,rfl⟩,⟨_,rfl⟩,⟨_,rfl⟩,⟨_,rfl⟩,⟨_,rfl⟩,⟨_,rfl⟩,⟨_,rfl⟩,⟨_,rfl⟩,⟨_,rfl⟩,⟨_,rfl⟩,⟨_,rfl⟩,⟨_,rfl⟩,⟨_,rfl⟩,⟨_,rfl⟩,⟨_,rfl⟩,⟨_,rfl⟩,⟨_,rfl⟩,⟨_,rfl⟩,by simp⟩)
  (by kernel_rfl) (by simp only[zJ5,yQ5,List.forall_mem_cons];refine⟨?_,?_,?_,?_,?_,?_,?_,?_,?_,?_,?_,?_,?_,?_,?_,?_,?_,?_,?_,by simp⟩<;> kernel_rfl) h'
end Go.Proofs.YtgegogoanbamfaaGreatDoor.Fe
