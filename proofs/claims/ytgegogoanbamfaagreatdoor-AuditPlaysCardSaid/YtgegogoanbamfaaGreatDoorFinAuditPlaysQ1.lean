/- Part 1. -/
import Derived.Test.YtgegogoanbamfaaGreatDoorProg
import Derived.WalkKit
import Derived.WalkSpells
import Derived.WalkLawsBesides
import Derived.Lib.DecodeN
import GoSem.Op.String
import Derived.LaidEql
import Derived.Stop.Asserts
import Derived.RowKitTokens
import Derived.Laws.IdiomStrings
import Derived.Maps.OwnSet
import Derived.Maps.OwnOps
import Derived.Deep.AppendLies
import Derived.Laws.CopyRow
import Derived.Laws.CopyOwn
import Derived.Laws.IdiomCopy
import Derived.Lib.AppendZeros
import Derived.Lib.AppendZerosOnto
import Derived.Lib.Overlaps
import Derived.Laws.NewBlocks
import Derived.Deep.RegionLaw
import Derived.Deep.QuietTactic
import Derived.BigQuiet
import Derived.Laws.Externs
import Derived.IntWalk
import Derived.Deep.Upon
set_option linter.unusedVariables false
set_option linter.unusedSectionVars false
set_option linter.unusedSimpArgs false
set_option maxRecDepth 100000
set_option maxHeartbeats 16000000
namespace Go.Proofs.YtgegogoanbamfaaGreatDoor
namespace Pl
end Pl
open Pl Go.Proofs.Tryz Go.RowKit Go.Maps
attribute [local go_sem] Oper.semAt_some
theorem zZ0{c:Prop}{h:Decidable c}(k:¬c){α:Sort _}{t e:α}:ite c t e=e:=if_neg k
theorem zZ1{c:Prop}{h:Decidable c}(k:c){α:Sort _}{t e:α}:ite c t e=t:=if_pos k
theorem zZ2{α:Type _}{l:Array α}{i:Nat}{b:α}:l[i]?=some b↔∃h:i<l.size,l[i]=b:=Array.getElem?_eq_some_iff
theorem zZ3(n:Nat):n≤n:=Nat.le_refl n
theorem xA9{a b c:Nat}(h:a<b)(k:b≤c):a<c:=Nat.lt_of_lt_of_le h k
theorem xB9{α:Type _}(l:List α)(i:Nat)(x:α):l.toArray.setIfInBounds i x=(l.set i x).toArray:=List.setIfInBounds_toArray l i x
theorem xC9{α:Type _}{a:α}{l:List α}{b:α}:(a::l).set 0 b=b::l:=List.set_cons_zero
theorem xD9{α:Type _}{a:α}{l:List α}{n:Nat}{b:α}:(a::l).set (n+1) b=a::l.set n b:=List.set_cons_succ
abbrev zZ4:=@List.length_append
abbrev zZ5:=@Nat.zero_le
abbrev zZ6:=@Nat.le_trans
abbrev zZ7:=@Bool.and_eq_true
abbrev zZ8:=@List.mem_cons_self
abbrev zZ9:=@List.length_take
abbrev zQ0:=@List.mem_singleton
abbrev zQ1:=@List.take_length
abbrev zQ2:=@Nat.zero_add
abbrev zQ3:=@Int.toNat_natCast
abbrev zQ4:=@List.getElem_mem
abbrev zQ5:=@List.getElem?_eq_getElem
abbrev zQ6:=@List.length_cons
abbrev zQ7:=@List.append_assoc
abbrev zQ8:=@List.mem_append
abbrev zQ9:=@List.getElem?_eq_some_iff
abbrev zX0:=@List.mem_cons
abbrev zX1:=@List.take_succ_eq_append_getElem
abbrev zX2:=@List.eq_nil_of_length_eq_zero
abbrev zX3:=@List.mem_map
abbrev zX4:=@Option.bind_some
abbrev zX5:=@List.getElem?_take
abbrev zX6:=@List.length_map
abbrev zX7:=@List.take_append_drop
abbrev zX8:=@List.length_set
abbrev zX9:=@Nat.add_zero
abbrev zK0:=@List.all_eq_true
abbrev zK1:=@List.length_drop
abbrev zK2:=@List.flatMap_cons
abbrev zK3:=@List.flatMap_append
abbrev zK4:=@Bool.eq_iff_iff
abbrev zK5:=@List.getElem_of_mem
abbrev zK6:=@List.mem_of_mem_drop
abbrev zK7:=@List.getElem?_drop
abbrev zK8:=@List.nil_append
abbrev zK9:=@List.any_eq_true
abbrev zJ0:=@List.length_nil
abbrev zJ1:=@List.getElem?_cons_zero
abbrev zJ2:=@List.getElem?_cons_succ
abbrev zJ3:=@List.take_of_length_le
abbrev zJ4:=@List.pairwise_iff_getElem
abbrev zJ5:=@List.map_cons
abbrev zJ6:=@Option.map_eq_some_iff
abbrev zJ7:=@Nat.lt_or_ge
abbrev zJ8:=@Nat.eq_zero_or_pos
abbrev zJ9:=@List.mem_cons_of_mem
abbrev yZ0:=@Bool.or_eq_true
abbrev yZ1:=@List.append_nil
abbrev yZ2:=@List.mem_of_mem_take
abbrev yZ3:=@List.getElem?_map
abbrev yZ4:=@Bool.false_or
abbrev yZ5:=@ByteArray.toList_eq
abbrev yZ6:=@List.getElem?_set
abbrev yZ7:=@Array.length_toList
abbrev yZ8:=@List.cons_append
abbrev yZ9:=@List.drop_of_length_le
abbrev yQ0:=@UInt8.toNat_lt
abbrev yQ1:=@Nat.add_assoc
abbrev yQ2:=@Int.eq_ofNat_of_zero_le
abbrev yQ3:=@List.pairwise_cons
abbrev yQ4:=@List.getElem?_append
abbrev yQ5:=@List.map_nil
abbrev yQ6:=@List.findIdx?_eq_some_iff_getElem
abbrev yQ7:=@List.ext_getElem?
abbrev yQ8:=@Nat.min_eq_left
abbrev yQ9:=@Nat.add_comm
abbrev yX0:=@Nat.min_def
abbrev yX1:=@List.getD_eq_getElem?_getD
abbrev yX2:=@Nat.lt_irrefl
abbrev yX3:=@List.map_append
abbrev yX4:=@Nat.not_lt_zero
abbrev yX5:=@List.getElem?_append_right
abbrev yX6:=@List.not_mem_nil
abbrev yX7:=@List.pairwise_append
abbrev yX8:=@List.take_append_of_le_length
abbrev yX9:=@List.any_eq_false
abbrev yK0:=@List.getElem?_append_left
abbrev yK1:=@List.drop_sublist
abbrev yK2:=@Array.getElem?_eq_getElem
abbrev yK3:=@List.mem_range
abbrev yK4:=@Bool.false_eq_true
abbrev yK5:=@List.drop_eq_getElem_cons
abbrev yK7:=@List.mem_take_iff_getElem
abbrev yK8:=@List.map_toArray
abbrev yK9:=@Nat.le_succ
abbrev yJ0:=@Bool.not_eq_true'
abbrev yJ1:=@List.append_toArray
abbrev yJ2:=@List.getElem_take
abbrev yJ3:=@List.mem_drop_iff_getElem
abbrev yJ5:=@List.mem_iff_getElem
abbrev yJ6:=@List.findIdx?_eq_none_iff
abbrev yJ7:=@List.mem_flatMap
abbrev yJ8:=@List.drop_length
abbrev yJ9:=@List.take_sublist
abbrev xZ0:=@List.take_take
abbrev xZ1:=@Nat.mod_eq_of_lt
abbrev xZ2:=@List.eraseIdx_eq_take_drop_succ
abbrev xZ3:=@Nat.lt_trichotomy
abbrev xZ4:=@List.any_append
abbrev xZ5:=@Array.getElem?_toList
abbrev xZ6:=@Nat.lt_succ_self
abbrev xZ7:=@Bool.and_false
abbrev xZ8:=@List.filter_append
abbrev xQ2:=@List.length_singleton
abbrev xQ3:=@List.length_pos_iff
abbrev xQ4:=@List.size_toArray
abbrev xQ5:=@Array.replicate_succ
abbrev xQ6:=@Array.replicate_zero
abbrev xQ7:=@List.push_toArray
abbrev xQ8:=@List.flatMap_nil
abbrev xQ9:=@Nat.mul_le_mul_right
abbrev xX0:=@List.singleton_append
abbrev xX1:=@List.length_filter_le
abbrev xX3:=@List.perm_ext_iff_of_nodup
abbrev xX4:=@List.getElem?_eq_none
abbrev xX6:=@List.foldl_append
abbrev xK5:=@List.mem_or_eq_of_mem_set
abbrev xJ1:=@List.idxOf_lt_length_iff
abbrev xJ7:=@List.set_eq_take_append_cons_drop
abbrev wZ0:=@heap_alloc_new
abbrev wZ1:=@bodyPost_ret
abbrev wZ2:=@decide_eq_true_eq
abbrev wZ3:=@beq_eq_false_iff_ne
abbrev wZ4:=@decide_eq_false_iff_not
abbrev wZ5:=@decide_eq_true
abbrev wZ6:=@decide_eq_false
abbrev wZ7:=@congrArg
abbrev wZ8:=@info_parts
abbrev wZ9:=@rounds_succ
abbrev wQ0:=@wp_loop_rounds
abbrev wQ1:=@cell_of_row
abbrev wQ2:=@wpList_append_lies
abbrev wQ3:=@of_decide_eq_true
theorem af {p:Prop}(h:p):Hid p:=h
theorem jl {k:IntKind}{a b:Int}(h:a=b):Ending.returned (.int k a)=.returned (.int k b):=by rw[h]
theorem bS {a b:Bool}(h:a=b):Ending.returned (.bool a)=.returned (.bool b):=by rw[h]
theorem KB {a b:Value}(h:a=b):Ending.returned a=.returned b:=by rw[h]
theorem LW {B:Nat}{W w1:World}(hb:Below B W w1):(∀b o,b<B->w1.cell? ⟨b,o,none⟩=W.cell? ⟨b,o,none⟩)/\(∀b o,b<B->w1.frozen? ⟨b,o,none⟩=W.frozen? ⟨b,o,none⟩):=
 ⟨fun b o h=>hb.cell (p:=⟨b,o,none⟩) h,fun b o h=>hb.frozen (p:=⟨b,o,none⟩) h⟩
def ae (w w':World):Prop:=Below w.heap.size w w'
theorem ae.below {w w':World}(h:ae w w'):Below w.heap.size w w':=h
theorem ae.rf (w:World):ae w w:=Below.refl _ _
theorem ae.size {w w':World}(h:ae w w'):w.heap.size<=w'.heap.size:=Below.size h
theorem ae.trans {a b c:World}(h:ae a b)(k:ae b c):ae a c:=Below.trans h (Below.mono k h.size)
theorem ae.alloc {a b:World}(h:ae a b)(o:Obj):ae a (b.alloc o):=Below.alloc h h.size o
theorem ae.drew {a b:World}(h:ae a b):ae a b.drew:=Below.drew h
theorem ae.drewN {a b:World}(h:ae a b)(n:Nat):ae a (b.drewN n):=⟨h.os,h.tape,h.output,h.size,h.block⟩
theorem ae.iter {a b:World}(h:ae a b)(s:ByteArray)(p:Nat):ae a (b.iter s p):=h.alloc _
theorem ae.setCell {a b:World}(h:ae a b){p:Addr}(hp:a.heap.size<=p.block)(u:Value):ae a (b.setCell p u):=Below.setCell h hp u
theorem ae.cells {a b:World}(h:ae a b):(∀k o,k<a.heap.size->b.cell? ⟨k,o,none⟩=a.cell? ⟨k,o,none⟩)/\(∀k o,k<a.heap.size->b.frozen? ⟨k,o,none⟩=a.frozen? ⟨k,o,none⟩):=LW h
def dU {α:Type}(p:α->Bool)(xs:List α):Int:=match xs.findIdx? p with | some i=>(i:Nat) | none=> -1
theorem xD {α:Type}(p:α->Bool)(xs:List α)(h:xs.all (fun c=>!p c)=true):dU p xs= -1:=by
 have:xs.findIdx? p=none:=by
  rw[yJ6];intro x hx;have:=zK0.1 h x hx;simpa using this
 unfold dU;rw[this]
theorem Co {α:Type}(p:α->Bool)(xs:List α)(k:Nat)(hk:k<xs.length)(h:(xs.take k).all (fun c=>!p c)=true)(hp:p xs[k]=true):dU p xs=(k:Nat):=by
 have:xs.findIdx? p=some k:=by
  rw[yQ6];refine⟨hk,hp,fun j hj=>?_⟩;have h2:=zK0.1 h xs[j] (by rw[yK7];exact⟨j,by omega,rfl⟩);simpa using h2
 unfold dU;rw[this]
theorem G6 {α:Type}(p:α->Bool)(xs:List α)(k:Nat)(hk:k<xs.length)(h:(xs.take k).all (fun c=>!p c)=true)(hp:p xs[k]=false):(xs.take (k+1)).all (fun c=>!p c)=true:=by
 rw[zX1 hk,List.all_append,h];simp[hp]
theorem xE {α:Type}(p:α->Bool)(xs:List α):decide (0<=dU p xs)=xs.any p:=by
 cases hf:xs.findIdx? p with
 | none=>
  rw[yJ6]at hf;have:dU p xs= -1:=xD p xs (zK0.2 fun x hx=>by simpa using hf x hx);rw[this];have h2:xs.any p=false:=yX9.2 fun x hx=>by simpa using hf x hx
  rw[h2];rfl
 | some i=>
  have:dU p xs=(i:Nat):=by unfold dU;rw[hf]
  rw[this];obtain⟨hi,hp,_⟩:=yQ6.1 hf;have h2:xs.any p=true:=zK9.2 ⟨xs[i],zQ4 hi,hp⟩;rw[h2];simp
theorem ae.oH {w x:World}{a b c:Obj}(h:ae (((w.alloc a).alloc b).alloc c) x):w.heap.size<x.heap.size/\w.heap.size+1<x.heap.size/\w.heap.size+1+1<x.heap.size:=by have:=h.size;simp at this;omega
theorem ae.lF {w x:World}{a b c:Obj}(h:ae (((w.alloc a).alloc b).alloc c) x):ae w x:=((((ae.rf w).alloc _).alloc _).alloc _).trans h
theorem ae.Qo {w x:World}{a b:Obj}(h:ae ((w.alloc a).alloc b) x):ae w x:=(((ae.rf w).alloc _).alloc _).trans h
theorem ae.jy {w x:World}{a:Obj}(h:ae (w.alloc a) x):ae w x:=((ae.rf w).alloc _).trans h
end Go.Proofs.YtgegogoanbamfaaGreatDoor
namespace Go.Proofs.YtgegogoanbamfaaGreatDoor.Pl
def bT (l:List UInt8):Option (Nat×Nat):=
 if(Lib.decodeN l.length (l.getD 0 0).toNat (l.getD 1 0).toNat (l.getD 2 0).toNat (l.getD 3 0).toNat)=(65533,1)then none
 else some (Lib.decodeN l.length (l.getD 0 0).toNat (l.getD 1 0).toNat (l.getD 2 0).toNat (l.getD 3 0).toNat)
def enc (c:Nat):List UInt8:=
 if c<128 then [UInt8.ofNat c]
 else if c<2048 then [UInt8.ofNat (192+c / 64),UInt8.ofNat (128+c % 64)]
 else if c<65536 then [UInt8.ofNat (224+c / 4096),UInt8.ofNat (128+c / 64 % 64),UInt8.ofNat (128+c % 64)]
 else [UInt8.ofNat (240+c / 262144),UInt8.ofNat (128+c / 4096 % 64),UInt8.ofNat (128+c / 64 % 64),UInt8.ofNat (128+c % 64)]
def good (c:Nat):Prop:=c<55296\/(57344<=c/\c<=1114111)
theorem z0X (n b0 b1 b2 b3 c w:Nat)(h0:b0<256)(h1:b1<256)(h2:b2<256)(h3:b3<256)(hn:0<n)
    (h:Lib.decodeN n b0 b1 b2 b3=(c,w)) (hne:(c,w)≠(65533,1)):
    good c/\w<=n/\((c<128/\w=1/\b0=c)\/(128<=c/\c<2048/\w=2/\b0=192+c / 64/\b1=128+c % 64)\/
     (2048<=c/\c<65536/\w=3/\b0=224+c / 4096/\b1=128+c / 64 % 64/\b2=128+c % 64)\/
     (65536<=c/\w=4/\b0=240+c / 262144/\b1=128+c / 4096 % 64/\b2=128+c / 64 % 64/\b3=128+c % 64)):=by
 unfold Lib.decodeN at h;unfold good;split at h
 . simp only[Prod.mk.injEq]at h;omega
 . split at h
   . split at h
     . simp only[Prod.mk.injEq]at h;omega
     . exact absurd h.symm hne
   . split at h
     . split at h
       . simp only[Prod.mk.injEq]at h;omega
       . exact absurd h.symm hne
     . split at h
       . split at h
         . simp only[Prod.mk.injEq]at h;omega
         . exact absurd h.symm hne
       . exact absurd h.symm hne
theorem G7 (l:List UInt8)(hl:l≠[])(c w:Nat)(h:bT l=some (c,w)):l=enc c++l.drop w/\w=(enc c).length/\good c:=by
 unfold bT at h;split at h
 . cases h
 . next hne=>
   have hp:0<l.length:=xQ3.2 hl;simp only[Option.some.injEq]at h;rw[h]at hne;obtain⟨hg,hw,hc⟩:=z0X _ _ _ _ _ c w (yQ0 _) (yQ0 _) (yQ0 _) (yQ0 _) hp h hne;refine⟨?_,?_,hg⟩
   . rcases hc with⟨h1,rfl,e0⟩ | ⟨h1,h2,rfl,e0,e1⟩ | ⟨h1,h2,rfl,e0,e1,e2⟩ | ⟨h1,rfl,e0,e1,e2,e3⟩
     . match l,hw with
       | a::t,_=>
        simp at e0;rw[enc,zZ1 h1,<-e0];simp
     . match l,hw with
       | a::b::t,_=>
        simp at e0 e1;rw[enc,zZ0 (by omega),zZ1 h2,<-e0,<-e1];simp
     . match l,hw with
       | a::b::d::t,_=>
        simp at e0 e1 e2;rw[enc,zZ0 (by omega),zZ0 (by omega),zZ1 h2,<-e0,<-e1,<-e2];simp
     . match l,hw with
       | a::b::d::e::t,_=>
        simp at e0 e1 e2 e3;rw[enc,zZ0 (by omega),zZ0 (by omega),zZ0 (by omega),<-e0,<-e1,<-e2,<-e3];simp
   . unfold enc;rcases hc with⟨h1,rfl,e0⟩ | ⟨h1,h2,rfl,e0,e1⟩ | ⟨h1,h2,rfl,e0,e1,e2⟩ | ⟨h1,rfl,e0,e1,e2,e3⟩
     . rw[zZ1 h1];rfl
     . rw[zZ0 (by omega),zZ1 h2];rfl
     . rw[zZ0 (by omega),zZ0 (by omega),zZ1 h2];rfl
     . rw[zZ0 (by omega),zZ0 (by omega),zZ0 (by omega)];rfl
theorem lt_iff (a b:Nat)(ha:a<256)(hb:b<256):(UInt8.ofNat a<UInt8.ofNat b)=(a<b):=by
 rw[UInt8.lt_iff_toNat_lt];simp;rw[xZ1 ha,xZ1 hb]
theorem eq_iff (a b:Nat)(ha:a<256)(hb:b<256):(UInt8.ofNat a=UInt8.ofNat b)=(a=b):=by
 apply propext;rw[<-UInt8.toNat_inj];simp;rw[xZ1 ha,xZ1 hb]
theorem xF (a b:Nat)(ha:a<256)(hb:b<256)(x y:List UInt8):
    Op.bytesLess (UInt8.ofNat a::x) (UInt8.ofNat b::y)=if a<b then true else if a=b then Op.bytesLess x y else false:=by
 simp only[Op.bytesLess];by_cases h1:a<b
 . simp[h1,lt_iff a b ha hb]
 . by_cases h2:a=b
   . subst h2;simp
   . have e1:decide (UInt8.ofNat a<UInt8.ofNat b)=false:=(by rw[wZ4,lt_iff a b ha hb];exact h1);have e2:(UInt8.ofNat a==UInt8.ofNat b)=false:=(by rw[wZ3,Ne,eq_iff a b ha hb];exact h2);rw[e1,e2,zZ0 h1,zZ0 h2];rfl
theorem G8 (c d:Nat)(hc:good c)(hd:good d)(x y:List UInt8):
    Op.bytesLess (enc c++x) (enc d++y)=if c<d then true else if c=d then Op.bytesLess x y else false:=by
 unfold good at hc hd;by_cases xG:c=d
 . subst xG;unfold enc;split
   . simp only[yZ8,zK8];rw[xF _ _ (by omega) (by omega)];simp
   . split
     . simp only[yZ8,zK8];rw[xF _ _ (by omega) (by omega),xF _ _ (by omega) (by omega)];simp
     . split
       . simp only[yZ8,zK8];rw[xF _ _ (by omega) (by omega),xF _ _ (by omega) (by omega),xF _ _ (by omega) (by omega)];simp
       . simp only[yZ8,zK8];rw[xF _ _ (by omega) (by omega),xF _ _ (by omega) (by omega),xF _ _ (by omega) (by omega),xF _ _ (by omega) (by omega)];simp
 . unfold enc;by_cases c1:c<128;all_goals by_cases d1:d<128
   all_goals by_cases c2:c<2048
   all_goals by_cases d2:d<2048
   all_goals by_cases c3:c<65536
   all_goals by_cases d3:d<65536
   all_goals first
    | (exfalso;omega)
    | (simp only[c1,d1,c2,d2,c3,d3,if_true,if_false,yZ8,zK8,xG]
       repeat (rw[xF _ _ (by omega) (by omega)])
       repeat' split
       all_goals first | rfl | (exfalso;omega))
def Ff:Nat->List UInt8->Option (List Nat)
 | 0,_=>some []
 | n+1,l=>if l=[]then some []else(bT l).bind fun p=>(Ff n (l.drop p.2)).map (p.1::·)
def bJ (l:List UInt8):Option (List Nat):=Ff l.length l
theorem KC (l:List UInt8)(hl:l≠[])(c w:Nat)(h:bT l=some (c,w)):0<w/\w<=l.length:=by
 obtain⟨h1,h2,_⟩:=G7 l hl c w h;have e:0<(enc c).length:=by
  unfold enc;repeat' split
  all_goals simp
 have:=wZ7 List.length h1;simp at this;have hp:0<l.length:=xQ3.2 hl;omega
theorem z1n:∀(n m:Nat) (l:List UInt8),l.length<=n->l.length<=m->Ff n l=Ff m l:=by
 intro n;induction n with
 | zero=>
  intro m l hn _;have:l=[]:=zX2 (by omega);subst this;cases m<;> simp[Ff]
 | succ n ih=>
  intro m l hn hm;cases m with
  | zero=>
   have:l=[]:=zX2 (by omega);subst this;simp[Ff]
  | succ m=>
   unfold Ff;by_cases hl:l=[]
   . simp[hl]
   . simp only[hl,if_false];cases h:bT l with
     | none=>rfl
     | some p=>
      obtain⟨c,w⟩:=p;have hp:=KC l hl c w h;simp only[zX4];rw[ih m (l.drop w) (by simp;omega) (by simp;omega)]
theorem xH:bJ []=some []:=rfl
theorem vF (l:List UInt8)(hl:l≠[]):bJ l=(bT l).bind fun p=>(bJ (l.drop p.2)).map (p.1::·):=by
 have hp:0<l.length:=xQ3.2 hl;unfold bJ;obtain⟨n,hn⟩:∃n,l.length=n+1:=⟨l.length - 1,by omega⟩
 rw[hn,Ff,zZ0 hl];cases h:bT l with
 | none=>rfl
 | some p=>
  obtain⟨c,w⟩:=p;have hp:=KC l hl c w h;simp only[zX4];rw[z1n n (l.drop w).length (l.drop w) (by simp;omega) (zZ3 _)]
def Fg:List Nat->List Nat->Bool
 | _,[]=>false
 | [],_::_=>true
 | a::x,b::y=>if a<b then true else if a=b then Fg x y else false
theorem z4I:∀(n:Nat) (a b:List UInt8) (x y:List Nat),a.length<=n->bJ a=some x->bJ b=some y->Op.bytesLess a b=Fg x y:=by
 intro n;induction n with
 | zero=>
  intro a b x y hn ha hb;have:a=[]:=zX2 (by omega);subst this;rw[xH]at ha;cases ha;cases b with
  | nil=>rw[xH]at hb;cases hb;rfl
  | cons u t=>
   rw[vF _ (by simp)]at hb;cases h:bT (u::t)with
   | none=>rw[h]at hb;cases hb
   | some p=>
    rw[h]at hb;simp only[zX4,zJ6]at hb;obtain⟨z,_,rfl⟩:=hb;rfl
 | succ n ih=>
  intro a b x y hn ha hb;by_cases ea:a=[]
  . subst ea;rw[xH]at ha;cases ha;cases b with
    | nil=>rw[xH]at hb;cases hb;rfl
    | cons u t=>
     rw[vF _ (by simp)]at hb;cases h:bT (u::t)with
     | none=>rw[h]at hb;cases hb
     | some p=>
      rw[h]at hb;simp only[zX4,zJ6]at hb;obtain⟨z,_,rfl⟩:=hb;rfl
  . rw[vF _ ea]at ha;cases h:bT a with
    | none=>rw[h]at ha;cases ha
    | some p=>
     obtain⟨c,w⟩:=p;rw[h]at ha;simp only[zX4,zJ6]at ha;obtain⟨z,hz,rfl⟩:=ha;obtain⟨e1,e2,e3⟩:=G7 a ea c w h;have hp:=KC a ea c w h;by_cases eb:b=[]
     . subst eb;rw[xH]at hb;cases hb;cases a<;> rfl
     . rw[vF _ eb]at hb;cases h':bT b with
       | none=>rw[h']at hb;cases hb
       | some p'=>
        obtain⟨c',w'⟩:=p';rw[h']at hb;simp only[zX4,zJ6]at hb;obtain⟨z',hz',rfl⟩:=hb;obtain⟨S5,e2',Yv⟩:=G7 b eb c' w' h';rw[e1,S5,G8 c c' e3 Yv];unfold Fg;rw[ih (a.drop w) (b.drop w') z z' (by simp;omega) hz hz']
theorem z5D:∀(n:Nat) (a b:List UInt8) (x:List Nat),a.length<=n->bJ a=some x->bJ b=some x->a=b:=by
 intro n;induction n with
 | zero=>
  intro a b x hn ha hb;have:a=[]:=zX2 (by omega);subst this;rw[xH]at ha;cases ha;cases b with
  | nil=>rfl
  | cons u t=>
   rw[vF _ (by simp)]at hb;cases h:bT (u::t)with
   | none=>rw[h]at hb;cases hb
   | some p=>
    rw[h]at hb;simp at hb
 | succ n ih=>
  intro a b x hn ha hb;by_cases ea:a=[]
  . subst ea;rw[xH]at ha;cases ha;cases b with
    | nil=>rfl
    | cons u t=>
     rw[vF _ (by simp)]at hb;cases h:bT (u::t)with
     | none=>rw[h]at hb;cases hb
     | some p=>
      rw[h]at hb;simp at hb
  . rw[vF _ ea]at ha;cases h:bT a with
    | none=>rw[h]at ha;cases ha
    | some p=>
     obtain⟨c,w⟩:=p;rw[h]at ha;simp only[zX4,zJ6]at ha;obtain⟨z,hz,rfl⟩:=ha;obtain⟨e1,e2,e3⟩:=G7 a ea c w h;have hp:=KC a ea c w h;by_cases eb:b=[]
     . subst eb;rw[xH]at hb;cases hb
     . rw[vF _ eb]at hb;cases h':bT b with
       | none=>rw[h']at hb;cases hb
       | some p'=>
        obtain⟨c',w'⟩:=p';rw[h']at hb;simp only[zX4,zJ6]at hb;obtain⟨z',hz',hzz⟩:=hb;simp only[List.cons.injEq]at hzz;obtain⟨rfl,rfl⟩:=hzz;obtain⟨S5,e2',Yv⟩:=G7 b eb c' w' h';rw[e1,S5,ih (a.drop w) (b.drop w') z' (by simp;omega) hz hz']
end Go.Proofs.YtgegogoanbamfaaGreatDoor.Pl
namespace Go.Proofs.YtgegogoanbamfaaGreatDoor.Pl
def eQ (c:Nat):Option (Nat×Nat×Nat):=
 if c<128 then some (1,0,c)else if 192<=c/\c<224 then some (2,128,c - 192)else if 224<=c/\c<240 then some (3,2048,c - 224)else if 240<=c/\c<248 then some (4,65536,c - 240)else none
def jE (least c:Nat):Bool:=!(decide (c<least) || decide (1114111<c) || (decide (55296<=c) && decide (c<=57343)))
def bB (d:Nat):Bool:=decide (128<=d) && decide (d<=191)
def mB (n b0 b1 b2 b3:Nat):Option (Nat×Nat):=
 (eQ b0).bind fun p=>
  if n<p.1 then none else
  if p.1=1 then(if jE p.2.1 p.2.2 then some (p.2.2,1)else none)else
  if !bB b1 then none else
  if p.1=2 then(if jE p.2.1 (p.2.2*64+b1 - 128)then some (p.2.2*64+b1 - 128,2)else none)else
  if !bB b2 then none else
  if p.1=3 then(if jE p.2.1 ((p.2.2*64+b1 - 128)*64+b2 - 128)then some ((p.2.2*64+b1 - 128)*64+b2 - 128,3)else none)else
  if !bB b3 then none else
  (if jE p.2.1 (((p.2.2*64+b1 - 128)*64+b2 - 128)*64+b3 - 128)then some (((p.2.2*64+b1 - 128)*64+b2 - 128)*64+b3 - 128,4)else none)
theorem nu (P:Nat×Nat)(Q:Option (Nat×Nat)){D:Nat×Nat}(h:D=P)(h2:Q=if P=(65533,1)then none else some P):Q=if D=(65533,1)then none else some D:=by
 rw[h];exact h2
theorem xI (c w:Nat)(hw:w≠1):(some (c,w):Option (Nat×Nat))=if(c,w)=(65533,1)then none else some (c,w):=by
 rw[zZ0 (by intro h;simp only[Prod.mk.injEq]at h;exact hw h.2)]
theorem nv:(none:Option (Nat×Nat))=if((65533,1):Nat×Nat)=(65533,1)then none else some (65533,1):=by
 rw[zZ1 rfl]
theorem BJ (l c:Nat):jE l c=decide (l<=c/\(c<55296\/(57344<=c/\c<=1114111))):=by
 unfold jE;rw[zK4];simp;omega
theorem S6 (d:Nat)(h:d<256):bB d=decide (d / 64=2):=by
 unfold bB;rw[zK4];simp;omega
theorem Cp (n b0 b1 b2 b3:Nat)(hn:0<n)(h0:b0<256)(h1:b1<256)(h2:b2<256)(h3:b3<256):
    mB n b0 b1 b2 b3=if Lib.decodeN n b0 b1 b2 b3=(65533,1)then none else some (Lib.decodeN n b0 b1 b2 b3):=by
 unfold mB eQ;simp only[BJ,S6 b1 h1,S6 b2 h2,S6 b3 h3];by_cases c0:b0<128
 . refine nu (b0,1) _ (by unfold Lib.decodeN;rw[zZ1 c0]) ?_;rw[zZ1 c0];simp only[zX4];rw[zZ0 (show ¬n<1 by omega),zZ1 trivial,zZ1 (by simp;omega),zZ0 (by intro h;simp only[Prod.mk.injEq]at h;omega)]
 . by_cases c1:192<=b0/\b0<224
   . rw[zZ0 c0,zZ1 c1];simp only[zX4];by_cases m1:1<n/\b1 / 64=2
     . rw[zZ0 (show ¬n<2 by omega),zZ0 (show ¬(2=1) by omega),show decide (b1 / 64=2)=true by simp[m1.2]];have e:(b0 - 192)*64+b1 - 128=b0 % 32*64+b1 % 64:=(by omega);rw[e];by_cases f:b0 % 32*64+b1 % 64≥128
       . refine nu (b0 % 32*64+b1 % 64,2) _ (by unfold Lib.decodeN;rw[zZ0 c0,zZ1 (by omega),zZ1 f]) ?_;rw[<-xI _ _ (by omega)];simp;omega
       . refine nu (65533,1) _ (by unfold Lib.decodeN;rw[zZ0 c0,zZ1 (by omega),zZ0 f]) ?_;rw[<-nv];simp;omega
     . refine nu (65533,1) _ (by unfold Lib.decodeN;rw[zZ0 c0,zZ0 (by omega),zZ0 (by omega),zZ0 (by omega)]) ?_;rw[<-nv];by_cases iU:n<2
       . rw[zZ1 iU]
       . rw[zZ0 iU,zZ0 (show ¬(2=1) by omega),show decide (b1 / 64=2)=false by simp;omega];rfl
   . by_cases c2:224<=b0/\b0<240
     . rw[zZ0 c0,zZ0 c1,zZ1 c2];simp only[zX4];by_cases m1:(1<n/\b1 / 64=2)/\(2<n/\b2 / 64=2)
       . rw[zZ0 (show ¬n<3 by omega),zZ0 (show ¬(3=1) by omega),show decide (b1 / 64=2)=true by simp[m1.1.2],zZ0 (show ¬(3=2) by omega),show decide (b2 / 64=2)=true by simp[m1.2.2]];have e:((b0 - 224)*64+b1 - 128)*64+b2 - 128=b0 % 16*4096+b1 % 64*64+b2 % 64:=(by omega);rw[e];by_cases f:b0 % 16*4096+b1 % 64*64+b2 % 64≥2048/\(b0 % 16*4096+b1 % 64*64+b2 % 64<55296\/(57344<=b0 % 16*4096+b1 % 64*64+b2 % 64/\b0 % 16*4096+b1 % 64*64+b2 % 64<=1114111))
         . refine nu (b0 % 16*4096+b1 % 64*64+b2 % 64,3) _ (by unfold Lib.decodeN;rw[zZ0 c0,zZ0 (by omega),zZ1 (by omega),zZ1 f]) ?_;rw[<-xI _ _ (by omega),wZ5 (show 2048<=_/\_ from f)];rfl
         . refine nu (65533,1) _ (by unfold Lib.decodeN;rw[zZ0 c0,zZ0 (by omega),zZ1 (by omega),zZ0 f]) ?_;rw[<-nv,wZ6 (show ¬(2048<=_/\_)from f)];rfl
       . refine nu (65533,1) _ (by unfold Lib.decodeN;rw[zZ0 c0,zZ0 (by omega),zZ0 (by omega),zZ0 (by omega)]) ?_;rw[<-nv];by_cases iU:n<3
         . rw[zZ1 iU]
         . rw[zZ0 iU,zZ0 (show ¬(3=1) by omega)];by_cases q1:b1 / 64=2
           . rw[wZ5 q1,wZ6 (show ¬b2 / 64=2 by omega)];simp
           . rw[wZ6 q1];rfl
     . by_cases c3:240<=b0/\b0<248
       . rw[zZ0 c0,zZ0 c1,zZ0 c2,zZ1 c3];simp only[zX4];by_cases m1:(1<n/\b1 / 64=2)/\(2<n/\b2 / 64=2)/\(3<n/\b3 / 64=2)
         . rw[zZ0 (show ¬n<4 by omega),zZ0 (show ¬(4=1) by omega),show decide (b1 / 64=2)=true by simp[m1.1.2],zZ0 (show ¬(4=2) by omega),show decide (b2 / 64=2)=true by simp[m1.2.1.2],zZ0 (show ¬(4=3) by omega),show decide (b3 / 64=2)=true by simp[m1.2.2.2]];have e:(((b0 - 240)*64+b1 - 128)*64+b2 - 128)*64+b3 - 128=b0 % 8*262144+b1 % 64*4096+b2 % 64*64+b3 % 64:=(by omega);rw[e];by_cases f:b0 % 8*262144+b1 % 64*4096+b2 % 64*64+b3 % 64≥65536/\(b0 % 8*262144+b1 % 64*4096+b2 % 64*64+b3 % 64<55296\/(57344<=b0 % 8*262144+b1 % 64*4096+b2 % 64*64+b3 % 64/\b0 % 8*262144+b1 % 64*4096+b2 % 64*64+b3 % 64<=1114111))
           . refine nu (b0 % 8*262144+b1 % 64*4096+b2 % 64*64+b3 % 64,4) _ (by unfold Lib.decodeN;rw[zZ0 c0,zZ0 (by omega),zZ0 (by omega),zZ1 (by omega),zZ1 f]) ?_;rw[<-xI _ _ (by omega),wZ5 (show 65536<=_/\_ from f)];rfl
           . refine nu (65533,1) _ (by unfold Lib.decodeN;rw[zZ0 c0,zZ0 (by omega),zZ0 (by omega),zZ1 (by omega),zZ0 f]) ?_;rw[<-nv,wZ6 (show ¬(65536<=_/\_)from f)];rfl
         . refine nu (65533,1) _ (by unfold Lib.decodeN;rw[zZ0 c0,zZ0 (by omega),zZ0 (by omega),zZ0 (by omega)]) ?_;rw[<-nv];by_cases iU:n<4
           . rw[zZ1 iU]
           . rw[zZ0 iU,zZ0 (show ¬(4=1) by omega)];by_cases q1:b1 / 64=2
             . by_cases q2:b2 / 64=2
               . rw[wZ5 q1,wZ5 q2,wZ6 (show ¬b3 / 64=2 by omega)];simp
               . rw[wZ5 q1,wZ6 q2];simp
             . rw[wZ6 q1];rfl
       . refine nu (65533,1) _ (by unfold Lib.decodeN;rw[zZ0 c0,zZ0 (by omega),zZ0 (by omega),zZ0 (by omega)]) ?_;rw[<-nv,zZ0 c0,zZ0 c1,zZ0 c2,zZ0 c3];rfl
end Go.Proofs.YtgegogoanbamfaaGreatDoor.Pl
namespace Go.Proofs.YtgegogoanbamfaaGreatDoor.Pl
def ig (s:ByteArray)(p:Nat):List UInt8:=s.data.toList.drop p
def nc (s:ByteArray)(p:Nat):Option (List Nat):=bJ (ig s p)
theorem G9 (s:ByteArray)(p:Nat):(ig s p).length=s.size - p:=by
 simp[ig]
theorem LX (s:ByteArray)(p k:Nat):(ig s p).getD k 0=s.get! (p+k):=by
 unfold ig;rw[yX1,zK7];by_cases h:p+k<s.size
 . have h':p+k<s.data.toList.length:=(by simpa using h);rw[zQ5 h'];simp[ByteArray.get!];rw[getElem!_pos s.data (p+k) (by simpa using h)]
 . have h':¬p+k<s.data.toList.length:=(by simpa using h);rw[xX4 (by omega)];simp[ByteArray.get!];rw[getElem!_neg s.data (p+k) (by simpa using h)];rfl
theorem KD (s:ByteArray)(p:Nat):bT (ig s p)=if Utf8.decode s p=(65533,1)then none else some (Utf8.decode s p):=by
 have e:Lib.decodeN (ig s p).length ((ig s p).getD 0 0).toNat ((ig s p).getD 1 0).toNat ((ig s p).getD 2 0).toNat ((ig s p).getD 3 0).toNat=Utf8.decode s p:=by
  rw[Lib.decode_at,G9,LX,LX,LX,LX];rfl
 unfold bT;rw[e]
theorem z4v (l:List UInt8)(hl:l≠[])(d:Nat×Nat)(h:bT l=some d):l=enc d.1++l.drop d.2/\d.2=(enc d.1).length/\good d.1:=by
 obtain⟨c,w⟩:=d;exact G7 l hl c w h
theorem LY (l:List UInt8)(hl:l≠[])(d:Nat×Nat)(h:bT l=some d):0<d.2/\d.2<=l.length:=by
 obtain⟨c,w⟩:=d;exact KC l hl c w h
theorem Yw (s:ByteArray)(p k:Nat):(ig s p).drop k=ig s (p+k):=by
 unfold ig;rw[List.drop_drop]
theorem Fh (s:ByteArray)(p:Nat)(h:p<s.size):ig s p≠[]:=by
 intro e;have:=wZ7 List.length e;rw[G9]at this;simp at this;omega
theorem S7 (s:ByteArray)(p:Nat)(h:p<s.size):
    nc s p=if Utf8.decode s p=(65533,1)then none else(nc s (p+(Utf8.decode s p).2)).map ((Utf8.decode s p).1::·):=by
 unfold nc;rw[vF _ (Fh s p h),KD];split
 . rfl
 . simp only[zX4];rw[Yw]
theorem LZ (s:ByteArray)(p:Nat)(h:¬p<s.size):nc s p=some []:=by
 unfold nc;have:ig s p=[]:=zX2 (by rw[G9];omega);rw[this,xH]
theorem y9q (s:ByteArray):nc s 0=bJ s.data.toList:=rfl
def right (s:ByteArray):Bool:=(bJ s.data.toList).isSome
theorem z3J (s:ByteArray)(a b:Nat):(s.extract a b).data.toList=(s.data.toList.take b).drop a:=by
 rw[ByteArray.data_extract,Array.toList_extract,List.extract_eq_take_drop,List.take_drop];by_cases h:a<=b
 . rw[show a+(b - a)=b by omega]
 . have e1:(List.take (a+(b - a)) s.data.toList).drop a=[]:=by
    rw[List.drop_eq_nil_iff,zZ9];omega
   have e2:(List.take b s.data.toList).drop a=[]:=by
    rw[List.drop_eq_nil_iff,zZ9];omega
   rw[e1,e2]
theorem Yx (s:ByteArray)(p k:Nat):(s.extract p (p+k)).data.toList=(ig s p).take k:=by
 rw[z3J,ig,List.take_drop]
theorem S8 (s:ByteArray)(p:Nat)(h:p<s.size)(hc:(Utf8.decode s p).1=65533):
    (Utf8.decode s p≠(65533,1))↔((s.extract p (p+3)).data.toList=[239,191,189]):=by
 rw[Yx];constructor
 . intro hne;have e:=KD s p;rw[zZ0 hne]at e;obtain⟨e1,e2,e3⟩:=z4v (ig s p) (Fh s p h) _ e;rw[hc]at e1;rw[e1];rfl
 . intro hm e;have hl:3<=(ig s p).length:=by
    have:=wZ7 List.length hm;rw[zZ9]at this;simp at this;omega
   have g:∀k,k<3->(ig s p).getD k 0=[239,191,189].getD k 0:=by
    intro k hk;rw[<-hm,yX1,yX1,zX5,zZ1 hk]
   have g0:=g 0 (by omega);have g1:=g 1 (by omega);have g2:=g 2 (by omega);have d:=Lib.decode_at s p;rw[LX]at g0 g1 g2;rw[G9]at hl;simp only[zX9,List.getD_cons_zero,List.getD_cons_succ]at g0 g1 g2;rw[g0,g1,g2,e]at d;simp only[Lib.decodeN]at d;rw[zZ0 (by decide),zZ0 (fun hh=>absurd hh.1 (by decide)),zZ1 (by refine⟨by decide,⟨by omega,by decide⟩,by omega,by decide⟩),zZ1 (by decide)]at d;simp at d
theorem Yy (s:ByteArray)(p:Nat)(h:s.size - p<3):¬((s.extract p (p+3)).data.toList=[239,191,189]):=by
 intro hm;rw[Yx]at hm;have:=wZ7 List.length hm;rw[zZ9,G9]at this;simp at this;omega
theorem Yz (s:ByteArray)(p:Nat)(h:p<s.size)(hne:Utf8.decode s p≠(65533,1)):p+(Utf8.decode s p).2<=s.size:=by
 have e:=KD s p;rw[zZ0 hne]at e;have:=LY (ig s p) (Fh s p h) _ e;rw[G9]at this;omega
end Go.Proofs.YtgegogoanbamfaaGreatDoor.Pl
namespace Go.Proofs.YtgegogoanbamfaaGreatDoor
namespace Pl
end Pl
open Pl Go.Proofs.Tryz Go.RowKit Go.Maps
attribute [local go_sem] Oper.semAt_some
namespace Pl
theorem z5a (s:ByteArray)(p:Nat)(hp:p<s.size)(h:(nc s p).isSome=right s)(hb:Utf8.decode s p=(65533,1)):right s=false:=by
 rw[<-h,S7 s p hp,zZ1 hb];rfl
theorem z3D (s:ByteArray)(p:Nat)(hp:p<s.size)(h:(nc s p).isSome=right s)(hb:Utf8.decode s p≠(65533,1)):
    (nc s (p+(Utf8.decode s p).2)).isSome=right s:=by
 rw[<-h,S7 s p hp,zZ0 hb];simp
theorem Ha (s:ByteArray)(p:Nat)(h:¬((Utf8.decode s p).1:Int)=65533):Utf8.decode s p≠(65533,1):=by
 intro e;rw[e]at h;exact h rfl
end Pl
theorem sW (s:ByteArray)(w:World)(hs:s.size<=140737488351232):
    Calls prog 141 #[.string s] w fun e w'=>e=.returned (.bool (Pl.right s))/\∃p,w'=w.iter s p:=by
 go_in;go_wp2;go_loopw [3,4] (fun _ _ w'=>∃p:Nat,w'=w.iter s p/\p<=s.size/\Hid ((nc s p).isSome=Pl.right s)) (fun _ _ w'=>s.size - w'.iterPos w.heap.size);exact⟨0,rfl,zZ5 _,rfl⟩;obtain⟨p,rfl,hle,HR⟩:=hrel;by_cases hp:p<s.size
 . have ez:∀ty,(Instr.next (.pointer (some ⟨w.heap.size,0,none⟩)) true ty).run prog (w.iter s p)=_:=fun ty=>run_next_any w s p ty hp;have Fi:Utf8.decode s p≠(65533,1)->p+(Utf8.decode s p).2<=s.size/\1<=(Utf8.decode s p).2/\Hid ((nc s (p+(Utf8.decode s p).2)).isSome=Pl.right s):=fun h=>by
    have e:=KD s p;rw[zZ0 h]at e;exact⟨Yz s p hp h,(LY _ (Fh s p hp) _ e).1,z3D s p hp HR h⟩
   have stop:Utf8.decode s p=(65533,1)->Pl.right s=false:=fun h=>z5a s p hp HR h;have HG:=af Fi;have HS:=af stop;clear Fi stop;go_wp2
   . have h1:((Utf8.decode s p).1:Int)=65533:=(by assumption);have h2:(s.size:Int) - p<3\/(!(s.extract p (p+3)).toList==[239,191,189])=true:=(by assumption);go_ret;refine⟨bS ?_,_,rfl⟩;rw[HS.out];refine Classical.byContradiction fun hne=>?_;have hm:=(S8 s p hp (by omega)).1 hne;rcases h2 with h2 | h2
     . exact Yy s p (by omega) hm
     . rw[yZ5,hm]at h2;simp at h2
   . have h1:((Utf8.decode s p).1:Int)=65533:=(by assumption);have h2:(3:Int)<=s.size - p/\(!(s.extract p (p+3)).toList==[239,191,189])=false:=(by assumption);have hne:Utf8.decode s p≠(65533,1):=(S8 s p hp (by omega)).2 (by simpa[yZ5]using h2.2);obtain⟨g1,g2,g3⟩:=HG hne;go_roundw;case rel=>exact⟨_,rfl,g1,g3⟩
     case measure=>simp;omega
   . have h1:((Utf8.decode s p).1:Int)=65533:=(by assumption);have h2:(s.size:Int) - p<3:=(by assumption);go_ret;refine⟨bS ?_,_,rfl⟩;rw[HS.out];refine Classical.byContradiction fun hne=>?_;exact Yy s p (by omega) ((S8 s p hp (by omega)).1 hne)
   . have h1:¬((Utf8.decode s p).1:Int)=65533:=(by assumption);obtain⟨g1,g2,g3⟩:=HG (Ha s p h1);go_roundw;case rel=>exact⟨_,rfl,g1,g3⟩
     case measure=>simp;omega
 . have ez:∀ty,(Instr.next (.pointer (some ⟨w.heap.size,0,none⟩)) true ty).run prog (w.iter s p)=_:=fun ty=>run_next_end w s p ty hp;go_wp2;go_ret;have e:Pl.right s=true:=(by rw[<-HR.out,Pl.LZ s p hp];rfl);exact⟨bS e.symm,_,rfl⟩
section
open Go.Extern.Stop Go.Stop Go.Extern
theorem xJ (v:Value)(w:World):(Extern.ReflectliteType.typeOf #[.iface 302 v]).run prog w=.ok (.iface 191 (.agg #[.pointer (some ⟨19,302,none⟩)])) w:=by kernel_rfl
theorem z0E (w:World):((Extern.ReflectliteType.method fun t=>do Extern.Rtype.noPackHeld "Comparable" t;pure (.bool (<-typeInfo t).comparable)) #[.agg #[.pointer (some ⟨19,302,none⟩)]]).run prog w=.ok (.bool true) w:=by kernel_rfl
theorem YA (v:Value)(w:World):(Go.method 442 191 v "Comparable").run prog w=.ok (220,v) w:=by kernel_rfl
theorem xK:(prog.info? 302).map (·.comparable)=some true:=by kernel_rfl
theorem xL:(prog.info? 331).map (·.size)=some 1:=by kernel_rfl
theorem L3 (v:Value)(xT:TypeId)(w:World):(Instr.typeAssert (.iface 302 v) xT 193 true).run prog w=.ok (.tuple #[.nilIface,.bool false]) w:=run_typeAssert_lacksB underlying193 (by kernel_rfl) (by kernel_rfl) v xT w
theorem z4Y (v:Value)(xT:TypeId)(w:World):(Instr.typeAssert (.iface 302 v) xT 196 true).run prog w=.ok (.tuple #[.nilIface,.bool false]) w:=run_typeAssert_lacksB underlying196 (by kernel_rfl) (by kernel_rfl) v xT w
theorem z4u (v:Value)(xT:TypeId)(w:World):(Instr.typeAssert (.iface 302 v) xT 198 true).run prog w=.ok (.tuple #[.nilIface,.bool false]) w:=run_typeAssert_lacksB underlying198 (by kernel_rfl) (by kernel_rfl) v xT w
theorem z4C (args:Array Value)(w:World):(callFunc 64 args).run prog w=((Extern.ReflectliteType.typeOf args).run prog w).andThen fun v w'=> .ok (.value v) w':=
 @run_callFunc_extern prog 64 _ Extern.ReflectliteType.typeOf func64 (by kernel_rfl) (by kernel_rfl) (by kernel_rfl) (by kernel_rfl) args w
theorem y7E (args:Array Value)(w:World):(callFunc 220 args).run prog w=((Extern.ReflectliteType.method (fun t=>do Extern.Rtype.noPackHeld "Comparable" t;pure (.bool (<-typeInfo t).comparable)) args).run prog w).andThen fun v w'=> .ok (.value v) w':=
 @run_callFunc_extern prog 220 _ (Extern.ReflectliteType.method fun t=>do Extern.Rtype.noPackHeld "Comparable" t;pure (.bool (<-typeInfo t).comparable)) func220 (by kernel_rfl) (by kernel_rfl) (by kernel_rfl) (by kernel_rfl) args w
theorem YB (v:Value)(w:World):(callFunc 64 #[.iface 302 v]).run prog w=.ok (.value (.iface 191 (.agg #[.pointer (some ⟨19,302,none⟩)]))) w:=by
 rw[z4C,xJ];rfl
theorem YC (w:World):(callFunc 220 #[.agg #[.pointer (some ⟨19,302,none⟩)]]).run prog w=.ok (.value (.bool true)) w:=by
 rw[y7E,z0E];rfl
theorem Cq (a:Addr)(w:World):
    Calls prog 29 #[.iface 302 (.pointer (some a)),.iface 302 (.pointer (some a))] w fun e w'=>e=.returned (.bool true)/\w'=w:=by
 obtain⟨i,hi,Hb⟩:=zJ6.1 xK;obtain⟨j,hj,S9⟩:=zJ6.1 xL;have h8:=YB;have h32:=YC;have mR:=YA;have heq:=run_eql_iface_ptr_same (P:=prog) w a underlying42 underlying302 hi Hb hj;go_in;go_wp2;refine wQ0 1 ?_;rw[wZ9];go_wp2;go_ret;exact⟨rfl,rfl⟩
theorem xM (a b:Addr)(ca cb:Array Value)(ta tb:TypeId)(w:World)(hne:a≠b)(ha:w.heap[a.block]? =some (.cells ca ta (0,0)))(hb:w.heap[b.block]? =some (.cells cb tb (0,0))):
    Calls prog 29 #[.iface 302 (.pointer (some a)),.iface 302 (.pointer (some b))] w fun e w'=>e=.returned (.bool false)/\w'=w:=by
 obtain⟨i,hi,Hb⟩:=zJ6.1 xK;obtain⟨j,hj,S9⟩:=zJ6.1 xL;have h8:=YB;have h32:=YC;have mR:=YA;have nE:=L3;have uE:=z4Y;have vE:=z4u;have heq:=run_eql_iface_ptr_other (P:=prog) w underlying42 underlying302 hi Hb hj (by rw[S9];decide) hne ha hb;go_in;go_wp2;refine wQ0 1 ?_;rw[wZ9];go_wp2;go_ret;exact⟨rfl,rfl⟩
end
def sX:Nat->Nat
 | 1=>0 | 2=>1 | 3=>2 | 4=>3 | 5=>4
 | 6=>5 | 7=>6 | 8=>7 | 9=>8 | 10=>9
 | 11=>10 | 12=>11 | 13=>12 | 14=>13 | 15=>14
 | 16=>15 | 17=>16 | 18=>17 | 19=>18 | _=>0
def bA (E:Nat->Addr)(k:Nat):Value:=if k=0 then .nilIface else .iface 302 (.pointer (some (E k)))
theorem BK (E:Nat->Addr):bA E 0=.nilIface:=rfl
theorem xN (E:Nat->Addr)(k:Nat)(h:k≠0):bA E k=.iface 302 (.pointer (some (E k))):=by unfold bA;rw[zZ0 h]
structure bz (S:Nat->Bool)(E:Nat->Addr)(w:World):Prop where
 pos:S 0=false
 cell:∀k,S k=true->w.cell? ⟨sX k,0,none⟩=some (.iface 302 (.pointer (some (E k))))
 row:∀k,S k=true->∃cs t,w.heap[(E k).block]? =some (.cells cs t (0,0))
 ne:∀j k,S j=true->S k=true->j≠k->E j≠E k
theorem bf {w:World}{a:Addr}{v:Value}(h:w.cell? a=some v):a.block<w.heap.size:=World.block_lt_of_cell? w a h
theorem bz.ah {S:Nat->Bool}{E:Nat->Addr}{w w':World}(h:bz S E w)(g:ae w w'):bz S E w' where
 pos:=h.pos
 cell k hk:=by
  have:=h.cell k hk;rw[<-this];exact g.below.cell (p:=⟨sX k,0,none⟩) (bf this)
 row k hk:=by
  obtain⟨cs,t,hr⟩:=h.row k hk;exact⟨cs,t,(g.below.block _ (zZ2.1 hr).1).trans hr⟩
 ne:=h.ne
theorem Cr (w:World):Calls prog 10 #[.nilIface] w fun e w'=>e=.returned (.int .i64 0)/\w=w':=by
 go_in;go_wp2;go_ret;exact⟨rfl,rfl⟩
def Ta (E:Nat->Addr):Array Value:=#[.iface 302 (.pointer (some (E 1))),.iface 302 (.pointer (some (E 2))),.iface 302 (.pointer (some (E 3))),.iface 302 (.pointer (some (E 4))),.iface 302 (.pointer (some (E 5))),.iface 302 (.pointer (some (E 6))),.iface 302 (.pointer (some (E 7))),.iface 302 (.pointer (some (E 8))),.iface 302 (.pointer (some (E 9))),.iface 302 (.pointer (some (E 10))),.iface 302 (.pointer (some (E 11))),.iface 302 (.pointer (some (E 12))),.iface 302 (.pointer (some (E 13))),.iface 302 (.pointer (some (E 14))),.iface 302 (.pointer (some (E 15))),.iface 302 (.pointer (some (E 16))),.iface 302 (.pointer (some (E 17))),.iface 302 (.pointer (some (E 18))),.iface 302 (.pointer (some (E 19)))]
theorem z0S (E:Nat->Addr)(i:Nat)(h:i<19):(Ta E)[i]? =some (.iface 302 (.pointer (some (E (i+1))))):=by
 match i,h with
 | 0,_=>rfl
 | 1,_=>rfl
 | 2,_=>rfl
 | 3,_=>rfl
 | 4,_=>rfl
 | 5,_=>rfl
 | 6,_=>rfl
 | 7,_=>rfl
 | 8,_=>rfl
 | 9,_=>rfl
 | 10,_=>rfl
 | 11,_=>rfl
 | 12,_=>rfl
 | 13,_=>rfl
 | 14,_=>rfl
 | 15,_=>rfl
 | 16,_=>rfl
 | 17,_=>rfl
 | 18,_=>rfl
 | n+19,h=>omega
def mC (k:Nat):Bool:=decide (1<=k) && decide (k<=19)
theorem Cs (E:Nat->Addr)(k:Nat)(fV:1<=k)(hk2:k<=19)(w:World)(hE:bz mC E w):
    Calls prog 10 #[.iface 302 (.pointer (some (E k)))] w fun e w'=>e=.returned (.int .i64 k)/\ae w w':=by
 have c1:w.cell? ⟨0,0,none⟩=some (.iface 302 (.pointer (some (E 1)))):=hE.cell 1 (by decide);have c2:w.cell? ⟨1,0,none⟩=some (.iface 302 (.pointer (some (E 2)))):=hE.cell 2 (by decide);have c3:w.cell? ⟨2,0,none⟩=some (.iface 302 (.pointer (some (E 3)))):=hE.cell 3 (by decide);have c4:w.cell? ⟨3,0,none⟩=some (.iface 302 (.pointer (some (E 4)))):=hE.cell 4 (by decide);have c5:w.cell? ⟨4,0,none⟩=some (.iface 302 (.pointer (some (E 5)))):=hE.cell 5 (by decide);have c6:w.cell? ⟨5,0,none⟩=some (.iface 302 (.pointer (some (E 6)))):=hE.cell 6 (by decide);have c7:w.cell? ⟨6,0,none⟩=some (.iface 302 (.pointer (some (E 7)))):=hE.cell 7 (by decide);have c8:w.cell? ⟨7,0,none⟩=some (.iface 302 (.pointer (some (E 8)))):=hE.cell 8 (by decide);have c9:w.cell? ⟨8,0,none⟩=some (.iface 302 (.pointer (some (E 9)))):=hE.cell 9 (by decide);have c10:w.cell? ⟨9,0,none⟩=some (.iface 302 (.pointer (some (E 10)))):=hE.cell 10 (by decide);have c11:w.cell? ⟨10,0,none⟩=some (.iface 302 (.pointer (some (E 11)))):=hE.cell 11 (by decide);have c12:w.cell? ⟨11,0,none⟩=some (.iface 302 (.pointer (some (E 12)))):=hE.cell 12 (by decide);have c13:w.cell? ⟨12,0,none⟩=some (.iface 302 (.pointer (some (E 13)))):=hE.cell 13 (by decide);have c14:w.cell? ⟨13,0,none⟩=some (.iface 302 (.pointer (some (E 14)))):=hE.cell 14 (by decide);have c15:w.cell? ⟨14,0,none⟩=some (.iface 302 (.pointer (some (E 15)))):=hE.cell 15 (by decide);have c16:w.cell? ⟨15,0,none⟩=some (.iface 302 (.pointer (some (E 16)))):=hE.cell 16 (by decide);have c17:w.cell? ⟨16,0,none⟩=some (.iface 302 (.pointer (some (E 17)))):=hE.cell 17 (by decide);have c18:w.cell? ⟨17,0,none⟩=some (.iface 302 (.pointer (some (E 18)))):=hE.cell 18 (by decide);have c19:w.cell? ⟨18,0,none⟩=some (.iface 302 (.pointer (some (E 19)))):=hE.cell 19 (by decide);go_in;go_wp2;obtain⟨W1,hW1⟩:∃W1,W1=w.alloc (.cells (Ta E) 42):=⟨_,rfl⟩
 have hcell:∀n,n<19->W1.cell? ⟨w.heap.size,n,none⟩=some (.iface 302 (.pointer (some (E (n+1))))):=fun n hn=>by
  rw[hW1,wQ1 _ w.heap.size n (Ta E) 42 (0,0) (wZ0 w _),z0S E n hn]
 have hG:ae w W1:=by rw[hW1];exact(ae.rf w).alloc _
 have KE:bz mC E W1:=hE.ah hG;have YD:w.alloc (Obj.cells #[.iface 302 (.pointer (some (E 1))),.iface 302 (.pointer (some (E 2))),.iface 302 (.pointer (some (E 3))),.iface 302 (.pointer (some (E 4))),.iface 302 (.pointer (some (E 5))),.iface 302 (.pointer (some (E 6))),.iface 302 (.pointer (some (E 7))),.iface 302 (.pointer (some (E 8))),.iface 302 (.pointer (some (E 9))),.iface 302 (.pointer (some (E 10))),.iface 302 (.pointer (some (E 11))),.iface 302 (.pointer (some (E 12))),.iface 302 (.pointer (some (E 13))),.iface 302 (.pointer (some (E 14))),.iface 302 (.pointer (some (E 15))),.iface 302 (.pointer (some (E 16))),.iface 302 (.pointer (some (E 17))),.iface 302 (.pointer (some (E 18))),.iface 302 (.pointer (some (E 19)))] 42)=W1:=hW1.symm;rw[YD];clear YD hW1 c1 c2 c3 c4 c5 c6 c7 c8 c9 c10 c11 c12 c13 c14 c15 c16 c17 c18 c19;have HC:=af hcell;clear hcell;go_loop [4,5,30] (fun _ _ i=>∃n:Nat,i=.int .i64 n/\n<k) (fun _ _ i=>19 - (intOf i).toNat);exact⟨0,rfl,by omega⟩;obtain⟨n,rfl,hn⟩:=hrel;have hc:=HC n (by omega);by_cases he:n+1=k
 . subst he;go_wp2_with (go_at_call 29;refine(Cq _ _).mono ?_;rintro e w' ⟨rfl,rfl⟩);go_ret;exact⟨jl (by omega),hG⟩
 . obtain⟨ca,ta,YE⟩:=KE.row k (by simp[mC];omega);obtain⟨cb,tb,kd⟩:=KE.row (n+1) (by simp[mC];omega);have hne:=KE.ne k (n+1) (by simp[mC];omega) (by simp[mC];omega) (by omega);have hcon:=af (xM (E k) (E (n+1)) ca cb ta tb W1 hne YE kd);clear YE kd hne;go_wp2_with (go_at_call 29;refine hcon.out.mono ?_;rintro e w' ⟨rfl,rfl⟩);go_round;case rel=>exact⟨n+1,by go_num,by omega⟩
   case measure=>simp[intOf];omega
namespace Pl
def count (s:ByteArray):Int:=match bJ s.data.toList with | none=> -1 | some l=>l.length
def lG (c:Nat):Bool:=decide (c<32) || decide (c=127)
def kZ (l:List Nat):Nat:=if l.length=0 then 2 else if 24<l.length then 3 else if l.any lG then 7 else 0
def aT (s:ByteArray):Nat:=match bJ s.data.toList with | none=>6 | some l=>kZ l
theorem Tb (s:ByteArray)(p:Nat)(r:List Nat)(hp:p<s.size)(h:nc s p=some r):
    ∃t,r=(Utf8.decode s p).1::t/\nc s (p+(Utf8.decode s p).2)=some t/\p+(Utf8.decode s p).2<=s.size/\1<=(Utf8.decode s p).2:=by
 rw[S7 s p hp]at h;split at h
 . cases h
 . next hne=>
   simp only[zJ6]at h;obtain⟨t,ht,rfl⟩:=h;have e:=KD s p;rw[zZ0 hne]at e;exact⟨t,rfl,ht,Yz s p hp hne,(LY _ (Fh s p hp) _ e).1⟩
theorem YF (s:ByteArray)(p:Nat)(r:List Nat)(hp:¬p<s.size)(h:nc s p=some r):r=[]:=by
 rw[LZ s p hp]at h;exact(Option.some.inj h).symm
theorem Hc:∀(n:Nat) (l:List UInt8) (r:List Nat),l.length<=n->bJ l=some r->r.length<=l.length:=by
 intro n;induction n with
 | zero=>
  intro l r hl h;have:l=[]:=zX2 (by omega);subst this;rw[xH]at h;cases h;simp
 | succ n ih=>
  intro l r hl h;by_cases e:l=[]
  . subst e;rw[xH]at h;cases h;simp
  . rw[vF l e]at h;cases hs:bT l with
    | none=>rw[hs]at h;cases h
    | some d=>
     rw[hs]at h;simp only[zX4,zJ6]at h;obtain⟨t,ht,rfl⟩:=h;have hp:=LY l e d hs;have:=ih (l.drop d.2) t (by simp;omega) ht;simp at this ⊢;omega
end Pl
theorem Qp (s:ByteArray)(w:World)(hs:s.size<=140737488351232):
    Calls prog 126 #[.string s] w fun e w'=>e=.returned (.int .i64 (Pl.count s))/\ae w w':=by
 cases hr:Pl.bJ s.data.toList with
 | none=>
  have hq:Pl.right s=false:=by unfold Pl.right;rw[hr];rfl
  have hc:Pl.count s= -1:=by unfold Pl.count;rw[hr]
  have HC:=af hc;clear hc hr;go_in;go_wp2_with (go_at_call 141;refine(sW _ _ hs).mono ?_;rintro e w' ⟨rfl,p,rfl⟩);go_ret;exact⟨jl HC.symm,(ae.rf w).iter _ _⟩
 | some l=>
  have hq:Pl.right s=true:=by unfold Pl.right;rw[hr];rfl
  have hc:Pl.count s=l.length:=by unfold Pl.count;rw[hr]
  have hl:l.length<=s.size:=by simpa using Hc _ _ l (zZ3 _) hr
  have HC:=af hc;have HR:=af hr;clear hc hr;go_in;go_wp2_with (go_at_call 141;refine(sW _ _ hs).mono ?_;rintro e w' ⟨rfl,p,rfl⟩);obtain⟨W1,hW1⟩:∃W1,W1=w.iter s p:=⟨_,rfl⟩
  have hG:ae w W1:=by rw[hW1];exact(ae.rf w).iter _ _
  rw[<-hW1];clear hW1;go_wp2;go_loopw [3] (fun n w'=>∃(q k:Nat) (r:List Nat),n=.int .i64 k/\w'=W1.iter s q/\q<=s.size/\Hid (nc s q=some r)/\Hid (k+r.length=l.length)/\k<=l.length) (fun _ w'=>s.size - w'.iterPos W1.heap.size);exact⟨0,0,l,rfl,rfl,zZ5 _,HR,by simp[Hid],by omega⟩;obtain⟨q,k,r,rfl,rfl,Fj,HA,HL,hkl⟩:=hrel;by_cases hp:q<s.size
  . have ez:∀ty,(Instr.next (.pointer (some ⟨W1.heap.size,0,none⟩)) true ty).run prog (W1.iter s q)=_:=fun ty=>run_next_any W1 s q ty hp;have HN:=af (Tb s q r hp HA);go_wp2;obtain⟨t,rfl,ht,h1,h2⟩:=HN.out;have bK:=HL.out;simp only[zQ6]at bK;go_roundw;case rel=>exact⟨_,k+1,t,by go_num,rfl,h1,ht,by unfold Hid;omega,by omega⟩
    case measure=>simp;omega
  . have ez:∀ty,(Instr.next (.pointer (some ⟨W1.heap.size,0,none⟩)) true ty).run prog (W1.iter s q)=_:=fun ty=>run_next_end W1 s q ty hp;have HN:=af (YF s q r hp HA);go_wp2;go_ret;have e1:=HN.out;have bK:=HL.out;rw[e1]at bK;simp at bK;exact⟨jl (by rw[HC.out];omega),hG.iter _ _⟩
theorem z6w (W:World)(s:ByteArray)(p g:Nat)(v:Value)(h:W.cell? ⟨g,0,none⟩=some v):(W.iter s p).cell? ⟨g,0,none⟩=some v:=
 ((ae.rf W).iter s p).below.cell (p:=⟨g,0,none⟩) (bf h) |>.trans h
theorem qb (S:Nat->Bool)(E:Nat->Addr)(h2:S 2=true)(h3:S 3=true)(h6:S 6=true)(h7:S 7=true)(s:ByteArray)(w:World)(hs:s.size<=140737488351232)(hE:bz S E w):
    Calls prog 86 #[.string s] w fun e w'=>e=.returned (bA E (Pl.aT s))/\ae w w':=by
 have HE:=af hE;clear hE;cases hr:Pl.bJ s.data.toList with
 | none=>
  have hc:Pl.count s= -1:=by unfold Pl.count;rw[hr]
  have hk:Pl.aT s=6:=by unfold Pl.aT;rw[hr]
  have HC:=af hc;have HK:=af hk;clear hc hr hk;go_in;go_wp2_with (go_at_call 126;refine(Qp _ _ hs).mono ?_;rw[HC.out];rintro e W1 ⟨rfl,hG⟩;have c6:W1.cell? ⟨5,0,none⟩=some (.iface 302 (.pointer (some (E 6)))):=(HE.ah hG).cell 6 h6);go_ret;exact⟨KB (by rw[HK.out];rfl),hG⟩
 | some l=>
  have hc:Pl.count s=(l.length:Int):=by unfold Pl.count;rw[hr]
  have hk:Pl.aT s=kZ l:=by unfold Pl.aT;rw[hr]
  have hl:l.length<=s.size:=by simpa using Hc _ _ l (zZ3 _) hr
  have HC:=af hc;have HK:=af hk;have HR:=af hr;clear hc hr hk;by_cases l0:l.length=0
  . have hk2:kZ l=2:=(by unfold kZ;rw[zZ1 l0]);have je:Hid (Pl.count s=0):=(by unfold Hid;rw[HC.out,l0];rfl);have vG:=af hk2;clear hk2 l0;go_in;go_wp2_with (go_at_call 126;refine(Qp _ _ hs).mono ?_;rw[je.out];rintro e W1 ⟨rfl,hG⟩;have c6:W1.cell? ⟨1,0,none⟩=some (.iface 302 (.pointer (some (E 2)))):=(HE.ah hG).cell 2 h2);go_ret;exact⟨KB (by rw[HK.out,vG.out];rfl),hG⟩
  . by_cases L4:24<l.length
    . have hk2:kZ l=3:=(by unfold kZ;rw[zZ0 l0,zZ1 L4]);have vG:=af hk2;clear hk2;go_in;go_wp2_with (go_at_call 126;refine(Qp _ _ hs).mono ?_;rw[HC.out];rintro e W1 ⟨rfl,hG⟩;have c6:W1.cell? ⟨2,0,none⟩=some (.iface 302 (.pointer (some (E 3)))):=(HE.ah hG).cell 3 h3);go_ret;exact⟨KB (by rw[HK.out,vG.out];rfl),hG⟩
    . have hk2:kZ l=if l.any lG then 7 else 0:=by unfold kZ;rw[zZ0 l0,zZ0 L4]
      have vG:=af hk2;clear hk2;have b0:((l.length:Int)==0)=false:=wZ3.2 (by omega);have b1:decide ((l.length:Int)<0)=false:=(by simp);have b2:decide ((24:Int)<(l.length:Int))=false:=(by simp;omega);go_in;go_wp2_with (go_at_call 126;refine(Qp _ _ hs).mono ?_;rw[HC.out];rintro e W1 ⟨rfl,hG⟩);have KE:=HE.ah hG;have c7:W1.cell? ⟨6,0,none⟩=some (.iface 302 (.pointer (some (E 7)))):=KE.cell 7 h7;clear KE;go_loopw [5] (fun _ w'=>∃(q:Nat) (r:List Nat),w'=W1.iter s q/\q<=s.size/\Hid (nc s q=some r)/\Hid (r.any lG=l.any lG)) (fun _ w'=>s.size - w'.iterPos W1.heap.size);exact⟨0,l,rfl,zZ5 _,HR,rfl⟩;obtain⟨q,r,rfl,Fj,HA,HL⟩:=hrel;by_cases hp:q<s.size
      . have ez:∀ty,(Instr.next (.pointer (some ⟨W1.heap.size,0,none⟩)) true ty).run prog (W1.iter s q)=_:=fun ty=>run_next_any W1 s q ty hp;have HN:=af (Tb s q r hp HA);have c7':=z6w W1 s (q+(Utf8.decode s q).2) 6 _ c7;go_wp2
        . obtain⟨t,rfl,ht,h1,h2⟩:=HN.out;have g1:(32:Int)<=(Utf8.decode s q).1:=(by assumption);have g2:((Utf8.decode s q).1:Int)<32\/(((Utf8.decode s q).1:Int)==127)=true:=(by assumption);have g3:(Utf8.decode s q).1=127:=(by rcases g2 with g2 | g2;exact absurd g2 (by omega);have:=eq_of_beq g2;omega);have hb:l.any lG=true:=(by rw[<-HL.out];simp[lG,g3]);go_ret;exact⟨KB (by rw[HK.out,vG.out,zZ1 hb];rfl),hG.iter _ _⟩
        . obtain⟨t,rfl,ht,h1,h2⟩:=HN.out;have g2:(32:Int)<=(Utf8.decode s q).1/\(((Utf8.decode s q).1:Int)==127)=false:=(by assumption);have g3:lG (Utf8.decode s q).1=false:=(by simp[lG]at g2 ⊢;omega);go_roundw;case rel=>exact⟨_,t,rfl,h1,ht,by unfold Hid;rw[<-HL.out];simp[g3]⟩
          case measure=>simp;omega
        . obtain⟨t,rfl,ht,h1,h2⟩:=HN.out;have g1:((Utf8.decode s q).1:Int)<32:=(by assumption);have hb:l.any lG=true:=by
           have g3:lG (Utf8.decode s q).1=true:=(by simp[lG];omega);rw[<-HL.out];simp[g3]
          go_ret;exact⟨KB (by rw[HK.out,vG.out,zZ1 hb];rfl),hG.iter _ _⟩
      . have ez:∀ty,(Instr.next (.pointer (some ⟨W1.heap.size,0,none⟩)) true ty).run prog (W1.iter s q)=_:=fun ty=>run_next_end W1 s q ty hp;have HN:=af (YF s q r hp HA);go_wp2;go_ret;have e1:=HN.out;have bK:=HL.out;rw[e1]at bK;simp at bK;exact⟨KB (by rw[HK.out,vG.out,zZ0 (by simpa using bK)];rfl),hG.iter _ _⟩
namespace Pl
def uB (a b:Int):Int:=if a<b then -1 else if b<a then 1 else 0
def ij:List Nat->List Nat->Int
 | [],[]=>0
 | [],_::_=> -1
 | _::_,[]=>1
 | a::x,b::y=>if a<b then -1 else if b<a then 1 else ij x y
def cU (a b:ByteArray):Int:=match bJ a.data.toList,bJ b.data.toList with | some x,some y=>ij x y | _,_=>0
end Pl
theorem xO (a b:Int)(w:World):Calls prog 151 #[.int .i32 a,.int .i32 b] w fun e w'=>e=.returned (.int .i64 (uB a b))/\w=w':=by
 by_cases h1:a<b
 . have e:uB a b= -1:=(by unfold uB;rw[zZ1 h1]);rw[e];go_in;go_wp2;go_ret;exact⟨rfl,rfl⟩
 . by_cases h2:b<a
   . have e:uB a b=1:=(by unfold uB;rw[zZ0 h1,zZ1 h2]);rw[e];go_in;go_wp2;go_ret;exact⟨rfl,rfl⟩
   . have e:uB a b=0:=(by unfold uB;rw[zZ0 h1,zZ0 h2]);rw[e];go_in;go_wp2;go_ret;exact⟨rfl,rfl⟩
theorem Tc (a b:Int)(w:World):Calls prog 150 #[.int .i32 a,.int .i32 b] w fun e w'=>e=.returned (.int .i64 (uB a b))/\w=w':=by
 go_in;go_wp2_with (go_at_call 151;refine(xO a b _).mono ?_;rintro e w' ⟨rfl,rfl⟩);go_ret;exact⟨rfl,rfl⟩
def Hd (w:World)(v:Value)(l:List Nat):Prop:=
 ∃b cap,v=.slice (some ⟨b,0,none⟩) l.length cap/\∀i,i<l.length->w.cell? ⟨b,i,none⟩=some (.int .i32 (l.getD i 0:Nat))
theorem YG (s:ByteArray):∀(n p:Nat) (r:List Nat) (acc:Array Value),s.size<=p+n->nc s p=some r->
    Conv.runesFrom s n p acc=acc++(r.map fun c=>Value.int .i32 (c:Nat)).toArray:=by
 intro n;induction n with
 | zero=>
  intro p r acc hn h;rw[Pl.LZ s p (by omega)]at h;cases h;simp[Conv.runesFrom]
 | succ n ih=>
  intro p r acc hn h;unfold Conv.runesFrom;by_cases hp:p<s.size
  . obtain⟨t,rfl,ht,h1,h2⟩:=Tb s p r hp h;rw[zZ1 hp];show Conv.runesFrom s n (p+(Utf8.decode s p).2) (acc.push (.int .i32 (Int.ofNat (Utf8.decode s p).1)))=_;rw[ih _ t _ (by omega) ht];apply Array.ext';simp
  . rw[Pl.LZ s p hp]at h;cases h;rw[zZ0 hp];simp
theorem YH (s:ByteArray)(l:List Nat)(w:World)(hs:s.size<=70368744177664)(hr:Pl.bJ s.data.toList=some l):
    Calls prog 149 #[.string s] w fun e w'=>∃v,e=.returned v/\Hd w' v l/\ae w w':=by
 have hq:Pl.right s=true:=by unfold Pl.right;rw[hr];rfl
 have hf:Conv.runesFrom s s.size 0 #[]=(l.map fun c=>Value.int .i32 (c:Nat)).toArray:=by
  rw[YG s s.size 0 l #[] (by omega) hr];simp
 have hcv:=fun W=>run_runes_of_string (P:=prog) W 9 255 21 s underlying9 underlying255 underlying21 (by have:=size_runesFrom s s.size 0 #[];simp at this;omega);rw[hf]at hcv;have HF:=af hf;have HR:=af hr;clear hf hr;go_in;go_wp2_with (go_at_call 141;refine(sW _ _ (by omega)).mono ?_;rintro e w' ⟨rfl,p,rfl⟩);go_ret;refine⟨_,rfl,⟨_,_,rfl,fun i hi=>?_⟩,(((ae.rf w).iter _ _).alloc _).drew⟩;show(World.alloc _ _).cell? _=_;rw[wQ1 _ _ _ _ _ _ (wZ0 _ _),Array.getElem?_append_left (by simpa using hi)];simp[hi]
theorem Hd.ah {w w':World}{v:Value}{l:List Nat}(h:Hd w v l)(g:ae w w'):Hd w' v l:=by
 obtain⟨b,cap,rfl,hc⟩:=h;refine⟨b,cap,rfl,fun i hi=>?_⟩;rw[<-hc i hi];exact g.below.cell (p:=⟨b,i,none⟩) (bf (hc i hi))
namespace Pl
theorem y9L (x y:List Nat)(n:Nat)(h1:n<x.length)(h2:n<y.length):
    ij (x.drop n) (y.drop n)=if x.getD n 0<y.getD n 0 then -1 else if y.getD n 0<x.getD n 0 then 1 else ij (x.drop (n+1)) (y.drop (n+1)):=by
 rw[yK5 h1,yK5 h2];have e1:x.getD n 0=x[n]:=by rw[yX1,zQ5 h1];rfl
 have e2:y.getD n 0=y[n]:=by rw[yX1,zQ5 h2];rfl
 rw[e1,e2];rfl
theorem y9H (x y:List Nat)(n:Nat)(h1:n<x.length)(h2:¬n<y.length):ij (x.drop n) (y.drop n)=1:=by
 rw[yK5 h1,yZ9 (by omega:y.length<=n)];rfl
theorem y9f (x y:List Nat)(n:Nat)(h1:¬n<x.length)(h2:n<y.length):ij (x.drop n) (y.drop n)= -1:=by
 rw[yK5 h2,yZ9 (by omega:x.length<=n)];rfl
theorem z0M (x y:List Nat)(n:Nat)(h1:¬n<x.length)(h2:¬n<y.length):ij (x.drop n) (y.drop n)=0:=by
 rw[yZ9 (by omega:y.length<=n),yZ9 (by omega:x.length<=n)];rfl
end Pl
theorem YI (v1 v2:Value)(x y:List Nat)(w:World)(h1:Hd w v1 x)(h2:Hd w v2 y)(hx:x.length<=140737488351232):
    Calls prog 148 #[v1,v2,.func (.func 150) #[] #[]] w fun e w'=>e=.returned (.int .i64 (ij x y))/\w=w':=by
 obtain⟨b1,j0d,rfl,hc1⟩:=h1;obtain⟨b2,ep,rfl,hc2⟩:=h2;have C1:=af hc1;have C2:=af hc2;clear hc1 hc2;go_in;go_wp2;go_loop [7,8,9,10,13] (fun _ _ _ _ i=>∃n:Nat,i=.int .i64 n/\n<=x.length/\n<=y.length/\Hid (ij (x.drop n) (y.drop n)=ij x y)) (fun _ _ _ _ i=>x.length - (intOf i).toNat);exact⟨0,rfl,zZ5 _,zZ5 _,rfl⟩;obtain⟨n,rfl,jz,iU,HN⟩:=hrel;by_cases l1:n<x.length
 . have c1:=C1.out n l1;by_cases l2:n<y.length
   . have c2:=C2.out n l2;have hst:=af (y9L x y n l1 l2);obtain⟨a,ha⟩:∃a,a=x.getD n 0:=⟨_,rfl⟩
     obtain⟨b,hb⟩:∃b,b=y.getD n 0:=⟨_,rfl⟩
     rw[<-ha]at c1;rw[<-hb]at c2;rw[<-ha,<-hb]at hst;clear ha hb;have HS:=hst;by_cases q1:a<b
     . have e:uB (a:Int) b= -1:=(by unfold uB;rw[zZ1 (by omega)]);have e2:ij x y= -1:=(by rw[<-HN.out,HS.out,zZ1 q1]);have E2:=af e2;clear e2;go_wp2_with (go_at_call 150;refine(Tc _ _ _).mono ?_;rw[e];rintro e w' ⟨rfl,rfl⟩);go_ret;exact⟨jl E2.out.symm,rfl⟩
     . by_cases q2:b<a
       . have e:uB (a:Int) b=1:=(by unfold uB;rw[zZ0 (by omega),zZ1 (by omega)]);have e2:ij x y=1:=(by rw[<-HN.out,HS.out,zZ0 q1,zZ1 q2]);have E2:=af e2;clear e2;go_wp2_with (go_at_call 150;refine(Tc _ _ _).mono ?_;rw[e];rintro e w' ⟨rfl,rfl⟩);go_ret;exact⟨jl E2.out.symm,rfl⟩
       . have e:uB (a:Int) b=0:=(by unfold uB;rw[zZ0 (by omega),zZ0 (by omega)]);have e2:ij (x.drop (n+1)) (y.drop (n+1))=ij x y:=(by rw[<-HN.out,HS.out,zZ0 q1,zZ0 q2]);have E2:=af e2;clear e2;go_wp2_with (go_at_call 150;refine(Tc _ _ _).mono ?_;rw[e];rintro e w' ⟨rfl,rfl⟩);go_round;case rel=>exact⟨n+1,by go_num,by omega,by omega,E2⟩
         case measure=>simp[intOf];omega
   . have e2:ij x y=1:=(by rw[<-HN.out,y9H x y n l1 l2]);have E2:=af e2;clear e2;go_wp2;go_ret;exact⟨jl E2.out.symm,rfl⟩
 . by_cases l2:n<y.length
   . have e2:ij x y= -1:=(by rw[<-HN.out,y9f x y n l1 l2]);have E2:=af e2;clear e2;go_wp2;go_ret;exact⟨jl E2.out.symm,rfl⟩
   . have e2:ij x y=0:=(by rw[<-HN.out,z0M x y n l1 l2]);have E2:=af e2;clear e2;go_wp2;go_ret;exact⟨jl E2.out.symm,rfl⟩
theorem L5 (a b:ByteArray)(w:World)(ha:a.size<=70368744177664)(hb:b.size<=70368744177664):
    Calls prog 127 #[.string a,.string b] w fun e w'=>e=.returned (.int .i64 (Pl.cU a b))/\ae w w':=by
 cases hr:Pl.bJ a.data.toList with
 | none=>
  have hq:Pl.right a=false:=by unfold Pl.right;rw[hr];rfl
  have hc:Pl.cU a b=0:=by unfold Pl.cU;rw[hr]
  have HC:=af hc;clear hc hr;go_in;go_wp2_with (go_at_call 141;refine(sW _ _ (by omega)).mono ?_;rintro e w' ⟨rfl,p,rfl⟩);go_ret;exact⟨jl HC.symm,(ae.rf w).iter _ _⟩
 | some x=>
  have hq:Pl.right a=true:=by unfold Pl.right;rw[hr];rfl
  cases hr2:Pl.bJ b.data.toList with
  | none=>
   have Fj:Pl.right b=false:=(by unfold Pl.right;rw[hr2];rfl);have hc:Pl.cU a b=0:=(by unfold Pl.cU;rw[hr,hr2]);have HC:=af hc;clear hc hr hr2;go_in;go_wp2_with fail;refine(sW a _ (by omega)).mono ?_;rintro e w' ⟨rfl,p,rfl⟩;go_wp2_with fail;refine(sW b _ (by omega)).mono ?_;rintro e w' ⟨rfl,q,rfl⟩;go_wp2_with fail;go_ret;exact⟨jl HC.symm,((ae.rf w).iter _ _).iter _ _⟩
  | some y=>
   have Fj:Pl.right b=true:=(by unfold Pl.right;rw[hr2];rfl);have hc:Pl.cU a b=ij x y:=(by unfold Pl.cU;rw[hr,hr2]);have hx:x.length<=a.size:=(by simpa using Hc _ _ x (zZ3 _) hr);have hy:y.length<=b.size:=(by simpa using Hc _ _ y (zZ3 _) hr2);have HC:=af hc;have HR:=af hr;have jf:=af hr2;clear hc hr hr2;go_in;go_wp2_with fail;refine(sW a _ (by omega)).mono ?_;rintro e w' ⟨rfl,p,rfl⟩;go_wp2_with fail;refine(sW b _ (by omega)).mono ?_;rintro e w' ⟨rfl,q,rfl⟩;go_wp2_with fail;refine(YH a x _ ha HR).mono ?_;rintro e w1 ⟨v1,rfl,L6,aR⟩;go_wp2_with fail;refine(YH b y _ hb jf).mono ?_;rintro e w2 ⟨v2,rfl,hv2,aP⟩;go_wp2_with fail;refine(YI v1 v2 x y _ (L6.ah aP) hv2 (by omega)).mono ?_;rintro e w' ⟨rfl,rfl⟩;go_wp2_with fail;go_ret;exact⟨jl HC.symm,(((ae.rf w).iter _ _).iter _ _).trans (aR.trans aP)⟩
namespace Pl
def isKey (s:ByteArray):Bool:=decide (aT s=0)
def bm (s:ByteArray):Bool:=s.toList.isEmpty
def eG (s:ByteArray):Bool:=bm s || isKey s
def dv (key hi:ByteArray):Bool:=bm hi || decide (cU key hi<0)
def bD (lo hi:ByteArray):Bool:=eG lo && eG hi && dv lo hi
def bk (lo hi key:ByteArray):Bool:=bD lo hi && isKey key && decide (0<=cU key lo) && dv key hi
end Pl
theorem Qq (E:Nat->Addr)(s:ByteArray)(h:Pl.isKey s=true):bA E (Pl.aT s)=.nilIface:=by
 unfold Pl.isKey at h;rw[wQ3 h];rfl
theorem Qr (E:Nat->Addr)(s:ByteArray)(h:Pl.isKey s=false):bA E (Pl.aT s)=.iface 302 (.pointer (some (E (Pl.aT s)))):=
 xN E _ (of_decide_eq_false h)
def mD (S:Nat->Bool):Prop:=S 2=true/\S 3=true/\S 6=true/\S 7=true
theorem L8 (S:Nat->Bool)(E:Nat->Addr)(hS:mD S)(s:ByteArray)(w:World)(hs:s.size<=140737488351232)(hE:bz S E w):
    Calls prog 93 #[.string s] w fun e w'=>e=.returned (.bool (eG s))/\ae w w':=by
 obtain⟨h2,h3,h6,h7⟩:=hS;have bX:=qb S E h2 h3 h6 h7 s w hs hE;clear h2 h3 h6 h7 hE;cases he:s.toList.isEmpty with
 | true=>
  have e:eG s=true:=by unfold eG bm;rw[he];rfl
  have e2:s.toList=[]:=by simpa using he
  have HE:=af e;clear e bX;go_in;go_wp2;go_ret;exact⟨bS HE.symm,ae.rf _⟩
 | false=>
  have e2:(!s.toList.isEmpty)=true:=by rw[he];rfl
  have e3:¬s.toList=[]:=by simpa using he
  cases hk:Pl.isKey s with
  | true=>
   have e:eG s=true:=(by unfold eG;rw[hk];simp);have HE:=af e;rw[Qq E s hk]at bX;have HK:=af bX;clear e hk bX;go_in;go_wp2_with (go_at_call 86;refine HK.mono ?_;rintro e w' ⟨rfl,hg⟩);go_ret;exact⟨bS HE.symm,by assumption⟩
  | false=>
   have e:eG s=false:=(by unfold eG bm;rw[hk,he];rfl);have HE:=af e;rw[Qr E s hk]at bX;have HK:=af bX;clear e hk bX;go_in;go_wp2_with (go_at_call 86;refine HK.mono ?_;rintro e w' ⟨rfl,hg⟩);go_ret;exact⟨bS HE.symm,by assumption⟩
theorem YJ (key hi:ByteArray)(w:World)(hk:key.size<=70368744177664)(hh:hi.size<=70368744177664):
    Calls prog 94 #[.string key,.string hi] w fun e w'=>e=.returned (.bool (dv key hi))/\ae w w':=by
 cases he:hi.toList.isEmpty with
 | true=>
  have e:dv key hi=true:=by unfold dv bm;rw[he];rfl
  have e2:hi.toList=[]:=by simpa using he
  have HE:=af e;clear e;go_in;go_wp2;go_ret;exact⟨bS HE.symm,ae.rf _⟩
 | false=>
  have e2:(!hi.toList.isEmpty)=true:=by rw[he];rfl
  have e3:¬hi.toList=[]:=by simpa using he
  have e:dv key hi=decide (Pl.cU key hi<0):=by unfold dv bm;rw[he];rfl
  have HE:=af e;clear e;go_in;go_wp2_with (go_at_call 127;refine(L5 _ _ _ hk hh).mono ?_;rintro e w' ⟨rfl,hg⟩);go_ret;exact⟨bS HE.symm,by assumption⟩
theorem lN (S:Nat->Bool)(E:Nat->Addr)(hS:mD S)(lo hi:ByteArray)(w:World)(hl:lo.size<=70368744177664)(hh:hi.size<=70368744177664)(hE:bz S E w):
    Calls prog 48 #[.agg #[.string lo,.string hi]] w fun e w'=>e=.returned (.bool (Pl.bD lo hi))/\ae w w':=by
 have HE:=af hE;have hle:lo.size<=140737488351232:=by omega
 have YK:hi.size<=140737488351232:=by omega
 clear hE;cases h1:eG lo with
 | false=>
  have hr:Pl.bD lo hi=false:=by unfold Pl.bD;rw[h1];rfl
  have HR:=af hr;clear hr;go_in;go_wp2_with fail;refine(L8 S E hS lo _ hle (HE.ah ((ae.rf w).alloc _))).mono ?_;rintro e w1 ⟨rfl,hg⟩;go_wp2_with fail;go_ret;exact⟨bS HR.symm,((ae.rf w).alloc _).trans hg⟩
 | true=>
  cases h2:eG hi with
  | false=>
   have hr:Pl.bD lo hi=false:=(by unfold Pl.bD;rw[h1,h2];rfl);have HR:=af hr;clear hr;go_in;go_wp2_with fail;refine(L8 S E hS lo _ hle (HE.ah ((ae.rf w).alloc _))).mono ?_;rintro e w1 ⟨rfl,hg⟩;have hG:ae w w1:=hg.jy;obtain⟨hc,_⟩:=hg.cells;go_wp2_with fail;refine(L8 S E hS hi _ YK (HE.ah hG)).mono ?_;rintro e w2 ⟨rfl,aP⟩;go_wp2_with fail;go_ret;exact⟨bS HR.symm,hG.trans aP⟩
  | true=>
   have hr:Pl.bD lo hi=dv lo hi:=(by unfold Pl.bD;rw[h1,h2];rfl);have HR:=af hr;clear hr;go_in;go_wp2_with fail;refine(L8 S E hS lo _ hle (HE.ah ((ae.rf w).alloc _))).mono ?_;rintro e w1 ⟨rfl,hg⟩;have hG:ae w w1:=hg.jy;obtain⟨hc,_⟩:=hg.cells;go_wp2_with fail;refine(L8 S E hS hi _ YK (HE.ah hG)).mono ?_;rintro e w2 ⟨rfl,aP⟩;have hz:w.heap.size<w1.heap.size:=(by have:=hg.size;simp at this;omega);obtain⟨hc2,_⟩:=aP.cells;go_wp2_with fail;refine(YJ lo hi _ hl hh).mono ?_;rintro e w3 ⟨rfl,hg3⟩;go_wp2_with fail;go_ret;exact⟨bS HR.symm,(hG.trans aP).trans hg3⟩
theorem He (S:Nat->Bool)(E:Nat->Addr)(hS:mD S)(lo hi key:ByteArray)(w:World)(hl:lo.size<=70368744177664)(hh:hi.size<=70368744177664)(hk:key.size<=70368744177664)(hE:bz S E w):
    Calls prog 89 #[.agg #[.string lo,.string hi],.string key] w fun e w'=>e=.returned (.bool (Pl.bk lo hi key))/\ae w w':=by
 have HE:=af hE;obtain⟨s2,s3,s6,s7⟩:=id hS;clear hE;cases h1:Pl.bD lo hi with
 | false=>
  have hr:Pl.bk lo hi key=false:=by unfold Pl.bk;rw[h1];rfl
  have HR:=af hr;clear hr;go_in;go_wp2_with fail;refine(lN S E hS lo hi _ hl hh (HE.ah ((ae.rf w).alloc _))).mono ?_;rintro e w1 ⟨rfl,hg⟩;go_wp2_with fail;go_ret;exact⟨bS HR.symm,((ae.rf w).alloc _).trans hg⟩
 | true=>
  cases h2:Pl.isKey key with
  | false=>
   have hr:Pl.bk lo hi key=false:=(by unfold Pl.bk;rw[h1,h2];rfl);have HR:=af hr;have HK:=af (Qr E key h2);clear hr;go_in;go_wp2_with fail;refine(lN S E hS lo hi _ hl hh (HE.ah ((ae.rf w).alloc _))).mono ?_;rintro e w1 ⟨rfl,hg⟩;have hG:ae w w1:=hg.jy;go_wp2_with fail;refine(qb S E s2 s3 s6 s7 key _ (by omega) (HE.ah hG)).mono ?_;rw[HK.out];rintro e w2 ⟨rfl,aP⟩;go_wp2_with fail;go_ret;exact⟨bS HR.symm,hG.trans aP⟩
  | true=>
   have HK:=af (Qq E key h2);by_cases h3:0<=Pl.cU key lo
   . have hr:Pl.bk lo hi key=dv key hi:=(by unfold Pl.bk;rw[h1,h2,wZ5 h3];rfl);have HR:=af hr;clear hr;go_in;go_wp2_with fail;refine(lN S E hS lo hi _ hl hh (HE.ah ((ae.rf w).alloc _))).mono ?_;rintro e w1 ⟨rfl,hg⟩;have hG:ae w w1:=hg.jy;have hz:w.heap.size<w1.heap.size:=(by have:=hg.size;simp at this;omega);obtain⟨hc,_⟩:=hg.cells;go_wp2_with fail;refine(qb S E s2 s3 s6 s7 key _ (by omega) (HE.ah hG)).mono ?_;rw[HK.out];rintro e w2 ⟨rfl,aP⟩;have hz2:w.heap.size<w2.heap.size:=(by have:=aP.size;omega);obtain⟨hc2,_⟩:=aP.cells;go_wp2_with fail;refine(L5 key lo _ hk hl).mono ?_;rintro e w3 ⟨rfl,hg3⟩;obtain⟨hc3,_⟩:=hg3.cells;go_wp2_with fail;refine(YJ key hi _ hk hh).mono ?_;rintro e w4 ⟨rfl,hg4⟩;go_wp2_with fail;go_ret;exact⟨bS HR.symm,((hG.trans aP).trans hg3).trans hg4⟩
   . have hr:Pl.bk lo hi key=false:=(by unfold Pl.bk;rw[h1,h2,wZ6 h3];rfl);have HR:=af hr;clear hr;go_in;go_wp2_with fail;refine(lN S E hS lo hi _ hl hh (HE.ah ((ae.rf w).alloc _))).mono ?_;rintro e w1 ⟨rfl,hg⟩;have hG:ae w w1:=hg.jy;have hz:w.heap.size<w1.heap.size:=(by have:=hg.size;simp at this;omega);obtain⟨hc,_⟩:=hg.cells;go_wp2_with fail;refine(qb S E s2 s3 s6 s7 key _ (by omega) (HE.ah hG)).mono ?_;rw[HK.out];rintro e w2 ⟨rfl,aP⟩;have hz2:w.heap.size<w2.heap.size:=(by have:=aP.size;omega);obtain⟨hc2,_⟩:=aP.cells;go_wp2_with fail;refine(L5 key lo _ hk hl).mono ?_;rintro e w3 ⟨rfl,hg3⟩;go_wp2_with fail;go_ret;exact⟨bS HR.symm,(hG.trans aP).trans hg3⟩
namespace Pl
def eA (r:Bool)(k:Nat)(h:Bool)(lo key:ByteArray):Nat:=
 if r=false then 4 else if k≠0 then k else if h=false\/key.toList=lo.toList then 1 else 0
def fX (e:Nat)(lo key:ByteArray):ByteArray×ByteArray:=if e=0 then(lo,key)else(⟨#[]⟩,⟨#[]⟩)
end Pl
abbrev cR:ByteArray:=⟨#[]⟩
def pI (S:Nat->Bool):Prop:=mD S/\S 1=true/\S 4=true
def Qs (E:Nat->Addr)(lo hi key:ByteArray)(n:Nat)(w:World)(e:Ending)(w':World):Prop:=
 e=.returned (.tuple #[.agg #[.string (fX n lo key).1,.string (fX n lo key).2],.agg #[.string (fX n key hi).1,.string (fX n key hi).2],bA E n])/\ae w w'
theorem YL (S:Nat->Bool)(E:Nat->Addr)(hS:pI S)(lo hi key:ByteArray)(w:World)(hl:lo.size<=70368744177664)(hh:hi.size<=70368744177664)(hk:key.size<=70368744177664)(hE:bz S E w):
    Calls prog 117 #[.agg #[.string lo,.string hi],.string key] w (Qs E lo hi key (Pl.eA (Pl.bD lo hi) (Pl.aT key) (Pl.bk lo hi key) lo key) w):=by
 have HE:=af hE;obtain⟨hK,s1,s4⟩:=hS;obtain⟨s2,s3,s6,s7⟩:=id hK;have b4:3<w.heap.size:=bf (hE.cell 4 s4);have b1:0<w.heap.size:=bf (hE.cell 1 s1);clear hE;cases h1:Pl.bD lo hi with
 | false=>
  have hn:Pl.eA false (Pl.aT key) (Pl.bk lo hi key) lo key=4:=rfl;rw[hn];clear hn;go_in;go_wp2_with fail;refine(lN S E hK lo hi _ hl hh (HE.ah ((((ae.rf w).alloc _).alloc _).alloc _))).mono ?_;rintro e w1 ⟨rfl,hg⟩;have hG:ae w w1:=hg.lF;obtain⟨hc,hf⟩:=hg.cells;have cw4:w.cell? ⟨3,0,none⟩=some (.iface 302 (.pointer (some (E 4)))):=HE.cell 4 s4;have c4:w1.cell? ⟨3,0,none⟩=some (.iface 302 (.pointer (some (E 4)))):=(HE.ah hG).cell 4 s4;have cT:=(hc 3 0 (by simp;omega)).symm.trans c4;go_wp2_with fail;go_region;go_wp2_with fail;refine wZ1 (v:=.tuple #[.agg #[.string cR,.string cR],.agg #[.string cR,.string cR],bA E 4]) (by simp[results,results117,go_sem,hc];rfl) rfl ⟨rfl,?_⟩;exact((((hG.setCell (by simp) _).setCell (by simp) _).setCell (by simp;omega) _).setCell (by simp;omega) _).drew
 | true=>
  cases h2:Pl.isKey key with
  | false=>
   have k0:Pl.aT key≠0:=of_decide_eq_false h2;have hn:Pl.eA true (Pl.aT key) (Pl.bk lo hi key) lo key=Pl.aT key:=(by unfold Pl.eA;rw[zZ0 (by decide),zZ1 k0]);have hA:∀a b,fX (Pl.aT key) a b=(cR,cR):=fun a b=>by unfold fX;rw[zZ0 k0]
   have HK:=af (Qr E key h2);unfold Qs;rw[hn,hA,hA,HK.out];clear hn hA k0;go_in;go_wp2_with fail;refine(lN S E hK lo hi _ hl hh (HE.ah ((((ae.rf w).alloc _).alloc _).alloc _))).mono ?_;rintro e w1 ⟨rfl,hg⟩;have hG:ae w w1:=hg.lF;have hz:=hg.oH;obtain⟨hz0,hz1,hz2⟩:=hz;obtain⟨hc,hf⟩:=hg.cells;go_wp2_with fail;refine(qb S E s2 s3 s6 s7 key _ (by omega) (HE.ah hG)).mono ?_;rw[HK.out];rintro e w2 ⟨rfl,aP⟩;obtain⟨hc2,hf2⟩:=aP.cells;have bW:ae w w2:=hG.trans aP;go_wp2_with fail;refine wZ1 (v:=.tuple #[.agg #[.string cR,.string cR],.agg #[.string cR,.string cR],.iface 302 (.pointer (some (E (Pl.aT key))))]) (by simp[results,results117,go_sem,hc,hc2,hz1,hz2]) rfl ⟨rfl,?_⟩;exact(((bW.setCell (by simp) _).setCell (by simp) _).setCell (by simp;omega) _).setCell (by simp;omega) _
  | true=>
   have k0:Pl.aT key=0:=wQ3 h2;have HK:=af (Qq E key h2);cases h3:Pl.bk lo hi key with
   | false=>
    have hn:Pl.eA true (Pl.aT key) false lo key=1:=(by unfold Pl.eA;rw[zZ0 (by decide),zZ0 (by omega),zZ1 (Or.inl rfl)]);rw[hn];clear hn k0;go_in;go_wp2_with fail;refine(lN S E hK lo hi _ hl hh (HE.ah ((((ae.rf w).alloc _).alloc _).alloc _))).mono ?_;rintro e w1 ⟨rfl,hg⟩;have hG:ae w w1:=hg.lF;have hz:=hg.oH;obtain⟨hz0,hz1,hz2⟩:=hz;obtain⟨hc,hf⟩:=hg.cells;go_wp2_with fail;refine(qb S E s2 s3 s6 s7 key _ (by omega) (HE.ah hG)).mono ?_;rw[HK.out];rintro e w2 ⟨rfl,aP⟩;obtain⟨hc2,hf2⟩:=aP.cells;have bW:ae w w2:=hG.trans aP;have hy:w.heap.size<w2.heap.size/\w.heap.size+1<w2.heap.size/\w.heap.size+1+1<w2.heap.size:=(by have:=aP.size;omega);obtain⟨o6,mE,xP⟩:=hy;go_wp2_with fail;refine(He S E hK lo hi key _ hl hh hk (HE.ah bW)).mono ?_;rintro e w3 ⟨rfl,hg3⟩;obtain⟨hc3,hf3⟩:=hg3.cells;have k6:ae w w3:=bW.trans hg3;have c1:w3.cell? ⟨0,0,none⟩=some (.iface 302 (.pointer (some (E 1)))):=(HE.ah k6).cell 1 s1;go_wp2_with fail;go_region;go_wp2_with fail;refine wZ1 (v:=.tuple #[.agg #[.string cR,.string cR],.agg #[.string cR,.string cR],bA E 1]) (by simp[results,results117,go_sem,hc,hc2,hc3,hz1,hz2,mE,xP];rfl) rfl ⟨rfl,?_⟩;exact((((k6.setCell (by simp) _).setCell (by simp) _).setCell (by simp;omega) _).setCell (by simp;omega) _).drew
   | true=>
    by_cases h4:key.toList=lo.toList
    . have hn:Pl.eA true (Pl.aT key) true lo key=1:=(by unfold Pl.eA;rw[zZ0 (by decide),zZ0 (by omega),zZ1 (Or.inr h4)]);rw[hn];have h5:(key.toList==lo.toList)=true:=(by simpa using h4);clear hn k0 h4;go_in;go_wp2_with fail;refine(lN S E hK lo hi _ hl hh (HE.ah ((((ae.rf w).alloc _).alloc _).alloc _))).mono ?_;rintro e w1 ⟨rfl,hg⟩;have hG:ae w w1:=hg.lF;have hz:=hg.oH;obtain⟨hz0,hz1,hz2⟩:=hz;obtain⟨hc,hf⟩:=hg.cells;go_wp2_with fail;refine(qb S E s2 s3 s6 s7 key _ (by omega) (HE.ah hG)).mono ?_;rw[HK.out];rintro e w2 ⟨rfl,aP⟩;obtain⟨hc2,hf2⟩:=aP.cells;have bW:ae w w2:=hG.trans aP;have hy:w.heap.size<w2.heap.size/\w.heap.size+1<w2.heap.size/\w.heap.size+1+1<w2.heap.size:=(by have:=aP.size;omega);obtain⟨o6,mE,xP⟩:=hy;go_wp2_with fail;refine(He S E hK lo hi key _ hl hh hk (HE.ah bW)).mono ?_;rintro e w3 ⟨rfl,hg3⟩;obtain⟨hc3,hf3⟩:=hg3.cells;have k6:ae w w3:=bW.trans hg3;have c1:w3.cell? ⟨0,0,none⟩=some (.iface 302 (.pointer (some (E 1)))):=(HE.ah k6).cell 1 s1;go_wp2_with fail;go_region;go_wp2_with fail;refine wZ1 (v:=.tuple #[.agg #[.string cR,.string cR],.agg #[.string cR,.string cR],bA E 1]) (by simp[results,results117,go_sem,hc,hc2,hc3,hz1,hz2,mE,xP];rfl) rfl ⟨rfl,?_⟩;exact((((k6.setCell (by simp) _).setCell (by simp) _).setCell (by simp;omega) _).setCell (by simp;omega) _).drew
    . have hn:Pl.eA true (Pl.aT key) true lo key=0:=(by unfold Pl.eA;rw[zZ0 (by decide),zZ0 (by omega),zZ0 (by simpa using h4)]);rw[hn];have h5:(key.toList==lo.toList)=false:=(by simpa using h4);clear hn k0 h4;go_in;go_wp2_with fail;refine(lN S E hK lo hi _ hl hh (HE.ah ((((ae.rf w).alloc _).alloc _).alloc _))).mono ?_;rintro e w1 ⟨rfl,hg⟩;have hG:ae w w1:=hg.lF;have hz:=hg.oH;obtain⟨hz0,hz1,hz2⟩:=hz;obtain⟨hc,hf⟩:=hg.cells;go_wp2_with fail;refine(qb S E s2 s3 s6 s7 key _ (by omega) (HE.ah hG)).mono ?_;rw[HK.out];rintro e w2 ⟨rfl,aP⟩;obtain⟨hc2,hf2⟩:=aP.cells;have bW:ae w w2:=hG.trans aP;have hy:w.heap.size<w2.heap.size/\w.heap.size+1<w2.heap.size/\w.heap.size+1+1<w2.heap.size:=(by have:=aP.size;omega);obtain⟨o6,mE,xP⟩:=hy;go_wp2_with fail;refine(He S E hK lo hi key _ hl hh hk (HE.ah bW)).mono ?_;rintro e w3 ⟨rfl,hg3⟩;obtain⟨hc3,hf3⟩:=hg3.cells;have k6:ae w w3:=bW.trans hg3;have l0:w3.cell? ⟨w.heap.size,0,none⟩=some (.string lo):=(by rw[hc3 _ _ o6,hc2 _ _ hz0,hc _ _ (by simp;omega)];simp[go_sem]);have l1:w3.cell? ⟨w.heap.size,1,none⟩=some (.string hi):=(by rw[hc3 _ _ o6,hc2 _ _ hz0,hc _ _ (by simp;omega)];simp[go_sem]);go_wp2_with fail;go_region;go_wp2_with fail;refine wZ1 (v:=.tuple #[.agg #[.string lo,.string key],.agg #[.string key,.string hi],bA E 0]) (by simp[results,results117,go_sem,hc,hc2,hc3,hz1,hz2,mE,xP];rfl) rfl ⟨rfl,?_⟩;exact((((k6.setCell (by simp) _).setCell (by simp) _).setCell (by simp;omega) _).setCell (by simp;omega) _).drew
theorem EW (E:Nat->Addr)(k:Nat)(hk:k<=19)(w:World)(hE:bz mC E w):
    Calls prog 10 #[bA E k] w fun e w'=>e=.returned (.int .i64 (k:Nat))/\ae w w':=by
 by_cases h0:k=0
 . subst h0;exact(Cr w).mono fun e w' ⟨he,hw⟩=>⟨he,by rw[<-hw];exact ae.rf _⟩
 . rw[xN E k h0];exact Cs E k (by omega) hk w hE
section
structure ar (S:Nat->Prop)(w w':World):Prop where
 os:w'.os=w.os
 tape:w'.tape=w.tape
 output:w'.output=w.output
 size:w.heap.size<=w'.heap.size
 block:∀k,k<w.heap.size->¬S k->w'.heap[k]? =w.heap[k]?
theorem ar.refl (S:Nat->Prop)(w:World):ar S w w:=⟨rfl,rfl,rfl,zZ3 _,fun _ _ _=>rfl⟩
theorem ar.trans {S T:Nat->Prop}{a b c:World}(h:ar S a b)(k:ar T b c)(hT:∀j,T j->S j\/a.heap.size<=j):ar S a c:=
 ⟨k.os.trans h.os,k.tape.trans h.tape,k.output.trans h.output,zZ6 h.size k.size,fun j hj hS=>(k.block j (xA9 hj h.size) (fun t=>by rcases hT j t with s | s;exact hS s;omega)).trans (h.block j hj hS)⟩
theorem ar.then {S:Nat->Prop}{a b c:World}(h:ar S a b)(k:ar S b c):ar S a c:=h.trans k fun _=> .inl
theorem ar.mono {S T:Nat->Prop}{a b:World}(h:ar S a b)(hST:∀j,S j->T j\/a.heap.size<=j):ar T a b:=
 ⟨h.os,h.tape,h.output,h.size,fun j hj ht=>h.block j hj fun s=>by rcases hST j s with t | t;exact ht t;omega⟩
theorem ae.only {a b:World}(h:ae a b)(S:Nat->Prop):ar S a b:=⟨h.os,h.tape,h.output,h.size,fun j hj _=>h.block j hj⟩
theorem ar.ah {S:Nat->Prop}{a b:World}(h:ar S a b)(hS:∀j,S j->a.heap.size<=j):ae a b:=⟨h.os,h.tape,h.output,h.size,fun j hj=>h.block j hj fun s=>by have:=hS j s;omega⟩
theorem ar.dG {S:Nat->Prop}{a b c:World}(h:ar S a b)(k:ae b c):ar S a c:=h.then (k.only S)
theorem ar.alloc {S:Nat->Prop}{a b:World}(h:ar S a b)(o:Obj):ar S a (b.alloc o):=h.dG ((ae.rf b).alloc o)
theorem ar.drew {S:Nat->Prop}{a b:World}(h:ar S a b):ar S a b.drew:=h.dG ((ae.rf b).drew)
theorem ar.cell {S:Nat->Prop}{w w':World}(h:ar S w w'){k:Nat}(hk:k<w.heap.size)(hS:¬S k)(o:Nat):w'.cell? ⟨k,o,none⟩=w.cell? ⟨k,o,none⟩:=World.cell?_of_block (a:=⟨k,o,none⟩) (h.block k hk hS)
theorem ar.frozen {S:Nat->Prop}{w w':World}(h:ar S w w'){k:Nat}(hk:k<w.heap.size)(hS:¬S k)(o:Nat):w'.frozen? ⟨k,o,none⟩=w.frozen? ⟨k,o,none⟩:=World.frozen?_of_block (a:=⟨k,o,none⟩) (h.block k hk hS)
theorem ar.ay {w w':World}{row:Option Nat}(h:w.grownBy w' row):ar (fun j=>some j=row) w w':=⟨h.os,h.tape,h.output,h.size,h.block⟩
theorem ar.pJ {S:Nat->Prop}{w w':World}{row:Option Nat}(h:ar S w w')(hS:∀j,S j->some j=row\/w.heap.size<=j):w.grownBy w' row:=
 ⟨h.os,h.tape,h.output,h.size,fun j hj hn=>h.block j hj fun s=>by rcases hS j s with t | t;exact hn t;omega⟩
theorem ar.setCell (w:World)(p:Addr)(u:Value):ar (fun j=>j=p.block) w (w.setCell p u):=by
 have:=Below.setCell (Below.refl 0 w) (zZ5 p.block) u;refine⟨this.os,this.tape,this.output,?_,?_⟩
 . exact this.size
 . intro k hk hne;exact Below.heap_setCell w p u k hne
def raw (v:Value):Option (DataW Value×List MemPlace):=some (.held v,[])
def gD (D:DataW Value)(l:Lit):Option Value:=if has D l=true then(match D.atKey l .nil with | .held v=>some v | _=>none)else none
def bU (w:World)(P:Program)(k:TypeId)(b n:Nat)(f:Lit->Option Value):Prop:=∃D,w.ownsMap P k raw b n D/\∀l,gD D l=f l
section
variable {w:World}{P:Program}{k e t:TypeId}{b n:Nat}{f:Lit->Option Value}
theorem bU.made (w:World)(P:Program)(k:TypeId):bU (w.alloc (.map #[] 0)) P k w.heap.size 0 (fun _=>none):=
 ⟨_,World.ownsMap_made w P k raw,fun l=>by simp[gD,has]⟩
theorem bU.lt (h:bU w P k b n f):b<w.heap.size:=by obtain⟨D,h,_⟩:=h;exact h.lt
theorem bU.mono (h:bU w P k b n f){m:Nat}(hm:n<=m):bU w P k b m f:=by obtain⟨D,h,g⟩:=h;exact⟨D,h.mono hm,g⟩
theorem bU.aC {S:Nat->Prop}{w':World}(h:bU w P k b n f)(g:ar S w w')(hS:¬S b):bU w' P k b n f:=by
 obtain⟨D,h,hf⟩:=h;have az:=h.lt;obtain⟨es,clock,hb,F,hs,hD⟩:=h;exact⟨D,⟨es,clock,(g.block b az hS).trans hb,F,hs,hD⟩,hf⟩
theorem bU.ah {w':World}(h:bU w P k b n f)(g:ae w w'):bU w' P k b n f:=h.aC (g.only fun _=>False) (fun h=>h)
theorem bU.lookup {z:Value}{key:Value}{l:Lit}(h:bU w P k b n f)(K:Keyed P k)(ht:P.underlying t=some (.map k e))(hz:(zeroValue e).run P w=.ok z w)(bX:keyOf P k key=some l):
    (Instr.lookup t (.map (some b)) key false).run P w=.ok ((f l).getD z) w:=by
 obtain⟨D,h,hf⟩:=h;obtain⟨es,clock,hb,F,_,rfl⟩:=h;rw[<-hf];rcases Maps.fit_look false K ht hz hb F bX with⟨hrun,_,hat⟩ | ⟨e0,y,_,_,hrun,hRv,hat,_⟩
 . rw[hrun];unfold gD;rw[Maps.has_false_of_atKey hat];rfl
 . rw[hrun];unfold gD;rw[Maps.has_true_of_atKey hat,hat];cases hRv;rfl
theorem bU.pK {z:Value}{key:Value}{l:Lit}(h:bU w P k b n f)(K:Keyed P k)(ht:P.underlying t=some (.map k e))(hz:(zeroValue e).run P w=.ok z w)(bX:keyOf P k key=some l):
    (Instr.lookup t (.map (some b)) key true).run P w=.ok (.tuple #[(f l).getD z,.bool (f l).isSome]) w:=by
 obtain⟨D,h,hf⟩:=h;obtain⟨es,clock,hb,F,_,rfl⟩:=h;rw[<-hf];rcases Maps.fit_look true K ht hz hb F bX with⟨hrun,_,hat⟩ | ⟨e0,y,_,_,hrun,hRv,hat,_⟩
 . rw[hrun];unfold gD;rw[Maps.has_false_of_atKey hat];rfl
 . rw[hrun];unfold gD;rw[Maps.has_true_of_atKey hat,hat];cases hRv;rfl
noncomputable def fB (f:Lit->Option Value)(l:Lit)(v:Option Value)(m:Lit):Option Value:=open Classical in if m=l then v else f m
theorem bU.store {key val:Value}{l:Lit}(h:bU w P k b n f)(K:Keyed P k)(ht:P.underlying t=some (.map k e))(hn:n<maxLen)(bX:keyOf P k key=some l):
    ∃w',(Instr.mapUpdate t (.map (some b)) key val).run P w=.ok () w'/\bU w' P k b (n+1) (fB f l (some val))/\w.mapTurned w' b:=by
 obtain⟨D,h,hf⟩:=h;have hm:=h.isMap;have hl:=K.key bX;obtain⟨w',hrun,h1,h2⟩:=h.store K ht hn bX (val:=val) (d:=.held val) (ps:=[]) rfl;refine⟨w',hrun,⟨_,h1,fun m=>?_⟩,h2⟩;unfold fB;split
 . next he=>subst he;unfold gD;rw[has_put_same hm hl,atKey_put_same hm hl];rfl
 . next he=>rw[<-hf];unfold gD;rw[has_put_other he,atKey_put_other he]
theorem bU.drop {key:Value}{l:Lit}(h:bU w P k b n f)(K:Keyed P k)(ht:P.underlying t=some (.map k e))(bX:keyOf P k key=some l)(ty:TypeId):
    ∃w',(Builtin.delete_ #[t,k] ty #[.map (some b),key]).run P w=.ok (.tuple #[]) w'/\bU w' P k b n (fB f l none)/\w.mapTurned w' b:=by
 obtain⟨D,h,hf⟩:=h;obtain⟨w',hrun,h1,h2⟩:=h.drop K ht bX ty;refine⟨w',hrun,⟨_,h1,fun m=>?_⟩,h2⟩;unfold fB;split
 . next he=>subst he;unfold gD;rw[has_del_same];rfl
 . next he=>rw[<-hf];unfold gD;rw[has_del_other he,atKey_del_other he]
end
theorem ar.eh {w w':World}{b:Nat}(h:w.mapTurned w' b):ar (fun j=>j=b) w w':=(ar.ay h.grown).mono fun _ hj=> .inl (Option.some.inj hj)
end
section
def dV (L:List Value)(off:Nat)(cs:List Value):List Value:=L.take off++cs++L.drop (off+cs.length)
theorem wO (L:List Value)(off:Nat)(cs:List Value)(h:off+cs.length<=L.length):(dV L off cs).length=L.length:=by simp[dV];omega
theorem KF (L:List Value)(off:Nat)(cs:List Value)(h:off<=L.length):(dV L off cs).take (off+cs.length)=L.take off++cs:=by
 unfold dV;rw[yX8 (by simp;omega)];exact zJ3 (by simp;omega)
theorem YM (L:List Value)(off m:Nat)(cs:List Value)(h:m<=off)(hL:off<=L.length):(dV L off cs).take m=L.take m:=by
 unfold dV;rw[zQ7,yX8 (by simp;omega),xZ0,yQ8 h]
section
variable {P:Program}
theorem Fl (w:World)(dT sT ty elem:TypeId)(k n g o L9 Td:Nat)(a:Addr)(Ma Te:Nat)(cur:List Value)(t:TypeId)(cs:List Value)
    (hu:P.underlying dT=some (.slice elem)) (hs:(P.info? elem).map (·.size)=some k)
    (hg:w.heap[g]? =some (.cells cur.toArray t (0,0))) (hn:n=Nat.min Ma L9) (hl:cs.length=n*k)
    (jm:∀j v,cs[j]? =some v->w.cell? (a.add j)=some v) (xQ:o+cs.length<=cur.length) (h1:∀v∈cs,v.oneCell'=true):
    (Builtin.copy_ #[dT,sT] ty #[.slice (some ⟨g,o,none⟩) L9 Td,.slice (some a) Ma Te]).run P w=
     .ok (goInt n) (w.setRow g (dV cur o cs).toArray):=by
 have vH:=run_loadCells_list (P:=P) w a cs jm;have hst:=run_storeCells_at P g o t cs 0 cur.toArray w hg (by simpa using xQ) h1;rw[hl]at vH;cases hq:P.info? elem with
 | none=>simp[hq]at hs
 | some i=>
  have hi:i.size=k:=by simpa[hq]using hs
  simp[Builtin.copy_,run_underlying hu,Builtin.lenOf,Builtin.firstCells,sizeOf,typeInfo,hq,hi,<-hn,vH,hst,dV]
theorem YN (w:World)(t e ty:TypeId)(z:Value)(k:Nat)(ht:P.underlying t=some (.slice e))(hv:∀w,(zeroValue e).run P w=.ok z w)(hz:z.cells.size=k)(h1:∀v∈z.cells.toList,v.oneCell'=true)(b o c:Nat)(cur:List Value)(te:TypeId)
    (hg:w.heap[b]? =some (.cells cur.toArray te (0,0))) (xQ:o+k<=cur.length):
    (Builtin.clear_ #[t] ty #[.slice (some ⟨b,o,none⟩) 1 c]).run P w=.ok (.tuple #[]) (w.setRow b (dV cur o (Builtin.zeroCells z.cells 1).toList).toArray):=by
 have hl:(Builtin.zeroCells z.cells 1).toList.length=k:=by rw[yZ7,size_zeroCells,hz];omega
 have hz1:∀v∈(Builtin.zeroCells z.cells 1).toList,v.oneCell'=true:=by
  intro v hv;simp only[Builtin.zeroCells,Nat.one_mul,Array.toList_map,zX3,Array.mem_toList_iff,Array.mem_range]at hv;obtain⟨i,hi,rfl⟩:=hv;rw[xZ1 hi,getElem!_pos z.cells i hi];exact h1 _ (by simp)
 have hst:=run_storeCells_at P b o te (Builtin.zeroCells z.cells 1).toList 0 cur.toArray w hg (by rw[hl];simpa using xQ) hz1;simp[Builtin.clear_,run_underlying ht,hv,hst,dV]
theorem YO (w:World){o:Oper}{a:Act}{K:Act->World->Prop}{Q:Exit->Act->World->Prop}(d s:Operand)(t t':TypeId)
    (ho:o.op=.call {callee:=.builtin .copy,args:=#[d,s],argTypes:=#[t,t']}) (v u:Value) (hd:a.eval d=v) (hs:a.eval s=u) {v':Value} {w':World}
    (hr:(Builtin.copy_ #[t,t'] o.type #[v,u]).run P w=.ok v' w') (h:K (a.put o.dst v') w'):o.wp P a w K Q:=by
 unfold Oper.wp execOp;simp only[ho,resolve,invoke,builtin,Sem.run_bind,Sem.run_pure,Result.andThen_ok,yK8,zJ5,yQ5,hd,hs,hr];exact h
theorem Qt (w:World){ops:Array Oper}{rest:List Oper}{o:Oper}{a:Act}{Q:Exit->Act->World->Prop}(hgd:o.guard=none)(d s:Operand)(t t':TypeId)
    (ho:o.op=.call {callee:=.builtin .copy,args:=#[d,s],argTypes:=#[t,t']}) (v u:Value) (hd:a.eval d=v) (hs:a.eval s=u) {v':Value} {w':World}
    (hr:(Builtin.copy_ #[t,t'] o.type #[v,u]).run P w=.ok v' w') (h:wpList P ops Q rest (a.put o.dst v') w'):wpList P ops Q (o::rest) a w:=
 wpList_plain hgd fun _ hK=>YO w d s t t' ho v u hd hs hr (hK _ _ h)
theorem Qu {ops:Array Oper}{o:Oper}{a:Act}{w:World}{K:Act->World->Prop}{Q:Exit->Act->World->Prop}{E:Prop}
    (hg:o.guard=none) (d x:Operand) (dT sT:TypeId) (hop:o.op=Op.call {callee:=Callee.builtin Builtin.copy,args:=#[d,x],argTypes:=#[dT,sT]})
    (v u:Value) (hd:a.eval d=v) (hx:a.eval x=u) {v':Value} {w':World} (hr:(Builtin.copy_ #[dT,sT] o.type #[v,u]).run P w=.ok v' w') (hK:K (a.put o.dst v') w'):
    if Region.wanted o (yielded ops a.tmps)=true then Oper.wp P o a w K Q else E:=by
 have hw:Region.wanted o (yielded ops a.tmps)=true:=by simp[Region.wanted,hg]
 rw[zZ1 hw];exact YO w d x dT sT hop v u hd hx hr hK
theorem Qv {ops:Array Oper}{o:Oper}{a:Act}{w:World}{K:Act->World->Prop}{Q:Exit->Act->World->Prop}{E:Prop}
    (hg:o.guard=none) (d x:Operand) (dT sT:TypeId) (hop:o.op=Op.call {callee:=Callee.builtin Builtin.append,args:=#[d,x],argTypes:=#[dT,sT]})
    (v u:Value) (hd:a.eval d=v) (hx:a.eval x=u) {v':Value} {w':World} (hr:(Builtin.append_ #[dT,sT] o.type #[v,u]).run P w=.ok v' w') (hK:K (a.put o.dst v') w'):
    if Region.wanted o (yielded ops a.tmps)=true then Oper.wp P o a w K Q else E:=by
 have hw:Region.wanted o (yielded ops a.tmps)=true:=by simp[Region.wanted,hg]
 rw[zZ1 hw];exact Lib.wp_append_run w d x dT sT hop v u hd hx _ _ hr hK
theorem Fm (w:World)(g:Nat)(cs:Array Value):w.grownBy (w.setRow g cs) (some g):=
 ⟨rfl,rfl,rfl,by simp[World.setRow],fun k _ hne=>setRow_other w g k cs (fun e=>hne (by rw[e]))⟩
theorem Qw (w:World)(g:Nat)(cs:Array Value):ar (fun j=>j=g) w (w.setRow g cs):=
 ⟨rfl,rfl,rfl,by simp[World.setRow],fun k _ hne=>setRow_other w g k cs hne⟩
theorem Fp {w:World}{B:Nat}{e:TypeId}{k:Nat}{v:Value}{n:Nat}{xs:List Value}(h:w.ownsRow B e k v n xs)(hn:0<n):
    ∃g cap cur,v=.slice (some ⟨g,0,none⟩) n cap/\B<=g/\w.heap[g]? =some (.cells (List.toArray cur) e (0,0))/\n<=cap/\cap<=9223372036854775807/\cur.length=cap*k/\cur.take (n*k)=xs:=by
 rcases h.2 with⟨_,h0⟩ | ⟨g,cap,cur,e1,h2,h3,h4,h5,h6,h7⟩
 . omega
 . refine⟨g,cap,cur.toList,e1,h2,by simpa using h3,h4,?_,by simpa using h6,h7⟩;unfold maxLen at h5;omega
theorem oI {w:World}{B:Nat}{e:TypeId}{k:Nat}{g cap n:Nat}{cur:List Value}(hB:B<=g)(h:w.heap[g]? =some (.cells cur.toArray e (0,0)))(hn:n<=cap)(hc:cap<=9223372036854775807)(hl:cur.length=cap*k){xs:List Value}(hx:cur.take (n*k)=xs):
    w.ownsRow B e k (.slice (some ⟨g,0,none⟩) n cap) n xs:=by
 refine⟨?_,.inr ⟨g,cap,cur.toArray,rfl,hB,h,hn,by unfold maxLen;omega,by simpa using hl,by simpa using hx⟩⟩;rw[<-hx,zZ9,hl];exact yQ8 (xQ9 k hn)
theorem gP {w w':World}(g:ae w w'){B:Nat}{e:TypeId}{k:Nat}{v:Value}{n:Nat}{xs:List Value}(h:w.ownsRow B e k v n xs):w'.ownsRow B e k v n xs:=by
 refine⟨h.1,?_⟩;rcases h.2 with h2 | ⟨b,cap,cur,e1,h2,h3,h4⟩
 . exact .inl h2
 . exact .inr ⟨b,cap,cur,e1,h2,(g.below.block b (zZ2.1 h3).1).trans h3,h4⟩
theorem mg {w:World}{B C:Nat}(hBC:C<=B){e:TypeId}{k:Nat}{v:Value}{n:Nat}{xs:List Value}(h:w.ownsRow B e k v n xs):w.ownsRow C e k v n xs:=by
 refine⟨h.1,?_⟩;rcases h.2 with h2 | ⟨b,cap,cur,e1,h2,h3⟩
 . exact .inl h2
 . exact .inr ⟨b,cap,cur,e1,zZ6 hBC h2,h3⟩
theorem gw {w:World}{g:Nat}{cur:List Value}{t:TypeId}{fr:Nat×Nat}(h:w.heap[g]? =some (.cells cur.toArray t fr))(j:Nat):w.cell? ⟨g,j,none⟩=cur[j]? :=by
 rw[wQ1 w g j _ t fr h];simp
theorem YP (L:List Value)(a kk n:Nat)(xs pv:List Value)(hp:pv.length=kk)(ha:a<=n)(hL:n+kk<=L.length)(hx:L.take n=xs):
    (dV (dV L (a+kk) (xs.drop a)) a pv).take (n+kk)=xs.take a++pv++xs.drop a:=by
 subst hx;have hd:((L.take n).drop a).length=n - a:=by simp;omega
 have e1:dV L (a+kk) ((L.take n).drop a)=L.take (a+kk)++(L.take n).drop a++L.drop (n+kk):=by
  unfold dV;rw[hd];congr 2;omega
 have e2:(L.take (a+kk)++(L.take n).drop a++L.drop (n+kk)).take a=(L.take n).take a:=by
  rw[zQ7,yX8 (by simp;omega),xZ0,xZ0];congr 1;omega
 have e3:(L.take (a+kk)++(L.take n).drop a++L.drop (n+kk)).drop (a+pv.length)=(L.take n).drop a++L.drop (n+kk):=by
  rw[zQ7,List.drop_append_of_le_length (by simp;omega),yZ9 (by simp;omega)];simp
 rw[e1];unfold dV;rw[e2,e3,<-zQ7,yX8 (by simp;omega),zJ3 (by simp;omega)]
end
theorem z0F {w:World}{B k:Nat}{e:TypeId}{v:Value}{n:Nat}{L:List Value}(h:w.ownsRow B e k v n L):w.ownsRow 0 e k v n L:=by
 refine⟨h.1,?_⟩;rcases h.2 with h2 | ⟨b,c,cur,e1,_,h3,h4⟩
 . exact .inl h2
 . exact .inr ⟨b,c,cur,e1,zZ5 _,h3,h4⟩
theorem Ct {w w':World}{S:Nat->Prop}{B k:Nat}{e:TypeId}{v:Value}{n:Nat}{L:List Value}(h:w.ownsRow B e k v n L)(g:ar S w w')(hS:∀b,v.ownBlock=some b->¬S b):w'.ownsRow B e k v n L:=by
 refine⟨h.1,?_⟩;rcases h.2 with h2 | ⟨b,c,cur,e1,h2,h3,h4⟩
 . exact .inl h2
 . exact .inr ⟨b,c,cur,e1,h2,(g.block b (zZ2.1 h3).1 (hS b (by rw[e1];rfl))).trans h3,h4⟩
end
structure cf where
 ax:Int
 key:ByteArray
 val:ByteArray
 old:ByteArray
 eI:Int
def cf.none:cf:=⟨0,⟨#[]⟩,⟨#[]⟩,⟨#[]⟩,0⟩
instance:Inhabited cf:=⟨cf.none⟩
def cf.vals (c:cf):List Value:=[.int .i64 c.ax,.string c.key,.string c.val,.string c.old,.int .i64 c.eI]
def bO (xs:List cf)(j:Nat):cf:=xs[j]?.getD cf.none
theorem BL (xs:List cf)(i:Nat)(hi:i<xs.length):bO xs i=xs[i]:=by unfold bO;rw[zQ5 hi];rfl
theorem BM (xs:List cf)(k:Nat)(h:k<xs.length):bO xs k∈xs:=by rw[BL xs k h];exact zQ4 h
structure Qx (W:World)(b off:Nat)(xs:List cf):Prop where
 ax:∀j,j<xs.length->W.cell? ⟨b,off+j*5,Option.none⟩=some (.int .i64 (bO xs j).ax)
 key:∀j,j<xs.length->W.cell? ⟨b,off+j*5+1,Option.none⟩=some (.string (bO xs j).key)
 val:∀j,j<xs.length->W.cell? ⟨b,off+j*5+2,Option.none⟩=some (.string (bO xs j).val)
 old:∀j,j<xs.length->W.cell? ⟨b,off+j*5+3,Option.none⟩=some (.string (bO xs j).old)
 eI:∀j,j<xs.length->W.cell? ⟨b,off+j*5+4,Option.none⟩=some (.int .i64 (bO xs j).eI)
theorem Qx.ah {W W':World}{b off:Nat}{xs:List cf}(h:Qx W b off xs)(g:ae W W')(hb:b<W.heap.size):Qx W' b off xs:=
 ⟨fun j hj=>(g.cells.1 _ _ hb).trans (h.ax j hj),fun j hj=>(g.cells.1 _ _ hb).trans (h.key j hj),fun j hj=>(g.cells.1 _ _ hb).trans (h.val j hj),fun j hj=>(g.cells.1 _ _ hb).trans (h.old j hj),fun j hj=>(g.cells.1 _ _ hb).trans (h.eI j hj)⟩
def vI (W:World)(a:Option Addr)(xs:List cf):Prop:=xs=[]\/∃b off,a=some ⟨b,off,Option.none⟩/\b<W.heap.size/\Qx W b off xs
theorem vI.ah {W W':World}{a:Option Addr}{xs:List cf}(h:vI W a xs)(g:ae W W'):vI W' a xs:=by
 rcases h with h | ⟨b,off,e,hb,h⟩
 . exact .inl h
 . exact .inr ⟨b,off,e,xA9 hb g.size,h.ah g hb⟩
def cf.dH (c:cf):Value:=.agg c.vals.toArray
structure Sh where
 id:Int
 aq:Int
 cJ:Int
 lo:ByteArray
 hi:ByteArray
def Sh.none:Sh:=⟨0,0,0,⟨#[]⟩,⟨#[]⟩⟩
instance:Inhabited Sh:=⟨Sh.none⟩
def Sh.vals (c:Sh):List Value:=[.int .i64 c.id,.int .i64 c.aq,.int .i64 c.cJ,.string c.lo,.string c.hi]
def ai (xs:List Sh)(j:Nat):Sh:=xs[j]?.getD Sh.none
def dL (xs:List Sh):List Value:=xs.flatMap Sh.vals
theorem j3 (xs:List Sh)(i:Nat)(hi:i<xs.length):ai xs i=xs[i]:=by unfold ai;rw[zQ5 hi];rfl
theorem k7 (xs:List Sh)(k:Nat)(h:k<xs.length):ai xs k∈xs:=by rw[j3 xs k h];exact zQ4 h
theorem sr (xs:List Sh):(dL xs).length=xs.length*5:=by
 induction xs with
 | nil=>rfl
 | cons c xs ih=>unfold dL at ih ⊢;rw[zK2,zZ4,ih];simp[Sh.vals];omega
theorem mF (i:Nat)(hi:i<5):∀(xs:List Sh) (j:Nat),j<xs.length->(dL xs)[j*5+i]? =(ai xs j).vals[i]? :=by
 intro xs;induction xs with
 | nil=>intro j hj;simp at hj
 | cons c xs ih=>
  intro j hj;unfold dL at ih ⊢;rw[zK2];cases j with
  | zero=>rw[yK0 (by simp[Sh.vals];omega)];simp[ai]
  | succ j=>
   rw[yX5 (by simp[Sh.vals];omega)];have e:(j+1)*5+i - c.vals.length=j*5+i:=(by simp[Sh.vals];omega);rw[e,ih j (by simpa using hj)];simp[ai]
theorem Cu (xs ys:List Sh):dL (xs++ys)=dL xs++dL ys:=by unfold dL;rw[zK3]
theorem Tf (c:Sh):dL [c]=c.vals:=by simp[dL]
theorem Qy (xs:List Sh)(i:Nat):dL (xs.take i)=(dL xs).take (i*5):=by
 by_cases h:i<=xs.length
 . have e:dL xs=dL (xs.take i)++dL (xs.drop i):=(by rw[<-Cu,zX7]);have h2:(dL (xs.take i)).length=i*5:=(by rw[sr,zZ9];omega);rw[e,<-h2,List.take_left]
 . have h2:(dL xs).length<=i*5:=(by rw[sr];omega);rw[zJ3 (show xs.length<=i by omega),zJ3 h2]
theorem Qz (xs:List Sh)(i:Nat):dL (xs.drop i)=(dL xs).drop (i*5):=by
 by_cases h:i<=xs.length
 . have e:dL xs=dL (xs.take i)++dL (xs.drop i):=(by rw[<-Cu,zX7]);have h2:(dL (xs.take i)).length=i*5:=(by rw[sr,zZ9];omega);rw[e,<-h2,List.drop_left]
 . have h2:(dL xs).length<=i*5:=(by rw[sr];omega);rw[yZ9 (show xs.length<=i by omega),yZ9 h2];rfl
structure uC (W:World)(b off:Nat)(xs:List Sh):Prop where
 id:∀j,j<xs.length->W.cell? ⟨b,off+j*5,Option.none⟩=some (.int .i64 (ai xs j).id)
 aq:∀j,j<xs.length->W.cell? ⟨b,off+j*5+1,Option.none⟩=some (.int .i64 (ai xs j).aq)
 cJ:∀j,j<xs.length->W.cell? ⟨b,off+j*5+2,Option.none⟩=some (.int .i64 (ai xs j).cJ)
 lo:∀j,j<xs.length->W.cell? ⟨b,off+j*5+3,Option.none⟩=some (.string (ai xs j).lo)
 hi:∀j,j<xs.length->W.cell? ⟨b,off+j*5+4,Option.none⟩=some (.string (ai xs j).hi)
theorem uC.ah {W W':World}{b off:Nat}{xs:List Sh}(h:uC W b off xs)(g:ae W W')(hb:b<W.heap.size):uC W' b off xs:=
 ⟨fun j hj=>(g.cells.1 _ _ hb).trans (h.id j hj),fun j hj=>(g.cells.1 _ _ hb).trans (h.aq j hj),fun j hj=>(g.cells.1 _ _ hb).trans (h.cJ j hj),fun j hj=>(g.cells.1 _ _ hb).trans (h.lo j hj),fun j hj=>(g.cells.1 _ _ hb).trans (h.hi j hj)⟩
def kx (W:World)(a:Option Addr)(xs:List Sh):Prop:=xs=[]\/∃b off,a=some ⟨b,off,Option.none⟩/\b<W.heap.size/\uC W b off xs
theorem kx.ah {W W':World}{a:Option Addr}{xs:List Sh}(h:kx W a xs)(g:ae W W'):kx W' a xs:=by
 rcases h with h | ⟨b,off,e,hb,h⟩
 . exact .inl h
 . exact .inr ⟨b,off,e,xA9 hb g.size,h.ah g hb⟩
theorem Fq {W:World}{B:Nat}{v:Value}{xs:List Sh}(h:W.ownsRow B 100 5 v xs.length (dL xs)):∃a cap,v=.slice a xs.length cap/\kx W a xs:=by
 rcases zJ8 xs.length with h0 | h0
 . have hx:xs=[]:=zX2 h0;rcases h.2 with⟨rfl,_⟩ | ⟨g,cap,cur,rfl,_,hg,_⟩
   . exact⟨Option.none,0,by rw[h0],.inl hx⟩
   . exact⟨_,_,rfl,.inl hx⟩
 . obtain⟨g,cap,rfl,_,az⟩:=h.form h0;refine⟨_,_,rfl,.inr ⟨g,0,rfl,az,?_,?_,?_,?_,?_⟩⟩<;> intro j hj
   . have:=h.cellAt (j*5+0) (by omega);rw[mF 0 (by omega) xs j hj]at this;rw[zQ2];exact this
   . have:=h.cellAt (j*5+1) (by omega);rw[mF 1 (by omega) xs j hj]at this;rw[zQ2];exact this
   . have:=h.cellAt (j*5+2) (by omega);rw[mF 2 (by omega) xs j hj]at this;rw[zQ2];exact this
   . have:=h.cellAt (j*5+3) (by omega);rw[mF 3 (by omega) xs j hj]at this;rw[zQ2];exact this
   . have:=h.cellAt (j*5+4) (by omega);rw[mF 4 (by omega) xs j hj]at this;rw[zQ2];exact this
theorem KG (xs:List Sh):∀u∈dL xs,u.oneCell'=true:=by
 intro u hu;unfold dL at hu;obtain⟨c,_,hc⟩:=yJ7.1 hu;simp[Sh.vals]at hc;rcases hc with rfl | rfl | rfl | rfl | rfl<;> rfl
def Sh.dH (c:Sh):Value:=.agg c.vals.toArray
theorem z0o (p:Sh->Bool)(cb:Nat)(a:Option Addr)(cap:Nat)(xs:List Sh)(w:World)(hA:kx w a xs)(hx:xs.length<=1000000)
    (hp:∀j,j<xs.length->∀W,ae w W->Calls prog 116 #[(ai xs j).dH,.pointer (some ⟨cb,0,none⟩)] W fun e W'=>e=.returned (.bool (p (ai xs j)))/\ae W W'):
    Calls prog 87 #[.slice a xs.length cap,.func (.func 116) #[] #[.pointer (some ⟨cb,0,none⟩)]] w fun e w'=>e=.returned (.int .i64 (dU p xs))/\ae w w':=by
 have HA:=af hA;have HP:=af hp;clear hA hp;go_in;go_wp2_with fail;go_loopw [8] (fun i wr=>∃k:Nat,k<=xs.length/\i=.int .i64 k/\Hid ((xs.take k).all (fun c=>!p c)=true)/\ae w wr) (fun i _=>xs.length - (intOf i).toNat);exact⟨0,zZ5 _,rfl,rfl,ae.rf w⟩;obtain⟨k,fV,rfl,HN,hG⟩:=hrel;by_cases az:k<xs.length
 . rcases HA.out with h0 | ⟨b,off,rfl,hb,hR⟩
   . rw[h0]at az;simp at az
   have q0:=(hG.cells.1 b (off+k*5) hb).trans (hR.id k az);have q1:=(hG.cells.1 b (off+k*5+1) hb).trans (hR.aq k az);have q2:=(hG.cells.1 b (off+k*5+2) hb).trans (hR.cJ k az);have q3:=(hG.cells.1 b (off+k*5+3) hb).trans (hR.lo k az);have q4:=(hG.cells.1 b (off+k*5+4) hb).trans (hR.hi k az);have HC:=af (HP k az);have hat:ai xs k=xs[k]:=j3 xs k az;have mh:=af hat;clear hR hat;have HS:=af (Co p xs k az HN);have gK:=af (G6 p xs k az HN);rw[<-mh.out]at HS gK;generalize ai xs k=c at *;clear mh;unfold Sh.dH at HC;cases iz:p c with
   | true=>
    rw[iz]at HC;have eR:=af (HS iz);obtain⟨c0,c1,c2,c3,c4⟩:=c;dsimp only[Sh.vals]at *;clear iz HS gK;go_wp2_with fail;refine(HC _ hG).mono ?_;rintro e w1 ⟨rfl,aR⟩;go_wp2_with fail;go_ret;exact⟨jl eR.symm,hG.trans aR⟩
   | false=>
    rw[iz]at HC;have eR:=af (gK iz);obtain⟨c0,c1,c2,c3,c4⟩:=c;dsimp only[Sh.vals]at *;clear iz HS gK;go_wp2_with fail;refine(HC _ hG).mono ?_;rintro e w1 ⟨rfl,aR⟩;go_wp2_with fail;go_roundw;case rel=>exact⟨k+1,by omega,by go_num,eR,hG.trans aR⟩
    case measure=>simp[intOf];omega
 . obtain rfl:k=xs.length:=(by omega);have HE:=af (xD p xs (by have:=HN.out;rwa[zQ1]at this));go_wp2_with fail;go_ret;exact⟨jl HE.symm,hG⟩
theorem y8B (p:Sh->Bool)(cb:Nat)(a:Option Addr)(cap:Nat)(xs:List Sh)(w:World)(hA:kx w a xs)(hx:xs.length<=1000000)
    (hp:∀j,j<xs.length->∀W,ae w W->Calls prog 88 #[(ai xs j).dH,.pointer (some ⟨cb,0,none⟩)] W fun e W'=>e=.returned (.bool (p (ai xs j)))/\ae W W'):
    Calls prog 87 #[.slice a xs.length cap,.func (.func 88) #[] #[.pointer (some ⟨cb,0,none⟩)]] w fun e w'=>e=.returned (.int .i64 (dU p xs))/\ae w w':=by
 have HA:=af hA;have HP:=af hp;clear hA hp;go_in;go_wp2_with fail;go_loopw [8] (fun i wr=>∃k:Nat,k<=xs.length/\i=.int .i64 k/\Hid ((xs.take k).all (fun c=>!p c)=true)/\ae w wr) (fun i _=>xs.length - (intOf i).toNat);exact⟨0,zZ5 _,rfl,rfl,ae.rf w⟩;obtain⟨k,fV,rfl,HN,hG⟩:=hrel;by_cases az:k<xs.length
 . rcases HA.out with h0 | ⟨b,off,rfl,hb,hR⟩
   . rw[h0]at az;simp at az
   have q0:=(hG.cells.1 b (off+k*5) hb).trans (hR.id k az);have q1:=(hG.cells.1 b (off+k*5+1) hb).trans (hR.aq k az);have q2:=(hG.cells.1 b (off+k*5+2) hb).trans (hR.cJ k az);have q3:=(hG.cells.1 b (off+k*5+3) hb).trans (hR.lo k az);have q4:=(hG.cells.1 b (off+k*5+4) hb).trans (hR.hi k az);have HC:=af (HP k az);have hat:ai xs k=xs[k]:=j3 xs k az;have mh:=af hat;clear hR hat;have HS:=af (Co p xs k az HN);have gK:=af (G6 p xs k az HN);rw[<-mh.out]at HS gK;generalize ai xs k=c at *;clear mh;unfold Sh.dH at HC;cases iz:p c with
   | true=>
    rw[iz]at HC;have eR:=af (HS iz);obtain⟨c0,c1,c2,c3,c4⟩:=c;dsimp only[Sh.vals]at *;clear iz HS gK;go_wp2_with fail;refine(HC _ hG).mono ?_;rintro e w1 ⟨rfl,aR⟩;go_wp2_with fail;go_ret;exact⟨jl eR.symm,hG.trans aR⟩
   | false=>
    rw[iz]at HC;have eR:=af (gK iz);obtain⟨c0,c1,c2,c3,c4⟩:=c;dsimp only[Sh.vals]at *;clear iz HS gK;go_wp2_with fail;refine(HC _ hG).mono ?_;rintro e w1 ⟨rfl,aR⟩;go_wp2_with fail;go_roundw;case rel=>exact⟨k+1,by omega,by go_num,eR,hG.trans aR⟩
    case measure=>simp[intOf];omega
 . obtain rfl:k=xs.length:=(by omega);have HE:=af (xD p xs (by have:=HN.out;rwa[zQ1]at this));go_wp2_with fail;go_ret;exact⟨jl HE.symm,hG⟩
namespace Pl
def dW (n most:Int):Bool:=decide (1<=n) && decide (n<=most)
end Pl
theorem Fu (n most:Int)(w:World):Calls prog 236 #[.int .i64 n,.int .i64 most] w fun e w'=>e=.returned (.bool (Pl.dW n most))/\w=w':=by
 by_cases h1:1<=n
 . by_cases h2:n<=most
   . have e:Pl.dW n most=true:=(by unfold Pl.dW;rw[wZ5 h1,wZ5 h2];rfl);rw[e];clear e;go_in;go_wp2_with fail;go_ret;exact⟨rfl,rfl⟩
   . have e:Pl.dW n most=false:=(by unfold Pl.dW;rw[wZ5 h1,wZ6 h2];rfl);rw[e];clear e;go_in;go_wp2_with fail;go_ret;exact⟨rfl,rfl⟩
 . have e:Pl.dW n most=false:=(by unfold Pl.dW;rw[wZ6 h1];rfl);rw[e];clear e;go_in;go_wp2_with fail;go_ret;exact⟨rfl,rfl⟩
theorem Hf (n:Int)(w:World):Calls prog 235 #[.int .i64 n] w fun e w'=>e=.returned (.bool (Pl.dW n 12))/\w=w':=by
 go_in;go_wp2_with fail;refine(Fu _ _ _).mono ?_;rintro e w' ⟨rfl,rfl⟩;go_wp2_with fail;go_ret;exact⟨rfl,rfl⟩
structure jo (S:Nat->Bool):Prop where
 h2:S 2=true
 h3:S 3=true
 h6:S 6=true
 h7:S 7=true
def cf.agg (o:cf):Value:=.agg #[.int .i64 o.ax,.string o.key,.string o.val,.string o.old,.int .i64 o.eI]
namespace Pl
def lf (o:cf):Bool:=
 if aT o.key≠0 then false
 else if o.ax=1 then decide (o.val.size<=64)
 else if o.ax=2 then true
 else if o.ax=3 then decide (o.val.size<=64) && decide (o.old.size<=64)
 else if o.ax=4 then decide (0<=o.eI) && decide (o.eI<=4096)
 else false
end Pl
theorem z1A {S:Nat->Bool}(hS:jo S)(E:Nat->Addr)(o:cf)(w:World)(hE:bz S E w)(hk:o.key.size<=140737488351232)(hv:o.val.size<=9223372036854775807)(ho:o.old.size<=9223372036854775807):
    Calls prog 234 #[o.agg] w fun e w'=>e=.returned (.bool (Pl.lf o))/\ae w w':=by
 obtain⟨n,k,v,d,r⟩:=o;dsimp only at hk hv ho;have HK:=af (fun W (g:ae w W)=>qb S E hS.h2 hS.h3 hS.h6 hS.h7 k W hk (hE.ah g));clear hE;unfold cf.agg;dsimp only;by_cases dO:Pl.aT k=0
 . rw[dO]at HK;have e0:∀b,Pl.lf ⟨n,k,v,d,r⟩=b↔(if n=1 then decide (v.size<=64)else if n=2 then true else if n=3 then decide (v.size<=64) && decide (d.size<=64)else if n=4 then decide (0<=r) && decide (r<=4096)else false)=b:=fun b=>by
    unfold Pl.lf;rw[zZ0 (by simp[dO])]
   clear dO;by_cases n1:n=1
   . have HF:Hid (Pl.lf ⟨n,k,v,d,r⟩=decide ((v.size:Int)<=64)):=by
      unfold Hid;rw[e0,zZ1 n1,zK4];simp;omega
     have b1:(n==1)=true:=beq_iff_eq.2 n1;clear e0 n1;go_in;go_wp2_with fail;refine(HK _ ((ae.rf w).alloc _)).mono ?_;rintro e w1 ⟨rfl,hg⟩;have hc:=hg.cells.1;have hz:w.heap.size<w1.heap.size:=(by have:=hg.size;simp at this;omega);rw[BK];go_wp2_with fail;go_ret;exact⟨bS HF.symm,((ae.rf w).alloc _).trans hg⟩
   . have b1:(n==1)=false:=wZ3.2 n1;by_cases n2:n=2
     . have HF:Hid (Pl.lf ⟨n,k,v,d,r⟩=true):=by
        unfold Hid;rw[e0,zZ0 n1,zZ1 n2]
       have b2:(n==2)=true:=beq_iff_eq.2 n2;clear e0 n1 n2;go_in;go_wp2_with fail;refine(HK _ ((ae.rf w).alloc _)).mono ?_;rintro e w1 ⟨rfl,hg⟩;have hc:=hg.cells.1;have hz:w.heap.size<w1.heap.size:=(by have:=hg.size;simp at this;omega);rw[BK];go_wp2_with fail;go_ret;exact⟨bS HF.symm,((ae.rf w).alloc _).trans hg⟩
     . have b2:(n==2)=false:=wZ3.2 n2;by_cases n3:n=3
       . have HF:Hid (Pl.lf ⟨n,k,v,d,r⟩=(decide ((v.size:Int)<=64) && decide ((d.size:Int)<=64))):=by
          unfold Hid;rw[e0,zZ0 n1,zZ0 n2,zZ1 n3,zK4];simp;omega
         have b3:(n==3)=true:=beq_iff_eq.2 n3;clear e0 n1 n2 n3;go_in;go_wp2_with fail;refine(HK _ ((ae.rf w).alloc _)).mono ?_;rintro e w1 ⟨rfl,hg⟩;have hc:=hg.cells.1;have hz:w.heap.size<w1.heap.size:=(by have:=hg.size;simp at this;omega);rw[BK];by_cases Tg:(v.size:Int)<=64;all_goals
          go_wp2_with fail
          go_ret
          exact⟨bS (by rw[HF.out];first | (simp[Tg];done) | (simp;omega)),((ae.rf w).alloc _).trans hg⟩
       . have b3:(n==3)=false:=wZ3.2 n3;by_cases n4:n=4
         . have HF:Hid (Pl.lf ⟨n,k,v,d,r⟩=(decide (0<=r) && decide (r<=4096))):=by
            unfold Hid;rw[e0,zZ0 n1,zZ0 n2,zZ0 n3,zZ1 n4]
           have b4:(n==4)=true:=beq_iff_eq.2 n4;clear e0 n1 n2 n3 n4;go_in;go_wp2_with fail;refine(HK _ ((ae.rf w).alloc _)).mono ?_;rintro e w1 ⟨rfl,hg⟩;have hc:=hg.cells.1;have hz:w.heap.size<w1.heap.size:=(by have:=hg.size;simp at this;omega);rw[BK];by_cases mG:0<=r;all_goals
            go_wp2_with fail
            go_ret
            exact⟨bS (by rw[HF.out];first | (simp[mG];done) | (simp;omega)),((ae.rf w).alloc _).trans hg⟩
         . have HF:Hid (Pl.lf ⟨n,k,v,d,r⟩=false):=by
            unfold Hid;rw[e0,zZ0 n1,zZ0 n2,zZ0 n3,zZ0 n4]
           have b4:(n==4)=false:=wZ3.2 n4;clear e0 n1 n2 n3 n4;go_in;go_wp2_with fail;refine(HK _ ((ae.rf w).alloc _)).mono ?_;rintro e w1 ⟨rfl,hg⟩;have hc:=hg.cells.1;have hz:w.heap.size<w1.heap.size:=(by have:=hg.size;simp at this;omega);rw[BK];go_wp2_with fail;go_ret;exact⟨bS HF.symm,((ae.rf w).alloc _).trans hg⟩
 . have HF:Hid (Pl.lf ⟨n,k,v,d,r⟩=false):=(by unfold Hid Pl.lf;rw[zZ1 dO]);have HN:=af (xN E _ dO);go_in;go_wp2_with fail;refine(HK _ ((ae.rf w).alloc _)).mono ?_;rw[HN.out];rintro e w1 ⟨rfl,hg⟩;go_wp2_with fail;go_ret;exact⟨bS HF.symm,((ae.rf w).alloc _).trans hg⟩
namespace Pl
def vJ (sh sv:Int):Bool:=dW sh 12 && dW sv 4
def vK (sh ot:Int):Bool:=dW sh 12 && dW ot 12 && (sh !=ot)
def sY (sh ot sv:Int)(key:ByteArray):Bool:=dW sh 12 && dW ot 12 && (sh !=ot) && dW sv 4 && decide (aT key=0)
def sZ (sh up aA aL:Int)(len:Nat):Bool:=((sh==0) || dW sh 12) && decide (0<=up) && decide (up<=4096) && dW aA 64 && decide (0<=aL) && decide (aL<aA) && decide ((len:Int)<=256)
end Pl
theorem z5E (sh sv:Int)(w:World):Calls prog 239 #[.agg #[.int .i64 sh,.int .i64 sv]] w fun e w'=>e=.returned (.bool (vJ sh sv))/\ae w w':=by
 unfold vJ;go_in;go_wp2_with fail;refine(Hf _ _).mono ?_;rintro e w1 ⟨rfl,rfl⟩;cases h0:Pl.dW sh 12 with
 | false=>
  go_wp2_with fail;go_ret;exact⟨bS (by simp[*]),(ae.rf w).alloc _⟩
 | true=>
  go_wp2_with fail;refine(Fu _ _ _).mono ?_;rintro e w1 ⟨rfl,rfl⟩;cases h1:Pl.dW sv 4 with
  | false=>
   go_wp2_with fail;go_ret;exact⟨bS (by simp[*]),(ae.rf w).alloc _⟩
  | true=>
   go_wp2_with fail;go_ret;exact⟨bS (by simp[*]),(ae.rf w).alloc _⟩
theorem z5g (sh ot:Int)(w:World):Calls prog 245 #[.agg #[.int .i64 sh,.int .i64 ot]] w fun e w'=>e=.returned (.bool (vK sh ot))/\ae w w':=by
 unfold vK;go_in;go_wp2_with fail;refine(Hf _ _).mono ?_;rintro e w1 ⟨rfl,rfl⟩;cases h0:Pl.dW sh 12 with
 | false=>
  go_wp2_with fail;go_ret;exact⟨bS (by simp[*]),(ae.rf w).alloc _⟩
 | true=>
  go_wp2_with fail;refine(Hf _ _).mono ?_;rintro e w1 ⟨rfl,rfl⟩;cases h1:Pl.dW ot 12 with
  | false=>
   go_wp2_with fail;go_ret;exact⟨bS (by simp[*]),(ae.rf w).alloc _⟩
  | true=>
   cases h2:(sh !=ot)with
   | false=>
    go_wp2_with fail;go_ret;exact⟨bS (by simp[*]),(ae.rf w).alloc _⟩
   | true=>
    go_wp2_with fail;go_ret;exact⟨bS (by simp[*]),(ae.rf w).alloc _⟩
theorem z6v {S:Nat->Bool}(hS:jo S)(E:Nat->Addr)(sh ot sv:Int)(key:ByteArray)(w:World)(hE:bz S E w)(hk:key.size<=140737488351232):
    Calls prog 242 #[.agg #[.int .i64 sh,.int .i64 ot,.int .i64 sv,.string key]] w fun e w'=>e=.returned (.bool (sY sh ot sv key))/\ae w w':=by
 have HK:=af (fun W (g:ae w W)=>qb S E hS.h2 hS.h3 hS.h6 hS.h7 key W hk (hE.ah g));clear hE;unfold sY;go_in;go_wp2_with fail;refine(Hf _ _).mono ?_;rintro e w1 ⟨rfl,rfl⟩;cases h0:Pl.dW sh 12 with
 | false=>
  go_wp2_with fail;go_ret;exact⟨bS (by simp[*]),(ae.rf w).alloc _⟩
 | true=>
  go_wp2_with fail;refine(Hf _ _).mono ?_;rintro e w1 ⟨rfl,rfl⟩;cases h1:Pl.dW ot 12 with
  | false=>
   go_wp2_with fail;go_ret;exact⟨bS (by simp[*]),(ae.rf w).alloc _⟩
  | true=>
   cases h2:(sh !=ot)with
   | false=>
    go_wp2_with fail;go_ret;exact⟨bS (by simp[*]),(ae.rf w).alloc _⟩
   | true=>
    go_wp2_with fail;refine(Fu _ _ _).mono ?_;rintro e w1 ⟨rfl,rfl⟩;cases h3:Pl.dW sv 4 with
    | false=>
     go_wp2_with fail;go_ret;exact⟨bS (by simp[*]),(ae.rf w).alloc _⟩
    | true=>
     by_cases dO:Pl.aT key=0
     . rw[dO]at HK;have HD:=af (wZ5 dO);clear dO;go_wp2_with fail;refine(HK _ ((ae.rf w).alloc _)).mono ?_;rw[BK];rintro e w1 ⟨rfl,hg⟩;go_wp2_with fail;go_ret;exact⟨bS (by rw[HD.out];simp[h0,h1,h2,h3]),((ae.rf w).alloc _).trans hg⟩
     . have HN:=af (xN E _ dO);have HD:=af (wZ6 dO);clear dO;go_wp2_with fail;refine(HK _ ((ae.rf w).alloc _)).mono ?_;rw[HN.out];rintro e w1 ⟨rfl,hg⟩;go_wp2_with fail;go_ret;exact⟨bS (by rw[HD.out];simp),((ae.rf w).alloc _).trans hg⟩
theorem z5q (sh up aA aL:Int)(a:Option Addr)(len cap:Nat)(w:World):
    Calls prog 248 #[.agg #[.int .i64 sh,.int .i64 up,.int .i64 aA,.int .i64 aL,.slice a len cap]] w fun e w'=>e=.returned (.bool (sZ sh up aA aL len))/\ae w w':=by
 unfold sZ;go_in;cases h0:(sh==0)with
 | true=>
  cases h1:decide (0<=up)with
  | false=>
   go_wp2_with fail;go_ret;exact⟨bS (by simp[*]),(ae.rf w).alloc _⟩
  | true=>
   cases h2:decide (up<=4096)with
   | false=>
    go_wp2_with fail;go_ret;exact⟨bS (by simp[*]),(ae.rf w).alloc _⟩
   | true=>
    go_wp2_with fail;refine(Fu _ _ _).mono ?_;rintro e w1 ⟨rfl,rfl⟩;cases h3:Pl.dW aA 64 with
    | false=>
     go_wp2_with fail;go_ret;exact⟨bS (by simp[*]),(ae.rf w).alloc _⟩
    | true=>
     cases h4:decide (0<=aL)with
     | false=>
      go_wp2_with fail;go_ret;exact⟨bS (by simp[*]),(ae.rf w).alloc _⟩
     | true=>
      cases h5:decide (aL<aA)with
      | false=>
       go_wp2_with fail;go_ret;exact⟨bS (by simp[*]),(ae.rf w).alloc _⟩
      | true=>
       go_wp2_with fail;go_ret;exact⟨bS (by simp[*]),(ae.rf w).alloc _⟩
 | false=>
  go_wp2_with fail;refine(Hf _ _).mono ?_;rintro e w1 ⟨rfl,rfl⟩;cases h1:Pl.dW sh 12 with
  | false=>
   go_wp2_with fail;go_ret;exact⟨bS (by simp[*]),(ae.rf w).alloc _⟩
  | true=>
   cases h2:decide (0<=up)with
   | false=>
    go_wp2_with fail;go_ret;exact⟨bS (by simp[*]),(ae.rf w).alloc _⟩
   | true=>
    cases h3:decide (up<=4096)with
    | false=>
     go_wp2_with fail;go_ret;exact⟨bS (by simp[*]),(ae.rf w).alloc _⟩
    | true=>
     go_wp2_with fail;refine(Fu _ _ _).mono ?_;rintro e w1 ⟨rfl,rfl⟩;cases h4:Pl.dW aA 64 with
     | false=>
      go_wp2_with fail;go_ret;exact⟨bS (by simp[*]),(ae.rf w).alloc _⟩
     | true=>
      cases h5:decide (0<=aL)with
      | false=>
       go_wp2_with fail;go_ret;exact⟨bS (by simp[*]),(ae.rf w).alloc _⟩
      | true=>
       cases h6:decide (aL<aA)with
       | false=>
        go_wp2_with fail;go_ret;exact⟨bS (by simp[*]),(ae.rf w).alloc _⟩
       | true=>
        go_wp2_with fail;go_ret;exact⟨bS (by simp[*]),(ae.rf w).alloc _⟩
theorem xR (p:cf->Bool)(a:Option Addr)(cap:Nat)(xs:List cf)(w:World)(hA:vI w a xs)(hx:xs.length<=1000000)
    (hp:∀j,j<xs.length->∀W,ae w W->Calls prog 233 #[(bO xs j).dH] W fun e W'=>e=.returned (.bool (p (bO xs j)))/\ae W W'):
    Calls prog 238 #[.slice a xs.length cap,.func (.func 233) #[] #[]] w fun e w'=>e=.returned (.int .i64 (dU p xs))/\ae w w':=by
 have HA:=af hA;have HP:=af hp;clear hA hp;go_in;go_wp2_with fail;go_loopw [8] (fun i wr=>∃k:Nat,k<=xs.length/\i=.int .i64 k/\Hid ((xs.take k).all (fun c=>!p c)=true)/\ae w wr) (fun i _=>xs.length - (intOf i).toNat);exact⟨0,zZ5 _,rfl,rfl,ae.rf w⟩;obtain⟨k,fV,rfl,HN,hG⟩:=hrel;by_cases az:k<xs.length
 . rcases HA.out with h0 | ⟨b,off,rfl,hb,hR⟩
   . rw[h0]at az;simp at az
   have q0:=(hG.cells.1 b (off+k*5) hb).trans (hR.ax k az);have q1:=(hG.cells.1 b (off+k*5+1) hb).trans (hR.key k az);have q2:=(hG.cells.1 b (off+k*5+2) hb).trans (hR.val k az);have q3:=(hG.cells.1 b (off+k*5+3) hb).trans (hR.old k az);have q4:=(hG.cells.1 b (off+k*5+4) hb).trans (hR.eI k az);have HC:=af (HP k az);have hat:bO xs k=xs[k]:=BL xs k az;have mh:=af hat;clear hR hat;have HS:=af (Co p xs k az HN);have gK:=af (G6 p xs k az HN);rw[<-mh.out]at HS gK;generalize bO xs k=c at *;clear mh;unfold cf.dH at HC;cases iz:p c with
   | true=>
    rw[iz]at HC;have eR:=af (HS iz);obtain⟨c0,c1,c2,c3,c4⟩:=c;dsimp only[cf.vals]at *;clear iz HS gK;go_wp2_with fail;refine(HC _ hG).mono ?_;rintro e w1 ⟨rfl,aR⟩;go_wp2_with fail;go_ret;exact⟨jl eR.symm,hG.trans aR⟩
   | false=>
    rw[iz]at HC;have eR:=af (gK iz);obtain⟨c0,c1,c2,c3,c4⟩:=c;dsimp only[cf.vals]at *;clear iz HS gK;go_wp2_with fail;refine(HC _ hG).mono ?_;rintro e w1 ⟨rfl,aR⟩;go_wp2_with fail;go_roundw;case rel=>exact⟨k+1,by omega,by go_num,eR,hG.trans aR⟩
    case measure=>simp[intOf];omega
 . obtain rfl:k=xs.length:=(by omega);have HE:=af (xD p xs (by have:=HN.out;rwa[zQ1]at this));go_wp2_with fail;go_ret;exact⟨jl HE.symm,hG⟩
namespace Pl
def mH (sh cl sq:Int)(ops:List cf):Bool:=dW sh 12 && dW cl 4 && dW sq 1073741824 && dW ops.length 8 && !(ops.any fun o=>!lf o)
end Pl
def Cv (o:cf):Prop:=o.key.size<=140737488351232/\o.val.size<=9223372036854775807/\o.old.size<=9223372036854775807
theorem z6a {S:Nat->Bool}(hS:jo S)(E:Nat->Addr)(o:cf)(w:World)(hE:bz S E w)(ho:Cv o):
    Calls prog 233 #[o.dH] w fun e w'=>e=.returned (.bool (!Pl.lf o))/\ae w w':=by
 have HO:=af (fun W (g:ae w W)=>z1A hS E o W (hE.ah g) ho.1 ho.2.1 ho.2.2);clear hE;unfold cf.agg at HO;unfold cf.dH cf.vals;obtain⟨n,k,v,d,r⟩:=o;dsimp only at *;go_in;go_wp2_with fail;refine(HO _ ((ae.rf w).alloc _)).mono ?_;rintro e w1 ⟨rfl,hg⟩;go_wp2_with fail;go_ret;exact⟨rfl,((ae.rf w).alloc _).trans hg⟩
theorem z4B {S:Nat->Bool}(hS:jo S)(E:Nat->Addr)(a:Option Addr)(cap:Nat)(ops:List cf)(w:World)(hE:bz S E w)(hA:vI w a ops)(hx:ops.length<=1000000)(ho:∀o∈ops,Cv o):
    Calls prog 232 #[.slice a ops.length cap,.func (.func 233) #[] #[]] w fun e w'=>e=.returned (.bool (ops.any fun o=>!Pl.lf o))/\ae w w':=by
 have HI:=af (xR (fun o=>!Pl.lf o) a cap ops w hA hx (fun j hj W g=>z6a hS E _ W (hE.ah g) (ho _ (BM ops j hj))));have HG:=af (xE (fun o=>!Pl.lf o) ops);clear hE hA;generalize dU (fun o=>!Pl.lf o) ops=n at *;go_in;go_wp2_with fail;refine HI.mono ?_;rintro e w1 ⟨rfl,hg⟩;go_wp2_with fail;go_ret;exact⟨bS HG,hg⟩
theorem z6H {S:Nat->Bool}(hS:jo S)(E:Nat->Addr)(sh cl sq:Int)(a:Option Addr)(cap:Nat)(ops:List cf)(w:World)(hE:bz S E w)(hA:vI w a ops)(hx:ops.length<=1000000)(ho:∀o∈ops,Cv o):
    Calls prog 229 #[.agg #[.int .i64 sh,.int .i64 cl,.int .i64 sq,.slice a ops.length cap]] w fun e w'=>e=.returned (.bool (Pl.mH sh cl sq ops))/\ae w w':=by
 have HC:=af (fun W (g:ae w W)=>z4B hS E a cap ops W (hE.ah g) (hA.ah g) hx ho);clear hE hA;unfold Pl.mH;generalize (ops.any fun o=>!Pl.lf o)=bad at *;go_in;go_wp2_with fail;refine(HC _ ((ae.rf w).alloc _)).mono ?_;rintro e w1 ⟨rfl,hg⟩;have hc:=hg.cells.1;have hz:w.heap.size<w1.heap.size:=by have:=hg.size;simp at this;omega
 have hG:=hg.jy;clear hg;go_wp2_with fail;refine(Hf _ _).mono ?_;rintro e w2 ⟨rfl,rfl⟩;cases h0:Pl.dW sh 12 with
 | false=>
  go_wp2_with fail;go_ret;exact⟨bS (by simp[*]),hG⟩
 | true=>
  go_wp2_with fail;refine(Fu _ _ _).mono ?_;rintro e w2 ⟨rfl,rfl⟩;cases h1:Pl.dW cl 4 with
  | false=>
   go_wp2_with fail;go_ret;exact⟨bS (by simp[*]),hG⟩
  | true=>
   go_wp2_with fail;refine(Fu _ _ _).mono ?_;rintro e w2 ⟨rfl,rfl⟩;cases h2:Pl.dW sq 1073741824 with
   | false=>
    go_wp2_with fail;go_ret;exact⟨bS (by simp[*]),hG⟩
   | true=>
    go_wp2_with fail;refine(Fu _ _ _).mono ?_;rintro e w2 ⟨rfl,rfl⟩;cases h3:Pl.dW (ops.length:Int) 8 with
    | false=>
     go_wp2_with fail;go_ret;exact⟨bS (by simp[*]),hG⟩
    | true=>
     go_wp2_with fail;go_ret;exact⟨bS (by simp[*]),hG⟩
structure En where
 ax:Int
 aj:Int
 ak:Int
 aq:Int
 aw:Int
 seq:Int
 key:ByteArray
 aM:Int
 aL:Int
 aA:Int
 ops:List cf
 aN:Option Addr
 aS:Nat
 aF:Option Addr
 aB:Nat
 aG:Nat
def En.vals (e:En):List Value:=[.int .i64 e.ax,.int .i64 e.aj,.int .i64 e.ak,.int .i64 e.aq,.int .i64 e.aw,.int .i64 e.seq,.slice e.aN e.ops.length e.aS,.string e.key,.int .i64 e.aM,.int .i64 e.aL,.int .i64 e.aA,.slice e.aF e.aB e.aG]
def En.agg (e:En):Value:=.agg e.vals.toArray
namespace Pl
def cK (e:En):Bool:=
 if e.ax=1 then mH e.aj e.aw e.seq e.ops
 else if e.ax=2 then vJ e.aj e.aq
 else if e.ax=3 then sY e.aj e.ak e.aq e.key
 else if e.ax=4 then vK e.aj e.ak
 else if e.ax=5 then sZ e.aj e.aM e.aA e.aL e.aB
 else false
def iK (e:En):Value:=
 if e.ax=1 then .iface 201 (.agg #[.int .i64 e.aj,.int .i64 e.aw,.int .i64 e.seq,.slice e.aN e.ops.length e.aS])
 else if e.ax=2 then .iface 203 (.agg #[.int .i64 e.aj,.int .i64 e.aq])
 else if e.ax=3 then .iface 205 (.agg #[.int .i64 e.aj,.int .i64 e.ak,.int .i64 e.aq,.string e.key])
 else if e.ax=4 then .iface 207 (.agg #[.int .i64 e.aj,.int .i64 e.ak])
 else if e.ax=5 then .iface 209 (.agg #[.int .i64 e.aj,.int .i64 e.aM,.int .i64 e.aA,.int .i64 e.aL,.slice e.aF e.aB e.aG])
 else .nilIface
end Pl
theorem QA (e:En)(w:World):Calls prog 66 #[e.agg] w fun r w'=>r=.returned (iK e)/\ae w w':=by
 unfold En.agg En.vals;obtain⟨ax,aj,ak,aq,aw,seq,key,aM,aL,aA,ops,aN,aS,aF,aB,aG⟩:=e;unfold iK;dsimp only;by_cases k1:ax=1
 . subst k1;go_in;go_wp2_with fail;go_ret;exact⟨rfl,(ae.rf w).alloc _⟩
 by_cases k2:ax=2
 . subst k2;go_in;go_wp2_with fail;go_ret;exact⟨rfl,(ae.rf w).alloc _⟩
 by_cases k3:ax=3
 . subst k3;go_in;go_wp2_with fail;go_ret;exact⟨rfl,(ae.rf w).alloc _⟩
 by_cases k4:ax=4
 . subst k4;go_in;go_wp2_with fail;go_ret;exact⟨rfl,(ae.rf w).alloc _⟩
 by_cases k5:ax=5
 . subst k5;go_in;go_wp2_with fail;go_ret;exact⟨rfl,(ae.rf w).alloc _⟩
 have b1:(ax==1)=false:=wZ3.2 k1;have b2:(ax==2)=false:=wZ3.2 k2;have b3:(ax==3)=false:=wZ3.2 k3;have b4:(ax==4)=false:=wZ3.2 k4;have b5:(ax==5)=false:=wZ3.2 k5;rw[zZ0 k1,zZ0 k2,zZ0 k3,zZ0 k4,zZ0 k5];clear k1 k2 k3 k4 k5;go_in;go_wp2_with fail;go_ret;exact⟨rfl,(ae.rf w).alloc _⟩
structure b7 (w:World)(e:En):Prop where
 ops:vI w e.aN e.ops
 few:e.ops.length<=1000000
 ok:∀o∈e.ops,Cv o
 key:e.ax=3->e.key.size<=140737488351232
theorem b7.ah {w w':World}{e:En}(h:b7 w e)(g:ae w w'):b7 w' e:=⟨h.ops.ah g,h.few,h.ok,h.key⟩
theorem y9E (cs:Array Value)(w:World):(method 442 201 (.agg cs) "tidewater/entry.right").run prog w=.ok (229,.agg cs) w:=by kernel_rfl
theorem z2c (cs:Array Value)(w:World):(method 442 203 (.agg cs) "tidewater/entry.right").run prog w=.ok (239,.agg cs) w:=by kernel_rfl
theorem y7D (cs:Array Value)(w:World):(method 442 205 (.agg cs) "tidewater/entry.right").run prog w=.ok (242,.agg cs) w:=by kernel_rfl
theorem y9I (cs:Array Value)(w:World):(method 442 207 (.agg cs) "tidewater/entry.right").run prog w=.ok (245,.agg cs) w:=by kernel_rfl
theorem y9m (cs:Array Value)(w:World):(method 442 209 (.agg cs) "tidewater/entry.right").run prog w=.ok (248,.agg cs) w:=by kernel_rfl
theorem qX {S:Nat->Bool}(hS:jo S)(E:Nat->Addr)(e:En)(w:World)(hE:bz S E w)(hA:b7 w e):
    Calls prog 30 #[e.agg] w fun r w'=>r=.returned (.bool (Pl.cK e))/\ae w w':=by
 have HE:=af hE;have HA:=af hA;have HO:=af (fun W=>QA e W);clear hE hA;by_cases k1:e.ax=1
 . have HR:Hid (Pl.cK e=Pl.mH e.aj e.aw e.seq e.ops):=(by unfold Hid Pl.cK;rw[zZ1 k1]);have HV:Hid (iK e=.iface 201 (.agg #[.int .i64 e.aj,.int .i64 e.aw,.int .i64 e.seq,.slice e.aN e.ops.length e.aS])):=(by unfold Hid iK;rw[zZ1 k1]);rw[HV.out]at HO;unfold En.agg En.vals at *;clear k1;have hm:=y9E;go_in;go_wp2_with fail;refine(HO _).mono ?_;rintro r w1 ⟨rfl,hg⟩;have hG:=hg.jy;go_wp2_with fail;refine(z6H hS E _ _ _ _ _ _ _ (HE.ah hG) (HA.ah hG).ops HA.few HA.ok).mono ?_;rintro r w2 ⟨rfl,aP⟩;go_wp2_with fail;go_ret;exact⟨bS HR.symm,hG.trans aP⟩
 by_cases k2:e.ax=2
 . have HR:Hid (Pl.cK e=vJ e.aj e.aq):=(by unfold Hid Pl.cK;rw[zZ0 k1,zZ1 k2]);have HV:Hid (iK e=.iface 203 (.agg #[.int .i64 e.aj,.int .i64 e.aq])):=(by unfold Hid iK;rw[zZ0 k1,zZ1 k2]);rw[HV.out]at HO;unfold En.agg En.vals at *;clear k1 k2;have hm:=z2c;go_in;go_wp2_with fail;refine(HO _).mono ?_;rintro r w1 ⟨rfl,hg⟩;have hG:=hg.jy;go_wp2_with fail;refine(z5E _ _ _).mono ?_;rintro r w2 ⟨rfl,aP⟩;go_wp2_with fail;go_ret;exact⟨bS HR.symm,hG.trans aP⟩
 by_cases k3:e.ax=3
 . have HR:Hid (Pl.cK e=sY e.aj e.ak e.aq e.key):=(by unfold Hid Pl.cK;rw[zZ0 k1,zZ0 k2,zZ1 k3]);have HV:Hid (iK e=.iface 205 (.agg #[.int .i64 e.aj,.int .i64 e.ak,.int .i64 e.aq,.string e.key])):=(by unfold Hid iK;rw[zZ0 k1,zZ0 k2,zZ1 k3]);rw[HV.out]at HO;have Hg:=af (HA.key k3);unfold En.agg En.vals at *;clear k1 k2 k3;have hm:=y7D;go_in;go_wp2_with fail;refine(HO _).mono ?_;rintro r w1 ⟨rfl,hg⟩;have hG:=hg.jy;go_wp2_with fail;refine(z6v hS E _ _ _ _ _ (HE.ah hG) Hg).mono ?_;rintro r w2 ⟨rfl,aP⟩;go_wp2_with fail;go_ret;exact⟨bS HR.symm,hG.trans aP⟩
 by_cases k4:e.ax=4
 . have HR:Hid (Pl.cK e=vK e.aj e.ak):=(by unfold Hid Pl.cK;rw[zZ0 k1,zZ0 k2,zZ0 k3,zZ1 k4]);have HV:Hid (iK e=.iface 207 (.agg #[.int .i64 e.aj,.int .i64 e.ak])):=(by unfold Hid iK;rw[zZ0 k1,zZ0 k2,zZ0 k3,zZ1 k4]);rw[HV.out]at HO;unfold En.agg En.vals at *;clear k1 k2 k3 k4;have hm:=y9I;go_in;go_wp2_with fail;refine(HO _).mono ?_;rintro r w1 ⟨rfl,hg⟩;have hG:=hg.jy;go_wp2_with fail;refine(z5g _ _ _).mono ?_;rintro r w2 ⟨rfl,aP⟩;go_wp2_with fail;go_ret;exact⟨bS HR.symm,hG.trans aP⟩
 by_cases k5:e.ax=5
 . have HR:Hid (Pl.cK e=sZ e.aj e.aM e.aA e.aL e.aB):=(by unfold Hid Pl.cK;rw[zZ0 k1,zZ0 k2,zZ0 k3,zZ0 k4,zZ1 k5]);have HV:Hid (iK e=.iface 209 (.agg #[.int .i64 e.aj,.int .i64 e.aM,.int .i64 e.aA,.int .i64 e.aL,.slice e.aF e.aB e.aG])):=(by unfold Hid iK;rw[zZ0 k1,zZ0 k2,zZ0 k3,zZ0 k4,zZ1 k5]);rw[HV.out]at HO;unfold En.agg En.vals at *;clear k1 k2 k3 k4 k5;have hm:=y9m;go_in;go_wp2_with fail;refine(HO _).mono ?_;rintro r w1 ⟨rfl,hg⟩;have hG:=hg.jy;go_wp2_with fail;refine(z5q _ _ _ _ _ _ _ _).mono ?_;rintro r w2 ⟨rfl,aP⟩;go_wp2_with fail;go_ret;exact⟨bS HR.symm,hG.trans aP⟩
 have HR:Hid (Pl.cK e=false):=by unfold Hid Pl.cK;rw[zZ0 k1,zZ0 k2,zZ0 k3,zZ0 k4,zZ0 k5]
 have HV:Hid (iK e=.nilIface):=by unfold Hid iK;rw[zZ0 k1,zZ0 k2,zZ0 k3,zZ0 k4,zZ0 k5]
 rw[HV.out]at HO;unfold En.agg En.vals at *;clear k1 k2 k3 k4 k5;go_in;go_wp2_with fail;refine(HO _).mono ?_;rintro r w1 ⟨rfl,hg⟩;go_wp2_with fail;go_ret;exact⟨bS HR.symm,((ae.rf w).alloc _).trans hg⟩
theorem YQ:(prog.info? 100).map (fun i=>(i.zero,i.size,i.bytes))=some (some (.agg #[.int .i64 0,.int .i64 0,.int .i64 0,.string ⟨#[]⟩,.string ⟨#[]⟩]),5,56):=by kernel_rfl
theorem QB:(prog.info? 100).map (·.size)=some 5:=by kernel_rfl
structure Hh (w w':World)(v r:Value)(B n:Nat)(ys:List Value):Prop where
 form:∃g cap,r=.slice (some ⟨g,0,none⟩) n cap/\(v.ownBlock=some g\/w.heap.size<=g)
 row:w'.ownsRow B 100 5 r n ys
 grown:w.grownBy w' v.ownBlock
theorem z0q (w:World)(B:Nat)(v:Value)(n:Nat)(xs:List Value)(a0:Option Addr)(c0:Nat)(hv:v=.slice a0 n c0)(h:w.ownsRow B 100 5 v n xs)(hB:B<=w.heap.size)(vb:Nat)(pv:List Value)(vc:Nat)(dP:w.heap[vb]? =some (.cells pv.toArray 100 (0,0)))(hpl:pv.length=5)(mI:∀u∈pv,u.oneCell'=true)(dI:n<=1000000):
    Calls prog 118 #[.slice a0 n c0,.int .i64 n,.slice (some ⟨vb,0,none⟩) 1 vc] w fun e w'=>∃r,e=.returned r/\Hh w w' v r B (n+1) (xs++pv):=by
 subst hv;obtain⟨i0,dA,hz0,hz1,hz2⟩:=wZ8 YQ;have hcell:∀j u,pv[j]? =some u->w.cell? ((⟨vb,0,none⟩:Addr).add j)=some u:=fun j u hj=>by
  rw[Addr.add_lit,zQ2,gw dP];exact hj
 have HC:=af hcell;have HP:=af hpl;have H1:=af mI;have HH:=af h;have hnil:a0=none->n=0/\c0=0:=fun e=>by
  subst e;rcases h.2 with⟨e1,e2⟩ | ⟨_,_,_,e1,_⟩
  . cases e1;exact⟨rfl,rfl⟩
  . cases e1
 clear hcell hpl mI h dP;go_in;rcases HH.out.2 with⟨e1,e2⟩ | ⟨g,cap,cur,e1,e3,e4,e5,e6,e7,e8⟩
 . cases e1;clear e2 hnil;go_wp2_with (at_builtin;refine wQ2 _ rfl _ _ 108 rfl B 100 i0 _ 5 56 underlying108 dA hz0 hz1 hz2 rfl (by omega) _ 0 xs rfl HH.out ⟨vb,0,none⟩ 1 vc pv rfl HP.out HC.out H1.out (by omega) (by unfold maxLen;omega) (by omega) hB _ rfl ?_);intro g cap w1 aH bw hat az;have HO:=af aH;have HG:=af bw;have HA:=af hat;clear aH bw hat;go_wp2_with fail;go_ret;exact⟨_,rfl,⟨g,cap,rfl,by rcases HA.out with h | h;exact .inl h;exact .inr (by omega)⟩,HO,HG⟩
 . cases e1;clear e4 e7 e8 hnil;have qc:c0<=9223372036854775807:=(by unfold maxLen at e6;omega);by_cases hc:c0=n
   . subst hc;go_wp2_with (at_builtin;refine wQ2 _ rfl _ _ 108 rfl B 100 i0 _ 5 56 underlying108 dA hz0 hz1 hz2 rfl (by omega) _ c0 xs rfl HH.out ⟨vb,0,none⟩ 1 vc pv rfl HP.out HC.out H1.out (by omega) (by unfold maxLen;omega) (by omega) hB _ rfl ?_);intro g' cap w1 aH bw hat az;have HO:=af aH;have HG:=af bw;have HA:=af hat;clear aH bw hat;go_wp2_with fail;go_ret;exact⟨_,rfl,⟨g',cap,rfl,by rcases HA.out with h | h;exact .inl h;exact .inr (by omega)⟩,HO,HG⟩
   . go_wp2_with (at_builtin;refine wQ2 _ rfl _ _ 108 rfl B 100 i0 _ 5 56 underlying108 dA hz0 hz1 hz2 rfl (by omega) _ n xs rfl HH.out ⟨vb,0,none⟩ 1 vc pv rfl HP.out HC.out H1.out (by omega) (by unfold maxLen;omega) (by omega) hB _ rfl ?_);intro g' cap w1 aH bw hat az;have HO:=af aH;have HG:=af bw;have HA:=af hat;clear aH bw hat;go_wp2_with fail;go_ret;exact⟨_,rfl,⟨g',cap,rfl,by rcases HA.out with h | h;exact .inl h;exact .inr (by omega)⟩,HO,HG⟩
theorem z1s (w:World):(Go.sizeOf 100).run prog w=.ok 5 w:=by kernel_rfl
theorem y7C (w:World)(B b n c i:Nat)(cur:List Value)(hb:w.heap[b]? =some (.cells cur.toArray 100 (0,0)))(Hi:B<=b)(BN:n<c)(hc:c<=9223372036854775807)(fP:cur.length=c*5)(hi:i<n)(vb:Nat)(pv:List Value)(vc:Nat)(dP:w.heap[vb]? =some (.cells pv.toArray 100 (0,0)))(hpl:pv.length=5)(mI:∀u∈pv,u.oneCell'=true)(h1c:∀u∈cur.take (n*5),u.oneCell'=true)(dI:n<=1000000)(hne:vb≠b):
    Calls prog 118 #[.slice (some ⟨b,0,none⟩) n c,.int .i64 i,.slice (some ⟨vb,0,none⟩) 1 vc] w fun e w'=>∃r,e=.returned r/\Hh w w' (.slice (some ⟨b,0,none⟩) n c) r B (n+1) ((cur.take (n*5)).take (i*5)++pv++(cur.take (n*5)).drop (i*5)):=by
 have hcell:∀j u,pv[j]? =some u->w.cell? ((⟨vb,0,none⟩:Addr).add j)=some u:=fun j u hj=>by
  rw[Addr.add_lit,zQ2,gw dP];exact hj
 obtain⟨cs1,gQ⟩:∃cs1,cs1=(cur.take (n*5)).drop (i*5):=⟨_,rfl⟩
 have fC:cs1.length=(n - i)*5:=by rw[gQ];simp;omega
 have xS:∀ty dc sc,(Builtin.copy_ #[108,108] ty #[.slice (some ⟨b,(i+1)*5,none⟩) (n+1 - (i+1)) dc,.slice (some ⟨b,i*5,none⟩) (n+1 - i) sc]).run prog w.drew=.ok (goInt ((n - i:Nat):Int)) (w.drew.setRow b (dV cur ((i+1)*5) cs1).toArray):=fun ty dc sc=>
  Fl w.drew _ _ ty 100 5 (n - i) b ((i+1)*5) (n+1 - (i+1)) dc ⟨b,i*5,none⟩ (n+1 - i) sc cur 100 cs1 underlying108 QB hb (by simp only[yX0];split<;> omega) fC
   (fun j v hj=>by
    rw[Addr.add_lit];show w.cell? _=_;rw[gw hb];rw[gQ,zK7,zX5]at hj;split at hj
    . exact hj
    . cases hj)
   (by rw[fC,fP];omega) (fun v hv=>h1c v (by rw[gQ]at hv;exact zK6 hv))
 obtain⟨W1,hW1⟩:∃W1,W1=w.drew.setRow b (dV cur ((i+1)*5) cs1).toArray:=⟨_,rfl⟩
 have s9:W1.heap[b]? =some (.cells (dV cur ((i+1)*5) cs1).toArray 100 (0,0)):=by rw[hW1];exact setRow_heap w.drew b _ _ _ _ hb
 have jF:(dV cur ((i+1)*5) cs1).length=cur.length:=wO _ _ _ (by rw[fC,fP];omega);have xU:∀ty dc,(Builtin.copy_ #[108,108] ty #[.slice (some ⟨b,i*5,none⟩) (n+1 - i) dc,.slice (some ⟨vb,0,none⟩) 1 vc]).run prog W1=.ok (goInt ((1:Nat):Int)) (W1.setRow b (dV (dV cur ((i+1)*5) cs1) (i*5) pv).toArray):=fun ty dc=>
  Fl W1 _ _ ty 100 5 1 b (i*5) (n+1 - i) dc ⟨vb,0,none⟩ 1 vc _ 100 pv underlying108 QB s9 (by simp only[yX0];split<;> omega) (by rw[hpl])
   (fun j v hj=>by
    rw[hW1,Addr.add_lit,zQ2,World.cell?_of_block (w:=w.drew) (setRow_other w.drew b vb _ hne)];show w.cell? _=_;rw[gw dP];exact hj)
   (by rw[hpl,jF,fP];omega) mI
 have xV:∀ty dc sc,(Builtin.copy_ #[108,108] ty #[.slice (some ⟨b,(i+1)*5,none⟩) (n - i) dc,.slice (some ⟨b,i*5,none⟩) (n+1 - i) sc]).run prog w.drew=.ok (goInt ((n - i:Nat):Int)) W1:=fun ty dc sc=>by rw[hW1];have:=xS ty dc sc;rwa[show n+1 - (i+1)=n - i by omega]at this
 obtain⟨W2,hW2⟩:∃W2,W2=W1.setRow b (dV (dV cur ((i+1)*5) cs1) (i*5) pv).toArray:=⟨_,rfl⟩
 have xW:∀ty dc,(Builtin.copy_ #[108,108] ty #[.slice (some ⟨b,i*5,none⟩) (n+1 - i) dc,.slice (some ⟨vb,0,none⟩) 1 vc]).run prog W1=.ok (goInt ((1:Nat):Int)) W2:=fun ty dc=>by rw[hW2];exact xU ty dc
 have cE:Hid (Hh w W2 (.slice (some ⟨b,0,none⟩) n c) (.slice (some ⟨b,0,none⟩) (n+1) c) B (n+1) ((cur.take (n*5)).take (i*5)++pv++(cur.take (n*5)).drop (i*5))):=by
  refine⟨⟨b,c,rfl,.inl rfl⟩,?_,?_⟩
  . refine oI (cur:=dV (dV cur ((i+1)*5) cs1) (i*5) pv) Hi (by rw[hW2];exact setRow_heap _ _ _ _ _ _ s9) (by omega) hc (by rw[wO _ _ _ (by rw[hpl,jF,fP];omega),jF,fP]) ?_;rw[gQ,show(i+1)*5=i*5+5 by omega,show(n+1)*5=n*5+5 by omega];exact YP cur (i*5) 5 (n*5) _ pv hpl (by omega) (by rw[fP];omega) rfl
  . have g1:w.grownBy W1 (some b):=(by rw[hW1];exact(show w.grownBy w.drew (some b)from⟨rfl,rfl,rfl,zZ3 _,fun _ _ _=>rfl⟩).trans (Fm w.drew b _));have g2:w.grownBy W2 (some b):=(by rw[hW2];exact g1.trans (Fm W1 b _));exact g2
 have Th:vb<w.heap.size:=(zZ2.1 dP).1;have Ti:∀lb cb,(callFunc 137 #[.slice (some ⟨vb,0,none⟩) 1 vc,.slice (some ⟨b,(i+1)*5,none⟩) lb cb]).run prog w=.ok (.value (.bool false)) w:=fun lb cb=>by
  rw[run_callFunc_extern func137 (by kernel_rfl) (by kernel_rfl) (by kernel_rfl) (e:=Extern.SlicesOverlaps.overlaps #[108,108] #[4]) (by kernel_rfl),
   Lib.run_overlaps_apart w 108 4 100 underlying108 5 z1s ⟨vb,0,none⟩ ⟨b,(i+1)*5,none⟩ 1 vc lb cb hne 100 100 5 (c*5) (by simp[World.shape?,dP,hpl]) (by simp[World.shape?,hb,fP]) (by omega) (frozen_of_row w vb 0 _ _ dP) (frozen_of_row w vb 5 _ _ dP)]
  rfl
 have hbl:b<w.heap.size:=(zZ2.1 hb).1;have z1:¬((i:Int)=(n:Int)):=by omega
 have z2:¬(c<n+1):=by omega
 have z3:¬((c:Int)<(n:Int)+1):=by omega
 have z4:IntKind.i64.wrap ((i:Int)+1)=(i:Int)+1:=IntWalk.i64_in _ (by omega);have z5:(0:Int)<=(i:Int)+1:=by omega
 have z6:((i:Int)+1).toNat=i+1:=by omega
 have z7:¬(c=i+1):=by omega
 have z8:¬(c=i):=by omega
 have z9:(i:Int)<=(n:Int)+1:=by omega
 have Mb:i<=n:=by omega
 clear gQ xS xU s9 hW1 hW2 hcell hb dP fP fC jF h1c mI hpl hi;go_in;go_wp2_with (simp only[Ti]);go_region_law (refine Qu rfl (.tmp 73) (.tmp 76) 108 108 rfl (.slice (some ⟨b,(i+1)*5,none⟩) (n - i) (c - (i+1))) (.slice (some ⟨b,i*5,none⟩) (n+1 - i) (c - i)) (by simp[Act.eval,Act.put]) (by simp[Act.eval,Act.put]) (xV _ _ _) ?_);go_wp2_with (at_builtin;refine Qt _ rfl _ _ 108 108 rfl _ _ rfl rfl (xW _ _) ?_);go_ret;exact⟨_,rfl,cE⟩
theorem Cw:(Value.cells (.agg #[.int .i64 0,.int .i64 0,.int .i64 0,.string ⟨#[]⟩,.string ⟨#[]⟩])).size=5:=by kernel_rfl
theorem y8G (w:World)(B b n i:Nat)(cur:List Value)(hb:w.heap[b]? =some (.cells cur.toArray 100 (0,0)))(hB:B<=w.heap.size)(fP:cur.length=n*5)(hi:i<n)(vb:Nat)(pv:List Value)(vc:Nat)(dP:w.heap[vb]? =some (.cells pv.toArray 100 (0,0)))(hpl:pv.length=5)(mI:∀u∈pv,u.oneCell'=true)(h1c:∀u∈cur,u.oneCell'=true)(dI:n<=1000000):
    Calls prog 118 #[.slice (some ⟨b,0,none⟩) n n,.int .i64 i,.slice (some ⟨vb,0,none⟩) 1 vc] w fun e w'=>∃r,e=.returned r/\Hh w w' (.slice (some ⟨b,0,none⟩) n n) r B (n+1) (cur.take (i*5)++pv++cur.drop (i*5)):=by
 obtain⟨i0,dA,hz0,hzs,hzb⟩:=wZ8 YQ;have Mc:b<w.heap.size:=(zZ2.1 hb).1;have Tj:vb<w.heap.size:=(zZ2.1 dP).1;have hold:(Builtin.firstCells i0.size i (.slice (some ⟨b,0,none⟩) i n)).run prog w.drew=.ok (cur.take (i*5)).toArray w.drew:=by
  rw[hzs];exact run_firstCells_some w.drew 5 i ⟨b,0,none⟩ i n (cur.take (i*5)) (by rw[zZ9];omega) (fun j v hj=>by
   rw[Addr.add_lit,zQ2];show w.cell? _=_;rw[gw hb];rw[zX5]at hj;split at hj
   . exact hj
   . cases hj)
 obtain⟨G,hG⟩:∃G,G=grownCap w (n+1) n 100:=⟨_,rfl⟩
 obtain⟨R,hR⟩:∃R:List Value,R=cur.take (i*5)++(Builtin.zeroCells (Value.cells (.agg #[.int .i64 0,.int .i64 0,.int .i64 0,.string ⟨#[]⟩,.string ⟨#[]⟩])) (n+1 - i)).toList++(Builtin.zeroCells (Value.cells (.agg #[.int .i64 0,.int .i64 0,.int .i64 0,.string ⟨#[]⟩,.string ⟨#[]⟩])) (G - (n+1))).toList:=⟨_,rfl⟩
 have vL:n+1<=G:=by rw[hG];exact grownCap_ge w _ _ _
 have Hj:G<=9223372036854775807:=by
  have:=grownCap_le_maxLen w (n+1) n 100 (by unfold maxLen;omega);rw[<-hG]at this;unfold maxLen at this;omega
 have xX:R.length=G*5:=by
  rw[hR];simp only[zZ4,yZ7,size_zeroCells,Cw,zZ9];omega
 have Md:∀ty,(Builtin.append_ #[108,3] ty #[.slice (some ⟨b,0,none⟩) i n,.int .i64 ((n:Int)+1 - (i:Int))]).run prog w=
     .ok (.slice (some ⟨w.heap.size,0,none⟩) (n+1) G) ((w.alloc (.cells R.toArray 100)).drew):=fun ty=>by
  have h:=Lib.run_append_grow_zeros w 108 3 ty 100 i0 _ .i64 .i64 underlying108 underlying3 dA hz0 (some ⟨b,0,none⟩) i n (cur.take (i*5)) hold (n+1 - i) (by omega) (by omega) (by omega) (by omega) (by rw[hzb];omega) (by rw[hzb,show i+(n+1 - i)=n+1 by omega];exact growslice_fits (by omega) (by omega));rw[show i+(n+1 - i)=n+1 by omega,<-hG]at h;rw[show(n:Int)+1 - (i:Int)=((n+1 - i:Nat):Int) by omega,h,hR];simp only[<-yJ1,Array.toArray_toList];rfl
 obtain⟨WA,xY⟩:∃WA,WA=(w.alloc (.cells R.toArray 100)).drew:=⟨_,rfl⟩
 have Hk:WA.heap[w.heap.size]? =some (.cells R.toArray 100 (0,0)):=by rw[xY];exact wZ0 w _
 have nw:∀k,k<w.heap.size->WA.heap[k]? =w.heap[k]? :=fun k hk=>by rw[xY];exact heap_alloc_old w _ hk
 rw[<-xY]at Md;have xZ:∀ty dc,(Builtin.copy_ #[108,108] ty #[.slice (some ⟨w.heap.size,i*5,none⟩) (n+1 - i) dc,.slice (some ⟨vb,0,none⟩) 1 vc]).run prog WA=.ok (goInt ((1:Nat):Int)) (WA.setRow w.heap.size (dV R (i*5) pv).toArray):=fun ty dc=>
  Fl WA _ _ ty 100 5 1 w.heap.size (i*5) (n+1 - i) dc ⟨vb,0,none⟩ 1 vc R 100 pv underlying108 QB Hk (by simp only[yX0];split<;> omega) (by rw[hpl])
   (fun j v hj=>by rw[Addr.add_lit,zQ2,World.cell?_of_block (w:=w) (nw vb Tj),gw dP];exact hj)
   (by rw[hpl,xX];omega) mI
 obtain⟨WB,ye⟩:∃WB,WB=WA.setRow w.heap.size (dV R (i*5) pv).toArray:=⟨_,rfl⟩
 have jF:(dV R (i*5) pv).length=G*5:=by rw[wO _ _ _ (by rw[hpl,xX];omega),xX]
 have Hl:WB.heap[w.heap.size]? =some (.cells (dV R (i*5) pv).toArray 100 (0,0)):=by rw[ye];exact setRow_heap _ _ _ _ _ _ Hk
 have qY:∀k,k<w.heap.size->WB.heap[k]? =w.heap[k]? :=fun k hk=>by rw[ye];exact(setRow_other WA _ k _ (by omega)).trans (nw k hk)
 rw[<-ye]at xZ;obtain⟨cs1,gQ⟩:∃cs1,cs1=cur.drop (i*5):=⟨_,rfl⟩
 have fC:cs1.length=(n - i)*5:=by rw[gQ];simp;omega
 have yf:∀ty dc sc,(Builtin.copy_ #[108,108] ty #[.slice (some ⟨w.heap.size,(i+1)*5,none⟩) (n - i) dc,.slice (some ⟨b,i*5,none⟩) (n - i) sc]).run prog WB.drew=.ok (goInt ((n - i:Nat):Int)) (WB.drew.setRow w.heap.size (dV (dV R (i*5) pv) ((i+1)*5) cs1).toArray):=fun ty dc sc=>
  Fl WB.drew _ _ ty 100 5 (n - i) w.heap.size ((i+1)*5) (n - i) dc ⟨b,i*5,none⟩ (n - i) sc _ 100 cs1 underlying108 QB Hl (by simp only[yX0];split<;> omega) fC
   (fun j v hj=>by
    rw[Addr.add_lit];show WB.cell? _=_;rw[World.cell?_of_block (w:=w) (qY b Mc),gw hb];rw[gQ,zK7]at hj;exact hj)
   (by rw[fC,jF];omega) (fun v hv=>h1c v (by rw[gQ]at hv;exact zK6 hv))
 obtain⟨WC,Cx⟩:∃WC,WC=WB.drew.setRow w.heap.size (dV (dV R (i*5) pv) ((i+1)*5) cs1).toArray:=⟨_,rfl⟩
 rw[<-Cx]at yf;have cE:Hid (Hh w WC (.slice (some ⟨b,0,none⟩) n n) (.slice (some ⟨w.heap.size,0,none⟩) (n+1) G) B (n+1) (cur.take (i*5)++pv++cur.drop (i*5))):=by
  refine⟨⟨w.heap.size,G,rfl,.inr (zZ3 _)⟩,?_,?_⟩
  . refine oI (cur:=dV (dV R (i*5) pv) ((i+1)*5) cs1) hB (by rw[Cx];exact setRow_heap _ _ _ _ _ _ Hl) vL Hj (by rw[wO _ _ _ (by rw[fC,jF];omega),jF]) ?_;rw[show(n+1)*5=(i+1)*5+cs1.length by rw[fC];omega,KF _ _ _ (by rw[jF];omega),show(i+1)*5=i*5+pv.length by rw[hpl];omega,KF _ _ _ (by rw[xX];omega),gQ,hR];congr 2;rw[zQ7,yX8 (by simp;omega)];exact zJ3 (by simp;omega)
  . have g1:ar (fun _=>False) w WA:=(by rw[xY];exact(((ae.rf w).alloc _).drew).only _);have g2:ar (fun j=>j=w.heap.size) w WB:=(by rw[ye];exact(g1.mono (fun j hj=>hj.elim)).then (Qw WA _ _));have g3:ar (fun j=>j=w.heap.size) w WC:=(by rw[Cx];exact g2.drew.then (Qw WB.drew _ _));exact g3.pJ (fun j hj=> .inr (by omega))
 have z1:¬((i:Int)=(n:Int)):=by omega
 have z4:IntKind.i64.wrap ((i:Int)+1)=(i:Int)+1:=IntWalk.i64_in _ (by omega);have z5:(0:Int)<=(i:Int)+1:=by omega
 have z6:((i:Int)+1).toNat=i+1:=by omega
 have z7:¬(G=i+1):=by omega
 have z8:¬(G=i):=by omega
 have z9:(i:Int)<=(n:Int):=by omega
 have Mb:i<=n:=by omega
 have Tk:¬(n=i):=by omega
 have z12:(n:Int)<(n:Int)+1:=by omega
 clear hold hG hR vL xX xY Hk nw ye jF Hl qY gQ fC Cx hb dP fP h1c mI hpl hi;go_in;go_wp2_with (first|(at_builtin;refine Lib.wpList_append_run _ rfl _ _ _ _ rfl _ _ rfl rfl _ _ (Md _) ?_)|(at_builtin;refine Qt _ rfl _ _ 108 108 rfl _ _ rfl rfl (xZ _ _) ?_))
 go_region_law (refine Qu rfl (.tmp 50) (.tmp 53) 108 108 rfl (.slice (some ⟨w.heap.size,(i+1)*5,none⟩) (n - i) (G - (i+1))) (.slice (some ⟨b,i*5,none⟩) (n - i) (n - i)) (by simp[Act.eval,Act.put]) (by simp[Act.eval,Act.put]) (yf _ _ _) ?_);go_wp2_with fail;go_ret;exact⟨_,rfl,cE⟩
theorem yg (w:World)(B:Nat)(a0:Option Addr)(n c0:Nat)(xs:List Value)(h:w.ownsRow B 100 5 (.slice a0 n c0) n xs)(hB:B<=w.heap.size)(h1:∀u∈xs,u.oneCell'=true)(i:Nat)(hi:i<=n)(vb:Nat)(pv:List Value)(vc:Nat)(dP:w.heap[vb]? =some (.cells pv.toArray 100 (0,0)))(hpl:pv.length=5)(mI:∀u∈pv,u.oneCell'=true)(dI:n<=1000000)(hne:Value.ownBlock (.slice a0 n c0)≠some vb):
    Calls prog 118 #[.slice a0 n c0,.int .i64 i,.slice (some ⟨vb,0,none⟩) 1 vc] w fun e w'=>∃r,e=.returned r/\Hh w w' (.slice a0 n c0) r B (n+1) (xs.take (i*5)++pv++xs.drop (i*5)):=by
 by_cases iG:i=n
 . subst iG;rw[<-h.1,zQ1,yJ8,yZ1];exact z0q w B _ i xs a0 c0 rfl h hB vb pv vc dP hpl mI dI
 . obtain⟨g,cap,cur,e,Tl,hg,BN,Hm,fP,hx⟩:=Fp h (by omega);cases e;subst hx;by_cases hr:n<c0
   . exact y7C w B g n c0 i cur hg Tl hr Hm fP (by omega) vb pv vc dP hpl mI h1 dI (fun e=>hne (by rw[e];rfl))
   . obtain rfl:c0=n:=(by omega);have hw:cur.take (c0*5)=cur:=zJ3 (by omega);rw[hw]at h1 ⊢;exact y8G w B g c0 i cur hg hB fP (by omega) vb pv vc dP hpl mI h1 dI
theorem z3L:(prog.info? 100).map (fun i=>(i.zero,i.size,i.bytes))=some (some (.agg #[.int .i64 0,.int .i64 0,.int .i64 0,.string ⟨#[]⟩,.string ⟨#[]⟩]),5,56):=by kernel_rfl
theorem z4n (w:World):(zeroValue 100).run prog w=.ok (.agg #[.int .i64 0,.int .i64 0,.int .i64 0,.string ⟨#[]⟩,.string ⟨#[]⟩]) w:=by kernel_rfl
theorem YR:(Value.cells (.agg #[.int .i64 0,.int .i64 0,.int .i64 0,.string ⟨#[]⟩,.string ⟨#[]⟩])).size=5:=by kernel_rfl
theorem yh:∀v∈(Value.cells (.agg #[.int .i64 0,.int .i64 0,.int .i64 0,.string ⟨#[]⟩,.string ⟨#[]⟩])).toList,v.oneCell'=true:=by
 have h:(Value.cells (.agg #[.int .i64 0,.int .i64 0,.int .i64 0,.string ⟨#[]⟩,.string ⟨#[]⟩])).toList.all (fun v=>v.oneCell')=true:=by kernel_rfl
 exact fun v hv=>zK0.1 h v hv
theorem yi (w:World)(B q i:Nat)(a0:Option Addr)(c0:Nat)(xs:List Value)(h:w.ownsRow B 100 5 (.slice a0 (q+1) c0) (q+1) xs)(h1:∀u∈xs,u.oneCell'=true)(hi:i<=q)(dI:q<=1000000):
    Calls prog 119 #[.slice a0 (q+1) c0,.int .i64 i,.int .i64 ((i:Int)+1)] w fun e w'=>e=.returned (.slice a0 q c0)/\w'.ownsRow B 100 5 (.slice a0 q c0) q (xs.take (i*5)++xs.drop ((i+1)*5))/\w.grownBy w' (Value.ownBlock (.slice a0 (q+1) c0)):=by
 obtain⟨i0,dA,hz0,hzs,hzb⟩:=wZ8 z3L;obtain⟨b,c,cur,e,Hi,hb,BN,hc,fP,hx⟩:=Fp h (by omega);cases e;subst hx;obtain⟨D,hD⟩:∃D,D=(cur.take ((q+1)*5)).drop ((i+1)*5):=⟨_,rfl⟩
 have hDl:D.length=(q - i)*5:=by rw[hD];simp;omega
 have hrun:∀ty a sc,(D≠[]->a=⟨b,(i+1)*5,none⟩)->(Builtin.append_ #[108,108] ty #[.slice (some ⟨b,0,none⟩) i c0,.slice (some a) (q - i) sc]).run prog w.drew=.ok (.slice (some ⟨b,0,none⟩) q c0) (w.drew.setRow b (dV cur (i*5) D).toArray):=fun ty a sc ha=>by
  have h:=run_append_room (P:=prog) w.drew 108 ty 100 i0 underlying108 dA b i c0 cur.toArray hb a (q - i) sc D (by rw[hzs];exact hDl)
   (fun j u hj=>by
    have hne:D≠[]:=fun e=>by rw[e]at hj;cases hj
    rw[ha hne,Addr.add_lit];show w.cell? _=_;rw[gw hb];rw[hD,zK7,zX5]at hj;split at hj
    . exact hj
    . cases hj)
   (fun u hu=>h1 u (by rw[hD]at hu;exact zK6 hu)) (by omega) (by rw[hzs,hDl];simp;omega)
  rw[show i+(q - i)=q by omega,hzs]at h;rw[h];simp[dV]
 obtain⟨W1,hW1⟩:∃W1,W1=w.drew.setRow b (dV cur (i*5) D).toArray:=⟨_,rfl⟩
 have jF:(dV cur (i*5) D).length=c0*5:=by rw[wO _ _ _ (by rw[hDl];omega),fP]
 have s9:W1.heap[b]? =some (.cells (dV cur (i*5) D).toArray 100 (0,0)):=by rw[hW1];exact setRow_heap w.drew b _ _ _ _ hb
 rw[<-hW1]at hrun;have yj:∀ty sc,(Builtin.clear_ #[108] ty #[.slice (some ⟨b,q*5,none⟩) 1 sc]).run prog W1=.ok (.tuple #[]) (W1.setRow b (dV (dV cur (i*5) D) (q*5) (Builtin.zeroCells (Value.cells (.agg #[.int .i64 0,.int .i64 0,.int .i64 0,.string ⟨#[]⟩,.string ⟨#[]⟩])) 1).toList).toArray):=fun ty sc=>
  YN W1 108 100 ty _ 5 underlying108 z4n YR yh b (q*5) sc _ 100 s9 (by rw[jF];omega)
 obtain⟨Z,hZ⟩:∃Z,Z=(Builtin.zeroCells (Value.cells (.agg #[.int .i64 0,.int .i64 0,.int .i64 0,.string ⟨#[]⟩,.string ⟨#[]⟩])) 1).toList:=⟨_,rfl⟩
 have Me:Z.length=5:=by rw[hZ,yZ7,size_zeroCells,YR]
 rw[<-hZ]at yj;obtain⟨W2,hW2⟩:∃W2,W2=W1.setRow b (dV (dV cur (i*5) D) (q*5) Z).toArray:=⟨_,rfl⟩
 rw[<-hW2]at yj;have cE:Hid (W2.ownsRow B 100 5 (.slice (some ⟨b,0,none⟩) q c0) q ((cur.take ((q+1)*5)).take (i*5)++(cur.take ((q+1)*5)).drop ((i+1)*5))/\w.grownBy W2 (some b)):=by
  refine⟨oI (cur:=dV (dV cur (i*5) D) (q*5) Z) Hi (by rw[hW2];exact setRow_heap _ _ _ _ _ _ s9) (by omega) hc (by rw[wO _ _ _ (by rw[Me,jF];omega),jF]) ?_,?_⟩
  . rw[YM _ _ _ _ (zZ3 _) (by rw[jF];omega),show q*5=i*5+D.length by rw[hDl];omega,KF _ _ _ (by omega),hD,xZ0];congr 2;omega
  . have g1:w.grownBy W1 (some b):=(by rw[hW1];exact(show w.grownBy w.drew (some b)from⟨rfl,rfl,rfl,zZ3 _,fun _ _ _=>rfl⟩).trans (Fm w.drew b _));rw[hW2];exact g1.trans (Fm W1 b _)
 have eH:=af hrun;have hDn:c0=i+1->D=[]:=fun e=>zX2 (by rw[hDl];omega);have wQ:=af hDn;have z1:((i:Int)==(i:Int)+1)=false:=wZ3.2 (by omega);have z2:(0:Int)<=(i:Int)+1:=by omega
 have z3:((i:Int)+1).toNat=i+1:=by omega
 have z4:(i:Int)+1<=(q:Int)+1:=by omega
 have z5:(i:Int)<=(i:Int)+1:=by omega
 have z6:q+1<=c0:=BN;have z7:¬(c0=q):=by omega
 have z8:¬(c0=i):=by omega
 have z9:(i:Int)<=(c0:Int):=by omega
 have Mb:i<=q+1:=by omega
 have Tk:i<=c0:=by omega
 have z12:¬((i:Int)=(i:Int)+1):=by omega
 clear hrun hDn hDl hD hW1 jF s9 hZ Me hW2 hb fP h h1 BN;by_cases lg:c0=i+1
 . obtain rfl:i=q:=(by omega);subst lg;have mG:∀ty sc,(Builtin.append_ #[108,108] ty #[.slice (some ⟨b,0,none⟩) i (i+1),.slice (some ⟨b,0,none⟩) 0 sc]).run prog w.drew=.ok (.slice (some ⟨b,0,none⟩) i (i+1)) W1:=fun ty sc=>by
    have:=eH ty ⟨b,0,none⟩ sc (fun hne=>absurd (wQ rfl) hne);rwa[Nat.sub_self]at this
   clear eH wQ;go_in;go_wp2_with fail;go_region_law (refine Qv rfl (.tmp 22) (.tmp 25) 108 108 rfl (.slice (some ⟨b,0,none⟩) i (i+1)) (.slice (some ⟨b,0,none⟩) 0 0) (by simp[Act.eval,Act.put]) (by simp[Act.eval,Act.put]) (mG _ _) ?_);go_wp2_with fail;go_ret;exact⟨rfl,cE⟩
 . have mG:∀ty sc,(Builtin.append_ #[108,108] ty #[.slice (some ⟨b,0,none⟩) i c0,.slice (some ⟨b,(i+1)*5,none⟩) (q - i) sc]).run prog w.drew=.ok (.slice (some ⟨b,0,none⟩) q c0) W1:=fun ty sc=>eH ty ⟨b,(i+1)*5,none⟩ sc (fun _=>rfl);clear eH wQ;go_in;go_wp2_with fail;go_region_law (refine Qv rfl (.tmp 22) (.tmp 25) 108 108 rfl (.slice (some ⟨b,0,none⟩) i c0) (.slice (some ⟨b,(i+1)*5,none⟩) (q - i) (c0 - (i+1))) (by simp[Act.eval,Act.put]) (by simp[Act.eval,Act.put]) (mG _ _) ?_);go_wp2_with fail;go_ret;exact⟨rfl,cE⟩
theorem z3u:(prog.info? 100).map (fun i=>(i.zero,i.size,i.bytes))=some (some (.agg #[.int .i64 0,.int .i64 0,.int .i64 0,.string ⟨#[]⟩,.string ⟨#[]⟩]),5,56):=by kernel_rfl
theorem yl:(Value.cells (.agg #[.int .i64 0,.int .i64 0,.int .i64 0,.string ⟨#[]⟩,.string ⟨#[]⟩])).size=5:=by kernel_rfl
theorem ym (gb off m c:Nat)(w:World):(binOp .eql 108 (.slice (some ⟨gb,off,none⟩) m c) (.slice none 0 0)).run prog w=.ok (.bool false) w:=by kernel_rfl
theorem YS (w:World)(gb off m c:Nat)(hm:0<m)(dI:m<=1000000)(news:List Value)(hl:news.length=m*5)(hnews:∀j u,news[j]? =some u->w.cell? ⟨gb,off+j,none⟩=some u)(h1:∀u∈news,u.oneCell'=true):
    Calls prog 53 #[.slice (some ⟨gb,off,none⟩) m c] w fun e w'=>∃g cap,e=.returned (.slice (some ⟨g,0,none⟩) m cap)/\w'.ownsRow w.heap.size 100 5 (.slice (some ⟨g,0,none⟩) m cap) m news/\ae w w':=by
 obtain⟨i0,dA,hz0,hz1,hz2⟩:=wZ8 z3u;have had:gb<w.heap.size:=by
  have h0:0<news.length:=by omega
  have h2:=World.block_lt_of_cell? _ _ (hnews 0 news[0] (zQ5 h0));exact h2
 have HN:Hid (∀(t:TypeId) j u,news[j]? =some u->(w.alloc (.cells #[] t)).cell? ⟨gb,off+j,none⟩=some u):=fun t j u hj=>by
  have:=hnews j u hj;rw[<-this];exact((ae.rf w).alloc _).below.cell (World.block_lt_of_cell? _ _ this)
 have HL:=af hl;have H1:=af h1;have HO:=af (fun(t:TypeId) (h:t=100)=>show(w.alloc (.cells #[] t)).ownsRow w.heap.size 100 5 (.slice (some ⟨w.heap.size,0,none⟩) 0 0) 0 []by
  subst h;exact oI (cur:=[]) (zZ3 _) (wZ0 w _) (zZ3 _) (by decide) rfl rfl)
 clear hnews hl h1;have Fv:=ym gb off m c;go_in;go_wp2_with (at_builtin;refine wQ2 _ rfl _ _ 108 rfl w.heap.size 100 i0 _ 5 56 underlying108 dA hz0 hz1 hz2 yl (by omega) (.slice (some ⟨w.heap.size,0,none⟩) 0 0) 0 [] rfl (HO.out _ rfl) ⟨gb,off,none⟩ m c news rfl HL.out (fun j u hj=>by rw[Addr.add_lit];exact HN.out _ j u hj) H1.out (by omega) (by unfold maxLen;omega) (by omega) (by simp) _ rfl ?_);intro g cap w1 aH bw hat az;have HO:=af aH;have HG:=af bw;clear aH bw hat;go_wp2_with fail;go_ret;refine⟨g,cap,by simp,by simpa using HO.out,?_⟩;refine(((ae.rf w).alloc _).only (fun j=>some j=Value.ownBlock (.slice (some ⟨w.heap.size,0,none⟩) 0 0))).then (ar.ay HG) |>.ah ?_;intro j hj;have:j=w.heap.size:=Option.some.inj hj;omega
theorem z3U:(prog.info? 124).map (fun i=>(i.zero,i.size,i.bytes))=some (some (.agg #[.int .i64 0,.int .i64 0,.int .i64 0,.int .i64 0,.int .i64 0,.int .i64 0,.int .i64 0,.slice none 0 0,.string ⟨#[]⟩,.int .i64 0,.int .i64 0,.int .i64 0,.slice none 0 0]),13,144):=by kernel_rfl
theorem yn:(Value.cells (.agg #[.int .i64 0,.int .i64 0,.int .i64 0,.int .i64 0,.int .i64 0,.int .i64 0,.int .i64 0,.slice none 0 0,.string ⟨#[]⟩,.int .i64 0,.int .i64 0,.int .i64 0,.slice none 0 0])).size=13:=by kernel_rfl
theorem yo (gb off m c:Nat)(w:World):(binOp .eql 113 (.slice (some ⟨gb,off,none⟩) m c) (.slice none 0 0)).run prog w=.ok (.bool false) w:=by kernel_rfl
theorem z5A (w:World):(binOp .eql 113 (.slice none 0 0) (.slice none 0 0)).run prog w=.ok (.bool true) w:=by kernel_rfl
theorem z4r (w:World)(gb off m c:Nat)(hm:0<m)(dI:m<=1000000)(news:List Value)(hl:news.length=m*13)(hnews:∀j u,news[j]? =some u->w.cell? ⟨gb,off+j,none⟩=some u)(h1:∀u∈news,u.oneCell'=true):
    Calls prog 54 #[.slice (some ⟨gb,off,none⟩) m c] w fun e w'=>∃g cap,e=.returned (.slice (some ⟨g,0,none⟩) m cap)/\w'.ownsRow w.heap.size 124 13 (.slice (some ⟨g,0,none⟩) m cap) m news/\ae w w':=by
 obtain⟨i0,dA,hz0,hz1,hz2⟩:=wZ8 z3U;have had:gb<w.heap.size:=by
  have h0:0<news.length:=by omega
  have h2:=World.block_lt_of_cell? _ _ (hnews 0 news[0] (zQ5 h0));exact h2
 have HN:Hid (∀(t:TypeId) j u,news[j]? =some u->(w.alloc (.cells #[] t)).cell? ⟨gb,off+j,none⟩=some u):=fun t j u hj=>by
  have:=hnews j u hj;rw[<-this];exact((ae.rf w).alloc _).below.cell (World.block_lt_of_cell? _ _ this)
 have HL:=af hl;have H1:=af h1;have HO:=af (fun(t:TypeId) (h:t=124)=>show(w.alloc (.cells #[] t)).ownsRow w.heap.size 124 13 (.slice (some ⟨w.heap.size,0,none⟩) 0 0) 0 []by
  subst h;exact oI (cur:=[]) (zZ3 _) (wZ0 w _) (zZ3 _) (by decide) rfl rfl)
 clear hnews hl h1;have Fv:=yo gb off m c;go_in;go_wp2_with (at_builtin;refine wQ2 _ rfl _ _ 113 rfl w.heap.size 124 i0 _ 13 144 underlying113 dA hz0 hz1 hz2 yn (by omega) (.slice (some ⟨w.heap.size,0,none⟩) 0 0) 0 [] rfl (HO.out _ rfl) ⟨gb,off,none⟩ m c news rfl HL.out (fun j u hj=>by rw[Addr.add_lit];exact HN.out _ j u hj) H1.out (by omega) (by unfold maxLen;omega) (by omega) (by simp) _ rfl ?_);intro g cap w1 aH bw hat az;have HO:=af aH;have HG:=af bw;clear aH bw hat;go_wp2_with fail;go_ret;refine⟨g,cap,by simp,by simpa using HO.out,?_⟩;refine(((ae.rf w).alloc _).only (fun j=>some j=Value.ownBlock (.slice (some ⟨w.heap.size,0,none⟩) 0 0))).then (ar.ay HG) |>.ah ?_;intro j hj;have:j=w.heap.size:=Option.some.inj hj;omega
theorem y9h (w:World):Calls prog 54 #[.slice none 0 0] w fun e w'=>e=.returned (.slice none 0 0)/\ae w w':=by
 have Fv:=z5A;go_in;go_wp2_with fail;go_ret;exact⟨rfl,ae.rf w⟩
section
structure fK (w:World)(F:Nat->Prop)(sb:Nat)(v ve:Value)(xs:List Sh)(aD:Nat->Bool)(ne:Nat)(evs:List Value):Prop where
 bZ:w.cell? ⟨sb,0,none⟩=some v
 aD:∀i,i<13->w.cell? ⟨sb,1+i,none⟩=some (.bool (aD i))
 ev:w.cell? ⟨sb,14,none⟩=some ve
 fz:∀i,i<15->w.frozen? ⟨sb,i,none⟩=false
 row:w.ownsRow 0 100 5 v xs.length (dL xs)
 iL:w.ownsRow 0 124 13 ve ne evs
 sz:∀c∈xs,c.lo.size<=70368744177664/\c.hi.size<=70368744177664
 bH:F sb
 aY:∀g,v.ownBlock=some g->F g/\g≠sb
 bR:∀g,ve.ownBlock=some g->F g/\g≠sb/\v.ownBlock≠some g
 lt:∀j,F j->j<w.heap.size
 nil:ne=0->ve=.slice none 0 0
def gR (w:World)(F:Nat->Prop)(sb:Nat)(xs:List Sh)(aD:Nat->Bool)(ne:Nat)(evs:List Value):Prop:=∃v ve,fK w F sb v ve xs aD ne evs
theorem kH {S:Nat->Prop}{w w':World}(g:ar S w w'){B:Nat}{e:TypeId}{k:Nat}{v:Value}{n:Nat}{xs:List Value}(h:w.ownsRow B e k v n xs)(hS:∀b,v.ownBlock=some b->¬S b):w'.ownsRow B e k v n xs:=by
 refine⟨h.1,?_⟩;rcases h.2 with h2 | ⟨b,cap,cur,e1,h2,h3,h4⟩
 . exact .inl h2
 . refine .inr ⟨b,cap,cur,e1,h2,(g.block b (zZ2.1 h3).1 (hS b (by rw[e1];rfl))).trans h3,h4⟩
section
variable {w w':World}{F S:Nat->Prop}{sb:Nat}{v ve:Value}{xs:List Sh}{aD:Nat->Bool}{ne:Nat}{evs:List Value}
theorem fK.blt (h:fK w F sb v ve xs aD ne evs):sb<w.heap.size:=bf h.bZ
theorem fK.aC (h:fK w F sb v ve xs aD ne evs)(g:ar S w w')(hS:∀j,F j->¬S j):fK w' F sb v ve xs aD ne evs where
 bZ:=(g.cell h.blt (hS _ h.bH) 0).trans h.bZ
 aD i hi:=(g.cell h.blt (hS _ h.bH) _).trans (h.aD i hi)
 ev:=(g.cell h.blt (hS _ h.bH) _).trans h.ev
 fz i hi:=(g.frozen h.blt (hS _ h.bH) _).trans (h.fz i hi)
 row:=kH g h.row (fun b hb=>hS b (h.aY b hb).1)
 iL:=kH g h.iL (fun b hb=>hS b (h.bR b hb).1)
 sz:=h.sz
 bH:=h.bH
 aY:=h.aY
 bR:=h.bR
 lt j hj:=xA9 (h.lt j hj) g.size
 nil:=h.nil
theorem fK.ah (h:fK w F sb v ve xs aD ne evs)(g:ae w w'):fK w' F sb v ve xs aD ne evs:=h.aC (g.only fun _=>False) (fun _ _ h=>h)
theorem gR.aC (h:gR w F sb xs aD ne evs)(g:ar S w w')(hS:∀j,F j->¬S j):gR w' F sb xs aD ne evs:=by
 obtain⟨v,ve,h⟩:=h;exact⟨v,ve,h.aC g hS⟩
theorem gR.ah (h:gR w F sb xs aD ne evs)(g:ae w w'):gR w' F sb xs aD ne evs:=by
 obtain⟨v,ve,h⟩:=h;exact⟨v,ve,h.ah g⟩
end
abbrev KH:Sh:=⟨1,1,0,⟨#[]⟩,⟨#[]⟩⟩
def qZ (i:Nat):Bool:=decide (i=1)
theorem z1w (b:Nat)(i:Nat)(hi:i<13):(#[Value.slice (some ⟨b,0,none⟩) 1 1,.bool false,.bool true,.bool false,.bool false,.bool false,.bool false,.bool false,.bool false,.bool false,.bool false,.bool false,.bool false,.bool false,.slice none 0 0]:Array Value)[i+1]? =some (.bool (qZ i)):=
 match i,hi with
  | 0,_=>rfl
  | 1,_=>rfl
  | 2,_=>rfl
  | 3,_=>rfl
  | 4,_=>rfl
  | 5,_=>rfl
  | 6,_=>rfl
  | 7,_=>rfl
  | 8,_=>rfl
  | 9,_=>rfl
  | 10,_=>rfl
  | 11,_=>rfl
  | 12,_=>rfl
  | n+13,h=>by omega
theorem yq (w:World):Calls prog 21 #[] w fun e w'=>∃sb,e=.returned (.pointer (some ⟨sb,0,none⟩))/\ae w w'/\w.heap.size<=sb/\∃F,gR w' F sb [KH] qZ 0 []/\∀j,F j->w.heap.size<=j:=by
 go_in;go_wp2_with fail;go_ret;refine⟨w.heap.size+1,rfl,?_,yK9 _,fun j=>j=w.heap.size\/j=w.heap.size+1,?_,?_⟩
 . exact((ae.rf w).alloc _).alloc _
 . refine⟨.slice (some ⟨w.heap.size,0,none⟩) 1 1,.slice none 0 0,?_⟩;refine⟨by simp[go_sem],?_,by simp[go_sem],?_,?_,World.ownsRow_nil _ _ _ _,?_,.inr rfl,?_,(fun g hg=>by cases hg),?_,fun _=>rfl⟩
   . intro i hi;rw[wQ1 _ (w.heap.size+1) (1+i) _ _ _ (heap_alloc2_new w _ _),yQ9];exact z1w w.heap.size i hi
   . intro i _;exact frozen_of_row _ (w.heap.size+1) i _ _ (heap_alloc2_new w _ _)
   . refine oI (cur:=[.int .i64 1,.int .i64 1,.int .i64 0,.string ⟨#[]⟩,.string ⟨#[]⟩]) (zZ5 _) (heap_alloc2_old w _ _) (zZ3 _) (by decide) rfl rfl
   . intro c hc;rw[zQ0.1 hc];exact⟨zZ5 _,zZ5 _⟩
   . intro g hg;cases hg;exact⟨.inl rfl,Nat.ne_of_lt (xZ6 _)⟩
   . intro j hj;simp;omega
 . intro j hj;omega
theorem z3z (c:Sh)(cb:Nat)(id:Int)(w:World)(hc:w.cell? ⟨cb,0,none⟩=some (.int .i64 id)):
    Calls prog 116 #[c.dH,.pointer (some ⟨cb,0,none⟩)] w fun e w'=>e=.returned (.bool (c.id==id))/\ae w w':=by
 obtain⟨i,s,n,l,h⟩:=c;unfold Sh.dH Sh.vals;dsimp only;have hb:cb<w.heap.size:=bf hc;go_in;go_wp2_with fail;go_ret;exact⟨rfl,(ae.rf w).alloc _⟩
namespace Pl
def aK (xs:List Sh)(id:Int):Int:=dU (fun c=>c.id==id) xs
end Pl
theorem yr {w:World}{F:Nat->Prop}{sb:Nat}{xs:List Sh}{aD:Nat->Bool}{ne:Nat}{evs:List Value}(h:gR w F sb xs aD ne evs)(hx:xs.length<=1000000)(id:Int):
    Calls prog 69 #[.pointer (some ⟨sb,0,none⟩),.int .i64 id] w fun e w'=>e=.returned (.int .i64 (Pl.aK xs id))/\ae w w':=by
 obtain⟨v,ve,h⟩:=h;obtain⟨a,cap,rfl,hA⟩:=Fq h.row;have c0:=h.bZ;have hb:=h.blt
 have HI:=af (fun W (hc:W.cell? ⟨w.heap.size,0,none⟩=some (.int .i64 id)) (g:ae w W)=>z0o (fun c=>c.id==id) w.heap.size a cap xs W (hA.ah g) hx
  (fun j hj W' g'=>z3z (ai xs j) w.heap.size id W' ((g'.cells.1 _ _ (bf hc)).trans hc)))
 unfold Pl.aK;clear h hA;generalize dU (fun c=>c.id==id) xs=r at *;go_in;go_wp2_with fail;refine(HI _ (by simp[go_sem]) ((ae.rf w).alloc _)).mono ?_;rintro e w1 ⟨rfl,hg⟩;go_wp2_with fail;go_ret;exact⟨rfl,((ae.rf w).alloc _).trans hg⟩
end
def lI (k:Nat):Bool:=decide (k=1) || decide (k=2) || decide (k=3) || decide (k=4) || decide (k=6) || decide (k=7) || decide (k=19)
theorem bz.less {S T:Nat->Bool}{E:Nat->Addr}{w:World}(h:bz S E w)(hT:∀k,T k=true->S k=true):bz T E w:=
 ⟨(by cases hh:T 0 with | false=>rfl | true=>(have:=hT 0 hh;rw[h.pos]at this;cases this)),fun k hk=>h.cell k (hT k hk),fun k hk=>h.row k (hT k hk),fun j k hj hk=>h.ne j k (hT j hj) (hT k hk)⟩
end Go.Proofs.YtgegogoanbamfaaGreatDoor
