/- Part 1 of the proof. -/
import Derived.Test.YtbnofojapimfcaaGreatDoorProg
import Derived.WalkKit
import Derived.WalkSpells
import Derived.WalkLawsBesides
import Derived.Maps.OwnSet
import Derived.Maps.OwnOps
import Derived.Deep.AppendLies
import Derived.Maps.RangeWalk
import Derived.Maps.GroupsBeside
import Derived.Sort.KeysCollected
import Derived.StringKeys
set_option linter.unusedVariables false
set_option linter.unusedSectionVars false
set_option linter.unusedSimpArgs false
set_option maxRecDepth 100000
set_option maxHeartbeats 16000000
namespace Go.Proofs.YtbnofojapimfcaaGreatDoor
section
open Go.RowKit
theorem zZ0{c:Prop}{h:Decidable c}(k:¬c){α:Sort _}{t e:α}:ite c t e=e:=if_neg k
theorem zZ1{c:Prop}{h:Decidable c}(k:c){α:Sort _}{t e:α}:ite c t e=t:=if_pos k
theorem zZ2{α:Type _}{l:Array α}{i:Nat}{b:α}:l[i]?=some b↔∃h:i<l.size,l[i]=b:=Array.getElem?_eq_some_iff
theorem zZ3(n:Nat):n≤n:=Nat.le_refl n
theorem ltT{a b c:Nat}(h:a<b)(k:b≤c):a<c:=Nat.lt_of_lt_of_le h k
theorem sA{α:Type _}(l:List α)(i:Nat)(x:α):l.toArray.setIfInBounds i x=(l.set i x).toArray:=List.setIfInBounds_toArray l i x
theorem sB{α:Type _}{a:α}{l:List α}{b:α}:(a::l).set 0 b=b::l:=List.set_cons_zero
theorem sC{α:Type _}{a:α}{l:List α}{n:Nat}{b:α}:(a::l).set (n+1) b=a::l.set n b:=List.set_cons_succ
abbrev zZ4:=@List.mem_map
abbrev zZ5:=@List.any_eq_true
abbrev zZ6:=@List.take_succ_eq_append_getElem
abbrev zZ7:=@Classical.byContradiction
abbrev zZ8:=@Bool.false_eq_true
abbrev zZ9:=@List.any_eq_false
abbrev zQ0:=@Nat.le_trans
abbrev zQ1:=@List.getElem_of_mem
abbrev zQ2:=@List.take_length
abbrev zQ3:=@ByteArray.toList_eq
abbrev zQ4:=@Bool.false_or
abbrev zQ5:=@List.getElem_mem
abbrev zQ6:=@Nat.add_assoc
abbrev zQ7:=@List.take_of_length_le
abbrev zQ8:=@List.length_drop
abbrev zQ9:=@List.getElem?_eq_some_iff
abbrev zX0:=@List.pairwise_iff_getElem
abbrev zX1:=@List.eq_nil_of_length_eq_zero
abbrev zX2:=@List.all_eq_true
abbrev zX3:=@Nat.add_zero
abbrev zX4:=@Nat.min_eq_left
abbrev zX5:=@Bool.eq_iff_iff
abbrev zX6:=@List.mem_of_mem_take
abbrev zX7:=@List.mem_of_mem_drop
abbrev zX8:=@List.length_append
abbrev zX9:=@Nat.eq_zero_or_pos
abbrev zK0:=@Nat.zero_add
abbrev zK1:=@List.ext_getElem?
abbrev zK2:=@List.getElem?_set
abbrev zK3:=@List.length_nil
abbrev zK4:=@List.getElem?_cons_zero
abbrev zK5:=@List.getElem?_cons_succ
abbrev zK6:=@UInt8.toNat_lt
abbrev zK7:=@List.cons_append
abbrev zK8:=@Option.bind_some
abbrev zK9:=@Option.map_eq_some_iff
abbrev zJ0:=@List.getD_eq_getElem?_getD
abbrev zJ1:=@List.getElem?_eq_none
abbrev zJ2:=@List.findIdx?_eq_none_iff
abbrev zJ3:=@List.findIdx?_eq_some_iff_getElem
abbrev zJ4:=@List.drop_eq_getElem_cons
abbrev zJ5:=@List.drop_of_length_le
abbrev zJ6:=@Array.getElem?_toList
abbrev zJ7:=@Array.getElem?_eq_getElem
abbrev zJ8:=@List.map_cons
abbrev zJ9:=@List.length_filter_le
theorem af {p:Prop} (h:p):Hid p:=h
theorem fV {k:IntKind} {a b:Int} (h:a=b):Ending.returned (.int k a)=.returned (.int k b):=by rw [h]
theorem bt {a b:Bool} (h:a=b):Ending.returned (.bool a)=.returned (.bool b):=by rw [h]
theorem Fp {a b:Value} (h:a=b):Ending.returned a=.returned b:=by rw [h]
theorem GI {B:Nat} {W w1:World} (hb:Below B W w1):(∀b o,b<B->w1.cell? ⟨b,o,none⟩=W.cell? ⟨b,o,none⟩)/\(∀b o,b<B->w1.frozen? ⟨b,o,none⟩=W.frozen? ⟨b,o,none⟩):=
 ⟨fun b o h=>hb.cell (p:=⟨b,o,none⟩) h,fun b o h=>hb.frozen (p:=⟨b,o,none⟩) h⟩
def ae (w w':World):Prop:=Below w.heap.size w w'
theorem ae.below {w w':World} (h:ae w w'):Below w.heap.size w w':=h
theorem ae.rf (w:World):ae w w:=Below.refl _ _
theorem ae.size {w w':World} (h:ae w w'):w.heap.size<=w'.heap.size:=Below.size h
theorem ae.trans {a b c:World} (h:ae a b) (k:ae b c):ae a c:=Below.trans h (Below.mono k h.size)
theorem ae.alloc {a b:World} (h:ae a b) (o:Obj):ae a (b.alloc o):=Below.alloc h h.size o
theorem ae.drew {a b:World} (h:ae a b):ae a b.drew:=Below.drew h
theorem ae.drewN {a b:World} (h:ae a b) (n:Nat):ae a (b.drewN n):=⟨h.os,h.tape,h.output,h.size,h.block⟩
theorem ae.iter {a b:World} (h:ae a b) (s:ByteArray) (p:Nat):ae a (b.iter s p):=h.alloc _
theorem ae.setCell {a b:World} (h:ae a b) {p:Addr} (hp:a.heap.size<=p.block) (u:Value):ae a (b.setCell p u):=Below.setCell h hp u
theorem ae.cells {a b:World} (h:ae a b):(∀k o,k<a.heap.size->b.cell? ⟨k,o,none⟩=a.cell? ⟨k,o,none⟩)/\(∀k o,k<a.heap.size->b.frozen? ⟨k,o,none⟩=a.frozen? ⟨k,o,none⟩):=GI h
end
section
def b7 {α:Type} (p:α->Bool) (xs:List α):Int:=match xs.findIdx? p with | some i=>(i:Nat) | none=> -1
theorem rL {α:Type} (p:α->Bool) (xs:List α) (h:xs.all (fun c=>!p c)=true):b7 p xs= -1:=by
 have:xs.findIdx? p=none:=by
  rw [zJ2]
  intro x hx
  have:=zX2.1 h x hx
  simpa using this
 unfold b7;rw [this]
theorem tU {α:Type} (p:α->Bool) (xs:List α) (k:Nat) (hk:k<xs.length) (h:(xs.take k).all (fun c=>!p c)=true) (hp:p xs[k]=true):b7 p xs=(k:Nat):=by
 have:xs.findIdx? p=some k:=by
  rw [zJ3]
  refine ⟨hk,hp,fun j hj=>?_⟩
  have h2:=zX2.1 h xs[j] (by rw [List.mem_take_iff_getElem];exact ⟨j,by omega,rfl⟩)
  simpa using h2
 unfold b7;rw [this]
theorem yR {α:Type} (p:α->Bool) (xs:List α) (k:Nat) (hk:k<xs.length) (h:(xs.take k).all (fun c=>!p c)=true) (hp:p xs[k]=false):(xs.take (k+1)).all (fun c=>!p c)=true:=by
 rw [zZ6 hk,List.all_append,h]
 simp [hp]
theorem tV {α:Type} (p:α->Bool) (xs:List α):decide (0<=b7 p xs)=xs.any p:=by
 cases hf:xs.findIdx? p with
 | none=>
  rw [zJ2] at hf
  have:b7 p xs= -1:=rL p xs (zX2.2 fun x hx=>by simpa using hf x hx)
  rw [this]
  have h2:xs.any p=false:=zZ9.2 fun x hx=>by simpa using hf x hx
  rw [h2];rfl
 | some i=>
  have:b7 p xs=(i:Nat):=by unfold b7;rw [hf]
  rw [this]
  obtain ⟨hi,hp,_⟩:=zJ3.1 hf
  have h2:xs.any p=true:=zZ5.2 ⟨xs[i],zQ5 hi,hp⟩
  rw [h2];simp
end
section
open Go.RowKit Go.Maps
structure aj (S:Nat->Prop) (w w':World):Prop where
 os:w'.os=w.os
 tape:w'.tape=w.tape
 output:w'.output=w.output
 size:w.heap.size<=w'.heap.size
 block:∀k,k<w.heap.size->¬S k->w'.heap[k]? =w.heap[k]?
theorem aj.refl (S:Nat->Prop) (w:World):aj S w w:=⟨rfl,rfl,rfl,zZ3 _,fun _ _ _=>rfl⟩
theorem aj.trans {S T:Nat->Prop} {a b c:World} (h:aj S a b) (k:aj T b c) (hT:∀j,T j->S j\/a.heap.size<=j):aj S a c:=
 ⟨k.os.trans h.os,k.tape.trans h.tape,k.output.trans h.output,zQ0 h.size k.size,fun j hj hS=>(k.block j (ltT hj h.size) (fun t=>by rcases hT j t with s | s;exact hS s;omega)).trans (h.block j hj hS)⟩
theorem aj.then {S:Nat->Prop} {a b c:World} (h:aj S a b) (k:aj S b c):aj S a c:=h.trans k fun _=> .inl
theorem aj.mono {S T:Nat->Prop} {a b:World} (h:aj S a b) (Ya:∀j,S j->T j\/a.heap.size<=j):aj T a b:=
 ⟨h.os,h.tape,h.output,h.size,fun j hj ht=>h.block j hj fun s=>by rcases Ya j s with t | t;exact ht t;omega⟩
theorem ae.only {a b:World} (h:ae a b) (S:Nat->Prop):aj S a b:=⟨h.os,h.tape,h.output,h.size,fun j hj _=>h.block j hj⟩
theorem aj.ag {S:Nat->Prop} {a b:World} (h:aj S a b) (hS:∀j,S j->a.heap.size<=j):ae a b:=⟨h.os,h.tape,h.output,h.size,fun j hj=>h.block j hj fun s=>by have:=hS j s;omega⟩
theorem aj.cm {S:Nat->Prop} {a b c:World} (h:aj S a b) (k:ae b c):aj S a c:=h.then (k.only S)
theorem aj.alloc {S:Nat->Prop} {a b:World} (h:aj S a b) (o:Obj):aj S a (b.alloc o):=h.cm ((ae.rf b).alloc o)
theorem aj.drew {S:Nat->Prop} {a b:World} (h:aj S a b):aj S a b.drew:=h.cm ((ae.rf b).drew)
theorem aj.cell {S:Nat->Prop} {w w':World} (h:aj S w w') {k:Nat} (hk:k<w.heap.size) (hS:¬S k) (o:Nat):w'.cell? ⟨k,o,none⟩=w.cell? ⟨k,o,none⟩:=World.cell?_of_block (a:=⟨k,o,none⟩) (h.block k hk hS)
theorem aj.frozen {S:Nat->Prop} {w w':World} (h:aj S w w') {k:Nat} (hk:k<w.heap.size) (hS:¬S k) (o:Nat):w'.frozen? ⟨k,o,none⟩=w.frozen? ⟨k,o,none⟩:=World.frozen?_of_block (a:=⟨k,o,none⟩) (h.block k hk hS)
theorem aj.of_grownBy {w w':World} {row:Option Nat} (h:w.grownBy w' row):aj (fun j=>some j=row) w w':=⟨h.os,h.tape,h.output,h.size,h.block⟩
theorem aj.mD {S:Nat->Prop} {w w':World} {row:Option Nat} (h:aj S w w') (hS:∀j,S j->some j=row\/w.heap.size<=j):w.grownBy w' row:=
 ⟨h.os,h.tape,h.output,h.size,fun j hj hn=>h.block j hj fun s=>by rcases hS j s with t | t;exact hn t;omega⟩
theorem aj.setCell (w:World) (p:Addr) (u:Value):aj (fun j=>j=p.block) w (w.setCell p u):=by
 have:=Below.setCell (Below.refl 0 w) (Nat.zero_le p.block) u
 refine ⟨this.os,this.tape,this.output,?_,?_⟩
 · exact this.size
 · intro k hk hne
   exact Below.heap_setCell w p u k hne
def raw (v:Value):Option (DataW Value×List MemPlace):=some (.held v,[])
def fK (D:DataW Value) (l:Lit):Option Value:=if has D l=true then (match D.atKey l .nil with | .held v=>some v | _=>none) else none
def bL (w:World) (P:Program) (k:TypeId) (b n:Nat) (f:Lit->Option Value):Prop:=∃D,w.ownsMap P k raw b n D/\∀l,fK D l=f l
section
variable {w:World} {P:Program} {k e t:TypeId} {b n:Nat} {f:Lit->Option Value}
theorem bL.made (w:World) (P:Program) (k:TypeId):bL (w.alloc (.map #[] 0)) P k w.heap.size 0 (fun _=>none):=
 ⟨_,World.ownsMap_made w P k raw,fun l=>by simp [fK,has]⟩
theorem bL.lt (h:bL w P k b n f):b<w.heap.size:=by obtain ⟨D,h,_⟩:=h;exact h.lt
theorem bL.kept {S:Nat->Prop} {w':World} (h:bL w P k b n f) (g:aj S w w') (hS:¬S b):bL w' P k b n f:=by
 obtain ⟨D,h,hf⟩:=h
 have aq:=h.lt
 obtain ⟨es,clock,hb,F,hs,hD⟩:=h
 exact ⟨D,⟨es,clock,(g.block b aq hS).trans hb,F,hs,hD⟩,hf⟩
theorem bL.ag {w':World} (h:bL w P k b n f) (g:ae w w'):bL w' P k b n f:=h.kept (g.only fun _=>False) (fun h=>h)
theorem bL.lookup {z:Value} {key:Value} {l:Lit} (h:bL w P k b n f) (K:Keyed P k) (ht:P.underlying t=some (.map k e)) (hz:(zeroValue e).run P w=.ok z w) (hkey:keyOf P k key=some l):
    (Instr.lookup t (.map (some b)) key false).run P w=.ok ((f l).getD z) w:=by
 obtain ⟨D,h,hf⟩:=h
 obtain ⟨es,clock,hb,F,_,rfl⟩:=h
 rw [<-hf]
 rcases Maps.fit_look false K ht hz hb F hkey with ⟨hrun,_,hat⟩ | ⟨e0,y,_,_,hrun,hRv,hat,_⟩
 · rw [hrun];unfold fK;rw [Maps.has_false_of_atKey hat];rfl
 · rw [hrun];unfold fK;rw [Maps.has_true_of_atKey hat,hat];cases hRv;rfl
theorem bL.rO {z:Value} {key:Value} {l:Lit} (h:bL w P k b n f) (K:Keyed P k) (ht:P.underlying t=some (.map k e)) (hz:(zeroValue e).run P w=.ok z w) (hkey:keyOf P k key=some l):
    (Instr.lookup t (.map (some b)) key true).run P w=.ok (.tuple #[(f l).getD z,.bool (f l).isSome]) w:=by
 obtain ⟨D,h,hf⟩:=h
 obtain ⟨es,clock,hb,F,_,rfl⟩:=h
 rw [<-hf]
 rcases Maps.fit_look true K ht hz hb F hkey with ⟨hrun,_,hat⟩ | ⟨e0,y,_,_,hrun,hRv,hat,_⟩
 · rw [hrun];unfold fK;rw [Maps.has_false_of_atKey hat];rfl
 · rw [hrun];unfold fK;rw [Maps.has_true_of_atKey hat,hat];cases hRv;rfl
noncomputable def fC (f:Lit->Option Value) (l:Lit) (v:Option Value) (m:Lit):Option Value:=open Classical in if m=l then v else f m
theorem bL.store {key val:Value} {l:Lit} (h:bL w P k b n f) (K:Keyed P k) (ht:P.underlying t=some (.map k e)) (hn:n<maxLen) (hkey:keyOf P k key=some l):
    ∃w',(Instr.mapUpdate t (.map (some b)) key val).run P w=.ok () w'/\bL w' P k b (n+1) (fC f l (some val))/\w.mapTurned w' b:=by
 obtain ⟨D,h,hf⟩:=h
 have hm:=h.isMap
 have hl:=K.key hkey
 obtain ⟨w',hrun,h1,h2⟩:=h.store K ht hn hkey (val:=val) (d:=.held val) (ps:=[]) rfl
 refine ⟨w',hrun,⟨_,h1,fun m=>?_⟩,h2⟩
 unfold fC
 split
 · next he=>subst he;unfold fK;rw [has_put_same hm hl,atKey_put_same hm hl];rfl
 · next he=>rw [<-hf];unfold fK;rw [has_put_other he,atKey_put_other he]
theorem bL.drop {key:Value} {l:Lit} (h:bL w P k b n f) (K:Keyed P k) (ht:P.underlying t=some (.map k e)) (hkey:keyOf P k key=some l) (ty:TypeId):
    ∃w',(Builtin.delete_ #[t,k] ty #[.map (some b),key]).run P w=.ok (.tuple #[]) w'/\bL w' P k b n (fC f l none)/\w.mapTurned w' b:=by
 obtain ⟨D,h,hf⟩:=h
 obtain ⟨w',hrun,h1,h2⟩:=h.drop K ht hkey ty
 refine ⟨w',hrun,⟨_,h1,fun m=>?_⟩,h2⟩
 unfold fC
 split
 · next he=>subst he;unfold fK;rw [has_del_same];rfl
 · next he=>rw [<-hf];unfold fK;rw [has_del_other he,atKey_del_other he]
end
theorem aj.dm {w w':World} {b:Nat} (h:w.mapTurned w' b):aj (fun j=>j=b) w w':=(aj.of_grownBy h.grown).mono fun _ hj=> .inl (Option.some.inj hj)
end
section
open Go.RowKit Go.Maps Go.ChangeMaps Go.MapKept Go.WideShapes
open Go.WideElems (Fit rd rg pl rd_key rd_val rg_of other_key rd_mk)
section
variable {w:World} {P:Program} {k e t:TypeId} {b n r cnt:Nat} {f:Lit->Option Value} {left:Lit->Bool}
def Eu (w:World) (P:Program) (k:TypeId) (b r n:Nat) (f:Lit->Option Value) (left:Lit->Bool) (cnt:Nat):Prop:=∃D,w.ranges P k raw b r n D left cnt/\∀l,fK D l=f l
end
end
end Go.Proofs.YtbnofojapimfcaaGreatDoor
